/- Walks: integer.DivMod by a positive number. -/
import Derived.Test.YtechjiiijiipdaaDoorW11
import Derived.Test.YtechjiiijiipdaaDoorHead
namespace Go.Proofs.YtechjiiijiipdaaDoor
open Go.RowKit
set_option linter.unusedSimpArgs false
set_option linter.unusedVariables false

theorem size_alloc' (w : World) (o : Obj) : (w.alloc o).heap.size = w.heap.size + 1 := by simp
theorem size_drew' (w : World) : w.drew.heap.size = w.heap.size := rfl
theorem Box.set {b : World} {r s i : Nat} {v : Value} (hv : noU v = true) (h : Box b r) : Box (b.setCell ⟨s, i, none⟩ v) r := by
  have hb := But.start1 h
  by_cases e : s = r
  · subst e
    obtain ⟨cs, t, cs', h1, h2, h3, h4⟩ := (hb.set (r := s) i v hv (by simp)).own s (by simp)
    refine ⟨cs', t, h2, List.all_eq_true.2 fun x hx => ?_⟩
    obtain ⟨k, hk⟩ := Array.getElem?_of_mem (Array.mem_toList_iff.1 hx)
    exact h4 k x hk
  · obtain ⟨cs, t, h1, h2⟩ := h
    exact ⟨cs, t, by simp [World.setCell, Array.getElem?_modify, h1, e], h2⟩
theorem IsInt.box {n r i : Nat} {b : World} {u v : Value} {z : Int} (hb : Box b r) (h : IsInt n b v z) : IsInt n (b.setCell ⟨r, i, none⟩ u) v z :=
  h.but (But.start1 hb) (by simp)
theorem heap_new {w : World} {o : Obj} {k : Nat} (h : k = w.heap.size) : (w.alloc o).heap[k]? = some o := by
  subst h; exact heap_alloc_new w o
theorem size_set' (w : World) (a : Addr) (v : Value) : (w.setCell a v).heap.size = w.heap.size := by simp [World.setCell]
/-- A block of our own. -/
theorem boxtI {b : World} {r : Nat} (h : Box b r := by first
    | (focus ((with_reducible refine Box.set ?_ ?_); rfl; exact boxtI))
    | (focus (apply Box.mk; (with_reducible assumption); rfl))) : Box b r := h
theorem IsInt.al {n : Nat} {w : World} {o : Obj} {v : Value} {z : Int} (h : IsInt n w v z) : IsInt n (w.alloc o) v z := h.ext ((Ext.rfl' w).alloc' o)
theorem IsInt.dr {n : Nat} {w : World} {v : Value} {z : Int} (h : IsInt n w v z) : IsInt n w.drew v z := h.ext (Ext.rfl' w).drew'
theorem inttI {n : Nat} {w : World} {v : Value} {z : Int} (h : IsInt n w v z := by first
    | ((with_reducible refine IsInt.al ?_); exact inttI)
    | (focus ((with_reducible refine IsInt.box ?_ ?_); exact boxtI; exact inttI))
    | (with_reducible assumption)
    | exact IsInt.ext (by assumption) (by exact exttI)) : IsInt n w v z := h
theorem heap_al {w : World} {o x : Obj} {k : Nat} (h : w.heap[k]? = some x) : (w.alloc o).heap[k]? = some x := ((Ext.rfl' w).alloc' o).blk h
theorem heaptI {w : World} {k : Nat} {x : Obj} (h : w.heap[k]? = some x := by first
    | (with_reducible assumption)
    | (focus ((with_reducible apply heap_new); simp only [size_alloc', size_drew', size_set']; done))
    | (focus ((with_reducible apply put2_self); first | (with_reducible assumption) | (focus ((with_reducible apply put2_far); (with_reducible assumption); omega))))
    | (focus ((with_reducible apply put2_far); rotate_left; omega; (with_reducible apply put2_self); (with_reducible assumption)))
    | (focus ((with_reducible refine heap_al ?_); exact heaptI))) : w.heap[k]? = some x := h
theorem dm_pos (X Y : Nat) : (X : Int) / (Y : Int) = ((X / Y : Nat) : Int) ∧ (X : Int) % (Y : Int) = ((X % Y : Nat) : Int) := ⟨rfl, rfl⟩
theorem dm_neg0 {X Y : Nat} (hY : 0 < Y) (h : X % Y = 0) : -(X : Int) / (Y : Int) = -((X / Y : Nat) : Int) ∧ -(X : Int) % (Y : Int) = 0 := by
  have e := Nat.div_add_mod X Y
  have := (Int.ediv_emod_unique (a := -(X : Int)) (b := (Y : Int)) (r := 0) (q := -((X / Y : Nat) : Int)) (by omega)).2 ⟨by
    rw [h] at e
    have e' : ((Y * (X / Y) : Nat) : Int) = (X : Int) := by omega
    rw [Int.natCast_mul] at e'
    rw [Int.mul_neg, e']; omega, by omega, by omega⟩
  exact this
theorem dm_neg1 {X Y : Nat} (hY : 0 < Y) (h : X % Y ≠ 0) : -(X : Int) / (Y : Int) = -((X / Y : Nat) : Int) - 1 ∧ -(X : Int) % (Y : Int) = -((X % Y : Nat) : Int) + (Y : Int) := by
  have e := Nat.div_add_mod X Y
  have hl := Nat.mod_lt X hY
  have := (Int.ediv_emod_unique (a := -(X : Int)) (b := (Y : Int)) (r := -((X % Y : Nat) : Int) + (Y : Int)) (q := -((X / Y : Nat) : Int) - 1) (by omega)).2 ⟨by
    have e' : ((Y * (X / Y) : Nat) : Int) = (X : Int) - ((X % Y : Nat) : Int) := by omega
    rw [Int.natCast_mul] at e'
    rw [Int.mul_sub, Int.mul_neg, e']; omega, by omega, by omega⟩
  exact this
theorem abs_ediv_le (a b : Int) (hb : 0 < b) : (a / b).natAbs ≤ a.natAbs := by
  have h1 := Int.ediv_mul_le a (show b ≠ 0 by omega)
  have h2 := Int.lt_ediv_add_one_mul_self a hb
  rcases Int.lt_or_le a 0 with h | h
  · have h3 : a / b < 0 := Int.ediv_neg_of_neg_of_pos h hb
    have h4 : a ≤ a / b := by
      rcases Int.lt_or_le (a / b) a with h5 | h5
      · have h6 : a / b + 1 ≤ a := h5
        have h7 : (a / b + 1) * b ≤ (a / b + 1) * 1 := Int.mul_le_mul_of_nonpos_left (by omega) (by omega)
        omega
      · exact h5
    omega
  · have h3 : 0 ≤ a / b := Int.ediv_nonneg h (by omega)
    have h4 : a / b ≤ a := Int.ediv_le_self b h
    omega
theorem box4 (w : World) (a b c d : Obj) : ∃ w3 p q r s, (((w.alloc a).alloc b).alloc c).alloc d = w3 ∧ w.heap.size + 1 + 1 + 1 = s ∧ w.heap.size + 1 + 1 = r ∧ w.heap.size + 1 = q ∧ w.heap.size = p ∧ w3.heap[p]? = some a ∧ w3.heap[q]? = some b ∧ w3.heap[r]? = some c ∧ w3.heap[s]? = some d ∧ p ≠ q ∧ p ≠ r ∧ p ≠ s ∧ q ≠ r ∧ q ≠ s ∧ r ≠ s ∧ Ext w w3 := by
  obtain ⟨w2, p, q, r, rfl, rfl, rfl, rfl, h1, h2, h3, _, _, _, hE⟩ := box3 w a b c
  refine ⟨_, _, _, _, _, rfl, rfl, rfl, rfl, rfl, ?_, ?_, ?_, ?_, by omega, by omega, by omega, by omega, by omega, by omega, hE.alloc' d⟩
  · exact ((Ext.rfl' _).alloc' d).blk h1
  · exact ((Ext.rfl' _).alloc' d).blk h2
  · exact ((Ext.rfl' _).alloc' d).blk h3
  · have := heap_alloc_new (((w.alloc a).alloc b).alloc c) d
    simpa using this

attribute [local irreducible] IsInt U32s Dig Norm Own
set_option maxRecDepth 100000 in
set_option maxHeartbeats 4000000 in
theorem integer_DivMod (n m : Nat) (w : World) (va vb : Value) (a b : Int) (ha : IsInt n w va a) (hb : IsInt m w vb b) (hn : n < 300000) (hm : m < 300000) (hp : 0 < b) :
    Calls Tryd.prog 75 #[va, vb] w fun e w' => ∃ v1 v2, e = .returned (.tuple #[v1, v2, .int .i64 0]) ∧ IsInt n w' v1 (a / b) ∧ IsInt m w' v2 (a % b) ∧ Ext w w' := by
  obtain ⟨na, aa, la, ca, rfl, ua, da, nna, lna, sa, qa, _⟩ := IsInt.shape ha; have ea := Lib.hid qa; clear qa
  obtain ⟨nb, ab, lb, cb, rfl, ub, db, nnb, lnb, sb, qb, _⟩ := IsInt.shape hb; have eb := Lib.hid qb; clear qb
  obtain rfl : nb = false := by
    cases nb with
    | false => rfl
    | true =>
      have := eb.out
      simp [sgn] at this
      try omega
  have pb : 0 < val lb := by have := eb.out; simp [sgn] at this; omega
  have l0 : 0 < (lb.length : Int) := by
    rcases lb with _ | ⟨x, l⟩
    · simp [val] at pb
    · simp
  have l1 : ¬ ((lb.length : Int) = 0) := by omega
  go_enter Tryd.func75, Tryd.ntmps75
  go_wp2_with (first | fail)
  obtain ⟨w3, p, q, r, s, e1, e2, e3, e4, e5, h1, h2, h3, h4, hpq, hpr, hps, hqr, hqs, hrs, hE⟩ := box4 w (.cells #[.bool na, .slice aa la.length ca] 36) (.cells #[.bool false, .slice ab lb.length cb] 36) (.cells #[.bool false, .slice none 0 0] 36) (.cells #[.bool false, .slice none 0 0] 36)
  rw [e1, e2, e3, e4, e5]
  have hge : ∀ k, k ∈ [r, s] → w.heap.size ≤ k := by simp; omega
  clear e1 e2 e3 e4 e5
  have Rp0 := rulesB (rs := []) h1 (by simp) 0 _ rfl
  have Rp1 := rulesB (rs := []) h1 (by simp) 1 _ rfl
  have Rq0 := rulesB (rs := []) h2 (by simp) 0 _ rfl
  have Rq1 := rulesB (rs := []) h2 (by simp) 1 _ rfl
  have hB0 := But.start0 w3
  (go_at_call 73; refine (integer_divide _ _ _ la lb (ua.ext (by exact exttI)) (ub.ext (by exact exttI)) da db (by omega) (by omega) pb).mono ?_; rintro e w4 ⟨vx, vy, x, y, rfl, ux, uy, dx, dy, yx, yy, zx, zy, hEx⟩; have ex := Lib.hid yx; clear yx; have ey := Lib.hid yy; clear yy)
  go_upto_region 4 with (fail)
  go_cut [9, 10] (fun p9 p10 w' => ∃ g h, p9 = .pointer (some ⟨g, 0, none⟩) ∧ p10 = .pointer (some ⟨h, 0, none⟩) ∧ g ≠ h ∧ w3.heap.size ≤ g ∧ w3.heap.size ≤ h ∧ But [] w3 w' ∧
    ∃ (nu : Bool) (au : Option Addr) (lu : List Nat) (cu : Nat) (nv : Bool) (av : Option Addr) (lv : List Nat) (cv : Nat), IsInt x.length w' (.agg #[.bool nu, .slice au lu.length cu]) (sgn na (val x)) ∧ IsInt y.length w' (.agg #[.bool nv, .slice av lv.length cv]) (sgn na (val y)) ∧
      Norm lv ∧ (nv = true → lv ≠ []) ∧ Hid (sgn na (val y) = sgn nv (val lv)) ∧
      w'.heap[g]? = some (.cells #[.bool nu, .slice au lu.length cu] 36 (0, 0)) ∧ w'.heap[h]? = some (.cells #[.bool nv, .slice av lv.length cv] 36 (0, 0)))
  case first =>
    have zxs := hEx.size
    go_region_held3 (fun w' => But [] w3 w') (exact buttI) (first | ((go_at_call 53; refine (integer_signed _ _ _ _ (by exact (ux.ext (by exact exttI))) (by exact dx)).mono ?_; rintro e w5 ⟨vu, rfl, hu, hEu⟩; obtain ⟨nu, au, lu, cu, rfl, uu, du, nnu, lnu, su, qu, _⟩ := IsInt.shape hu; have eu := Lib.hid qu; clear qu); (try (have zu1 := Ext.blk hEu (heap_alloc_new _ _))); (try (first | (have zu2 := Ext.blk (Ext.trans' ((Ext.rfl' _).alloc' _) hEu) (heap_alloc_new _ _)) | (have zu2 := Ext.blk (Ext.trans' ((Ext.rfl' _).alloc' _).drew' hEu) (heap_alloc_new _ _)))); (try simp only [size_alloc', size_drew'] at zu1); (try simp only [size_alloc', size_drew'] at zu2); (have zus := hEu.size); (try simp only [size_alloc', size_drew'] at zus); (try (obtain ⟨Czu10, Gzu10⟩ := cell_of zu1 0 _ rfl)); (try (obtain ⟨Czu11, Gzu11⟩ := cell_of zu1 1 _ rfl)); (try (obtain ⟨Czu20, Gzu20⟩ := cell_of zu2 0 _ rfl)); (try (obtain ⟨Czu21, Gzu21⟩ := cell_of zu2 1 _ rfl)); (try (have l1w4w5 : w4.heap.size < w5.heap.size := by omega)); (try (have l2w4w5 : w4.heap.size + 1 < w5.heap.size := by omega)); (try (have l3w4w5 : w4.heap.size ≠ w5.heap.size := by omega)); (try (have l4w4w5 : w4.heap.size + 1 ≠ w5.heap.size := by omega)); (try (have l5w4w5 : w5.heap.size ≠ w4.heap.size := by omega)); (try (have l6w4w5 : w5.heap.size ≠ w4.heap.size + 1 := by omega))) | ((go_at_call 53; refine (integer_signed _ _ _ _ (by exact (uy.ext (by exact exttI))) (by exact dy)).mono ?_; rintro e w6 ⟨vv, rfl, hv, hEv⟩; obtain ⟨nv, av, lv, cv, rfl, uv, dv, nnv, lnv, sv, qv, _⟩ := IsInt.shape hv; have ev := Lib.hid qv; clear qv); (try (have zv1 := Ext.blk hEv (heap_alloc_new _ _))); (try (first | (have zv2 := Ext.blk (Ext.trans' ((Ext.rfl' _).alloc' _) hEv) (heap_alloc_new _ _)) | (have zv2 := Ext.blk (Ext.trans' ((Ext.rfl' _).alloc' _).drew' hEv) (heap_alloc_new _ _)))); (try simp only [size_alloc', size_drew'] at zv1); (try simp only [size_alloc', size_drew'] at zv2); (have zvs := hEv.size); (try simp only [size_alloc', size_drew'] at zvs); (try (obtain ⟨Czv10, Gzv10⟩ := cell_of zv1 0 _ rfl)); (try (obtain ⟨Czv11, Gzv11⟩ := cell_of zv1 1 _ rfl)); (try (obtain ⟨Czv20, Gzv20⟩ := cell_of zv2 0 _ rfl)); (try (obtain ⟨Czv21, Gzv21⟩ := cell_of zv2 1 _ rfl)); (try (have zv3 := Ext.blk (Ext.trans' (by exact exttI) hEv) zu1)); (try (have zv4 := Ext.blk (Ext.trans' (by exact exttI) hEv) zu2)); (try (obtain ⟨Czv30, Gzv30⟩ := cell_of zv3 0 _ rfl)); (try (obtain ⟨Czv31, Gzv31⟩ := cell_of zv3 1 _ rfl)); (try (obtain ⟨Czv40, Gzv40⟩ := cell_of zv4 0 _ rfl)); (try (obtain ⟨Czv41, Gzv41⟩ := cell_of zv4 1 _ rfl)); (try (have l1w4w6 : w4.heap.size < w6.heap.size := by omega)); (try (have l2w4w6 : w4.heap.size + 1 < w6.heap.size := by omega)); (try (have l3w4w6 : w4.heap.size ≠ w6.heap.size := by omega)); (try (have l4w4w6 : w4.heap.size + 1 ≠ w6.heap.size := by omega)); (try (have l5w4w6 : w6.heap.size ≠ w4.heap.size := by omega)); (try (have l6w4w6 : w6.heap.size ≠ w4.heap.size + 1 := by omega)); (try (have l1w5w6 : w5.heap.size < w6.heap.size := by omega)); (try (have l2w5w6 : w5.heap.size + 1 < w6.heap.size := by omega)); (try (have l3w5w6 : w5.heap.size ≠ w6.heap.size := by omega)); (try (have l4w5w6 : w5.heap.size + 1 ≠ w6.heap.size := by omega)); (try (have l5w5w6 : w6.heap.size ≠ w5.heap.size := by omega)); (try (have l6w5w6 : w6.heap.size ≠ w5.heap.size + 1 := by omega))))
    all_goals (go_wp2_with fail; go_meet)
    all_goals exact ⟨_, _, rfl, rfl, by omega, by omega, by omega, by exact buttI, nu, au, lu, cu, nv, av, lv, cv, by exact inttI, by exact inttI, nnv, sv, ev, by exact heaptI, by exact heaptI⟩
  case rest =>
    obtain ⟨g, h, rfl, rfl, hgh, hg3, hh3, hBc, nu, au, lu, cu, nv, av, lv, cv, hu, hv, nnv, sv, ev, kg, kh⟩ := hcut
    have hEc := hBc.none
    clear Rp0 Rp1 Rq0 Rq1
    have lt1 := (Array.getElem?_eq_some_iff.1 h1).1
    have lt2 := (Array.getElem?_eq_some_iff.1 h2).1
    have lt3 := (Array.getElem?_eq_some_iff.1 h3).1
    have lt4 := (Array.getElem?_eq_some_iff.1 h4).1
    have szw := hE.size
    replace h2 := hEc.blk h2
    replace h3 := hEc.blk h3
    replace h4 := hEc.blk h4
    replace hE := hE.trans' hEc
    have n1 : q ≠ g := by omega
    have n2 : q ≠ h := by omega
    have n3 : r ≠ g := by omega
    have n4 : r ≠ h := by omega
    have n5 : s ≠ g := by omega
    have n6 : s ≠ h := by omega
    have ea0 := ea.out
    have eb0 : b = (val lb : Int) := by rw [eb.out]; simp [sgn]
    have hbx1 : Box wc r := Box.mk h3 rfl
    have hbx2 : Box wc s := Box.mk h4 rfl
    obtain ⟨Cg0, Gg0⟩ := cell_of kg 0 _ rfl
    obtain ⟨Cg1, Gg1⟩ := cell_of kg 1 _ rfl
    obtain ⟨Ch0, Gh0⟩ := cell_of kh 0 _ rfl
    obtain ⟨Ch1, Gh1⟩ := cell_of kh 1 _ rfl
    obtain ⟨Cq0, Gq0⟩ := cell_of h2 0 _ rfl
    obtain ⟨Cq1, Gq1⟩ := cell_of h2 1 _ rfl
    have aq : (a / b).natAbs ≤ a.natAbs := abs_ediv_le a b hp
    have ar : (a % b).natAbs ≤ b.natAbs := by
      have := Int.emod_nonneg a (show b ≠ 0 by omega)
      have := Int.emod_lt_of_pos a hp
      omega
    by_cases hy : val y = 0
    · have elv : lv = [] ∧ nv = false := by
        have h := ev.out
        rw [hy] at h
        rcases lv with _ | ⟨d, l⟩
        · refine ⟨rfl, ?_⟩
          cases nv with
          | false => rfl
          | true => exact absurd rfl (sv rfl)
        · have hpos := nnv.pos (by simp)
          exfalso
          revert h
          cases na <;> cases nv <;> simp [sgn] <;> omega
      obtain ⟨rfl, rfl⟩ := elv
      have hq : IsInt n wc (.agg #[.bool nu, .slice au lu.length cu]) (a / b) := by
        refine IsInt.of_le (hu.cast ?_) ha aq
        rw [ex.out, ea0, eb0]
        have hm : val la % val lb = 0 := by rw [← ey.out]; exact hy
        cases na
        · simp [sgn]
        · simp only [sgn, if_true]; exact (dm_neg0 pb hm).1.symm
      have hr : IsInt m wc (.agg #[.bool false, .slice av 0 cv]) (a % b) := by
        refine IsInt.of_le (hv.cast ?_) hb ar
        rw [hy, ea0, eb0]
        have hm : val la % val lb = 0 := by rw [← ey.out]; exact hy
        cases na
        · simp [sgn]; omega
        · simp only [sgn, if_true]; rw [(dm_neg0 pb hm).2]; rfl
      have hyh := Lib.hid hy
      clear hy ea0 eb0
      go_wp2_with (first | fail)
      have hbxr : Box _ r := Box.mk h3 rfl
      obtain ⟨Rr0, Fr0⟩ := rulesR (rs := [r, s]) h3 (by simp) 0 (by simp)
      obtain ⟨Rr1, Fr1⟩ := rulesR (rs := [r, s]) h3 (by simp) 1 (by simp)
      have hbxs : Box _ s := Box.mk h4 rfl
      obtain ⟨Rs0, Fs0⟩ := rulesR (rs := [r, s]) h4 (by simp) 0 (by simp)
      obtain ⟨Rs1, Fs1⟩ := rulesR (rs := [r, s]) h4 (by simp) 1 (by simp)
      have Rg0 := rulesB (rs := [r, s]) kg (by simp; omega) 0 _ rfl
      have Rg1 := rulesB (rs := [r, s]) kg (by simp; omega) 1 _ rfl
      have Rh0 := rulesB (rs := [r, s]) kh (by simp; omega) 0 _ rfl
      have Rh1 := rulesB (rs := [r, s]) kh (by simp; omega) 1 _ rfl
      have hB : But [r, s] wc wc := by exact buttI
      go_region_held3 (fun w' => But [r, s] wc w') (exact buttI) (first | fail)
      go_wp2
      have hW : But [r, s] wc ((((World.setCell wc ⟨r, 0, none⟩ (.bool nu)).setCell ⟨r, 1, none⟩ (.slice au lu.length cu)).setCell ⟨s, 0, none⟩ (.bool false)).setCell ⟨s, 1, none⟩ (.slice av 0 cv)) := by exact buttI
      have hB2 : But [r, s] wc ((World.setCell wc ⟨r, 0, none⟩ (.bool nu)).setCell ⟨r, 1, none⟩ (.slice au lu.length cu)) := by exact buttI
      exact bodyPost_ret (v := .tuple #[.agg #[.bool nu, .slice au lu.length cu], .agg #[.bool false, .slice av 0 cv], .int .i64 0]) (by simp [results, Tryd.results75, go_sem, Rr0 _ hB, Rr1 _ hB, Rs0 _ hB, Rs1 _ hB, hrs, Ne.symm hrs]) rfl ⟨_, _, rfl, IsInt.dr (IsInt.put (IsInt.put hq hB (by simp) rfl) hB2 (by simp) rfl), IsInt.dr (IsInt.put (IsInt.put hr hB (by simp) rfl) hB2 (by simp) rfl), hW.dr.old hE hge⟩
    · have elv : lv ≠ [] ∧ nv = na := by
        have h := ev.out
        rcases lv with _ | ⟨d, l⟩
        · exfalso
          revert h
          simp only [val_nil]
          cases na <;> cases nv <;> simp [sgn] <;> omega
        · refine ⟨by simp, ?_⟩
          have hpos := nnv.pos (by simp)
          revert h
          cases na <;> cases nv <;> simp [sgn] <;> omega
      obtain ⟨elv, rfl⟩ := elv
      have l2 : 0 < (lv.length : Int) := by have := List.length_pos_iff.2 elv; omega
      have l3 : 0 < lv.length := List.length_pos_iff.2 elv
      cases nv
      · have hq : IsInt n wc (.agg #[.bool nu, .slice au lu.length cu]) (a / b) := by
          refine IsInt.of_le (hu.cast ?_) ha aq
          rw [ex.out, ea0, eb0]
          simp [sgn]
        have hr : IsInt m wc (.agg #[.bool false, .slice av lv.length cv]) (a % b) := by
          refine IsInt.of_le (hv.cast ?_) hb ar
          rw [ey.out, ea0, eb0]
          simp [sgn]
        have hyh := Lib.hid hy
        clear hy ea0 eb0
        go_wp2_with (first | fail)
        have hbxr : Box _ r := Box.mk h3 rfl
        obtain ⟨Rr0, Fr0⟩ := rulesR (rs := [r, s]) h3 (by simp) 0 (by simp)
        obtain ⟨Rr1, Fr1⟩ := rulesR (rs := [r, s]) h3 (by simp) 1 (by simp)
        have hbxs : Box _ s := Box.mk h4 rfl
        obtain ⟨Rs0, Fs0⟩ := rulesR (rs := [r, s]) h4 (by simp) 0 (by simp)
        obtain ⟨Rs1, Fs1⟩ := rulesR (rs := [r, s]) h4 (by simp) 1 (by simp)
        have Rg0 := rulesB (rs := [r, s]) kg (by simp; omega) 0 _ rfl
        have Rg1 := rulesB (rs := [r, s]) kg (by simp; omega) 1 _ rfl
        have Rh0 := rulesB (rs := [r, s]) kh (by simp; omega) 0 _ rfl
        have Rh1 := rulesB (rs := [r, s]) kh (by simp; omega) 1 _ rfl
        have hB : But [r, s] wc wc := by exact buttI
        go_region_held3 (fun w' => But [r, s] wc w') (exact buttI) (first | fail)
        go_wp2
        have hW : But [r, s] wc ((((World.setCell wc ⟨r, 0, none⟩ (.bool nu)).setCell ⟨r, 1, none⟩ (.slice au lu.length cu)).setCell ⟨s, 0, none⟩ (.bool false)).setCell ⟨s, 1, none⟩ (.slice av lv.length cv)) := by exact buttI
        have hB2 : But [r, s] wc ((World.setCell wc ⟨r, 0, none⟩ (.bool nu)).setCell ⟨r, 1, none⟩ (.slice au lu.length cu)) := by exact buttI
        exact bodyPost_ret (v := .tuple #[.agg #[.bool nu, .slice au lu.length cu], .agg #[.bool false, .slice av lv.length cv], .int .i64 0]) (by simp [results, Tryd.results75, go_sem, Rr0 _ hB, Rr1 _ hB, Rs0 _ hB, Rs1 _ hB, hrs, Ne.symm hrs]) rfl ⟨_, _, rfl, IsInt.dr (IsInt.put (IsInt.put hq hB (by simp) rfl) hB2 (by simp) rfl), IsInt.dr (IsInt.put (IsInt.put hr hB (by simp) rfl) hB2 (by simp) rfl), hW.dr.old hE hge⟩
      · have hyh := Lib.hid hy
        have ea1 := Lib.hid ea0
        have eb1 := Lib.hid eb0
        clear hy ea0 eb0
        go_upto_region 6 with (fail)
        have hbc : IsInt m wc (.agg #[.bool false, .slice ab lb.length cb]) b := hb.ext hE
        have Bg : Box wc g := Box.mk kg rfl
        have Bh : Box wc h := Box.mk kh rfl
        go_cut [9, 10] (fun p9 p10 w' => p9 = .pointer (some ⟨g, 0, none⟩) ∧ p10 = .pointer (some ⟨h, 0, none⟩) ∧ But [g, h] wc w' ∧
          ∃ (n1 : Bool) (a1 : Option Addr) (l1 : List Nat) (c1 : Nat) (n2 : Bool) (a2 : Option Addr) (l2 : List Nat) (c2 : Nat), IsInt (max x.length 3 + 1) w' (.agg #[.bool n1, .slice a1 l1.length c1]) (sgn true (val x) - 1) ∧ IsInt (max y.length m + 1) w' (.agg #[.bool n2, .slice a2 l2.length c2]) (sgn true (val y) + b) ∧
            w'.heap[g]? = some (.cells #[.bool n1, .slice a1 l1.length c1] 36 (0, 0)) ∧ w'.heap[h]? = some (.cells #[.bool n2, .slice a2 l2.length c2] 36 (0, 0)))
        case first =>
          clear Cg0 Gg0 Cg1 Gg1 Ch0 Gh0 Ch1 Gh1
          obtain ⟨Rg0, Fg0⟩ := rules kg 0 _ rfl
          obtain ⟨Rg1, Fg1⟩ := rules kg 1 _ rfl
          obtain ⟨Rh0, Fh0⟩ := rules kh 0 _ rfl
          obtain ⟨Rh1, Fh1⟩ := rules kh 1 _ rfl
          have Rq0 := (rules h2 0 _ rfl).1
          have Rq1 := (rules h2 1 _ rfl).1
          have hX := (Ext.rfl' wc).drew'
          (refine wp_region_noPanic ?_; refine wp_region_head 6 (fun w' => Ext wc w') (by kernel_rfl) (by kernel_rfl) ?_ (fun hHeld => ?_); (focus (show Ext _ _; exact exttI)); (try simp only [List.size_toArray, List.length_cons, List.length_nil]))
          (refine wpHead_take 0 (by kernel_rfl) (fun _ _ _ _ _ h => h) (by assumption) ?_; simp only [atOp]; refine ⟨by rfl, ?_, ?_, ?_⟩; rotate_left; (focus (intro w' hSw; (try dsimp only at hSw); go_simp; (try with_reducible rfl))); (try simp only [Act.put, List.setIfInBounds_toArray, List.set_cons_zero, List.set_cons_succ]))
          (refine wpHead_take 3 (by kernel_rfl) (fun _ _ _ _ _ h => h) (by assumption) ?_; simp only [atOp]; refine ⟨by rfl, ?_, ?_, ?_⟩; rotate_left; (focus (intro w' hSw; (try dsimp only at hSw); go_simp; (try with_reducible rfl))); (try simp only [Act.put, List.setIfInBounds_toArray, List.set_cons_zero, List.set_cons_succ]))
          (refine wpHead_take 4 (by kernel_rfl) (fun _ _ _ _ _ h => h) (by assumption) ?_; simp only [atOp]; refine ⟨by rfl, ?_, ?_, ?_⟩; rotate_left; (focus (intro w' hSw; (try dsimp only at hSw); go_simp; (try with_reducible rfl))); (try simp only [Act.put, List.setIfInBounds_toArray, List.set_cons_zero, List.set_cons_succ]))
          (refine wpHead_only 1 (by kernel_rfl) ?_; simp only [atOp]; intro K hK; go_simp; ((go_at_call 44; refine (integer_FromInt64 _ 1 (by omega) (by omega)).mono ?_; rintro e w5 ⟨vi, rfl, hi, hEi⟩; obtain ⟨ni, ai, li, ci, rfl, ui, di, nni, lni, si, qi, _⟩ := IsInt.shape hi; have ei := Lib.hid qi; clear qi); have hX5 := (show Ext wc w5 by exact exttI)); refine hK.out _ _ ?_ (fun hHeld => ?_); (focus (show Ext _ _; exact exttI)); clear hK K; (try simp only [Act.put, List.setIfInBounds_toArray, List.set_cons_zero, List.set_cons_succ]))
          (refine wpHead_only 2 (by kernel_rfl) ?_; simp only [atOp]; intro K hK; go_simp; ((go_at_call 88; refine (integer_Sub _ _ _ _ _ _ _ (hu.ext (by exact exttI)) (hi.ext (by exact exttI)) (by omega) (by omega)).mono ?_; rintro e w6 ⟨vj, rfl, hj, hEj⟩; obtain ⟨nj, aj, lj, cj, rfl, uj, dj, nnj, lnj, sj, qj, _⟩ := IsInt.shape hj; have ej := Lib.hid qj; clear qj); have hX6 := (show Ext wc w6 by exact exttI)); refine hK.out _ _ ?_ (fun hHeld => ?_); (focus (show Ext _ _; exact exttI)); clear hK K; (try simp only [Act.put, List.setIfInBounds_toArray, List.set_cons_zero, List.set_cons_succ]))
          (refine wpHead_only 5 (by kernel_rfl) ?_; simp only [atOp]; intro K hK; go_simp; ((go_at_call 89; refine (integer_Add _ _ _ _ _ _ _ (hv.ext (by exact exttI)) (hbc.ext (by exact exttI)) (by omega) (by omega)).mono ?_; rintro e w7 ⟨vk, rfl, hk, hEk⟩; obtain ⟨nk, ak, lk, ck, rfl, uk, dk, nnk, lnk, sk, qk, _⟩ := IsInt.shape hk; have ek := Lib.hid qk; clear qk); have hX7 := (show Ext wc w7 by exact exttI)); refine hK.out _ _ ?_ (fun hHeld => ?_); (focus (show Ext _ _; exact exttI)); clear hK K; (try simp only [Act.put, List.setIfInBounds_toArray, List.set_cons_zero, List.set_cons_succ]))
          (refine wpHead_done (by kernel_rfl) ?_; simp only [List.drop_succ_cons, List.drop_zero])
          have kg7 := hX7.blk kg
          have kh7 := hX7.blk kh
          obtain ⟨Cg0, Gg0⟩ := cell_of kg7 0 _ rfl
          obtain ⟨Cg1, Gg1⟩ := cell_of kg7 1 _ rfl
          obtain ⟨Ch0, Gh0⟩ := cell_of kh7 0 _ rfl
          obtain ⟨Ch1, Gh1⟩ := cell_of kh7 1 _ rfl
          go_wp2_with fail
          refine NoPanic.normal ?_
          go_wp2_with fail
          go_meet
          exact ⟨rfl, rfl, by exact buttI, nj, aj, lj, cj, nk, ak, lk, ck, by exact inttI, by exact inttI, by exact heaptI, by exact heaptI⟩
        case rest =>
          obtain ⟨rfl, rfl, hBd, nz1, az1, lz1, cz1, nz2, az2, lz2, cz2, hi1, hi2, kg', kh'⟩ := hcut
          have hEd : Ext w wc := hBd.old hE (by simp; omega)
          have h3 := (hBd.block r (Array.getElem?_eq_some_iff.1 h3).1 (by simp; omega)).trans h3
          have h4 := (hBd.block s (Array.getElem?_eq_some_iff.1 h4).1 (by simp; omega)).trans h4
          have ea0 := ea1.out
          have eb0 := eb1.out
          have hm : val la % val lb ≠ 0 := by rw [← ey.out]; exact hyh.out
          have hq : IsInt n wc (.agg #[.bool nz1, .slice az1 lz1.length cz1]) (a / b) := by
            refine IsInt.of_le (hi1.cast ?_) ha aq
            rw [ex.out, ea0, eb0]
            simp only [sgn, if_true]
            exact (dm_neg1 pb hm).1.symm
          have hr : IsInt m wc (.agg #[.bool nz2, .slice az2 lz2.length cz2]) (a % b) := by
            refine IsInt.of_le (hi2.cast ?_) hb ar
            rw [ey.out, ea0, eb0]
            simp only [sgn, if_true]
            exact (dm_neg1 pb hm).2.symm
          clear ea0 eb0 hm
          replace hE := hEd
          replace kg := kg'
          replace kh := kh'
          clear Cg0 Gg0 Cg1 Gg1 Ch0 Gh0 Ch1 Gh1
          have hbx1 : Box wc r := Box.mk h3 rfl
          have hbx2 : Box wc s := Box.mk h4 rfl
          go_wp2_with (first | fail)
          have hbxr : Box _ r := Box.mk h3 rfl
          obtain ⟨Rr0, Fr0⟩ := rulesR (rs := [r, s]) h3 (by simp) 0 (by simp)
          obtain ⟨Rr1, Fr1⟩ := rulesR (rs := [r, s]) h3 (by simp) 1 (by simp)
          have hbxs : Box _ s := Box.mk h4 rfl
          obtain ⟨Rs0, Fs0⟩ := rulesR (rs := [r, s]) h4 (by simp) 0 (by simp)
          obtain ⟨Rs1, Fs1⟩ := rulesR (rs := [r, s]) h4 (by simp) 1 (by simp)
          have Rg0 := rulesB (rs := [r, s]) kg (by simp; omega) 0 _ rfl
          have Rg1 := rulesB (rs := [r, s]) kg (by simp; omega) 1 _ rfl
          have Rh0 := rulesB (rs := [r, s]) kh (by simp; omega) 0 _ rfl
          have Rh1 := rulesB (rs := [r, s]) kh (by simp; omega) 1 _ rfl
          have hB : But [r, s] wc wc := by exact buttI
          go_region_held3 (fun w' => But [r, s] wc w') (exact buttI) (first | fail)
          go_wp2
          have hW : But [r, s] wc ((((World.setCell wc ⟨r, 0, none⟩ (.bool nz1)).setCell ⟨r, 1, none⟩ (.slice az1 lz1.length cz1)).setCell ⟨s, 0, none⟩ (.bool nz2)).setCell ⟨s, 1, none⟩ (.slice az2 lz2.length cz2)) := by exact buttI
          have hB2 : But [r, s] wc ((World.setCell wc ⟨r, 0, none⟩ (.bool nz1)).setCell ⟨r, 1, none⟩ (.slice az1 lz1.length cz1)) := by exact buttI
          exact bodyPost_ret (v := .tuple #[.agg #[.bool nz1, .slice az1 lz1.length cz1], .agg #[.bool nz2, .slice az2 lz2.length cz2], .int .i64 0]) (by simp [results, Tryd.results75, go_sem, Rr0 _ hB, Rr1 _ hB, Rs0 _ hB, Rs1 _ hB, hrs, Ne.symm hrs]) rfl ⟨_, _, rfl, IsInt.dr (IsInt.put (IsInt.put hq hB (by simp) rfl) hB2 (by simp) rfl), IsInt.dr (IsInt.put (IsInt.put hr hB (by simp) rfl) hB2 (by simp) rfl), hW.dr.old hE hge⟩
end Go.Proofs.YtechjiiijiipdaaDoor

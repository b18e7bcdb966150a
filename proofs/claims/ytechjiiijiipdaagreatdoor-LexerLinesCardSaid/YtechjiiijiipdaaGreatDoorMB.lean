/- Walks: integer.DivMod by a positive number. Walks: integer.GCD. Walks: rational.unit, exact. Walks: rational.reduce. Walks: rational.Make, whole, FromInt64, Mul. Contracts for functions of package strings: CutPrefix, Cut at a dot, Trim of digits, TrimLeft of zeros. Decimal digits: the number that they show. Walk: integer.Parse at decimal digits. Walks: decimal.plain, power. Walks: decimal.digits. Walk: decimal.Parse. The lexer's words: bytes, runs of bytes, numbers, tokens. Walks: lexer.letter, digit, inName, run, peek, number. Words for slices of tokens; walk: lexer.Tokens. Walk: lexer.Tokens. -/
import Derived.Test.YtechjiiijiipdaaGreatDoorMA
import Derived.Test.YtechjiiijiipdaaGreatDoorShelf
import Derived.Lib.Strings
import Derived.Lib.Slices
import Derived.Lib.Walk
import Derived.Laws.IdiomStrings
namespace Go.Proofs.YtechjiiijiipdaaGreatDoor
open Go.RowKit
set_option linter.unusedSimpArgs false
set_option linter.unusedVariables false

theorem size_alloc' (w : World) (o : Obj) : (w.alloc o).heap.size = w.heap.size + 1 := by simp
theorem size_drew' (w : World) : w.drew.heap.size = w.heap.size := rfl
theorem Box.set {b : World} {r s i : Nat} {v : Value} (hv : noU v = true) (h : Box b r) : Box (b.setCell ⟨s, i, none⟩ v) r := by
  have hb := But.start1 h
  by_cases e : s = r
  · subst e
    obtain ⟨cs, t, cs', h1, h2, h3, h4⟩ := (hb.set (r := s) i v hv (by simp)).own s (by simp)
    refine ⟨cs', t, h2, List.all_eq_true.2 fun x hx => ?_⟩
    obtain ⟨k, hk⟩ := Array.getElem?_of_mem (Array.mem_toList_iff.1 hx)
    exact h4 k x hk
  · obtain ⟨cs, t, h1, h2⟩ := h
    exact ⟨cs, t, by simp [World.setCell, Array.getElem?_modify, h1, e], h2⟩
theorem IsInt.box {n r i : Nat} {b : World} {u v : Value} {z : Int} (hb : Box b r) (h : IsInt n b v z) : IsInt n (b.setCell ⟨r, i, none⟩ u) v z :=
  h.but (But.start1 hb) (by simp)
theorem heap_new {w : World} {o : Obj} {k : Nat} (h : k = w.heap.size) : (w.alloc o).heap[k]? = some o := by
  subst h; exact heap_alloc_new w o
theorem size_set' (w : World) (a : Addr) (v : Value) : (w.setCell a v).heap.size = w.heap.size := by simp [World.setCell]
/-- A block of our own. -/
theorem boxtI {b : World} {r : Nat} (h : Box b r := by first
    | (focus ((with_reducible refine Box.set ?_ ?_); rfl; exact boxtI))
    | (focus (apply Box.mk; (with_reducible assumption); rfl))) : Box b r := h
theorem IsInt.al {n : Nat} {w : World} {o : Obj} {v : Value} {z : Int} (h : IsInt n w v z) : IsInt n (w.alloc o) v z := h.ext ((Ext.rfl' w).alloc' o)
theorem IsInt.dr {n : Nat} {w : World} {v : Value} {z : Int} (h : IsInt n w v z) : IsInt n w.drew v z := h.ext (Ext.rfl' w).drew'
theorem inttI {n : Nat} {w : World} {v : Value} {z : Int} (h : IsInt n w v z := by first
    | ((with_reducible refine IsInt.al ?_); exact inttI)
    | (focus ((with_reducible refine IsInt.box ?_ ?_); exact boxtI; exact inttI))
    | (with_reducible assumption)
    | exact IsInt.ext (by assumption) (by exact exttI)) : IsInt n w v z := h
theorem heap_al {w : World} {o x : Obj} {k : Nat} (h : w.heap[k]? = some x) : (w.alloc o).heap[k]? = some x := ((Ext.rfl' w).alloc' o).blk h
theorem heaptI {w : World} {k : Nat} {x : Obj} (h : w.heap[k]? = some x := by first
    | (with_reducible assumption)
    | (focus ((with_reducible apply heap_new); simp only [size_alloc', size_drew', size_set']; done))
    | (focus ((with_reducible apply put2_self); first | (with_reducible assumption) | (focus ((with_reducible apply put2_far); (with_reducible assumption); omega))))
    | (focus ((with_reducible apply put2_far); rotate_left; omega; (with_reducible apply put2_self); (with_reducible assumption)))
    | (focus ((with_reducible refine heap_al ?_); exact heaptI))) : w.heap[k]? = some x := h
theorem dm_pos (X Y : Nat) : (X : Int) / (Y : Int) = ((X / Y : Nat) : Int) ∧ (X : Int) % (Y : Int) = ((X % Y : Nat) : Int) := ⟨rfl, rfl⟩
theorem dm_neg0 {X Y : Nat} (hY : 0 < Y) (h : X % Y = 0) : -(X : Int) / (Y : Int) = -((X / Y : Nat) : Int) ∧ -(X : Int) % (Y : Int) = 0 := by
  have e := Nat.div_add_mod X Y
  have := (Int.ediv_emod_unique (a := -(X : Int)) (b := (Y : Int)) (r := 0) (q := -((X / Y : Nat) : Int)) (by omega)).2 ⟨by
    rw [h] at e
    have e' : ((Y * (X / Y) : Nat) : Int) = (X : Int) := by omega
    rw [Int.natCast_mul] at e'
    rw [Int.mul_neg, e']; omega, by omega, by omega⟩
  exact this
theorem dm_neg1 {X Y : Nat} (hY : 0 < Y) (h : X % Y ≠ 0) : -(X : Int) / (Y : Int) = -((X / Y : Nat) : Int) - 1 ∧ -(X : Int) % (Y : Int) = -((X % Y : Nat) : Int) + (Y : Int) := by
  have e := Nat.div_add_mod X Y
  have hl := Nat.mod_lt X hY
  have := (Int.ediv_emod_unique (a := -(X : Int)) (b := (Y : Int)) (r := -((X % Y : Nat) : Int) + (Y : Int)) (q := -((X / Y : Nat) : Int) - 1) (by omega)).2 ⟨by
    have e' : ((Y * (X / Y) : Nat) : Int) = (X : Int) - ((X % Y : Nat) : Int) := by omega
    rw [Int.natCast_mul] at e'
    rw [Int.mul_sub, Int.mul_neg, e']; omega, by omega, by omega⟩
  exact this
theorem abs_ediv_le (a b : Int) (hb : 0 < b) : (a / b).natAbs ≤ a.natAbs := by
  have h1 := Int.ediv_mul_le a (show b ≠ 0 by omega)
  have h2 := Int.lt_ediv_add_one_mul_self a hb
  rcases Int.lt_or_le a 0 with h | h
  · have h3 : a / b < 0 := Int.ediv_neg_of_neg_of_pos h hb
    have h4 : a ≤ a / b := by
      rcases Int.lt_or_le (a / b) a with h5 | h5
      · have h6 : a / b + 1 ≤ a := h5
        have h7 : (a / b + 1) * b ≤ (a / b + 1) * 1 := Int.mul_le_mul_of_nonpos_left (by omega) (by omega)
        omega
      · exact h5
    omega
  · have h3 : 0 ≤ a / b := Int.ediv_nonneg h (by omega)
    have h4 : a / b ≤ a := Int.ediv_le_self b h
    omega
theorem box4 (w : World) (a b c d : Obj) : ∃ w3 p q r s, (((w.alloc a).alloc b).alloc c).alloc d = w3 ∧ w.heap.size + 1 + 1 + 1 = s ∧ w.heap.size + 1 + 1 = r ∧ w.heap.size + 1 = q ∧ w.heap.size = p ∧ w3.heap[p]? = some a ∧ w3.heap[q]? = some b ∧ w3.heap[r]? = some c ∧ w3.heap[s]? = some d ∧ p ≠ q ∧ p ≠ r ∧ p ≠ s ∧ q ≠ r ∧ q ≠ s ∧ r ≠ s ∧ Ext w w3 := by
  obtain ⟨w2, p, q, r, rfl, rfl, rfl, rfl, h1, h2, h3, _, _, _, hE⟩ := box3 w a b c
  refine ⟨_, _, _, _, _, rfl, rfl, rfl, rfl, rfl, ?_, ?_, ?_, ?_, by omega, by omega, by omega, by omega, by omega, by omega, hE.alloc' d⟩
  · exact ((Ext.rfl' _).alloc' d).blk h1
  · exact ((Ext.rfl' _).alloc' d).blk h2
  · exact ((Ext.rfl' _).alloc' d).blk h3
  · have := heap_alloc_new (((w.alloc a).alloc b).alloc c) d
    simpa using this

attribute [local irreducible] IsInt U32s Dig Norm Own
set_option maxRecDepth 100000 in
set_option maxHeartbeats 4000000 in
theorem integer_DivMod (n m : Nat) (w : World) (va vb : Value) (a b : Int) (ha : IsInt n w va a) (hb : IsInt m w vb b) (hn : n < 300000) (hm : m < 300000) (hp : 0 < b) :
    Calls Tryz.prog 115 #[va, vb] w fun e w' => ∃ v1 v2, e = .returned (.tuple #[v1, v2, .int .i64 0]) ∧ IsInt n w' v1 (a / b) ∧ IsInt m w' v2 (a % b) ∧ Ext w w' := by
  obtain ⟨na, aa, la, ca, rfl, ua, da, nna, lna, sa, qa, _⟩ := IsInt.shape ha; have ea := Lib.hid qa; clear qa
  obtain ⟨nb, ab, lb, cb, rfl, ub, db, nnb, lnb, sb, qb, _⟩ := IsInt.shape hb; have eb := Lib.hid qb; clear qb
  obtain rfl : nb = false := by
    cases nb with
    | false => rfl
    | true =>
      have := eb.out
      simp [sgn] at this
      try omega
  have pb : 0 < val lb := by have := eb.out; simp [sgn] at this; omega
  have l0 : 0 < (lb.length : Int) := by
    rcases lb with _ | ⟨x, l⟩
    · simp [val] at pb
    · simp
  have l1 : ¬ ((lb.length : Int) = 0) := by omega
  go_enter Tryz.func115, Tryz.ntmps115
  go_wp2_with (first | fail)
  obtain ⟨w3, p, q, r, s, e1, e2, e3, e4, e5, h1, h2, h3, h4, hpq, hpr, hps, hqr, hqs, hrs, hE⟩ := box4 w (.cells #[.bool na, .slice aa la.length ca] 53) (.cells #[.bool false, .slice ab lb.length cb] 53) (.cells #[.bool false, .slice none 0 0] 53) (.cells #[.bool false, .slice none 0 0] 53)
  rw [e1, e2, e3, e4, e5]
  have hge : ∀ k, k ∈ [r, s] → w.heap.size ≤ k := by simp; omega
  clear e1 e2 e3 e4 e5
  have Rp0 := rulesB (rs := []) h1 (by simp) 0 _ rfl
  have Rp1 := rulesB (rs := []) h1 (by simp) 1 _ rfl
  have Rq0 := rulesB (rs := []) h2 (by simp) 0 _ rfl
  have Rq1 := rulesB (rs := []) h2 (by simp) 1 _ rfl
  have hB0 := But.start0 w3
  (go_at_call 170; refine (integer_divide _ _ _ la lb (ua.ext (by exact exttI)) (ub.ext (by exact exttI)) da db (by omega) (by omega) pb).mono ?_; rintro e w4 ⟨vx, vy, x, y, rfl, ux, uy, dx, dy, yx, yy, zx, zy, hEx⟩; have ex := Lib.hid yx; clear yx; have ey := Lib.hid yy; clear yy)
  go_upto_region 4 with (fail)
  go_cut [9, 10] (fun p9 p10 w' => ∃ g h, p9 = .pointer (some ⟨g, 0, none⟩) ∧ p10 = .pointer (some ⟨h, 0, none⟩) ∧ g ≠ h ∧ w3.heap.size ≤ g ∧ w3.heap.size ≤ h ∧ But [] w3 w' ∧
    ∃ (nu : Bool) (au : Option Addr) (lu : List Nat) (cu : Nat) (nv : Bool) (av : Option Addr) (lv : List Nat) (cv : Nat), IsInt x.length w' (.agg #[.bool nu, .slice au lu.length cu]) (sgn na (val x)) ∧ IsInt y.length w' (.agg #[.bool nv, .slice av lv.length cv]) (sgn na (val y)) ∧
      Norm lv ∧ (nv = true → lv ≠ []) ∧ Hid (sgn na (val y) = sgn nv (val lv)) ∧
      w'.heap[g]? = some (.cells #[.bool nu, .slice au lu.length cu] 53 (0, 0)) ∧ w'.heap[h]? = some (.cells #[.bool nv, .slice av lv.length cv] 53 (0, 0)))
  case first =>
    have zxs := hEx.size
    go_region_held3 (fun w' => But [] w3 w') (exact buttI) (first | ((go_at_call 158; refine (integer_signed _ _ _ _ (by exact (ux.ext (by exact exttI))) (by exact dx)).mono ?_; rintro e w5 ⟨vu, rfl, hu, hEu⟩; obtain ⟨nu, au, lu, cu, rfl, uu, du, nnu, lnu, su, qu, _⟩ := IsInt.shape hu; have eu := Lib.hid qu; clear qu); (try (have zu1 := Ext.blk hEu (heap_alloc_new _ _))); (try (first | (have zu2 := Ext.blk (Ext.trans' ((Ext.rfl' _).alloc' _) hEu) (heap_alloc_new _ _)) | (have zu2 := Ext.blk (Ext.trans' ((Ext.rfl' _).alloc' _).drew' hEu) (heap_alloc_new _ _)))); (try simp only [size_alloc', size_drew'] at zu1); (try simp only [size_alloc', size_drew'] at zu2); (have zus := hEu.size); (try simp only [size_alloc', size_drew'] at zus); (try (obtain ⟨Czu10, Gzu10⟩ := cell_of zu1 0 _ rfl)); (try (obtain ⟨Czu11, Gzu11⟩ := cell_of zu1 1 _ rfl)); (try (obtain ⟨Czu20, Gzu20⟩ := cell_of zu2 0 _ rfl)); (try (obtain ⟨Czu21, Gzu21⟩ := cell_of zu2 1 _ rfl)); (try (have l1w4w5 : w4.heap.size < w5.heap.size := by omega)); (try (have l2w4w5 : w4.heap.size + 1 < w5.heap.size := by omega)); (try (have l3w4w5 : w4.heap.size ≠ w5.heap.size := by omega)); (try (have l4w4w5 : w4.heap.size + 1 ≠ w5.heap.size := by omega)); (try (have l5w4w5 : w5.heap.size ≠ w4.heap.size := by omega)); (try (have l6w4w5 : w5.heap.size ≠ w4.heap.size + 1 := by omega))) | ((go_at_call 158; refine (integer_signed _ _ _ _ (by exact (uy.ext (by exact exttI))) (by exact dy)).mono ?_; rintro e w6 ⟨vv, rfl, hv, hEv⟩; obtain ⟨nv, av, lv, cv, rfl, uv, dv, nnv, lnv, sv, qv, _⟩ := IsInt.shape hv; have ev := Lib.hid qv; clear qv); (try (have zv1 := Ext.blk hEv (heap_alloc_new _ _))); (try (first | (have zv2 := Ext.blk (Ext.trans' ((Ext.rfl' _).alloc' _) hEv) (heap_alloc_new _ _)) | (have zv2 := Ext.blk (Ext.trans' ((Ext.rfl' _).alloc' _).drew' hEv) (heap_alloc_new _ _)))); (try simp only [size_alloc', size_drew'] at zv1); (try simp only [size_alloc', size_drew'] at zv2); (have zvs := hEv.size); (try simp only [size_alloc', size_drew'] at zvs); (try (obtain ⟨Czv10, Gzv10⟩ := cell_of zv1 0 _ rfl)); (try (obtain ⟨Czv11, Gzv11⟩ := cell_of zv1 1 _ rfl)); (try (obtain ⟨Czv20, Gzv20⟩ := cell_of zv2 0 _ rfl)); (try (obtain ⟨Czv21, Gzv21⟩ := cell_of zv2 1 _ rfl)); (try (have zv3 := Ext.blk (Ext.trans' (by exact exttI) hEv) zu1)); (try (have zv4 := Ext.blk (Ext.trans' (by exact exttI) hEv) zu2)); (try (obtain ⟨Czv30, Gzv30⟩ := cell_of zv3 0 _ rfl)); (try (obtain ⟨Czv31, Gzv31⟩ := cell_of zv3 1 _ rfl)); (try (obtain ⟨Czv40, Gzv40⟩ := cell_of zv4 0 _ rfl)); (try (obtain ⟨Czv41, Gzv41⟩ := cell_of zv4 1 _ rfl)); (try (have l1w4w6 : w4.heap.size < w6.heap.size := by omega)); (try (have l2w4w6 : w4.heap.size + 1 < w6.heap.size := by omega)); (try (have l3w4w6 : w4.heap.size ≠ w6.heap.size := by omega)); (try (have l4w4w6 : w4.heap.size + 1 ≠ w6.heap.size := by omega)); (try (have l5w4w6 : w6.heap.size ≠ w4.heap.size := by omega)); (try (have l6w4w6 : w6.heap.size ≠ w4.heap.size + 1 := by omega)); (try (have l1w5w6 : w5.heap.size < w6.heap.size := by omega)); (try (have l2w5w6 : w5.heap.size + 1 < w6.heap.size := by omega)); (try (have l3w5w6 : w5.heap.size ≠ w6.heap.size := by omega)); (try (have l4w5w6 : w5.heap.size + 1 ≠ w6.heap.size := by omega)); (try (have l5w5w6 : w6.heap.size ≠ w5.heap.size := by omega)); (try (have l6w5w6 : w6.heap.size ≠ w5.heap.size + 1 := by omega))))
    all_goals (go_wp2_with fail; go_meet)
    all_goals exact ⟨_, _, rfl, rfl, by omega, by omega, by omega, by exact buttI, nu, au, lu, cu, nv, av, lv, cv, by exact inttI, by exact inttI, nnv, sv, ev, by exact heaptI, by exact heaptI⟩
  case rest =>
    obtain ⟨g, h, rfl, rfl, hgh, hg3, hh3, hBc, nu, au, lu, cu, nv, av, lv, cv, hu, hv, nnv, sv, ev, kg, kh⟩ := hcut
    have hEc := hBc.none
    clear Rp0 Rp1 Rq0 Rq1
    have lt1 := (Array.getElem?_eq_some_iff.1 h1).1
    have lt2 := (Array.getElem?_eq_some_iff.1 h2).1
    have lt3 := (Array.getElem?_eq_some_iff.1 h3).1
    have lt4 := (Array.getElem?_eq_some_iff.1 h4).1
    have szw := hE.size
    replace h2 := hEc.blk h2
    replace h3 := hEc.blk h3
    replace h4 := hEc.blk h4
    replace hE := hE.trans' hEc
    have n1 : q ≠ g := by omega
    have n2 : q ≠ h := by omega
    have n3 : r ≠ g := by omega
    have n4 : r ≠ h := by omega
    have n5 : s ≠ g := by omega
    have n6 : s ≠ h := by omega
    have ea0 := ea.out
    have eb0 : b = (val lb : Int) := by rw [eb.out]; simp [sgn]
    have hbx1 : Box wc r := Box.mk h3 rfl
    have hbx2 : Box wc s := Box.mk h4 rfl
    obtain ⟨Cg0, Gg0⟩ := cell_of kg 0 _ rfl
    obtain ⟨Cg1, Gg1⟩ := cell_of kg 1 _ rfl
    obtain ⟨Ch0, Gh0⟩ := cell_of kh 0 _ rfl
    obtain ⟨Ch1, Gh1⟩ := cell_of kh 1 _ rfl
    obtain ⟨Cq0, Gq0⟩ := cell_of h2 0 _ rfl
    obtain ⟨Cq1, Gq1⟩ := cell_of h2 1 _ rfl
    have aq : (a / b).natAbs ≤ a.natAbs := abs_ediv_le a b hp
    have ar : (a % b).natAbs ≤ b.natAbs := by
      have := Int.emod_nonneg a (show b ≠ 0 by omega)
      have := Int.emod_lt_of_pos a hp
      omega
    by_cases hy : val y = 0
    · have elv : lv = [] ∧ nv = false := by
        have h := ev.out
        rw [hy] at h
        rcases lv with _ | ⟨d, l⟩
        · refine ⟨rfl, ?_⟩
          cases nv with
          | false => rfl
          | true => exact absurd rfl (sv rfl)
        · have hpos := nnv.pos (by simp)
          exfalso
          revert h
          cases na <;> cases nv <;> simp [sgn] <;> omega
      obtain ⟨rfl, rfl⟩ := elv
      have hq : IsInt n wc (.agg #[.bool nu, .slice au lu.length cu]) (a / b) := by
        refine IsInt.of_le (hu.cast ?_) ha aq
        rw [ex.out, ea0, eb0]
        have hm : val la % val lb = 0 := by rw [← ey.out]; exact hy
        cases na
        · simp [sgn]
        · simp only [sgn, if_true]; exact (dm_neg0 pb hm).1.symm
      have hr : IsInt m wc (.agg #[.bool false, .slice av 0 cv]) (a % b) := by
        refine IsInt.of_le (hv.cast ?_) hb ar
        rw [hy, ea0, eb0]
        have hm : val la % val lb = 0 := by rw [← ey.out]; exact hy
        cases na
        · simp [sgn]; omega
        · simp only [sgn, if_true]; rw [(dm_neg0 pb hm).2]; rfl
      have hyh := Lib.hid hy
      clear hy ea0 eb0
      go_wp2_with (first | fail)
      have hbxr : Box _ r := Box.mk h3 rfl
      obtain ⟨Rr0, Fr0⟩ := rulesR (rs := [r, s]) h3 (by simp) 0 (by simp)
      obtain ⟨Rr1, Fr1⟩ := rulesR (rs := [r, s]) h3 (by simp) 1 (by simp)
      have hbxs : Box _ s := Box.mk h4 rfl
      obtain ⟨Rs0, Fs0⟩ := rulesR (rs := [r, s]) h4 (by simp) 0 (by simp)
      obtain ⟨Rs1, Fs1⟩ := rulesR (rs := [r, s]) h4 (by simp) 1 (by simp)
      have Rg0 := rulesB (rs := [r, s]) kg (by simp; omega) 0 _ rfl
      have Rg1 := rulesB (rs := [r, s]) kg (by simp; omega) 1 _ rfl
      have Rh0 := rulesB (rs := [r, s]) kh (by simp; omega) 0 _ rfl
      have Rh1 := rulesB (rs := [r, s]) kh (by simp; omega) 1 _ rfl
      have hB : But [r, s] wc wc := by exact buttI
      go_region_held3 (fun w' => But [r, s] wc w') (exact buttI) (first | fail)
      go_wp2
      have hW : But [r, s] wc ((((World.setCell wc ⟨r, 0, none⟩ (.bool nu)).setCell ⟨r, 1, none⟩ (.slice au lu.length cu)).setCell ⟨s, 0, none⟩ (.bool false)).setCell ⟨s, 1, none⟩ (.slice av 0 cv)) := by exact buttI
      have hB2 : But [r, s] wc ((World.setCell wc ⟨r, 0, none⟩ (.bool nu)).setCell ⟨r, 1, none⟩ (.slice au lu.length cu)) := by exact buttI
      exact bodyPost_ret (v := .tuple #[.agg #[.bool nu, .slice au lu.length cu], .agg #[.bool false, .slice av 0 cv], .int .i64 0]) (by simp [results, Tryz.results115, go_sem, Rr0 _ hB, Rr1 _ hB, Rs0 _ hB, Rs1 _ hB, hrs, Ne.symm hrs]) rfl ⟨_, _, rfl, IsInt.dr (IsInt.put (IsInt.put hq hB (by simp) rfl) hB2 (by simp) rfl), IsInt.dr (IsInt.put (IsInt.put hr hB (by simp) rfl) hB2 (by simp) rfl), hW.dr.old hE hge⟩
    · have elv : lv ≠ [] ∧ nv = na := by
        have h := ev.out
        rcases lv with _ | ⟨d, l⟩
        · exfalso
          revert h
          simp only [val_nil]
          cases na <;> cases nv <;> simp [sgn] <;> omega
        · refine ⟨by simp, ?_⟩
          have hpos := nnv.pos (by simp)
          revert h
          cases na <;> cases nv <;> simp [sgn] <;> omega
      obtain ⟨elv, rfl⟩ := elv
      have l2 : 0 < (lv.length : Int) := by have := List.length_pos_iff.2 elv; omega
      have l3 : 0 < lv.length := List.length_pos_iff.2 elv
      cases nv
      · have hq : IsInt n wc (.agg #[.bool nu, .slice au lu.length cu]) (a / b) := by
          refine IsInt.of_le (hu.cast ?_) ha aq
          rw [ex.out, ea0, eb0]
          simp [sgn]
        have hr : IsInt m wc (.agg #[.bool false, .slice av lv.length cv]) (a % b) := by
          refine IsInt.of_le (hv.cast ?_) hb ar
          rw [ey.out, ea0, eb0]
          simp [sgn]
        have hyh := Lib.hid hy
        clear hy ea0 eb0
        go_wp2_with (first | fail)
        have hbxr : Box _ r := Box.mk h3 rfl
        obtain ⟨Rr0, Fr0⟩ := rulesR (rs := [r, s]) h3 (by simp) 0 (by simp)
        obtain ⟨Rr1, Fr1⟩ := rulesR (rs := [r, s]) h3 (by simp) 1 (by simp)
        have hbxs : Box _ s := Box.mk h4 rfl
        obtain ⟨Rs0, Fs0⟩ := rulesR (rs := [r, s]) h4 (by simp) 0 (by simp)
        obtain ⟨Rs1, Fs1⟩ := rulesR (rs := [r, s]) h4 (by simp) 1 (by simp)
        have Rg0 := rulesB (rs := [r, s]) kg (by simp; omega) 0 _ rfl
        have Rg1 := rulesB (rs := [r, s]) kg (by simp; omega) 1 _ rfl
        have Rh0 := rulesB (rs := [r, s]) kh (by simp; omega) 0 _ rfl
        have Rh1 := rulesB (rs := [r, s]) kh (by simp; omega) 1 _ rfl
        have hB : But [r, s] wc wc := by exact buttI
        go_region_held3 (fun w' => But [r, s] wc w') (exact buttI) (first | fail)
        go_wp2
        have hW : But [r, s] wc ((((World.setCell wc ⟨r, 0, none⟩ (.bool nu)).setCell ⟨r, 1, none⟩ (.slice au lu.length cu)).setCell ⟨s, 0, none⟩ (.bool false)).setCell ⟨s, 1, none⟩ (.slice av lv.length cv)) := by exact buttI
        have hB2 : But [r, s] wc ((World.setCell wc ⟨r, 0, none⟩ (.bool nu)).setCell ⟨r, 1, none⟩ (.slice au lu.length cu)) := by exact buttI
        exact bodyPost_ret (v := .tuple #[.agg #[.bool nu, .slice au lu.length cu], .agg #[.bool false, .slice av lv.length cv], .int .i64 0]) (by simp [results, Tryz.results115, go_sem, Rr0 _ hB, Rr1 _ hB, Rs0 _ hB, Rs1 _ hB, hrs, Ne.symm hrs]) rfl ⟨_, _, rfl, IsInt.dr (IsInt.put (IsInt.put hq hB (by simp) rfl) hB2 (by simp) rfl), IsInt.dr (IsInt.put (IsInt.put hr hB (by simp) rfl) hB2 (by simp) rfl), hW.dr.old hE hge⟩
      · have hyh := Lib.hid hy
        have ea1 := Lib.hid ea0
        have eb1 := Lib.hid eb0
        clear hy ea0 eb0
        go_upto_region 6 with (fail)
        have hbc : IsInt m wc (.agg #[.bool false, .slice ab lb.length cb]) b := hb.ext hE
        have Bg : Box wc g := Box.mk kg rfl
        have Bh : Box wc h := Box.mk kh rfl
        go_cut [9, 10] (fun p9 p10 w' => p9 = .pointer (some ⟨g, 0, none⟩) ∧ p10 = .pointer (some ⟨h, 0, none⟩) ∧ But [g, h] wc w' ∧
          ∃ (n1 : Bool) (a1 : Option Addr) (l1 : List Nat) (c1 : Nat) (n2 : Bool) (a2 : Option Addr) (l2 : List Nat) (c2 : Nat), IsInt (max x.length 3 + 1) w' (.agg #[.bool n1, .slice a1 l1.length c1]) (sgn true (val x) - 1) ∧ IsInt (max y.length m + 1) w' (.agg #[.bool n2, .slice a2 l2.length c2]) (sgn true (val y) + b) ∧
            w'.heap[g]? = some (.cells #[.bool n1, .slice a1 l1.length c1] 53 (0, 0)) ∧ w'.heap[h]? = some (.cells #[.bool n2, .slice a2 l2.length c2] 53 (0, 0)))
        case first =>
          clear Cg0 Gg0 Cg1 Gg1 Ch0 Gh0 Ch1 Gh1
          obtain ⟨Rg0, Fg0⟩ := rules kg 0 _ rfl
          obtain ⟨Rg1, Fg1⟩ := rules kg 1 _ rfl
          obtain ⟨Rh0, Fh0⟩ := rules kh 0 _ rfl
          obtain ⟨Rh1, Fh1⟩ := rules kh 1 _ rfl
          have Rq0 := (rules h2 0 _ rfl).1
          have Rq1 := (rules h2 1 _ rfl).1
          have hX := (Ext.rfl' wc).drew'
          (refine wp_region_noPanic ?_; refine wp_region_head 6 (fun w' => Ext wc w') (by kernel_rfl) (by kernel_rfl) ?_ (fun hHeld => ?_); (focus (show Ext _ _; exact exttI)); (try simp only [List.size_toArray, List.length_cons, List.length_nil]))
          (refine wpHead_take 0 (by kernel_rfl) (fun _ _ _ _ _ h => h) (by assumption) ?_; simp only [atOp]; refine ⟨by rfl, ?_, ?_, ?_⟩; rotate_left; (focus (intro w' hSw; (try dsimp only at hSw); go_simp; (try with_reducible rfl))); (try simp only [Act.put, List.setIfInBounds_toArray, List.set_cons_zero, List.set_cons_succ]))
          (refine wpHead_take 3 (by kernel_rfl) (fun _ _ _ _ _ h => h) (by assumption) ?_; simp only [atOp]; refine ⟨by rfl, ?_, ?_, ?_⟩; rotate_left; (focus (intro w' hSw; (try dsimp only at hSw); go_simp; (try with_reducible rfl))); (try simp only [Act.put, List.setIfInBounds_toArray, List.set_cons_zero, List.set_cons_succ]))
          (refine wpHead_take 4 (by kernel_rfl) (fun _ _ _ _ _ h => h) (by assumption) ?_; simp only [atOp]; refine ⟨by rfl, ?_, ?_, ?_⟩; rotate_left; (focus (intro w' hSw; (try dsimp only at hSw); go_simp; (try with_reducible rfl))); (try simp only [Act.put, List.setIfInBounds_toArray, List.set_cons_zero, List.set_cons_succ]))
          (refine wpHead_only 1 (by kernel_rfl) ?_; simp only [atOp]; intro K hK; go_simp; ((go_at_call 114; refine (integer_FromInt64 _ 1 (by omega) (by omega)).mono ?_; rintro e w5 ⟨vi, rfl, hi, hEi⟩; obtain ⟨ni, ai, li, ci, rfl, ui, di, nni, lni, si, qi, _⟩ := IsInt.shape hi; have ei := Lib.hid qi; clear qi); have hX5 := (show Ext wc w5 by exact exttI)); refine hK.out _ _ ?_ (fun hHeld => ?_); (focus (show Ext _ _; exact exttI)); clear hK K; (try simp only [Act.put, List.setIfInBounds_toArray, List.set_cons_zero, List.set_cons_succ]))
          (refine wpHead_only 2 (by kernel_rfl) ?_; simp only [atOp]; intro K hK; go_simp; ((go_at_call 171; refine (integer_Sub _ _ _ _ _ _ _ (hu.ext (by exact exttI)) (hi.ext (by exact exttI)) (by omega) (by omega)).mono ?_; rintro e w6 ⟨vj, rfl, hj, hEj⟩; obtain ⟨nj, aj, lj, cj, rfl, uj, dj, nnj, lnj, sj, qj, _⟩ := IsInt.shape hj; have ej := Lib.hid qj; clear qj); have hX6 := (show Ext wc w6 by exact exttI)); refine hK.out _ _ ?_ (fun hHeld => ?_); (focus (show Ext _ _; exact exttI)); clear hK K; (try simp only [Act.put, List.setIfInBounds_toArray, List.set_cons_zero, List.set_cons_succ]))
          (refine wpHead_only 5 (by kernel_rfl) ?_; simp only [atOp]; intro K hK; go_simp; ((go_at_call 152; refine (integer_Add _ _ _ _ _ _ _ (hv.ext (by exact exttI)) (hbc.ext (by exact exttI)) (by omega) (by omega)).mono ?_; rintro e w7 ⟨vk, rfl, hk, hEk⟩; obtain ⟨nk, ak, lk, ck, rfl, uk, dk, nnk, lnk, sk, qk, _⟩ := IsInt.shape hk; have ek := Lib.hid qk; clear qk); have hX7 := (show Ext wc w7 by exact exttI)); refine hK.out _ _ ?_ (fun hHeld => ?_); (focus (show Ext _ _; exact exttI)); clear hK K; (try simp only [Act.put, List.setIfInBounds_toArray, List.set_cons_zero, List.set_cons_succ]))
          (refine wpHead_done (by kernel_rfl) ?_; simp only [List.drop_succ_cons, List.drop_zero])
          have kg7 := hX7.blk kg
          have kh7 := hX7.blk kh
          obtain ⟨Cg0, Gg0⟩ := cell_of kg7 0 _ rfl
          obtain ⟨Cg1, Gg1⟩ := cell_of kg7 1 _ rfl
          obtain ⟨Ch0, Gh0⟩ := cell_of kh7 0 _ rfl
          obtain ⟨Ch1, Gh1⟩ := cell_of kh7 1 _ rfl
          go_wp2_with fail
          refine NoPanic.normal ?_
          go_wp2_with fail
          go_meet
          exact ⟨rfl, rfl, by exact buttI, nj, aj, lj, cj, nk, ak, lk, ck, by exact inttI, by exact inttI, by exact heaptI, by exact heaptI⟩
        case rest =>
          obtain ⟨rfl, rfl, hBd, nz1, az1, lz1, cz1, nz2, az2, lz2, cz2, hi1, hi2, kg', kh'⟩ := hcut
          have hEd : Ext w wc := hBd.old hE (by simp; omega)
          have h3 := (hBd.block r (Array.getElem?_eq_some_iff.1 h3).1 (by simp; omega)).trans h3
          have h4 := (hBd.block s (Array.getElem?_eq_some_iff.1 h4).1 (by simp; omega)).trans h4
          have ea0 := ea1.out
          have eb0 := eb1.out
          have hm : val la % val lb ≠ 0 := by rw [← ey.out]; exact hyh.out
          have hq : IsInt n wc (.agg #[.bool nz1, .slice az1 lz1.length cz1]) (a / b) := by
            refine IsInt.of_le (hi1.cast ?_) ha aq
            rw [ex.out, ea0, eb0]
            simp only [sgn, if_true]
            exact (dm_neg1 pb hm).1.symm
          have hr : IsInt m wc (.agg #[.bool nz2, .slice az2 lz2.length cz2]) (a % b) := by
            refine IsInt.of_le (hi2.cast ?_) hb ar
            rw [ey.out, ea0, eb0]
            simp only [sgn, if_true]
            exact (dm_neg1 pb hm).2.symm
          clear ea0 eb0 hm
          replace hE := hEd
          replace kg := kg'
          replace kh := kh'
          clear Cg0 Gg0 Cg1 Gg1 Ch0 Gh0 Ch1 Gh1
          have hbx1 : Box wc r := Box.mk h3 rfl
          have hbx2 : Box wc s := Box.mk h4 rfl
          go_wp2_with (first | fail)
          have hbxr : Box _ r := Box.mk h3 rfl
          obtain ⟨Rr0, Fr0⟩ := rulesR (rs := [r, s]) h3 (by simp) 0 (by simp)
          obtain ⟨Rr1, Fr1⟩ := rulesR (rs := [r, s]) h3 (by simp) 1 (by simp)
          have hbxs : Box _ s := Box.mk h4 rfl
          obtain ⟨Rs0, Fs0⟩ := rulesR (rs := [r, s]) h4 (by simp) 0 (by simp)
          obtain ⟨Rs1, Fs1⟩ := rulesR (rs := [r, s]) h4 (by simp) 1 (by simp)
          have Rg0 := rulesB (rs := [r, s]) kg (by simp; omega) 0 _ rfl
          have Rg1 := rulesB (rs := [r, s]) kg (by simp; omega) 1 _ rfl
          have Rh0 := rulesB (rs := [r, s]) kh (by simp; omega) 0 _ rfl
          have Rh1 := rulesB (rs := [r, s]) kh (by simp; omega) 1 _ rfl
          have hB : But [r, s] wc wc := by exact buttI
          go_region_held3 (fun w' => But [r, s] wc w') (exact buttI) (first | fail)
          go_wp2
          have hW : But [r, s] wc ((((World.setCell wc ⟨r, 0, none⟩ (.bool nz1)).setCell ⟨r, 1, none⟩ (.slice az1 lz1.length cz1)).setCell ⟨s, 0, none⟩ (.bool nz2)).setCell ⟨s, 1, none⟩ (.slice az2 lz2.length cz2)) := by exact buttI
          have hB2 : But [r, s] wc ((World.setCell wc ⟨r, 0, none⟩ (.bool nz1)).setCell ⟨r, 1, none⟩ (.slice az1 lz1.length cz1)) := by exact buttI
          exact bodyPost_ret (v := .tuple #[.agg #[.bool nz1, .slice az1 lz1.length cz1], .agg #[.bool nz2, .slice az2 lz2.length cz2], .int .i64 0]) (by simp [results, Tryz.results115, go_sem, Rr0 _ hB, Rr1 _ hB, Rs0 _ hB, Rs1 _ hB, hrs, Ne.symm hrs]) rfl ⟨_, _, rfl, IsInt.dr (IsInt.put (IsInt.put hq hB (by simp) rfl) hB2 (by simp) rfl), IsInt.dr (IsInt.put (IsInt.put hr hB (by simp) rfl) hB2 (by simp) rfl), hW.dr.old hE hge⟩
end Go.Proofs.YtechjiiijiipdaaGreatDoor
namespace Go.Proofs.YtechjiiijiipdaaGreatDoor
open Go.RowKit
set_option linter.unusedSimpArgs false
set_option linter.unusedVariables false

/-- The number that the second cell of a box shows: a measure for loops over boxes. -/
def readL (w : World) (h : Nat) : Nat :=
  match w.cell? ⟨h, 1, none⟩ with
  | some (.slice (some ⟨b, o, none⟩) n _) => val ((List.range n).map fun i => match w.cell? ⟨b, o + i, none⟩ with
    | some (.int _ d) => d.toNat
    | _ => 0)
  | _ => 0
theorem readL_of {w : World} {h : Nat} {v : Value} {a : Option Addr} {l : List Nat} {c : Nat} {t : TypeId} (hh : w.heap[h]? = some (.cells #[v, .slice a l.length c] t (0, 0))) (hu : U32s w (.slice a l.length c) l) : readL w h = val l := by
  have hc := (cell_of hh 1 _ rfl).1
  simp at hc
  obtain ⟨ad, c', e, _, _, _, _, hcell⟩ := hu
  cases e
  unfold readL
  rw [hc]
  rcases hcell with rfl | ⟨b, o, rfl, hlt, hcell⟩
  · simp only [List.length_nil]
    split
    · rename_i heq
      cases heq
      rfl
    · rfl
  · simp only
    congr 1
    apply List.ext_getElem
    · simp
    · intro i h1 h2
      simp only [List.getElem_map, List.getElem_range]
      rw [hcell i h2]
      simp [List.getD_eq_getElem?_getD, h2]
theorem IsInt.opened {n : Nat} {w : World} {b : Bool} {a : Option Addr} {k c : Nat} {z : Int} (h : IsInt n w (.agg #[.bool b, .slice a k c]) z) :
    ∃ l : List Nat, k = l.length ∧ U32s w (.slice a l.length c) l ∧ Dig l ∧ Norm l ∧ l.length ≤ n ∧ (b = true → l ≠ []) ∧ z = sgn b (val l) := by
  obtain ⟨neg, sv, l, hv, hu, hd, hn, hl, hz, rfl⟩ := h
  have hv' := hv
  simp at hv'
  obtain ⟨rfl, rfl⟩ := hv'
  obtain ⟨a', c', e, hc⟩ := hu.shape
  cases e
  exact ⟨l, rfl, hu, hd, hn, hl, hz, rfl⟩
theorem readL_int {n : Nat} {w : World} {h : Nat} {b : Bool} {a : Option Addr} {k c : Nat} {t : TypeId} {z : Int} (hh : w.heap[h]? = some (.cells #[.bool b, .slice a k c] t (0, 0))) (hi : IsInt n w (.agg #[.bool b, .slice a k c]) z) : readL w h = z.natAbs := by
  obtain ⟨l, rfl, hu, _, _, _, _, rfl⟩ := hi.opened
  rw [readL_of hh hu, sgn_natAbs]
theorem gcd_step {X Y x y : Nat} {nu nv : Bool} {g : Nat} (hX : (X : Int) = sgn nu x) (hY : (Y : Int) = sgn nv y) (h : Nat.gcd X Y = g) : Nat.gcd Y (x % y) = g := by
  have h1 := congrArg Int.natAbs hX
  have h2 := congrArg Int.natAbs hY
  rw [sgn_natAbs] at h1 h2
  simp at h1 h2
  rw [← h1, ← h2, Nat.gcd_comm Y, ← Nat.gcd_rec, Nat.gcd_comm, h]
theorem rulesF {rs : List Nat} {w : World} {p : Nat} {cs : Array Value} {t : TypeId} (h : w.heap[p]? = some (.cells cs t (0, 0))) (hp : p ∉ rs) (i : Nat) :
    ∀ w', But rs w w' → w'.frozen? ⟨p, i, none⟩ = false := fun w' e => by
  have := (e.block p (Array.getElem?_eq_some_iff.1 h).1 hp).trans h
  simp [World.frozen?, this]
attribute [local irreducible] IsInt U32s Dig Norm Own
set_option maxRecDepth 100000 in
set_option maxHeartbeats 4000000 in
theorem integer_GCD (n : Nat) (w : World) (va vb : Value) (a b : Int) (ha : IsInt n w va a) (hb : IsInt n w vb b) (hn : n < 300000) :
    Calls Tryz.prog 205 #[va, vb] w fun e w' => ∃ v, e = .returned v ∧ IsInt (n + 3) w' v (Int.gcd a b : Nat) ∧ Ext w w' := by
  obtain ⟨na, aa, la, ca, rfl, ua, da, nna, lna, sa, qa, _⟩ := IsInt.shape ha; have ea := Lib.hid qa; clear qa
  obtain ⟨nb, ab, lb, cb, rfl, ub, db, nnb, lnb, sb, qb, _⟩ := IsInt.shape hb; have eb := Lib.hid qb; clear qb
  go_enter Tryz.func205, Tryz.ntmps205
  go_upto_region 1 with (fail)
  obtain ⟨w3, p, q, r, e1, e2, e3, e4, h1, h2, h3, hpq, hpr, hqr, hE⟩ := box3 w (.cells #[.bool na, .slice aa la.length ca] 53) (.cells #[.bool nb, .slice ab lb.length cb] 53) (.cells #[.bool false, .slice none 0 0] 53)
  rw [e1, e2, e3, e4]
  have hge : ∀ k, k ∈ [r] → w.heap.size ≤ k := by simp; omega
  clear e1 e2 e3 e4
  have Rp1 := rulesB (rs := []) h1 (by simp) 1 _ rfl
  have Rq1 := rulesB (rs := []) h2 (by simp) 1 _ rfl
  have hB0 := But.start0 w3
  go_cut [5, 6] (fun p5 p6 w' => ∃ g h, p5 = .pointer (some ⟨g, 0, none⟩) ∧ p6 = .pointer (some ⟨h, 0, none⟩) ∧ g ≠ h ∧ w3.heap.size ≤ g ∧ w3.heap.size ≤ h ∧ But [] w3 w' ∧
    ∃ (nu : Bool) (au : Option Addr) (lu : List Nat) (cu : Nat) (nv : Bool) (av : Option Addr) (lv : List Nat) (cv : Nat), IsInt la.length w' (.agg #[.bool nu, .slice au lu.length cu]) (sgn false (val la)) ∧ IsInt lb.length w' (.agg #[.bool nv, .slice av lv.length cv]) (sgn false (val lb)) ∧
      w'.heap[g]? = some (.cells #[.bool nu, .slice au lu.length cu] 53 (0, 0)) ∧ w'.heap[h]? = some (.cells #[.bool nv, .slice av lv.length cv] 53 (0, 0)))
  case first =>
    go_region_held3 (fun w' => But [] w3 w') (exact buttI) (first | ((go_at_call 158; refine (integer_signed _ _ _ _ (by exact (ua.ext (by exact exttI))) (by exact da)).mono ?_; rintro e w5 ⟨vu, rfl, hu, hEu⟩; obtain ⟨nu, au, lu, cu, rfl, uu, du, nnu, lnu, su, qu, _⟩ := IsInt.shape hu; have eu := Lib.hid qu; clear qu); (try (have zu1 := Ext.blk hEu (heap_alloc_new _ _))); (try (first | (have zu2 := Ext.blk (Ext.trans' ((Ext.rfl' _).alloc' _) hEu) (heap_alloc_new _ _)) | (have zu2 := Ext.blk (Ext.trans' ((Ext.rfl' _).alloc' _).drew' hEu) (heap_alloc_new _ _)))); (try simp only [size_alloc', size_drew'] at zu1); (try simp only [size_alloc', size_drew'] at zu2); (have zus := hEu.size); (try simp only [size_alloc', size_drew'] at zus); (try (obtain ⟨Czu10, Gzu10⟩ := cell_of zu1 0 _ rfl)); (try (obtain ⟨Czu11, Gzu11⟩ := cell_of zu1 1 _ rfl)); (try (obtain ⟨Czu20, Gzu20⟩ := cell_of zu2 0 _ rfl)); (try (obtain ⟨Czu21, Gzu21⟩ := cell_of zu2 1 _ rfl)); (try (have l1w3w5 : w3.heap.size < w5.heap.size := by omega)); (try (have l2w3w5 : w3.heap.size + 1 < w5.heap.size := by omega)); (try (have l3w3w5 : w3.heap.size ≠ w5.heap.size := by omega)); (try (have l4w3w5 : w3.heap.size + 1 ≠ w5.heap.size := by omega)); (try (have l5w3w5 : w5.heap.size ≠ w3.heap.size := by omega)); (try (have l6w3w5 : w5.heap.size ≠ w3.heap.size + 1 := by omega))) | ((go_at_call 158; refine (integer_signed _ _ _ _ (by exact (ub.ext (by exact exttI))) (by exact db)).mono ?_; rintro e w6 ⟨vv, rfl, hv, hEv⟩; obtain ⟨nv, av, lv, cv, rfl, uv, dv, nnv, lnv, sv, qv, _⟩ := IsInt.shape hv; have ev := Lib.hid qv; clear qv); (try (have zv1 := Ext.blk hEv (heap_alloc_new _ _))); (try (first | (have zv2 := Ext.blk (Ext.trans' ((Ext.rfl' _).alloc' _) hEv) (heap_alloc_new _ _)) | (have zv2 := Ext.blk (Ext.trans' ((Ext.rfl' _).alloc' _).drew' hEv) (heap_alloc_new _ _)))); (try simp only [size_alloc', size_drew'] at zv1); (try simp only [size_alloc', size_drew'] at zv2); (have zvs := hEv.size); (try simp only [size_alloc', size_drew'] at zvs); (try (obtain ⟨Czv10, Gzv10⟩ := cell_of zv1 0 _ rfl)); (try (obtain ⟨Czv11, Gzv11⟩ := cell_of zv1 1 _ rfl)); (try (obtain ⟨Czv20, Gzv20⟩ := cell_of zv2 0 _ rfl)); (try (obtain ⟨Czv21, Gzv21⟩ := cell_of zv2 1 _ rfl)); (try (have zv3 := Ext.blk (Ext.trans' (by exact exttI) hEv) zu1)); (try (have zv4 := Ext.blk (Ext.trans' (by exact exttI) hEv) zu2)); (try (obtain ⟨Czv30, Gzv30⟩ := cell_of zv3 0 _ rfl)); (try (obtain ⟨Czv31, Gzv31⟩ := cell_of zv3 1 _ rfl)); (try (obtain ⟨Czv40, Gzv40⟩ := cell_of zv4 0 _ rfl)); (try (obtain ⟨Czv41, Gzv41⟩ := cell_of zv4 1 _ rfl)); (try (have l1w3w6 : w3.heap.size < w6.heap.size := by omega)); (try (have l2w3w6 : w3.heap.size + 1 < w6.heap.size := by omega)); (try (have l3w3w6 : w3.heap.size ≠ w6.heap.size := by omega)); (try (have l4w3w6 : w3.heap.size + 1 ≠ w6.heap.size := by omega)); (try (have l5w3w6 : w6.heap.size ≠ w3.heap.size := by omega)); (try (have l6w3w6 : w6.heap.size ≠ w3.heap.size + 1 := by omega)); (try (have l1w5w6 : w5.heap.size < w6.heap.size := by omega)); (try (have l2w5w6 : w5.heap.size + 1 < w6.heap.size := by omega)); (try (have l3w5w6 : w5.heap.size ≠ w6.heap.size := by omega)); (try (have l4w5w6 : w5.heap.size + 1 ≠ w6.heap.size := by omega)); (try (have l5w5w6 : w6.heap.size ≠ w5.heap.size := by omega)); (try (have l6w5w6 : w6.heap.size ≠ w5.heap.size + 1 := by omega))))
    all_goals (go_wp2_with fail; go_meet)
    all_goals exact ⟨_, _, rfl, rfl, by omega, by omega, by omega, by exact buttI, nu, au, lu, cu, nv, av, lv, cv, by exact inttI, by exact inttI, by exact heaptI, by exact heaptI⟩
  case rest =>
    obtain ⟨g, h, rfl, rfl, hgh, hg3, hh3, hBc, nu, au, lu, cu, nv, av, lv, cv, hu, hv, kg, kh⟩ := hcut
    have hEc := hBc.none
    clear Rp1 Rq1 hB0 hBc
    have szw := hE.size
    have ltr := (Array.getElem?_eq_some_iff.1 h3).1
    replace h3 := hEc.blk h3
    replace hE := hE.trans' hEc
    have n1 : r ≠ g := by omega
    have n2 : r ≠ h := by omega
    have hG : Hid (Nat.gcd (val la) (val lb) = Int.gcd a b) := by
      refine Lib.hid ?_
      rw [ea.out, eb.out, Int.gcd, sgn_natAbs, sgn_natAbs]
    clear h1 h2 ua ub
    rename World => wc
    go_wp2_with (first | fail)
    go_loopw [7] (fun _ w' => ∃ (X Y : Nat) (nu : Bool) (au : Option Addr) (lu : Nat) (cu : Nat) (nv : Bool) (av : Option Addr) (lv : Nat) (cv : Nat), IsInt n w' (.agg #[.bool nu, .slice au lu cu]) (X : Nat) ∧ IsInt n w' (.agg #[.bool nv, .slice av lv cv]) (Y : Nat) ∧
      w'.heap[g]? = some (.cells #[.bool nu, .slice au lu cu] 53 (0, 0)) ∧ w'.heap[h]? = some (.cells #[.bool nv, .slice av lv cv] 53 (0, 0)) ∧ But [g, h] wc w' ∧ Hid (Nat.gcd X Y = Int.gcd a b)) (fun _ w' => readL w' h)
    case atStart =>
      exact ⟨val la, val lb, nu, au, lu.length, cu, nv, av, lv.length, cv, (hu.mono lna).cast (by simp [sgn]), (hv.mono lnb).cast (by simp [sgn]), kg, kh, But.start2 (Box.mk kg rfl) (Box.mk kh rfl), hG⟩
    case round =>
      clear kg kh hu hv nu au lu cu nv av lv cv
      obtain ⟨X, Y, nu, au, ku, cu, nv, av, kv, cv, hu, hv, kg, kh, hB, hgc⟩ := hrel
      obtain ⟨lu, rfl, uu, du, nnu, lnu, su, qu⟩ := IsInt.opened hu; have eu := Lib.hid qu; clear qu
      obtain ⟨lv, rfl, uv, dv, nnv, lnv, sv, qv⟩ := IsInt.opened hv; have ev := Lib.hid qv; clear qv
      have hEr : Ext w wr := hB.old hE (by simp; omega)
      obtain ⟨Cg0, Gg0⟩ := cell_of kg 0 _ rfl
      obtain ⟨Cg1, Gg1⟩ := cell_of kg 1 _ rfl
      obtain ⟨Ch0, Gh0⟩ := cell_of kh 0 _ rfl
      obtain ⟨Ch1, Gh1⟩ := cell_of kh 1 _ rfl
      by_cases hY : lv = []
      · subst hY
        go_wp2_with (at_builtin; refine wpList_copy32 rfl _ _ rfl rfl rfl uu ?_; intro v' w5 hown hE5)
        (go_at_call 158; refine (integer_signed _ _ _ _ (by exact (hown.u32 du.u32 (by omega))) (by exact du)).mono ?_; rintro e w6 ⟨vx, rfl, hx, hEx⟩; obtain ⟨nx, ax, lx, cx, rfl, ux, dx, nnx, lnx, sx, qx, _⟩ := IsInt.shape hx; have ex := Lib.hid qx; clear qx)
        have h3r := (hB.block r (Array.getElem?_eq_some_iff.1 h3).1 (by simp; omega)).trans h3
        have hbxr : Box _ r := Box.mk h3r rfl
        obtain ⟨Rr0, Fr0⟩ := rulesR (rs := [r]) h3r (by simp) 0 (by simp)
        obtain ⟨Rr1, Fr1⟩ := rulesR (rs := [r]) h3r (by simp) 1 (by simp)
        have hYv : Y = 0 := by have := congrArg Int.natAbs ev.out; rw [sgn_natAbs] at this; simpa [val] using this
        have hXv : val lu = X := by have := congrArg Int.natAbs eu.out; rw [sgn_natAbs] at this; simpa using this.symm
        have hgv : val lu = Int.gcd a b := by rw [hXv, ← hgc.out, hYv, Nat.gcd_zero_right]
        clear hB
        have hB : But [r] wr w6 := by exact buttI
        replace hE := hEr
        have hBr0 := Rr0 _ hB
        have hBr1 := Rr1 _ hB
        have hFr0 := Fr0 _ hB
        have hFr1 := Fr1 _ hB
        go_wp2
        exact bodyPost_ret (v := .agg #[.bool nx, .slice ax lx.length cx]) (by simp [results, Tryz.results205, go_sem, hBr0, hBr1]) rfl ⟨_, rfl, IsInt.put ((hx.mono (by omega)).cast (by simp only [sgn, hgv]; rfl)) hB (by simp) rfl, ((hB.set _ _ rfl (by simp)).set _ _ rfl (by simp)).old hE hge⟩
      · have l0 : 0 < (lv.length : Int) := by have := List.length_pos_iff.2 hY; omega
        have pv := nnv.pos hY
        go_wp2_with (first | fail)
        (go_at_call 234; refine (integer_word _ _ _ _ (by exact hu)).mono ?_; rintro e w5 ⟨⟨s, hrs⟩, hEs⟩)
        have Kg := kg
        have Kh := kh
        replace kg := hEs.blk kg
        replace kh := hEs.blk kh
        clear Cg0 Gg0 Cg1 Gg1 Ch0 Gh0 Ch1 Gh1
        obtain ⟨Cg0, Gg0⟩ := cell_of kg 0 _ rfl
        obtain ⟨Cg1, Gg1⟩ := cell_of kg 1 _ rfl
        obtain ⟨Ch0, Gh0⟩ := cell_of kh 0 _ rfl
        obtain ⟨Ch1, Gh1⟩ := cell_of kh 1 _ rfl
        have hv5 := hv.ext hEs
        rcases hrs with ⟨hs1, hs2, rfl⟩ | rfl
        · have hs3 := Lib.hid hs2
          clear hs2
          go_wp2_with (first | fail)
          (go_at_call 234; refine (integer_word _ _ _ _ (by exact hv5)).mono ?_; rintro e w6 ⟨⟨t, hrt⟩, hEt⟩)
          replace kg := hEt.blk kg
          replace kh := hEt.blk kh
          clear Cg0 Gg0 Cg1 Gg1 Ch0 Gh0 Ch1 Gh1
          obtain ⟨Cg0, Gg0⟩ := cell_of kg 0 _ rfl
          obtain ⟨Cg1, Gg1⟩ := cell_of kg 1 _ rfl
          obtain ⟨Ch0, Gh0⟩ := cell_of kh 0 _ rfl
          obtain ⟨Ch1, Gh1⟩ := cell_of kh 1 _ rfl
          rcases hrt with ⟨ht1, ht2, rfl⟩ | rfl
          · have ht3 := Lib.hid ht2
            clear ht2
            go_wp2_with (first | fail)
            have hg0 : Hid (Nat.gcd s t = Int.gcd a b) := Lib.hid (by rw [hs3.out, ht3.out]; simpa using hgc.out)
            clear hs3 ht3
            have hEr6 : Ext w w6 := by exact exttI
            have h3r := hEt.blk (hEs.blk ((hB.block r (Array.getElem?_eq_some_iff.1 h3).1 (by simp; omega)).trans h3))
            clear Cg0 Gg0 Cg1 Gg1 Ch0 Gh0 Ch1 Gh1 hB hv5 hv hu uu uv kg kh Kg Kh hEt hEs hEr
            rename_i wo _
            go_loopw [7, 9] (fun u v w' => ∃ i j : Nat, u = .int .u64 i ∧ v = .int .u64 j ∧ i < 1000000000000000000 ∧ j < 1000000000000000000 ∧ Hid (Nat.gcd i j = Int.gcd a b) ∧ Drawn w6 w') (fun _ v _ => (intOf v).toNat)
            case atStart => exact ⟨s, t, rfl, rfl, hs1, ht1, hg0, Drawn.rfl' _⟩
            case round =>
              obtain ⟨i, j, rfl, rfl, hi, hj, hg1, hD⟩ := hrel
              have hE6 := hD.ext
              replace h3r := hE6.blk h3r
              replace hE : Ext w wr := by exact exttI
              by_cases hj0 : j = 0
              · subst hj0
                have hgv : Hid (i = Int.gcd a b) := Lib.hid (by rw [← hg1.out, Nat.gcd_zero_right])
                go_wp2_with (first | fail)
                have hbxr : Box _ r := Box.mk h3r rfl
                obtain ⟨Rr0, Fr0⟩ := rulesR (rs := [r]) h3r (by simp) 0 (by simp)
                obtain ⟨Rr1, Fr1⟩ := rulesR (rs := [r]) h3r (by simp) 1 (by simp)
                (go_at_call 169; refine (integer_split _ i (by omega : i < 18446744073709551616)).mono ?_; rintro e w7 ⟨v3, rfl, hu3, hE3⟩)
                go_wp2_with (first | fail)
                (go_at_call 158; refine (integer_signed _ _ _ _ (by exact hu3) (by exact (dig3 i (by omega)))).mono ?_; rintro e w8 ⟨vx, rfl, hx, hEx⟩; obtain ⟨nx, ax, lx, cx, rfl, ux, dx, nnx, lnx, sx, qx, _⟩ := IsInt.shape hx; have ex := Lib.hid qx; clear qx)
                have hB : But [r] wr w8 := by exact buttI
                have hBr0 := Rr0 _ hB
                have hBr1 := Rr1 _ hB
                have hFr0 := Fr0 _ hB
                have hFr1 := Fr1 _ hB
                go_wp2
                exact bodyPost_ret (v := .agg #[.bool nx, .slice ax lx.length cx]) (by simp [results, Tryz.results205, go_sem, hBr0, hBr1]) rfl ⟨_, rfl, IsInt.put ((hx.mono (by simp)).cast (by rw [val3, ← hgv.out]; rfl)) hB (by simp) rfl, ((hB.set _ _ rfl (by simp)).set _ _ rfl (by simp)).old hE hge⟩
              · have j0 : 0 < (j : Int) := by omega
                have hlt : i % j < j := Nat.mod_lt _ (by omega)
                have e1 : (i : Int).tmod (j : Int) = ((i % j : Nat) : Int) := rfl
                go_wp2
                go_quiet (fail)
                go_wp2
                go_roundw
                case rel => exact ⟨j, i % j, rfl, rfl, hj, by omega, Lib.hid (by rw [← hg1.out, Nat.gcd_comm j, ← Nat.gcd_rec, Nat.gcd_comm]), hD.n _⟩
                case measure => simp only [intOf]; omega
          · go_wp2_with (first | fail)
            (go_at_call 170; refine (integer_divide _ _ _ lu lv (uu.ext (by exact exttI)) (uv.ext (by exact exttI)) du dv (by omega) (by omega) pv).mono ?_; rintro e w7 ⟨vx, vy, x, y, rfl, ux, uy, dx, dy, yx, yy, zx, zy, hEx⟩; have ex := Lib.hid yx; clear yx; have ey := Lib.hid yy; clear yy)
            go_wp2_with (first | fail)
            have kg7 := hEx.blk kg
            have kh7 := hEx.blk kh
            have hv7 : IsInt n w7 (.agg #[.bool nv, .slice av lv.length cv]) (Y : Nat) := hv.ext (by exact exttI)
            have hB7 : But [g, h] wc w7 := by exact buttI
            have Rg0 := rules kg7 0 _ rfl
            have Rg1 := rules kg7 1 _ rfl
            have Rh0 := rules kh7 0 _ rfl
            have Rh1 := rules kh7 1 _ rfl
            obtain ⟨Rg0, Fg0⟩ := Rg0
            obtain ⟨Rg1, Fg1⟩ := Rg1
            obtain ⟨Rh0, Fh0⟩ := Rh0
            obtain ⟨Rh1, Fh1⟩ := Rh1
            have hX := (Ext.rfl' w7).drew'
            go_region_with (((go_at_call 158; refine (integer_signed _ _ _ _ (by exact (uy.ext (by exact exttI))) (by exact dy)).mono ?_; rintro e w8 ⟨vz, rfl, hz, hEz⟩; obtain ⟨nz, az, lz, cz, rfl, uz, dz, nnz, lnz, sz, qz, _⟩ := IsInt.shape hz; have ez := Lib.hid qz; clear qz); have hX8 := (show Ext w7 w8 by exact exttI)))
            all_goals (go_wp2_with (first | fail))
            all_goals (have kg8 := (show Ext w7 w8 by exact exttI).blk kg7; have kh8 := (show Ext w7 w8 by exact exttI).blk kh7)
            all_goals (go_roundw)
            case' rel => exact ⟨Y, val y, nv, av, lv.length, cv, nz, az, lz.length, cz, by exact inttI, (by exact inttI : IsInt y.length _ _ (sgn false (val y))).mono (by omega), by exact heaptI, by exact heaptI, by exact buttI, Lib.hid (by rw [ey.out]; exact gcd_step eu.out ev.out hgc.out)⟩
            case' measure => rw [readL_int Kh hv, readL_int (n := y.length) (z := sgn false (val y)) (by exact heaptI) (by exact inttI), sgn_natAbs, ey.out]; have := Nat.mod_lt (val lu) pv; have e := congrArg Int.natAbs ev.out; rw [sgn_natAbs] at e; rw [e]; exact this
            case' rel => exact ⟨Y, val y, nv, av, lv.length, cv, nz, az, lz.length, cz, by exact inttI, (by exact inttI : IsInt y.length _ _ (sgn false (val y))).mono (by omega), by exact heaptI, by exact heaptI, by exact buttI, Lib.hid (by rw [ey.out]; exact gcd_step eu.out ev.out hgc.out)⟩
            case' measure => rw [readL_int Kh hv, readL_int (n := y.length) (z := sgn false (val y)) (by exact heaptI) (by exact inttI), sgn_natAbs, ey.out]; have := Nat.mod_lt (val lu) pv; have e := congrArg Int.natAbs ev.out; rw [sgn_natAbs] at e; rw [e]; exact this
        · go_wp2_with (first | fail)
          (go_at_call 234; refine (integer_word _ _ _ _ (by exact hv5)).mono ?_; rintro e w6 ⟨⟨t, hrt⟩, hEt⟩)
          replace kg := hEt.blk kg
          replace kh := hEt.blk kh
          clear Cg0 Gg0 Cg1 Gg1 Ch0 Gh0 Ch1 Gh1
          obtain ⟨Cg0, Gg0⟩ := cell_of kg 0 _ rfl
          obtain ⟨Cg1, Gg1⟩ := cell_of kg 1 _ rfl
          obtain ⟨Ch0, Gh0⟩ := cell_of kh 0 _ rfl
          obtain ⟨Ch1, Gh1⟩ := cell_of kh 1 _ rfl
          rcases hrt with ⟨ht1, ht2, rfl⟩ | rfl
          · go_wp2_with (first | fail)
            (go_at_call 170; refine (integer_divide _ _ _ lu lv (uu.ext (by exact exttI)) (uv.ext (by exact exttI)) du dv (by omega) (by omega) pv).mono ?_; rintro e w7 ⟨vx, vy, x, y, rfl, ux, uy, dx, dy, yx, yy, zx, zy, hEx⟩; have ex := Lib.hid yx; clear yx; have ey := Lib.hid yy; clear yy)
            go_wp2_with (first | fail)
            have kg7 := hEx.blk kg
            have kh7 := hEx.blk kh
            have hv7 : IsInt n w7 (.agg #[.bool nv, .slice av lv.length cv]) (Y : Nat) := hv.ext (by exact exttI)
            have hB7 : But [g, h] wc w7 := by exact buttI
            have Rg0 := rules kg7 0 _ rfl
            have Rg1 := rules kg7 1 _ rfl
            have Rh0 := rules kh7 0 _ rfl
            have Rh1 := rules kh7 1 _ rfl
            obtain ⟨Rg0, Fg0⟩ := Rg0
            obtain ⟨Rg1, Fg1⟩ := Rg1
            obtain ⟨Rh0, Fh0⟩ := Rh0
            obtain ⟨Rh1, Fh1⟩ := Rh1
            have hX := (Ext.rfl' w7).drew'
            go_region_with (((go_at_call 158; refine (integer_signed _ _ _ _ (by exact (uy.ext (by exact exttI))) (by exact dy)).mono ?_; rintro e w8 ⟨vz, rfl, hz, hEz⟩; obtain ⟨nz, az, lz, cz, rfl, uz, dz, nnz, lnz, sz, qz, _⟩ := IsInt.shape hz; have ez := Lib.hid qz; clear qz); have hX8 := (show Ext w7 w8 by exact exttI)))
            all_goals (go_wp2_with (first | fail))
            all_goals (have kg8 := (show Ext w7 w8 by exact exttI).blk kg7; have kh8 := (show Ext w7 w8 by exact exttI).blk kh7)
            all_goals (go_roundw)
            case' rel => exact ⟨Y, val y, nv, av, lv.length, cv, nz, az, lz.length, cz, by exact inttI, (by exact inttI : IsInt y.length _ _ (sgn false (val y))).mono (by omega), by exact heaptI, by exact heaptI, by exact buttI, Lib.hid (by rw [ey.out]; exact gcd_step eu.out ev.out hgc.out)⟩
            case' measure => rw [readL_int Kh hv, readL_int (n := y.length) (z := sgn false (val y)) (by exact heaptI) (by exact inttI), sgn_natAbs, ey.out]; have := Nat.mod_lt (val lu) pv; have e := congrArg Int.natAbs ev.out; rw [sgn_natAbs] at e; rw [e]; exact this
            case' rel => exact ⟨Y, val y, nv, av, lv.length, cv, nz, az, lz.length, cz, by exact inttI, (by exact inttI : IsInt y.length _ _ (sgn false (val y))).mono (by omega), by exact heaptI, by exact heaptI, by exact buttI, Lib.hid (by rw [ey.out]; exact gcd_step eu.out ev.out hgc.out)⟩
            case' measure => rw [readL_int Kh hv, readL_int (n := y.length) (z := sgn false (val y)) (by exact heaptI) (by exact inttI), sgn_natAbs, ey.out]; have := Nat.mod_lt (val lu) pv; have e := congrArg Int.natAbs ev.out; rw [sgn_natAbs] at e; rw [e]; exact this
          · go_wp2_with (first | fail)
            (go_at_call 170; refine (integer_divide _ _ _ lu lv (uu.ext (by exact exttI)) (uv.ext (by exact exttI)) du dv (by omega) (by omega) pv).mono ?_; rintro e w7 ⟨vx, vy, x, y, rfl, ux, uy, dx, dy, yx, yy, zx, zy, hEx⟩; have ex := Lib.hid yx; clear yx; have ey := Lib.hid yy; clear yy)
            go_wp2_with (first | fail)
            have kg7 := hEx.blk kg
            have kh7 := hEx.blk kh
            have hv7 : IsInt n w7 (.agg #[.bool nv, .slice av lv.length cv]) (Y : Nat) := hv.ext (by exact exttI)
            have hB7 : But [g, h] wc w7 := by exact buttI
            have Rg0 := rules kg7 0 _ rfl
            have Rg1 := rules kg7 1 _ rfl
            have Rh0 := rules kh7 0 _ rfl
            have Rh1 := rules kh7 1 _ rfl
            obtain ⟨Rg0, Fg0⟩ := Rg0
            obtain ⟨Rg1, Fg1⟩ := Rg1
            obtain ⟨Rh0, Fh0⟩ := Rh0
            obtain ⟨Rh1, Fh1⟩ := Rh1
            have hX := (Ext.rfl' w7).drew'
            go_region_with (((go_at_call 158; refine (integer_signed _ _ _ _ (by exact (uy.ext (by exact exttI))) (by exact dy)).mono ?_; rintro e w8 ⟨vz, rfl, hz, hEz⟩; obtain ⟨nz, az, lz, cz, rfl, uz, dz, nnz, lnz, sz, qz, _⟩ := IsInt.shape hz; have ez := Lib.hid qz; clear qz); have hX8 := (show Ext w7 w8 by exact exttI)))
            all_goals (go_wp2_with (first | fail))
            all_goals (have kg8 := (show Ext w7 w8 by exact exttI).blk kg7; have kh8 := (show Ext w7 w8 by exact exttI).blk kh7)
            all_goals (go_roundw)
            case' rel => exact ⟨Y, val y, nv, av, lv.length, cv, nz, az, lz.length, cz, by exact inttI, (by exact inttI : IsInt y.length _ _ (sgn false (val y))).mono (by omega), by exact heaptI, by exact heaptI, by exact buttI, Lib.hid (by rw [ey.out]; exact gcd_step eu.out ev.out hgc.out)⟩
            case' measure => rw [readL_int Kh hv, readL_int (n := y.length) (z := sgn false (val y)) (by exact heaptI) (by exact inttI), sgn_natAbs, ey.out]; have := Nat.mod_lt (val lu) pv; have e := congrArg Int.natAbs ev.out; rw [sgn_natAbs] at e; rw [e]; exact this
            case' rel => exact ⟨Y, val y, nv, av, lv.length, cv, nz, az, lz.length, cz, by exact inttI, (by exact inttI : IsInt y.length _ _ (sgn false (val y))).mono (by omega), by exact heaptI, by exact heaptI, by exact buttI, Lib.hid (by rw [ey.out]; exact gcd_step eu.out ev.out hgc.out)⟩
            case' measure => rw [readL_int Kh hv, readL_int (n := y.length) (z := sgn false (val y)) (by exact heaptI) (by exact inttI), sgn_natAbs, ey.out]; have := Nat.mod_lt (val lu) pv; have e := congrArg Int.natAbs ev.out; rw [sgn_natAbs] at e; rw [e]; exact this
end Go.Proofs.YtechjiiijiipdaaGreatDoor
namespace Go.Proofs.YtechjiiijiipdaaGreatDoor
open Go.RowKit
set_option linter.unusedSimpArgs false
set_option linter.unusedVariables false

theorem IsInt.form {n : Nat} {w : World} {v : Value} {z : Int} (h : IsInt n w v z) : ∃ b a k c, v = .agg #[.bool b, .slice a k c] := by
  obtain ⟨b, a, l, c, rfl, _⟩ := h.shape
  exact ⟨b, a, _, c, rfl⟩
attribute [local irreducible] IsInt U32s Dig Norm Own
set_option maxRecDepth 100000 in
theorem rational_unit (w : World) : Calls Tryz.prog 206 #[] w fun e w' => ∃ v, e = .returned v ∧ IsInt 3 w' v 1 ∧ Ext w w' := by
  go_enter Tryz.func206, Tryz.ntmps206
  go_wp2_with (first | fail)
  obtain ⟨w3, r, e1, e2, h1, hE⟩ := box1 w (.cells #[.bool false, .slice none 0 0] 53)
  rw [e1, e2]
  have hge : ∀ k, k ∈ [r] → w.heap.size ≤ k := by simp; omega
  have hbxr : Box _ r := Box.mk h1 rfl
  obtain ⟨Rr0, Fr0⟩ := rulesR (rs := [r]) h1 (by simp) 0 (by simp)
  obtain ⟨Rr1, Fr1⟩ := rulesR (rs := [r]) h1 (by simp) 1 (by simp)
  (go_at_call 114; refine (integer_FromInt64 _ 1 (by omega) (by omega)).mono ?_; rintro e w5 ⟨vx, rfl, hx, hEx⟩; obtain ⟨nx, ax, kx, cx, rfl⟩ := IsInt.form hx)
  have hB : But [r] w3 w5 := by exact buttI
  have hBr0 := Rr0 _ hB
  have hBr1 := Rr1 _ hB
  have hFr0 := Fr0 _ hB
  have hFr1 := Fr1 _ hB
  go_wp2
  exact bodyPost_ret (v := .agg #[.bool nx, .slice ax kx cx]) (by simp [results, Tryz.results206, go_sem, hBr0, hBr1]) rfl ⟨_, rfl, IsInt.put hx hB (by simp) rfl, ((hB.set _ _ rfl (by simp)).set _ _ rfl (by simp)).old hE hge⟩

set_option maxRecDepth 100000 in
set_option maxHeartbeats 1000000 in
theorem rational_exact (n m : Nat) (w : World) (va vb : Value) (a b : Int) (ha : IsInt n w va a) (hb : IsInt m w vb b) (hn : n < 300000) (hm : m < 300000) (hp : 0 < b) :
    Calls Tryz.prog 207 #[va, vb] w fun e w' => ∃ v, e = .returned v ∧ IsInt n w' v (a / b) ∧ Ext w w' := by
  obtain ⟨na, aa, ka, ca, rfl⟩ := IsInt.form ha
  obtain ⟨nb, ab, kb, cb, rfl⟩ := IsInt.form hb
  go_enter Tryz.func207, Tryz.ntmps207
  go_upto_region 1 with (fail)
  obtain ⟨w3, p, q, r, e1, e2, e3, e4, h1, h2, h3, hpq, hpr, hqr, hE⟩ := box3 w (.cells #[.bool na, .slice aa ka ca] 53) (.cells #[.bool nb, .slice ab kb cb] 53) (.cells #[.bool false, .slice none 0 0] 53)
  rw [e1, e2, e3, e4]
  have hge : ∀ k, k ∈ [r] → w.heap.size ≤ k := by simp; omega
  clear e1 e2 e3 e4
  obtain ⟨Cp0, Gp0⟩ := cell_of h1 0 _ rfl
  obtain ⟨Cp1, Gp1⟩ := cell_of h1 1 _ rfl
  obtain ⟨Cq0, Gq0⟩ := cell_of h2 0 _ rfl
  obtain ⟨Cq1, Gq1⟩ := cell_of h2 1 _ rfl
  go_wp2_with (first | fail)
  (go_at_call 115; refine (integer_DivMod _ _ _ _ _ _ _ (ha.ext hE) (hb.ext hE) (by omega) (by omega) hp).mono ?_; rintro e w5 ⟨vx, vy, rfl, hx, hy, hEx⟩; obtain ⟨nx, ax, kx, cx, rfl⟩ := IsInt.form hx; obtain ⟨ny, ay, ky, cy, rfl⟩ := IsInt.form hy)
  go_upto_region 2 with (fail)
  obtain ⟨w6, s, t, f1, f2, f3, k1, k2, hst, hE6⟩ := box2 w5 (.cells #[.bool nx, .slice ax kx cx] 53) (.cells #[.bool ny, .slice ay ky cy] 53)
  rw [f1, f2, f3]
  clear f1 f2 f3
  have h3' := hE6.blk (hEx.blk h3)
  obtain ⟨Cs0, Gs0⟩ := cell_of k1 0 _ rfl
  obtain ⟨Cs1, Gs1⟩ := cell_of k1 1 _ rfl
  have hbxr : Box _ r := Box.mk h3' rfl
  obtain ⟨Rr0, Fr0⟩ := rulesR (rs := [r]) h3' (by simp) 0 (by simp)
  obtain ⟨Rr1, Fr1⟩ := rulesR (rs := [r]) h3' (by simp) 1 (by simp)
  have hB : But [r] w6 w6 := by exact buttI
  have hBr0 := Rr0 _ hB
  have hBr1 := Rr1 _ hB
  have hFr0 := Fr0 _ hB
  have hFr1 := Fr1 _ hB
  replace hE : Ext w w6 := by exact exttI
  go_wp2
  exact bodyPost_ret (v := .agg #[.bool nx, .slice ax kx cx]) (by simp [results, Tryz.results207, go_sem, hBr0, hBr1]) rfl ⟨_, rfl, IsInt.put (hx.ext hE6) hB (by simp) rfl, ((hB.set _ _ rfl (by simp)).set _ _ rfl (by simp)).old hE hge⟩

/-- v is an api.Rat in normal form that shows x; its integers have at most n limbs. -/
def IsRat (n : Nat) (w : World) (v : Value) (x : Rat) : Prop :=
  ∃ (nc : Bool) (ac : Option Addr) (kc cc : Nat) (nd : Bool) (ad : Option Addr) (kd cd : Nat), v = .agg #[.bool nc, .slice ac kc cc, .bool nd, .slice ad kd cd] ∧ IsInt n w (.agg #[.bool nc, .slice ac kc cc]) x.num ∧ IsInt n w (.agg #[.bool nd, .slice ad kd cd]) (x.den : Int)
theorem IsRat.ext {n : Nat} {w w' : World} {v : Value} {x : Rat} (h : IsRat n w v x) (e : Ext w w') : IsRat n w' v x := by
  obtain ⟨_, _, _, _, _, _, _, _, h, ha, hb⟩ := h
  exact ⟨_, _, _, _, _, _, _, _, h, ha.ext e, hb.ext e⟩
theorem IsRat.mono {n m : Nat} {w : World} {v : Value} {x : Rat} (h : IsRat n w v x) (e : n ≤ m) : IsRat m w v x := by
  obtain ⟨_, _, _, _, _, _, _, _, h, ha, hb⟩ := h
  exact ⟨_, _, _, _, _, _, _, _, h, ha.mono e, hb.mono e⟩
theorem IsRat.cast {n : Nat} {w : World} {v : Value} {x y : Rat} (h : IsRat n w v x) (e : x = y) : IsRat n w v y := e ▸ h
theorem divInt_num_pos (a b : Int) (hb : 0 < b) : (Rat.divInt a b).num = a / (Int.gcd a b : Nat) := by
  rw [Rat.num_divInt, Int.sign_eq_one_of_pos hb, Int.one_mul, Int.gcd_comm]
theorem divInt_den_pos (a b : Int) (hb : 0 < b) : ((Rat.divInt a b).den : Int) = b / (Int.gcd a b : Nat) := by
  rw [Rat.den_divInt, if_neg (by omega), Int.gcd_comm, Int.natCast_ediv, Int.natAbs_of_nonneg (by omega)]
end Go.Proofs.YtechjiiijiipdaaGreatDoor
namespace Go.Proofs.YtechjiiijiipdaaGreatDoor
open Go.RowKit
set_option linter.unusedSimpArgs false
set_option linter.unusedVariables false
theorem Rat.divInt_neg' (a b : Int) : Rat.divInt (-a) (-b) = Rat.divInt a b := Rat.neg_divInt_neg a b
theorem IsRat.but {rs : List Nat} {n r i : Nat} {a b : World} {u v : Value} {z : Rat} (h : IsRat n b v z) (hb : But rs a b) (hm : r ∈ rs) : IsRat n (b.setCell ⟨r, i, none⟩ u) v z := by
  obtain ⟨_, _, _, _, _, _, _, _, h, h1, h2⟩ := h
  exact ⟨_, _, _, _, _, _, _, _, h, h1.but hb hm, h2.but hb hm⟩
theorem IsRat.put4 {rs : List Nat} {n r : Nat} {a b : World} {x y : Bool} {t : Value} {v : Value} {z : Rat} {a1 : Option Addr} {k1 c1 : Nat} (hb : But rs a b) (hm : r ∈ rs) (h : IsRat n b v z) :
    IsRat n ((((b.setCell ⟨r, 0, none⟩ (.bool x)).setCell ⟨r, 1, none⟩ (.slice a1 k1 c1)).setCell ⟨r, 2, none⟩ (.bool y)).setCell ⟨r, 3, none⟩ t) v z :=
  (((h.but hb hm).but (hb.set _ _ rfl hm) hm).but ((hb.set _ _ rfl hm).set _ _ rfl hm) hm).but (((hb.set _ _ rfl hm).set _ _ rfl hm).set _ _ rfl hm) hm
attribute [local irreducible] IsInt U32s Dig Norm Own
set_option maxRecDepth 100000 in
set_option maxHeartbeats 2000000 in
theorem rational_reduce (n : Nat) (w : World) (va vb : Value) (a b : Int) (ha : IsInt n w va a) (hb : IsInt n w vb b) (hn : n < 200000) (h0 : b ≠ 0) :
    Calls Tryz.prog 151 #[va, vb] w fun e w' => ∃ v, e = .returned v ∧ IsRat n w' v (Rat.divInt a b) ∧ Ext w w' := by
  obtain ⟨na, aa, ka, ca, rfl⟩ := IsInt.form ha
  obtain ⟨nb, ab, kb, cb, rfl⟩ := IsInt.form hb
  go_enter Tryz.func151, Tryz.ntmps151
  go_upto_region 1 with (fail)
  obtain ⟨w3, p, q, r, e1, e2, e3, e4, h1, h2, h3, hpq, hpr, hqr, hE⟩ := box3 w (.cells #[.bool na, .slice aa ka ca] 53) (.cells #[.bool nb, .slice ab kb cb] 53) (.cells #[.bool false, .slice none 0 0, .bool false, .slice none 0 0] 55)
  rw [e1, e2, e3, e4]
  have hp0 : w.heap.size ≤ p := by omega
  have hq0 : w.heap.size ≤ q := by omega
  have hr0 : w.heap.size ≤ r := by omega
  clear e1 e2 e3 e4
  obtain ⟨Cp0, Gp0⟩ := cell_of h1 0 _ rfl
  obtain ⟨Cp1, Gp1⟩ := cell_of h1 1 _ rfl
  obtain ⟨Cq0, Gq0⟩ := cell_of h2 0 _ rfl
  obtain ⟨Cq1, Gq1⟩ := cell_of h2 1 _ rfl
  go_upto_if 8 with (go_at_call 116; refine (integer_Sign _ _ _ _ (hb.ext hE)).mono ?_; rintro e w5 ⟨rfl, hE5⟩)
  replace h1 := hE5.blk h1
  replace h2 := hE5.blk h2
  replace h3 := hE5.blk h3
  replace hE := hE.trans' hE5
  clear hE5 Cp0 Gp0 Cp1 Gp1 Cq0 Gq0 Cq1 Gq1
  go_cut [] (fun w' => ∃ (nc : Bool) (ac : Option Addr) (kc cc : Nat) (nd : Bool) (ad : Option Addr) (kd cd : Nat) (A B : Int), w'.heap[p]? = some (.cells #[.bool nc, .slice ac kc cc] 53) ∧ w'.heap[q]? = some (.cells #[.bool nd, .slice ad kd cd] 53) ∧ w'.heap[r]? = some (.cells #[.bool false, .slice none 0 0, .bool false, .slice none 0 0] 55) ∧
      IsInt n w' (.agg #[.bool nc, .slice ac kc cc]) A ∧ IsInt n w' (.agg #[.bool nd, .slice ad kd cd]) B ∧ 0 < B ∧ Hid (Rat.divInt A B = Rat.divInt a b) ∧ Ext w w')
  case first =>
    by_cases hb1 : b < 0
    · have hs : decide (b.sign < 0) = true := by rw [Int.sign_eq_neg_one_of_neg hb1]; rfl
      have ha5 := ha.ext hE
      have hb5 := hb.ext hE
      obtain ⟨Rp0, Fp0⟩ := rules h1 0 _ rfl
      obtain ⟨Rp1, Fp1⟩ := rules h1 1 _ rfl
      obtain ⟨Rq0, Fq0⟩ := rules h2 0 _ rfl
      obtain ⟨Rq1, Fq1⟩ := rules h2 1 _ rfl
      go_wp2_with (first | fail)
      (refine wp_region_noPanic ?_; refine wp_region_head 4 (fun w' => Ext w5 w') (by kernel_rfl) (by kernel_rfl) ?_ (fun hHeld => ?_); (focus (show Ext _ _; exact exttI)); (try simp only [List.size_toArray, List.length_cons, List.length_nil]))
      (refine wpHead_take 0 (by kernel_rfl) (fun _ _ _ _ _ h => h) (by assumption) ?_; simp only [atOp]; refine ⟨by rfl, ?_, ?_, ?_⟩; rotate_left; (focus (intro w' hSw; (try dsimp only at hSw); go_simp; (try with_reducible rfl))); (try simp only [Act.put, List.setIfInBounds_toArray, List.set_cons_zero, List.set_cons_succ]))
      (refine wpHead_take 2 (by kernel_rfl) (fun _ _ _ _ _ h => h) (by assumption) ?_; simp only [atOp]; refine ⟨by rfl, ?_, ?_, ?_⟩; rotate_left; (focus (intro w' hSw; (try dsimp only at hSw); go_simp; (try with_reducible rfl))); (try simp only [Act.put, List.setIfInBounds_toArray, List.set_cons_zero, List.set_cons_succ]))
      (refine wpHead_only 1 (by kernel_rfl) ?_; simp only [atOp]; intro K hK; go_simp; ((go_at_call 92; refine (integer_Neg _ _ _ _ (ha5.ext (by exact exttI))).mono ?_; rintro e w6 ⟨vx, rfl, hx, hEx⟩; obtain ⟨nx, ax, kx, cx, rfl⟩ := IsInt.form hx); have hX6 := (show Ext w5 w6 by exact exttI)); refine hK.out _ _ ?_ (fun hHeld => ?_); (focus (show Ext _ _; exact exttI)); clear hK K; (try simp only [Act.put, List.setIfInBounds_toArray, List.set_cons_zero, List.set_cons_succ]))
      (refine wpHead_only 3 (by kernel_rfl) ?_; simp only [atOp]; intro K hK; go_simp; ((go_at_call 92; refine (integer_Neg _ _ _ _ (hb5.ext (by exact exttI))).mono ?_; rintro e w7 ⟨vy, rfl, hy, hEy⟩; obtain ⟨ny, ay, ky, cy, rfl⟩ := IsInt.form hy); have hX7 := (show Ext w5 w7 by exact exttI)); refine hK.out _ _ ?_ (fun hHeld => ?_); (focus (show Ext _ _; exact exttI)); clear hK K; (try simp only [Act.put, List.setIfInBounds_toArray, List.set_cons_zero, List.set_cons_succ]))
      (refine wpHead_done (by kernel_rfl) ?_; simp only [List.drop_succ_cons, List.drop_zero])
      replace h1 := hX7.blk h1
      replace h2 := hX7.blk h2
      replace h3 := hX7.blk h3
      replace hE := hE.trans' hX7
      replace hx := hx.ext hEy
      clear Rp0 Fp0 Rp1 Fp1 Rq0 Fq0 Rq1 Fq1
      obtain ⟨Cp0, Gp0⟩ := cell_of h1 0 _ rfl
      obtain ⟨Cp1, Gp1⟩ := cell_of h1 1 _ rfl
      obtain ⟨Cq0, Gq0⟩ := cell_of h2 0 _ rfl
      obtain ⟨Cq1, Gq1⟩ := cell_of h2 1 _ rfl
      go_wp2_with fail
      refine NoPanic.normal ?_
      go_wp2_with fail
      go_meet
      exact ⟨nx, ax, kx, cx, ny, ay, ky, cy, -a, -b, by exact heaptI, by exact heaptI, put2_far (put2_far h3 (by omega)) (by omega), by exact inttI, by exact inttI, by omega, Lib.hid (Rat.divInt_neg' a b), by exact exttI⟩
    · have hs : decide (b.sign < 0) = false := by rw [Int.sign_eq_one_of_pos (by omega)]; rfl
      go_wp2_with (first | fail)
      go_meet
      exact ⟨na, aa, ka, ca, nb, ab, kb, cb, a, b, h1, h2, h3, ha.ext hE, hb.ext hE, by omega, rfl, hE⟩
  case rest =>
    clear ha hb h0 hE h1 h2 h3
    obtain ⟨nc, ac, kc, cc, nd, ad, kd, cd, A, B, h1, h2, h3, hc, hd, h0, hAB, hE⟩ := hcut
    obtain ⟨Cp0, Gp0⟩ := cell_of h1 0 _ rfl
    obtain ⟨Cp1, Gp1⟩ := cell_of h1 1 _ rfl
    obtain ⟨Cq0, Gq0⟩ := cell_of h2 0 _ rfl
    obtain ⟨Cq1, Gq1⟩ := cell_of h2 1 _ rfl
    go_upto_region 4 with ((go_at_call 205; refine (integer_GCD _ _ _ _ _ _ hc hd (by omega)).mono ?_; rintro e w6 ⟨vg, rfl, hg, hEg⟩; obtain ⟨ng, ag, kg, cg, rfl⟩ := IsInt.form hg))
    obtain ⟨w7, s, f1, f2, k4, hE7⟩ := box1 w6 (.cells #[.bool ng, .slice ag kg cg] 53)
    rw [f1, f2]
    have hs0 : w.heap.size ≤ s := by have := hE.size; have := hEg.size; omega
    clear f1 f2
    have hX7 := hEg.trans' hE7
    replace h1 := hX7.blk h1
    replace h2 := hX7.blk h2
    replace h3 := hX7.blk h3
    replace hE := hE.trans' hX7
    replace hg := hg.ext hE7
    replace hc := hc.ext hX7
    replace hd := hd.ext hX7
    have gpos : 0 < Int.gcd A B := Int.gcd_pos_of_ne_zero_right _ (by omega)
    clear hEg hE7 hX7 Cp0 Gp0 Cp1 Gp1 Cq0 Gq0 Cq1 Gq1
    obtain ⟨Rp0, Fp0⟩ := rules h1 0 _ rfl
    obtain ⟨Rp1, Fp1⟩ := rules h1 1 _ rfl
    obtain ⟨Rq0, Fq0⟩ := rules h2 0 _ rfl
    obtain ⟨Rq1, Fq1⟩ := rules h2 1 _ rfl
    obtain ⟨Rs0, _⟩ := rules k4 0 _ rfl
    obtain ⟨Rs1, _⟩ := rules k4 1 _ rfl
    by_cases g1 : Int.gcd A B = 1
    · have hcmp : Hid (cmpI (Int.gcd A B : Nat) 1 = 0) := by rw [g1]; rfl
      have hG := Lib.hid g1
      clear g1
      go_region_held3 (fun w' => Ext w7 w') (exact exttI) (first | ((go_at_call 206; refine (rational_unit _).mono ?_; rintro e w8 ⟨vu, rfl, hu, hEu⟩; obtain ⟨nu, au, ku, cu, rfl⟩ := IsInt.form hu); have hX8 := (show Ext w7 w8 by exact exttI)) | ((go_at_call 150; refine (integer_Cmp _ _ _ _ _ _ _ (hg.ext (by exact exttI)) (hu.ext (by exact exttI))).mono ?_; rintro e w9 ⟨rfl, hEw9⟩); rw [hcmp.out]; have hX9 := (show Ext w7 w9 by exact exttI)))
      have hE9 : Ext w w9 := by exact exttI
      have h3' := hX9.blk h3
      have hbxr : Box _ r := Box.mk h3' rfl
      obtain ⟨Rr0, Fr0⟩ := rulesR (rs := [r]) h3' (by simp) 0 (by simp)
      obtain ⟨Rr1, Fr1⟩ := rulesR (rs := [r]) h3' (by simp) 1 (by simp)
      obtain ⟨Rr2, Fr2⟩ := rulesR (rs := [r]) h3' (by simp) 2 (by simp)
      obtain ⟨Rr3, Fr3⟩ := rulesR (rs := [r]) h3' (by simp) 3 (by simp)
      have hbx : Box w9 r := Box.mk h3' rfl
      have hB : But [r] w9 w9 := by exact buttI
      have hBr0 := Rr0 _ hB
      have hBr1 := Rr1 _ hB
      have hBr2 := Rr2 _ hB
      have hBr3 := Rr3 _ hB
      have hFr0 := Fr0 _ hB
      have hFr1 := Fr1 _ hB
      have hFr2 := Fr2 _ hB
      have hFr3 := Fr3 _ hB
      have hi1 := hc.ext hX9
      have hi2 := hd.ext hX9
      go_wp2_with (first | fail)
      exact bodyPost_ret (v := .agg #[.bool nc, .slice ac kc cc, .bool nd, .slice ad kd cd]) (by simp [results, Tryz.results151, go_sem, hBr0, hBr1, hBr2, hBr3]) rfl ⟨_, rfl, IsRat.put4 hB (by simp) ⟨_, _, _, _, _, _, _, _, rfl, hi1.cast (by rw [← hAB.out, divInt_num_pos _ _ h0, hG.out]; simp), hi2.cast (by rw [← hAB.out, divInt_den_pos _ _ h0, hG.out]; simp)⟩, (((((hB.set _ _ rfl (by simp)).set _ _ rfl (by simp)).set _ _ rfl (by simp)).set _ _ rfl (by simp)).old hE9 (by simp; omega))⟩
    · have hcmp : Hid (cmpI (Int.gcd A B : Nat) 1 = 1) := by
        refine Lib.hid ?_
        rw [cmpI, if_neg (by omega), if_pos (by omega)]
      go_region_held3 (fun w' => Ext w7 w') (exact exttI) (first | ((go_at_call 206; refine (rational_unit _).mono ?_; rintro e w8 ⟨vu, rfl, hu, hEu⟩; obtain ⟨nu, au, ku, cu, rfl⟩ := IsInt.form hu); have hX8 := (show Ext w7 w8 by exact exttI)) | ((go_at_call 150; refine (integer_Cmp _ _ _ _ _ _ _ (hg.ext (by exact exttI)) (hu.ext (by exact exttI))).mono ?_; rintro e w9 ⟨rfl, hEw9⟩); rw [hcmp.out]; have hX9 := (show Ext w7 w9 by exact exttI)))
      go_wp2_with (first | fail)
      (refine wp_region_noPanic ?_; refine wp_region_head 6 (fun w' => Ext w7 w') (by kernel_rfl) (by kernel_rfl) ?_ (fun hHeld => ?_); (focus (show Ext _ _; exact exttI)); (try simp only [List.size_toArray, List.length_cons, List.length_nil]))
      (refine wpHead_take 0 (by kernel_rfl) (fun _ _ _ _ _ h => h) (by assumption) ?_; simp only [atOp]; refine ⟨by rfl, ?_, ?_, ?_⟩; rotate_left; (focus (intro w' hSw; (try dsimp only at hSw); go_simp; (try with_reducible rfl))); (try simp only [Act.put, List.setIfInBounds_toArray, List.set_cons_zero, List.set_cons_succ]))
      (refine wpHead_take 1 (by kernel_rfl) (fun _ _ _ _ _ h => h) (by assumption) ?_; simp only [atOp]; refine ⟨by rfl, ?_, ?_, ?_⟩; rotate_left; (focus (intro w' hSw; (try dsimp only at hSw); go_simp; (try with_reducible rfl))); (try simp only [Act.put, List.setIfInBounds_toArray, List.set_cons_zero, List.set_cons_succ]))
      (refine wpHead_take 3 (by kernel_rfl) (fun _ _ _ _ _ h => h) (by assumption) ?_; simp only [atOp]; refine ⟨by rfl, ?_, ?_, ?_⟩; rotate_left; (focus (intro w' hSw; (try dsimp only at hSw); go_simp; (try with_reducible rfl))); (try simp only [Act.put, List.setIfInBounds_toArray, List.set_cons_zero, List.set_cons_succ]))
      (refine wpHead_take 4 (by kernel_rfl) (fun _ _ _ _ _ h => h) (by assumption) ?_; simp only [atOp]; refine ⟨by rfl, ?_, ?_, ?_⟩; rotate_left; (focus (intro w' hSw; (try dsimp only at hSw); go_simp; (try with_reducible rfl))); (try simp only [Act.put, List.setIfInBounds_toArray, List.set_cons_zero, List.set_cons_succ]))
      (refine wpHead_only 2 (by kernel_rfl) ?_; simp only [atOp]; intro K hK; go_simp; ((go_at_call 207; refine (rational_exact _ _ _ _ _ _ _ (hc.ext (by exact exttI)) (hg.ext (by exact exttI)) (by omega) (by omega) (by omega)).mono ?_; rintro e wa ⟨vx, rfl, hx, hEx⟩; obtain ⟨nx, ax, kx, cx, rfl⟩ := IsInt.form hx); have hXa := (show Ext w7 wa by exact exttI)); refine hK.out _ _ ?_ (fun hHeld => ?_); (focus (show Ext _ _; exact exttI)); clear hK K; (try simp only [Act.put, List.setIfInBounds_toArray, List.set_cons_zero, List.set_cons_succ]))
      (refine wpHead_only 5 (by kernel_rfl) ?_; simp only [atOp]; intro K hK; go_simp; ((go_at_call 207; refine (rational_exact _ _ _ _ _ _ _ (hd.ext (by exact exttI)) (hg.ext (by exact exttI)) (by omega) (by omega) (by omega)).mono ?_; rintro e wb ⟨vy, rfl, hy, hEy⟩; obtain ⟨ny, ay, ky, cy, rfl⟩ := IsInt.form hy); have hXb := (show Ext w7 wb by exact exttI)); refine hK.out _ _ ?_ (fun hHeld => ?_); (focus (show Ext _ _; exact exttI)); clear hK K; (try simp only [Act.put, List.setIfInBounds_toArray, List.set_cons_zero, List.set_cons_succ]))
      (refine wpHead_done (by kernel_rfl) ?_; simp only [List.drop_succ_cons, List.drop_zero])
      have k1 := hXb.blk h1
      have k2 := hXb.blk h2
      have k3 := hXb.blk h3
      clear Rp0 Fp0 Rp1 Fp1 Rq0 Fq0 Rq1 Fq1 Rs0 Rs1
      obtain ⟨Cp0, Gp0⟩ := cell_of k1 0 _ rfl
      obtain ⟨Cp1, Gp1⟩ := cell_of k1 1 _ rfl
      obtain ⟨Cq0, Gq0⟩ := cell_of k2 0 _ rfl
      obtain ⟨Cq1, Gq1⟩ := cell_of k2 1 _ rfl
      replace hx := hx.ext hEy
      go_wp2_with fail
      refine NoPanic.normal ?_
      generalize hW : World.setCell (World.setCell (World.setCell (World.setCell wb _ _) _ _) _ _) _ _ = w9
      have k4 : w9.heap[p]? = some (.cells #[.bool nx, .slice ax kx cx] 53) := by rw [← hW]; exact heaptI
      have k5 : w9.heap[q]? = some (.cells #[.bool ny, .slice ay ky cy] 53) := by rw [← hW]; exact heaptI
      have k6 : w9.heap[r]? = some (.cells #[.bool false, .slice none 0 0, .bool false, .slice none 0 0] 55) := by rw [← hW]; exact put2_far (put2_far k3 (by omega)) (by omega)
      have hi1 : IsInt n w9 (.agg #[.bool nx, .slice ax kx cx]) (A / (Int.gcd A B : Nat)) := by rw [← hW]; exact inttI
      have hi2 : IsInt n w9 (.agg #[.bool ny, .slice ay ky cy]) (B / (Int.gcd A B : Nat)) := by rw [← hW]; exact inttI
      have hE9 : Ext w w9 := by
        rw [← hW]
        have : Ext w wb := by exact exttI
        exact ((((this.setN hp0).setN hp0).setN hq0).setN hq0)
      clear hW Cp0 Gp0 Cp1 Gp1 Cq0 Gq0 Cq1 Gq1 k1 k2 k3 hEy hEx hEu hX9 hX8 hE h1 h2 h3 hXa hXb
      obtain ⟨Cp0, Gp0⟩ := cell_of k4 0 _ rfl
      obtain ⟨Cp1, Gp1⟩ := cell_of k4 1 _ rfl
      obtain ⟨Cq0, Gq0⟩ := cell_of k5 0 _ rfl
      obtain ⟨Cq1, Gq1⟩ := cell_of k5 1 _ rfl
      have hbxr : Box _ r := Box.mk k6 rfl
      obtain ⟨Rr0, Fr0⟩ := rulesR (rs := [r]) k6 (by simp) 0 (by simp)
      obtain ⟨Rr1, Fr1⟩ := rulesR (rs := [r]) k6 (by simp) 1 (by simp)
      obtain ⟨Rr2, Fr2⟩ := rulesR (rs := [r]) k6 (by simp) 2 (by simp)
      obtain ⟨Rr3, Fr3⟩ := rulesR (rs := [r]) k6 (by simp) 3 (by simp)
      have hB : But [r] w9 w9 := by exact buttI
      have hBr0 := Rr0 _ hB
      have hBr1 := Rr1 _ hB
      have hBr2 := Rr2 _ hB
      have hBr3 := Rr3 _ hB
      have hFr0 := Fr0 _ hB
      have hFr1 := Fr1 _ hB
      have hFr2 := Fr2 _ hB
      have hFr3 := Fr3 _ hB
      go_wp2_with (first | fail)
      exact bodyPost_ret (v := .agg #[.bool nx, .slice ax kx cx, .bool ny, .slice ay ky cy]) (by simp [results, Tryz.results151, go_sem, hBr0, hBr1, hBr2, hBr3]) rfl ⟨_, rfl, IsRat.put4 hB (by simp) ⟨_, _, _, _, _, _, _, _, rfl, hi1.cast (by rw [← hAB.out, divInt_num_pos _ _ h0]), hi2.cast (by rw [← hAB.out, divInt_den_pos _ _ h0])⟩, (((((hB.set _ _ rfl (by simp)).set _ _ rfl (by simp)).set _ _ rfl (by simp)).set _ _ rfl (by simp)).old hE9 (by simp; omega))⟩
end Go.Proofs.YtechjiiijiipdaaGreatDoor
namespace Go.Proofs.YtechjiiijiipdaaGreatDoor
open Go.RowKit
set_option linter.unusedSimpArgs false
set_option linter.unusedVariables false
theorem IsRat.form {n : Nat} {w : World} {v : Value} {x : Rat} (h : IsRat n w v x) : ∃ (nc : Bool) (ac : Option Addr) (kc cc : Nat) (nd : Bool) (ad : Option Addr) (kd cd : Nat), v = .agg #[.bool nc, .slice ac kc cc, .bool nd, .slice ad kd cd] ∧ IsInt n w (.agg #[.bool nc, .slice ac kc cc]) x.num ∧ IsInt n w (.agg #[.bool nd, .slice ad kd cd]) (x.den : Int) := h
theorem IsRat.mk {n : Nat} {w : World} {nc : Bool} {ac : Option Addr} {kc cc : Nat} {nd : Bool} {ad : Option Addr} {kd cd : Nat} {x : Rat} (h1 : IsInt n w (.agg #[.bool nc, .slice ac kc cc]) x.num) (h2 : IsInt n w (.agg #[.bool nd, .slice ad kd cd]) (x.den : Int)) : IsRat n w (.agg #[.bool nc, .slice ac kc cc, .bool nd, .slice ad kd cd]) x := ⟨_, _, _, _, _, _, _, _, rfl, h1, h2⟩
theorem IsRat.whole {n : Nat} {w : World} {nc : Bool} {ac : Option Addr} {kc cc : Nat} {nd : Bool} {ad : Option Addr} {kd cd : Nat} {z : Int} (h1 : IsInt n w (.agg #[.bool nc, .slice ac kc cc]) z) (h2 : IsInt n w (.agg #[.bool nd, .slice ad kd cd]) 1) : IsRat n w (.agg #[.bool nc, .slice ac kc cc, .bool nd, .slice ad kd cd]) (z : Rat) := IsRat.mk h1 h2
attribute [local irreducible] IsInt U32s Dig Norm Own IsRat
set_option maxRecDepth 100000 in
set_option maxHeartbeats 1000000 in
theorem rational_Make (n : Nat) (w : World) (va vb : Value) (a b : Int) (ha : IsInt n w va a) (hb : IsInt n w vb b) (hn : n < 200000) (h0 : b ≠ 0) :
    Calls Tryz.prog 101 #[va, vb] w fun e w' => ∃ v, e = .returned (.tuple #[v, .int .i64 0]) ∧ IsRat n w' v (Rat.divInt a b) ∧ Ext w w' := by
  obtain ⟨na, aa, ka, ca, rfl⟩ := IsInt.form ha
  obtain ⟨nb, ab, kb, cb, rfl⟩ := IsInt.form hb
  have hsg : (b.sign == 0) = false := by simpa using h0
  go_enter Tryz.func101, Tryz.ntmps101
  go_upto_region 1 with (fail)
  obtain ⟨w3, p, q, r, e1, e2, e3, e4, h1, h2, h3, hpq, hpr, hqr, hE⟩ := box3 w (.cells #[.bool na, .slice aa ka ca] 53) (.cells #[.bool nb, .slice ab kb cb] 53) (.cells #[.bool false, .slice none 0 0, .bool false, .slice none 0 0] 55)
  rw [e1, e2, e3, e4]
  have hr0 : w.heap.size ≤ r := by omega
  clear e1 e2 e3 e4
  obtain ⟨Rp0, Fp0⟩ := rules h1 0 _ rfl
  obtain ⟨Rp1, Fp1⟩ := rules h1 1 _ rfl
  obtain ⟨Rq0, Fq0⟩ := rules h2 0 _ rfl
  obtain ⟨Rq1, Fq1⟩ := rules h2 1 _ rfl
  obtain ⟨Rr0, Fr0⟩ := rules h3 0 _ rfl
  obtain ⟨Rr1, Fr1⟩ := rules h3 1 _ rfl
  obtain ⟨Rr2, Fr2⟩ := rules h3 2 _ rfl
  obtain ⟨Rr3, Fr3⟩ := rules h3 3 _ rfl
  have hX3 := Ext.rfl' w3
  go_wp2_with (first | (go_at_call 116; refine (integer_Sign _ _ _ _ (hb.ext hE)).mono ?_; rintro e w5 ⟨rfl, hE5⟩; have hXw5 := (show Ext w3 w5 by exact exttI)) | ((go_at_call 151; refine (rational_reduce _ _ _ _ _ _ (ha.ext (by exact exttI)) (hb.ext (by exact exttI)) (by omega) h0).mono ?_; rintro e w6 ⟨vx, rfl, hx, hEx⟩; obtain ⟨nxn, axn, kxn, cxn, nxd, axd, kxd, cxd, rfl, _, _⟩ := IsRat.form hx); have hXw6 := (show Ext w3 w6 by exact exttI)))
  have hE9 : Ext w w6 := by exact exttI
  have k9 := hXw6.blk h3
  have hbx : Box w6 r := Box.mk k9 rfl
  have hB : But [r] w6 w6 := by exact buttI
  have hBr0 := Rr0 _ hXw6
  have hBr1 := Rr1 _ hXw6
  have hBr2 := Rr2 _ hXw6
  have hBr3 := Rr3 _ hXw6
  exact bodyPost_ret (v := .tuple #[.agg #[.bool nxn, .slice axn kxn cxn, .bool nxd, .slice axd kxd cxd], .int .i64 0]) (by simp [results, Tryz.results101, go_sem, hBr0, hBr1, hBr2, hBr3]) rfl ⟨_, rfl, IsRat.put4 hB (by simp) hx, (((((hB.set _ _ rfl (by simp)).set _ _ rfl (by simp)).set _ _ rfl (by simp)).set _ _ rfl (by simp)).old hE9 (by simp; omega))⟩

set_option maxRecDepth 100000 in
set_option maxHeartbeats 1000000 in
theorem rational_whole (n : Nat) (w : World) (va : Value) (a : Int) (ha : IsInt n w va a) :
    Calls Tryz.prog 175 #[va] w fun e w' => ∃ v, e = .returned v ∧ IsRat (max n 3) w' v (a : Rat) ∧ Ext w w' := by
  obtain ⟨na, aa, ka, ca, rfl⟩ := IsInt.form ha
  go_enter Tryz.func175, Tryz.ntmps175
  go_upto_region 1 with (fail)
  obtain ⟨w3, p, r, e1, e2, e3, h1, h3, hpr, hE⟩ := box2 w (.cells #[.bool na, .slice aa ka ca] 53) (.cells #[.bool false, .slice none 0 0, .bool false, .slice none 0 0] 55)
  rw [e1, e2, e3]
  have hr0 : w.heap.size ≤ r := by omega
  clear e1 e2 e3
  obtain ⟨Rp0, _⟩ := rules h1 0 _ rfl
  obtain ⟨Rp1, _⟩ := rules h1 1 _ rfl
  (refine wp_region_noPanic ?_; refine wp_region_head 3 (fun w' => Ext w3 w') (by kernel_rfl) (by kernel_rfl) ?_ (fun hHeld => ?_); (focus (show Ext _ _; exact exttI)); (try simp only [List.size_toArray, List.length_cons, List.length_nil]))
  (refine wpHead_take 0 (by kernel_rfl) (fun _ _ _ _ _ h => h) (by assumption) ?_; simp only [atOp]; refine ⟨by rfl, ?_, ?_, ?_⟩; rotate_left; (focus (intro w' hSw; (try dsimp only at hSw); go_simp; (try with_reducible rfl))); (try simp only [Act.put, List.setIfInBounds_toArray, List.set_cons_zero, List.set_cons_succ]))
  (refine wpHead_only 1 (by kernel_rfl) ?_; simp only [atOp]; intro K hK; go_simp; ((go_at_call 206; refine (rational_unit _).mono ?_; rintro e w5 ⟨vx, rfl, hx, hEx⟩; obtain ⟨nx, ax, kx, cx, rfl⟩ := IsInt.form hx); have hX5 := (show Ext w3 w5 by exact exttI)); refine hK.out _ _ ?_ (fun hHeld => ?_); (focus (show Ext _ _; exact exttI)); clear hK K; (try simp only [Act.put, List.setIfInBounds_toArray, List.set_cons_zero, List.set_cons_succ]))
  (refine wpHead_take 2 (by kernel_rfl) (fun _ _ _ _ _ h => h) (by assumption) ?_; simp only [atOp]; refine ⟨by rfl, ?_, ?_, ?_⟩; rotate_left; (focus (intro w' hSw; (try dsimp only at hSw); go_simp; (try with_reducible rfl))); (try simp only [Act.put, List.setIfInBounds_toArray, List.set_cons_zero, List.set_cons_succ]))
  (refine wpHead_done (by kernel_rfl) ?_; simp only [List.drop_succ_cons, List.drop_zero])
  have hE9 : Ext w w5 := by exact exttI
  have k3 := hX5.blk h3
  have hbxr : Box _ r := Box.mk k3 rfl
  obtain ⟨Rr0, Fr0⟩ := rulesR (rs := [r]) k3 (by simp) 0 (by simp)
  obtain ⟨Rr1, Fr1⟩ := rulesR (rs := [r]) k3 (by simp) 1 (by simp)
  obtain ⟨Rr2, Fr2⟩ := rulesR (rs := [r]) k3 (by simp) 2 (by simp)
  obtain ⟨Rr3, Fr3⟩ := rulesR (rs := [r]) k3 (by simp) 3 (by simp)
  have hB : But [r] w5 w5 := by exact buttI
  have hBr0 := Rr0 _ hB
  have hBr1 := Rr1 _ hB
  have hBr2 := Rr2 _ hB
  have hBr3 := Rr3 _ hB
  have hFr0 := Fr0 _ hB
  have hFr1 := Fr1 _ hB
  have hFr2 := Fr2 _ hB
  have hFr3 := Fr3 _ hB
  go_wp2_with fail
  refine NoPanic.normal ?_
  go_wp2_with fail
  have hi1 := ha.ext hE9
  exact bodyPost_ret (v := .agg #[.bool na, .slice aa ka ca, .bool nx, .slice ax kx cx]) (by simp [results, Tryz.results175, go_sem, hBr0, hBr1, hBr2, hBr3]) rfl ⟨_, rfl, IsRat.put4 hB (by simp) (IsRat.whole (hi1.mono (by omega)) (hx.mono (by omega))), (((((hB.set _ _ rfl (by simp)).set _ _ rfl (by simp)).set _ _ rfl (by simp)).set _ _ rfl (by simp)).old hE9 (by simp; omega))⟩

set_option maxRecDepth 100000 in
set_option maxHeartbeats 1000000 in
theorem rational_FromInt64 (w : World) (n : Int) (h1 : -9223372036854775808 ≤ n) (h2 : n < 9223372036854775808) :
    Calls Tryz.prog 122 #[.int .i64 n] w fun e w' => ∃ v, e = .returned v ∧ IsRat 3 w' v (n : Rat) ∧ Ext w w' := by
  go_enter Tryz.func122, Tryz.ntmps122
  go_upto_region 1 with (fail)
  obtain ⟨w3, r, e1, e2, h3, hE⟩ := box1 w (.cells #[.bool false, .slice none 0 0, .bool false, .slice none 0 0] 55)
  rw [e1, e2]
  have hr0 : w.heap.size ≤ r := by omega
  clear e1 e2
  obtain ⟨Rr0, Fr0⟩ := rules h3 0 _ rfl
  obtain ⟨Rr1, Fr1⟩ := rules h3 1 _ rfl
  obtain ⟨Rr2, Fr2⟩ := rules h3 2 _ rfl
  obtain ⟨Rr3, Fr3⟩ := rules h3 3 _ rfl
  have hX3 := Ext.rfl' w3
  go_wp2_with (first | (go_at_call 114; refine (integer_FromInt64 _ n h1 h2).mono ?_; rintro e w5 ⟨vi, rfl, hi, hEi⟩; obtain ⟨ni, ai, ki, ci, rfl⟩ := IsInt.form hi; have hXw5 := (show Ext w3 w5 by exact exttI)) | (go_at_call 175; refine (rational_whole _ _ _ _ hi).mono ?_; rintro e w6 ⟨vx, rfl, hx, hEx⟩; obtain ⟨nxn, axn, kxn, cxn, nxd, axd, kxd, cxd, rfl, _, _⟩ := IsRat.form hx; have hXw6 := (show Ext w3 w6 by exact exttI)))
  have hE9 : Ext w w6 := by exact exttI
  have k9 := hXw6.blk h3
  have hbx : Box w6 r := Box.mk k9 rfl
  have hB : But [r] w6 w6 := by exact buttI
  have hBr0 := Rr0 _ hXw6
  have hBr1 := Rr1 _ hXw6
  have hBr2 := Rr2 _ hXw6
  have hBr3 := Rr3 _ hXw6
  exact bodyPost_ret (v := .agg #[.bool nxn, .slice axn kxn cxn, .bool nxd, .slice axd kxd cxd]) (by simp [results, Tryz.results122, go_sem, hBr0, hBr1, hBr2, hBr3]) rfl ⟨_, rfl, IsRat.put4 hB (by simp) hx, (((((hB.set _ _ rfl (by simp)).set _ _ rfl (by simp)).set _ _ rfl (by simp)).set _ _ rfl (by simp)).old hE9 (by simp; omega))⟩

set_option maxRecDepth 100000 in
set_option maxHeartbeats 1000000 in
theorem rational_Mul (n m : Nat) (w : World) (va vb : Value) (a b : Rat) (ha : IsRat n w va a) (hb : IsRat m w vb b) (hn : n + m < 200000) :
    Calls Tryz.prog 121 #[va, vb] w fun e w' => ∃ v, e = .returned v ∧ IsRat (n + m) w' v (a * b) ∧ Ext w w' := by
  obtain ⟨na, aa, ka, ca, nb, ab, kb, cb, rfl, ha, hb'⟩ := ha.form
  obtain ⟨nc, ac, kc, cc, nd, ad, kd, cd, rfl, hc, hd⟩ := hb.form
  clear hb
  have hb := hb'
  go_enter Tryz.func121, Tryz.ntmps121
  go_upto_region 1 with (fail)
  obtain ⟨w3, p, q, r, e1, e2, e3, e4, h1, h2, h3, hpq, hpr, hqr, hE⟩ := box3 w (.cells #[.bool na, .slice aa ka ca, .bool nb, .slice ab kb cb] 55) (.cells #[.bool nc, .slice ac kc cc, .bool nd, .slice ad kd cd] 55) (.cells #[.bool false, .slice none 0 0, .bool false, .slice none 0 0] 55)
  rw [e1, e2, e3, e4]
  have hr0 : w.heap.size ≤ r := by omega
  clear e1 e2 e3 e4
  obtain ⟨Rp0, _⟩ := rules h1 0 _ rfl
  obtain ⟨Rp1, _⟩ := rules h1 1 _ rfl
  obtain ⟨Rp2, _⟩ := rules h1 2 _ rfl
  obtain ⟨Rp3, _⟩ := rules h1 3 _ rfl
  obtain ⟨Rq0, _⟩ := rules h2 0 _ rfl
  obtain ⟨Rq1, _⟩ := rules h2 1 _ rfl
  obtain ⟨Rq2, _⟩ := rules h2 2 _ rfl
  obtain ⟨Rq3, _⟩ := rules h2 3 _ rfl
  (refine wp_region_noPanic ?_; refine wp_region_head 11 (fun w' => Ext w3 w') (by kernel_rfl) (by kernel_rfl) ?_ (fun hHeld => ?_); (focus (show Ext _ _; exact exttI)); (try simp only [List.size_toArray, List.length_cons, List.length_nil]))
  (refine wpHead_take 0 (by kernel_rfl) (fun _ _ _ _ _ h => h) (by assumption) ?_; simp only [atOp]; refine ⟨by rfl, ?_, ?_, ?_⟩; rotate_left; (focus (intro w' hSw; (try dsimp only at hSw); go_simp; (try with_reducible rfl))); (try simp only [Act.put, List.setIfInBounds_toArray, List.set_cons_zero, List.set_cons_succ]))
  (refine wpHead_take 1 (by kernel_rfl) (fun _ _ _ _ _ h => h) (by assumption) ?_; simp only [atOp]; refine ⟨by rfl, ?_, ?_, ?_⟩; rotate_left; (focus (intro w' hSw; (try dsimp only at hSw); go_simp; (try with_reducible rfl))); (try simp only [Act.put, List.setIfInBounds_toArray, List.set_cons_zero, List.set_cons_succ]))
  (refine wpHead_take 2 (by kernel_rfl) (fun _ _ _ _ _ h => h) (by assumption) ?_; simp only [atOp]; refine ⟨by rfl, ?_, ?_, ?_⟩; rotate_left; (focus (intro w' hSw; (try dsimp only at hSw); go_simp; (try with_reducible rfl))); (try simp only [Act.put, List.setIfInBounds_toArray, List.set_cons_zero, List.set_cons_succ]))
  (refine wpHead_take 3 (by kernel_rfl) (fun _ _ _ _ _ h => h) (by assumption) ?_; simp only [atOp]; refine ⟨by rfl, ?_, ?_, ?_⟩; rotate_left; (focus (intro w' hSw; (try dsimp only at hSw); go_simp; (try with_reducible rfl))); (try simp only [Act.put, List.setIfInBounds_toArray, List.set_cons_zero, List.set_cons_succ]))
  (refine wpHead_take 5 (by kernel_rfl) (fun _ _ _ _ _ h => h) (by assumption) ?_; simp only [atOp]; refine ⟨by rfl, ?_, ?_, ?_⟩; rotate_left; (focus (intro w' hSw; (try dsimp only at hSw); go_simp; (try with_reducible rfl))); (try simp only [Act.put, List.setIfInBounds_toArray, List.set_cons_zero, List.set_cons_succ]))
  (refine wpHead_take 6 (by kernel_rfl) (fun _ _ _ _ _ h => h) (by assumption) ?_; simp only [atOp]; refine ⟨by rfl, ?_, ?_, ?_⟩; rotate_left; (focus (intro w' hSw; (try dsimp only at hSw); go_simp; (try with_reducible rfl))); (try simp only [Act.put, List.setIfInBounds_toArray, List.set_cons_zero, List.set_cons_succ]))
  (refine wpHead_take 7 (by kernel_rfl) (fun _ _ _ _ _ h => h) (by assumption) ?_; simp only [atOp]; refine ⟨by rfl, ?_, ?_, ?_⟩; rotate_left; (focus (intro w' hSw; (try dsimp only at hSw); go_simp; (try with_reducible rfl))); (try simp only [Act.put, List.setIfInBounds_toArray, List.set_cons_zero, List.set_cons_succ]))
  (refine wpHead_take 8 (by kernel_rfl) (fun _ _ _ _ _ h => h) (by assumption) ?_; simp only [atOp]; refine ⟨by rfl, ?_, ?_, ?_⟩; rotate_left; (focus (intro w' hSw; (try dsimp only at hSw); go_simp; (try with_reducible rfl))); (try simp only [Act.put, List.setIfInBounds_toArray, List.set_cons_zero, List.set_cons_succ]))
  (refine wpHead_only 4 (by kernel_rfl) ?_; simp only [atOp]; intro K hK; go_simp; ((go_at_call 118; refine (integer_Mul _ _ _ _ _ _ _ (ha.ext (by exact exttI)) (hc.ext (by exact exttI)) (by omega) (by omega)).mono ?_; rintro e w5 ⟨vx, rfl, hx, hEx⟩; obtain ⟨nx, ax, kx, cx, rfl⟩ := IsInt.form hx); have hX5 := (show Ext w3 w5 by exact exttI)); refine hK.out _ _ ?_ (fun hHeld => ?_); (focus (show Ext _ _; exact exttI)); clear hK K; (try simp only [Act.put, List.setIfInBounds_toArray, List.set_cons_zero, List.set_cons_succ]))
  (refine wpHead_only 9 (by kernel_rfl) ?_; simp only [atOp]; intro K hK; go_simp; ((go_at_call 118; refine (integer_Mul _ _ _ _ _ _ _ (hb.ext (by exact exttI)) (hd.ext (by exact exttI)) (by omega) (by omega)).mono ?_; rintro e w6 ⟨vy, rfl, hy, hEy⟩; obtain ⟨ny, ay, ky, cy, rfl⟩ := IsInt.form hy); have hX6 := (show Ext w3 w6 by exact exttI)); refine hK.out _ _ ?_ (fun hHeld => ?_); (focus (show Ext _ _; exact exttI)); clear hK K; (try simp only [Act.put, List.setIfInBounds_toArray, List.set_cons_zero, List.set_cons_succ]))
  (refine wpHead_only 10 (by kernel_rfl) ?_; simp only [atOp]; intro K hK; go_simp; ((go_at_call 151; refine (rational_reduce _ _ _ _ _ _ (hx.ext (by exact exttI)) (hy.ext (by exact exttI)) (by omega) (by have := a.den_pos; have := b.den_pos; exact Int.mul_ne_zero (by omega) (by omega))).mono ?_; rintro e w7 ⟨vz, rfl, hz, hEz⟩; obtain ⟨nzn, azn, kzn, czn, nzd, azd, kzd, czd, rfl, _, _⟩ := IsRat.form hz); have hX7 := (show Ext w3 w7 by exact exttI)); refine hK.out _ _ ?_ (fun hHeld => ?_); (focus (show Ext _ _; exact exttI)); clear hK K; (try simp only [Act.put, List.setIfInBounds_toArray, List.set_cons_zero, List.set_cons_succ]))
  (refine wpHead_done (by kernel_rfl) ?_; simp only [List.drop_succ_cons, List.drop_zero])
  have hE9 : Ext w w7 := by exact exttI
  have k3 := hX7.blk h3
  have hbxr : Box _ r := Box.mk k3 rfl
  obtain ⟨Rr0, Fr0⟩ := rulesR (rs := [r]) k3 (by simp) 0 (by simp)
  obtain ⟨Rr1, Fr1⟩ := rulesR (rs := [r]) k3 (by simp) 1 (by simp)
  obtain ⟨Rr2, Fr2⟩ := rulesR (rs := [r]) k3 (by simp) 2 (by simp)
  obtain ⟨Rr3, Fr3⟩ := rulesR (rs := [r]) k3 (by simp) 3 (by simp)
  have hB : But [r] w7 w7 := by exact buttI
  have hBr0 := Rr0 _ hB
  have hBr1 := Rr1 _ hB
  have hBr2 := Rr2 _ hB
  have hBr3 := Rr3 _ hB
  have hFr0 := Fr0 _ hB
  have hFr1 := Fr1 _ hB
  have hFr2 := Fr2 _ hB
  have hFr3 := Fr3 _ hB
  go_wp2_with fail
  refine NoPanic.normal ?_
  go_wp2_with fail
  exact bodyPost_ret (v := .agg #[.bool nzn, .slice azn kzn czn, .bool nzd, .slice azd kzd czd]) (by simp [results, Tryz.results121, go_sem, hBr0, hBr1, hBr2, hBr3]) rfl ⟨_, rfl, IsRat.put4 hB (by simp) (hz.cast (by rw [← Rat.divInt_mul_divInt, Rat.num_divInt_den, Rat.num_divInt_den])), (((((hB.set _ _ rfl (by simp)).set _ _ rfl (by simp)).set _ _ rfl (by simp)).set _ _ rfl (by simp)).old hE9 (by simp; omega))⟩
end Go.Proofs.YtechjiiijiipdaaGreatDoor
namespace Go.Proofs.YtechjiiijiipdaaGreatDoor
open Go.RowKit
set_option linter.unusedSimpArgs false
set_option linter.unusedVariables false

set_option maxHeartbeats 1000000 in
theorem strings_CutPrefix (s p : ByteArray) (w : World) :
    Calls Tryz.prog 138 #[.string s, .string p] w fun e w' => e = .returned (.tuple #[.string ⟨(Lib.trimPrefix s.data.toList p.data.toList).toArray⟩, .bool (Lib.hasPrefix s.data.toList p.data.toList)]) ∧ w = w' := by
  go_enter Tryz.func138, Tryz.ntmps138
  go_wp2
  · have h2 : (!((s.extract 0 p.size).toList == p.toList)) = true := by assumption
    have h3 : (decide (p.size ≤ s.size) && ((s.extract 0 p.size).toList == p.toList)) = false := by
      have : ((s.extract 0 p.size).toList == p.toList) = false := by simpa using h2
      rw [this]
      simp
    go_ret2
    refine ⟨?_, rfl⟩
    rw [Lib.trimPrefix_miss s p h3, ← Lib.hasPrefix_raw, h3]
    rfl
  · have h1 : p.size ≤ s.size := by assumption
    have h2 : (!((s.extract 0 p.size).toList == p.toList)) = false := by assumption
    have h2' : ((s.extract 0 p.size).toList == p.toList) = true := by simpa using h2
    go_ret2
    refine ⟨?_, rfl⟩
    rw [Lib.trimPrefix_hit s p h1 h2', ← Lib.hasPrefix_raw, h2', decide_eq_true h1]
    rfl
  · have h1 : ¬ p.size ≤ s.size := by assumption
    have h3 : (decide (p.size ≤ s.size) && ((s.extract 0 p.size).toList == p.toList)) = false := by simp [h1]
    go_ret2
    refine ⟨?_, rfl⟩
    rw [Lib.trimPrefix_miss s p h3, ← Lib.hasPrefix_raw, h3]
    rfl

/-- A minus sign ahead of a text. -/
def sig (neg : Bool) (l : List UInt8) : List UInt8 := if neg then 45 :: l else l
theorem cutPrefix_sig (s : ByteArray) (neg : Bool) (l : List UInt8) (hs : s.data.toList = sig neg l) (h : l.head? ≠ some 45) (w : World) :
    Calls Tryz.prog 138 #[.string s, .string ⟨#[45]⟩] w fun e w' => e = .returned (.tuple #[.string ⟨l.toArray⟩, .bool neg]) ∧ w = w' := by
  refine (strings_CutPrefix s ⟨#[45]⟩ w).mono ?_
  rintro e w' ⟨rfl, rfl⟩
  refine ⟨?_, rfl⟩
  rw [hs]
  cases neg with
  | true => simp [sig, Lib.trimPrefix, Lib.hasPrefix]
  | false =>
    cases l with
    | nil => simp [sig, Lib.trimPrefix, Lib.hasPrefix]
    | cons c l =>
      have hc : c ≠ 45 := by simpa using h
      have hc' : (45 : UInt8) ≠ c := Ne.symm hc
      simp [sig, Lib.trimPrefix, Lib.hasPrefix, List.isPrefixOf, hc']

/-- A text without its minus sign; whether it has one. -/
def bodyOf : List UInt8 → List UInt8
  | 45 :: l => l
  | l => l
def isNeg (l : List UInt8) : Bool := l.head? == some 45
theorem cutPrefix_any (s : ByteArray) (w : World) :
    Calls Tryz.prog 138 #[.string s, .string ⟨#[45]⟩] w fun e w' => e = .returned (.tuple #[.string ⟨(bodyOf s.data.toList).toArray⟩, .bool (isNeg s.data.toList)]) ∧ w = w' := by
  refine (strings_CutPrefix s ⟨#[45]⟩ w).mono ?_
  rintro e w' ⟨rfl, rfl⟩
  refine ⟨?_, rfl⟩
  generalize s.data.toList = l
  cases l with
  | nil => rfl
  | cons c l =>
    by_cases hc : c = 45
    · subst hc; simp [Lib.trimPrefix, Lib.hasPrefix, bodyOf, isNeg]
    · have e1 : bodyOf (c :: l) = c :: l := by unfold bodyOf; split <;> simp_all
      have e2 : isNeg (c :: l) = false := by simp [isNeg, hc]
      have hc' : (45 : UInt8) ≠ c := Ne.symm hc
      rw [e1, e2]
      simp [Lib.trimPrefix, Lib.hasPrefix, List.isPrefixOf, hc']

/-- The parts around the first dot; whether there is one. -/
def whole (l : List UInt8) : List UInt8 := l.takeWhile (· != 46)
def frac (l : List UInt8) : List UInt8 := (l.dropWhile (· != 46)).drop 1
def dotted (l : List UInt8) : Bool := l.contains 46
theorem index_dot : ∀ (l : List UInt8), (Lib.indexByte l 46 = -1 ∧ whole l = l ∧ frac l = [] ∧ dotted l = false) ∨
    (∃ o : Nat, o < l.length ∧ Lib.indexByte l 46 = o ∧ whole l = l.take o ∧ frac l = l.drop (o + 1) ∧ dotted l = true)
  | [] => .inl ⟨rfl, rfl, rfl, rfl⟩
  | c :: l => by
    by_cases hc : c = 46
    · subst hc
      exact .inr ⟨0, by simp, by simp [Lib.indexByte], by simp [whole], by simp [frac], by simp [dotted]⟩
    · rcases index_dot l with ⟨h1, h2, h3, h4⟩ | ⟨o, h0, h1, h2, h3, h4⟩
      · refine .inl ⟨by simp [Lib.indexByte, hc, h1], ?_, ?_, ?_⟩
        · simp only [whole] at *; simp [hc, h2]
        · simp only [frac] at *; simp [List.dropWhile_cons, hc]; simpa using h3
        · simp only [dotted] at *; simp only [List.contains_cons, h4]; simp; exact fun h => hc h.symm
      · refine .inr ⟨o + 1, by simp; omega, ?_, ?_, ?_, ?_⟩
        · have : ¬ ((o : Int) = -1) := by omega
          simp [Lib.indexByte, hc, h1, this]
        · simp only [whole] at *; simp [hc, h2]
        · simp only [frac] at *; simp [List.dropWhile_cons, hc, h3]
        · simp only [dotted] at *; simp only [List.contains_cons, h4, Bool.or_true]

set_option maxRecDepth 100000 in
set_option maxHeartbeats 1000000 in
theorem strings_Index_dot (s : ByteArray) (w : World) :
    Calls Tryz.prog 215 #[.string s, .string ⟨#[46]⟩] w fun e w' => e = .returned (.int .i64 (Lib.indexByte s.data.toList 46)) ∧ w = w' := by
  go_enter Tryz.func215, Tryz.ntmps215
  go_wp2_with (first | (go_at_call 126; refine (Tryz.stringslite_IndexByte _ _ _).mono ?_; rintro e w' ⟨rfl, rfl⟩))
  all_goals go_ret
  all_goals first
    | exact ⟨rfl, rfl⟩
    | (have h1 : ([46] == s.toList) = true := by assumption
       have h2 : s.data.toList = [46] := by rw [← Lib.toList_data]; simpa using (eq_of_beq h1).symm
       exact ⟨by rw [h2]; rfl, rfl⟩)

set_option maxRecDepth 100000 in
set_option maxHeartbeats 1000000 in
theorem lite_Cut_dot (s : ByteArray) (w : World) (hs : s.size ≤ 4000000000) :
    Calls Tryz.prog 187 #[.string s, .string ⟨#[46]⟩] w fun e w' => e = .returned (.tuple #[.string ⟨(whole s.data.toList).toArray⟩, .string ⟨(frac s.data.toList).toArray⟩, .bool (dotted s.data.toList)]) ∧ Drawn w w' := by
  have hsz := Lib.size_eq s
  rcases index_dot s.data.toList with ⟨h1, h2, h3, h4⟩ | ⟨o, h0, h1, h2, h3, h4⟩
  · rw [h2, h3, h4]
    have H := Lib.hid h1
    clear h1 h2 h3 h4 hsz
    go_enter Tryz.func187, Tryz.ntmps187
    go_wp2_with (first | (go_at_call 215; refine (strings_Index_dot _ _).mono ?_; rintro e w' ⟨rfl, rfl⟩; rw [H.out]))
    go_ret3
    exact ⟨rfl, Drawn.rfl' _⟩
  · rw [h2, h3, h4]
    have H := Lib.hid h1
    have ho : o < s.size := by omega
    have e1 : (⟨(s.data.toList.take o).toArray⟩ : ByteArray) = s.extract 0 o := by rw [Lib.extract_eq]; simp
    have e2 : (⟨(s.data.toList.drop (o + 1)).toArray⟩ : ByteArray) = s.extract (o + 1) s.size := by rw [Lib.extract_eq, Lib.size_eq]; congr 2; rw [List.take_of_length_le]; simp
    rw [e1, e2]
    have w1 : IntKind.i64.wrap ((o : Int) + 1) = (o : Int) + 1 := IntWalk.i64_in _ (by omega)
    have w2 : 0 ≤ (o : Int) + 1 := by omega
    have w3 : ((o : Int) + 1).toNat = o + 1 := by omega
    have w4 : (o : Int) + 1 ≤ (s.size : Int) := by omega
    have w5 : (o : Int) ≤ (s.size : Int) := by omega
    clear h1 h2 h3 h4 hsz h0 e1 e2
    go_enter Tryz.func187, Tryz.ntmps187
    go_wp2_with (first | (go_at_call 215; refine (strings_Index_dot _ _).mono ?_; rintro e w' ⟨rfl, rfl⟩; rw [H.out]))
    go_quiet (fail)
    go_wp2
    go_ret3
    exact ⟨rfl, ⟨_, rfl⟩⟩

theorem strings_Cut_dot (s : ByteArray) (w : World) (hs : s.size ≤ 4000000000) :
    Calls Tryz.prog 139 #[.string s, .string ⟨#[46]⟩] w fun e w' => e = .returned (.tuple #[.string ⟨(whole s.data.toList).toArray⟩, .string ⟨(frac s.data.toList).toArray⟩, .bool (dotted s.data.toList)]) ∧ Drawn w w' := by
  go_enter Tryz.func139, Tryz.ntmps139
  go_wp2_with (go_at_call 187; refine (lite_Cut_dot _ _ hs).mono ?_; rintro e w' ⟨rfl, hD⟩)
  go_ret3
  exact ⟨rfl, hD⟩
end Go.Proofs.YtechjiiijiipdaaGreatDoor
namespace Go.Proofs.YtechjiiijiipdaaGreatDoor

/-- The number that decimal digits show. -/
def dec (l : List UInt8) : Nat := l.foldl (fun a c => 10 * a + (c.toNat - 48)) 0
/-- Digits alone. -/
def AllD (l : List UInt8) : Prop := ∀ c ∈ l, 48 ≤ c.toNat ∧ c.toNat ≤ 57
theorem dec_from : ∀ (b : List UInt8) (x : Nat), b.foldl (fun a c => 10 * a + (c.toNat - 48)) x = x * 10 ^ b.length + dec b
  | [], x => by simp [dec]
  | c :: b, x => by
    have h1 := dec_from b (10 * x + (c.toNat - 48))
    have h2 := dec_from b (10 * 0 + (c.toNat - 48))
    simp only [dec, List.foldl_cons, List.length_cons] at *
    rw [h1, h2, Nat.pow_succ, Nat.add_mul, Nat.add_mul]
    have : 10 * x * 10 ^ b.length = x * (10 ^ b.length * 10) := by rw [Nat.mul_comm 10 x, Nat.mul_assoc, Nat.mul_comm 10]
    omega
theorem dec_append (a b : List UInt8) : dec (a ++ b) = dec a * 10 ^ b.length + dec b := by
  rw [dec, List.foldl_append]; exact dec_from b _
theorem dec_cons (c : UInt8) (b : List UInt8) : dec (c :: b) = (c.toNat - 48) * 10 ^ b.length + dec b := by
  have := dec_append [c] b
  simpa [dec] using this
theorem dec_snoc (a : List UInt8) (c : UInt8) : dec (a ++ [c]) = 10 * dec a + (c.toNat - 48) := by
  rw [dec_append]; simp [dec]; omega
theorem dec_nil : dec [] = 0 := rfl
theorem AllD.append {a b : List UInt8} : AllD (a ++ b) ↔ AllD a ∧ AllD b := by simp only [AllD, List.mem_append, or_imp, forall_and]; constructor <;> (intro h; simp_all)
theorem AllD.take {l : List UInt8} (h : AllD l) (k : Nat) : AllD (l.take k) := fun c hc => h c (List.mem_of_mem_take hc)
theorem AllD.drop {l : List UInt8} (h : AllD l) (k : Nat) : AllD (l.drop k) := fun c hc => h c (List.mem_of_mem_drop hc)
theorem dec_lt : ∀ {l : List UInt8}, AllD l → dec l < 10 ^ l.length
  | [], _ => by simp [dec]
  | c :: l, h => by
    have hl := dec_lt (l := l) (fun x hx => h x (List.mem_cons_of_mem _ hx))
    have hc := h c (List.mem_cons_self ..)
    rw [dec_cons, List.length_cons, Nat.pow_succ]
    have : (c.toNat - 48) * 10 ^ l.length ≤ 9 * 10 ^ l.length := Nat.mul_le_mul_right _ (by omega)
    omega
theorem dec_take_succ {l : List UInt8} {k : Nat} (h : k < l.length) : dec (l.take (k + 1)) = 10 * dec (l.take k) + (l[k].toNat - 48) := by
  rw [List.take_succ_eq_append_getElem h, dec_snoc]
/-- Nine digits more. -/
theorem parse_step {l : List UInt8} {e : Nat} {r : List Nat} (_he : e ≤ l.length) (h9 : 9 ≤ e) (h : val r + 1000000000 ^ r.length * dec (l.take e) = dec l) :
    val (r ++ [dec ((l.take e).drop (e - 9))]) + 1000000000 ^ (r ++ [dec ((l.take e).drop (e - 9))]).length * dec (l.take (e - 9)) = dec l := by
  have e1 : l.take e = l.take (e - 9) ++ (l.take e).drop (e - 9) := by
    have := List.take_append_drop (e - 9) (l.take e)
    rw [List.take_take, Nat.min_eq_left (by omega)] at this
    exact this.symm
  have e2 : ((l.take e).drop (e - 9)).length = 9 := by simp; omega
  have e3 : dec (l.take e) = dec (l.take (e - 9)) * 1000000000 + dec ((l.take e).drop (e - 9)) := by
    have := dec_append (l.take (e - 9)) ((l.take e).drop (e - 9))
    rw [← e1, e2] at this
    exact this
  rw [← h, e3, val_snoc, List.length_append, List.length_singleton, Nat.pow_succ, Nat.mul_add, Nat.mul_assoc]
  have : 1000000000 ^ r.length * (dec (l.take (e - 9)) * 1000000000) = 1000000000 ^ r.length * (1000000000 * dec (l.take (e - 9))) := by rw [Nat.mul_comm (dec _)]
  omega
theorem parse_last {l : List UInt8} {e : Nat} {r : List Nat} (h : val r + 1000000000 ^ r.length * dec (l.take e) = dec l) :
    val (r ++ [dec ((l.take e).drop 0)]) = dec l := by
  rw [List.drop_zero, val_snoc]; exact h
end Go.Proofs.YtechjiiijiipdaaGreatDoor
namespace Go.Proofs.YtechjiiijiipdaaGreatDoor
open Go.RowKit
set_option linter.unusedSimpArgs false
set_option linter.unusedVariables false
/-- '[]byte(s)'. -/
theorem bytes_of (w : World) (s : ByteArray) : ∃ w1 cap, (convert 9 143 (.string s)).run Tryz.prog w = .ok (.slice (some ⟨w.heap.size, 0, none⟩) s.size cap) w1 ∧ Ext w w1 ∧ w.heap.size < w1.heap.size ∧
    ∀ i (h : i < s.data.toList.length), w1.cell? ⟨w.heap.size, i, none⟩ = some (.int .u8 (s.data.toList[i].toNat : Int)) := by
  refine ⟨_, _, run_bytes_of_string w 9 143 5 s Tryz.underlying9 Tryz.underlying143 Tryz.underlying5, (Ext.rfl' w).drew'.alloc' _, by simp, fun i h => ?_⟩
  have h' : i < s.data.size := by simpa using h
  have e : ∀ (o : Obj), (w.drew.alloc o).heap[w.heap.size]? = some o := fun o => heap_alloc_new w.drew o
  simp only [World.cell?, e, bytesRow_at s _ i h', Array.getElem_toList]
  rfl
theorem Own.exta {base : Nat} {w w' : World} {v : Value} {l : List Nat} (h : Own base w v l) (e : Ext w w') : Own base w' v l := by
  refine Own.kept (row := none) h ⟨e.os, e.tape, e.output, e.size, fun k hk _ => e.block k hk⟩ ?_
  cases v.ownBlock with
  | none => exact .inl rfl
  | some k => exact .inr (by simp)
theorem dec_small {C : List UInt8} (h : AllD C) {t : Nat} (ht : t ≤ 8) : dec (C.take t) ≤ 99999999 := by
  have h1 := dec_lt (h.take t)
  have h2 : (C.take t).length ≤ t := List.length_take_le _ _
  have h3 : 10 ^ (C.take t).length ≤ 10 ^ 8 := Nat.pow_le_pow_right (by omega) (by omega)
  omega
theorem dec_nine {C : List UInt8} (h : AllD C) (ht : C.length ≤ 9) : dec C < 1000000000 := by
  have h1 := dec_lt h
  have h3 : 10 ^ C.length ≤ 10 ^ 9 := Nat.pow_le_pow_right (by omega) ht
  omega
theorem dec_take_getD {l : List UInt8} {k : Nat} (h : k < l.length) : dec (l.take (k + 1)) = 10 * dec (l.take k) + ((l.getD k 0).toNat - 48) := by
  rw [dec_take_succ h]; simp [h]
theorem AllD.getD {l : List UInt8} (h : AllD l) {k : Nat} (hk : k < l.length) : 48 ≤ (l.getD k 0).toNat ∧ (l.getD k 0).toNat ≤ 57 := by
  have e : l.getD k 0 = l[k] := by simp [hk]
  rw [e]; exact h _ (List.getElem_mem hk)
theorem chunk_len {ds : List UInt8} {k : Nat} (hk : k ≤ ds.length) : ((ds.take k).drop (max 0 ((k : Int) - 9)).toNat).length ≤ 9 ∧ (0 < k → 0 < ((ds.take k).drop (max 0 ((k : Int) - 9)).toNat).length) := by
  simp only [List.length_drop, List.length_take]
  omega
attribute [local irreducible] IsInt U32s Dig Norm Own IsRat AllD dec
set_option maxRecDepth 100000 in
set_option maxHeartbeats 4000000 in
theorem integer_Parse (w : World) (s : ByteArray) (neg : Bool) (ds : List UInt8) (hs : s.data.toList = sig neg ds) (hd : AllD ds) (hne : ds ≠ []) (h0 : ds.head? = some 48 → ds = [48] ∧ neg = false) (hsz : s.size ≤ 65536) :
    Calls Tryz.prog 100 #[.string s] w fun e w' => ∃ v, e = .returned (.tuple #[v, .int .i64 0]) ∧ IsInt (ds.length / 9 + 1) w' v (sgn neg (dec ds)) ∧ Ext w w' := by
  have h45 : ds.head? ≠ some 45 := by
    intro h
    cases ds with
    | nil => simp at h
    | cons c l =>
      have := by unfold AllD at hd; exact hd c (List.mem_cons_self ..)
      simp at h
      subst h
      simp at this
  have hcp := cutPrefix_sig s neg ds hs h45
  obtain ⟨b, hb⟩ : ∃ b : ByteArray, b = ⟨ds.toArray⟩ := ⟨_, rfl⟩
  have hbl : b.data.toList = ds := by rw [hb]
  have hbs : b.size = ds.length := by rw [Lib.size_eq, hbl]
  have hlen : ds.length ≤ 65536 := by
    have : s.size = (sig neg ds).length := by rw [Lib.size_eq, hs]
    cases neg <;> simp [sig] at this <;> omega
  have hb0 : 0 < b.size := by have := List.length_pos_iff.2 hne; omega
  rw [← hb] at hcp
  have HCP := Lib.hid hcp
  have hbt : b.toList.isEmpty = false := by
    rw [Lib.toList_data, hbl]; cases ds with | nil => exact absurd rfl hne | cons _ _ => rfl
  have hbt2 : (b.toList == []) = false := by
    rw [Lib.toList_data, hbl]; cases ds with | nil => exact absurd rfl hne | cons _ _ => rfl
  have hszI : decide ((65536 : Int) < (s.size : Int)) = false := by simp; omega
  have hb6 : b.size ≤ 65536 := by omega
  have HB := Lib.hid hbl
  have HS := Lib.hid hbs
  have h0B : Hid (b[0].toNat = 48 → b.size = 1 ∧ neg = false) := by
    intro h
    have e : ds.head? = some b[0] := by
      have h1 : ds[0]? = some b[0] := by rw [← hbl]; simp [hb0]; rfl
      rw [List.head?_eq_getElem?]; exact h1
    have e2 : b[0] = 48 := by apply UInt8.toNat_inj.1; exact h
    rw [e2] at e
    obtain ⟨h2, h3⟩ := h0 e
    exact ⟨by rw [hbs, h2]; rfl, h3⟩
  clear hb hcp hs hbl hbs h0 h45
  go_enter Tryz.func100, Tryz.ntmps100
  go_upto_region 1 with (fail)
  obtain ⟨w3, r, e1, e2, h3, hE⟩ := box1 w (.cells #[.bool false, .slice none 0 0] 53)
  rw [e1, e2]
  have hr0 : w.heap.size ≤ r := by omega
  clear e1 e2
  go_upto_region 2 with (go_at_call 138; refine (HCP.out _).mono ?_; rintro e w' ⟨rfl, rfl⟩)
  go_cut [36] (fun t w' => t = .bool false ∧ w' = w3)
  case first =>
    by_cases h48 : b[0].toNat = 48
    · obtain ⟨h1, rfl⟩ := h0B.out h48
      have e48 : ((b[0].toNat : Int) == 48) = true := by simp; omega
      have e1 : decide ((1 : Int) < (b.size : Int)) = false := by simp; omega
      clear h1 h48
      go_wp2_with fail
      go_meet
      exact ⟨rfl, rfl⟩
    · have e48 : ((b[0].toNat : Int) == 48) = false := by simp; omega
      clear h48
      go_wp2_with fail
      go_meet
      exact ⟨rfl, rfl⟩
  case rest =>
    obtain ⟨rfl, rfl⟩ := hcut
    clear h0B hbt hbt2 hszI HCP
    go_wp2_with fail
    go_loop [40] (fun i => ∃ k : Nat, k ≤ b.size ∧ i = .int .i64 k) (fun i => b.size - (intOf i).toNat)
    case atStart => exact ⟨0, by omega, rfl⟩
    case round =>
      obtain ⟨k, hk, rfl⟩ := hrel
      by_cases hlt : k < b.size
      · have hdk : 48 ≤ (b[k].toNat : Int) ∧ (b[k].toNat : Int) ≤ 57 := by
          have h1 : b[k] ∈ ds := by rw [← HB.out]; exact Array.mem_toList_iff.2 (Array.getElem_mem _)
          have h2 := hd
          unfold AllD at h2
          have := h2 _ h1
          omega
        obtain ⟨hd1, hd2⟩ := hdk
        go_wp2_with fail
        go_round
        case rel => exact ⟨k + 1, by omega, by go_num⟩
        case measure => simp [intOf]; omega
      · obtain rfl : k = b.size := by omega
        go_wp2_with fail
        go_loopw [7, 8] (fun l e w' => ∃ (q : List Nat) (j : Int), e = .int .i64 j ∧ j ≤ (b.size : Int) ∧ -9 < j ∧ Own wc.heap.size w' l q ∧ Dig q ∧ q.length ≤ b.size / 9 + 1 ∧
          Hid (0 ≤ j → 9 * q.length + j.toNat = b.size ∧ val q + 1000000000 ^ q.length * dec (ds.take j.toNat) = dec ds) ∧ Hid (j ≤ 0 → val q = dec ds) ∧ Ext wc w') (fun _ e _ => (intOf e + 9).toNat)
        case atStart => exact ⟨[], b.size, rfl, by omega, by omega, Own.nil _ _, Dig.nil, by simp, Lib.hid (fun _ => ⟨by simp, by rw [show ((b.size : Int)).toNat = ds.length by have := HS.out; omega, List.take_length]; simp [val]⟩), Lib.hid (fun h => by omega), Ext.rfl' _⟩
        case round =>
          obtain ⟨q, j, rfl, hj1, hj2, hown, dq, hql, hinv, hend, hE3⟩ := hrel
          by_cases hj0 : 0 < j
          · obtain ⟨k, rfl⟩ : ∃ k : Nat, j = k := ⟨j.toNat, by omega⟩
            have hkl : k ≤ ds.length := by have := HS.out; omega
            obtain ⟨cl1, cl2⟩ := chunk_len (ds := ds) hkl
            have cd : AllD ((ds.take k).drop (max 0 ((k : Int) - 9)).toNat) := (hd.take k).drop _
            obtain ⟨w1, cap, hconv, hE1, hlt1, hcell⟩ := bytes_of wr (b.extract (max 0 ((k : Int) - 9)).toNat k)
            have hxs : (b.extract (max 0 ((k : Int) - 9)).toNat k).data.toList = (ds.take k).drop (max 0 ((k : Int) - 9)).toNat := by
              rw [Lib.extract_data, HB.out, List.drop_take]
            have hsz1 : (b.extract (max 0 ((k : Int) - 9)).toNat k).size = ((ds.take k).drop (max 0 ((k : Int) - 9)).toNat).length := by
              rw [Lib.size_eq, hxs]
            have hcell' : ∀ i, i < ((ds.take k).drop (max 0 ((k : Int) - 9)).toNat).length → w1.cell? ⟨wr.heap.size, i, none⟩ = some (.int .u8 ((((ds.take k).drop (max 0 ((k : Int) - 9)).toNat).getD i 0).toNat : Int)) := by
              intro i hi
              have := hcell i (by rw [hxs]; exact hi)
              rw [this]
              simp only [hxs]
              rw [List.getD_eq_getElem?_getD, List.getElem?_eq_getElem hi]
              rfl
            rw [hsz1] at hconv
            clear hcell hxs hsz1
            have stp1 := (fun (h9 : 9 ≤ k) h => @parse_step ds k q hkl h9 h)
            have stp2 := (@parse_last ds k q)
            have stp3 : Hid ((val q + 1000000000 ^ q.length * dec (ds.take k) = dec ds) → (9 ≤ k → val (q ++ [dec ((ds.take k).drop (max 0 ((k : Int) - 9)).toNat)]) + 1000000000 ^ (q ++ [dec ((ds.take k).drop (max 0 ((k : Int) - 9)).toNat)]).length * dec (ds.take (k - 9)) = dec ds) ∧
                (k ≤ 9 → val (q ++ [dec ((ds.take k).drop (max 0 ((k : Int) - 9)).toNat)]) = dec ds)) := by
              refine Lib.hid (fun h => ⟨fun h9 => ?_, fun h9 => ?_⟩)
              · rw [show (max 0 ((k : Int) - 9)).toNat = k - 9 by omega]; exact stp1 h9 h
              · rw [show (max 0 ((k : Int) - 9)).toNat = 0 by omega]; exact stp2 h
            clear stp1 stp2
            generalize hC : (ds.take k).drop (max 0 ((k : Int) - 9)).toNat = C at *
            clear hC
            have HC := Lib.hid hcell'
            clear hcell'
            obtain ⟨m, hm⟩ : ∃ m, C.length = m := ⟨_, rfl⟩
            rw [hm] at hconv cl1 cl2
            have HM := Lib.hid hm
            clear hm
            have hown1 := hown.exta hE1
            replace hE3 := hE3.trans' hE1
            clear hown
            go_wp2_with fail
            clear hconv
            go_loop [9, 69] (fun x i => ∃ t : Nat, t ≤ m ∧ i = .int .i64 t ∧ x = .int .u32 (dec (C.take t) : Nat)) (fun _ i => m - (intOf i).toNat)
            case atStart => exact ⟨0, by omega, rfl, by simp [dec_nil]⟩
            case round =>
              obtain ⟨t, ht, rfl, rfl⟩ := hrel
              by_cases htm : t < m
              · have hcl := HC.out t (by have := HM.out; omega)
                obtain ⟨d1, d2⟩ := cd.getD (k := t) (by have := HM.out; omega)
                have hx8 := dec_small cd (t := t) (by omega)
                have stp := Lib.hid (@dec_take_getD C t (by have := HM.out; omega))
                generalize C.getD t 0 = c at *
                generalize dec (C.take t) = x at *
                have d1' : 48 ≤ (c.toNat : Int) := by omega
                have d2' : (c.toNat : Int) ≤ 57 := by omega
                have hx8' : (x : Int) ≤ 99999999 := by omega
                go_wp2_with fail
                go_round
                case rel => exact ⟨t + 1, by omega, by go_num, by rw [stp.out]; congr 1; omega⟩
                case measure => simp [intOf]; omega
              · obtain rfl : t = m := by omega
                have h9 := dec_nine cd (by have := HM.out; omega)
                rw [List.take_of_length_le (by have := HM.out; omega)]
                generalize dec C = x at *
                have hq4 : q.length < 4000000 := by omega
                go_wp2_with (at_builtin; refine wpList_app1 rfl _ _ rfl rfl rfl hown1 (d := x) rfl hq4 (by exact hE3.size) ?_; intro v' w' hown' hg')
                go_roundw
                case rel => exact ⟨q ++ [x], (k : Int) - 9, rfl, by omega, by omega, hown', Dig.append.2 ⟨dq, by simp [Dig]; omega⟩, by
                  have := (hinv.out (by omega)).1
                  simp; omega, Lib.hid (fun h => by
                  have h1 := hinv.out (by omega)
                  have h2 := (stp3.out (by simpa using h1.2)).1 (by omega)
                  rw [show ((k : Int) - 9).toNat = k - 9 by omega]
                  exact ⟨by rw [List.length_append]; simp; omega, h2⟩), Lib.hid (fun h => (stp3.out (by simpa using (hinv.out (by omega)).2)).2 (by omega)), (hE3.alloc' _).grown' hg' hown1.block⟩
                case measure => simp only [intOf]; omega
          · have hv := Lib.hid (hend.out (by omega))
            clear hinv hend
            replace hE : Ext w wr := hE.trans' hE3
            obtain ⟨Rr0, Fr0⟩ := rules (hE3.blk h3) 0 _ rfl
            obtain ⟨Rr1, Fr1⟩ := rules (hE3.blk h3) 1 _ rfl
            have hXr := Ext.rfl' wr
            have hu := hown.u32 dq.u32 (by omega)
            obtain ⟨aq, cq, rfl, _, _⟩ := hu.shape
            go_wp2_with ((go_at_call 158; refine (integer_signed _ _ _ _ (by exact hu) (by exact dq)).mono ?_; rintro e w5 ⟨vx, rfl, hx, hEx⟩; obtain ⟨nx, ax, lx, cx, rfl, ux, dx, nnx, lnx, sx, qx, _⟩ := IsInt.shape hx; have ex := Lib.hid qx; clear qx); have hXw5 := (show Ext wr w5 by exact exttI))
            have h3' := hE3.blk h3
            have hE9 : Ext w w5 := by exact exttI
            have k9 := hXw5.blk h3'
            have hbx : Box w5 r := Box.mk k9 rfl
            have hB : But [r] w5 w5 := by exact buttI
            have hBr0 := Rr0 _ hXw5
            have hBr1 := Rr1 _ hXw5
            exact bodyPost_ret (v := .tuple #[.agg #[.bool nx, .slice ax lx.length cx], .int .i64 0]) (by simp [results, Tryz.results100, go_sem, hBr0, hBr1]) rfl ⟨_, rfl, IsInt.put ((hx.mono (by have := HS.out; omega)).cast (by rw [hv.out])) hB (by simp) rfl, ((hB.set _ _ rfl (by simp)).set _ _ rfl (by simp)).old hE9 (by simp; omega)⟩
end Go.Proofs.YtechjiiijiipdaaGreatDoor
namespace Go.Proofs.YtechjiiijiipdaaGreatDoor
open Go.RowKit
set_option linter.unusedSimpArgs false
set_option linter.unusedVariables false

def digs : List UInt8 := [48, 49, 50, 51, 52, 53, 54, 55, 56, 57]
/-- Digits alone, at least one. -/
def plainB (l : List UInt8) : Bool := !l.isEmpty && l.all (digs.contains ·)
theorem dropWhile_nil {p : UInt8 → Bool} : ∀ {l : List UInt8}, l.dropWhile p = [] ↔ l.all p = true
  | [] => by simp
  | c :: l => by
    rw [List.dropWhile_cons, List.all_cons]
    cases h : p c with
    | true => simp [dropWhile_nil (l := l)]
    | false => simp
theorem dropWhile_head {p : UInt8 → Bool} : ∀ {l : List UInt8} {c : UInt8} {t : List UInt8}, l.dropWhile p = c :: t → p c = false
  | [], _, _, h => by simp at h
  | d :: l, c, t, h => by
    rw [List.dropWhile_cons] at h
    cases hd : p d with
    | true => rw [hd] at h; exact dropWhile_head (by simpa using h)
    | false => rw [hd] at h; simp at h; rw [← h.1]; exact hd
theorem trimS_nil (l : List UInt8) : Lib.trimS l digs = [] ↔ l.all (digs.contains ·) = true := by
  unfold Lib.trimS Lib.trimLeftS Lib.trimRightS
  constructor
  · intro h
    have h1 := dropWhile_nil.1 h
    cases hr : l.reverse.dropWhile (digs.contains ·) with
    | nil => have := dropWhile_nil.1 hr; simpa using this
    | cons c t =>
      have h2 := dropWhile_head hr
      rw [hr] at h1
      simp at h1
      rw [← Bool.not_eq_true] at h2
      exact absurd (by simpa using h1.2) h2
  · intro h
    have : l.reverse.dropWhile (digs.contains ·) = [] := dropWhile_nil.2 (by simpa using h)
    rw [this]; rfl
theorem strings_Trim_digits (s : ByteArray) (w : World) (hs : s.size ≤ 4000000000) :
    Calls Tryz.prog 188 #[.string s, .string ⟨#[48, 49, 50, 51, 52, 53, 54, 55, 56, 57]⟩] w fun e w' => e = .returned (.string ⟨(Lib.trimS s.data.toList digs).toArray⟩) ∧ Ext w w' :=
  Any.strings_Trim_laid Tryz.lays160 (by kernel_rfl) s ⟨#[48, 49, 50, 51, 52, 53, 54, 55, 56, 57]⟩ w (by omega) (by decide) (ascii_of_all (by decide))
set_option maxHeartbeats 1000000 in
theorem decimal_plain (s : ByteArray) (w : World) (hs : s.size ≤ 4000000000) :
    Calls Tryz.prog 140 #[.string s] w fun e w' => e = .returned (.bool (plainB s.data.toList)) ∧ Ext w w' := by
  have ht := trimS_nil s.data.toList
  have hC := strings_Trim_digits s
  unfold plainB
  by_cases h0 : s.data.toList = []
  · have h1 : s.toList = [] := by rw [Lib.toList_data, h0]
    have h2 : (!s.toList.isEmpty) = false := by rw [h1]; rfl
    rw [h0]
    clear ht hC h0
    go_enter Tryz.func140, Tryz.ntmps140
    go_wp2
    go_ret
    exact ⟨rfl, Ext.rfl' _⟩
  · have h1 : s.toList.isEmpty = false := by rw [Lib.toList_data]; cases h : s.data.toList with | nil => exact absurd h h0 | cons _ _ => rfl
    have h3 : s.data.toList.isEmpty = false := by rw [← Lib.toList_data]; exact h1
    have h2 : (!s.toList.isEmpty) = true := by rw [h1]; rfl
    rw [h3]
    generalize Lib.trimS s.data.toList digs = t at *
    obtain ⟨b, hb⟩ : ∃ b, s.data.toList.all (digs.contains ·) = b := ⟨_, rfl⟩
    rw [hb] at ht ⊢
    have HC := Lib.hid hC
    clear hC h3 h0 hb
    cases b with
    | true =>
      obtain rfl := ht.2 rfl
      clear ht
      go_enter Tryz.func140, Tryz.ntmps140
      go_wp2_with (go_at_call 188; refine (HC.out _ hs).mono ?_; rintro e w5 ⟨rfl, hE5⟩)
      go_ret
      exact ⟨rfl, hE5⟩
    | false =>
      have h4 : t.isEmpty = false := by cases t with | nil => exact absurd (ht.1 rfl) (by simp) | cons _ _ => rfl
      clear ht
      go_enter Tryz.func140, Tryz.ntmps140
      go_wp2_with (go_at_call 188; refine (HC.out _ hs).mono ?_; rintro e w5 ⟨rfl, hE5⟩)
      go_ret
      exact ⟨rfl, hE5⟩
theorem U32s.butAll {rs : List Nat} {a b : World} {v : Value} {l : List Nat} (h : U32s a v l) (hbox : ∀ r, r ∈ rs → Box a r) (hB : But rs a b) : U32s b v l := by
  obtain ⟨ad, c, rfl, hc, hd, hn, hz, hcell⟩ := h
  refine ⟨ad, c, rfl, hc, hd, hn, hz, ?_⟩
  rcases hcell with rfl | ⟨p, o, rfl, hlt, hcell⟩
  · exact .inl rfl
  rcases l with _ | ⟨d, l⟩
  · exact .inl rfl
  refine .inr ⟨p, o, rfl, Nat.lt_of_lt_of_le hlt hB.size, fun k hk => ?_⟩
  have hne : p ∉ rs := by
    intro hm
    obtain ⟨cs, t, h1, h2⟩ := hbox p hm
    have h0 := hcell 0 (by simp)
    simp only [World.cell?, h1] at h0
    have := List.all_eq_true.1 h2 _ (Array.mem_toList_iff.2 (Array.mem_of_getElem? h0))
    simp [noU] at this
  exact (World.cell?_of_block (w := a) (a := ⟨p, o + k, none⟩) (hB.block p hlt hne)).trans (hcell k hk)
theorem IsInt.butAll {rs : List Nat} {n : Nat} {a b : World} {v : Value} {z : Int} (h : IsInt n a v z) (hbox : ∀ r, r ∈ rs → Box a r) (hB : But rs a b) : IsInt n b v z := by
  obtain ⟨neg, sv, l, hv, hu, rest⟩ := h
  exact ⟨neg, sv, l, hv, hu.butAll hbox hB, rest⟩
attribute [local irreducible] IsInt U32s Dig Norm Own IsRat
set_option maxRecDepth 100000 in
set_option maxHeartbeats 1000000 in
theorem decimal_power (w : World) (n : Nat) (hn : n ≤ 1000) :
    Calls Tryz.prog 102 #[.int .i64 (n : Int)] w fun e w' => ∃ v, e = .returned v ∧ IsInt (3 * (n + 1)) w' v ((10 ^ n : Nat) : Int) ∧ Ext w w' := by
  go_enter Tryz.func102, Tryz.ntmps102
  go_upto_region 1 with (fail)
  obtain ⟨w3, r, e1, e2, h3, hE⟩ := box1 w (.cells #[.bool false, .slice none 0 0] 53)
  rw [e1, e2]
  have hr0 : w.heap.size ≤ r := by omega
  clear e1 e2
  go_upto_region 2 with ((go_at_call 114; refine (integer_FromInt64 _ 1 (by omega) (by omega)).mono ?_; rintro e w4 ⟨vx, rfl, hx, hEx⟩; obtain ⟨nx, ax, kx, cx, rfl⟩ := IsInt.form hx))
  obtain ⟨w5, p, f1, f2, h1, hE1⟩ := box1 w4 (.cells #[.bool nx, .slice ax kx cx] 53)
  rw [f1, f2]
  have hp0 : w.heap.size ≤ p ∧ r < p := by have := hE.size; have := hEx.size; have := (Array.getElem?_eq_some_iff.1 h3).1; omega
  clear f1 f2
  go_upto_region 3 with ((go_at_call 114; refine (integer_FromInt64 _ 10 (by omega) (by omega)).mono ?_; rintro e w6 ⟨vy, rfl, hy, hEy⟩; obtain ⟨ny, ay, ky, cy, rfl⟩ := IsInt.form hy))
  obtain ⟨w7, q, f1, f2, h2, hE2⟩ := box1 w6 (.cells #[.bool ny, .slice ay ky cy] 53)
  rw [f1, f2]
  have hq0 : w.heap.size ≤ q ∧ r < q ∧ p < q := by have := hE.size; have := hEx.size; have := (Array.getElem?_eq_some_iff.1 h1).1; have := hE1.size; have := hEy.size; omega
  clear f1 f2
  have h3' := hE2.blk (hEy.blk (hE1.blk (hEx.blk h3)))
  have h1' := hE2.blk (hEy.blk h1)
  have hx' := hx.ext (show Ext w4 w7 by exact exttI)
  have hy' := hy.ext hE2
  have hEw : Ext w w7 := by exact exttI
  clear hE hEx hE1 hEy hE2 h3 h1 hx hy
  go_wp2_with (first | fail)
  go_loopw [8] (fun i w' => ∃ (k : Nat) (nc : Bool) (ac : Option Addr) (kc cc : Nat), k ≤ n ∧ i = .int .i64 k ∧ w'.heap[p]? = some (.cells #[.bool nc, .slice ac kc cc] 53) ∧ IsInt (3 * (k + 1)) w' (.agg #[.bool nc, .slice ac kc cc]) ((10 ^ k : Nat) : Int) ∧ But [p] w7 w') (fun i _ => n - (intOf i).toNat)
  case atStart => exact ⟨0, _, _, _, _, by omega, rfl, h1', hx', But.start1 (Box.mk h1' rfl)⟩
  case round =>
    have hbp : Box w7 p := Box.mk h1' rfl
    clear h1' hx'
    obtain ⟨k, nc, ac, kc, cc, hk, rfl, h1, hc, hB⟩ := hrel
    have hEr : Ext w wr := hB.old hEw (by simp; omega)
    have h2r := (hB.block q (Array.getElem?_eq_some_iff.1 h2).1 (by simp; omega)).trans h2
    have h3r := (hB.block r (Array.getElem?_eq_some_iff.1 h3').1 (by simp; omega)).trans h3'
    by_cases hlt : k < n
    · have hyr : IsInt 3 wr (.agg #[.bool ny, .slice ay ky cy]) 10 := hy'.butAll (by simpa using hbp) hB
      obtain ⟨Rp0, Fp0⟩ := rules h1 0 _ rfl
      obtain ⟨Rp1, Fp1⟩ := rules h1 1 _ rfl
      obtain ⟨Rq0, Fq0⟩ := rules h2r 0 _ rfl
      obtain ⟨Rq1, Fq1⟩ := rules h2r 1 _ rfl
      have hX := Ext.rfl' wr
      go_wp2_with ((go_at_call 118; refine (integer_Mul _ _ _ _ _ _ _ hc hyr (by omega) (by omega)).mono ?_; rintro e w8 ⟨vz, rfl, hz, hEz⟩; obtain ⟨nz, az, kz, cz, rfl⟩ := IsInt.form hz); have hXw8 := (show Ext wr w8 by exact exttI))
      have k1 := hXw8.blk h1
      go_roundw
      case rel => exact ⟨k + 1, nz, az, kz, cz, by omega, by go_num, by exact heaptI, IsInt.cast (z := ((10 ^ k : Nat) : Int) * 10) (IsInt.mono (n := 3 * (k + 1) + 3) (by exact inttI) (by omega)) (by rw [Nat.pow_succ, Int.natCast_mul]; rfl), by exact buttI⟩
      case measure => simp [intOf]; omega
    · obtain rfl : k = n := by omega
      obtain ⟨Rp0, Fp0⟩ := rules h1 0 _ rfl
      obtain ⟨Rp1, Fp1⟩ := rules h1 1 _ rfl
      obtain ⟨Rr0, Fr0⟩ := rules h3r 0 _ rfl
      obtain ⟨Rr1, Fr1⟩ := rules h3r 1 _ rfl
      have hX := Ext.rfl' wr
      have hE9 : Ext w wr := hEr
      clear hB
      have hbx : Box wr r := Box.mk h3r rfl
      have hB : But [r] wr wr := by exact buttI
      have hBr0 := Rr0 _ hX
      have hBr1 := Rr1 _ hX
      go_wp2_with (first | fail)
      exact bodyPost_ret (v := .agg #[.bool nc, .slice ac kc cc]) (by simp [results, Tryz.results102, go_sem, hBr0, hBr1]) rfl ⟨_, rfl, IsInt.put hc hB (by simp) rfl, ((hB.set _ _ rfl (by simp)).set _ _ rfl (by simp)).old hE9 (by simp; omega)⟩
end Go.Proofs.YtechjiiijiipdaaGreatDoor
namespace Go.Proofs.YtechjiiijiipdaaGreatDoor
open Go.RowKit
set_option linter.unusedSimpArgs false
set_option linter.unusedVariables false

def okD (l : List UInt8) : Bool :=
  plainB (whole (bodyOf l)) && !(decide (1 < (whole (bodyOf l)).length) && (whole (bodyOf l)).head? == some 48) && (!dotted (bodyOf l) || plainB (frac (bodyOf l)) && decide ((frac (bodyOf l)).length ≤ 30))
def allD (l : List UInt8) : List UInt8 := (whole (bodyOf l) ++ frac (bodyOf l)).dropWhile (· == 48)
/-- What 'digits' returns. -/
def digF (l : List UInt8) : List UInt8 × Nat × Bool :=
  if l.length ≤ 65536 ∧ okD l = true then if allD l = [] then ([48], (frac (bodyOf l)).length, !isNeg l) else (sig (isNeg l) (allD l), (frac (bodyOf l)).length, true) else ([], 0, false)
theorem whole_le (l : List UInt8) : (whole l).length ≤ l.length := (List.takeWhile_prefix _).length_le
theorem frac_le (l : List UInt8) : (frac l).length ≤ l.length := by
  unfold frac
  have := (List.dropWhile_suffix (l := l) (· != 46)).length_le
  simp only [List.length_drop]
  omega
theorem bodyOf_le (l : List UInt8) : (bodyOf l).length ≤ l.length := by
  unfold bodyOf; split <;> simp
theorem ba_toList (x : List UInt8) : (⟨x.toArray⟩ : ByteArray).data.toList = x := by simp
theorem strings_TrimLeft_zero (x : List UInt8) (w : World) :
    Calls Tryz.prog 141 #[.string ⟨x.toArray⟩, .string ⟨#[48]⟩] w fun e w' => e = .returned (.string ⟨(x.dropWhile (· == 48)).toArray⟩) ∧ w = w' :=
  (Any.strings_TrimLeft_one Tryz.lays161 ⟨x.toArray⟩ 48 (by decide) w).mono (by rintro e w' ⟨rfl, rfl⟩; exact ⟨rfl, rfl⟩)

set_option maxRecDepth 100000 in
set_option maxHeartbeats 4000000 in
theorem decimal_digits (s : ByteArray) (w : World) (hs : s.size ≤ 4000000000) :
    Calls Tryz.prog 78 #[.string s] w fun e w' => e = .returned (.tuple #[.string ⟨(digF s.data.toList).1.toArray⟩, .int .i64 (digF s.data.toList).2.1, .bool (digF s.data.toList).2.2]) ∧ Ext w w' := by
  have hsl := Lib.size_eq s
  by_cases hl : 65536 < s.size
  · have hd : digF s.data.toList = ([], 0, false) := by unfold digF; rw [if_neg (by omega)]
    have hI : (65536 : Int) < (s.size : Int) := by omega
    rw [hd]
    clear hd hl hsl
    go_enter Tryz.func78, Tryz.ntmps78
    go_wp2
    go_ret3
    exact ⟨rfl, Ext.rfl' _⟩
  · have hI : ¬ (65536 : Int) < (s.size : Int) := by omega
    have hCP := cutPrefix_any s
    have hb1 := bodyOf_le s.data.toList
    have hb2 := whole_le (bodyOf s.data.toList)
    have hb3 := frac_le (bodyOf s.data.toList)
    have hd : digF s.data.toList = if okD s.data.toList = true then if allD s.data.toList = [] then ([48], (frac (bodyOf s.data.toList)).length, !isNeg s.data.toList) else (sig (isNeg s.data.toList) (allD s.data.toList), (frac (bodyOf s.data.toList)).length, true) else ([], 0, false) := by
      unfold digF
      have : s.data.toList.length ≤ 65536 := by omega
      simp only [this, true_and]
    unfold okD allD at hd
    rw [hd]
    clear hd
    generalize hB : bodyOf s.data.toList = B at *
    generalize isNeg s.data.toList = N at *
    have hC := strings_Cut_dot ⟨B.toArray⟩
    rw [ba_toList] at hC
    generalize whole B = X at *
    generalize frac B = Y at *
    generalize dotted B = D at *
    have hpx := decimal_plain ⟨X.toArray⟩
    have hpy := decimal_plain ⟨Y.toArray⟩
    rw [ba_toList] at hpx hpy
    generalize plainB X = px at *
    generalize plainB Y = py at *
    have hT := strings_TrimLeft_zero (X ++ Y)
    have hZl : ((X ++ Y).dropWhile (· == 48)).length ≤ X.length + Y.length := by
      have := (List.dropWhile_suffix (l := X ++ Y) (· == 48)).length_le
      rwa [List.length_append] at this
    generalize (X ++ Y).dropWhile (· == 48) = Z at *
    obtain ⟨z0, hz0⟩ : ∃ z0 : Bool, (decide (1 < X.length) && X.head? == some 48) = z0 := ⟨_, rfl⟩
    rw [hz0]
    obtain ⟨x, hx⟩ : ∃ x : ByteArray, x = ⟨X.toArray⟩ := ⟨_, rfl⟩
    obtain ⟨y, hy⟩ : ∃ y : ByteArray, y = ⟨Y.toArray⟩ := ⟨_, rfl⟩
    have hxs : x.size = X.length := by rw [hx]; simp [ByteArray.size]
    have hys : y.size = Y.length := by rw [hy]; simp [ByteArray.size]
    have hxy : (⟨(X ++ Y).toArray⟩ : ByteArray) = x ++ y := by rw [hx, hy]; ext1; simp
    have hx0 : (h : 0 < x.size) → (x[0].toNat = 48 ↔ X.head? = some 48) := by
      intro h
      subst hx
      cases X with
      | nil => simp [ByteArray.size] at h
      | cons c t =>
        have : (⟨(c :: t).toArray⟩ : ByteArray)[0] = c := rfl
        simp only [this, List.head?_cons, Option.some.injEq]
        exact ⟨fun h => UInt8.toNat_inj.1 h, fun h => by rw [h]; rfl⟩
    rw [← hx] at hC hpx
    rw [← hy] at hC hpy
    rw [hxy] at hT
    obtain ⟨ok, hok⟩ : ∃ ok : Bool, (px && !z0 && (!D || py && decide (Y.length ≤ 30))) = ok := ⟨_, rfl⟩
    rw [hok]
    obtain ⟨R, hR⟩ : ∃ R : List UInt8 × Nat × Bool, (if ok = true then if Z = [] then ([48], Y.length, !N) else (sig N Z, Y.length, true) else ([], 0, false)) = R := ⟨_, rfl⟩
    rw [hR]
    have HR := Lib.hid hR
    clear hR
    have hXs : x.size ≤ 4000000000 := by omega
    have hYs : y.size ≤ 4000000000 := by omega
    have hBs : (⟨B.toArray⟩ : ByteArray).size ≤ 4000000000 := by simp only [ByteArray.size, List.size_toArray]; omega
    have hXY : x.size + y.size ≤ 8000000000 := by omega
    generalize (⟨B.toArray⟩ : ByteArray) = b at *
    obtain ⟨z, hz⟩ : ∃ z : ByteArray, z = ⟨Z.toArray⟩ := ⟨_, rfl⟩
    rw [← hz] at hT
    have hZs : 1 + z.size ≤ 8000000001 := by rw [hz]; simp only [ByteArray.size, List.size_toArray]; omega
    have hzt : z.toList = Z := by rw [Lib.toList_data, hz]
    have HCP := Lib.hid hCP
    have HC := Lib.hid (fun w => hC w hBs)
    have HPX := Lib.hid (fun w => hpx w hXs)
    have HPY := Lib.hid (fun w => hpy w hYs)
    have HT := Lib.hid hT
    have HZ0 := Lib.hid hz0
    have HOK := Lib.hid hok
    have HZ := Lib.hid hz
    have HXS := Lib.hid hxs
    have HYS := Lib.hid hys
    have HX0 := Lib.hid hx0
    have HZT := Lib.hid hzt
    clear hCP hC hpx hpy hT hz0 hok hz hxs hys hx0 hzt hx hy hxy hB hsl hb1 hb2 hb3 hl hZl
    go_enter Tryz.func78, Tryz.ntmps78
    go_upto_region 5 with (first | (go_at_call 138; refine (HCP.out _).mono ?_; rintro e w' ⟨rfl, rfl⟩) | (go_at_call 139; refine (HC.out _).mono ?_; rintro e w3 ⟨rfl, hD3⟩; replace hD3 := hD3.ext))
    go_cut [50] (fun t w' => t = .bool (!ok) ∧ Ext w w')
    case first =>
      cases px with
      | false =>
        have e : ok = false := by rw [← HOK.out]; rfl
        go_wp2_with (first | (go_at_call 140; first | ((with_reducible refine (HPX.out _).mono ?_); rintro e w4 ⟨rfl, hE4⟩) | ((with_reducible refine (HPY.out _).mono ?_); rintro e w5 ⟨rfl, hE5⟩)))
        go_meet
        exact ⟨by rw [e]; rfl, by exact exttI⟩
      | true =>
        obtain ⟨zz, hzz⟩ : ∃ zz : Bool, z0 = zz := ⟨_, rfl⟩
        by_cases h1 : 1 < X.length
        · have g1 : decide ((1 : Int) < (x.size : Int)) = true := by have := HXS.out; simp; omega
          have g1' : (1 : Int) < (x.size : Int) := by have := HXS.out; omega
          have g0 : 0 < x.size := by have := HXS.out; omega
          by_cases h48 : X.head? = some 48
          · have e48 : ((x[0].toNat : Int) == 48) = true := by have := (HX0.out g0).2 h48; simp; omega
            have e : ok = false := by rw [← HOK.out, ← HZ0.out, h48]; simp [h1]
            clear h1 h48 hzz
            go_wp2_with (first | (go_at_call 140; first | ((with_reducible refine (HPX.out _).mono ?_); rintro e w4 ⟨rfl, hE4⟩) | ((with_reducible refine (HPY.out _).mono ?_); rintro e w5 ⟨rfl, hE5⟩)))
            go_meet
            exact ⟨by rw [e]; rfl, by exact exttI⟩
          · have e48 : ((x[0].toNat : Int) == 48) = false := by have := mt (HX0.out g0).1 h48; simp; omega
            have ez : z0 = false := by rw [← HZ0.out]; simp [h48]
            clear h1 h48 hzz
            cases D with
            | false =>
              have e : ok = true := by rw [← HOK.out, ez]; rfl
              clear ez
              go_wp2_with (first | (go_at_call 140; first | ((with_reducible refine (HPX.out _).mono ?_); rintro e w4 ⟨rfl, hE4⟩) | ((with_reducible refine (HPY.out _).mono ?_); rintro e w5 ⟨rfl, hE5⟩)))
              go_meet
              exact ⟨by rw [e]; rfl, by exact exttI⟩
            | true =>
              cases py with
              | false =>
                have e : ok = false := by rw [← HOK.out, ez]; rfl
                clear ez
                go_wp2_with (first | (go_at_call 140; first | ((with_reducible refine (HPX.out _).mono ?_); rintro e w4 ⟨rfl, hE4⟩) | ((with_reducible refine (HPY.out _).mono ?_); rintro e w5 ⟨rfl, hE5⟩)))
                go_meet
                exact ⟨by rw [e]; rfl, by exact exttI⟩
              | true =>
                by_cases h30 : Y.length ≤ 30
                · have g2 : decide ((30 : Int) < (y.size : Int)) = false := by have := HYS.out; simp; omega
                  have e : ok = true := by rw [← HOK.out, ez]; simp [h30]
                  clear ez h30
                  go_wp2_with (first | (go_at_call 140; first | ((with_reducible refine (HPX.out _).mono ?_); rintro e w4 ⟨rfl, hE4⟩) | ((with_reducible refine (HPY.out _).mono ?_); rintro e w5 ⟨rfl, hE5⟩)))
                  go_meet
                  exact ⟨by rw [e]; rfl, by exact exttI⟩
                · have g2 : decide ((30 : Int) < (y.size : Int)) = true := by have := HYS.out; simp; omega
                  have e : ok = false := by rw [← HOK.out, ez]; simp [h30]
                  clear ez h30
                  go_wp2_with (first | (go_at_call 140; first | ((with_reducible refine (HPX.out _).mono ?_); rintro e w4 ⟨rfl, hE4⟩) | ((with_reducible refine (HPY.out _).mono ?_); rintro e w5 ⟨rfl, hE5⟩)))
                  go_meet
                  exact ⟨by rw [e]; rfl, by exact exttI⟩
        · have g1 : decide ((1 : Int) < (x.size : Int)) = false := by have := HXS.out; simp; omega
          have ez : z0 = false := by rw [← HZ0.out]; simp [h1]
          clear h1 hzz
          cases D with
          | false =>
            have e : ok = true := by rw [← HOK.out, ez]; rfl
            clear ez
            go_wp2_with (first | (go_at_call 140; first | ((with_reducible refine (HPX.out _).mono ?_); rintro e w4 ⟨rfl, hE4⟩) | ((with_reducible refine (HPY.out _).mono ?_); rintro e w5 ⟨rfl, hE5⟩)))
            go_meet
            exact ⟨by rw [e]; rfl, by exact exttI⟩
          | true =>
            cases py with
            | false =>
              have e : ok = false := by rw [← HOK.out, ez]; rfl
              clear ez
              go_wp2_with (first | (go_at_call 140; first | ((with_reducible refine (HPX.out _).mono ?_); rintro e w4 ⟨rfl, hE4⟩) | ((with_reducible refine (HPY.out _).mono ?_); rintro e w5 ⟨rfl, hE5⟩)))
              go_meet
              exact ⟨by rw [e]; rfl, by exact exttI⟩
            | true =>
              by_cases h30 : Y.length ≤ 30
              · have g2 : decide ((30 : Int) < (y.size : Int)) = false := by have := HYS.out; simp; omega
                have e : ok = true := by rw [← HOK.out, ez]; simp [h30]
                clear ez h30
                go_wp2_with (first | (go_at_call 140; first | ((with_reducible refine (HPX.out _).mono ?_); rintro e w4 ⟨rfl, hE4⟩) | ((with_reducible refine (HPY.out _).mono ?_); rintro e w5 ⟨rfl, hE5⟩)))
                go_meet
                exact ⟨by rw [e]; rfl, by exact exttI⟩
              · have g2 : decide ((30 : Int) < (y.size : Int)) = true := by have := HYS.out; simp; omega
                have e : ok = false := by rw [← HOK.out, ez]; simp [h30]
                clear ez h30
                go_wp2_with (first | (go_at_call 140; first | ((with_reducible refine (HPX.out _).mono ?_); rintro e w4 ⟨rfl, hE4⟩) | ((with_reducible refine (HPY.out _).mono ?_); rintro e w5 ⟨rfl, hE5⟩)))
                go_meet
                exact ⟨by rw [e]; rfl, by exact exttI⟩
    case rest =>
      obtain ⟨rfl, hE⟩ := hcut
      clear HCP HC HPX HPY HZ0 HX0 HOK
      cases ok with
      | false =>
        go_wp2_with fail
        go_ret3
        exact ⟨by rw [← HR.out]; simp, hE⟩
      | true =>
        by_cases hZ : Z = []
        · have hz1 : z.toList.isEmpty = true := by rw [HZT.out, hZ]; rfl
          have HZZ := Lib.hid hZ
          clear hZ
          go_wp2_with (go_at_call 141; refine (HT.out _).mono ?_; rintro e w' ⟨rfl, rfl⟩)
          go_ret3
          refine ⟨?_, hE⟩
          have e : R = ([48], Y.length, !N) := by rw [← HR.out]; simp [HZZ.out]
          rw [e, ← HYS.out]
          rfl
        · have hz1 : z.toList.isEmpty = false := by rw [HZT.out]; cases Z with | nil => exact absurd rfl hZ | cons _ _ => rfl
          have HZZ := Lib.hid hZ
          clear hZ
          cases N with
          | false =>
            go_wp2_with (go_at_call 141; refine (HT.out _).mono ?_; rintro e w' ⟨rfl, rfl⟩)
            go_ret3
            refine ⟨?_, hE⟩
            have e : R = (Z, Y.length, true) := by rw [← HR.out]; simp [HZZ.out, sig]
            rw [e, ← HYS.out, HZ.out]
            rfl
          | true =>
            have e45 : (⟨#[45]⟩ : ByteArray) ++ z = ⟨(45 :: Z).toArray⟩ := by rw [HZ.out]; ext1; simp
            have HE := Lib.hid e45
            clear e45
            go_wp2_with (go_at_call 141; refine (HT.out _).mono ?_; rintro e w' ⟨rfl, rfl⟩)
            go_ret3
            refine ⟨?_, hE⟩
            have e : R = (45 :: Z, Y.length, true) := by rw [← HR.out]; simp [HZZ.out, sig]
            rw [e, ← HYS.out, ← HE.out]
            rfl
end Go.Proofs.YtechjiiijiipdaaGreatDoor
namespace Go.Proofs.YtechjiiijiipdaaGreatDoor
open Go.RowKit
set_option linter.unusedSimpArgs false
set_option linter.unusedVariables false

theorem digs_iff (c : UInt8) : digs.contains c = true ↔ 48 ≤ c.toNat ∧ c.toNat ≤ 57 := by
  simp [digs, ← UInt8.toNat_inj]
  omega
theorem plainB_iff (l : List UInt8) : plainB l = true ↔ l ≠ [] ∧ AllD l := by
  unfold plainB AllD
  rw [Bool.and_eq_true, List.all_eq_true]
  constructor
  · rintro ⟨h1, h2⟩
    exact ⟨by rintro rfl; simp at h1, fun c hc => (digs_iff c).1 (h2 c hc)⟩
  · rintro ⟨h1, h2⟩
    exact ⟨by cases l with | nil => exact absurd rfl h1 | cons _ _ => rfl, fun c hc => (digs_iff c).2 (h2 c hc)⟩
theorem dec_drop0 : ∀ l : List UInt8, dec (l.dropWhile (· == 48)) = dec l
  | [] => rfl
  | c :: l => by
    rw [List.dropWhile_cons]
    by_cases h : c = 48
    · subst h
      simp only [beq_self_eq_true, if_true]
      rw [dec_drop0 l, dec_cons]; simp
    · simp [h]
theorem drop0_head : ∀ {l : List UInt8}, (l.dropWhile (· == 48)).head? ≠ some 48
  | [] => by simp
  | c :: l => by
    rw [List.dropWhile_cons]
    by_cases h : c = 48
    · simp only [h, beq_self_eq_true, if_true]; exact drop0_head (l := l)
    · simp [h]
theorem frac_undotted {l : List UInt8} (h : dotted l = false) : frac l = [] := by
  rcases index_dot l with ⟨_, _, h3, _⟩ | ⟨_, _, _, _, _, h4⟩
  · exact h3
  · rw [h] at h4; cases h4
theorem parts_le (l : List UInt8) : (whole l).length + (frac l).length ≤ l.length := by
  rcases index_dot l with ⟨_, h2, h3, _⟩ | ⟨o, h0, _, h2, h3, _⟩
  · rw [h2, h3]; simp
  · rw [h2, h3]; simp; omega
theorem body_sig (l : List UInt8) : l = sig (isNeg l) (bodyOf l) := by
  cases l with
  | nil => rfl
  | cons c l =>
    by_cases hc : c = 45
    · subst hc; simp [isNeg, bodyOf, sig]
    · have e1 : bodyOf (c :: l) = c :: l := by unfold bodyOf; split <;> simp_all
      have e2 : isNeg (c :: l) = false := by simp [isNeg, hc]
      rw [e1, e2]; rfl
theorem sig_len (b : Bool) (l : List UInt8) : (sig b l).length = l.length + (if b then 1 else 0) := by cases b <;> simp [sig]
/-- Is l a decimal text? -/
def isDec (l : List UInt8) : Bool := (digF l).2.2
/-- The number of a decimal text. -/
def decQ (l : List UInt8) : Rat := Rat.divInt (sgn (isNeg l) (dec (whole (bodyOf l) ++ frac (bodyOf l)))) ((10 ^ (frac (bodyOf l)).length : Nat) : Int)
theorem digF_ok {l : List UInt8} (h : isDec l = true) : ∃ (neg : Bool) (ds : List UInt8), (digF l).1 = sig neg ds ∧ AllD ds ∧ ds ≠ [] ∧ (ds.head? = some 48 → ds = [48] ∧ neg = false) ∧ l.length ≤ 65536 ∧
    (digF l).1.length ≤ l.length ∧ (digF l).2.1 = (frac (bodyOf l)).length ∧ (digF l).2.1 ≤ 30 ∧ sgn neg (dec ds) = sgn (isNeg l) (dec (whole (bodyOf l) ++ frac (bodyOf l))) := by
  unfold isDec digF at h
  unfold digF
  by_cases h1 : l.length ≤ 65536 ∧ okD l = true
  · rw [if_pos h1] at h ⊢
    obtain ⟨hlen, hok⟩ := h1
    have hl := congrArg List.length (body_sig l)
    rw [sig_len] at hl
    have hp := parts_le (bodyOf l)
    unfold okD at hok
    simp only [Bool.and_eq_true, Bool.or_eq_true, Bool.not_eq_true', decide_eq_true_eq] at hok
    obtain ⟨⟨hpw, _⟩, hd⟩ := hok
    obtain ⟨hw0, hwd⟩ := (plainB_iff _).1 hpw
    have hfd : AllD (frac (bodyOf l)) ∧ (frac (bodyOf l)).length ≤ 30 := by
      rcases hd with hd | ⟨hd, h30⟩
      · rw [frac_undotted hd]; exact ⟨by simp [AllD], by simp⟩
      · exact ⟨((plainB_iff _).1 hd).2, h30⟩
    have hwl := List.length_pos_iff.2 hw0
    have hall : AllD (whole (bodyOf l) ++ frac (bodyOf l)) := AllD.append.2 ⟨hwd, hfd.1⟩
    have hdz := dec_drop0 (whole (bodyOf l) ++ frac (bodyOf l))
    by_cases hz : allD l = []
    · rw [if_pos hz] at h ⊢
      unfold allD at hz
      rw [hz] at hdz
      have hn : isNeg l = false := by simpa using h
      refine ⟨false, [48], rfl, by simp [AllD], by simp, fun _ => ⟨rfl, rfl⟩, hlen, ?_, rfl, hfd.2, ?_⟩
      · simp only [List.length_singleton]; omega
      · rw [hn, ← hdz]; rfl
    · rw [if_neg hz] at h ⊢
      unfold allD at hz ⊢
      have hle : ((whole (bodyOf l) ++ frac (bodyOf l)).dropWhile (· == 48)).length ≤ (whole (bodyOf l)).length + (frac (bodyOf l)).length := by
        have := (List.dropWhile_suffix (l := whole (bodyOf l) ++ frac (bodyOf l)) (· == 48)).length_le
        rwa [List.length_append] at this
      refine ⟨isNeg l, _, rfl, fun c hc => hall c ((List.dropWhile_suffix _).mem hc), hz, fun h => absurd h drop0_head, hlen, ?_, rfl, hfd.2, by rw [hdz]⟩
      · show (sig _ _).length ≤ _
        rw [sig_len]; omega
  · rw [if_neg h1] at h; cases h
attribute [local irreducible] IsInt U32s Dig Norm Own IsRat AllD dec digF isDec decQ
set_option maxRecDepth 100000 in
set_option maxHeartbeats 2000000 in
theorem decimal_Parse_ok (s : ByteArray) (w : World) (hs : s.size ≤ 4000000000) (h : isDec s.data.toList = true) :
    Calls Tryz.prog 40 #[.string s] w fun e w' => ∃ v, e = .returned (.tuple #[v, .int .i64 0]) ∧ IsRat (s.size / 9 + 100) w' v (decQ s.data.toList) ∧ Ext w w' := by
  obtain ⟨neg, ds, h1, h2, h3, h4, h5, h6, h7, h8, h9⟩ := digF_ok h
  have hD := decimal_digits s
  have hsz := Lib.size_eq s
  unfold isDec at h
  rw [h] at hD
  have hP := fun w => integer_Parse w ⟨(digF s.data.toList).1.toArray⟩ neg ds (by rw [ba_toList, h1]) h2 h3 h4 (by simp only [ByteArray.size, List.size_toArray]; omega)
  have hdl : ds.length ≤ s.size := by rw [h1, sig_len] at h6; omega
  have hq : Hid (Rat.divInt (sgn neg (dec ds)) ((10 ^ (digF s.data.toList).2.1 : Nat) : Int) = decQ s.data.toList) := by
    refine Lib.hid ?_
    unfold decQ
    rw [h7, h9]
  generalize (digF s.data.toList).1 = t at *
  generalize (digF s.data.toList).2.1 = m at *
  generalize (⟨t.toArray⟩ : ByteArray) = tb at *
  have HD := Lib.hid (fun w => hD w hs)
  have HP := Lib.hid hP
  clear h1 h2 h3 h4 h6 h7 h9 hD hP h
  rw [← hsz] at h5
  clear hsz
  go_enter Tryz.func40, Tryz.ntmps40
  go_upto_region 1 with (fail)
  obtain ⟨w3, r, e1, e2, k3, hE⟩ := box1 w (.cells #[.bool false, .slice none 0 0, .bool false, .slice none 0 0] 55)
  rw [e1, e2]
  have hr0 : w.heap.size ≤ r := by omega
  clear e1 e2
  go_upto_region 5 with (first | (go_at_call 78; refine (HD.out _).mono ?_; rintro e w4 ⟨rfl, hE4⟩) | (go_at_call 100; refine (HP.out _).mono ?_; rintro e w5 ⟨vx, rfl, hx, hEx⟩; obtain ⟨nx, ax, kx, cx, rfl⟩ := IsInt.form hx))
  obtain ⟨w6, p, f1, f2, k1, hE6⟩ := box1 w5 (.cells #[.bool nx, .slice ax kx cx] 53)
  rw [f1, f2]
  clear f1 f2
  have hX6 := (show Ext w3 w6 by exact exttI)
  replace k3 := hX6.blk k3
  replace hE := hE.trans' hX6
  replace hx := hx.ext hE6
  clear hX6 hE6 hEx hE4 HD HP
  go_upto_region 7 with (fail)
  obtain ⟨Rp0, Fp0⟩ := rules k1 0 _ rfl
  obtain ⟨Rp1, Fp1⟩ := rules k1 1 _ rfl
  obtain ⟨Rr0, Fr0⟩ := rules k3 0 _ rfl
  obtain ⟨Rr1, Fr1⟩ := rules k3 1 _ rfl
  obtain ⟨Rr2, Fr2⟩ := rules k3 2 _ rfl
  obtain ⟨Rr3, Fr3⟩ := rules k3 3 _ rfl
  (refine wp_region_noPanic ?_; refine wp_region_head 6 (fun w' => Ext w6 w') (by kernel_rfl) (by kernel_rfl) ?_ (fun hHeld => ?_); (focus (show Ext _ _; exact exttI)); (try simp only [List.size_toArray, List.length_cons, List.length_nil]))
  (refine wpHead_take 0 (by kernel_rfl) (fun _ _ _ _ _ h => h) (by assumption) ?_; simp only [atOp]; refine ⟨by rfl, ?_, ?_, ?_⟩; rotate_left; (focus (intro w' hSw; (try dsimp only at hSw); go_simp; (try with_reducible rfl))); (try simp only [Act.put, List.setIfInBounds_toArray, List.set_cons_zero, List.set_cons_succ]))
  (refine wpHead_take 1 (by kernel_rfl) (fun _ _ _ _ _ h => h) (by assumption) ?_; simp only [atOp]; refine ⟨by rfl, ?_, ?_, ?_⟩; rotate_left; (focus (intro w' hSw; (try dsimp only at hSw); go_simp; (try with_reducible rfl))); (try simp only [Act.put, List.setIfInBounds_toArray, List.set_cons_zero, List.set_cons_succ]))
  (refine wpHead_only 2 (by kernel_rfl) ?_; simp only [atOp]; intro K hK; go_simp; ((go_at_call 102; refine (decimal_power _ m (by omega)).mono ?_; rintro e w7 ⟨vy, rfl, hy, hEy⟩; obtain ⟨ny, ay, ky, cy, rfl⟩ := IsInt.form hy); have hXw7 := (show Ext w6 w7 by exact exttI)); refine hK.out _ _ ?_ (fun hHeld => ?_); (focus (show Ext _ _; exact exttI)); clear hK K; (try simp only [Act.put, List.setIfInBounds_toArray, List.set_cons_zero, List.set_cons_succ]))
  (refine wpHead_only 3 (by kernel_rfl) ?_; simp only [atOp]; intro K hK; go_simp; ((go_at_call 101; refine (rational_Make (s.size / 9 + 100) _ _ _ _ _ ((hx.ext (by exact exttI)).mono (by omega)) ((hy.ext (by exact exttI)).mono (by omega)) (by omega) (by have := Nat.pow_pos (n := m) (show 0 < 10 by omega); omega)).mono ?_; rintro e w8 ⟨vz, rfl, hz, hEz⟩; obtain ⟨nzn, azn, kzn, czn, nzd, azd, kzd, czd, rfl, _, _⟩ := IsRat.form hz); have hXw8 := (show Ext w6 w8 by exact exttI)); refine hK.out _ _ ?_ (fun hHeld => ?_); (focus (show Ext _ _; exact exttI)); clear hK K; (try simp only [Act.put, List.setIfInBounds_toArray, List.set_cons_zero, List.set_cons_succ]))
  (refine wpHead_take 4 (by kernel_rfl) (fun _ _ _ _ _ h => h) (by assumption) ?_; simp only [atOp]; refine ⟨by rfl, ?_, ?_, ?_⟩; rotate_left; (focus (intro w' hSw; (try dsimp only at hSw); go_simp; (try with_reducible rfl))); (try simp only [Act.put, List.setIfInBounds_toArray, List.set_cons_zero, List.set_cons_succ]))
  (refine wpHead_take 5 (by kernel_rfl) (fun _ _ _ _ _ h => h) (by assumption) ?_; simp only [atOp]; refine ⟨by rfl, ?_, ?_, ?_⟩; rotate_left; (focus (intro w' hSw; (try dsimp only at hSw); go_simp; (try with_reducible rfl))); (try simp only [Act.put, List.setIfInBounds_toArray, List.set_cons_zero, List.set_cons_succ]))
  (refine wpHead_done (by kernel_rfl) ?_; simp only [List.drop_succ_cons, List.drop_zero])
  have hE9 : Ext w w8 := by exact exttI
  have k9 := hXw8.blk k3
  have hbx : Box w8 r := Box.mk k9 rfl
  have hB : But [r] w8 w8 := by exact buttI
  have hBr0 := Rr0 _ hXw8
  have hBr1 := Rr1 _ hXw8
  have hBr2 := Rr2 _ hXw8
  have hBr3 := Rr3 _ hXw8
  have hF0 := Fr0 _ hXw8
  have hF1 := Fr1 _ hXw8
  have hF2 := Fr2 _ hXw8
  have hF3 := Fr3 _ hXw8
  go_wp2_with fail
  refine NoPanic.normal ?_
  go_wp2_with fail
  exact bodyPost_ret (v := .tuple #[.agg #[.bool nzn, .slice azn kzn czn, .bool nzd, .slice azd kzd czd], .int .i64 0]) (by simp [results, Tryz.results40, go_sem, hBr0, hBr1, hBr2, hBr3]) rfl ⟨_, rfl, IsRat.put4 hB (by simp) (hz.cast hq.out), (((((hB.set _ _ rfl (by simp)).set _ _ rfl (by simp)).set _ _ rfl (by simp)).set _ _ rfl (by simp)).old hE9 (by simp; omega))⟩

set_option maxRecDepth 100000 in
set_option maxHeartbeats 2000000 in
theorem decimal_Parse_no (s : ByteArray) (w : World) (hs : s.size ≤ 4000000000) (h : isDec s.data.toList = false) :
    Calls Tryz.prog 40 #[.string s] w fun e w' => e = .returned (.tuple #[.agg #[.bool false, .slice none 0 0, .bool false, .slice none 0 0], .int .i64 2]) ∧ Ext w w' := by
  have hD := decimal_digits s
  unfold isDec at h
  rw [h] at hD
  generalize (digF s.data.toList).1 = t at *
  generalize (digF s.data.toList).2.1 = m at *
  have HD := Lib.hid (fun w => hD w hs)
  clear hD h
  go_enter Tryz.func40, Tryz.ntmps40
  go_upto_region 1 with (fail)
  obtain ⟨w3, r, e1, e2, k3, hE⟩ := box1 w (.cells #[.bool false, .slice none 0 0, .bool false, .slice none 0 0] 55)
  rw [e1, e2]
  have hr0 : w.heap.size ≤ r := by omega
  clear e1 e2
  obtain ⟨Rr0, Fr0⟩ := rules k3 0 _ rfl
  obtain ⟨Rr1, Fr1⟩ := rules k3 1 _ rfl
  obtain ⟨Rr2, Fr2⟩ := rules k3 2 _ rfl
  obtain ⟨Rr3, Fr3⟩ := rules k3 3 _ rfl
  go_wp2_with (go_at_call 78; refine (HD.out _).mono ?_; rintro e w4 ⟨rfl, hE4⟩)
  have hE9 : Ext w w4 := by exact exttI
  have k9 := hE4.blk k3
  have hbx : Box w4 r := Box.mk k9 rfl
  have hB : But [r] w4 w4 := by exact buttI
  have hBr0 := Rr0 _ hE4
  have hBr1 := Rr1 _ hE4
  have hBr2 := Rr2 _ hE4
  have hBr3 := Rr3 _ hE4
  exact bodyPost_ret (v := .tuple #[.agg #[.bool false, .slice none 0 0, .bool false, .slice none 0 0], .int .i64 2]) (by simp [results, Tryz.results40, go_sem, hBr0, hBr1, hBr2, hBr3]) rfl ⟨rfl, (((((hB.set _ _ rfl (by simp)).set _ _ rfl (by simp)).set _ _ rfl (by simp)).set _ _ rfl (by simp)).old hE9 (by simp; omega))⟩
end Go.Proofs.YtechjiiijiipdaaGreatDoor
namespace Go.Proofs.YtechjiiijiipdaaGreatDoor

def letterB (c : UInt8) : Bool := (decide (97 ≤ c.toNat) && decide (c.toNat ≤ 122)) || (decide (65 ≤ c.toNat) && decide (c.toNat ≤ 90))
def digitB (c : UInt8) : Bool := decide (48 ≤ c.toNat) && decide (c.toNat ≤ 57)
def nameB (c : UInt8) : Bool := letterB c || digitB c || decide (c.toNat = 95) || decide (c.toNat = 45)
def symB (c : UInt8) : Bool := [61, 44, 59, 58, 40, 41].contains c
/-- The offset behind the bytes of a class from 'at' on. -/
def runF (p : UInt8 → Bool) (l : List UInt8) (k : Nat) : Nat := k + ((l.drop k).takeWhile p).length
def peekF (l : List UInt8) (k : Nat) : UInt8 := l.getD k 0
/-- The offset behind a number. -/
def numA (l : List UInt8) (k : Nat) : Nat := runF digitB l (if peekF l k = 45 then k + 1 else k)
def numF (l : List UInt8) (k : Nat) : Nat :=
  if peekF l (numA l k) = 46 ∧ digitB (peekF l (numA l k + 1)) = true then runF digitB l (numA l k + 1) else numA l k
/-- The bytes from a to b. -/
def cutF (l : List UInt8) (a b : Nat) : List UInt8 := (l.take b).drop a
/-- What stands at an offset. -/
inductive Step where
  | stop
  | fail (pos err : Nat)
  | skip (next : Nat)
  | tok (kind : Int) (next : Nat)
def stepF (l : List UInt8) (k : Nat) : Step :=
  if l.length ≤ k ∨ peekF l k = 35 then .stop
  else if peekF l k = 32 then .skip (k + 1)
  else if letterB (peekF l k) = true then (if 24 < runF nameB l k - k then .fail k 3 else .tok 1 (runF nameB l k))
  else if (digitB (peekF l k) || (decide (peekF l k = 45) && digitB (peekF l (k + 1)))) = true then
    (if isDec (cutF l k (numF l k)) = false then .fail k 2
     else if (letterB (peekF l (numF l k)) || decide (peekF l (numF l k) = 95) || decide (peekF l (numF l k) = 46)) = true then .fail (numF l k) 2 else .tok 2 (numF l k))
  else if symB (peekF l k) = true then .tok 3 (k + 1) else .fail k 2
/-- A token. -/
structure Tok where
  kind : Int
  pos : Nat
  text : List UInt8
deriving DecidableEq
/-- The tokens from an offset on, behind those that were found; the place and the error. -/
def lexF (l : List UInt8) : Nat → Nat → List Tok → List Tok × Nat × Nat
  | 0, _, out => (out, 0, 0)
  | f + 1, k, out => match stepF l k with
    | .stop => (out, 0, 0)
    | .fail p e => ([], p, e)
    | .skip n => lexF l f n out
    | .tok t n => lexF l f n (out ++ [⟨t, k, cutF l k n⟩])
def tokF (l : List UInt8) : List Tok × Nat × Nat := if 65536 < l.length then ([], 0, 3) else lexF l (l.length + 1) 0 []

theorem runF_ge (p : UInt8 → Bool) (l : List UInt8) (k : Nat) : k ≤ runF p l k := by unfold runF; omega
theorem runF_le {p : UInt8 → Bool} {l : List UInt8} {k : Nat} (h : k ≤ l.length) : runF p l k ≤ l.length := by
  unfold runF
  have := (List.takeWhile_prefix (l := l.drop k) p).length_le
  simp only [List.length_drop] at this
  omega
theorem peekF_len {l : List UInt8} {k : Nat} (h : l.length ≤ k) : peekF l k = 0 := by
  unfold peekF; rw [List.getD_eq_getElem?_getD, List.getElem?_eq_none h]; rfl
theorem drop_peek {l : List UInt8} {k : Nat} (h : k < l.length) : l.drop k = peekF l k :: l.drop (k + 1) := by
  rw [List.drop_eq_getElem_cons h]; simp [peekF, h]
theorem runF_go {p : UInt8 → Bool} {l : List UInt8} {k : Nat} (h : k < l.length) (hp : p (peekF l k) = true) : runF p l k = runF p l (k + 1) := by
  unfold runF
  rw [drop_peek h, List.takeWhile_cons, hp]
  simp; omega
theorem runF_stop {p : UInt8 → Bool} {l : List UInt8} {k : Nat} (h : l.length ≤ k ∨ p (peekF l k) = false) : runF p l k = k := by
  unfold runF
  rcases Nat.lt_or_ge k l.length with h1 | h1
  · rcases h with h | h
    · omega
    · rw [drop_peek h1, List.takeWhile_cons, h]; simp
  · rw [List.drop_of_length_le h1]; simp
theorem peekF_ne {l : List UInt8} {k : Nat} (h : peekF l k ≠ 0) : k < l.length := by
  rcases Nat.lt_or_ge k l.length with h1 | h1
  · exact h1
  · exact absurd (peekF_len h1) h
theorem digitB_ne {c : UInt8} (h : digitB c = true) : c ≠ 0 := by rintro rfl; revert h; decide
theorem letterB_ne {c : UInt8} (h : letterB c = true) : c ≠ 0 := by rintro rfl; revert h; decide
theorem numA_le {l : List UInt8} {k : Nat} (h : k < l.length) : numA l k ≤ l.length := by
  unfold numA
  refine runF_le ?_
  split <;> omega
theorem numF_le {l : List UInt8} {k : Nat} (h : k < l.length) : numF l k ≤ l.length := by
  unfold numF
  by_cases h1 : peekF l (numA l k) = 46 ∧ digitB (peekF l (numA l k + 1)) = true
  · rw [if_pos h1]
    exact runF_le (by have := peekF_ne (digitB_ne h1.2); omega)
  · rw [if_neg h1]; exact numA_le h
theorem numA_gt {l : List UInt8} {k : Nat} (h : (digitB (peekF l k) || (decide (peekF l k = 45) && digitB (peekF l (k + 1)))) = true) : k < numA l k := by
  unfold numA
  by_cases h45 : peekF l k = 45
  · rw [if_pos h45]; exact runF_ge _ _ _
  · rw [if_neg h45]
    have hd : digitB (peekF l k) = true := by simpa [h45] using h
    rw [runF_go (peekF_ne (digitB_ne hd)) hd]
    exact runF_ge _ _ _
theorem numF_gt {l : List UInt8} {k : Nat} (h : (digitB (peekF l k) || (decide (peekF l k = 45) && digitB (peekF l (k + 1)))) = true) : k < numF l k := by
  have hk := numA_gt h
  unfold numF
  by_cases h1 : peekF l (numA l k) = 46 ∧ digitB (peekF l (numA l k + 1)) = true
  · rw [if_pos h1]
    have := runF_ge digitB l (numA l k + 1)
    omega
  · rw [if_neg h1]; exact hk
/-- A step goes on, within the line. -/
theorem stepF_next {l : List UInt8} {k n : Nat} : (stepF l k = .skip n ∨ ∃ t, stepF l k = .tok t n) → k < n ∧ n ≤ l.length := by
  unfold stepF
  intro h
  by_cases h1 : l.length ≤ k ∨ peekF l k = 35
  · rw [if_pos h1] at h; simp at h
  rw [if_neg h1] at h
  have hk : k < l.length := by omega
  by_cases h2 : peekF l k = 32
  · rw [if_pos h2] at h; simp at h; omega
  rw [if_neg h2] at h
  by_cases h3 : letterB (peekF l k) = true
  · rw [if_pos h3] at h
    by_cases h4 : 24 < runF nameB l k - k
    · rw [if_pos h4] at h; simp at h
    · rw [if_neg h4] at h
      have hn : nameB (peekF l k) = true := by simp [nameB, h3]
      have h5 := runF_go hk hn
      have h6 := runF_ge nameB l (k + 1)
      have h7 := runF_le (p := nameB) (l := l) (k := k) (by omega)
      simp at h
      omega
  rw [if_neg h3] at h
  by_cases h4 : (digitB (peekF l k) || (decide (peekF l k = 45) && digitB (peekF l (k + 1)))) = true
  · rw [if_pos h4] at h
    have h5 := numF_gt h4
    have h6 := numF_le hk
    by_cases h7 : isDec (cutF l k (numF l k)) = false
    · rw [if_pos h7] at h; simp at h
    rw [if_neg h7] at h
    by_cases h8 : (letterB (peekF l (numF l k)) || decide (peekF l (numF l k) = 95) || decide (peekF l (numF l k) = 46)) = true
    · rw [if_pos h8] at h; simp at h
    · rw [if_neg h8] at h; simp at h; omega
  rw [if_neg h4] at h
  by_cases h5 : symB (peekF l k) = true
  · rw [if_pos h5] at h; simp at h; omega
  · rw [if_neg h5] at h; simp at h
end Go.Proofs.YtechjiiijiipdaaGreatDoor
namespace Go.Proofs.YtechjiiijiipdaaGreatDoor
open Go.RowKit
set_option linter.unusedSimpArgs false
set_option linter.unusedVariables false

theorem ret_bool {a b : Bool} (h : a = b) : Ending.returned (.bool a) = .returned (.bool b) := by rw [h]
theorem lexer_letter (c : UInt8) (w : World) : Calls Tryz.prog 62 #[.int .u8 (c.toNat : Int)] w fun e w' => e = .returned (.bool (letterB c)) ∧ w = w' := by
  go_enter Tryz.func62, Tryz.ntmps62
  go_wp2
  all_goals go_ret
  all_goals (refine ⟨ret_bool ?_, rfl⟩; rw [Bool.eq_iff_iff]; simp [letterB]; try omega)
theorem lexer_digit (c : UInt8) (w : World) : Calls Tryz.prog 65 #[.int .u8 (c.toNat : Int)] w fun e w' => e = .returned (.bool (digitB c)) ∧ w = w' := by
  go_enter Tryz.func65, Tryz.ntmps65
  go_wp2
  all_goals go_ret
  all_goals (refine ⟨ret_bool ?_, rfl⟩; rw [Bool.eq_iff_iff]; simp [digitB]; try omega)
theorem lexer_inName (c : UInt8) (w : World) : Calls Tryz.prog 64 #[.int .u8 (c.toNat : Int)] w fun e w' => e = .returned (.bool (nameB c)) ∧ w = w' := by
  have hL := lexer_letter c
  have hD := lexer_digit c
  obtain ⟨n, hn⟩ : ∃ n, nameB c = n := ⟨_, rfl⟩
  rw [hn]
  unfold nameB at hn
  generalize letterB c = lb at *
  generalize digitB c = db at *
  have HN := Lib.hid hn
  have HL := Lib.hid hL
  have HD := Lib.hid hD
  clear hn hL hD
  go_enter Tryz.func64, Tryz.ntmps64
  cases lb <;> cases db
  all_goals go_wp2_with (first | (go_at_call 62; refine (HL.out _).mono ?_; rintro e w' ⟨rfl, rfl⟩) | (go_at_call 65; refine (HD.out _).mono ?_; rintro e w' ⟨rfl, rfl⟩))
  all_goals go_ret
  all_goals (refine ⟨ret_bool ?_, rfl⟩; rw [← HN.out]; rw [Bool.eq_iff_iff]; simp; try omega)
theorem peekF_at {s : ByteArray} {j : Nat} (h : j < s.size) : peekF s.data.toList j = s[j] := by
  unfold peekF
  have : j < s.data.size := h
  rw [List.getD_eq_getElem?_getD, List.getElem?_eq_getElem (by simpa using this)]
  rfl
set_option maxHeartbeats 1000000 in
theorem lexer_run_digit (s : ByteArray) (k : Nat) (w : World) (hs : s.size ≤ 65536) (hk : k ≤ 65537) :
    Calls Tryz.prog 63 #[.string s, .int .i64 (k : Int), .func (.func 65) #[] #[]] w fun e w' => e = .returned (.int .i64 (runF digitB s.data.toList k : Nat)) ∧ w = w' := by
  have HZ := Lib.hid (Lib.size_eq s)
  go_enter Tryz.func63, Tryz.ntmps63
  go_wp2
  go_loop [1] (fun a => ∃ j : Nat, j ≤ 65537 ∧ a = .int .i64 j ∧ Hid (runF digitB s.data.toList k = runF digitB s.data.toList j)) (fun a => s.size - (intOf a).toNat)
  case atStart => exact ⟨k, hk, rfl, rfl⟩
  case round =>
    obtain ⟨j, hj, rfl, hr⟩ := hrel
    by_cases hlt : j < s.size
    · have hp := peekF_at (s := s) hlt
      have hg := Lib.hid (@runF_go digitB s.data.toList j (by have := HZ.out; omega))
      have hst := Lib.hid (@runF_stop digitB s.data.toList j)
      rw [hp] at hg hst
      obtain ⟨b, hb⟩ : ∃ b, digitB s[j] = b := ⟨_, rfl⟩
      cases b with
      | true =>
        have HB := Lib.hid hb
        clear hb hp
        go_wp2_with (go_at_call 65; refine (lexer_digit s[j] _).mono ?_; rintro e w' ⟨rfl, rfl⟩; rw [HB.out])
        go_round
        case rel => exact ⟨j + 1, by omega, by go_num, Lib.hid (by rw [hr.out, hg.out HB.out])⟩
        case measure => simp [intOf]; omega
      | false =>
        have HB := Lib.hid hb
        clear hb hp
        go_wp2_with (go_at_call 65; refine (lexer_digit s[j] _).mono ?_; rintro e w' ⟨rfl, rfl⟩; rw [HB.out])
        go_ret
        exact ⟨by rw [hr.out, hst.out (.inr HB.out)]; rfl, rfl⟩
    · have hst := Lib.hid (@runF_stop digitB s.data.toList j (.inl (by have := HZ.out; omega)))
      go_wp2
      go_ret
      exact ⟨by rw [hr.out, hst.out]; rfl, rfl⟩
set_option maxHeartbeats 1000000 in
theorem lexer_run_inName (s : ByteArray) (k : Nat) (w : World) (hs : s.size ≤ 65536) (hk : k ≤ 65537) :
    Calls Tryz.prog 63 #[.string s, .int .i64 (k : Int), .func (.func 64) #[] #[]] w fun e w' => e = .returned (.int .i64 (runF nameB s.data.toList k : Nat)) ∧ w = w' := by
  have HZ := Lib.hid (Lib.size_eq s)
  go_enter Tryz.func63, Tryz.ntmps63
  go_wp2
  go_loop [1] (fun a => ∃ j : Nat, j ≤ 65537 ∧ a = .int .i64 j ∧ Hid (runF nameB s.data.toList k = runF nameB s.data.toList j)) (fun a => s.size - (intOf a).toNat)
  case atStart => exact ⟨k, hk, rfl, rfl⟩
  case round =>
    obtain ⟨j, hj, rfl, hr⟩ := hrel
    by_cases hlt : j < s.size
    · have hp := peekF_at (s := s) hlt
      have hg := Lib.hid (@runF_go nameB s.data.toList j (by have := HZ.out; omega))
      have hst := Lib.hid (@runF_stop nameB s.data.toList j)
      rw [hp] at hg hst
      obtain ⟨b, hb⟩ : ∃ b, nameB s[j] = b := ⟨_, rfl⟩
      cases b with
      | true =>
        have HB := Lib.hid hb
        clear hb hp
        go_wp2_with (go_at_call 64; refine (lexer_inName s[j] _).mono ?_; rintro e w' ⟨rfl, rfl⟩; rw [HB.out])
        go_round
        case rel => exact ⟨j + 1, by omega, by go_num, Lib.hid (by rw [hr.out, hg.out HB.out])⟩
        case measure => simp [intOf]; omega
      | false =>
        have HB := Lib.hid hb
        clear hb hp
        go_wp2_with (go_at_call 64; refine (lexer_inName s[j] _).mono ?_; rintro e w' ⟨rfl, rfl⟩; rw [HB.out])
        go_ret
        exact ⟨by rw [hr.out, hst.out (.inr HB.out)]; rfl, rfl⟩
    · have hst := Lib.hid (@runF_stop nameB s.data.toList j (.inl (by have := HZ.out; omega)))
      go_wp2
      go_ret
      exact ⟨by rw [hr.out, hst.out]; rfl, rfl⟩
set_option maxHeartbeats 1000000 in
theorem lexer_peek (s : ByteArray) (k : Nat) (w : World) (hs : s.size ≤ 65536) (hk : k ≤ 65538) :
    Calls Tryz.prog 66 #[.string s, .int .i64 (k : Int)] w fun e w' => e = .returned (.int .u8 ((peekF s.data.toList k).toNat : Int)) ∧ w = w' := by
  have hz := Lib.size_eq s
  by_cases hlt : k < s.size
  · rw [peekF_at hlt]
    clear hz
    go_enter Tryz.func66, Tryz.ntmps66
    go_wp2
    go_ret
    exact ⟨rfl, rfl⟩
  · rw [peekF_len (by omega)]
    clear hz
    go_enter Tryz.func66, Tryz.ntmps66
    go_wp2
    go_ret
    exact ⟨rfl, rfl⟩
theorem peek_at (s : ByteArray) (k : Nat) (i : Int) (w : World) (hs : s.size ≤ 65536) (hk : k ≤ 65538) (hi : i = (k : Int)) :
    Calls Tryz.prog 66 #[.string s, .int .i64 i] w fun e w' => e = .returned (.int .u8 ((peekF s.data.toList k).toNat : Int)) ∧ w = w' := by
  subst hi; exact lexer_peek s k w hs hk
theorem run_digit_at (s : ByteArray) (k : Nat) (i : Int) (w : World) (hs : s.size ≤ 65536) (hk : k ≤ 65537) (hi : i = (k : Int)) :
    Calls Tryz.prog 63 #[.string s, .int .i64 i, .func (.func 65) #[] #[]] w fun e w' => e = .returned (.int .i64 (runF digitB s.data.toList k : Nat)) ∧ w = w' := by
  subst hi; exact lexer_run_digit s k w hs hk
theorem run_name_at (s : ByteArray) (k : Nat) (i : Int) (w : World) (hs : s.size ≤ 65536) (hk : k ≤ 65537) (hi : i = (k : Int)) :
    Calls Tryz.prog 63 #[.string s, .int .i64 i, .func (.func 64) #[] #[]] w fun e w' => e = .returned (.int .i64 (runF nameB s.data.toList k : Nat)) ∧ w = w' := by
  subst hi; exact lexer_run_inName s k w hs hk
set_option maxRecDepth 100000 in
set_option maxHeartbeats 1000000 in
theorem lexer_number (s : ByteArray) (k : Nat) (w : World) (hs : s.size ≤ 65536) (hk : k < s.size) :
    Calls Tryz.prog 67 #[.string s, .int .i64 (k : Int)] w fun e w' => e = .returned (.int .i64 (numF s.data.toList k : Nat)) ∧ w = w' := by
  have hz := Lib.size_eq s
  have hp := peekF_at hk
  have ha : numA s.data.toList k ≤ s.size := by rw [hz]; exact numA_le (by omega)
  have hA : numA s.data.toList k = runF digitB s.data.toList (if peekF s.data.toList k = 45 then k + 1 else k) := rfl
  unfold numF
  rw [hp] at hA
  generalize numA s.data.toList k = a at *
  have HZ := Lib.hid hz
  have HA := Lib.hid hA
  clear hz hA hp
  by_cases h45 : s[k] = 45
  · have e45 : ((s[k].toNat : Int) == 45) = true := by rw [h45]; rfl
    have HA2 : Hid (runF digitB s.data.toList (k + 1) = a) := by have := HA.out; rw [if_pos h45] at this; exact this.symm
    clear h45 HA
    by_cases h46 : peekF s.data.toList a = 46
    · have e46 : (((peekF s.data.toList a).toNat : Int) == 46) = true := by rw [h46]; rfl
      by_cases hd : digitB (peekF s.data.toList (a + 1)) = true
      · rw [if_pos ⟨h46, hd⟩]
        have HD := Lib.hid hd
        clear h46 hd
        go_enter Tryz.func67, Tryz.ntmps67
        go_upto_region 4 with (go_at_call 63; refine (run_digit_at s (k + 1) _ _ hs (by omega) (by omega)).mono ?_; rintro e w' ⟨rfl, rfl⟩; rw [HA2.out])
        go_wp2_with (first | (go_at_call 66; first | ((refine (peek_at s a _ _ hs (by omega) (by omega)).mono ?_); rintro e w' ⟨rfl, rfl⟩) | ((refine (peek_at s (a + 1) _ _ hs (by omega) (by omega)).mono ?_); rintro e w' ⟨rfl, rfl⟩)) | (go_at_call 65; refine (lexer_digit _ _).mono ?_; rintro e w' ⟨rfl, rfl⟩; rw [HD.out]) | (go_at_call 63; refine (run_digit_at s (a + 1) _ _ hs (by omega) (by omega)).mono ?_; rintro e w' ⟨rfl, rfl⟩))
        go_ret
        exact ⟨rfl, rfl⟩
      · rw [if_neg (fun h => hd h.2)]
        have HD := Lib.hid (Bool.not_eq_true _ ▸ hd : digitB (peekF s.data.toList (a + 1)) = false)
        clear h46 hd
        go_enter Tryz.func67, Tryz.ntmps67
        go_upto_region 4 with (go_at_call 63; refine (run_digit_at s (k + 1) _ _ hs (by omega) (by omega)).mono ?_; rintro e w' ⟨rfl, rfl⟩; rw [HA2.out])
        go_wp2_with (first | (go_at_call 66; first | ((refine (peek_at s a _ _ hs (by omega) (by omega)).mono ?_); rintro e w' ⟨rfl, rfl⟩) | ((refine (peek_at s (a + 1) _ _ hs (by omega) (by omega)).mono ?_); rintro e w' ⟨rfl, rfl⟩)) | (go_at_call 65; refine (lexer_digit _ _).mono ?_; rintro e w' ⟨rfl, rfl⟩; rw [HD.out]))
        go_ret
        exact ⟨rfl, rfl⟩
    · have e46 : (((peekF s.data.toList a).toNat : Int) == 46) = false := by
        have : (peekF s.data.toList a).toNat ≠ 46 := fun h => h46 (UInt8.toNat_inj.1 h)
        simp; omega
      rw [if_neg (fun h => h46 h.1)]
      clear h46
      go_enter Tryz.func67, Tryz.ntmps67
      go_upto_region 4 with (go_at_call 63; refine (run_digit_at s (k + 1) _ _ hs (by omega) (by omega)).mono ?_; rintro e w' ⟨rfl, rfl⟩; rw [HA2.out])
      go_wp2_with (go_at_call 66; refine (peek_at s a _ _ hs (by omega) (by omega)).mono ?_; rintro e w' ⟨rfl, rfl⟩)
      go_ret
      exact ⟨rfl, rfl⟩
  · have e45 : ((s[k].toNat : Int) == 45) = false := by
      have : s[k].toNat ≠ 45 := fun h => h45 (UInt8.toNat_inj.1 h)
      simp; omega
    have HA2 : Hid (runF digitB s.data.toList k = a) := by have := HA.out; rw [if_neg h45] at this; exact this.symm
    clear h45 HA
    by_cases h46 : peekF s.data.toList a = 46
    · have e46 : (((peekF s.data.toList a).toNat : Int) == 46) = true := by rw [h46]; rfl
      by_cases hd : digitB (peekF s.data.toList (a + 1)) = true
      · rw [if_pos ⟨h46, hd⟩]
        have HD := Lib.hid hd
        clear h46 hd
        go_enter Tryz.func67, Tryz.ntmps67
        go_upto_region 4 with (go_at_call 63; refine (run_digit_at s (k) _ _ hs (by omega) (by omega)).mono ?_; rintro e w' ⟨rfl, rfl⟩; rw [HA2.out])
        go_wp2_with (first | (go_at_call 66; first | ((refine (peek_at s a _ _ hs (by omega) (by omega)).mono ?_); rintro e w' ⟨rfl, rfl⟩) | ((refine (peek_at s (a + 1) _ _ hs (by omega) (by omega)).mono ?_); rintro e w' ⟨rfl, rfl⟩)) | (go_at_call 65; refine (lexer_digit _ _).mono ?_; rintro e w' ⟨rfl, rfl⟩; rw [HD.out]) | (go_at_call 63; refine (run_digit_at s (a + 1) _ _ hs (by omega) (by omega)).mono ?_; rintro e w' ⟨rfl, rfl⟩))
        go_ret
        exact ⟨rfl, rfl⟩
      · rw [if_neg (fun h => hd h.2)]
        have HD := Lib.hid (Bool.not_eq_true _ ▸ hd : digitB (peekF s.data.toList (a + 1)) = false)
        clear h46 hd
        go_enter Tryz.func67, Tryz.ntmps67
        go_upto_region 4 with (go_at_call 63; refine (run_digit_at s (k) _ _ hs (by omega) (by omega)).mono ?_; rintro e w' ⟨rfl, rfl⟩; rw [HA2.out])
        go_wp2_with (first | (go_at_call 66; first | ((refine (peek_at s a _ _ hs (by omega) (by omega)).mono ?_); rintro e w' ⟨rfl, rfl⟩) | ((refine (peek_at s (a + 1) _ _ hs (by omega) (by omega)).mono ?_); rintro e w' ⟨rfl, rfl⟩)) | (go_at_call 65; refine (lexer_digit _ _).mono ?_; rintro e w' ⟨rfl, rfl⟩; rw [HD.out]))
        go_ret
        exact ⟨rfl, rfl⟩
    · have e46 : (((peekF s.data.toList a).toNat : Int) == 46) = false := by
        have : (peekF s.data.toList a).toNat ≠ 46 := fun h => h46 (UInt8.toNat_inj.1 h)
        simp; omega
      rw [if_neg (fun h => h46 h.1)]
      clear h46
      go_enter Tryz.func67, Tryz.ntmps67
      go_upto_region 4 with (go_at_call 63; refine (run_digit_at s (k) _ _ hs (by omega) (by omega)).mono ?_; rintro e w' ⟨rfl, rfl⟩; rw [HA2.out])
      go_wp2_with (go_at_call 66; refine (peek_at s a _ _ hs (by omega) (by omega)).mono ?_; rintro e w' ⟨rfl, rfl⟩)
      go_ret
      exact ⟨rfl, rfl⟩
end Go.Proofs.YtechjiiijiipdaaGreatDoor
namespace Go.Proofs.YtechjiiijiipdaaGreatDoor
open Go.RowKit
set_option linter.unusedSimpArgs false
set_option linter.unusedVariables false

def tokVals (t : Tok) : List Value := [.int .i64 (t.kind : Int), .int .i64 (t.pos : Int), .string ⟨t.text.toArray⟩]
/-- A slice of tokens that the call itself made. -/
def OwnT (e : TypeId) (base : Nat) (w : World) (v : Value) (ts : List Tok) : Prop := w.ownsRow base e 3 v ts.length (ts.flatMap tokVals)
/-- v is a slice that reads as the tokens ts. -/
def Toks (w : World) (v : Value) (ts : List Tok) : Prop :=
  ∃ a c, v = .slice a ts.length c ∧ ts.length ≤ 100000 ∧ (ts = [] ∨ ∃ b o, a = some ⟨b, o, none⟩ ∧ b < w.heap.size ∧ ∀ i (h : i < ts.length), w.cell? ⟨b, o + i * 3, none⟩ = some (.int .i64 (ts[i].kind : Int)) ∧ w.cell? ⟨b, o + i * 3 + 1, none⟩ = some (.int .i64 (ts[i].pos : Int)) ∧
    w.cell? ⟨b, o + i * 3 + 2, none⟩ = some (.string ⟨ts[i].text.toArray⟩))
theorem Toks.ext {w w' : World} {v : Value} {ts : List Tok} (h : Toks w v ts) (e : Ext w w') : Toks w' v ts := by
  obtain ⟨a, c, hv, hl, h⟩ := h
  refine ⟨a, c, hv, hl, ?_⟩
  rcases h with h | ⟨b, o, ha, hlt, h⟩
  · exact .inl h
  · refine .inr ⟨b, o, ha, Nat.lt_of_lt_of_le hlt e.size, fun i hi => ?_⟩
    obtain ⟨h1, h2, h3⟩ := h i hi
    exact ⟨(e.cell (p := ⟨b, o + i * 3, none⟩) hlt).trans h1, (e.cell (p := ⟨b, o + i * 3 + 1, none⟩) hlt).trans h2, (e.cell (p := ⟨b, o + i * 3 + 2, none⟩) hlt).trans h3⟩
theorem Toks.nil (w : World) : Toks w (.slice none 0 0) [] := ⟨none, 0, rfl, by simp, .inl rfl⟩
theorem flat_len : ∀ ts : List Tok, (ts.flatMap tokVals).length = ts.length * 3
  | [] => rfl
  | t :: ts => by rw [List.flatMap_cons, List.length_append, flat_len ts, List.length_cons]; simp [tokVals]; omega
theorem flat_get : ∀ (ts : List Tok) (i : Nat) (h : i < ts.length), (ts.flatMap tokVals)[i * 3]? = some (.int .i64 (ts[i].kind : Int)) ∧ (ts.flatMap tokVals)[i * 3 + 1]? = some (.int .i64 (ts[i].pos : Int)) ∧ (ts.flatMap tokVals)[i * 3 + 2]? = some (.string ⟨ts[i].text.toArray⟩)
  | t :: ts, 0, _ => by simp [List.flatMap_cons, tokVals]
  | t :: ts, i + 1, h => by
    have h' : i < ts.length := by simpa using h
    obtain ⟨h1, h2, h3⟩ := flat_get ts i h'
    have e : ∀ k, (List.flatMap tokVals (t :: ts))[(i + 1) * 3 + k]? = (ts.flatMap tokVals)[i * 3 + k]? := fun k => by
      rw [List.flatMap_cons, List.getElem?_append_right (by simp [tokVals]; omega)]
      congr 1
      simp [tokVals]; omega
    exact ⟨(e 0).trans h1, (e 1).trans h2, (e 2).trans h3⟩
theorem OwnT.nil (e : TypeId) (base : Nat) (w : World) : OwnT e base w (.slice none 0 0) [] := World.ownsRow_nil _ _ _ _
theorem OwnT.block {e : TypeId} {base : Nat} {w : World} {v : Value} {l : List Tok} (h : OwnT e base w v l) : ∀ k, v.ownBlock = some k → base ≤ k := fun k hk => (World.ownsRow.lt h k hk).1
theorem OwnT.ext {e : TypeId} {base : Nat} {w w' : World} {v : Value} {l : List Tok} (h : OwnT e base w v l) (x : Ext w w') : OwnT e base w' v l := by
  refine World.ownsRow.kept (row := none) h ⟨x.os, x.tape, x.output, x.size, fun k hk _ => x.block k hk⟩ ?_
  cases v.ownBlock with
  | none => exact .inl rfl
  | some k => exact .inr (by simp)
theorem OwnT.toks {e : TypeId} {base : Nat} {w : World} {v : Value} {ts : List Tok} (h : OwnT e base w v ts) (hl : ts.length ≤ 100000) : Toks w v ts := by
  have h' := h
  obtain ⟨h1, h2⟩ := h'
  rcases h2 with ⟨rfl, h0⟩ | ⟨g, cap, cur, rfl, hg, hh, hc, hm, hs, ht⟩
  · obtain rfl := List.length_eq_zero_iff.1 h0
    exact Toks.nil w
  · refine ⟨_, _, rfl, hl, .inr ⟨g, 0, rfl, (Array.getElem?_eq_some_iff.1 hh).1, fun i hi => ?_⟩⟩
    have hcell : ∀ j u, (ts.flatMap tokVals)[j]? = some u → w.cell? ⟨g, j, none⟩ = some u := fun j u hj => by
      have := World.ownsRow.cells h (g := g) rfl j u hj
      simp only [Addr.add] at this
      split at this
      · rename_i h0; subst h0; exact this
      · simpa using this
    obtain ⟨a1, a2, a3⟩ := flat_get ts i hi
    rw [Nat.zero_add]
    exact ⟨hcell _ _ a1, hcell _ _ a2, hcell _ _ a3⟩
theorem Tryz.infoToklexer : (Tryz.prog.info? 84).map (fun i => (i.zero, i.size, i.bytes)) = some (some (.agg #[.int .i64 0, .int .i64 0, .string ⟨#[]⟩]), 3, 32) := by kernel_rfl
theorem info_parts3 {o : Option TypeInfo} {z : Option Value} {n m : Nat} (h : o.map (fun i => (i.zero, i.size, i.bytes)) = some (z, n, m)) : ∃ i, o = some i ∧ i.zero = z ∧ i.size = n ∧ i.bytes = m := by
  cases o with
  | none => simp at h
  | some i =>
    simp at h
    exact ⟨i, rfl, h.1, h.2.1, h.2.2⟩
/-- 'append(out, T{..})'. -/
theorem wpList_appT_lexer {wr : World} {ops : Array Oper} {rest : List Oper} {o : Oper} {a : Act} {Q : Exit → Act → World → Prop} (hgd : o.guard = none) (s x : Operand)
    (ho : o.op = .call { callee := .builtin .append, args := #[s, x], argTypes := #[23, 23] }) {base : Nat} {v : Value} {l : List Tok} {kd ps : Int} {tx : ByteArray} {c : Nat} (t : Tok)
    (hs : a.eval s = v) (hx : a.eval x = .slice (some ⟨wr.heap.size, 0, none⟩) 1 c) (hown : OwnT 84 base wr v l) (h1 : kd = (t.kind : Int)) (h2 : ps = (t.pos : Int)) (h3 : tx = ⟨t.text.toArray⟩) (hn : l.length < 1000000) (hb : base ≤ wr.heap.size)
    (h : ∀ v' w', OwnT 84 base w' v' (l ++ [t]) → (wr.alloc (.cells #[.int .i64 kd, .int .i64 ps, .string tx] 84)).grownBy w' v.ownBlock → wpList Tryz.prog ops Q rest (a.put o.dst v') w') :
    wpList Tryz.prog ops Q (o :: rest) a (wr.alloc (.cells #[.int .i64 kd, .int .i64 ps, .string tx] 84)) := by
  subst h1 h2 h3
  obtain ⟨i0, hi, hz0, hz1, hz2⟩ := info_parts3 Tryz.infoToklexer
  refine wpList_append_own _ hgd s x 23 ho base 84 i0 (.agg #[.int .i64 0, .int .i64 0, .string ⟨#[]⟩]) 3 32 Tryz.underlying23 hi hz0 hz1 hz2 rfl (by decide) v l.length (l.flatMap tokVals) hs (World.ownsRow.alloc hown _) ⟨wr.heap.size, 0, none⟩ 1 c (tokVals t) hx rfl ?_ ?_ ?_ ?_ ?_ ?_
  · intro j u hj
    match j, hj with
    | 0, hj => simp [tokVals] at hj; subst hj; simp [Addr.add]
    | 1, hj => simp [tokVals] at hj; subst hj; simp [Addr.add]
    | 2, hj => simp [tokVals] at hj; subst hj; simp [Addr.add]
    | j + 3, hj => simp [tokVals] at hj
  · intro u hu; simp [tokVals] at hu; rcases hu with rfl | rfl | rfl <;> rfl
  · unfold maxLen; omega
  · omega
  · simp; omega
  · intro v' w' h1 h2 _
    refine h v' w' ?_ h2
    unfold OwnT
    rw [List.flatMap_append, List.length_append]
    simpa using h1
end Go.Proofs.YtechjiiijiipdaaGreatDoor
namespace Go.Proofs.YtechjiiijiipdaaGreatDoor
open Go.RowKit
set_option linter.unusedSimpArgs false
set_option linter.unusedVariables false
theorem indexByte_mem : ∀ (l : List UInt8) (c : UInt8), (l.contains c = true → 0 ≤ Lib.indexByte l c) ∧ (l.contains c = false → Lib.indexByte l c = -1)
  | [], c => by simp [Lib.indexByte]
  | b :: l, c => by
    obtain ⟨h1, h2⟩ := indexByte_mem l c
    by_cases hb : b = c
    · subst hb; simp [Lib.indexByte]
    · have hb' : ¬ c = b := fun h => hb h.symm
      constructor
      · intro h
        have : l.contains c = true := by simpa [hb'] using h
        have := h1 this
        simp [Lib.indexByte, hb]
        try (split <;> omega)
      · intro h
        have := h2 (by simpa [hb'] using h)
        simp [Lib.indexByte, hb, this]
def symI (c : UInt8) : Int := Lib.indexByte [61, 44, 59, 58, 40, 41] c
theorem sym_at (c : UInt8) : (symB c = true → 0 ≤ symI c) ∧ (symB c = false → symI c = -1) := indexByte_mem _ _
theorem index_sym (c : UInt8) (w : World) : Calls Tryz.prog 68 #[.string ⟨#[61, 44, 59, 58, 40, 41]⟩, .int .u8 (c.toNat : Int)] w fun e w' => e = .returned (.int .i64 (symI c)) ∧ w = w' := by
  refine (Tryz.strings_IndexByte _ _ _).mono ?_
  rintro e w' ⟨rfl, rfl⟩
  have : ((c.toNat : Int)).toNat.toUInt8 = c := by simp
  rw [this]
  exact ⟨rfl, rfl⟩
theorem cut_extract (s : ByteArray) (a b : Nat) : s.extract a b = ⟨(cutF s.data.toList a b).toArray⟩ := by
  rw [Lib.extract_eq, cutF, List.drop_take]
theorem cut_data (s : ByteArray) (a b : Nat) : (s.extract a b).data.toList = cutF s.data.toList a b := by
  rw [cut_extract]
theorem lexF_length {l : List UInt8} : ∀ {f k : Nat} {out : List Tok}, out.length ≤ k → k ≤ l.length → (lexF l f k out).1.length ≤ l.length
  | 0, k, out, h1, h2 => by simp only [lexF]; omega
  | f + 1, k, out, h1, h2 => by
    simp only [lexF]
    cases hs : stepF l k with
    | stop => simp only; omega
    | fail p e => simp
    | skip n =>
      have := stepF_next (.inl hs)
      exact lexF_length (by omega) this.2
    | tok t n =>
      have := stepF_next (.inr ⟨t, hs⟩)
      exact lexF_length (by simp; omega) this.2
theorem stepF_at {s : ByteArray} {k : Nat} (hk : k < s.size) (h35 : s[k] ≠ 35) : stepF s.data.toList k = if s[k] = 32 then .skip (k + 1)
    else if letterB s[k] = true then (if 24 < runF nameB s.data.toList k - k then .fail k 3 else .tok 1 (runF nameB s.data.toList k))
    else if (digitB s[k] || (decide (s[k] = 45) && digitB (peekF s.data.toList (k + 1)))) = true then
      (if isDec (cutF s.data.toList k (numF s.data.toList k)) = false then .fail k 2
       else if (letterB (peekF s.data.toList (numF s.data.toList k)) || decide (peekF s.data.toList (numF s.data.toList k) = 95) || decide (peekF s.data.toList (numF s.data.toList k) = 46)) = true then .fail (numF s.data.toList k) 2 else .tok 2 (numF s.data.toList k))
    else if symB s[k] = true then .tok 3 (k + 1) else .fail k 2 := by
  have hz := Lib.size_eq s
  unfold stepF
  rw [peekF_at hk, if_neg (by rintro (h | h); omega; exact h35 h)]
attribute [local irreducible] IsInt U32s Dig Norm Own IsRat AllD dec digF isDec decQ stepF lexF tokF runF peekF numF letterB digitB nameB symB symI cutF OwnT Toks
set_option maxRecDepth 100000 in
set_option maxHeartbeats 8000000 in
theorem lexer_Tokens (s : ByteArray) (w : World) (hs : s.size ≤ 65536) :
    Calls Tryz.prog 14 #[.string s] w fun e w' => ∃ v, e = .returned (.tuple #[v, .int .i64 ((tokF s.data.toList).2.1 : Nat), .int .i64 ((tokF s.data.toList).2.2 : Nat)]) ∧ Toks w' v (tokF s.data.toList).1 ∧ Ext w w' := by
  have hz := Lib.size_eq s
  have hT : Hid (tokF s.data.toList = lexF s.data.toList (s.data.toList.length + 1) 0 []) := by
    refine Lib.hid ?_
    unfold tokF; rw [if_neg (by omega)]
  have HZ := Lib.hid hz
  clear hz
  generalize tokF s.data.toList = R at *
  have hsI : ¬ (65536 : Int) < (s.size : Int) := by omega
  go_enter Tryz.func14, Tryz.ntmps14
  go_wp2_with (first | fail)
  go_loopw [5, 6] (fun o a w' => ∃ (k f : Nat) (ts : List Tok), a = .int .i64 k ∧ k ≤ s.size ∧ s.size < k + f ∧ ts.length ≤ k ∧ OwnT 84 w.heap.size w' o ts ∧ Hid (R = lexF s.data.toList f k ts) ∧ Ext w w') (fun _ a _ => s.size - (intOf a).toNat)
  case atStart => exact ⟨0, s.data.toList.length + 1, [], rfl, by omega, by have := HZ.out; omega, by simp, OwnT.nil _ _ _, hT, Ext.rfl' w⟩
  case round =>
    clear hT
    obtain ⟨k, f, ts, rfl, hk, hf, htl, hown, hR, hE⟩ := hrel
    obtain ⟨f, rfl⟩ : ∃ g, f = g + 1 := ⟨f - 1, by omega⟩
    by_cases hlt : k < s.size
    · have hp := peekF_at hlt
      by_cases h35 : s[k] = 35
      · have e35 : ((s[k].toNat : Int) != 35) = false := by rw [h35]; rfl
        have hst : Hid (stepF s.data.toList k = .stop) := by
          refine Lib.hid ?_
          unfold stepF; rw [hp, if_pos (.inr h35)]
        clear hp h35
        go_wp2_with (first | fail)
        go_ret3
        have e : R = (ts, 0, 0) := by rw [hR.out]; simp only [lexF, hst.out]
        exact ⟨_, by rw [e]; rfl, by rw [e]; exact hown.toks (by omega), hE⟩
      · have e35 : ((s[k].toNat : Int) != 35) = true := by
          have : s[k].toNat ≠ 35 := fun h => h35 (UInt8.toNat_inj.1 h)
          simp; omega
        have hsf := stepF_at hlt h35
        by_cases h32 : s[k] = 32
        · have e32 : ((s[k].toNat : Int) == 32) = true := by rw [h32]; rfl
          have hst : Hid (stepF s.data.toList k = .skip (k + 1)) := Lib.hid (by rw [hsf, if_pos h32])
          clear hp hsf h32 h35
          go_wp2_with (first | fail)
          go_roundw
          case rel => exact ⟨k + 1, f, ts, by go_num, by omega, by omega, by omega, hown, Lib.hid (by rw [hR.out]; simp only [lexF, hst.out]), hE⟩
          case measure => simp [intOf]; omega
        · have e32 : ((s[k].toNat : Int) == 32) = false := by
            have : s[k].toNat ≠ 32 := fun h => h32 (UInt8.toNat_inj.1 h)
            simp; omega
          rw [if_neg h32] at hsf
          clear h32 h35
          have hrg := runF_ge nameB s.data.toList k
          have hrl := runF_le (p := nameB) (l := s.data.toList) (k := k) (by have := HZ.out; omega)
          rw [← HZ.out] at hrl
          by_cases hL : letterB s[k] = true
          · rw [if_pos hL] at hsf
            have HL := Lib.hid hL
            generalize hee : runF nameB s.data.toList k = e at *
            have HE := Lib.hid hee
            clear hL hee hp
            by_cases h24 : 24 < e - k
            · rw [if_pos h24] at hsf
              have hst := Lib.hid hsf
              have g24 : decide ((24 : Int) < (e : Int) - (k : Int)) = true := by simp; omega
              clear hsf
              go_wp2_with (first | (go_at_call 62; refine (lexer_letter _ _).mono ?_; rintro e w' ⟨rfl, rfl⟩; rw [HL.out]) | (go_at_call 63; refine (run_name_at s k _ _ hs (by omega) rfl).mono ?_; rintro e w' ⟨rfl, rfl⟩; rw [HE.out]))
              go_ret3
              have e : R = ([], k, 3) := by rw [hR.out]; simp only [lexF, hst.out]
              exact ⟨_, by rw [e]; rfl, by rw [e]; exact Toks.nil _, by exact exttI⟩
            · rw [if_neg h24] at hsf
              have hst := Lib.hid hsf
              have g24 : decide ((24 : Int) < (e : Int) - (k : Int)) = false := by simp; omega
              have hlt' := (stepF_next (.inr ⟨1, hsf⟩)).1
              have hcut := Lib.hid (cut_extract s k e)
              clear hsf
              go_wp2_with (first | (go_at_call 62; refine (lexer_letter _ _).mono ?_; rintro e w' ⟨rfl, rfl⟩; rw [HL.out]) | (go_at_call 63; refine (run_name_at s k _ _ hs (by omega) rfl).mono ?_; rintro e w' ⟨rfl, rfl⟩; rw [HE.out]) | (at_builtin; refine wpList_appT_lexer rfl _ _ rfl (l := ts) ⟨1, k, cutF s.data.toList k (e)⟩ rfl rfl hown rfl rfl hcut.out (by omega) (by exact hE.size) ?_; intro v' w' hown' hg'))
              go_roundw
              case rel => exact ⟨e, f, _, by first | rfl | go_num, by omega, by omega, by rw [List.length_append]; simp; omega, hown', Lib.hid (by rw [hR.out]; simp only [lexF, hst.out]), (hE.alloc' _).grown' hg' hown.block⟩
              case measure => simp [intOf]; omega
          · rw [if_neg hL] at hsf
            have HL := Lib.hid (Bool.eq_false_iff.2 hL)
            clear hL hrg hrl
            go_upto_region 14 with ((go_at_call 62; refine (lexer_letter _ _).mono ?_; rintro e w' ⟨rfl, rfl⟩; rw [HL.out]))
            obtain ⟨nb, hnb⟩ : ∃ nb : Bool, (digitB s[k] || (decide (s[k] = 45) && digitB (peekF s.data.toList (k + 1)))) = nb := ⟨_, rfl⟩
            rw [hnb] at hsf
            have HSF := Lib.hid hsf
            have HNB := Lib.hid hnb
            have hgt := Lib.hid (@numF_gt s.data.toList k)
            rw [hp] at hgt
            clear hsf hnb hp
            go_cut [48] (fun t w' => t = .bool nb ∧ w' = wr)
            case first =>
              obtain ⟨db, hdb⟩ : ∃ db : Bool, digitB s[k] = db := ⟨_, rfl⟩
              have HDB := Lib.hid hdb
              clear hdb
              cases db with
              | true =>
                have e : nb = true := by rw [← HNB.out, HDB.out]; rfl
                go_wp2_with ((go_at_call 65; refine (lexer_digit _ _).mono ?_; rintro e w' ⟨rfl, rfl⟩; rw [HDB.out]))
                go_meet
                exact ⟨by rw [e], rfl⟩
              | false =>
                by_cases h45 : s[k] = 45
                · have e45 : ((s[k].toNat : Int) == 45) = true := by rw [h45]; rfl
                  obtain ⟨pb, hpb⟩ : ∃ pb : Bool, digitB (peekF s.data.toList (k + 1)) = pb := ⟨_, rfl⟩
                  have HPB := Lib.hid hpb
                  have e : nb = pb := by rw [← HNB.out, HDB.out, HPB.out, h45]; rfl
                  clear hpb h45
                  subst e
                  go_wp2_with (first | (go_at_call 66; refine (peek_at s (k + 1) _ _ hs (by omega) (by omega)).mono ?_; rintro e w' ⟨rfl, rfl⟩) | (go_at_call 65; refine (lexer_digit _ _).mono ?_; rintro e w' ⟨rfl, rfl⟩; first | rw [HDB.out] | rw [HPB.out]))
                  go_meet
                  exact ⟨rfl, rfl⟩
                · have e45 : ((s[k].toNat : Int) == 45) = false := by
                    have : s[k].toNat ≠ 45 := fun h => h45 (UInt8.toNat_inj.1 h)
                    simp; omega
                  have e : nb = false := by rw [← HNB.out, HDB.out]; simp [h45]
                  clear h45
                  go_wp2_with ((go_at_call 65; refine (lexer_digit _ _).mono ?_; rintro e w' ⟨rfl, rfl⟩; rw [HDB.out]))
                  go_meet
                  exact ⟨by rw [e], rfl⟩
            case rest =>
              obtain ⟨rfl, rfl⟩ := hcut
              cases nb with
              | true =>
                have hsf := HSF.out
                rw [if_pos rfl] at hsf
                have hke := hgt.out HNB.out
                have hel := numF_le (l := s.data.toList) (k := k) (by have := HZ.out; omega)
                rw [← HZ.out] at hel
                have hpk := peek_at s (numF s.data.toList k)
                generalize hee : numF s.data.toList k = e at *
                have HE := Lib.hid hee
                clear hee HSF HNB hgt
                have hdd := cut_data s k e
                have hcut := Lib.hid (cut_extract s k e)
                have hesz : (s.extract k e).size ≤ 4000000000 := by
                  rw [Lib.size_eq, hdd]
                  have : (cutF s.data.toList k e).length ≤ s.data.toList.length := by unfold cutF; simp; omega
                  have := HZ.out; omega
                by_cases hD : isDec (cutF s.data.toList k e) = false
                · rw [if_pos hD] at hsf
                  have hst := Lib.hid hsf
                  have hP := Lib.hid (fun w => decimal_Parse_no (s.extract k e) w hesz (by rw [hdd]; exact hD))
                  clear hsf hD hdd hesz hpk
                  go_wp2_with (first | (go_at_call 67; refine (lexer_number s k _ hs hlt).mono ?_; rintro e w' ⟨rfl, rfl⟩; rw [HE.out]) | (go_at_call 40; refine (hP.out _).mono ?_; rintro e w5 ⟨rfl, hE5⟩))
                  go_ret3
                  have e : R = ([], k, 2) := by rw [hR.out]; simp only [lexF, hst.out]
                  exact ⟨_, by rw [e]; rfl, by rw [e]; exact Toks.nil _, by exact exttI⟩
                · rw [if_neg hD] at hsf
                  have hP := Lib.hid (fun w => decimal_Parse_ok (s.extract k e) w hesz (by rw [hdd]; simpa using hD))
                  clear hD hdd hesz
                  go_upto_region 19 with (first | (go_at_call 67; refine (lexer_number s k _ hs hlt).mono ?_; rintro e w' ⟨rfl, rfl⟩; rw [HE.out]) | (go_at_call 40; refine (hP.out _).mono ?_; rintro e w5 ⟨vx, rfl, hx, hE5⟩; obtain ⟨nxn, axn, kxn, cxn, nxd, axd, kxd, cxd, rfl, _, _⟩ := IsRat.form hx))
                  obtain ⟨w6, p, f1, f2, _, hE6⟩ := box1 w5 (.cells #[.bool nxn, .slice axn kxn cxn, .bool nxd, .slice axd kxd cxd] 55)
                  rw [f1, f2]
                  replace hown := hown.ext (show Ext wc w6 by exact exttI)
                  replace hE : Ext w w6 := by exact exttI
                  clear f1 f2 hE5 hE6 hP
                  clear hx
                  have HPK := Lib.hid (fun w => hpk _ w hs (by omega) rfl)
                  clear hpk
                  generalize peekF s.data.toList e = pc at *
                  obtain ⟨lb, hlb⟩ : ∃ lb : Bool, letterB pc = lb := ⟨_, rfl⟩
                  rw [hlb] at hsf
                  have HLB := Lib.hid hlb
                  clear hlb
                  cases lb with
                  | true =>
                    have hst := Lib.hid (hsf.trans (if_pos (by simp)))
                    clear hsf
                    go_wp2_with (first | (go_at_call 66; refine (HPK.out _).mono ?_; rintro e w' ⟨rfl, rfl⟩) | (go_at_call 62; refine (lexer_letter _ _).mono ?_; rintro e w' ⟨rfl, rfl⟩; rw [HLB.out]))
                    go_ret3
                    have e : R = ([], e, 2) := by rw [hR.out]; simp only [lexF, hst.out]
                    exact ⟨_, by rw [e]; rfl, by rw [e]; exact Toks.nil _, by exact exttI⟩
                  | false =>
                    by_cases h95 : pc = 95
                    · have e95 : ((pc.toNat : Int) == 95) = true := by rw [h95]; rfl
                      have hst := Lib.hid (hsf.trans (if_pos (by simp [h95])))
                      clear hsf h95
                      go_wp2_with (first | (go_at_call 66; refine (HPK.out _).mono ?_; rintro e w' ⟨rfl, rfl⟩) | (go_at_call 62; refine (lexer_letter _ _).mono ?_; rintro e w' ⟨rfl, rfl⟩; rw [HLB.out]))
                      go_ret3
                      have e : R = ([], e, 2) := by rw [hR.out]; simp only [lexF, hst.out]
                      exact ⟨_, by rw [e]; rfl, by rw [e]; exact Toks.nil _, by exact exttI⟩
                    · have e95 : ((pc.toNat : Int) == 95) = false := by
                        have : pc.toNat ≠ 95 := fun h => h95 (UInt8.toNat_inj.1 h)
                        simp; omega
                      by_cases h46 : pc = 46
                      · have e46 : ((pc.toNat : Int) == 46) = true := by rw [h46]; rfl
                        have hst := Lib.hid (hsf.trans (if_pos (by simp [h46])))
                        clear hsf h95 h46
                        go_wp2_with (first | (go_at_call 66; refine (HPK.out _).mono ?_; rintro e w' ⟨rfl, rfl⟩) | (go_at_call 62; refine (lexer_letter _ _).mono ?_; rintro e w' ⟨rfl, rfl⟩; rw [HLB.out]))
                        go_ret3
                        have e : R = ([], e, 2) := by rw [hR.out]; simp only [lexF, hst.out]
                        exact ⟨_, by rw [e]; rfl, by rw [e]; exact Toks.nil _, by exact exttI⟩
                      · have e46 : ((pc.toNat : Int) == 46) = false := by
                          have : pc.toNat ≠ 46 := fun h => h46 (UInt8.toNat_inj.1 h)
                          simp; omega
                        have hst := Lib.hid (hsf.trans (if_neg (by simp [h95, h46])))
                        clear hsf h95 h46
                        go_wp2_with (first | (go_at_call 66; refine (HPK.out _).mono ?_; rintro e w' ⟨rfl, rfl⟩) | (go_at_call 62; refine (lexer_letter _ _).mono ?_; rintro e w' ⟨rfl, rfl⟩; rw [HLB.out]) | (at_builtin; refine wpList_appT_lexer rfl _ _ rfl (l := ts) ⟨2, k, cutF s.data.toList k (e)⟩ rfl rfl hown rfl rfl hcut.out (by omega) (by exact hE.size) ?_; intro v' w' hown' hg'))
                        go_roundw
                        case rel => exact ⟨e, f, _, by first | rfl | go_num, by omega, by omega, by rw [List.length_append]; simp; omega, hown', Lib.hid (by rw [hR.out]; simp only [lexF, hst.out]), (hE.alloc' _).grown' hg' hown.block⟩
                        case measure => simp [intOf]; omega
              | false =>
                obtain ⟨sy1, sy2⟩ := sym_at s[k]
                have hsf := HSF.out
                rw [if_neg (by simp)] at hsf
                by_cases hS : symB s[k] = true
                · rw [if_pos hS] at hsf
                  have hst := Lib.hid hsf
                  have hix := sy1 hS
                  have hcut := Lib.hid (cut_extract s k (k + 1))
                  clear hsf hS sy1 sy2 HSF HNB hgt
                  go_wp2_with (first | (go_at_call 68; refine (index_sym _ _).mono ?_; rintro e w' ⟨rfl, rfl⟩) | (at_builtin; refine wpList_appT_lexer rfl _ _ rfl (l := ts) ⟨3, k, cutF s.data.toList k (k + 1)⟩ rfl rfl hown rfl rfl hcut.out (by omega) (by exact hE.size) ?_; intro v' w' hown' hg'))
                  go_roundw
                  case rel => exact ⟨k + 1, f, _, by first | rfl | go_num, by omega, by omega, by rw [List.length_append]; simp; omega, hown', Lib.hid (by rw [hR.out]; simp only [lexF, hst.out]), (hE.alloc' _).grown' hg' hown.block⟩
                  case measure => simp [intOf]; omega
                · rw [if_neg hS] at hsf
                  have hst := Lib.hid hsf
                  have hix := Lib.hid (sy2 (Bool.eq_false_iff.2 hS))
                  clear hsf hS sy1 sy2 HSF HNB hgt
                  go_wp2_with ((go_at_call 68; refine (index_sym _ _).mono ?_; rintro e w' ⟨rfl, rfl⟩; rw [hix.out]))
                  go_ret3
                  have e : R = ([], k, 2) := by rw [hR.out]; simp only [lexF, hst.out]
                  exact ⟨_, by rw [e]; rfl, by rw [e]; exact Toks.nil _, by exact exttI⟩
    · have hst : Hid (stepF s.data.toList k = .stop) := by
        refine Lib.hid ?_
        unfold stepF; rw [if_pos (.inl (by have := HZ.out; omega))]
      go_wp2_with (first | fail)
      go_ret3
      have e : R = (ts, 0, 0) := by rw [hR.out]; simp only [lexF, hst.out]
      exact ⟨_, by rw [e]; rfl, by rw [e]; exact hown.toks (by omega), hE⟩
end Go.Proofs.YtechjiiijiipdaaGreatDoor

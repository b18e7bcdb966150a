/- Walks: integer.GCD. -/
import Derived.Test.YtechjiiijiipdaaDoorW12
namespace Go.Proofs.YtechjiiijiipdaaDoor
open Go.RowKit
set_option linter.unusedSimpArgs false
set_option linter.unusedVariables false

/-- The number that the second cell of a box shows: a measure for loops over boxes. -/
def readL (w : World) (h : Nat) : Nat :=
  match w.cell? ⟨h, 1, none⟩ with
  | some (.slice (some ⟨b, o, none⟩) n _) => val ((List.range n).map fun i => match w.cell? ⟨b, o + i, none⟩ with
    | some (.int _ d) => d.toNat
    | _ => 0)
  | _ => 0
theorem readL_of {w : World} {h : Nat} {v : Value} {a : Option Addr} {l : List Nat} {c : Nat} {t : TypeId} (hh : w.heap[h]? = some (.cells #[v, .slice a l.length c] t (0, 0))) (hu : U32s w (.slice a l.length c) l) : readL w h = val l := by
  have hc := (cell_of hh 1 _ rfl).1
  simp at hc
  obtain ⟨ad, c', e, _, _, _, _, hcell⟩ := hu
  cases e
  unfold readL
  rw [hc]
  rcases hcell with rfl | ⟨b, o, rfl, hlt, hcell⟩
  · simp only [List.length_nil]
    split
    · rename_i heq
      cases heq
      rfl
    · rfl
  · simp only
    congr 1
    apply List.ext_getElem
    · simp
    · intro i h1 h2
      simp only [List.getElem_map, List.getElem_range]
      rw [hcell i h2]
      simp [List.getD_eq_getElem?_getD, h2]
theorem IsInt.opened {n : Nat} {w : World} {b : Bool} {a : Option Addr} {k c : Nat} {z : Int} (h : IsInt n w (.agg #[.bool b, .slice a k c]) z) :
    ∃ l : List Nat, k = l.length ∧ U32s w (.slice a l.length c) l ∧ Dig l ∧ Norm l ∧ l.length ≤ n ∧ (b = true → l ≠ []) ∧ z = sgn b (val l) := by
  obtain ⟨neg, sv, l, hv, hu, hd, hn, hl, hz, rfl⟩ := h
  have hv' := hv
  simp at hv'
  obtain ⟨rfl, rfl⟩ := hv'
  obtain ⟨a', c', e, hc⟩ := hu.shape
  cases e
  exact ⟨l, rfl, hu, hd, hn, hl, hz, rfl⟩
theorem readL_int {n : Nat} {w : World} {h : Nat} {b : Bool} {a : Option Addr} {k c : Nat} {t : TypeId} {z : Int} (hh : w.heap[h]? = some (.cells #[.bool b, .slice a k c] t (0, 0))) (hi : IsInt n w (.agg #[.bool b, .slice a k c]) z) : readL w h = z.natAbs := by
  obtain ⟨l, rfl, hu, _, _, _, _, rfl⟩ := hi.opened
  rw [readL_of hh hu, sgn_natAbs]
theorem gcd_step {X Y x y : Nat} {nu nv : Bool} {g : Nat} (hX : (X : Int) = sgn nu x) (hY : (Y : Int) = sgn nv y) (h : Nat.gcd X Y = g) : Nat.gcd Y (x % y) = g := by
  have h1 := congrArg Int.natAbs hX
  have h2 := congrArg Int.natAbs hY
  rw [sgn_natAbs] at h1 h2
  simp at h1 h2
  rw [← h1, ← h2, Nat.gcd_comm Y, ← Nat.gcd_rec, Nat.gcd_comm, h]
theorem rulesF {rs : List Nat} {w : World} {p : Nat} {cs : Array Value} {t : TypeId} (h : w.heap[p]? = some (.cells cs t (0, 0))) (hp : p ∉ rs) (i : Nat) :
    ∀ w', But rs w w' → w'.frozen? ⟨p, i, none⟩ = false := fun w' e => by
  have := (e.block p (Array.getElem?_eq_some_iff.1 h).1 hp).trans h
  simp [World.frozen?, this]
attribute [local irreducible] IsInt U32s Dig Norm Own
set_option maxRecDepth 100000 in
set_option maxHeartbeats 4000000 in
theorem integer_GCD (n : Nat) (w : World) (va vb : Value) (a b : Int) (ha : IsInt n w va a) (hb : IsInt n w vb b) (hn : n < 300000) :
    Calls Tryd.prog 57 #[va, vb] w fun e w' => ∃ v, e = .returned v ∧ IsInt (n + 3) w' v (Int.gcd a b : Nat) ∧ Ext w w' := by
  obtain ⟨na, aa, la, ca, rfl, ua, da, nna, lna, sa, qa, _⟩ := IsInt.shape ha; have ea := Lib.hid qa; clear qa
  obtain ⟨nb, ab, lb, cb, rfl, ub, db, nnb, lnb, sb, qb, _⟩ := IsInt.shape hb; have eb := Lib.hid qb; clear qb
  go_enter Tryd.func57, Tryd.ntmps57
  go_upto_region 1 with (fail)
  obtain ⟨w3, p, q, r, e1, e2, e3, e4, h1, h2, h3, hpq, hpr, hqr, hE⟩ := box3 w (.cells #[.bool na, .slice aa la.length ca] 36) (.cells #[.bool nb, .slice ab lb.length cb] 36) (.cells #[.bool false, .slice none 0 0] 36)
  rw [e1, e2, e3, e4]
  have hge : ∀ k, k ∈ [r] → w.heap.size ≤ k := by simp; omega
  clear e1 e2 e3 e4
  have Rp1 := rulesB (rs := []) h1 (by simp) 1 _ rfl
  have Rq1 := rulesB (rs := []) h2 (by simp) 1 _ rfl
  have hB0 := But.start0 w3
  go_cut [5, 6] (fun p5 p6 w' => ∃ g h, p5 = .pointer (some ⟨g, 0, none⟩) ∧ p6 = .pointer (some ⟨h, 0, none⟩) ∧ g ≠ h ∧ w3.heap.size ≤ g ∧ w3.heap.size ≤ h ∧ But [] w3 w' ∧
    ∃ (nu : Bool) (au : Option Addr) (lu : List Nat) (cu : Nat) (nv : Bool) (av : Option Addr) (lv : List Nat) (cv : Nat), IsInt la.length w' (.agg #[.bool nu, .slice au lu.length cu]) (sgn false (val la)) ∧ IsInt lb.length w' (.agg #[.bool nv, .slice av lv.length cv]) (sgn false (val lb)) ∧
      w'.heap[g]? = some (.cells #[.bool nu, .slice au lu.length cu] 36 (0, 0)) ∧ w'.heap[h]? = some (.cells #[.bool nv, .slice av lv.length cv] 36 (0, 0)))
  case first =>
    go_region_held3 (fun w' => But [] w3 w') (exact buttI) (first | ((go_at_call 53; refine (integer_signed _ _ _ _ (by exact (ua.ext (by exact exttI))) (by exact da)).mono ?_; rintro e w5 ⟨vu, rfl, hu, hEu⟩; obtain ⟨nu, au, lu, cu, rfl, uu, du, nnu, lnu, su, qu, _⟩ := IsInt.shape hu; have eu := Lib.hid qu; clear qu); (try (have zu1 := Ext.blk hEu (heap_alloc_new _ _))); (try (first | (have zu2 := Ext.blk (Ext.trans' ((Ext.rfl' _).alloc' _) hEu) (heap_alloc_new _ _)) | (have zu2 := Ext.blk (Ext.trans' ((Ext.rfl' _).alloc' _).drew' hEu) (heap_alloc_new _ _)))); (try simp only [size_alloc', size_drew'] at zu1); (try simp only [size_alloc', size_drew'] at zu2); (have zus := hEu.size); (try simp only [size_alloc', size_drew'] at zus); (try (obtain ⟨Czu10, Gzu10⟩ := cell_of zu1 0 _ rfl)); (try (obtain ⟨Czu11, Gzu11⟩ := cell_of zu1 1 _ rfl)); (try (obtain ⟨Czu20, Gzu20⟩ := cell_of zu2 0 _ rfl)); (try (obtain ⟨Czu21, Gzu21⟩ := cell_of zu2 1 _ rfl)); (try (have l1w3w5 : w3.heap.size < w5.heap.size := by omega)); (try (have l2w3w5 : w3.heap.size + 1 < w5.heap.size := by omega)); (try (have l3w3w5 : w3.heap.size ≠ w5.heap.size := by omega)); (try (have l4w3w5 : w3.heap.size + 1 ≠ w5.heap.size := by omega)); (try (have l5w3w5 : w5.heap.size ≠ w3.heap.size := by omega)); (try (have l6w3w5 : w5.heap.size ≠ w3.heap.size + 1 := by omega))) | ((go_at_call 53; refine (integer_signed _ _ _ _ (by exact (ub.ext (by exact exttI))) (by exact db)).mono ?_; rintro e w6 ⟨vv, rfl, hv, hEv⟩; obtain ⟨nv, av, lv, cv, rfl, uv, dv, nnv, lnv, sv, qv, _⟩ := IsInt.shape hv; have ev := Lib.hid qv; clear qv); (try (have zv1 := Ext.blk hEv (heap_alloc_new _ _))); (try (first | (have zv2 := Ext.blk (Ext.trans' ((Ext.rfl' _).alloc' _) hEv) (heap_alloc_new _ _)) | (have zv2 := Ext.blk (Ext.trans' ((Ext.rfl' _).alloc' _).drew' hEv) (heap_alloc_new _ _)))); (try simp only [size_alloc', size_drew'] at zv1); (try simp only [size_alloc', size_drew'] at zv2); (have zvs := hEv.size); (try simp only [size_alloc', size_drew'] at zvs); (try (obtain ⟨Czv10, Gzv10⟩ := cell_of zv1 0 _ rfl)); (try (obtain ⟨Czv11, Gzv11⟩ := cell_of zv1 1 _ rfl)); (try (obtain ⟨Czv20, Gzv20⟩ := cell_of zv2 0 _ rfl)); (try (obtain ⟨Czv21, Gzv21⟩ := cell_of zv2 1 _ rfl)); (try (have zv3 := Ext.blk (Ext.trans' (by exact exttI) hEv) zu1)); (try (have zv4 := Ext.blk (Ext.trans' (by exact exttI) hEv) zu2)); (try (obtain ⟨Czv30, Gzv30⟩ := cell_of zv3 0 _ rfl)); (try (obtain ⟨Czv31, Gzv31⟩ := cell_of zv3 1 _ rfl)); (try (obtain ⟨Czv40, Gzv40⟩ := cell_of zv4 0 _ rfl)); (try (obtain ⟨Czv41, Gzv41⟩ := cell_of zv4 1 _ rfl)); (try (have l1w3w6 : w3.heap.size < w6.heap.size := by omega)); (try (have l2w3w6 : w3.heap.size + 1 < w6.heap.size := by omega)); (try (have l3w3w6 : w3.heap.size ≠ w6.heap.size := by omega)); (try (have l4w3w6 : w3.heap.size + 1 ≠ w6.heap.size := by omega)); (try (have l5w3w6 : w6.heap.size ≠ w3.heap.size := by omega)); (try (have l6w3w6 : w6.heap.size ≠ w3.heap.size + 1 := by omega)); (try (have l1w5w6 : w5.heap.size < w6.heap.size := by omega)); (try (have l2w5w6 : w5.heap.size + 1 < w6.heap.size := by omega)); (try (have l3w5w6 : w5.heap.size ≠ w6.heap.size := by omega)); (try (have l4w5w6 : w5.heap.size + 1 ≠ w6.heap.size := by omega)); (try (have l5w5w6 : w6.heap.size ≠ w5.heap.size := by omega)); (try (have l6w5w6 : w6.heap.size ≠ w5.heap.size + 1 := by omega))))
    all_goals (go_wp2_with fail; go_meet)
    all_goals exact ⟨_, _, rfl, rfl, by omega, by omega, by omega, by exact buttI, nu, au, lu, cu, nv, av, lv, cv, by exact inttI, by exact inttI, by exact heaptI, by exact heaptI⟩
  case rest =>
    obtain ⟨g, h, rfl, rfl, hgh, hg3, hh3, hBc, nu, au, lu, cu, nv, av, lv, cv, hu, hv, kg, kh⟩ := hcut
    have hEc := hBc.none
    clear Rp1 Rq1 hB0 hBc
    have szw := hE.size
    have ltr := (Array.getElem?_eq_some_iff.1 h3).1
    replace h3 := hEc.blk h3
    replace hE := hE.trans' hEc
    have n1 : r ≠ g := by omega
    have n2 : r ≠ h := by omega
    have hG : Hid (Nat.gcd (val la) (val lb) = Int.gcd a b) := by
      refine Lib.hid ?_
      rw [ea.out, eb.out, Int.gcd, sgn_natAbs, sgn_natAbs]
    clear h1 h2 ua ub
    rename World => wc
    go_wp2_with (first | fail)
    go_loopw [7] (fun _ w' => ∃ (X Y : Nat) (nu : Bool) (au : Option Addr) (lu : Nat) (cu : Nat) (nv : Bool) (av : Option Addr) (lv : Nat) (cv : Nat), IsInt n w' (.agg #[.bool nu, .slice au lu cu]) (X : Nat) ∧ IsInt n w' (.agg #[.bool nv, .slice av lv cv]) (Y : Nat) ∧
      w'.heap[g]? = some (.cells #[.bool nu, .slice au lu cu] 36 (0, 0)) ∧ w'.heap[h]? = some (.cells #[.bool nv, .slice av lv cv] 36 (0, 0)) ∧ But [g, h] wc w' ∧ Hid (Nat.gcd X Y = Int.gcd a b)) (fun _ w' => readL w' h)
    case atStart =>
      exact ⟨val la, val lb, nu, au, lu.length, cu, nv, av, lv.length, cv, (hu.mono lna).cast (by simp [sgn]), (hv.mono lnb).cast (by simp [sgn]), kg, kh, But.start2 (Box.mk kg rfl) (Box.mk kh rfl), hG⟩
    case round =>
      clear kg kh hu hv nu au lu cu nv av lv cv
      obtain ⟨X, Y, nu, au, ku, cu, nv, av, kv, cv, hu, hv, kg, kh, hB, hgc⟩ := hrel
      obtain ⟨lu, rfl, uu, du, nnu, lnu, su, qu⟩ := IsInt.opened hu; have eu := Lib.hid qu; clear qu
      obtain ⟨lv, rfl, uv, dv, nnv, lnv, sv, qv⟩ := IsInt.opened hv; have ev := Lib.hid qv; clear qv
      have hEr : Ext w wr := hB.old hE (by simp; omega)
      obtain ⟨Cg0, Gg0⟩ := cell_of kg 0 _ rfl
      obtain ⟨Cg1, Gg1⟩ := cell_of kg 1 _ rfl
      obtain ⟨Ch0, Gh0⟩ := cell_of kh 0 _ rfl
      obtain ⟨Ch1, Gh1⟩ := cell_of kh 1 _ rfl
      by_cases hY : lv = []
      · subst hY
        go_wp2_with (at_builtin; refine wpList_copy32 rfl _ _ rfl rfl rfl uu ?_; intro v' w5 hown hE5)
        (go_at_call 53; refine (integer_signed _ _ _ _ (by exact (hown.u32 du.u32 (by omega))) (by exact du)).mono ?_; rintro e w6 ⟨vx, rfl, hx, hEx⟩; obtain ⟨nx, ax, lx, cx, rfl, ux, dx, nnx, lnx, sx, qx, _⟩ := IsInt.shape hx; have ex := Lib.hid qx; clear qx)
        have h3r := (hB.block r (Array.getElem?_eq_some_iff.1 h3).1 (by simp; omega)).trans h3
        have hbxr : Box _ r := Box.mk h3r rfl
        obtain ⟨Rr0, Fr0⟩ := rulesR (rs := [r]) h3r (by simp) 0 (by simp)
        obtain ⟨Rr1, Fr1⟩ := rulesR (rs := [r]) h3r (by simp) 1 (by simp)
        have hYv : Y = 0 := by have := congrArg Int.natAbs ev.out; rw [sgn_natAbs] at this; simpa [val] using this
        have hXv : val lu = X := by have := congrArg Int.natAbs eu.out; rw [sgn_natAbs] at this; simpa using this.symm
        have hgv : val lu = Int.gcd a b := by rw [hXv, ← hgc.out, hYv, Nat.gcd_zero_right]
        clear hB
        have hB : But [r] wr w6 := by exact buttI
        replace hE := hEr
        have hBr0 := Rr0 _ hB
        have hBr1 := Rr1 _ hB
        have hFr0 := Fr0 _ hB
        have hFr1 := Fr1 _ hB
        go_wp2
        exact bodyPost_ret (v := .agg #[.bool nx, .slice ax lx.length cx]) (by simp [results, Tryd.results57, go_sem, hBr0, hBr1]) rfl ⟨_, rfl, IsInt.put ((hx.mono (by omega)).cast (by simp only [sgn, hgv]; rfl)) hB (by simp) rfl, ((hB.set _ _ rfl (by simp)).set _ _ rfl (by simp)).old hE hge⟩
      · have l0 : 0 < (lv.length : Int) := by have := List.length_pos_iff.2 hY; omega
        have pv := nnv.pos hY
        go_wp2_with (first | fail)
        (go_at_call 72; refine (integer_word _ _ _ _ (by exact hu)).mono ?_; rintro e w5 ⟨⟨s, hrs⟩, hEs⟩)
        have Kg := kg
        have Kh := kh
        replace kg := hEs.blk kg
        replace kh := hEs.blk kh
        clear Cg0 Gg0 Cg1 Gg1 Ch0 Gh0 Ch1 Gh1
        obtain ⟨Cg0, Gg0⟩ := cell_of kg 0 _ rfl
        obtain ⟨Cg1, Gg1⟩ := cell_of kg 1 _ rfl
        obtain ⟨Ch0, Gh0⟩ := cell_of kh 0 _ rfl
        obtain ⟨Ch1, Gh1⟩ := cell_of kh 1 _ rfl
        have hv5 := hv.ext hEs
        rcases hrs with ⟨hs1, hs2, rfl⟩ | rfl
        · have hs3 := Lib.hid hs2
          clear hs2
          go_wp2_with (first | fail)
          (go_at_call 72; refine (integer_word _ _ _ _ (by exact hv5)).mono ?_; rintro e w6 ⟨⟨t, hrt⟩, hEt⟩)
          replace kg := hEt.blk kg
          replace kh := hEt.blk kh
          clear Cg0 Gg0 Cg1 Gg1 Ch0 Gh0 Ch1 Gh1
          obtain ⟨Cg0, Gg0⟩ := cell_of kg 0 _ rfl
          obtain ⟨Cg1, Gg1⟩ := cell_of kg 1 _ rfl
          obtain ⟨Ch0, Gh0⟩ := cell_of kh 0 _ rfl
          obtain ⟨Ch1, Gh1⟩ := cell_of kh 1 _ rfl
          rcases hrt with ⟨ht1, ht2, rfl⟩ | rfl
          · have ht3 := Lib.hid ht2
            clear ht2
            go_wp2_with (first | fail)
            have hg0 : Hid (Nat.gcd s t = Int.gcd a b) := Lib.hid (by rw [hs3.out, ht3.out]; simpa using hgc.out)
            clear hs3 ht3
            have hEr6 : Ext w w6 := by exact exttI
            have h3r := hEt.blk (hEs.blk ((hB.block r (Array.getElem?_eq_some_iff.1 h3).1 (by simp; omega)).trans h3))
            clear Cg0 Gg0 Cg1 Gg1 Ch0 Gh0 Ch1 Gh1 hB hv5 hv hu uu uv kg kh Kg Kh hEt hEs hEr
            rename_i wo _
            go_loopw [7, 9] (fun u v w' => ∃ i j : Nat, u = .int .u64 i ∧ v = .int .u64 j ∧ i < 1000000000000000000 ∧ j < 1000000000000000000 ∧ Hid (Nat.gcd i j = Int.gcd a b) ∧ Drawn w6 w') (fun _ v _ => (intOf v).toNat)
            case atStart => exact ⟨s, t, rfl, rfl, hs1, ht1, hg0, Drawn.rfl' _⟩
            case round =>
              obtain ⟨i, j, rfl, rfl, hi, hj, hg1, hD⟩ := hrel
              have hE6 := hD.ext
              replace h3r := hE6.blk h3r
              replace hE : Ext w wr := by exact exttI
              by_cases hj0 : j = 0
              · subst hj0
                have hgv : Hid (i = Int.gcd a b) := Lib.hid (by rw [← hg1.out, Nat.gcd_zero_right])
                go_wp2_with (first | fail)
                have hbxr : Box _ r := Box.mk h3r rfl
                obtain ⟨Rr0, Fr0⟩ := rulesR (rs := [r]) h3r (by simp) 0 (by simp)
                obtain ⟨Rr1, Fr1⟩ := rulesR (rs := [r]) h3r (by simp) 1 (by simp)
                (go_at_call 62; refine (integer_split _ i (by omega : i < 18446744073709551616)).mono ?_; rintro e w7 ⟨v3, rfl, hu3, hE3⟩)
                go_wp2_with (first | fail)
                (go_at_call 53; refine (integer_signed _ _ _ _ (by exact hu3) (by exact (dig3 i (by omega)))).mono ?_; rintro e w8 ⟨vx, rfl, hx, hEx⟩; obtain ⟨nx, ax, lx, cx, rfl, ux, dx, nnx, lnx, sx, qx, _⟩ := IsInt.shape hx; have ex := Lib.hid qx; clear qx)
                have hB : But [r] wr w8 := by exact buttI
                have hBr0 := Rr0 _ hB
                have hBr1 := Rr1 _ hB
                have hFr0 := Fr0 _ hB
                have hFr1 := Fr1 _ hB
                go_wp2
                exact bodyPost_ret (v := .agg #[.bool nx, .slice ax lx.length cx]) (by simp [results, Tryd.results57, go_sem, hBr0, hBr1]) rfl ⟨_, rfl, IsInt.put ((hx.mono (by simp)).cast (by rw [val3, ← hgv.out]; rfl)) hB (by simp) rfl, ((hB.set _ _ rfl (by simp)).set _ _ rfl (by simp)).old hE hge⟩
              · have j0 : 0 < (j : Int) := by omega
                have hlt : i % j < j := Nat.mod_lt _ (by omega)
                have e1 : (i : Int).tmod (j : Int) = ((i % j : Nat) : Int) := rfl
                go_wp2
                go_quiet (fail)
                go_wp2
                go_roundw
                case rel => exact ⟨j, i % j, rfl, rfl, hj, by omega, Lib.hid (by rw [← hg1.out, Nat.gcd_comm j, ← Nat.gcd_rec, Nat.gcd_comm]), hD.n _⟩
                case measure => simp only [intOf]; omega
          · go_wp2_with (first | fail)
            (go_at_call 73; refine (integer_divide _ _ _ lu lv (uu.ext (by exact exttI)) (uv.ext (by exact exttI)) du dv (by omega) (by omega) pv).mono ?_; rintro e w7 ⟨vx, vy, x, y, rfl, ux, uy, dx, dy, yx, yy, zx, zy, hEx⟩; have ex := Lib.hid yx; clear yx; have ey := Lib.hid yy; clear yy)
            go_wp2_with (first | fail)
            have kg7 := hEx.blk kg
            have kh7 := hEx.blk kh
            have hv7 : IsInt n w7 (.agg #[.bool nv, .slice av lv.length cv]) (Y : Nat) := hv.ext (by exact exttI)
            have hB7 : But [g, h] wc w7 := by exact buttI
            have Rg0 := rules kg7 0 _ rfl
            have Rg1 := rules kg7 1 _ rfl
            have Rh0 := rules kh7 0 _ rfl
            have Rh1 := rules kh7 1 _ rfl
            obtain ⟨Rg0, Fg0⟩ := Rg0
            obtain ⟨Rg1, Fg1⟩ := Rg1
            obtain ⟨Rh0, Fh0⟩ := Rh0
            obtain ⟨Rh1, Fh1⟩ := Rh1
            have hX := (Ext.rfl' w7).drew'
            go_region_with (((go_at_call 53; refine (integer_signed _ _ _ _ (by exact (uy.ext (by exact exttI))) (by exact dy)).mono ?_; rintro e w8 ⟨vz, rfl, hz, hEz⟩; obtain ⟨nz, az, lz, cz, rfl, uz, dz, nnz, lnz, sz, qz, _⟩ := IsInt.shape hz; have ez := Lib.hid qz; clear qz); have hX8 := (show Ext w7 w8 by exact exttI)))
            all_goals (go_wp2_with (first | fail))
            all_goals (have kg8 := (show Ext w7 w8 by exact exttI).blk kg7; have kh8 := (show Ext w7 w8 by exact exttI).blk kh7)
            all_goals (go_roundw)
            case' rel => exact ⟨Y, val y, nv, av, lv.length, cv, nz, az, lz.length, cz, by exact inttI, (by exact inttI : IsInt y.length _ _ (sgn false (val y))).mono (by omega), by exact heaptI, by exact heaptI, by exact buttI, Lib.hid (by rw [ey.out]; exact gcd_step eu.out ev.out hgc.out)⟩
            case' measure => rw [readL_int Kh hv, readL_int (n := y.length) (z := sgn false (val y)) (by exact heaptI) (by exact inttI), sgn_natAbs, ey.out]; have := Nat.mod_lt (val lu) pv; have e := congrArg Int.natAbs ev.out; rw [sgn_natAbs] at e; rw [e]; exact this
            case' rel => exact ⟨Y, val y, nv, av, lv.length, cv, nz, az, lz.length, cz, by exact inttI, (by exact inttI : IsInt y.length _ _ (sgn false (val y))).mono (by omega), by exact heaptI, by exact heaptI, by exact buttI, Lib.hid (by rw [ey.out]; exact gcd_step eu.out ev.out hgc.out)⟩
            case' measure => rw [readL_int Kh hv, readL_int (n := y.length) (z := sgn false (val y)) (by exact heaptI) (by exact inttI), sgn_natAbs, ey.out]; have := Nat.mod_lt (val lu) pv; have e := congrArg Int.natAbs ev.out; rw [sgn_natAbs] at e; rw [e]; exact this
        · go_wp2_with (first | fail)
          (go_at_call 72; refine (integer_word _ _ _ _ (by exact hv5)).mono ?_; rintro e w6 ⟨⟨t, hrt⟩, hEt⟩)
          replace kg := hEt.blk kg
          replace kh := hEt.blk kh
          clear Cg0 Gg0 Cg1 Gg1 Ch0 Gh0 Ch1 Gh1
          obtain ⟨Cg0, Gg0⟩ := cell_of kg 0 _ rfl
          obtain ⟨Cg1, Gg1⟩ := cell_of kg 1 _ rfl
          obtain ⟨Ch0, Gh0⟩ := cell_of kh 0 _ rfl
          obtain ⟨Ch1, Gh1⟩ := cell_of kh 1 _ rfl
          rcases hrt with ⟨ht1, ht2, rfl⟩ | rfl
          · go_wp2_with (first | fail)
            (go_at_call 73; refine (integer_divide _ _ _ lu lv (uu.ext (by exact exttI)) (uv.ext (by exact exttI)) du dv (by omega) (by omega) pv).mono ?_; rintro e w7 ⟨vx, vy, x, y, rfl, ux, uy, dx, dy, yx, yy, zx, zy, hEx⟩; have ex := Lib.hid yx; clear yx; have ey := Lib.hid yy; clear yy)
            go_wp2_with (first | fail)
            have kg7 := hEx.blk kg
            have kh7 := hEx.blk kh
            have hv7 : IsInt n w7 (.agg #[.bool nv, .slice av lv.length cv]) (Y : Nat) := hv.ext (by exact exttI)
            have hB7 : But [g, h] wc w7 := by exact buttI
            have Rg0 := rules kg7 0 _ rfl
            have Rg1 := rules kg7 1 _ rfl
            have Rh0 := rules kh7 0 _ rfl
            have Rh1 := rules kh7 1 _ rfl
            obtain ⟨Rg0, Fg0⟩ := Rg0
            obtain ⟨Rg1, Fg1⟩ := Rg1
            obtain ⟨Rh0, Fh0⟩ := Rh0
            obtain ⟨Rh1, Fh1⟩ := Rh1
            have hX := (Ext.rfl' w7).drew'
            go_region_with (((go_at_call 53; refine (integer_signed _ _ _ _ (by exact (uy.ext (by exact exttI))) (by exact dy)).mono ?_; rintro e w8 ⟨vz, rfl, hz, hEz⟩; obtain ⟨nz, az, lz, cz, rfl, uz, dz, nnz, lnz, sz, qz, _⟩ := IsInt.shape hz; have ez := Lib.hid qz; clear qz); have hX8 := (show Ext w7 w8 by exact exttI)))
            all_goals (go_wp2_with (first | fail))
            all_goals (have kg8 := (show Ext w7 w8 by exact exttI).blk kg7; have kh8 := (show Ext w7 w8 by exact exttI).blk kh7)
            all_goals (go_roundw)
            case' rel => exact ⟨Y, val y, nv, av, lv.length, cv, nz, az, lz.length, cz, by exact inttI, (by exact inttI : IsInt y.length _ _ (sgn false (val y))).mono (by omega), by exact heaptI, by exact heaptI, by exact buttI, Lib.hid (by rw [ey.out]; exact gcd_step eu.out ev.out hgc.out)⟩
            case' measure => rw [readL_int Kh hv, readL_int (n := y.length) (z := sgn false (val y)) (by exact heaptI) (by exact inttI), sgn_natAbs, ey.out]; have := Nat.mod_lt (val lu) pv; have e := congrArg Int.natAbs ev.out; rw [sgn_natAbs] at e; rw [e]; exact this
            case' rel => exact ⟨Y, val y, nv, av, lv.length, cv, nz, az, lz.length, cz, by exact inttI, (by exact inttI : IsInt y.length _ _ (sgn false (val y))).mono (by omega), by exact heaptI, by exact heaptI, by exact buttI, Lib.hid (by rw [ey.out]; exact gcd_step eu.out ev.out hgc.out)⟩
            case' measure => rw [readL_int Kh hv, readL_int (n := y.length) (z := sgn false (val y)) (by exact heaptI) (by exact inttI), sgn_natAbs, ey.out]; have := Nat.mod_lt (val lu) pv; have e := congrArg Int.natAbs ev.out; rw [sgn_natAbs] at e; rw [e]; exact this
          · go_wp2_with (first | fail)
            (go_at_call 73; refine (integer_divide _ _ _ lu lv (uu.ext (by exact exttI)) (uv.ext (by exact exttI)) du dv (by omega) (by omega) pv).mono ?_; rintro e w7 ⟨vx, vy, x, y, rfl, ux, uy, dx, dy, yx, yy, zx, zy, hEx⟩; have ex := Lib.hid yx; clear yx; have ey := Lib.hid yy; clear yy)
            go_wp2_with (first | fail)
            have kg7 := hEx.blk kg
            have kh7 := hEx.blk kh
            have hv7 : IsInt n w7 (.agg #[.bool nv, .slice av lv.length cv]) (Y : Nat) := hv.ext (by exact exttI)
            have hB7 : But [g, h] wc w7 := by exact buttI
            have Rg0 := rules kg7 0 _ rfl
            have Rg1 := rules kg7 1 _ rfl
            have Rh0 := rules kh7 0 _ rfl
            have Rh1 := rules kh7 1 _ rfl
            obtain ⟨Rg0, Fg0⟩ := Rg0
            obtain ⟨Rg1, Fg1⟩ := Rg1
            obtain ⟨Rh0, Fh0⟩ := Rh0
            obtain ⟨Rh1, Fh1⟩ := Rh1
            have hX := (Ext.rfl' w7).drew'
            go_region_with (((go_at_call 53; refine (integer_signed _ _ _ _ (by exact (uy.ext (by exact exttI))) (by exact dy)).mono ?_; rintro e w8 ⟨vz, rfl, hz, hEz⟩; obtain ⟨nz, az, lz, cz, rfl, uz, dz, nnz, lnz, sz, qz, _⟩ := IsInt.shape hz; have ez := Lib.hid qz; clear qz); have hX8 := (show Ext w7 w8 by exact exttI)))
            all_goals (go_wp2_with (first | fail))
            all_goals (have kg8 := (show Ext w7 w8 by exact exttI).blk kg7; have kh8 := (show Ext w7 w8 by exact exttI).blk kh7)
            all_goals (go_roundw)
            case' rel => exact ⟨Y, val y, nv, av, lv.length, cv, nz, az, lz.length, cz, by exact inttI, (by exact inttI : IsInt y.length _ _ (sgn false (val y))).mono (by omega), by exact heaptI, by exact heaptI, by exact buttI, Lib.hid (by rw [ey.out]; exact gcd_step eu.out ev.out hgc.out)⟩
            case' measure => rw [readL_int Kh hv, readL_int (n := y.length) (z := sgn false (val y)) (by exact heaptI) (by exact inttI), sgn_natAbs, ey.out]; have := Nat.mod_lt (val lu) pv; have e := congrArg Int.natAbs ev.out; rw [sgn_natAbs] at e; rw [e]; exact this
            case' rel => exact ⟨Y, val y, nv, av, lv.length, cv, nz, az, lz.length, cz, by exact inttI, (by exact inttI : IsInt y.length _ _ (sgn false (val y))).mono (by omega), by exact heaptI, by exact heaptI, by exact buttI, Lib.hid (by rw [ey.out]; exact gcd_step eu.out ev.out hgc.out)⟩
            case' measure => rw [readL_int Kh hv, readL_int (n := y.length) (z := sgn false (val y)) (by exact heaptI) (by exact inttI), sgn_natAbs, ey.out]; have := Nat.mod_lt (val lu) pv; have e := congrArg Int.natAbs ev.out; rw [sgn_natAbs] at e; rw [e]; exact this
end Go.Proofs.YtechjiiijiipdaaDoor

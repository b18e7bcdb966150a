/- Walks over the reference: fractions: unit, FromInt64, Same. -/
import Derived.Test.YtechjiiijiipdaaDoorR2
namespace Go.Proofs.YtechjiiijiipdaaDoor
open Go.RowKit
set_option linter.unusedSimpArgs false
set_option linter.unusedVariables false
attribute [local irreducible] IsInt U32s Dig Norm Own IsRat
set_option maxRecDepth 100000 in
theorem ref02_unit (w : World) : Calls Tryd.prog 34 #[] w fun e w' => ∃ v, e = .returned v ∧ IsInt 3 w' v 1 ∧ Ext w w' := by
  go_enter Tryd.func34, Tryd.ntmps34
  go_wp2_with (first | fail)
  obtain ⟨w3, r, e1, e2, h3, hE⟩ := box1 w (.cells #[.bool false, .slice none 0 0] 36)
  rw [e1, e2]
  have hr0 : w.heap.size ≤ r := by omega
  clear e1 e2
  obtain ⟨Rr0, Fr0⟩ := rules h3 0 _ rfl
  obtain ⟨Rr1, Fr1⟩ := rules h3 1 _ rfl
  go_wp2_with ((go_at_call 33; refine (ref01_FromInt64 _ 1 (by omega) (by omega)).mono ?_; rintro e w5 ⟨vx, rfl, hx, hEx⟩; obtain ⟨nx, ax, kx, cx, rfl⟩ := IsInt.form hx); have hXw5 := (show Ext w3 w5 by exact exttI))
  have hE9 : Ext w w5 := by exact exttI
  have k9 := hXw5.blk h3
  have hbx : Box w5 r := Box.mk k9 rfl
  have hB : But [r] w5 w5 := by exact buttI
  have hBr0 := Rr0 _ hXw5
  have hBr1 := Rr1 _ hXw5
  exact bodyPost_ret (v := .agg #[.bool nx, .slice ax kx cx]) (by simp [results, Tryd.results34, go_sem, hBr0, hBr1]) rfl ⟨_, rfl, IsInt.put hx hB (by simp) rfl, ((hB.set _ _ rfl (by simp)).set _ _ rfl (by simp)).old hE9 (by simp; omega)⟩
set_option maxRecDepth 100000 in
set_option maxHeartbeats 1000000 in
theorem ref02_FromInt64 (w : World) (n : Int) (h1 : -9223372036854775808 ≤ n) (h2 : n < 9223372036854775808) :
    Calls Tryd.prog 16 #[.int .i64 n] w fun e w' => ∃ v, e = .returned v ∧ IsRat 3 w' v (n : Rat) ∧ Ext w w' := by
  go_enter Tryd.func16, Tryd.ntmps16
  go_upto_region 1 with (fail)
  obtain ⟨w3, r, e1, e2, h3, hE⟩ := box1 w (.cells #[.bool false, .slice none 0 0, .bool false, .slice none 0 0] 38)
  rw [e1, e2]
  have hr0 : w.heap.size ≤ r := by omega
  clear e1 e2
  obtain ⟨Rr0, Fr0⟩ := rules h3 0 _ rfl
  obtain ⟨Rr1, Fr1⟩ := rules h3 1 _ rfl
  obtain ⟨Rr2, Fr2⟩ := rules h3 2 _ rfl
  obtain ⟨Rr3, Fr3⟩ := rules h3 3 _ rfl
  have hX3 := Ext.rfl' w3
  go_wp2_with (first | ((go_at_call 33; refine (ref01_FromInt64 _ n h1 h2).mono ?_; rintro e w5 ⟨vi, rfl, hi, hEi⟩; obtain ⟨ni, ai, ki, ci, rfl⟩ := IsInt.form hi); have hXw5 := (show Ext w3 w5 by exact exttI)) | ((go_at_call 34; refine (ref02_unit _).mono ?_; rintro e w6 ⟨vx, rfl, hx, hEx⟩; obtain ⟨nx, ax, kx, cx, rfl⟩ := IsInt.form hx); have hXw6 := (show Ext w3 w6 by exact exttI)))
  have hE9 : Ext w w6 := by exact exttI
  have k9 := hXw6.blk h3
  have hbx : Box w6 r := Box.mk k9 rfl
  have hB : But [r] w6 w6 := by exact buttI
  have hBr0 := Rr0 _ hXw6
  have hBr1 := Rr1 _ hXw6
  have hBr2 := Rr2 _ hXw6
  have hBr3 := Rr3 _ hXw6
  have hi1 := hi.ext hEx
  exact bodyPost_ret (v := .agg #[.bool ni, .slice ai ki ci, .bool nx, .slice ax kx cx]) (by simp [results, Tryd.results16, go_sem, hBr0, hBr1, hBr2, hBr3]) rfl ⟨_, rfl, IsRat.put4 hB (by simp) (IsRat.whole hi1 hx), (((((hB.set _ _ rfl (by simp)).set _ _ rfl (by simp)).set _ _ rfl (by simp)).set _ _ rfl (by simp)).old hE9 (by simp; omega))⟩
theorem rat_eq (a b : Rat) : decide (a = b) = (decide (a.num = b.num) && decide ((a.den : Int) = b.den)) := by
  rw [Bool.eq_iff_iff]
  simp only [decide_eq_true_eq, Bool.and_eq_true, Int.natCast_inj]
  exact ⟨fun h => by rw [h]; exact ⟨rfl, rfl⟩, fun h => Rat.ext h.1 h.2⟩
set_option maxRecDepth 100000 in
set_option maxHeartbeats 1000000 in
theorem ref02_Same (n m : Nat) (w : World) (va vb : Value) (a b : Rat) (ha : IsRat n w va a) (hb : IsRat m w vb b) :
    Calls Tryd.prog 15 #[va, vb] w fun e w' => e = .returned (.bool (decide (a = b))) ∧ Ext w w' := by
  obtain ⟨na, aa, ka, ca, nb, ab, kb, cb, rfl, ha, hb'⟩ := ha.form
  obtain ⟨nc, ac, kc, cc, nd, ad, kd, cd, rfl, hc, hd⟩ := hb.form
  rw [rat_eq]
  have hS1 := fun w1 (h : Ext w w1) => ref01_Same n m w1 _ _ _ _ (ha.ext h) (hc.ext h)
  have hS2 := fun w1 (h : Ext w w1) => ref01_Same n m w1 _ _ _ _ (hb'.ext h) (hd.ext h)
  generalize decide (a.num = b.num) = d1 at *
  generalize decide ((a.den : Int) = b.den) = d2 at *
  have H1 := Lib.hid hS1
  have H2 := Lib.hid hS2
  clear hS1 hS2
  go_enter Tryd.func15, Tryd.ntmps15
  go_upto_region 1 with (fail)
  obtain ⟨w3, p, q, e1, e2, e3, h1, h2, hpq, hE⟩ := box2 w (.cells #[.bool na, .slice aa ka ca, .bool nb, .slice ab kb cb] 38) (.cells #[.bool nc, .slice ac kc cc, .bool nd, .slice ad kd cd] 38)
  rw [e1, e2, e3]
  clear e1 e2 e3
  obtain ⟨Rp0, _⟩ := rules h1 0 _ rfl
  obtain ⟨Rp1, _⟩ := rules h1 1 _ rfl
  obtain ⟨Rp2, _⟩ := rules h1 2 _ rfl
  obtain ⟨Rp3, _⟩ := rules h1 3 _ rfl
  obtain ⟨Rq0, _⟩ := rules h2 0 _ rfl
  obtain ⟨Rq1, _⟩ := rules h2 1 _ rfl
  obtain ⟨Rq2, _⟩ := rules h2 2 _ rfl
  obtain ⟨Rq3, _⟩ := rules h2 3 _ rfl
  have hX3 := Ext.rfl' w3
  cases d1
  · go_wp2_with (go_at_call 32; refine (H1.out _ (by exact exttI)).mono ?_; rintro e w5 ⟨rfl, hE5⟩; have hXw5 := (show Ext w3 w5 by exact exttI))
    go_ret
    exact ⟨rfl, by exact exttI⟩
  · go_wp2_with (go_at_call 32; first | ((with_reducible refine (H1.out _ (by exact exttI)).mono ?_); rintro e w5 ⟨rfl, hE5⟩; have hXw5 := (show Ext w3 w5 by exact exttI)) | ((with_reducible refine (H2.out _ (by exact exttI)).mono ?_); rintro e w6 ⟨rfl, hE6⟩; have hXw6 := (show Ext w3 w6 by exact exttI)))
    go_ret
    exact ⟨rfl, by exact exttI⟩
end Go.Proofs.YtechjiiijiipdaaDoor

/- Walks: rational.unit, exact. -/
import Derived.Test.YtechjiiijiipdaaDoorW13
namespace Go.Proofs.YtechjiiijiipdaaDoor
open Go.RowKit
set_option linter.unusedSimpArgs false
set_option linter.unusedVariables false

theorem IsInt.form {n : Nat} {w : World} {v : Value} {z : Int} (h : IsInt n w v z) : ∃ b a k c, v = .agg #[.bool b, .slice a k c] := by
  obtain ⟨b, a, l, c, rfl, _⟩ := h.shape
  exact ⟨b, a, _, c, rfl⟩
attribute [local irreducible] IsInt U32s Dig Norm Own
set_option maxRecDepth 100000 in
theorem rational_unit (w : World) : Calls Tryd.prog 59 #[] w fun e w' => ∃ v, e = .returned v ∧ IsInt 3 w' v 1 ∧ Ext w w' := by
  go_enter Tryd.func59, Tryd.ntmps59
  go_wp2_with (first | fail)
  obtain ⟨w3, r, e1, e2, h1, hE⟩ := box1 w (.cells #[.bool false, .slice none 0 0] 36)
  rw [e1, e2]
  have hge : ∀ k, k ∈ [r] → w.heap.size ≤ k := by simp; omega
  have hbxr : Box _ r := Box.mk h1 rfl
  obtain ⟨Rr0, Fr0⟩ := rulesR (rs := [r]) h1 (by simp) 0 (by simp)
  obtain ⟨Rr1, Fr1⟩ := rulesR (rs := [r]) h1 (by simp) 1 (by simp)
  (go_at_call 44; refine (integer_FromInt64 _ 1 (by omega) (by omega)).mono ?_; rintro e w5 ⟨vx, rfl, hx, hEx⟩; obtain ⟨nx, ax, kx, cx, rfl⟩ := IsInt.form hx)
  have hB : But [r] w3 w5 := by exact buttI
  have hBr0 := Rr0 _ hB
  have hBr1 := Rr1 _ hB
  have hFr0 := Fr0 _ hB
  have hFr1 := Fr1 _ hB
  go_wp2
  exact bodyPost_ret (v := .agg #[.bool nx, .slice ax kx cx]) (by simp [results, Tryd.results59, go_sem, hBr0, hBr1]) rfl ⟨_, rfl, IsInt.put hx hB (by simp) rfl, ((hB.set _ _ rfl (by simp)).set _ _ rfl (by simp)).old hE hge⟩

set_option maxRecDepth 100000 in
set_option maxHeartbeats 1000000 in
theorem rational_exact (n m : Nat) (w : World) (va vb : Value) (a b : Int) (ha : IsInt n w va a) (hb : IsInt m w vb b) (hn : n < 300000) (hm : m < 300000) (hp : 0 < b) :
    Calls Tryd.prog 60 #[va, vb] w fun e w' => ∃ v, e = .returned v ∧ IsInt n w' v (a / b) ∧ Ext w w' := by
  obtain ⟨na, aa, ka, ca, rfl⟩ := IsInt.form ha
  obtain ⟨nb, ab, kb, cb, rfl⟩ := IsInt.form hb
  go_enter Tryd.func60, Tryd.ntmps60
  go_upto_region 1 with (fail)
  obtain ⟨w3, p, q, r, e1, e2, e3, e4, h1, h2, h3, hpq, hpr, hqr, hE⟩ := box3 w (.cells #[.bool na, .slice aa ka ca] 36) (.cells #[.bool nb, .slice ab kb cb] 36) (.cells #[.bool false, .slice none 0 0] 36)
  rw [e1, e2, e3, e4]
  have hge : ∀ k, k ∈ [r] → w.heap.size ≤ k := by simp; omega
  clear e1 e2 e3 e4
  obtain ⟨Cp0, Gp0⟩ := cell_of h1 0 _ rfl
  obtain ⟨Cp1, Gp1⟩ := cell_of h1 1 _ rfl
  obtain ⟨Cq0, Gq0⟩ := cell_of h2 0 _ rfl
  obtain ⟨Cq1, Gq1⟩ := cell_of h2 1 _ rfl
  go_wp2_with (first | fail)
  (go_at_call 75; refine (integer_DivMod _ _ _ _ _ _ _ (ha.ext hE) (hb.ext hE) (by omega) (by omega) hp).mono ?_; rintro e w5 ⟨vx, vy, rfl, hx, hy, hEx⟩; obtain ⟨nx, ax, kx, cx, rfl⟩ := IsInt.form hx; obtain ⟨ny, ay, ky, cy, rfl⟩ := IsInt.form hy)
  go_upto_region 2 with (fail)
  obtain ⟨w6, s, t, f1, f2, f3, k1, k2, hst, hE6⟩ := box2 w5 (.cells #[.bool nx, .slice ax kx cx] 36) (.cells #[.bool ny, .slice ay ky cy] 36)
  rw [f1, f2, f3]
  clear f1 f2 f3
  have h3' := hE6.blk (hEx.blk h3)
  obtain ⟨Cs0, Gs0⟩ := cell_of k1 0 _ rfl
  obtain ⟨Cs1, Gs1⟩ := cell_of k1 1 _ rfl
  have hbxr : Box _ r := Box.mk h3' rfl
  obtain ⟨Rr0, Fr0⟩ := rulesR (rs := [r]) h3' (by simp) 0 (by simp)
  obtain ⟨Rr1, Fr1⟩ := rulesR (rs := [r]) h3' (by simp) 1 (by simp)
  have hB : But [r] w6 w6 := by exact buttI
  have hBr0 := Rr0 _ hB
  have hBr1 := Rr1 _ hB
  have hFr0 := Fr0 _ hB
  have hFr1 := Fr1 _ hB
  replace hE : Ext w w6 := by exact exttI
  go_wp2
  exact bodyPost_ret (v := .agg #[.bool nx, .slice ax kx cx]) (by simp [results, Tryd.results60, go_sem, hBr0, hBr1]) rfl ⟨_, rfl, IsInt.put (hx.ext hE6) hB (by simp) rfl, ((hB.set _ _ rfl (by simp)).set _ _ rfl (by simp)).old hE hge⟩

/-- v is an api.Rat in normal form that shows x; its integers have at most n limbs. -/
def IsRat (n : Nat) (w : World) (v : Value) (x : Rat) : Prop :=
  ∃ (nc : Bool) (ac : Option Addr) (kc cc : Nat) (nd : Bool) (ad : Option Addr) (kd cd : Nat), v = .agg #[.bool nc, .slice ac kc cc, .bool nd, .slice ad kd cd] ∧ IsInt n w (.agg #[.bool nc, .slice ac kc cc]) x.num ∧ IsInt n w (.agg #[.bool nd, .slice ad kd cd]) (x.den : Int)
theorem IsRat.ext {n : Nat} {w w' : World} {v : Value} {x : Rat} (h : IsRat n w v x) (e : Ext w w') : IsRat n w' v x := by
  obtain ⟨_, _, _, _, _, _, _, _, h, ha, hb⟩ := h
  exact ⟨_, _, _, _, _, _, _, _, h, ha.ext e, hb.ext e⟩
theorem IsRat.mono {n m : Nat} {w : World} {v : Value} {x : Rat} (h : IsRat n w v x) (e : n ≤ m) : IsRat m w v x := by
  obtain ⟨_, _, _, _, _, _, _, _, h, ha, hb⟩ := h
  exact ⟨_, _, _, _, _, _, _, _, h, ha.mono e, hb.mono e⟩
theorem IsRat.cast {n : Nat} {w : World} {v : Value} {x y : Rat} (h : IsRat n w v x) (e : x = y) : IsRat n w v y := e ▸ h
theorem divInt_num_pos (a b : Int) (hb : 0 < b) : (Rat.divInt a b).num = a / (Int.gcd a b : Nat) := by
  rw [Rat.num_divInt, Int.sign_eq_one_of_pos hb, Int.one_mul, Int.gcd_comm]
theorem divInt_den_pos (a b : Int) (hb : 0 < b) : ((Rat.divInt a b).den : Int) = b / (Int.gcd a b : Nat) := by
  rw [Rat.den_divInt, if_neg (by omega), Int.gcd_comm, Int.natCast_ediv, Int.natAbs_of_nonneg (by omega)]
end Go.Proofs.YtechjiiijiipdaaDoor

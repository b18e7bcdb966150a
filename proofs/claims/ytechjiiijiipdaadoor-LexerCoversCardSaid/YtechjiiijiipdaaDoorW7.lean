/- Walks: integer's functions of small size. -/
import Derived.Test.YtechjiiijiipdaaDoorW2
import Derived.Test.YtechjiiijiipdaaDoorW3
import Derived.Test.YtechjiiijiipdaaDoorW5
import Derived.Test.YtechjiiijiipdaaDoorW6
namespace Go.Proofs.YtechjiiijiipdaaDoor
open Go.RowKit
set_option linter.unusedSimpArgs false
set_option linter.unusedVariables false

theorem IsInt.shape {n : Nat} {w : World} {v : Value} {z : Int} (h : IsInt n w v z) : ∃ neg a l c, v = .agg #[.bool neg, .slice a l.length c] ∧ U32s w (.slice a l.length c) l ∧ Dig l ∧ Norm l ∧ l.length ≤ n ∧ (neg = true → l ≠ []) ∧ z = sgn neg (val l) ∧ l.length ≤ c := by
  obtain ⟨neg, sv, l, rfl, hu, hd, hn, hl, hz, rfl⟩ := h
  obtain ⟨a, c, rfl, hc, _⟩ := hu.shape
  exact ⟨neg, a, l, c, rfl, hu, hd, hn, hl, hz, rfl, hc⟩

set_option maxRecDepth 100000 in
set_option maxHeartbeats 1000000 in
theorem integer_Mul (n m : Nat) (w : World) (va vb : Value) (a b : Int) (ha : IsInt n w va a) (hb : IsInt m w vb b) (hn : n < 400000) (hm : m < 400000) :
    Calls Tryd.prog 42 #[va, vb] w fun e w' => ∃ v, e = .returned v ∧ IsInt (n + m) w' v (a * b) ∧ Ext w w' := by
  obtain ⟨na, aa, la, ca, rfl, ua, da, _, lna, _, rfl, _⟩ := ha.shape
  obtain ⟨nb, ab, lb, cb, rfl, ub, db, _, lnb, _, rfl, _⟩ := hb.shape
  clear ha hb
  go_enter Tryd.func42, Tryd.ntmps42
  go_wp2
  obtain ⟨w3, p, q, r, e1, e2, e3, e4, h1, h2, h3, hpq, hpr, hqr, hE⟩ := box3 w (.cells #[.bool na, .slice aa la.length ca] 36) (.cells #[.bool nb, .slice ab lb.length cb] 36) (.cells #[.bool false, .slice none 0 0] 36)
  rw [e1, e2, e3, e4]
  have hge : ∀ k, k ∈ [r] → w.heap.size ≤ k := by simp; omega
  clear e1 e2 e3 e4
  have R1 := rulesB (rs := [r]) h1 (by simpa using hpr) 0 _ rfl
  have R2 := rulesB (rs := [r]) h1 (by simpa using hpr) 1 _ rfl
  have R3 := rulesB (rs := [r]) h2 (by simpa using hqr) 0 _ rfl
  have R4 := rulesB (rs := [r]) h2 (by simpa using hqr) 1 _ rfl
  obtain ⟨R5, F5⟩ := rulesR (rs := [r]) h3 (by simp) 0 (by decide)
  obtain ⟨R6, F6⟩ := rulesR (rs := [r]) h3 (by simp) 1 (by decide)
  have hbx : Box w3 r := Box.mk h3 rfl
  go_region_held3 (fun w' => But [r] w3 w') (exact buttI) (first | (go_at_call 61; refine (integer_times _ _ _ la lb (ua.ext (by exact exttI)) (ub.ext (by exact exttI)) da db (by omega) (by omega)).mono ?_; rintro e w4 ⟨g, rr, rfl, hg0, hg1, hown, hl, dr, hv, hE4⟩; have hl' := Lib.hid hl; clear hl; have hv' := Lib.hid hv; clear hv) | (go_at_call 53; refine (integer_signed _ _ _ rr ((hown.u32 dr.u32 (by have := hl'.out; omega)).ext (by exact exttI)) dr).mono ?_; rintro e w5 ⟨v', rfl, hI, hE5⟩; obtain ⟨nr, ar, lr, cr, rfl, ur, ddr, nnr, lnr, sr, vr, _⟩ := hI.shape; have vr' := Lib.hid vr; clear vr))
  go_wp2
  have hB : But [r] w3 w5 := by exact buttI
  exact bodyPost_ret (v := .agg #[.bool nr, .slice ar lr.length cr]) (by simp [results, Tryd.results42, R5 _ hB, R6 _ hB, go_sem]) rfl ⟨_, rfl, by
    rw [← sgn_mul, ← hv'.out]
    refine (((hI.mono ?_).but hB (by simp)).but (hB.set _ _ rfl (by simp)) (by simp)) |>.cast ?_
    · have := hl'.out; omega
    · cases na <;> cases nb <;> rfl, by exact exttI⟩
end Go.Proofs.YtechjiiijiipdaaDoor

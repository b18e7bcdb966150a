/- Walks: integer.Sub, word. -/
import Derived.Test.YtechjiiijiipdaaDoorW9
namespace Go.Proofs.YtechjiiijiipdaaDoor
open Go.RowKit
set_option linter.unusedSimpArgs false
set_option linter.unusedVariables false

theorem IsInt.flip {n : Nat} {w : World} {nb : Bool} {a : Option Addr} {l : List Nat} {c : Nat} {z : Int} (h : IsInt n w (.agg #[.bool nb, .slice a l.length c]) z) (b : Bool) (hb : b = (!nb && decide (0 < l.length))) (hu : U32s w (.slice a l.length c) l) (hd : Dig l) (hn : Norm l) (hl : l.length ≤ n) (hz : z = sgn nb (val l)) :
    IsInt n w (.agg #[.bool b, .slice a l.length c]) (-z) := by
  refine ⟨b, _, l, rfl, hu, hd, hn, hl, ?_, ?_⟩
  · rintro hbt rfl
    rw [hb] at hbt
    simp at hbt
  · subst hz
    rw [hb, ← sgn_neg]
    cases nb with
    | true => simp
    | false =>
      by_cases hl0 : l = []
      · subst hl0; simp [sgn, val]
      · have : 0 < l.length := List.length_pos_iff.2 hl0
        simp [this]
set_option maxRecDepth 100000 in
theorem integer_Sub (n m : Nat) (w : World) (va vb : Value) (a b : Int) (ha : IsInt n w va a) (hb : IsInt m w vb b) (hn : n < 400000) (hm : m < 400000) :
    Calls Tryd.prog 88 #[va, vb] w fun e w' => ∃ v, e = .returned v ∧ IsInt (max n m + 1) w' v (a - b) ∧ Ext w w' := by
  obtain ⟨na, aa, la, ca, rfl, ua, da, nna, lna, sa, qa, _⟩ := IsInt.shape ha; have ea := Lib.hid qa; clear qa
  obtain ⟨nb, ab, lb, cb, rfl, ub, db, nnb, lnb, sb, qb, _⟩ := IsInt.shape hb; have eb := Lib.hid qb; clear qb
  go_enter Tryd.func88, Tryd.ntmps88
  obtain ⟨s, hs⟩ : ∃ s, s = (!nb && decide (0 < lb.length)) := ⟨_, rfl⟩
  have hbn := hb.flip s hs ub db nnb lnb eb.out
  cases nb
  · by_cases hl : lb = []
    · subst hl
      subst hs
      go_wp2_with (first | fail)
      obtain ⟨w3, p, q, r, e1, e2, e3, e4, h1, h2, h3, hpq, hpr, hqr, hE⟩ := box3 w (.cells #[.bool na, .slice aa la.length ca] 36) (.cells #[.bool false, .slice ab 0 cb] 36) (.cells #[.bool false, .slice none 0 0] 36)
      rw [e1, e2, e3, e4]
      have hge : ∀ k, k ∈ [r] → w.heap.size ≤ k := by simp; omega
      clear e1 e2 e3 e4
      have hbxr : Box _ r := Box.mk h3 rfl
      obtain ⟨Rr0, Fr0⟩ := rulesR (rs := [r]) h3 (by simp) 0 (by simp)
      obtain ⟨Rr1, Fr1⟩ := rulesR (rs := [r]) h3 (by simp) 1 (by simp)
      (go_at_call 89; refine (integer_Add _ _ _ _ _ _ _ (ha.ext hE) (hbn.ext hE) (by omega) (by omega)).mono ?_; rintro e w5 ⟨vr, rfl, hr, hEr⟩; obtain ⟨nr, ar, lr, cr, rfl, ur, dr, nnr, lnr, sr, qr, _⟩ := IsInt.shape hr; have er := Lib.hid qr; clear qr)
      have hB : But [r] w3 w5 := by exact buttI
      have hBr0 := Rr0 _ hB
      have hBr1 := Rr1 _ hB
      have hFr0 := Fr0 _ hB
      have hFr1 := Fr1 _ hB
      go_wp2
      exact bodyPost_ret (v := .agg #[.bool nr, .slice ar lr.length cr]) (by simp [results, Tryd.results88, go_sem, hBr0, hBr1]) rfl ⟨_, rfl, IsInt.put (hr.cast (by rw [Int.sub_eq_add_neg])) hB (by simp) rfl, ((hB.set _ _ rfl (by simp)).set _ _ rfl (by simp)).old hE hge⟩
    · have h0 : 0 < (lb.length : Int) := by have := List.length_pos_iff.2 hl; omega
      obtain rfl : s = decide (0 < lb.length) := hs
      go_wp2_with (first | fail)
      obtain ⟨w3, p, q, r, e1, e2, e3, e4, h1, h2, h3, hpq, hpr, hqr, hE⟩ := box3 w (.cells #[.bool na, .slice aa la.length ca] 36) (.cells #[.bool (decide (0 < lb.length)), .slice ab lb.length cb] 36) (.cells #[.bool false, .slice none 0 0] 36)
      rw [e1, e2, e3, e4]
      have hge : ∀ k, k ∈ [r] → w.heap.size ≤ k := by simp; omega
      clear e1 e2 e3 e4
      have hbxr : Box _ r := Box.mk h3 rfl
      obtain ⟨Rr0, Fr0⟩ := rulesR (rs := [r]) h3 (by simp) 0 (by simp)
      obtain ⟨Rr1, Fr1⟩ := rulesR (rs := [r]) h3 (by simp) 1 (by simp)
      (go_at_call 89; refine (integer_Add _ _ _ _ _ _ _ (ha.ext hE) (hbn.ext hE) (by omega) (by omega)).mono ?_; rintro e w5 ⟨vr, rfl, hr, hEr⟩; obtain ⟨nr, ar, lr, cr, rfl, ur, dr, nnr, lnr, sr, qr, _⟩ := IsInt.shape hr; have er := Lib.hid qr; clear qr)
      have hB : But [r] w3 w5 := by exact buttI
      have hBr0 := Rr0 _ hB
      have hBr1 := Rr1 _ hB
      have hFr0 := Fr0 _ hB
      have hFr1 := Fr1 _ hB
      go_wp2
      exact bodyPost_ret (v := .agg #[.bool nr, .slice ar lr.length cr]) (by simp [results, Tryd.results88, go_sem, hBr0, hBr1]) rfl ⟨_, rfl, IsInt.put (hr.cast (by rw [Int.sub_eq_add_neg])) hB (by simp) rfl, ((hB.set _ _ rfl (by simp)).set _ _ rfl (by simp)).old hE hge⟩
  · obtain rfl : s = false := hs
    go_wp2_with (first | fail)
    obtain ⟨w3, p, q, r, e1, e2, e3, e4, h1, h2, h3, hpq, hpr, hqr, hE⟩ := box3 w (.cells #[.bool na, .slice aa la.length ca] 36) (.cells #[.bool false, .slice ab lb.length cb] 36) (.cells #[.bool false, .slice none 0 0] 36)
    rw [e1, e2, e3, e4]
    have hge : ∀ k, k ∈ [r] → w.heap.size ≤ k := by simp; omega
    clear e1 e2 e3 e4
    have hbxr : Box _ r := Box.mk h3 rfl
    obtain ⟨Rr0, Fr0⟩ := rulesR (rs := [r]) h3 (by simp) 0 (by simp)
    obtain ⟨Rr1, Fr1⟩ := rulesR (rs := [r]) h3 (by simp) 1 (by simp)
    (go_at_call 89; refine (integer_Add _ _ _ _ _ _ _ (ha.ext hE) (hbn.ext hE) (by omega) (by omega)).mono ?_; rintro e w5 ⟨vr, rfl, hr, hEr⟩; obtain ⟨nr, ar, lr, cr, rfl, ur, dr, nnr, lnr, sr, qr, _⟩ := IsInt.shape hr; have er := Lib.hid qr; clear qr)
    have hB : But [r] w3 w5 := by exact buttI
    have hBr0 := Rr0 _ hB
    have hBr1 := Rr1 _ hB
    have hFr0 := Fr0 _ hB
    have hFr1 := Fr1 _ hB
    go_wp2
    exact bodyPost_ret (v := .agg #[.bool nr, .slice ar lr.length cr]) (by simp [results, Tryd.results88, go_sem, hBr0, hBr1]) rfl ⟨_, rfl, IsInt.put (hr.cast (by rw [Int.sub_eq_add_neg])) hB (by simp) rfl, ((hB.set _ _ rfl (by simp)).set _ _ rfl (by simp)).old hE hge⟩
end Go.Proofs.YtechjiiijiipdaaDoor

/- What stands behind # does not matter. -/
import Derived.Test.YtechjiiijiipdaaDoorW23
namespace Go.Proofs.YtechjiiijiipdaaDoor
theorem peek_pre {s c d : List UInt8} {k : Nat} (h : k ≤ s.length) : peekF (s ++ 35 :: c) k = peekF (s ++ 35 :: d) k := by
  unfold peekF
  rcases Nat.lt_or_ge k s.length with h1 | h1
  · simp only [List.getD_eq_getElem?_getD, List.getElem?_append_left h1]
  · obtain rfl : k = s.length := by omega
    simp [List.getD_eq_getElem?_getD]
theorem peek_hash {s c : List UInt8} : peekF (s ++ 35 :: c) s.length = 35 := by
  unfold peekF; simp [List.getD_eq_getElem?_getD]
theorem run_pre {p : UInt8 → Bool} (hp : p 35 = false) (s c d : List UInt8) : ∀ (n k : Nat), s.length - k = n → k ≤ s.length → runF p (s ++ 35 :: c) k = runF p (s ++ 35 :: d) k ∧ runF p (s ++ 35 :: c) k ≤ s.length
  | 0, k, hn, h => by
    obtain rfl : k = s.length := by omega
    have e1 : runF p (s ++ 35 :: c) s.length = s.length := runF_stop (.inr (by rw [peek_hash]; exact hp))
    have e2 : runF p (s ++ 35 :: d) s.length = s.length := runF_stop (.inr (by rw [peek_hash]; exact hp))
    rw [e1, e2]; exact ⟨rfl, Nat.le_refl _⟩
  | n + 1, k, hn, h => by
    obtain ⟨ih1, ih2⟩ := run_pre hp s c d n (k + 1) (by omega) (by omega)
    cases hk : p (peekF (s ++ 35 :: c) k) with
    | true =>
      rw [runF_go (by simp; omega) hk, runF_go (l := s ++ 35 :: d) (by simp; omega) (by rw [← peek_pre h]; exact hk)]
      exact ⟨ih1, ih2⟩
    | false =>
      rw [runF_stop (.inr hk), runF_stop (l := s ++ 35 :: d) (.inr (by rw [← peek_pre h]; exact hk))]
      exact ⟨rfl, h⟩
theorem lt_of_peek {s c : List UInt8} {k : Nat} (h : k ≤ s.length) (hp : peekF (s ++ 35 :: c) k ≠ 35) : k < s.length := by
  rcases Nat.lt_or_ge k s.length with h1 | h1
  · exact h1
  · obtain rfl : k = s.length := by omega
    exact absurd peek_hash hp
theorem num_pre (s c d : List UInt8) {k : Nat} (h : k ≤ s.length) : numF (s ++ 35 :: c) k = numF (s ++ 35 :: d) k ∧ numF (s ++ 35 :: c) k ≤ s.length := by
  have hA : numA (s ++ 35 :: c) k = numA (s ++ 35 :: d) k ∧ numA (s ++ 35 :: c) k ≤ s.length := by
    unfold numA
    rw [peek_pre (d := d) h]
    by_cases h45 : peekF (s ++ 35 :: d) k = 45
    · rw [if_pos h45]
      have := lt_of_peek h (by rw [h45]; decide)
      exact run_pre (by decide) s c d _ _ rfl (by omega)
    · rw [if_neg h45]
      exact run_pre (by decide) s c d _ _ rfl h
  unfold numF
  rw [hA.1]
  have hA2 := hA.2
  rw [hA.1] at hA2
  rw [peek_pre (d := d) hA2]
  by_cases h46 : peekF (s ++ 35 :: d) (numA (s ++ 35 :: d) k) = 46
  · have := lt_of_peek hA2 (by rw [h46]; decide)
    rw [peek_pre (d := d) (k := numA (s ++ 35 :: d) k + 1) (by omega)]
    by_cases hd : digitB (peekF (s ++ 35 :: d) (numA (s ++ 35 :: d) k + 1)) = true
    · rw [if_pos ⟨h46, hd⟩, if_pos ⟨h46, hd⟩]
      exact run_pre (by decide) s c d _ _ rfl (by omega)
    · rw [if_neg (fun h => hd h.2), if_neg (fun h => hd h.2)]
      exact ⟨rfl, hA2⟩
  · rw [if_neg (fun h => h46 h.1), if_neg (fun h => h46 h.1)]
    exact ⟨rfl, hA2⟩
theorem cut_pre (s c d : List UInt8) {a b : Nat} (h : b ≤ s.length) : cutF (s ++ 35 :: c) a b = cutF (s ++ 35 :: d) a b := by
  unfold cutF
  rw [List.take_append_of_le_length h, List.take_append_of_le_length h]
theorem step_pre (s c d : List UInt8) {k : Nat} (h : k ≤ s.length) : stepF (s ++ 35 :: c) k = stepF (s ++ 35 :: d) k ∧ ∀ n, (stepF (s ++ 35 :: c) k = .skip n ∨ ∃ t, stepF (s ++ 35 :: c) k = .tok t n) → n ≤ s.length ∧ cutF (s ++ 35 :: c) k n = cutF (s ++ 35 :: d) k n := by
  have hp := peek_pre (c := c) (d := d) h
  by_cases h35 : peekF (s ++ 35 :: d) k = 35
  · have e1 : stepF (s ++ 35 :: c) k = .stop := by unfold stepF; rw [if_pos (.inr (by rw [hp]; exact h35))]
    have e2 : stepF (s ++ 35 :: d) k = .stop := by unfold stepF; rw [if_pos (.inr h35)]
    rw [e1, e2]
    exact ⟨rfl, fun n hn => by simp at hn⟩
  have hk := lt_of_peek h h35
  obtain ⟨hr1, hr2⟩ := run_pre (p := nameB) (by decide) s c d _ k rfl h
  obtain ⟨hn1, hn2⟩ := num_pre s c d h
  have hp1 := peek_pre (c := c) (d := d) (k := k + 1) (s := s) (by omega)
  have hpn := peek_pre (c := c) (d := d) hn2
  have hcn := cut_pre s c d (a := k) hn2
  rw [hn1] at hpn hcn hn2
  rw [hr1] at hr2
  have e : stepF (s ++ 35 :: c) k = stepF (s ++ 35 :: d) k := by
    unfold stepF
    rw [hp, hr1, hn1, hp1, hpn, hcn]
    have l1 : ¬ (s ++ 35 :: c).length ≤ k := by simp; omega
    have l2 : ¬ (s ++ 35 :: d).length ≤ k := by simp; omega
    simp only [l1, l2, false_or]
  refine ⟨e, fun n hn => ?_⟩
  have hle : n ≤ s.length := by
    rw [e] at hn
    unfold stepF at hn
    rw [if_neg (by rintro (h | h); simp at h; omega; exact h35 h)] at hn
    by_cases h2 : peekF (s ++ 35 :: d) k = 32
    · rw [if_pos h2] at hn; simp at hn; omega
    rw [if_neg h2] at hn
    by_cases h3 : letterB (peekF (s ++ 35 :: d) k) = true
    · rw [if_pos h3] at hn
      by_cases h4 : 24 < runF nameB (s ++ 35 :: d) k - k
      · rw [if_pos h4] at hn; simp at hn
      · rw [if_neg h4] at hn; simp at hn; omega
    rw [if_neg h3] at hn
    by_cases h4 : (digitB (peekF (s ++ 35 :: d) k) || (decide (peekF (s ++ 35 :: d) k = 45) && digitB (peekF (s ++ 35 :: d) (k + 1)))) = true
    · rw [if_pos h4] at hn
      by_cases h7 : isDec (cutF (s ++ 35 :: d) k (numF (s ++ 35 :: d) k)) = false
      · rw [if_pos h7] at hn; simp at hn
      rw [if_neg h7] at hn
      by_cases h8 : (letterB (peekF (s ++ 35 :: d) (numF (s ++ 35 :: d) k)) || decide (peekF (s ++ 35 :: d) (numF (s ++ 35 :: d) k) = 95) || decide (peekF (s ++ 35 :: d) (numF (s ++ 35 :: d) k) = 46)) = true
      · rw [if_pos h8] at hn; simp at hn
      · rw [if_neg h8] at hn; simp at hn; omega
    rw [if_neg h4] at hn
    by_cases h5 : symB (peekF (s ++ 35 :: d) k) = true
    · rw [if_pos h5] at hn; simp at hn; omega
    · rw [if_neg h5] at hn; simp at hn
  exact ⟨hle, cut_pre s c d hle⟩
theorem lex_pre (s c d : List UInt8) : ∀ (f g k : Nat) (out : List Tok), k ≤ s.length → s.length < k + f → s.length < k + g → lexF (s ++ 35 :: c) f k out = lexF (s ++ 35 :: d) g k out
  | 0, _, k, _, h1, h2, _ => by omega
  | _ + 1, 0, k, _, h1, _, h3 => by omega
  | f + 1, g + 1, k, out, h1, h2, h3 => by
    obtain ⟨e, hn⟩ := step_pre s c d h1
    simp only [lexF]
    rw [← e]
    cases hs : stepF (s ++ 35 :: c) k with
    | stop => rfl
    | fail p q => rfl
    | skip n =>
      have h4 := (stepF_next (.inl hs)).1
      have h5 := (hn n (.inl hs)).1
      exact lex_pre s c d f g n out h5 (by omega) (by omega)
    | tok t n =>
      have h4 := (stepF_next (.inr ⟨t, hs⟩)).1
      obtain ⟨h5, h6⟩ := hn n (.inr ⟨t, hs⟩)
      simp only [h6]
      exact lex_pre s c d f g n _ h5 (by omega) (by omega)
theorem tok_comment (s c : List UInt8) (h : s.length + 1 + c.length ≤ 65536) : tokF (s ++ 35 :: c) = tokF (s ++ [35]) := by
  unfold tokF
  rw [if_neg (by simp; omega), if_neg (by simp; omega)]
  exact lex_pre s c [] _ _ 0 [] (by omega) (by simp; omega) (by simp; omega)
end Go.Proofs.YtechjiiijiipdaaDoor

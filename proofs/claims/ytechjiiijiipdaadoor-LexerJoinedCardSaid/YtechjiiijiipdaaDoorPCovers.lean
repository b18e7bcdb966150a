/- The tokens of a line stand in it, with spaces between them. -/
import Derived.Test.YtechjiiijiipdaaDoorW23
namespace Go.Proofs.YtechjiiijiipdaaDoor
theorem stepF_cases {l : List UInt8} {k : Nat} : (stepF l k = .stop ∧ (l.length ≤ k ∨ peekF l k = 35)) ∨ (stepF l k = .skip (k + 1) ∧ peekF l k = 32 ∧ k < l.length) ∨ (∃ p e, stepF l k = .fail p e ∧ e ≠ 0) ∨ ∃ t n, stepF l k = .tok t n ∧ k < n ∧ n ≤ l.length := by
  have hn := fun n => @stepF_next l k n
  generalize hs : stepF l k = s at *
  unfold stepF at hs
  by_cases h1 : l.length ≤ k ∨ peekF l k = 35
  · rw [if_pos h1] at hs; exact .inl ⟨hs.symm, h1⟩
  rw [if_neg h1] at hs
  have hk : k < l.length := by omega
  by_cases h2 : peekF l k = 32
  · rw [if_pos h2] at hs; exact .inr (.inl ⟨hs.symm, h2, hk⟩)
  rw [if_neg h2] at hs
  have tokc : ∀ t n, s = .tok t n → (∃ p e, s = .fail p e ∧ e ≠ 0) ∨ ∃ t n, s = .tok t n ∧ k < n ∧ n ≤ l.length := fun t n h => .inr ⟨t, n, h, hn n (.inr ⟨t, h⟩)⟩
  have failc : ∀ p e, e ≠ 0 → s = .fail p e → (∃ p e, s = .fail p e ∧ e ≠ 0) ∨ ∃ t n, s = .tok t n ∧ k < n ∧ n ≤ l.length := fun p e h0 h => .inl ⟨p, e, h, h0⟩
  refine .inr (.inr ?_)
  by_cases h3 : letterB (peekF l k) = true
  · rw [if_pos h3] at hs
    by_cases h4 : 24 < runF nameB l k - k
    · rw [if_pos h4] at hs; exact failc _ _ (by omega) hs.symm
    · rw [if_neg h4] at hs; exact tokc _ _ hs.symm
  rw [if_neg h3] at hs
  by_cases h4 : (digitB (peekF l k) || (decide (peekF l k = 45) && digitB (peekF l (k + 1)))) = true
  · rw [if_pos h4] at hs
    by_cases h7 : isDec (cutF l k (numF l k)) = false
    · rw [if_pos h7] at hs; exact failc _ _ (by omega) hs.symm
    rw [if_neg h7] at hs
    by_cases h8 : (letterB (peekF l (numF l k)) || decide (peekF l (numF l k) = 95) || decide (peekF l (numF l k) = 46)) = true
    · rw [if_pos h8] at hs; exact failc _ _ (by omega) hs.symm
    · rw [if_neg h8] at hs; exact tokc _ _ hs.symm
  rw [if_neg h4] at hs
  by_cases h5 : symB (peekF l k) = true
  · rw [if_pos h5] at hs; exact tokc _ _ hs.symm
  · rw [if_neg h5] at hs; exact failc _ _ (by omega) hs.symm
/-- From a on: the tokens ts, spaces alone between them, and spaces behind them up to the end or a #. -/
def Cov (l : List UInt8) : Nat → List Tok → Prop
  | a, [] => ∃ j, a ≤ j ∧ j ≤ l.length ∧ (∀ i, a ≤ i → i < j → peekF l i = 32) ∧ (j = l.length ∨ peekF l j = 35)
  | a, t :: ts => a ≤ t.pos ∧ t.pos + t.text.length ≤ l.length ∧ 0 < t.text.length ∧ cutF l t.pos (t.pos + t.text.length) = t.text ∧ (∀ i, a ≤ i → i < t.pos → peekF l i = 32) ∧ Cov l (t.pos + t.text.length) ts
theorem cut_len {l : List UInt8} {a b : Nat} (h1 : a ≤ b) (h2 : b ≤ l.length) : (cutF l a b).length = b - a := by
  unfold cutF; simp; omega
theorem lex_cov {l : List UInt8} : ∀ (f k a : Nat) (out : List Tok), l.length < k + f → k ≤ l.length → a ≤ k → (∀ i, a ≤ i → i < k → peekF l i = 32) →
    ((lexF l f k out).2.2 = 0 → ∃ new, (lexF l f k out).1 = out ++ new ∧ Cov l a new) ∧ ((lexF l f k out).2.2 ≠ 0 → (lexF l f k out).1 = [])
  | 0, k, a, out, h1, h2, _, _ => by omega
  | f + 1, k, a, out, h1, h2, h3, h4 => by
    simp only [lexF]
    rcases stepF_cases (l := l) (k := k) with ⟨e, hs⟩ | ⟨e, hs, hk⟩ | ⟨p, er, e, he⟩ | ⟨t, n, e, hn1, hn2⟩
    · rw [e]
      refine ⟨fun _ => ⟨[], by simp, k, h3, h2, h4, ?_⟩, fun h => absurd rfl h⟩
      rcases hs with hs | hs
      · exact .inl (by omega)
      · exact .inr hs
    · rw [e]
      refine lex_cov f (k + 1) a out (by omega) (by omega) (by omega) (fun i h5 h6 => ?_)
      by_cases hik : i = k
      · rw [hik]; exact hs
      · exact h4 i h5 (by omega)
    · rw [e]
      exact ⟨fun h => absurd h he, fun _ => rfl⟩
    · rw [e]
      have hcl := cut_len (l := l) (a := k) (b := n) (by omega) hn2
      obtain ⟨i1, i2⟩ := lex_cov f n n (out ++ [⟨t, k, cutF l k n⟩]) (by omega) hn2 (Nat.le_refl _) (fun i h5 h6 => by omega)
      refine ⟨fun h0 => ?_, i2⟩
      obtain ⟨new, e1, e2⟩ := i1 h0
      refine ⟨⟨t, k, cutF l k n⟩ :: new, by rw [e1]; simp, h3, ?_, ?_, ?_, h4, ?_⟩
      · show k + (cutF l k n).length ≤ l.length; omega
      · show 0 < (cutF l k n).length; omega
      · show cutF l k (k + (cutF l k n).length) = cutF l k n
        rw [show k + (cutF l k n).length = n by omega]
      · show Cov l (k + (cutF l k n).length) new
        rw [show k + (cutF l k n).length = n by omega]; exact e2
theorem tok_cov {l : List UInt8} (h : l.length ≤ 65536) : ((tokF l).2.2 = 0 → Cov l 0 (tokF l).1) ∧ ((tokF l).2.2 ≠ 0 → (tokF l).1 = []) := by
  unfold tokF
  rw [if_neg (by omega)]
  obtain ⟨h1, h2⟩ := lex_cov (l := l) (l.length + 1) 0 0 [] (by omega) (by omega) (Nat.le_refl _) (fun i _ h => by omega)
  refine ⟨fun h0 => ?_, h2⟩
  obtain ⟨new, e, hc⟩ := h1 h0
  rw [e]; exact hc
end Go.Proofs.YtechjiiijiipdaaDoor

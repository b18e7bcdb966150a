/- Names: what the lexer makes of them. -/
import Derived.Test.YtechjiiijiipdaaDoorW23
namespace Go.Proofs.YtechjiiijiipdaaDoor
def isNameB (l : List UInt8) : Bool := !l.isEmpty && decide (l.length ≤ 24) && letterB (peekF l 0) && decide (runF nameB l 0 = l.length)
theorem cut_all (l : List UInt8) : cutF l 0 l.length = l := by unfold cutF; simp
theorem tok_name {l : List UInt8} (h : isNameB l = true) : tokF l = ([⟨1, 0, l⟩], 0, 0) := by
  unfold isNameB at h
  simp only [Bool.and_eq_true, decide_eq_true_eq] at h
  obtain ⟨⟨⟨h0, h1⟩, h2⟩, h3⟩ := h
  have hp : 0 < l.length := by cases l with | nil => simp at h0 | cons _ _ => simp
  have n35 : peekF l 0 ≠ 35 := by intro e; rw [e] at h2; revert h2; decide
  have n32 : peekF l 0 ≠ 32 := by intro e; rw [e] at h2; revert h2; decide
  have s1 : stepF l 0 = .tok 1 l.length := by
    unfold stepF
    rw [if_neg (by rintro (h | h); omega; exact n35 h), if_neg n32, if_pos h2, h3, if_neg (by omega)]
  have s2 : stepF l l.length = .stop := by unfold stepF; rw [if_pos (.inl (Nat.le_refl _))]
  unfold tokF
  rw [if_neg (by omega)]
  obtain ⟨m, hm⟩ : ∃ m, l.length = m + 1 := ⟨l.length - 1, by omega⟩
  rw [lexF, s1, hm]
  simp only [List.nil_append]
  rw [lexF, ← hm, s2]
  simp only [cut_all]
end Go.Proofs.YtechjiiijiipdaaDoor

/- The lexer's words: bytes, runs of bytes, numbers, tokens. -/
import Derived.Test.YtechjiiijiipdaaDoorW20
namespace Go.Proofs.YtechjiiijiipdaaDoor

def letterB (c : UInt8) : Bool := (decide (97 ≤ c.toNat) && decide (c.toNat ≤ 122)) || (decide (65 ≤ c.toNat) && decide (c.toNat ≤ 90))
def digitB (c : UInt8) : Bool := decide (48 ≤ c.toNat) && decide (c.toNat ≤ 57)
def nameB (c : UInt8) : Bool := letterB c || digitB c || decide (c.toNat = 95) || decide (c.toNat = 45)
def symB (c : UInt8) : Bool := [61, 44, 59, 58, 40, 41].contains c
/-- The offset behind the bytes of a class from 'at' on. -/
def runF (p : UInt8 → Bool) (l : List UInt8) (k : Nat) : Nat := k + ((l.drop k).takeWhile p).length
def peekF (l : List UInt8) (k : Nat) : UInt8 := l.getD k 0
/-- The offset behind a number. -/
def numA (l : List UInt8) (k : Nat) : Nat := runF digitB l (if peekF l k = 45 then k + 1 else k)
def numF (l : List UInt8) (k : Nat) : Nat :=
  if peekF l (numA l k) = 46 ∧ digitB (peekF l (numA l k + 1)) = true then runF digitB l (numA l k + 1) else numA l k
/-- The bytes from a to b. -/
def cutF (l : List UInt8) (a b : Nat) : List UInt8 := (l.take b).drop a
/-- What stands at an offset. -/
inductive Step where
  | stop
  | fail (pos err : Nat)
  | skip (next : Nat)
  | tok (kind : Int) (next : Nat)
def stepF (l : List UInt8) (k : Nat) : Step :=
  if l.length ≤ k ∨ peekF l k = 35 then .stop
  else if peekF l k = 32 then .skip (k + 1)
  else if letterB (peekF l k) = true then (if 24 < runF nameB l k - k then .fail k 3 else .tok 1 (runF nameB l k))
  else if (digitB (peekF l k) || (decide (peekF l k = 45) && digitB (peekF l (k + 1)))) = true then
    (if isDec (cutF l k (numF l k)) = false then .fail k 2
     else if (letterB (peekF l (numF l k)) || decide (peekF l (numF l k) = 95) || decide (peekF l (numF l k) = 46)) = true then .fail (numF l k) 2 else .tok 2 (numF l k))
  else if symB (peekF l k) = true then .tok 3 (k + 1) else .fail k 2
/-- A token. -/
structure Tok where
  kind : Int
  pos : Nat
  text : List UInt8
deriving DecidableEq
/-- The tokens from an offset on, behind those that were found; the place and the error. -/
def lexF (l : List UInt8) : Nat → Nat → List Tok → List Tok × Nat × Nat
  | 0, _, out => (out, 0, 0)
  | f + 1, k, out => match stepF l k with
    | .stop => (out, 0, 0)
    | .fail p e => ([], p, e)
    | .skip n => lexF l f n out
    | .tok t n => lexF l f n (out ++ [⟨t, k, cutF l k n⟩])
def tokF (l : List UInt8) : List Tok × Nat × Nat := if 65536 < l.length then ([], 0, 3) else lexF l (l.length + 1) 0 []

theorem runF_ge (p : UInt8 → Bool) (l : List UInt8) (k : Nat) : k ≤ runF p l k := by unfold runF; omega
theorem runF_le {p : UInt8 → Bool} {l : List UInt8} {k : Nat} (h : k ≤ l.length) : runF p l k ≤ l.length := by
  unfold runF
  have := (List.takeWhile_prefix (l := l.drop k) p).length_le
  simp only [List.length_drop] at this
  omega
theorem peekF_len {l : List UInt8} {k : Nat} (h : l.length ≤ k) : peekF l k = 0 := by
  unfold peekF; rw [List.getD_eq_getElem?_getD, List.getElem?_eq_none h]; rfl
theorem drop_peek {l : List UInt8} {k : Nat} (h : k < l.length) : l.drop k = peekF l k :: l.drop (k + 1) := by
  rw [List.drop_eq_getElem_cons h]; simp [peekF, h]
theorem runF_go {p : UInt8 → Bool} {l : List UInt8} {k : Nat} (h : k < l.length) (hp : p (peekF l k) = true) : runF p l k = runF p l (k + 1) := by
  unfold runF
  rw [drop_peek h, List.takeWhile_cons, hp]
  simp; omega
theorem runF_stop {p : UInt8 → Bool} {l : List UInt8} {k : Nat} (h : l.length ≤ k ∨ p (peekF l k) = false) : runF p l k = k := by
  unfold runF
  rcases Nat.lt_or_ge k l.length with h1 | h1
  · rcases h with h | h
    · omega
    · rw [drop_peek h1, List.takeWhile_cons, h]; simp
  · rw [List.drop_of_length_le h1]; simp
theorem peekF_ne {l : List UInt8} {k : Nat} (h : peekF l k ≠ 0) : k < l.length := by
  rcases Nat.lt_or_ge k l.length with h1 | h1
  · exact h1
  · exact absurd (peekF_len h1) h
theorem digitB_ne {c : UInt8} (h : digitB c = true) : c ≠ 0 := by rintro rfl; revert h; decide
theorem letterB_ne {c : UInt8} (h : letterB c = true) : c ≠ 0 := by rintro rfl; revert h; decide
theorem numA_le {l : List UInt8} {k : Nat} (h : k < l.length) : numA l k ≤ l.length := by
  unfold numA
  refine runF_le ?_
  split <;> omega
theorem numF_le {l : List UInt8} {k : Nat} (h : k < l.length) : numF l k ≤ l.length := by
  unfold numF
  by_cases h1 : peekF l (numA l k) = 46 ∧ digitB (peekF l (numA l k + 1)) = true
  · rw [if_pos h1]
    exact runF_le (by have := peekF_ne (digitB_ne h1.2); omega)
  · rw [if_neg h1]; exact numA_le h
theorem numA_gt {l : List UInt8} {k : Nat} (h : (digitB (peekF l k) || (decide (peekF l k = 45) && digitB (peekF l (k + 1)))) = true) : k < numA l k := by
  unfold numA
  by_cases h45 : peekF l k = 45
  · rw [if_pos h45]; exact runF_ge _ _ _
  · rw [if_neg h45]
    have hd : digitB (peekF l k) = true := by simpa [h45] using h
    rw [runF_go (peekF_ne (digitB_ne hd)) hd]
    exact runF_ge _ _ _
theorem numF_gt {l : List UInt8} {k : Nat} (h : (digitB (peekF l k) || (decide (peekF l k = 45) && digitB (peekF l (k + 1)))) = true) : k < numF l k := by
  have hk := numA_gt h
  unfold numF
  by_cases h1 : peekF l (numA l k) = 46 ∧ digitB (peekF l (numA l k + 1)) = true
  · rw [if_pos h1]
    have := runF_ge digitB l (numA l k + 1)
    omega
  · rw [if_neg h1]; exact hk
/-- A step goes on, within the line. -/
theorem stepF_next {l : List UInt8} {k n : Nat} : (stepF l k = .skip n ∨ ∃ t, stepF l k = .tok t n) → k < n ∧ n ≤ l.length := by
  unfold stepF
  intro h
  by_cases h1 : l.length ≤ k ∨ peekF l k = 35
  · rw [if_pos h1] at h; simp at h
  rw [if_neg h1] at h
  have hk : k < l.length := by omega
  by_cases h2 : peekF l k = 32
  · rw [if_pos h2] at h; simp at h; omega
  rw [if_neg h2] at h
  by_cases h3 : letterB (peekF l k) = true
  · rw [if_pos h3] at h
    by_cases h4 : 24 < runF nameB l k - k
    · rw [if_pos h4] at h; simp at h
    · rw [if_neg h4] at h
      have hn : nameB (peekF l k) = true := by simp [nameB, h3]
      have h5 := runF_go hk hn
      have h6 := runF_ge nameB l (k + 1)
      have h7 := runF_le (p := nameB) (l := l) (k := k) (by omega)
      simp at h
      omega
  rw [if_neg h3] at h
  by_cases h4 : (digitB (peekF l k) || (decide (peekF l k = 45) && digitB (peekF l (k + 1)))) = true
  · rw [if_pos h4] at h
    have h5 := numF_gt h4
    have h6 := numF_le hk
    by_cases h7 : isDec (cutF l k (numF l k)) = false
    · rw [if_pos h7] at h; simp at h
    rw [if_neg h7] at h
    by_cases h8 : (letterB (peekF l (numF l k)) || decide (peekF l (numF l k) = 95) || decide (peekF l (numF l k) = 46)) = true
    · rw [if_pos h8] at h; simp at h
    · rw [if_neg h8] at h; simp at h; omega
  rw [if_neg h4] at h
  by_cases h5 : symB (peekF l k) = true
  · rw [if_pos h5] at h; simp at h; omega
  · rw [if_neg h5] at h; simp at h
end Go.Proofs.YtechjiiijiipdaaDoor

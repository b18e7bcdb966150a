/- Contracts for functions of package strings: CutPrefix, Cut at a dot, Trim of digits, TrimLeft of zeros. -/
import Derived.Test.YtechjiiijiipdaaDoorBase
import Derived.Test.YtechjiiijiipdaaDoorShelf
import Derived.Lib.Strings
import Derived.Lib.Slices
import Derived.Lib.Walk
namespace Go.Proofs.YtechjiiijiipdaaDoor
open Go.RowKit
set_option linter.unusedSimpArgs false
set_option linter.unusedVariables false

set_option maxHeartbeats 1000000 in
theorem strings_CutPrefix (s p : ByteArray) (w : World) :
    Calls Tryd.prog 49 #[.string s, .string p] w fun e w' => e = .returned (.tuple #[.string ⟨(Lib.trimPrefix s.data.toList p.data.toList).toArray⟩, .bool (Lib.hasPrefix s.data.toList p.data.toList)]) ∧ w = w' := by
  go_enter Tryd.func49, Tryd.ntmps49
  go_wp2
  · have h2 : (!((s.extract 0 p.size).toList == p.toList)) = true := by assumption
    have h3 : (decide (p.size ≤ s.size) && ((s.extract 0 p.size).toList == p.toList)) = false := by
      have : ((s.extract 0 p.size).toList == p.toList) = false := by simpa using h2
      rw [this]
      simp
    go_ret2
    refine ⟨?_, rfl⟩
    rw [Lib.trimPrefix_miss s p h3, ← Lib.hasPrefix_raw, h3]
    rfl
  · have h1 : p.size ≤ s.size := by assumption
    have h2 : (!((s.extract 0 p.size).toList == p.toList)) = false := by assumption
    have h2' : ((s.extract 0 p.size).toList == p.toList) = true := by simpa using h2
    go_ret2
    refine ⟨?_, rfl⟩
    rw [Lib.trimPrefix_hit s p h1 h2', ← Lib.hasPrefix_raw, h2', decide_eq_true h1]
    rfl
  · have h1 : ¬ p.size ≤ s.size := by assumption
    have h3 : (decide (p.size ≤ s.size) && ((s.extract 0 p.size).toList == p.toList)) = false := by simp [h1]
    go_ret2
    refine ⟨?_, rfl⟩
    rw [Lib.trimPrefix_miss s p h3, ← Lib.hasPrefix_raw, h3]
    rfl

/-- A minus sign ahead of a text. -/
def sig (neg : Bool) (l : List UInt8) : List UInt8 := if neg then 45 :: l else l
theorem cutPrefix_sig (s : ByteArray) (neg : Bool) (l : List UInt8) (hs : s.data.toList = sig neg l) (h : l.head? ≠ some 45) (w : World) :
    Calls Tryd.prog 49 #[.string s, .string ⟨#[45]⟩] w fun e w' => e = .returned (.tuple #[.string ⟨l.toArray⟩, .bool neg]) ∧ w = w' := by
  refine (strings_CutPrefix s ⟨#[45]⟩ w).mono ?_
  rintro e w' ⟨rfl, rfl⟩
  refine ⟨?_, rfl⟩
  rw [hs]
  cases neg with
  | true => simp [sig, Lib.trimPrefix, Lib.hasPrefix]
  | false =>
    cases l with
    | nil => simp [sig, Lib.trimPrefix, Lib.hasPrefix]
    | cons c l =>
      have hc : c ≠ 45 := by simpa using h
      have hc' : (45 : UInt8) ≠ c := Ne.symm hc
      simp [sig, Lib.trimPrefix, Lib.hasPrefix, List.isPrefixOf, hc']

/-- A text without its minus sign; whether it has one. -/
def bodyOf : List UInt8 → List UInt8
  | 45 :: l => l
  | l => l
def isNeg (l : List UInt8) : Bool := l.head? == some 45
theorem cutPrefix_any (s : ByteArray) (w : World) :
    Calls Tryd.prog 49 #[.string s, .string ⟨#[45]⟩] w fun e w' => e = .returned (.tuple #[.string ⟨(bodyOf s.data.toList).toArray⟩, .bool (isNeg s.data.toList)]) ∧ w = w' := by
  refine (strings_CutPrefix s ⟨#[45]⟩ w).mono ?_
  rintro e w' ⟨rfl, rfl⟩
  refine ⟨?_, rfl⟩
  generalize s.data.toList = l
  cases l with
  | nil => rfl
  | cons c l =>
    by_cases hc : c = 45
    · subst hc; simp [Lib.trimPrefix, Lib.hasPrefix, bodyOf, isNeg]
    · have e1 : bodyOf (c :: l) = c :: l := by unfold bodyOf; split <;> simp_all
      have e2 : isNeg (c :: l) = false := by simp [isNeg, hc]
      have hc' : (45 : UInt8) ≠ c := Ne.symm hc
      rw [e1, e2]
      simp [Lib.trimPrefix, Lib.hasPrefix, List.isPrefixOf, hc']

/-- The parts around the first dot; whether there is one. -/
def whole (l : List UInt8) : List UInt8 := l.takeWhile (· != 46)
def frac (l : List UInt8) : List UInt8 := (l.dropWhile (· != 46)).drop 1
def dotted (l : List UInt8) : Bool := l.contains 46
theorem index_dot : ∀ (l : List UInt8), (Lib.indexByte l 46 = -1 ∧ whole l = l ∧ frac l = [] ∧ dotted l = false) ∨
    (∃ o : Nat, o < l.length ∧ Lib.indexByte l 46 = o ∧ whole l = l.take o ∧ frac l = l.drop (o + 1) ∧ dotted l = true)
  | [] => .inl ⟨rfl, rfl, rfl, rfl⟩
  | c :: l => by
    by_cases hc : c = 46
    · subst hc
      exact .inr ⟨0, by simp, by simp [Lib.indexByte], by simp [whole], by simp [frac], by simp [dotted]⟩
    · rcases index_dot l with ⟨h1, h2, h3, h4⟩ | ⟨o, h0, h1, h2, h3, h4⟩
      · refine .inl ⟨by simp [Lib.indexByte, hc, h1], ?_, ?_, ?_⟩
        · simp only [whole] at *; simp [hc, h2]
        · simp only [frac] at *; simp [List.dropWhile_cons, hc]; simpa using h3
        · simp only [dotted] at *; simp only [List.contains_cons, h4]; simp; exact fun h => hc h.symm
      · refine .inr ⟨o + 1, by simp; omega, ?_, ?_, ?_, ?_⟩
        · have : ¬ ((o : Int) = -1) := by omega
          simp [Lib.indexByte, hc, h1, this]
        · simp only [whole] at *; simp [hc, h2]
        · simp only [frac] at *; simp [List.dropWhile_cons, hc, h3]
        · simp only [dotted] at *; simp only [List.contains_cons, h4, Bool.or_true]

set_option maxRecDepth 100000 in
set_option maxHeartbeats 1000000 in
theorem strings_Index_dot (s : ByteArray) (w : World) :
    Calls Tryd.prog 77 #[.string s, .string ⟨#[46]⟩] w fun e w' => e = .returned (.int .i64 (Lib.indexByte s.data.toList 46)) ∧ w = w' := by
  go_enter Tryd.func77, Tryd.ntmps77
  go_wp2_with (first | (go_at_call 39; refine (Tryd.stringslite_IndexByte _ _ _).mono ?_; rintro e w' ⟨rfl, rfl⟩))
  all_goals go_ret
  all_goals first
    | exact ⟨rfl, rfl⟩
    | (have h1 : ([46] == s.toList) = true := by assumption
       have h2 : s.data.toList = [46] := by rw [← Lib.toList_data]; simpa using (eq_of_beq h1).symm
       exact ⟨by rw [h2]; rfl, rfl⟩)

set_option maxRecDepth 100000 in
set_option maxHeartbeats 1000000 in
theorem lite_Cut_dot (s : ByteArray) (w : World) (hs : s.size ≤ 4000000000) :
    Calls Tryd.prog 66 #[.string s, .string ⟨#[46]⟩] w fun e w' => e = .returned (.tuple #[.string ⟨(whole s.data.toList).toArray⟩, .string ⟨(frac s.data.toList).toArray⟩, .bool (dotted s.data.toList)]) ∧ Drawn w w' := by
  have hsz := Lib.size_eq s
  rcases index_dot s.data.toList with ⟨h1, h2, h3, h4⟩ | ⟨o, h0, h1, h2, h3, h4⟩
  · rw [h2, h3, h4]
    have H := Lib.hid h1
    clear h1 h2 h3 h4 hsz
    go_enter Tryd.func66, Tryd.ntmps66
    go_wp2_with (first | (go_at_call 77; refine (strings_Index_dot _ _).mono ?_; rintro e w' ⟨rfl, rfl⟩; rw [H.out]))
    go_ret3
    exact ⟨rfl, Drawn.rfl' _⟩
  · rw [h2, h3, h4]
    have H := Lib.hid h1
    have ho : o < s.size := by omega
    have e1 : (⟨(s.data.toList.take o).toArray⟩ : ByteArray) = s.extract 0 o := by rw [Lib.extract_eq]; simp
    have e2 : (⟨(s.data.toList.drop (o + 1)).toArray⟩ : ByteArray) = s.extract (o + 1) s.size := by rw [Lib.extract_eq, Lib.size_eq]; congr 2; rw [List.take_of_length_le]; simp
    rw [e1, e2]
    have w1 : IntKind.i64.wrap ((o : Int) + 1) = (o : Int) + 1 := IntWalk.i64_in _ (by omega)
    have w2 : 0 ≤ (o : Int) + 1 := by omega
    have w3 : ((o : Int) + 1).toNat = o + 1 := by omega
    have w4 : (o : Int) + 1 ≤ (s.size : Int) := by omega
    have w5 : (o : Int) ≤ (s.size : Int) := by omega
    clear h1 h2 h3 h4 hsz h0 e1 e2
    go_enter Tryd.func66, Tryd.ntmps66
    go_wp2_with (first | (go_at_call 77; refine (strings_Index_dot _ _).mono ?_; rintro e w' ⟨rfl, rfl⟩; rw [H.out]))
    go_quiet (fail)
    go_wp2
    go_ret3
    exact ⟨rfl, ⟨_, rfl⟩⟩

theorem strings_Cut_dot (s : ByteArray) (w : World) (hs : s.size ≤ 4000000000) :
    Calls Tryd.prog 50 #[.string s, .string ⟨#[46]⟩] w fun e w' => e = .returned (.tuple #[.string ⟨(whole s.data.toList).toArray⟩, .string ⟨(frac s.data.toList).toArray⟩, .bool (dotted s.data.toList)]) ∧ Drawn w w' := by
  go_enter Tryd.func50, Tryd.ntmps50
  go_wp2_with (go_at_call 66; refine (lite_Cut_dot _ _ hs).mono ?_; rintro e w' ⟨rfl, hD⟩)
  go_ret3
  exact ⟨rfl, hD⟩
end Go.Proofs.YtechjiiijiipdaaDoor

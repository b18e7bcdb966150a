/- Walks: IsName of the reference and of the lexer. -/
import Derived.Test.YtechjiiijiipdaaDoorN1
namespace Go.Proofs.YtechjiiijiipdaaDoor
open Go.RowKit
set_option linter.unusedSimpArgs false
set_option linter.unusedVariables false
theorem isNameB_no {l : List UInt8} (h : l.length = 0 ∨ 24 < l.length ∨ letterB (peekF l 0) = false ∨ runF nameB l 0 ≠ l.length) : isNameB l = false := by
  cases e : isNameB l with
  | false => rfl
  | true =>
    unfold isNameB at e
    simp only [Bool.and_eq_true, decide_eq_true_eq, Bool.not_eq_true', List.isEmpty_eq_false_iff] at e
    obtain ⟨⟨⟨e1, e2⟩, e3⟩, e4⟩ := e
    rcases h with h | h | h | h
    · exact absurd (List.length_eq_zero_iff.1 h) e1
    · omega
    · rw [e3] at h; simp at h
    · exact absurd e4 h
theorem isNameB_yes {l : List UInt8} (h1 : 0 < l.length) (h2 : l.length ≤ 24) (h3 : letterB (peekF l 0) = true) (h4 : runF nameB l 0 = l.length) : isNameB l = true := by
  unfold isNameB
  simp only [Bool.and_eq_true, decide_eq_true_eq, Bool.not_eq_true', List.isEmpty_eq_false_iff]
  exact ⟨⟨⟨fun e => by rw [e] at h1; simp at h1, h2⟩, h3⟩, h4⟩
set_option maxHeartbeats 1000000 in
theorem ref21_IsName (s : ByteArray) (w : World) (hs : s.size ≤ 65536) : Calls Tryd.prog 11 #[.string s] w fun e w' => e = .returned (.bool (isNameB s.data.toList)) ∧ w = w' := by
  have hz := Lib.size_eq s
  by_cases h0 : s.size = 0
  · have eL : s.toList = [] := by rw [Lib.toList_data]; exact List.length_eq_zero_iff.1 (by omega)
    have eE : s.toList.isEmpty = true := by rw [eL]; rfl
    rw [isNameB_no (.inl (by omega))]
    clear hz
    go_enter Tryd.func11, Tryd.ntmps11
    go_wp2_with (first | (go_at_call 25; refine (ref21_letter s[0] _).mono ?_; rintro e w' ⟨rfl, rfl⟩; rw [HL.out]) | (go_at_call 26; refine (ref21_name s _ (by omega)).mono ?_; rintro e w' ⟨rfl, rfl⟩))
    go_ret
    exact ⟨rfl, rfl⟩
  have g0 : decide ((0 : Int) < (s.size : Int)) = true := decide_eq_true (by omega)
  have eL : ¬ s.toList = [] := by rw [Lib.toList_data]; intro h; rw [h] at hz; exact h0 hz
  have eE : s.toList.isEmpty = false := by simpa using eL
  have hp0 : 0 < s.size := by omega
  by_cases h1 : 24 < s.size
  · have g1 : decide ((s.size : Int) ≤ 24) = false := decide_eq_false (by omega)
    rw [isNameB_no (.inr (.inl (by omega)))]
    clear hz
    go_enter Tryd.func11, Tryd.ntmps11
    go_wp2_with (first | (go_at_call 25; refine (ref21_letter s[0] _).mono ?_; rintro e w' ⟨rfl, rfl⟩; rw [HL.out]) | (go_at_call 26; refine (ref21_name s _ (by omega)).mono ?_; rintro e w' ⟨rfl, rfl⟩))
    go_ret
    exact ⟨rfl, rfl⟩
  have g1 : decide ((s.size : Int) ≤ 24) = true := decide_eq_true (by omega)
  have hp := peekF_at (s := s) (j := 0) hp0
  by_cases h2 : letterB (peekF s.data.toList 0) = true
  · by_cases h3 : runF nameB s.data.toList 0 = s.size
    · rw [isNameB_yes (by omega) (by omega) h2 (by omega)]
      have HL := Lib.hid (hp ▸ h2 : letterB s[0] = true)
      have e : ((runF nameB s.data.toList 0 : Int) == (s.size : Int)) = true := by rw [h3]; simp
      clear hz hp h2 h3
      go_enter Tryd.func11, Tryd.ntmps11
      go_wp2_with (first | (go_at_call 25; refine (ref21_letter s[0] _).mono ?_; rintro e w' ⟨rfl, rfl⟩; rw [HL.out]) | (go_at_call 26; refine (ref21_name s _ (by omega)).mono ?_; rintro e w' ⟨rfl, rfl⟩))
      go_ret
      exact ⟨rfl, rfl⟩
    · rw [isNameB_no (.inr (.inr (.inr (by omega))))]
      have HL := Lib.hid (hp ▸ h2 : letterB s[0] = true)
      have e : ((runF nameB s.data.toList 0 : Int) == (s.size : Int)) = false := beq_eq_false_iff_ne.2 (by omega)
      clear hz hp h2
      go_enter Tryd.func11, Tryd.ntmps11
      go_wp2_with (first | (go_at_call 25; refine (ref21_letter s[0] _).mono ?_; rintro e w' ⟨rfl, rfl⟩; rw [HL.out]) | (go_at_call 26; refine (ref21_name s _ (by omega)).mono ?_; rintro e w' ⟨rfl, rfl⟩))
      go_ret
      exact ⟨rfl, rfl⟩
  · have h2 : letterB (peekF s.data.toList 0) = false := by simpa using h2
    rw [isNameB_no (.inr (.inr (.inl h2)))]
    have HL := Lib.hid (hp ▸ h2 : letterB s[0] = false)
    clear hz hp h2
    go_enter Tryd.func11, Tryd.ntmps11
    go_wp2_with (first | (go_at_call 25; refine (ref21_letter s[0] _).mono ?_; rintro e w' ⟨rfl, rfl⟩; rw [HL.out]) | (go_at_call 26; refine (ref21_name s _ (by omega)).mono ?_; rintro e w' ⟨rfl, rfl⟩))
    go_ret
    exact ⟨rfl, rfl⟩
set_option maxHeartbeats 1000000 in
theorem lexer_IsName (s : ByteArray) (w : World) (hs : s.size ≤ 65536) : Calls Tryd.prog 12 #[.string s] w fun e w' => e = .returned (.bool (isNameB s.data.toList)) ∧ w = w' := by
  have hz := Lib.size_eq s
  by_cases h0 : s.size = 0
  · have eL : s.toList = [] := by rw [Lib.toList_data]; exact List.length_eq_zero_iff.1 (by omega)
    have eE : s.toList.isEmpty = true := by rw [eL]; rfl
    rw [isNameB_no (.inl (by omega))]
    clear hz
    go_enter Tryd.func12, Tryd.ntmps12
    go_wp2_with (first | (go_at_call 17; refine (lexer_letter s[0] _).mono ?_; rintro e w' ⟨rfl, rfl⟩; rw [HL.out]) | (go_at_call 18; refine (run_name_at s 0 _ _ (by omega) (by omega) rfl).mono ?_; rintro e w' ⟨rfl, rfl⟩))
    go_ret
    exact ⟨rfl, rfl⟩
  have g0 : decide ((0 : Int) < (s.size : Int)) = true := decide_eq_true (by omega)
  have eL : ¬ s.toList = [] := by rw [Lib.toList_data]; intro h; rw [h] at hz; exact h0 hz
  have eE : s.toList.isEmpty = false := by simpa using eL
  have hp0 : 0 < s.size := by omega
  by_cases h1 : 24 < s.size
  · have g1 : decide ((s.size : Int) ≤ 24) = false := decide_eq_false (by omega)
    rw [isNameB_no (.inr (.inl (by omega)))]
    clear hz
    go_enter Tryd.func12, Tryd.ntmps12
    go_wp2_with (first | (go_at_call 17; refine (lexer_letter s[0] _).mono ?_; rintro e w' ⟨rfl, rfl⟩; rw [HL.out]) | (go_at_call 18; refine (run_name_at s 0 _ _ (by omega) (by omega) rfl).mono ?_; rintro e w' ⟨rfl, rfl⟩))
    go_ret
    exact ⟨rfl, rfl⟩
  have g1 : decide ((s.size : Int) ≤ 24) = true := decide_eq_true (by omega)
  have hp := peekF_at (s := s) (j := 0) hp0
  by_cases h2 : letterB (peekF s.data.toList 0) = true
  · by_cases h3 : runF nameB s.data.toList 0 = s.size
    · rw [isNameB_yes (by omega) (by omega) h2 (by omega)]
      have HL := Lib.hid (hp ▸ h2 : letterB s[0] = true)
      have e : ((runF nameB s.data.toList 0 : Int) == (s.size : Int)) = true := by rw [h3]; simp
      clear hz hp h2 h3
      go_enter Tryd.func12, Tryd.ntmps12
      go_wp2_with (first | (go_at_call 17; refine (lexer_letter s[0] _).mono ?_; rintro e w' ⟨rfl, rfl⟩; rw [HL.out]) | (go_at_call 18; refine (run_name_at s 0 _ _ (by omega) (by omega) rfl).mono ?_; rintro e w' ⟨rfl, rfl⟩))
      go_ret
      exact ⟨rfl, rfl⟩
    · rw [isNameB_no (.inr (.inr (.inr (by omega))))]
      have HL := Lib.hid (hp ▸ h2 : letterB s[0] = true)
      have e : ((runF nameB s.data.toList 0 : Int) == (s.size : Int)) = false := beq_eq_false_iff_ne.2 (by omega)
      clear hz hp h2
      go_enter Tryd.func12, Tryd.ntmps12
      go_wp2_with (first | (go_at_call 17; refine (lexer_letter s[0] _).mono ?_; rintro e w' ⟨rfl, rfl⟩; rw [HL.out]) | (go_at_call 18; refine (run_name_at s 0 _ _ (by omega) (by omega) rfl).mono ?_; rintro e w' ⟨rfl, rfl⟩))
      go_ret
      exact ⟨rfl, rfl⟩
  · have h2 : letterB (peekF s.data.toList 0) = false := by simpa using h2
    rw [isNameB_no (.inr (.inr (.inl h2)))]
    have HL := Lib.hid (hp ▸ h2 : letterB s[0] = false)
    clear hz hp h2
    go_enter Tryd.func12, Tryd.ntmps12
    go_wp2_with (first | (go_at_call 17; refine (lexer_letter s[0] _).mono ?_; rintro e w' ⟨rfl, rfl⟩; rw [HL.out]) | (go_at_call 18; refine (run_name_at s 0 _ _ (by omega) (by omega) rfl).mono ?_; rintro e w' ⟨rfl, rfl⟩))
    go_ret
    exact ⟨rfl, rfl⟩
end Go.Proofs.YtechjiiijiipdaaDoor

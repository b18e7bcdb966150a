/- Walks: lexer.letter, digit, inName, run, peek, number. -/
import Derived.Test.YtechjiiijiipdaaDoorLex
namespace Go.Proofs.YtechjiiijiipdaaDoor
open Go.RowKit
set_option linter.unusedSimpArgs false
set_option linter.unusedVariables false

theorem ret_bool {a b : Bool} (h : a = b) : Ending.returned (.bool a) = .returned (.bool b) := by rw [h]
theorem lexer_letter (c : UInt8) (w : World) : Calls Tryd.prog 17 #[.int .u8 (c.toNat : Int)] w fun e w' => e = .returned (.bool (letterB c)) ∧ w = w' := by
  go_enter Tryd.func17, Tryd.ntmps17
  go_wp2
  all_goals go_ret
  all_goals (refine ⟨ret_bool ?_, rfl⟩; rw [Bool.eq_iff_iff]; simp [letterB]; try omega)
theorem lexer_digit (c : UInt8) (w : World) : Calls Tryd.prog 20 #[.int .u8 (c.toNat : Int)] w fun e w' => e = .returned (.bool (digitB c)) ∧ w = w' := by
  go_enter Tryd.func20, Tryd.ntmps20
  go_wp2
  all_goals go_ret
  all_goals (refine ⟨ret_bool ?_, rfl⟩; rw [Bool.eq_iff_iff]; simp [digitB]; try omega)
theorem lexer_inName (c : UInt8) (w : World) : Calls Tryd.prog 19 #[.int .u8 (c.toNat : Int)] w fun e w' => e = .returned (.bool (nameB c)) ∧ w = w' := by
  have hL := lexer_letter c
  have hD := lexer_digit c
  obtain ⟨n, hn⟩ : ∃ n, nameB c = n := ⟨_, rfl⟩
  rw [hn]
  unfold nameB at hn
  generalize letterB c = lb at *
  generalize digitB c = db at *
  have HN := Lib.hid hn
  have HL := Lib.hid hL
  have HD := Lib.hid hD
  clear hn hL hD
  go_enter Tryd.func19, Tryd.ntmps19
  cases lb <;> cases db
  all_goals go_wp2_with (first | (go_at_call 17; refine (HL.out _).mono ?_; rintro e w' ⟨rfl, rfl⟩) | (go_at_call 20; refine (HD.out _).mono ?_; rintro e w' ⟨rfl, rfl⟩))
  all_goals go_ret
  all_goals (refine ⟨ret_bool ?_, rfl⟩; rw [← HN.out]; rw [Bool.eq_iff_iff]; simp; try omega)
theorem peekF_at {s : ByteArray} {j : Nat} (h : j < s.size) : peekF s.data.toList j = s[j] := by
  unfold peekF
  have : j < s.data.size := h
  rw [List.getD_eq_getElem?_getD, List.getElem?_eq_getElem (by simpa using this)]
  rfl
set_option maxHeartbeats 1000000 in
theorem lexer_run_digit (s : ByteArray) (k : Nat) (w : World) (hs : s.size ≤ 65536) (hk : k ≤ 65537) :
    Calls Tryd.prog 18 #[.string s, .int .i64 (k : Int), .func (.func 20) #[] #[]] w fun e w' => e = .returned (.int .i64 (runF digitB s.data.toList k : Nat)) ∧ w = w' := by
  have HZ := Lib.hid (Lib.size_eq s)
  go_enter Tryd.func18, Tryd.ntmps18
  go_wp2
  go_loop [1] (fun a => ∃ j : Nat, j ≤ 65537 ∧ a = .int .i64 j ∧ Hid (runF digitB s.data.toList k = runF digitB s.data.toList j)) (fun a => s.size - (intOf a).toNat)
  case atStart => exact ⟨k, hk, rfl, rfl⟩
  case round =>
    obtain ⟨j, hj, rfl, hr⟩ := hrel
    by_cases hlt : j < s.size
    · have hp := peekF_at (s := s) hlt
      have hg := Lib.hid (@runF_go digitB s.data.toList j (by have := HZ.out; omega))
      have hst := Lib.hid (@runF_stop digitB s.data.toList j)
      rw [hp] at hg hst
      obtain ⟨b, hb⟩ : ∃ b, digitB s[j] = b := ⟨_, rfl⟩
      cases b with
      | true =>
        have HB := Lib.hid hb
        clear hb hp
        go_wp2_with (go_at_call 20; refine (lexer_digit s[j] _).mono ?_; rintro e w' ⟨rfl, rfl⟩; rw [HB.out])
        go_round
        case rel => exact ⟨j + 1, by omega, by go_num, Lib.hid (by rw [hr.out, hg.out HB.out])⟩
        case measure => simp [intOf]; omega
      | false =>
        have HB := Lib.hid hb
        clear hb hp
        go_wp2_with (go_at_call 20; refine (lexer_digit s[j] _).mono ?_; rintro e w' ⟨rfl, rfl⟩; rw [HB.out])
        go_ret
        exact ⟨by rw [hr.out, hst.out (.inr HB.out)]; rfl, rfl⟩
    · have hst := Lib.hid (@runF_stop digitB s.data.toList j (.inl (by have := HZ.out; omega)))
      go_wp2
      go_ret
      exact ⟨by rw [hr.out, hst.out]; rfl, rfl⟩
set_option maxHeartbeats 1000000 in
theorem lexer_run_inName (s : ByteArray) (k : Nat) (w : World) (hs : s.size ≤ 65536) (hk : k ≤ 65537) :
    Calls Tryd.prog 18 #[.string s, .int .i64 (k : Int), .func (.func 19) #[] #[]] w fun e w' => e = .returned (.int .i64 (runF nameB s.data.toList k : Nat)) ∧ w = w' := by
  have HZ := Lib.hid (Lib.size_eq s)
  go_enter Tryd.func18, Tryd.ntmps18
  go_wp2
  go_loop [1] (fun a => ∃ j : Nat, j ≤ 65537 ∧ a = .int .i64 j ∧ Hid (runF nameB s.data.toList k = runF nameB s.data.toList j)) (fun a => s.size - (intOf a).toNat)
  case atStart => exact ⟨k, hk, rfl, rfl⟩
  case round =>
    obtain ⟨j, hj, rfl, hr⟩ := hrel
    by_cases hlt : j < s.size
    · have hp := peekF_at (s := s) hlt
      have hg := Lib.hid (@runF_go nameB s.data.toList j (by have := HZ.out; omega))
      have hst := Lib.hid (@runF_stop nameB s.data.toList j)
      rw [hp] at hg hst
      obtain ⟨b, hb⟩ : ∃ b, nameB s[j] = b := ⟨_, rfl⟩
      cases b with
      | true =>
        have HB := Lib.hid hb
        clear hb hp
        go_wp2_with (go_at_call 19; refine (lexer_inName s[j] _).mono ?_; rintro e w' ⟨rfl, rfl⟩; rw [HB.out])
        go_round
        case rel => exact ⟨j + 1, by omega, by go_num, Lib.hid (by rw [hr.out, hg.out HB.out])⟩
        case measure => simp [intOf]; omega
      | false =>
        have HB := Lib.hid hb
        clear hb hp
        go_wp2_with (go_at_call 19; refine (lexer_inName s[j] _).mono ?_; rintro e w' ⟨rfl, rfl⟩; rw [HB.out])
        go_ret
        exact ⟨by rw [hr.out, hst.out (.inr HB.out)]; rfl, rfl⟩
    · have hst := Lib.hid (@runF_stop nameB s.data.toList j (.inl (by have := HZ.out; omega)))
      go_wp2
      go_ret
      exact ⟨by rw [hr.out, hst.out]; rfl, rfl⟩
set_option maxHeartbeats 1000000 in
theorem lexer_peek (s : ByteArray) (k : Nat) (w : World) (hs : s.size ≤ 65536) (hk : k ≤ 65538) :
    Calls Tryd.prog 21 #[.string s, .int .i64 (k : Int)] w fun e w' => e = .returned (.int .u8 ((peekF s.data.toList k).toNat : Int)) ∧ w = w' := by
  have hz := Lib.size_eq s
  by_cases hlt : k < s.size
  · rw [peekF_at hlt]
    clear hz
    go_enter Tryd.func21, Tryd.ntmps21
    go_wp2
    go_ret
    exact ⟨rfl, rfl⟩
  · rw [peekF_len (by omega)]
    clear hz
    go_enter Tryd.func21, Tryd.ntmps21
    go_wp2
    go_ret
    exact ⟨rfl, rfl⟩
theorem peek_at (s : ByteArray) (k : Nat) (i : Int) (w : World) (hs : s.size ≤ 65536) (hk : k ≤ 65538) (hi : i = (k : Int)) :
    Calls Tryd.prog 21 #[.string s, .int .i64 i] w fun e w' => e = .returned (.int .u8 ((peekF s.data.toList k).toNat : Int)) ∧ w = w' := by
  subst hi; exact lexer_peek s k w hs hk
theorem run_digit_at (s : ByteArray) (k : Nat) (i : Int) (w : World) (hs : s.size ≤ 65536) (hk : k ≤ 65537) (hi : i = (k : Int)) :
    Calls Tryd.prog 18 #[.string s, .int .i64 i, .func (.func 20) #[] #[]] w fun e w' => e = .returned (.int .i64 (runF digitB s.data.toList k : Nat)) ∧ w = w' := by
  subst hi; exact lexer_run_digit s k w hs hk
theorem run_name_at (s : ByteArray) (k : Nat) (i : Int) (w : World) (hs : s.size ≤ 65536) (hk : k ≤ 65537) (hi : i = (k : Int)) :
    Calls Tryd.prog 18 #[.string s, .int .i64 i, .func (.func 19) #[] #[]] w fun e w' => e = .returned (.int .i64 (runF nameB s.data.toList k : Nat)) ∧ w = w' := by
  subst hi; exact lexer_run_inName s k w hs hk
set_option maxRecDepth 100000 in
set_option maxHeartbeats 1000000 in
theorem lexer_number (s : ByteArray) (k : Nat) (w : World) (hs : s.size ≤ 65536) (hk : k < s.size) :
    Calls Tryd.prog 22 #[.string s, .int .i64 (k : Int)] w fun e w' => e = .returned (.int .i64 (numF s.data.toList k : Nat)) ∧ w = w' := by
  have hz := Lib.size_eq s
  have hp := peekF_at hk
  have ha : numA s.data.toList k ≤ s.size := by rw [hz]; exact numA_le (by omega)
  have hA : numA s.data.toList k = runF digitB s.data.toList (if peekF s.data.toList k = 45 then k + 1 else k) := rfl
  unfold numF
  rw [hp] at hA
  generalize numA s.data.toList k = a at *
  have HZ := Lib.hid hz
  have HA := Lib.hid hA
  clear hz hA hp
  by_cases h45 : s[k] = 45
  · have e45 : ((s[k].toNat : Int) == 45) = true := by rw [h45]; rfl
    have HA2 : Hid (runF digitB s.data.toList (k + 1) = a) := by have := HA.out; rw [if_pos h45] at this; exact this.symm
    clear h45 HA
    by_cases h46 : peekF s.data.toList a = 46
    · have e46 : (((peekF s.data.toList a).toNat : Int) == 46) = true := by rw [h46]; rfl
      by_cases hd : digitB (peekF s.data.toList (a + 1)) = true
      · rw [if_pos ⟨h46, hd⟩]
        have HD := Lib.hid hd
        clear h46 hd
        go_enter Tryd.func22, Tryd.ntmps22
        go_upto_region 4 with (go_at_call 18; refine (run_digit_at s (k + 1) _ _ hs (by omega) (by omega)).mono ?_; rintro e w' ⟨rfl, rfl⟩; rw [HA2.out])
        go_wp2_with (first | (go_at_call 21; first | ((refine (peek_at s a _ _ hs (by omega) (by omega)).mono ?_); rintro e w' ⟨rfl, rfl⟩) | ((refine (peek_at s (a + 1) _ _ hs (by omega) (by omega)).mono ?_); rintro e w' ⟨rfl, rfl⟩)) | (go_at_call 20; refine (lexer_digit _ _).mono ?_; rintro e w' ⟨rfl, rfl⟩; rw [HD.out]) | (go_at_call 18; refine (run_digit_at s (a + 1) _ _ hs (by omega) (by omega)).mono ?_; rintro e w' ⟨rfl, rfl⟩))
        go_ret
        exact ⟨rfl, rfl⟩
      · rw [if_neg (fun h => hd h.2)]
        have HD := Lib.hid (Bool.not_eq_true _ ▸ hd : digitB (peekF s.data.toList (a + 1)) = false)
        clear h46 hd
        go_enter Tryd.func22, Tryd.ntmps22
        go_upto_region 4 with (go_at_call 18; refine (run_digit_at s (k + 1) _ _ hs (by omega) (by omega)).mono ?_; rintro e w' ⟨rfl, rfl⟩; rw [HA2.out])
        go_wp2_with (first | (go_at_call 21; first | ((refine (peek_at s a _ _ hs (by omega) (by omega)).mono ?_); rintro e w' ⟨rfl, rfl⟩) | ((refine (peek_at s (a + 1) _ _ hs (by omega) (by omega)).mono ?_); rintro e w' ⟨rfl, rfl⟩)) | (go_at_call 20; refine (lexer_digit _ _).mono ?_; rintro e w' ⟨rfl, rfl⟩; rw [HD.out]))
        go_ret
        exact ⟨rfl, rfl⟩
    · have e46 : (((peekF s.data.toList a).toNat : Int) == 46) = false := by
        have : (peekF s.data.toList a).toNat ≠ 46 := fun h => h46 (UInt8.toNat_inj.1 h)
        simp; omega
      rw [if_neg (fun h => h46 h.1)]
      clear h46
      go_enter Tryd.func22, Tryd.ntmps22
      go_upto_region 4 with (go_at_call 18; refine (run_digit_at s (k + 1) _ _ hs (by omega) (by omega)).mono ?_; rintro e w' ⟨rfl, rfl⟩; rw [HA2.out])
      go_wp2_with (go_at_call 21; refine (peek_at s a _ _ hs (by omega) (by omega)).mono ?_; rintro e w' ⟨rfl, rfl⟩)
      go_ret
      exact ⟨rfl, rfl⟩
  · have e45 : ((s[k].toNat : Int) == 45) = false := by
      have : s[k].toNat ≠ 45 := fun h => h45 (UInt8.toNat_inj.1 h)
      simp; omega
    have HA2 : Hid (runF digitB s.data.toList k = a) := by have := HA.out; rw [if_neg h45] at this; exact this.symm
    clear h45 HA
    by_cases h46 : peekF s.data.toList a = 46
    · have e46 : (((peekF s.data.toList a).toNat : Int) == 46) = true := by rw [h46]; rfl
      by_cases hd : digitB (peekF s.data.toList (a + 1)) = true
      · rw [if_pos ⟨h46, hd⟩]
        have HD := Lib.hid hd
        clear h46 hd
        go_enter Tryd.func22, Tryd.ntmps22
        go_upto_region 4 with (go_at_call 18; refine (run_digit_at s (k) _ _ hs (by omega) (by omega)).mono ?_; rintro e w' ⟨rfl, rfl⟩; rw [HA2.out])
        go_wp2_with (first | (go_at_call 21; first | ((refine (peek_at s a _ _ hs (by omega) (by omega)).mono ?_); rintro e w' ⟨rfl, rfl⟩) | ((refine (peek_at s (a + 1) _ _ hs (by omega) (by omega)).mono ?_); rintro e w' ⟨rfl, rfl⟩)) | (go_at_call 20; refine (lexer_digit _ _).mono ?_; rintro e w' ⟨rfl, rfl⟩; rw [HD.out]) | (go_at_call 18; refine (run_digit_at s (a + 1) _ _ hs (by omega) (by omega)).mono ?_; rintro e w' ⟨rfl, rfl⟩))
        go_ret
        exact ⟨rfl, rfl⟩
      · rw [if_neg (fun h => hd h.2)]
        have HD := Lib.hid (Bool.not_eq_true _ ▸ hd : digitB (peekF s.data.toList (a + 1)) = false)
        clear h46 hd
        go_enter Tryd.func22, Tryd.ntmps22
        go_upto_region 4 with (go_at_call 18; refine (run_digit_at s (k) _ _ hs (by omega) (by omega)).mono ?_; rintro e w' ⟨rfl, rfl⟩; rw [HA2.out])
        go_wp2_with (first | (go_at_call 21; first | ((refine (peek_at s a _ _ hs (by omega) (by omega)).mono ?_); rintro e w' ⟨rfl, rfl⟩) | ((refine (peek_at s (a + 1) _ _ hs (by omega) (by omega)).mono ?_); rintro e w' ⟨rfl, rfl⟩)) | (go_at_call 20; refine (lexer_digit _ _).mono ?_; rintro e w' ⟨rfl, rfl⟩; rw [HD.out]))
        go_ret
        exact ⟨rfl, rfl⟩
    · have e46 : (((peekF s.data.toList a).toNat : Int) == 46) = false := by
        have : (peekF s.data.toList a).toNat ≠ 46 := fun h => h46 (UInt8.toNat_inj.1 h)
        simp; omega
      rw [if_neg (fun h => h46 h.1)]
      clear h46
      go_enter Tryd.func22, Tryd.ntmps22
      go_upto_region 4 with (go_at_call 18; refine (run_digit_at s (k) _ _ hs (by omega) (by omega)).mono ?_; rintro e w' ⟨rfl, rfl⟩; rw [HA2.out])
      go_wp2_with (go_at_call 21; refine (peek_at s a _ _ hs (by omega) (by omega)).mono ?_; rintro e w' ⟨rfl, rfl⟩)
      go_ret
      exact ⟨rfl, rfl⟩
end Go.Proofs.YtechjiiijiipdaaDoor

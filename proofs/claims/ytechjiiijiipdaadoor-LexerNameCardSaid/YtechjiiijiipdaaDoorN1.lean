/- Walks: the names of the reference and of the lexer. -/
import Derived.Test.YtechjiiijiipdaaDoorPName
namespace Go.Proofs.YtechjiiijiipdaaDoor
open Go.RowKit
set_option linter.unusedSimpArgs false
set_option linter.unusedVariables false
theorem ref21_letter (c : UInt8) (w : World) : Calls Tryd.prog 25 #[.int .u8 (c.toNat : Int)] w fun e w' => e = .returned (.bool (letterB c)) ∧ w = w' := by
  go_enter Tryd.func25, Tryd.ntmps25
  go_wp2
  all_goals go_ret
  all_goals (refine ⟨ret_bool ?_, rfl⟩; rw [Bool.eq_iff_iff]; simp [letterB]; try omega)
theorem ref21_digit (c : UInt8) (w : World) : Calls Tryd.prog 40 #[.int .u8 (c.toNat : Int)] w fun e w' => e = .returned (.bool (digitB c)) ∧ w = w' := by
  go_enter Tryd.func40, Tryd.ntmps40
  go_wp2
  all_goals go_ret
  all_goals (refine ⟨ret_bool ?_, rfl⟩; rw [Bool.eq_iff_iff]; simp [digitB]; try omega)
theorem nameB_or (c : UInt8) : nameB c = (letterB c || digitB c || ((c.toNat : Int) == 95) || ((c.toNat : Int) == 45)) := by
  have e1 : ((c.toNat : Int) == 95) = decide (c.toNat = 95) := by rw [Bool.eq_iff_iff]; simp; try omega
  have e2 : ((c.toNat : Int) == 45) = decide (c.toNat = 45) := by rw [Bool.eq_iff_iff]; simp; try omega
  rw [e1, e2]; rfl
set_option maxHeartbeats 1000000 in
theorem ref21_name (s : ByteArray) (w : World) (hs : s.size ≤ 65536) : Calls Tryd.prog 26 #[.string s] w fun e w' => e = .returned (.int .i64 (runF nameB s.data.toList 0 : Nat)) ∧ w = w' := by
  have HZ := Lib.hid (Lib.size_eq s)
  go_enter Tryd.func26, Tryd.ntmps26
  go_wp2
  go_loop [3] (fun a => ∃ j : Nat, j ≤ 65537 ∧ a = .int .i64 j ∧ Hid (runF nameB s.data.toList 0 = runF nameB s.data.toList j)) (fun a => s.size - (intOf a).toNat)
  case atStart => exact ⟨0, by omega, rfl, Lib.hid rfl⟩
  case round =>
    obtain ⟨j, hj, rfl, hr⟩ := hrel
    by_cases hlt : j < s.size
    · have hp := peekF_at (s := s) hlt
      have hg := Lib.hid (@runF_go nameB s.data.toList j (by have := HZ.out; omega))
      have hst := Lib.hid (@runF_stop nameB s.data.toList j)
      rw [hp] at hg hst
      have hn := nameB_or s[j]
      obtain ⟨lb, h1⟩ : ∃ b, letterB s[j] = b := ⟨_, rfl⟩
      obtain ⟨db, h2⟩ : ∃ b, digitB s[j] = b := ⟨_, rfl⟩
      obtain ⟨x, h3⟩ : ∃ b, ((s[j].toNat : Int) == 95) = b := ⟨_, rfl⟩
      obtain ⟨y, h4⟩ : ∃ b, ((s[j].toNat : Int) == 45) = b := ⟨_, rfl⟩
      rw [h1, h2, h3, h4] at hn
      have H1 := Lib.hid h1
      have H2 := Lib.hid h2
      have HN := Lib.hid hn
      clear h1 h2 hn hp
      cases lb with
      | true => (go_wp2_with (first | (go_at_call 25; refine (ref21_letter s[j] _).mono ?_; rintro e w' ⟨rfl, rfl⟩; rw [H1.out]) | (go_at_call 40; refine (ref21_digit s[j] _).mono ?_; rintro e w' ⟨rfl, rfl⟩; rw [H2.out])); go_round; (case rel => exact ⟨j + 1, by omega, by go_num, Lib.hid (by rw [hr.out, hg.out HN.out])⟩); (case measure => simp [intOf]; omega))
      | false => cases db with
        | true => (go_wp2_with (first | (go_at_call 25; refine (ref21_letter s[j] _).mono ?_; rintro e w' ⟨rfl, rfl⟩; rw [H1.out]) | (go_at_call 40; refine (ref21_digit s[j] _).mono ?_; rintro e w' ⟨rfl, rfl⟩; rw [H2.out])); go_round; (case rel => exact ⟨j + 1, by omega, by go_num, Lib.hid (by rw [hr.out, hg.out HN.out])⟩); (case measure => simp [intOf]; omega))
        | false => cases x with
          | true => (go_wp2_with (first | (go_at_call 25; refine (ref21_letter s[j] _).mono ?_; rintro e w' ⟨rfl, rfl⟩; rw [H1.out]) | (go_at_call 40; refine (ref21_digit s[j] _).mono ?_; rintro e w' ⟨rfl, rfl⟩; rw [H2.out])); go_round; (case rel => exact ⟨j + 1, by omega, by go_num, Lib.hid (by rw [hr.out, hg.out HN.out])⟩); (case measure => simp [intOf]; omega))
          | false => cases y with
            | true => (go_wp2_with (first | (go_at_call 25; refine (ref21_letter s[j] _).mono ?_; rintro e w' ⟨rfl, rfl⟩; rw [H1.out]) | (go_at_call 40; refine (ref21_digit s[j] _).mono ?_; rintro e w' ⟨rfl, rfl⟩; rw [H2.out])); go_round; (case rel => exact ⟨j + 1, by omega, by go_num, Lib.hid (by rw [hr.out, hg.out HN.out])⟩); (case measure => simp [intOf]; omega))
            | false =>
              go_wp2_with (first | (go_at_call 25; refine (ref21_letter s[j] _).mono ?_; rintro e w' ⟨rfl, rfl⟩; rw [H1.out]) | (go_at_call 40; refine (ref21_digit s[j] _).mono ?_; rintro e w' ⟨rfl, rfl⟩; rw [H2.out]))
              go_ret
              exact ⟨by rw [hr.out, hst.out (.inr HN.out)]; rfl, rfl⟩
    · have hst := Lib.hid (@runF_stop nameB s.data.toList j (.inl (by have := HZ.out; omega)))
      go_wp2
      go_ret
      exact ⟨by rw [hr.out, hst.out]; rfl, rfl⟩
end Go.Proofs.YtechjiiijiipdaaDoor

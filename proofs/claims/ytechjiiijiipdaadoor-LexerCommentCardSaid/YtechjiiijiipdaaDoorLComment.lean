/- THE LAW LexerComment: whatever stands behind # does not matter: for every line and every comment the law returns true. No condition. -/
import Derived.Test.YtechjiiijiipdaaDoorW27
import Derived.Test.YtechjiiijiipdaaDoorPComment
import Derived.Test.YtechjiiijiipdaaDoorCards
import Derived.Test.YtechjiiijiipdaaDoorTie
import Derived.ProofKit
import Derived.OpenShut
import Derived.ShutString
import Derived.LaidMore
import Derived.Lay
import Derived.SevenTiedAt
import Derived.Stop.Joined
namespace Go.Proofs.YtechjiiijiipdaaDoor
open Go.RowKit
set_option linter.unusedSimpArgs false
set_option linter.unusedVariables false
attribute [local irreducible] Toks tokF
set_option maxRecDepth 100000 in
set_option maxHeartbeats 2000000 in
theorem comment_walk (w : World) (s c : ByteArray) : Calls Tryd.prog 5 #[.string s, .string c] w fun e w' => e = .returned (.bool true) ∧ Ext w w' := by
  have HA := Lib.hid law21_awake
  by_cases h1 : 300 < s.size
  · have g1 : decide ((300 : Int) < (s.size : Int)) = true := by simp; omega
    clear h1
    go_enter Tryd.func5, Tryd.ntmps5
    go_wp2_with (go_at_call 7; refine (HA.out _).mono ?_; rintro e w5 ⟨rfl, hE5⟩)
    go_ret
    exact ⟨rfl, by exact exttI⟩
  have g1 : decide ((300 : Int) < (s.size : Int)) = false := by simp; omega
  by_cases h2 : 100 < c.size
  · have g2 : decide ((100 : Int) < (c.size : Int)) = true := by simp; omega
    clear h1 h2
    go_enter Tryd.func5, Tryd.ntmps5
    go_wp2_with (go_at_call 7; refine (HA.out _).mono ?_; rintro e w5 ⟨rfl, hE5⟩)
    go_ret
    exact ⟨rfl, by exact exttI⟩
  have g2 : decide ((100 : Int) < (c.size : Int)) = false := by simp; omega
  have hs : s.size ≤ 300 := by omega
  have hc : c.size ≤ 100 := by omega
  have hl1 : (s ++ ⟨#[35]⟩ ++ c).data.toList = s.data.toList ++ 35 :: c.data.toList := by simp
  have hl2 : (s ++ ⟨#[35]⟩).data.toList = s.data.toList ++ [35] := by simp
  have z1 : (s ++ ⟨#[35]⟩ ++ c).size ≤ 65536 := by rw [Lib.size_eq, hl1]; have := Lib.size_eq s; have := Lib.size_eq c; simp; omega
  have z2 : (s ++ ⟨#[35]⟩).size ≤ 65536 := by rw [Lib.size_eq, hl2]; have := Lib.size_eq s; simp; omega
  have hT1 := fun w => lexer_Tokens (s ++ ⟨#[35]⟩ ++ c) w z1
  have hT2 := fun w => lexer_Tokens (s ++ ⟨#[35]⟩) w z2
  rw [hl1, tok_comment _ _ (by have := Lib.size_eq s; have := Lib.size_eq c; omega)] at hT1
  rw [hl2] at hT2
  generalize tokF (s.data.toList ++ [35]) = R at *
  obtain ⟨ts, p, er⟩ := R
  have H1 := Lib.hid hT1
  have H2 := Lib.hid hT2
  clear hT1 hT2 hl1 hl2 h1 h2 z1 z2
  go_enter Tryd.func5, Tryd.ntmps5
  go_upto_region 3 with (go_at_call 7; refine (HA.out _).mono ?_; rintro e w5 ⟨rfl, hE5⟩)
  go_upto_region 4 with (go_at_call 8; refine (H1.out _).mono ?_; rintro e w6 ⟨v1, rfl, ht1, hE6⟩)
  go_upto_region 5 with (go_at_call 8; refine (H2.out _).mono ?_; rintro e w7 ⟨v2, rfl, ht2, hE7⟩)
  replace ht1 := ht1.ext hE7
  go_wp2_with (first | (go_at_call 10; first | ((with_reducible refine (law21_own _ v1 ts (ht1.ext (by exact exttI))).mono ?_); rintro e w8 ⟨u1, rfl, hu1, hE8⟩) | ((with_reducible refine (law21_own _ v2 ts (ht2.ext (by exact exttI))).mono ?_); rintro e w9 ⟨u2, rfl, hu2, hE9⟩)) | (go_at_call 9; refine (ref21_Same _ _ _ ts ts (hu1.ext (by exact exttI)) (hu2.ext (by exact exttI))).mono ?_; rintro e wa ⟨rfl, hD⟩; rw [decide_eq_true rfl]; replace hD := hD.ext))
  go_ret
  exact ⟨rfl, by exact exttI⟩
theorem own : ownKnob Tryd.prog.godebug = none := by kernel_rfl
open Go.ChangeShapes Go.WideShapes Go.ChangeAt in
open Go.ChangeMaps (open_string shut_string) in
set_option maxRecDepth 100000 in
set_option maxHeartbeats 2000000 in
theorem lifted (os : Os) (started : os.Started) (H : Type) (enc : TypeId × Value → H) :
    ReturnsInHanded {} Tryd.checked os 5 .any (fun w args => (Rows.lexerCommentSpec.pre enc Tryd.prog Tryd.f5 Rows.lexerCommentRow.domain false w args ∧ laidMetH Tryd.prog Rows.lexerCommentRow.laid w) ∧ sizedMet enc Tryd.prog Tryd.f5 (OpenSpec.ofChange Rows.lexerCommentSpec) false w args)
      (Rows.lexerCommentSpec.post enc Tryd.prog Tryd.f5 false true false false) := by
  refine returnsInHanded_of_change_and (C := Tryd.checked) (X := fun w _ => laidMetH Tryd.prog Rows.lexerCommentRow.laid w) (fun _ _ _ hh h => h.of_heap hh) own started (by kernel_rfl) Tryd.func5
    (ChangeSpec.witness_shaped (enc := enc) (C := Tryd.checked) (os := os) (X := fun w _ => laidMetH Tryd.prog Rows.lexerCommentRow.laid w) false (World.laidAll Tryd.prog os Rows.lexerCommentRow.laid) #[.string ByteArray.empty, .string ByteArray.empty] 8 (World.laidAll_os _ _ _)
      (World.shaped_of_ZipB (by kernel_rfl) (by kernel_rfl)) (by kernel_rfl) (by kernel_rfl) (by kernel_rfl)
      (by rw [MakeChecks.laidMetH_plain _ _ _ (by kernel_rfl)]; exact laidMet_laidAll _ (by kernel_rfl) (by kernel_rfl))) ?_
  intro W base args ds gs before hval0 hW _ _ _ _
  have hval : ∀ (j : Nat) t v, Tryd.f5.params[j]? = some t → args[j]? = some v → Value.okWide Tryd.prog W .any base t v := hval0
  have hW' := hW
  obtain ⟨p, q, hA0, hV, rfl, hfz, hnd⟩ := hW
  have hA : DataW.TrodAll enc Tryd.prog W 0 (fun _ => true) true Tryd.f5.params.toList args.toList ds p := hA0
  rw [Tryd.params5] at hA hval
  obtain ⟨v0, vs0, d0, ds0, p0, q0, hargs, rfl, rfl, h0, r0⟩ := trodAll_cons hA
  obtain ⟨v1, vs1, d1, ds1, p1, q1, rfl, rfl, rfl, h1, r1⟩ := trodAll_cons r0
  obtain ⟨rfl, rfl, rfl⟩ := trodAll_nil r1
  obtain rfl : args = #[v0, v1] := by cases args; simp_all
  obtain ⟨rfl, rfl⟩ := trodVars_none hV
  obtain ⟨a0, rfl, rfl, rfl, y0⟩ := open_string Tryd.underlying9 (hval 0 9 v0 rfl rfl) h0
  obtain ⟨a1, rfl, rfl, rfl, y1⟩ := open_string Tryd.underlying9 (hval 1 9 v1 rfl rfl) h1
  clear hA0 hval0
  refine (comment_walk W a0 a1).mono fun e W' ⟨he, bel⟩ => ?_
  subst he
  exact ⟨_, rfl, _, _, _, [], _, [], hW', trodAll_mk1 (shut_bool Tryd.underlying4 _), (trodAll_cons_mk (shut_string Tryd.underlying9 y0) (trodAll_cons_mk (shut_string Tryd.underlying9 y1) trodAll_mk0)), rfl, bel.frame _, fun h => by cases h⟩
theorem over : Rows.LexerCommentSaid :=
  OpenClaim.holds_of_wide 5 Tryd.f5 rfl rfl rfl rfl rfl rfl rfl ⟨rfl, rfl, rfl, rfl, rfl⟩ rfl rfl rfl rfl rfl (by kernel_rfl) Tryd.func5 (by kernel_rfl)
    (of_decide_eq_true (by kernel_rfl)) (by unfold Func.isWrapper; first | (rw [if_pos (by decide +kernel)]; kernel_rfl) | (rw [if_neg (by decide +kernel)]; exact ⟨rfl, rfl⟩))
    (fun os started H enc _ => lifted os started H enc)
theorem card : Rows.LexerCommentCardSaid :=
  Claim7.holds_tied_plain_at .later [] _ _ _ _ over (fun _ h => by cases h) (by kernel_rfl) (fun _ h => by cases h) lexerComment_row_tie rfl ⟨rfl, rfl⟩ (by kernel_rfl) rfl
    (fun f fn hf hfn => by
      obtain rfl : f = 5 := Option.some.inj ((show Tryd.prog.funcNamed "swarf/swarflaw21.LexerComment" = some 5 by kernel_rfl).symm.trans hf) |>.symm
      obtain rfl : fn = Tryd.f5 := (Option.some.inj (Tryd.func5.symm.trans hfn)).symm
      exact ⟨by kernel_rfl, fun j t ht => by
        rw [Tryd.params5] at ht
        have hm : t ∈ [9, 9] := by simpa using Array.mem_of_getElem? ht
        have hall : (([9, 9] : List Nat).all fun u => !Tryd.prog.wantsStandIn u) = true := by kernel_rfl
        exact (show Tryd.prog.wantsStandIn t = false by simpa using List.all_eq_true.1 hall t hm)⟩)
    (by kernel_rfl)
#print axioms card
end Go.Proofs.YtechjiiijiipdaaDoor

/- THE LAW LexerTokens: Tokens returns the reference's tokens, or its error and offset: for every line the law returns true. No condition. -/
import Derived.Test.YtechjiiijiipdaaGreatDoorME
import Derived.Test.YtechjiiijiipdaaGreatDoorMC
import Derived.Test.YtechjiiijiipdaaGreatDoorCards
import Derived.Test.YtechjiiijiipdaaGreatDoorTie
import Derived.ProofKit
import Derived.OpenShut
import Derived.ShutString
import Derived.LaidMore
import Derived.Lay
import Derived.SevenTiedAt
import Derived.Stop.Joined
namespace Go.Proofs.YtechjiiijiipdaaGreatDoor
open Go.RowKit
set_option linter.unusedSimpArgs false
set_option linter.unusedVariables false
attribute [local irreducible] Toks tokF
set_option maxRecDepth 100000 in
set_option maxHeartbeats 2000000 in
theorem tokens_walk (w : World) (s : ByteArray) : Calls Tryz.prog 3 #[.string s] w fun e w' => e = .returned (.bool true) ∧ Ext w w' := by
  have HA := Lib.hid law21_awake
  by_cases h1 : 300 < s.size
  · have g1 : decide ((300 : Int) < (s.size : Int)) = true := by simp; omega
    clear h1
    go_enter Tryz.func3, Tryz.ntmps3
    go_wp2_with (go_at_call 13; refine (HA.out _).mono ?_; rintro e w5 ⟨rfl, hE5⟩)
    go_ret
    exact ⟨rfl, by exact exttI⟩
  have g1 : decide ((300 : Int) < (s.size : Int)) = false := by simp; omega
  have hT1 := fun w => lexer_Tokens s w (by omega)
  have hT2 := fun w => ref21_Tokens s w (by omega)
  generalize tokF s.data.toList = R at *
  obtain ⟨ts, p, er⟩ := R
  have H1 := Lib.hid hT1
  have H2 := Lib.hid hT2
  clear hT1 hT2 h1
  go_enter Tryz.func3, Tryz.ntmps3
  go_upto_region 3 with (go_at_call 13; refine (HA.out _).mono ?_; rintro e w5 ⟨rfl, hE5⟩)
  go_upto_region 4 with (go_at_call 14; refine (H1.out _).mono ?_; rintro e w6 ⟨v1, rfl, ht1, hE6⟩)
  go_upto_region 5 with (go_at_call 15; refine (H2.out _).mono ?_; rintro e w7 ⟨v2, rfl, ht2, hE7⟩)
  replace ht1 := ht1.ext hE7
  go_wp2_with (first | (go_at_call 17; refine (law21_own _ v1 ts (ht1.ext (by exact exttI))).mono ?_; rintro e w8 ⟨u1, rfl, hu1, hE8⟩) | (go_at_call 16; refine (ref21_Same _ _ _ ts ts (hu1.ext (by exact exttI)) (ht2.ext (by exact exttI))).mono ?_; rintro e wa ⟨rfl, hD⟩; rw [decide_eq_true rfl]; replace hD := hD.ext))
  go_ret
  exact ⟨rfl, by exact exttI⟩
theorem own : ownKnob Tryz.prog.godebug = none := by kernel_rfl
open Go.ChangeShapes Go.WideShapes Go.ChangeAt in
open Go.ChangeMaps (open_string shut_string) in
set_option maxRecDepth 100000 in
set_option maxHeartbeats 2000000 in
theorem lifted (os : Os) (started : os.Started) (H : Type) (enc : TypeId × Value → H) :
    ReturnsInHanded {} Tryz.checked os 3 .any (fun w args => (Rows.lexerTokensSpec.pre enc Tryz.prog Tryz.f3 Rows.lexerTokensRow.domain false w args ∧ laidMetH Tryz.prog Rows.lexerTokensRow.laid w) ∧ sizedMet enc Tryz.prog Tryz.f3 (OpenSpec.ofChange Rows.lexerTokensSpec) false w args)
      (Rows.lexerTokensSpec.post enc Tryz.prog Tryz.f3 false true false false) := by
  refine returnsInHanded_of_change_and (C := Tryz.checked) (X := fun w _ => laidMetH Tryz.prog Rows.lexerTokensRow.laid w) (fun _ _ _ hh h => h.of_heap hh) own started (by kernel_rfl) Tryz.func3
    (ChangeSpec.witness_shaped (enc := enc) (C := Tryz.checked) (os := os) (X := fun w _ => laidMetH Tryz.prog Rows.lexerTokensRow.laid w) false (World.laidAll Tryz.prog os Rows.lexerTokensRow.laid) #[.string ByteArray.empty] 8 (World.laidAll_os _ _ _)
      (World.shaped_of_ZipB (by kernel_rfl) (by kernel_rfl)) (by kernel_rfl) (by kernel_rfl) (by kernel_rfl)
      (by rw [MakeChecks.laidMetH_plain _ _ _ (by kernel_rfl)]; exact laidMet_laidAll _ (by kernel_rfl) (by kernel_rfl))) ?_
  intro W base args ds gs before hval0 hW _ _ _ _
  have hval : ∀ (j : Nat) t v, Tryz.f3.params[j]? = some t → args[j]? = some v → Value.okWide Tryz.prog W .any base t v := hval0
  have hW' := hW
  obtain ⟨p, q, hA0, hV, rfl, hfz, hnd⟩ := hW
  have hA : DataW.TrodAll enc Tryz.prog W 0 (fun _ => true) true Tryz.f3.params.toList args.toList ds p := hA0
  rw [Tryz.params3] at hA hval
  obtain ⟨v0, vs0, d0, ds0, p0, q0, hargs, rfl, rfl, h0, r0⟩ := trodAll_cons hA
  obtain ⟨rfl, rfl, rfl⟩ := trodAll_nil r0
  obtain rfl : args = #[v0] := by cases args; simp_all
  obtain ⟨rfl, rfl⟩ := trodVars_none hV
  obtain ⟨a0, rfl, rfl, rfl, y0⟩ := open_string Tryz.underlying9 (hval 0 9 v0 rfl rfl) h0
  clear hA0 hval0
  refine (tokens_walk W a0).mono fun e W' ⟨he, bel⟩ => ?_
  subst he
  exact ⟨_, rfl, _, _, _, [], _, [], hW', trodAll_mk1 (shut_bool Tryz.underlying4 _), (trodAll_cons_mk (shut_string Tryz.underlying9 y0) trodAll_mk0), rfl, bel.frame _, fun h => by cases h⟩
theorem over : Rows.LexerTokensSaid :=
  OpenClaim.holds_of_wide 3 Tryz.f3 rfl rfl rfl rfl rfl rfl rfl ⟨rfl, rfl, rfl, rfl, rfl⟩ rfl rfl rfl rfl rfl (by kernel_rfl) Tryz.func3 (by kernel_rfl)
    (of_decide_eq_true (by kernel_rfl)) (by unfold Func.isWrapper; first | (rw [if_pos (by decide +kernel)]; kernel_rfl) | (rw [if_neg (by decide +kernel)]; exact ⟨rfl, rfl⟩))
    (fun os started H enc _ => lifted os started H enc)
theorem card : Rows.LexerTokensCardSaid :=
  Claim7.holds_tied_plain_at .later [] _ _ _ _ over (fun _ h => by cases h) (by kernel_rfl) (fun _ h => by cases h) lexerTokens_row_tie rfl ⟨rfl, rfl⟩ (by kernel_rfl) rfl
    (fun f fn hf hfn => by
      obtain rfl : f = 3 := Option.some.inj ((show Tryz.prog.funcNamed "swarf/swarflaw21.LexerTokens" = some 3 by kernel_rfl).symm.trans hf) |>.symm
      obtain rfl : fn = Tryz.f3 := (Option.some.inj (Tryz.func3.symm.trans hfn)).symm
      exact ⟨by kernel_rfl, fun j t ht => by
        rw [Tryz.params3] at ht
        have hm : t ∈ [9] := by simpa using Array.mem_of_getElem? ht
        have hall : (([9] : List Nat).all fun u => !Tryz.prog.wantsStandIn u) = true := by kernel_rfl
        exact (show Tryz.prog.wantsStandIn t = false by simpa using List.all_eq_true.1 hall t hm)⟩)
    (by kernel_rfl)
#print axioms card
end Go.Proofs.YtechjiiijiipdaaGreatDoor

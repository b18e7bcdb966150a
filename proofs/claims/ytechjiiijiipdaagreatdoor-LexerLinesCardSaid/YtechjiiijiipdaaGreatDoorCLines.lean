/- THE LAW LexerLines: Lines returns the reference's lines, or its error and line: for every text the law returns true. No condition. -/
import Derived.Test.YtechjiiijiipdaaGreatDoorMF
import Derived.Test.YtechjiiijiipdaaGreatDoorMC
import Derived.Test.YtechjiiijiipdaaGreatDoorCards
import Derived.Test.YtechjiiijiipdaaGreatDoorTie
import Derived.ProofKit
import Derived.OpenShut
import Derived.ShutString
import Derived.LaidMore
import Derived.Lay
import Derived.SevenTiedAt
import Derived.Stop.Joined
namespace Go.Proofs.YtechjiiijiipdaaGreatDoor
open Go.RowKit
set_option linter.unusedSimpArgs false
set_option linter.unusedVariables false
attribute [local irreducible] Toks tokF linesF AllT
set_option maxRecDepth 100000 in
set_option maxHeartbeats 4000000 in
theorem lines_walk (w : World) (s : ByteArray) : Calls Tryz.prog 6 #[.string s] w fun e w' => e = .returned (.bool true) ∧ Ext w w' := by
  have HA := Lib.hid law21_awake
  by_cases h1 : 600 < s.size
  · have g1 : decide ((600 : Int) < (s.size : Int)) = true := by simp; omega
    clear h1
    go_enter Tryz.func6, Tryz.ntmps6
    go_wp2_with (go_at_call 13; refine (HA.out _).mono ?_; rintro e w5 ⟨rfl, hE5⟩)
    go_ret
    exact ⟨rfl, by exact exttI⟩
  have g1 : decide ((600 : Int) < (s.size : Int)) = false := by simp; omega
  have hT1 := fun w => lexer_Lines s w (by omega)
  have hT2 := fun w => ref21_Lines s w (by omega)
  generalize linesF s.data.toList = R at *
  obtain ⟨ls, p, er⟩ := R
  have H1 := Lib.hid hT1
  have H2 := Lib.hid hT2
  clear hT1 hT2 h1
  go_enter Tryz.func6, Tryz.ntmps6
  go_upto_region 3 with (go_at_call 13; refine (HA.out _).mono ?_; rintro e w5 ⟨rfl, hE5⟩)
  go_upto_region 4 with (go_at_call 23; refine (H1.out _).mono ?_; rintro e w6 ⟨v1, rfl, ht1, hE6⟩)
  go_upto_region 5 with (go_at_call 24; refine (H2.out _).mono ?_; rintro e w7 ⟨v2, rfl, ht2, hE7⟩)
  replace ht1 := ht1.ext hE7
  obtain ⟨a, c, us, rfl, ha1, hl1, hc1⟩ := ht1
  obtain ⟨a2, c2, us2, rfl, ha2, hl2, hc2⟩ := ht2
  have hlen := ha1.length
  have hlen2 := ha2.length
  have hne : ((us.length : Int) != (us2.length : Int)) = false := by rw [hlen, hlen2]; simp
  have hE : Ext w w7 := by exact exttI
  have HL1 := Lib.hid hlen
  have HL2 := Lib.hid hlen2
  clear hlen hlen2 H1 H2 HA hE5 hE6 hE7
  go_wp2_with (fail)
  go_loopw [47] (fun i w' => ∃ k : Nat, i = .int .i64 k ∧ k ≤ us.length ∧ Ext w7 w') (fun i _ => us.length - (intOf i).toNat)
  case atStart => exact ⟨0, rfl, by omega, Ext.rfl' _⟩
  case round =>
    obtain ⟨k, rfl, hk, hEr⟩ := hrel
    by_cases hlt : k < us.length
    · have hl : k < ls.length := by have := HL1.out; omega
      have hlt2 : k < us2.length := by have := HL2.out; omega
      obtain ⟨n1, t1⟩ := ha1.get k hlt hl
      obtain ⟨n2, t2⟩ := ha2.get k hlt2 hl
      rcases hc1 with rfl | ⟨b, o, rfl, hb, hc1⟩
      · simp at hlt
      rcases hc2 with rfl | ⟨b2, o2, rfl, hb2, hc2⟩
      · simp at hlt2
      obtain ⟨d1, d2⟩ := hc1 k hlt
      obtain ⟨d3, d4⟩ := hc2 k hlt2
      rw [n1] at d1
      rw [n2] at d3
      have R1 := fun w' (e : Ext w7 w') => (e.cell (p := ⟨b, o + k * 2, none⟩) hb).trans d1
      have R2 := fun w' (e : Ext w7 w') => (e.cell (p := ⟨b, o + k * 2 + 1, none⟩) hb).trans d2
      have R3 := fun w' (e : Ext w7 w') => (e.cell (p := ⟨b2, o2 + k * 2, none⟩) hb2).trans d3
      have R4 := fun w' (e : Ext w7 w') => (e.cell (p := ⟨b2, o2 + k * 2 + 1, none⟩) hb2).trans d4
      generalize ls[k].1 = n at *
      generalize ls[k].2 = ts at *
      generalize us[k].2 = u1 at *
      generalize us2[k].2 = u2 at *
      have hlt2I : (k : Int) < (us2.length : Int) := by omega
      have hnn : ((n : Int) != (n : Int)) = false := by simp
      clear d1 d2 d3 d4 hc1 hc2 n1 n2 ha1 ha2
      go_upto_region 10 with (fail)
      go_region_held3 (fun w' => Ext w7 w') (exact exttI) (first | ((go_at_call 17; refine (law21_own _ u1 ts (t1.ext (by exact exttI))).mono ?_; rintro e w8 ⟨x1, rfl, hx1, hE8⟩); have hXw8 := (show Ext w7 w8 by exact exttI)) | (go_at_call 16; refine (ref21_Same _ _ _ ts ts (hx1.ext (by exact exttI)) (t2.ext (by exact exttI))).mono ?_; rintro e wa ⟨rfl, hD⟩; rw [decide_eq_true rfl]; replace hD := hD.ext; have hXwa := (show Ext w7 wa by exact exttI)))
      go_wp2_with (fail)
      go_roundw
      case rel => exact ⟨k + 1, by go_num, by omega, hXwa⟩
      case measure => simp [intOf]; omega
    · go_wp2_with (fail)
      go_ret
      exact ⟨rfl, hE.trans' hEr⟩
theorem own : ownKnob Tryz.prog.godebug = none := by kernel_rfl
open Go.ChangeShapes Go.WideShapes Go.ChangeAt in
open Go.ChangeMaps (open_string shut_string) in
set_option maxRecDepth 100000 in
set_option maxHeartbeats 2000000 in
theorem lifted (os : Os) (started : os.Started) (H : Type) (enc : TypeId × Value → H) :
    ReturnsInHanded {} Tryz.checked os 6 .any (fun w args => (Rows.lexerLinesSpec.pre enc Tryz.prog Tryz.f6 Rows.lexerLinesRow.domain false w args ∧ laidMetH Tryz.prog Rows.lexerLinesRow.laid w) ∧ sizedMet enc Tryz.prog Tryz.f6 (OpenSpec.ofChange Rows.lexerLinesSpec) false w args)
      (Rows.lexerLinesSpec.post enc Tryz.prog Tryz.f6 false true false false) := by
  refine returnsInHanded_of_change_and (C := Tryz.checked) (X := fun w _ => laidMetH Tryz.prog Rows.lexerLinesRow.laid w) (fun _ _ _ hh h => h.of_heap hh) own started (by kernel_rfl) Tryz.func6
    (ChangeSpec.witness_shaped (enc := enc) (C := Tryz.checked) (os := os) (X := fun w _ => laidMetH Tryz.prog Rows.lexerLinesRow.laid w) false (World.laidAll Tryz.prog os Rows.lexerLinesRow.laid) #[.string ByteArray.empty] 8 (World.laidAll_os _ _ _)
      (World.shaped_of_ZipB (by kernel_rfl) (by kernel_rfl)) (by kernel_rfl) (by kernel_rfl) (by kernel_rfl)
      (by rw [MakeChecks.laidMetH_plain _ _ _ (by kernel_rfl)]; exact laidMet_laidAll _ (by kernel_rfl) (by kernel_rfl))) ?_
  intro W base args ds gs before hval0 hW _ _ _ _
  have hval : ∀ (j : Nat) t v, Tryz.f6.params[j]? = some t → args[j]? = some v → Value.okWide Tryz.prog W .any base t v := hval0
  have hW' := hW
  obtain ⟨p, q, hA0, hV, rfl, hfz, hnd⟩ := hW
  have hA : DataW.TrodAll enc Tryz.prog W 0 (fun _ => true) true Tryz.f6.params.toList args.toList ds p := hA0
  rw [Tryz.params6] at hA hval
  obtain ⟨v0, vs0, d0, ds0, p0, q0, hargs, rfl, rfl, h0, r0⟩ := trodAll_cons hA
  obtain ⟨rfl, rfl, rfl⟩ := trodAll_nil r0
  obtain rfl : args = #[v0] := by cases args; simp_all
  obtain ⟨rfl, rfl⟩ := trodVars_none hV
  obtain ⟨a0, rfl, rfl, rfl, y0⟩ := open_string Tryz.underlying9 (hval 0 9 v0 rfl rfl) h0
  clear hA0 hval0
  refine (lines_walk W a0).mono fun e W' ⟨he, bel⟩ => ?_
  subst he
  exact ⟨_, rfl, _, _, _, [], _, [], hW', trodAll_mk1 (shut_bool Tryz.underlying4 _), (trodAll_cons_mk (shut_string Tryz.underlying9 y0) trodAll_mk0), rfl, bel.frame _, fun h => by cases h⟩
theorem over : Rows.LexerLinesSaid :=
  OpenClaim.holds_of_wide 6 Tryz.f6 rfl rfl rfl rfl rfl rfl rfl ⟨rfl, rfl, rfl, rfl, rfl⟩ rfl rfl rfl rfl rfl (by kernel_rfl) Tryz.func6 (by kernel_rfl)
    (of_decide_eq_true (by kernel_rfl)) (by unfold Func.isWrapper; first | (rw [if_pos (by decide +kernel)]; kernel_rfl) | (rw [if_neg (by decide +kernel)]; exact ⟨rfl, rfl⟩))
    (fun os started H enc _ => lifted os started H enc)
theorem card : Rows.LexerLinesCardSaid :=
  Claim7.holds_tied_plain_at .later [] _ _ _ _ over (fun _ h => by cases h) (by kernel_rfl) (fun _ h => by cases h) lexerLines_row_tie rfl ⟨rfl, rfl⟩ (by kernel_rfl) rfl
    (fun f fn hf hfn => by
      obtain rfl : f = 6 := Option.some.inj ((show Tryz.prog.funcNamed "swarf/swarflaw21.LexerLines" = some 6 by kernel_rfl).symm.trans hf) |>.symm
      obtain rfl : fn = Tryz.f6 := (Option.some.inj (Tryz.func6.symm.trans hfn)).symm
      exact ⟨by kernel_rfl, fun j t ht => by
        rw [Tryz.params6] at ht
        have hm : t ∈ [9] := by simpa using Array.mem_of_getElem? ht
        have hall : (([9] : List Nat).all fun u => !Tryz.prog.wantsStandIn u) = true := by kernel_rfl
        exact (show Tryz.prog.wantsStandIn t = false by simpa using List.all_eq_true.1 hall t hm)⟩)
    (by kernel_rfl)
#print axioms card
end Go.Proofs.YtechjiiijiipdaaGreatDoor

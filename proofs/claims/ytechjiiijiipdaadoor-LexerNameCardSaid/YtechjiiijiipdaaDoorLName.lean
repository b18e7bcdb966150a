/- THE LAW LexerName: IsName accepts exactly the names, and a name is the only token of its line: for every string the law returns true. No condition. -/
import Derived.Test.YtechjiiijiipdaaDoorW27
import Derived.Test.YtechjiiijiipdaaDoorN2
import Derived.Test.YtechjiiijiipdaaDoorCards
import Derived.Test.YtechjiiijiipdaaDoorTie
import Derived.ProofKit
import Derived.OpenShut
import Derived.ShutString
import Derived.LaidMore
import Derived.Lay
import Derived.SevenTiedAt
import Derived.Stop.Joined
namespace Go.Proofs.YtechjiiijiipdaaDoor
open Go.RowKit
set_option linter.unusedSimpArgs false
set_option linter.unusedVariables false
attribute [local irreducible] Toks tokF isNameB
theorem Toks.one {w : World} {v : Value} {k : Int} {p : Nat} {x : List UInt8} (h : Toks w v [⟨k, p, x⟩]) : ∃ b o c, v = .slice (some ⟨b, o, none⟩) 1 c ∧ ∀ w', Ext w w' → w'.cell? ⟨b, o, none⟩ = some (.int .i64 k) ∧ w'.cell? ⟨b, o + 1, none⟩ = some (.int .i64 p) ∧ w'.cell? ⟨b, o + 2, none⟩ = some (.string ⟨x.toArray⟩) := by
  unfold Toks at h
  obtain ⟨a, c, rfl, _, h⟩ := h
  rcases h with h | ⟨b, o, rfl, hlt, h⟩
  · simp at h
  · obtain ⟨h1, h2, h3⟩ := h 0 (by simp)
    simp only [Nat.zero_mul, Nat.add_zero] at h1 h2 h3
    exact ⟨b, o, c, rfl, fun w' e => ⟨(e.cell (p := ⟨b, o, none⟩) hlt).trans h1, (e.cell (p := ⟨b, o + 1, none⟩) hlt).trans h2, (e.cell (p := ⟨b, o + 2, none⟩) hlt).trans h3⟩⟩
set_option maxRecDepth 100000 in
set_option maxHeartbeats 4000000 in
theorem name_walk (w : World) (s : ByteArray) : Calls Tryd.prog 6 #[.string s] w fun e w' => e = .returned (.bool true) ∧ Ext w w' := by
  have HA := Lib.hid law21_awake
  by_cases h1 : 100 < s.size
  · have g1 : decide ((100 : Int) < (s.size : Int)) = true := by simp; omega
    clear h1
    go_enter Tryd.func6, Tryd.ntmps6
    go_wp2_with (go_at_call 7; refine (HA.out _).mono ?_; rintro e w5 ⟨rfl, hE5⟩)
    go_ret
    exact ⟨rfl, by exact exttI⟩
  have g1 : decide ((100 : Int) < (s.size : Int)) = false := by simp; omega
  have hs : s.size ≤ 100 := by omega
  have hR := Lib.hid (fun w => ref21_IsName s w (by omega))
  have hL := Lib.hid (fun w => lexer_IsName s w (by omega))
  have hT := fun w => lexer_Tokens s w (by omega)
  have hN := @tok_name s.data.toList
  generalize isNameB s.data.toList = B at *
  cases B with
  | true =>
    rw [hN rfl] at hT
    have HT := Lib.hid hT
    clear hT hN h1
    have hEq := fun w => tok_eqLex w 1 0 1 0 s s
    go_enter Tryd.func6, Tryd.ntmps6
    go_upto_region 3 with (go_at_call 7; refine (HA.out _).mono ?_; rintro e w5 ⟨rfl, hE5⟩)
    go_upto_region 4 with (go_at_call 11; refine (hR.out _).mono ?_; rintro e w6 ⟨rfl, rfl⟩)
    go_upto_region 5 with (go_at_call 8; refine (HT.out _).mono ?_; rintro e w7 ⟨v1, rfl, ht1, hE7⟩)
    have hE : Ext w w7 := by exact exttI
    obtain ⟨b, o, c, rfl, hcell⟩ := ht1.one
    have hc1 := (hcell w7 (Ext.rfl' _)).1
    have hc2 := (hcell w7 (Ext.rfl' _)).2.1
    have hc3 := (hcell w7 (Ext.rfl' _)).2.2
    rw [show (⟨s.data.toList.toArray⟩ : ByteArray) = s from by simp] at hc3
    clear hcell ht1
    go_wp2_with (go_at_call 12; refine (hL.out _).mono ?_; rintro e w8 ⟨rfl, rfl⟩)
    trace_state
    go_ret
    exact ⟨rfl, hE⟩
  | false =>
    generalize tokF s.data.toList = R at *
    obtain ⟨ts, p, er⟩ := R
    have HT := Lib.hid hT
    clear hT hN h1
    go_enter Tryd.func6, Tryd.ntmps6
    go_upto_region 3 with (go_at_call 7; refine (HA.out _).mono ?_; rintro e w5 ⟨rfl, hE5⟩)
    go_upto_region 4 with (go_at_call 11; refine (hR.out _).mono ?_; rintro e w6 ⟨rfl, rfl⟩)
    go_upto_region 5 with (go_at_call 8; refine (HT.out _).mono ?_; rintro e w7 ⟨v1, rfl, ht1, hE7⟩)
    have hE : Ext w w7 := by exact exttI
    unfold Toks at ht1
    obtain ⟨a, c, rfl, _, _⟩ := ht1
    go_wp2_with (go_at_call 12; refine (hL.out _).mono ?_; rintro e w8 ⟨rfl, rfl⟩)
    go_ret
    exact ⟨rfl, hE⟩
theorem own : ownKnob Tryd.prog.godebug = none := by kernel_rfl
open Go.ChangeShapes Go.WideShapes Go.ChangeAt in
open Go.ChangeMaps (open_string shut_string) in
set_option maxRecDepth 100000 in
set_option maxHeartbeats 2000000 in
theorem lifted (os : Os) (started : os.Started) (H : Type) (enc : TypeId × Value → H) :
    ReturnsInHanded {} Tryd.checked os 6 .any (fun w args => (Rows.lexerNameSpec.pre enc Tryd.prog Tryd.f6 Rows.lexerNameRow.domain false w args ∧ laidMetH Tryd.prog Rows.lexerNameRow.laid w) ∧ sizedMet enc Tryd.prog Tryd.f6 (OpenSpec.ofChange Rows.lexerNameSpec) false w args)
      (Rows.lexerNameSpec.post enc Tryd.prog Tryd.f6 false true false false) := by
  refine returnsInHanded_of_change_and (C := Tryd.checked) (X := fun w _ => laidMetH Tryd.prog Rows.lexerNameRow.laid w) (fun _ _ _ hh h => h.of_heap hh) own started (by kernel_rfl) Tryd.func6
    (ChangeSpec.witness_shaped (enc := enc) (C := Tryd.checked) (os := os) (X := fun w _ => laidMetH Tryd.prog Rows.lexerNameRow.laid w) false (World.laidAll Tryd.prog os Rows.lexerNameRow.laid) #[.string ByteArray.empty] 8 (World.laidAll_os _ _ _)
      (World.shaped_of_ZipB (by kernel_rfl) (by kernel_rfl)) (by kernel_rfl) (by kernel_rfl) (by kernel_rfl)
      (by rw [MakeChecks.laidMetH_plain _ _ _ (by kernel_rfl)]; exact laidMet_laidAll _ (by kernel_rfl) (by kernel_rfl))) ?_
  intro W base args ds gs before hval0 hW _ _ _ _
  have hval : ∀ (j : Nat) t v, Tryd.f6.params[j]? = some t → args[j]? = some v → Value.okWide Tryd.prog W .any base t v := hval0
  have hW' := hW
  obtain ⟨p, q, hA0, hV, rfl, hfz, hnd⟩ := hW
  have hA : DataW.TrodAll enc Tryd.prog W 0 (fun _ => true) true Tryd.f6.params.toList args.toList ds p := hA0
  rw [Tryd.params6] at hA hval
  obtain ⟨v0, vs0, d0, ds0, p0, q0, hargs, rfl, rfl, h0, r0⟩ := trodAll_cons hA
  obtain ⟨rfl, rfl, rfl⟩ := trodAll_nil r0
  obtain rfl : args = #[v0] := by cases args; simp_all
  obtain ⟨rfl, rfl⟩ := trodVars_none hV
  obtain ⟨a0, rfl, rfl, rfl, y0⟩ := open_string Tryd.underlying9 (hval 0 9 v0 rfl rfl) h0
  clear hA0 hval0
  refine (name_walk W a0).mono fun e W' ⟨he, bel⟩ => ?_
  subst he
  exact ⟨_, rfl, _, _, _, [], _, [], hW', trodAll_mk1 (shut_bool Tryd.underlying4 _), (trodAll_cons_mk (shut_string Tryd.underlying9 y0) trodAll_mk0), rfl, bel.frame _, fun h => by cases h⟩
theorem over : Rows.LexerNameSaid :=
  OpenClaim.holds_of_wide 6 Tryd.f6 rfl rfl rfl rfl rfl rfl rfl ⟨rfl, rfl, rfl, rfl, rfl⟩ rfl rfl rfl rfl rfl (by kernel_rfl) Tryd.func6 (by kernel_rfl)
    (of_decide_eq_true (by kernel_rfl)) (by unfold Func.isWrapper; first | (rw [if_pos (by decide +kernel)]; kernel_rfl) | (rw [if_neg (by decide +kernel)]; exact ⟨rfl, rfl⟩))
    (fun os started H enc _ => lifted os started H enc)
theorem card : Rows.LexerNameCardSaid :=
  Claim7.holds_tied_plain_at .later [] _ _ _ _ over (fun _ h => by cases h) (by kernel_rfl) (fun _ h => by cases h) lexerName_row_tie rfl ⟨rfl, rfl⟩ (by kernel_rfl) rfl
    (fun f fn hf hfn => by
      obtain rfl : f = 6 := Option.some.inj ((show Tryd.prog.funcNamed "swarf/swarflaw21.LexerName" = some 6 by kernel_rfl).symm.trans hf) |>.symm
      obtain rfl : fn = Tryd.f6 := (Option.some.inj (Tryd.func6.symm.trans hfn)).symm
      exact ⟨by kernel_rfl, fun j t ht => by
        rw [Tryd.params6] at ht
        have hm : t ∈ [9] := by simpa using Array.mem_of_getElem? ht
        have hall : (([9] : List Nat).all fun u => !Tryd.prog.wantsStandIn u) = true := by kernel_rfl
        exact (show Tryd.prog.wantsStandIn t = false by simpa using List.all_eq_true.1 hall t hm)⟩)
    (by kernel_rfl)
#print axioms card
end Go.Proofs.YtechjiiijiipdaaDoor

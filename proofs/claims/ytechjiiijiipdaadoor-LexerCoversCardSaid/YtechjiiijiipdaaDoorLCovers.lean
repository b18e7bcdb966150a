/- THE LAW LexerCovers: the tokens of a line stand in it at their offsets, in order, with spaces alone between them, and a comment or spaces behind them: for every line the law returns true. No condition. -/
import Derived.Test.YtechjiiijiipdaaDoorW27
import Derived.Test.YtechjiiijiipdaaDoorPCovers
import Derived.Test.YtechjiiijiipdaaDoorCards
import Derived.Test.YtechjiiijiipdaaDoorTie
import Derived.ProofKit
import Derived.OpenShut
import Derived.ShutString
import Derived.LaidMore
import Derived.Lay
import Derived.SevenTiedAt
import Derived.Stop.Joined
namespace Go.Proofs.YtechjiiijiipdaaDoor
open Go.RowKit
set_option linter.unusedSimpArgs false
set_option linter.unusedVariables false
attribute [local irreducible] Toks tokF
theorem cells_of3 {w : World} {p : Nat} {x y z : Value} {t : TypeId} (h : w.heap[p]? = some (.cells #[x, y, z] t (0, 0))) : w.cell? ⟨p, 0, none⟩ = some x ∧ w.cell? ⟨p, 1, none⟩ = some y ∧ w.cell? ⟨p, 2, none⟩ = some z :=
  ⟨(cell_of h 0 _ rfl).1, (cell_of h 1 _ rfl).1, (cell_of h 2 _ rfl).1⟩
set_option maxRecDepth 100000 in
set_option maxHeartbeats 4000000 in
theorem covers_walk (w : World) (s : ByteArray) : Calls Tryd.prog 3 #[.string s] w fun e w' => e = .returned (.bool true) ∧ Ext w w' := by
  have HA := Lib.hid law21_awake
  by_cases h1 : 300 < s.size
  · have g1 : decide ((300 : Int) < (s.size : Int)) = true := by simp; omega
    clear h1
    go_enter Tryd.func3, Tryd.ntmps3
    go_wp2_with (go_at_call 7; refine (HA.out _).mono ?_; rintro e w5 ⟨rfl, hE5⟩)
    go_ret
    exact ⟨rfl, by exact exttI⟩
  have g1 : decide ((300 : Int) < (s.size : Int)) = false := by simp; omega
  have hs : s.size ≤ 300 := by omega
  have hz := Lib.size_eq s
  obtain ⟨hcv, hbad⟩ := tok_cov (l := s.data.toList) (by omega)
  have hT := fun w => lexer_Tokens s w (by omega)
  generalize tokF s.data.toList = R at *
  obtain ⟨ts, p, er⟩ := R
  have HT := Lib.hid hT
  have HZ := Lib.hid hz
  clear hT hz h1
  simp only at hcv hbad
  go_enter Tryd.func3, Tryd.ntmps3
  go_upto_region 3 with (go_at_call 7; refine (HA.out _).mono ?_; rintro e w5 ⟨rfl, hE5⟩)
  go_upto_region 4 with (go_at_call 8; refine (HT.out _).mono ?_; rintro e w6 ⟨v1, rfl, ht, hE6⟩)
  have hE : Ext w w6 := by exact exttI
  clear HA HT hE5 hE6
  by_cases he : er = 0
  · subst he
    have HC := Lib.hid (hcv rfl)
    clear hcv hbad
    unfold Toks at ht
    obtain ⟨a, c, rfl, hlen, hcells⟩ := ht
    go_wp2_with (first | fail)
    go_loopw [6, 30] (fun a i w' => ∃ (k b : Nat), k ≤ ts.length ∧ i = .int .i64 k ∧ a = .int .i64 b ∧ b ≤ s.size ∧ Hid (Cov s.data.toList b (ts.drop k)) ∧ Ext w6 w') (fun _ i _ => ts.length - (intOf i).toNat)
    case atStart => exact ⟨0, 0, by omega, rfl, rfl, by omega, HC, Ext.rfl' _⟩
    case round =>
      clear HC
      obtain ⟨k, b, hk, rfl, rfl, hb, HC, hEr⟩ := hrel
      by_cases hlt : k < ts.length
      · rcases hcells with rfl | ⟨bb, o, rfl, hbl, hcells⟩
        · simp at hlt
        have hcov := HC.out
        rw [List.drop_eq_getElem_cons hlt] at hcov
        unfold Cov at hcov
        obtain ⟨t1, t2, t3, t4, t5, t6⟩ := hcov
        obtain ⟨c1, c2, c3⟩ := hcells k hlt
        replace c1 := (hEr.cell (p := ⟨bb, o + k * 3, none⟩) hbl).trans c1
        replace c2 := (hEr.cell (p := ⟨bb, o + k * 3 + 1, none⟩) hbl).trans c2
        replace c3 := (hEr.cell (p := ⟨bb, o + k * 3 + 2, none⟩) hbl).trans c3
        clear hcells HC
        go_upto_region 10 with (fail)
        obtain ⟨w7, q, e1, e2, h2, hE7⟩ := box1 wr (.cells #[.int .i64 ts[k].kind, .int .i64 (ts[k].pos : Int), .string ⟨ts[k].text.toArray⟩] 28)
        rw [e1, e2]
        clear e1 e2 c1 c2 c3
        obtain ⟨q0, q1, q2⟩ := cells_of3 h2
        have T6 := Lib.hid t6
        have T5 := Lib.hid t5
        have hxs : (⟨ts[k].text.toArray⟩ : ByteArray).size = ts[k].text.length := by simp [ByteArray.size]
        have hsub : s.extract ts[k].pos (ts[k].pos + ts[k].text.length) = ⟨ts[k].text.toArray⟩ := by rw [cut_extract, t4]
        generalize (⟨ts[k].text.toArray⟩ : ByteArray) = x at *
        generalize ts[k].pos = pos at *
        generalize ts[k].kind = kd at *
        rw [← hxs] at hsub t2 t3
        have hzI := HZ.out
        rw [← HZ.out] at t2
        have XS := Lib.hid hxs
        clear hxs t4 t5 t6 hzI
        have f1 : decide (pos < b) = false := decide_eq_false (by omega)
        have f2 : IntKind.i64.wrap ((s.size : Int) - (x.size : Int)) = (s.size : Int) - (x.size : Int) := IntWalk.i64_in _ (by omega)
        have f3 : decide ((s.size : Int) - (x.size : Int) < (pos : Int)) = false := by simp; omega
        have f4 : ((x.size : Int) == 0) = false := beq_eq_false_iff_ne.2 (by omega)
        have f5 : IntKind.i64.wrap ((pos : Int) + (x.size : Int)) = ((pos + x.size : Nat) : Int) := (IntWalk.i64_in _ (by omega)).trans (by omega)
        have f6 : (pos : Int) ≤ ((pos + x.size : Nat) : Int) := by omega
        have f7 : ((pos + x.size : Nat) : Int) ≤ (s.size : Int) := by omega
        have f8 : (pos : Int) ≤ (s.size : Int) := by omega
        go_quiet (fail)
        go_wp2_with (first | fail)
        go_loop [6] (fun a => ∃ j : Nat, b ≤ j ∧ j ≤ pos ∧ a = .int .i64 j) (fun a => pos - (intOf a).toNat)
        case atStart => exact ⟨b, by omega, by omega, rfl⟩
        case round =>
          obtain ⟨j, hj1, hj2, rfl⟩ := hrel
          by_cases hjp : j < pos
          · have hp := T5.out j hj1 hjp
            rw [peekF_at (by omega)] at hp
            have e32 : ((s[j].toNat : Int) != 32) = false := by rw [hp]; rfl
            go_wp2
            go_round
            case rel => exact ⟨j + 1, by omega, by omega, by go_num⟩
            case measure => simp [intOf]; omega
          · obtain rfl : j = pos := by omega
            go_wp2
            go_roundw
            case rel => exact ⟨k + 1, j + x.size, by omega, by go_num, by go_num, by omega, by rw [XS.out]; exact T6, by exact exttI⟩
            case measure => simp [intOf]; omega
      · obtain rfl : k = ts.length := by omega
        have hcov := HC.out
        rw [List.drop_length] at hcov
        unfold Cov at hcov
        obtain ⟨j, j1, j2, j3, j4⟩ := hcov
        have J3 := Lib.hid j3
        have J4 := Lib.hid j4
        have hjs : j ≤ s.size := by rw [HZ.out]; exact j2
        clear HC hcells j2 j3 j4
        go_wp2
        go_loop [6] (fun a => ∃ m : Nat, b ≤ m ∧ m ≤ j ∧ a = .int .i64 m) (fun a => j - (intOf a).toNat)
        case atStart => exact ⟨b, by omega, by omega, rfl⟩
        case round =>
          obtain ⟨m, m1, m2, rfl⟩ := hrel
          by_cases hmj : m < j
          · have hp := J3.out m m1 hmj
            rw [peekF_at (by omega)] at hp
            have e35 : ((s[m].toNat : Int) != 35) = true := by rw [hp]; rfl
            have e32 : ((s[m].toNat : Int) != 32) = false := by rw [hp]; rfl
            go_wp2
            go_round
            case rel => exact ⟨m + 1, by omega, by omega, by go_num⟩
            case measure => simp [intOf]; omega
          · obtain rfl : m = j := by omega
            by_cases hme : m < s.size
            · have hp := J4.out.resolve_left (by rw [← HZ.out]; omega)
              rw [peekF_at (by omega)] at hp
              have e35 : ((s[m].toNat : Int) != 35) = false := by rw [hp]; rfl
              go_wp2
              go_ret
              exact ⟨rfl, by exact exttI⟩
            · go_wp2
              go_ret
              exact ⟨rfl, by exact exttI⟩
  · have e0 : ts = [] := hbad he
    subst e0
    have g2 : ((er : Int) != 0) = true := by simp; omega
    unfold Toks at ht
    obtain ⟨a, c, rfl, _, _⟩ := ht
    clear hcv hbad he
    go_wp2_with (first | fail)
    go_ret
    exact ⟨rfl, hE⟩
theorem own : ownKnob Tryd.prog.godebug = none := by kernel_rfl
open Go.ChangeShapes Go.WideShapes Go.ChangeAt in
open Go.ChangeMaps (open_string shut_string) in
set_option maxRecDepth 100000 in
set_option maxHeartbeats 2000000 in
theorem lifted (os : Os) (started : os.Started) (H : Type) (enc : TypeId × Value → H) :
    ReturnsInHanded {} Tryd.checked os 3 .any (fun w args => (Rows.lexerCoversSpec.pre enc Tryd.prog Tryd.f3 Rows.lexerCoversRow.domain false w args ∧ laidMetH Tryd.prog Rows.lexerCoversRow.laid w) ∧ sizedMet enc Tryd.prog Tryd.f3 (OpenSpec.ofChange Rows.lexerCoversSpec) false w args)
      (Rows.lexerCoversSpec.post enc Tryd.prog Tryd.f3 false true false false) := by
  refine returnsInHanded_of_change_and (C := Tryd.checked) (X := fun w _ => laidMetH Tryd.prog Rows.lexerCoversRow.laid w) (fun _ _ _ hh h => h.of_heap hh) own started (by kernel_rfl) Tryd.func3
    (ChangeSpec.witness_shaped (enc := enc) (C := Tryd.checked) (os := os) (X := fun w _ => laidMetH Tryd.prog Rows.lexerCoversRow.laid w) false (World.laidAll Tryd.prog os Rows.lexerCoversRow.laid) #[.string ByteArray.empty] 8 (World.laidAll_os _ _ _)
      (World.shaped_of_ZipB (by kernel_rfl) (by kernel_rfl)) (by kernel_rfl) (by kernel_rfl) (by kernel_rfl)
      (by rw [MakeChecks.laidMetH_plain _ _ _ (by kernel_rfl)]; exact laidMet_laidAll _ (by kernel_rfl) (by kernel_rfl))) ?_
  intro W base args ds gs before hval0 hW _ _ _ _
  have hval : ∀ (j : Nat) t v, Tryd.f3.params[j]? = some t → args[j]? = some v → Value.okWide Tryd.prog W .any base t v := hval0
  have hW' := hW
  obtain ⟨p, q, hA0, hV, rfl, hfz, hnd⟩ := hW
  have hA : DataW.TrodAll enc Tryd.prog W 0 (fun _ => true) true Tryd.f3.params.toList args.toList ds p := hA0
  rw [Tryd.params3] at hA hval
  obtain ⟨v0, vs0, d0, ds0, p0, q0, hargs, rfl, rfl, h0, r0⟩ := trodAll_cons hA
  obtain ⟨rfl, rfl, rfl⟩ := trodAll_nil r0
  obtain rfl : args = #[v0] := by cases args; simp_all
  obtain ⟨rfl, rfl⟩ := trodVars_none hV
  obtain ⟨a0, rfl, rfl, rfl, y0⟩ := open_string Tryd.underlying9 (hval 0 9 v0 rfl rfl) h0
  clear hA0 hval0
  refine (covers_walk W a0).mono fun e W' ⟨he, bel⟩ => ?_
  subst he
  exact ⟨_, rfl, _, _, _, [], _, [], hW', trodAll_mk1 (shut_bool Tryd.underlying4 _), (trodAll_cons_mk (shut_string Tryd.underlying9 y0) trodAll_mk0), rfl, bel.frame _, fun h => by cases h⟩
theorem over : Rows.LexerCoversSaid :=
  OpenClaim.holds_of_wide 3 Tryd.f3 rfl rfl rfl rfl rfl rfl rfl ⟨rfl, rfl, rfl, rfl, rfl⟩ rfl rfl rfl rfl rfl (by kernel_rfl) Tryd.func3 (by kernel_rfl)
    (of_decide_eq_true (by kernel_rfl)) (by unfold Func.isWrapper; first | (rw [if_pos (by decide +kernel)]; kernel_rfl) | (rw [if_neg (by decide +kernel)]; exact ⟨rfl, rfl⟩))
    (fun os started H enc _ => lifted os started H enc)
theorem card : Rows.LexerCoversCardSaid :=
  Claim7.holds_tied_plain_at .later [] _ _ _ _ over (fun _ h => by cases h) (by kernel_rfl) (fun _ h => by cases h) lexerCovers_row_tie rfl ⟨rfl, rfl⟩ (by kernel_rfl) rfl
    (fun f fn hf hfn => by
      obtain rfl : f = 3 := Option.some.inj ((show Tryd.prog.funcNamed "swarf/swarflaw21.LexerCovers" = some 3 by kernel_rfl).symm.trans hf) |>.symm
      obtain rfl : fn = Tryd.f3 := (Option.some.inj (Tryd.func3.symm.trans hfn)).symm
      exact ⟨by kernel_rfl, fun j t ht => by
        rw [Tryd.params3] at ht
        have hm : t ∈ [9] := by simpa using Array.mem_of_getElem? ht
        have hall : (([9] : List Nat).all fun u => !Tryd.prog.wantsStandIn u) = true := by kernel_rfl
        exact (show Tryd.prog.wantsStandIn t = false by simpa using List.all_eq_true.1 hall t hm)⟩)
    (by kernel_rfl)
#print axioms card
end Go.Proofs.YtechjiiijiipdaaDoor

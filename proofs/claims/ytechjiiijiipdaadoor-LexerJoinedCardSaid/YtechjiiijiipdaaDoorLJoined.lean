/- THE LAW LexerJoined: the tokens of a line, joined by single spaces, form a line with tokens of the same kinds and texts: for every line the law returns true. No condition. -/
import Derived.Test.YtechjiiijiipdaaDoorW27
import Derived.Test.YtechjiiijiipdaaDoorPJoined
import Derived.Test.YtechjiiijiipdaaDoorCards
import Derived.Test.YtechjiiijiipdaaDoorTie
import Derived.ProofKit
import Derived.OpenShut
import Derived.ShutString
import Derived.LaidMore
import Derived.Lay
import Derived.SevenTiedAt
import Derived.Stop.Joined
namespace Go.Proofs.YtechjiiijiipdaaDoor
open Go.RowKit
set_option linter.unusedSimpArgs false
set_option linter.unusedVariables false
attribute [local irreducible] Toks tokF jn
theorem cells_of3j {w : World} {p : Nat} {x y z : Value} {t : TypeId} (h : w.heap[p]? = some (.cells #[x, y, z] t (0, 0))) : w.cell? ⟨p, 0, none⟩ = some x ∧ w.cell? ⟨p, 1, none⟩ = some y ∧ w.cell? ⟨p, 2, none⟩ = some z :=
  ⟨(cell_of h 0 _ rfl).1, (cell_of h 1 _ rfl).1, (cell_of h 2 _ rfl).1⟩
theorem jn_nil : jn [] = [] := by unfold jn; rfl
theorem jn_one (t : Tok) : jn [t] = t.text := by unfold jn; rfl
theorem cov_text {l : List UInt8} : ∀ (ts : List Tok) (a : Nat), Cov l a ts → ∀ t ∈ ts, t.text.length ≤ l.length
  | [], _, _, t, ht => by simp at ht
  | t :: us, a, hc, u, hu => by
    unfold Cov at hc
    rcases List.mem_cons.1 hu with rfl | hu
    · omega
    · exact cov_text us _ hc.2.2.2.2.2 u hu
set_option maxRecDepth 100000 in
set_option maxHeartbeats 4000000 in
theorem joined_walk (w : World) (s : ByteArray) : Calls Tryd.prog 4 #[.string s] w fun e w' => e = .returned (.bool true) ∧ Ext w w' := by
  have HA := Lib.hid law21_awake
  by_cases h1 : 300 < s.size
  · have g1 : decide ((300 : Int) < (s.size : Int)) = true := by simp; omega
    clear h1
    go_enter Tryd.func4, Tryd.ntmps4
    go_wp2_with (go_at_call 7; refine (HA.out _).mono ?_; rintro e w5 ⟨rfl, hE5⟩)
    go_ret
    exact ⟨rfl, by exact exttI⟩
  have g1 : decide ((300 : Int) < (s.size : Int)) = false := by simp; omega
  have hs : s.size ≤ 300 := by omega
  have hz := Lib.size_eq s
  obtain ⟨hcv, hbad⟩ := tok_cov (l := s.data.toList) (by omega)
  have hjn := @tok_jn s.data.toList (by omega)
  have hT := fun w => lexer_Tokens s w (by omega)
  generalize tokF s.data.toList = R at *
  obtain ⟨ts, p, er⟩ := R
  have HT := Lib.hid hT
  simp only at hcv hbad hjn
  by_cases he : er = 0
  · subst he
    have hjl := jn_len _ 0 (by omega) (hcv rfl)
    obtain ⟨new, en1, en2⟩ := hjn rfl
    have hnl : new.length = ts.length := by have := congrArg List.length en2; simpa using this
    have hct : ∀ (k : Nat) (h : k < ts.length), ts[k].text.length ≤ 300 := fun k h => by
      have := cov_text _ _ (hcv rfl) ts[k] (List.getElem_mem h)
      omega
    have HCT := Lib.hid hct
    have hnk : ∀ (k : Nat) (h : k < ts.length), (new[k]'(by omega)).kind = ts[k].kind ∧ (new[k]'(by omega)).text = ts[k].text := fun k h => by
      have e1 : (new.map (fun t => (t.kind, t.text)))[k]'(by simpa [hnl] using h) = (ts.map (fun t => (t.kind, t.text)))[k]'(by simpa using h) := by simp only [en2]
      simpa using e1
    have hjs : (jn ts).length ≤ 600 := by omega
    have hts : ts.length ≤ 300 := by omega
    have HNK := Lib.hid hnk
    have EN := Lib.hid en1
    have HJS := Lib.hid hjs
    clear hT hz h1 hcv hbad hjn hct hnk en1 en2 hjl hjs
    go_enter Tryd.func4, Tryd.ntmps4
    go_upto_region 3 with (go_at_call 7; refine (HA.out _).mono ?_; rintro e w5 ⟨rfl, hE5⟩)
    go_upto_region 4 with (go_at_call 8; refine (HT.out _).mono ?_; rintro e w6 ⟨v1, rfl, ht, hE6⟩)
    have hE : Ext w w6 := by exact exttI
    clear HA HT hE5 hE6
    have HTK := Lib.hid ht
    unfold Toks at ht
    obtain ⟨a, c, rfl, hlen, hcells⟩ := ht
    go_wp2_with (first | fail)
    go_loopw [6, 31] (fun a i w' => ∃ (k : Nat) (X : ByteArray), k ≤ ts.length ∧ X.size ≤ 301 * k ∧ i = .int .i64 k ∧ a = .string X ∧ Hid (X.data.toList = jn (ts.take k)) ∧ Ext w6 w') (fun _ i _ => ts.length - (intOf i).toNat)
    case atStart => exact ⟨0, ⟨#[]⟩, by omega, by decide, rfl, rfl, Lib.hid (by rw [List.take_zero, jn_nil]), Ext.rfl' _⟩
    case round =>
      obtain ⟨k, X, hk, hXs, rfl, rfl, HX, hEr⟩ := hrel
      by_cases hlt : k < ts.length
      · rcases hcells with rfl | ⟨bb, o, rfl, hbl, hcells⟩
        · simp at hlt
        obtain ⟨c1, c2, c3⟩ := hcells k hlt
        replace c1 := (hEr.cell (p := ⟨bb, o + k * 3, none⟩) hbl).trans c1
        replace c2 := (hEr.cell (p := ⟨bb, o + k * 3 + 1, none⟩) hbl).trans c2
        replace c3 := (hEr.cell (p := ⟨bb, o + k * 3 + 2, none⟩) hbl).trans c3
        clear hcells
        go_upto_region 10 with (fail)
        obtain ⟨w7, q, e1, e2, h2, hE7⟩ := box1 wr (.cells #[.int .i64 ts[k].kind, .int .i64 (ts[k].pos : Int), .string ⟨ts[k].text.toArray⟩] 28)
        rw [e1, e2]
        clear e1 e2 c1 c2 c3
        obtain ⟨q0, q1, q2⟩ := cells_of3j h2
        have hxs : (⟨ts[k].text.toArray⟩ : ByteArray).data.toList = ts[k].text := by simp
        have hxz : (⟨ts[k].text.toArray⟩ : ByteArray).size ≤ 300 := by rw [Lib.size_eq, hxs]; exact HCT.out k hlt
        generalize (⟨ts[k].text.toArray⟩ : ByteArray) = x at *
        have hnx := List.take_succ_eq_append_getElem hlt
        by_cases hk0 : k = 0
        · have HX' : Hid ((X ++ x).data.toList = jn (ts.take (k + 1))) := Lib.hid (by
            have := HX.out
            rw [hnx]
            clear hnx
            subst hk0
            rw [List.take_zero, jn_nil] at this
            rw [List.take_zero, List.nil_append, jn_one, ← hxs]
            simp [this])
          have gk : decide ((0 : Int) < (k : Int)) = false := by simp; omega
          have gk2 : decide (0 < k) = false := by simp; omega
          have gk3 : ¬ (0 : Int) < (k : Int) := by omega
          have gk4 : ¬ 0 < k := by omega
          clear HX hxs hnx
          go_wp2_with (first | fail)
          go_roundw
          case rel => exact ⟨k + 1, X ++ x, by omega, by rw [ByteArray.size_append]; omega, by go_num, rfl, HX', by exact exttI⟩
          case measure => simp [intOf]; omega
        · have HX' : Hid ((X ++ ⟨#[32]⟩ ++ x).data.toList = jn (ts.take (k + 1))) := Lib.hid (by
            rw [hnx, jn_snoc _ _ (by intro h; have := congrArg List.length h; rw [List.length_take, List.length_nil] at this; omega), ← HX.out, ← hxs]; simp)
          have gk : decide ((0 : Int) < (k : Int)) = true := by simp; omega
          have gk2 : decide (0 < k) = true := by simp; omega
          have gk3 : (0 : Int) < (k : Int) := by omega
          have gk4 : 0 < k := by omega
          clear HX hxs hnx
          go_wp2_with (first | fail)
          go_roundw
          case rel => exact ⟨k + 1, X ++ ⟨#[32]⟩ ++ x, by omega, by rw [ByteArray.size_append, ByteArray.size_append, show (⟨#[32]⟩ : ByteArray).size = 1 from rfl]; omega, by go_num, rfl, HX', by exact exttI⟩
          case measure => simp [intOf]; omega
      · obtain rfl : k = ts.length := by omega
        have hX := HX.out
        rw [List.take_length] at hX
        have hT2 := fun w => lexer_Tokens X w (by rw [Lib.size_eq, hX]; have := HJS.out; omega)
        rw [hX, EN.out] at hT2
        have HT2 := Lib.hid hT2
        clear hT2 hX HX HJS
        go_upto_region 15 with (go_at_call 8; refine (HT2.out _).mono ?_; rintro e w8 ⟨v2, rfl, ht2, hE8⟩)
        unfold Toks at ht2
        obtain ⟨a2, c2, rfl, hlen2, hcells2⟩ := ht2
        rw [hnl]
        have hE9 := hEr.trans' hE8
        clear HT2 EN
        go_wp2_with (first | fail)
        go_loopw [62] (fun i w' => ∃ k : Nat, k ≤ ts.length ∧ i = .int .i64 k ∧ Ext w8 w') (fun i _ => ts.length - (intOf i).toNat)
        case atStart => exact ⟨0, by omega, rfl, Ext.rfl' _⟩
        case round =>
          obtain ⟨k, hk, rfl, hEL⟩ := hrel
          replace hE9 := hE9.trans' hEL
          by_cases hlt : k < ts.length
          · rcases hcells with rfl | ⟨bb, o, rfl, hbl, hcells⟩
            · simp at hlt
            rcases hcells2 with rfl | ⟨b2, o2, rfl, hbl2, hcells2⟩
            · simp at hnl; omega
            obtain ⟨c1, _, c3⟩ := hcells k hlt
            obtain ⟨d1, _, d3⟩ := hcells2 k (by omega)
            rw [(HNK.out k hlt).1] at d1
            rw [(HNK.out k hlt).2] at d3
            replace c1 := (hE9.cell (p := ⟨bb, o + k * 3, none⟩) hbl).trans c1
            replace c3 := (hE9.cell (p := ⟨bb, o + k * 3 + 2, none⟩) hbl).trans c3
            replace d1 := (hEL.cell (p := ⟨b2, o2 + k * 3, none⟩) hbl2).trans d1
            replace d3 := (hEL.cell (p := ⟨b2, o2 + k * 3 + 2, none⟩) hbl2).trans d3
            clear hcells hcells2
            go_upto_region 20 with (fail)
            go_quiet (fail)
            go_wp2_with (first | fail)
            go_roundw
            case rel => exact ⟨k + 1, by omega, by go_num, by exact exttI⟩
            case measure => simp [intOf]; omega
          · obtain rfl : k = ts.length := by omega
            go_wp2_with (first | fail)
            go_ret
            exact ⟨rfl, by exact exttI⟩
  · have g2 : ((er : Int) != 0) = true := by simp; omega
    clear hT hz h1 hcv hbad hjn
    go_enter Tryd.func4, Tryd.ntmps4
    go_upto_region 3 with (go_at_call 7; refine (HA.out _).mono ?_; rintro e w5 ⟨rfl, hE5⟩)
    go_upto_region 4 with (go_at_call 8; refine (HT.out _).mono ?_; rintro e w6 ⟨v1, rfl, ht, hE6⟩)
    go_wp2_with (first | fail)
    go_ret
    exact ⟨rfl, by exact exttI⟩
theorem own : ownKnob Tryd.prog.godebug = none := by kernel_rfl
open Go.ChangeShapes Go.WideShapes Go.ChangeAt in
open Go.ChangeMaps (open_string shut_string) in
set_option maxRecDepth 100000 in
set_option maxHeartbeats 2000000 in
theorem lifted (os : Os) (started : os.Started) (H : Type) (enc : TypeId × Value → H) :
    ReturnsInHanded {} Tryd.checked os 4 .any (fun w args => (Rows.lexerJoinedSpec.pre enc Tryd.prog Tryd.f4 Rows.lexerJoinedRow.domain false w args ∧ laidMetH Tryd.prog Rows.lexerJoinedRow.laid w) ∧ sizedMet enc Tryd.prog Tryd.f4 (OpenSpec.ofChange Rows.lexerJoinedSpec) false w args)
      (Rows.lexerJoinedSpec.post enc Tryd.prog Tryd.f4 false true false false) := by
  refine returnsInHanded_of_change_and (C := Tryd.checked) (X := fun w _ => laidMetH Tryd.prog Rows.lexerJoinedRow.laid w) (fun _ _ _ hh h => h.of_heap hh) own started (by kernel_rfl) Tryd.func4
    (ChangeSpec.witness_shaped (enc := enc) (C := Tryd.checked) (os := os) (X := fun w _ => laidMetH Tryd.prog Rows.lexerJoinedRow.laid w) false (World.laidAll Tryd.prog os Rows.lexerJoinedRow.laid) #[.string ByteArray.empty] 8 (World.laidAll_os _ _ _)
      (World.shaped_of_ZipB (by kernel_rfl) (by kernel_rfl)) (by kernel_rfl) (by kernel_rfl) (by kernel_rfl)
      (by rw [MakeChecks.laidMetH_plain _ _ _ (by kernel_rfl)]; exact laidMet_laidAll _ (by kernel_rfl) (by kernel_rfl))) ?_
  intro W base args ds gs before hval0 hW _ _ _ _
  have hval : ∀ (j : Nat) t v, Tryd.f4.params[j]? = some t → args[j]? = some v → Value.okWide Tryd.prog W .any base t v := hval0
  have hW' := hW
  obtain ⟨p, q, hA0, hV, rfl, hfz, hnd⟩ := hW
  have hA : DataW.TrodAll enc Tryd.prog W 0 (fun _ => true) true Tryd.f4.params.toList args.toList ds p := hA0
  rw [Tryd.params4] at hA hval
  obtain ⟨v0, vs0, d0, ds0, p0, q0, hargs, rfl, rfl, h0, r0⟩ := trodAll_cons hA
  obtain ⟨rfl, rfl, rfl⟩ := trodAll_nil r0
  obtain rfl : args = #[v0] := by cases args; simp_all
  obtain ⟨rfl, rfl⟩ := trodVars_none hV
  obtain ⟨a0, rfl, rfl, rfl, y0⟩ := open_string Tryd.underlying9 (hval 0 9 v0 rfl rfl) h0
  clear hA0 hval0
  refine (joined_walk W a0).mono fun e W' ⟨he, bel⟩ => ?_
  subst he
  exact ⟨_, rfl, _, _, _, [], _, [], hW', trodAll_mk1 (shut_bool Tryd.underlying4 _), (trodAll_cons_mk (shut_string Tryd.underlying9 y0) trodAll_mk0), rfl, bel.frame _, fun h => by cases h⟩
theorem over : Rows.LexerJoinedSaid :=
  OpenClaim.holds_of_wide 4 Tryd.f4 rfl rfl rfl rfl rfl rfl rfl ⟨rfl, rfl, rfl, rfl, rfl⟩ rfl rfl rfl rfl rfl (by kernel_rfl) Tryd.func4 (by kernel_rfl)
    (of_decide_eq_true (by kernel_rfl)) (by unfold Func.isWrapper; first | (rw [if_pos (by decide +kernel)]; kernel_rfl) | (rw [if_neg (by decide +kernel)]; exact ⟨rfl, rfl⟩))
    (fun os started H enc _ => lifted os started H enc)
theorem card : Rows.LexerJoinedCardSaid :=
  Claim7.holds_tied_plain_at .later [] _ _ _ _ over (fun _ h => by cases h) (by kernel_rfl) (fun _ h => by cases h) lexerJoined_row_tie rfl ⟨rfl, rfl⟩ (by kernel_rfl) rfl
    (fun f fn hf hfn => by
      obtain rfl : f = 4 := Option.some.inj ((show Tryd.prog.funcNamed "swarf/swarflaw21.LexerJoined" = some 4 by kernel_rfl).symm.trans hf) |>.symm
      obtain rfl : fn = Tryd.f4 := (Option.some.inj (Tryd.func4.symm.trans hfn)).symm
      exact ⟨by kernel_rfl, fun j t ht => by
        rw [Tryd.params4] at ht
        have hm : t ∈ [9] := by simpa using Array.mem_of_getElem? ht
        have hall : (([9] : List Nat).all fun u => !Tryd.prog.wantsStandIn u) = true := by kernel_rfl
        exact (show Tryd.prog.wantsStandIn t = false by simpa using List.all_eq_true.1 hall t hm)⟩)
    (by kernel_rfl)
#print axioms card
end Go.Proofs.YtechjiiijiipdaaDoor

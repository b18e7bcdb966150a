/- Walk: lexer.Tokens: the slice is the call's own. Walk over the reference's lexer: Tokens: the slice is the call's own. The lines of a text; strings.Split at line ends; words for slices of lines. Words for slices of lines; walk: lexer.Lines. Walk: lexer.Lines. Walk over the reference's lexer: Lines. -/
import Derived.Test.YtechjiiijiipdaaGreatDoorMB
import Derived.Test.YtechjiiijiipdaaGreatDoorME
import Derived.Test.YtechjiiijiipdaaGreatDoorShelf2
import Derived.Lib.SplitLaws
namespace Go.Proofs.YtechjiiijiipdaaGreatDoor
open Go.RowKit
set_option linter.unusedSimpArgs false
set_option linter.unusedVariables false
attribute [local irreducible] IsInt U32s Dig Norm Own IsRat AllD dec digF isDec decQ stepF lexF tokF runF peekF numF letterB digitB nameB symB symI cutF OwnT Toks
set_option maxRecDepth 100000 in
set_option maxHeartbeats 8000000 in
theorem lexer_TokensO (s : ByteArray) (w : World) (hs : s.size ≤ 65536) :
    Calls Tryz.prog 14 #[.string s] w fun e w' => ∃ v, e = .returned (.tuple #[v, .int .i64 ((tokF s.data.toList).2.1 : Nat), .int .i64 ((tokF s.data.toList).2.2 : Nat)]) ∧ OwnT 84 w.heap.size w' v (tokF s.data.toList).1 ∧ Ext w w' := by
  have hz := Lib.size_eq s
  have hT : Hid (tokF s.data.toList = lexF s.data.toList (s.data.toList.length + 1) 0 []) := by
    refine Lib.hid ?_
    unfold tokF; rw [if_neg (by omega)]
  have HZ := Lib.hid hz
  clear hz
  generalize tokF s.data.toList = R at *
  have hsI : ¬ (65536 : Int) < (s.size : Int) := by omega
  go_enter Tryz.func14, Tryz.ntmps14
  go_wp2_with (first | fail)
  go_loopw [5, 6] (fun o a w' => ∃ (k f : Nat) (ts : List Tok), a = .int .i64 k ∧ k ≤ s.size ∧ s.size < k + f ∧ ts.length ≤ k ∧ OwnT 84 w.heap.size w' o ts ∧ Hid (R = lexF s.data.toList f k ts) ∧ Ext w w') (fun _ a _ => s.size - (intOf a).toNat)
  case atStart => exact ⟨0, s.data.toList.length + 1, [], rfl, by omega, by have := HZ.out; omega, by simp, OwnT.nil _ _ _, hT, Ext.rfl' w⟩
  case round =>
    clear hT
    obtain ⟨k, f, ts, rfl, hk, hf, htl, hown, hR, hE⟩ := hrel
    obtain ⟨f, rfl⟩ : ∃ g, f = g + 1 := ⟨f - 1, by omega⟩
    by_cases hlt : k < s.size
    · have hp := peekF_at hlt
      by_cases h35 : s[k] = 35
      · have e35 : ((s[k].toNat : Int) != 35) = false := by rw [h35]; rfl
        have hst : Hid (stepF s.data.toList k = .stop) := by
          refine Lib.hid ?_
          unfold stepF; rw [hp, if_pos (.inr h35)]
        clear hp h35
        go_wp2_with (first | fail)
        go_ret3
        have e : R = (ts, 0, 0) := by rw [hR.out]; simp only [lexF, hst.out]
        exact ⟨_, by rw [e]; rfl, by rw [e]; exact hown, hE⟩
      · have e35 : ((s[k].toNat : Int) != 35) = true := by
          have : s[k].toNat ≠ 35 := fun h => h35 (UInt8.toNat_inj.1 h)
          simp; omega
        have hsf := stepF_at hlt h35
        by_cases h32 : s[k] = 32
        · have e32 : ((s[k].toNat : Int) == 32) = true := by rw [h32]; rfl
          have hst : Hid (stepF s.data.toList k = .skip (k + 1)) := Lib.hid (by rw [hsf, if_pos h32])
          clear hp hsf h32 h35
          go_wp2_with (first | fail)
          go_roundw
          case rel => exact ⟨k + 1, f, ts, by go_num, by omega, by omega, by omega, hown, Lib.hid (by rw [hR.out]; simp only [lexF, hst.out]), hE⟩
          case measure => simp [intOf]; omega
        · have e32 : ((s[k].toNat : Int) == 32) = false := by
            have : s[k].toNat ≠ 32 := fun h => h32 (UInt8.toNat_inj.1 h)
            simp; omega
          rw [if_neg h32] at hsf
          clear h32 h35
          have hrg := runF_ge nameB s.data.toList k
          have hrl := runF_le (p := nameB) (l := s.data.toList) (k := k) (by have := HZ.out; omega)
          rw [← HZ.out] at hrl
          by_cases hL : letterB s[k] = true
          · rw [if_pos hL] at hsf
            have HL := Lib.hid hL
            generalize hee : runF nameB s.data.toList k = e at *
            have HE := Lib.hid hee
            clear hL hee hp
            by_cases h24 : 24 < e - k
            · rw [if_pos h24] at hsf
              have hst := Lib.hid hsf
              have g24 : decide ((24 : Int) < (e : Int) - (k : Int)) = true := by simp; omega
              clear hsf
              go_wp2_with (first | (go_at_call 62; refine (lexer_letter _ _).mono ?_; rintro e w' ⟨rfl, rfl⟩; rw [HL.out]) | (go_at_call 63; refine (run_name_at s k _ _ hs (by omega) rfl).mono ?_; rintro e w' ⟨rfl, rfl⟩; rw [HE.out]))
              go_ret3
              have e : R = ([], k, 3) := by rw [hR.out]; simp only [lexF, hst.out]
              exact ⟨_, by rw [e]; rfl, by rw [e]; exact OwnT.nil _ _ _, by exact exttI⟩
            · rw [if_neg h24] at hsf
              have hst := Lib.hid hsf
              have g24 : decide ((24 : Int) < (e : Int) - (k : Int)) = false := by simp; omega
              have hlt' := (stepF_next (.inr ⟨1, hsf⟩)).1
              have hcut := Lib.hid (cut_extract s k e)
              clear hsf
              go_wp2_with (first | (go_at_call 62; refine (lexer_letter _ _).mono ?_; rintro e w' ⟨rfl, rfl⟩; rw [HL.out]) | (go_at_call 63; refine (run_name_at s k _ _ hs (by omega) rfl).mono ?_; rintro e w' ⟨rfl, rfl⟩; rw [HE.out]) | (at_builtin; refine wpList_appT_lexer rfl _ _ rfl (l := ts) ⟨1, k, cutF s.data.toList k (e)⟩ rfl rfl hown rfl rfl hcut.out (by omega) (by exact hE.size) ?_; intro v' w' hown' hg'))
              go_roundw
              case rel => exact ⟨e, f, _, by first | rfl | go_num, by omega, by omega, by rw [List.length_append]; simp; omega, hown', Lib.hid (by rw [hR.out]; simp only [lexF, hst.out]), (hE.alloc' _).grown' hg' hown.block⟩
              case measure => simp [intOf]; omega
          · rw [if_neg hL] at hsf
            have HL := Lib.hid (Bool.eq_false_iff.2 hL)
            clear hL hrg hrl
            go_upto_region 14 with ((go_at_call 62; refine (lexer_letter _ _).mono ?_; rintro e w' ⟨rfl, rfl⟩; rw [HL.out]))
            obtain ⟨nb, hnb⟩ : ∃ nb : Bool, (digitB s[k] || (decide (s[k] = 45) && digitB (peekF s.data.toList (k + 1)))) = nb := ⟨_, rfl⟩
            rw [hnb] at hsf
            have HSF := Lib.hid hsf
            have HNB := Lib.hid hnb
            have hgt := Lib.hid (@numF_gt s.data.toList k)
            rw [hp] at hgt
            clear hsf hnb hp
            go_cut [48] (fun t w' => t = .bool nb ∧ w' = wr)
            case first =>
              obtain ⟨db, hdb⟩ : ∃ db : Bool, digitB s[k] = db := ⟨_, rfl⟩
              have HDB := Lib.hid hdb
              clear hdb
              cases db with
              | true =>
                have e : nb = true := by rw [← HNB.out, HDB.out]; rfl
                go_wp2_with ((go_at_call 65; refine (lexer_digit _ _).mono ?_; rintro e w' ⟨rfl, rfl⟩; rw [HDB.out]))
                go_meet
                exact ⟨by rw [e], rfl⟩
              | false =>
                by_cases h45 : s[k] = 45
                · have e45 : ((s[k].toNat : Int) == 45) = true := by rw [h45]; rfl
                  obtain ⟨pb, hpb⟩ : ∃ pb : Bool, digitB (peekF s.data.toList (k + 1)) = pb := ⟨_, rfl⟩
                  have HPB := Lib.hid hpb
                  have e : nb = pb := by rw [← HNB.out, HDB.out, HPB.out, h45]; rfl
                  clear hpb h45
                  subst e
                  go_wp2_with (first | (go_at_call 66; refine (peek_at s (k + 1) _ _ hs (by omega) (by omega)).mono ?_; rintro e w' ⟨rfl, rfl⟩) | (go_at_call 65; refine (lexer_digit _ _).mono ?_; rintro e w' ⟨rfl, rfl⟩; first | rw [HDB.out] | rw [HPB.out]))
                  go_meet
                  exact ⟨rfl, rfl⟩
                · have e45 : ((s[k].toNat : Int) == 45) = false := by
                    have : s[k].toNat ≠ 45 := fun h => h45 (UInt8.toNat_inj.1 h)
                    simp; omega
                  have e : nb = false := by rw [← HNB.out, HDB.out]; simp [h45]
                  clear h45
                  go_wp2_with ((go_at_call 65; refine (lexer_digit _ _).mono ?_; rintro e w' ⟨rfl, rfl⟩; rw [HDB.out]))
                  go_meet
                  exact ⟨by rw [e], rfl⟩
            case rest =>
              obtain ⟨rfl, rfl⟩ := hcut
              cases nb with
              | true =>
                have hsf := HSF.out
                rw [if_pos rfl] at hsf
                have hke := hgt.out HNB.out
                have hel := numF_le (l := s.data.toList) (k := k) (by have := HZ.out; omega)
                rw [← HZ.out] at hel
                have hpk := peek_at s (numF s.data.toList k)
                generalize hee : numF s.data.toList k = e at *
                have HE := Lib.hid hee
                clear hee HSF HNB hgt
                have hdd := cut_data s k e
                have hcut := Lib.hid (cut_extract s k e)
                have hesz : (s.extract k e).size ≤ 4000000000 := by
                  rw [Lib.size_eq, hdd]
                  have : (cutF s.data.toList k e).length ≤ s.data.toList.length := by unfold cutF; simp; omega
                  have := HZ.out; omega
                by_cases hD : isDec (cutF s.data.toList k e) = false
                · rw [if_pos hD] at hsf
                  have hst := Lib.hid hsf
                  have hP := Lib.hid (fun w => decimal_Parse_no (s.extract k e) w hesz (by rw [hdd]; exact hD))
                  clear hsf hD hdd hesz hpk
                  go_wp2_with (first | (go_at_call 67; refine (lexer_number s k _ hs hlt).mono ?_; rintro e w' ⟨rfl, rfl⟩; rw [HE.out]) | (go_at_call 40; refine (hP.out _).mono ?_; rintro e w5 ⟨rfl, hE5⟩))
                  go_ret3
                  have e : R = ([], k, 2) := by rw [hR.out]; simp only [lexF, hst.out]
                  exact ⟨_, by rw [e]; rfl, by rw [e]; exact OwnT.nil _ _ _, by exact exttI⟩
                · rw [if_neg hD] at hsf
                  have hP := Lib.hid (fun w => decimal_Parse_ok (s.extract k e) w hesz (by rw [hdd]; simpa using hD))
                  clear hD hdd hesz
                  go_upto_region 19 with (first | (go_at_call 67; refine (lexer_number s k _ hs hlt).mono ?_; rintro e w' ⟨rfl, rfl⟩; rw [HE.out]) | (go_at_call 40; refine (hP.out _).mono ?_; rintro e w5 ⟨vx, rfl, hx, hE5⟩; obtain ⟨nxn, axn, kxn, cxn, nxd, axd, kxd, cxd, rfl, _, _⟩ := IsRat.form hx))
                  obtain ⟨w6, p, f1, f2, _, hE6⟩ := box1 w5 (.cells #[.bool nxn, .slice axn kxn cxn, .bool nxd, .slice axd kxd cxd] 55)
                  rw [f1, f2]
                  replace hown := hown.ext (show Ext wc w6 by exact exttI)
                  replace hE : Ext w w6 := by exact exttI
                  clear f1 f2 hE5 hE6 hP
                  clear hx
                  have HPK := Lib.hid (fun w => hpk _ w hs (by omega) rfl)
                  clear hpk
                  generalize peekF s.data.toList e = pc at *
                  obtain ⟨lb, hlb⟩ : ∃ lb : Bool, letterB pc = lb := ⟨_, rfl⟩
                  rw [hlb] at hsf
                  have HLB := Lib.hid hlb
                  clear hlb
                  cases lb with
                  | true =>
                    have hst := Lib.hid (hsf.trans (if_pos (by simp)))
                    clear hsf
                    go_wp2_with (first | (go_at_call 66; refine (HPK.out _).mono ?_; rintro e w' ⟨rfl, rfl⟩) | (go_at_call 62; refine (lexer_letter _ _).mono ?_; rintro e w' ⟨rfl, rfl⟩; rw [HLB.out]))
                    go_ret3
                    have e : R = ([], e, 2) := by rw [hR.out]; simp only [lexF, hst.out]
                    exact ⟨_, by rw [e]; rfl, by rw [e]; exact OwnT.nil _ _ _, by exact exttI⟩
                  | false =>
                    by_cases h95 : pc = 95
                    · have e95 : ((pc.toNat : Int) == 95) = true := by rw [h95]; rfl
                      have hst := Lib.hid (hsf.trans (if_pos (by simp [h95])))
                      clear hsf h95
                      go_wp2_with (first | (go_at_call 66; refine (HPK.out _).mono ?_; rintro e w' ⟨rfl, rfl⟩) | (go_at_call 62; refine (lexer_letter _ _).mono ?_; rintro e w' ⟨rfl, rfl⟩; rw [HLB.out]))
                      go_ret3
                      have e : R = ([], e, 2) := by rw [hR.out]; simp only [lexF, hst.out]
                      exact ⟨_, by rw [e]; rfl, by rw [e]; exact OwnT.nil _ _ _, by exact exttI⟩
                    · have e95 : ((pc.toNat : Int) == 95) = false := by
                        have : pc.toNat ≠ 95 := fun h => h95 (UInt8.toNat_inj.1 h)
                        simp; omega
                      by_cases h46 : pc = 46
                      · have e46 : ((pc.toNat : Int) == 46) = true := by rw [h46]; rfl
                        have hst := Lib.hid (hsf.trans (if_pos (by simp [h46])))
                        clear hsf h95 h46
                        go_wp2_with (first | (go_at_call 66; refine (HPK.out _).mono ?_; rintro e w' ⟨rfl, rfl⟩) | (go_at_call 62; refine (lexer_letter _ _).mono ?_; rintro e w' ⟨rfl, rfl⟩; rw [HLB.out]))
                        go_ret3
                        have e : R = ([], e, 2) := by rw [hR.out]; simp only [lexF, hst.out]
                        exact ⟨_, by rw [e]; rfl, by rw [e]; exact OwnT.nil _ _ _, by exact exttI⟩
                      · have e46 : ((pc.toNat : Int) == 46) = false := by
                          have : pc.toNat ≠ 46 := fun h => h46 (UInt8.toNat_inj.1 h)
                          simp; omega
                        have hst := Lib.hid (hsf.trans (if_neg (by simp [h95, h46])))
                        clear hsf h95 h46
                        go_wp2_with (first | (go_at_call 66; refine (HPK.out _).mono ?_; rintro e w' ⟨rfl, rfl⟩) | (go_at_call 62; refine (lexer_letter _ _).mono ?_; rintro e w' ⟨rfl, rfl⟩; rw [HLB.out]) | (at_builtin; refine wpList_appT_lexer rfl _ _ rfl (l := ts) ⟨2, k, cutF s.data.toList k (e)⟩ rfl rfl hown rfl rfl hcut.out (by omega) (by exact hE.size) ?_; intro v' w' hown' hg'))
                        go_roundw
                        case rel => exact ⟨e, f, _, by first | rfl | go_num, by omega, by omega, by rw [List.length_append]; simp; omega, hown', Lib.hid (by rw [hR.out]; simp only [lexF, hst.out]), (hE.alloc' _).grown' hg' hown.block⟩
                        case measure => simp [intOf]; omega
              | false =>
                obtain ⟨sy1, sy2⟩ := sym_at s[k]
                have hsf := HSF.out
                rw [if_neg (by simp)] at hsf
                by_cases hS : symB s[k] = true
                · rw [if_pos hS] at hsf
                  have hst := Lib.hid hsf
                  have hix := sy1 hS
                  have hcut := Lib.hid (cut_extract s k (k + 1))
                  clear hsf hS sy1 sy2 HSF HNB hgt
                  go_wp2_with (first | (go_at_call 68; refine (index_sym _ _).mono ?_; rintro e w' ⟨rfl, rfl⟩) | (at_builtin; refine wpList_appT_lexer rfl _ _ rfl (l := ts) ⟨3, k, cutF s.data.toList k (k + 1)⟩ rfl rfl hown rfl rfl hcut.out (by omega) (by exact hE.size) ?_; intro v' w' hown' hg'))
                  go_roundw
                  case rel => exact ⟨k + 1, f, _, by first | rfl | go_num, by omega, by omega, by rw [List.length_append]; simp; omega, hown', Lib.hid (by rw [hR.out]; simp only [lexF, hst.out]), (hE.alloc' _).grown' hg' hown.block⟩
                  case measure => simp [intOf]; omega
                · rw [if_neg hS] at hsf
                  have hst := Lib.hid hsf
                  have hix := Lib.hid (sy2 (Bool.eq_false_iff.2 hS))
                  clear hsf hS sy1 sy2 HSF HNB hgt
                  go_wp2_with ((go_at_call 68; refine (index_sym _ _).mono ?_; rintro e w' ⟨rfl, rfl⟩; rw [hix.out]))
                  go_ret3
                  have e : R = ([], k, 2) := by rw [hR.out]; simp only [lexF, hst.out]
                  exact ⟨_, by rw [e]; rfl, by rw [e]; exact OwnT.nil _ _ _, by exact exttI⟩
    · have hst : Hid (stepF s.data.toList k = .stop) := by
        refine Lib.hid ?_
        unfold stepF; rw [if_pos (.inl (by have := HZ.out; omega))]
      go_wp2_with (first | fail)
      go_ret3
      have e : R = (ts, 0, 0) := by rw [hR.out]; simp only [lexF, hst.out]
      exact ⟨_, by rw [e]; rfl, by rw [e]; exact hown, hE⟩
end Go.Proofs.YtechjiiijiipdaaGreatDoor
namespace Go.Proofs.YtechjiiijiipdaaGreatDoor
open Go.RowKit
set_option linter.unusedSimpArgs false
set_option linter.unusedVariables false
attribute [local irreducible] IsInt U32s Dig Norm Own IsRat AllD dec digF isDec decQ stepF lexF tokF runF peekF numF numL letterB digitB nameB symB symI cutF OwnT Toks
set_option maxRecDepth 100000 in
set_option maxHeartbeats 8000000 in
theorem ref21_TokensO (s : ByteArray) (w : World) (hs : s.size ≤ 65536) :
    Calls Tryz.prog 15 #[.string s] w fun e w' => ∃ v, e = .returned (.tuple #[v, .int .i64 ((tokF s.data.toList).2.1 : Nat), .int .i64 ((tokF s.data.toList).2.2 : Nat)]) ∧ OwnT 85 w.heap.size w' v (tokF s.data.toList).1 ∧ Ext w w' := by
  have hz := Lib.size_eq s
  have hT : Hid (tokF s.data.toList = lexF s.data.toList (s.data.toList.length + 1) 0 []) := by
    refine Lib.hid ?_
    unfold tokF; rw [if_neg (by omega)]
  have HZ := Lib.hid hz
  clear hz
  generalize tokF s.data.toList = R at *
  have hsI : ¬ (65536 : Int) < (s.size : Int) := by omega
  go_enter Tryz.func15, Tryz.ntmps15
  go_wp2_with (first | fail)
  go_loopw [5, 6] (fun o a w' => ∃ (k f : Nat) (ts : List Tok), a = .int .i64 k ∧ k ≤ s.size ∧ s.size < k + f ∧ ts.length ≤ k ∧ OwnT 85 w.heap.size w' o ts ∧ Hid (R = lexF s.data.toList f k ts) ∧ Ext w w') (fun _ a _ => s.size - (intOf a).toNat)
  case atStart => exact ⟨0, s.data.toList.length + 1, [], rfl, by omega, by have := HZ.out; omega, by simp, OwnT.nil _ _ _, hT, Ext.rfl' w⟩
  case round =>
    clear hT
    obtain ⟨k, f, ts, rfl, hk, hf, htl, hown, hR, hE⟩ := hrel
    obtain ⟨f, rfl⟩ : ∃ g, f = g + 1 := ⟨f - 1, by omega⟩
    by_cases hlt : k < s.size
    · have hp := peekF_at hlt
      by_cases h35 : s[k] = 35
      · have e35 : ((s[k].toNat : Int) != 35) = false := by rw [h35]; rfl
        have hst : Hid (stepF s.data.toList k = .stop) := by
          refine Lib.hid ?_
          unfold stepF; rw [hp, if_pos (.inr h35)]
        clear hp h35
        go_wp2_with (first | fail)
        go_ret3
        have e : R = (ts, 0, 0) := by rw [hR.out]; simp only [lexF, hst.out]
        exact ⟨_, by rw [e]; rfl, by rw [e]; exact hown, hE⟩
      · have e35 : ((s[k].toNat : Int) != 35) = true := by
          have : s[k].toNat ≠ 35 := fun h => h35 (UInt8.toNat_inj.1 h)
          simp; omega
        have hsf := stepF_at hlt h35
        have hrl := ext_len s k (by omega)
        by_cases h32 : s[k] = 32
        · have e32 : ((s[k].toNat : Int) == 32) = true := by rw [h32]; rfl
          have hst : Hid (stepF s.data.toList k = .skip (k + 1)) := Lib.hid (by rw [hsf, if_pos h32])
          clear hp hsf h32 h35
          go_wp2_with (first | fail)
          go_roundw
          case rel => exact ⟨k + 1, f, ts, by go_num, by omega, by omega, by omega, hown, Lib.hid (by rw [hR.out]; simp only [lexF, hst.out]), hE⟩
          case measure => simp [intOf]; omega
        · have e32 : ((s[k].toNat : Int) == 32) = false := by
            have : s[k].toNat ≠ 32 := fun h => h32 (UInt8.toNat_inj.1 h)
            simp; omega
          rw [if_neg h32] at hsf
          clear h32 h35
          have hxc := ext_cut s k
          by_cases hL : letterB s[k] = true
          · rw [if_pos hL] at hsf
            have HL := Lib.hid hL
            have hrg := runF_ge nameB s.data.toList k
            have hre := runF_le (p := nameB) (l := s.data.toList) (k := k) (by have := HZ.out; omega)
            rw [← HZ.out] at hre
            obtain ⟨n, hn⟩ : ∃ n, runF nameB s.data.toList k = k + n := ⟨runF nameB s.data.toList k - k, by omega⟩
            have HN := Lib.hid (fun w => name_from s k n w hs hn)
            rw [hn, Nat.add_sub_cancel_left] at hsf
            rw [hn] at hre
            have hrz : n ≤ (s.extract k s.size).size := by omega
            have hcut := Lib.hid (hxc n)
            clear hL hp hrg hn hxc
            go_upto_region 9 with (first | fail)
            generalize s.extract k s.size = r at *
            by_cases h24 : 24 < n
            · rw [if_pos h24] at hsf
              have hst := Lib.hid hsf
              have g24 : decide ((24 : Int) < (n : Int)) = true := by simp; omega
              clear hsf
              go_wp2_with (first | (go_at_call 69; refine (ref21_letter _ _).mono ?_; rintro e w' ⟨rfl, rfl⟩; rw [HL.out]) | (go_at_call 70; refine (HN.out _).mono ?_; rintro e w' ⟨rfl, rfl⟩))
              go_ret3
              have e : R = ([], k, 3) := by rw [hR.out]; simp only [lexF, hst.out]
              exact ⟨_, by rw [e]; rfl, by rw [e]; exact OwnT.nil _ _ _, by exact exttI⟩
            · rw [if_neg h24] at hsf
              have hst := Lib.hid hsf
              have g24 : decide ((24 : Int) < (n : Int)) = false := by simp; omega
              have hlt' := (stepF_next (.inr ⟨1, hsf⟩)).1
              clear hsf
              go_wp2_with (first | (go_at_call 69; refine (ref21_letter _ _).mono ?_; rintro e w' ⟨rfl, rfl⟩; rw [HL.out]) | (go_at_call 70; refine (HN.out _).mono ?_; rintro e w' ⟨rfl, rfl⟩) | (at_builtin; refine wpList_appT_ref rfl _ _ rfl (l := ts) ⟨1, k, cutF s.data.toList k (k + n)⟩ rfl rfl hown rfl rfl hcut.out (by omega) (by exact hE.size) ?_; intro v' w' hown' hg'))
              go_roundw
              case rel => exact ⟨k + n, f, _, by first | rfl | go_num, by omega, by omega, by rw [List.length_append]; simp; omega, hown', Lib.hid (by rw [hR.out]; simp only [lexF, hst.out]), (hE.alloc' _).grown' hg' hown.block⟩
              case measure => simp [intOf]; omega
          · rw [if_neg hL] at hsf
            have HL := Lib.hid (Bool.eq_false_iff.2 hL)
            clear hL
            obtain ⟨nb, hnb⟩ : ∃ nb : Bool, (digitB s[k] || (decide (s[k] = 45) && digitB (peekF s.data.toList (k + 1)))) = nb := ⟨_, rfl⟩
            rw [hnb] at hsf
            have hge := @numF_gt s.data.toList k
            rw [hp, hnb] at hge
            obtain ⟨np1, np2⟩ := numL_pos (l := s.data.toList.drop k) (by rw [List.length_drop]; have := HZ.out; omega)
            rw [peekF_drop, peekF_drop, Nat.add_zero, hp, hnb] at np1
            have hfd := numF_drop s.data.toList k
            obtain ⟨m, hm⟩ : ∃ m, numL (s.data.toList.drop k) = m := ⟨_, rfl⟩
            have HNM := Lib.hid (fun w => number_from s k m w hs hm)
            rw [hm] at np1 np2
            have hel := numF_le (l := s.data.toList) (k := k) (by have := HZ.out; omega)
            rw [← HZ.out] at hel
            have hpx := peek_ext s k
            clear hm hp hnb
            go_upto_region 9 with (first | fail)
            cases nb with
            | true =>
              have hm0 : 0 < m := by simpa using np1
              have hme : numF s.data.toList k = k + m := by have := np2 hm0; omega
              rw [if_pos rfl, hme] at hsf
              rw [hme] at hel
              have hcut := Lib.hid (hxc m)
              have hdd : ((s.extract k s.size).extract 0 m).data.toList = cutF s.data.toList k (k + m) := by rw [hcut.out]
              have hesz : ((s.extract k s.size).extract 0 m).size ≤ 4000000000 := by
                rw [Lib.size_eq, hdd]
                have : (cutF s.data.toList k (k + m)).length ≤ s.data.toList.length := by unfold cutF; simp; omega
                have := HZ.out; omega
              have hpx2 := hpx m
              clear hxc np1 np2 hge hfd hme hpx
              generalize s.extract k s.size = r at *
              have hrz : m ≤ r.size := by omega
              have hmI : (0 : Int) < (m : Int) := by omega
              by_cases hD : isDec (cutF s.data.toList k (k + m)) = false
              · rw [if_pos hD] at hsf
                have hst := Lib.hid hsf
                have hP := Lib.hid (fun w => ref06_Parse_no (r.extract 0 m) w hesz (by rw [hdd]; exact hD))
                clear hsf hD hdd hesz hpx2
                go_wp2_with (first | (go_at_call 69; refine (ref21_letter _ _).mono ?_; rintro e w' ⟨rfl, rfl⟩; rw [HL.out]) | (go_at_call 71; refine (HNM.out _).mono ?_; rintro e w' ⟨rfl, rfl⟩) | (go_at_call 41; refine (hP.out _).mono ?_; rintro e w5 ⟨rfl, hE5⟩))
                go_ret3
                have e : R = ([], k, 2) := by rw [hR.out]; simp only [lexF, hst.out]
                exact ⟨_, by rw [e]; rfl, by rw [e]; exact OwnT.nil _ _ _, by exact exttI⟩
              · rw [if_neg hD] at hsf
                have hP := Lib.hid (fun w => ref06_Parse_ok (r.extract 0 m) w hesz (by rw [hdd]; simpa using hD))
                clear hD hdd hesz
                go_upto_region 18 with (first | (go_at_call 69; refine (ref21_letter _ _).mono ?_; rintro e w' ⟨rfl, rfl⟩; rw [HL.out]) | (go_at_call 71; refine (HNM.out _).mono ?_; rintro e w' ⟨rfl, rfl⟩) | (go_at_call 41; refine (hP.out _).mono ?_; rintro e w5 ⟨vx, rfl, hx, hE5⟩; obtain ⟨nxn, axn, kxn, cxn, nxd, axd, kxd, cxd, rfl, _, _⟩ := IsRat.form hx))
                obtain ⟨w6, p, f1, f2, _, hE6⟩ := box1 w5 (.cells #[.bool nxn, .slice axn kxn cxn, .bool nxd, .slice axd kxd cxd] 55)
                rw [f1, f2]
                replace hown := hown.ext (show Ext wr w6 by exact exttI)
                replace hE : Ext w w6 := by exact exttI
                clear f1 f2 hE5 hE6 hP hx
                by_cases hmr : m < r.size
                · have hpc := hpx2 hmr
                  generalize peekF s.data.toList (k + m) = pc at *
                  obtain ⟨lb, hlb⟩ : ∃ lb : Bool, letterB pc = lb := ⟨_, rfl⟩
                  rw [hlb] at hsf
                  have HLB := Lib.hid hlb
                  have HPC := Lib.hid hpc
                  clear hlb hpx2
                  cases lb with
                  | true =>
                    have hst := Lib.hid (hsf.trans (if_pos (by simp)))
                    clear hsf hpc
                    go_wp2_with (first | (go_at_call 69; refine (ref21_letter _ _).mono ?_; rintro e w' ⟨rfl, rfl⟩; rw [HPC.out, HLB.out]))
                    go_ret3
                    have e : R = ([], k + m, 2) := by rw [hR.out]; simp only [lexF, hst.out]
                    exact ⟨_, by rw [e]; first | rfl | go_num, by rw [e]; exact OwnT.nil _ _ _, by exact exttI⟩
                  | false =>
                    by_cases h95 : pc = 95
                    · have e95 : ((r[m].toNat : Int) == 95) = true := by rw [hpc, h95]; rfl
                      have hst := Lib.hid (hsf.trans (if_pos (by simp [h95])))
                      clear hsf h95 hpc
                      go_wp2_with (first | (go_at_call 69; refine (ref21_letter _ _).mono ?_; rintro e w' ⟨rfl, rfl⟩; rw [HPC.out, HLB.out]))
                      go_ret3
                      have e : R = ([], k + m, 2) := by rw [hR.out]; simp only [lexF, hst.out]
                      exact ⟨_, by rw [e]; first | rfl | go_num, by rw [e]; exact OwnT.nil _ _ _, by exact exttI⟩
                    · have e95 : ((r[m].toNat : Int) == 95) = false := by
                        have : pc.toNat ≠ 95 := fun h => h95 (UInt8.toNat_inj.1 h)
                        rw [hpc]; simp; omega
                      by_cases h46 : pc = 46
                      · have e46 : ((r[m].toNat : Int) == 46) = true := by rw [hpc, h46]; rfl
                        have hst := Lib.hid (hsf.trans (if_pos (by simp [h46])))
                        clear hsf h95 h46 hpc
                        go_wp2_with (first | (go_at_call 69; refine (ref21_letter _ _).mono ?_; rintro e w' ⟨rfl, rfl⟩; rw [HPC.out, HLB.out]))
                        go_ret3
                        have e : R = ([], k + m, 2) := by rw [hR.out]; simp only [lexF, hst.out]
                        exact ⟨_, by rw [e]; first | rfl | go_num, by rw [e]; exact OwnT.nil _ _ _, by exact exttI⟩
                      · have e46 : ((r[m].toNat : Int) == 46) = false := by
                          have : pc.toNat ≠ 46 := fun h => h46 (UInt8.toNat_inj.1 h)
                          rw [hpc]; simp; omega
                        have hst := Lib.hid (hsf.trans (if_neg (by simp [h95, h46])))
                        clear hsf h95 h46 hpc
                        go_wp2_with (first | (go_at_call 69; refine (ref21_letter _ _).mono ?_; rintro e w' ⟨rfl, rfl⟩; rw [HPC.out, HLB.out]) | (at_builtin; refine wpList_appT_ref rfl _ _ rfl (l := ts) ⟨2, k, cutF s.data.toList k (k + m)⟩ rfl rfl hown rfl rfl hcut.out (by omega) (by exact hE.size) ?_; intro v' w' hown' hg'))
                        go_roundw
                        case rel => exact ⟨k + m, f, _, by first | rfl | go_num, by omega, by omega, by rw [List.length_append]; simp; omega, hown', Lib.hid (by rw [hR.out]; simp only [lexF, hst.out]), (hE.alloc' _).grown' hg' hown.block⟩
                        case measure => simp [intOf]; omega
                · have hpe : peekF s.data.toList (k + m) = 0 := peekF_len (by have := HZ.out; omega)
                  rw [hpe] at hsf
                  have hst := Lib.hid (hsf.trans (if_neg (by unfold letterB; decide)))
                  clear hsf hpe hpx2
                  go_wp2_with (first | (at_builtin; refine wpList_appT_ref rfl _ _ rfl (l := ts) ⟨2, k, cutF s.data.toList k (k + m)⟩ rfl rfl hown rfl rfl hcut.out (by omega) (by exact hE.size) ?_; intro v' w' hown' hg'))
                  go_roundw
                  case rel => exact ⟨k + m, f, _, by first | rfl | go_num, by omega, by omega, by rw [List.length_append]; simp; omega, hown', Lib.hid (by rw [hR.out]; simp only [lexF, hst.out]), (hE.alloc' _).grown' hg' hown.block⟩
                  case measure => simp [intOf]; omega
            | false =>
              have hm0 : m = 0 := by simpa using np1
              subst hm0
              rw [if_neg (by simp)] at hsf
              have hcut := Lib.hid (hxc 1)
              clear hxc np1 np2 hge hfd hel hpx
              generalize s.extract k s.size = r at *
              have hrz : 1 ≤ r.size := by omega
              by_cases hS : symB s[k] = true
              · rw [if_pos hS] at hsf
                have hst := Lib.hid hsf
                have HS := Lib.hid hS
                clear hsf hS
                go_wp2_with (first | (go_at_call 69; refine (ref21_letter _ _).mono ?_; rintro e w' ⟨rfl, rfl⟩; rw [HL.out]) | (go_at_call 71; refine (HNM.out _).mono ?_; rintro e w' ⟨rfl, rfl⟩) | (go_at_call 72; refine (ref21_symbol _ _).mono ?_; rintro e w' ⟨rfl, rfl⟩; rw [HS.out]) | (at_builtin; refine wpList_appT_ref rfl _ _ rfl (l := ts) ⟨3, k, cutF s.data.toList k (k + 1)⟩ rfl rfl hown rfl rfl hcut.out (by omega) (by exact hE.size) ?_; intro v' w' hown' hg'))
                go_roundw
                case rel => exact ⟨k + 1, f, _, by first | rfl | go_num, by omega, by omega, by rw [List.length_append]; simp; omega, hown', Lib.hid (by rw [hR.out]; simp only [lexF, hst.out]), (hE.alloc' _).grown' hg' hown.block⟩
                case measure => simp [intOf]; omega
              · rw [if_neg hS] at hsf
                have hst := Lib.hid hsf
                have HS := Lib.hid (Bool.eq_false_iff.2 hS)
                clear hsf hS
                go_wp2_with (first | (go_at_call 69; refine (ref21_letter _ _).mono ?_; rintro e w' ⟨rfl, rfl⟩; rw [HL.out]) | (go_at_call 71; refine (HNM.out _).mono ?_; rintro e w' ⟨rfl, rfl⟩) | (go_at_call 72; refine (ref21_symbol _ _).mono ?_; rintro e w' ⟨rfl, rfl⟩; rw [HS.out]))
                go_ret3
                have e : R = ([], k, 2) := by rw [hR.out]; simp only [lexF, hst.out]
                exact ⟨_, by rw [e]; rfl, by rw [e]; exact OwnT.nil _ _ _, by exact exttI⟩
    · have hst : Hid (stepF s.data.toList k = .stop) := by
        refine Lib.hid ?_
        unfold stepF; rw [if_pos (.inl (by have := HZ.out; omega))]
      go_wp2_with (first | fail)
      go_ret3
      have e : R = (ts, 0, 0) := by rw [hR.out]; simp only [lexF, hst.out]
      exact ⟨_, by rw [e]; rfl, by rw [e]; exact hown, hE⟩
end Go.Proofs.YtechjiiijiipdaaGreatDoor
namespace Go.Proofs.YtechjiiijiipdaaGreatDoor
open Go.RowKit
set_option linter.unusedSimpArgs false
set_option linter.unusedVariables false
/-- The lines of a text. -/
def lns (l : List UInt8) : List (List UInt8) := Lib.splitK [10] 0 (Lib.countByte l 10) l
theorem lns_last {l : List UInt8} (h : 10 ∉ l) : lns l = [l] := by
  unfold lns Lib.countByte
  rw [List.count_eq_zero.2 h]; rfl
theorem indexByte_at : ∀ {a b : List UInt8} {c : UInt8}, c ∉ a → Lib.indexByte (a ++ c :: b) c = a.length
  | [], b, c, _ => by simp [Lib.indexByte]
  | x :: a, b, c, h => by
    have hx : ¬ x = c := fun e => h (by simp [e])
    have ih := indexByte_at (a := a) (b := b) (c := c) (fun e => h (by simp [e]))
    rw [List.cons_append]
    simp only [Lib.indexByte]
    rw [if_neg (by simpa using hx), ih, if_neg (by simp; try omega), List.length_cons]
    first | rfl | omega
theorem lns_more {a b : List UInt8} (h : 10 ∉ a) : lns (a ++ 10 :: b) = a :: lns b := by
  have hc : Lib.countByte (a ++ 10 :: b) 10 = Lib.countByte b 10 + 1 := by
    unfold Lib.countByte
    rw [List.count_append, List.count_eq_zero.2 h, List.count_cons_self]; omega
  unfold lns
  rw [hc]
  simp only [Lib.splitK]
  have hi : Lib.index (a ++ 10 :: b) [10] = (a.length : Int) := by rw [Lib.index_one, indexByte_at h]
  rw [hi, if_neg (by simp; try omega)]
  congr 1
  · simp
  · congr 1
    simp
theorem first_split : ∀ {l : List UInt8}, 10 ∈ l → ∃ a b, l = a ++ 10 :: b ∧ 10 ∉ a
  | [], h => by simp at h
  | c :: l, h => by
    by_cases hc : c = 10
    · subst hc; exact ⟨[], l, rfl, by simp⟩
    · obtain ⟨a, b, rfl, ha⟩ := first_split (l := l) (by simpa [Ne.symm hc] using h)
      exact ⟨c :: a, b, rfl, by simp [ha, Ne.symm hc]⟩
theorem lns_mem : ∀ (n : Nat) {l x : List UInt8}, l.length ≤ n → x ∈ lns l → x.length ≤ l.length
  | n, l, x, hn, hx => by
    by_cases h : 10 ∈ l
    · obtain ⟨a, b, rfl, ha⟩ := first_split h
      rw [lns_more ha] at hx
      rw [List.length_append, List.length_cons] at hn ⊢
      rcases List.mem_cons.1 hx with rfl | hx
      · omega
      · match n, hn with
        | 0, hn => omega
        | n + 1, hn =>
          have := lns_mem n (l := b) (by omega) hx
          omega
    · rw [lns_last h] at hx
      simp at hx; subst hx; omega
theorem lns_len : ∀ (n : Nat) {l : List UInt8}, l.length ≤ n → (lns l).length ≤ l.length + 1
  | n, l, hn => by
    by_cases h : 10 ∈ l
    · obtain ⟨a, b, rfl, ha⟩ := first_split h
      rw [lns_more ha]
      rw [List.length_append, List.length_cons] at hn ⊢
      match n, hn with
      | 0, hn => omega
      | n + 1, hn =>
        have := lns_len n (l := b) (by omega)
        rw [List.length_cons]; omega
    · rw [lns_last h]; simp
set_option maxHeartbeats 1000000 in
theorem strings_Split_nl (s : ByteArray) (w : World) (hs : s.size ≤ 65536) :
    Calls Tryz.prog 84 #[.string s, .string ⟨#[10]⟩] w fun e w' => ∃ ps : List ByteArray, ps.map (·.data.toList) = lns s.data.toList ∧ e = .returned (.slice (some ⟨w.heap.size, 0, none⟩) ps.length ps.length) ∧ w' = w.alloc (.cells (ps.map Value.string).toArray 9) := by
  have h1 : 1 ≤ (⟨#[10]⟩ : ByteArray).size := by decide
  have hcb : Lib.countB s ⟨#[10]⟩ = Lib.countByte s.data.toList 10 := by
    show Lib.count s.data.toList [10] = _
    rw [Lib.count_one]; rfl
  have hle := Lib.countB_le ⟨#[10]⟩ h1 s.size s (Nat.le_refl _)
  have hlen := Lib.splitB_all ⟨#[10]⟩ h1 0 _ s rfl
  have hdata := Lib.splitB_data ⟨#[10]⟩ 0 (Lib.countB s ⟨#[10]⟩) s
  have c : Calls Tryz.prog 149 #[.string s, .string ⟨#[10]⟩, .int .i64 (0 : Nat), .int .i64 (-1)] w fun e w' =>
      e = .returned (.slice (some ⟨w.heap.size, 0, none⟩) (Lib.splitB ⟨#[10]⟩ 0 (Lib.countB s ⟨#[10]⟩ + 1 - 1) s).length (Lib.countB s ⟨#[10]⟩ + 1)) ∧ w' = w.alloc (.cells (Lib.cellsOf (Lib.splitB ⟨#[10]⟩ 0 (Lib.countB s ⟨#[10]⟩ + 1 - 1) s) (Lib.countB s ⟨#[10]⟩ + 1)) 9) :=
    Any.strings_genSplit_core Tryz.lays221 (by kernel_rfl) s ⟨#[10]⟩ 0 (-1) (Lib.countB s ⟨#[10]⟩ + 1) w (by omega) h1 (Nat.zero_le _)
      (fun x c _ => (Any.strings_Index_one Tryz.lays143 x 10 (w.alloc (.cells c 9))).mono (by rintro e w' ⟨rfl, rfl⟩; exact ⟨by show _ = Ending.returned (Value.int .i64 (Lib.index x.data.toList [10])); rw [Lib.index_one], rfl⟩))
      ((Any.strings_Count_one Tryz.lays138 s 10 w).mono (by rintro e w' ⟨rfl, rfl⟩; exact ⟨by rw [hcb], rfl⟩)) (by decide) (by decide) (by rw [if_pos (by decide)]; omega)
  rw [Nat.add_sub_cancel, hlen] at c
  have e2 : Lib.cellsOf (Lib.splitB ⟨#[10]⟩ 0 (Lib.countB s ⟨#[10]⟩) s) (Lib.countB s ⟨#[10]⟩ + 1) = ((Lib.splitB ⟨#[10]⟩ 0 (Lib.countB s ⟨#[10]⟩) s).map Value.string).toArray := by rw [← hlen]; exact Lib.cellsOf_full _
  rw [e2] at c
  rw [← hlen] at c
  have hps : (Lib.splitB ⟨#[10]⟩ 0 (Lib.countB s ⟨#[10]⟩) s).map (·.data.toList) = lns s.data.toList := by rw [hdata, hcb]; rfl
  generalize Lib.splitB ⟨#[10]⟩ 0 (Lib.countB s ⟨#[10]⟩) s = ps at *
  have C := Lib.hid c
  have HPS := Lib.hid hps
  clear c hps hcb hle hlen hdata e2
  go_enter Tryz.func84, Tryz.ntmps84
  go_wp2_with (go_at_call 149; refine C.out.mono ?_; rintro e w' ⟨rfl, hw⟩; rw [hw])
  go_ret
  exact ⟨ps, HPS.out, rfl, rfl⟩
end Go.Proofs.YtechjiiijiipdaaGreatDoor
namespace Go.Proofs.YtechjiiijiipdaaGreatDoor
open Go.RowKit
set_option linter.unusedSimpArgs false
set_option linter.unusedVariables false
def lineVals (x : Nat × Value) : List Value := [.int .i64 (x.1 : Int), x.2]
def OwnL (e : TypeId) (base : Nat) (w : World) (v : Value) (us : List (Nat × Value)) : Prop := w.ownsRow base e 2 v us.length (us.flatMap lineVals)
/-- Values that read as lines. -/
def AllT (w : World) : List (Nat × Value) → List (Nat × List Tok) → Prop
  | [], [] => True
  | u :: us, l :: ls => u.1 = l.1 ∧ Toks w u.2 l.2 ∧ AllT w us ls
  | _, _ => False
theorem AllT.ext {w w' : World} (e : Ext w w') : ∀ {us : List (Nat × Value)} {ls : List (Nat × List Tok)}, AllT w us ls → AllT w' us ls
  | [], [], _ => trivial
  | _ :: _, _ :: _, h => ⟨h.1, h.2.1.ext e, AllT.ext e h.2.2⟩
  | [], _ :: _, h => h.elim
  | _ :: _, [], h => h.elim
theorem AllT.length {w : World} : ∀ {us : List (Nat × Value)} {ls : List (Nat × List Tok)}, AllT w us ls → us.length = ls.length
  | [], [], _ => rfl
  | _ :: _, _ :: _, h => by rw [List.length_cons, List.length_cons, AllT.length h.2.2]
  | [], _ :: _, h => h.elim
  | _ :: _, [], h => h.elim
theorem AllT.snoc {w : World} {n : Nat} {v : Value} {ts : List Tok} (hv : Toks w v ts) : ∀ {us : List (Nat × Value)} {ls : List (Nat × List Tok)}, AllT w us ls → AllT w (us ++ [(n, v)]) (ls ++ [(n, ts)])
  | [], [], _ => ⟨rfl, hv, trivial⟩
  | _ :: _, _ :: _, h => ⟨h.1, h.2.1, AllT.snoc hv h.2.2⟩
  | [], _ :: _, h => h.elim
  | _ :: _, [], h => h.elim
theorem AllT.get {w : World} : ∀ {us : List (Nat × Value)} {ls : List (Nat × List Tok)}, AllT w us ls → ∀ (i : Nat) (h : i < us.length) (h' : i < ls.length), us[i].1 = ls[i].1 ∧ Toks w us[i].2 ls[i].2
  | _ :: _, _ :: _, a, 0, _, _ => ⟨a.1, a.2.1⟩
  | _ :: _, _ :: _, a, i + 1, h, h' => AllT.get a.2.2 i (by simpa using h) (by simpa using h')
  | [], _ :: _, a, _, _, _ => a.elim
  | _ :: _, [], a, _, _, _ => a.elim
/-- v is a slice that reads as the lines ls. -/
def IsLines (w : World) (v : Value) (ls : List (Nat × List Tok)) : Prop :=
  ∃ a c us, v = .slice a us.length c ∧ AllT w us ls ∧ us.length ≤ 100000 ∧ (us = [] ∨ ∃ b o, a = some ⟨b, o, none⟩ ∧ b < w.heap.size ∧ ∀ i (h : i < us.length), w.cell? ⟨b, o + i * 2, none⟩ = some (.int .i64 (us[i].1 : Int)) ∧ w.cell? ⟨b, o + i * 2 + 1, none⟩ = some us[i].2)
theorem IsLines.nil (w : World) : IsLines w (.slice none 0 0) [] := ⟨none, 0, [], rfl, trivial, by simp, .inl rfl⟩
theorem IsLines.ext {w w' : World} {v : Value} {ls : List (Nat × List Tok)} (h : IsLines w v ls) (e : Ext w w') : IsLines w' v ls := by
  obtain ⟨a, c, us, hv, ha, hl, h⟩ := h
  refine ⟨a, c, us, hv, ha.ext e, hl, ?_⟩
  rcases h with h | ⟨b, o, ha, hlt, h⟩
  · exact .inl h
  · refine .inr ⟨b, o, ha, Nat.lt_of_lt_of_le hlt e.size, fun i hi => ?_⟩
    obtain ⟨h1, h2⟩ := h i hi
    exact ⟨(e.cell (p := ⟨b, o + i * 2, none⟩) hlt).trans h1, (e.cell (p := ⟨b, o + i * 2 + 1, none⟩) hlt).trans h2⟩
theorem lflat_get : ∀ (us : List (Nat × Value)) (i : Nat) (h : i < us.length), (us.flatMap lineVals)[i * 2]? = some (.int .i64 (us[i].1 : Int)) ∧ (us.flatMap lineVals)[i * 2 + 1]? = some us[i].2
  | t :: ts, 0, _ => by simp [List.flatMap_cons, lineVals]
  | t :: ts, i + 1, h => by
    have h' : i < ts.length := by simpa using h
    obtain ⟨h1, h2⟩ := lflat_get ts i h'
    have e : ∀ k, (List.flatMap lineVals (t :: ts))[(i + 1) * 2 + k]? = (ts.flatMap lineVals)[i * 2 + k]? := fun k => by
      rw [List.flatMap_cons, List.getElem?_append_right (by simp [lineVals]; omega)]
      congr 1
      simp [lineVals]; omega
    exact ⟨(e 0).trans h1, (e 1).trans h2⟩
theorem OwnL.nil (e : TypeId) (base : Nat) (w : World) : OwnL e base w (.slice none 0 0) [] := World.ownsRow_nil _ _ _ _
theorem OwnL.block {e : TypeId} {base : Nat} {w : World} {v : Value} {l : List (Nat × Value)} (h : OwnL e base w v l) : ∀ k, v.ownBlock = some k → base ≤ k := fun k hk => (World.ownsRow.lt h k hk).1
theorem OwnL.ext {e : TypeId} {base : Nat} {w w' : World} {v : Value} {l : List (Nat × Value)} (h : OwnL e base w v l) (x : Ext w w') : OwnL e base w' v l := by
  refine World.ownsRow.kept (row := none) h ⟨x.os, x.tape, x.output, x.size, fun k hk _ => x.block k hk⟩ ?_
  cases v.ownBlock with
  | none => exact .inl rfl
  | some k => exact .inr (by simp)
theorem OwnL.lines {e : TypeId} {base : Nat} {w : World} {v : Value} {us : List (Nat × Value)} {ls : List (Nat × List Tok)} (h : OwnL e base w v us) (ha : AllT w us ls) (hl : us.length ≤ 100000) : IsLines w v ls := by
  have h' := h
  obtain ⟨h1, h2⟩ := h'
  rcases h2 with ⟨rfl, h0⟩ | ⟨g, cap, cur, rfl, hg, hh, hc, hm, hs, ht⟩
  · obtain rfl := List.length_eq_zero_iff.1 h0
    exact ⟨none, 0, [], rfl, ha, by simp, .inl rfl⟩
  · refine ⟨_, _, us, rfl, ha, hl, .inr ⟨g, 0, rfl, (Array.getElem?_eq_some_iff.1 hh).1, fun i hi => ?_⟩⟩
    have hcell : ∀ j u, (us.flatMap lineVals)[j]? = some u → w.cell? ⟨g, j, none⟩ = some u := fun j u hj => by
      have := World.ownsRow.cells h (g := g) rfl j u hj
      simp only [Addr.add] at this
      split at this
      · rename_i h0; subst h0; exact this
      · simpa using this
    obtain ⟨a1, a2⟩ := lflat_get us i hi
    rw [Nat.zero_add]
    exact ⟨hcell _ _ a1, hcell _ _ a2⟩
/-- Values that are rows of the call's own and hold the tokens of lines. -/
def AllO (e : TypeId) (w : World) : List (Nat × Value) → List (Nat × List Tok) → Prop
  | [], [] => True
  | u :: us, l :: ls => u.1 = l.1 ∧ (∃ base, OwnT e base w u.2 l.2) ∧ l.2.length ≤ 100000 ∧ AllO e w us ls
  | _, _ => False
theorem AllO.ext {e : TypeId} {w w' : World} (x : Ext w w') : ∀ {us : List (Nat × Value)} {ls : List (Nat × List Tok)}, AllO e w us ls → AllO e w' us ls
  | [], [], _ => trivial
  | _ :: _, _ :: _, h => by obtain ⟨h1, ⟨b, h2⟩, h3, h4⟩ := h; exact ⟨h1, ⟨b, h2.ext x⟩, h3, AllO.ext x h4⟩
  | [], _ :: _, h => h.elim
  | _ :: _, [], h => h.elim
theorem own_apart {w : World} {b b' : Nat} {e e' : TypeId} {v v' : Value} {ts : List Tok} {us : List (Nat × Value)} (h : OwnT e b w v ts) (h' : OwnL e' b' w v' us) (hne : e ≠ e') : v.ownBlock = none ∨ v.ownBlock ≠ v'.ownBlock := by
  unfold OwnT at h
  unfold OwnL at h'
  rcases h.2 with ⟨rfl, _⟩ | ⟨g, cap, cur, rfl, _, hh, _⟩
  · exact .inl rfl
  · refine .inr fun hk => ?_
    rcases h'.2 with ⟨rfl, _⟩ | ⟨g', cap', cur', rfl, _, hh', _⟩
    · simp [Value.ownBlock] at hk
    · have : g = g' := by simpa [Value.ownBlock] using hk
      subst this
      rw [hh] at hh'
      simp at hh'
      exact hne hh'.2
theorem AllO.grown {e e' : TypeId} {w w' : World} {b' : Nat} {v' : Value} {vs : List (Nat × Value)} (hne : e ≠ e') (hv : OwnL e' b' w v' vs) (hg : w.grownBy w' v'.ownBlock) : ∀ {us : List (Nat × Value)} {ls : List (Nat × List Tok)}, AllO e w us ls → AllO e w' us ls
  | [], [], _ => trivial
  | _ :: _, _ :: _, h => by
    obtain ⟨h1, ⟨b, h2⟩, h3, h4⟩ := h
    exact ⟨h1, ⟨b, World.ownsRow.kept h2 hg (own_apart h2 hv hne)⟩, h3, AllO.grown hne hv hg h4⟩
  | [], _ :: _, h => h.elim
  | _ :: _, [], h => h.elim
theorem AllO.snoc {e : TypeId} {w : World} {n b : Nat} {v : Value} {ts : List Tok} (hv : OwnT e b w v ts) (hl : ts.length ≤ 100000) : ∀ {us : List (Nat × Value)} {ls : List (Nat × List Tok)}, AllO e w us ls → AllO e w (us ++ [(n, v)]) (ls ++ [(n, ts)])
  | [], [], _ => ⟨rfl, ⟨b, hv⟩, hl, trivial⟩
  | _ :: _, _ :: _, h => ⟨h.1, h.2.1, h.2.2.1, AllO.snoc hv hl h.2.2.2⟩
  | [], _ :: _, h => h.elim
  | _ :: _, [], h => h.elim
theorem AllO.all {e : TypeId} {w : World} : ∀ {us : List (Nat × Value)} {ls : List (Nat × List Tok)}, AllO e w us ls → AllT w us ls
  | [], [], _ => trivial
  | _ :: _, _ :: _, h => by obtain ⟨h1, ⟨b, h2⟩, h3, h4⟩ := h; exact ⟨h1, h2.toks h3, AllO.all h4⟩
  | [], _ :: _, h => h.elim
  | _ :: _, [], h => h.elim
theorem OwnL.alloc {e : TypeId} {base : Nat} {w : World} {v : Value} {l : List (Nat × Value)} (h : OwnL e base w v l) (o : Obj) : OwnL e base (w.alloc o) v l := World.ownsRow.alloc h o
theorem Tryz.infoLinelexer : (Tryz.prog.info? 44).map (fun i => (i.zero, i.size, i.bytes)) = some (some (.agg #[.int .i64 0, .slice none 0 0]), 2, 32) := by kernel_rfl
theorem Tryz.infoLineref : (Tryz.prog.info? 46).map (fun i => (i.zero, i.size, i.bytes)) = some (some (.agg #[.int .i64 0, .slice none 0 0]), 2, 32) := by kernel_rfl
/-- 'append(out, Line{..})'. -/
theorem wpList_appL_lexer {wr : World} {ops : Array Oper} {rest : List Oper} {o : Oper} {a : Act} {Q : Exit → Act → World → Prop} (hgd : o.guard = none) (s x : Operand)
    (ho : o.op = .call { callee := .builtin .append, args := #[s, x], argTypes := #[37, 37] }) {base : Nat} {v : Value} {l : List (Nat × Value)} {kd : Int} {ad : Option Addr} {k c1 c : Nat} (t : Nat)
    (hs : a.eval s = v) (hx : a.eval x = .slice (some ⟨wr.heap.size, 0, none⟩) 1 c) (hown : OwnL 44 base wr v l) (h1 : kd = (t : Int)) (hn : l.length < 1000000) (hb : base ≤ wr.heap.size)
    (h : ∀ v' w', OwnL 44 base w' v' (l ++ [(t, .slice ad k c1)]) → (wr.alloc (.cells #[.int .i64 kd, .slice ad k c1] 44)).grownBy w' v.ownBlock → wpList Tryz.prog ops Q rest (a.put o.dst v') w') :
    wpList Tryz.prog ops Q (o :: rest) a (wr.alloc (.cells #[.int .i64 kd, .slice ad k c1] 44)) := by
  subst h1
  obtain ⟨i0, hi, hz0, hz1, hz2⟩ := info_parts3 Tryz.infoLinelexer
  refine wpList_append_own _ hgd s x 37 ho base 44 i0 (.agg #[.int .i64 0, .slice none 0 0]) 2 32 Tryz.underlying37 hi hz0 hz1 hz2 rfl (by decide) v l.length (l.flatMap lineVals) hs (World.ownsRow.alloc hown _) ⟨wr.heap.size, 0, none⟩ 1 c (lineVals (t, .slice ad k c1)) hx rfl ?_ ?_ ?_ ?_ ?_ ?_
  · intro j u hj
    match j, hj with
    | 0, hj => simp [lineVals] at hj; subst hj; simp [Addr.add]
    | 1, hj => simp [lineVals] at hj; subst hj; simp [Addr.add]
    | j + 2, hj => simp [lineVals] at hj
  · intro u hu; simp [lineVals] at hu; rcases hu with rfl | rfl <;> rfl
  · unfold maxLen; omega
  · omega
  · simp; omega
  · intro v' w' h1 h2 _
    refine h v' w' ?_ h2
    unfold OwnL
    rw [List.flatMap_append, List.length_append]
    simpa using h1
/-- 'append(out, Line{..})'. -/
theorem wpList_appL_ref {wr : World} {ops : Array Oper} {rest : List Oper} {o : Oper} {a : Act} {Q : Exit → Act → World → Prop} (hgd : o.guard = none) (s x : Operand)
    (ho : o.op = .call { callee := .builtin .append, args := #[s, x], argTypes := #[40, 40] }) {base : Nat} {v : Value} {l : List (Nat × Value)} {kd : Int} {ad : Option Addr} {k c1 c : Nat} (t : Nat)
    (hs : a.eval s = v) (hx : a.eval x = .slice (some ⟨wr.heap.size, 0, none⟩) 1 c) (hown : OwnL 46 base wr v l) (h1 : kd = (t : Int)) (hn : l.length < 1000000) (hb : base ≤ wr.heap.size)
    (h : ∀ v' w', OwnL 46 base w' v' (l ++ [(t, .slice ad k c1)]) → (wr.alloc (.cells #[.int .i64 kd, .slice ad k c1] 46)).grownBy w' v.ownBlock → wpList Tryz.prog ops Q rest (a.put o.dst v') w') :
    wpList Tryz.prog ops Q (o :: rest) a (wr.alloc (.cells #[.int .i64 kd, .slice ad k c1] 46)) := by
  subst h1
  obtain ⟨i0, hi, hz0, hz1, hz2⟩ := info_parts3 Tryz.infoLineref
  refine wpList_append_own _ hgd s x 40 ho base 46 i0 (.agg #[.int .i64 0, .slice none 0 0]) 2 32 Tryz.underlying40 hi hz0 hz1 hz2 rfl (by decide) v l.length (l.flatMap lineVals) hs (World.ownsRow.alloc hown _) ⟨wr.heap.size, 0, none⟩ 1 c (lineVals (t, .slice ad k c1)) hx rfl ?_ ?_ ?_ ?_ ?_ ?_
  · intro j u hj
    match j, hj with
    | 0, hj => simp [lineVals] at hj; subst hj; simp [Addr.add]
    | 1, hj => simp [lineVals] at hj; subst hj; simp [Addr.add]
    | j + 2, hj => simp [lineVals] at hj
  · intro u hu; simp [lineVals] at hu; rcases hu with rfl | rfl <;> rfl
  · unfold maxLen; omega
  · omega
  · simp; omega
  · intro v' w' h1 h2 _
    refine h v' w' ?_ h2
    unfold OwnL
    rw [List.flatMap_append, List.length_append]
    simpa using h1
/-- The lines from number n on, behind those that were found; the number and the error. -/
def linF : List (List UInt8) → Nat → List (Nat × List Tok) → List (Nat × List Tok) × Nat × Nat
  | [], _, out => (out, 0, 0)
  | x :: xs, n, out => if (tokF x).2.2 = 0 then linF xs (n + 1) (if (tokF x).1 = [] then out else out ++ [(n, (tokF x).1)]) else ([], n, (tokF x).2.2)
def linesF (l : List UInt8) : List (Nat × List Tok) × Nat × Nat := if 65536 < l.length then ([], 0, 3) else linF (lns l) 1 []
end Go.Proofs.YtechjiiijiipdaaGreatDoor
namespace Go.Proofs.YtechjiiijiipdaaGreatDoor
open Go.RowKit
set_option linter.unusedSimpArgs false
set_option linter.unusedVariables false
theorem OwnT.form {e : TypeId} {base : Nat} {w : World} {v : Value} {ts : List Tok} (h : OwnT e base w v ts) : ∃ a c, v = .slice a ts.length c := by
  rcases h.2 with ⟨rfl, h0⟩ | ⟨g, cap, cur, rfl, _⟩
  · exact ⟨none, 0, by rw [h0]⟩
  · exact ⟨_, _, rfl⟩
theorem lns_at {l : List UInt8} {ps : List ByteArray} (h : ps.map (·.data.toList) = lns l) {k : Nat} (hk : k < ps.length) : (lns l).drop k = ps[k].data.toList :: (lns l).drop (k + 1) ∧ ps[k].size ≤ l.length := by
  have hl : k < (lns l).length := by rw [← h]; simpa using hk
  have e : (lns l)[k] = ps[k].data.toList := by simp [← h]
  refine ⟨by rw [List.drop_eq_getElem_cons hl, e], ?_⟩
  rw [Lib.size_eq, ← e]
  exact lns_mem _ (Nat.le_refl _) (List.getElem_mem hl)
theorem tokF_length {l : List UInt8} : (tokF l).1.length ≤ l.length := by
  unfold tokF
  split
  · simp
  · exact lexF_length (by simp) (by omega)
theorem linF_step {x : List UInt8} {xs : List (List UInt8)} {n : Nat} {out : List (Nat × List Tok)} {ts : List Tok} {p er : Nat} (h : tokF x = (ts, p, er)) :
    linF (x :: xs) n out = if er = 0 then linF xs (n + 1) (if ts = [] then out else out ++ [(n, ts)]) else ([], n, er) := by
  simp only [linF, h]
attribute [local irreducible] tokF linF lns OwnT OwnL AllO AllT IsLines Toks
set_option maxRecDepth 100000 in
set_option maxHeartbeats 4000000 in
theorem lexer_Lines (s : ByteArray) (w : World) (hs : s.size ≤ 65536) :
    Calls Tryz.prog 23 #[.string s] w fun e w' => ∃ v, e = .returned (.tuple #[v, .int .i64 ((linesF s.data.toList).2.1 : Nat), .int .i64 ((linesF s.data.toList).2.2 : Nat)]) ∧ IsLines w' v (linesF s.data.toList).1 ∧ Ext w w' := by
  have hz := Lib.size_eq s
  have hT : Hid (linesF s.data.toList = linF (lns s.data.toList) 1 []) := by
    refine Lib.hid ?_
    unfold linesF; rw [if_neg (by omega)]
  have hln := lns_len _ (Nat.le_refl s.data.toList.length)
  have HZ := Lib.hid hz
  generalize linesF s.data.toList = R at *
  have hsI : ¬ (65536 : Int) < (s.size : Int) := by omega
  have hSp := fun w => strings_Split_nl s w hs
  have hAt := fun (ps : List ByteArray) (h : ps.map (·.data.toList) = lns s.data.toList) (k : Nat) (hk : k < ps.length) => lns_at h hk
  generalize hLL : lns s.data.toList = LL at *
  have HSP := Lib.hid hSp
  have HAT := Lib.hid hAt
  rw [← hz] at hln
  clear hSp hAt hLL hz
  go_enter Tryz.func23, Tryz.ntmps23
  go_upto_region 5 with (go_at_call 84; refine (HSP.out _).mono ?_; rintro e w3 ⟨ps, hps, rfl, hw3⟩; replace hw3 := Lib.hid hw3)
  have hE3 : Ext w w3 := by rw [hw3.out]; exact (Ext.rfl' w).alloc' _
  have hpl : ps.length = LL.length := by rw [← hps]; simp
  have hpL : ps.length ≤ 65537 := by omega
  have hcell : Hid (∀ (k : Nat) (h : k < ps.length) (w' : World), Ext w3 w' → w'.cell? ⟨w.heap.size, k, none⟩ = some (.string ps[k])) := by
    refine Lib.hid (fun k h w' e => ?_)
    have hlt : w.heap.size < w3.heap.size := by rw [hw3.out]; simp
    have e0 := heap_alloc_new w (.cells (ps.map Value.string).toArray 9)
    rw [← hw3.out] at e0
    rw [e.cell (p := ⟨w.heap.size, k, none⟩) hlt]
    simp only [World.cell?, e0]
    simp [h]
  have hPS := Lib.hid (HAT.out ps hps)
  have hdn : Hid (LL.drop ps.length = []) := Lib.hid (by rw [hpl]; simp)
  clear hw3 hps HAT HSP hpl hln
  go_wp2_with (fail)
  go_loopw [5, 17] (fun o i w' => ∃ (k : Nat) (us : List (Nat × Value)) (ls : List (Nat × List Tok)), i = .int .i64 k ∧ k ≤ ps.length ∧ OwnL 44 w3.heap.size w' o us ∧ AllO 84 w' us ls ∧ us.length ≤ k ∧ Hid (R = linF (LL.drop k) (k + 1) ls) ∧ Ext w3 w') (fun _ i _ => ps.length - (intOf i).toNat)
  case atStart => exact ⟨0, [], [], rfl, by omega, OwnL.nil _ _ _, by unfold AllO; trivial, by simp, Lib.hid (by rw [hT.out]; rfl), Ext.rfl' _⟩
  case round =>
    clear hT
    obtain ⟨k, us, ls, rfl, hk, hown, hall, hul, hR, hE⟩ := hrel
    by_cases hlt : k < ps.length
    · obtain ⟨hd, hsz⟩ := hPS.out k hlt
      have hc := hcell.out k hlt
      have hsz2 : ps[k].size ≤ 65536 := by have := HZ.out; omega
      have hTk := fun w => lexer_TokensO ps[k] w hsz2
      have htl := tokF_length (l := ps[k].data.toList)
      obtain ⟨x, hx⟩ : ∃ x, ps[k] = x := ⟨_, rfl⟩
      rw [hx] at hd hc hTk htl
      obtain ⟨ts, p, er, htok⟩ : ∃ ts p er, tokF x.data.toList = (ts, p, er) := ⟨_, _, _, rfl⟩
      have hst := linF_step (xs := LL.drop (k + 1)) (n := k + 1) (out := ls) htok
      rw [← hd] at hst
      rw [htok] at hTk htl
      have htl2 : ts.length ≤ 100000 := by
        have h1 : ts.length ≤ x.data.toList.length := htl
        have h2 := HZ.out
        have h3 := Lib.size_eq x
        rw [hx] at hsz2
        omega
      have HTK := Lib.hid hTk
      have HST := Lib.hid hst
      clear hd hTk htl htok hst hx hsz2 hsz
      go_upto_region 8 with (go_at_call 14; refine (HTK.out _).mono ?_; rintro e w5 ⟨v, rfl, ht, hE5⟩)
      have hE35 : Ext w3 w5 := hE.trans' hE5
      obtain ⟨a, c, rfl⟩ := ht.form
      replace hown := hown.ext hE5
      replace hall := hall.ext hE5
      clear HTK hE5 hE
      by_cases he0 : er = 0
      · have ge : ((er : Int) != 0) = false := by rw [he0]; rfl
        have hst := HST.out
        rw [if_pos he0] at hst
        clear he0 HST
        by_cases ht0 : ts = []
        · have g0 : decide ((0 : Int) < (ts.length : Int)) = false := by rw [ht0]; rfl
          rw [if_pos ht0] at hst
          have HS2 := Lib.hid hst
          clear hst
          subst ht0
          go_wp2_with (fail)
          go_roundw
          case rel => exact ⟨k + 1, us, ls, by go_num, by omega, hown, hall, by omega, Lib.hid (by rw [hR.out, HS2.out]), hE35⟩
          case measure => simp [intOf]; omega
        · have htp := List.length_pos_iff.2 ht0
          have g0 : decide ((0 : Int) < (ts.length : Int)) = true := decide_eq_true (by omega)
          rw [if_neg ht0] at hst
          have HS2 := Lib.hid hst
          clear hst ht0
          go_wp2_with (at_builtin; refine wpList_appL_lexer rfl _ _ rfl (l := us) (k + 1) rfl rfl hown (by omega) (by omega) (by exact hE35.size) ?_; intro v' w' hown' hg')
          have hall' := AllO.grown (by decide) (hown.alloc _) hg' (AllO.snoc (n := k + 1) (ht.ext ((Ext.rfl' _).alloc' _)) htl2 (hall.ext ((Ext.rfl' _).alloc' _)))
          go_roundw
          case rel => exact ⟨k + 1, _, _, by go_num, by omega, hown', hall', by rw [List.length_append]; simp; omega, Lib.hid (by rw [hR.out, HS2.out]), (hE35.alloc' _).grown' hg' hown.block⟩
          case measure => simp [intOf]; omega
      · have ge : ((er : Int) != 0) = true := by simp; omega
        have hst := HST.out
        rw [if_neg he0] at hst
        have HS2 := Lib.hid (hR.out.trans hst)
        clear hst HST he0 hR
        go_wp2_with (fail)
        go_ret3
        exact ⟨_, by rw [HS2.out]; first | rfl | go_num, by rw [HS2.out]; exact IsLines.nil _, by exact exttI⟩
    · obtain rfl : k = ps.length := by omega
      have HS2 := Lib.hid (show R = (ls, 0, 0) by rw [hR.out, hdn.out]; unfold linF; rfl)
      clear hR
      go_wp2_with (fail)
      go_ret3
      exact ⟨_, by rw [HS2.out]; rfl, by rw [HS2.out]; exact hown.lines hall.all (by omega), by exact exttI⟩
end Go.Proofs.YtechjiiijiipdaaGreatDoor
namespace Go.Proofs.YtechjiiijiipdaaGreatDoor
open Go.RowKit
set_option linter.unusedSimpArgs false
set_option linter.unusedVariables false
theorem cutF_snoc {l : List UInt8} {f i : Nat} (hf : f ≤ i) (h : i < l.length) : cutF l f (i + 1) = cutF l f i ++ [peekF l i] := by
  unfold cutF
  rw [take_peek h, List.drop_append_of_le_length (by simp; omega)]
theorem drop_cut {l : List UInt8} {f i : Nat} (hf : f ≤ i) (h : i ≤ l.length) : l.drop f = cutF l f i ++ l.drop i := by
  unfold cutF
  conv => lhs; rw [← List.take_append_drop i l]
  rw [List.drop_append_of_le_length (by simp; omega)]
theorem lns_here {l : List UInt8} {f i : Nat} (hf : f ≤ i) (h : i < l.length) (hn : 10 ∉ cutF l f i) (hc : peekF l i = 10) : lns (l.drop f) = cutF l f i :: lns (l.drop (i + 1)) := by
  rw [drop_cut hf (by omega), drop_peek h, hc, lns_more hn]
theorem lns_end {l : List UInt8} {f : Nat} (hf : f ≤ l.length) (hn : 10 ∉ cutF l f l.length) : lns (l.drop f) = [cutF l f l.length] := by
  have e : l.drop f = cutF l f l.length := by unfold cutF; rw [List.take_length]
  rw [← e] at hn ⊢
  exact lns_last hn
theorem cutF_none {l : List UInt8} {i : Nat} : cutF l i i = [] := by
  unfold cutF; rw [List.drop_eq_nil_iff]; simp; omega
attribute [local irreducible] tokF linF lns OwnT OwnL AllO AllT IsLines Toks cutF peekF
set_option maxRecDepth 100000 in
set_option maxHeartbeats 8000000 in
theorem ref21_Lines (s : ByteArray) (w : World) (hs : s.size ≤ 65536) :
    Calls Tryz.prog 24 #[.string s] w fun e w' => ∃ v, e = .returned (.tuple #[v, .int .i64 ((linesF s.data.toList).2.1 : Nat), .int .i64 ((linesF s.data.toList).2.2 : Nat)]) ∧ IsLines w' v (linesF s.data.toList).1 ∧ Ext w w' := by
  have hz := Lib.size_eq s
  have hT : Hid (linesF s.data.toList = linF (lns s.data.toList) 1 []) := by
    refine Lib.hid ?_
    unfold linesF; rw [if_neg (by omega)]
  have HZ := Lib.hid hz
  generalize linesF s.data.toList = R at *
  have hsI : ¬ (65536 : Int) < (s.size : Int) := by omega
  have HP := Lib.hid (fun (j : Nat) (h : j < s.size) => peekF_at (s := s) h)
  have hcd := fun (f i : Nat) => cut_data s f i
  have HCD := Lib.hid hcd
  clear hcd hz
  generalize s.data.toList = L at *
  go_enter Tryz.func24, Tryz.ntmps24
  go_wp2_with (fail)
  go_loopw [5, 6, 7, 8] (fun o fr nn i w' => ∃ (k f n : Nat) (us : List (Nat × Value)) (ls : List (Nat × List Tok)), i = .int .i64 k ∧ fr = .int .i64 f ∧ nn = .int .i64 n ∧ n ≤ k + 1 ∧ f ≤ k ∧ OwnL 46 w.heap.size w' o us ∧ AllO 85 w' us ls ∧ us.length ≤ k ∧
    (k ≤ s.size ∧ Hid (10 ∉ cutF L f k ∧ R = linF (lns (L.drop f)) n ls) ∨ k = s.size + 1 ∧ Hid (R = (ls, 0, 0))) ∧ Ext w w') (fun _ _ _ i _ => s.size + 1 - (intOf i).toNat)
  case atStart => exact ⟨0, 0, 1, [], [], rfl, rfl, rfl, by omega, by omega, OwnL.nil _ _ _, by unfold AllO; trivial, by simp, .inl ⟨by omega, Lib.hid ⟨by rw [cutF_none]; simp, by rw [hT.out]; rfl⟩⟩, Ext.rfl' _⟩
  case round =>
    clear hT
    obtain ⟨k, f, n, us, ls, rfl, rfl, rfl, hnk, hfk, hown, hall, hul, hcase, hE⟩ := hrel
    rcases hcase with ⟨hk, hinv⟩ | ⟨hk, hR⟩
    · have g1 : decide ((k : Int) ≤ (s.size : Int)) = true := decide_eq_true (by omega)
      have hdat := HCD.out f k
      have hxs : (s.extract f k).size ≤ 65536 := by
        rw [Lib.size_eq, hdat]
        have : (cutF L f k).length ≤ L.length := by unfold cutF; simp; omega
        have := HZ.out; omega
      have hTk := fun w => ref21_TokensO (s.extract f k) w hxs
      have htl := tokF_length (l := (s.extract f k).data.toList)
      rw [hdat] at hTk htl
      have hcl : (cutF L f k).length ≤ 65536 := by rw [← hdat, ← Lib.size_eq]; exact hxs
      obtain ⟨ts, p, er, htok⟩ : ∃ ts p er, tokF (cutF L f k) = (ts, p, er) := ⟨_, _, _, rfl⟩
      rw [htok] at hTk htl
      have htl2 : ts.length ≤ 100000 := by have h1 : ts.length ≤ (cutF L f k).length := htl; omega
      have hlst := fun (xs : List (List UInt8)) => linF_step (xs := xs) (n := n) (out := ls) htok
      have HTK := Lib.hid hTk
      have hfI : (f : Int) ≤ (k : Int) := by omega
      have hkI : (k : Int) ≤ (s.size : Int) := by omega
      clear hTk htl hdat hxs hcl htok
      by_cases hlt : k < s.size
      · have g2 : decide ((k : Int) < (s.size : Int)) = true := decide_eq_true (by omega)
        have hkl : k < L.length := by have := HZ.out; omega
        by_cases hc : s[k] = 10
        · have gc : ((s[k].toNat : Int) != 10) = false := by rw [hc]; rfl
          have hst := hlst (lns (L.drop (k + 1)))
          rw [← lns_here hfk hkl hinv.out.1 (by rw [HP.out k hlt, hc])] at hst
          rw [← hinv.out.2] at hst
          have HST := Lib.hid hst
          have hnx : ∀ ls', R = linF (lns (L.drop (k + 1))) (n + 1) ls' → (k + 1 ≤ s.size ∧ Hid (10 ∉ cutF L (k + 1) (k + 1) ∧ R = linF (lns (L.drop (k + 1))) (n + 1) ls') ∨ k + 1 = s.size + 1 ∧ Hid (R = (ls', 0, 0))) := fun ls' h => .inl ⟨by omega, Lib.hid ⟨by rw [cutF_none]; simp, h⟩⟩
          have HNX := Lib.hid hnx
          clear hst hlst hc hnx hinv
          go_upto_region 10 with (go_at_call 15; refine (HTK.out _).mono ?_; rintro e w5 ⟨v, rfl, ht, hE5⟩)
          have hE35 : Ext w w5 := hE.trans' hE5
          obtain ⟨a, c, rfl⟩ := ht.form
          replace hown := hown.ext hE5
          replace hall := hall.ext hE5
          clear HTK hE5 hE
          by_cases he0 : er = 0
          · have ge : ((er : Int) != 0) = false := by rw [he0]; rfl
            have hst := HST.out
            rw [if_pos he0] at hst
            clear he0 HST
            by_cases ht0 : ts = []
            · have g0 : decide ((0 : Int) < (ts.length : Int)) = false := by rw [ht0]; rfl
              rw [if_pos ht0] at hst
              have HS2 := Lib.hid (HNX.out _ hst)
              clear hst HNX
              subst ht0
              go_wp2_with (fail)
              go_roundw
              case rel => exact ⟨k + 1, k + 1, n + 1, us, ls, by go_num, by go_num, by go_num, by omega, by omega, hown, hall, by omega, HS2.out, hE35⟩
              case measure => simp [intOf]; try omega
            · have htp := List.length_pos_iff.2 ht0
              have g0 : decide ((0 : Int) < (ts.length : Int)) = true := decide_eq_true (by omega)
              rw [if_neg ht0] at hst
              have HS2 := Lib.hid (HNX.out _ hst)
              clear hst ht0 HNX
              go_wp2_with (at_builtin; refine wpList_appL_ref rfl _ _ rfl (l := us) n rfl rfl hown (by omega) (by omega) (by exact hE35.size) ?_; intro v' w' hown' hg')
              have hall' := AllO.grown (by decide) (hown.alloc _) hg' (AllO.snoc (n := n) (ht.ext ((Ext.rfl' _).alloc' _)) htl2 (hall.ext ((Ext.rfl' _).alloc' _)))
              go_roundw
              case rel => exact ⟨k + 1, k + 1, n + 1, _, _, by go_num, by go_num, by go_num, by omega, by omega, hown', hall', by rw [List.length_append]; simp; omega, HS2.out, (hE35.alloc' _).grown' hg' hown.block⟩
              case measure => simp [intOf]; try omega
          · have ge : ((er : Int) != 0) = true := by simp; omega
            have hst := HST.out
            rw [if_neg he0] at hst
            have HS2 := Lib.hid hst
            clear hst HST he0 HNX
            go_wp2_with (fail)
            go_ret3
            exact ⟨_, by rw [HS2.out]; first | rfl | go_num, by rw [HS2.out]; exact IsLines.nil _, by exact exttI⟩
        · have gc : ((s[k].toNat : Int) != 10) = true := by have := nat_ne (n := 10) hc (by omega); simp; omega
          have hn2 : 10 ∉ cutF L f (k + 1) := by
            rw [cutF_snoc hfk hkl, HP.out k hlt]
            simp only [List.mem_append, List.mem_singleton, not_or]
            exact ⟨hinv.out.1, fun e => hc e.symm⟩
          have H2 := Lib.hid (And.intro hn2 hinv.out.2)
          clear hn2 hlst hc HTK
          go_wp2_with (fail)
          go_roundw
          case rel => exact ⟨k + 1, f, n, us, ls, by go_num, rfl, rfl, by omega, by omega, hown, hall, by omega, .inl ⟨by omega, H2⟩, hE⟩
          case measure => simp [intOf]; omega
      · have g2 : decide ((k : Int) < (s.size : Int)) = false := decide_eq_false (by omega)
        have hst := hlst []
        have hkL : L.length = k := by have := HZ.out; omega
        have he := lns_end (l := L) (f := f) (by omega) (by rw [hkL]; exact hinv.out.1)
        rw [hkL] at he
        rw [← he, ← hinv.out.2] at hst
        have HST := Lib.hid hst
        have hnx : ∀ ls', R = linF [] (n + 1) ls' → (k + 1 ≤ s.size ∧ Hid (10 ∉ cutF L (k + 1) (k + 1) ∧ R = linF (lns (L.drop (k + 1))) (n + 1) ls') ∨ k + 1 = s.size + 1 ∧ Hid (R = (ls', 0, 0))) := fun ls' h => .inr ⟨by omega, Lib.hid (by rw [h]; unfold linF; rfl)⟩
        have HNX := Lib.hid hnx
        clear hst hlst he hnx hinv hkL
        go_upto_region 10 with (go_at_call 15; refine (HTK.out _).mono ?_; rintro e w5 ⟨v, rfl, ht, hE5⟩)
        have hE35 : Ext w w5 := hE.trans' hE5
        obtain ⟨a, c, rfl⟩ := ht.form
        replace hown := hown.ext hE5
        replace hall := hall.ext hE5
        clear HTK hE5 hE
        by_cases he0 : er = 0
        · have ge : ((er : Int) != 0) = false := by rw [he0]; rfl
          have hst := HST.out
          rw [if_pos he0] at hst
          clear he0 HST
          by_cases ht0 : ts = []
          · have g0 : decide ((0 : Int) < (ts.length : Int)) = false := by rw [ht0]; rfl
            rw [if_pos ht0] at hst
            have HS2 := Lib.hid (HNX.out _ hst)
            clear hst HNX
            subst ht0
            go_wp2_with (fail)
            go_roundw
            case rel => exact ⟨k + 1, k + 1, n + 1, us, ls, by go_num, by go_num, by go_num, by omega, by omega, hown, hall, by omega, HS2.out, hE35⟩
            case measure => simp [intOf]; try omega
          · have htp := List.length_pos_iff.2 ht0
            have g0 : decide ((0 : Int) < (ts.length : Int)) = true := decide_eq_true (by omega)
            rw [if_neg ht0] at hst
            have HS2 := Lib.hid (HNX.out _ hst)
            clear hst ht0 HNX
            go_wp2_with (at_builtin; refine wpList_appL_ref rfl _ _ rfl (l := us) n rfl rfl hown (by omega) (by omega) (by exact hE35.size) ?_; intro v' w' hown' hg')
            have hall' := AllO.grown (by decide) (hown.alloc _) hg' (AllO.snoc (n := n) (ht.ext ((Ext.rfl' _).alloc' _)) htl2 (hall.ext ((Ext.rfl' _).alloc' _)))
            go_roundw
            case rel => exact ⟨k + 1, k + 1, n + 1, _, _, by go_num, by go_num, by go_num, by omega, by omega, hown', hall', by rw [List.length_append]; simp; omega, HS2.out, (hE35.alloc' _).grown' hg' hown.block⟩
            case measure => simp [intOf]; try omega
        · have ge : ((er : Int) != 0) = true := by simp; omega
          have hst := HST.out
          rw [if_neg he0] at hst
          have HS2 := Lib.hid hst
          clear hst HST he0 HNX
          go_wp2_with (fail)
          go_ret3
          exact ⟨_, by rw [HS2.out]; first | rfl | go_num, by rw [HS2.out]; exact IsLines.nil _, by exact exttI⟩
    · subst hk
      have g1 : decide ((s.size : Int) + 1 ≤ (s.size : Int)) = false := decide_eq_false (by omega)
      have HR := hR
      clear hR
      go_wp2_with (fail)
      go_ret3
      exact ⟨_, by rw [HR.out]; rfl, by rw [HR.out]; exact hown.lines hall.all (by omega), by exact exttI⟩
end Go.Proofs.YtechjiiijiipdaaGreatDoor

/- Walk: lexer.Tokens. -/
import Derived.Test.YtechjiiijiipdaaDoorW22
namespace Go.Proofs.YtechjiiijiipdaaDoor
open Go.RowKit
set_option linter.unusedSimpArgs false
set_option linter.unusedVariables false
theorem indexByte_mem : ∀ (l : List UInt8) (c : UInt8), (l.contains c = true → 0 ≤ Lib.indexByte l c) ∧ (l.contains c = false → Lib.indexByte l c = -1)
  | [], c => by simp [Lib.indexByte]
  | b :: l, c => by
    obtain ⟨h1, h2⟩ := indexByte_mem l c
    by_cases hb : b = c
    · subst hb; simp [Lib.indexByte]
    · have hb' : ¬ c = b := fun h => hb h.symm
      constructor
      · intro h
        have : l.contains c = true := by simpa [hb'] using h
        have := h1 this
        simp [Lib.indexByte, hb]
        try (split <;> omega)
      · intro h
        have := h2 (by simpa [hb'] using h)
        simp [Lib.indexByte, hb, this]
def symI (c : UInt8) : Int := Lib.indexByte [61, 44, 59, 58, 40, 41] c
theorem sym_at (c : UInt8) : (symB c = true → 0 ≤ symI c) ∧ (symB c = false → symI c = -1) := indexByte_mem _ _
theorem index_sym (c : UInt8) (w : World) : Calls Tryd.prog 24 #[.string ⟨#[61, 44, 59, 58, 40, 41]⟩, .int .u8 (c.toNat : Int)] w fun e w' => e = .returned (.int .i64 (symI c)) ∧ w = w' := by
  refine (Tryd.strings_IndexByte _ _ _).mono ?_
  rintro e w' ⟨rfl, rfl⟩
  have : ((c.toNat : Int)).toNat.toUInt8 = c := by simp
  rw [this]
  exact ⟨rfl, rfl⟩
theorem cut_extract (s : ByteArray) (a b : Nat) : s.extract a b = ⟨(cutF s.data.toList a b).toArray⟩ := by
  rw [Lib.extract_eq, cutF, List.drop_take]
theorem cut_data (s : ByteArray) (a b : Nat) : (s.extract a b).data.toList = cutF s.data.toList a b := by
  rw [cut_extract]
theorem lexF_length {l : List UInt8} : ∀ {f k : Nat} {out : List Tok}, out.length ≤ k → k ≤ l.length → (lexF l f k out).1.length ≤ l.length
  | 0, k, out, h1, h2 => by simp only [lexF]; omega
  | f + 1, k, out, h1, h2 => by
    simp only [lexF]
    cases hs : stepF l k with
    | stop => simp only; omega
    | fail p e => simp
    | skip n =>
      have := stepF_next (.inl hs)
      exact lexF_length (by omega) this.2
    | tok t n =>
      have := stepF_next (.inr ⟨t, hs⟩)
      exact lexF_length (by simp; omega) this.2
theorem stepF_at {s : ByteArray} {k : Nat} (hk : k < s.size) (h35 : s[k] ≠ 35) : stepF s.data.toList k = if s[k] = 32 then .skip (k + 1)
    else if letterB s[k] = true then (if 24 < runF nameB s.data.toList k - k then .fail k 3 else .tok 1 (runF nameB s.data.toList k))
    else if (digitB s[k] || (decide (s[k] = 45) && digitB (peekF s.data.toList (k + 1)))) = true then
      (if isDec (cutF s.data.toList k (numF s.data.toList k)) = false then .fail k 2
       else if (letterB (peekF s.data.toList (numF s.data.toList k)) || decide (peekF s.data.toList (numF s.data.toList k) = 95) || decide (peekF s.data.toList (numF s.data.toList k) = 46)) = true then .fail (numF s.data.toList k) 2 else .tok 2 (numF s.data.toList k))
    else if symB s[k] = true then .tok 3 (k + 1) else .fail k 2 := by
  have hz := Lib.size_eq s
  unfold stepF
  rw [peekF_at hk, if_neg (by rintro (h | h); omega; exact h35 h)]
attribute [local irreducible] IsInt U32s Dig Norm Own IsRat AllD dec digF isDec decQ stepF lexF tokF runF peekF numF letterB digitB nameB symB symI cutF OwnT Toks
set_option maxRecDepth 100000 in
set_option maxHeartbeats 8000000 in
theorem lexer_Tokens (s : ByteArray) (w : World) (hs : s.size ≤ 65536) :
    Calls Tryd.prog 8 #[.string s] w fun e w' => ∃ v, e = .returned (.tuple #[v, .int .i64 ((tokF s.data.toList).2.1 : Nat), .int .i64 ((tokF s.data.toList).2.2 : Nat)]) ∧ Toks w' v (tokF s.data.toList).1 ∧ Ext w w' := by
  have hz := Lib.size_eq s
  have hT : Hid (tokF s.data.toList = lexF s.data.toList (s.data.toList.length + 1) 0 []) := by
    refine Lib.hid ?_
    unfold tokF; rw [if_neg (by omega)]
  have HZ := Lib.hid hz
  clear hz
  generalize tokF s.data.toList = R at *
  have hsI : ¬ (65536 : Int) < (s.size : Int) := by omega
  go_enter Tryd.func8, Tryd.ntmps8
  go_wp2_with (first | fail)
  go_loopw [5, 6] (fun o a w' => ∃ (k f : Nat) (ts : List Tok), a = .int .i64 k ∧ k ≤ s.size ∧ s.size < k + f ∧ ts.length ≤ k ∧ OwnT 28 w.heap.size w' o ts ∧ Hid (R = lexF s.data.toList f k ts) ∧ Ext w w') (fun _ a _ => s.size - (intOf a).toNat)
  case atStart => exact ⟨0, s.data.toList.length + 1, [], rfl, by omega, by have := HZ.out; omega, by simp, OwnT.nil _ _ _, hT, Ext.rfl' w⟩
  case round =>
    clear hT
    obtain ⟨k, f, ts, rfl, hk, hf, htl, hown, hR, hE⟩ := hrel
    obtain ⟨f, rfl⟩ : ∃ g, f = g + 1 := ⟨f - 1, by omega⟩
    by_cases hlt : k < s.size
    · have hp := peekF_at hlt
      by_cases h35 : s[k] = 35
      · have e35 : ((s[k].toNat : Int) != 35) = false := by rw [h35]; rfl
        have hst : Hid (stepF s.data.toList k = .stop) := by
          refine Lib.hid ?_
          unfold stepF; rw [hp, if_pos (.inr h35)]
        clear hp h35
        go_wp2_with (first | fail)
        go_ret3
        have e : R = (ts, 0, 0) := by rw [hR.out]; simp only [lexF, hst.out]
        exact ⟨_, by rw [e]; rfl, by rw [e]; exact hown.toks (by omega), hE⟩
      · have e35 : ((s[k].toNat : Int) != 35) = true := by
          have : s[k].toNat ≠ 35 := fun h => h35 (UInt8.toNat_inj.1 h)
          simp; omega
        have hsf := stepF_at hlt h35
        by_cases h32 : s[k] = 32
        · have e32 : ((s[k].toNat : Int) == 32) = true := by rw [h32]; rfl
          have hst : Hid (stepF s.data.toList k = .skip (k + 1)) := Lib.hid (by rw [hsf, if_pos h32])
          clear hp hsf h32 h35
          go_wp2_with (first | fail)
          go_roundw
          case rel => exact ⟨k + 1, f, ts, by go_num, by omega, by omega, by omega, hown, Lib.hid (by rw [hR.out]; simp only [lexF, hst.out]), hE⟩
          case measure => simp [intOf]; omega
        · have e32 : ((s[k].toNat : Int) == 32) = false := by
            have : s[k].toNat ≠ 32 := fun h => h32 (UInt8.toNat_inj.1 h)
            simp; omega
          rw [if_neg h32] at hsf
          clear h32 h35
          have hrg := runF_ge nameB s.data.toList k
          have hrl := runF_le (p := nameB) (l := s.data.toList) (k := k) (by have := HZ.out; omega)
          rw [← HZ.out] at hrl
          by_cases hL : letterB s[k] = true
          · rw [if_pos hL] at hsf
            have HL := Lib.hid hL
            generalize hee : runF nameB s.data.toList k = e at *
            have HE := Lib.hid hee
            clear hL hee hp
            by_cases h24 : 24 < e - k
            · rw [if_pos h24] at hsf
              have hst := Lib.hid hsf
              have g24 : decide ((24 : Int) < (e : Int) - (k : Int)) = true := by simp; omega
              clear hsf
              go_wp2_with (first | (go_at_call 17; refine (lexer_letter _ _).mono ?_; rintro e w' ⟨rfl, rfl⟩; rw [HL.out]) | (go_at_call 18; refine (run_name_at s k _ _ hs (by omega) rfl).mono ?_; rintro e w' ⟨rfl, rfl⟩; rw [HE.out]))
              go_ret3
              have e : R = ([], k, 3) := by rw [hR.out]; simp only [lexF, hst.out]
              exact ⟨_, by rw [e]; rfl, by rw [e]; exact Toks.nil _, by exact exttI⟩
            · rw [if_neg h24] at hsf
              have hst := Lib.hid hsf
              have g24 : decide ((24 : Int) < (e : Int) - (k : Int)) = false := by simp; omega
              have hlt' := (stepF_next (.inr ⟨1, hsf⟩)).1
              have hcut := Lib.hid (cut_extract s k e)
              clear hsf
              go_wp2_with (first | (go_at_call 17; refine (lexer_letter _ _).mono ?_; rintro e w' ⟨rfl, rfl⟩; rw [HL.out]) | (go_at_call 18; refine (run_name_at s k _ _ hs (by omega) rfl).mono ?_; rintro e w' ⟨rfl, rfl⟩; rw [HE.out]) | (at_builtin; refine wpList_appT_lexer rfl _ _ rfl (l := ts) ⟨1, k, cutF s.data.toList k (e)⟩ rfl rfl hown rfl rfl hcut.out (by omega) (by exact hE.size) ?_; intro v' w' hown' hg'))
              go_roundw
              case rel => exact ⟨e, f, _, by first | rfl | go_num, by omega, by omega, by rw [List.length_append]; simp; omega, hown', Lib.hid (by rw [hR.out]; simp only [lexF, hst.out]), (hE.alloc' _).grown' hg' hown.block⟩
              case measure => simp [intOf]; omega
          · rw [if_neg hL] at hsf
            have HL := Lib.hid (Bool.eq_false_iff.2 hL)
            clear hL hrg hrl
            go_upto_region 14 with ((go_at_call 17; refine (lexer_letter _ _).mono ?_; rintro e w' ⟨rfl, rfl⟩; rw [HL.out]))
            obtain ⟨nb, hnb⟩ : ∃ nb : Bool, (digitB s[k] || (decide (s[k] = 45) && digitB (peekF s.data.toList (k + 1)))) = nb := ⟨_, rfl⟩
            rw [hnb] at hsf
            have HSF := Lib.hid hsf
            have HNB := Lib.hid hnb
            have hgt := Lib.hid (@numF_gt s.data.toList k)
            rw [hp] at hgt
            clear hsf hnb hp
            go_cut [48] (fun t w' => t = .bool nb ∧ w' = wr)
            case first =>
              obtain ⟨db, hdb⟩ : ∃ db : Bool, digitB s[k] = db := ⟨_, rfl⟩
              have HDB := Lib.hid hdb
              clear hdb
              cases db with
              | true =>
                have e : nb = true := by rw [← HNB.out, HDB.out]; rfl
                go_wp2_with ((go_at_call 20; refine (lexer_digit _ _).mono ?_; rintro e w' ⟨rfl, rfl⟩; rw [HDB.out]))
                go_meet
                exact ⟨by rw [e], rfl⟩
              | false =>
                by_cases h45 : s[k] = 45
                · have e45 : ((s[k].toNat : Int) == 45) = true := by rw [h45]; rfl
                  obtain ⟨pb, hpb⟩ : ∃ pb : Bool, digitB (peekF s.data.toList (k + 1)) = pb := ⟨_, rfl⟩
                  have HPB := Lib.hid hpb
                  have e : nb = pb := by rw [← HNB.out, HDB.out, HPB.out, h45]; rfl
                  clear hpb h45
                  subst e
                  go_wp2_with (first | (go_at_call 21; refine (peek_at s (k + 1) _ _ hs (by omega) (by omega)).mono ?_; rintro e w' ⟨rfl, rfl⟩) | (go_at_call 20; refine (lexer_digit _ _).mono ?_; rintro e w' ⟨rfl, rfl⟩; first | rw [HDB.out] | rw [HPB.out]))
                  go_meet
                  exact ⟨rfl, rfl⟩
                · have e45 : ((s[k].toNat : Int) == 45) = false := by
                    have : s[k].toNat ≠ 45 := fun h => h45 (UInt8.toNat_inj.1 h)
                    simp; omega
                  have e : nb = false := by rw [← HNB.out, HDB.out]; simp [h45]
                  clear h45
                  go_wp2_with ((go_at_call 20; refine (lexer_digit _ _).mono ?_; rintro e w' ⟨rfl, rfl⟩; rw [HDB.out]))
                  go_meet
                  exact ⟨by rw [e], rfl⟩
            case rest =>
              obtain ⟨rfl, rfl⟩ := hcut
              cases nb with
              | true =>
                have hsf := HSF.out
                rw [if_pos rfl] at hsf
                have hke := hgt.out HNB.out
                have hel := numF_le (l := s.data.toList) (k := k) (by have := HZ.out; omega)
                rw [← HZ.out] at hel
                have hpk := peek_at s (numF s.data.toList k)
                generalize hee : numF s.data.toList k = e at *
                have HE := Lib.hid hee
                clear hee HSF HNB hgt
                have hdd := cut_data s k e
                have hcut := Lib.hid (cut_extract s k e)
                have hesz : (s.extract k e).size ≤ 4000000000 := by
                  rw [Lib.size_eq, hdd]
                  have : (cutF s.data.toList k e).length ≤ s.data.toList.length := by unfold cutF; simp; omega
                  have := HZ.out; omega
                by_cases hD : isDec (cutF s.data.toList k e) = false
                · rw [if_pos hD] at hsf
                  have hst := Lib.hid hsf
                  have hP := Lib.hid (fun w => decimal_Parse_no (s.extract k e) w hesz (by rw [hdd]; exact hD))
                  clear hsf hD hdd hesz hpk
                  go_wp2_with (first | (go_at_call 22; refine (lexer_number s k _ hs hlt).mono ?_; rintro e w' ⟨rfl, rfl⟩; rw [HE.out]) | (go_at_call 23; refine (hP.out _).mono ?_; rintro e w5 ⟨rfl, hE5⟩))
                  go_ret3
                  have e : R = ([], k, 2) := by rw [hR.out]; simp only [lexF, hst.out]
                  exact ⟨_, by rw [e]; rfl, by rw [e]; exact Toks.nil _, by exact exttI⟩
                · rw [if_neg hD] at hsf
                  have hP := Lib.hid (fun w => decimal_Parse_ok (s.extract k e) w hesz (by rw [hdd]; simpa using hD))
                  clear hD hdd hesz
                  go_upto_region 19 with (first | (go_at_call 22; refine (lexer_number s k _ hs hlt).mono ?_; rintro e w' ⟨rfl, rfl⟩; rw [HE.out]) | (go_at_call 23; refine (hP.out _).mono ?_; rintro e w5 ⟨vx, rfl, hx, hE5⟩; obtain ⟨nxn, axn, kxn, cxn, nxd, axd, kxd, cxd, rfl, _, _⟩ := IsRat.form hx))
                  obtain ⟨w6, p, f1, f2, _, hE6⟩ := box1 w5 (.cells #[.bool nxn, .slice axn kxn cxn, .bool nxd, .slice axd kxd cxd] 38)
                  rw [f1, f2]
                  replace hown := hown.ext (show Ext wc w6 by exact exttI)
                  replace hE : Ext w w6 := by exact exttI
                  clear f1 f2 hE5 hE6 hP
                  clear hx
                  have HPK := Lib.hid (fun w => hpk _ w hs (by omega) rfl)
                  clear hpk
                  generalize peekF s.data.toList e = pc at *
                  obtain ⟨lb, hlb⟩ : ∃ lb : Bool, letterB pc = lb := ⟨_, rfl⟩
                  rw [hlb] at hsf
                  have HLB := Lib.hid hlb
                  clear hlb
                  cases lb with
                  | true =>
                    have hst := Lib.hid (hsf.trans (if_pos (by simp)))
                    clear hsf
                    go_wp2_with (first | (go_at_call 21; refine (HPK.out _).mono ?_; rintro e w' ⟨rfl, rfl⟩) | (go_at_call 17; refine (lexer_letter _ _).mono ?_; rintro e w' ⟨rfl, rfl⟩; rw [HLB.out]))
                    go_ret3
                    have e : R = ([], e, 2) := by rw [hR.out]; simp only [lexF, hst.out]
                    exact ⟨_, by rw [e]; rfl, by rw [e]; exact Toks.nil _, by exact exttI⟩
                  | false =>
                    by_cases h95 : pc = 95
                    · have e95 : ((pc.toNat : Int) == 95) = true := by rw [h95]; rfl
                      have hst := Lib.hid (hsf.trans (if_pos (by simp [h95])))
                      clear hsf h95
                      go_wp2_with (first | (go_at_call 21; refine (HPK.out _).mono ?_; rintro e w' ⟨rfl, rfl⟩) | (go_at_call 17; refine (lexer_letter _ _).mono ?_; rintro e w' ⟨rfl, rfl⟩; rw [HLB.out]))
                      go_ret3
                      have e : R = ([], e, 2) := by rw [hR.out]; simp only [lexF, hst.out]
                      exact ⟨_, by rw [e]; rfl, by rw [e]; exact Toks.nil _, by exact exttI⟩
                    · have e95 : ((pc.toNat : Int) == 95) = false := by
                        have : pc.toNat ≠ 95 := fun h => h95 (UInt8.toNat_inj.1 h)
                        simp; omega
                      by_cases h46 : pc = 46
                      · have e46 : ((pc.toNat : Int) == 46) = true := by rw [h46]; rfl
                        have hst := Lib.hid (hsf.trans (if_pos (by simp [h46])))
                        clear hsf h95 h46
                        go_wp2_with (first | (go_at_call 21; refine (HPK.out _).mono ?_; rintro e w' ⟨rfl, rfl⟩) | (go_at_call 17; refine (lexer_letter _ _).mono ?_; rintro e w' ⟨rfl, rfl⟩; rw [HLB.out]))
                        go_ret3
                        have e : R = ([], e, 2) := by rw [hR.out]; simp only [lexF, hst.out]
                        exact ⟨_, by rw [e]; rfl, by rw [e]; exact Toks.nil _, by exact exttI⟩
                      · have e46 : ((pc.toNat : Int) == 46) = false := by
                          have : pc.toNat ≠ 46 := fun h => h46 (UInt8.toNat_inj.1 h)
                          simp; omega
                        have hst := Lib.hid (hsf.trans (if_neg (by simp [h95, h46])))
                        clear hsf h95 h46
                        go_wp2_with (first | (go_at_call 21; refine (HPK.out _).mono ?_; rintro e w' ⟨rfl, rfl⟩) | (go_at_call 17; refine (lexer_letter _ _).mono ?_; rintro e w' ⟨rfl, rfl⟩; rw [HLB.out]) | (at_builtin; refine wpList_appT_lexer rfl _ _ rfl (l := ts) ⟨2, k, cutF s.data.toList k (e)⟩ rfl rfl hown rfl rfl hcut.out (by omega) (by exact hE.size) ?_; intro v' w' hown' hg'))
                        go_roundw
                        case rel => exact ⟨e, f, _, by first | rfl | go_num, by omega, by omega, by rw [List.length_append]; simp; omega, hown', Lib.hid (by rw [hR.out]; simp only [lexF, hst.out]), (hE.alloc' _).grown' hg' hown.block⟩
                        case measure => simp [intOf]; omega
              | false =>
                obtain ⟨sy1, sy2⟩ := sym_at s[k]
                have hsf := HSF.out
                rw [if_neg (by simp)] at hsf
                by_cases hS : symB s[k] = true
                · rw [if_pos hS] at hsf
                  have hst := Lib.hid hsf
                  have hix := sy1 hS
                  have hcut := Lib.hid (cut_extract s k (k + 1))
                  clear hsf hS sy1 sy2 HSF HNB hgt
                  go_wp2_with (first | (go_at_call 24; refine (index_sym _ _).mono ?_; rintro e w' ⟨rfl, rfl⟩) | (at_builtin; refine wpList_appT_lexer rfl _ _ rfl (l := ts) ⟨3, k, cutF s.data.toList k (k + 1)⟩ rfl rfl hown rfl rfl hcut.out (by omega) (by exact hE.size) ?_; intro v' w' hown' hg'))
                  go_roundw
                  case rel => exact ⟨k + 1, f, _, by first | rfl | go_num, by omega, by omega, by rw [List.length_append]; simp; omega, hown', Lib.hid (by rw [hR.out]; simp only [lexF, hst.out]), (hE.alloc' _).grown' hg' hown.block⟩
                  case measure => simp [intOf]; omega
                · rw [if_neg hS] at hsf
                  have hst := Lib.hid hsf
                  have hix := Lib.hid (sy2 (Bool.eq_false_iff.2 hS))
                  clear hsf hS sy1 sy2 HSF HNB hgt
                  go_wp2_with ((go_at_call 24; refine (index_sym _ _).mono ?_; rintro e w' ⟨rfl, rfl⟩; rw [hix.out]))
                  go_ret3
                  have e : R = ([], k, 2) := by rw [hR.out]; simp only [lexF, hst.out]
                  exact ⟨_, by rw [e]; rfl, by rw [e]; exact Toks.nil _, by exact exttI⟩
    · have hst : Hid (stepF s.data.toList k = .stop) := by
        refine Lib.hid ?_
        unfold stepF; rw [if_pos (.inl (by have := HZ.out; omega))]
      go_wp2_with (first | fail)
      go_ret3
      have e : R = (ts, 0, 0) := by rw [hR.out]; simp only [lexF, hst.out]
      exact ⟨_, by rw [e]; rfl, by rw [e]; exact hown.toks (by omega), hE⟩
end Go.Proofs.YtechjiiijiipdaaDoor

/- Walk over the reference: parts (long division), the great case. Walks over the reference: parts in one, Mul, Sign, Neg, Add, Sub. Walks over the reference: Add, Sub of integers. Walk over the reference: DivMod by a positive number. Walk over the reference: GCD. Walks over the reference: fractions: FromInt. Walk over the reference: Of (a fraction in lowest terms). Walks over the reference: fractions: Mul, Make. Walks over the reference: fractions: Div, Over. Walk over the reference: Power. -/
import Derived.Test.YtechjiiijiipdaaGreatDoorMC
import Derived.Test.YtechjiiijiipdaaGreatDoorMB
namespace Go.Proofs.YtechjiiijiipdaaGreatDoor
open Go.RowKit
set_option linter.unusedSimpArgs false
set_option linter.unusedVariables false
theorem by_at (w : World) (v : Value) (l : List Nat) (n : Nat) (z : Int) (hz : z = (n : Int)) (hv : U32s w v l) (hl : Dig l) (hs : l.length < 1000000) (hn0 : n < 1000000000) :
    Calls Tryz.prog 231 #[v, .int .u32 z] w fun e w' => ∃ v' r, e = .returned v' ∧ U32s w' v' r ∧ Dig r ∧ Norm r ∧ val r = val l * n ∧ r.length ≤ l.length + 1 ∧ (∀ g, g < w.heap.size → Far g v') ∧ Ext w w' := by
  subst hz; exact ref01_by w v l n hv hl hs hn0
theorem drop_zero_val {S : List Nat} {k n : Nat} (h : S.drop k = List.replicate n 0) (hk : k ≤ S.length) : val (S.take k) = val S := by
  have := val_take_drop S k hk
  rw [h, val_zeros] at this; omega
/-- What the scale of a divisor gives. -/
theorem scale_of {m : List Nat} {b d : Nat} (hm : Dig m) (nm : Norm m) (hne : m ≠ []) (hb : m.getD (m.length - 1) 0 = b) (hd : d = 1000000000 / (b + 1)) : 0 < b ∧ b < 1000000000 ∧ 0 < d ∧ d < 1000000000 := by
  have h0 : 0 < b := by rw [← hb]; exact norm_last nm hne
  have h1 : b < 1000000000 := by rw [← hb]; exact hm.getD _
  refine ⟨h0, h1, by rw [hd]; exact Nat.div_pos (by omega) (by omega), ?_⟩
  have h2 : (b + 1) * d ≤ 1000000000 := by rw [hd]; exact Nat.mul_div_le _ _
  have h3 : 2 * d ≤ (b + 1) * d := Nat.mul_le_mul_right _ (by omega)
  omega
set_option maxRecDepth 100000 in
set_option maxHeartbeats 4000000 in
theorem parts_great (w : World) (v u : Value) (l m : List Nat) (hv : U32s w v l) (hu : U32s w u m) (hl : Dig l) (hm : Dig m) (nm : Norm m) (hne : m ≠ []) (h1 : ¬ (l.length ≤ 2 ∧ m.length ≤ 2)) (hsl : l.length < 900000) (hsm : m.length < 900000) :
    Calls Tryz.prog 201 #[v, u] w fun e w' => ∃ v1 v2 q r, e = .returned (.tuple #[v1, v2]) ∧ U32s w' v1 q ∧ U32s w' v2 r ∧ Dig q ∧ Dig r ∧ Norm q ∧ Norm r ∧ val q = val l / val m ∧ val r = val l % val m ∧ q.length ≤ l.length + 1 ∧ r.length ≤ m.length ∧ Ext w w' := by
  obtain ⟨a, c, rfl, hc, hn⟩ := hv.shape
  obtain ⟨a2, c2, rfl, hc2, hn2⟩ := hu.shape
  have hm0 : 0 < m.length := List.length_pos_iff.2 hne
  have hp := nm.pos hne
  obtain ⟨bb, hbb⟩ : ∃ x, m.getD (m.length - 1) 0 = x := ⟨_, rfl⟩
  obtain ⟨d, hd⟩ : ∃ d, d = 1000000000 / (bb + 1) := ⟨_, rfl⟩
  obtain ⟨k0, k1, d0, d1⟩ := scale_of hm nm hne hbb hd
  obtain ⟨b, o, rfl, _, hcb⟩ := hu.cell (k := m.length - 1) (by omega)
  rw [hbb] at hcb
  have e1 : (m.length : Int) - 1 = ((m.length - 1 : Nat) : Int) := by omega
  have hdi : (1000000000 : Int) / ((bb : Int) + 1) = (d : Int) := by rw [hd]; simp
  have k0' : 0 < (bb : Int) := by omega
  have k1' : (bb : Int) < 1000000000 := by omega
  have d0' : 0 < (d : Int) := by omega
  have d1' : (d : Int) < 1000000000 := by omega
  have HP := Lib.hid hp
  have NM := Lib.hid nm
  clear hbb hd hp nm hne
  go_enter Tryz.func201, Tryz.ntmps201
  go_upto_region 1 with (fail)
  go_cut [28] (fun s w' => s = .bool false ∧ w' = w)
  case first =>
    by_cases ha : l.length ≤ 2
    · have b1 : decide ((l.length : Int) ≤ 2) = true := by simp; omega
      have b2 : decide ((m.length : Int) ≤ 2) = false := by simp; omega
      go_wp2
      go_meet
      exact ⟨rfl, rfl⟩
    · have b1 : decide ((l.length : Int) ≤ 2) = false := by simp; omega
      go_wp2
      go_meet
      exact ⟨rfl, rfl⟩
  case rest =>
    obtain ⟨rfl, rfl⟩ := hcut
    clear h1
    go_upto_region 6 with (go_at_call 231; refine (by_at _ _ m d _ rfl (hu.ext (by exact exttI)) hm (by omega) (by omega)).mono ?_; rintro e w3 ⟨vM, M, rfl, hM, dM, nM, hMv, hMl, _, hE3⟩)
    have hVp : 0 < val M := by rw [hMv]; exact Nat.mul_pos HP.out (by omega)
    have hM0 : 0 < M.length := by
      rcases Nat.eq_zero_or_pos M.length with h | h
      · rw [List.length_eq_zero_iff.1 h] at hVp; simp [val] at hVp
      · exact h
    have hMlt := Lib.hid (val_lt dM)
    have hTop := Lib.hid (top_le hM0)
    obtain ⟨tp, htp⟩ : ∃ x, M.getD (M.length - 1) 0 = x := ⟨_, rfl⟩
    have t0 : 0 < tp := by rw [← htp]; exact norm_last nM (List.length_pos_iff.1 hM0)
    have t1 : tp < 1000000000 := by rw [← htp]; exact dM.getD _
    rw [htp] at hTop
    obtain ⟨aM, cM, rfl, hcM, hnM⟩ := hM.shape
    obtain ⟨bM, oM, rfl, _, hcT⟩ := hM.cell (k := M.length - 1) (by omega)
    rw [htp] at hcT
    have e2 : (M.length : Int) - 1 = ((M.length - 1 : Nat) : Int) := by omega
    have HMV := Lib.hid hMv
    have HVP := Lib.hid hVp
    clear hMv hVp htp hcb hdi
    go_upto_region 9 with (refine wpList_make32 rfl _ _ rfl (n := l.length + 1) rfl rfl (by omega) (by omega) (by omega) ?_; intro w4 hown hE4)
    have hE5a : Ext wc w4 := by exact exttI
    obtain ⟨g0, hg0⟩ : ∃ g, w3.heap.size = g := ⟨_, rfl⟩
    rw [hg0] at hown ⊢
    have hg4 : g0 < w4.heap.size := hown.lt
    go_upto_region 10 with (go_at_call 231; refine (by_at _ _ l d _ rfl (hv.ext (by exact exttI)) hl (by omega) (by omega)).mono ?_; rintro e w5 ⟨vU, U, rfl, hU, dU, nU, hUv, hUl, hfU, hE5⟩)
    replace hfU := hfU g0 hg4
    obtain ⟨aU, cU, rfl, hcU, hnU⟩ := hU.shape
    have hE35 : Ext w3 w5 := by exact exttI
    replace hown := hown.ext hE5
    have HUV := Lib.hid hUv
    have hEw3 := Lib.hid hE3
    clear hUv hE4 hE5 hE5a hE3
    go_wp2_with (first | fail)
    go_loopw [11, 14] (fun r i w' => ∃ (j : Int) (R S : List Nat), -1 ≤ j ∧ j < (U.length : Int) ∧ i = .int .i64 j ∧ U32s w' r R ∧ Dig R ∧ Hid (Norm R) ∧ Hid (val R < val M) ∧ Far g0 r ∧ Hid (S.length = l.length + 1) ∧ Dig S ∧
      Own g0 w' (.slice (some ⟨g0, 0, none⟩) (l.length + 1) (l.length + 1)) S ∧ Hid (S.drop U.length = List.replicate (l.length + 1 - U.length) 0) ∧ Hid (val (U.drop (j + 1).toNat) = val (S.drop (j + 1).toNat) * val M + val R) ∧
      U32s w' (.slice aU U.length cU) U ∧ Ext w3 w') (fun _ i _ => (intOf i + 1).toNat)
    case atStart =>
      refine ⟨(U.length : Int) - 1, [], List.replicate (l.length + 1) 0, by omega, by omega, rfl, U32s.nil _ _ _ (fun _ => rfl), Dig.nil, Lib.hid Norm.nil, Lib.hid (by simpa [val] using HVP.out), (fun a n c e => by cases e), Lib.hid (by simp), Dig.zeros _, hown, Lib.hid (by rw [List.drop_replicate]), Lib.hid ?_, hU, hE35⟩
      rw [show ((U.length : Int) - 1 + 1).toNat = U.length by omega, List.drop_length, List.drop_replicate, val_zeros]; simp [val]
    case round =>
      clear hown hU hE35
      obtain ⟨j, R, S, hj0, hj1, rfl, hR, dR, nR, hRM, hfR, hSl, dS, hown, hS0, hinv, hU, hE⟩ := hrel
      by_cases hj : j = -1
      · subst hj
        obtain ⟨aR, cR, rfl, hcR, hnR⟩ := hR.shape
        have hinv0 := Lib.hid hinv.out
        simp only [show (-1 + 1 : Int).toNat = 0 from rfl, List.drop_zero] at hinv0
        have hRl : R.length ≤ M.length := norm_len_mono dM nR.out (Nat.le_of_lt hRM.out)
        have hO := hown.cutTo hSl.out dS.u32 (by omega) (k := U.length) (by omega)
        have HO := Lib.hid hO
        clear hO hinv hU hj0 hj1
        go_wp2_with (refine wpList_make32 rfl _ _ rfl (n := R.length) rfl rfl rfl rfl (by omega) ?_; intro wA hownT hEA)
        go_loopw [18, 20] (fun cr i w' => ∃ (j : Int) (c0 : Nat) (T : List Nat), -1 ≤ j ∧ j < (R.length : Int) ∧ i = .int .i64 j ∧ cr = .int .u64 c0 ∧ (c0 : Int) < d ∧ Hid (T.length = R.length) ∧ Dig T ∧
          Own wr.heap.size w' (.slice (some ⟨wr.heap.size, 0, none⟩) R.length R.length) T ∧ Hid (val (T.drop (j + 1).toNat) * d + c0 = val (R.drop (j + 1).toNat)) ∧ Ext wr w') (fun _ i _ => (intOf i + 1).toNat)
        case atStart => exact ⟨(R.length : Int) - 1, 0, List.replicate R.length 0, by omega, by omega, rfl, rfl, by omega, Lib.hid (by simp), Dig.zeros _, hownT, Lib.hid (by rw [List.drop_of_length_le (by simp), List.drop_of_length_le (by omega)]; simp [val]), hEA⟩
        case round =>
          clear hownT hEA
          obtain ⟨j, c0, T, hj0, hj1, rfl, rfl, hc0, hTl, dT, hownT, hT, hET⟩ := hrel
          by_cases hj : j = -1
          · subst hj
            have hT0 := Lib.hid hT.out
            simp only [show (-1 + 1 : Int).toNat = 0 from rfl, List.drop_zero] at hT0
            have hS1 := drop_zero_val hS0.out (by rw [hSl.out]; omega)
            have hfin := Lib.hid (div_final (A := val l) (B := val m) (d := d) (Q := val S) (R := val R) (q := val T) (m := c0) (by rw [← HUV.out, hinv0.out, HMV.out, Nat.mul_comm (val S)]) (by rw [← HMV.out]; exact hRM.out) hT0.out (by omega))
            have hlt := Lib.hid (trimL_length_le (S.take U.length))
            have hS1' := Lib.hid hS1
            have hUl' : (S.take U.length).length = U.length := by rw [List.length_take, hSl.out]; omega
            have hTd := Lib.hid (norm_len_mono (l := trimL T) hm (norm_trimL T) (by rw [val_trimL, hfin.out.2]; exact Nat.le_of_lt (Nat.mod_lt _ HP.out)))
            have HUL := Lib.hid hUl'
            clear hS1 hT hUl' hS0
            go_wp2_with (go_at_call 94; first | ((with_reducible refine (trim_at _ _ _ _ (S.take U.length) (HO.out.ext hET) HUL.out.symm).mono ?_); rintro e w' ⟨rfl, hQ, rfl⟩) | ((with_reducible refine (trim_at _ _ _ _ T (hownT.u32 dT.u32 (by rw [hTl.out]; omega)) hTl.out.symm).mono ?_); rintro e w' ⟨rfl, hRR, rfl⟩))
            go_ret2
            exact ⟨_, _, trimL (S.take U.length), trimL T, rfl, hQ, hRR, (dS.take _).trimL, dT.trimL, norm_trimL _, norm_trimL _, by rw [val_trimL, hS1'.out, hfin.out.1], by rw [val_trimL, hfin.out.2], by have := hlt.out; have := HUL.out; omega, hTd.out, (hEw3.out.trans' hE).trans' hET⟩
          · obtain ⟨k, rfl⟩ : ∃ k : Nat, j = k := ⟨j.toNat, by omega⟩
            have hk : k < R.length := by omega
            obtain ⟨bR, oR, rfl, _, hcx⟩ := (hR.ext hET).cell hk
            have hx : (R.getD k 0 : Int) < 1000000000 := by have := dR.getD k; omega
            have hstep := Lib.hid (fun t => @byWord_step R T k d c0 t (by rw [hTl.out]; exact hk) hk (by have := hT.out; rwa [show ((k : Int) + 1).toNat = k + 1 by omega] at this))
            generalize R.getD k 0 = x at *
            have hdg := Lib.hid (@byWord_dig c0 x d (by omega) (by omega))
            have hmd := Lib.hid (Nat.mod_lt (c0 * 1000000000 + x) d0)
            obtain ⟨cq, fq⟩ := hownT.at (k := k) hTl.out hk
            have zz1 : Int.tdiv ((c0 : Int) * 1000000000 + (x : Int)) (d : Int) = (((c0 * 1000000000 + x) / d : Nat) : Int) := by rw [Int.tdiv_eq_ediv_of_nonneg (by omega)]; simp
            have zz2 : ((c0 : Int) * 1000000000 + (x : Int)) / (d : Int) = (((c0 * 1000000000 + x) / d : Nat) : Int) := by simp
            have zz3 : Int.tmod ((c0 : Int) * 1000000000 + (x : Int)) (d : Int) = (((c0 * 1000000000 + x) % d : Nat) : Int) := by rw [Int.tmod_eq_emod_of_nonneg (by omega)]; simp
            have zz4 : ((c0 : Int) * 1000000000 + (x : Int)) % (d : Int) = (((c0 * 1000000000 + x) % d : Nat) : Int) := by simp
            have hdq : (((c0 * 1000000000 + x) / d : Nat) : Int) < 1000000000 := by have := hdg.out; omega
            have hdr : (((c0 * 1000000000 + x) % d : Nat) : Int) < (d : Int) := by have := hmd.out; omega
            have HST := Lib.hid (hstep.out _ rfl)
            clear hstep
            generalize (c0 * 1000000000 + x) / d = q at *
            generalize (c0 * 1000000000 + x) % d = r at *
            go_wp2
            go_roundw
            case rel => exact ⟨(k : Int) - 1, r, T.set k q, by omega, by omega, rfl, rfl, by omega, Lib.hid (by rw [List.length_set, hTl.out]), dT.set (by omega), hownT.stored hTl.out k rfl, Lib.hid (by rw [show ((k : Int) - 1 + 1).toNat = k by omega]; exact HST.out), hET.set' (Nat.le_refl _) _⟩
            case measure => simp only [intOf]; omega
      · obtain ⟨k, rfl⟩ : ∃ k : Nat, j = k := ⟨j.toNat, by omega⟩
        have hk : k < U.length := by omega
        obtain ⟨bU, oU, rfl, _, hcx⟩ := hU.cell hk
        have hx : (U.getD k 0 : Int) < 1000000000 := by have := dU.getD k; omega
        have hround := Lib.hid (fun w => @parts_round U S k (val M) (val R) w hk (by rw [hSl.out]; omega))
        have hinv' := Lib.hid hinv.out
        rw [show ((k : Int) + 1).toNat = k + 1 by omega] at hinv'
        obtain ⟨x, hxx⟩ : ∃ x, U.getD k 0 = x := ⟨_, rfl⟩
        rw [hxx] at hcx hx hround
        clear hxx
        have hcat : Dig (x :: R) := Dig.cons.2 ⟨by omega, dR⟩
        have hRn : R.length ≤ M.length := by
          have h1 := hRM.out
          have h2 := hMlt.out
          exact norm_len_mono dM nR.out (Nat.le_of_lt h1)
        have hw0 : val (x :: R) = x + 1000000000 * val R := by simp [val]
        go_upto_region 15 with (first | (at_builtin; refine wpList_cat32 (v0 := .slice (some ⟨wr.heap.size, 0, none⟩) 1 1) rfl _ _ rfl rfl rfl (lit_own (base := wr.heap.size) wr x _ rfl (Nat.le_refl _)) (hR.ext ((Ext.rfl' _).alloc' _)) (by simp) (by simp) ?_; intro v' w6 hown' hg'; obtain ⟨g6, c6, rfl, hg6, _⟩ := hown'.shape (by simp)) | (go_at_call 94; refine (trim_at _ _ _ _ (x :: R) (hown'.u32 hcat.u32 (by simp; omega)) rfl).mono ?_; rintro e w' ⟨rfl, hR1, rfl⟩))
        have hE6 : Ext wr w6 := ((Ext.rfl' wr).alloc' _).grown' hg' (by intro k hk; simp [Value.ownBlock] at hk; omega)
        replace hU := hU.ext hE6
        replace hown := hown.ext hE6
        replace hE := hE.trans' hE6
        have hM6 := hM.ext hE
        have hg6' : g0 < w6.heap.size := hown.lt
        have nR1 := norm_trimL (x :: R)
        have dR1 := hcat.trimL
        have hv1 : val (trimL (x :: R)) = x + 1000000000 * val R := by rw [val_trimL, hw0]
        have hlen1 := norm_len_le nR1 hMlt.out (by rw [hv1]; have := hRM.out; omega)
        clear hE6 hg' hown' hR hcat hw0 hRn hcx hfR dR nR hg6
        generalize trimL (x :: R) = R1 at *
        have hhigh := high_of dR1 (show 1 ≤ M.length by omega) hlen1
        have hgs := Lib.hid (div_le_guess (w := val R1) (Nat.pow_pos (by omega)) t0 hTop.out)
        have HV1 := Lib.hid hv1
        have hHb : val R1 / 1000000000 ^ (M.length - 1) < 1000000000000000000 := by
          have h1 := dR1.getD M.length
          have h2 := dR1.getD (M.length - 1)
          omega
        clear hv1
        generalize val R1 / 1000000000 ^ (M.length - 1) = H at *
        obtain ⟨D, hD⟩ : ∃ D, H / tp = D := ⟨_, rfl⟩
        have hD1 : D ≤ H := by rw [← hD]; exact Nat.div_le_self _ _
        have zd1 : (H : Int) / (tp : Int) = (D : Int) := by rw [← hD]; simp
        have zd3 : Int.tdiv (H : Int) (tp : Int) = (D : Int) := by rw [Int.tdiv_eq_ediv_of_nonneg (by omega)]; exact zd1
        have zd2 : IntKind.u64.wrap (D : Int) = (D : Int) := IntWalk.u64_in _ (by omega)
        have hQB := Lib.hid ((Nat.div_lt_iff_lt_mul HVP.out).2 (by rw [HV1.out]; have := hRM.out; omega) : val R1 / val M < 1000000000)
        rw [hD] at hgs
        clear hD
        by_cases c1 : M.length < R1.length
        · obtain ⟨_, _, e7, _, c7⟩ := hR1.cell (k := M.length) c1
          cases e7
          obtain ⟨_, _, e8, _, c8⟩ := hR1.cell (k := M.length - 1) (by omega)
          cases e8
          rw [Nat.zero_add] at c7 c8
          have y0b : (R1.getD (M.length - 1) 0 : Int) < 1000000000 := by have := dR1.getD (M.length - 1); omega
          have y1b : (R1.getD M.length 0 : Int) < 1000000000 := by have := dR1.getD M.length; omega
          generalize R1.getD M.length 0 = y1 at *
          generalize R1.getD (M.length - 1) 0 = y0 at *
          have zH : (y1 : Int) * 1000000000 + (y0 : Int) = (H : Int) := by omega
          have c2 : (M.length : Int) ≤ (R1.length : Int) := by omega
          by_cases hD9 : 999999999 < D
          · have d9 : decide ((999999999 : Int) < (D : Int)) = true := by simp; omega
            have HG : Hid (val R1 / val M ≤ 999999999) := Lib.hid (by have := hQB.out; omega)
            go_wp2_with (go_at_call 231; refine (by_at _ _ M (999999999) _ (by first | rfl | simp) (hM6.ext (by exact exttI)) dM (by omega) (by omega)).mono ?_; rintro e w7 ⟨vP, P, rfl, hP, dP, nP, hPv, hPl, _, hE7⟩)
            replace hU := hU.ext hE7
            replace hown := hown.ext hE7
            replace hE := hE.trans' hE7
            have hR7 := hR1.ext hE7
            have hM7 := hM6.ext hE7
            have hg7 : g0 < w7.heap.size := hown.lt
            clear hR1 hM6 hE7
            go_loopw [16, 17] (fun g pv w' => ∃ (gg : Nat) (P : List Nat), g = .int .u64 gg ∧ (gg : Int) < 1000000000 ∧ U32s w' pv P ∧ Dig P ∧ Hid (Norm P) ∧ Hid (val P = val M * gg) ∧ Hid (val R1 / val M ≤ gg) ∧ P.length ≤ M.length + 1 ∧ Ext w7 w') (fun g _ _ => (intOf g).toNat)
            case atStart => exact ⟨999999999, P, by first | rfl | simp, by omega, hP, dP, Lib.hid nP, Lib.hid hPv, HG, hPl, Ext.rfl' _⟩
            case round =>
              clear hP dP nP hPv hPl hHb hD1 hD9 zd1 zd2 zd3 d9
              obtain ⟨gg, P, rfl, hgb, hP, dP, nP, hPv, hgQ, hPl, hEi⟩ := hrel
              by_cases hgt : val R1 < val P
              · have hcmp := Lib.hid (show cmpN (val P) (val R1) = 1 by unfold cmpN; rw [if_neg (by omega), if_pos hgt])
                have hg1 : 1 ≤ gg := by
                  rcases Nat.eq_zero_or_pos gg with h | h
                  · rw [hPv.out, h, Nat.mul_zero] at hgt; omega
                  · exact h
                have HQ := Lib.hid (show val R1 / val M ≤ gg - 1 by have := (Nat.div_lt_iff_lt_mul HVP.out).2 (show val R1 < gg * val M by rw [Nat.mul_comm, ← hPv.out]; exact hgt); omega)
                have HLE := Lib.hid (show val M ≤ val P by rw [hPv.out]; exact Nat.le_mul_of_pos_right _ hg1)
                have hlen := norm_len_mono dP nM HLE.out
                have HMUL := Lib.hid (show val P - val M = val M * (gg - 1) by rw [hPv.out, Nat.mul_sub, Nat.mul_one])
                clear hgt
                go_wp2_with (first | (go_at_call 85; refine (ref01_compare _ _ _ P R1 (hP.ext (by exact exttI)) (hR7.ext (by exact exttI)) dP dR1 nP.out nR1).mono ?_; rintro e w8 ⟨rfl, hD8⟩; rw [hcmp.out]; replace hD8 := hD8.ext) | (go_at_call 161; refine (ref01_minus _ _ _ P M (hP.ext (by exact exttI)) (hM7.ext (by exact exttI)) dP dM (by omega) hlen HLE.out).mono ?_; rintro e w9 ⟨vP', P', rfl, hP', dP', nP', hPv', hPl', _, hE9⟩))
                go_roundw
                case rel => exact ⟨gg - 1, P', by go_num, by omega, hP', dP', Lib.hid nP', Lib.hid (by rw [hPv', HMUL.out]), HQ, by omega, by exact exttI⟩
                case measure => simp only [intOf]; omega
              · have hcc : cmpN (val P) (val R1) ≤ 0 := by unfold cmpN; rw [if_neg hgt]; split <;> omega
                have hgE := parts_digit (g := gg) HVP.out hgQ.out (by rw [Nat.mul_comm, ← hPv.out]; omega)
                have HLE := Lib.hid (show val P ≤ val R1 by omega)
                have hlen := norm_len_mono dR1 nP.out HLE.out
                have HREST := Lib.hid (show val R1 - val P = val R1 % val M by rw [hPv.out, hgE]; have := Nat.div_add_mod (val R1) (val M); omega)
                have HNEW := Lib.hid (hround.out (val R1) HV1.out hinv'.out)
                rw [← hgE] at HNEW
                have hc0 : decide (0 < cmpN (val P) (val R1)) = false := by simp; omega
                obtain ⟨cc, hce⟩ : ∃ cc, cmpN (val P) (val R1) = cc := ⟨_, rfl⟩
                have hcl : cc ≤ 0 := by omega
                replace hce := Lib.hid hce
                clear hgt hgE
                clear hcc hc0 hgQ hPv HG hQB hround hinv' hinv HV1 hgs hRM
                have hc0 : decide (0 < cc) = false := by simpa using hcl
                go_wp2_with (first | (go_at_call 85; refine (ref01_compare _ _ _ P R1 (hP.ext (by exact exttI)) (hR7.ext (by exact exttI)) dP dR1 nP.out nR1).mono ?_; rintro e w8 ⟨rfl, hD8⟩; rw [hce.out]; replace hD8 := hD8.ext) | (go_at_call 161; refine (ref01_minus _ _ _ R1 P (hR7.ext (by exact exttI)) (hP.ext (by exact exttI)) dR1 dP (by omega) hlen HLE.out).mono ?_; rintro e w9 ⟨vR', R', rfl, hR', dR', nR', hRv', hRl', hFr', hE9⟩; replace hFr' := hFr' g0 (by have := hEi.size; have := hD8.size; omega); have hE69 := (show Ext w7 w9 by exact exttI); have hown9 := hown.ext hE69; obtain ⟨cq, fq⟩ := hown9.at (k := k) hSl.out (by omega); replace hRv' := Lib.hid hRv'; replace nR' := Lib.hid nR'))
                have hU9 := hU.ext hE69
                go_roundw
                case rel => exact ⟨(k : Int) - 1, R', S.set k gg, by omega, by omega, rfl, hR'.setF hFr' _, dR', nR', Lib.hid (by rw [hRv'.out, HREST.out]; exact Nat.mod_lt _ HVP.out), hFr', Lib.hid (by rw [List.length_set, hSl.out]), dS.set (by omega), hown9.stored hSl.out k (by first | rfl | omega), Lib.hid (by rw [List.drop_set, if_pos hk]; exact hS0.out), Lib.hid (by rw [show ((k : Int) - 1 + 1).toNat = k by omega, hRv'.out, HREST.out]; exact HNEW.out), hU9.setF hfU _, (hE.trans' hE69).set' (by show w3.heap.size ≤ g0; omega) _⟩
                case measure => simp only [intOf]; omega
          · have d9 : decide ((999999999 : Int) < (D : Int)) = false := by simp; omega
            have HG : Hid (val R1 / val M ≤ D) := hgs
            go_wp2_with (go_at_call 231; refine (by_at _ _ M (D) _ (by first | rfl | simp) (hM6.ext (by exact exttI)) dM (by omega) (by omega)).mono ?_; rintro e w7 ⟨vP, P, rfl, hP, dP, nP, hPv, hPl, _, hE7⟩)
            replace hU := hU.ext hE7
            replace hown := hown.ext hE7
            replace hE := hE.trans' hE7
            have hR7 := hR1.ext hE7
            have hM7 := hM6.ext hE7
            have hg7 : g0 < w7.heap.size := hown.lt
            clear hR1 hM6 hE7
            go_loopw [16, 17] (fun g pv w' => ∃ (gg : Nat) (P : List Nat), g = .int .u64 gg ∧ (gg : Int) < 1000000000 ∧ U32s w' pv P ∧ Dig P ∧ Hid (Norm P) ∧ Hid (val P = val M * gg) ∧ Hid (val R1 / val M ≤ gg) ∧ P.length ≤ M.length + 1 ∧ Ext w7 w') (fun g _ _ => (intOf g).toNat)
            case atStart => exact ⟨D, P, by first | rfl | simp, by omega, hP, dP, Lib.hid nP, Lib.hid hPv, HG, hPl, Ext.rfl' _⟩
            case round =>
              clear hP dP nP hPv hPl hHb hD1 hD9 zd1 zd2 zd3 d9
              obtain ⟨gg, P, rfl, hgb, hP, dP, nP, hPv, hgQ, hPl, hEi⟩ := hrel
              by_cases hgt : val R1 < val P
              · have hcmp := Lib.hid (show cmpN (val P) (val R1) = 1 by unfold cmpN; rw [if_neg (by omega), if_pos hgt])
                have hg1 : 1 ≤ gg := by
                  rcases Nat.eq_zero_or_pos gg with h | h
                  · rw [hPv.out, h, Nat.mul_zero] at hgt; omega
                  · exact h
                have HQ := Lib.hid (show val R1 / val M ≤ gg - 1 by have := (Nat.div_lt_iff_lt_mul HVP.out).2 (show val R1 < gg * val M by rw [Nat.mul_comm, ← hPv.out]; exact hgt); omega)
                have HLE := Lib.hid (show val M ≤ val P by rw [hPv.out]; exact Nat.le_mul_of_pos_right _ hg1)
                have hlen := norm_len_mono dP nM HLE.out
                have HMUL := Lib.hid (show val P - val M = val M * (gg - 1) by rw [hPv.out, Nat.mul_sub, Nat.mul_one])
                clear hgt
                go_wp2_with (first | (go_at_call 85; refine (ref01_compare _ _ _ P R1 (hP.ext (by exact exttI)) (hR7.ext (by exact exttI)) dP dR1 nP.out nR1).mono ?_; rintro e w8 ⟨rfl, hD8⟩; rw [hcmp.out]; replace hD8 := hD8.ext) | (go_at_call 161; refine (ref01_minus _ _ _ P M (hP.ext (by exact exttI)) (hM7.ext (by exact exttI)) dP dM (by omega) hlen HLE.out).mono ?_; rintro e w9 ⟨vP', P', rfl, hP', dP', nP', hPv', hPl', _, hE9⟩))
                go_roundw
                case rel => exact ⟨gg - 1, P', by go_num, by omega, hP', dP', Lib.hid nP', Lib.hid (by rw [hPv', HMUL.out]), HQ, by omega, by exact exttI⟩
                case measure => simp only [intOf]; omega
              · have hcc : cmpN (val P) (val R1) ≤ 0 := by unfold cmpN; rw [if_neg hgt]; split <;> omega
                have hgE := parts_digit (g := gg) HVP.out hgQ.out (by rw [Nat.mul_comm, ← hPv.out]; omega)
                have HLE := Lib.hid (show val P ≤ val R1 by omega)
                have hlen := norm_len_mono dR1 nP.out HLE.out
                have HREST := Lib.hid (show val R1 - val P = val R1 % val M by rw [hPv.out, hgE]; have := Nat.div_add_mod (val R1) (val M); omega)
                have HNEW := Lib.hid (hround.out (val R1) HV1.out hinv'.out)
                rw [← hgE] at HNEW
                have hc0 : decide (0 < cmpN (val P) (val R1)) = false := by simp; omega
                obtain ⟨cc, hce⟩ : ∃ cc, cmpN (val P) (val R1) = cc := ⟨_, rfl⟩
                have hcl : cc ≤ 0 := by omega
                replace hce := Lib.hid hce
                clear hgt hgE
                clear hcc hc0 hgQ hPv HG hQB hround hinv' hinv HV1 hgs hRM
                have hc0 : decide (0 < cc) = false := by simpa using hcl
                go_wp2_with (first | (go_at_call 85; refine (ref01_compare _ _ _ P R1 (hP.ext (by exact exttI)) (hR7.ext (by exact exttI)) dP dR1 nP.out nR1).mono ?_; rintro e w8 ⟨rfl, hD8⟩; rw [hce.out]; replace hD8 := hD8.ext) | (go_at_call 161; refine (ref01_minus _ _ _ R1 P (hR7.ext (by exact exttI)) (hP.ext (by exact exttI)) dR1 dP (by omega) hlen HLE.out).mono ?_; rintro e w9 ⟨vR', R', rfl, hR', dR', nR', hRv', hRl', hFr', hE9⟩; replace hFr' := hFr' g0 (by have := hEi.size; have := hD8.size; omega); have hE69 := (show Ext w7 w9 by exact exttI); have hown9 := hown.ext hE69; obtain ⟨cq, fq⟩ := hown9.at (k := k) hSl.out (by omega); replace hRv' := Lib.hid hRv'; replace nR' := Lib.hid nR'))
                have hU9 := hU.ext hE69
                go_roundw
                case rel => exact ⟨(k : Int) - 1, R', S.set k gg, by omega, by omega, rfl, hR'.setF hFr' _, dR', nR', Lib.hid (by rw [hRv'.out, HREST.out]; exact Nat.mod_lt _ HVP.out), hFr', Lib.hid (by rw [List.length_set, hSl.out]), dS.set (by omega), hown9.stored hSl.out k (by first | rfl | omega), Lib.hid (by rw [List.drop_set, if_pos hk]; exact hS0.out), Lib.hid (by rw [show ((k : Int) - 1 + 1).toNat = k by omega, hRv'.out, HREST.out]; exact HNEW.out), hU9.setF hfU _, (hE.trans' hE69).set' (by show w3.heap.size ≤ g0; omega) _⟩
                case measure => simp only [intOf]; omega
        · by_cases c2 : M.length ≤ R1.length
          · obtain ⟨_, _, e8, _, c8⟩ := hR1.cell (k := M.length - 1) (by omega)
            cases e8
            rw [Nat.zero_add] at c8
            have y0b : (R1.getD (M.length - 1) 0 : Int) < 1000000000 := by have := dR1.getD (M.length - 1); omega
            rw [getD_len (show R1.length ≤ M.length by omega)] at hhigh
            generalize R1.getD (M.length - 1) 0 = y0 at *
            have zH : y0 = H := by omega
            subst zH
            clear hhigh
            by_cases hD9 : 999999999 < D
            · exfalso; omega
            · have d9 : decide ((999999999 : Int) < (D : Int)) = false := by simp; omega
              have HG : Hid (val R1 / val M ≤ D) := hgs
              go_wp2_with (go_at_call 231; refine (by_at _ _ M (D) _ (by first | rfl | simp) (hM6.ext (by exact exttI)) dM (by omega) (by omega)).mono ?_; rintro e w7 ⟨vP, P, rfl, hP, dP, nP, hPv, hPl, _, hE7⟩)
              replace hU := hU.ext hE7
              replace hown := hown.ext hE7
              replace hE := hE.trans' hE7
              have hR7 := hR1.ext hE7
              have hM7 := hM6.ext hE7
              have hg7 : g0 < w7.heap.size := hown.lt
              clear hR1 hM6 hE7
              go_loopw [16, 17] (fun g pv w' => ∃ (gg : Nat) (P : List Nat), g = .int .u64 gg ∧ (gg : Int) < 1000000000 ∧ U32s w' pv P ∧ Dig P ∧ Hid (Norm P) ∧ Hid (val P = val M * gg) ∧ Hid (val R1 / val M ≤ gg) ∧ P.length ≤ M.length + 1 ∧ Ext w7 w') (fun g _ _ => (intOf g).toNat)
              case atStart => exact ⟨D, P, by first | rfl | simp, by omega, hP, dP, Lib.hid nP, Lib.hid hPv, HG, hPl, Ext.rfl' _⟩
              case round =>
                clear hP dP nP hPv hPl hHb hD1 hD9 zd1 zd2 zd3 d9
                obtain ⟨gg, P, rfl, hgb, hP, dP, nP, hPv, hgQ, hPl, hEi⟩ := hrel
                by_cases hgt : val R1 < val P
                · have hcmp := Lib.hid (show cmpN (val P) (val R1) = 1 by unfold cmpN; rw [if_neg (by omega), if_pos hgt])
                  have hg1 : 1 ≤ gg := by
                    rcases Nat.eq_zero_or_pos gg with h | h
                    · rw [hPv.out, h, Nat.mul_zero] at hgt; omega
                    · exact h
                  have HQ := Lib.hid (show val R1 / val M ≤ gg - 1 by have := (Nat.div_lt_iff_lt_mul HVP.out).2 (show val R1 < gg * val M by rw [Nat.mul_comm, ← hPv.out]; exact hgt); omega)
                  have HLE := Lib.hid (show val M ≤ val P by rw [hPv.out]; exact Nat.le_mul_of_pos_right _ hg1)
                  have hlen := norm_len_mono dP nM HLE.out
                  have HMUL := Lib.hid (show val P - val M = val M * (gg - 1) by rw [hPv.out, Nat.mul_sub, Nat.mul_one])
                  clear hgt
                  go_wp2_with (first | (go_at_call 85; refine (ref01_compare _ _ _ P R1 (hP.ext (by exact exttI)) (hR7.ext (by exact exttI)) dP dR1 nP.out nR1).mono ?_; rintro e w8 ⟨rfl, hD8⟩; rw [hcmp.out]; replace hD8 := hD8.ext) | (go_at_call 161; refine (ref01_minus _ _ _ P M (hP.ext (by exact exttI)) (hM7.ext (by exact exttI)) dP dM (by omega) hlen HLE.out).mono ?_; rintro e w9 ⟨vP', P', rfl, hP', dP', nP', hPv', hPl', _, hE9⟩))
                  go_roundw
                  case rel => exact ⟨gg - 1, P', by go_num, by omega, hP', dP', Lib.hid nP', Lib.hid (by rw [hPv', HMUL.out]), HQ, by omega, by exact exttI⟩
                  case measure => simp only [intOf]; omega
                · have hcc : cmpN (val P) (val R1) ≤ 0 := by unfold cmpN; rw [if_neg hgt]; split <;> omega
                  have hgE := parts_digit (g := gg) HVP.out hgQ.out (by rw [Nat.mul_comm, ← hPv.out]; omega)
                  have HLE := Lib.hid (show val P ≤ val R1 by omega)
                  have hlen := norm_len_mono dR1 nP.out HLE.out
                  have HREST := Lib.hid (show val R1 - val P = val R1 % val M by rw [hPv.out, hgE]; have := Nat.div_add_mod (val R1) (val M); omega)
                  have HNEW := Lib.hid (hround.out (val R1) HV1.out hinv'.out)
                  rw [← hgE] at HNEW
                  have hc0 : decide (0 < cmpN (val P) (val R1)) = false := by simp; omega
                  obtain ⟨cc, hce⟩ : ∃ cc, cmpN (val P) (val R1) = cc := ⟨_, rfl⟩
                  have hcl : cc ≤ 0 := by omega
                  replace hce := Lib.hid hce
                  clear hgt hgE
                  clear hcc hc0 hgQ hPv HG hQB hround hinv' hinv HV1 hgs hRM
                  have hc0 : decide (0 < cc) = false := by simpa using hcl
                  go_wp2_with (first | (go_at_call 85; refine (ref01_compare _ _ _ P R1 (hP.ext (by exact exttI)) (hR7.ext (by exact exttI)) dP dR1 nP.out nR1).mono ?_; rintro e w8 ⟨rfl, hD8⟩; rw [hce.out]; replace hD8 := hD8.ext) | (go_at_call 161; refine (ref01_minus _ _ _ R1 P (hR7.ext (by exact exttI)) (hP.ext (by exact exttI)) dR1 dP (by omega) hlen HLE.out).mono ?_; rintro e w9 ⟨vR', R', rfl, hR', dR', nR', hRv', hRl', hFr', hE9⟩; replace hFr' := hFr' g0 (by have := hEi.size; have := hD8.size; omega); have hE69 := (show Ext w7 w9 by exact exttI); have hown9 := hown.ext hE69; obtain ⟨cq, fq⟩ := hown9.at (k := k) hSl.out (by omega); replace hRv' := Lib.hid hRv'; replace nR' := Lib.hid nR'))
                  have hU9 := hU.ext hE69
                  go_roundw
                  case rel => exact ⟨(k : Int) - 1, R', S.set k gg, by omega, by omega, rfl, hR'.setF hFr' _, dR', nR', Lib.hid (by rw [hRv'.out, HREST.out]; exact Nat.mod_lt _ HVP.out), hFr', Lib.hid (by rw [List.length_set, hSl.out]), dS.set (by omega), hown9.stored hSl.out k (by first | rfl | omega), Lib.hid (by rw [List.drop_set, if_pos hk]; exact hS0.out), Lib.hid (by rw [show ((k : Int) - 1 + 1).toNat = k by omega, hRv'.out, HREST.out]; exact HNEW.out), hU9.setF hfU _, (hE.trans' hE69).set' (by show w3.heap.size ≤ g0; omega) _⟩
                  case measure => simp only [intOf]; omega
          · rw [getD_len (show R1.length ≤ M.length by omega), getD_len (show R1.length ≤ M.length - 1 by omega)] at hhigh
            have zH : H = 0 := by simpa using hhigh.symm
            subst zH
            clear hhigh
            obtain rfl : D = 0 := by omega
            have d9 : (0 : Nat) = 0 := rfl
            have hD9 : (0 : Nat) = 0 := rfl
            have HG : Hid (val R1 / val M ≤ 0) := hgs
            go_wp2_with (go_at_call 231; refine (by_at _ _ M (0) _ (by first | rfl | simp) (hM6.ext (by exact exttI)) dM (by omega) (by omega)).mono ?_; rintro e w7 ⟨vP, P, rfl, hP, dP, nP, hPv, hPl, _, hE7⟩)
            replace hU := hU.ext hE7
            replace hown := hown.ext hE7
            replace hE := hE.trans' hE7
            have hR7 := hR1.ext hE7
            have hM7 := hM6.ext hE7
            have hg7 : g0 < w7.heap.size := hown.lt
            clear hR1 hM6 hE7
            go_loopw [16, 17] (fun g pv w' => ∃ (gg : Nat) (P : List Nat), g = .int .u64 gg ∧ (gg : Int) < 1000000000 ∧ U32s w' pv P ∧ Dig P ∧ Hid (Norm P) ∧ Hid (val P = val M * gg) ∧ Hid (val R1 / val M ≤ gg) ∧ P.length ≤ M.length + 1 ∧ Ext w7 w') (fun g _ _ => (intOf g).toNat)
            case atStart => exact ⟨0, P, by first | rfl | simp, by omega, hP, dP, Lib.hid nP, Lib.hid hPv, HG, hPl, Ext.rfl' _⟩
            case round =>
              clear hP dP nP hPv hPl hHb hD1 hD9 zd1 zd2 zd3 d9
              obtain ⟨gg, P, rfl, hgb, hP, dP, nP, hPv, hgQ, hPl, hEi⟩ := hrel
              by_cases hgt : val R1 < val P
              · have hcmp := Lib.hid (show cmpN (val P) (val R1) = 1 by unfold cmpN; rw [if_neg (by omega), if_pos hgt])
                have hg1 : 1 ≤ gg := by
                  rcases Nat.eq_zero_or_pos gg with h | h
                  · rw [hPv.out, h, Nat.mul_zero] at hgt; omega
                  · exact h
                have HQ := Lib.hid (show val R1 / val M ≤ gg - 1 by have := (Nat.div_lt_iff_lt_mul HVP.out).2 (show val R1 < gg * val M by rw [Nat.mul_comm, ← hPv.out]; exact hgt); omega)
                have HLE := Lib.hid (show val M ≤ val P by rw [hPv.out]; exact Nat.le_mul_of_pos_right _ hg1)
                have hlen := norm_len_mono dP nM HLE.out
                have HMUL := Lib.hid (show val P - val M = val M * (gg - 1) by rw [hPv.out, Nat.mul_sub, Nat.mul_one])
                clear hgt
                go_wp2_with (first | (go_at_call 85; refine (ref01_compare _ _ _ P R1 (hP.ext (by exact exttI)) (hR7.ext (by exact exttI)) dP dR1 nP.out nR1).mono ?_; rintro e w8 ⟨rfl, hD8⟩; rw [hcmp.out]; replace hD8 := hD8.ext) | (go_at_call 161; refine (ref01_minus _ _ _ P M (hP.ext (by exact exttI)) (hM7.ext (by exact exttI)) dP dM (by omega) hlen HLE.out).mono ?_; rintro e w9 ⟨vP', P', rfl, hP', dP', nP', hPv', hPl', _, hE9⟩))
                go_roundw
                case rel => exact ⟨gg - 1, P', by go_num, by omega, hP', dP', Lib.hid nP', Lib.hid (by rw [hPv', HMUL.out]), HQ, by omega, by exact exttI⟩
                case measure => simp only [intOf]; omega
              · have hcc : cmpN (val P) (val R1) ≤ 0 := by unfold cmpN; rw [if_neg hgt]; split <;> omega
                have hgE := parts_digit (g := gg) HVP.out hgQ.out (by rw [Nat.mul_comm, ← hPv.out]; omega)
                have HLE := Lib.hid (show val P ≤ val R1 by omega)
                have hlen := norm_len_mono dR1 nP.out HLE.out
                have HREST := Lib.hid (show val R1 - val P = val R1 % val M by rw [hPv.out, hgE]; have := Nat.div_add_mod (val R1) (val M); omega)
                have HNEW := Lib.hid (hround.out (val R1) HV1.out hinv'.out)
                rw [← hgE] at HNEW
                have hc0 : decide (0 < cmpN (val P) (val R1)) = false := by simp; omega
                obtain ⟨cc, hce⟩ : ∃ cc, cmpN (val P) (val R1) = cc := ⟨_, rfl⟩
                have hcl : cc ≤ 0 := by omega
                replace hce := Lib.hid hce
                clear hgt hgE
                clear hcc hc0 hgQ hPv HG hQB hround hinv' hinv HV1 hgs hRM
                have hc0 : decide (0 < cc) = false := by simpa using hcl
                go_wp2_with (first | (go_at_call 85; refine (ref01_compare _ _ _ P R1 (hP.ext (by exact exttI)) (hR7.ext (by exact exttI)) dP dR1 nP.out nR1).mono ?_; rintro e w8 ⟨rfl, hD8⟩; rw [hce.out]; replace hD8 := hD8.ext) | (go_at_call 161; refine (ref01_minus _ _ _ R1 P (hR7.ext (by exact exttI)) (hP.ext (by exact exttI)) dR1 dP (by omega) hlen HLE.out).mono ?_; rintro e w9 ⟨vR', R', rfl, hR', dR', nR', hRv', hRl', hFr', hE9⟩; replace hFr' := hFr' g0 (by have := hEi.size; have := hD8.size; omega); have hE69 := (show Ext w7 w9 by exact exttI); have hown9 := hown.ext hE69; obtain ⟨cq, fq⟩ := hown9.at (k := k) hSl.out (by omega); replace hRv' := Lib.hid hRv'; replace nR' := Lib.hid nR'))
                have hU9 := hU.ext hE69
                go_roundw
                case rel => exact ⟨(k : Int) - 1, R', S.set k gg, by omega, by omega, rfl, hR'.setF hFr' _, dR', nR', Lib.hid (by rw [hRv'.out, HREST.out]; exact Nat.mod_lt _ HVP.out), hFr', Lib.hid (by rw [List.length_set, hSl.out]), dS.set (by omega), hown9.stored hSl.out k (by first | rfl | omega), Lib.hid (by rw [List.drop_set, if_pos hk]; exact hS0.out), Lib.hid (by rw [show ((k : Int) - 1 + 1).toNat = k by omega, hRv'.out, HREST.out]; exact HNEW.out), hU9.setF hfU _, (hE.trans' hE69).set' (by show w3.heap.size ≤ g0; omega) _⟩
                case measure => simp only [intOf]; omega
end Go.Proofs.YtechjiiijiipdaaGreatDoor
namespace Go.Proofs.YtechjiiijiipdaaGreatDoor
open Go.RowKit
set_option linter.unusedSimpArgs false
set_option linter.unusedVariables false
theorem ref01_parts (w : World) (v u : Value) (l m : List Nat) (hv : U32s w v l) (hu : U32s w u m) (hl : Dig l) (hm : Dig m) (nm : Norm m) (hne : m ≠ []) (hsl : l.length < 900000) (hsm : m.length < 900000) :
    Calls Tryz.prog 201 #[v, u] w fun e w' => ∃ v1 v2 q r, e = .returned (.tuple #[v1, v2]) ∧ U32s w' v1 q ∧ U32s w' v2 r ∧ Dig q ∧ Dig r ∧ Norm q ∧ Norm r ∧ val q = val l / val m ∧ val r = val l % val m ∧ q.length ≤ l.length + 1 ∧ r.length ≤ m.length ∧ Ext w w' := by
  by_cases h : l.length ≤ 2 ∧ m.length ≤ 2
  · exact parts_small w v u l m hv hu hl hm nm hne h.1 h.2
  · exact parts_great w v u l m hv hu hl hm nm hne h hsl hsm
attribute [local irreducible] U32s Dig Norm Own
set_option maxRecDepth 100000 in
set_option maxHeartbeats 1000000 in
theorem ref01_Mul (n m : Nat) (w : World) (va vb : Value) (a b : Int) (ha : IsInt n w va a) (hb : IsInt m w vb b) (hn : n < 400000) (hm : m < 400000) :
    Calls Tryz.prog 112 #[va, vb] w fun e w' => ∃ v, e = .returned v ∧ IsInt (n + m) w' v (a * b) ∧ Ext w w' := by
  obtain ⟨na, aa, la, ca, rfl, ua, da, nna, lna, sa, qa, _⟩ := IsInt.shape ha; have ea := Lib.hid qa; clear qa
  obtain ⟨nb, ab, lb, cb, rfl, ub, db, nnb, lnb, sb, qb, _⟩ := IsInt.shape hb; have eb := Lib.hid qb; clear qb
  go_enter Tryz.func112, Tryz.ntmps112
  go_wp2_with (first | fail)
  obtain ⟨w3, p, q, r, e1, e2, e3, e4, h1, h2, h3, hpq, hpr, hqr, hE⟩ := box3 w (.cells #[.bool na, .slice aa la.length ca] 53) (.cells #[.bool nb, .slice ab lb.length cb] 53) (.cells #[.bool false, .slice none 0 0] 53)
  rw [e1, e2, e3, e4]
  have hge : ∀ k, k ∈ [r] → w.heap.size ≤ k := by simp; omega
  clear e1 e2 e3 e4
  have Rp0 := rulesB (rs := [r]) h1 (by simpa using hpr) 0 _ rfl
  have Rp1 := rulesB (rs := [r]) h1 (by simpa using hpr) 1 _ rfl
  have Rq0 := rulesB (rs := [r]) h2 (by simpa using hqr) 0 _ rfl
  have Rq1 := rulesB (rs := [r]) h2 (by simpa using hqr) 1 _ rfl
  have hbxr : Box _ r := Box.mk h3 rfl
  obtain ⟨Rr0, Fr0⟩ := rulesR (rs := [r]) h3 (by simp) 0 (by simp)
  obtain ⟨Rr1, Fr1⟩ := rulesR (rs := [r]) h3 (by simp) 1 (by simp)
  go_region_held3 (fun w' => But [r] w3 w') (exact buttI) (first | (go_at_call 168; refine (ref01_times _ _ _ la lb (ua.ext (by exact exttI)) (ub.ext (by exact exttI)) da db (by omega) (by omega)).mono ?_; rintro e w4 ⟨vs, s, rfl, us, ds, ns, ys, zs, _, hE4⟩; have es := Lib.hid ys; clear ys) | (go_at_call 95; refine (ref01_signed _ _ _ _ (by exact (us.ext (by exact exttI))) (by exact ds)).mono ?_; rintro e w5 ⟨vr, rfl, hr, hEr⟩; obtain ⟨nr, ar, kr, cr, rfl⟩ := IsInt.form hr))
  go_wp2
  have hB : But [r] w3 w5 := by exact buttI
  exact bodyPost_ret (v := .agg #[.bool nr, .slice ar kr cr]) (by simp [results, Tryz.results112, go_sem, Rr0 _ hB, Rr1 _ hB]) rfl ⟨_, rfl, IsInt.put ((hr.mono (by omega)).cast (by rw [ea.out, eb.out, es.out, ← sgn_mul]; cases na <;> cases nb <;> rfl)) hB (by simp) rfl, ((hB.set _ _ rfl (by simp)).set _ _ rfl (by simp)).old hE hge⟩
set_option maxRecDepth 100000 in
theorem ref01_Sign (n : Nat) (w : World) (va : Value) (a : Int) (ha : IsInt n w va a) :
    Calls Tryz.prog 164 #[va] w fun e w' => e = .returned (.int .i64 a.sign) ∧ Ext w w' := by
  obtain ⟨na, aa, la, ca, rfl, ua, da, nna, lna, sa, rfl, _⟩ := ha.shape
  clear ha
  by_cases hl : la = []
  · subst hl
    go_enter Tryz.func164, Tryz.ntmps164
    go_wp2
    go_ret
    exact ⟨by cases na <;> rfl, (Ext.rfl' w).alloc' _⟩
  · have h0 : 0 < (la.length : Int) := by have := List.length_pos_iff.2 hl; omega
    have h1 : ((la.length : Int) == 0) = false := beq_eq_false_iff_ne.2 (by omega)
    go_enter Tryz.func164, Tryz.ntmps164
    cases na
    · go_wp2
      go_ret
      exact ⟨by rw [sgn_sign_pos nna hl]; rfl, (Ext.rfl' w).alloc' _⟩
    · go_wp2
      go_ret
      exact ⟨by rw [sgn_sign_neg nna (sa (by trivial))]; rfl, (Ext.rfl' w).alloc' _⟩
set_option maxRecDepth 100000 in
set_option maxHeartbeats 1000000 in
theorem ref01_Neg (n : Nat) (w : World) (va : Value) (a : Int) (ha : IsInt n w va a) :
    Calls Tryz.prog 35 #[va] w fun e w' => ∃ v, e = .returned v ∧ IsInt n w' v (-a) ∧ Ext w w' := by
  obtain ⟨na, aa, la, ca, rfl, ua, da, nna, lna, sa, qa, _⟩ := IsInt.shape ha; have ea := Lib.hid qa; clear qa
  go_enter Tryz.func35, Tryz.ntmps35
  go_wp2_with (first | fail)
  obtain ⟨w3, p, r, e1, e2, e3, h1, h2, hpr, hE⟩ := box2 w (.cells #[.bool na, .slice aa la.length ca] 53) (.cells #[.bool false, .slice none 0 0] 53)
  rw [e1, e2, e3]
  have hr0 : w.heap.size ≤ r := by omega
  clear e1 e2 e3
  obtain ⟨Rr0, Fr0⟩ := rules h2 0 _ rfl
  obtain ⟨Rr1, Fr1⟩ := rules h2 1 _ rfl
  obtain ⟨Cp0, Gp0⟩ := cell_of h1 0 _ rfl
  obtain ⟨Cp1, Gp1⟩ := cell_of h1 1 _ rfl
  go_wp2_with ((go_at_call 95; refine (ref01_signed _ _ _ _ (by exact (ua.ext (by exact exttI))) (by exact da)).mono ?_; rintro e w5 ⟨vx, rfl, hx, hEx⟩; obtain ⟨nx, ax, kx, cx, rfl⟩ := IsInt.form hx); have hXw5 := (show Ext w3 w5 by exact exttI))
  have hE9 : Ext w w5 := by exact exttI
  have k9 := hXw5.blk h2
  have hbx : Box w5 r := Box.mk k9 rfl
  have hB : But [r] w5 w5 := by exact buttI
  have hBr0 := Rr0 _ hXw5
  have hBr1 := Rr1 _ hXw5
  exact bodyPost_ret (v := .agg #[.bool nx, .slice ax kx cx]) (by simp [results, Tryz.results35, go_sem, hBr0, hBr1]) rfl ⟨_, rfl, IsInt.put ((hx.mono lna).cast (by rw [ea.out, sgn_neg])) hB (by simp) rfl, ((hB.set _ _ rfl (by simp)).set _ _ rfl (by simp)).old hE9 (by simp; omega)⟩
end Go.Proofs.YtechjiiijiipdaaGreatDoor
namespace Go.Proofs.YtechjiiijiipdaaGreatDoor
open Go.RowKit
set_option linter.unusedSimpArgs false
set_option linter.unusedVariables false
attribute [local irreducible] U32s Dig Norm Own
set_option maxRecDepth 100000 in
set_option maxHeartbeats 1000000 in
theorem ref01_Add (n m : Nat) (w : World) (va vb : Value) (a b : Int) (ha : IsInt n w va a) (hb : IsInt m w vb b) (hn : n < 400000) (hm : m < 400000) :
    Calls Tryz.prog 96 #[va, vb] w fun e w' => ∃ v, e = .returned v ∧ IsInt (max n m + 1) w' v (a + b) ∧ Ext w w' := by
  obtain ⟨na, aa, la, ca, rfl, ua, da, nna, lna, sa, qa, _⟩ := IsInt.shape ha; have ea := Lib.hid qa; clear qa
  obtain ⟨nb, ab, lb, cb, rfl, ub, db, nnb, lnb, sb, qb, _⟩ := IsInt.shape hb; have eb := Lib.hid qb; clear qb
  have eab := Lib.hid (show a + b = sgn na (val la) + sgn nb (val lb) by rw [ea.out, eb.out])
  go_enter Tryz.func96, Tryz.ntmps96
  by_cases hs : na = nb
  · subst hs
    go_wp2_with (first | fail)
    obtain ⟨w3, p, q, r, e1, e2, e3, e4, h1, h2, h3, hpq, hpr, hqr, hE⟩ := box3 w (.cells #[.bool na, .slice aa la.length ca] 53) (.cells #[.bool na, .slice ab lb.length cb] 53) (.cells #[.bool false, .slice none 0 0] 53)
    rw [e1, e2, e3, e4]
    have hge : ∀ k, k ∈ [r] → w.heap.size ≤ k := by simp; omega
    clear e1 e2 e3 e4
    have Rp0 := rulesB (rs := [r]) h1 (by simpa using hpr) 0 _ rfl
    have Rp1 := rulesB (rs := [r]) h1 (by simpa using hpr) 1 _ rfl
    have Rq0 := rulesB (rs := [r]) h2 (by simpa using hqr) 0 _ rfl
    have Rq1 := rulesB (rs := [r]) h2 (by simpa using hqr) 1 _ rfl
    have hbxr : Box _ r := Box.mk h3 rfl
    obtain ⟨Rr0, Fr0⟩ := rulesR (rs := [r]) h3 (by simp) 0 (by simp)
    obtain ⟨Rr1, Fr1⟩ := rulesR (rs := [r]) h3 (by simp) 1 (by simp)
    go_region_held3 (fun w' => But [r] w3 w') (exact buttI) (first | (go_at_call 160; refine (ref01_plus _ _ _ la lb (ua.ext (by exact exttI)) (ub.ext (by exact exttI)) da db (by omega) (by omega)).mono ?_; rintro e w4 ⟨vs, s, rfl, us, ds, _, ys, zs, hEs⟩; have es := Lib.hid ys; clear ys) | (go_at_call 95; refine (ref01_signed _ _ _ _ (by exact (us.ext (by exact exttI))) (by exact ds)).mono ?_; rintro e w5 ⟨vr, rfl, hr, hEr⟩; obtain ⟨nr, ar, kr, cr, rfl⟩ := IsInt.form hr))
    go_wp2
    have hB : But [r] w3 w5 := by exact buttI
    exact bodyPost_ret (v := .agg #[.bool nr, .slice ar kr cr]) (by simp [results, Tryz.results96, go_sem, Rr0 _ hB, Rr1 _ hB]) rfl ⟨_, rfl, IsInt.put ((hr.mono (by omega)).cast (by rw [es.out, sgn_add_same, ← eab.out])) hB (by simp) rfl, ((hB.set _ _ rfl (by simp)).set _ _ rfl (by simp)).old hE hge⟩
  · obtain rfl : nb = !na := by cases na <;> cases nb <;> simp_all
    clear hs
    have hne : (na == !na) = false := by cases na <;> rfl
    go_wp2_with (first | fail)
    obtain ⟨w3, p, q, r, e1, e2, e3, e4, h1, h2, h3, hpq, hpr, hqr, hE⟩ := box3 w (.cells #[.bool na, .slice aa la.length ca] 53) (.cells #[.bool (!na), .slice ab lb.length cb] 53) (.cells #[.bool false, .slice none 0 0] 53)
    rw [e1, e2, e3, e4]
    have hge : ∀ k, k ∈ [r] → w.heap.size ≤ k := by simp; omega
    clear e1 e2 e3 e4
    (go_at_call 85; refine (ref01_compare _ _ _ la lb (ua.ext (by exact exttI)) (ub.ext (by exact exttI)) da db nna nnb).mono ?_; rintro e w4 ⟨rfl, hE4⟩; replace hE4 := hE4.ext)
    replace h1 := hE4.blk h1
    replace h2 := hE4.blk h2
    replace h3 := hE4.blk h3
    replace hE := hE.trans' hE4
    clear hE4
    have Rp0 := rulesB (rs := [r]) h1 (by simpa using hpr) 0 _ rfl
    have Rp1 := rulesB (rs := [r]) h1 (by simpa using hpr) 1 _ rfl
    have Rq0 := rulesB (rs := [r]) h2 (by simpa using hqr) 0 _ rfl
    have Rq1 := rulesB (rs := [r]) h2 (by simpa using hqr) 1 _ rfl
    have hbxr : Box _ r := Box.mk h3 rfl
    obtain ⟨Rr0, Fr0⟩ := rulesR (rs := [r]) h3 (by simp) 0 (by simp)
    obtain ⟨Rr1, Fr1⟩ := rulesR (rs := [r]) h3 (by simp) 1 (by simp)
    by_cases hc : val la < val lb
    · rw [show cmpN (val la) (val lb) = -1 by simp [cmpN, hc]]
      have lle := length_le_of_val nna db (Nat.le_of_lt hc)
      have hc := Lib.hid hc
      go_wp2_with (first | fail)
      go_region_held3 (fun w' => But [r] w4 w') (exact buttI) (first | (go_at_call 161; refine (ref01_minus _ _ _ lb la (ub.ext (by exact exttI)) (ua.ext (by exact exttI)) db da (by omega) lle (by have := hc.out; omega)).mono ?_; rintro e w7 ⟨vs, s, rfl, us, ds, _, ys, zs, _, hEs⟩; have es := Lib.hid ys; clear ys) | (go_at_call 95; refine (ref01_signed _ _ _ _ (by exact (us.ext (by exact exttI))) (by exact ds)).mono ?_; rintro e w5 ⟨vr, rfl, hr, hEr⟩; obtain ⟨nr, ar, kr, cr, rfl⟩ := IsInt.form hr))
      go_wp2
      have hB : But [r] w4 w5 := by exact buttI
      exact bodyPost_ret (v := .agg #[.bool nr, .slice ar kr cr]) (by simp [results, Tryz.results96, go_sem, Rr0 _ hB, Rr1 _ hB]) rfl ⟨_, rfl, IsInt.put ((hr.mono (by omega)).cast (by have hc := hc.out; rw [es.out, sgn_add_diff _ (by omega), Bool.not_not, eab.out]; omega)) hB (by simp) rfl, ((hB.set _ _ rfl (by simp)).set _ _ rfl (by simp)).old hE hge⟩
    · have lle := length_le_of_val nnb da (by omega)
      have hc2 : ∃ k : Int, 0 ≤ k ∧ cmpN (val la) (val lb) = k := by simp only [cmpN, hc, if_false]; split <;> exact ⟨_, by omega, rfl⟩
      have hc := Lib.hid hc
      obtain ⟨k, hk, e⟩ := hc2
      rw [e]
      clear e
      go_wp2_with (first | fail)
      go_region_held3 (fun w' => But [r] w4 w') (exact buttI) (first | (go_at_call 161; refine (ref01_minus _ _ _ la lb (ua.ext (by exact exttI)) (ub.ext (by exact exttI)) da db (by omega) lle (by have := hc.out; omega)).mono ?_; rintro e w7 ⟨vs, s, rfl, us, ds, _, ys, zs, _, hEs⟩; have es := Lib.hid ys; clear ys) | (go_at_call 95; refine (ref01_signed _ _ _ _ (by exact (us.ext (by exact exttI))) (by exact ds)).mono ?_; rintro e w5 ⟨vr, rfl, hr, hEr⟩; obtain ⟨nr, ar, kr, cr, rfl⟩ := IsInt.form hr))
      go_wp2
      have hB : But [r] w4 w5 := by exact buttI
      exact bodyPost_ret (v := .agg #[.bool nr, .slice ar kr cr]) (by simp [results, Tryz.results96, go_sem, Rr0 _ hB, Rr1 _ hB]) rfl ⟨_, rfl, IsInt.put ((hr.mono (by omega)).cast (by have hc := hc.out; rw [es.out, sgn_add_diff _ (by omega), eab.out])) hB (by simp) rfl, ((hB.set _ _ rfl (by simp)).set _ _ rfl (by simp)).old hE hge⟩
set_option maxRecDepth 100000 in
set_option maxHeartbeats 1000000 in
theorem ref01_Sub (n m : Nat) (w : World) (va vb : Value) (a b : Int) (ha : IsInt n w va a) (hb : IsInt m w vb b) (hn : n < 400000) (hm : m < 400000) :
    Calls Tryz.prog 36 #[va, vb] w fun e w' => ∃ v, e = .returned v ∧ IsInt (max n m + 1) w' v (a - b) ∧ Ext w w' := by
  obtain ⟨na, aa, ka, ca, rfl⟩ := IsInt.form ha
  obtain ⟨nb, ab, kb, cb, rfl⟩ := IsInt.form hb
  go_enter Tryz.func36, Tryz.ntmps36
  go_wp2_with (first | fail)
  obtain ⟨w3, p, q, r, e1, e2, e3, e4, h1, h2, h3, hpq, hpr, hqr, hE⟩ := box3 w (.cells #[.bool na, .slice aa ka ca] 53) (.cells #[.bool nb, .slice ab kb cb] 53) (.cells #[.bool false, .slice none 0 0] 53)
  rw [e1, e2, e3, e4]
  have hge : ∀ k, k ∈ [r] → w.heap.size ≤ k := by simp; omega
  clear e1 e2 e3 e4
  have Rp0 := rulesB (rs := [r]) h1 (by simpa using hpr) 0 _ rfl
  have Rp1 := rulesB (rs := [r]) h1 (by simpa using hpr) 1 _ rfl
  have Rq0 := rulesB (rs := [r]) h2 (by simpa using hqr) 0 _ rfl
  have Rq1 := rulesB (rs := [r]) h2 (by simpa using hqr) 1 _ rfl
  have hbxr : Box _ r := Box.mk h3 rfl
  obtain ⟨Rr0, Fr0⟩ := rulesR (rs := [r]) h3 (by simp) 0 (by simp)
  obtain ⟨Rr1, Fr1⟩ := rulesR (rs := [r]) h3 (by simp) 1 (by simp)
  go_region_held3 (fun w' => But [r] w3 w') (exact buttI) (first | (go_at_call 35; refine (ref01_Neg _ _ _ _ (hb.ext (by exact exttI))).mono ?_; rintro e w4 ⟨vy, rfl, hy, hEy⟩; obtain ⟨ny, ay, ky, cy, rfl⟩ := IsInt.form hy) | (go_at_call 96; refine (ref01_Add _ _ _ _ _ _ _ (ha.ext (by exact exttI)) (hy.ext (by exact exttI)) (by omega) (by omega)).mono ?_; rintro e w5 ⟨vr, rfl, hr, hEr⟩; obtain ⟨nr, ar, kr, cr, rfl⟩ := IsInt.form hr))
  go_wp2
  have hB : But [r] w3 w5 := by exact buttI
  exact bodyPost_ret (v := .agg #[.bool nr, .slice ar kr cr]) (by simp [results, Tryz.results36, go_sem, Rr0 _ hB, Rr1 _ hB]) rfl ⟨_, rfl, IsInt.put (hr.cast (by rw [Int.sub_eq_add_neg])) hB (by simp) rfl, ((hB.set _ _ rfl (by simp)).set _ _ rfl (by simp)).old hE hge⟩
end Go.Proofs.YtechjiiijiipdaaGreatDoor
namespace Go.Proofs.YtechjiiijiipdaaGreatDoor
open Go.RowKit
set_option linter.unusedSimpArgs false
set_option linter.unusedVariables false
attribute [local irreducible] IsInt U32s Dig Norm Own
set_option maxRecDepth 100000 in
set_option maxHeartbeats 4000000 in
theorem ref01_DivMod (n m : Nat) (w : World) (va vb : Value) (a b : Int) (ha : IsInt n w va a) (hb : IsInt m w vb b) (hn : n < 300000) (hm : m < 300000) (hp : 0 < b) :
    Calls Tryz.prog 148 #[va, vb] w fun e w' => ∃ v1 v2, e = .returned (.tuple #[v1, v2, .int .i64 0]) ∧ IsInt n w' v1 (a / b) ∧ IsInt m w' v2 (a % b) ∧ Ext w w' := by
  obtain ⟨na, aa, la, ca, rfl, ua, da, nna, lna, sa, qa, _⟩ := IsInt.shape ha; have ea := Lib.hid qa; clear qa
  obtain ⟨nb, ab, lb, cb, rfl, ub, db, nnb, lnb, sb, qb, _⟩ := IsInt.shape hb; have eb := Lib.hid qb; clear qb
  obtain rfl : nb = false := by
    cases nb with
    | false => rfl
    | true =>
      have := eb.out
      simp [sgn] at this
      try omega
  have pb : 0 < val lb := by have := eb.out; simp [sgn] at this; omega
  have l0 : 0 < (lb.length : Int) := by
    rcases lb with _ | ⟨x, l⟩
    · simp [val] at pb
    · simp
  have l1 : ¬ ((lb.length : Int) = 0) := by omega
  have lne : lb ≠ [] := by intro e; rw [e] at l0; simp at l0
  go_enter Tryz.func148, Tryz.ntmps148
  go_wp2_with (first | fail)
  obtain ⟨w3, p, q, r, s, e1, e2, e3, e4, e5, h1, h2, h3, h4, hpq, hpr, hps, hqr, hqs, hrs, hE⟩ := box4 w (.cells #[.bool na, .slice aa la.length ca] 53) (.cells #[.bool false, .slice ab lb.length cb] 53) (.cells #[.bool false, .slice none 0 0] 53) (.cells #[.bool false, .slice none 0 0] 53)
  rw [e1, e2, e3, e4, e5]
  have hge : ∀ k, k ∈ [r, s] → w.heap.size ≤ k := by simp; omega
  clear e1 e2 e3 e4 e5
  have Rp0 := rulesB (rs := []) h1 (by simp) 0 _ rfl
  have Rp1 := rulesB (rs := []) h1 (by simp) 1 _ rfl
  have Rq0 := rulesB (rs := []) h2 (by simp) 0 _ rfl
  have Rq1 := rulesB (rs := []) h2 (by simp) 1 _ rfl
  have hB0 := But.start0 w3
  (go_at_call 201; refine (ref01_parts _ _ _ la lb (ua.ext (by exact exttI)) (ub.ext (by exact exttI)) da db nnb lne (by omega) (by omega)).mono ?_; rintro e w4 ⟨vx, vy, x, y, rfl, ux, uy, dx, dy, nx, ny, yx, yy, zx, zy, hEx⟩; have ex := Lib.hid yx; clear yx; have ey := Lib.hid yy; clear yy)
  obtain ⟨ay, cy, rfl, hcy, _⟩ := uy.shape
  go_upto_region 4 with (fail)
  go_cut [9, 10] (fun p9 p10 w' => ∃ g h, p9 = .pointer (some ⟨g, 0, none⟩) ∧ p10 = .pointer (some ⟨h, 0, none⟩) ∧ g ≠ h ∧ w3.heap.size ≤ g ∧ w3.heap.size ≤ h ∧ But [] w3 w' ∧
    ∃ (nu : Bool) (au : Option Addr) (lu : List Nat) (cu : Nat) (nv : Bool) (av : Option Addr) (lv : List Nat) (cv : Nat), IsInt x.length w' (.agg #[.bool nu, .slice au lu.length cu]) (sgn na (val x)) ∧ IsInt y.length w' (.agg #[.bool nv, .slice av lv.length cv]) (sgn na (val y)) ∧
      Norm lv ∧ (nv = true → lv ≠ []) ∧ Hid (sgn na (val y) = sgn nv (val lv)) ∧
      w'.heap[g]? = some (.cells #[.bool nu, .slice au lu.length cu] 53 (0, 0)) ∧ w'.heap[h]? = some (.cells #[.bool nv, .slice av lv.length cv] 53 (0, 0)))
  case first =>
    have zxs := hEx.size
    go_region_held3 (fun w' => But [] w3 w') (exact buttI) (first | ((go_at_call 95; refine (ref01_signed _ _ _ _ (by exact (ux.ext (by exact exttI))) (by exact dx)).mono ?_; rintro e w5 ⟨vu, rfl, hu, hEu⟩; obtain ⟨nu, au, lu, cu, rfl, uu, du, nnu, lnu, su, qu, _⟩ := IsInt.shape hu; have eu := Lib.hid qu; clear qu); (try (have zu1 := Ext.blk hEu (heap_alloc_new _ _))); (try (first | (have zu2 := Ext.blk (Ext.trans' ((Ext.rfl' _).alloc' _) hEu) (heap_alloc_new _ _)) | (have zu2 := Ext.blk (Ext.trans' ((Ext.rfl' _).alloc' _).drew' hEu) (heap_alloc_new _ _)))); (try simp only [size_alloc', size_drew'] at zu1); (try simp only [size_alloc', size_drew'] at zu2); (have zus := hEu.size); (try simp only [size_alloc', size_drew'] at zus); (try (obtain ⟨Czu10, Gzu10⟩ := cell_of zu1 0 _ rfl)); (try (obtain ⟨Czu11, Gzu11⟩ := cell_of zu1 1 _ rfl)); (try (obtain ⟨Czu20, Gzu20⟩ := cell_of zu2 0 _ rfl)); (try (obtain ⟨Czu21, Gzu21⟩ := cell_of zu2 1 _ rfl)); (try (have l1w4w5 : w4.heap.size < w5.heap.size := by omega)); (try (have l2w4w5 : w4.heap.size + 1 < w5.heap.size := by omega)); (try (have l3w4w5 : w4.heap.size ≠ w5.heap.size := by omega)); (try (have l4w4w5 : w4.heap.size + 1 ≠ w5.heap.size := by omega)); (try (have l5w4w5 : w5.heap.size ≠ w4.heap.size := by omega)); (try (have l6w4w5 : w5.heap.size ≠ w4.heap.size + 1 := by omega))) | ((go_at_call 95; refine (ref01_signed _ _ _ _ (by exact (uy.ext (by exact exttI))) (by exact dy)).mono ?_; rintro e w6 ⟨vv, rfl, hv, hEv⟩; obtain ⟨nv, av, lv, cv, rfl, uv, dv, nnv, lnv, sv, qv, _⟩ := IsInt.shape hv; have ev := Lib.hid qv; clear qv); (try (have zv1 := Ext.blk hEv (heap_alloc_new _ _))); (try (first | (have zv2 := Ext.blk (Ext.trans' ((Ext.rfl' _).alloc' _) hEv) (heap_alloc_new _ _)) | (have zv2 := Ext.blk (Ext.trans' ((Ext.rfl' _).alloc' _).drew' hEv) (heap_alloc_new _ _)))); (try simp only [size_alloc', size_drew'] at zv1); (try simp only [size_alloc', size_drew'] at zv2); (have zvs := hEv.size); (try simp only [size_alloc', size_drew'] at zvs); (try (obtain ⟨Czv10, Gzv10⟩ := cell_of zv1 0 _ rfl)); (try (obtain ⟨Czv11, Gzv11⟩ := cell_of zv1 1 _ rfl)); (try (obtain ⟨Czv20, Gzv20⟩ := cell_of zv2 0 _ rfl)); (try (obtain ⟨Czv21, Gzv21⟩ := cell_of zv2 1 _ rfl)); (try (have zv3 := Ext.blk (Ext.trans' (by exact exttI) hEv) zu1)); (try (have zv4 := Ext.blk (Ext.trans' (by exact exttI) hEv) zu2)); (try (obtain ⟨Czv30, Gzv30⟩ := cell_of zv3 0 _ rfl)); (try (obtain ⟨Czv31, Gzv31⟩ := cell_of zv3 1 _ rfl)); (try (obtain ⟨Czv40, Gzv40⟩ := cell_of zv4 0 _ rfl)); (try (obtain ⟨Czv41, Gzv41⟩ := cell_of zv4 1 _ rfl)); (try (have l1w4w6 : w4.heap.size < w6.heap.size := by omega)); (try (have l2w4w6 : w4.heap.size + 1 < w6.heap.size := by omega)); (try (have l3w4w6 : w4.heap.size ≠ w6.heap.size := by omega)); (try (have l4w4w6 : w4.heap.size + 1 ≠ w6.heap.size := by omega)); (try (have l5w4w6 : w6.heap.size ≠ w4.heap.size := by omega)); (try (have l6w4w6 : w6.heap.size ≠ w4.heap.size + 1 := by omega)); (try (have l1w5w6 : w5.heap.size < w6.heap.size := by omega)); (try (have l2w5w6 : w5.heap.size + 1 < w6.heap.size := by omega)); (try (have l3w5w6 : w5.heap.size ≠ w6.heap.size := by omega)); (try (have l4w5w6 : w5.heap.size + 1 ≠ w6.heap.size := by omega)); (try (have l5w5w6 : w6.heap.size ≠ w5.heap.size := by omega)); (try (have l6w5w6 : w6.heap.size ≠ w5.heap.size + 1 := by omega))))
    all_goals (go_wp2_with fail; go_meet)
    all_goals exact ⟨_, _, rfl, rfl, by omega, by omega, by omega, by exact buttI, nu, au, lu, cu, nv, av, lv, cv, by exact inttI, by exact inttI, nnv, sv, ev, by exact heaptI, by exact heaptI⟩
  case rest =>
    obtain ⟨g, h, rfl, rfl, hgh, hg3, hh3, hBc, nu, au, lu, cu, nv, av, lv, cv, hu, hv, nnv, sv, ev, kg, kh⟩ := hcut
    have hEc := hBc.none
    clear Rp0 Rp1 Rq0 Rq1
    have lt1 := (Array.getElem?_eq_some_iff.1 h1).1
    have lt2 := (Array.getElem?_eq_some_iff.1 h2).1
    have lt3 := (Array.getElem?_eq_some_iff.1 h3).1
    have lt4 := (Array.getElem?_eq_some_iff.1 h4).1
    have szw := hE.size
    replace h1 := hEc.blk h1
    replace h2 := hEc.blk h2
    replace h3 := hEc.blk h3
    replace h4 := hEc.blk h4
    replace hE := hE.trans' hEc
    have n1 : q ≠ g := by omega
    have n2 : q ≠ h := by omega
    have n3 : r ≠ g := by omega
    have n4 : r ≠ h := by omega
    have n5 : s ≠ g := by omega
    have n6 : s ≠ h := by omega
    have ea0 := ea.out
    have eb0 : b = (val lb : Int) := by rw [eb.out]; simp [sgn]
    have hbx1 : Box wc r := Box.mk h3 rfl
    have hbx2 : Box wc s := Box.mk h4 rfl
    obtain ⟨Cg0, Gg0⟩ := cell_of kg 0 _ rfl
    obtain ⟨Cg1, Gg1⟩ := cell_of kg 1 _ rfl
    obtain ⟨Ch0, Gh0⟩ := cell_of kh 0 _ rfl
    obtain ⟨Ch1, Gh1⟩ := cell_of kh 1 _ rfl
    obtain ⟨Cq0, Gq0⟩ := cell_of h2 0 _ rfl
    obtain ⟨Cq1, Gq1⟩ := cell_of h2 1 _ rfl
    obtain ⟨Cp0, Gp0⟩ := cell_of h1 0 _ rfl
    obtain ⟨Cp1, Gp1⟩ := cell_of h1 1 _ rfl
    have aq : (a / b).natAbs ≤ a.natAbs := abs_ediv_le a b hp
    have ar : (a % b).natAbs ≤ b.natAbs := by
      have := Int.emod_nonneg a (show b ≠ 0 by omega)
      have := Int.emod_lt_of_pos a hp
      omega
    by_cases hy : val y = 0
    · have elv : lv = [] ∧ nv = false := by
        have h := ev.out
        rw [hy] at h
        rcases lv with _ | ⟨d, l⟩
        · refine ⟨rfl, ?_⟩
          cases nv with
          | false => rfl
          | true => exact absurd rfl (sv rfl)
        · have hpos := nnv.pos (by simp)
          exfalso
          revert h
          cases na <;> cases nv <;> simp [sgn] <;> omega
      obtain ⟨rfl, rfl⟩ := elv
      have hq : IsInt n wc (.agg #[.bool nu, .slice au lu.length cu]) (a / b) := by
        refine IsInt.of_le (hu.cast ?_) ha aq
        rw [ex.out, ea0, eb0]
        have hm : val la % val lb = 0 := by rw [← ey.out]; exact hy
        cases na
        · simp [sgn]
        · simp only [sgn, if_true]; exact (dm_neg0 pb hm).1.symm
      have hr : IsInt m wc (.agg #[.bool false, .slice av 0 cv]) (a % b) := by
        refine IsInt.of_le (hv.cast ?_) hb ar
        rw [hy, ea0, eb0]
        have hm : val la % val lb = 0 := by rw [← ey.out]; exact hy
        cases na
        · simp [sgn]; omega
        · simp only [sgn, if_true]; rw [(dm_neg0 pb hm).2]; rfl
      have hyh := Lib.hid hy
      have hy0 : y = [] := ny.zero.1 hy
      have hyl : y.length = 0 := by rw [hy0]; rfl
      have hyd : decide (0 < y.length) = false := by rw [hyl]; rfl
      clear hy0
      clear hy ea0 eb0
      go_wp2_with (first | fail)
      have hbxr : Box _ r := Box.mk h3 rfl
      obtain ⟨Rr0, Fr0⟩ := rulesR (rs := [r, s]) h3 (by simp) 0 (by simp)
      obtain ⟨Rr1, Fr1⟩ := rulesR (rs := [r, s]) h3 (by simp) 1 (by simp)
      have hbxs : Box _ s := Box.mk h4 rfl
      obtain ⟨Rs0, Fs0⟩ := rulesR (rs := [r, s]) h4 (by simp) 0 (by simp)
      obtain ⟨Rs1, Fs1⟩ := rulesR (rs := [r, s]) h4 (by simp) 1 (by simp)
      have Rg0 := rulesB (rs := [r, s]) kg (by simp; omega) 0 _ rfl
      have Rg1 := rulesB (rs := [r, s]) kg (by simp; omega) 1 _ rfl
      have Rh0 := rulesB (rs := [r, s]) kh (by simp; omega) 0 _ rfl
      have Rh1 := rulesB (rs := [r, s]) kh (by simp; omega) 1 _ rfl
      have hB : But [r, s] wc wc := by exact buttI
      go_region_held3 (fun w' => But [r, s] wc w') (exact buttI) (first | fail)
      go_wp2
      have hW : But [r, s] wc ((((World.setCell wc ⟨r, 0, none⟩ (.bool nu)).setCell ⟨r, 1, none⟩ (.slice au lu.length cu)).setCell ⟨s, 0, none⟩ (.bool false)).setCell ⟨s, 1, none⟩ (.slice av 0 cv)) := by exact buttI
      have hB2 : But [r, s] wc ((World.setCell wc ⟨r, 0, none⟩ (.bool nu)).setCell ⟨r, 1, none⟩ (.slice au lu.length cu)) := by exact buttI
      exact bodyPost_ret (v := .tuple #[.agg #[.bool nu, .slice au lu.length cu], .agg #[.bool false, .slice av 0 cv], .int .i64 0]) (by simp [results, Tryz.results148, go_sem, Rr0 _ hB, Rr1 _ hB, Rs0 _ hB, Rs1 _ hB, hrs, Ne.symm hrs]) rfl ⟨_, _, rfl, IsInt.dr (IsInt.put (IsInt.put hq hB (by simp) rfl) hB2 (by simp) rfl), IsInt.dr (IsInt.put (IsInt.put hr hB (by simp) rfl) hB2 (by simp) rfl), hW.dr.old hE hge⟩
    · have elv : lv ≠ [] ∧ nv = na := by
        have h := ev.out
        rcases lv with _ | ⟨d, l⟩
        · exfalso
          revert h
          simp only [val_nil]
          cases na <;> cases nv <;> simp [sgn] <;> omega
        · refine ⟨by simp, ?_⟩
          have hpos := nnv.pos (by simp)
          revert h
          cases na <;> cases nv <;> simp [sgn] <;> omega
      obtain ⟨elv, rfl⟩ := elv
      have l2 : 0 < (lv.length : Int) := by have := List.length_pos_iff.2 elv; omega
      have l3 : 0 < lv.length := List.length_pos_iff.2 elv
      have y3 : 0 < y.length := by
        rcases y with _ | ⟨d, l⟩
        · exact absurd rfl hy
        · simp
      have y2 : 0 < (y.length : Int) := by omega
      cases nv
      · have hq : IsInt n wc (.agg #[.bool nu, .slice au lu.length cu]) (a / b) := by
          refine IsInt.of_le (hu.cast ?_) ha aq
          rw [ex.out, ea0, eb0]
          simp [sgn]
        have hr : IsInt m wc (.agg #[.bool false, .slice av lv.length cv]) (a % b) := by
          refine IsInt.of_le (hv.cast ?_) hb ar
          rw [ey.out, ea0, eb0]
          simp [sgn]
        have hyh := Lib.hid hy
        clear hy ea0 eb0
        go_wp2_with (first | fail)
        have hbxr : Box _ r := Box.mk h3 rfl
        obtain ⟨Rr0, Fr0⟩ := rulesR (rs := [r, s]) h3 (by simp) 0 (by simp)
        obtain ⟨Rr1, Fr1⟩ := rulesR (rs := [r, s]) h3 (by simp) 1 (by simp)
        have hbxs : Box _ s := Box.mk h4 rfl
        obtain ⟨Rs0, Fs0⟩ := rulesR (rs := [r, s]) h4 (by simp) 0 (by simp)
        obtain ⟨Rs1, Fs1⟩ := rulesR (rs := [r, s]) h4 (by simp) 1 (by simp)
        have Rg0 := rulesB (rs := [r, s]) kg (by simp; omega) 0 _ rfl
        have Rg1 := rulesB (rs := [r, s]) kg (by simp; omega) 1 _ rfl
        have Rh0 := rulesB (rs := [r, s]) kh (by simp; omega) 0 _ rfl
        have Rh1 := rulesB (rs := [r, s]) kh (by simp; omega) 1 _ rfl
        have hB : But [r, s] wc wc := by exact buttI
        go_region_held3 (fun w' => But [r, s] wc w') (exact buttI) (first | fail)
        go_wp2
        have hW : But [r, s] wc ((((World.setCell wc ⟨r, 0, none⟩ (.bool nu)).setCell ⟨r, 1, none⟩ (.slice au lu.length cu)).setCell ⟨s, 0, none⟩ (.bool false)).setCell ⟨s, 1, none⟩ (.slice av lv.length cv)) := by exact buttI
        have hB2 : But [r, s] wc ((World.setCell wc ⟨r, 0, none⟩ (.bool nu)).setCell ⟨r, 1, none⟩ (.slice au lu.length cu)) := by exact buttI
        exact bodyPost_ret (v := .tuple #[.agg #[.bool nu, .slice au lu.length cu], .agg #[.bool false, .slice av lv.length cv], .int .i64 0]) (by simp [results, Tryz.results148, go_sem, Rr0 _ hB, Rr1 _ hB, Rs0 _ hB, Rs1 _ hB, hrs, Ne.symm hrs]) rfl ⟨_, _, rfl, IsInt.dr (IsInt.put (IsInt.put hq hB (by simp) rfl) hB2 (by simp) rfl), IsInt.dr (IsInt.put (IsInt.put hr hB (by simp) rfl) hB2 (by simp) rfl), hW.dr.old hE hge⟩
      · have hyh := Lib.hid hy
        have ea1 := Lib.hid ea0
        have eb1 := Lib.hid eb0
        clear hy ea0 eb0
        go_upto_region 6 with (fail)
        have hbc : IsInt m wc (.agg #[.bool false, .slice ab lb.length cb]) b := hb.ext hE
        have Bg : Box wc g := Box.mk kg rfl
        have Bh : Box wc h := Box.mk kh rfl
        go_cut [9, 10] (fun p9 p10 w' => p9 = .pointer (some ⟨g, 0, none⟩) ∧ p10 = .pointer (some ⟨h, 0, none⟩) ∧ But [g, h] wc w' ∧
          ∃ (n1 : Bool) (a1 : Option Addr) (l1 : List Nat) (c1 : Nat) (n2 : Bool) (a2 : Option Addr) (l2 : List Nat) (c2 : Nat), IsInt (max x.length 3 + 1) w' (.agg #[.bool n1, .slice a1 l1.length c1]) (sgn true (val x) - 1) ∧ IsInt (max y.length m + 1) w' (.agg #[.bool n2, .slice a2 l2.length c2]) (sgn true (val y) + b) ∧
            w'.heap[g]? = some (.cells #[.bool n1, .slice a1 l1.length c1] 53 (0, 0)) ∧ w'.heap[h]? = some (.cells #[.bool n2, .slice a2 l2.length c2] 53 (0, 0)))
        case first =>
          clear Cg0 Gg0 Cg1 Gg1 Ch0 Gh0 Ch1 Gh1
          obtain ⟨Rg0, Fg0⟩ := rules kg 0 _ rfl
          obtain ⟨Rg1, Fg1⟩ := rules kg 1 _ rfl
          obtain ⟨Rh0, Fh0⟩ := rules kh 0 _ rfl
          obtain ⟨Rh1, Fh1⟩ := rules kh 1 _ rfl
          have Rq0 := (rules h2 0 _ rfl).1
          have Rq1 := (rules h2 1 _ rfl).1
          have hX := (Ext.rfl' wc).drew'
          (refine wp_region_noPanic ?_; refine wp_region_head 6 (fun w' => Ext wc w') (by kernel_rfl) (by kernel_rfl) ?_ (fun hHeld => ?_); (focus (show Ext _ _; exact exttI)); (try simp only [List.size_toArray, List.length_cons, List.length_nil]))
          (refine wpHead_take 0 (by kernel_rfl) (fun _ _ _ _ _ h => h) (by assumption) ?_; simp only [atOp]; refine ⟨by rfl, ?_, ?_, ?_⟩; rotate_left; (focus (intro w' hSw; (try dsimp only at hSw); go_simp; (try with_reducible rfl))); (try simp only [Act.put, List.setIfInBounds_toArray, List.set_cons_zero, List.set_cons_succ]))
          (refine wpHead_take 3 (by kernel_rfl) (fun _ _ _ _ _ h => h) (by assumption) ?_; simp only [atOp]; refine ⟨by rfl, ?_, ?_, ?_⟩; rotate_left; (focus (intro w' hSw; (try dsimp only at hSw); go_simp; (try with_reducible rfl))); (try simp only [Act.put, List.setIfInBounds_toArray, List.set_cons_zero, List.set_cons_succ]))
          (refine wpHead_take 4 (by kernel_rfl) (fun _ _ _ _ _ h => h) (by assumption) ?_; simp only [atOp]; refine ⟨by rfl, ?_, ?_, ?_⟩; rotate_left; (focus (intro w' hSw; (try dsimp only at hSw); go_simp; (try with_reducible rfl))); (try simp only [Act.put, List.setIfInBounds_toArray, List.set_cons_zero, List.set_cons_succ]))
          (refine wpHead_only 1 (by kernel_rfl) ?_; simp only [atOp]; intro K hK; go_simp; ((go_at_call 39; refine (ref01_FromInt64 _ 1 (by omega) (by omega)).mono ?_; rintro e w5 ⟨vi, rfl, hi, hEi⟩; obtain ⟨ni, ai, li, ci, rfl, ui, di, nni, lni, si, qi, _⟩ := IsInt.shape hi; have ei := Lib.hid qi; clear qi); have hX5 := (show Ext wc w5 by exact exttI)); refine hK.out _ _ ?_ (fun hHeld => ?_); (focus (show Ext _ _; exact exttI)); clear hK K; (try simp only [Act.put, List.setIfInBounds_toArray, List.set_cons_zero, List.set_cons_succ]))
          (refine wpHead_only 2 (by kernel_rfl) ?_; simp only [atOp]; intro K hK; go_simp; ((go_at_call 36; refine (ref01_Sub _ _ _ _ _ _ _ (hu.ext (by exact exttI)) (hi.ext (by exact exttI)) (by omega) (by omega)).mono ?_; rintro e w6 ⟨vj, rfl, hj, hEj⟩; obtain ⟨nj, aj, lj, cj, rfl, uj, dj, nnj, lnj, sj, qj, _⟩ := IsInt.shape hj; have ej := Lib.hid qj; clear qj); have hX6 := (show Ext wc w6 by exact exttI)); refine hK.out _ _ ?_ (fun hHeld => ?_); (focus (show Ext _ _; exact exttI)); clear hK K; (try simp only [Act.put, List.setIfInBounds_toArray, List.set_cons_zero, List.set_cons_succ]))
          (refine wpHead_only 5 (by kernel_rfl) ?_; simp only [atOp]; intro K hK; go_simp; ((go_at_call 96; refine (ref01_Add _ _ _ _ _ _ _ (hv.ext (by exact exttI)) (hbc.ext (by exact exttI)) (by omega) (by omega)).mono ?_; rintro e w7 ⟨vk, rfl, hk, hEk⟩; obtain ⟨nk, ak, lk, ck, rfl, uk, dk, nnk, lnk, sk, qk, _⟩ := IsInt.shape hk; have ek := Lib.hid qk; clear qk); have hX7 := (show Ext wc w7 by exact exttI)); refine hK.out _ _ ?_ (fun hHeld => ?_); (focus (show Ext _ _; exact exttI)); clear hK K; (try simp only [Act.put, List.setIfInBounds_toArray, List.set_cons_zero, List.set_cons_succ]))
          (refine wpHead_done (by kernel_rfl) ?_; simp only [List.drop_succ_cons, List.drop_zero])
          have kg7 := hX7.blk kg
          have kh7 := hX7.blk kh
          obtain ⟨Cg0, Gg0⟩ := cell_of kg7 0 _ rfl
          obtain ⟨Cg1, Gg1⟩ := cell_of kg7 1 _ rfl
          obtain ⟨Ch0, Gh0⟩ := cell_of kh7 0 _ rfl
          obtain ⟨Ch1, Gh1⟩ := cell_of kh7 1 _ rfl
          go_wp2_with fail
          refine NoPanic.normal ?_
          go_wp2_with fail
          go_meet
          exact ⟨rfl, rfl, by exact buttI, nj, aj, lj, cj, nk, ak, lk, ck, by exact inttI, by exact inttI, by exact heaptI, by exact heaptI⟩
        case rest =>
          obtain ⟨rfl, rfl, hBd, nz1, az1, lz1, cz1, nz2, az2, lz2, cz2, hi1, hi2, kg', kh'⟩ := hcut
          have hEd : Ext w wc := hBd.old hE (by simp; omega)
          have h3 := (hBd.block r (Array.getElem?_eq_some_iff.1 h3).1 (by simp; omega)).trans h3
          have h4 := (hBd.block s (Array.getElem?_eq_some_iff.1 h4).1 (by simp; omega)).trans h4
          have ea0 := ea1.out
          have eb0 := eb1.out
          have hm : val la % val lb ≠ 0 := by rw [← ey.out]; exact hyh.out
          have hq : IsInt n wc (.agg #[.bool nz1, .slice az1 lz1.length cz1]) (a / b) := by
            refine IsInt.of_le (hi1.cast ?_) ha aq
            rw [ex.out, ea0, eb0]
            simp only [sgn, if_true]
            exact (dm_neg1 pb hm).1.symm
          have hr : IsInt m wc (.agg #[.bool nz2, .slice az2 lz2.length cz2]) (a % b) := by
            refine IsInt.of_le (hi2.cast ?_) hb ar
            rw [ey.out, ea0, eb0]
            simp only [sgn, if_true]
            exact (dm_neg1 pb hm).2.symm
          clear ea0 eb0 hm
          replace hE := hEd
          replace kg := kg'
          replace kh := kh'
          clear Cg0 Gg0 Cg1 Gg1 Ch0 Gh0 Ch1 Gh1
          have hbx1 : Box wc r := Box.mk h3 rfl
          have hbx2 : Box wc s := Box.mk h4 rfl
          go_wp2_with (first | fail)
          have hbxr : Box _ r := Box.mk h3 rfl
          obtain ⟨Rr0, Fr0⟩ := rulesR (rs := [r, s]) h3 (by simp) 0 (by simp)
          obtain ⟨Rr1, Fr1⟩ := rulesR (rs := [r, s]) h3 (by simp) 1 (by simp)
          have hbxs : Box _ s := Box.mk h4 rfl
          obtain ⟨Rs0, Fs0⟩ := rulesR (rs := [r, s]) h4 (by simp) 0 (by simp)
          obtain ⟨Rs1, Fs1⟩ := rulesR (rs := [r, s]) h4 (by simp) 1 (by simp)
          have Rg0 := rulesB (rs := [r, s]) kg (by simp; omega) 0 _ rfl
          have Rg1 := rulesB (rs := [r, s]) kg (by simp; omega) 1 _ rfl
          have Rh0 := rulesB (rs := [r, s]) kh (by simp; omega) 0 _ rfl
          have Rh1 := rulesB (rs := [r, s]) kh (by simp; omega) 1 _ rfl
          have hB : But [r, s] wc wc := by exact buttI
          go_region_held3 (fun w' => But [r, s] wc w') (exact buttI) (first | fail)
          go_wp2
          have hW : But [r, s] wc ((((World.setCell wc ⟨r, 0, none⟩ (.bool nz1)).setCell ⟨r, 1, none⟩ (.slice az1 lz1.length cz1)).setCell ⟨s, 0, none⟩ (.bool nz2)).setCell ⟨s, 1, none⟩ (.slice az2 lz2.length cz2)) := by exact buttI
          have hB2 : But [r, s] wc ((World.setCell wc ⟨r, 0, none⟩ (.bool nz1)).setCell ⟨r, 1, none⟩ (.slice az1 lz1.length cz1)) := by exact buttI
          exact bodyPost_ret (v := .tuple #[.agg #[.bool nz1, .slice az1 lz1.length cz1], .agg #[.bool nz2, .slice az2 lz2.length cz2], .int .i64 0]) (by simp [results, Tryz.results148, go_sem, Rr0 _ hB, Rr1 _ hB, Rs0 _ hB, Rs1 _ hB, hrs, Ne.symm hrs]) rfl ⟨_, _, rfl, IsInt.dr (IsInt.put (IsInt.put hq hB (by simp) rfl) hB2 (by simp) rfl), IsInt.dr (IsInt.put (IsInt.put hr hB (by simp) rfl) hB2 (by simp) rfl), hW.dr.old hE hge⟩
end Go.Proofs.YtechjiiijiipdaaGreatDoor
namespace Go.Proofs.YtechjiiijiipdaaGreatDoor
open Go.RowKit
set_option linter.unusedSimpArgs false
set_option linter.unusedVariables false
/-- The number that a slice shows: a measure for loops over slices. -/
def readS (w : World) (v : Value) : Nat :=
  match v with
  | .slice (some ⟨b, o, none⟩) n _ => val ((List.range n).map fun i => match w.cell? ⟨b, o + i, none⟩ with
    | some (.int _ d) => d.toNat
    | _ => 0)
  | _ => 0
theorem readS_of {w : World} {v : Value} {l : List Nat} (hu : U32s w v l) : readS w v = val l := by
  obtain ⟨ad, c', rfl, _, _, _, _, hcell⟩ := hu
  unfold readS
  rcases hcell with rfl | ⟨b, o, rfl, hlt, hcell⟩
  · simp only [List.length_nil]
    split
    · rename_i heq
      cases heq
      rfl
    · rfl
  · simp only
    congr 1
    apply List.ext_getElem
    · simp
    · intro i h1 h2
      simp only [List.getElem_map, List.getElem_range]
      rw [hcell i h2]
      simp [List.getD_eq_getElem?_getD, h2]
theorem gcd_rest {x y g : Nat} (h : Nat.gcd x y = g) : Nat.gcd y (x % y) = g := by
  rw [Nat.gcd_comm y, ← Nat.gcd_rec, Nat.gcd_comm, h]
attribute [local irreducible] IsInt U32s Dig Norm Own
set_option maxRecDepth 100000 in
set_option maxHeartbeats 4000000 in
theorem ref01_GCD (n : Nat) (w : World) (va vb : Value) (a b : Int) (ha : IsInt n w va a) (hb : IsInt n w vb b) (hn : n < 300000) :
    Calls Tryz.prog 165 #[va, vb] w fun e w' => ∃ v, e = .returned v ∧ IsInt (max n 3) w' v (Nat.gcd a.natAbs b.natAbs : Nat) ∧ Ext w w' := by
  obtain ⟨na, aa, la, ca, rfl, ua, da, nna, lna, sa, qa, _⟩ := IsInt.shape ha; have ea := Lib.hid qa; clear qa
  obtain ⟨nb, ab, lb, cb, rfl, ub, db, nnb, lnb, sb, qb, _⟩ := IsInt.shape hb; have eb := Lib.hid qb; clear qb
  obtain ⟨G, hG⟩ : ∃ G, Nat.gcd a.natAbs b.natAbs = G := ⟨_, rfl⟩
  have hG0 : Nat.gcd (val la) (val lb) = G := by rw [← hG, ea.out, eb.out, sgn_natAbs, sgn_natAbs]
  rw [hG]
  have HG := Lib.hid hG0
  clear hG hG0
  go_enter Tryz.func165, Tryz.ntmps165
  go_upto_region 1 with (first | fail)
  obtain ⟨w3, p, q, r, e1, e2, e3, e4, h1, h2, h3, hpq, hpr, hqr, hE⟩ := box3 w (.cells #[.bool na, .slice aa la.length ca] 53) (.cells #[.bool nb, .slice ab lb.length cb] 53) (.cells #[.bool false, .slice none 0 0] 53)
  rw [e1, e2, e3, e4]
  have hr0 : w.heap.size ≤ r := by omega
  clear e1 e2 e3 e4
  obtain ⟨Cp0, Gp0⟩ := cell_of h1 0 _ rfl
  obtain ⟨Cp1, Gp1⟩ := cell_of h1 1 _ rfl
  obtain ⟨Cq0, Gq0⟩ := cell_of h2 0 _ rfl
  obtain ⟨Cq1, Gq1⟩ := cell_of h2 1 _ rfl
  obtain ⟨Rr0, Fr0⟩ := rules h3 0 _ rfl
  obtain ⟨Rr1, Fr1⟩ := rules h3 1 _ rfl
  go_quiet (fail)
  go_wp2
  go_loopw [5, 6] (fun x y w' => ∃ (X Y : List Nat), U32s w' x X ∧ U32s w' y Y ∧ Dig X ∧ Dig Y ∧ Hid (Norm X) ∧ Hid (Norm Y) ∧ X.length ≤ n ∧ Y.length ≤ n ∧ Hid (Nat.gcd (val X) (val Y) = G) ∧ Ext w3 w') (fun _ y w' => readS w' y)
  case atStart => exact ⟨la, lb, ua.ext (by exact exttI), ub.ext (by exact exttI), da, db, Lib.hid nna, Lib.hid nnb, lna, lnb, HG, by exact exttI⟩
  case round =>
    obtain ⟨X, Y, hX, hY, dX, dY, nX, nY, lX, lY, hg, hEr⟩ := hrel
    obtain ⟨aX, cX, rfl, hcX, _⟩ := hX.shape
    obtain ⟨aY, cY, rfl, hcY, _⟩ := hY.shape
    by_cases hy : Y = []
    · subst hy
      have hx := Lib.hid (show val X = G by rw [← hg.out]; simp [val])
      clear hg
      go_wp2_with ((go_at_call 95; refine (ref01_signed _ _ _ _ (by exact (hX.ext (by exact exttI))) (by exact dX)).mono ?_; rintro e w5 ⟨vz, rfl, hz, hEz⟩; obtain ⟨nz, az, kz, cz, rfl⟩ := IsInt.form hz); have hXw5 := (show Ext w3 w5 by exact exttI))
      have hE9 : Ext w w5 := by exact exttI
      have k9 := hXw5.blk h3
      have hbx : Box w5 r := Box.mk k9 rfl
      have hB : But [r] w5 w5 := by exact buttI
      have hBr0 := Rr0 _ hXw5
      have hBr1 := Rr1 _ hXw5
      exact bodyPost_ret (v := .agg #[.bool nz, .slice az kz cz]) (by simp [results, Tryz.results165, go_sem, hBr0, hBr1]) rfl ⟨_, rfl, IsInt.put ((hz.mono (by omega)).cast (by rw [hx.out]; simp [sgn])) hB (by simp) rfl, ((hB.set _ _ rfl (by simp)).set _ _ rfl (by simp)).old hE9 (by simp; omega)⟩
    · have y1 : 0 < Y.length := List.length_pos_iff.2 hy
      have y1' : (0 : Int) < (Y.length : Int) := by omega
      have hyp := Lib.hid (nY.out.pos hy)
      by_cases hbig : 2 < X.length ∨ 2 < Y.length
      · by_cases hX2 : 2 < X.length
        · have d1 : decide ((2 : Int) < (X.length : Int)) = true := by simp; omega
          go_wp2_with (go_at_call 201; refine (ref01_parts _ _ _ X Y (hX.ext (by exact exttI)) (hY.ext (by exact exttI)) dX dY nY.out hy (by omega) (by omega)).mono ?_; rintro e w5 ⟨vq, vt, q, t, rfl, uq, ut, dq, dt, nq, nt, yq, yt, zq, zt, hEq⟩; have eq := Lib.hid yq; clear yq; have et := Lib.hid yt; clear yt)
          go_roundw
          case rel => exact ⟨Y, t, hY.ext (by exact exttI), ut, dY, dt, nY, Lib.hid nt, lY, by omega, Lib.hid (by rw [et.out]; exact gcd_rest hg.out), by exact exttI⟩
          case measure => rw [readS_of hY, readS_of ut, et.out]; exact Nat.mod_lt _ hyp.out
        · have hY2 : 2 < Y.length := by omega
          have d1 : decide ((2 : Int) < (X.length : Int)) = false := by simp; omega
          have d2 : decide ((2 : Int) < (Y.length : Int)) = true := by simp; omega
          go_wp2_with (go_at_call 201; refine (ref01_parts _ _ _ X Y (hX.ext (by exact exttI)) (hY.ext (by exact exttI)) dX dY nY.out hy (by omega) (by omega)).mono ?_; rintro e w5 ⟨vq, vt, q, t, rfl, uq, ut, dq, dt, nq, nt, yq, yt, zq, zt, hEq⟩; have eq := Lib.hid yq; clear yq; have et := Lib.hid yt; clear yt)
          go_roundw
          case rel => exact ⟨Y, t, hY.ext (by exact exttI), ut, dY, dt, nY, Lib.hid nt, lY, by omega, Lib.hid (by rw [et.out]; exact gcd_rest hg.out), by exact exttI⟩
          case measure => rw [readS_of hY, readS_of ut, et.out]; exact Nat.mod_lt _ hyp.out
      · have hX2 : X.length ≤ 2 := by omega
        have hY2 : Y.length ≤ 2 := by omega
        have d1 : decide ((2 : Int) < (X.length : Int)) = false := by simp; omega
        have d2 : decide ((2 : Int) < (Y.length : Int)) = false := by simp; omega
        have hA : val X < 1000000000000000000 := by
          have h3 := val_lt dX
          have h4 : 1000000000 ^ X.length ≤ 1000000000 ^ 2 := Nat.pow_le_pow_right (by omega) hX2
          omega
        have hB : val Y < 1000000000000000000 := by
          have h3 := val_lt dY
          have h4 : 1000000000 ^ Y.length ≤ 1000000000 ^ 2 := Nat.pow_le_pow_right (by omega) hY2
          omega
        have HA := Lib.hid hA
        have HB := Lib.hid hB
        have S1 := Lib.hid (fun w1 (h : Ext wr w1) => ref01_short w1 _ X (hX.ext h) dX hX2)
        have S2 := Lib.hid (fun w1 (h : Ext wr w1) => ref01_short w1 _ Y (hY.ext h) dY hY2)
        clear hA hB hyp
        go_upto_region 8 with (go_at_call 174; first | ((with_reducible refine (S1.out _ (by exact exttI)).mono ?_); rintro e w5 ⟨rfl, hE5⟩) | ((with_reducible refine (S2.out _ (by exact exttI)).mono ?_); rintro e w6 ⟨rfl, hE6⟩))
        clear d1 d2 S1 S2 hX hY dX dY nX nY hcX hcY
        have hE36 : Ext w3 w6 := by exact exttI
        clear hEr hE5 hE6
        go_loopw [9, 10] (fun u v w' => ∃ x y : Nat, u = .int .u64 x ∧ v = .int .u64 y ∧ Hid (x < 1000000000000000000) ∧ Hid (y < 1000000000000000000) ∧ Hid (Nat.gcd x y = G) ∧ Ext w3 w') (fun _ v _ => (intOf v).toNat)
        case atStart => exact ⟨val X, val Y, rfl, rfl, HA, HB, hg, hE36⟩
        case round =>
          clear hE36
          obtain ⟨x, y, rfl, rfl, hxb, hyb, hg2, hE7⟩ := hrel
          by_cases hy0 : y = 0
          · subst hy0
            have hx := Lib.hid (show x = G by rw [← hg2.out]; simp)
            have hll := limbs_len 3 x (by have := hxb.out; omega)
            clear hg2
            go_wp2_with (first | (go_at_call 99; refine (limbs_at _ x _ rfl (by have := hxb.out; omega)).mono ?_; rintro e w8 ⟨v8, rfl, hv8, hE8⟩) | ((go_at_call 95; refine (ref01_signed _ _ _ _ (by exact (hv8.ext (by exact exttI))) (by exact (dig_limbs x))).mono ?_; rintro e w9 ⟨vz, rfl, hz, hEz⟩; obtain ⟨nz, az, kz, cz, rfl⟩ := IsInt.form hz); have hXw9 := (show Ext w3 w9 by exact exttI)))
            have hE9 : Ext w w9 := by exact exttI
            have k9 := hXw9.blk h3
            have hbx : Box w9 r := Box.mk k9 rfl
            have hB : But [r] w9 w9 := by exact buttI
            have hBr0 := Rr0 _ hXw9
            have hBr1 := Rr1 _ hXw9
            exact bodyPost_ret (v := .agg #[.bool nz, .slice az kz cz]) (by simp [results, Tryz.results165, go_sem, hBr0, hBr1]) rfl ⟨_, rfl, IsInt.put ((hz.mono (by omega)).cast (by rw [val_limbs, hx.out]; simp [sgn])) hB (by simp) rfl, ((hB.set _ _ rfl (by simp)).set _ _ rfl (by simp)).old hE9 (by simp; omega)⟩
          · have y1 : 0 < y := by omega
            have zz1 : (x : Int) % (y : Int) = ((x % y : Nat) : Int) := by simp
            have zz2 : Int.tmod (x : Int) (y : Int) = ((x % y : Nat) : Int) := by rw [Int.tmod_eq_emod_of_nonneg (by omega)]; simp
            have hm := Nat.mod_lt x y1
            have hgn := Lib.hid (gcd_rest hg2.out)
            have yz : ((y : Int) == 0) = false := beq_eq_false_iff_ne.2 (by omega)
            have yz2 : ¬ (y : Int) = 0 := by omega
            have dy : decide ((0 : Int) < (y : Int)) = true := by simp; omega
            clear hg2
            generalize x % y = t at *
            go_upto_region 9 with (fail)
            go_quiet (fail)
            go_wp2
            go_roundw
            case rel => exact ⟨y, t, rfl, rfl, hyb, Lib.hid (by have := hyb.out; omega), hgn, by exact exttI⟩
            case measure => simp only [intOf]; omega
end Go.Proofs.YtechjiiijiipdaaGreatDoor
namespace Go.Proofs.YtechjiiijiipdaaGreatDoor
open Go.RowKit
set_option linter.unusedSimpArgs false
set_option linter.unusedVariables false
attribute [local irreducible] IsInt U32s Dig Norm Own IsRat
set_option maxRecDepth 100000 in
set_option maxHeartbeats 1000000 in
theorem ref02_FromInt (n : Nat) (w : World) (va : Value) (a : Int) (ha : IsInt n w va a) :
    Calls Tryz.prog 38 #[va] w fun e w' => ∃ v, e = .returned v ∧ IsRat (max n 3) w' v (a : Rat) ∧ Ext w w' := by
  obtain ⟨ni, ai, ki, ci, rfl⟩ := IsInt.form ha
  go_enter Tryz.func38, Tryz.ntmps38
  go_upto_region 1 with (fail)
  obtain ⟨w3, p, r, e1, e2, e3, h1, h2, hpr, hE⟩ := box2 w (.cells #[.bool ni, .slice ai ki ci] 53) (.cells #[.bool false, .slice none 0 0, .bool false, .slice none 0 0] 55)
  rw [e1, e2, e3]
  have hr0 : w.heap.size ≤ r := by omega
  clear e1 e2 e3
  have Rp0 := rulesB (rs := [r]) h1 (by simpa using hpr) 0 _ rfl
  have Rp1 := rulesB (rs := [r]) h1 (by simpa using hpr) 1 _ rfl
  have hbxr : Box _ r := Box.mk h2 rfl
  obtain ⟨Rr0, Fr0⟩ := rulesR (rs := [r]) h2 (by simp) 0 (by simp)
  obtain ⟨Rr1, Fr1⟩ := rulesR (rs := [r]) h2 (by simp) 1 (by simp)
  obtain ⟨Rr2, Fr2⟩ := rulesR (rs := [r]) h2 (by simp) 2 (by simp)
  obtain ⟨Rr3, Fr3⟩ := rulesR (rs := [r]) h2 (by simp) 3 (by simp)
  have hi0 := ha.ext hE
  go_region_held3 (fun w' => But [r] w3 w') (exact buttI) (first | ((go_at_call 98; refine (ref02_unit _).mono ?_; rintro e w6 ⟨vx, rfl, hx, hEx⟩; obtain ⟨nx, ax, kx, cx, rfl⟩ := IsInt.form hx); have hX6 := (show Ext w3 w6 by exact exttI)))
  go_wp2
  have hB : But [r] w3 w6 := by exact buttI
  have hBr0 := Rr0 _ hB
  have hBr1 := Rr1 _ hB
  have hBr2 := Rr2 _ hB
  have hBr3 := Rr3 _ hB
  have hFr0 := Fr0 _ hB
  have hFr1 := Fr1 _ hB
  have hFr2 := Fr2 _ hB
  have hFr3 := Fr3 _ hB
  have hE9 := hE
  have hi1 := (hi0.ext hX6).mono (Nat.le_max_left n 3)
  have hx1 := hx.mono (Nat.le_max_right n 3)
  exact bodyPost_ret (v := .agg #[.bool ni, .slice ai ki ci, .bool nx, .slice ax kx cx]) (by simp [results, Tryz.results38, go_sem, hBr0, hBr1, hBr2, hBr3]) rfl ⟨_, rfl, IsRat.put4 hB (by simp) (IsRat.whole hi1 hx1), (((((hB.set _ _ rfl (by simp)).set _ _ rfl (by simp)).set _ _ rfl (by simp)).set _ _ rfl (by simp)).old hE9 (by simp; omega))⟩
end Go.Proofs.YtechjiiijiipdaaGreatDoor
namespace Go.Proofs.YtechjiiijiipdaaGreatDoor
open Go.RowKit
set_option linter.unusedSimpArgs false
set_option linter.unusedVariables false
attribute [local irreducible] IsInt U32s Dig Norm Own
set_option maxRecDepth 100000 in
set_option maxHeartbeats 2000000 in
theorem ref02_Of (n : Nat) (w : World) (va vb : Value) (a b : Int) (ha : IsInt n w va a) (hb : IsInt n w vb b) (hn : n < 200000) (h0 : b ≠ 0) :
    Calls Tryz.prog 111 #[va, vb] w fun e w' => ∃ v, e = .returned v ∧ IsRat n w' v (Rat.divInt a b) ∧ Ext w w' := by
  obtain ⟨na, aa, ka, ca, rfl⟩ := IsInt.form ha
  obtain ⟨nb, ab, kb, cb, rfl⟩ := IsInt.form hb
  go_enter Tryz.func111, Tryz.ntmps111
  go_upto_region 1 with (fail)
  obtain ⟨w3, p, q, r, e1, e2, e3, e4, h1, h2, h3, hpq, hpr, hqr, hE⟩ := box3 w (.cells #[.bool na, .slice aa ka ca] 53) (.cells #[.bool nb, .slice ab kb cb] 53) (.cells #[.bool false, .slice none 0 0, .bool false, .slice none 0 0] 55)
  rw [e1, e2, e3, e4]
  have hp0 : w.heap.size ≤ p := by omega
  have hq0 : w.heap.size ≤ q := by omega
  have hr0 : w.heap.size ≤ r := by omega
  clear e1 e2 e3 e4
  obtain ⟨Cp0, Gp0⟩ := cell_of h1 0 _ rfl
  obtain ⟨Cp1, Gp1⟩ := cell_of h1 1 _ rfl
  obtain ⟨Cq0, Gq0⟩ := cell_of h2 0 _ rfl
  obtain ⟨Cq1, Gq1⟩ := cell_of h2 1 _ rfl
  go_upto_if 14 with (go_at_call 164; refine (ref01_Sign _ _ _ _ (hb.ext hE)).mono ?_; rintro e w5 ⟨rfl, hE5⟩)
  replace h1 := hE5.blk h1
  replace h2 := hE5.blk h2
  replace h3 := hE5.blk h3
  replace hE := hE.trans' hE5
  clear hE5 Cp0 Gp0 Cp1 Gp1 Cq0 Gq0 Cq1 Gq1
  go_cut [] (fun w' => ∃ (nc : Bool) (ac : Option Addr) (kc cc : Nat) (nd : Bool) (ad : Option Addr) (kd cd : Nat) (A B : Int), w'.heap[p]? = some (.cells #[.bool nc, .slice ac kc cc] 53) ∧ w'.heap[q]? = some (.cells #[.bool nd, .slice ad kd cd] 53) ∧ w'.heap[r]? = some (.cells #[.bool false, .slice none 0 0, .bool false, .slice none 0 0] 55) ∧
      IsInt n w' (.agg #[.bool nc, .slice ac kc cc]) A ∧ IsInt n w' (.agg #[.bool nd, .slice ad kd cd]) B ∧ 0 < B ∧ Hid (Rat.divInt A B = Rat.divInt a b) ∧ Ext w w')
  case first =>
    by_cases hb1 : b < 0
    · have hs : decide (b.sign < 0) = true := by rw [Int.sign_eq_neg_one_of_neg hb1]; rfl
      have ha5 := ha.ext hE
      have hb5 := hb.ext hE
      obtain ⟨Rp0, Fp0⟩ := rules h1 0 _ rfl
      obtain ⟨Rp1, Fp1⟩ := rules h1 1 _ rfl
      obtain ⟨Rq0, Fq0⟩ := rules h2 0 _ rfl
      obtain ⟨Rq1, Fq1⟩ := rules h2 1 _ rfl
      go_wp2_with (first | fail)
      (refine wp_region_noPanic ?_; refine wp_region_head 4 (fun w' => Ext w5 w') (by kernel_rfl) (by kernel_rfl) ?_ (fun hHeld => ?_); (focus (show Ext _ _; exact exttI)); (try simp only [List.size_toArray, List.length_cons, List.length_nil]))
      (refine wpHead_take 0 (by kernel_rfl) (fun _ _ _ _ _ h => h) (by assumption) ?_; simp only [atOp]; refine ⟨by rfl, ?_, ?_, ?_⟩; rotate_left; (focus (intro w' hSw; (try dsimp only at hSw); go_simp; (try with_reducible rfl))); (try simp only [Act.put, List.setIfInBounds_toArray, List.set_cons_zero, List.set_cons_succ]))
      (refine wpHead_take 2 (by kernel_rfl) (fun _ _ _ _ _ h => h) (by assumption) ?_; simp only [atOp]; refine ⟨by rfl, ?_, ?_, ?_⟩; rotate_left; (focus (intro w' hSw; (try dsimp only at hSw); go_simp; (try with_reducible rfl))); (try simp only [Act.put, List.setIfInBounds_toArray, List.set_cons_zero, List.set_cons_succ]))
      (refine wpHead_only 1 (by kernel_rfl) ?_; simp only [atOp]; intro K hK; go_simp; ((go_at_call 35; refine (ref01_Neg _ _ _ _ (ha5.ext (by exact exttI))).mono ?_; rintro e w6 ⟨vx, rfl, hx, hEx⟩; obtain ⟨nx, ax, kx, cx, rfl⟩ := IsInt.form hx); have hX6 := (show Ext w5 w6 by exact exttI)); refine hK.out _ _ ?_ (fun hHeld => ?_); (focus (show Ext _ _; exact exttI)); clear hK K; (try simp only [Act.put, List.setIfInBounds_toArray, List.set_cons_zero, List.set_cons_succ]))
      (refine wpHead_only 3 (by kernel_rfl) ?_; simp only [atOp]; intro K hK; go_simp; ((go_at_call 35; refine (ref01_Neg _ _ _ _ (hb5.ext (by exact exttI))).mono ?_; rintro e w7 ⟨vy, rfl, hy, hEy⟩; obtain ⟨ny, ay, ky, cy, rfl⟩ := IsInt.form hy); have hX7 := (show Ext w5 w7 by exact exttI)); refine hK.out _ _ ?_ (fun hHeld => ?_); (focus (show Ext _ _; exact exttI)); clear hK K; (try simp only [Act.put, List.setIfInBounds_toArray, List.set_cons_zero, List.set_cons_succ]))
      (refine wpHead_done (by kernel_rfl) ?_; simp only [List.drop_succ_cons, List.drop_zero])
      replace h1 := hX7.blk h1
      replace h2 := hX7.blk h2
      replace h3 := hX7.blk h3
      replace hE := hE.trans' hX7
      replace hx := hx.ext hEy
      clear Rp0 Fp0 Rp1 Fp1 Rq0 Fq0 Rq1 Fq1
      obtain ⟨Cp0, Gp0⟩ := cell_of h1 0 _ rfl
      obtain ⟨Cp1, Gp1⟩ := cell_of h1 1 _ rfl
      obtain ⟨Cq0, Gq0⟩ := cell_of h2 0 _ rfl
      obtain ⟨Cq1, Gq1⟩ := cell_of h2 1 _ rfl
      go_wp2_with fail
      refine NoPanic.normal ?_
      go_wp2_with fail
      go_meet
      exact ⟨nx, ax, kx, cx, ny, ay, ky, cy, -a, -b, by exact heaptI, by exact heaptI, put2_far (put2_far h3 (by omega)) (by omega), by exact inttI, by exact inttI, by omega, Lib.hid (Rat.divInt_neg' a b), by exact exttI⟩
    · have hs : decide (b.sign < 0) = false := by rw [Int.sign_eq_one_of_pos (by omega)]; rfl
      go_wp2_with (first | fail)
      go_meet
      exact ⟨na, aa, ka, ca, nb, ab, kb, cb, a, b, h1, h2, h3, ha.ext hE, hb.ext hE, by omega, rfl, hE⟩
  case rest =>
    clear ha hb h0 hE h1 h2 h3
    obtain ⟨nc, ac, kc, cc, nd, ad, kd, cd, A, B, h1, h2, h3, hc, hd, h0, hAB, hE⟩ := hcut
    obtain ⟨Cp0, Gp0⟩ := cell_of h1 0 _ rfl
    obtain ⟨Cp1, Gp1⟩ := cell_of h1 1 _ rfl
    obtain ⟨Cq0, Gq0⟩ := cell_of h2 0 _ rfl
    obtain ⟨Cq1, Gq1⟩ := cell_of h2 1 _ rfl
    go_upto_region 4 with ((go_at_call 165; refine (ref01_GCD _ _ _ _ _ _ hc hd (by omega)).mono ?_; rintro e w6 ⟨vg, rfl, hg, hEg⟩; obtain ⟨ng, ag, kg, cg, rfl⟩ := IsInt.form hg))
    obtain ⟨w7, s, f1, f2, k4, hE7⟩ := box1 w6 (.cells #[.bool ng, .slice ag kg cg] 53)
    rw [f1, f2]
    have hs0 : w.heap.size ≤ s := by have := hE.size; have := hEg.size; omega
    clear f1 f2
    have hX7 := hEg.trans' hE7
    replace h1 := hX7.blk h1
    replace h2 := hX7.blk h2
    replace h3 := hX7.blk h3
    replace hE := hE.trans' hX7
    replace hg := hg.ext hE7
    replace hc := hc.ext hX7
    replace hd := hd.ext hX7
    have gpos : 0 < Int.gcd A B := Int.gcd_pos_of_ne_zero_right _ (by omega)
    replace hg := hg.cast (show ((Nat.gcd A.natAbs B.natAbs : Nat) : Int) = (Int.gcd A B : Nat) from rfl)
    have gpos' : (0 : Int) < ((Int.gcd A B : Nat) : Int) := by omega
    clear hEg hE7 hX7 Cp0 Gp0 Cp1 Gp1 Cq0 Gq0 Cq1 Gq1
    obtain ⟨Cp0, Gp0⟩ := cell_of h1 0 _ rfl
    obtain ⟨Cp1, Gp1⟩ := cell_of h1 1 _ rfl
    obtain ⟨Cs0, Gs0⟩ := cell_of k4 0 _ rfl
    obtain ⟨Cs1, Gs1⟩ := cell_of k4 1 _ rfl
    go_upto_region 5 with ((go_at_call 148; refine (ref01_DivMod _ _ _ _ _ _ _ hc hg (by omega) (by omega) gpos').mono ?_; rintro e w8 ⟨vx, vy, rfl, hx, hy, hEx⟩; obtain ⟨nx, ax, kx, cx, rfl⟩ := IsInt.form hx; obtain ⟨ny, ay, ky, cy, rfl⟩ := IsInt.form hy))
    obtain ⟨w9, t1, t2, f1, f2, f3, j1, j2, jne, hE9⟩ := box2 w8 (.cells #[.bool nx, .slice ax kx cx] 53) (.cells #[.bool ny, .slice ay ky cy] 53)
    rw [f1, f2, f3]
    clear f1 f2 f3 Cp0 Gp0 Cp1 Gp1 Cs0 Gs0 Cs1 Gs1
    have hX9 := hEx.trans' hE9
    replace h2 := hX9.blk h2
    replace h3 := hX9.blk h3
    replace k4 := hX9.blk k4
    replace hx := hx.ext hE9
    replace hd := hd.ext hX9
    replace hg := hg.ext hX9
    replace hE := hE.trans' hX9
    clear hX9 hE9 hEx hy hc h1 j2
    obtain ⟨Cq0, Gq0⟩ := cell_of h2 0 _ rfl
    obtain ⟨Cq1, Gq1⟩ := cell_of h2 1 _ rfl
    obtain ⟨Cs0, Gs0⟩ := cell_of k4 0 _ rfl
    obtain ⟨Cs1, Gs1⟩ := cell_of k4 1 _ rfl
    go_upto_region 6 with ((go_at_call 148; refine (ref01_DivMod _ _ _ _ _ _ _ hd hg (by omega) (by omega) gpos').mono ?_; rintro e wa ⟨vu, vv, rfl, hu, hv, hEu⟩; obtain ⟨nu, au, ku, cu, rfl⟩ := IsInt.form hu; obtain ⟨nv, av, kv, cv, rfl⟩ := IsInt.form hv))
    obtain ⟨wb, t3, t4, f1, f2, f3, m1, m2, mne, hEb⟩ := box2 wa (.cells #[.bool nu, .slice au ku cu] 53) (.cells #[.bool nv, .slice av kv cv] 53)
    rw [f1, f2, f3]
    clear f1 f2 f3 Cq0 Gq0 Cq1 Gq1 Cs0 Gs0 Cs1 Gs1
    have hXb := hEu.trans' hEb
    replace h3 := hXb.blk h3
    replace j1 := hXb.blk j1
    have hi1 := (hx.ext hXb).cast (show _ = (Rat.divInt a b).num by rw [← hAB.out, divInt_num_pos _ _ h0])
    have hi2 := (hu.ext hEb).cast (show _ = ((Rat.divInt a b).den : Int) by rw [← hAB.out, divInt_den_pos _ _ h0])
    have hE9 := hE.trans' hXb
    clear hXb hEb hEu hv hx hu hd hg h2 k4 m2 hE
    obtain ⟨Ct10, Gt10⟩ := cell_of j1 0 _ rfl
    obtain ⟨Ct11, Gt11⟩ := cell_of j1 1 _ rfl
    obtain ⟨Ct30, Gt30⟩ := cell_of m1 0 _ rfl
    obtain ⟨Ct31, Gt31⟩ := cell_of m1 1 _ rfl
    have hbxr : Box _ r := Box.mk h3 rfl
    obtain ⟨Rr0, Fr0⟩ := rulesR (rs := [r]) h3 (by simp) 0 (by simp)
    obtain ⟨Rr1, Fr1⟩ := rulesR (rs := [r]) h3 (by simp) 1 (by simp)
    obtain ⟨Rr2, Fr2⟩ := rulesR (rs := [r]) h3 (by simp) 2 (by simp)
    obtain ⟨Rr3, Fr3⟩ := rulesR (rs := [r]) h3 (by simp) 3 (by simp)
    have hB : But [r] wb wb := by exact buttI
    have hBr0 := Rr0 _ hB
    have hBr1 := Rr1 _ hB
    have hBr2 := Rr2 _ hB
    have hBr3 := Rr3 _ hB
    have hFr0 := Fr0 _ hB
    have hFr1 := Fr1 _ hB
    have hFr2 := Fr2 _ hB
    have hFr3 := Fr3 _ hB
    go_wp2_with (first | fail)
    exact bodyPost_ret (v := .agg #[.bool nx, .slice ax kx cx, .bool nu, .slice au ku cu]) (by simp [results, Tryz.results111, go_sem, hBr0, hBr1, hBr2, hBr3]) rfl ⟨_, rfl, IsRat.put4 hB (by simp) ⟨_, _, _, _, _, _, _, _, rfl, hi1, hi2⟩, (((((hB.set _ _ rfl (by simp)).set _ _ rfl (by simp)).set _ _ rfl (by simp)).set _ _ rfl (by simp)).old hE9 (by simp; omega))⟩
end Go.Proofs.YtechjiiijiipdaaGreatDoor
namespace Go.Proofs.YtechjiiijiipdaaGreatDoor
open Go.RowKit
set_option linter.unusedSimpArgs false
set_option linter.unusedVariables false
attribute [local irreducible] IsInt U32s Dig Norm Own IsRat
set_option maxRecDepth 100000 in
set_option maxHeartbeats 1000000 in
theorem ref02_Mul (n m : Nat) (w : World) (va vb : Value) (a b : Rat) (ha : IsRat n w va a) (hb : IsRat m w vb b) (hn : n + m < 200000) :
    Calls Tryz.prog 47 #[va, vb] w fun e w' => ∃ v, e = .returned v ∧ IsRat (n + m) w' v (a * b) ∧ Ext w w' := by
  obtain ⟨na, aa, ka, ca, nb, ab, kb, cb, rfl, ha, hb'⟩ := ha.form
  obtain ⟨nc, ac, kc, cc, nd, ad, kd, cd, rfl, hc, hd⟩ := hb.form
  clear hb
  have hb := hb'
  go_enter Tryz.func47, Tryz.ntmps47
  go_upto_region 1 with (fail)
  obtain ⟨w3, p, q, r, e1, e2, e3, e4, h1, h2, h3, hpq, hpr, hqr, hE⟩ := box3 w (.cells #[.bool na, .slice aa ka ca, .bool nb, .slice ab kb cb] 55) (.cells #[.bool nc, .slice ac kc cc, .bool nd, .slice ad kd cd] 55) (.cells #[.bool false, .slice none 0 0, .bool false, .slice none 0 0] 55)
  rw [e1, e2, e3, e4]
  have hr0 : w.heap.size ≤ r := by omega
  clear e1 e2 e3 e4
  obtain ⟨Rp0, _⟩ := rules h1 0 _ rfl
  obtain ⟨Rp1, _⟩ := rules h1 1 _ rfl
  obtain ⟨Rp2, _⟩ := rules h1 2 _ rfl
  obtain ⟨Rp3, _⟩ := rules h1 3 _ rfl
  obtain ⟨Rq0, _⟩ := rules h2 0 _ rfl
  obtain ⟨Rq1, _⟩ := rules h2 1 _ rfl
  obtain ⟨Rq2, _⟩ := rules h2 2 _ rfl
  obtain ⟨Rq3, _⟩ := rules h2 3 _ rfl
  (refine wp_region_noPanic ?_; refine wp_region_head 11 (fun w' => Ext w3 w') (by kernel_rfl) (by kernel_rfl) ?_ (fun hHeld => ?_); (focus (show Ext _ _; exact exttI)); (try simp only [List.size_toArray, List.length_cons, List.length_nil]))
  (refine wpHead_take 0 (by kernel_rfl) (fun _ _ _ _ _ h => h) (by assumption) ?_; simp only [atOp]; refine ⟨by rfl, ?_, ?_, ?_⟩; rotate_left; (focus (intro w' hSw; (try dsimp only at hSw); go_simp; (try with_reducible rfl))); (try simp only [Act.put, List.setIfInBounds_toArray, List.set_cons_zero, List.set_cons_succ]))
  (refine wpHead_take 1 (by kernel_rfl) (fun _ _ _ _ _ h => h) (by assumption) ?_; simp only [atOp]; refine ⟨by rfl, ?_, ?_, ?_⟩; rotate_left; (focus (intro w' hSw; (try dsimp only at hSw); go_simp; (try with_reducible rfl))); (try simp only [Act.put, List.setIfInBounds_toArray, List.set_cons_zero, List.set_cons_succ]))
  (refine wpHead_take 2 (by kernel_rfl) (fun _ _ _ _ _ h => h) (by assumption) ?_; simp only [atOp]; refine ⟨by rfl, ?_, ?_, ?_⟩; rotate_left; (focus (intro w' hSw; (try dsimp only at hSw); go_simp; (try with_reducible rfl))); (try simp only [Act.put, List.setIfInBounds_toArray, List.set_cons_zero, List.set_cons_succ]))
  (refine wpHead_take 3 (by kernel_rfl) (fun _ _ _ _ _ h => h) (by assumption) ?_; simp only [atOp]; refine ⟨by rfl, ?_, ?_, ?_⟩; rotate_left; (focus (intro w' hSw; (try dsimp only at hSw); go_simp; (try with_reducible rfl))); (try simp only [Act.put, List.setIfInBounds_toArray, List.set_cons_zero, List.set_cons_succ]))
  (refine wpHead_take 5 (by kernel_rfl) (fun _ _ _ _ _ h => h) (by assumption) ?_; simp only [atOp]; refine ⟨by rfl, ?_, ?_, ?_⟩; rotate_left; (focus (intro w' hSw; (try dsimp only at hSw); go_simp; (try with_reducible rfl))); (try simp only [Act.put, List.setIfInBounds_toArray, List.set_cons_zero, List.set_cons_succ]))
  (refine wpHead_take 6 (by kernel_rfl) (fun _ _ _ _ _ h => h) (by assumption) ?_; simp only [atOp]; refine ⟨by rfl, ?_, ?_, ?_⟩; rotate_left; (focus (intro w' hSw; (try dsimp only at hSw); go_simp; (try with_reducible rfl))); (try simp only [Act.put, List.setIfInBounds_toArray, List.set_cons_zero, List.set_cons_succ]))
  (refine wpHead_take 7 (by kernel_rfl) (fun _ _ _ _ _ h => h) (by assumption) ?_; simp only [atOp]; refine ⟨by rfl, ?_, ?_, ?_⟩; rotate_left; (focus (intro w' hSw; (try dsimp only at hSw); go_simp; (try with_reducible rfl))); (try simp only [Act.put, List.setIfInBounds_toArray, List.set_cons_zero, List.set_cons_succ]))
  (refine wpHead_take 8 (by kernel_rfl) (fun _ _ _ _ _ h => h) (by assumption) ?_; simp only [atOp]; refine ⟨by rfl, ?_, ?_, ?_⟩; rotate_left; (focus (intro w' hSw; (try dsimp only at hSw); go_simp; (try with_reducible rfl))); (try simp only [Act.put, List.setIfInBounds_toArray, List.set_cons_zero, List.set_cons_succ]))
  (refine wpHead_only 4 (by kernel_rfl) ?_; simp only [atOp]; intro K hK; go_simp; ((go_at_call 112; refine (ref01_Mul _ _ _ _ _ _ _ (ha.ext (by exact exttI)) (hc.ext (by exact exttI)) (by omega) (by omega)).mono ?_; rintro e w5 ⟨vx, rfl, hx, hEx⟩; obtain ⟨nx, ax, kx, cx, rfl⟩ := IsInt.form hx); have hX5 := (show Ext w3 w5 by exact exttI)); refine hK.out _ _ ?_ (fun hHeld => ?_); (focus (show Ext _ _; exact exttI)); clear hK K; (try simp only [Act.put, List.setIfInBounds_toArray, List.set_cons_zero, List.set_cons_succ]))
  (refine wpHead_only 9 (by kernel_rfl) ?_; simp only [atOp]; intro K hK; go_simp; ((go_at_call 112; refine (ref01_Mul _ _ _ _ _ _ _ (hb.ext (by exact exttI)) (hd.ext (by exact exttI)) (by omega) (by omega)).mono ?_; rintro e w6 ⟨vy, rfl, hy, hEy⟩; obtain ⟨ny, ay, ky, cy, rfl⟩ := IsInt.form hy); have hX6 := (show Ext w3 w6 by exact exttI)); refine hK.out _ _ ?_ (fun hHeld => ?_); (focus (show Ext _ _; exact exttI)); clear hK K; (try simp only [Act.put, List.setIfInBounds_toArray, List.set_cons_zero, List.set_cons_succ]))
  (refine wpHead_only 10 (by kernel_rfl) ?_; simp only [atOp]; intro K hK; go_simp; ((go_at_call 111; refine (ref02_Of _ _ _ _ _ _ (hx.ext (by exact exttI)) (hy.ext (by exact exttI)) (by omega) (by have := a.den_pos; have := b.den_pos; exact Int.mul_ne_zero (by omega) (by omega))).mono ?_; rintro e w7 ⟨vz, rfl, hz, hEz⟩; obtain ⟨nzn, azn, kzn, czn, nzd, azd, kzd, czd, rfl, _, _⟩ := IsRat.form hz); have hX7 := (show Ext w3 w7 by exact exttI)); refine hK.out _ _ ?_ (fun hHeld => ?_); (focus (show Ext _ _; exact exttI)); clear hK K; (try simp only [Act.put, List.setIfInBounds_toArray, List.set_cons_zero, List.set_cons_succ]))
  (refine wpHead_done (by kernel_rfl) ?_; simp only [List.drop_succ_cons, List.drop_zero])
  have hE9 : Ext w w7 := by exact exttI
  have k3 := hX7.blk h3
  have hbxr : Box _ r := Box.mk k3 rfl
  obtain ⟨Rr0, Fr0⟩ := rulesR (rs := [r]) k3 (by simp) 0 (by simp)
  obtain ⟨Rr1, Fr1⟩ := rulesR (rs := [r]) k3 (by simp) 1 (by simp)
  obtain ⟨Rr2, Fr2⟩ := rulesR (rs := [r]) k3 (by simp) 2 (by simp)
  obtain ⟨Rr3, Fr3⟩ := rulesR (rs := [r]) k3 (by simp) 3 (by simp)
  have hB : But [r] w7 w7 := by exact buttI
  have hBr0 := Rr0 _ hB
  have hBr1 := Rr1 _ hB
  have hBr2 := Rr2 _ hB
  have hBr3 := Rr3 _ hB
  have hFr0 := Fr0 _ hB
  have hFr1 := Fr1 _ hB
  have hFr2 := Fr2 _ hB
  have hFr3 := Fr3 _ hB
  go_wp2_with fail
  refine NoPanic.normal ?_
  go_wp2_with fail
  exact bodyPost_ret (v := .agg #[.bool nzn, .slice azn kzn czn, .bool nzd, .slice azd kzd czd]) (by simp [results, Tryz.results47, go_sem, hBr0, hBr1, hBr2, hBr3]) rfl ⟨_, rfl, IsRat.put4 hB (by simp) (hz.cast (by rw [← Rat.divInt_mul_divInt, Rat.num_divInt_den, Rat.num_divInt_den])), (((((hB.set _ _ rfl (by simp)).set _ _ rfl (by simp)).set _ _ rfl (by simp)).set _ _ rfl (by simp)).old hE9 (by simp; omega))⟩
set_option maxRecDepth 100000 in
set_option maxHeartbeats 1000000 in
theorem ref02_Make (n : Nat) (w : World) (va vb : Value) (a b : Int) (ha : IsInt n w va a) (hb : IsInt n w vb b) (hn : n < 200000) (h0 : b ≠ 0) :
    Calls Tryz.prog 210 #[va, vb] w fun e w' => ∃ v, e = .returned (.tuple #[v, .int .i64 0]) ∧ IsRat n w' v (Rat.divInt a b) ∧ Ext w w' := by
  obtain ⟨na, aa, ka, ca, rfl⟩ := IsInt.form ha
  obtain ⟨nb, ab, kb, cb, rfl⟩ := IsInt.form hb
  have hs : (b.sign == 0) = false := beq_eq_false_iff_ne.2 (by intro h; exact h0 (Int.sign_eq_zero_iff_zero.1 h))
  have hs2 : ¬ b.sign = 0 := by intro h; exact h0 (Int.sign_eq_zero_iff_zero.1 h)
  go_enter Tryz.func210, Tryz.ntmps210
  go_upto_region 1 with (fail)
  obtain ⟨w3, p, q, r, e1, e2, e3, e4, h1, h2, h3, hpq, hpr, hqr, hE⟩ := box3 w (.cells #[.bool na, .slice aa ka ca] 53) (.cells #[.bool nb, .slice ab kb cb] 53) (.cells #[.bool false, .slice none 0 0, .bool false, .slice none 0 0] 55)
  rw [e1, e2, e3, e4]
  have hr0 : w.heap.size ≤ r := by omega
  clear e1 e2 e3 e4
  obtain ⟨Rp0, Fp0⟩ := rules h1 0 _ rfl
  obtain ⟨Rp1, Fp1⟩ := rules h1 1 _ rfl
  obtain ⟨Rq0, Fq0⟩ := rules h2 0 _ rfl
  obtain ⟨Rq1, Fq1⟩ := rules h2 1 _ rfl
  have hX3 := Ext.rfl' w3
  obtain ⟨Rr0, Fr0⟩ := rules h3 0 _ rfl
  obtain ⟨Rr1, Fr1⟩ := rules h3 1 _ rfl
  obtain ⟨Rr2, Fr2⟩ := rules h3 2 _ rfl
  obtain ⟨Rr3, Fr3⟩ := rules h3 3 _ rfl
  go_wp2_with (first | ((go_at_call 164; refine (ref01_Sign _ _ _ _ (hb.ext (by exact exttI))).mono ?_; rintro e w5 ⟨rfl, hE5⟩); have hXw5 := (show Ext w3 w5 by exact exttI)) | ((go_at_call 111; refine (ref02_Of _ _ _ _ _ _ (ha.ext (by exact exttI)) (hb.ext (by exact exttI)) (by omega) h0).mono ?_; rintro e w6 ⟨vz, rfl, hz, hEz⟩; obtain ⟨nzn, azn, kzn, czn, nzd, azd, kzd, czd, rfl, _, _⟩ := IsRat.form hz); have hXw6 := (show Ext w3 w6 by exact exttI)))
  have hE9 : Ext w w6 := by exact exttI
  have k9 := hXw6.blk h3
  have hbx : Box w6 r := Box.mk k9 rfl
  have hB : But [r] w6 w6 := by exact buttI
  have hBr0 := Rr0 _ hXw6
  have hBr1 := Rr1 _ hXw6
  have hBr2 := Rr2 _ hXw6
  have hBr3 := Rr3 _ hXw6
  exact bodyPost_ret (v := .tuple #[.agg #[.bool nzn, .slice azn kzn czn, .bool nzd, .slice azd kzd czd], .int .i64 0]) (by simp [results, Tryz.results210, go_sem, hBr0, hBr1, hBr2, hBr3]) rfl ⟨_, rfl, IsRat.put4 hB (by simp) hz, (((((hB.set _ _ rfl (by simp)).set _ _ rfl (by simp)).set _ _ rfl (by simp)).set _ _ rfl (by simp)).old hE9 (by simp; omega))⟩
end Go.Proofs.YtechjiiijiipdaaGreatDoor
namespace Go.Proofs.YtechjiiijiipdaaGreatDoor
open Go.RowKit
set_option linter.unusedSimpArgs false
set_option linter.unusedVariables false
attribute [local irreducible] IsInt U32s Dig Norm Own IsRat
theorem rat_div (a b : Rat) : Rat.divInt (a.num * b.den) (a.den * b.num) = a / b := by
  rw [Rat.div_def, Rat.inv_def]
  conv => rhs; lhs; rw [← Rat.num_divInt_den a]
  rw [Rat.divInt_mul_divInt]
set_option maxRecDepth 100000 in
set_option maxHeartbeats 1000000 in
theorem ref02_Div (n m : Nat) (w : World) (va vb : Value) (a b : Rat) (ha : IsRat n w va a) (hb : IsRat m w vb b) (hn : n + m < 200000) (h0 : b.num ≠ 0) :
    Calls Tryz.prog 163 #[va, vb] w fun e w' => ∃ v, e = .returned (.tuple #[v, .int .i64 0]) ∧ IsRat (n + m) w' v (a / b) ∧ Ext w w' := by
  obtain ⟨na, aa, ka, ca, nb, ab, kb, cb, rfl, ha, hb'⟩ := ha.form
  obtain ⟨nc, ac, kc, cc, nd, ad, kd, cd, rfl, hc, hd⟩ := hb.form
  clear hb
  have hb := hb'
  go_enter Tryz.func163, Tryz.ntmps163
  go_upto_region 1 with (fail)
  obtain ⟨w3, p, q, r, e1, e2, e3, e4, h1, h2, h3, hpq, hpr, hqr, hE⟩ := box3 w (.cells #[.bool na, .slice aa ka ca, .bool nb, .slice ab kb cb] 55) (.cells #[.bool nc, .slice ac kc cc, .bool nd, .slice ad kd cd] 55) (.cells #[.bool false, .slice none 0 0, .bool false, .slice none 0 0] 55)
  rw [e1, e2, e3, e4]
  have hr0 : w.heap.size ≤ r := by omega
  clear e1 e2 e3 e4
  obtain ⟨Rp0, _⟩ := rules h1 0 _ rfl
  obtain ⟨Rp1, _⟩ := rules h1 1 _ rfl
  obtain ⟨Rp2, _⟩ := rules h1 2 _ rfl
  obtain ⟨Rp3, _⟩ := rules h1 3 _ rfl
  obtain ⟨Rq0, _⟩ := rules h2 0 _ rfl
  obtain ⟨Rq1, _⟩ := rules h2 1 _ rfl
  obtain ⟨Rq2, _⟩ := rules h2 2 _ rfl
  obtain ⟨Rq3, _⟩ := rules h2 3 _ rfl
  (refine wp_region_noPanic ?_; refine wp_region_head 13 (fun w' => Ext w3 w') (by kernel_rfl) (by kernel_rfl) ?_ (fun hHeld => ?_); (focus (show Ext _ _; exact exttI)); (try simp only [List.size_toArray, List.length_cons, List.length_nil]))
  (refine wpHead_take 0 (by kernel_rfl) (fun _ _ _ _ _ h => h) (by assumption) ?_; simp only [atOp]; refine ⟨by rfl, ?_, ?_, ?_⟩; rotate_left; (focus (intro w' hSw; (try dsimp only at hSw); go_simp; (try with_reducible rfl))); (try simp only [Act.put, List.setIfInBounds_toArray, List.set_cons_zero, List.set_cons_succ]))
  (refine wpHead_take 1 (by kernel_rfl) (fun _ _ _ _ _ h => h) (by assumption) ?_; simp only [atOp]; refine ⟨by rfl, ?_, ?_, ?_⟩; rotate_left; (focus (intro w' hSw; (try dsimp only at hSw); go_simp; (try with_reducible rfl))); (try simp only [Act.put, List.setIfInBounds_toArray, List.set_cons_zero, List.set_cons_succ]))
  (refine wpHead_take 2 (by kernel_rfl) (fun _ _ _ _ _ h => h) (by assumption) ?_; simp only [atOp]; refine ⟨by rfl, ?_, ?_, ?_⟩; rotate_left; (focus (intro w' hSw; (try dsimp only at hSw); go_simp; (try with_reducible rfl))); (try simp only [Act.put, List.setIfInBounds_toArray, List.set_cons_zero, List.set_cons_succ]))
  (refine wpHead_take 3 (by kernel_rfl) (fun _ _ _ _ _ h => h) (by assumption) ?_; simp only [atOp]; refine ⟨by rfl, ?_, ?_, ?_⟩; rotate_left; (focus (intro w' hSw; (try dsimp only at hSw); go_simp; (try with_reducible rfl))); (try simp only [Act.put, List.setIfInBounds_toArray, List.set_cons_zero, List.set_cons_succ]))
  (refine wpHead_take 5 (by kernel_rfl) (fun _ _ _ _ _ h => h) (by assumption) ?_; simp only [atOp]; refine ⟨by rfl, ?_, ?_, ?_⟩; rotate_left; (focus (intro w' hSw; (try dsimp only at hSw); go_simp; (try with_reducible rfl))); (try simp only [Act.put, List.setIfInBounds_toArray, List.set_cons_zero, List.set_cons_succ]))
  (refine wpHead_take 6 (by kernel_rfl) (fun _ _ _ _ _ h => h) (by assumption) ?_; simp only [atOp]; refine ⟨by rfl, ?_, ?_, ?_⟩; rotate_left; (focus (intro w' hSw; (try dsimp only at hSw); go_simp; (try with_reducible rfl))); (try simp only [Act.put, List.setIfInBounds_toArray, List.set_cons_zero, List.set_cons_succ]))
  (refine wpHead_take 7 (by kernel_rfl) (fun _ _ _ _ _ h => h) (by assumption) ?_; simp only [atOp]; refine ⟨by rfl, ?_, ?_, ?_⟩; rotate_left; (focus (intro w' hSw; (try dsimp only at hSw); go_simp; (try with_reducible rfl))); (try simp only [Act.put, List.setIfInBounds_toArray, List.set_cons_zero, List.set_cons_succ]))
  (refine wpHead_take 8 (by kernel_rfl) (fun _ _ _ _ _ h => h) (by assumption) ?_; simp only [atOp]; refine ⟨by rfl, ?_, ?_, ?_⟩; rotate_left; (focus (intro w' hSw; (try dsimp only at hSw); go_simp; (try with_reducible rfl))); (try simp only [Act.put, List.setIfInBounds_toArray, List.set_cons_zero, List.set_cons_succ]))
  (refine wpHead_only 4 (by kernel_rfl) ?_; simp only [atOp]; intro K hK; go_simp; ((go_at_call 112; refine (ref01_Mul _ _ _ _ _ _ _ (ha.ext (by exact exttI)) (hd.ext (by exact exttI)) (by omega) (by omega)).mono ?_; rintro e w5 ⟨vx, rfl, hx, hEx⟩; obtain ⟨nx, ax, kx, cx, rfl⟩ := IsInt.form hx); have hX5 := (show Ext w3 w5 by exact exttI)); refine hK.out _ _ ?_ (fun hHeld => ?_); (focus (show Ext _ _; exact exttI)); clear hK K; (try simp only [Act.put, List.setIfInBounds_toArray, List.set_cons_zero, List.set_cons_succ]))
  (refine wpHead_only 9 (by kernel_rfl) ?_; simp only [atOp]; intro K hK; go_simp; ((go_at_call 112; refine (ref01_Mul _ _ _ _ _ _ _ (hb.ext (by exact exttI)) (hc.ext (by exact exttI)) (by omega) (by omega)).mono ?_; rintro e w6 ⟨vy, rfl, hy, hEy⟩; obtain ⟨ny, ay, ky, cy, rfl⟩ := IsInt.form hy); have hX6 := (show Ext w3 w6 by exact exttI)); refine hK.out _ _ ?_ (fun hHeld => ?_); (focus (show Ext _ _; exact exttI)); clear hK K; (try simp only [Act.put, List.setIfInBounds_toArray, List.set_cons_zero, List.set_cons_succ]))
  (refine wpHead_only 10 (by kernel_rfl) ?_; simp only [atOp]; intro K hK; go_simp; ((go_at_call 210; refine (ref02_Make _ _ _ _ _ _ (hx.ext (by exact exttI)) (hy.ext (by exact exttI)) (by omega) (by have := a.den_pos; exact Int.mul_ne_zero (by omega) h0)).mono ?_; rintro e w7 ⟨vz, rfl, hz, hEz⟩; obtain ⟨nzn, azn, kzn, czn, nzd, azd, kzd, czd, rfl, _, _⟩ := IsRat.form hz); have hX7 := (show Ext w3 w7 by exact exttI)); refine hK.out _ _ ?_ (fun hHeld => ?_); (focus (show Ext _ _; exact exttI)); clear hK K; (try simp only [Act.put, List.setIfInBounds_toArray, List.set_cons_zero, List.set_cons_succ]))
  (refine wpHead_take 11 (by kernel_rfl) (fun _ _ _ _ _ h => h) (by assumption) ?_; simp only [atOp]; refine ⟨by rfl, ?_, ?_, ?_⟩; rotate_left; (focus (intro w' hSw; (try dsimp only at hSw); go_simp; (try with_reducible rfl))); (try simp only [Act.put, List.setIfInBounds_toArray, List.set_cons_zero, List.set_cons_succ]))
  (refine wpHead_take 12 (by kernel_rfl) (fun _ _ _ _ _ h => h) (by assumption) ?_; simp only [atOp]; refine ⟨by rfl, ?_, ?_, ?_⟩; rotate_left; (focus (intro w' hSw; (try dsimp only at hSw); go_simp; (try with_reducible rfl))); (try simp only [Act.put, List.setIfInBounds_toArray, List.set_cons_zero, List.set_cons_succ]))
  (refine wpHead_done (by kernel_rfl) ?_; simp only [List.drop_succ_cons, List.drop_zero])
  have hE9 : Ext w w7 := by exact exttI
  have k3 := hX7.blk h3
  have hbxr : Box _ r := Box.mk k3 rfl
  obtain ⟨Rr0, Fr0⟩ := rulesR (rs := [r]) k3 (by simp) 0 (by simp)
  obtain ⟨Rr1, Fr1⟩ := rulesR (rs := [r]) k3 (by simp) 1 (by simp)
  obtain ⟨Rr2, Fr2⟩ := rulesR (rs := [r]) k3 (by simp) 2 (by simp)
  obtain ⟨Rr3, Fr3⟩ := rulesR (rs := [r]) k3 (by simp) 3 (by simp)
  have hB : But [r] w7 w7 := by exact buttI
  have hBr0 := Rr0 _ hB
  have hBr1 := Rr1 _ hB
  have hBr2 := Rr2 _ hB
  have hBr3 := Rr3 _ hB
  have hFr0 := Fr0 _ hB
  have hFr1 := Fr1 _ hB
  have hFr2 := Fr2 _ hB
  have hFr3 := Fr3 _ hB
  go_wp2_with fail
  refine NoPanic.normal ?_
  go_wp2_with fail
  exact bodyPost_ret (v := .tuple #[.agg #[.bool nzn, .slice azn kzn czn, .bool nzd, .slice azd kzd czd], .int .i64 0]) (by simp [results, Tryz.results163, go_sem, hBr0, hBr1, hBr2, hBr3]) rfl ⟨_, rfl, IsRat.put4 hB (by simp) (hz.cast (rat_div a b)), (((((hB.set _ _ rfl (by simp)).set _ _ rfl (by simp)).set _ _ rfl (by simp)).set _ _ rfl (by simp)).old hE9 (by simp; omega))⟩
set_option maxRecDepth 100000 in
set_option maxHeartbeats 1000000 in
theorem ref02_Over (n m : Nat) (w : World) (va vb : Value) (a b : Rat) (ha : IsRat n w va a) (hb : IsRat m w vb b) (hn : n + m < 200000) (h0 : b.num ≠ 0) :
    Calls Tryz.prog 104 #[va, vb] w fun e w' => ∃ v, e = .returned v ∧ IsRat (n + m) w' v (a / b) ∧ Ext w w' := by
  obtain ⟨na, aa, ka, ca, nb, ab, kb, cb, rfl, _, _⟩ := ha.form
  obtain ⟨nc, ac, kc, cc, nd, ad, kd, cd, rfl, _, _⟩ := hb.form
  go_enter Tryz.func104, Tryz.ntmps104
  go_upto_region 1 with (fail)
  obtain ⟨w3, p, q, r, e1, e2, e3, e4, h1, h2, h3, hpq, hpr, hqr, hE⟩ := box3 w (.cells #[.bool na, .slice aa ka ca, .bool nb, .slice ab kb cb] 55) (.cells #[.bool nc, .slice ac kc cc, .bool nd, .slice ad kd cd] 55) (.cells #[.bool false, .slice none 0 0, .bool false, .slice none 0 0] 55)
  rw [e1, e2, e3, e4]
  have hr0 : w.heap.size ≤ r := by omega
  clear e1 e2 e3 e4
  obtain ⟨Cp0, Gp0⟩ := cell_of h1 0 _ rfl
  obtain ⟨Cp1, Gp1⟩ := cell_of h1 1 _ rfl
  obtain ⟨Cp2, Gp2⟩ := cell_of h1 2 _ rfl
  obtain ⟨Cp3, Gp3⟩ := cell_of h1 3 _ rfl
  obtain ⟨Cq0, Gq0⟩ := cell_of h2 0 _ rfl
  obtain ⟨Cq1, Gq1⟩ := cell_of h2 1 _ rfl
  obtain ⟨Cq2, Gq2⟩ := cell_of h2 2 _ rfl
  obtain ⟨Cq3, Gq3⟩ := cell_of h2 3 _ rfl
  go_upto_region 2 with (go_at_call 163; refine (ref02_Div n m _ _ _ _ _ (ha.ext hE) (hb.ext hE) hn h0).mono ?_; rintro e w5 ⟨vz, rfl, hz, hE5⟩; obtain ⟨nzn, azn, kzn, czn, nzd, azd, kzd, czd, rfl, _, _⟩ := IsRat.form hz)
  obtain ⟨w6, s, f1, f2, k4, hE6⟩ := box1 w5 (.cells #[.bool nzn, .slice azn kzn czn, .bool nzd, .slice azd kzd czd] 55)
  rw [f1, f2]
  clear f1 f2 Cp0 Gp0 Cp1 Gp1 Cp2 Gp2 Cp3 Gp3 Cq0 Gq0 Cq1 Gq1 Cq2 Gq2 Cq3 Gq3
  have h3' := (hE5.trans' hE6).blk h3
  have hz6 := hz.ext hE6
  have hE9 : Ext w w6 := (hE.trans' hE5).trans' hE6
  obtain ⟨Cs0, Gs0⟩ := cell_of k4 0 _ rfl
  obtain ⟨Cs1, Gs1⟩ := cell_of k4 1 _ rfl
  obtain ⟨Cs2, Gs2⟩ := cell_of k4 2 _ rfl
  obtain ⟨Cs3, Gs3⟩ := cell_of k4 3 _ rfl
  have hbxr : Box _ r := Box.mk h3' rfl
  obtain ⟨Rr0, Fr0⟩ := rulesR (rs := [r]) h3' (by simp) 0 (by simp)
  obtain ⟨Rr1, Fr1⟩ := rulesR (rs := [r]) h3' (by simp) 1 (by simp)
  obtain ⟨Rr2, Fr2⟩ := rulesR (rs := [r]) h3' (by simp) 2 (by simp)
  obtain ⟨Rr3, Fr3⟩ := rulesR (rs := [r]) h3' (by simp) 3 (by simp)
  have hB : But [r] w6 w6 := by exact buttI
  have hBr0 := Rr0 _ hB
  have hBr1 := Rr1 _ hB
  have hBr2 := Rr2 _ hB
  have hBr3 := Rr3 _ hB
  have hFr0 := Fr0 _ hB
  have hFr1 := Fr1 _ hB
  have hFr2 := Fr2 _ hB
  have hFr3 := Fr3 _ hB
  go_wp2_with (first | fail)
  exact bodyPost_ret (v := .agg #[.bool nzn, .slice azn kzn czn, .bool nzd, .slice azd kzd czd]) (by simp [results, Tryz.results104, go_sem, hBr0, hBr1, hBr2, hBr3]) rfl ⟨_, rfl, IsRat.put4 hB (by simp) hz6, (((((hB.set _ _ rfl (by simp)).set _ _ rfl (by simp)).set _ _ rfl (by simp)).set _ _ rfl (by simp)).old hE9 (by simp; omega))⟩
end Go.Proofs.YtechjiiijiipdaaGreatDoor
namespace Go.Proofs.YtechjiiijiipdaaGreatDoor
open Go.RowKit
set_option linter.unusedSimpArgs false
set_option linter.unusedVariables false
attribute [local irreducible] IsInt U32s Dig Norm Own IsRat
theorem put4_self {w : World} {p : Nat} {x y z u a b c d : Value} {t : TypeId} (h : w.heap[p]? = some (.cells #[a, b, c, d] t (0, 0))) :
    ((((w.setCell ⟨p, 0, none⟩ x).setCell ⟨p, 1, none⟩ y).setCell ⟨p, 2, none⟩ z).setCell ⟨p, 3, none⟩ u).heap[p]? = some (.cells #[x, y, z, u] t (0, 0)) := by
  simp [World.setCell, Array.getElem?_modify, h]
set_option maxRecDepth 100000 in
set_option maxHeartbeats 1000000 in
theorem ref06_Power (w : World) (n : Nat) (hn : n ≤ 1000) :
    Calls Tryz.prog 49 #[.int .i64 (n : Int)] w fun e w' => ∃ v, e = .returned v ∧ IsRat (3 * (n + 1)) w' v ((10 : Rat) ^ n) ∧ Ext w w' := by
  go_enter Tryz.func49, Tryz.ntmps49
  go_upto_region 1 with (fail)
  obtain ⟨w3, r, e1, e2, h3, hE⟩ := box1 w (.cells #[.bool false, .slice none 0 0, .bool false, .slice none 0 0] 55)
  rw [e1, e2]
  have hr0 : w.heap.size ≤ r := by omega
  clear e1 e2
  go_upto_region 2 with (go_at_call 61; refine (ref02_FromInt64 _ 1 (by omega) (by omega)).mono ?_; rintro e w4 ⟨vx, rfl, hx, hEx⟩; obtain ⟨nxn, axn, kxn, cxn, nxd, axd, kxd, cxd, rfl, _, _⟩ := IsRat.form hx)
  obtain ⟨w5, p, f1, f2, h1, hE1⟩ := box1 w4 (.cells #[.bool nxn, .slice axn kxn cxn, .bool nxd, .slice axd kxd cxd] 55)
  rw [f1, f2]
  have hp0 : w.heap.size ≤ p ∧ r < p := by have := hE.size; have := hEx.size; have := (Array.getElem?_eq_some_iff.1 h3).1; omega
  clear f1 f2
  have h3' := hE1.blk (hEx.blk h3)
  have hx' := hx.ext hE1
  have hEw : Ext w w5 := by exact exttI
  clear hE hEx hE1 h3 hx
  go_wp2_with (first | fail)
  go_loopw [4] (fun i w' => ∃ (k : Nat) (nc : Bool) (ac : Option Addr) (kc cc : Nat) (nd : Bool) (ad : Option Addr) (kd cd : Nat), k ≤ n ∧ i = .int .i64 k ∧ w'.heap[p]? = some (.cells #[.bool nc, .slice ac kc cc, .bool nd, .slice ad kd cd] 55 (0, 0)) ∧ IsRat (3 * (k + 1)) w' (.agg #[.bool nc, .slice ac kc cc, .bool nd, .slice ad kd cd]) ((10 : Rat) ^ k) ∧ But [p] w5 w') (fun i _ => n - (intOf i).toNat)
  case atStart => exact ⟨0, _, _, _, _, _, _, _, _, by omega, rfl, h1, hx'.cast (by rw [Rat.pow_zero]; rfl), But.start1 (Box.mk h1 rfl)⟩
  case round =>
    clear h1 hx'
    obtain ⟨k, nc, ac, kc, cc, nd, ad, kd, cd, hk, rfl, h1, hc, hB⟩ := hrel
    have hEr : Ext w wr := hB.old hEw (by simp; omega)
    have h3r := (hB.block r (Array.getElem?_eq_some_iff.1 h3').1 (by simp; omega)).trans h3'
    by_cases hlt : k < n
    · obtain ⟨Rp0, _⟩ := rules h1 0 _ rfl
      obtain ⟨Rp1, _⟩ := rules h1 1 _ rfl
      obtain ⟨Rp2, _⟩ := rules h1 2 _ rfl
      obtain ⟨Rp3, _⟩ := rules h1 3 _ rfl
      go_wp2_with (first | fail)
      (refine wp_region_noPanic ?_; refine wp_region_head 3 (fun w' => Ext wr w') (by kernel_rfl) (by kernel_rfl) ?_ (fun hHeld => ?_); (focus (show Ext _ _; exact exttI)); (try simp only [List.size_toArray, List.length_cons, List.length_nil]))
      (refine wpHead_take 0 (by kernel_rfl) (fun _ _ _ _ _ h => h) (by assumption) ?_; simp only [atOp]; refine ⟨by rfl, ?_, ?_, ?_⟩; rotate_left; (focus (intro w' hSw; (try dsimp only at hSw); go_simp; (try with_reducible rfl))); (try simp only [Act.put, List.setIfInBounds_toArray, List.set_cons_zero, List.set_cons_succ]))
      (refine wpHead_only 1 (by kernel_rfl) ?_; simp only [atOp]; intro K hK; go_simp; (go_at_call 61; refine (ref02_FromInt64 _ 10 (by omega) (by omega)).mono ?_; rintro e w7 ⟨vy, rfl, hy, hEy⟩; obtain ⟨nyn, ayn, kyn, cyn, nyd, ayd, kyd, cyd, rfl, _, _⟩ := IsRat.form hy; have hX7 := (show Ext wr w7 by exact exttI)); refine hK.out _ _ ?_ (fun hHeld => ?_); (focus (show Ext _ _; exact exttI)); clear hK K; (try simp only [Act.put, List.setIfInBounds_toArray, List.set_cons_zero, List.set_cons_succ]))
      (refine wpHead_only 2 (by kernel_rfl) ?_; simp only [atOp]; intro K hK; go_simp; (go_at_call 47; refine (ref02_Mul _ _ _ _ _ _ _ (hc.ext (by exact exttI)) (hy.ext (by exact exttI)) (by omega)).mono ?_; rintro e w8 ⟨vz, rfl, hz, hEz⟩; obtain ⟨nzn, azn, kzn, czn, nzd, azd, kzd, czd, rfl, _, _⟩ := IsRat.form hz; have hX8 := (show Ext wr w8 by exact exttI)); refine hK.out _ _ ?_ (fun hHeld => ?_); (focus (show Ext _ _; exact exttI)); clear hK K; (try simp only [Act.put, List.setIfInBounds_toArray, List.set_cons_zero, List.set_cons_succ]))
      (refine wpHead_done (by kernel_rfl) ?_; simp only [List.drop_succ_cons, List.drop_zero])
      have k1 := hX8.blk h1
      have hBp : But [p] w8 w8 := But.start1 (Box.mk k1 rfl)
      have hB8 := hB.ext hX8
      have hbxp : Box _ p := Box.mk k1 rfl
      obtain ⟨Rp0, Fp0⟩ := rulesR (rs := [p]) k1 (by simp) 0 (by simp)
      obtain ⟨Rp1, Fp1⟩ := rulesR (rs := [p]) k1 (by simp) 1 (by simp)
      obtain ⟨Rp2, Fp2⟩ := rulesR (rs := [p]) k1 (by simp) 2 (by simp)
      obtain ⟨Rp3, Fp3⟩ := rulesR (rs := [p]) k1 (by simp) 3 (by simp)
      go_wp2_with fail
      refine NoPanic.normal ?_
      go_wp2_with fail
      go_roundw
      case rel => exact ⟨k + 1, nzn, azn, kzn, czn, nzd, azd, kzd, czd, by omega, by go_num, put4_self k1, (IsRat.put4 hBp (by simp) ((hz.cast (by rw [Rat.pow_succ]; rfl)).mono (by omega))), (((hB8.set _ _ rfl (by simp)).set _ _ rfl (by simp)).set _ _ rfl (by simp)).set _ _ rfl (by simp)⟩
      case measure => simp [intOf]; omega
    · obtain rfl : k = n := by omega
      have hE9 : Ext w wr := hEr
      clear hB
      obtain ⟨Cp0, Gp0⟩ := cell_of h1 0 _ rfl
      obtain ⟨Cp1, Gp1⟩ := cell_of h1 1 _ rfl
      obtain ⟨Cp2, Gp2⟩ := cell_of h1 2 _ rfl
      obtain ⟨Cp3, Gp3⟩ := cell_of h1 3 _ rfl
      have hbxr : Box _ r := Box.mk h3r rfl
      obtain ⟨Rr0, Fr0⟩ := rulesR (rs := [r]) h3r (by simp) 0 (by simp)
      obtain ⟨Rr1, Fr1⟩ := rulesR (rs := [r]) h3r (by simp) 1 (by simp)
      obtain ⟨Rr2, Fr2⟩ := rulesR (rs := [r]) h3r (by simp) 2 (by simp)
      obtain ⟨Rr3, Fr3⟩ := rulesR (rs := [r]) h3r (by simp) 3 (by simp)
      have hB : But [r] wr wr := by exact buttI
      have hBr0 := Rr0 _ hB
      have hBr1 := Rr1 _ hB
      have hBr2 := Rr2 _ hB
      have hBr3 := Rr3 _ hB
      have hFr0 := Fr0 _ hB
      have hFr1 := Fr1 _ hB
      have hFr2 := Fr2 _ hB
      have hFr3 := Fr3 _ hB
      go_wp2_with (first | fail)
      exact bodyPost_ret (v := .agg #[.bool nc, .slice ac kc cc, .bool nd, .slice ad kd cd]) (by simp [results, Tryz.results49, go_sem, hBr0, hBr1, hBr2, hBr3]) rfl ⟨_, rfl, IsRat.put4 hB (by simp) hc, (((((hB.set _ _ rfl (by simp)).set _ _ rfl (by simp)).set _ _ rfl (by simp)).set _ _ rfl (by simp)).old hE9 (by simp; omega))⟩
end Go.Proofs.YtechjiiijiipdaaGreatDoor

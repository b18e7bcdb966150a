/- Walk: divide. -/
import Derived.Test.YtechjiiijiipdaaDoorW1
import Derived.Test.YtechjiiijiipdaaDoorW3
import Derived.Test.YtechjiiijiipdaaDoorW4
import Derived.Test.YtechjiiijiipdaaDoorDiv
namespace Go.Proofs.YtechjiiijiipdaaDoor
open Go.RowKit
set_option linter.unusedSimpArgs false
set_option linter.unusedVariables false

theorem U32s.lit1' (w : World) (d : Nat) (d' : Int) (hd : d' = (d : Int)) (hb : d < 4294967296) : U32s (w.alloc (.cells #[.int .u32 d'] 86)) (.slice (some ⟨w.heap.size, 0, none⟩) 1 1) [d] := by
  subst hd; exact U32s.lit1 w d hb

set_option maxRecDepth 100000 in
set_option maxHeartbeats 4000000 in
theorem integer_divide (w : World) (v u : Value) (l m : List Nat) (hv : U32s w v l) (hu : U32s w u m) (hl : Dig l) (hm : Dig m) (hs : l.length < 400000) (hs2 : m.length < 400000) (h0 : 0 < val m) :
    Calls Tryd.prog 73 #[v, u] w fun e w' => ∃ v1 v2 q r, e = .returned (.tuple #[v1, v2]) ∧ U32s w' v1 q ∧ U32s w' v2 r ∧ Dig q ∧ Dig r ∧ val q = val l / val m ∧ val r = val l % val m ∧ q.length ≤ l.length ∧ r.length ≤ m.length ∧ Ext w w' := by
  obtain ⟨a, c, rfl, hc, hn⟩ := hv.shape
  obtain ⟨a2, c2, rfl, hc2, hn2⟩ := hu.shape
  have h1 := integer_trim w a c l hv
  have h2 := integer_trim w a2 c2 m hu
  have b1 := trimL_length_le l
  have b2 := trimL_length_le m
  rw [← val_trimL m] at h0
  rw [← val_trimL l, ← val_trimL m]
  replace hl := hl.trimL
  replace hm := hm.trimL
  have nl := norm_trimL l
  have nm := norm_trimL m
  clear hv hu hc hn hc2 hn2
  generalize trimL l = l' at *
  generalize trimL m = m' at *
  have H1 := Lib.hid h1
  have H2 := Lib.hid h2
  have hne : m' ≠ [] := by intro e; subst e; simp [val] at h0
  have hlen0 := List.length_pos_iff.2 hne
  have HNE := Lib.hid hne
  clear h1 h2 hne
  go_enter Tryd.func73, Tryd.ntmps73
  go_wp2_with fail
  refine H1.out.mono ?_
  rintro e w' ⟨rfl, hv, rfl⟩
  go_wp2_with fail
  refine H2.out.mono ?_
  rintro e w' ⟨rfl, hu, rfl⟩
  clear H1 H2
  by_cases hn1 : m'.length = 1
  · have b3 : ((m'.length : Int) == 1) = true := by simp; omega
    have i1 : (0 : Int) < (m'.length : Int) := by omega
    have i2 : 0 < m'.length := by omega
    obtain ⟨b, o, rfl, _, hcb⟩ := hu.cell (k := 0) (by omega)
    obtain ⟨bb, rfl⟩ := List.length_eq_one_iff.1 hn1
    rw [show ([bb] : List Nat).getD 0 0 = bb from rfl, Nat.add_zero] at hcb
    have hbv : val [bb] = bb := by simp [val]
    rw [hbv] at h0
    have hb1 : bb < 1000000000 := hm bb (by simp)
    have HBV := Lib.hid hbv
    clear hbv b3 i1 hn1 hlen0
    have hlen2 : ([bb] : List Nat).length = 1 := rfl
    go_wp2_with fail
    refine (integer_byWord _ _ _ bb hv hl (by omega) h0 hb1).mono ?_
    rintro e w6 ⟨r1v, r2v, q, mm, rfl, hr1, hr2, dq, hmm, hqm, lq, hE6⟩
    have hfin : Hid (val q = val l' / val [bb] ∧ val [mm] = val l' % val [bb]) := by
      rw [HBV.out]
      have := div_final (A := val l') (B := bb) (d := 1) (Q := val q) (R := mm) (q := mm) (m := 0) (by rw [Nat.mul_one, Nat.mul_one, Nat.mul_comm]; exact hqm.symm) (by omega) (by omega) (by omega)
      exact ⟨this.1, by rw [← this.2]; simp [val]⟩
    have lq2 : q.length ≤ l.length := by omega
    clear hqm lq
    go_wp2
    go_ret2
    exact ⟨_, _, q, [mm], rfl, hr1, hr2, dq, by simp [Dig]; omega, hfin.out.1, hfin.out.2, lq2, by simpa using b2, hE6⟩
  · have b3 : ((m'.length : Int) == 1) = false := by simp; omega
    go_wp2_with fail
    refine (integer_compare _ _ _ _ _ hv hu hl hm).mono ?_
    rintro e w' ⟨rfl, hD⟩
    by_cases hlt : val l' < val m'
    · have hcmp : cmpN (val l') (val m') = -1 := by unfold cmpN; rw [if_pos hlt]
      rw [hcmp]
      obtain ⟨nd, rfl⟩ := hD
      have hE0 : Ext w (w.drewN nd) := (Ext.rfl' w).drewN' nd
      replace hv := hv.ext hE0
      have hle : l'.length ≤ m'.length := by
        rcases Nat.lt_or_ge m'.length l'.length with h | h
        · have := val_lt_of_length hm nl h; omega
        · exact h
      have hfin : Hid (0 = val l' / val m' ∧ val l' = val l' % val m') := ⟨(Nat.div_eq_of_lt hlt).symm, (Nat.mod_eq_of_lt hlt).symm⟩
      clear hcmp
      go_wp2_with (at_builtin; refine wpList_copy32 rfl _ _ rfl rfl rfl hv ?_; intro v' w' hown hE)
      go_ret2
      exact ⟨_, _, [], l', rfl, U32s.nil _ _ _ (fun _ => rfl), hown.u32 hl.u32 (by omega), Dig.nil, hl, hfin.out.1, hfin.out.2, by simp, by omega, hE0.trans' hE⟩
    · have hcmp : Hid (cmpN (val l') (val m') = 0 ∨ cmpN (val l') (val m') = 1) := by unfold cmpN Hid; rw [if_neg hlt]; split <;> simp
      have hcmp2 : decide (cmpN (val l') (val m') < 0) = false := by have := hcmp.out; simp; omega
      generalize cmpN (val l') (val m') = cc at *
      clear hcmp
      obtain ⟨nd, rfl⟩ := hD
      have hE0 : Ext w (w.drewN nd) := (Ext.rfl' w).drewN' nd
      replace hv := hv.ext hE0
      replace hu := hu.ext hE0
      obtain ⟨b, o, rfl, _, hcb⟩ := hu.cell (k := m'.length - 1) (by omega)
      have e1 : (m'.length : Int) - 1 = ((m'.length - 1 : Nat) : Int) := by omega
      obtain ⟨bb, hbb⟩ : ∃ x, m'.getD (m'.length - 1) 0 = x := ⟨_, rfl⟩
      obtain ⟨d, hd⟩ : ∃ d, d = 1000000000 / (bb + 1) := ⟨_, rfl⟩
      have hsc := scaled hm nm rfl (by omega) hbb hd
      have hb0 : 0 < (bb : Int) := by have := norm_last nm HNE.out; omega
      have hb1 : (bb : Int) < 1000000000 := by have := hm.getD (m'.length - 1); omega
      have hdi : (1000000000 : Int) / ((bb : Int) + 1) = (d : Int) := by rw [hd]; simp
      have hd0 : 0 < (d : Int) := by have := hsc.d0; omega
      have hd1 : (d : Int) < 1000000000 := by have := hsc.d1; omega
      rw [hbb] at hcb
      clear hbb hd
      go_wp2_with fail
      refine (integer_times _ _ _ _ [d] (hv.ext ((Ext.rfl' _).alloc' _)) (U32s.lit1' _ d _ rfl (by omega)) hl (by simp [Dig]; omega) (by omega) (by simp)).mono ?_
      rintro e w1 ⟨g0, R0, rfl, hg0, hg1, hown, hk0, dR0, hR0, hE1⟩
      have Hk0 : Hid (R0.length = l'.length + 1 ∧ val R0 = val l' * d) := ⟨hk0, by rw [hR0]; simp [val]⟩
      have hk1 : R0.length < 4000000 := by have := Hk0.out.1; omega
      clear hk0 hR0
      go_wp2_with (at_builtin; refine wpList_app1 rfl _ _ rfl rfl rfl hown (d := 0) rfl hk1 (Nat.le_of_lt hg1) ?_; intro u1 w2 hown2 hg2)
      have hE2 := (hE1.alloc' _).grown' hg2 (by intro k hk; have := hown.block k hk; omega)
      obtain ⟨gu, cu, rfl, hgu0, hgu1⟩ := hown2.shape (by simp)
      refine (integer_times _ _ _ _ [d] ?_ (U32s.lit1' _ d _ rfl (by omega)) hm (by simp [Dig]; omega) (by omega) (by simp)).mono ?_
      · exact hu.ext ((((Ext.rfl' _).alloc' _).trans' hE2).alloc' _)
      rintro e w3 ⟨gv, M0, rfl, hgv0, hgv1, hown3, hk2, dM0, hM0, hE3⟩
      have HM0 : Hid (M0.length = m'.length + 1 ∧ val M0 = val m' * d) := ⟨hk2, by rw [hM0]; simp [val]⟩
      have hk3 : M0.length < 4000000 := by have := HM0.out.1; omega
      clear hk2 hM0
      go_wp2_with fail
      refine (integer_trim _ _ _ M0 (hown3.u32 dM0.u32 (by omega))).mono ?_
      rintro e w' ⟨rfl, hM, rfl⟩
      have hbeg := begun hsc hl nm (by omega) (Nat.le_of_not_lt hlt) dR0 dM0 Hk0.out HM0.out
      have hM0c : (trimL M0).length ≤ M0.length := trimL_length_le M0
      have hEa : Ext w (w2.alloc (.cells #[.int .u32 (d : Int)] 86)) := ((hE0.alloc' _).trans' hE2).alloc' _
      have hEb : Ext w w3 := hEa.trans' hE3
      have hu3 := hown2.ext (((Ext.rfl' _).alloc' _).trans' hE3)
      have hM3 := Lib.hid (⟨hM, hgv1, by simp at hgv0; omega⟩ : U32s w3 (.slice (some ⟨gv, 0, none⟩) (trimL M0).length M0.length) (trimL M0) ∧ gv < w3.heap.size ∧ gu < gv)
      have hgu : w.heap.size ≤ gu := by have := hown.block g0 rfl; have := hE0.size; simp at hg0; have := hown2.block gu rfl; omega
      clear Hk0 HM0 hsc nl nm hl hm hlt dR0 dM0 hown hown2 hown3 hE1 hE2 hE3 hg0 hg1 hgv0 hgv1 hv hu hcb hdi e1 hM hb0 hb1 hk1 hk3 hg2 hEa
      obtain ⟨U, hUeq⟩ : ∃ U, R0 ++ [0] = U := ⟨_, rfl⟩
      have r1 : R0.length + 1 = U.length := by rw [← hUeq]; simp
      have r2 : (R0.length : Int) + 1 = (U.length : Int) := by omega
      rw [hUeq] at hbeg hu3
      clear hUeq
      generalize trimL M0 = M at *
      generalize M0.length = cv at *
      have lU := hbeg.lU
      have lM := hbeg.lM
      have n2 := hbeg.n2
      have lle := hbeg.le
      have LU := Lib.hid lU
      have LM := Lib.hid lM
      have lU1 : m'.length + 1 < U.length := by omega
      have lU2 : U.length < 1000000 := by omega
      have lM1 : m'.length ≤ M.length := by omega
      have lM2 : M.length ≤ m'.length := by omega
      clear lU lM
      go_wp2_with (refine wpList_make32 rfl _ _ rfl (n := U.length - m'.length) rfl rfl (by omega) (by omega) (by omega) ?_; intro w4 hq hE4)
      have hq1 : w3.heap.size < w4.heap.size := hq.lt
      have hE5 : Ext w w4 := hEb.trans' hE4
      have hu4 := hu3.ext hE4
      have hu4c := hu4.cap
      have hM4 := Lib.hid (hM3.out.1.ext hE4)
      have hgq : gv < w3.heap.size ∧ gu < gv ∧ w.heap.size ≤ gu := ⟨hM3.out.2.1, hM3.out.2.2, hgu⟩
      clear hM3 hE4 hu3 hEb hgu
      go_loopw [11] (fun i w' => ∃ (j : Int) (R S : List Nat), -1 ≤ j ∧ j + m'.length < U.length ∧ i = .int .i64 j ∧ Hid (R.length = U.length) ∧ Dig R ∧ Own g0 w' (.slice (some ⟨gu, 0, none⟩) U.length cu) R ∧
          Hid (S.length = U.length - m'.length) ∧ Dig S ∧ Own w3.heap.size w' (.slice (some ⟨w3.heap.size, 0, none⟩) (U.length - m'.length) (U.length - m'.length)) S ∧ Hid (val (R.drop (j + 1).toNat) < val M) ∧
          Hid (val l' * d = val M * (1000000000 ^ (j + 1).toNat * val (S.drop (j + 1).toNat)) + val R) ∧ Hid (U32s w' (.slice (some ⟨gv, 0, none⟩) M.length cv) M) ∧ Ext w w') (fun i _ => (intOf i + 1).toNat)
      case atStart => exact ⟨(U.length : Int) - m'.length - 1, U, List.replicate (U.length - m'.length) 0, by omega, by omega, rfl, rfl, hbeg.dU, hu4, Lib.hid (by simp), Dig.zeros _, hq, Lib.hid (by rw [show ((U.length : Int) - m'.length - 1 + 1).toNat = U.length - m'.length by omega]; exact hbeg.zero), Lib.hid (by rw [hbeg.hU, List.drop_of_length_le (by simp)]; simp [val]), hM4, hE5⟩
      case round =>
        obtain ⟨j, R, S, hj0, hj1, rfl, hRl, dR, hR, hSl, dS, hS, hlt, hinv, hMr, hE⟩ := hrel
        clear hq hu4 hM4 hE5 hq1
        by_cases hj : j = -1
        · subst hj
          have hlt0 := hlt.out
          have hinv0 := hinv.out
          simp only [show (-1 + 1 : Int).toNat = 0 from rfl, List.drop_zero, Nat.pow_zero, Nat.one_mul] at hlt0 hinv0
          have HL := Lib.hid hlt0
          have HI := Lib.hid hinv0
          have hcuc := hR.cap
          have hcut := hR.cutTo hRl.out dR.u32 (by omega) (k := m'.length) (by omega)
          have hup := Lib.hid (show val (R.take m'.length) = val R by
            have := seg_all (R := R) (k := 0) (n := m'.length) (by
              have h1 := val_take_drop R m'.length (by rw [hRl.out]; omega)
              have h2 := hbeg.hi
              rcases Nat.eq_zero_or_pos (val (R.drop m'.length)) with h3 | h3
              · rw [Nat.zero_add]; exact h3
              · have : 1000000000 ^ m'.length * 1 ≤ 1000000000 ^ m'.length * val (R.drop m'.length) := Nat.mul_le_mul_left _ h3
                omega)
            simpa using this)
          have hTl : (R.take m'.length).length = m'.length := by rw [List.length_take, hRl.out]; omega
          have hdT := dR.take m'.length
          have htl := trimL_length_le (R.take m'.length)
          clear hlt0 hinv0 hlt hinv hMr
          go_wp2_with fail
          have hcut2 : U32s wr (.slice (some ⟨gu, 0, none⟩) (R.take m'.length).length cu) (R.take m'.length) := by rw [hTl]; exact hcut
          have htrim := integer_trim wr (some ⟨gu, 0, none⟩) cu _ hcut2
          rw [hTl] at htrim
          refine htrim.mono ?_
          rintro e w' ⟨rfl, hT, rfl⟩
          have HTV := Lib.hid ((val_trimL (R.take m'.length)).trans hup.out)
          rw [hTl] at htl
          replace hdT := hdT.trimL
          clear htrim hcut hcut2 hTl
          generalize trimL (R.take m'.length) = T at *
          go_wp2_with fail
          refine (integer_byWord _ _ _ d hT hdT (by omega) (by omega) (by omega)).mono ?_
          rintro e w6 ⟨r1v, r2v, q, mm, rfl, hr1, hr2, dq, hmm, hqm, lq, hE6⟩
          have hfin := Lib.hid (div_final (A := val l') (B := val m') (d := d) (Q := val S) (R := val R) (q := val q) (m := mm) (by rw [← hbeg.hM]; exact HI.out) (by rw [← hbeg.hM]; exact HL.out) (by rw [← HTV.out]; exact hqm) hmm)
          have hS6 := hS.ext hE6
          have hE7 := hE.trans' hE6
          have lq2 : q.length ≤ m'.length := by omega
          clear hqm lq
          go_wp2
          go_ret2
          refine ⟨_, _, S, q, rfl, hS6.u32 dS.u32 (by have := hSl.out; omega), hr1, dS, dq, hfin.out.1, hfin.out.2, by have := hSl.out; have := LU.out; omega, by omega, hE7⟩
        · obtain ⟨k, rfl⟩ : ∃ k : Nat, j = k := ⟨j.toNat, by omega⟩
          have hround := mkRound (k := k) dR hbeg.dM hbeg.lM hbeg.n2 rfl hbeg.hi hbeg.top (by rw [hRl.out]; omega) hlt.out
          obtain ⟨c1, _⟩ := hR.at (k := k + m'.length) hRl.out (by omega)
          obtain ⟨c3, _⟩ := hR.at (k := k + m'.length - 1) hRl.out (by omega)
          obtain ⟨c5, _⟩ := hR.at (k := k + m'.length - 2) hRl.out (by omega)
          obtain ⟨_, _, e7, _, c7⟩ := hMr.out.cell (k := m'.length - 1) (by omega)
          obtain ⟨_, _, e8, _, c8⟩ := hMr.out.cell (k := m'.length - 2) (by omega)
          cases e7
          cases e8
          rw [Nat.zero_add] at c7 c8
          have t0b : R.getD (k + m'.length) 0 < 1000000000 := dR.getD _
          have t1b : R.getD (k + m'.length - 1) 0 < 1000000000 := dR.getD _
          generalize R.getD (k + m'.length) 0 = t0 at *
          generalize R.getD (k + m'.length - 1) 0 = t1 at *
          generalize R.getD (k + m'.length - 2) 0 = x2 at *
          generalize M.getD (m'.length - 1) 0 = v1 at *
          generalize M.getD (m'.length - 2) 0 = v2 at *
          have s1 : IntKind.i64.wrap ((k : Int) + m'.length) = ((k + m'.length : Nat) : Int) := by rw [IntWalk.i64_in] <;> omega
          have s2 : IntKind.i64.wrap (((k + m'.length : Nat) : Int) - 1) = ((k + m'.length - 1 : Nat) : Int) := by rw [IntWalk.i64_in] <;> omega
          have s3 : IntKind.i64.wrap ((m'.length : Int) - 1) = ((m'.length - 1 : Nat) : Int) := by rw [IntWalk.i64_in] <;> omega
          obtain ⟨top, htop⟩ : ∃ t, t0 * 1000000000 + t1 = t := ⟨_, rfl⟩
          have topb : top ≤ 999999999999999999 := by omega
          have z0 : IntKind.u64.wrap (t0 : Int) = t0 := IntWalk.u64_in _ (by omega)
          have z1 : IntKind.u64.wrap ((t0 : Int) * 1000000000) = (t0 : Int) * 1000000000 := IntWalk.u64_in _ (by omega)
          have z2 : IntKind.u64.wrap (t1 : Int) = t1 := IntWalk.u64_in _ (by omega)
          have z3 : IntKind.u64.wrap ((t0 : Int) * 1000000000 + (t1 : Int)) = (top : Int) := by rw [IntWalk.u64_in _ (by omega)]; omega
          have v1p : 250000000 ≤ v1 := hround.a1
          have v1b : v1 < 1000000000 := hround.a1b
          have z4 : IntKind.u64.wrap (v1 : Int) = v1 := IntWalk.u64_in _ (by omega)
          rw [htop] at hround
          have HT := Lib.hid htop
          clear htop t0b t1b
          have v1z : ¬ (v1 = 0) := by omega
          have z5 : IntKind.u64.wrap (Int.tdiv (top : Int) (v1 : Int)) = ((top / v1 : Nat) : Int) := by
            rw [Int.tdiv_eq_ediv_of_nonneg (by omega), ← Int.natCast_ediv]
            refine IntWalk.u64_in _ ⟨Int.natCast_nonneg _, ?_⟩
            have := Nat.div_le_self top v1
            generalize top / v1 = q at *
            omega
          have z6 : Int.tmod (top : Int) (v1 : Int) = ((top % v1 : Nat) : Int) := by
            rw [Int.tmod_eq_emod_of_nonneg (by omega), ← Int.natCast_emod]
          have i1 : ((m'.length - 1 : Nat) : Int) < (M.length : Int) := by omega
          have i2 : (0 : Int) ≤ ((m'.length - 1 : Nat) : Int) := by omega
          have HV1 := Lib.hid v1p
          have HV2 := Lib.hid v1b
          have HTB := Lib.hid topb
          clear v1p v1b topb
          go_wp2
          go_quiet (fail)
          go_wp2
          go_quiet (fail)
          go_upto_block 2 with (fail)
          go_cut [13, 14] (fun g r w' => ∃ gg : Nat, g = .int .u64 gg ∧ (gg : Int) < 1000000000 ∧ Hid (val (R.drop k) / val M ≤ gg ∧ gg ≤ val (R.drop k) / val M + 1) ∧ Drawn wr w')
          case first =>
            have s4 : IntKind.i64.wrap ((m'.length : Int) - 2) = ((m'.length - 2 : Nat) : Int) := by rw [IntWalk.i64_in] <;> omega
            have s5 : IntKind.i64.wrap (((k + m'.length : Nat) : Int) - 2) = ((k + m'.length - 2 : Nat) : Int) := by rw [IntWalk.i64_in] <;> omega
            have i3 : ((m'.length - 2 : Nat) : Int) < (M.length : Int) := by omega
            have i4 : (0 : Int) ≤ ((m'.length - 2 : Nat) : Int) := by omega
            have z7 : IntKind.u64.wrap ((top : Int) / (v1 : Int)) = ((top / v1 : Nat) : Int) := by
              rw [Int.tdiv_eq_ediv_of_nonneg (by omega)] at z5; exact z5
            have z8 : (top : Int) % (v1 : Int) = ((top % v1 : Nat) : Int) := by simp
            have hr0 : top % v1 < 1000000000 := by have := Nat.mod_lt top (show 0 < v1 by have := HV1.out; omega); have := HV2.out; omega
            have hg0' := hround.guessb (Nat.div_add_mod' top v1)
            have HR := Lib.hid hround
            clear hround z5 z6
            go_wp2
            obtain ⟨wo, rfl⟩ : ∃ wo : World, wo = wr := ⟨_, rfl⟩
            go_loopw [13, 14] (fun g r w' => ∃ gg rr : Nat, g = .int .u64 gg ∧ r = .int .u64 rr ∧ (gg : Int) ≤ 1000000003 ∧ (rr : Int) < 1000000000 ∧ Hid (gg * v1 + rr = top) ∧ Hid (val (R.drop k) / val M ≤ gg) ∧ Drawn wo w') (fun g _ _ => (intOf g).toNat)
            case atStart => exact ⟨top / v1, top % v1, by rw [z7], by rw [z8], by omega, by omega, Nat.div_add_mod' top v1, HR.out.first, ((Drawn.rfl' wo).n _).n _⟩
            case round =>
              clear z7 z8 hr0 hg0'
              obtain ⟨gg, rr, rfl, rfl, hg, hr, hgr, hQ, nn, rfl⟩ := hrel
              have hD : Drawn wo (wo.drewN nn) := ⟨nn, rfl⟩
              have hv2 : v2 < 1000000000 := HR.out.a2
              have hx2 : x2 < 1000000000 := HR.out.ax
              have hv1 := HV2.out
              have p1 : (gg : Int) * (v2 : Int) ≤ 1000000003000000000 := by
                have h1 : gg * v2 ≤ 1000000003 * 1000000000 := Nat.mul_le_mul (by omega) (by omega)
                have h2 : ((gg * v2 : Nat) : Int) = (gg : Int) * (v2 : Int) := by simp
                omega
              have p0 : 0 ≤ (gg : Int) * (v2 : Int) := Int.mul_nonneg (by omega) (by omega)
              have y1 : IntKind.u64.wrap ((gg : Int) * (v2 : Int)) = (gg : Int) * (v2 : Int) := IntWalk.u64_in _ (by omega)
              have y2 : IntKind.u64.wrap (v2 : Int) = v2 := IntWalk.u64_in _ (by omega)
              have y3 : IntKind.u64.wrap ((rr : Int) * 1000000000) = (rr : Int) * 1000000000 := IntWalk.u64_in _ (by omega)
              have y4 : IntKind.u64.wrap (x2 : Int) = x2 := IntWalk.u64_in _ (by omega)
              have y5 : IntKind.u64.wrap ((rr : Int) * 1000000000 + x2) = (rr : Int) * 1000000000 + x2 := IntWalk.u64_in _ (by omega)
              clear hv2 hx2
              go_wp2
              by_cases hge : (1000000000 : Int) ≤ (gg : Int)
              · have hdec := Lib.hid (HR.out.dec_ge (g := gg) (by omega))
                have d1 : decide ((1000000000 : Int) ≤ (gg : Int)) = true := decide_eq_true hge
                have q1 : (1 : Int) ≤ (gg : Int) := by have := hdec.out; omega
                have hs : Hid ((gg - 1) * v1 + (rr + v1) = top) := by
                  have := hgr.out
                  have h1 : gg * v1 = (gg - 1) * v1 + v1 := by rw [← Nat.succ_mul]; congr 1; omega
                  unfold Hid; omega
                by_cases hbr : (1000000000 : Int) ≤ (rr : Int) + (v1 : Int)
                · have hfin := Lib.hid (HR.out.end2 hs.out (by omega))
                  go_quiet (fail)
                  go_wp2
                  go_meet
                  exact ⟨gg - 1, by go_num, by have := hfin.out.1; omega, ⟨hdec.out.1, hfin.out.2⟩, by first | exact hD.n _ | exact ⟨_, rfl⟩⟩
                · go_quiet (fail)
                  go_wp2
                  go_roundw
                  case rel => exact ⟨gg - 1, rr + v1, by go_num, by go_num, by omega, by omega, hs, hdec.out.1, by first | exact hD.n _ | exact ⟨_, rfl⟩⟩
                  case measure => simp only [intOf]; omega
              · have d1 : decide ((1000000000 : Int) ≤ (gg : Int)) = false := decide_eq_false hge
                by_cases hgt : (rr : Int) * 1000000000 + x2 < (gg : Int) * (v2 : Int)
                · have d2 : decide ((rr : Int) * 1000000000 + x2 < (gg : Int) * (v2 : Int)) = true := decide_eq_true hgt
                  have hdec := Lib.hid (HR.out.dec_gt (g := gg) (r := rr) hgr.out (by have h2 : ((gg * v2 : Nat) : Int) = (gg : Int) * (v2 : Int) := by simp
                                                                                      omega))
                  have q1 : (1 : Int) ≤ (gg : Int) := by have := hdec.out; omega
                  have hs : Hid ((gg - 1) * v1 + (rr + v1) = top) := by
                    have := hgr.out
                    have h1 : gg * v1 = (gg - 1) * v1 + v1 := by rw [← Nat.succ_mul]; congr 1; omega
                    unfold Hid; omega
                  by_cases hbr : (1000000000 : Int) ≤ (rr : Int) + (v1 : Int)
                  · have hfin := Lib.hid (HR.out.end2 hs.out (by omega))
                    go_quiet (fail)
                    go_wp2
                    go_meet
                    exact ⟨gg - 1, by go_num, by have := hfin.out.1; omega, ⟨hdec.out.1, hfin.out.2⟩, by first | exact hD.n _ | exact ⟨_, rfl⟩⟩
                  · go_quiet (fail)
                    go_wp2
                    go_roundw
                    case rel => exact ⟨gg - 1, rr + v1, by go_num, by go_num, by omega, by omega, hs, hdec.out.1, by first | exact hD.n _ | exact ⟨_, rfl⟩⟩
                    case measure => simp only [intOf]; omega
                · have d2 : decide ((rr : Int) * 1000000000 + x2 < (gg : Int) * (v2 : Int)) = false := decide_eq_false hgt
                  have hfin := Lib.hid (HR.out.end1 (g := gg) (r := rr) hgr.out (by omega) (by have h2 : ((gg * v2 : Nat) : Int) = (gg : Int) * (v2 : Int) := by simp
                                                                                               omega))
                  go_quiet (fail)
                  go_wp2
                  go_meet
                  exact ⟨gg, rfl, by omega, ⟨hQ.out, hfin.out⟩, by first | exact hD.n _ | exact ⟨_, rfl⟩⟩
          case rest =>
            obtain ⟨gg, rfl, hgb, hQ, nn, rfl⟩ := hcut
            have hEd : Ext wr (wr.drewN nn) := (Ext.rfl' wr).drewN' nn
            replace hE := hE.trans' hEd
            replace hR := hR.drewN nn
            replace hS := hS.drewN nn
            replace hMr := Lib.hid (hMr.out.ext hEd)
            have HR := Lib.hid hround
            have cuk : k + m'.length + 1 ≤ cu := by
              have := hu4c
              omega
            clear hround c1 c3 c5 c7 c8 s1 s2 s3 z0 z1 z2 z3 z4 z5 z6 v1z i1 i2 HV1 HV2 HTB HT
            go_wp2_with fail
            rw [show k + m'.length + 1 - k = m'.length + 1 by omega]
            have hfar : Far gu (.slice (some ⟨gv, 0, none⟩) M.length cv) := by intro a n c e; cases e; show gv ≠ gu; omega
            have hupz := Lib.hid (upper_zero (k := k) (n := m'.length) hlt.out hbeg.hi)
            refine (integer_subtract _ g0 gu k (m'.length + 1) U.length cu (cu - k) _ R M gg hR hRl.out dR (by omega) (by omega) hMr.out hbeg.dM hfar (by omega) (by omega)).mono ?_
            rintro e w5 ⟨R1, o1, rfl, hR1, lR1, dR1, ht1, hd1', hv1, hg1⟩
            have hVp : 0 < val M := HR.out.Vpos
            have hw := Lib.hid (seg_all (R := R) (k := k) (n := m'.length + 1) (by rw [show k + (m'.length + 1) = k + 1 + m'.length by omega]; exact hupz.out))
            have hdr := Lib.hid (fun (R' : List Nat) (l : R'.length = R.length) h1 h2 h3 => @div_round R R' S k m'.length (val M) (val l' * d) (by have := hRl.out; omega) l h1 h2 (by have := hSl.out; omega)
              (by rw [show k + (m'.length + 1) = k + 1 + m'.length by omega]; exact hupz.out) h3 hVp (by have := hinv.out; rwa [show ((k : Int) + 1).toNat = k + 1 by omega] at this))
            have hgqu : w3.heap.size ≠ gu := by omega
            have hS1 := hS.kept hg1 (.inr (by simp only [Value.ownBlock]; intro e; exact hgqu (Option.some.inj e)))
            have hM1 := Lib.hid (hMr.out.only hfar hg1)
            have hE1 := Lib.hid (hE.grown' hg1 (by intro j e; cases e; omega))
            have HV := Lib.hid hv1
            have LR1 := Lib.hid lR1
            have HT1 := Lib.hid ht1
            have HD1 := Lib.hid hd1'
            clear hv1 lR1 ht1 hd1' hS hMr hE hR hg1 hEd
            by_cases ho : o1 = 0
            · subst ho
              have hdig := Lib.hid (digit_right (M := 1000000000 ^ (m'.length + 1)) hVp hQ.out.1 (by rw [← hw.out]; exact HV.out))
              have hfin := Lib.hid (hdr.out R1 (by rw [LR1.out, hRl.out]) HT1.out HD1.out (by rw [hdig.out.2, ← hw.out]))
              obtain ⟨cq, fq⟩ := hS1.at (k := k) hSl.out (by omega)
              go_wp2
              go_roundw
              case rel => exact ⟨(k : Int) - 1, R1, S.set k gg, by omega, by omega, rfl, LR1, dR1, hR1.set_far (fun e => hgqu e.symm) _, Lib.hid (by rw [List.length_set, hSl.out]), dS.set (by omega), hS1.stored hSl.out k (by first | rfl | omega),
                Lib.hid (by rw [show ((k : Int) - 1 + 1).toNat = k by omega]; exact hfin.out.1), Lib.hid (by rw [show ((k : Int) - 1 + 1).toNat = k by omega, hdig.out.1]; exact hfin.out.2), Lib.hid (hM1.out.set_far (by show gv ≠ w3.heap.size; omega) _), hE1.out.set' (by show w.heap.size ≤ w3.heap.size; omega) _⟩
              case measure => simp only [intOf]; omega
            · have hd2 : decide (0 < o1) = true := by simp; omega
              go_wp2_with fail
              rw [show k + m'.length + 1 - k = m'.length + 1 by omega]
              refine (integer_restore _ g0 gu k (m'.length + 1) U.length cu (cu - k) _ R1 M hR1 LR1.out dR1 (by omega) (by omega) hM1.out hbeg.dM hfar (by omega)).mono ?_
              rintro e w6 ⟨R2, o2, rfl, hR2, lR2, dR2, ht2, hd2', hv2, hg2⟩
              have hpp : 1000000000 ^ m'.length ≤ 1000000000 ^ (m'.length + 1) := Nat.pow_le_pow_right (by omega) (by omega)
              have hdig := Lib.hid (digit_less (M := 1000000000 ^ (m'.length + 1)) hVp (Nat.lt_of_lt_of_le hbeg.hi hpp) (by rw [← hw.out]; exact seg_lt dR (by rw [hRl.out]; omega)) hQ.out.2 (Nat.pos_of_ne_zero ho)
                (seg_lt dR1 (by rw [LR1.out]; omega)) (by rw [← hw.out]; exact HV.out) (seg_lt dR2 (by rw [lR2]; omega)) hv2)
              have hfin := Lib.hid (hdr.out R2 (by rw [lR2, hRl.out]) (ht2.trans HT1.out) (hd2'.trans HD1.out) (by rw [hdig.out.2.1, ← hw.out]))
              have hS2 := hS1.kept hg2 (.inr (by simp only [Value.ownBlock]; intro e; exact hgqu (Option.some.inj e)))
              have hM2 := Lib.hid (hM1.out.only hfar hg2)
              have hE2 := Lib.hid (hE1.out.grown' hg2 (by intro j e; cases e; omega))
              have LR2 := Lib.hid lR2
              obtain ⟨cq, fq⟩ := hS2.at (k := k) hSl.out (by omega)
              have hgg1 : (1 : Int) ≤ (gg : Int) := by
                have := hdig.out.2.2
                omega
              clear lR2 ht2 hd2' hv2 hg2 hS1 hpp hR1
              go_wp2
              go_roundw
              case rel => exact ⟨(k : Int) - 1, R2, S.set k (gg - 1), by omega, by omega, rfl, LR2, dR2, hR2.set_far (fun e => hgqu e.symm) _, Lib.hid (by rw [List.length_set, hSl.out]), dS.set (by omega), hS2.stored hSl.out k (by omega),
                Lib.hid (by rw [show ((k : Int) - 1 + 1).toNat = k by omega]; exact hfin.out.1), Lib.hid (by rw [show ((k : Int) - 1 + 1).toNat = k by omega, hdig.out.1]; exact hfin.out.2), Lib.hid (hM2.out.set_far (by show gv ≠ w3.heap.size; omega) _), hE2.out.set' (by show w.heap.size ≤ w3.heap.size; omega) _⟩
              case measure => simp only [intOf]; omega
end Go.Proofs.YtechjiiijiipdaaDoor

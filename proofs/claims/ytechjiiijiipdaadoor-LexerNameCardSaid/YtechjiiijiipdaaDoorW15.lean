/- Walks: rational.reduce. -/
import Derived.Test.YtechjiiijiipdaaDoorW14
namespace Go.Proofs.YtechjiiijiipdaaDoor
open Go.RowKit
set_option linter.unusedSimpArgs false
set_option linter.unusedVariables false
theorem Rat.divInt_neg' (a b : Int) : Rat.divInt (-a) (-b) = Rat.divInt a b := Rat.neg_divInt_neg a b
theorem IsRat.but {rs : List Nat} {n r i : Nat} {a b : World} {u v : Value} {z : Rat} (h : IsRat n b v z) (hb : But rs a b) (hm : r ∈ rs) : IsRat n (b.setCell ⟨r, i, none⟩ u) v z := by
  obtain ⟨_, _, _, _, _, _, _, _, h, h1, h2⟩ := h
  exact ⟨_, _, _, _, _, _, _, _, h, h1.but hb hm, h2.but hb hm⟩
theorem IsRat.put4 {rs : List Nat} {n r : Nat} {a b : World} {x y : Bool} {t : Value} {v : Value} {z : Rat} {a1 : Option Addr} {k1 c1 : Nat} (hb : But rs a b) (hm : r ∈ rs) (h : IsRat n b v z) :
    IsRat n ((((b.setCell ⟨r, 0, none⟩ (.bool x)).setCell ⟨r, 1, none⟩ (.slice a1 k1 c1)).setCell ⟨r, 2, none⟩ (.bool y)).setCell ⟨r, 3, none⟩ t) v z :=
  (((h.but hb hm).but (hb.set _ _ rfl hm) hm).but ((hb.set _ _ rfl hm).set _ _ rfl hm) hm).but (((hb.set _ _ rfl hm).set _ _ rfl hm).set _ _ rfl hm) hm
attribute [local irreducible] IsInt U32s Dig Norm Own
set_option maxRecDepth 100000 in
set_option maxHeartbeats 2000000 in
theorem rational_reduce (n : Nat) (w : World) (va vb : Value) (a b : Int) (ha : IsInt n w va a) (hb : IsInt n w vb b) (hn : n < 200000) (h0 : b ≠ 0) :
    Calls Tryd.prog 41 #[va, vb] w fun e w' => ∃ v, e = .returned v ∧ IsRat n w' v (Rat.divInt a b) ∧ Ext w w' := by
  obtain ⟨na, aa, ka, ca, rfl⟩ := IsInt.form ha
  obtain ⟨nb, ab, kb, cb, rfl⟩ := IsInt.form hb
  go_enter Tryd.func41, Tryd.ntmps41
  go_upto_region 1 with (fail)
  obtain ⟨w3, p, q, r, e1, e2, e3, e4, h1, h2, h3, hpq, hpr, hqr, hE⟩ := box3 w (.cells #[.bool na, .slice aa ka ca] 36) (.cells #[.bool nb, .slice ab kb cb] 36) (.cells #[.bool false, .slice none 0 0, .bool false, .slice none 0 0] 38)
  rw [e1, e2, e3, e4]
  have hp0 : w.heap.size ≤ p := by omega
  have hq0 : w.heap.size ≤ q := by omega
  have hr0 : w.heap.size ≤ r := by omega
  clear e1 e2 e3 e4
  obtain ⟨Cp0, Gp0⟩ := cell_of h1 0 _ rfl
  obtain ⟨Cp1, Gp1⟩ := cell_of h1 1 _ rfl
  obtain ⟨Cq0, Gq0⟩ := cell_of h2 0 _ rfl
  obtain ⟨Cq1, Gq1⟩ := cell_of h2 1 _ rfl
  go_upto_if 8 with (go_at_call 54; refine (integer_Sign _ _ _ _ (hb.ext hE)).mono ?_; rintro e w5 ⟨rfl, hE5⟩)
  replace h1 := hE5.blk h1
  replace h2 := hE5.blk h2
  replace h3 := hE5.blk h3
  replace hE := hE.trans' hE5
  clear hE5 Cp0 Gp0 Cp1 Gp1 Cq0 Gq0 Cq1 Gq1
  go_cut [] (fun w' => ∃ (nc : Bool) (ac : Option Addr) (kc cc : Nat) (nd : Bool) (ad : Option Addr) (kd cd : Nat) (A B : Int), w'.heap[p]? = some (.cells #[.bool nc, .slice ac kc cc] 36) ∧ w'.heap[q]? = some (.cells #[.bool nd, .slice ad kd cd] 36) ∧ w'.heap[r]? = some (.cells #[.bool false, .slice none 0 0, .bool false, .slice none 0 0] 38) ∧
      IsInt n w' (.agg #[.bool nc, .slice ac kc cc]) A ∧ IsInt n w' (.agg #[.bool nd, .slice ad kd cd]) B ∧ 0 < B ∧ Hid (Rat.divInt A B = Rat.divInt a b) ∧ Ext w w')
  case first =>
    by_cases hb1 : b < 0
    · have hs : decide (b.sign < 0) = true := by rw [Int.sign_eq_neg_one_of_neg hb1]; rfl
      have ha5 := ha.ext hE
      have hb5 := hb.ext hE
      obtain ⟨Rp0, Fp0⟩ := rules h1 0 _ rfl
      obtain ⟨Rp1, Fp1⟩ := rules h1 1 _ rfl
      obtain ⟨Rq0, Fq0⟩ := rules h2 0 _ rfl
      obtain ⟨Rq1, Fq1⟩ := rules h2 1 _ rfl
      go_wp2_with (first | fail)
      (refine wp_region_noPanic ?_; refine wp_region_head 4 (fun w' => Ext w5 w') (by kernel_rfl) (by kernel_rfl) ?_ (fun hHeld => ?_); (focus (show Ext _ _; exact exttI)); (try simp only [List.size_toArray, List.length_cons, List.length_nil]))
      (refine wpHead_take 0 (by kernel_rfl) (fun _ _ _ _ _ h => h) (by assumption) ?_; simp only [atOp]; refine ⟨by rfl, ?_, ?_, ?_⟩; rotate_left; (focus (intro w' hSw; (try dsimp only at hSw); go_simp; (try with_reducible rfl))); (try simp only [Act.put, List.setIfInBounds_toArray, List.set_cons_zero, List.set_cons_succ]))
      (refine wpHead_take 2 (by kernel_rfl) (fun _ _ _ _ _ h => h) (by assumption) ?_; simp only [atOp]; refine ⟨by rfl, ?_, ?_, ?_⟩; rotate_left; (focus (intro w' hSw; (try dsimp only at hSw); go_simp; (try with_reducible rfl))); (try simp only [Act.put, List.setIfInBounds_toArray, List.set_cons_zero, List.set_cons_succ]))
      (refine wpHead_only 1 (by kernel_rfl) ?_; simp only [atOp]; intro K hK; go_simp; ((go_at_call 56; refine (integer_Neg _ _ _ _ (ha5.ext (by exact exttI))).mono ?_; rintro e w6 ⟨vx, rfl, hx, hEx⟩; obtain ⟨nx, ax, kx, cx, rfl⟩ := IsInt.form hx); have hX6 := (show Ext w5 w6 by exact exttI)); refine hK.out _ _ ?_ (fun hHeld => ?_); (focus (show Ext _ _; exact exttI)); clear hK K; (try simp only [Act.put, List.setIfInBounds_toArray, List.set_cons_zero, List.set_cons_succ]))
      (refine wpHead_only 3 (by kernel_rfl) ?_; simp only [atOp]; intro K hK; go_simp; ((go_at_call 56; refine (integer_Neg _ _ _ _ (hb5.ext (by exact exttI))).mono ?_; rintro e w7 ⟨vy, rfl, hy, hEy⟩; obtain ⟨ny, ay, ky, cy, rfl⟩ := IsInt.form hy); have hX7 := (show Ext w5 w7 by exact exttI)); refine hK.out _ _ ?_ (fun hHeld => ?_); (focus (show Ext _ _; exact exttI)); clear hK K; (try simp only [Act.put, List.setIfInBounds_toArray, List.set_cons_zero, List.set_cons_succ]))
      (refine wpHead_done (by kernel_rfl) ?_; simp only [List.drop_succ_cons, List.drop_zero])
      replace h1 := hX7.blk h1
      replace h2 := hX7.blk h2
      replace h3 := hX7.blk h3
      replace hE := hE.trans' hX7
      replace hx := hx.ext hEy
      clear Rp0 Fp0 Rp1 Fp1 Rq0 Fq0 Rq1 Fq1
      obtain ⟨Cp0, Gp0⟩ := cell_of h1 0 _ rfl
      obtain ⟨Cp1, Gp1⟩ := cell_of h1 1 _ rfl
      obtain ⟨Cq0, Gq0⟩ := cell_of h2 0 _ rfl
      obtain ⟨Cq1, Gq1⟩ := cell_of h2 1 _ rfl
      go_wp2_with fail
      refine NoPanic.normal ?_
      go_wp2_with fail
      go_meet
      exact ⟨nx, ax, kx, cx, ny, ay, ky, cy, -a, -b, by exact heaptI, by exact heaptI, put2_far (put2_far h3 (by omega)) (by omega), by exact inttI, by exact inttI, by omega, Lib.hid (Rat.divInt_neg' a b), by exact exttI⟩
    · have hs : decide (b.sign < 0) = false := by rw [Int.sign_eq_one_of_pos (by omega)]; rfl
      go_wp2_with (first | fail)
      go_meet
      exact ⟨na, aa, ka, ca, nb, ab, kb, cb, a, b, h1, h2, h3, ha.ext hE, hb.ext hE, by omega, rfl, hE⟩
  case rest =>
    clear ha hb h0 hE h1 h2 h3
    obtain ⟨nc, ac, kc, cc, nd, ad, kd, cd, A, B, h1, h2, h3, hc, hd, h0, hAB, hE⟩ := hcut
    obtain ⟨Cp0, Gp0⟩ := cell_of h1 0 _ rfl
    obtain ⟨Cp1, Gp1⟩ := cell_of h1 1 _ rfl
    obtain ⟨Cq0, Gq0⟩ := cell_of h2 0 _ rfl
    obtain ⟨Cq1, Gq1⟩ := cell_of h2 1 _ rfl
    go_upto_region 4 with ((go_at_call 57; refine (integer_GCD _ _ _ _ _ _ hc hd (by omega)).mono ?_; rintro e w6 ⟨vg, rfl, hg, hEg⟩; obtain ⟨ng, ag, kg, cg, rfl⟩ := IsInt.form hg))
    obtain ⟨w7, s, f1, f2, k4, hE7⟩ := box1 w6 (.cells #[.bool ng, .slice ag kg cg] 36)
    rw [f1, f2]
    have hs0 : w.heap.size ≤ s := by have := hE.size; have := hEg.size; omega
    clear f1 f2
    have hX7 := hEg.trans' hE7
    replace h1 := hX7.blk h1
    replace h2 := hX7.blk h2
    replace h3 := hX7.blk h3
    replace hE := hE.trans' hX7
    replace hg := hg.ext hE7
    replace hc := hc.ext hX7
    replace hd := hd.ext hX7
    have gpos : 0 < Int.gcd A B := Int.gcd_pos_of_ne_zero_right _ (by omega)
    clear hEg hE7 hX7 Cp0 Gp0 Cp1 Gp1 Cq0 Gq0 Cq1 Gq1
    obtain ⟨Rp0, Fp0⟩ := rules h1 0 _ rfl
    obtain ⟨Rp1, Fp1⟩ := rules h1 1 _ rfl
    obtain ⟨Rq0, Fq0⟩ := rules h2 0 _ rfl
    obtain ⟨Rq1, Fq1⟩ := rules h2 1 _ rfl
    obtain ⟨Rs0, _⟩ := rules k4 0 _ rfl
    obtain ⟨Rs1, _⟩ := rules k4 1 _ rfl
    by_cases g1 : Int.gcd A B = 1
    · have hcmp : Hid (cmpI (Int.gcd A B : Nat) 1 = 0) := by rw [g1]; rfl
      have hG := Lib.hid g1
      clear g1
      go_region_held3 (fun w' => Ext w7 w') (exact exttI) (first | ((go_at_call 59; refine (rational_unit _).mono ?_; rintro e w8 ⟨vu, rfl, hu, hEu⟩; obtain ⟨nu, au, ku, cu, rfl⟩ := IsInt.form hu); have hX8 := (show Ext w7 w8 by exact exttI)) | ((go_at_call 58; refine (integer_Cmp _ _ _ _ _ _ _ (hg.ext (by exact exttI)) (hu.ext (by exact exttI))).mono ?_; rintro e w9 ⟨rfl, hEw9⟩); rw [hcmp.out]; have hX9 := (show Ext w7 w9 by exact exttI)))
      have hE9 : Ext w w9 := by exact exttI
      have h3' := hX9.blk h3
      have hbxr : Box _ r := Box.mk h3' rfl
      obtain ⟨Rr0, Fr0⟩ := rulesR (rs := [r]) h3' (by simp) 0 (by simp)
      obtain ⟨Rr1, Fr1⟩ := rulesR (rs := [r]) h3' (by simp) 1 (by simp)
      obtain ⟨Rr2, Fr2⟩ := rulesR (rs := [r]) h3' (by simp) 2 (by simp)
      obtain ⟨Rr3, Fr3⟩ := rulesR (rs := [r]) h3' (by simp) 3 (by simp)
      have hbx : Box w9 r := Box.mk h3' rfl
      have hB : But [r] w9 w9 := by exact buttI
      have hBr0 := Rr0 _ hB
      have hBr1 := Rr1 _ hB
      have hBr2 := Rr2 _ hB
      have hBr3 := Rr3 _ hB
      have hFr0 := Fr0 _ hB
      have hFr1 := Fr1 _ hB
      have hFr2 := Fr2 _ hB
      have hFr3 := Fr3 _ hB
      have hi1 := hc.ext hX9
      have hi2 := hd.ext hX9
      go_wp2_with (first | fail)
      exact bodyPost_ret (v := .agg #[.bool nc, .slice ac kc cc, .bool nd, .slice ad kd cd]) (by simp [results, Tryd.results41, go_sem, hBr0, hBr1, hBr2, hBr3]) rfl ⟨_, rfl, IsRat.put4 hB (by simp) ⟨_, _, _, _, _, _, _, _, rfl, hi1.cast (by rw [← hAB.out, divInt_num_pos _ _ h0, hG.out]; simp), hi2.cast (by rw [← hAB.out, divInt_den_pos _ _ h0, hG.out]; simp)⟩, (((((hB.set _ _ rfl (by simp)).set _ _ rfl (by simp)).set _ _ rfl (by simp)).set _ _ rfl (by simp)).old hE9 (by simp; omega))⟩
    · have hcmp : Hid (cmpI (Int.gcd A B : Nat) 1 = 1) := by
        refine Lib.hid ?_
        rw [cmpI, if_neg (by omega), if_pos (by omega)]
      go_region_held3 (fun w' => Ext w7 w') (exact exttI) (first | ((go_at_call 59; refine (rational_unit _).mono ?_; rintro e w8 ⟨vu, rfl, hu, hEu⟩; obtain ⟨nu, au, ku, cu, rfl⟩ := IsInt.form hu); have hX8 := (show Ext w7 w8 by exact exttI)) | ((go_at_call 58; refine (integer_Cmp _ _ _ _ _ _ _ (hg.ext (by exact exttI)) (hu.ext (by exact exttI))).mono ?_; rintro e w9 ⟨rfl, hEw9⟩); rw [hcmp.out]; have hX9 := (show Ext w7 w9 by exact exttI)))
      go_wp2_with (first | fail)
      (refine wp_region_noPanic ?_; refine wp_region_head 6 (fun w' => Ext w7 w') (by kernel_rfl) (by kernel_rfl) ?_ (fun hHeld => ?_); (focus (show Ext _ _; exact exttI)); (try simp only [List.size_toArray, List.length_cons, List.length_nil]))
      (refine wpHead_take 0 (by kernel_rfl) (fun _ _ _ _ _ h => h) (by assumption) ?_; simp only [atOp]; refine ⟨by rfl, ?_, ?_, ?_⟩; rotate_left; (focus (intro w' hSw; (try dsimp only at hSw); go_simp; (try with_reducible rfl))); (try simp only [Act.put, List.setIfInBounds_toArray, List.set_cons_zero, List.set_cons_succ]))
      (refine wpHead_take 1 (by kernel_rfl) (fun _ _ _ _ _ h => h) (by assumption) ?_; simp only [atOp]; refine ⟨by rfl, ?_, ?_, ?_⟩; rotate_left; (focus (intro w' hSw; (try dsimp only at hSw); go_simp; (try with_reducible rfl))); (try simp only [Act.put, List.setIfInBounds_toArray, List.set_cons_zero, List.set_cons_succ]))
      (refine wpHead_take 3 (by kernel_rfl) (fun _ _ _ _ _ h => h) (by assumption) ?_; simp only [atOp]; refine ⟨by rfl, ?_, ?_, ?_⟩; rotate_left; (focus (intro w' hSw; (try dsimp only at hSw); go_simp; (try with_reducible rfl))); (try simp only [Act.put, List.setIfInBounds_toArray, List.set_cons_zero, List.set_cons_succ]))
      (refine wpHead_take 4 (by kernel_rfl) (fun _ _ _ _ _ h => h) (by assumption) ?_; simp only [atOp]; refine ⟨by rfl, ?_, ?_, ?_⟩; rotate_left; (focus (intro w' hSw; (try dsimp only at hSw); go_simp; (try with_reducible rfl))); (try simp only [Act.put, List.setIfInBounds_toArray, List.set_cons_zero, List.set_cons_succ]))
      (refine wpHead_only 2 (by kernel_rfl) ?_; simp only [atOp]; intro K hK; go_simp; ((go_at_call 60; refine (rational_exact _ _ _ _ _ _ _ (hc.ext (by exact exttI)) (hg.ext (by exact exttI)) (by omega) (by omega) (by omega)).mono ?_; rintro e wa ⟨vx, rfl, hx, hEx⟩; obtain ⟨nx, ax, kx, cx, rfl⟩ := IsInt.form hx); have hXa := (show Ext w7 wa by exact exttI)); refine hK.out _ _ ?_ (fun hHeld => ?_); (focus (show Ext _ _; exact exttI)); clear hK K; (try simp only [Act.put, List.setIfInBounds_toArray, List.set_cons_zero, List.set_cons_succ]))
      (refine wpHead_only 5 (by kernel_rfl) ?_; simp only [atOp]; intro K hK; go_simp; ((go_at_call 60; refine (rational_exact _ _ _ _ _ _ _ (hd.ext (by exact exttI)) (hg.ext (by exact exttI)) (by omega) (by omega) (by omega)).mono ?_; rintro e wb ⟨vy, rfl, hy, hEy⟩; obtain ⟨ny, ay, ky, cy, rfl⟩ := IsInt.form hy); have hXb := (show Ext w7 wb by exact exttI)); refine hK.out _ _ ?_ (fun hHeld => ?_); (focus (show Ext _ _; exact exttI)); clear hK K; (try simp only [Act.put, List.setIfInBounds_toArray, List.set_cons_zero, List.set_cons_succ]))
      (refine wpHead_done (by kernel_rfl) ?_; simp only [List.drop_succ_cons, List.drop_zero])
      have k1 := hXb.blk h1
      have k2 := hXb.blk h2
      have k3 := hXb.blk h3
      clear Rp0 Fp0 Rp1 Fp1 Rq0 Fq0 Rq1 Fq1 Rs0 Rs1
      obtain ⟨Cp0, Gp0⟩ := cell_of k1 0 _ rfl
      obtain ⟨Cp1, Gp1⟩ := cell_of k1 1 _ rfl
      obtain ⟨Cq0, Gq0⟩ := cell_of k2 0 _ rfl
      obtain ⟨Cq1, Gq1⟩ := cell_of k2 1 _ rfl
      replace hx := hx.ext hEy
      go_wp2_with fail
      refine NoPanic.normal ?_
      generalize hW : World.setCell (World.setCell (World.setCell (World.setCell wb _ _) _ _) _ _) _ _ = w9
      have k4 : w9.heap[p]? = some (.cells #[.bool nx, .slice ax kx cx] 36) := by rw [← hW]; exact heaptI
      have k5 : w9.heap[q]? = some (.cells #[.bool ny, .slice ay ky cy] 36) := by rw [← hW]; exact heaptI
      have k6 : w9.heap[r]? = some (.cells #[.bool false, .slice none 0 0, .bool false, .slice none 0 0] 38) := by rw [← hW]; exact put2_far (put2_far k3 (by omega)) (by omega)
      have hi1 : IsInt n w9 (.agg #[.bool nx, .slice ax kx cx]) (A / (Int.gcd A B : Nat)) := by rw [← hW]; exact inttI
      have hi2 : IsInt n w9 (.agg #[.bool ny, .slice ay ky cy]) (B / (Int.gcd A B : Nat)) := by rw [← hW]; exact inttI
      have hE9 : Ext w w9 := by
        rw [← hW]
        have : Ext w wb := by exact exttI
        exact ((((this.setN hp0).setN hp0).setN hq0).setN hq0)
      clear hW Cp0 Gp0 Cp1 Gp1 Cq0 Gq0 Cq1 Gq1 k1 k2 k3 hEy hEx hEu hX9 hX8 hE h1 h2 h3 hXa hXb
      obtain ⟨Cp0, Gp0⟩ := cell_of k4 0 _ rfl
      obtain ⟨Cp1, Gp1⟩ := cell_of k4 1 _ rfl
      obtain ⟨Cq0, Gq0⟩ := cell_of k5 0 _ rfl
      obtain ⟨Cq1, Gq1⟩ := cell_of k5 1 _ rfl
      have hbxr : Box _ r := Box.mk k6 rfl
      obtain ⟨Rr0, Fr0⟩ := rulesR (rs := [r]) k6 (by simp) 0 (by simp)
      obtain ⟨Rr1, Fr1⟩ := rulesR (rs := [r]) k6 (by simp) 1 (by simp)
      obtain ⟨Rr2, Fr2⟩ := rulesR (rs := [r]) k6 (by simp) 2 (by simp)
      obtain ⟨Rr3, Fr3⟩ := rulesR (rs := [r]) k6 (by simp) 3 (by simp)
      have hB : But [r] w9 w9 := by exact buttI
      have hBr0 := Rr0 _ hB
      have hBr1 := Rr1 _ hB
      have hBr2 := Rr2 _ hB
      have hBr3 := Rr3 _ hB
      have hFr0 := Fr0 _ hB
      have hFr1 := Fr1 _ hB
      have hFr2 := Fr2 _ hB
      have hFr3 := Fr3 _ hB
      go_wp2_with (first | fail)
      exact bodyPost_ret (v := .agg #[.bool nx, .slice ax kx cx, .bool ny, .slice ay ky cy]) (by simp [results, Tryd.results41, go_sem, hBr0, hBr1, hBr2, hBr3]) rfl ⟨_, rfl, IsRat.put4 hB (by simp) ⟨_, _, _, _, _, _, _, _, rfl, hi1.cast (by rw [← hAB.out, divInt_num_pos _ _ h0]), hi2.cast (by rw [← hAB.out, divInt_den_pos _ _ h0])⟩, (((((hB.set _ _ rfl (by simp)).set _ _ rfl (by simp)).set _ _ rfl (by simp)).set _ _ rfl (by simp)).old hE9 (by simp; omega))⟩
end Go.Proofs.YtechjiiijiipdaaDoor

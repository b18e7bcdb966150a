/- Walks: rational.Make, whole, FromInt64, Mul. -/
import Derived.Test.YtechjiiijiipdaaDoorW15
namespace Go.Proofs.YtechjiiijiipdaaDoor
open Go.RowKit
set_option linter.unusedSimpArgs false
set_option linter.unusedVariables false
theorem IsRat.form {n : Nat} {w : World} {v : Value} {x : Rat} (h : IsRat n w v x) : ∃ (nc : Bool) (ac : Option Addr) (kc cc : Nat) (nd : Bool) (ad : Option Addr) (kd cd : Nat), v = .agg #[.bool nc, .slice ac kc cc, .bool nd, .slice ad kd cd] ∧ IsInt n w (.agg #[.bool nc, .slice ac kc cc]) x.num ∧ IsInt n w (.agg #[.bool nd, .slice ad kd cd]) (x.den : Int) := h
theorem IsRat.mk {n : Nat} {w : World} {nc : Bool} {ac : Option Addr} {kc cc : Nat} {nd : Bool} {ad : Option Addr} {kd cd : Nat} {x : Rat} (h1 : IsInt n w (.agg #[.bool nc, .slice ac kc cc]) x.num) (h2 : IsInt n w (.agg #[.bool nd, .slice ad kd cd]) (x.den : Int)) : IsRat n w (.agg #[.bool nc, .slice ac kc cc, .bool nd, .slice ad kd cd]) x := ⟨_, _, _, _, _, _, _, _, rfl, h1, h2⟩
theorem IsRat.whole {n : Nat} {w : World} {nc : Bool} {ac : Option Addr} {kc cc : Nat} {nd : Bool} {ad : Option Addr} {kd cd : Nat} {z : Int} (h1 : IsInt n w (.agg #[.bool nc, .slice ac kc cc]) z) (h2 : IsInt n w (.agg #[.bool nd, .slice ad kd cd]) 1) : IsRat n w (.agg #[.bool nc, .slice ac kc cc, .bool nd, .slice ad kd cd]) (z : Rat) := IsRat.mk h1 h2
attribute [local irreducible] IsInt U32s Dig Norm Own IsRat
set_option maxRecDepth 100000 in
set_option maxHeartbeats 1000000 in
theorem rational_Make (n : Nat) (w : World) (va vb : Value) (a b : Int) (ha : IsInt n w va a) (hb : IsInt n w vb b) (hn : n < 200000) (h0 : b ≠ 0) :
    Calls Tryd.prog 37 #[va, vb] w fun e w' => ∃ v, e = .returned (.tuple #[v, .int .i64 0]) ∧ IsRat n w' v (Rat.divInt a b) ∧ Ext w w' := by
  obtain ⟨na, aa, ka, ca, rfl⟩ := IsInt.form ha
  obtain ⟨nb, ab, kb, cb, rfl⟩ := IsInt.form hb
  have hsg : (b.sign == 0) = false := by simpa using h0
  go_enter Tryd.func37, Tryd.ntmps37
  go_upto_region 1 with (fail)
  obtain ⟨w3, p, q, r, e1, e2, e3, e4, h1, h2, h3, hpq, hpr, hqr, hE⟩ := box3 w (.cells #[.bool na, .slice aa ka ca] 36) (.cells #[.bool nb, .slice ab kb cb] 36) (.cells #[.bool false, .slice none 0 0, .bool false, .slice none 0 0] 38)
  rw [e1, e2, e3, e4]
  have hr0 : w.heap.size ≤ r := by omega
  clear e1 e2 e3 e4
  obtain ⟨Rp0, Fp0⟩ := rules h1 0 _ rfl
  obtain ⟨Rp1, Fp1⟩ := rules h1 1 _ rfl
  obtain ⟨Rq0, Fq0⟩ := rules h2 0 _ rfl
  obtain ⟨Rq1, Fq1⟩ := rules h2 1 _ rfl
  obtain ⟨Rr0, Fr0⟩ := rules h3 0 _ rfl
  obtain ⟨Rr1, Fr1⟩ := rules h3 1 _ rfl
  obtain ⟨Rr2, Fr2⟩ := rules h3 2 _ rfl
  obtain ⟨Rr3, Fr3⟩ := rules h3 3 _ rfl
  have hX3 := Ext.rfl' w3
  go_wp2_with (first | (go_at_call 54; refine (integer_Sign _ _ _ _ (hb.ext hE)).mono ?_; rintro e w5 ⟨rfl, hE5⟩; have hXw5 := (show Ext w3 w5 by exact exttI)) | ((go_at_call 41; refine (rational_reduce _ _ _ _ _ _ (ha.ext (by exact exttI)) (hb.ext (by exact exttI)) (by omega) h0).mono ?_; rintro e w6 ⟨vx, rfl, hx, hEx⟩; obtain ⟨nxn, axn, kxn, cxn, nxd, axd, kxd, cxd, rfl, _, _⟩ := IsRat.form hx); have hXw6 := (show Ext w3 w6 by exact exttI)))
  have hE9 : Ext w w6 := by exact exttI
  have k9 := hXw6.blk h3
  have hbx : Box w6 r := Box.mk k9 rfl
  have hB : But [r] w6 w6 := by exact buttI
  have hBr0 := Rr0 _ hXw6
  have hBr1 := Rr1 _ hXw6
  have hBr2 := Rr2 _ hXw6
  have hBr3 := Rr3 _ hXw6
  exact bodyPost_ret (v := .tuple #[.agg #[.bool nxn, .slice axn kxn cxn, .bool nxd, .slice axd kxd cxd], .int .i64 0]) (by simp [results, Tryd.results37, go_sem, hBr0, hBr1, hBr2, hBr3]) rfl ⟨_, rfl, IsRat.put4 hB (by simp) hx, (((((hB.set _ _ rfl (by simp)).set _ _ rfl (by simp)).set _ _ rfl (by simp)).set _ _ rfl (by simp)).old hE9 (by simp; omega))⟩

set_option maxRecDepth 100000 in
set_option maxHeartbeats 1000000 in
theorem rational_whole (n : Nat) (w : World) (va : Value) (a : Int) (ha : IsInt n w va a) :
    Calls Tryd.prog 43 #[va] w fun e w' => ∃ v, e = .returned v ∧ IsRat (max n 3) w' v (a : Rat) ∧ Ext w w' := by
  obtain ⟨na, aa, ka, ca, rfl⟩ := IsInt.form ha
  go_enter Tryd.func43, Tryd.ntmps43
  go_upto_region 1 with (fail)
  obtain ⟨w3, p, r, e1, e2, e3, h1, h3, hpr, hE⟩ := box2 w (.cells #[.bool na, .slice aa ka ca] 36) (.cells #[.bool false, .slice none 0 0, .bool false, .slice none 0 0] 38)
  rw [e1, e2, e3]
  have hr0 : w.heap.size ≤ r := by omega
  clear e1 e2 e3
  obtain ⟨Rp0, _⟩ := rules h1 0 _ rfl
  obtain ⟨Rp1, _⟩ := rules h1 1 _ rfl
  (refine wp_region_noPanic ?_; refine wp_region_head 3 (fun w' => Ext w3 w') (by kernel_rfl) (by kernel_rfl) ?_ (fun hHeld => ?_); (focus (show Ext _ _; exact exttI)); (try simp only [List.size_toArray, List.length_cons, List.length_nil]))
  (refine wpHead_take 0 (by kernel_rfl) (fun _ _ _ _ _ h => h) (by assumption) ?_; simp only [atOp]; refine ⟨by rfl, ?_, ?_, ?_⟩; rotate_left; (focus (intro w' hSw; (try dsimp only at hSw); go_simp; (try with_reducible rfl))); (try simp only [Act.put, List.setIfInBounds_toArray, List.set_cons_zero, List.set_cons_succ]))
  (refine wpHead_only 1 (by kernel_rfl) ?_; simp only [atOp]; intro K hK; go_simp; ((go_at_call 59; refine (rational_unit _).mono ?_; rintro e w5 ⟨vx, rfl, hx, hEx⟩; obtain ⟨nx, ax, kx, cx, rfl⟩ := IsInt.form hx); have hX5 := (show Ext w3 w5 by exact exttI)); refine hK.out _ _ ?_ (fun hHeld => ?_); (focus (show Ext _ _; exact exttI)); clear hK K; (try simp only [Act.put, List.setIfInBounds_toArray, List.set_cons_zero, List.set_cons_succ]))
  (refine wpHead_take 2 (by kernel_rfl) (fun _ _ _ _ _ h => h) (by assumption) ?_; simp only [atOp]; refine ⟨by rfl, ?_, ?_, ?_⟩; rotate_left; (focus (intro w' hSw; (try dsimp only at hSw); go_simp; (try with_reducible rfl))); (try simp only [Act.put, List.setIfInBounds_toArray, List.set_cons_zero, List.set_cons_succ]))
  (refine wpHead_done (by kernel_rfl) ?_; simp only [List.drop_succ_cons, List.drop_zero])
  have hE9 : Ext w w5 := by exact exttI
  have k3 := hX5.blk h3
  have hbxr : Box _ r := Box.mk k3 rfl
  obtain ⟨Rr0, Fr0⟩ := rulesR (rs := [r]) k3 (by simp) 0 (by simp)
  obtain ⟨Rr1, Fr1⟩ := rulesR (rs := [r]) k3 (by simp) 1 (by simp)
  obtain ⟨Rr2, Fr2⟩ := rulesR (rs := [r]) k3 (by simp) 2 (by simp)
  obtain ⟨Rr3, Fr3⟩ := rulesR (rs := [r]) k3 (by simp) 3 (by simp)
  have hB : But [r] w5 w5 := by exact buttI
  have hBr0 := Rr0 _ hB
  have hBr1 := Rr1 _ hB
  have hBr2 := Rr2 _ hB
  have hBr3 := Rr3 _ hB
  have hFr0 := Fr0 _ hB
  have hFr1 := Fr1 _ hB
  have hFr2 := Fr2 _ hB
  have hFr3 := Fr3 _ hB
  go_wp2_with fail
  refine NoPanic.normal ?_
  go_wp2_with fail
  have hi1 := ha.ext hE9
  exact bodyPost_ret (v := .agg #[.bool na, .slice aa ka ca, .bool nx, .slice ax kx cx]) (by simp [results, Tryd.results43, go_sem, hBr0, hBr1, hBr2, hBr3]) rfl ⟨_, rfl, IsRat.put4 hB (by simp) (IsRat.whole (hi1.mono (by omega)) (hx.mono (by omega))), (((((hB.set _ _ rfl (by simp)).set _ _ rfl (by simp)).set _ _ rfl (by simp)).set _ _ rfl (by simp)).old hE9 (by simp; omega))⟩

set_option maxRecDepth 100000 in
set_option maxHeartbeats 1000000 in
theorem rational_FromInt64 (w : World) (n : Int) (h1 : -9223372036854775808 ≤ n) (h2 : n < 9223372036854775808) :
    Calls Tryd.prog 28 #[.int .i64 n] w fun e w' => ∃ v, e = .returned v ∧ IsRat 3 w' v (n : Rat) ∧ Ext w w' := by
  go_enter Tryd.func28, Tryd.ntmps28
  go_upto_region 1 with (fail)
  obtain ⟨w3, r, e1, e2, h3, hE⟩ := box1 w (.cells #[.bool false, .slice none 0 0, .bool false, .slice none 0 0] 38)
  rw [e1, e2]
  have hr0 : w.heap.size ≤ r := by omega
  clear e1 e2
  obtain ⟨Rr0, Fr0⟩ := rules h3 0 _ rfl
  obtain ⟨Rr1, Fr1⟩ := rules h3 1 _ rfl
  obtain ⟨Rr2, Fr2⟩ := rules h3 2 _ rfl
  obtain ⟨Rr3, Fr3⟩ := rules h3 3 _ rfl
  have hX3 := Ext.rfl' w3
  go_wp2_with (first | (go_at_call 44; refine (integer_FromInt64 _ n h1 h2).mono ?_; rintro e w5 ⟨vi, rfl, hi, hEi⟩; obtain ⟨ni, ai, ki, ci, rfl⟩ := IsInt.form hi; have hXw5 := (show Ext w3 w5 by exact exttI)) | (go_at_call 43; refine (rational_whole _ _ _ _ hi).mono ?_; rintro e w6 ⟨vx, rfl, hx, hEx⟩; obtain ⟨nxn, axn, kxn, cxn, nxd, axd, kxd, cxd, rfl, _, _⟩ := IsRat.form hx; have hXw6 := (show Ext w3 w6 by exact exttI)))
  have hE9 : Ext w w6 := by exact exttI
  have k9 := hXw6.blk h3
  have hbx : Box w6 r := Box.mk k9 rfl
  have hB : But [r] w6 w6 := by exact buttI
  have hBr0 := Rr0 _ hXw6
  have hBr1 := Rr1 _ hXw6
  have hBr2 := Rr2 _ hXw6
  have hBr3 := Rr3 _ hXw6
  exact bodyPost_ret (v := .agg #[.bool nxn, .slice axn kxn cxn, .bool nxd, .slice axd kxd cxd]) (by simp [results, Tryd.results28, go_sem, hBr0, hBr1, hBr2, hBr3]) rfl ⟨_, rfl, IsRat.put4 hB (by simp) hx, (((((hB.set _ _ rfl (by simp)).set _ _ rfl (by simp)).set _ _ rfl (by simp)).set _ _ rfl (by simp)).old hE9 (by simp; omega))⟩

set_option maxRecDepth 100000 in
set_option maxHeartbeats 1000000 in
theorem rational_Mul (n m : Nat) (w : World) (va vb : Value) (a b : Rat) (ha : IsRat n w va a) (hb : IsRat m w vb b) (hn : n + m < 200000) :
    Calls Tryd.prog 27 #[va, vb] w fun e w' => ∃ v, e = .returned v ∧ IsRat (n + m) w' v (a * b) ∧ Ext w w' := by
  obtain ⟨na, aa, ka, ca, nb, ab, kb, cb, rfl, ha, hb'⟩ := ha.form
  obtain ⟨nc, ac, kc, cc, nd, ad, kd, cd, rfl, hc, hd⟩ := hb.form
  clear hb
  have hb := hb'
  go_enter Tryd.func27, Tryd.ntmps27
  go_upto_region 1 with (fail)
  obtain ⟨w3, p, q, r, e1, e2, e3, e4, h1, h2, h3, hpq, hpr, hqr, hE⟩ := box3 w (.cells #[.bool na, .slice aa ka ca, .bool nb, .slice ab kb cb] 38) (.cells #[.bool nc, .slice ac kc cc, .bool nd, .slice ad kd cd] 38) (.cells #[.bool false, .slice none 0 0, .bool false, .slice none 0 0] 38)
  rw [e1, e2, e3, e4]
  have hr0 : w.heap.size ≤ r := by omega
  clear e1 e2 e3 e4
  obtain ⟨Rp0, _⟩ := rules h1 0 _ rfl
  obtain ⟨Rp1, _⟩ := rules h1 1 _ rfl
  obtain ⟨Rp2, _⟩ := rules h1 2 _ rfl
  obtain ⟨Rp3, _⟩ := rules h1 3 _ rfl
  obtain ⟨Rq0, _⟩ := rules h2 0 _ rfl
  obtain ⟨Rq1, _⟩ := rules h2 1 _ rfl
  obtain ⟨Rq2, _⟩ := rules h2 2 _ rfl
  obtain ⟨Rq3, _⟩ := rules h2 3 _ rfl
  (refine wp_region_noPanic ?_; refine wp_region_head 11 (fun w' => Ext w3 w') (by kernel_rfl) (by kernel_rfl) ?_ (fun hHeld => ?_); (focus (show Ext _ _; exact exttI)); (try simp only [List.size_toArray, List.length_cons, List.length_nil]))
  (refine wpHead_take 0 (by kernel_rfl) (fun _ _ _ _ _ h => h) (by assumption) ?_; simp only [atOp]; refine ⟨by rfl, ?_, ?_, ?_⟩; rotate_left; (focus (intro w' hSw; (try dsimp only at hSw); go_simp; (try with_reducible rfl))); (try simp only [Act.put, List.setIfInBounds_toArray, List.set_cons_zero, List.set_cons_succ]))
  (refine wpHead_take 1 (by kernel_rfl) (fun _ _ _ _ _ h => h) (by assumption) ?_; simp only [atOp]; refine ⟨by rfl, ?_, ?_, ?_⟩; rotate_left; (focus (intro w' hSw; (try dsimp only at hSw); go_simp; (try with_reducible rfl))); (try simp only [Act.put, List.setIfInBounds_toArray, List.set_cons_zero, List.set_cons_succ]))
  (refine wpHead_take 2 (by kernel_rfl) (fun _ _ _ _ _ h => h) (by assumption) ?_; simp only [atOp]; refine ⟨by rfl, ?_, ?_, ?_⟩; rotate_left; (focus (intro w' hSw; (try dsimp only at hSw); go_simp; (try with_reducible rfl))); (try simp only [Act.put, List.setIfInBounds_toArray, List.set_cons_zero, List.set_cons_succ]))
  (refine wpHead_take 3 (by kernel_rfl) (fun _ _ _ _ _ h => h) (by assumption) ?_; simp only [atOp]; refine ⟨by rfl, ?_, ?_, ?_⟩; rotate_left; (focus (intro w' hSw; (try dsimp only at hSw); go_simp; (try with_reducible rfl))); (try simp only [Act.put, List.setIfInBounds_toArray, List.set_cons_zero, List.set_cons_succ]))
  (refine wpHead_take 5 (by kernel_rfl) (fun _ _ _ _ _ h => h) (by assumption) ?_; simp only [atOp]; refine ⟨by rfl, ?_, ?_, ?_⟩; rotate_left; (focus (intro w' hSw; (try dsimp only at hSw); go_simp; (try with_reducible rfl))); (try simp only [Act.put, List.setIfInBounds_toArray, List.set_cons_zero, List.set_cons_succ]))
  (refine wpHead_take 6 (by kernel_rfl) (fun _ _ _ _ _ h => h) (by assumption) ?_; simp only [atOp]; refine ⟨by rfl, ?_, ?_, ?_⟩; rotate_left; (focus (intro w' hSw; (try dsimp only at hSw); go_simp; (try with_reducible rfl))); (try simp only [Act.put, List.setIfInBounds_toArray, List.set_cons_zero, List.set_cons_succ]))
  (refine wpHead_take 7 (by kernel_rfl) (fun _ _ _ _ _ h => h) (by assumption) ?_; simp only [atOp]; refine ⟨by rfl, ?_, ?_, ?_⟩; rotate_left; (focus (intro w' hSw; (try dsimp only at hSw); go_simp; (try with_reducible rfl))); (try simp only [Act.put, List.setIfInBounds_toArray, List.set_cons_zero, List.set_cons_succ]))
  (refine wpHead_take 8 (by kernel_rfl) (fun _ _ _ _ _ h => h) (by assumption) ?_; simp only [atOp]; refine ⟨by rfl, ?_, ?_, ?_⟩; rotate_left; (focus (intro w' hSw; (try dsimp only at hSw); go_simp; (try with_reducible rfl))); (try simp only [Act.put, List.setIfInBounds_toArray, List.set_cons_zero, List.set_cons_succ]))
  (refine wpHead_only 4 (by kernel_rfl) ?_; simp only [atOp]; intro K hK; go_simp; ((go_at_call 42; refine (integer_Mul _ _ _ _ _ _ _ (ha.ext (by exact exttI)) (hc.ext (by exact exttI)) (by omega) (by omega)).mono ?_; rintro e w5 ⟨vx, rfl, hx, hEx⟩; obtain ⟨nx, ax, kx, cx, rfl⟩ := IsInt.form hx); have hX5 := (show Ext w3 w5 by exact exttI)); refine hK.out _ _ ?_ (fun hHeld => ?_); (focus (show Ext _ _; exact exttI)); clear hK K; (try simp only [Act.put, List.setIfInBounds_toArray, List.set_cons_zero, List.set_cons_succ]))
  (refine wpHead_only 9 (by kernel_rfl) ?_; simp only [atOp]; intro K hK; go_simp; ((go_at_call 42; refine (integer_Mul _ _ _ _ _ _ _ (hb.ext (by exact exttI)) (hd.ext (by exact exttI)) (by omega) (by omega)).mono ?_; rintro e w6 ⟨vy, rfl, hy, hEy⟩; obtain ⟨ny, ay, ky, cy, rfl⟩ := IsInt.form hy); have hX6 := (show Ext w3 w6 by exact exttI)); refine hK.out _ _ ?_ (fun hHeld => ?_); (focus (show Ext _ _; exact exttI)); clear hK K; (try simp only [Act.put, List.setIfInBounds_toArray, List.set_cons_zero, List.set_cons_succ]))
  (refine wpHead_only 10 (by kernel_rfl) ?_; simp only [atOp]; intro K hK; go_simp; ((go_at_call 41; refine (rational_reduce _ _ _ _ _ _ (hx.ext (by exact exttI)) (hy.ext (by exact exttI)) (by omega) (by have := a.den_pos; have := b.den_pos; exact Int.mul_ne_zero (by omega) (by omega))).mono ?_; rintro e w7 ⟨vz, rfl, hz, hEz⟩; obtain ⟨nzn, azn, kzn, czn, nzd, azd, kzd, czd, rfl, _, _⟩ := IsRat.form hz); have hX7 := (show Ext w3 w7 by exact exttI)); refine hK.out _ _ ?_ (fun hHeld => ?_); (focus (show Ext _ _; exact exttI)); clear hK K; (try simp only [Act.put, List.setIfInBounds_toArray, List.set_cons_zero, List.set_cons_succ]))
  (refine wpHead_done (by kernel_rfl) ?_; simp only [List.drop_succ_cons, List.drop_zero])
  have hE9 : Ext w w7 := by exact exttI
  have k3 := hX7.blk h3
  have hbxr : Box _ r := Box.mk k3 rfl
  obtain ⟨Rr0, Fr0⟩ := rulesR (rs := [r]) k3 (by simp) 0 (by simp)
  obtain ⟨Rr1, Fr1⟩ := rulesR (rs := [r]) k3 (by simp) 1 (by simp)
  obtain ⟨Rr2, Fr2⟩ := rulesR (rs := [r]) k3 (by simp) 2 (by simp)
  obtain ⟨Rr3, Fr3⟩ := rulesR (rs := [r]) k3 (by simp) 3 (by simp)
  have hB : But [r] w7 w7 := by exact buttI
  have hBr0 := Rr0 _ hB
  have hBr1 := Rr1 _ hB
  have hBr2 := Rr2 _ hB
  have hBr3 := Rr3 _ hB
  have hFr0 := Fr0 _ hB
  have hFr1 := Fr1 _ hB
  have hFr2 := Fr2 _ hB
  have hFr3 := Fr3 _ hB
  go_wp2_with fail
  refine NoPanic.normal ?_
  go_wp2_with fail
  exact bodyPost_ret (v := .agg #[.bool nzn, .slice azn kzn czn, .bool nzd, .slice azd kzd czd]) (by simp [results, Tryd.results27, go_sem, hBr0, hBr1, hBr2, hBr3]) rfl ⟨_, rfl, IsRat.put4 hB (by simp) (hz.cast (by rw [← Rat.divInt_mul_divInt, Rat.num_divInt_den, Rat.num_divInt_den])), (((((hB.set _ _ rfl (by simp)).set _ _ rfl (by simp)).set _ _ rfl (by simp)).set _ _ rfl (by simp)).old hE9 (by simp; omega))⟩
end Go.Proofs.YtechjiiijiipdaaDoor

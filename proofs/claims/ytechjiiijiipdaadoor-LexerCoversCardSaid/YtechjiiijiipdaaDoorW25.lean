/- Walk: lexer.Length. -/
import Derived.Test.YtechjiiijiipdaaDoorW24
namespace Go.Proofs.YtechjiiijiipdaaDoor
open Go.RowKit
set_option linter.unusedSimpArgs false
set_option linter.unusedVariables false
theorem isDec_le {l : List UInt8} (h : isDec l = true) : l.length ≤ 65536 := by
  obtain ⟨_, _, _, _, _, _, h, _⟩ := digF_ok h
  exact h
attribute [local irreducible] IsInt U32s Dig Norm Own IsRat AllD dec digF isDec decQ
set_option maxRecDepth 100000 in
set_option maxHeartbeats 2000000 in
theorem lexer_Length_ok (w : World) (pos : Int) (x : ByteArray) (h : isDec x.data.toList = true) :
    Calls Tryd.prog 13 #[.agg #[.int .i64 2, .int .i64 pos, .string x]] w fun e w' => ∃ v, e = .returned (.tuple #[v, .bool true]) ∧ IsRat (x.size / 9 + 103) w' v (decQ x.data.toList * 1000) ∧ Ext w w' := by
  have hx6 : x.size ≤ 65536 := by rw [Lib.size_eq]; exact isDec_le h
  have HP := Lib.hid (fun w => decimal_Parse_ok x w (by omega) h)
  clear h
  go_enter Tryd.func13, Tryd.ntmps13
  go_upto_region 1 with (fail)
  obtain ⟨w3, p, r, e1, e2, e3, h1, h3, hpr, hE⟩ := box2 w (.cells #[.int .i64 2, .int .i64 pos, .string x] 28) (.cells #[.bool false, .slice none 0 0, .bool false, .slice none 0 0] 38)
  rw [e1, e2, e3]
  have hr0 : w.heap.size ≤ r := by omega
  clear e1 e2 e3
  obtain ⟨Rp0, _⟩ := rules h1 0 _ rfl
  obtain ⟨Rp1, _⟩ := rules h1 1 _ rfl
  obtain ⟨Rp2, _⟩ := rules h1 2 _ rfl
  have hX3 := Ext.rfl' w3
  go_upto_region 6 with (go_at_call 23; refine (HP.out _).mono ?_; rintro e w5 ⟨vx, rfl, hx, hE5⟩; obtain ⟨nxn, axn, kxn, cxn, nxd, axd, kxd, cxd, rfl, _, _⟩ := IsRat.form hx)
  obtain ⟨w6, q, f1, f2, k2, hE6⟩ := box1 w5 (.cells #[.bool nxn, .slice axn kxn cxn, .bool nxd, .slice axd kxd cxd] 38)
  rw [f1, f2]
  clear f1 f2
  have hX6 := (show Ext w3 w6 by exact exttI)
  replace h3 := hX6.blk h3
  replace hE := hE.trans' hX6
  replace hx := hx.ext hE6
  clear HP hX3 hX6 hE6 hE5 Rp0 Rp1 Rp2
  obtain ⟨Rq0, _⟩ := rules k2 0 _ rfl
  obtain ⟨Rq1, _⟩ := rules k2 1 _ rfl
  obtain ⟨Rq2, _⟩ := rules k2 2 _ rfl
  obtain ⟨Rq3, _⟩ := rules k2 3 _ rfl
  obtain ⟨Rr0, Fr0⟩ := rules h3 0 _ rfl
  obtain ⟨Rr1, Fr1⟩ := rules h3 1 _ rfl
  obtain ⟨Rr2, Fr2⟩ := rules h3 2 _ rfl
  obtain ⟨Rr3, Fr3⟩ := rules h3 3 _ rfl
  (refine wp_region_noPanic ?_; refine wp_region_head 3 (fun w' => Ext w6 w') (by kernel_rfl) (by kernel_rfl) ?_ (fun hHeld => ?_); (focus (show Ext _ _; exact exttI)); (try simp only [List.size_toArray, List.length_cons, List.length_nil]))
  (refine wpHead_take 0 (by kernel_rfl) (fun _ _ _ _ _ h => h) (by assumption) ?_; simp only [atOp]; refine ⟨by rfl, ?_, ?_, ?_⟩; rotate_left; (focus (intro w' hSw; (try dsimp only at hSw); go_simp; (try with_reducible rfl))); (try simp only [Act.put, List.setIfInBounds_toArray, List.set_cons_zero, List.set_cons_succ]))
  (refine wpHead_only 1 (by kernel_rfl) ?_; simp only [atOp]; intro K hK; go_simp; ((go_at_call 28; refine (rational_FromInt64 _ 1000 (by omega) (by omega)).mono ?_; rintro e w7 ⟨vy, rfl, hy, hEy⟩; obtain ⟨nyn, ayn, kyn, cyn, nyd, ayd, kyd, cyd, rfl, _, _⟩ := IsRat.form hy); have hXw7 := (show Ext w6 w7 by exact exttI)); refine hK.out _ _ ?_ (fun hHeld => ?_); (focus (show Ext _ _; exact exttI)); clear hK K; (try simp only [Act.put, List.setIfInBounds_toArray, List.set_cons_zero, List.set_cons_succ]))
  (refine wpHead_only 2 (by kernel_rfl) ?_; simp only [atOp]; intro K hK; go_simp; ((go_at_call 27; refine (rational_Mul _ _ _ _ _ _ _ (hx.ext (by exact exttI)) (hy.ext (by exact exttI)) (by omega)).mono ?_; rintro e w8 ⟨vz, rfl, hz, hEz⟩; obtain ⟨nzn, azn, kzn, czn, nzd, azd, kzd, czd, rfl, _, _⟩ := IsRat.form hz); have hXw8 := (show Ext w6 w8 by exact exttI)); refine hK.out _ _ ?_ (fun hHeld => ?_); (focus (show Ext _ _; exact exttI)); clear hK K; (try simp only [Act.put, List.setIfInBounds_toArray, List.set_cons_zero, List.set_cons_succ]))
  (refine wpHead_done (by kernel_rfl) ?_; simp only [List.drop_succ_cons, List.drop_zero])
  have hE9 : Ext w w8 := by exact exttI
  have k9 := hXw8.blk h3
  have hbx : Box w8 r := Box.mk k9 rfl
  have hB : But [r] w8 w8 := by exact buttI
  have hBr0 := Rr0 _ hXw8
  have hBr1 := Rr1 _ hXw8
  have hBr2 := Rr2 _ hXw8
  have hBr3 := Rr3 _ hXw8
  have hF0 := Fr0 _ hXw8
  have hF1 := Fr1 _ hXw8
  have hF2 := Fr2 _ hXw8
  have hF3 := Fr3 _ hXw8
  go_wp2_with fail
  refine NoPanic.normal ?_
  go_wp2_with fail
  exact bodyPost_ret (v := .tuple #[.agg #[.bool nzn, .slice azn kzn czn, .bool nzd, .slice azd kzd czd], .bool true]) (by simp [results, Tryd.results13, go_sem, hBr0, hBr1, hBr2, hBr3]) rfl ⟨_, rfl, IsRat.put4 hB (by simp) ((hz.mono (by omega)).cast rfl), (((((hB.set _ _ rfl (by simp)).set _ _ rfl (by simp)).set _ _ rfl (by simp)).set _ _ rfl (by simp)).old hE9 (by simp; omega))⟩
end Go.Proofs.YtechjiiijiipdaaDoor

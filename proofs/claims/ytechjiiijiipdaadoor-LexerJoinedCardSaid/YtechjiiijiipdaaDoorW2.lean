/- Walk: plus. -/
import Derived.Test.YtechjiiijiipdaaDoorNum
namespace Go.Proofs.YtechjiiijiipdaaDoor
open Go.RowKit
set_option linter.unusedSimpArgs false
set_option linter.unusedVariables false

set_option maxRecDepth 100000 in
set_option maxHeartbeats 1000000 in
theorem integer_plus (w : World) (v u : Value) (l m : List Nat) (hv : U32s w v l) (hu : U32s w u m) (hl : Dig l) (hm : Dig m) (hs : l.length < 1000000) (hs2 : m.length < 1000000) :
    Calls Tryd.prog 96 #[v, u] w fun e w' => ∃ v' r, e = .returned v' ∧ U32s w' v' r ∧ Dig r ∧ val r = val l + val m ∧ r.length ≤ max l.length m.length + 1 ∧ Ext w w' := by
  obtain ⟨a, c, rfl, hc, hn⟩ := hv.shape
  obtain ⟨a2, c2, rfl, hc2, hn2⟩ := hu.shape
  go_enter Tryd.func96, Tryd.ntmps96
  go_upto_if 13 with (fail)
  go_cut [0, 1] (fun s t w' => ∃ (X Y : List Nat), U32s w s X ∧ U32s w t Y ∧ Dig X ∧ Dig Y ∧ Y.length ≤ X.length ∧ Hid (val X + val Y = val l + val m) ∧ Hid (X.length = max l.length m.length) ∧ w' = w)
  case first =>
    by_cases h : l.length < m.length
    · have b2 : decide (l.length < m.length) = true := by simpa using h
      go_wp2
      go_meet
      exact ⟨m, l, hu, hv, hm, hl, by omega, by unfold Hid; omega, by unfold Hid; omega, rfl⟩
    · have b2 : decide (l.length < m.length) = false := by simpa using h
      go_wp2
      go_meet
      exact ⟨l, m, hv, hu, hl, hm, by omega, rfl, by unfold Hid; omega, rfl⟩
  case rest =>
    obtain ⟨X, Y, hX, hY, dX, dY, hle, hval, hlen, rfl⟩ := hcut
    obtain ⟨a, c, rfl, hc, hn⟩ := hX.shape
    obtain ⟨a2, c2, rfl, hc2, hn2⟩ := hY.shape
    have hX1 : X.length < 1000000 := by have := hlen.out; omega
    clear hv hu hl hm
    go_wp2_with (refine wpList_make0 rfl _ _ rfl (n := X.length + 1) rfl rfl (by omega) (by omega) ?_; intro w1 hown hE)
    go_loopw [5, 6, 22] (fun o cr i w' => ∃ (k c0 : Nat) (r : List Nat), k ≤ X.length ∧ i = .int .i64 k ∧ cr = .int .u32 c0 ∧ c0 ≤ 1 ∧ Hid (r.length = k) ∧ Dig r ∧ Own wc.heap.size w' o r ∧
        Hid (val r + 1000000000 ^ k * c0 = val (X.take k) + val (Y.take k)) ∧ Ext wc w') (fun _ _ i _ => X.length - (intOf i).toNat)
    case atStart => exact ⟨0, 0, [], Nat.zero_le _, rfl, rfl, Nat.zero_le _, rfl, Dig.nil, hown, by simp [Hid, val], hE⟩
    case round =>
      obtain ⟨k, c0, r, hk, rfl, rfl, hc0, hr, dr, hown, hinv, hE⟩ := hrel
      have hX' := hX.ext hE
      have hY' := hY.ext hE
      have hr' : r.length < 4000000 := by have := hr.out; omega
      by_cases hlt : k < X.length
      · obtain ⟨b, o, rfl, _, hc1⟩ := hX'.cell hlt
        have hx : (X.getD k 0 : Int) < 1000000000 := by have := dX.getD k; omega
        have hy : (Y.getD k 0 : Int) < 1000000000 := by have := dY.getD k; omega
        have step := fun d c' => Lib.hid (@plus_step X Y r k c0 d c' hr.out hinv.out)
        generalize X.getD k 0 = x at *
        by_cases hky : k < Y.length
        · obtain ⟨b2, o2, rfl, _, hc2⟩ := hY'.cell hky
          generalize Y.getD k 0 = y at *
          by_cases hge : (1000000000 : Int) ≤ (x : Int) + c0 + y
          · go_wp2_with (at_builtin; refine wpList_app1 rfl _ _ rfl rfl rfl hown (d := x + c0 + y - 1000000000) (by omega) hr' (by exact hE.size) ?_; intro v' w' hown' hg')
            go_roundw
            case rel => exact ⟨k + 1, 1, r ++ [x + c0 + y - 1000000000], by omega, by go_num, rfl, by omega, Lib.hid (by rw [List.length_append, hr.out]; rfl), Dig.append.2 ⟨dr, by simp [Dig]; omega⟩, hown', (step _ 1).out (by omega), (hE.alloc' _).grown' hg' hown.block⟩
            case measure => simp [intOf]; omega
          · go_wp2_with (at_builtin; refine wpList_app1 rfl _ _ rfl rfl rfl hown (d := x + c0 + y) (by omega) hr' (by exact hE.size) ?_; intro v' w' hown' hg')
            go_roundw
            case rel => exact ⟨k + 1, 0, r ++ [x + c0 + y], by omega, by go_num, rfl, by omega, Lib.hid (by rw [List.length_append, hr.out]; rfl), Dig.append.2 ⟨dr, by simp [Dig]; omega⟩, hown', (step _ 0).out (by omega), (hE.alloc' _).grown' hg' hown.block⟩
            case measure => simp [intOf]; omega
        · have hy0 : Y.getD k 0 = 0 := getD_len (by omega)
          rw [hy0] at hy step
          by_cases hge : (1000000000 : Int) ≤ (x : Int) + c0
          · go_wp2_with (at_builtin; refine wpList_app1 rfl _ _ rfl rfl rfl hown (d := x + c0 - 1000000000) (by omega) hr' (by exact hE.size) ?_; intro v' w' hown' hg')
            go_roundw
            case rel => exact ⟨k + 1, 1, r ++ [x + c0 - 1000000000], by omega, by go_num, rfl, by omega, Lib.hid (by rw [List.length_append, hr.out]; rfl), Dig.append.2 ⟨dr, by simp [Dig]; omega⟩, hown', (step _ 1).out (by omega), (hE.alloc' _).grown' hg' hown.block⟩
            case measure => simp [intOf]; omega
          · go_wp2_with (at_builtin; refine wpList_app1 rfl _ _ rfl rfl rfl hown (d := x + c0) (by omega) hr' (by exact hE.size) ?_; intro v' w' hown' hg')
            go_roundw
            case rel => exact ⟨k + 1, 0, r ++ [x + c0], by omega, by go_num, rfl, by omega, Lib.hid (by rw [List.length_append, hr.out]; rfl), Dig.append.2 ⟨dr, by simp [Dig]; omega⟩, hown', (step _ 0).out (by omega), (hE.alloc' _).grown' hg' hown.block⟩
            case measure => simp [intOf]; omega
      · have e : k = X.length := by omega
        subst e
        have hfin := Lib.hid (plus_end hr.out hle hinv.out)
        go_wp2_with (at_builtin; refine wpList_app1 rfl _ _ rfl rfl rfl hown (d := c0) rfl hr' (by exact hE.size) ?_; intro v' w' hown' hg')
        go_ret
        have hd : Dig (r ++ [c0]) := Dig.append.2 ⟨dr, by simp [Dig]; omega⟩
        exact ⟨_, r ++ [c0], rfl, hown'.u32 hd.u32 (by simp; omega), hd, by rw [hfin.out, hval.out], by rw [List.length_append, hr.out, hlen.out]; simp, (hE.alloc' _).grown' hg' hown.block⟩
end Go.Proofs.YtechjiiijiipdaaDoor

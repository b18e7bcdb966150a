/- Walk: byWord, subtract, restore. -/
import Derived.Test.YtechjiiijiipdaaDoorNum
namespace Go.Proofs.YtechjiiijiipdaaDoor
open Go.RowKit
set_option linter.unusedSimpArgs false
set_option linter.unusedVariables false

set_option maxRecDepth 100000 in
set_option maxHeartbeats 1000000 in
theorem integer_byWord (w : World) (v : Value) (l : List Nat) (b : Nat) (hv : U32s w v l) (hl : Dig l) (hs : l.length < 1000000) (hb0 : 0 < b) (hb1 : b < 1000000000) :
    Calls Tryd.prog 85 #[v, .int .u32 b] w fun e w' => ∃ v1 v2 q m, e = .returned (.tuple #[v1, v2]) ∧ U32s w' v1 q ∧ U32s w' v2 [m] ∧ Dig q ∧ m < b ∧ val q * b + m = val l ∧ q.length = l.length ∧ Ext w w' := by
  obtain ⟨a, c, rfl, hc, hn⟩ := hv.shape
  have hb0' : 0 < (b : Int) := by omega
  have hb1' : (b : Int) < 1000000000 := by omega
  have hbz : ((b : Int) == 0) = false := by simp; omega
  go_enter Tryd.func85, Tryd.ntmps85
  go_wp2_with (refine wpList_make32 rfl _ _ rfl (n := l.length) rfl rfl rfl rfl (by omega) ?_; intro w1 hown hE)
  go_loopw [7, 8] (fun rs i w' => ∃ (j : Int) (m : Nat) (r : List Nat), -1 ≤ j ∧ j < (l.length : Int) ∧ i = .int .i64 j ∧ rs = .int .u64 m ∧ (m : Int) < b ∧ Hid (r.length = l.length) ∧ Dig r ∧
      Own w.heap.size w' (.slice (some ⟨w.heap.size, 0, none⟩) l.length l.length) r ∧ Hid (val (r.drop (j + 1).toNat) * b + m = val (l.drop (j + 1).toNat)) ∧ Ext w w') (fun _ i _ => (intOf i + 1).toNat)
  case atStart => exact ⟨(l.length : Int) - 1, 0, List.replicate l.length 0, by omega, by omega, rfl, rfl, by omega, Lib.hid (by simp), Dig.zeros _, hown, Lib.hid (by rw [List.drop_of_length_le (by simp), List.drop_of_length_le (by omega)]; simp [val]), hE⟩
  case round =>
    obtain ⟨j, m, r, hj0, hj1, rfl, rfl, hm, hr, dr, hown, hinv, hE⟩ := hrel
    by_cases hj : j = -1
    · subst hj
      go_wp2
      go_ret2
      have h0 := hinv.out
      simp only [show (-1 + 1 : Int).toNat = 0 from rfl, List.drop_zero] at h0
      exact ⟨_, _, r, m, rfl, (hown.alloc _).u32 dr.u32 (by have := hr.out; omega), U32s.lit1 _ m (by omega), dr, by omega, h0, hr.out, hE.alloc' _⟩
    · obtain ⟨k, rfl⟩ : ∃ k : Nat, j = k := ⟨j.toNat, by omega⟩
      have hk : k < l.length := by omega
      have hk1 : (k : Int) < (l.length : Int) := by omega
      have hk0 : 0 ≤ (k : Int) := by omega
      obtain ⟨b', o, rfl, _, hc1⟩ := (hv.ext hE).cell hk
      obtain ⟨hcell, hfroz⟩ := hown.at hr.out hk
      have hx : (l.getD k 0 : Int) < 1000000000 := by have := hl.getD k; omega
      have step := Lib.hid (fun t => @byWord_step l r k b m t (by rw [hr.out]; exact hk) hk hinv.out)
      generalize l.getD k 0 = x at *
      have hdig := Lib.hid (@byWord_dig m x b (by omega) (by omega))
      go_wp2
      go_region
      all_goals go_wp2
      have hq : ((m : Int) * 1000000000 + x) / (b : Int) % 4294967296 = (((m * 1000000000 + x) / b : Nat) : Int) := by
        rw [show ((m : Int) * 1000000000 + x) / (b : Int) = (((m * 1000000000 + x) / b : Nat) : Int) from by simp]
        have := hdig.out
        generalize (m * 1000000000 + x) / b = q at *
        omega
      have hq2 : ((m : Int) * 1000000000 + x) % (b : Int) = (((m * 1000000000 + x) % b : Nat) : Int) := by simp
      go_roundw
      case rel => exact ⟨(k : Int) - 1, (m * 1000000000 + x) % b, r.set k ((m * 1000000000 + x) / b), by omega, by omega, rfl, by rw [hq2], by have := Nat.mod_lt (m * 1000000000 + x) hb0; omega, Lib.hid (by rw [List.length_set, hr.out]), dr.set hdig.out,
        (hown.stored hr.out k hq).drew, Lib.hid (by rw [show ((k : Int) - 1 + 1).toNat = k by omega]; exact step.out _ rfl), (hE.set' (Nat.le_refl _) _).drew'⟩
      case measure => simp only [intOf]; omega

/-- Of a slice's own address. -/
def Far (g : Nat) (v : Value) : Prop := ∀ a n c, v = .slice (some a) n c → a.block ≠ g
theorem U32s.only {w w' : World} {v : Value} {l : List Nat} {g : Nat} (h : U32s w v l) (hf : Far g v) (e : w.grownBy w' (some g)) : U32s w' v l := by
  obtain ⟨a, c, rfl, hc, hb, hn, hz, h⟩ := h
  refine ⟨a, c, rfl, hc, hb, hn, hz, ?_⟩
  rcases h with h | ⟨b, o, rfl, hlt, h⟩
  · exact .inl h
  · have hne : b ≠ g := hf _ _ _ rfl
    refine .inr ⟨b, o, rfl, Nat.lt_of_lt_of_le hlt e.size, fun i hi => ?_⟩
    rw [World.cell?_of_block (w := w) (e.block b hlt (by simp; omega))]
    exact h i hi
theorem only_refl (w : World) (r : Option Nat) : w.grownBy w r := World.grownBy.refl w r
theorem only_set {w w' : World} {g o : Nat} (h : w.grownBy w' (some g)) (u : Value) : w.grownBy (w'.setCell ⟨g, o, none⟩ u) (some g) :=
  ⟨h.os, h.tape, h.output, Nat.le_trans h.size (by simp [World.setCell]), fun k hk hne => (Below.heap_setCell w' ⟨g, o, none⟩ u k (by simpa using hne)).trans (h.block k hk hne)⟩
theorem only_drewN {w w' : World} {r : Option Nat} (h : w.grownBy w' r) (n : Nat) : w.grownBy (w'.drewN n) r := ⟨h.os, h.tape, h.output, h.size, h.block⟩

set_option maxRecDepth 100000 in
set_option maxHeartbeats 2000000 in
theorem integer_subtract (w : World) (base g k n N C c : Nat) (u : Value) (U V : List Nat) (f : Nat) (hown : Own base w (.slice (some ⟨g, 0, none⟩) N C) U) (hU : U.length = N) (dU : Dig U) (hkn : k + n ≤ N) (hN : N < 2000000)
    (hu : U32s w u V) (hV : Dig V) (hfar : Far g u) (hVn : V.length ≤ n) (hf : f < 1000000000) :
    Calls Tryd.prog 86 #[.slice (some ⟨g, k, none⟩) n c, u, .int .u64 f] w fun e w' => ∃ R o, e = .returned (.bool (decide (0 < o))) ∧ Own base w' (.slice (some ⟨g, 0, none⟩) N C) R ∧ R.length = N ∧ Dig R ∧ R.take k = U.take k ∧
      R.drop (k + n) = U.drop (k + n) ∧ val ((R.drop k).take n) + f * val V = val ((U.drop k).take n) + 1000000000 ^ n * o ∧ w.grownBy w' (some g) := by
  obtain ⟨a2, c2, rfl, hc2, hn2⟩ := hu.shape
  have hf' : (f : Int) < 1000000000 := by omega
  have HU := Lib.hid hU
  clear hU
  go_enter Tryd.func86, Tryd.ntmps86
  go_wp2
  go_loopw [7, 8, 15] (fun cr br i w' => ∃ (j c b : Nat) (R : List Nat), j ≤ n ∧ i = .int .i64 j ∧ cr = .int .u64 c ∧ br = .int .u64 b ∧ (c : Int) < 1000000000 ∧ b ≤ 1 ∧ Own base w' (.slice (some ⟨g, 0, none⟩) N C) R ∧ Hid (R.length = N) ∧ Dig R ∧
      Hid (R.take k = U.take k) ∧ Hid (R.drop (k + j) = U.drop (k + j)) ∧ Hid (val ((R.drop k).take j) + f * val (V.take j) = val ((U.drop k).take j) + 1000000000 ^ j * (c + b)) ∧ w.grownBy w' (some g)) (fun _ _ i _ => n - (intOf i).toNat)
  case atStart => exact ⟨0, 0, 0, U, Nat.zero_le _, rfl, rfl, rfl, by omega, by omega, hown, HU, dU, rfl, rfl, by simp [Hid, val], only_refl _ _⟩
  case round =>
    clear hown dU
    obtain ⟨j, c0, b0, R, hj, rfl, rfl, rfl, hc0, hb0, hown, hR, dR, ht, hd, hinv, hE⟩ := hrel
    by_cases hlt : j < n
    · obtain ⟨hcell, hfroz⟩ := hown.at (k := k + j) hR.out (by omega)
      rw [seg_get hd.out] at hcell
      have step := Lib.hid (fun d b' t => @sub_step R U V k j c0 b0 f d b' t (by rw [hR.out]; omega) hinv.out)
      have hx : (U.getD (k + j) 0 : Int) < 1000000000 := by have := dR.getD (k + j); rw [seg_get hd.out] at this; omega
      have hy : (V.getD j 0 : Int) < 1000000000 := by have := hV.getD j; omega
      by_cases hjv : j < V.length
      · obtain ⟨b2, o2, rfl, _, hcv⟩ := (hu.only hfar hE).cell hjv
        generalize U.getD (k + j) 0 = x at *
        generalize V.getD j 0 = y at *
        have hcar := Lib.hid (@sub_carry c0 y f (by omega) (by omega) hf)
        have hxy : (y : Int) * (f : Int) ≤ 999999998000000001 := by
          have h1 := hcar.out.2
          have h2 : ((y * f : Nat) : Int) = (y : Int) * (f : Int) := by simp
          omega
        have hxy0 : 0 ≤ (y : Int) * (f : Int) := Int.mul_nonneg (by omega) (by omega)
        have hcar1 := hcar.out.1
        by_cases hge : (x : Int) < ((c0 : Int) + y * f) % 1000000000 + b0
        · go_wp2
          go_roundw
          case rel => exact ⟨j + 1, (c0 + y * f) / 1000000000, 1, R.set (k + j) (x + 1000000000 - ((c0 + y * f) % 1000000000 + b0)), by omega, by go_num, by go_num, rfl, by omega, by omega, hown.stored hR.out (k + j) (by omega), Lib.hid (by rw [List.length_set, hR.out]), dR.set (by omega),
            Lib.hid (seg_take ht.out), Lib.hid (seg_drop hd.out), Lib.hid (step.out _ 1 _ rfl (by omega)), only_set hE _⟩
          case measure => simp only [intOf]; omega
        · go_wp2
          go_roundw
          case rel => exact ⟨j + 1, (c0 + y * f) / 1000000000, 0, R.set (k + j) (x - ((c0 + y * f) % 1000000000 + b0)), by omega, by go_num, by go_num, rfl, by omega, by omega, hown.stored hR.out (k + j) (by omega), Lib.hid (by rw [List.length_set, hR.out]), dR.set (by omega),
            Lib.hid (seg_take ht.out), Lib.hid (seg_drop hd.out), Lib.hid (step.out _ 0 _ rfl (by omega)), only_set hE _⟩
          case measure => simp only [intOf]; omega
      · rw [getD_len (l := V) (k := j) (by omega)] at hy step
        simp only [Nat.zero_mul, Nat.add_zero] at step
        generalize U.getD (k + j) 0 = x at *
        by_cases hge : (x : Int) < (c0 : Int) % 1000000000 + b0
        · go_wp2
          go_roundw
          case rel => exact ⟨j + 1, (c0) / 1000000000, 1, R.set (k + j) (x + 1000000000 - (c0 % 1000000000 + b0)), by omega, by go_num, by go_num, rfl, by omega, by omega, hown.stored hR.out (k + j) (by omega), Lib.hid (by rw [List.length_set, hR.out]), dR.set (by omega),
            Lib.hid (seg_take ht.out), Lib.hid (seg_drop hd.out), Lib.hid (step.out _ 1 _ rfl (by omega)), only_set hE _⟩
          case measure => simp only [intOf]; omega
        · go_wp2
          go_roundw
          case rel => exact ⟨j + 1, (c0) / 1000000000, 0, R.set (k + j) (x - (c0 % 1000000000 + b0)), by omega, by go_num, by go_num, rfl, by omega, by omega, hown.stored hR.out (k + j) (by omega), Lib.hid (by rw [List.length_set, hR.out]), dR.set (by omega),
            Lib.hid (seg_take ht.out), Lib.hid (seg_drop hd.out), Lib.hid (step.out _ 0 _ rfl (by omega)), only_set hE _⟩
          case measure => simp only [intOf]; omega
    · have e : j = n := by omega
      subst e
      have hfin := hinv
      rw [List.take_of_length_le hVn] at hfin
      by_cases hb : b0 = 0
      · subst hb
        by_cases hc : c0 = 0
        · subst hc
          go_wp2
          go_ret
          exact ⟨R, 0 + 0, by rw [show decide (0 < 0 + 0) = false by simp; try omega]; first | rfl | (simp; omega), hown, hR.out, dR, ht.out, hd.out, hfin.out, hE⟩
        · have h1 : 0 < (c0 : Int) := by omega
          go_wp2
          go_ret
          exact ⟨R, c0 + 0, by rw [show decide (0 < c0 + 0) = true by simp; try omega]; first | rfl | (simp; omega), hown, hR.out, dR, ht.out, hd.out, hfin.out, hE⟩
      · have h1 : 0 < (b0 : Int) := by omega
        go_wp2
        go_ret
        exact ⟨R, c0 + b0, by rw [show decide (0 < c0 + b0) = true by simp; try omega]; first | rfl | (simp; omega), hown, hR.out, dR, ht.out, hd.out, hfin.out, hE⟩

set_option maxRecDepth 100000 in
set_option maxHeartbeats 2000000 in
theorem integer_restore (w : World) (base g k n N C c : Nat) (u : Value) (U V : List Nat) (hown : Own base w (.slice (some ⟨g, 0, none⟩) N C) U) (hU : U.length = N) (dU : Dig U) (hkn : k + n ≤ N) (hN : N < 2000000)
    (hu : U32s w u V) (hV : Dig V) (hfar : Far g u) (hVn : V.length ≤ n) :
    Calls Tryd.prog 87 #[.slice (some ⟨g, k, none⟩) n c, u] w fun e w' => ∃ R o, e = .returned (.tuple #[]) ∧ Own base w' (.slice (some ⟨g, 0, none⟩) N C) R ∧ R.length = N ∧ Dig R ∧ R.take k = U.take k ∧
      R.drop (k + n) = U.drop (k + n) ∧ val ((R.drop k).take n) + 1000000000 ^ n * o = val ((U.drop k).take n) + val V ∧ w.grownBy w' (some g) := by
  obtain ⟨a2, c2, rfl, hc2, hn2⟩ := hu.shape
  have HU := Lib.hid hU
  clear hU
  go_enter Tryd.func87, Tryd.ntmps87
  go_wp2
  go_loopw [4, 9] (fun cr i w' => ∃ (j c : Nat) (R : List Nat), j ≤ n ∧ i = .int .i64 j ∧ cr = .int .u32 c ∧ c ≤ 1 ∧ Own base w' (.slice (some ⟨g, 0, none⟩) N C) R ∧ Hid (R.length = N) ∧ Dig R ∧
      Hid (R.take k = U.take k) ∧ Hid (R.drop (k + j) = U.drop (k + j)) ∧ Hid (val ((R.drop k).take j) + 1000000000 ^ j * c = val ((U.drop k).take j) + val (V.take j)) ∧ w.grownBy w' (some g)) (fun _ i _ => n - (intOf i).toNat)
  case atStart => exact ⟨0, 0, U, Nat.zero_le _, rfl, rfl, by omega, hown, HU, dU, rfl, rfl, by simp [Hid, val], only_refl _ _⟩
  case round =>
    clear hown dU
    obtain ⟨j, c0, R, hj, rfl, rfl, hc0, hown, hR, dR, ht, hd, hinv, hE⟩ := hrel
    by_cases hlt : j < n
    · obtain ⟨hcell, hfroz⟩ := hown.at (k := k + j) hR.out (by omega)
      rw [seg_get hd.out] at hcell
      have step := Lib.hid (fun d c' => @add_step R U V k j c0 d c' (by rw [hR.out]; omega) hinv.out)
      have hx : (U.getD (k + j) 0 : Int) < 1000000000 := by have := dR.getD (k + j); rw [seg_get hd.out] at this; omega
      have hy : (V.getD j 0 : Int) < 1000000000 := by have := hV.getD j; omega
      by_cases hjv : j < V.length
      · obtain ⟨b2, o2, rfl, _, hcv⟩ := (hu.only hfar hE).cell hjv
        generalize U.getD (k + j) 0 = x at *
        generalize V.getD j 0 = y at *
        by_cases hge : (1000000000 : Int) ≤ (x : Int) + c0 + y
        · go_wp2
          go_roundw
          case rel => exact ⟨j + 1, 1, R.set (k + j) (x + c0 + y - 1000000000), by omega, by go_num, rfl, by omega, hown.stored hR.out (k + j) (by omega), Lib.hid (by rw [List.length_set, hR.out]), dR.set (by omega),
            Lib.hid (seg_take ht.out), Lib.hid (seg_drop hd.out), Lib.hid (step.out _ 1 (by omega)), only_set hE _⟩
          case measure => simp only [intOf]; omega
        · go_wp2
          go_roundw
          case rel => exact ⟨j + 1, 0, R.set (k + j) (x + c0 + y), by omega, by go_num, rfl, by omega, hown.stored hR.out (k + j) (by omega), Lib.hid (by rw [List.length_set, hR.out]), dR.set (by omega),
            Lib.hid (seg_take ht.out), Lib.hid (seg_drop hd.out), Lib.hid (step.out _ 0 (by omega)), only_set hE _⟩
          case measure => simp only [intOf]; omega
      · rw [getD_len (l := V) (k := j) (by omega)] at hy step
        generalize U.getD (k + j) 0 = x at *
        by_cases hge : (1000000000 : Int) ≤ (x : Int) + c0
        · go_wp2
          go_roundw
          case rel => exact ⟨j + 1, 1, R.set (k + j) (x + c0 - 1000000000), by omega, by go_num, rfl, by omega, hown.stored hR.out (k + j) (by omega), Lib.hid (by rw [List.length_set, hR.out]), dR.set (by omega),
            Lib.hid (seg_take ht.out), Lib.hid (seg_drop hd.out), Lib.hid (step.out _ 1 (by omega)), only_set hE _⟩
          case measure => simp only [intOf]; omega
        · go_wp2
          go_roundw
          case rel => exact ⟨j + 1, 0, R.set (k + j) (x + c0), by omega, by go_num, rfl, by omega, hown.stored hR.out (k + j) (by omega), Lib.hid (by rw [List.length_set, hR.out]), dR.set (by omega),
            Lib.hid (seg_take ht.out), Lib.hid (seg_drop hd.out), Lib.hid (step.out _ 0 (by omega)), only_set hE _⟩
          case measure => simp only [intOf]; omega
    · have e : j = n := by omega
      subst e
      have hfin := hinv
      rw [List.take_of_length_le hVn] at hfin
      go_wp2
      go_end0
      exact ⟨R, c0, rfl, hown, hR.out, dR, ht.out, hd.out, hfin.out, hE⟩
end Go.Proofs.YtechjiiijiipdaaDoor

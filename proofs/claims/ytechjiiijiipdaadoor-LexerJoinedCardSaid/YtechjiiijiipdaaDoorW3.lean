/- Walk: minus, times. -/
import Derived.Test.YtechjiiijiipdaaDoorNum
namespace Go.Proofs.YtechjiiijiipdaaDoor
open Go.RowKit
set_option linter.unusedSimpArgs false
set_option linter.unusedVariables false

set_option maxRecDepth 100000 in
set_option maxHeartbeats 1000000 in
theorem integer_minus (w : World) (v u : Value) (l m : List Nat) (hv : U32s w v l) (hu : U32s w u m) (hl : Dig l) (hm : Dig m) (hs : l.length < 1000000) (hle : m.length ≤ l.length) (hvl : val m ≤ val l) :
    Calls Tryd.prog 97 #[v, u] w fun e w' => ∃ v' r, e = .returned v' ∧ U32s w' v' r ∧ Dig r ∧ val r = val l - val m ∧ r.length = l.length ∧ Ext w w' := by
  obtain ⟨a, c, rfl, hc, hn⟩ := hv.shape
  obtain ⟨a2, c2, rfl, hc2, hn2⟩ := hu.shape
  go_enter Tryd.func97, Tryd.ntmps97
  go_wp2_with (refine wpList_make32 rfl _ _ rfl (n := l.length) rfl rfl rfl rfl (by omega) ?_; intro w1 hown hE)
  go_loopw [6, 15] (fun cr i w' => ∃ (k c0 : Nat) (r : List Nat), k ≤ l.length ∧ i = .int .i64 k ∧ cr = .int .u32 c0 ∧ c0 ≤ 1 ∧ Hid (r.length = l.length) ∧ Dig r ∧
      Own w.heap.size w' (.slice (some ⟨w.heap.size, 0, none⟩) l.length l.length) r ∧ Hid (val (r.take k) + val (m.take k) = val (l.take k) + 1000000000 ^ k * c0) ∧ Ext w w') (fun _ i _ => l.length - (intOf i).toNat)
  case atStart => exact ⟨0, 0, List.replicate l.length 0, Nat.zero_le _, rfl, rfl, Nat.zero_le _, Lib.hid (by simp), Dig.zeros _, hown, by simp [Hid, val], hE⟩
  case round =>
    obtain ⟨k, c0, r, hk, rfl, rfl, hc0, hr, dr, hown, hinv, hE⟩ := hrel
    by_cases hlt : k < l.length
    · obtain ⟨b, o, rfl, _, hc1⟩ := (hv.ext hE).cell hlt
      obtain ⟨hcell, hfroz⟩ := hown.at hr.out hlt
      have hx : (l.getD k 0 : Int) < 1000000000 := by have := hl.getD k; omega
      have hy : (m.getD k 0 : Int) < 1000000000 := by have := hm.getD k; omega
      have step := fun d c' => Lib.hid (@minus_step l m r k c0 d c' (by rw [hr.out]; exact hlt) hinv.out)
      generalize l.getD k 0 = x at *
      by_cases hky : k < m.length
      · obtain ⟨b2, o2, rfl, _, hc2⟩ := (hu.ext hE).cell hky
        generalize m.getD k 0 = y at *
        by_cases hge : (x : Int) < (c0 : Int) + y
        · go_wp2
          go_roundw
          case rel => exact ⟨k + 1, 1, r.set k (x + 1000000000 - (c0 + y)), by omega, by go_num, rfl, by omega, Lib.hid (by rw [List.length_set, hr.out]), dr.set (by omega), hown.stored hr.out k (by omega), (step _ 1).out (by omega), hE.set' (Nat.le_refl _) _⟩
          case measure => simp [intOf]; omega
        · go_wp2
          go_roundw
          case rel => exact ⟨k + 1, 0, r.set k (x - (c0 + y)), by omega, by go_num, rfl, by omega, Lib.hid (by rw [List.length_set, hr.out]), dr.set (by omega), hown.stored hr.out k (by omega), (step _ 0).out (by omega), hE.set' (Nat.le_refl _) _⟩
          case measure => simp [intOf]; omega
      · rw [getD_len (by omega)] at hy step
        by_cases hge : (x : Int) < (c0 : Int)
        · go_wp2
          go_roundw
          case rel => exact ⟨k + 1, 1, r.set k (x + 1000000000 - c0), by omega, by go_num, rfl, by omega, Lib.hid (by rw [List.length_set, hr.out]), dr.set (by omega), hown.stored hr.out k (by omega), (step _ 1).out (by omega), hE.set' (Nat.le_refl _) _⟩
          case measure => simp [intOf]; omega
        · go_wp2
          go_roundw
          case rel => exact ⟨k + 1, 0, r.set k (x - c0), by omega, by go_num, rfl, by omega, Lib.hid (by rw [List.length_set, hr.out]), dr.set (by omega), hown.stored hr.out k (by omega), (step _ 0).out (by omega), hE.set' (Nat.le_refl _) _⟩
          case measure => simp [intOf]; omega
    · have e : k = l.length := by omega
      subst e
      have hfin := Lib.hid (minus_end hr.out dr hle hvl hinv.out)
      go_wp2
      go_ret
      have hr' := hr.out
      exact ⟨_, r, rfl, hown.u32 dr.u32 (by omega), dr, hfin.out, hr', hE⟩

set_option maxRecDepth 100000 in
set_option maxHeartbeats 1000000 in
theorem integer_times (w : World) (v u : Value) (l m : List Nat) (hv : U32s w v l) (hu : U32s w u m) (hl : Dig l) (hm : Dig m) (hs : l.length < 1000000) (hs2 : m.length < 1000000) :
    Calls Tryd.prog 61 #[v, u] w fun e w' => ∃ g r, e = .returned (.slice (some ⟨g, 0, none⟩) r.length r.length) ∧ w.heap.size ≤ g ∧ g < w'.heap.size ∧ Own g w' (.slice (some ⟨g, 0, none⟩) r.length r.length) r ∧ r.length = l.length + m.length ∧ Dig r ∧ val r = val l * val m ∧ Ext w w' := by
  obtain ⟨a, c, rfl, hc, hn⟩ := hv.shape
  obtain ⟨a2, c2, rfl, hc2, hn2⟩ := hu.shape
  go_enter Tryd.func61, Tryd.ntmps61
  go_wp2_with (refine wpList_make32 rfl _ _ rfl (n := l.length + m.length) rfl rfl (by omega) (by omega) (by omega) ?_; intro w1 hown hE)
  go_loopw [20] (fun i w' => ∃ (k : Nat) (r : List Nat), k ≤ l.length ∧ i = .int .i64 k ∧ Hid (r.length = l.length + m.length) ∧ Dig r ∧
      Own w.heap.size w' (.slice (some ⟨w.heap.size, 0, none⟩) (l.length + m.length) (l.length + m.length)) r ∧ Hid (val r = val (l.take k) * val m) ∧ Hid (∀ j, k + m.length ≤ j → r.getD j 0 = 0) ∧ Ext w w') (fun i _ => l.length - (intOf i).toNat)
  case atStart => exact ⟨0, List.replicate (l.length + m.length) 0, Nat.zero_le _, rfl, Lib.hid (by simp), Dig.zeros _, hown, by simp [Hid, val, val_zeros], Lib.hid (fun j _ => getD_zeros _ _), hE⟩
  case round =>
    obtain ⟨k, r, hk, rfl, hr, dr, hown, hinv, hz, hE⟩ := hrel
    by_cases hlt : k < l.length
    · obtain ⟨b, o, rfl, _, hc1⟩ := (hv.ext hE).cell hlt
      have hx : (l.getD k 0 : Int) < 1000000000 := by have := hl.getD k; omega
      obtain ⟨x, hx'⟩ : ∃ x, l.getD k 0 = x := ⟨_, rfl⟩
      rw [hx'] at hc1 hx
      have HX := Lib.hid hx'
      clear hx'
      go_wp2
      obtain ⟨wo, rfl⟩ : ∃ wo : World, wo = wr := ⟨_, rfl⟩
      go_loopw [8, 27] (fun cr i w' => ∃ (q c0 : Nat) (r : List Nat), q ≤ m.length ∧ i = .int .i64 q ∧ cr = .int .u64 c0 ∧ (c0 : Int) < 1000000000 ∧ Hid (r.length = l.length + m.length) ∧ Dig r ∧
          Own w.heap.size w' (.slice (some ⟨w.heap.size, 0, none⟩) (l.length + m.length) (l.length + m.length)) r ∧ Hid (val r + 1000000000 ^ (k + q) * c0 = val (l.take k) * val m + 1000000000 ^ k * (x * val (m.take q))) ∧
          Hid (∀ j, k + m.length ≤ j → r.getD j 0 = 0) ∧ Ext w w') (fun _ i _ => m.length - (intOf i).toNat)
      case atStart => exact ⟨0, 0, r, Nat.zero_le _, rfl, rfl, by omega, hr, dr, hown, Lib.hid (by rw [hinv.out]; simp [val]), hz, hE⟩
      case round =>
        clear hown hr dr hinv hz hE hc1
        obtain ⟨q, c0, r, hq, rfl, rfl, hc0, hr, dr, hown, hinv, hz, hE⟩ := hrel
        by_cases hqt : q < m.length
        · obtain ⟨b2, o2, rfl, _, hc2⟩ := (hu.ext hE).cell hqt
          obtain ⟨hcell, hfroz⟩ := hown.at (k := k + q) hr.out (by omega)
          have hy : (m.getD q 0 : Int) < 1000000000 := by have := hm.getD q; omega
          have ho : (r.getD (k + q) 0 : Int) < 1000000000 := by have := dr.getD (k + q); omega
          have step := Lib.hid (fun t => @times_step r m (val (l.take k) * val m) x k q c0 t (by rw [hr.out]; omega) hinv.out)
          generalize m.getD q 0 = y at *
          generalize r.getD (k + q) 0 = od at *
          have hxy : (x : Int) * (y : Int) ≤ 999999998000000001 := by
            have : x * y ≤ 999999999 * 999999999 := Nat.mul_le_mul (by omega) (by omega)
            have h2 : ((x * y : Nat) : Int) = (x : Int) * (y : Int) := by simp
            omega
          have hxy0 : 0 ≤ (x : Int) * (y : Int) := Int.mul_nonneg (by omega) (by omega)
          go_wp2
          go_roundw
          case rel => exact ⟨q + 1, (od + x * y + c0) / 1000000000, r.set (k + q) ((od + x * y + c0) % 1000000000), by omega, by go_num, by go_num, by omega, Lib.hid (by rw [List.length_set, hr.out]), dr.set (Nat.mod_lt _ (by omega)),
            hown.stored hr.out (k + q) (by simp), step.out _ rfl, Lib.hid (zeros_set hz.out (by omega)), hE.set' (Nat.le_refl _) _⟩
          case measure => simp only [intOf]; omega
        · have e : q = m.length := by omega
          subst e
          obtain ⟨hcell, hfroz⟩ := hown.at (k := k + m.length) hr.out (by omega)
          have hrow := Lib.hid (@times_row r l m k c0 (by rw [hr.out]; omega) (by rw [HX.out]; exact hinv.out) (hz.out _ (Nat.le_refl _)))
          go_wp2
          go_roundw
          case rel => exact ⟨k + 1, r.set (k + m.length) c0, by omega, by go_num, Lib.hid (by rw [List.length_set, hr.out]), dr.set (by omega), hown.stored hr.out (k + m.length) (by first | rfl | omega), hrow,
            Lib.hid (zeros_set (fun j hj => hz.out j (by omega)) (by omega)), hE.set' (Nat.le_refl _) _⟩
          case measure => simp only [intOf]; omega
    · have e : k = l.length := by omega
      subst e
      have hfin := Lib.hid hinv.out
      rw [List.take_length] at hfin
      go_wp2
      go_ret
      have hr' := hr.out
      exact ⟨_, r, by rw [hr']; rfl, Nat.le_refl _, hown.lt, by rw [hr']; exact hown, hr', dr, hfin.out, hE⟩
end Go.Proofs.YtechjiiijiipdaaDoor

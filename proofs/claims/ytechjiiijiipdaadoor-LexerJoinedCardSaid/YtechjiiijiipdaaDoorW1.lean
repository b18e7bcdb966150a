/- Walks: trim. -/
import Derived.Test.YtechjiiijiipdaaDoorNum
namespace Go.Proofs.YtechjiiijiipdaaDoor
open Go.RowKit
set_option linter.unusedSimpArgs false
set_option linter.unusedVariables false

set_option maxHeartbeats 400000 in
theorem integer_trim (w : World) (a : Option Addr) (c : Nat) (l : List Nat) (h : U32s w (.slice a l.length c) l) :
    Calls Tryd.prog 84 #[.slice a l.length c] w fun e w' => e = .returned (.slice a (trimL l).length c) ∧ U32s w (.slice a (trimL l).length c) (trimL l) ∧ w = w' := by
  obtain ⟨a', c', hv, hc, hb, hn, hz, h⟩ := h
  injection hv with h1 _ h3
  subst h1 h3
  have HZ := Lib.hid hz
  clear hz
  go_enter Tryd.func84, Tryd.ntmps84
  go_wp2
  go_loop [0] (fun s => ∃ k : Nat, k ≤ l.length ∧ s = .slice a k c ∧ Hid (trimL (l.take k) = trimL l)) (fun s => match s with | .slice _ n _ => n | _ => 0)
  case atStart => exact ⟨l.length, Nat.le_refl _, rfl, (by rw [List.take_length] : trimL (l.take l.length) = trimL l)⟩
  case round =>
    obtain ⟨k, hk, rfl, ht⟩ := hrel
    rcases Nat.eq_zero_or_pos k with rfl | hk0
    · go_wp2
      go_ret
      rw [← ht.out]
      exact ⟨rfl, U32s.nil _ _ _ HZ.out, rfl⟩
    · rcases h with rfl | ⟨b, o, rfl, hlt, hcell⟩
      · simp at hk; omega
      have hcl := hcell (k - 1) (by omega)
      have e1 : ((k : Int) - 1) = ((k - 1 : Nat) : Int) := by omega
      by_cases hz : l.getD (k - 1) 0 = 0
      · have ht' := (trim_go hk0 hk hz).symm.trans ht.out
        rw [hz] at hcl
        go_wp2
        go_round
        case rel => exact ⟨k - 1, by omega, rfl, ht'⟩
        case measure => show k - 1 < k; omega
      · have ht2 := Lib.hid ((trim_stop hk0 hk hz).symm.trans ht.out)
        generalize l.getD (k - 1) 0 = d at hcl hz
        have hd : ((d : Int) == 0) = false := by simpa using hz
        go_wp2
        go_ret
        have hlen : (trimL l).length = k := by rw [← ht2.out, List.length_take]; omega
        rw [hlen, ← ht2.out]
        exact ⟨rfl, U32s.take k hk hc hb hn hlt hcell, rfl⟩

/-- At a difference, from above. -/
theorem cmp_lt {l m : List Nat} (hl : Dig l) (he : l.length = m.length) {k : Nat} (hk0 : 0 < k) (hk : k ≤ l.length) (hd : l.drop k = m.drop k) (h : l.getD (k - 1) 0 < m.getD (k - 1) 0) : cmpN (val l) (val m) = -1 := by
  have := val_lt_at hl he (i := k - 1) (by omega) (by rw [Nat.sub_add_cancel hk0]; exact hd) h
  unfold cmpN; rw [if_pos this]
theorem cmp_gt {l m : List Nat} (hm : Dig m) (he : l.length = m.length) {k : Nat} (hk0 : 0 < k) (hk : k ≤ l.length) (hd : l.drop k = m.drop k) (h : m.getD (k - 1) 0 < l.getD (k - 1) 0) : cmpN (val l) (val m) = 1 := by
  have := val_lt_at hm he.symm (i := k - 1) (by omega) (by rw [Nat.sub_add_cancel hk0]; exact hd.symm) h
  unfold cmpN; rw [if_neg (by omega), if_pos this]
theorem cmp_eq {l m : List Nat} (h : l.drop 0 = m.drop 0) : cmpN (val l) (val m) = 0 := by
  simp at h; subst h; simp [cmpN]
theorem drop_go {l m : List Nat} (he : l.length = m.length) {k : Nat} (hk0 : 0 < k) (hk : k ≤ l.length) (hd : l.drop k = m.drop k) (h : l.getD (k - 1) 0 = m.getD (k - 1) 0) : l.drop (k - 1) = m.drop (k - 1) := by
  obtain ⟨j, rfl⟩ : ∃ j, k = j + 1 := ⟨k - 1, by omega⟩
  simp only [Nat.add_sub_cancel] at *
  rw [List.drop_eq_getElem_cons (show j < l.length by omega), List.drop_eq_getElem_cons (show j < m.length by omega), hd]
  simp [show j < l.length by omega, show j < m.length by omega] at h
  simp [h]

set_option maxHeartbeats 1000000 in
theorem integer_compare (w : World) (v u : Value) (l m : List Nat) (hv : U32s w v l) (hu : U32s w u m) (hl : Dig l) (hm : Dig m) :
    Calls Tryd.prog 74 #[v, u] w fun e w' => e = .returned (.int .i64 (cmpN (val l) (val m))) ∧ Drawn w w' := by
  rw [← val_trimL l, ← val_trimL m]
  replace hl := hl.trimL
  replace hm := hm.trimL
  have nl := norm_trimL l
  have nm := norm_trimL m
  obtain ⟨a, c, rfl, hc, hn⟩ := hv.shape
  obtain ⟨a2, c2, rfl, hc2, hn2⟩ := hu.shape
  have h1 := integer_trim w a c l hv
  have h2 := integer_trim w a2 c2 m hu
  have hc' := Nat.le_trans (trimL_length_le l) hc
  have hn' := Nat.le_trans (trimL_length_le l) hn
  have hc2' := Nat.le_trans (trimL_length_le m) hc2
  have hn2' := Nat.le_trans (trimL_length_le m) hn2
  clear hv hu hc hn hc2 hn2
  generalize trimL l = l' at *
  generalize trimL m = m' at *
  have H1 := Lib.hid h1
  have H2 := Lib.hid h2
  clear h1 h2
  go_enter Tryd.func74, Tryd.ntmps74
  go_wp2_with fail
  refine H1.out.mono ?_
  rintro e w' ⟨rfl, hv', rfl⟩
  go_wp2_with fail
  refine H2.out.mono ?_
  rintro e w' ⟨rfl, hu', rfl⟩
  clear H1 H2
  rcases Nat.lt_trichotomy l'.length m'.length with h | h | h
  · have hcmp : Hid (cmpN (val l') (val m') = -1) := by have := val_lt_of_length hl nm h; unfold cmpN Hid; rw [if_pos this]
    have b1 : ((l'.length : Int) != (m'.length : Int)) = true := by simp; omega
    have b2 : decide (l'.length < m'.length) = true := by simpa using h
    go_wp2
    go_ret
    exact ⟨by rw [hcmp.out]; rfl, Drawn.rfl' _⟩
  · have he := Lib.hid h
    have hne : ((l'.length : Int) != (m'.length : Int)) = false := by simp [h]
    rw [h] at hv'
    go_wp2
    go_loopw [5] (fun s w' => ∃ j : Int, -1 ≤ j ∧ j < (m'.length : Int) ∧ s = .int .i64 j ∧ Hid (l'.drop (j + 1).toNat = m'.drop (j + 1).toNat) ∧ Drawn w w') (fun s _ => (intOf s + 1).toNat)
    case atStart => exact ⟨(m'.length : Int) - 1, by omega, by omega, rfl, (by rw [List.drop_of_length_le (by have := he.out; omega), List.drop_of_length_le (by omega)] : l'.drop _ = m'.drop _), Drawn.rfl' _⟩
    case round =>
      obtain ⟨j, hj0, hj1, rfl, hd, n, rfl⟩ := hrel
      have hD : Drawn w (w.drewN n) := ⟨n, rfl⟩
      by_cases hj : j = -1
      · subst hj
        have hcmp : Hid (cmpN (val l') (val m') = 0) := cmp_eq hd.out
        go_wp2
        go_ret
        exact ⟨by rw [hcmp.out]; rfl, hD⟩
      · obtain ⟨k, rfl⟩ : ∃ k : Nat, j = k := ⟨j.toNat, by omega⟩
        have hk : k < m'.length := by omega
        obtain ⟨b, o, rfl, _, hc1⟩ := hv'.cell (k := k) (by have := he.out; omega)
        obtain ⟨b2, o2, rfl, _, hc2⟩ := hu'.cell (k := k) (by omega)
        have e0 := Lib.hid (@cmp_lt l' m' hl he.out (k + 1) (by omega) (by have := he.out; omega) hd.out)
        have e1 := Lib.hid (@cmp_gt l' m' hm he.out (k + 1) (by omega) (by have := he.out; omega) hd.out)
        have e2 := Lib.hid (@drop_go l' m' he.out (k + 1) (by omega) (by have := he.out; omega) hd.out)
        simp only [Nat.add_sub_cancel] at e0 e1 e2
        generalize l'.getD k 0 = x at *
        generalize m'.getD k 0 = y at *
        have hk1 : (k : Int) < (m'.length : Int) := by omega
        have hk0 : 0 ≤ (k : Int) := by omega
        rcases Nat.lt_trichotomy x y with h | h | h
        · have h0 := Lib.hid (e0.out h)
          have h1 : (x : Int) < (y : Int) := by omega
          go_wp2
          go_quiet (fail)
          go_wp2
          go_ret
          exact ⟨by rw [h0.out]; rfl, hD.n _⟩
        · have h0 := Lib.hid (e2.out h)
          subst h
          go_wp2
          go_quiet (fail)
          go_wp2
          go_quiet (fail)
          go_wp2
          go_roundw
          case rel => exact ⟨(k : Int) - 1, by omega, by omega, rfl, (by rw [show ((k : Int) - 1 + 1).toNat = k by omega]; exact h0.out : l'.drop _ = m'.drop _), ⟨_, rfl⟩⟩
          case measure => simp only [intOf]; omega
        · have h0 := Lib.hid (e1.out h)
          have h1 : (y : Int) < (x : Int) := by omega
          go_wp2
          go_quiet (fail)
          go_wp2
          go_quiet (fail)
          go_wp2
          go_ret
          exact ⟨by rw [h0.out]; rfl, (hD.n _).n _⟩
  · have hcmp : Hid (cmpN (val l') (val m') = 1) := by have := val_lt_of_length hm nl h; unfold cmpN Hid; rw [if_neg (by omega), if_pos this]
    have b1 : ((l'.length : Int) != (m'.length : Int)) = true := by simp; omega
    have b2 : decide (l'.length < m'.length) = false := by simp; omega
    go_wp2
    go_ret
    exact ⟨by rw [hcmp.out]; rfl, Drawn.rfl' _⟩
end Go.Proofs.YtechjiiijiipdaaDoor

/- Walks over the reference: trim, compare, limbs. -/
import Derived.Test.YtechjiiijiipdaaDoorW8
namespace Go.Proofs.YtechjiiijiipdaaDoor
open Go.RowKit
set_option linter.unusedSimpArgs false
set_option linter.unusedVariables false

set_option maxHeartbeats 400000 in
theorem ref01_trim (w : World) (a : Option Addr) (c : Nat) (l : List Nat) (h : U32s w (.slice a l.length c) l) :
    Calls Tryd.prog 64 #[.slice a l.length c] w fun e w' => e = .returned (.slice a (trimL l).length c) ∧ U32s w (.slice a (trimL l).length c) (trimL l) ∧ w = w' := by
  obtain ⟨a', c', hv, hc, hb, hn, hz, h⟩ := h
  injection hv with h1 _ h3
  subst h1 h3
  have HZ := Lib.hid hz
  clear hz
  go_enter Tryd.func64, Tryd.ntmps64
  go_wp2
  go_loop [0] (fun s => ∃ k : Nat, k ≤ l.length ∧ s = .slice a k c ∧ Hid (trimL (l.take k) = trimL l)) (fun s => match s with | .slice _ n _ => n | _ => 0)
  case atStart => exact ⟨l.length, Nat.le_refl _, rfl, (by rw [List.take_length] : trimL (l.take l.length) = trimL l)⟩
  case round =>
    obtain ⟨k, hk, rfl, ht⟩ := hrel
    rcases Nat.eq_zero_or_pos k with rfl | hk0
    · go_wp2
      go_ret
      rw [← ht.out]
      exact ⟨rfl, U32s.nil _ _ _ HZ.out, rfl⟩
    · rcases h with rfl | ⟨b, o, rfl, hlt, hcell⟩
      · simp at hk; omega
      have hcl := hcell (k - 1) (by omega)
      have e1 : ((k : Int) - 1) = ((k - 1 : Nat) : Int) := by omega
      by_cases hz : l.getD (k - 1) 0 = 0
      · have ht' := (trim_go hk0 hk hz).symm.trans ht.out
        rw [hz] at hcl
        go_wp2
        go_round
        case rel => exact ⟨k - 1, by omega, rfl, ht'⟩
        case measure => show k - 1 < k; omega
      · have ht2 := Lib.hid ((trim_stop hk0 hk hz).symm.trans ht.out)
        generalize l.getD (k - 1) 0 = d at hcl hz
        have hd : ((d : Int) == 0) = false := by simpa using hz
        go_wp2
        go_ret
        have hlen : (trimL l).length = k := by rw [← ht2.out, List.length_take]; omega
        rw [hlen, ← ht2.out]
        exact ⟨rfl, U32s.take k hk hc hb hn hlt hcell, rfl⟩

set_option maxHeartbeats 1000000 in
theorem ref01_compare (w : World) (v u : Value) (l' m' : List Nat) (hv' : U32s w v l') (hu' : U32s w u m') (hl : Dig l') (hm : Dig m') (nl : Norm l') (nm : Norm m') :
    Calls Tryd.prog 46 #[v, u] w fun e w' => e = .returned (.int .i64 (cmpN (val l') (val m'))) ∧ Drawn w w' := by
  obtain ⟨a, c, rfl, hc', hn'⟩ := hv'.shape
  obtain ⟨a2, c2, rfl, hc2', hn2'⟩ := hu'.shape
  rcases Nat.lt_trichotomy l'.length m'.length with h | h | h
  · have hcmp : Hid (cmpN (val l') (val m') = -1) := by have := val_lt_of_length hl nm h; unfold cmpN Hid; rw [if_pos this]
    have b1 : ((l'.length : Int) != (m'.length : Int)) = true := by simp; omega
    have b2 : decide (l'.length < m'.length) = true := by simpa using h
    go_enter Tryd.func46, Tryd.ntmps46
    go_wp2
    go_ret
    exact ⟨by rw [hcmp.out]; rfl, Drawn.rfl' _⟩
  · have he := Lib.hid h
    have hne : ((m'.length : Int) != (m'.length : Int)) = false := by simp
    rw [h] at hv' hc' hn' ⊢
    clear h
    go_enter Tryd.func46, Tryd.ntmps46
    go_wp2
    go_loopw [5] (fun s w' => ∃ j : Int, -1 ≤ j ∧ j < (m'.length : Int) ∧ s = .int .i64 j ∧ Hid (l'.drop (j + 1).toNat = m'.drop (j + 1).toNat) ∧ Drawn w w') (fun s _ => (intOf s + 1).toNat)
    case atStart => exact ⟨(m'.length : Int) - 1, by omega, by omega, rfl, (by rw [List.drop_of_length_le (by have := he.out; omega), List.drop_of_length_le (by omega)] : l'.drop _ = m'.drop _), Drawn.rfl' _⟩
    case round =>
      obtain ⟨j, hj0, hj1, rfl, hd, n, rfl⟩ := hrel
      have hD : Drawn w (w.drewN n) := ⟨n, rfl⟩
      by_cases hj : j = -1
      · subst hj
        have hcmp : Hid (cmpN (val l') (val m') = 0) := cmp_eq hd.out
        go_wp2
        go_ret
        exact ⟨by rw [hcmp.out]; rfl, hD⟩
      · obtain ⟨k, rfl⟩ : ∃ k : Nat, j = k := ⟨j.toNat, by omega⟩
        have hk : k < m'.length := by omega
        obtain ⟨b, o, rfl, _, hc1⟩ := hv'.cell (k := k) (by have := he.out; omega)
        obtain ⟨b2, o2, rfl, _, hc2⟩ := hu'.cell (k := k) (by omega)
        have e0 := Lib.hid (@cmp_lt l' m' hl he.out (k + 1) (by omega) (by have := he.out; omega) hd.out)
        have e1 := Lib.hid (@cmp_gt l' m' hm he.out (k + 1) (by omega) (by have := he.out; omega) hd.out)
        have e2 := Lib.hid (@drop_go l' m' he.out (k + 1) (by omega) (by have := he.out; omega) hd.out)
        simp only [Nat.add_sub_cancel] at e0 e1 e2
        generalize l'.getD k 0 = x at *
        generalize m'.getD k 0 = y at *
        have hk1 : (k : Int) < (m'.length : Int) := by omega
        have hk0 : 0 ≤ (k : Int) := by omega
        rcases Nat.lt_trichotomy x y with h | h | h
        · have h0 := Lib.hid (e0.out h)
          have h1 : (x : Int) < (y : Int) := by omega
          go_wp2
          go_quiet (fail)
          go_wp2
          go_ret
          exact ⟨by rw [h0.out]; rfl, hD.n _⟩
        · have h0 := Lib.hid (e2.out h)
          subst h
          go_wp2
          go_quiet (fail)
          go_wp2
          go_quiet (fail)
          go_wp2
          go_roundw
          case rel => exact ⟨(k : Int) - 1, by omega, by omega, rfl, (by rw [show ((k : Int) - 1 + 1).toNat = k by omega]; exact h0.out : l'.drop _ = m'.drop _), ⟨_, rfl⟩⟩
          case measure => simp only [intOf]; omega
        · have h0 := Lib.hid (e1.out h)
          have h1 : (y : Int) < (x : Int) := by omega
          go_wp2
          go_quiet (fail)
          go_wp2
          go_quiet (fail)
          go_wp2
          go_ret
          exact ⟨by rw [h0.out]; rfl, (hD.n _).n _⟩
  · have hcmp : Hid (cmpN (val l') (val m') = 1) := by have := val_lt_of_length hm nl h; unfold cmpN Hid; rw [if_neg (by omega), if_pos this]
    have b1 : ((l'.length : Int) != (m'.length : Int)) = true := by simp; omega
    have b2 : decide (l'.length < m'.length) = false := by simp; omega
    go_enter Tryd.func46, Tryd.ntmps46
    go_wp2
    go_ret
    exact ⟨by rw [hcmp.out]; rfl, Drawn.rfl' _⟩

/-- The limbs of a number, the least first, none for 0. -/
def limbs (n : Nat) : List Nat := if h : 0 < n then n % 1000000000 :: limbs (n / 1000000000) else []
termination_by n
decreasing_by omega
theorem limbs_zero : limbs 0 = [] := by rw [limbs]; simp
theorem limbs_pos {n : Nat} (h : 0 < n) : limbs n = n % 1000000000 :: limbs (n / 1000000000) := by
  rw [limbs]; simp [h]
theorem val_limbs : ∀ n : Nat, val (limbs n) = n := by
  intro n
  induction n using Nat.strongRecOn with
  | _ n ih =>
    rcases Nat.eq_zero_or_pos n with rfl | h
    · rw [limbs_zero]; rfl
    · rw [limbs_pos h, val_cons, ih _ (by omega)]; omega
theorem dig_limbs : ∀ n : Nat, Dig (limbs n) := by
  intro n
  induction n using Nat.strongRecOn with
  | _ n ih =>
    rcases Nat.eq_zero_or_pos n with rfl | h
    · rw [limbs_zero]; exact Dig.nil
    · rw [limbs_pos h]; exact Dig.cons.2 ⟨by omega, ih _ (by omega)⟩
theorem limbs_len : ∀ (k n : Nat), n < 1000000000 ^ k → (limbs n).length ≤ k
  | 0, n, h => by obtain rfl : n = 0 := by simpa using h
                  rw [limbs_zero]; simp
  | k + 1, n, h => by
    rcases Nat.eq_zero_or_pos n with rfl | h0
    · rw [limbs_zero]; simp
    · rw [limbs_pos h0, List.length_cons]
      have := limbs_len k (n / 1000000000) (by rw [Nat.pow_succ] at h; exact Nat.div_lt_of_lt_mul (by rw [Nat.mul_comm]; exact h))
      omega
theorem norm_limbs (n : Nat) : Norm (limbs n) := by
  induction n using Nat.strongRecOn with
  | _ n ih =>
    rcases Nat.eq_zero_or_pos n with rfl | h
    · rw [limbs_zero]; rfl
    · have ih' := ih (n / 1000000000) (by omega)
      rw [limbs_pos h]
      unfold Norm at *
      rw [trimL_cons, ih']
      by_cases h0 : limbs (n / 1000000000) = []
      · have : n / 1000000000 = 0 := by rw [← val_limbs (n / 1000000000), h0]; rfl
        rw [if_pos h0, if_neg (by omega), h0]
      · rw [if_neg h0]
def isU64 (n : Nat) : Prop := n < 18446744073709551616
set_option maxRecDepth 100000 in
set_option maxHeartbeats 1000000 in
theorem ref01_limbs (w : World) (u : Nat) (hu : u < 18446744073709551616) :
    Calls Tryd.prog 48 #[.int .u64 (u : Int)] w fun e w' => ∃ v, e = .returned v ∧ U32s w' v (limbs u) ∧ Ext w w' := by
  have h3 : (limbs u).length ≤ 3 := limbs_len 3 u (by omega)
  have HU : isU64 u := hu
  clear hu
  go_enter Tryd.func48, Tryd.ntmps48
  go_wp2_with (first | fail)
  go_loopw [0, 3] (fun x o w' => ∃ (n : Nat) (r : List Nat), x = .int .u64 (n : Int) ∧ isU64 n ∧ Own w.heap.size w' o r ∧ Hid (r ++ limbs n = limbs u) ∧ Ext w w') (fun x _ _ => (intOf x).toNat)
  case atStart => exact ⟨u, [], rfl, HU, Own.nil _ _, by simp [Hid], Ext.rfl' w⟩
  case round =>
    obtain ⟨n, r, rfl, hn, hown, hr, hE⟩ := hrel
    have hrl : r.length ≤ 3 := by have := congrArg List.length hr.out; rw [List.length_append] at this; omega
    by_cases h0 : n = 0
    · subst h0
      go_wp2_with (first | fail)
      go_ret
      have e : r = limbs u := by have := hr.out; rwa [limbs_zero, List.append_nil] at this
      exact ⟨_, rfl, by rw [← e]; exact hown.u32 (by rw [e]; exact (dig_limbs u).u32) (by omega), hE⟩
    · have hp : 0 < (n : Int) := by omega
      have hq := Lib.hid (show n / 1000000000 < n by omega)
      have hnn : n < 18446744073709551616 := hn
      have hq2 : isU64 (n / 1000000000) := by unfold isU64 at *; omega
      have hl := Lib.hid (limbs_pos (by omega : 0 < n))
      go_wp2_with (at_builtin; refine wpList_app1 rfl _ _ rfl rfl rfl hown (d := n % 1000000000) (by first | rfl | omega) (by omega) (by exact hE.size) ?_; intro v' w' hown' hg')
      go_roundw
      case rel => exact ⟨n / 1000000000, r ++ [n % 1000000000], by go_num, hq2, hown', Lib.hid (by rw [List.append_assoc, ← hr.out, hl.out]; rfl), (hE.alloc' _).grown' hg' hown.block⟩
      case measure => simp only [intOf]; have := hq.out; omega
end Go.Proofs.YtechjiiijiipdaaDoor

/- Plain arithmetic of long division: the guess of a quotient's digit, and what a round leaves. -/
import Derived.Test.YtechjiiijiipdaaDoorNum
namespace Go.Proofs.YtechjiiijiipdaaDoor

/-- What is known of a round: V the divisor, w what is to be divided (below 10^9 V), their heads. -/
structure Round (V w v1 v2 x2 top P : Nat) : Prop where
  a1 : 250000000 ≤ v1
  a1b : v1 < 1000000000
  a2 : v2 < 1000000000
  ax : x2 < 1000000000
  aP : 0 < P
  Vlo : (v1 * 1000000000 + v2) * P ≤ V
  Vhi : V < (v1 * 1000000000 + v2 + 1) * P
  wlo : (top * 1000000000 + x2) * P ≤ w
  whi : w < (top * 1000000000 + x2 + 1) * P
  lt : w < 1000000000 * V

namespace Round
variable {V w v1 v2 x2 top P : Nat}
theorem Vpos (h : Round V w v1 v2 x2 top P) : 0 < V := by
  have h1 := h.Vlo; have h2 := h.aP; have h3 := h.a1
  have : 1 * 1 ≤ (v1 * 1000000000 + v2) * P := Nat.mul_le_mul (by omega) h2
  omega
theorem Qlt (h : Round V w v1 v2 x2 top P) : w / V < 1000000000 := (Nat.div_lt_iff_lt_mul h.Vpos).2 h.lt
theorem Qle (_h : Round V w v1 v2 x2 top P) : w / V * V ≤ w := Nat.div_mul_le_self _ _
theorem topb (h : Round V w v1 v2 x2 top P) : top < (v1 + 1) * 1000000000 := by
  have h1 := h.wlo; have h2 := h.lt; have h3 := h.Vhi; have h4 := h.aP; have h5 := h.a2
  have h6 : V < ((v1 + 1) * 1000000000) * P := Nat.lt_of_lt_of_le h3 (Nat.mul_le_mul_right _ (by omega))
  have h7 : (top * 1000000000) * P ≤ w := Nat.le_trans (Nat.mul_le_mul_right _ (by omega)) h1
  have h8 : (top * 1000000000) * P < (1000000000 * ((v1 + 1) * 1000000000)) * P := by
    have : 1000000000 * V < 1000000000 * (((v1 + 1) * 1000000000) * P) := Nat.mul_lt_mul_of_pos_left h6 (by omega)
    rw [← Nat.mul_assoc] at this
    omega
  have h9 := Nat.lt_of_mul_lt_mul_right h8
  omega
theorem first (h : Round V w v1 v2 x2 top P) : w / V ≤ top / v1 := by
  have hv := h.a1
  rw [Nat.le_div_iff_mul_le (by omega)]
  have h1 := h.Qle; have h2 := h.Vlo; have h3 := h.whi; have h4 := h.ax; have h5 := h.aP
  have h6 : w / V * ((v1 * 1000000000) * P) ≤ w / V * V := Nat.mul_le_mul_left _ (Nat.le_trans (Nat.mul_le_mul_right _ (by omega)) h2)
  have h7 : w < ((top + 1) * 1000000000) * P := Nat.lt_of_lt_of_le h3 (Nat.mul_le_mul_right _ (by omega))
  have h8 : (w / V * v1 * 1000000000) * P < ((top + 1) * 1000000000) * P := by
    have e : (w / V * v1 * 1000000000) * P = w / V * ((v1 * 1000000000) * P) := by grind
    omega
  have h9 := Nat.lt_of_mul_lt_mul_right h8
  omega
theorem guessb (h : Round V w v1 v2 x2 top P) {g r : Nat} (hg : g * v1 + r = top) : g ≤ 1000000003 := by
  have h1 := h.topb; have h2 := h.a1
  have h3 : g * v1 < (1000000000 + 4) * v1 := by omega
  have := Nat.lt_of_mul_lt_mul_right h3
  omega
theorem dec_gt (h : Round V w v1 v2 x2 top P) {g r : Nat} (hg : g * v1 + r = top) (hgt : r * 1000000000 + x2 < g * v2) : w / V ≤ g - 1 ∧ 1 ≤ g := by
  have h1 := h.Qle; have h2 := h.Vlo; have h3 := h.whi
  have h4 : top * 1000000000 + x2 + 1 ≤ g * (v1 * 1000000000 + v2) := by
    have e : g * (v1 * 1000000000 + v2) = (g * v1) * 1000000000 + g * v2 := by grind
    omega
  have h5 : (top * 1000000000 + x2 + 1) * P ≤ g * V := Nat.le_trans (Nat.mul_le_mul_right P h4) (by rw [Nat.mul_assoc]; exact Nat.mul_le_mul_left _ h2)
  have h6 : w / V * V < g * V := by omega
  have h7 := Nat.lt_of_mul_lt_mul_right h6
  clear h1 h5 h6
  generalize w / V = q at *
  omega
theorem dec_ge (h : Round V w v1 v2 x2 top P) {g : Nat} (hg : 1000000000 ≤ g) : w / V ≤ g - 1 ∧ 1 ≤ g := by
  have := h.Qlt; omega
theorem end1 (h : Round V w v1 v2 x2 top P) {g r : Nat} (hg : g * v1 + r = top) (hb : g < 1000000000) (hle : g * v2 ≤ r * 1000000000 + x2) : g ≤ w / V + 1 := by
  have h1 := h.Vlo; have h2 := h.Vhi; have h3 := h.wlo; have h4 := h.a1; have h5 := h.aP
  have h6 : g * (v1 * 1000000000 + v2) ≤ top * 1000000000 + x2 := by
    have e : g * (v1 * 1000000000 + v2) = (g * v1) * 1000000000 + g * v2 := by grind
    omega
  have h7 : g * (v1 * 1000000000 + v2) * P ≤ w := Nat.le_trans (Nat.mul_le_mul_right P h6) h3
  have h8 : g * P ≤ V := Nat.le_trans (Nat.mul_le_mul_right P (by omega)) h1
  have h9 : g * V ≤ g * ((v1 * 1000000000 + v2 + 1) * P) := Nat.mul_le_mul_left _ (Nat.le_of_lt h2)
  have h10 : g * ((v1 * 1000000000 + v2 + 1) * P) = g * (v1 * 1000000000 + v2) * P + g * P := by grind
  have h11 : (g - 1) * V ≤ w := by
    have : (g - 1) * V = g * V - V := by rw [Nat.sub_mul, Nat.one_mul]
    omega
  have := (Nat.le_div_iff_mul_le h.Vpos).2 h11
  omega
theorem end2 (h : Round V w v1 v2 x2 top P) {g r : Nat} (hg : g * v1 + r = top) (hr : 1000000000 ≤ r) : g < 1000000000 ∧ g ≤ w / V + 1 := by
  have h1 := h.topb
  have h2 : g * v1 < 1000000000 * v1 := by omega
  have h3 := Nat.lt_of_mul_lt_mul_right h2
  have h4 : g * v2 ≤ 1000000000 * 1000000000 := Nat.mul_le_mul (by omega) (by have := h.a2; omega)
  exact ⟨h3, h.end1 hg h3 (by omega)⟩
end Round

/-- What a subtraction of the guess leaves: the digit is the guess, or one less where it fell below 0. -/
theorem digit_right {w V g M s : Nat} (hV : 0 < V) (hQ : w / V ≤ g) (h : s + g * V = w + M * 0) : g = w / V ∧ s = w % V := by
  have h1 : g ≤ w / V := (Nat.le_div_iff_mul_le hV).2 (by omega)
  have e : g = w / V := by omega
  subst e
  have := Nat.mod_add_div w V
  rw [Nat.mul_comm] at this
  exact ⟨rfl, by omega⟩
theorem digit_less {w V g M s o s2 c : Nat} (hV : 0 < V) (hVM : V < M) (hwM : w < M) (hg : g ≤ w / V + 1) (ho : 0 < o) (hs : s < M) (h : s + g * V = w + M * o) (hs2 : s2 < M) (h2 : s2 + M * c = s + V) : g - 1 = w / V ∧ s2 = w % V ∧ 1 ≤ g := by
  have h1 : M * 1 ≤ M * o := Nat.mul_le_mul_left _ ho
  have h3 : w < g * V := by omega
  have h4 : w / V < g := (Nat.div_lt_iff_lt_mul hV).2 h3
  have e : g = w / V + 1 := by omega
  subst e
  have h5 := Nat.mod_add_div w V
  rw [Nat.mul_comm] at h5
  have h6 := Nat.mod_lt w hV
  have h7 : (w / V + 1) * V = w / V * V + V := by rw [Nat.add_mul, Nat.one_mul]
  have ho1 : o = 1 := by
    by_cases h8 : o = 1
    · exact h8
    · have : M * 2 ≤ M * o := Nat.mul_le_mul_left _ (by omega)
      omega
  subst ho1
  have hc1 : c = 1 := by
    rcases Nat.lt_or_ge c 1 with h8 | h8
    · have : c = 0 := by omega
      subst this
      generalize w / V = q at *
      generalize w % V = m at *
      generalize (q + 1) * V = a at *
      generalize q * V = b at *
      omega
    · by_cases h9 : c = 1
      · exact h9
      · have : M * 2 ≤ M * c := Nat.mul_le_mul_left _ (by omega)
        omega
  subst hc1
  generalize w / V = q at *
  generalize w % V = m at *
  generalize (q + 1) * V = a at *
  generalize q * V = b at *
  exact ⟨by omega, by omega, by omega⟩

theorem norm_length {l : List Nat} {n : Nat} (hd : Dig l) (hn : Norm l) (h1 : 1000000000 ^ (n - 1) ≤ val l) (h2 : val l < 1000000000 ^ n) (hn0 : 0 < n) : l.length = n := by
  have h3 := val_lt hd
  have hne : l ≠ [] := by intro e; subst e; simp [val] at h1 <;> (have := Nat.pow_pos (n := n - 1) (show 0 < 1000000000 by omega); omega)
  have h4 := hn.ge hne
  have h5 : n - 1 < l.length := (Nat.pow_lt_pow_iff_right (show 1 < 1000000000 by omega)).1 (by omega)
  have h6 : l.length - 1 < n := (Nat.pow_lt_pow_iff_right (show 1 < 1000000000 by omega)).1 (by omega)
  omega
theorem norm_last {l : List Nat} (hn : Norm l) (hne : l ≠ []) : 0 < l.getD (l.length - 1) 0 := by
  rcases Nat.eq_zero_or_pos (l.getD (l.length - 1) 0) with h | h
  · exfalso
    have h1 := @val_take_succ l (l.length - 1) (by have := List.length_pos_iff.2 hne; omega)
    have hlen := List.length_pos_iff.2 hne
    rw [Nat.sub_add_cancel hlen, List.take_length, h] at h1
    have h2 := trim_go hlen (Nat.le_refl _) h
    rw [List.take_length] at h2
    have h3 := trimL_length_le (l.take (l.length - 1))
    rw [← h2, hn, List.length_take] at h3
    omega
  · exact h

/-- The scale of a divisor of n limbs whose last one is b. -/
structure Scaled (m : List Nat) (n d : Nat) : Prop where
  d0 : 0 < d
  d1 : d < 1000000000
  lo : 1000000000 ^ (n - 1) ≤ val m * d
  hi : val m * d < 1000000000 ^ n
  q : 250000000 * 1000000000 ^ (n - 1) ≤ val m * d

theorem scaled {m : List Nat} {n b d : Nat} (hm : Dig m) (hnm : Norm m) (hlen : m.length = n) (hn : 2 ≤ n) (hb : m.getD (n - 1) 0 = b) (hd : d = 1000000000 / (b + 1)) : Scaled m n d := by
  have hne : m ≠ [] := by intro e; subst e; simp at hlen; omega
  have hb0 : 0 < b := by rw [← hb, ← hlen]; exact norm_last hnm hne
  have hb1 : b < 1000000000 := by rw [← hb]; exact hm.getD _
  have hval := @val_take_succ m (n - 1) (by omega)
  rw [show n - 1 + 1 = n by omega, List.take_of_length_le (by omega), hb] at hval
  have hlow := val_lt (hm.take (n - 1))
  rw [List.length_take, Nat.min_eq_left (by omega)] at hlow
  have hpow : 1000000000 ^ n = 1000000000 ^ (n - 1) * 1000000000 := by rw [← Nat.pow_succ]; congr 1; omega
  have hp : 0 < 1000000000 ^ (n - 1) := Nat.pow_pos (by omega)
  have hdm : (b + 1) * d ≤ 1000000000 := by rw [hd]; exact Nat.mul_div_le _ _
  have hdl : 1000000000 < (b + 1) * d + (b + 1) := by
    have := Nat.div_add_mod 1000000000 (b + 1)
    have h2 := Nat.mod_lt 1000000000 (show 0 < b + 1 by omega)
    rw [← hd] at this
    omega
  have hd0 : 0 < d := by rw [hd]; exact Nat.div_pos (by omega) (by omega)
  have hd1 : d < 1000000000 := by
    have : 2 * d ≤ (b + 1) * d := Nat.mul_le_mul_right _ (by omega)
    omega
  clear hd
  have hbd : 250000000 ≤ b * d := by
    have h1 : (b + 1) * d = b * d + d := by rw [Nat.add_mul, Nat.one_mul]
    have h2 : 1 * d ≤ b * d := Nat.mul_le_mul_right _ hb0
    have h3 : (b + 1) * 1 ≤ (b + 1) * d := Nat.mul_le_mul_left _ hd0
    omega
  suffices H : ∀ p, val m = val (m.take (n - 1)) + p * b → val (m.take (n - 1)) < p → p ≤ val m * d ∧ val m * d < p * 1000000000 ∧ 250000000 * p ≤ val m * d by
    have H := H _ hval hlow
    exact ⟨hd0, hd1, H.1, by rw [hpow]; exact H.2.1, H.2.2⟩
  clear hval hlow hpow hp
  intro p hval hlow
  have h1 : val m * d = val (m.take (n - 1)) * d + p * (b * d) := by rw [hval]; grind
  have h2 : p * 250000000 ≤ p * (b * d) := Nat.mul_le_mul_left _ hbd
  have h3 : val m * d < p * 1000000000 := by
    have : val m < p * (b + 1) := by rw [hval]; have : p * (b + 1) = p * b + p := by rw [Nat.mul_add, Nat.mul_one]
                                     omega
    have h4 : val m * d < p * (b + 1) * d := Nat.mul_lt_mul_of_pos_right this hd0
    have h5 : p * (b + 1) * d ≤ p * 1000000000 := by rw [Nat.mul_assoc]; exact Nat.mul_le_mul_left _ hdm
    omega
  exact ⟨by omega, by omega, by omega⟩

theorem top_limb {M : List Nat} {n V : Nat} (hM : Dig M) (hlen : M.length = n) (hn : 2 ≤ n) (hV : val M = V) (hq : 250000000 * 1000000000 ^ (n - 1) ≤ V) : 250000000 ≤ M.getD (n - 1) 0 := by
  have hval := @val_take_succ M (n - 1) (by omega)
  rw [show n - 1 + 1 = n by omega, List.take_of_length_le (by omega)] at hval
  have hlow := val_lt (hM.take (n - 1))
  rw [List.length_take, Nat.min_eq_left (by omega)] at hlow
  have hp : 0 < 1000000000 ^ (n - 1) := Nat.pow_pos (by omega)
  generalize 1000000000 ^ (n - 1) = p at *
  generalize M.getD (n - 1) 0 = x at *
  have : 250000000 * p < (x + 1) * p := by have : (x + 1) * p = p * x + p := by grind
                                           omega
  have := Nat.lt_of_mul_lt_mul_right this
  omega

theorem upper_zero {R : List Nat} {k n V : Nat} (h : val (R.drop (k + 1)) < V) (hV : V < 1000000000 ^ n) : val (R.drop (k + 1 + n)) = 0 := by
  by_cases hk : n ≤ (R.drop (k + 1)).length
  · have h1 := val_take_drop (R.drop (k + 1)) n hk
    rw [List.drop_drop] at h1
    rcases Nat.eq_zero_or_pos (val (R.drop (k + 1 + n))) with h2 | h2
    · exact h2
    · have : 1000000000 ^ n * 1 ≤ 1000000000 ^ n * val (R.drop (k + 1 + n)) := Nat.mul_le_mul_left _ h2
      omega
  · rw [List.drop_of_length_le (by simp at hk; omega)]; rfl

theorem mkRound {R M : List Nat} {k n V : Nat} (hR : Dig R) (hM : Dig M) (hlen : M.length = n) (hn : 2 ≤ n) (hV : val M = V) (hVn : V < 1000000000 ^ n) (hq : 250000000 ≤ M.getD (n - 1) 0) (hk : k + n < R.length) (hlt : val (R.drop (k + 1)) < V) :
    Round V (val (R.drop k)) (M.getD (n - 1) 0) (M.getD (n - 2) 0) (R.getD (k + n - 2) 0) (R.getD (k + n) 0 * 1000000000 + R.getD (k + n - 1) 0) (1000000000 ^ (n - 2)) := by
  have hz := upper_zero hlt hVn
  have e1 := val_take_drop M (n - 2) (by omega)
  rw [val_drop_pred (k := n - 2) (by omega), show n - 2 + 1 = n - 1 by omega, val_drop_pred (k := n - 1) (by omega), show n - 1 + 1 = n by omega, List.drop_of_length_le (by omega)] at e1
  have e2 := val_take_drop (R.drop k) (n - 2) (by simp; omega)
  rw [List.drop_drop, val_drop_pred (k := k + (n - 2)) (by omega), show k + (n - 2) + 1 = k + n - 1 by omega, val_drop_pred (k := k + n - 1) (by omega), show k + n - 1 + 1 = k + n by omega, val_drop_pred (k := k + n) (by omega), show k + n + 1 = k + 1 + n by omega, hz, show k + (n - 2) = k + n - 2 by omega] at e2
  have l1 := val_lt (hM.take (n - 2))
  have l2 := val_lt ((hR.drop k).take (n - 2))
  rw [List.length_take, Nat.min_eq_left (by omega)] at l1
  rw [List.length_take, List.length_drop, Nat.min_eq_left (by omega)] at l2
  have hx := hR.getD (k + n - 2)
  have h1 := hM.getD (n - 1)
  have h2 := hM.getD (n - 2)
  have hlt' : val (R.drop k) < 1000000000 * V := by
    rw [val_drop_pred (k := k) (by omega)]
    have := hR.getD k
    omega
  have hp : 0 < 1000000000 ^ (n - 2) := Nat.pow_pos (by omega)
  simp only [val_nil, Nat.mul_zero, Nat.add_zero] at e1 e2
  rw [hV] at e1
  generalize 1000000000 ^ (n - 2) = P at *
  generalize val (R.drop k) = w at *
  generalize M.getD (n - 1) 0 = v1 at *
  generalize M.getD (n - 2) 0 = v2 at *
  generalize R.getD (k + n - 2) 0 = x2 at *
  generalize R.getD (k + n - 1) 0 = t1 at *
  generalize R.getD (k + n) 0 = t0 at *
  refine ⟨hq, h1, h2, hx, hp, ?_, ?_, ?_, ?_, hlt'⟩
  · have : (v1 * 1000000000 + v2) * P = P * (v2 + 1000000000 * v1) := by grind
    omega
  · have : (v1 * 1000000000 + v2 + 1) * P = P * (v2 + 1000000000 * v1) + P := by grind
    omega
  · have : ((t0 * 1000000000 + t1) * 1000000000 + x2) * P = P * (x2 + 1000000000 * (t1 + 1000000000 * t0)) := by grind
    omega
  · have : ((t0 * 1000000000 + t1) * 1000000000 + x2 + 1) * P = P * (x2 + 1000000000 * (t1 + 1000000000 * t0)) + P := by grind
    omega


/-- What stands ahead of the loop: dividend u and divisor v, scaled by d. -/
structure Begun (l m U M : List Nat) (d : Nat) : Prop where
  dU : Dig U
  dM : Dig M
  lU : U.length = l.length + 2
  lM : M.length = m.length
  hU : val U = val l * d
  hM : val M = val m * d
  hi : val M < 1000000000 ^ m.length
  top : 250000000 ≤ M.getD (m.length - 1) 0
  d0 : 0 < d
  n2 : 2 ≤ m.length
  le : m.length ≤ l.length
  zero : val (U.drop (U.length - m.length)) < val M

theorem begun {l m R0 M0 : List Nat} {d : Nat} (hsc : Scaled m m.length d) (hl : Dig l) (nm : Norm m) (hn : 2 ≤ m.length) (hle : val m ≤ val l) (dR0 : Dig R0) (dM0 : Dig M0)
    (hR0 : R0.length = l.length + 1 ∧ val R0 = val l * d) (hM0 : M0.length = m.length + 1 ∧ val M0 = val m * d) : Begun l m (R0 ++ [0]) (trimL M0) d := by
  have h1 := val_trimL M0
  have h2 : m.length ≤ l.length := by
    rcases Nat.lt_or_ge l.length m.length with h | h
    · have := val_lt_of_length hl nm h; omega
    · exact h
  have h3 : (trimL M0).length = m.length := norm_length dM0.trimL (norm_trimL M0) (by rw [h1, hM0.2]; exact hsc.lo) (by rw [h1, hM0.2]; exact hsc.hi) (by omega)
  refine ⟨Dig.append.2 ⟨dR0, by simp [Dig]⟩, dM0.trimL, by simp [hR0.1], h3, by rw [val_append, hR0.2]; simp [val], by rw [h1, hM0.2], by rw [h1, hM0.2]; exact hsc.hi, ?_, hsc.d0, hn, h2, ?_⟩
  · exact top_limb dM0.trimL h3 hn rfl (by rw [h1, hM0.2]; exact hsc.q)
  · rw [h1, hM0.2]
    refine Nat.lt_of_lt_of_le ?_ hsc.lo
    rw [List.length_append, List.drop_append_of_le_length (by rw [hR0.1]; simp; omega), val_append]
    have h4 := val_lt (dR0.drop (R0.length + [0].length - m.length))
    rw [List.length_drop, show R0.length - (R0.length + [0].length - m.length) = m.length - 1 by simp; omega] at h4
    simpa [val] using h4


theorem seg_all {R : List Nat} {k n : Nat} (hz : val (R.drop (k + n)) = 0) : val ((R.drop k).take n) = val (R.drop k) := by
  by_cases h : n ≤ (R.drop k).length
  · have := val_take_drop (R.drop k) n h
    rw [List.drop_drop, hz] at this
    omega
  · rw [List.take_of_length_le (by omega)]
theorem seg_lt {R : List Nat} {k n : Nat} (hR : Dig R) (hk : k + n ≤ R.length) : val ((R.drop k).take n) < 1000000000 ^ n := by
  have := val_lt ((hR.drop k).take n)
  rwa [List.length_take, List.length_drop, Nat.min_eq_left (by omega)] at this

/-- What a round leaves. -/
theorem div_round {R R' S : List Nat} {k n V X : Nat} (hRk : k ≤ R.length) (hl : R'.length = R.length) (ht : R'.take k = R.take k) (hd : R'.drop (k + (n + 1)) = R.drop (k + (n + 1))) (hS : k < S.length) (hz : val (R.drop (k + (n + 1))) = 0)
    (hs : val ((R'.drop k).take (n + 1)) = val (R.drop k) % V) (hV : 0 < V) (hinv : X = V * (1000000000 ^ (k + 1) * val (S.drop (k + 1))) + val R) :
    val (R'.drop k) < V ∧ X = V * (1000000000 ^ k * val ((S.set k (val (R.drop k) / V)).drop k)) + val R' := by
  have h1 : val (R'.drop k) = val (R.drop k) % V := by rw [← hs, seg_all (by rw [hd]; exact hz)]
  have h2 := Nat.mod_lt (val (R.drop k)) hV
  refine ⟨by omega, ?_⟩
  rw [drop_set_self hS]
  have h3 := val_take_drop R k hRk
  have h4 := val_take_drop R' k (by omega)
  rw [ht, h1] at h4
  have h5 := Nat.mod_add_div (val (R.drop k)) V
  rw [Nat.pow_succ] at hinv
  generalize 1000000000 ^ k = p at *
  generalize val (R.drop k) / V = q at *
  generalize val (R.drop k) % V = m at *
  generalize val (R.drop k) = w at *
  generalize val (R.take k) = t at *
  generalize val (S.drop (k + 1)) = s at *
  subst h5
  rw [hinv, h3, h4]
  grind


theorem div_final {A B d Q R q m : Nat} (h : A * d = B * d * Q + R) (hR : R < B * d) (hq : q * d + m = R) (hm : m < d) : Q = A / B ∧ q = A % B := by
  have h1 : B * Q ≤ A := by
    have : B * Q * d ≤ A * d := by rw [h]; have : B * d * Q = B * Q * d := by grind
                                   omega
    exact Nat.le_of_mul_le_mul_right this (by omega)
  obtain ⟨r, rfl⟩ : ∃ r, A = B * Q + r := ⟨A - B * Q, by omega⟩
  have h2 : R = r * d := by grind
  subst h2
  have h3 : q = r := by
    rcases Nat.lt_trichotomy q r with h | h | h
    · have : (q + 1) * d ≤ r * d := Nat.mul_le_mul_right _ h
      have : (q + 1) * d = q * d + d := by grind
      omega
    · exact h
    · have : (r + 1) * d ≤ q * d := Nat.mul_le_mul_right _ h
      have : (r + 1) * d = r * d + d := by grind
      omega
  subst h3
  have h4 : q < B := Nat.lt_of_mul_lt_mul_right hR
  rw [Nat.mul_add_div (by omega), Nat.mul_add_mod, Nat.div_eq_of_lt h4, Nat.mod_eq_of_lt h4]
  exact ⟨by omega, rfl⟩

end Go.Proofs.YtechjiiijiipdaaDoor

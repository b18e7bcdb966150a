/- Plain arithmetic of limbs: lists of numbers below 10^9, the lowest first. No program in sight. -/
import Derived.Test.YtechjiiijiipdaaDoorBase
namespace Go.Proofs.YtechjiiijiipdaaDoor

/-- Each is a limb. -/
def Dig (l : List Nat) : Prop := ∀ n ∈ l, n < 1000000000

theorem Dig.nil : Dig [] := by simp [Dig]
theorem Dig.cons {d : Nat} {l : List Nat} : Dig (d :: l) ↔ d < 1000000000 ∧ Dig l := by simp [Dig]
theorem Dig.append {l m : List Nat} : Dig (l ++ m) ↔ Dig l ∧ Dig m := by simp [Dig, or_imp, forall_and]
theorem Dig.take {l : List Nat} (h : Dig l) (k : Nat) : Dig (l.take k) := fun n hn => h n (List.mem_of_mem_take hn)
theorem Dig.drop {l : List Nat} (h : Dig l) (k : Nat) : Dig (l.drop k) := fun n hn => h n (List.mem_of_mem_drop hn)
theorem Dig.trimL {l : List Nat} (h : Dig l) : Dig (trimL l) := fun n hn => h n (mem_trimL hn)
theorem Dig.getD {l : List Nat} (h : Dig l) (k : Nat) : l.getD k 0 < 1000000000 := by
  rw [List.getD_eq_getElem?_getD]
  by_cases hk : k < l.length
  · simp [hk]; exact h _ (List.getElem_mem hk)
  · simp [hk]
theorem Dig.u32 {l : List Nat} (h : Dig l) : ∀ n ∈ l, n < 4294967296 := fun n hn => by have := h n hn; omega
theorem Dig.set {l : List Nat} (h : Dig l) {k d : Nat} (hd : d < 1000000000) : Dig (l.set k d) := fun n hn => by
  rcases List.mem_or_eq_of_mem_set hn with h' | rfl
  · exact h n h'
  · exact hd
theorem Dig.zeros (k : Nat) : Dig (List.replicate k 0) := fun n hn => by simp at hn; omega

theorem getD_len {l : List Nat} {k : Nat} (h : l.length ≤ k) : l.getD k 0 = 0 := by rw [List.getD_eq_getElem?_getD, List.getElem?_eq_none h]; rfl
theorem getD_zeros (n k : Nat) : (List.replicate n 0).getD k 0 = 0 := by simp only [List.getD_eq_getElem?_getD, List.getElem?_replicate]; split <;> rfl
theorem val_nil : val [] = 0 := rfl
theorem val_cons (d : Nat) (l : List Nat) : val (d :: l) = d + 1000000000 * val l := rfl
theorem val_append : ∀ l m : List Nat, val (l ++ m) = val l + 1000000000 ^ l.length * val m
  | [], m => by simp [val]
  | d :: l, m => by
    have := val_append l m
    simp only [List.cons_append, val_cons, this, List.length_cons, Nat.pow_succ]
    grind
theorem val_lt : ∀ {l : List Nat}, Dig l → val l < 1000000000 ^ l.length
  | [], _ => by simp [val]
  | d :: l, h => by
    have h := Dig.cons.1 h
    have := val_lt h.2
    simp only [val_cons, List.length_cons, Nat.pow_succ]
    omega
theorem val_zeros : ∀ k : Nat, val (List.replicate k 0) = 0
  | 0 => rfl
  | k + 1 => by simp [List.replicate_succ, val_cons, val_zeros k]
theorem val_take_drop (l : List Nat) (k : Nat) (h : k ≤ l.length) : val l = val (l.take k) + 1000000000 ^ k * val (l.drop k) := by
  have := val_append (l.take k) (l.drop k)
  rw [List.take_append_drop, List.length_take, Nat.min_eq_left h] at this
  exact this
theorem val_take_succ {l : List Nat} {k : Nat} (h : k < l.length) : val (l.take (k + 1)) = val (l.take k) + 1000000000 ^ k * l.getD k 0 := by
  rw [take_succ_getD h, val_append, List.length_take, Nat.min_eq_left (by omega)]; simp [val]
theorem val_drop_pred {l : List Nat} {k : Nat} (h : k < l.length) : val (l.drop k) = l.getD k 0 + 1000000000 * val (l.drop (k + 1)) := by
  rw [List.drop_eq_getElem_cons h, val_cons]; simp [h]
theorem val_set {l : List Nat} {k d : Nat} (h : k < l.length) : val (l.set k d) + 1000000000 ^ k * l.getD k 0 = val l + 1000000000 ^ k * d := by
  have h1 := val_take_drop (l.set k d) k (by simp; omega)
  have h2 := val_take_drop l k (by omega)
  rw [val_drop_pred (by simpa using h)] at h1
  rw [val_drop_pred h] at h2
  simp only [List.take_set, List.drop_set] at h1
  have e3 : (l.set k d).getD k 0 = d := by simp [h]
  have e4 : (l.take k).set k d = l.take k := List.set_eq_of_length_le (by simp; omega)
  rw [e3, e4, if_pos (by omega)] at h1
  rw [h1, h2]; grind

/-- No limb 0 at the end. -/
def Norm (l : List Nat) : Prop := trimL l = l
theorem Norm.nil : Norm [] := rfl
theorem norm_trimL : ∀ l : List Nat, Norm (trimL l)
  | [] => rfl
  | d :: l => by
    have := norm_trimL l
    rw [trimL_cons]; split
    · split <;> simp [Norm, trimL, *]
    · unfold Norm at this ⊢; rw [trimL_cons, this]; simp [*]
theorem Norm.ge : ∀ {l : List Nat}, Norm l → l ≠ [] → 1000000000 ^ (l.length - 1) ≤ val l
  | [], _, h => absurd rfl h
  | d :: l, h, _ => by
    unfold Norm at h
    rw [trimL_cons] at h
    by_cases hl : l = []
    · subst hl
      by_cases hd : d = 0
      · subst hd; simp [trimL] at h
      · simp [val]; omega
    · have hn : Norm l := by
        split at h
        · split at h <;> simp at h; first | exact absurd h hl | exact absurd h.symm hl | exact absurd h.2 hl | exact absurd h.2.symm hl | exact absurd h (Ne.symm hl)
        · unfold Norm; simpa using h
      have := hn.ge hl
      obtain ⟨x, t, rfl⟩ := List.exists_cons_of_ne_nil hl
      simp only [List.length_cons, Nat.add_sub_cancel, val_cons, Nat.pow_succ] at this ⊢
      omega
theorem Norm.pos {l : List Nat} (h : Norm l) (hl : l ≠ []) : 0 < val l := Nat.lt_of_lt_of_le (Nat.pow_pos (by omega)) (h.ge hl)
theorem Norm.zero {l : List Nat} (h : Norm l) : val l = 0 ↔ l = [] := ⟨fun e => by
  by_cases hl : l = []
  · exact hl
  · have := h.pos hl; omega, fun e => by rw [e]; rfl⟩

theorem val_lt_of_length {l m : List Nat} (hl : Dig l) (hm : Norm m) (h : l.length < m.length) : val l < val m := by
  have h1 := val_lt hl
  have h2 := hm.ge (by intro e; subst e; simp at h)
  have h3 : 1000000000 ^ l.length ≤ 1000000000 ^ (m.length - 1) := Nat.pow_le_pow_right (by omega) (by omega)
  omega

theorem val_lt_at {l m : List Nat} (hl : Dig l) (he : l.length = m.length) {i : Nat} (hi : i < l.length) (hd : l.drop (i + 1) = m.drop (i + 1)) (h : l.getD i 0 < m.getD i 0) : val l < val m := by
  have h1 := val_take_drop l i (by omega)
  have h2 := val_take_drop m i (by omega)
  rw [val_drop_pred hi] at h1
  rw [val_drop_pred (by omega), ← hd] at h2
  have h3 := val_lt (hl.take i)
  rw [List.length_take, Nat.min_eq_left (by omega)] at h3
  generalize 1000000000 ^ i = p at *
  have h4 : p * (l.getD i 0 + 1) ≤ p * m.getD i 0 := Nat.mul_le_mul_left _ h
  grind

theorem Norm.inj : ∀ {l m : List Nat}, Dig l → Dig m → Norm l → Norm m → val l = val m → l = m := by
  intro l m hl hm hnl hnm h
  have he : l.length = m.length := by
    rcases Nat.lt_trichotomy l.length m.length with h' | h' | h'
    · have := val_lt_of_length hl hnm h'; omega
    · exact h'
    · have := val_lt_of_length hm hnl h'; omega
  clear hnl hnm
  induction l generalizing m with
  | nil => simp at he; exact (List.eq_nil_of_length_eq_zero he.symm).symm
  | cons d l ih =>
    cases m with
    | nil => simp at he
    | cons x m =>
      have h1 := Dig.cons.1 hl
      have h2 := Dig.cons.1 hm
      simp only [val_cons] at h
      have : d = x := by omega
      subst this
      rw [ih h1.2 h2.2 (by omega) (by simpa using he)]

/-- The sign of a - b. -/
def cmpN (a b : Nat) : Int := if a < b then -1 else if b < a then 1 else 0


theorem val_take_succ' (l : List Nat) (k : Nat) : val (l.take (k + 1)) = val (l.take k) + 1000000000 ^ k * l.getD k 0 := by
  by_cases h : k < l.length
  · exact val_take_succ h
  · rw [List.take_of_length_le (by omega), List.take_of_length_le (by omega)]; simp [h]
theorem val_snoc (r : List Nat) (d : Nat) : val (r ++ [d]) = val r + 1000000000 ^ r.length * d := by rw [val_append]; simp [val]

/-- One round of an addition. -/
theorem plus_step {X Y r : List Nat} {k c d c' : Nat} (hk : r.length = k) (h : val r + 1000000000 ^ k * c = val (X.take k) + val (Y.take k)) (hd : d + 1000000000 * c' = X.getD k 0 + c + Y.getD k 0) :
    val (r ++ [d]) + 1000000000 ^ (k + 1) * c' = val (X.take (k + 1)) + val (Y.take (k + 1)) := by
  subst hk
  rw [val_snoc, val_take_succ', val_take_succ', Nat.pow_succ]
  generalize 1000000000 ^ r.length = p at *
  generalize X.getD r.length 0 = x at *
  generalize Y.getD r.length 0 = y at *
  have e : p * (d + 1000000000 * c') = p * (x + c + y) := by rw [hd]
  grind
theorem plus_end {X Y r : List Nat} {c : Nat} (hk : r.length = X.length) (hY : Y.length ≤ X.length) (h : val r + 1000000000 ^ X.length * c = val (X.take X.length) + val (Y.take X.length)) :
    val (r ++ [c]) = val X + val Y := by
  rw [List.take_length, List.take_of_length_le hY] at h
  rw [val_snoc, hk]; exact h


/-- One step of a row of a product. -/
theorem times_step {O b : List Nat} {S x i k c t : Nat} (hlen : i + k < O.length) (h : val O + 1000000000 ^ (i + k) * c = S + 1000000000 ^ i * (x * val (b.take k)))
    (ht : t = O.getD (i + k) 0 + x * b.getD k 0 + c) : val (O.set (i + k) (t % 1000000000)) + 1000000000 ^ (i + (k + 1)) * (t / 1000000000) = S + 1000000000 ^ i * (x * val (b.take (k + 1))) := by
  have h1 := val_set (d := t % 1000000000) hlen
  have h2 : t % 1000000000 + 1000000000 * (t / 1000000000) = t := Nat.mod_add_div _ _
  rw [val_take_succ', show i + (k + 1) = (i + k) + 1 by omega, Nat.pow_succ]
  have h3 : 1000000000 ^ (i + k) = 1000000000 ^ i * 1000000000 ^ k := Nat.pow_add _ _ _
  generalize 1000000000 ^ (i + k) = p at *
  generalize 1000000000 ^ i = pi at *
  generalize 1000000000 ^ k = pk at *
  generalize O.getD (i + k) 0 = o at *
  generalize b.getD k 0 = y at *
  generalize t % 1000000000 = d at *
  generalize t / 1000000000 = q at *
  generalize val (O.set (i + k) d) = V at *
  generalize val (b.take k) = W at *
  subst ht
  have e : p * (d + 1000000000 * q) = p * (o + x * y + c) := by rw [h2]
  grind
theorem times_row {O a b : List Nat} {i c : Nat} (hlen : i + b.length < O.length) (h : val O + 1000000000 ^ (i + b.length) * c = val (a.take i) * val b + 1000000000 ^ i * (a.getD i 0 * val (b.take b.length)))
    (hz : O.getD (i + b.length) 0 = 0) : val (O.set (i + b.length) c) = val (a.take (i + 1)) * val b := by
  have h1 := val_set (d := c) hlen
  rw [hz] at h1
  rw [List.take_length] at h
  rw [val_take_succ']
  grind
theorem zeros_set {O : List Nat} {n k d : Nat} (h : ∀ j, n ≤ j → O.getD j 0 = 0) (hk : k < n) : ∀ j, n ≤ j → (O.set k d).getD j 0 = 0 := fun j hj => by
  have := h j hj
  rw [List.getD_eq_getElem?_getD] at this ⊢
  rw [List.getElem?_set_ne (by omega)]; exact this
theorem times_bound {o x y c : Nat} (ho : o < 1000000000) (hx : x < 1000000000) (hy : y < 1000000000) (hc : c < 1000000000) : o + x * y + c < 1000000000 * 1000000000 := by
  have h : x * y ≤ 999999999 * 999999999 := Nat.mul_le_mul (by omega) (by omega)
  omega


/-- One round of a subtraction. -/
theorem minus_step {X Y r : List Nat} {k c d c' : Nat} (hk : k < r.length) (h : val (r.take k) + val (Y.take k) = val (X.take k) + 1000000000 ^ k * c) (hd : d + Y.getD k 0 + c = X.getD k 0 + 1000000000 * c') :
    val ((r.set k d).take (k + 1)) + val (Y.take (k + 1)) = val (X.take (k + 1)) + 1000000000 ^ (k + 1) * c' := by
  rw [val_take_succ', val_take_succ', val_take_succ' X, Nat.pow_succ, List.take_set, List.set_eq_of_length_le (by simp; omega)]
  have e : (r.set k d).getD k 0 = d := by simp [hk]
  rw [e]
  generalize 1000000000 ^ k = p at *
  generalize X.getD k 0 = x at *
  generalize Y.getD k 0 = y at *
  have e : p * (d + y + c) = p * (x + 1000000000 * c') := by rw [hd]
  grind
theorem minus_end {X Y r : List Nat} {c : Nat} (hr : r.length = X.length) (hd : Dig r) (hY : Y.length ≤ X.length) (hle : val Y ≤ val X) (h : val (r.take X.length) + val (Y.take X.length) = val (X.take X.length) + 1000000000 ^ X.length * c) :
    val r = val X - val Y := by
  rw [List.take_of_length_le (by omega), List.take_of_length_le hY, List.take_length] at h
  have h1 := val_lt hd
  rw [hr] at h1
  by_cases hc : c = 0
  · subst hc; omega
  · have : 1000000000 ^ X.length * 1 ≤ 1000000000 ^ X.length * c := Nat.mul_le_mul_left _ (by omega)
    omega


theorem drop_set_self {r : List Nat} {k d : Nat} (hk : k < r.length) : val ((r.set k d).drop k) = d + 1000000000 * val (r.drop (k + 1)) := by
  rw [val_drop_pred (by simpa using hk)]
  have e : (r.set k d).getD k 0 = d := by simp [hk]
  rw [e, List.drop_set, if_pos (by omega)]
/-- One round of a division by a limb. -/
theorem byWord_step {X r : List Nat} {k b rest t : Nat} (hk : k < r.length) (hX : k < X.length) (h : val (r.drop (k + 1)) * b + rest = val (X.drop (k + 1))) (ht : t = rest * 1000000000 + X.getD k 0) :
    val ((r.set k (t / b)).drop k) * b + t % b = val (X.drop k) := by
  rw [drop_set_self hk, val_drop_pred hX]
  have h2 := Nat.mod_add_div t b
  generalize t / b = q at *
  generalize t % b = m at *
  generalize X.getD k 0 = x at *
  generalize val (r.drop (k + 1)) = V at *
  generalize val (X.drop (k + 1)) = W at *
  subst h ht
  grind
theorem byWord_dig {rest x b : Nat} (hr : rest < b) (hx : x < 1000000000) : (rest * 1000000000 + x) / b < 1000000000 := by
  rw [Nat.div_lt_iff_lt_mul (by omega)]
  have : (rest + 1) * 1000000000 ≤ b * 1000000000 := Nat.mul_le_mul_right _ hr
  grind


/-! A stretch of a row that is written in place: from k on, n limbs. -/
theorem seg_get {R U : List Nat} {j : Nat} (h : R.drop j = U.drop j) : R.getD j 0 = U.getD j 0 := by
  have := congrArg (fun l : List Nat => l.getD 0 0) h
  simpa using this
theorem seg_take {R U : List Nat} {k j d : Nat} (h : R.take k = U.take k) : (R.set (k + j) d).take k = U.take k := by
  rw [List.take_set, List.set_eq_of_length_le (by simp; omega), h]
theorem seg_drop {R U : List Nat} {k j d : Nat} (h : R.drop (k + j) = U.drop (k + j)) : (R.set (k + j) d).drop (k + (j + 1)) = U.drop (k + (j + 1)) := by
  rw [List.drop_set, if_pos (by omega)]
  have := congrArg (List.drop 1) h
  rw [List.drop_drop, List.drop_drop] at this
  exact this
theorem seg_val {R : List Nat} {k j d : Nat} (h : k + j < R.length) : val (((R.set (k + j) d).drop k).take (j + 1)) = val ((R.drop k).take j) + 1000000000 ^ j * d := by
  rw [List.drop_set, if_neg (by omega), show k + j - k = j by omega, val_take_succ', List.take_set, List.set_eq_of_length_le (by simp; omega)]
  have e : ((R.drop k).set j d).getD j 0 = d := by simp [show j < R.length - k by omega]
  rw [e]
theorem seg_old {U : List Nat} {k j : Nat} : val ((U.drop k).take (j + 1)) = val ((U.drop k).take j) + 1000000000 ^ j * U.getD (k + j) 0 := by
  rw [val_take_succ']; simp

/-- One round of u - v * by. -/
theorem sub_step {R U V : List Nat} {k j c b f d b' t : Nat} (hk : k + j < R.length) (h : val ((R.drop k).take j) + f * val (V.take j) = val ((U.drop k).take j) + 1000000000 ^ j * (c + b))
    (ht : t = c + V.getD j 0 * f) (hd : d + t % 1000000000 + b = U.getD (k + j) 0 + 1000000000 * b') :
    val (((R.set (k + j) d).drop k).take (j + 1)) + f * val (V.take (j + 1)) = val ((U.drop k).take (j + 1)) + 1000000000 ^ (j + 1) * (t / 1000000000 + b') := by
  rw [seg_val hk, seg_old, val_take_succ', Nat.pow_succ]
  have h2 := Nat.mod_add_div t 1000000000
  generalize 1000000000 ^ j = p at *
  generalize t / 1000000000 = q at *
  generalize t % 1000000000 = m at *
  generalize U.getD (k + j) 0 = u at *
  generalize V.getD j 0 = v at *
  have e : p * (d + m + b) = p * (u + 1000000000 * b') := by rw [hd]
  have e2 : p * (m + 1000000000 * q) = p * (c + v * f) := by rw [h2, ht]
  grind
/-- One round of u + v. -/
theorem add_step {R U V : List Nat} {k j c d c' : Nat} (hk : k + j < R.length) (h : val ((R.drop k).take j) + 1000000000 ^ j * c = val ((U.drop k).take j) + val (V.take j))
    (hd : d + 1000000000 * c' = U.getD (k + j) 0 + c + V.getD j 0) :
    val (((R.set (k + j) d).drop k).take (j + 1)) + 1000000000 ^ (j + 1) * c' = val ((U.drop k).take (j + 1)) + val (V.take (j + 1)) := by
  rw [seg_val hk, seg_old, val_take_succ', Nat.pow_succ]
  generalize 1000000000 ^ j = p at *
  generalize U.getD (k + j) 0 = u at *
  generalize V.getD j 0 = v at *
  have e : p * (d + 1000000000 * c') = p * (u + c + v) := by rw [hd]
  grind
theorem sub_carry {c v f : Nat} (hc : c < 1000000000) (hv : v < 1000000000) (hf : f < 1000000000) : (c + v * f) / 1000000000 < 1000000000 ∧ v * f ≤ 999999998000000001 := by
  have : v * f ≤ 999999999 * 999999999 := Nat.mul_le_mul (by omega) (by omega)
  omega

end Go.Proofs.YtechjiiijiipdaaDoor

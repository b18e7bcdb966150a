/- The tokens of a line, joined by single spaces, stand in the joined line with the same kinds and texts. -/
import Derived.Test.YtechjiiijiipdaaDoorPCovers
namespace Go.Proofs.YtechjiiijiipdaaDoor
set_option linter.unusedVariables false
set_option linter.unusedSimpArgs false
theorem runF_eq {p : UInt8 → Bool} (h0 : p 0 = false) {l : List UInt8} {k j : Nat} (hkj : k ≤ j) (hin : ∀ i, k ≤ i → i < j → p (peekF l i) = true) (hj : p (peekF l j) = false) : runF p l k = j := by
  obtain ⟨d, rfl⟩ : ∃ d, j = k + d := ⟨j - k, by omega⟩
  clear hkj
  induction d generalizing k with
  | zero =>
    rcases Nat.lt_or_ge k l.length with h | h
    · exact runF_stop (.inr hj)
    · exact runF_stop (.inl h)
  | succ d ih =>
    have hk := hin k (Nat.le_refl _) (by omega)
    have hlt : k < l.length := by
      rcases Nat.lt_or_ge k l.length with h | h
      · exact h
      · rw [peekF_len h, h0] at hk; simp at hk
    rw [runF_go hlt hk, ih (k := k + 1) (fun i h1 h2 => hin i (by omega) (by omega)) (by rw [show k + 1 + d = k + (d + 1) by omega]; exact hj)]
    omega
theorem runF_in {p : UInt8 → Bool} (h0 : p 0 = false) (l : List UInt8) (k : Nat) : (∀ i, k ≤ i → i < runF p l k → p (peekF l i) = true) ∧ p (peekF l (runF p l k)) = false := by
  obtain ⟨n, hn⟩ : ∃ n, l.length - k = n := ⟨_, rfl⟩
  induction n generalizing k with
  | zero =>
    have h : runF p l k = k := runF_stop (.inl (by omega))
    rw [h]
    exact ⟨fun i h1 h2 => by omega, by rw [peekF_len (by omega)]; exact h0⟩
  | succ n ih =>
    by_cases hp : p (peekF l k) = true
    · rw [runF_go (by omega) hp]
      obtain ⟨i1, i2⟩ := ih (k + 1) (by omega)
      refine ⟨fun i h1 h2 => ?_, i2⟩
      by_cases hik : i = k
      · rw [hik]; exact hp
      · exact i1 i (by omega) h2
    · rw [runF_stop (.inr (by simpa using hp))]
      exact ⟨fun i h1 h2 => by omega, by simpa using hp⟩
/-- A byte that ends every word: the end, or a space. -/
def endB (c : UInt8) : Prop := c = 0 ∨ c = 32
theorem endB.digit {c : UInt8} (h : endB c) : digitB c = false := by rcases h with rfl | rfl <;> decide
theorem endB.name {c : UInt8} (h : endB c) : nameB c = false := by rcases h with rfl | rfl <;> decide
theorem endB.letter {c : UInt8} (h : endB c) : letterB c = false := by rcases h with rfl | rfl <;> decide
theorem endB.ne {c : UInt8} (h : endB c) : c ≠ 46 ∧ c ≠ 95 ∧ c ≠ 45 := by rcases h with rfl | rfl <;> decide
/-- A run that ends within m bytes ends at the same place of another line, where the m bytes are the same and an end stands behind them. -/
theorem runF_local {p : UInt8 → Bool} (h0 : p 0 = false) {l l' : List UInt8} {k k' m d : Nat} (hag : ∀ i, i < m → peekF l' (k' + i) = peekF l (k + i)) (he : p (peekF l' (k' + m)) = false) (hd : d ≤ m) (hr : runF p l (k + d) ≤ k + m) :
    runF p l' (k' + d) + k = runF p l (k + d) + k' := by
  obtain ⟨h1, h2⟩ := runF_in h0 l (k + d)
  have h3 := runF_ge p l (k + d)
  generalize runF p l (k + d) = j at *
  obtain ⟨e, rfl⟩ : ∃ e, j = k + e := ⟨j - k, by omega⟩
  have : runF p l' (k' + d) = k' + e := by
    refine runF_eq h0 (by omega) (fun i g1 g2 => ?_) ?_
    · obtain ⟨x, rfl⟩ : ∃ x, i = k' + x := ⟨i - k', by omega⟩
      rw [hag x (by omega)]
      exact h1 _ (by omega) (by omega)
    · rcases Nat.lt_or_ge e m with g | g
      · rw [hag e g]; exact h2
      · rw [show e = m by omega]; exact he
  omega
theorem numF_local {l l' : List UInt8} {k k' m : Nat} (hag : ∀ i, i < m → peekF l' (k' + i) = peekF l (k + i)) (he : endB (peekF l' (k' + m))) (hm : 0 < m) (hn : numF l k = k + m) : numF l' k' = k' + m := by
  have hA : numA l k ≤ k + m := by
    rw [← hn]; unfold numF
    split
    · have := runF_ge digitB l (numA l k + 1); omega
    · exact Nat.le_refl _
  have h45 : peekF l' k' = peekF l k := hag 0 hm
  have hA' : numA l' k' + k = numA l k + k' := by
    unfold numA at hA ⊢
    rw [h45]
    by_cases h : peekF l k = 45
    · rw [if_pos h] at hA; rw [if_pos h, if_pos h]
      exact runF_local (by decide) hag he.digit (by omega) hA
    · rw [if_neg h] at hA; rw [if_neg h, if_neg h]
      exact runF_local (d := 0) (by decide) hag he.digit (by omega) hA
  have hge : k ≤ numA l k := by
    unfold numA
    split
    · have := runF_ge digitB l (k + 1); omega
    · exact runF_ge _ _ _
  unfold numF at hn ⊢
  generalize numA l k = a at *
  generalize numA l' k' = a' at *
  obtain ⟨e, rfl⟩ : ∃ e, a = k + e := ⟨a - k, by omega⟩
  obtain rfl : a' = k' + e := by omega
  by_cases h : peekF l (k + e) = 46 ∧ digitB (peekF l (k + e + 1)) = true
  · rw [if_pos h] at hn
    have g : k + e + 1 < runF digitB l (k + e + 1) := by
      have := runF_ge digitB l (k + e + 1 + 1)
      rw [runF_go (peekF_ne (digitB_ne h.2)) h.2]; omega
    have e1 := hag e (by omega)
    have e2 := hag (e + 1) (by omega)
    rw [if_pos (by rw [e1, show k' + e + 1 = k' + (e + 1) by omega, e2]; exact h)]
    have := runF_local (d := e + 1) (by decide) hag he.digit (by omega) (by rw [show k + (e + 1) = k + e + 1 by omega, hn]; exact Nat.le_refl _)
    rw [show k + (e + 1) = k + e + 1 by omega, hn] at this
    rw [show k' + e + 1 = k' + (e + 1) by omega]; omega
  · rw [if_neg h] at hn
    obtain rfl : e = m := by omega
    rw [if_neg (fun g => he.ne.1 g.1)]
theorem stepF_local {l l' : List UInt8} {k k' m : Nat} {kd : Int} (hs : stepF l k = .tok kd (k + m)) (hm : 0 < m) (hag : ∀ i, i < m → peekF l' (k' + i) = peekF l (k + i)) (hl : k' + m ≤ l'.length) (hc : cutF l' k' (k' + m) = cutF l k (k + m)) (he : endB (peekF l' (k' + m))) :
    stepF l' k' = .tok kd (k' + m) := by
  have h0 : peekF l' k' = peekF l k := hag 0 hm
  unfold stepF at hs ⊢
  by_cases h1 : l.length ≤ k ∨ peekF l k = 35
  · rw [if_pos h1] at hs; simp at hs
  rw [if_neg h1] at hs
  rw [if_neg (by rw [h0]; rintro (g | g); (· omega); (· exact h1 (.inr g))), h0]
  by_cases h2 : peekF l k = 32
  · rw [if_pos h2] at hs; simp at hs
  rw [if_neg h2] at hs ⊢
  by_cases h3 : letterB (peekF l k) = true
  · rw [if_pos h3] at hs ⊢
    by_cases h4 : 24 < runF nameB l k - k
    · rw [if_pos h4] at hs; simp at hs
    · rw [if_neg h4] at hs
      simp only [Step.tok.injEq] at hs
      have := runF_local (p := nameB) (d := 0) (by decide) hag he.name (by omega) (by simp; omega)
      simp only [Nat.add_zero] at this
      rw [if_neg (by omega)]
      simp only [Step.tok.injEq]
      exact ⟨hs.1, by omega⟩
  rw [if_neg h3] at hs ⊢
  by_cases h4 : (digitB (peekF l k) || (decide (peekF l k = 45) && digitB (peekF l (k + 1)))) = true
  · rw [if_pos h4] at hs
    by_cases h7 : isDec (cutF l k (numF l k)) = false
    · rw [if_pos h7] at hs; simp at hs
    rw [if_neg h7] at hs
    by_cases h8 : (letterB (peekF l (numF l k)) || decide (peekF l (numF l k) = 95) || decide (peekF l (numF l k) = 46)) = true
    · rw [if_pos h8] at hs; simp at hs
    rw [if_neg h8] at hs
    simp only [Step.tok.injEq] at hs
    obtain ⟨rfl, hn⟩ := hs
    have hn' := numF_local hag he hm hn
    have hd : (digitB (peekF l k) || (decide (peekF l k = 45) && digitB (peekF l' (k' + 1)))) = true := by
      by_cases h45 : peekF l k = 45
      · have hx : digitB (peekF l (k + 1)) = true := by rw [h45] at h4; simpa [show digitB 45 = false by decide] using h4
        have g : 1 < m := by
          have := numA_gt h4
          have g1 : numA l k ≤ k + m := by
            rw [← hn]; unfold numF
            split
            · have := runF_ge digitB l (numA l k + 1); omega
            · exact Nat.le_refl _
          unfold numA at g1
          rw [if_pos h45, runF_go (peekF_ne (digitB_ne hx)) hx] at g1
          have := runF_ge digitB l (k + 1 + 1)
          omega
        rw [hag 1 g]; exact h4
      · simpa [h45] using h4
    rw [if_pos hd, hn', hc, ← hn, if_neg h7, if_neg]
    have h9 := he.letter
    have hne := he.ne
    simp [h9, hne.1, hne.2.1]
  rw [if_neg h4] at hs
  by_cases h5 : symB (peekF l k) = true
  · rw [if_pos h5] at hs
    simp only [Step.tok.injEq] at hs
    obtain ⟨rfl, hn⟩ := hs
    obtain rfl : m = 1 := by omega
    have h45 : peekF l k ≠ 45 := by intro e; rw [e] at h5; revert h5; decide
    have hdg : digitB (peekF l k) = false := by
      cases h : digitB (peekF l k) with
      | false => rfl
      | true => simp [h] at h4
    rw [if_neg (by simp [hdg, h45]), if_pos h5]
  · rw [if_neg h5] at hs; simp at hs
/-- A text that is a token of this kind wherever it stands before a space or the end. -/
def Word (kd : Int) (x : List UInt8) : Prop := 0 < x.length ∧ ∀ (l : List UInt8) (k : Nat), k + x.length ≤ l.length → cutF l k (k + x.length) = x → endB (peekF l (k + x.length)) → stepF l k = .tok kd (k + x.length)
theorem cut_peek {l : List UInt8} {a b i : Nat} (h : a + i < b) (hb : b ≤ l.length) : peekF l (a + i) = peekF (cutF l a b) i := by
  unfold peekF cutF
  rw [List.getD_eq_getElem?_getD, List.getD_eq_getElem?_getD, List.getElem?_drop, List.getElem?_take, if_pos h]
theorem step_word {l : List UInt8} {k n : Nat} {kd : Int} (h : stepF l k = .tok kd n) (h1 : k < n) (h2 : n ≤ l.length) : Word kd (cutF l k n) := by
  have hl := cut_len (l := l) (a := k) (b := n) (by omega) h2
  obtain ⟨m, rfl⟩ : ∃ m, n = k + m := ⟨n - k, by omega⟩
  have hm : (cutF l k (k + m)).length = m := by omega
  refine ⟨by omega, fun l' k' g1 g2 g3 => ?_⟩
  rw [hm] at g1 g2 g3 ⊢
  refine stepF_local h (by omega) (fun i hi => ?_) g1 g2 g3
  rw [cut_peek (b := k' + m) (by omega) g1, cut_peek (b := k + m) (by omega) h2, g2]
theorem lex_words {l : List UInt8} : ∀ (f k : Nat) (out : List Tok), (∀ t ∈ out, Word t.kind t.text) → ∀ t ∈ (lexF l f k out).1, Word t.kind t.text
  | 0, k, out, h => by simpa [lexF] using h
  | f + 1, k, out, h => by
    simp only [lexF]
    rcases stepF_cases (l := l) (k := k) with ⟨e, hs⟩ | ⟨e, hs, hk⟩ | ⟨p, er, e, he⟩ | ⟨t, n, e, hn1, hn2⟩
    · rw [e]; exact h
    · rw [e]; exact lex_words f _ _ h
    · rw [e]; simp
    · rw [e]
      refine lex_words f _ _ fun u hu => ?_
      rcases List.mem_append.1 hu with hu | hu
      · exact h u hu
      · rw [List.mem_singleton.1 hu]; exact step_word e hn1 hn2
theorem tok_words (l : List UInt8) : ∀ t ∈ (tokF l).1, Word t.kind t.text := by
  unfold tokF
  split
  · simp
  · exact lex_words _ _ _ (by simp)
/-- The texts, joined by single spaces. -/
def jn : List Tok → List UInt8
  | [] => []
  | [t] => t.text
  | t :: u :: us => t.text ++ 32 :: jn (u :: us)
theorem jn_snoc : ∀ (ts : List Tok) (t : Tok), ts ≠ [] → jn (ts ++ [t]) = jn ts ++ 32 :: t.text
  | [], _, h => absurd rfl h
  | [u], t, _ => by simp [jn]
  | u :: v :: vs, t, _ => by
    have := jn_snoc (v :: vs) t (by simp)
    simp only [List.cons_append, jn] at this ⊢
    rw [this]; simp
theorem jn_len {l : List UInt8} : ∀ (ts : List Tok) (a : Nat), a ≤ l.length → Cov l a ts → (jn ts).length + 2 * a ≤ 2 * l.length ∧ ts.length + a ≤ l.length
  | [], a, h, _ => by simp [jn]; omega
  | [t], a, h, hc => by unfold Cov at hc; simp [jn]; omega
  | t :: u :: us, a, h, hc => by
    unfold Cov at hc
    obtain ⟨h1, h2, h3, _, _, h6⟩ := hc
    have := jn_len (u :: us) _ h2 h6
    simp only [jn, List.length_append, List.length_cons] at this ⊢
    omega
theorem lex_jn : ∀ (ts : List Tok) (pre : List UInt8) (f : Nat) (out : List Tok), (∀ t ∈ ts, Word t.kind t.text) → (jn ts).length < f →
    ∃ new, lexF (pre ++ jn ts) f pre.length out = (out ++ new, 0, 0) ∧ new.map (fun t => (t.kind, t.text)) = ts.map (fun t => (t.kind, t.text))
  | [], pre, f, out, _, hf => by
    obtain ⟨f, rfl⟩ : ∃ g, f = g + 1 := ⟨f - 1, by omega⟩
    refine ⟨[], ?_, rfl⟩
    rw [lexF]
    have : stepF (pre ++ jn []) pre.length = .stop := by unfold stepF; rw [if_pos (.inl (by simp [jn]))]
    rw [this]; simp
  | [t], pre, f, out, hw, hf => by
    obtain ⟨hp, hw⟩ := hw t (by simp)
    simp only [jn] at hf ⊢
    obtain ⟨f, rfl⟩ : ∃ g, f = g + 2 := ⟨f - 2, by omega⟩
    have hc : cutF (pre ++ t.text) pre.length (pre.length + t.text.length) = t.text := by unfold cutF; rw [List.take_of_length_le (by simp)]; simp
    have hs := hw (pre ++ t.text) pre.length (by simp) hc (.inl (peekF_len (by simp)))
    have h2 : stepF (pre ++ t.text) (pre.length + t.text.length) = .stop := by unfold stepF; rw [if_pos (.inl (by simp))]
    refine ⟨[⟨t.kind, pre.length, t.text⟩], ?_, rfl⟩
    rw [lexF, hs]
    simp only
    rw [lexF, h2, hc]
  | t :: u :: us, pre, f, out, hw, hf => by
    obtain ⟨hp, hw1⟩ := hw t (by simp)
    simp only [jn, List.length_append, List.length_cons] at hf ⊢
    obtain ⟨f, rfl⟩ : ∃ g, f = g + 2 := ⟨f - 2, by omega⟩
    have hc : cutF (pre ++ (t.text ++ 32 :: jn (u :: us))) pre.length (pre.length + t.text.length) = t.text := by unfold cutF; rw [← List.append_assoc, List.take_append_of_le_length (by simp), List.take_of_length_le (by simp)]; simp
    have hpk : peekF (pre ++ (t.text ++ 32 :: jn (u :: us))) (pre.length + t.text.length) = 32 := by unfold peekF; rw [List.getD_eq_getElem?_getD, ← List.append_assoc, List.getElem?_append_right (by simp)]; simp
    have hs := hw1 (pre ++ (t.text ++ 32 :: jn (u :: us))) pre.length (by simp) hc (.inr hpk)
    have h2 : stepF (pre ++ (t.text ++ 32 :: jn (u :: us))) (pre.length + t.text.length) = .skip (pre.length + t.text.length + 1) := by
      unfold stepF; rw [if_neg (by rw [hpk]; simp), if_pos hpk]
    obtain ⟨new, e1, e2⟩ := lex_jn (u :: us) (pre ++ t.text ++ [32]) f (out ++ [⟨t.kind, pre.length, t.text⟩]) (fun x hx => hw x (by simp at hx ⊢; exact .inr hx)) (by omega)
    refine ⟨⟨t.kind, pre.length, t.text⟩ :: new, ?_, by simp [e2]⟩
    rw [lexF, hs]
    simp only
    rw [lexF, h2, hc]
    simp only
    have e3 : pre ++ t.text ++ [32] ++ jn (u :: us) = pre ++ (t.text ++ 32 :: jn (u :: us)) := by simp
    have e4 : (pre ++ t.text ++ [32]).length = pre.length + t.text.length + 1 := by simp; omega
    rw [e3, e4] at e1
    rw [e1]; simp
theorem tok_jn {l : List UInt8} (h : l.length ≤ 30000) (h0 : (tokF l).2.2 = 0) : ∃ new, tokF (jn (tokF l).1) = (new, 0, 0) ∧ new.map (fun t => (t.kind, t.text)) = (tokF l).1.map (fun t => (t.kind, t.text)) := by
  have hc := (tok_cov (l := l) (by omega)).1 h0
  have hl := (jn_len _ 0 (Nat.zero_le _) hc).1
  have hw := tok_words l
  generalize (tokF l).1 = ts at *
  obtain ⟨new, e1, e2⟩ := lex_jn ts [] ((jn ts).length + 1) [] hw (by omega)
  refine ⟨new, ?_, e2⟩
  unfold tokF
  rw [if_neg (by omega)]
  simpa using e1
end Go.Proofs.YtechjiiijiipdaaDoor

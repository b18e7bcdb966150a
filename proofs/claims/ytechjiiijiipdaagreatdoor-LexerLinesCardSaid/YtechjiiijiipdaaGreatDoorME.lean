/- Walks over the reference's lexer: digits, symbol. The reference's number: plain. The reference's Places: plain. The reference's Parse of decimal texts and of integers, and its number: plain. The square root of a natural number, rounded down; Newton's steps: plain. Decimal texts of natural numbers: plain. Decimal texts with a point: plain. Texts of micrometres: plain. strconv.ParseInt at decimal texts; FromMillimetres: plain. Walk over the reference's lexer: number. Walk over the reference: Places. Walk over the reference: Parse of an integer's text. Walk over the reference: Parse of a decimal text. Walk over the reference's lexer: Tokens. -/
import Derived.Test.YtechjiiijiipdaaGreatDoorMC
import Derived.Lib.ParseIntB
import Derived.Test.YtechjiiijiipdaaGreatDoorMD
namespace Go.Proofs.YtechjiiijiipdaaGreatDoor
open Go.RowKit
set_option linter.unusedSimpArgs false
set_option linter.unusedVariables false
set_option maxHeartbeats 1000000 in
theorem ref21_digits (s : ByteArray) (w : World) (hs : s.size ≤ 65536) : Calls Tryz.prog 128 #[.string s] w fun e w' => e = .returned (.int .i64 (runF digitB s.data.toList 0 : Nat)) ∧ w = w' := by
  have HZ := Lib.hid (Lib.size_eq s)
  go_enter Tryz.func128, Tryz.ntmps128
  go_wp2
  go_loop [3] (fun a => ∃ j : Nat, j ≤ 65537 ∧ a = .int .i64 j ∧ Hid (runF digitB s.data.toList 0 = runF digitB s.data.toList j)) (fun a => s.size - (intOf a).toNat)
  case atStart => exact ⟨0, by omega, rfl, Lib.hid rfl⟩
  case round =>
    obtain ⟨j, hj, rfl, hr⟩ := hrel
    by_cases hlt : j < s.size
    · have hp := peekF_at (s := s) hlt
      have hg := Lib.hid (@runF_go digitB s.data.toList j (by have := HZ.out; omega))
      have hst := Lib.hid (@runF_stop digitB s.data.toList j)
      rw [hp] at hg hst
      obtain ⟨db, h2⟩ : ∃ b, digitB s[j] = b := ⟨_, rfl⟩
      have H2 := Lib.hid h2
      clear h2 hp
      cases db with
      | true =>
        go_wp2_with (go_at_call 127; refine (ref21_digit s[j] _).mono ?_; rintro e w' ⟨rfl, rfl⟩; rw [H2.out])
        go_round
        case rel => exact ⟨j + 1, by omega, by go_num, Lib.hid (by rw [hr.out, hg.out H2.out])⟩
        case measure => simp [intOf]; omega
      | false =>
        go_wp2_with (go_at_call 127; refine (ref21_digit s[j] _).mono ?_; rintro e w' ⟨rfl, rfl⟩; rw [H2.out])
        go_ret
        exact ⟨by rw [hr.out, hst.out (.inr H2.out)]; rfl, rfl⟩
    · have hst := Lib.hid (@runF_stop digitB s.data.toList j (.inl (by have := HZ.out; omega)))
      go_wp2
      go_ret
      exact ⟨by rw [hr.out, hst.out]; rfl, rfl⟩
theorem symB_nat (c : UInt8) : symB c = (((c.toNat : Int) == 61) || ((c.toNat : Int) == 44) || ((c.toNat : Int) == 59) || ((c.toNat : Int) == 58) || ((c.toNat : Int) == 40) || ((c.toNat : Int) == 41)) := by
  unfold symB; rw [Bool.eq_iff_iff]; simp [← UInt8.toNat_inj]; try omega
set_option maxHeartbeats 1000000 in
theorem ref21_symbol (c : UInt8) (w : World) : Calls Tryz.prog 72 #[.int .u8 (c.toNat : Int)] w fun e w' => e = .returned (.bool (symB c)) ∧ w = w' := by
  rw [symB_nat]
  obtain ⟨x1, h1⟩ : ∃ b, ((c.toNat : Int) == 61) = b := ⟨_, rfl⟩
  obtain ⟨x2, h2⟩ : ∃ b, ((c.toNat : Int) == 44) = b := ⟨_, rfl⟩
  obtain ⟨x3, h3⟩ : ∃ b, ((c.toNat : Int) == 59) = b := ⟨_, rfl⟩
  obtain ⟨x4, h4⟩ : ∃ b, ((c.toNat : Int) == 58) = b := ⟨_, rfl⟩
  obtain ⟨x5, h5⟩ : ∃ b, ((c.toNat : Int) == 40) = b := ⟨_, rfl⟩
  obtain ⟨x6, h6⟩ : ∃ b, ((c.toNat : Int) == 41) = b := ⟨_, rfl⟩
  rw [h1, h2, h3, h4, h5, h6]
  go_enter Tryz.func72, Tryz.ntmps72
  cases x1 with
  | true => go_wp2; go_ret; exact ⟨rfl, rfl⟩
  | false => cases x2 with
    | true => go_wp2; go_ret; exact ⟨rfl, rfl⟩
    | false => cases x3 with
      | true => go_wp2; go_ret; exact ⟨rfl, rfl⟩
      | false => cases x4 with
        | true => go_wp2; go_ret; exact ⟨rfl, rfl⟩
        | false => cases x5 with
          | true => go_wp2; go_ret; exact ⟨rfl, rfl⟩
          | false => cases x6 with
            | true => go_wp2; go_ret; exact ⟨rfl, rfl⟩
            | false => go_wp2; go_ret; exact ⟨rfl, rfl⟩
end Go.Proofs.YtechjiiijiipdaaGreatDoor
namespace Go.Proofs.YtechjiiijiipdaaGreatDoor
theorem runF_drop (p : UInt8 → Bool) (l : List UInt8) (k : Nat) : runF p (l.drop k) 0 + k = runF p l k := by
  unfold runF; simp; omega
theorem peekF_drop (l : List UInt8) (k i : Nat) : peekF (l.drop k) i = peekF l (k + i) := by
  unfold peekF; rw [List.getD_eq_getElem?_getD, List.getD_eq_getElem?_getD, List.getElem?_drop]
/-- The reference's length of a number, or 0. -/
def numL (l : List UInt8) : Nat := if numA l 0 = (if peekF l 0 = 45 then 1 else 0) then 0 else numF l 0
end Go.Proofs.YtechjiiijiipdaaGreatDoor
namespace Go.Proofs.YtechjiiijiipdaaGreatDoor
open Go.RowKit
set_option linter.unusedSimpArgs false
set_option linter.unusedVariables false
theorem AllD.nil : AllD [] := by simp [AllD]
theorem whole_all {b : List UInt8} (h : AllD b) : whole b = b ∧ frac b = [] ∧ dotted b = false := by
  have h1 : ∀ c ∈ b, (c != 46) = true := fun c hc => by
    have := h c hc
    simp only [bne_iff_ne, ne_eq]; rintro rfl; simp at this
  refine ⟨?_, ?_, ?_⟩
  · have := List.takeWhile_append_of_pos (l₂ := []) h1
    simp at this
    exact this
  · unfold frac; rw [dropWhile_nil.2 (List.all_eq_true.2 h1)]; rfl
  · unfold dotted; rw [Bool.eq_false_iff]; intro h2
    have := h1 46 (by simpa using h2)
    simp at this
theorem whole_dot {A F : List UInt8} (h : AllD A) : whole (A ++ 46 :: F) = A ∧ frac (A ++ 46 :: F) = F ∧ dotted (A ++ 46 :: F) = true := by
  have h1 : ∀ c ∈ A, (c != 46) = true := fun c hc => by
    have := h c hc
    simp only [bne_iff_ne, ne_eq]; rintro rfl; simp at this
  refine ⟨?_, ?_, ?_⟩
  · unfold whole; rw [List.takeWhile_append_of_pos h1]; simp
  · unfold frac; rw [List.dropWhile_append_of_pos h1]; simp
  · simp [dotted]
theorem whole_bad {A B : List UInt8} {c : UInt8} (h : AllD A) (hc : digitB c = false) (h46 : c ≠ 46) : plainB (whole (A ++ c :: B)) = false := by
  rw [Bool.eq_false_iff]; intro h1
  have h2 := ((plainB_iff _).1 h1).2
  have h3 : ∀ c ∈ A, (c != 46) = true := fun c hc => by
    have := h c hc
    simp only [bne_iff_ne, ne_eq]; rintro rfl; simp at this
  have := h2 c (by unfold whole; rw [List.takeWhile_append_of_pos h3]; simp [h46])
  rw [Bool.eq_false_iff] at hc
  exact hc (by simpa [digitB] using this)
theorem okD_bad1 {l A B : List UInt8} {c : UInt8} (hb : bodyOf l = A ++ c :: B) (h : AllD A) (hc : digitB c = false) (h46 : c ≠ 46) : isDec l = false := by
  unfold isDec digF
  rw [if_neg (fun hh => by have := hh.2; unfold okD at this; rw [hb, whole_bad h hc h46] at this; simp at this)]
theorem plainB_bad {A B : List UInt8} {c : UInt8} (hc : digitB c = false) : plainB (A ++ c :: B) = false := by
  rw [Bool.eq_false_iff]; intro h1
  have h2 := ((plainB_iff _).1 h1).2 c (by simp)
  rw [Bool.eq_false_iff] at hc
  exact hc (by simpa [digitB] using h2)
theorem okD_bad2 {l A F B : List UInt8} {c : UInt8} (hb : bodyOf l = A ++ 46 :: (F ++ c :: B)) (h : AllD A) (hc : digitB c = false) : isDec l = false := by
  obtain ⟨h1, h2, h3⟩ := whole_dot (F := F ++ c :: B) h
  unfold isDec digF
  rw [if_neg (fun hh => by have := hh.2; unfold okD at this; rw [hb, h1, h2, h3, plainB_bad hc] at this; simp at this)]
/-- What the reference's loop over the body of a text knows ahead of byte i. -/
def PInv (b : List UInt8) (i p : Nat) (sm : Bool) : Prop :=
  (AllD (b.take i) ∧ p = b.length ∧ sm = (b.take i).any (· != 48)) ∨ ∃ A F, b.take i = A ++ 46 :: F ∧ AllD A ∧ AllD F ∧ p = A.length ∧ sm = (A ++ F).any (· != 48)
theorem PInv.start (b : List UInt8) : PInv b 0 b.length false := .inl ⟨by simp [AllD], rfl, by simp⟩
theorem split_at {b : List UInt8} {i : Nat} (h : i < b.length) : b = b.take i ++ peekF b i :: b.drop (i + 1) := by
  rw [← drop_peek h, List.take_append_drop]
theorem take_peek {b : List UInt8} {i : Nat} (h : i < b.length) : b.take (i + 1) = b.take i ++ [peekF b i] := by
  rw [List.take_succ_eq_append_getElem h]; simp [peekF, h]
theorem digitB_iff (c : UInt8) : digitB c = true ↔ 48 ≤ c.toNat ∧ c.toNat ≤ 57 := by simp [digitB]
theorem PInv.le {b : List UInt8} {i p : Nat} {sm : Bool} (h : PInv b i p sm) : p ≤ b.length := by
  rcases h with ⟨_, rfl, _⟩ | ⟨A, F, h1, _, _, rfl, _⟩
  · omega
  · have := congrArg List.length h1
    simp at this; omega
theorem PInv.dot {b : List UInt8} {i p : Nat} {sm : Bool} (h : PInv b i p sm) (hi : i < b.length) (hc : peekF b i = 46) (hp : p = b.length) : PInv b (i + 1) i sm := by
  rcases h with ⟨h1, _, h3⟩ | ⟨A, F, h1, _, _, h4, _⟩
  · refine .inr ⟨b.take i, [], ?_, h1, by simp [AllD], by simp; omega, by simpa using h3⟩
    rw [take_peek hi, hc]
  · have := congrArg List.length h1
    simp at this; omega
theorem PInv.bad {b l : List UInt8} {i p : Nat} {sm : Bool} (h : PInv b i p sm) (hb : bodyOf l = b) (hi : i < b.length) (hd : ¬ (peekF b i = 46 ∧ p = b.length)) (hc : digitB (peekF b i) = false) : isDec l = false := by
  rcases h with ⟨h1, h2, h3⟩ | ⟨A, F, h1, h2, h3, _, _⟩
  · exact okD_bad1 (hb.trans (split_at hi)) h1 hc (fun h => hd ⟨h, h2⟩)
  · refine okD_bad2 (A := A) (F := F) (B := b.drop (i + 1)) (c := peekF b i) ?_ h2 hc
    rw [hb]
    conv => lhs; rw [split_at hi, h1]
    simp
theorem PInv.digit {b : List UInt8} {i p : Nat} {sm : Bool} (h : PInv b i p sm) (hi : i < b.length) (hc : digitB (peekF b i) = true) : PInv b (i + 1) p (sm || peekF b i != 48) := by
  have hd : AllD [peekF b i] := by intro c hc'; simp at hc'; subst hc'; exact (digitB_iff _).1 hc
  rcases h with ⟨h1, h2, h3⟩ | ⟨A, F, h1, h2, h3, h4, h5⟩
  · refine .inl ⟨?_, h2, ?_⟩
    · rw [take_peek hi]; exact AllD.append.2 ⟨h1, hd⟩
    · rw [take_peek hi, h3]; simp
  · refine .inr ⟨A, F ++ [peekF b i], ?_, h2, AllD.append.2 ⟨h3, hd⟩, h4, ?_⟩
    · rw [take_peek hi, h1]; simp
    · rw [h5]; simp [Bool.or_assoc]
theorem drop0_nil (l : List UInt8) : l.dropWhile (· == 48) = [] ↔ l.any (· != 48) = false := by
  rw [dropWhile_nil]; simp [List.all_eq_true]
/-- What the reference's Places returns. -/
def placesF (l : List UInt8) : Int := if isDec l = true then ((frac (bodyOf l)).length : Int) else -1
theorem isDec_iff (l : List UInt8) : isDec l = true ↔ l.length ≤ 65536 ∧ okD l = true ∧ (isNeg l = true → (whole (bodyOf l) ++ frac (bodyOf l)).any (· != 48) = true) := by
  unfold isDec digF allD
  by_cases h : l.length ≤ 65536 ∧ okD l = true
  · rw [if_pos h]
    by_cases h0 : (whole (bodyOf l) ++ frac (bodyOf l)).dropWhile (· == 48) = []
    · rw [if_pos h0]
      have := (drop0_nil _).1 h0
      simp only [this, h.1, h.2]
      cases isNeg l <;> simp
    · rw [if_neg h0]
      have : (whole (bodyOf l) ++ frac (bodyOf l)).any (· != 48) = true := by
        rw [← Bool.not_eq_false]; exact fun hh => h0 ((drop0_nil _).2 hh)
      simp only [this, h.1, h.2]; simp
  · rw [if_neg h]
    simp only [Bool.false_eq_true, false_iff]
    exact fun hh => h ⟨hh.1, hh.2.1⟩
theorem PInv.done {b l : List UInt8} {p : Nat} {sm : Bool} (h : PInv b b.length p sm) (hb : bodyOf l = b) (hl : l.length ≤ 65536) :
    (if p = 0 ∨ 1 < p ∧ peekF b 0 = 48 ∨ isNeg l = true ∧ sm = false then -1 else if p = b.length then (0 : Int) else if b.length - p - 1 < 1 ∨ 30 < b.length - p - 1 then -1 else ((b.length - p - 1 : Nat) : Int)) = placesF l := by
  unfold placesF
  have hz : ∀ A : List UInt8, A ≠ [] → ((A.head? == some 48) = decide (peekF A 0 = 48)) := fun A hA => by
    cases A with
    | nil => exact absurd rfl hA
    | cons c A => rw [Bool.eq_iff_iff]; simp [peekF]
  rcases h with ⟨h1, h2, h3⟩ | ⟨A, F, h1, h2, h3, h4, h5⟩
  · rw [List.take_length] at h1 h3
    obtain ⟨e1, e2, e3⟩ := whole_all h1
    have hi := isDec_iff l
    unfold okD at hi
    rw [hb, e1, e2, e3, List.append_nil, ← h3] at hi
    rw [hb, e2]
    by_cases h0 : b = []
    · subst h0
      rw [if_pos (.inl h2), if_neg (fun hh => by have := (hi.1 hh).2.1; simp [plainB] at this)]
    · have hp : plainB b = true := (plainB_iff _).2 ⟨h0, h1⟩
      have hlen := List.length_pos_iff.2 h0
      rw [hp, hz b h0] at hi
      simp only [hl, true_and, Bool.true_and, Bool.not_false, Bool.true_or, Bool.and_true] at hi
      by_cases hc : p = 0 ∨ 1 < p ∧ peekF b 0 = 48 ∨ isNeg l = true ∧ sm = false
      · rw [if_pos hc, if_neg]
        intro hh
        obtain ⟨g1, g2⟩ := hi.1 hh
        rcases hc with hc | hc | hc
        · omega
        · rw [h2] at hc; simp [hc.1, hc.2] at g1
        · have := g2 hc.1; rw [hc.2] at this; cases this
      · rw [if_neg hc, if_pos h2, if_pos]
        · rfl
        · refine hi.2 ⟨?_, fun hn => ?_⟩
          · simp only [Bool.not_eq_true', Bool.and_eq_false_iff, decide_eq_false_iff_not]
            rcases Nat.lt_or_ge 1 b.length with g | g
            · exact .inr (fun g2 => hc (.inr (.inl ⟨by omega, g2⟩)))
            · exact .inl (by omega)
          · rw [← Bool.not_eq_false]; exact fun g => hc (.inr (.inr ⟨hn, g⟩))
  · rw [List.take_length] at h1
    obtain ⟨e1, e2, e3⟩ := whole_dot (F := F) h2
    have hi := isDec_iff l
    unfold okD at hi
    rw [hb, h1, e1, e2, e3, ← h5] at hi
    have hlen : b.length = A.length + 1 + F.length := by rw [h1]; simp; omega
    have hpk : A ≠ [] → peekF b 0 = peekF A 0 := fun hA => by
      cases A with
      | nil => exact absurd rfl hA
      | cons c A => rw [h1]; simp [peekF]
    rw [hb, h1, e2, ← h1]
    by_cases h0 : A = []
    · subst h0
      rw [if_pos (.inl h4), if_neg (fun hh => by have := (hi.1 hh).2.1; simp [plainB] at this)]
    · have hp : plainB A = true := (plainB_iff _).2 ⟨h0, h2⟩
      have hlenA := List.length_pos_iff.2 h0
      rw [hp, hz A h0] at hi
      simp only [hl, true_and, Bool.true_and, Bool.not_true, Bool.false_or] at hi
      rw [hpk h0]
      by_cases hc : p = 0 ∨ 1 < p ∧ peekF A 0 = 48 ∨ isNeg l = true ∧ sm = false
      · rw [if_pos hc, if_neg]
        intro hh
        obtain ⟨g1, g2⟩ := hi.1 hh
        rcases hc with hc | hc | hc
        · omega
        · rw [h4] at hc; simp [hc.1, hc.2] at g1
        · have := g2 hc.1; rw [hc.2] at this; cases this
      · rw [if_neg hc, if_neg (by omega)]
        by_cases hF : b.length - p - 1 < 1 ∨ 30 < b.length - p - 1
        · rw [if_pos hF, if_neg]
          intro hh
          have g1 := (hi.1 hh).1
          simp only [Bool.and_eq_true, decide_eq_true_eq] at g1
          have := List.length_pos_iff.2 ((plainB_iff _).1 g1.2.1).1
          omega
        · rw [if_neg hF, if_pos]
          · congr 1; omega
          · refine hi.2 ⟨?_, fun hn => ?_⟩
            · rw [Bool.and_eq_true]
              constructor
              · simp only [Bool.not_eq_true', Bool.and_eq_false_iff, decide_eq_false_iff_not]
                rcases Nat.lt_or_ge 1 A.length with g | g
                · exact .inr (fun g2 => hc (.inr (.inl ⟨by omega, g2⟩)))
                · exact .inl (by omega)
              · simp only [Bool.and_eq_true, decide_eq_true_eq]
                refine ⟨(plainB_iff _).2 ⟨?_, h3⟩, by omega⟩
                rintro rfl; simp at hlen; omega
            · rw [← Bool.not_eq_false]; exact fun g => hc (.inr (.inr ⟨hn, g⟩))
end Go.Proofs.YtechjiiijiipdaaGreatDoor
namespace Go.Proofs.YtechjiiijiipdaaGreatDoor
open Go.RowKit
set_option linter.unusedSimpArgs false
set_option linter.unusedVariables false
/-- What the reference's Parse collects. -/
def collF (l : List UInt8) : List UInt8 := (l.filter digitB).dropWhile (· == 48)
theorem drop0_snoc (D : List UInt8) (c : UInt8) : (D ++ [c]).dropWhile (· == 48) = if D.dropWhile (· == 48) = [] then (if c = 48 then [] else [c]) else D.dropWhile (· == 48) ++ [c] := by
  induction D with
  | nil => simp [List.dropWhile_cons]
  | cons d D ih =>
    rw [List.cons_append, List.dropWhile_cons, List.dropWhile_cons]
    by_cases h : d = 48
    · simp only [h, beq_self_eq_true, if_true]; exact ih
    · simp [h]
theorem coll_step {l : List UInt8} {i : Nat} (h : i < l.length) : collF (l.take (i + 1)) = if digitB (peekF l i) = true ∧ (collF (l.take i) ≠ [] ∨ peekF l i ≠ 48) then collF (l.take i) ++ [peekF l i] else collF (l.take i) := by
  unfold collF
  rw [take_peek h, List.filter_append]
  by_cases hd : digitB (peekF l i) = true
  · rw [List.filter_cons_of_pos hd, List.filter_nil, drop0_snoc]
    by_cases h0 : ((l.take i).filter digitB).dropWhile (· == 48) = []
    · rw [if_pos h0, h0]
      by_cases h48 : peekF l i = 48
      · rw [if_pos h48, if_neg (by rintro ⟨_, h | h⟩; exact h rfl; exact h h48)]
      · rw [if_neg h48, if_pos ⟨hd, .inr h48⟩]; rfl
    · rw [if_neg h0, if_pos ⟨hd, .inl h0⟩]
  · rw [List.filter_cons_of_neg hd, if_neg (fun h => hd h.1)]; simp
theorem filter_all {A : List UInt8} (h : AllD A) : A.filter digitB = A := List.filter_eq_self.2 (fun c hc => (digitB_iff c).2 (h c hc))
theorem coll_sig (neg : Bool) (b : List UInt8) : collF (sig neg b) = collF b := by
  cases neg with
  | false => rfl
  | true => unfold collF sig; rw [if_pos rfl, List.filter_cons_of_neg (by decide)]
theorem dot_split : ∀ {b : List UInt8}, dotted b = true → b = whole b ++ 46 :: frac b
  | [], h => by simp [dotted] at h
  | c :: b, h => by
    by_cases hc : c = 46
    · subst hc; simp [whole, frac]
    · have hb : dotted b = true := by
        unfold dotted at *
        rw [List.contains_cons] at h
        have : ((46 : UInt8) == c) = false := by simp; exact fun h => hc h.symm
        rwa [this, Bool.false_or] at h
      have ih := dot_split hb
      have e1 : whole (c :: b) = c :: whole b := by unfold whole; rw [List.takeWhile_cons_of_pos (by simpa using hc)]
      have e2 : frac (c :: b) = frac b := by unfold frac; rw [List.dropWhile_cons_of_pos (by simpa using hc)]
      rw [e1, e2, List.cons_append, ← ih]
theorem undot_split {b : List UInt8} (h : dotted b = false) : whole b = b ∧ frac b = [] := by
  rcases index_dot b with ⟨_, h2, h3, _⟩ | ⟨o, h0, _, h2, h3, h4⟩
  · exact ⟨h2, h3⟩
  · rw [h] at h4; cases h4
theorem coll_done {l : List UInt8} (h : isDec l = true) : collF l = allD l := by
  have hi := (isDec_iff l).1 h
  have hok := hi.2.1
  unfold okD at hok
  simp only [Bool.and_eq_true, Bool.or_eq_true, Bool.not_eq_true', decide_eq_true_eq] at hok
  obtain ⟨⟨hpw, _⟩, hd⟩ := hok
  have hw := ((plainB_iff _).1 hpw).2
  rw [body_sig l, coll_sig, ← body_sig l]
  unfold allD
  generalize bodyOf l = b at *
  cases hdt : dotted b with
  | false =>
    obtain ⟨h2, h3⟩ := undot_split hdt
    rw [h2] at hw
    rw [h2, h3, List.append_nil]; unfold collF; rw [filter_all hw]
  | true =>
    have e := dot_split hdt
    rcases hd with hd | hd
    · rw [hdt] at hd; cases hd
    · have hf := ((plainB_iff _).1 hd.1).2
      unfold collF
      conv => lhs; rw [e]
      rw [List.filter_append, List.filter_cons_of_neg (by decide), filter_all hw, filter_all hf]
theorem coll_final {l : List UInt8} (h : isDec l = true) : sig (isNeg l) (if collF l = [] then [48] else collF l) = (digF l).1 := by
  rw [coll_done h]
  unfold isDec digF at h
  unfold digF
  by_cases h1 : l.length ≤ 65536 ∧ okD l = true
  · rw [if_pos h1] at h ⊢
    by_cases hz : allD l = []
    · rw [if_pos hz] at h ⊢
      have hn : isNeg l = false := by simpa using h
      rw [if_pos hz, hn]; rfl
    · rw [if_neg hz] at h ⊢
      rw [if_neg hz]
  · rw [if_neg h1] at h; cases h
/-- The digit fits into its limb. -/
theorem parse_fit {O : List Nat} {k e m : Nat} (hd : Dig O) (hk : k < O.length) (he : e ≤ 8) (h : val O = m * 10 ^ (9 * k + e + 1)) : O.getD k 0 + 9 * 10 ^ e < 1000000000 := by
  have h1 := val_take_drop O k (by omega)
  rw [val_drop_pred hk] at h1
  have h2 := val_lt (hd.take k)
  have e1 : (O.take k).length = k := by simp; omega
  rw [e1] at h2
  have e2 : (1000000000 : Nat) ^ k = 10 ^ (9 * k) := by rw [Nat.pow_mul]
  obtain ⟨j, hj⟩ : ∃ j, 8 = e + j := ⟨8 - e, by omega⟩
  have hg := hd.getD k
  generalize O.getD k 0 = x at *
  generalize val (O.drop (k + 1)) = y at *
  generalize val (O.take k) = z at *
  have e3 : 10 ^ (9 * k + e + 1) = 10 ^ (9 * k) * 10 ^ (e + 1) := by rw [← Nat.pow_add]; congr 1
  rw [e3, ← e2] at h
  have hB : 0 < (1000000000 : Nat) ^ k := Nat.pow_pos (by omega)
  generalize (1000000000 : Nat) ^ k = B at *
  have h3 : z + B * (x + 1000000000 * y) = B * (m * 10 ^ (e + 1)) := by
    rw [← h1, h, Nat.mul_left_comm]
  have hz : z = 0 := by
    have h4 := congrArg (· % B) h3
    simp only [Nat.add_mul_mod_self_left, Nat.mul_mod_right] at h4
    rwa [Nat.mod_eq_of_lt h2] at h4
  rw [hz, Nat.zero_add] at h3
  have h5 := Nat.eq_of_mul_eq_mul_left hB h3
  have e4 : (1000000000 : Nat) = 10 ^ (e + 1) * 10 ^ j := by rw [← Nat.pow_add, show e + 1 + j = 9 by omega]
  have hP : 0 < 10 ^ (e + 1) := Nat.pow_pos (by omega)
  have e5 : 10 ^ (e + 1) = 10 * 10 ^ e := by rw [Nat.pow_succ, Nat.mul_comm]
  have hp : 0 < 10 ^ e := Nat.pow_pos (by omega)
  have h6 : x = 10 ^ (e + 1) * (m - 10 ^ j * y) := by
    rw [Nat.mul_sub, Nat.mul_comm _ m, ← h5, ← Nat.mul_assoc, ← e4]; omega
  have h7 : m - 10 ^ j * y < 10 ^ j := by
    rcases Nat.lt_or_ge (m - 10 ^ j * y) (10 ^ j) with g | g
    · exact g
    · have := Nat.mul_le_mul_left (10 ^ (e + 1)) g
      rw [← h6, ← e4] at this
      omega
  have h8 := Nat.mul_le_mul_left (10 ^ (e + 1)) (Nat.succ_le_of_lt h7)
  rw [← e4, Nat.mul_succ, ← h6] at h8
  omega
/-- One digit more. -/
theorem rparse_step {ds : List UInt8} {O : List Nat} {i : Nat} (hi : i < ds.length) (hO : Dig O) (hl : O.length = ds.length / 9 + 1) (h : val O = dec (ds.take i) * 10 ^ (ds.length - i)) :
    O.getD ((ds.length - 1 - i) / 9) 0 + 9 * 10 ^ ((ds.length - 1 - i) % 9) < 1000000000 ∧
    val (O.set ((ds.length - 1 - i) / 9) (O.getD ((ds.length - 1 - i) / 9) 0 + ((peekF ds i).toNat - 48) * 10 ^ ((ds.length - 1 - i) % 9))) = dec (ds.take (i + 1)) * 10 ^ (ds.length - (i + 1)) := by
  have hk : (ds.length - 1 - i) / 9 < O.length := by rw [hl]; omega
  have e0 : ds.length - i = 9 * ((ds.length - 1 - i) / 9) + (ds.length - 1 - i) % 9 + 1 := by omega
  rw [e0] at h
  have e1 : ds.length - (i + 1) = 9 * ((ds.length - 1 - i) / 9) + (ds.length - 1 - i) % 9 := by omega
  rw [e1]
  refine ⟨parse_fit hO hk (by omega) h, ?_⟩
  have hs := val_set (d := O.getD ((ds.length - 1 - i) / 9) 0 + ((peekF ds i).toNat - 48) * 10 ^ ((ds.length - 1 - i) % 9)) hk
  rw [dec_take_getD hi]
  have e2 : (1000000000 : Nat) ^ ((ds.length - 1 - i) / 9) = 10 ^ (9 * ((ds.length - 1 - i) / 9)) := by rw [Nat.pow_mul]
  rw [show (ds.getD i 0) = peekF ds i from rfl]
  rw [h, e2, Nat.mul_add, Nat.pow_succ] at hs
  rw [Nat.pow_add] at hs ⊢
  generalize 10 ^ (9 * ((ds.length - 1 - i) / 9)) = P at *
  generalize 10 ^ ((ds.length - 1 - i) % 9) = R at *
  generalize (peekF ds i).toNat - 48 = c at *
  generalize O.getD ((ds.length - 1 - i) / 9) 0 = x at *
  generalize dec (ds.take i) = D at *
  have e3 : D * (P * R * 10) = 10 * D * (P * R) := by rw [Nat.mul_comm (P * R) 10, ← Nat.mul_assoc, Nat.mul_comm D 10]
  have e4 : P * (c * R) = c * (P * R) := Nat.mul_left_comm _ _ _
  rw [e3, e4] at hs
  rw [Nat.add_mul]
  omega
/-- The reference's number. -/
theorem numL_pos {l : List UInt8} (h0 : 0 < l.length) : decide (0 < numL l) = (digitB (peekF l 0) || (decide (peekF l 0 = 45) && digitB (peekF l 1))) ∧ (0 < numL l → numL l = numF l 0) := by
  unfold numL
  have hA : numA l 0 = runF digitB l (if peekF l 0 = 45 then 1 else 0) := by unfold numA; simp
  by_cases h45 : peekF l 0 = 45
  · rw [if_pos h45] at hA ⊢
    have hnd : digitB (peekF l 0) = false := by rw [h45]; decide
    rw [hnd, hA]
    simp only [h45, decide_true, Bool.true_and, Bool.false_or]
    by_cases hd : digitB (peekF l 1) = true
    · have h1 := peekF_ne (digitB_ne hd)
      have h2 := runF_go h1 hd
      have h3 := runF_ge digitB l 2
      rw [if_neg (by rw [h2]; simp only [Nat.reduceAdd]; omega), hd]
      refine ⟨?_, fun _ => rfl⟩
      rw [decide_eq_true_eq]
      have := numF_gt (l := l) (k := 0) (by rw [h45]; simp [hd])
      exact this
    · have hd' : digitB (peekF l 1) = false := by simpa using hd
      rw [runF_stop (.inr hd'), if_pos rfl, hd']
      simp
  · rw [if_neg h45] at hA ⊢
    rw [hA]
    simp only [h45, decide_false, Bool.false_and, Bool.or_false]
    by_cases hd : digitB (peekF l 0) = true
    · have h2 := runF_go h0 hd
      have h3 := runF_ge digitB l 1
      rw [if_neg (by rw [h2]; simp only [Nat.zero_add]; omega), hd]
      refine ⟨?_, fun _ => rfl⟩
      rw [decide_eq_true_eq]
      exact numF_gt (l := l) (k := 0) (by simp [hd])
    · have hd' : digitB (peekF l 0) = false := by simpa using hd
      rw [runF_stop (.inr hd'), if_pos rfl, hd']
      simp
theorem numA_drop (l : List UInt8) (k : Nat) : numA (l.drop k) 0 + k = numA l k := by
  unfold numA
  rw [peekF_drop, Nat.add_zero]
  by_cases h45 : peekF l k = 45
  · rw [if_pos h45, if_pos h45, Nat.zero_add]
    have h1 := runF_drop digitB (l.drop k) 1
    have h2 := runF_drop digitB l (k + 1)
    rw [List.drop_drop] at h1
    omega
  · rw [if_neg h45, if_neg h45]; exact runF_drop digitB l k
theorem numF_drop (l : List UInt8) (k : Nat) : numF (l.drop k) 0 + k = numF l k := by
  have hA := numA_drop l k
  unfold numF
  rw [peekF_drop, peekF_drop, ← Nat.add_assoc, Nat.add_comm k, hA]
  split
  · have h1 := runF_drop digitB (l.drop k) (numA (l.drop k) 0 + 1)
    have h2 := runF_drop digitB l (numA l k + 1)
    rw [List.drop_drop, show k + (numA (l.drop k) 0 + 1) = numA l k + 1 by omega] at h1
    omega
  · exact hA
theorem runF_drop' (p : UInt8 → Bool) (l : List UInt8) (k : Nat) : runF p (l.drop k) 0 = runF p l k - k := by have := runF_drop p l k; omega
theorem cutF_drop (l : List UInt8) (k n : Nat) : cutF (l.drop k) 0 n = cutF l k (k + n) := by
  unfold cutF
  rw [List.drop_zero, List.take_drop]
end Go.Proofs.YtechjiiijiipdaaGreatDoor
namespace Go.Proofs.YtechjiiijiipdaaGreatDoor
open Go.RowKit
set_option linter.unusedSimpArgs false
set_option linter.unusedVariables false
/-- The square root, rounded down. -/
def sqN : Nat → Nat
  | 0 => 0
  | n + 1 => if (sqN n + 1) * (sqN n + 1) ≤ n + 1 then sqN n + 1 else sqN n
theorem sqN_spec : ∀ n : Nat, sqN n * sqN n ≤ n ∧ n < (sqN n + 1) * (sqN n + 1)
  | 0 => by simp [sqN]
  | n + 1 => by
    obtain ⟨h1, h2⟩ := sqN_spec n
    simp only [sqN]
    split
    · rename_i h
      refine ⟨h, ?_⟩
      have e : (sqN n + 1 + 1) * (sqN n + 1 + 1) = (sqN n + 1) * (sqN n + 1) + 2 * (sqN n + 1) + 1 := by
        rw [Nat.add_mul, Nat.mul_add, Nat.one_mul, Nat.mul_one]; omega
      omega
    · omega
theorem sq_mono {a b : Nat} (h : a ≤ b) : a * a ≤ b * b := Nat.mul_le_mul h h
theorem sq_lt {a b : Nat} (h : a * a < b * b) : a < b := by
  rcases Nat.lt_or_ge a b with g | g
  · exact g
  · have := sq_mono g; omega
theorem sqN_le {n k : Nat} : k ≤ sqN n ↔ k * k ≤ n := by
  obtain ⟨h1, h2⟩ := sqN_spec n
  constructor
  · intro h; have := sq_mono h; omega
  · intro h; have := sq_lt (a := k) (b := sqN n + 1) (by omega); omega
theorem sqN_eq {n k : Nat} (h1 : k * k ≤ n) (h2 : n < (k + 1) * (k + 1)) : sqN n = k := by
  have a := sqN_le.2 h1
  have b := sq_lt (a := sqN n) (b := k + 1) (by have := (sqN_spec n).1; omega)
  omega
/-- Newton's step stays above the root. -/
theorem newton_ge {a x : Nat} (hx : 0 < x) : sqN a ≤ (x + a / x) / 2 := by
  rcases Nat.lt_or_ge ((x + a / x) / 2) (sqN a) with h | h
  · exfalso
    have h1 := (sqN_spec a).1
    generalize sqN a = s at *
    have h2 : a < x * (a / x + 1) := by rw [Nat.mul_add, Nat.mul_one]; have := Nat.div_add_mod a x; have := Nat.mod_lt a hx; omega
    have h3 : x + (a / x + 1) ≤ 2 * s := by omega
    generalize a / x + 1 = q at *
    have h4 : x * q ≤ s * s := by
      have e1 : x * q ≤ x * (2 * s - x) := Nat.mul_le_mul_left x (by omega)
      have e2 : x * (2 * s - x) + x * x = 2 * s * x := by rw [← Nat.mul_add, show 2 * s - x + x = 2 * s by omega, Nat.mul_comm]
      have e3 : 2 * s * x ≤ s * s + x * x := by
        rcases Nat.le_total s x with g | g
        · obtain ⟨d, rfl⟩ : ∃ d, x = s + d := ⟨x - s, by omega⟩
          have : (s + d) * (s + d) = s * s + 2 * (s * d) + d * d := by rw [Nat.add_mul, Nat.mul_add, Nat.mul_add, Nat.mul_comm d s]; omega
          have : 2 * s * (s + d) = 2 * (s * s) + 2 * (s * d) := by rw [Nat.mul_add, Nat.mul_assoc, Nat.mul_assoc]
          omega
        · obtain ⟨d, rfl⟩ : ∃ d, s = x + d := ⟨s - x, by omega⟩
          have : (x + d) * (x + d) = x * x + 2 * (x * d) + d * d := by rw [Nat.add_mul, Nat.mul_add, Nat.mul_add, Nat.mul_comm d x]; omega
          have : 2 * (x + d) * x = 2 * (x * x) + 2 * (x * d) := by rw [Nat.mul_assoc, Nat.add_mul, Nat.mul_add, Nat.mul_comm d x]
          omega
      omega
    omega
  · exact h
/-- Where it doesn't fall, the root is found. -/
theorem newton_end {a x : Nat} (hx : 0 < x) (hs : sqN a ≤ x) (h : x ≤ (x + a / x) / 2) : x = sqN a := by
  have h1 : x ≤ a / x := by omega
  have h2 : x * x ≤ a := Nat.le_trans (Nat.mul_le_mul_left x h1) (Nat.mul_div_le a x)
  have := sqN_le.2 h2
  omega
theorem sqN_start {a n : Nat} (h : a < 1000000000 ^ n) : sqN a ≤ 1000000000 ^ ((n + 1) / 2) := by
  have h1 := (sqN_spec a).1
  have h2 : (1000000000 : Nat) ^ n ≤ 1000000000 ^ ((n + 1) / 2) * 1000000000 ^ ((n + 1) / 2) := by
    rw [← Nat.pow_add]; exact Nat.pow_le_pow_right (by omega) (by omega)
  have := sq_lt (a := sqN a) (b := 1000000000 ^ ((n + 1) / 2)) (by omega)
  omega
theorem sqN_pos {a : Nat} (h : 0 < a) : 0 < sqN a := sqN_le.2 (by omega)
end Go.Proofs.YtechjiiijiipdaaGreatDoor
namespace Go.Proofs.YtechjiiijiipdaaGreatDoor
open Go.RowKit
set_option linter.unusedSimpArgs false
set_option linter.unusedVariables false
/-- l is the decimal text of n. -/
def IsNum (l : List UInt8) (n : Nat) : Prop := AllD l ∧ dec l = n ∧ l ≠ [] ∧ (l.head? = some 48 → l = [48])
theorem dec_ge {c : UInt8} {l : List UInt8} (hd : AllD (c :: l)) (h : c ≠ 48) : 10 ^ l.length ≤ dec (c :: l) := by
  rw [dec_cons]
  have hc := hd c (List.mem_cons_self ..)
  have : c.toNat ≠ 48 := fun e => h (UInt8.toNat_inj.1 e)
  have := Nat.mul_le_mul_right (10 ^ l.length) (show 1 ≤ c.toNat - 48 by omega)
  omega
theorem AllD.tail {c : UInt8} {l : List UInt8} (h : AllD (c :: l)) : AllD l := fun x hx => h x (List.mem_cons_of_mem _ hx)
theorem dec_inj : ∀ {l m : List UInt8}, AllD l → AllD m → l.length = m.length → dec l = dec m → l = m
  | [], [], _, _, _, _ => rfl
  | c :: l, d :: m, hl, hm, hlen, h => by
    simp only [List.length_cons, Nat.add_right_cancel_iff] at hlen
    have h1 := dec_lt hl.tail
    have h2 := dec_lt hm.tail
    have hc := hl c (List.mem_cons_self ..)
    have hd := hm d (List.mem_cons_self ..)
    rw [dec_cons, dec_cons, hlen] at h
    rw [hlen] at h1
    have hP : 0 < 10 ^ m.length := Nat.pow_pos (by omega)
    have e1 : ((c.toNat - 48) * 10 ^ m.length + dec l) / 10 ^ m.length = c.toNat - 48 := by
      rw [Nat.mul_comm, Nat.mul_add_div hP, Nat.div_eq_of_lt h1, Nat.add_zero]
    have e2 : ((d.toNat - 48) * 10 ^ m.length + dec m) / 10 ^ m.length = d.toNat - 48 := by
      rw [Nat.mul_comm, Nat.mul_add_div hP, Nat.div_eq_of_lt h2, Nat.add_zero]
    rw [h, e2] at e1
    have e3 : c = d := UInt8.toNat_inj.1 (by omega)
    subst e3
    rw [dec_inj hl.tail hm.tail hlen (by omega)]
theorem IsNum.inj {l m : List UInt8} {n : Nat} (h : IsNum l n) (k : IsNum m n) : l = m := by
  obtain ⟨a1, a2, a3, a4⟩ := h
  obtain ⟨b1, b2, b3, b4⟩ := k
  cases l with
  | nil => exact absurd rfl a3
  | cons c l =>
  cases m with
  | nil => exact absurd rfl b3
  | cons d m =>
    by_cases hc : c = 48
    · have e1 := a4 (by simp [hc])
      have hn : n = 0 := by rw [← a2, e1]; rfl
      by_cases hd : d = 48
      · rw [e1, b4 (by simp [hd])]
      · have := dec_ge b1 hd
        have : 0 < 10 ^ m.length := Nat.pow_pos (by omega)
        omega
    · by_cases hd : d = 48
      · have e1 := b4 (by simp [hd])
        have hn : n = 0 := by rw [← b2, e1]; rfl
        have := dec_ge a1 hc
        have : 0 < 10 ^ l.length := Nat.pow_pos (by omega)
        omega
      · have g1 := dec_ge a1 hc
        have g2 := dec_lt a1
        have g3 := dec_ge b1 hd
        have g4 := dec_lt b1
        simp only [List.length_cons] at g2 g4
        have hlen : l.length = m.length := by
          rcases Nat.lt_trichotomy l.length m.length with g | g | g
          · have := Nat.pow_le_pow_right (n := 10) (by omega) (show l.length + 1 ≤ m.length by omega); omega
          · exact g
          · have := Nat.pow_le_pow_right (n := 10) (by omega) (show m.length + 1 ≤ l.length by omega); omega
        exact dec_inj a1 b1 (by simp [hlen]) (by omega)
/-- k digits of n. -/
def padT : Nat → Nat → List UInt8
  | 0, _ => []
  | k + 1, n => padT k (n / 10) ++ [UInt8.ofNat (48 + n % 10)]
theorem padT_len : ∀ k n : Nat, (padT k n).length = k
  | 0, _ => rfl
  | k + 1, n => by simp [padT, padT_len k]
theorem dig_toNat (n : Nat) : (UInt8.ofNat (48 + n % 10)).toNat = 48 + n % 10 := by
  rw [UInt8.toNat_ofNat']; omega
theorem padT_AllD : ∀ k n : Nat, AllD (padT k n)
  | 0, _ => by simp [padT, AllD]
  | k + 1, n => by
    simp only [padT]
    refine AllD.append.2 ⟨padT_AllD k _, ?_⟩
    intro c hc; simp only [List.mem_singleton] at hc; subst hc; rw [dig_toNat]; omega
theorem dec_padT : ∀ k n : Nat, dec (padT k n) = n % 10 ^ k
  | 0, n => by simp [padT, dec, Nat.mod_one]
  | k + 1, n => by
    simp only [padT]
    rw [dec_snoc, dec_padT k, dig_toNat, Nat.pow_succ, Nat.mul_comm (10 ^ k) 10, Nat.mod_mul]
    omega
/-- The decimal text of n. -/
def natT (n : Nat) : List UInt8 := if n = 0 then [48] else (padT (n + 1) n).dropWhile (· == 48)
theorem AllD.drop0 {l : List UInt8} (h : AllD l) : AllD (l.dropWhile (· == 48)) := fun c hc => h c ((List.dropWhile_suffix _).mem hc)
theorem drop0_num {l : List UInt8} {n : Nat} (h : AllD l) (hn : 0 < n) (e : dec l = n) : IsNum (l.dropWhile (· == 48)) n := by
  refine ⟨h.drop0, by rw [dec_drop0, e], fun h0 => ?_, fun h0 => absurd h0 drop0_head⟩
  have := dec_drop0 l
  rw [h0, dec_nil] at this; omega
theorem lt_ten_pow : ∀ n : Nat, n < 10 ^ n
  | 0 => by simp
  | n + 1 => by have := lt_ten_pow n; rw [Nat.pow_succ]; omega
theorem natT_num (n : Nat) : IsNum (natT n) n := by
  unfold natT
  split
  · subst n; exact ⟨by simp [AllD], rfl, by simp, fun _ => rfl⟩
  · refine drop0_num (padT_AllD _ _) (by omega) ?_
    rw [dec_padT, Nat.mod_eq_of_lt]
    have := lt_ten_pow (n + 1); omega
theorem natT_eq {l : List UInt8} {n : Nat} (h : IsNum l n) : l = natT n := h.inj (natT_num n)
theorem natT_drop {l : List UInt8} (h : AllD l) (hn : 0 < dec l) : l.dropWhile (· == 48) = natT (dec l) := natT_eq (drop0_num h hn rfl)
theorem natT_len {n k : Nat} (hn : n < 10 ^ k) (hk : 0 < k) : (natT n).length ≤ k := by
  obtain ⟨h1, h2, h3, h4⟩ := natT_num n
  cases h : natT n with
  | nil => exact absurd h h3
  | cons c l =>
    rw [h] at h1 h2 h4
    by_cases hc : c = 48
    · have := h4 (by simp [hc]); rw [this]; simp; omega
    · have g1 := dec_ge h1 hc
      rw [List.length_cons]
      rcases Nat.lt_or_ge l.length k with g | g
      · omega
      · have := Nat.pow_le_pow_right (n := 10) (by omega) g; omega
theorem natT_pos (n : Nat) : 0 < (natT n).length := List.length_pos_iff.2 (natT_num n).2.2.1
/-- Zeros ahead. -/
theorem dec_zeros : ∀ k : Nat, dec (List.replicate k 48) = 0
  | 0 => rfl
  | k + 1 => by rw [List.replicate_succ, dec_cons, dec_zeros k]; simp
theorem AllD.zeros (k : Nat) : AllD (List.replicate k 48) := fun c hc => by
  have := (List.mem_replicate.1 hc).2; subst this; decide
/-- A limb's text with its zeros. -/
theorem pad_natT {n k : Nat} (hn : n < 10 ^ k) (hk : 0 < k) : List.replicate (k - (natT n).length) 48 ++ natT n = padT k n := by
  have hl := natT_len hn hk
  refine dec_inj (AllD.append.2 ⟨AllD.zeros _, (natT_num n).1⟩) (padT_AllD _ _) ?_ ?_
  · rw [List.length_append, List.length_replicate, padT_len]; omega
  · rw [dec_append, dec_zeros, (natT_num n).2.1, dec_padT, Nat.mod_eq_of_lt hn]; simp
/-- A text with a limb more. -/
theorem natT_more {m n k : Nat} (hm : 0 < m) (hn : n < 10 ^ k) : natT m ++ padT k n = natT (m * 10 ^ k + n) := by
  obtain ⟨h1, h2, h3, h4⟩ := natT_num m
  refine natT_eq ⟨AllD.append.2 ⟨h1, padT_AllD _ _⟩, ?_, by simp [h3], fun h => ?_⟩
  · rw [dec_append, h2, padT_len, dec_padT, Nat.mod_eq_of_lt hn]
  · exfalso
    have : (natT m).head? = some 48 := by
      cases hx : natT m with
      | nil => exact absurd hx h3
      | cons c l => rw [hx] at h; simpa using h
    have e := h4 this
    rw [e] at h2
    have : dec [48] = 0 := rfl
    omega
end Go.Proofs.YtechjiiijiipdaaGreatDoor
namespace Go.Proofs.YtechjiiijiipdaaGreatDoor
open Go.RowKit
set_option linter.unusedSimpArgs false
set_option linter.unusedVariables false
/-- Zeros ahead, so that a digit stands before the point. -/
def fillT (p : Nat) (t : List UInt8) : List UInt8 := List.replicate (p + 1 - t.length) 48 ++ t
/-- The text of m / 10^p. -/
def ptT (m p : Nat) : List UInt8 :=
  if p = 0 then natT m else (fillT p (natT m)).take ((fillT p (natT m)).length - p) ++ 46 :: (fillT p (natT m)).drop ((fillT p (natT m)).length - p)
def ptF (z : Int) (p : Nat) : List UInt8 := sig (decide (z < 0)) (ptT z.natAbs p)
theorem fillT_len (p : Nat) (t : List UInt8) : p + 1 ≤ (fillT p t).length := by unfold fillT; rw [List.length_append, List.length_replicate]; omega
theorem fillT_AllD {p : Nat} {t : List UInt8} (h : AllD t) : AllD (fillT p t) := AllD.append.2 ⟨AllD.zeros _, h⟩
theorem fillT_dec (p : Nat) (t : List UInt8) : dec (fillT p t) = dec t := by unfold fillT; rw [dec_append, dec_zeros]; simp
theorem head_not45 {l : List UInt8} (h : AllD l) : l.head? ≠ some 45 := by
  cases l with
  | nil => simp
  | cons c l => intro e; have := h c (List.mem_cons_self ..); simp at e; subst e; simp at this
theorem ptT_head (m p : Nat) : (ptT m p).head? ≠ some 45 := by
  unfold ptT
  split
  · exact head_not45 (natT_num m).1
  · have h := fillT_AllD (p := p) (natT_num m).1
    have hl := fillT_len p (natT m)
    generalize fillT p (natT m) = t at *
    have h2 := head_not45 (h.take (t.length - p))
    cases hx : t.take (t.length - p) with
    | nil => have := congrArg List.length hx; simp at this; omega
    | cons c l => rw [hx] at h2; simpa using h2
theorem sig_body {neg : Bool} {l : List UInt8} (h : l.head? ≠ some 45) : bodyOf (sig neg l) = l ∧ isNeg (sig neg l) = neg := by
  cases neg with
  | true => exact ⟨rfl, rfl⟩
  | false =>
    have e : sig false l = l := rfl
    rw [e]
    constructor
    · unfold bodyOf; split
      · simp at h
      · rfl
    · simp [isNeg, h]
theorem ptT_parts (m p : Nat) : plainB (whole (ptT m p)) = true ∧ ¬ (1 < (whole (ptT m p)).length ∧ (whole (ptT m p)).head? = some 48) ∧ AllD (frac (ptT m p)) ∧ (frac (ptT m p)).length = p ∧ dotted (ptT m p) = decide (p ≠ 0) ∧
    dec (whole (ptT m p) ++ frac (ptT m p)) = m ∧ AllD (whole (ptT m p)) := by
  obtain ⟨h1, h2, h3, h4⟩ := natT_num m
  unfold ptT
  by_cases hp : p = 0
  · subst hp
    rw [if_pos rfl]
    obtain ⟨e1, e2, e3⟩ := whole_all h1
    rw [e1, e2, e3]
    refine ⟨(plainB_iff _).2 ⟨h3, h1⟩, ?_, AllD.nil, rfl, rfl, by rw [List.append_nil, h2], h1⟩
    rintro ⟨g1, g2⟩
    rw [h4 g2] at g1; simp at g1
  · rw [if_neg hp]
    have hl := fillT_len p (natT m)
    have hd := fillT_AllD (p := p) h1
    obtain ⟨e1, e2, e3⟩ := whole_dot (F := (fillT p (natT m)).drop ((fillT p (natT m)).length - p)) (hd.take ((fillT p (natT m)).length - p))
    rw [e1, e2, e3]
    have hne : (fillT p (natT m)).take ((fillT p (natT m)).length - p) ≠ [] := by intro e; have := congrArg List.length e; simp at this; omega
    refine ⟨(plainB_iff _).2 ⟨hne, hd.take _⟩, ?_, hd.drop _, by simp; omega, by simp [hp], by rw [List.take_append_drop, fillT_dec, h2], hd.take _⟩
    rintro ⟨g1, g2⟩
    rw [List.length_take] at g1
    have hz : fillT p (natT m) = natT m := by
      unfold fillT
      have : p + 1 - (natT m).length = 0 := by unfold fillT at g1; rw [List.length_append, List.length_replicate] at g1; omega
      rw [this]; rfl
    rw [hz] at g2 g1
    have : (natT m).head? = some 48 := by
      cases hx : natT m with
      | nil => exact absurd hx h3
      | cons c l =>
        rw [hx] at g1 g2
        obtain ⟨k, hk⟩ : ∃ k, (c :: l).length - p = k + 1 := ⟨(c :: l).length - p - 1, by omega⟩
        rw [hk] at g2
        simpa using g2
    have e := h4 this
    rw [e] at g1; simp at g1; omega
theorem ptF_dec (z : Int) (p : Nat) (hp : p ≤ 30) (hl : (ptF z p).length ≤ 65536) : isDec (ptF z p) = true ∧ decQ (ptF z p) = Rat.divInt z ((10 ^ p : Nat) : Int) ∧ (frac (bodyOf (ptF z p))).length = p := by
  obtain ⟨h1, h2, h3, h4, h5, h6, h7⟩ := ptT_parts z.natAbs p
  obtain ⟨b1, b2⟩ := sig_body (neg := decide (z < 0)) (ptT_head z.natAbs p)
  have e1 : bodyOf (ptF z p) = ptT z.natAbs p := b1
  have e2 : isNeg (ptF z p) = decide (z < 0) := b2
  refine ⟨(isDec_iff _).2 ⟨hl, ?_, ?_⟩, ?_, by rw [e1, h4]⟩
  · unfold okD
    rw [e1, h1, h5]
    simp only [Bool.true_and, Bool.and_eq_true, Bool.not_eq_true', Bool.and_eq_false_iff, decide_eq_false_iff_not, Bool.or_eq_true, decide_eq_true_eq]
    refine ⟨?_, ?_⟩
    · rcases Nat.lt_or_ge 1 (whole (ptT z.natAbs p)).length with g | g
      · refine .inr ?_
        rw [beq_eq_false_iff_ne]; exact fun g2 => h2 ⟨g, g2⟩
      · exact .inl (by omega)
    · by_cases h0 : p = 0
      · left; simp [h0]
      · right; exact ⟨(plainB_iff _).2 ⟨by intro e; rw [e] at h4; simp at h4; omega, h3⟩, by omega⟩
  · intro hn
    rw [e1]
    rw [e2, decide_eq_true_eq] at hn
    rw [← Bool.not_eq_false]
    intro h0
    have h8 := (drop0_nil _).2 h0
    have h9 := dec_drop0 (whole (ptT z.natAbs p) ++ frac (ptT z.natAbs p))
    rw [h8, h6, dec_nil] at h9
    omega
  · unfold decQ
    rw [e1, e2, h6, h4]
    congr 1
    unfold sgn
    by_cases hz : z < 0
    · simp only [hz, decide_true, if_true]; omega
    · simp only [hz, decide_false, Bool.false_eq_true, if_false]; omega
theorem ptT_len (m p : Nat) : (ptT m p).length ≤ (natT m).length + p + 2 := by
  unfold ptT
  split
  · omega
  · rw [List.length_append, List.length_cons, List.length_take, List.length_drop]
    unfold fillT
    rw [List.length_append, List.length_replicate]; omega
theorem ptF_len (z : Int) (p : Nat) : (ptF z p).length ≤ (natT z.natAbs).length + p + 3 := by
  unfold ptF; rw [sig_len]; have := ptT_len z.natAbs p; split <;> omega
end Go.Proofs.YtechjiiijiipdaaGreatDoor
namespace Go.Proofs.YtechjiiijiipdaaGreatDoor
open Go.RowKit
set_option linter.unusedSimpArgs false
set_option linter.unusedVariables false
theorem padT_mod (p m : Nat) : padT p m = padT p (m % 10 ^ p) := by
  refine dec_inj (padT_AllD _ _) (padT_AllD _ _) (by rw [padT_len, padT_len]) ?_
  rw [dec_padT, dec_padT, Nat.mod_mod]
theorem ptT_eq (m p : Nat) (hp : 0 < p) : ptT m p = natT (m / 10 ^ p) ++ 46 :: padT p m := by
  obtain ⟨h1, h2, h3, h4⟩ := natT_num m
  unfold ptT
  rw [if_neg (by omega)]
  have hl := fillT_len p (natT m)
  have hd := fillT_AllD (p := p) h1
  have hdec := fillT_dec p (natT m)
  rw [h2] at hdec
  have hsp := dec_append ((fillT p (natT m)).take ((fillT p (natT m)).length - p)) ((fillT p (natT m)).drop ((fillT p (natT m)).length - p))
  rw [List.take_append_drop, hdec] at hsp
  have hdl : ((fillT p (natT m)).drop ((fillT p (natT m)).length - p)).length = p := by rw [List.length_drop]; omega
  rw [hdl] at hsp
  have hlt := dec_lt (hd.drop ((fillT p (natT m)).length - p))
  rw [hdl] at hlt
  have hP : 0 < 10 ^ p := Nat.pow_pos (by omega)
  have e1 : m / 10 ^ p = dec ((fillT p (natT m)).take ((fillT p (natT m)).length - p)) := by
    conv => lhs; rw [hsp]
    rw [Nat.mul_comm, Nat.mul_add_div hP, Nat.div_eq_of_lt hlt, Nat.add_zero]
  have e2 : m % 10 ^ p = dec ((fillT p (natT m)).drop ((fillT p (natT m)).length - p)) := by
    conv => lhs; rw [hsp]
    rw [Nat.mul_comm, Nat.mul_add_mod, Nat.mod_eq_of_lt hlt]
  congr 1
  · refine natT_eq ⟨hd.take _, e1.symm, by intro e; have := congrArg List.length e; simp at this; omega, fun g2 => ?_⟩
    have hz : p + 1 < (fillT p (natT m)).length → False := fun g => by
      have hz : fillT p (natT m) = natT m := by
        unfold fillT
        have : p + 1 - (natT m).length = 0 := by unfold fillT at g; rw [List.length_append, List.length_replicate] at g; omega
        rw [this]; rfl
      rw [hz] at g g2
      have : (natT m).head? = some 48 := by
        cases hx : natT m with
        | nil => exact absurd hx h3
        | cons c l =>
          rw [hx] at g g2
          obtain ⟨k, hk⟩ : ∃ k, (c :: l).length - p = k + 1 := ⟨(c :: l).length - p - 1, by omega⟩
          rw [hk] at g2
          simpa using g2
      rw [h4 this] at g; simp at g
    have hlen : (fillT p (natT m)).length = p + 1 := by
      rcases Nat.lt_or_ge (p + 1) (fillT p (natT m)).length with g | g
      · exact (hz g).elim
      · omega
    rw [hlen, show p + 1 - p = 1 by omega] at g2 ⊢
    cases hx : fillT p (natT m) with
    | nil => rw [hx] at hlen; simp at hlen
    | cons c l => rw [hx] at g2; simp at g2; simp [g2]
  · congr 1
    refine dec_inj (hd.drop _) (padT_AllD _ _) (by rw [hdl, padT_len]) ?_
    rw [dec_padT, e2]
/-- Zeros behind. -/
def rtrim (l : List UInt8) : List UInt8 := (l.reverse.dropWhile (· == 48)).reverse
theorem rtrim_snoc (l : List UInt8) (c : UInt8) : rtrim (l ++ [c]) = if c = 48 then rtrim l else l ++ [c] := by
  unfold rtrim
  rw [List.reverse_append, List.reverse_singleton, List.singleton_append, List.dropWhile_cons]
  by_cases h : c = 48
  · simp [h]
  · simp [h]
/-- The text of u micrometres. -/
def mmT (u : Nat) : List UInt8 := natT (u / 1000) ++ (if u % 1000 = 0 then [] else 46 :: rtrim (padT 3 u))
theorem dig48 (n : Nat) : UInt8.ofNat (48 + n % 10) = 48 ↔ n % 10 = 0 := by
  rw [← UInt8.toNat_inj, dig_toNat]; simp
def mmP (u : Nat) : Nat := if u % 1000 = 0 then 0 else if u % 100 = 0 then 1 else if u % 10 = 0 then 2 else 3
theorem rtrim_pad (k n : Nat) : rtrim (padT (k + 1) n) = if n % 10 = 0 then rtrim (padT k (n / 10)) else padT (k + 1) n := by
  simp only [padT]
  rw [rtrim_snoc]
  by_cases h : n % 10 = 0
  · rw [if_pos h, if_pos ((dig48 n).2 h)]
  · rw [if_neg h, if_neg (fun e => h ((dig48 n).1 e))]
theorem mmT_eq (u : Nat) : mmT u = ptT (u * 10 ^ mmP u / 1000) (mmP u) := by
  unfold mmT mmP
  by_cases h3 : u % 1000 = 0
  · rw [if_pos h3, if_pos h3]; simp [ptT]
  · rw [if_neg h3, if_neg h3, rtrim_pad]
    by_cases h1 : u % 10 = 0
    · rw [if_pos h1, rtrim_pad]
      by_cases h2 : u / 10 % 10 = 0
      · rw [if_pos h2, if_pos (by omega), rtrim_pad, if_neg (by omega), ptT_eq _ _ (by omega)]
        rw [show u * 10 ^ 1 / 1000 = u / 100 by omega, show u / 100 / 10 ^ 1 = u / 1000 by omega, show u / 10 / 10 = u / 100 by omega]
      · rw [if_neg h2, if_neg (by omega), if_pos h1, ptT_eq _ _ (by omega)]
        rw [show u * 10 ^ 2 / 1000 = u / 10 by omega, show u / 10 / 10 ^ 2 = u / 1000 by omega]
    · rw [if_neg h1, if_neg (by omega), if_neg h1, ptT_eq _ _ (by omega)]
      rw [show u * 10 ^ 3 / 1000 = u by omega, show u / 10 ^ 3 = u / 1000 by omega]
/-- The text behind the first digit of 1000 + r. -/
theorem natT_1000 {r : Nat} (h : r < 1000) : natT (1000 + r) = 49 :: padT 3 r := by
  have h1 := natT_more (m := 1) (n := r) (k := 3) (by omega) (by omega)
  have h2 : natT 1 = [49] := (natT_eq (n := 1) ⟨by simp [AllD], rfl, by simp, by simp⟩).symm
  rw [h2] at h1
  rw [show 1000 + r = 1 * 10 ^ 3 + r by omega, ← h1]; rfl
end Go.Proofs.YtechjiiijiipdaaGreatDoor
namespace Go.Proofs.YtechjiiijiipdaaGreatDoor
open Go.RowKit
set_option linter.unusedSimpArgs false
set_option linter.unusedVariables false
theorem parseUintM_digits : ∀ (l : List UInt8) (acc : Nat), AllD l → acc ≤ 18446744073709551615 →
    Lib.parseUintM 18446744073709551615 acc l = if acc * 10 ^ l.length + dec l ≤ 18446744073709551615 then .ok (acc * 10 ^ l.length + dec l) else .range
  | [], acc, _, h => by simp [Lib.parseUintM, dec_nil, h]
  | c :: l, acc, hl, h => by
    have hc := hl c (List.mem_cons_self ..)
    have hP : 0 < 10 ^ l.length := Nat.pow_pos (by omega)
    have e : acc * 10 ^ (c :: l).length + dec (c :: l) = (acc * 10 + (c.toNat - 48)) * 10 ^ l.length + dec l := by
      rw [dec_cons, List.length_cons, Nat.pow_succ, Nat.add_mul, Nat.mul_assoc, Nat.mul_comm 10]; omega
    rw [e]
    simp only [Lib.parseUintM]
    rw [if_pos hc]
    have hge : acc * 10 + (c.toNat - 48) ≤ (acc * 10 + (c.toNat - 48)) * 10 ^ l.length := Nat.le_mul_of_pos_right _ hP
    by_cases h1 : 1844674407370955162 ≤ acc
    · rw [if_pos h1, if_neg (by omega)]
    · rw [if_neg h1]
      by_cases h2 : 18446744073709551615 < acc * 10 + (c.toNat - 48)
      · rw [if_pos h2, if_neg (by omega)]
      · rw [if_neg h2]
        exact parseUintM_digits l _ hl.tail (by omega)
/-- Does the text's number fit an int64? -/
def fitI (neg : Bool) (n : Nat) : Bool := if neg then decide (n ≤ 9223372036854775808) else decide (n < 9223372036854775808)
theorem parseInt_sig (neg : Bool) {ds : List UInt8} (hd : AllD ds) (hne : ds ≠ []) : Lib.parseIntB 64 (sig neg ds) = if fitI neg (dec ds) = true then .ok (sgn neg (dec ds)) else .range := by
  have hU : Lib.parseUintB 64 ds = if dec ds ≤ 18446744073709551615 then .ok (dec ds) else .range := by
    unfold Lib.parseUintB
    rw [if_neg hne]
    have := parseUintM_digits ds 0 hd (by omega)
    simpa using this
  cases neg with
  | true =>
    have e : sig true ds = 45 :: ds := rfl
    rw [e]
    simp only [Lib.parseIntB]
    rw [if_pos (.inr (by decide)), hU]
    by_cases h1 : dec ds ≤ 18446744073709551615
    · rw [if_pos h1]
      by_cases h2 : dec ds ≤ 9223372036854775808
      · rw [if_pos (by simp [fitI, h2])]
        simp [sgn]; omega
      · rw [if_neg (by simp [fitI, h2])]
        simp; omega
    · rw [if_neg h1, if_neg (by simp [fitI]; omega)]
  | false =>
    have e : sig false ds = ds := rfl
    rw [e]
    cases ds with
    | nil => exact absurd rfl hne
    | cons c l =>
      have hc := hd c (List.mem_cons_self ..)
      simp only [Lib.parseIntB]
      rw [if_neg (by omega), hU]
      have h45 : ¬ c.toNat = 45 := by omega
      by_cases h1 : dec (c :: l) ≤ 18446744073709551615
      · rw [if_pos h1]
        by_cases h2 : dec (c :: l) < 9223372036854775808
        · rw [if_pos (by simp [fitI, h2])]
          simp [sgn, h45]; omega
        · rw [if_neg (by simp [fitI]; omega)]
          simp [h45]; omega
      · rw [if_neg h1, if_neg (by simp [fitI]; omega)]
/-- What FromMillimetres returns. -/
def mmV (l : List UInt8) : Int := sgn (isNeg l) (dec (whole (bodyOf l) ++ frac (bodyOf l))) * (10 ^ (3 - (frac (bodyOf l)).length) : Nat)
def fmF (l : List UInt8) : Int × Nat :=
  if isDec l = true ∧ (frac (bodyOf l)).length ≤ 3 then (if -10000000 ≤ mmV l ∧ mmV l ≤ 10000000 then (mmV l, 0) else (0, 11)) else (0, 2)
theorem dec_more (ds : List UInt8) (k : Nat) : dec (ds ++ List.replicate k 48) = dec ds * 10 ^ k := by
  rw [dec_append, dec_zeros, List.length_replicate, Nat.add_zero]
theorem sig_append (neg : Bool) (a b : List UInt8) : sig neg a ++ b = sig neg (a ++ b) := by cases neg <;> rfl
theorem fm_parse {l : List UInt8} (h : isDec l = true) : ∃ (neg : Bool) (ds : List UInt8), (digF l).1 = sig neg ds ∧ (digF l).1 ++ List.replicate (3 - (frac (bodyOf l)).length) 48 = sig neg (ds ++ List.replicate (3 - (frac (bodyOf l)).length) 48) ∧
    Lib.parseIntB 64 ((digF l).1 ++ List.replicate (3 - (frac (bodyOf l)).length) 48) = (if fitI neg (dec (ds ++ List.replicate (3 - (frac (bodyOf l)).length) 48)) = true then .ok (mmV l) else .range) ∧
    mmV l = sgn neg (dec (ds ++ List.replicate (3 - (frac (bodyOf l)).length) 48)) ∧ (digF l).1.length ≤ l.length := by
  obtain ⟨neg, ds, h1, h2, h3, h4, h5, h6, h7, h8, h9⟩ := digF_ok h
  have e : mmV l = sgn neg (dec (ds ++ List.replicate (3 - (frac (bodyOf l)).length) 48)) := by
    unfold mmV
    rw [← h9, dec_more]
    generalize 10 ^ (3 - (frac (bodyOf l)).length) = k
    cases neg <;> simp [sgn, Int.neg_mul]
  have e2 : (digF l).1 ++ List.replicate (3 - (frac (bodyOf l)).length) 48 = sig neg (ds ++ List.replicate (3 - (frac (bodyOf l)).length) 48) := by rw [h1, sig_append]
  refine ⟨neg, ds, h1, e2, ?_, e, h6⟩
  rw [e2, e]
  exact parseInt_sig neg (AllD.append.2 ⟨h2, AllD.zeros _⟩) (by simp [h3])
theorem fit_range {neg : Bool} {n : Nat} (h : fitI neg n = false) : ¬ (-10000000 ≤ sgn neg n ∧ sgn neg n ≤ 10000000) := by
  unfold fitI at h
  cases neg <;> simp [sgn] at * <;> omega
end Go.Proofs.YtechjiiijiipdaaGreatDoor
namespace Go.Proofs.YtechjiiijiipdaaGreatDoor
open Go.RowKit
set_option linter.unusedSimpArgs false
set_option linter.unusedVariables false
theorem ext_drop (s : ByteArray) (a : Nat) : (s.extract a s.size).data.toList = s.data.toList.drop a := by
  rw [Lib.extract_data, Lib.size_eq, List.take_of_length_le (by simp)]
theorem ext_size (s : ByteArray) (a : Nat) : (s.extract a s.size).size ≤ s.size := by
  rw [Lib.size_eq, ext_drop, List.length_drop, ← Lib.size_eq]; omega
theorem ext_zero (s : ByteArray) : s.extract 0 s.size = s := by simp
set_option maxHeartbeats 1000000 in
theorem digits_from (s : ByteArray) (a : Nat) (w : World) (hs : s.size ≤ 65536) (ha : a ≤ s.size) (n : Nat) (hn : n = runF digitB s.data.toList a - a) :
    Calls Tryz.prog 128 #[.string (s.extract a s.size)] w fun e w' => e = .returned (.int .i64 (n : Int)) ∧ w = w' := by
  refine (ref21_digits _ w (Nat.le_trans (ext_size s a) hs)).mono ?_
  rintro e w' ⟨rfl, rfl⟩
  rw [ext_drop, runF_drop', hn]
  exact ⟨rfl, rfl⟩
set_option maxRecDepth 100000 in
set_option maxHeartbeats 4000000 in
theorem ref21_number (s : ByteArray) (w : World) (hs : s.size ≤ 65536) :
    Calls Tryz.prog 71 #[.string s] w fun e w' => e = .returned (.int .i64 (numL s.data.toList : Nat)) ∧ w = w' := by
  have hz := Lib.size_eq s
  have HN : Hid (numL s.data.toList = if numA s.data.toList 0 = (if peekF s.data.toList 0 = 45 then 1 else 0) then 0 else numF s.data.toList 0) := Lib.hid rfl
  have hA : numA s.data.toList 0 = runF digitB s.data.toList (if peekF s.data.toList 0 = 45 then 1 else 0) := by unfold numA; simp
  have hF : numF s.data.toList 0 = if peekF s.data.toList (numA s.data.toList 0) = 46 ∧ digitB (peekF s.data.toList (numA s.data.toList 0 + 1)) = true then runF digitB s.data.toList (numA s.data.toList 0 + 1) else numA s.data.toList 0 := rfl
  have hD := digits_from s
  have hL := @runF_le digitB s.data.toList
  have hG := @runF_ge digitB s.data.toList
  have hP := @peekF_at s
  have hPl := @peekF_len s.data.toList
  generalize numL s.data.toList = N at *
  generalize numF s.data.toList 0 = F at *
  by_cases h45 : peekF s.data.toList 0 = 45
  · rw [if_pos h45] at hA
    have HN2 : Hid (N = if numA s.data.toList 0 = 1 then 0 else F) := by have := HN.out; rw [if_pos h45] at this; exact Lib.hid this
    have h0 : 0 < s.size := by have := peekF_ne (l := s.data.toList) (k := 0) (by rw [h45]; decide); omega
    have e45 : ((s[0].toNat : Int) == 45) = true := by rw [← hP h0, h45]; rfl
    have g0 : decide ((0 : Int) < (s.size : Int)) = true := decide_eq_true (by omega)
    have hr1 := hL (k := 1) (by omega)
    have hr2 := hG 1
    rw [← hA] at hr1 hr2
    generalize numA s.data.toList 0 = a at *
    have hD1 := fun w => hD 1 w hs (by omega) (a - 1) (by omega)
    try rw [ext_zero s] at hD1
    have HD1 := Lib.hid hD1
    clear hD1
    rw [← hz] at hr1
    by_cases hak : a = 1
    · have hN : N = 0 := by rw [HN2.out, if_pos hak]
      have hak0 : a - 1 = 0 := by omega
      clear hr1 hr2 hA hF hD hL hG hP hPl HN HN2 hz h45 hak
      rw [hN]
      rw [hak0] at HD1
      go_enter Tryz.func71, Tryz.ntmps71
      go_wp2_with (go_at_call 128; refine (HD1.out _).mono ?_; rintro e w' ⟨rfl, rfl⟩)
      go_ret
      exact ⟨rfl, rfl⟩
    · have hN : N = F := by rw [HN2.out, if_neg hak]
      have hd0 : ((((a - 1 : Nat) : Int)) == 0) = false := by simp; omega
      have hadd : (((a - 1 : Nat) : Int)) + 1 = (a : Int) := by omega
      by_cases h1 : a + 1 < s.size
      · have ha0 : a < s.size := by omega
        have g1 : decide ((a : Int) + 1 < (s.size : Int)) = true := decide_eq_true (by omega)
        have p1 := hP (j := a) (by omega)
        have p2 := hP (j := a + 1) h1
        have hr3 := hL (k := a + 1) (by omega)
        have hr4 := hG (a + 1)
        have hD2 := fun w => hD (a + 1) w hs (by omega) (runF digitB s.data.toList (a + 1) - (a + 1)) rfl
        rw [p1, p2] at hF
        rw [← hz] at hr3
        generalize runF digitB s.data.toList (a + 1) = b at *
        have HD2 := Lib.hid hD2
        have hadd2 : (a : Int) + 1 + ((b - (a + 1) : Nat) : Int) = (b : Int) := by omega
        by_cases h46 : s[a] = 46
        · have e46 : ((s[a].toNat : Int) == 46) = true := by rw [h46]; rfl
          obtain ⟨db, hdb⟩ : ∃ db, digitB s[a + 1] = db := ⟨_, rfl⟩
          have HDB := Lib.hid hdb
          rw [hdb] at hF
          cases db with
          | true =>
            have hR : N = b := by rw [hN, hF, if_pos ⟨h46, rfl⟩]
            rw [hR]
            clear hr1 hr2 hA hF hD hL hG hP hPl HN HN2 hz h45 hak hN hdb hR p1 p2 h46 hD2
            go_enter Tryz.func71, Tryz.ntmps71
            go_wp2_with (first | (go_at_call 128; first | ((with_reducible refine (HD1.out _).mono ?_); rintro e w' ⟨rfl, rfl⟩) | ((with_reducible refine (HD2.out _).mono ?_); rintro e w' ⟨rfl, rfl⟩)) | (go_at_call 127; refine (ref21_digit s[a + 1] _).mono ?_; rintro e w' ⟨rfl, rfl⟩; rw [HDB.out]))
            go_ret
            exact ⟨rfl, rfl⟩
          | false =>
            have hR : N = a := by rw [hN, hF, if_neg (fun h => by cases h.2)]
            rw [hR]
            clear hr1 hr2 hA hF hD hL hG hP hPl HN HN2 hz h45 hak hN hdb hR p1 p2 h46 hD2
            go_enter Tryz.func71, Tryz.ntmps71
            go_wp2_with (first | (go_at_call 128; refine (HD1.out _).mono ?_; rintro e w' ⟨rfl, rfl⟩) | (go_at_call 127; refine (ref21_digit s[a + 1] _).mono ?_; rintro e w' ⟨rfl, rfl⟩; rw [HDB.out]))
            go_ret
            exact ⟨rfl, rfl⟩
        · have e46 : ((s[a].toNat : Int) == 46) = false := by
            have : s[a].toNat ≠ 46 := fun h => h46 (UInt8.toNat_inj.1 h)
            simp; omega
          have hR : N = a := by rw [hN, hF, if_neg (fun h => h46 h.1)]
          rw [hR]
          clear hr1 hr2 hA hF hD hL hG hP hPl HN HN2 hz h45 hak hN hR p1 p2 h46 hD2
          go_enter Tryz.func71, Tryz.ntmps71
          go_wp2_with (go_at_call 128; refine (HD1.out _).mono ?_; rintro e w' ⟨rfl, rfl⟩)
          go_ret
          exact ⟨rfl, rfl⟩
      · have g1 : decide ((a : Int) + 1 < (s.size : Int)) = false := decide_eq_false (by omega)
        have hR : N = a := by rw [hN, hF, if_neg (fun h => by rw [hPl (k := a + 1) (by omega)] at h; exact absurd h.2 (by decide))]
        rw [hR]
        clear hr2 hA hF hD hL hG hP hPl HN HN2 hz h45 hak hN hR
        go_enter Tryz.func71, Tryz.ntmps71
        go_wp2_with (go_at_call 128; refine (HD1.out _).mono ?_; rintro e w' ⟨rfl, rfl⟩)
        go_ret
        exact ⟨rfl, rfl⟩
  · rw [if_neg h45] at hA
    have HN2 : Hid (N = if numA s.data.toList 0 = 0 then 0 else F) := by have := HN.out; rw [if_neg h45] at this; exact Lib.hid this
    by_cases h0 : 0 < s.size
    · have e45 : ((s[0].toNat : Int) == 45) = false := by
        have : s[0].toNat ≠ 45 := fun h => h45 (by rw [hP h0]; exact UInt8.toNat_inj.1 h)
        simp; omega
      have g0 : decide ((0 : Int) < (s.size : Int)) = true := decide_eq_true (by omega)
      have hr1 := hL (k := 0) (by omega)
      have hr2 := hG 0
      rw [← hA] at hr1 hr2
      generalize numA s.data.toList 0 = a at *
      have hD1 := fun w => hD 0 w hs (by omega) (a) (by omega)
      try rw [ext_zero s] at hD1
      have HD1 := Lib.hid hD1
      clear hD1
      rw [← hz] at hr1
      by_cases hak : a = 0
      · have hN : N = 0 := by rw [HN2.out, if_pos hak]
        have hak0 : a = 0 := by omega
        clear hr1 hr2 hA hF hD hL hG hP hPl HN HN2 hz h45 hak
        rw [hN]
        rw [hak0] at HD1
        go_enter Tryz.func71, Tryz.ntmps71
        go_wp2_with (go_at_call 128; refine (HD1.out _).mono ?_; rintro e w' ⟨rfl, rfl⟩)
        go_ret
        exact ⟨rfl, rfl⟩
      · have hN : N = F := by rw [HN2.out, if_neg hak]
        have hd0 : ((((a : Nat) : Int)) == 0) = false := by simp; omega
        have hadd : (((a : Nat) : Int)) + 0 = (a : Int) := by omega
        by_cases h1 : a + 1 < s.size
        · have ha0 : a < s.size := by omega
          have g1 : decide ((a : Int) + 1 < (s.size : Int)) = true := decide_eq_true (by omega)
          have p1 := hP (j := a) (by omega)
          have p2 := hP (j := a + 1) h1
          have hr3 := hL (k := a + 1) (by omega)
          have hr4 := hG (a + 1)
          have hD2 := fun w => hD (a + 1) w hs (by omega) (runF digitB s.data.toList (a + 1) - (a + 1)) rfl
          rw [p1, p2] at hF
          rw [← hz] at hr3
          generalize runF digitB s.data.toList (a + 1) = b at *
          have HD2 := Lib.hid hD2
          have hadd2 : (a : Int) + 1 + ((b - (a + 1) : Nat) : Int) = (b : Int) := by omega
          by_cases h46 : s[a] = 46
          · have e46 : ((s[a].toNat : Int) == 46) = true := by rw [h46]; rfl
            obtain ⟨db, hdb⟩ : ∃ db, digitB s[a + 1] = db := ⟨_, rfl⟩
            have HDB := Lib.hid hdb
            rw [hdb] at hF
            cases db with
            | true =>
              have hR : N = b := by rw [hN, hF, if_pos ⟨h46, rfl⟩]
              rw [hR]
              clear hr1 hr2 hA hF hD hL hG hP hPl HN HN2 hz h45 hak hN hdb hR p1 p2 h46 hD2
              go_enter Tryz.func71, Tryz.ntmps71
              go_wp2_with (first | (go_at_call 128; first | ((with_reducible refine (HD1.out _).mono ?_); rintro e w' ⟨rfl, rfl⟩) | ((with_reducible refine (HD2.out _).mono ?_); rintro e w' ⟨rfl, rfl⟩)) | (go_at_call 127; refine (ref21_digit s[a + 1] _).mono ?_; rintro e w' ⟨rfl, rfl⟩; rw [HDB.out]))
              go_ret
              exact ⟨rfl, rfl⟩
            | false =>
              have hR : N = a := by rw [hN, hF, if_neg (fun h => by cases h.2)]
              rw [hR]
              clear hr1 hr2 hA hF hD hL hG hP hPl HN HN2 hz h45 hak hN hdb hR p1 p2 h46 hD2
              go_enter Tryz.func71, Tryz.ntmps71
              go_wp2_with (first | (go_at_call 128; refine (HD1.out _).mono ?_; rintro e w' ⟨rfl, rfl⟩) | (go_at_call 127; refine (ref21_digit s[a + 1] _).mono ?_; rintro e w' ⟨rfl, rfl⟩; rw [HDB.out]))
              go_ret
              exact ⟨rfl, rfl⟩
          · have e46 : ((s[a].toNat : Int) == 46) = false := by
              have : s[a].toNat ≠ 46 := fun h => h46 (UInt8.toNat_inj.1 h)
              simp; omega
            have hR : N = a := by rw [hN, hF, if_neg (fun h => h46 h.1)]
            rw [hR]
            clear hr1 hr2 hA hF hD hL hG hP hPl HN HN2 hz h45 hak hN hR p1 p2 h46 hD2
            go_enter Tryz.func71, Tryz.ntmps71
            go_wp2_with (go_at_call 128; refine (HD1.out _).mono ?_; rintro e w' ⟨rfl, rfl⟩)
            go_ret
            exact ⟨rfl, rfl⟩
        · have g1 : decide ((a : Int) + 1 < (s.size : Int)) = false := decide_eq_false (by omega)
          have hR : N = a := by rw [hN, hF, if_neg (fun h => by rw [hPl (k := a + 1) (by omega)] at h; exact absurd h.2 (by decide))]
          rw [hR]
          clear hr2 hA hF hD hL hG hP hPl HN HN2 hz h45 hak hN hR
          go_enter Tryz.func71, Tryz.ntmps71
          go_wp2_with (go_at_call 128; refine (HD1.out _).mono ?_; rintro e w' ⟨rfl, rfl⟩)
          go_ret
          exact ⟨rfl, rfl⟩
    · have g0 : decide ((0 : Int) < (s.size : Int)) = false := decide_eq_false (by omega)
      have hr1 := hL (k := 0) (by omega)
      rw [← hA] at hr1
      have hN : N = 0 := by rw [HN2.out, if_pos (by omega)]
      have hD1 := fun w => hD 0 w hs (by omega) 0 (by omega)
      rw [ext_zero s] at hD1
      have HD1 := Lib.hid hD1
      clear hr1 hA hF hD hL hG hP hPl HN HN2 hz h45 hD1
      rw [hN]
      go_enter Tryz.func71, Tryz.ntmps71
      go_wp2_with (go_at_call 128; refine (HD1.out _).mono ?_; rintro e w' ⟨rfl, rfl⟩)
      go_ret
      exact ⟨rfl, rfl⟩
end Go.Proofs.YtechjiiijiipdaaGreatDoor
namespace Go.Proofs.YtechjiiijiipdaaGreatDoor
open Go.RowKit
set_option linter.unusedSimpArgs false
set_option linter.unusedVariables false
theorem places_long {l : List UInt8} (h : 65536 < l.length) : placesF l = -1 := by
  unfold placesF
  rw [if_neg (fun hh => by have := ((isDec_iff l).1 hh).1; omega)]
theorem body_neg {l : List UInt8} (h : peekF l 0 = 45) : bodyOf l = l.drop 1 ∧ isNeg l = true := by
  cases l with
  | nil => simp [peekF] at h
  | cons c l =>
    have hc : c = 45 := by simpa [peekF] using h
    subst hc; exact ⟨rfl, rfl⟩
theorem body_pos {l : List UInt8} (h : peekF l 0 ≠ 45) : bodyOf l = l ∧ isNeg l = false := by
  cases l with
  | nil => exact ⟨rfl, rfl⟩
  | cons c l =>
    have hc : c ≠ 45 := by simpa [peekF] using h
    exact ⟨by unfold bodyOf; split <;> simp_all, by simp [isNeg, hc]⟩
theorem nat_ne {c : UInt8} {n : Nat} (h : c ≠ UInt8.ofNat n) (hn : n < 256) : c.toNat ≠ n := fun e => h (UInt8.toNat_inj.1 (by rw [e, UInt8.toNat_ofNat']; omega))
theorem bad_rest {pp : Nat} {q : Prop} [Decidable q] {neg sb : Bool} (p0 : ¬ pp = 0) (h : ¬ (1 < pp ∧ q)) : decide (pp = 0 ∨ 1 < pp ∧ q ∨ neg = true ∧ sb = false) = (neg && !sb) := by
  have e : (pp = 0 ∨ 1 < pp ∧ q ∨ neg = true ∧ sb = false) ↔ (neg && !sb) = true := by
    rw [Bool.and_eq_true, Bool.not_eq_true']
    constructor
    · rintro (g | g | g)
      · exact absurd g p0
      · exact absurd g h
      · exact g
    · exact fun g => .inr (.inr g)
  rw [Bool.eq_iff_iff, decide_eq_true_eq]; exact e
/-- The body of a text, as Go's code has it. -/
theorem body_at (s : ByteArray) (hl : s.size ≤ 65536) : ∃ b : ByteArray, b.data.toList = bodyOf s.data.toList ∧ b.size ≤ s.size ∧ decide ((b.size : Int) < (s.size : Int)) = isNeg s.data.toList ∧
    ((h : 0 < s.size) → (((s[0].toNat : Int) == 45) = isNeg s.data.toList)) ∧ (isNeg s.data.toList = true → 0 < s.size ∧ b = s.extract 1 s.size) ∧ (isNeg s.data.toList = false → b = s) := by
  have hz := Lib.size_eq s
  by_cases h45 : peekF s.data.toList 0 = 45
  · have h0 : 0 < s.size := by have := peekF_ne (l := s.data.toList) (k := 0) (by rw [h45]; decide); omega
    obtain ⟨hb, hn⟩ := body_neg h45
    have hbz : (s.extract 1 s.size).size < s.size := by rw [Lib.size_eq, ext_drop, List.length_drop]; omega
    rw [hn]
    exact ⟨s.extract 1 s.size, by rw [ext_drop, hb], by omega, decide_eq_true (by omega), fun h => by rw [← peekF_at h, h45]; rfl, fun _ => ⟨h0, rfl⟩, (fun h => by cases h)⟩
  · obtain ⟨hb, hn⟩ := body_pos h45
    rw [hn]
    refine ⟨s, hb.symm, by omega, by simp, (fun h => ?_), (fun h => by cases h), (fun _ => rfl)⟩
    have : s[0].toNat ≠ 45 := fun h' => h45 (by rw [peekF_at h]; exact UInt8.toNat_inj.1 h')
    simp; omega
attribute [local irreducible] PInv placesF isDec isNeg bodyOf
set_option maxRecDepth 100000 in
set_option maxHeartbeats 4000000 in
theorem ref06_Places (s : ByteArray) (w : World) (hs : s.size ≤ 4000000000) :
    Calls Tryz.prog 81 #[.string s] w fun e w' => e = .returned (.int .i64 (placesF s.data.toList)) ∧ w = w' := by
  have hz := Lib.size_eq s
  by_cases hl : 65536 < s.size
  · have hd := places_long (l := s.data.toList) (by omega)
    have hI : (65536 : Int) < (s.size : Int) := by omega
    rw [hd]
    clear hd hl hz
    go_enter Tryz.func81, Tryz.ntmps81
    go_wp2
    go_ret
    exact ⟨rfl, rfl⟩
  · have hI : ¬ (65536 : Int) < (s.size : Int) := by omega
    obtain ⟨b, hb, hbs, gn, e45, hneg, hpos⟩ := body_at s (by omega)
    have hD := fun (p : Nat) (sm : Bool) (h : PInv b.data.toList b.data.toList.length p sm) => h.done hb.symm (by omega)
    have hBad := fun (i p : Nat) (sm : Bool) (h : PInv b.data.toList i p sm) => h.bad (l := s.data.toList) hb.symm
    have hPl : isDec s.data.toList = false → placesF s.data.toList = -1 := fun h => by unfold placesF; rw [h]; simp
    have hbl := Lib.size_eq b
    have hpk := fun (j : Nat) (h : j < b.size) => peekF_at (s := b) h
    have HBL := Lib.hid hbl
    generalize isNeg s.data.toList = neg at *
    have HDN := Lib.hid hD
    have HBAD := Lib.hid hBad
    have HPL := Lib.hid hPl
    have HPK := Lib.hid hpk
    have HE45 := Lib.hid e45
    have GN := Lib.hid gn
    clear hD hBad hPl hbl hpk hl hz hb e45 gn
    generalize placesF s.data.toList = R at *
    generalize isDec s.data.toList = Dc at *
    generalize b.data.toList = L at *
    have hb6 : b.size ≤ 65536 := by omega
    go_enter Tryz.func81, Tryz.ntmps81
    go_upto_region 4 with (fail)
    go_cut [19] (fun t w' => t = .bool neg ∧ w' = w)
    case first =>
      by_cases h0 : 0 < s.size
      · have g0 : decide ((0 : Int) < (s.size : Int)) = true := decide_eq_true (by omega)
        have e45 := HE45.out h0
        go_wp2_with (fail)
        go_meet
        exact ⟨rfl, rfl⟩
      · have g0 : decide ((0 : Int) < (s.size : Int)) = false := decide_eq_false (by omega)
        have hn : neg = false := by
          cases neg with
          | false => rfl
          | true => exact absurd (hneg rfl).1 h0
        go_wp2_with (fail)
        go_meet
        exact ⟨by rw [hn], rfl⟩
    case rest =>
      obtain ⟨rfl, rfl⟩ := hcut
      clear HE45
      go_upto_if 19 with (fail)
      go_cut [3] (fun t w' => t = .string b ∧ w' = wc)
      case first =>
        cases neg with
        | true =>
          obtain ⟨h0, hbe⟩ := hneg rfl
          have h1s : (1 : Int) ≤ (s.size : Int) := by omega
          have HBE := Lib.hid hbe
          clear hbe hneg hpos
          go_wp2_with (fail)
          go_meet
          exact ⟨by rw [HBE.out], rfl⟩
        | false =>
          have HBE := Lib.hid (hpos rfl)
          clear hneg hpos
          go_wp2_with (fail)
          go_meet
          exact ⟨by rw [HBE.out], rfl⟩
      case rest =>
        obtain ⟨rfl, rfl⟩ := hcut
        clear hneg hpos
        go_wp2_with (fail)
        go_loop [4, 5, 6] (fun p sm i => ∃ (j pp : Nat) (sb : Bool), j ≤ b.size ∧ p = .int .i64 pp ∧ sm = .bool sb ∧ i = .int .i64 j ∧ pp ≤ b.size ∧ Hid (PInv L j pp sb)) (fun _ _ i => b.size - (intOf i).toNat)
        case atStart => exact ⟨0, b.size, false, by omega, rfl, rfl, rfl, by omega, Lib.hid (by rw [HBL.out]; exact PInv.start L)⟩
        case round =>
          obtain ⟨j, pp, sb, hj, rfl, rfl, rfl, hpp, hinv⟩ := hrel
          by_cases hlt : j < b.size
          · have hp := HPK.out j hlt
            have hjl : j < L.length := by have := HBL.out; omega
            clear HDN
            by_cases h46 : b[j] = 46
            · have e46 : ((b[j].toNat : Int) == 46) = true := by rw [h46]; rfl
              have hlow : decide ((b[j].toNat : Int) < 48) = true := by rw [h46]; rfl
              by_cases hpe : pp = b.size
              · have ep : ((pp : Int) == (b.size : Int)) = true := by rw [hpe]; simp
                have hnext := Lib.hid (hinv.out.dot hjl (hp.trans h46) (by rw [hpe, HBL.out]))
                clear hp h46 hpe
                go_wp2_with (fail)
                go_round
                case rel => exact ⟨j + 1, j, sb, by omega, rfl, rfl, by go_num, by omega, hnext⟩
                case measure => simp [intOf]; omega
              · have ep : ((pp : Int) == (b.size : Int)) = false := by simp; omega
                have hbad := HPL.out (HBAD.out j pp sb hinv.out hjl (fun h => hpe (by rw [h.2, ← HBL.out])) (by rw [hp, h46]; decide))
                clear hp h46 hpe
                subst hbad
                go_wp2_with (fail)
                go_ret
                exact ⟨rfl, rfl⟩
            · have e46 : ((b[j].toNat : Int) == 46) = false := by have := nat_ne (n := 46) h46 (by omega); simp; omega
              have hno : digitB b[j] = false → R = -1 := fun h => HPL.out (HBAD.out j pp sb hinv.out hjl (fun h => h46 (hp.symm.trans h.1)) (by rw [hp]; exact h))
              by_cases h48 : b[j].toNat < 48
              · have hlow : decide ((b[j].toNat : Int) < 48) = true := decide_eq_true (by omega)
                have hbad := hno (by rw [Bool.eq_false_iff]; intro h; have := (digitB_iff _).1 h; omega)
                clear hp h46 hno
                subst hbad
                go_wp2_with (fail)
                go_ret
                exact ⟨rfl, rfl⟩
              · have hlow : decide ((b[j].toNat : Int) < 48) = false := decide_eq_false (by omega)
                by_cases h57 : 57 < b[j].toNat
                · have hhigh : decide ((57 : Int) < (b[j].toNat : Int)) = true := decide_eq_true (by omega)
                  have hbad := hno (by rw [Bool.eq_false_iff]; intro h; have := (digitB_iff _).1 h; omega)
                  clear hp h46 hno
                  subst hbad
                  go_wp2_with (fail)
                  go_ret
                  exact ⟨rfl, rfl⟩
                · have hhigh : decide ((57 : Int) < (b[j].toNat : Int)) = false := decide_eq_false (by omega)
                  have hnext := hinv.out.digit hjl (by rw [hp]; exact (digitB_iff _).2 (by omega))
                  obtain ⟨nz, hnz⟩ : ∃ nz, ((b[j].toNat : Int) != 48) = nz := ⟨_, rfl⟩
                  have hnz2 : (peekF L j != 48) = nz := by
                    rw [hp, ← hnz, Bool.eq_iff_iff]; simp [← UInt8.toNat_inj]; omega
                  rw [hnz2] at hnext
                  have HNX := Lib.hid hnext
                  clear hp h46 hno hnext hnz2
                  cases sb with
                  | true =>
                    go_wp2_with (fail)
                    go_round
                    case rel => exact ⟨j + 1, pp, true, by omega, rfl, rfl, by go_num, hpp, HNX⟩
                    case measure => simp [intOf]; omega
                  | false =>
                    go_wp2_with (fail)
                    go_round
                    case rel => exact ⟨j + 1, pp, nz, by omega, rfl, rfl, by go_num, hpp, HNX⟩
                    case measure => simp [intOf]; omega
          · obtain rfl : j = b.size := by omega
            have hR := HDN.out pp sb (by rw [← HBL.out]; exact hinv.out)
            rw [← HBL.out] at hR
            have HR := Lib.hid hR
            have hz0 : (h : 0 < b.size) → peekF L 0 = b[0] := fun h => HPK.out 0 h
            clear hR hinv HDN HBAD
            go_upto_region 16 with (fail)
            obtain ⟨bad, hbad⟩ : ∃ bad, decide (pp = 0 ∨ 1 < pp ∧ peekF L 0 = 48 ∨ neg = true ∧ sb = false) = bad := ⟨_, rfl⟩
            have HB := Lib.hid hbad
            clear hbad
            have gn := GN.out
            have gnn : decide (b.size < s.size) = neg := by rw [← gn, Bool.eq_iff_iff]; simp
            clear GN
            go_cut [79] (fun t w' => t = .bool bad ∧ w' = wc)
            case first =>
              clear HR
              by_cases p0 : pp = 0
              · have c0 : ((pp : Int) == 0) = true := by rw [p0]; rfl
                have hf : bad = true := by rw [← HB.out]; exact decide_eq_true (.inl p0)
                subst hf
                clear p0
                go_wp2_with (fail)
                go_meet
                exact ⟨rfl, rfl⟩
              · have c0 : ((pp : Int) == 0) = false := by simp; omega
                have hrest : ¬ (1 < pp ∧ peekF L 0 = 48) → bad = (neg && !sb) := fun h => by
                  rw [← HB.out]; exact bad_rest p0 h
                by_cases p1 : 1 < pp
                · have c1 : decide ((1 : Int) < (pp : Int)) = true := decide_eq_true (by omega)
                  have hb0 : 0 < b.size := by omega
                  have hb0' : (0 : Int) < (b.size : Int) := by omega
                  by_cases p48 : peekF L 0 = 48
                  · have c48 : ((b[0].toNat : Int) == 48) = true := by rw [← hz0 hb0, p48]; rfl
                    have hf : bad = true := by rw [← HB.out]; exact decide_eq_true (.inr (.inl ⟨p1, p48⟩))
                    subst hf
                    clear p48 hz0 hrest p0
                    go_wp2_with (fail)
                    go_meet
                    exact ⟨rfl, rfl⟩
                  · have c48 : ((b[0].toNat : Int) == 48) = false := by have := nat_ne (n := 48) (c := b[0]) (by rw [← hz0 hb0]; exact p48) (by omega); simp; omega
                    have hf := hrest (fun h => p48 h.2)
                    subst hf
                    clear p48 hz0 hrest p0
                    cases neg
                    · go_wp2_with (fail); go_meet; exact ⟨rfl, rfl⟩
                    · cases sb
                      · go_wp2_with (fail); go_meet; exact ⟨rfl, rfl⟩
                      · go_wp2_with (fail); go_meet; exact ⟨rfl, rfl⟩
                · have c1 : decide ((1 : Int) < (pp : Int)) = false := decide_eq_false (by omega)
                  have hf := hrest (fun h => p1 h.1)
                  subst hf
                  clear hz0 hrest p0
                  cases neg
                  · go_wp2_with (fail); go_meet; exact ⟨rfl, rfl⟩
                  · cases sb
                    · go_wp2_with (fail); go_meet; exact ⟨rfl, rfl⟩
                    · go_wp2_with (fail); go_meet; exact ⟨rfl, rfl⟩
            case rest =>
              obtain ⟨rfl, rfl⟩ := hcut
              clear hz0 gn gnn
              cases bad with
              | true =>
                have hf : R = -1 := by rw [← HR.out, if_pos (of_decide_eq_true HB.out)]
                subst hf
                clear HR HB
                go_wp2_with (fail)
                go_ret
                exact ⟨rfl, rfl⟩
              | false =>
                have hR := HR.out
                rw [if_neg (of_decide_eq_false HB.out)] at hR
                clear HR HB
                by_cases hpe : pp = b.size
                · have ep : ((pp : Int) == (b.size : Int)) = true := by rw [hpe]; simp
                  have hf : R = 0 := by rw [← hR, if_pos hpe]
                  subst hf
                  clear hR hpe
                  go_wp2_with (fail)
                  go_ret
                  exact ⟨rfl, rfl⟩
                · have ep : ((pp : Int) == (b.size : Int)) = false := by simp; omega
                  rw [if_neg hpe] at hR
                  by_cases hn1 : b.size - pp - 1 < 1
                  · have c3 : decide ((b.size : Int) - (pp : Int) - 1 < 1) = true := decide_eq_true (by omega)
                    have hf : R = -1 := by rw [← hR, if_pos (.inl hn1)]
                    subst hf
                    clear hR hpe
                    go_wp2_with (fail)
                    go_ret
                    exact ⟨rfl, rfl⟩
                  · have c3 : decide ((b.size : Int) - (pp : Int) - 1 < 1) = false := decide_eq_false (by omega)
                    by_cases hn2 : 30 < b.size - pp - 1
                    · have c4 : decide ((30 : Int) < (b.size : Int) - (pp : Int) - 1) = true := decide_eq_true (by omega)
                      have hf : R = -1 := by rw [← hR, if_pos (.inr hn2)]
                      subst hf
                      clear hR hpe
                      go_wp2_with (fail)
                      go_ret
                      exact ⟨rfl, rfl⟩
                    · have c4 : decide ((30 : Int) < (b.size : Int) - (pp : Int) - 1) = false := decide_eq_false (by omega)
                      have hf : R = (b.size : Int) - (pp : Int) - 1 := by rw [← hR, if_neg (by omega)]; omega
                      have HF := Lib.hid hf
                      clear hR hpe hf
                      go_wp2_with (fail)
                      go_ret
                      exact ⟨by rw [HF.out]; rfl, rfl⟩
end Go.Proofs.YtechjiiijiipdaaGreatDoor
namespace Go.Proofs.YtechjiiijiipdaaGreatDoor
open Go.RowKit
set_option linter.unusedSimpArgs false
set_option linter.unusedVariables false
theorem pow10_le {t : Nat} (h : t ≤ 8) : (10 : Nat) ^ t ≤ 100000000 := by
  have := Nat.pow_le_pow_right (n := 10) (by omega) h
  simpa using this
theorem peek_mem {l : List UInt8} {j : Nat} (h : j < l.length) : peekF l j ∈ l := by
  have e : peekF l j = l[j] := by simp [peekF, h]
  rw [e]; exact List.getElem_mem h
attribute [local irreducible] IsInt U32s Dig Norm Own IsRat AllD dec
set_option maxRecDepth 100000 in
set_option maxHeartbeats 4000000 in
theorem ref01_Parse (w : World) (s : ByteArray) (neg : Bool) (ds : List UInt8) (hs : s.data.toList = sig neg ds) (hd : AllD ds) (hne : ds ≠ []) (h0 : ds.head? = some 48 → ds = [48] ∧ neg = false) (hsz : s.size ≤ 65536) :
    Calls Tryz.prog 103 #[.string s] w fun e w' => ∃ v, e = .returned (.tuple #[v, .int .i64 0]) ∧ IsInt (ds.length / 9 + 1) w' v (sgn neg (dec ds)) ∧ Ext w w' := by
  have hdl := List.length_pos_iff.2 hne
  obtain ⟨b, hb, hbs, gn, e45, hneg, hpos⟩ := body_at s hsz
  obtain ⟨b1, b2⟩ := sig_body (neg := neg) (head_not45 hd)
  rw [hs, b1] at hb
  rw [hs, b2] at e45 hneg hpos
  have hs0 : 0 < s.size := by rw [Lib.size_eq, hs, sig_len]; omega
  have HE45 := Lib.hid (e45 hs0)
  have hbl : b.size = ds.length := by rw [Lib.size_eq, hb]
  have hb0 : 0 < b.size := by omega
  have hb0I : (0 : Int) < (b.size : Int) := by omega
  have g0 : decide ((0 : Int) < (s.size : Int)) = true := decide_eq_true (by omega)
  have hszI : decide ((65536 : Int) < (s.size : Int)) = false := decide_eq_false (by omega)
  have hbt : b.toList.isEmpty = false := by rw [Lib.toList_data, hb]; cases ds with | nil => exact absurd rfl hne | cons _ _ => rfl
  have hbt2 : (b.toList == []) = false := by rw [Lib.toList_data, hb]; cases ds with | nil => exact absurd rfl hne | cons _ _ => rfl
  have hp0 : b[0] = peekF ds 0 := by rw [← peekF_at hb0, hb]
  have hpk : Hid (∀ (j : Nat) (h : j < b.size), peekF ds j = b[j]) := Lib.hid (fun j h => by rw [← hb]; exact peekF_at (s := b) h)
  have h48 : peekF ds 0 = 48 → (s.toList == [48]) = true := fun h => by
    have : ds.head? = some 48 := by
      cases ds with
      | nil => exact absurd rfl hne
      | cons c l => simpa [peekF] using h
    obtain ⟨e1, e2⟩ := h0 this
    rw [Lib.toList_data, hs, e1, e2]; rfl
  rw [← hp0] at h48
  have HBL := Lib.hid hbl
  clear hs h0 gn b1 b2 hb e45 hbl hp0
  go_enter Tryz.func103, Tryz.ntmps103
  go_upto_region 1 with (fail)
  obtain ⟨w3, r, e1, e2, h3, hE⟩ := box1 w (.cells #[.bool false, .slice none 0 0] 53)
  rw [e1, e2]
  have hr0 : w.heap.size ≤ r := by omega
  clear e1 e2
  go_upto_region 2 with (fail)
  go_cut [18] (fun t w' => t = .bool neg ∧ w' = w3)
  case first =>
    have e45 := HE45.out
    go_wp2_with (fail)
    go_meet
    exact ⟨rfl, rfl⟩
  case rest =>
    obtain ⟨rfl, rfl⟩ := hcut
    go_upto_if 18 with (fail)
    go_cut [4] (fun t w' => t = .string b ∧ w' = wc)
    case first =>
      cases neg with
      | true =>
        obtain ⟨_, hbe⟩ := hneg rfl
        have h1s : (1 : Int) ≤ (s.size : Int) := by omega
        have HBE := Lib.hid hbe
        clear hbe hneg hpos
        go_wp2_with (fail)
        go_meet
        exact ⟨by rw [HBE.out], rfl⟩
      | false =>
        have HBE := Lib.hid (hpos rfl)
        clear hneg hpos
        go_wp2_with (fail)
        go_meet
        exact ⟨by rw [HBE.out], rfl⟩
    case rest =>
      obtain ⟨rfl, rfl⟩ := hcut
      clear hneg hpos
      go_upto_region 4 with (fail)
      go_cut [36] (fun t w' => t = .bool false ∧ w' = wc)
      case first =>
        by_cases h : b[0] = 48
        · have c48 : ((b[0].toNat : Int) == 48) = true := by rw [h]; rfl
          have hS := h48 h
          clear h h48
          go_wp2_with (fail)
          go_meet
          exact ⟨rfl, rfl⟩
        · have c48 : ((b[0].toNat : Int) == 48) = false := by have := nat_ne (n := 48) h (by omega); simp; omega
          clear h h48
          go_wp2_with (fail)
          go_meet
          exact ⟨rfl, rfl⟩
      case rest =>
        obtain ⟨rfl, rfl⟩ := hcut
        clear h48 hbt hbt2
        have hb6 : b.size ≤ 65536 := by omega
        obtain ⟨N, hN1, hN2⟩ : ∃ N, N ≤ b.size / 9 + 1 ∧ b.size / 9 + 1 ≤ N := ⟨b.size / 9 + 1, by omega, by omega⟩
        go_wp2_with (refine wpList_make32 rfl _ _ rfl (n := N) rfl rfl (by omega) (by omega) (by omega) ?_; intro w4 hown hE4)
        go_loopw [6] (fun i w' => ∃ (j : Nat) (O : List Nat), j ≤ b.size ∧ i = .int .i64 j ∧ Hid (O.length = N) ∧ Dig O ∧ Own wc.heap.size w' (.slice (some ⟨wc.heap.size, 0, none⟩) N N) O ∧
          Hid (val O = dec (ds.take j) * 10 ^ (ds.length - j)) ∧ Ext wc w') (fun i _ => b.size - (intOf i).toNat)
        case atStart => exact ⟨0, _, by omega, rfl, Lib.hid (by simp), Dig.zeros _, hown, Lib.hid (by rw [val_zeros]; simp [dec_nil]), hE4⟩
        case round =>
          clear hown
          obtain ⟨j, O, hj, rfl, hO, dO, hown, hinv, hE5⟩ := hrel
          by_cases hlt : j < b.size
          · have hjl : j < ds.length := by have := HBL.out; omega
            obtain ⟨d1, d2⟩ := (by unfold AllD at hd; exact hd _ (peek_mem hjl) : 48 ≤ (peekF ds j).toNat ∧ (peekF ds j).toNat ≤ 57)
            rw [hpk.out j hlt] at d1 d2
            have g1 : decide ((b[j].toNat : Int) < 48) = false := decide_eq_false (by omega)
            have g2 : decide ((57 : Int) < (b[j].toNat : Int)) = false := decide_eq_false (by omega)
            obtain ⟨av, hav⟩ : ∃ av, av + j + 1 = b.size := ⟨b.size - 1 - j, by omega⟩
            have hav2 : (b.size : Int) - 1 - (j : Int) = (av : Int) := by omega
            obtain ⟨e, he⟩ : ∃ e : Nat, (av : Int) % 9 = (e : Int) := ⟨av % 9, by omega⟩
            obtain ⟨q, hq⟩ : ∃ q : Nat, (av : Int) / 9 = (q : Int) := ⟨av / 9, by omega⟩
            have he8 : e ≤ 8 := by omega
            have hqb : q < N := by omega
            have step := rparse_step (ds := ds) (O := O) (i := j) hjl dO (by rw [hO.out]; have := HBL.out; omega) hinv.out
            rw [show ds.length - 1 - j = av by have := HBL.out; omega, show av / 9 = q by omega, show av % 9 = e by omega, hpk.out j hlt] at step
            have STEP := Lib.hid step
            clear step
            go_wp2_with (fail)
            go_loop [8, 9] (fun p k => ∃ t : Nat, t ≤ e ∧ k = .int .i64 t ∧ p = .int .u32 ((10 ^ t : Nat) : Int)) (fun _ k => e - (intOf k).toNat)
            case atStart => exact ⟨0, by omega, rfl, rfl⟩
            case round =>
              obtain ⟨t, ht, rfl, rfl⟩ := hrel
              by_cases hte : t < e
              · have hP := pow10_le (t := t) (by omega)
                have hP2 := pow10_le (t := t + 1) (by omega)
                have hnx := Lib.hid (show 10 ^ t * 10 = 10 ^ (t + 1) from (Nat.pow_succ 10 t).symm)
                rw [← hnx.out] at hP2
                generalize 10 ^ t = P at *
                have hPI : (P : Int) * 10 ≤ 100000000 := by omega
                go_wp2_with (fail)
                go_round
                case rel => exact ⟨t + 1, by omega, by go_num, by rw [← hnx.out]; go_num⟩
                case measure => simp [intOf]; omega
              · obtain rfl : t = e := by omega
                have hP := pow10_le (t := t) (by omega)
                have hP0 : 0 < 10 ^ t := Nat.pow_pos (by omega)
                obtain ⟨P, hPe⟩ : ∃ P, 10 ^ t = P := ⟨_, rfl⟩
                obtain ⟨st1, st2⟩ := STEP.out
                rw [hPe] at st1 st2 hP hP0 ⊢
                obtain ⟨hcell, hfroz⟩ := hown.at (k := q) hO.out hqb
                have hx := dO.getD q
                generalize O.getD q 0 = x at *
                have hdb : (b[j].toNat - 48) * P ≤ 9 * P := Nat.mul_le_mul_right P (by omega)
                obtain ⟨y, hy⟩ : ∃ y, x + (b[j].toNat - 48) * P = y := ⟨_, rfl⟩
                obtain ⟨d, hdd⟩ : ∃ d, (b[j].toNat - 48) * P = d := ⟨_, rfl⟩
                have hdI : ((b[j].toNat : Int) - 48) * (P : Int) = (d : Int) := by
                  rw [← hdd]; rw [Int.natCast_mul]; congr 1; omega
                rw [hy] at st2
                rw [hdd] at hy hdb
                have ST2 := Lib.hid st2
                have s1 : IntKind.u32.wrap (((b[j].toNat : Int) - 48) * (P : Int)) = (d : Int) := by rw [hdI]; exact IntWalk.u32_in _ (by omega)
                have s2 : IntKind.u32.wrap ((x : Int) + (d : Int)) = (y : Int) := by rw [IntWalk.u32_in _ (by omega)]; omega
                have s3 : IntKind.u8.wrap ((b[j].toNat : Int) - 48) = (b[j].toNat : Int) - 48 := IntWalk.u8_in _ (by omega)
                have s4 : IntKind.u32.wrap ((b[j].toNat : Int) - 48) = (b[j].toNat : Int) - 48 := IntWalk.u32_in _ (by omega)
                have s5 : IntKind.i64.wrap (q : Int) = (q : Int) := IntWalk.i64_in _ (by omega)
                have i1 : (q : Int) < (N : Int) := by omega
                clear hPe st2 hdd hdI STEP
                go_upto_region 18 with (fail)
                go_still_tail 17, (by kernel_rfl)
                go_wp2
                go_roundw
                case rel => exact ⟨j + 1, O.set q y, by omega, by go_num, Lib.hid (by rw [List.length_set, hO.out]), dO.set (by omega), (hown.drewN _).stored hO.out q (by first | rfl | omega), ST2, (hE5.drewN' _).set' (Nat.le_refl _) _⟩
                case measure => simp only [intOf]; omega
          · obtain rfl : j = b.size := by omega
            have hv := Lib.hid (show val O = dec ds by rw [hinv.out, HBL.out, List.take_length]; simp)
            have hE9 : Ext w wr := hE.trans' hE5
            have h3' := hE5.blk h3
            have hu := hown.u32 dO.u32 (by have := hO.out; omega)
            have hOl := hO.out
            have e45 := HE45.out
            clear HE45 hpk hinv
            replace hE : Ext w wr := hE9
            clear hE9
            obtain ⟨Rr0, Fr0⟩ := rules h3' 0 _ rfl
            obtain ⟨Rr1, Fr1⟩ := rules h3' 1 _ rfl
            have hXr := Ext.rfl' wr
            go_wp2_with ((go_at_call 95; refine (ref01_signed _ _ _ _ (by exact hu) (by exact dO)).mono ?_; rintro e w5 ⟨vx, rfl, hx, hEx⟩; obtain ⟨nx, ax, lx, cx, rfl, ux, dx, nnx, lnx, sx, qx, _⟩ := IsInt.shape hx; have ex := Lib.hid qx; clear qx); have hXw5 := (show Ext wr w5 by exact exttI))
            have hE9 : Ext w w5 := by exact exttI
            have k9 := hXw5.blk h3'
            have hbx : Box w5 r := Box.mk k9 rfl
            have hB : But [r] w5 w5 := by exact buttI
            have hBr0 := Rr0 _ hXw5
            have hBr1 := Rr1 _ hXw5
            exact bodyPost_ret (v := .tuple #[.agg #[.bool nx, .slice ax lx.length cx], .int .i64 0]) (by simp [results, Tryz.results103, go_sem, hBr0, hBr1]) rfl ⟨_, rfl, IsInt.put ((hx.mono (by have := HBL.out; omega)).cast (by rw [hv.out])) hB (by simp) rfl, ((hB.set _ _ rfl (by simp)).set _ _ rfl (by simp)).old hE9 (by simp; omega)⟩
end Go.Proofs.YtechjiiijiipdaaGreatDoor
namespace Go.Proofs.YtechjiiijiipdaaGreatDoor
open Go.RowKit
set_option linter.unusedSimpArgs false
set_option linter.unusedVariables false
theorem ten_pow (n : Nat) : ((10 : Rat) ^ n) = (((10 ^ n : Nat) : Int) : Rat) := by
  induction n with
  | zero => rfl
  | succ n ih => rw [Rat.pow_succ, ih, Nat.pow_succ, Int.natCast_mul, Rat.intCast_mul]; rfl
theorem ten_num (n : Nat) : ((10 : Rat) ^ n).num ≠ 0 := by
  rw [ten_pow, Rat.num_intCast]
  have : 0 < 10 ^ n := Nat.pow_pos (by omega)
  omega
theorem over_ten (z : Int) (n : Nat) : (z : Rat) / (10 : Rat) ^ n = Rat.divInt z ((10 ^ n : Nat) : Int) := by
  rw [ten_pow, Rat.divInt_eq_div]
theorem coll_le (l : List UInt8) : (collF l).length ≤ l.length := by
  unfold collF
  have h1 := (List.dropWhile_suffix (l := l.filter digitB) (· == 48)).length_le
  have h2 := List.length_filter_le digitB l
  omega
theorem places_no {l : List UInt8} (h : isDec l = false) : placesF l = -1 := by unfold placesF; rw [h]; simp
theorem ext_one {s : ByteArray} {j : Nat} (h : j < s.size) : (s.extract j (j + 1)).data.toList = [peekF s.data.toList j] := by
  have hz := Lib.size_eq s
  rw [cut_data, cutF, take_peek (by omega), List.drop_append_of_le_length (by simp; omega), List.drop_of_length_le (by simp; omega)]; rfl
attribute [local irreducible] IsInt U32s Dig Norm Own IsRat AllD dec digF isDec decQ placesF
set_option maxRecDepth 100000 in
set_option maxHeartbeats 2000000 in
theorem ref06_Parse_no (s : ByteArray) (w : World) (hs : s.size ≤ 4000000000) (h : isDec s.data.toList = false) :
    Calls Tryz.prog 41 #[.string s] w fun e w' => e = .returned (.tuple #[.agg #[.bool false, .slice none 0 0, .bool false, .slice none 0 0], .int .i64 2]) ∧ Ext w w' := by
  have hP := fun w => ref06_Places s w hs
  rw [places_no h] at hP
  have HP := Lib.hid hP
  clear hP h
  go_enter Tryz.func41, Tryz.ntmps41
  go_upto_region 1 with (fail)
  obtain ⟨w3, r, e1, e2, k3, hE⟩ := box1 w (.cells #[.bool false, .slice none 0 0, .bool false, .slice none 0 0] 55)
  rw [e1, e2]
  have hr0 : w.heap.size ≤ r := by omega
  clear e1 e2
  have hE4 := Ext.rfl' w3
  obtain ⟨Rr0, Fr0⟩ := rules k3 0 _ rfl
  obtain ⟨Rr1, Fr1⟩ := rules k3 1 _ rfl
  obtain ⟨Rr2, Fr2⟩ := rules k3 2 _ rfl
  obtain ⟨Rr3, Fr3⟩ := rules k3 3 _ rfl
  go_wp2_with (go_at_call 81; refine (HP.out _).mono ?_; rintro e w4 ⟨rfl, rfl⟩)
  have hE9 : Ext w w3 := by exact exttI
  have k9 := hE4.blk k3
  have hbx : Box w3 r := Box.mk k9 rfl
  have hB : But [r] w3 w3 := by exact buttI
  have hBr0 := Rr0 _ hE4
  have hBr1 := Rr1 _ hE4
  have hBr2 := Rr2 _ hE4
  have hBr3 := Rr3 _ hE4
  exact bodyPost_ret (v := .tuple #[.agg #[.bool false, .slice none 0 0, .bool false, .slice none 0 0], .int .i64 2]) (by simp [results, Tryz.results41, go_sem, hBr0, hBr1, hBr2, hBr3]) rfl ⟨rfl, (((((hB.set _ _ rfl (by simp)).set _ _ rfl (by simp)).set _ _ rfl (by simp)).set _ _ rfl (by simp)).old hE9 (by simp; omega))⟩
set_option maxRecDepth 100000 in
set_option maxHeartbeats 4000000 in
theorem ref06_Parse_ok (s : ByteArray) (w : World) (hs : s.size ≤ 4000000000) (h : isDec s.data.toList = true) :
    Calls Tryz.prog 41 #[.string s] w fun e w' => ∃ v, e = .returned (.tuple #[v, .int .i64 0]) ∧ IsRat (s.size / 9 + 100) w' v (decQ s.data.toList) ∧ Ext w w' := by
  obtain ⟨neg, ds, h1, h2, h3, h4, h5, h6, h7, h8, h9⟩ := digF_ok h
  have hcf := coll_final h
  have hz := Lib.size_eq s
  have hPl : placesF s.data.toList = ((frac (bodyOf s.data.toList)).length : Int) := by unfold placesF; rw [if_pos h]
  have hP := fun w => ref06_Places s w hs
  rw [hPl] at hP
  rw [h7] at h8
  have hq : Hid ((sgn neg (dec ds) : Rat) / (10 : Rat) ^ (frac (bodyOf s.data.toList)).length = decQ s.data.toList) := by
    refine Lib.hid ?_
    unfold decQ
    rw [over_ten, h9]
  have hdl : ds.length ≤ s.size := by rw [h1, sig_len] at h6; omega
  have hs0 : 0 < s.size := by
    rcases Nat.eq_zero_or_pos s.size with g | g
    · have hn := List.length_pos_iff.2 h3; omega
    · exact g
  have hs6 : s.size ≤ 65536 := by omega
  have e45 : ((s[0].toNat : Int) == 45) = isNeg s.data.toList := by
    obtain ⟨b, _, _, _, e, _⟩ := body_at s hs6
    exact e hs0
  have hRP := fun w (t : ByteArray) (ht : t.data.toList = (digF s.data.toList).1) => ref01_Parse w t neg ds (by rw [ht, h1]) h2 h3 h4 (by rw [Lib.size_eq, ht]; omega)
  generalize (frac (bodyOf s.data.toList)).length = m at *
  generalize (digF s.data.toList).1 = T at *
  generalize decQ s.data.toList = Q at *
  generalize isNeg s.data.toList = ng at *
  have hone := fun (j : Nat) (h : j < s.size) => ext_one h
  have hpk := fun (j : Nat) (h : j < s.size) => peekF_at (s := s) h
  generalize s.data.toList = L at *
  have HP := Lib.hid hP
  have HRP := Lib.hid hRP
  have HCF := Lib.hid hcf
  have HE45 := Lib.hid e45
  have HZ := Lib.hid hz
  have HONE := Lib.hid hone
  have HPK := Lib.hid hpk
  clear hP hRP hcf e45 hz hone hpk hPl h h1 h2 h3 h4 h5 h6 h7 h9
  have hm0 : (0 : Int) ≤ (m : Int) := by omega
  go_enter Tryz.func41, Tryz.ntmps41
  go_upto_region 1 with (fail)
  obtain ⟨w3, r, e1, e2, k3, hE⟩ := box1 w (.cells #[.bool false, .slice none 0 0, .bool false, .slice none 0 0] 55)
  rw [e1, e2]
  have hr0 : w.heap.size ≤ r := by omega
  clear e1 e2
  go_wp2_with (go_at_call 81; refine (HP.out _).mono ?_; rintro e w4 ⟨rfl, rfl⟩)
  go_loop [5, 6] (fun d i => ∃ (j : Nat) (t : ByteArray), j ≤ s.size ∧ i = .int .i64 j ∧ d = .string t ∧ t.size ≤ j ∧ Hid (t.data.toList = collF (L.take j))) (fun _ i => s.size - (intOf i).toNat)
  case atStart => exact ⟨0, ⟨#[]⟩, by omega, rfl, rfl, by simp [ByteArray.size], Lib.hid (by simp [collF])⟩
  case round =>
    obtain ⟨j, t, hj, rfl, rfl, htj, ht⟩ := hrel
    by_cases hlt : j < s.size
    · have hjl : j < L.length := by have := HZ.out; omega
      have hst := coll_step hjl
      rw [← ht.out, HPK.out j hlt] at hst
      have HST := Lib.hid hst
      clear hst
      by_cases h48 : 48 ≤ s[j].toNat
      · have g1 : decide ((48 : Int) ≤ (s[j].toNat : Int)) = true := decide_eq_true (by omega)
        by_cases h57 : s[j].toNat ≤ 57
        · have g2 : decide ((s[j].toNat : Int) ≤ 57) = true := decide_eq_true (by omega)
          have hdig : digitB s[j] = true := (digitB_iff _).2 ⟨h48, h57⟩
          by_cases ht0 : t.data.toList = []
          · have htE : (t.toList == []) = true := by rw [Lib.toList_data, ht0]; rfl
            have htE2 : t.toList = [] := by rw [Lib.toList_data, ht0]
            by_cases hc48 : s[j] = 48
            · have g3 : ((s[j].toNat : Int) != 48) = false := by rw [hc48]; rfl
              have hnx := Lib.hid (show t.data.toList = collF (L.take (j + 1)) by rw [HST.out, if_neg (by rintro ⟨_, h | h⟩; exact h ht0; exact h hc48)])
              clear ht0 hc48
              go_wp2_with (fail)
              go_round
              case rel => exact ⟨j + 1, t, by omega, by go_num, rfl, by omega, hnx⟩
              case measure => simp [intOf]; omega
            · have g3 : ((s[j].toNat : Int) != 48) = true := by have := nat_ne (n := 48) hc48 (by omega); simp; omega
              have hnx := Lib.hid (show (t ++ s.extract j (j + 1)).data.toList = collF (L.take (j + 1)) by rw [HST.out, if_pos ⟨hdig, .inr hc48⟩, ByteArray.data_append, Array.toList_append, HONE.out j hlt, HPK.out j hlt])
              clear ht0 hc48
              have hap : (t ++ s.extract j (j + 1)).size ≤ j + 1 := by
                rw [Lib.size_eq, ByteArray.data_append, Array.toList_append, List.length_append, HONE.out j hlt, ← Lib.size_eq]; simp; omega
              have hone1 : (s.extract j (j + 1)).size ≤ 1 := by rw [Lib.size_eq, HONE.out j hlt]; simp
              go_wp2_with (fail)
              go_round
              case rel => exact ⟨j + 1, _, by omega, by go_num, rfl, hap, hnx⟩
              case measure => simp [intOf]; omega
          · have htE : (t.toList == []) = false := by rw [Lib.toList_data]; simpa using ht0
            have htE2 : ¬ t.toList = [] := by rw [Lib.toList_data]; exact ht0
            have hnx := Lib.hid (show (t ++ s.extract j (j + 1)).data.toList = collF (L.take (j + 1)) by rw [HST.out, if_pos ⟨hdig, .inl ht0⟩, ByteArray.data_append, Array.toList_append, HONE.out j hlt, HPK.out j hlt])
            clear ht0
            have hap : (t ++ s.extract j (j + 1)).size ≤ j + 1 := by
              rw [Lib.size_eq, ByteArray.data_append, Array.toList_append, List.length_append, HONE.out j hlt, ← Lib.size_eq]; simp; omega
            have hone1 : (s.extract j (j + 1)).size ≤ 1 := by rw [Lib.size_eq, HONE.out j hlt]; simp
            go_wp2_with (fail)
            go_round
            case rel => exact ⟨j + 1, _, by omega, by go_num, rfl, hap, hnx⟩
            case measure => simp [intOf]; omega
        · have g2 : decide ((s[j].toNat : Int) ≤ 57) = false := decide_eq_false (by omega)
          have hdig : digitB s[j] = false := by rw [Bool.eq_false_iff]; intro h; have := (digitB_iff _).1 h; omega
          have hnx := Lib.hid (show t.data.toList = collF (L.take (j + 1)) by rw [HST.out, if_neg (by rintro ⟨h, _⟩; rw [hdig] at h; cases h)])
          clear hdig
          go_wp2_with (fail)
          go_round
          case rel => exact ⟨j + 1, t, by omega, by go_num, rfl, by omega, hnx⟩
          case measure => simp [intOf]; omega
      · have g1 : decide ((48 : Int) ≤ (s[j].toNat : Int)) = false := decide_eq_false (by omega)
        have hdig : digitB s[j] = false := by rw [Bool.eq_false_iff]; intro h; have := (digitB_iff _).1 h; omega
        have hnx := Lib.hid (show t.data.toList = collF (L.take (j + 1)) by rw [HST.out, if_neg (by rintro ⟨h, _⟩; rw [hdig] at h; cases h)])
        clear hdig
        go_wp2_with (fail)
        go_round
        case rel => exact ⟨j + 1, t, by omega, by go_num, rfl, by omega, hnx⟩
        case measure => simp [intOf]; omega
    · obtain rfl : j = s.size := by omega
      have hcl : t.data.toList = collF L := by rw [ht.out, HZ.out, List.take_length]
      have HCL := Lib.hid hcl
      clear hcl ht
      go_upto_if 48 with (fail)
      go_cut [5] (fun d w' => (∃ t1 : ByteArray, d = .string t1 ∧ t1.size ≤ 65536 ∧ Hid (t1.data.toList = if collF L = [] then [48] else collF L)) ∧ w' = w3)
      case first =>
        by_cases h0 : t.data.toList = []
        · have htE : (t.toList == []) = true := by rw [Lib.toList_data, h0]; rfl
          have htE2 : t.toList = [] := by rw [Lib.toList_data, h0]
          have htE3 : t.toList.isEmpty = true := by rw [htE2]; rfl
          have HT := Lib.hid (show (⟨#[48]⟩ : ByteArray).data.toList = if collF L = [] then [48] else collF L by rw [if_pos (by rw [← HCL.out]; exact h0)])
          clear h0
          simp only [htE3]
          go_wp2_with (fail)
          go_meet
          exact ⟨⟨_, rfl, by decide, HT⟩, rfl⟩
        · have htE : (t.toList == []) = false := by rw [Lib.toList_data]; simpa using h0
          have htE2 : ¬ t.toList = [] := by rw [Lib.toList_data]; exact h0
          have htE3 : t.toList.isEmpty = false := by cases h : t.toList with | nil => exact absurd h htE2 | cons _ _ => rfl
          have HT := Lib.hid (show t.data.toList = if collF L = [] then [48] else collF L by rw [if_neg (by rw [← HCL.out]; exact h0), HCL.out])
          clear h0
          simp only [htE3]
          go_wp2_with (fail)
          go_meet
          exact ⟨⟨_, rfl, by omega, HT⟩, rfl⟩
      case rest =>
        obtain ⟨⟨t1, rfl, ht1, HT1⟩, rfl⟩ := hcut
        clear HCL htj HONE HPK HZ
        have e45 := HE45.out
        go_upto_if 51 with (fail)
        go_cut [5] (fun d w' => (∃ t2 : ByteArray, d = .string t2 ∧ t2.size ≤ 65537 ∧ Hid (t2.data.toList = T)) ∧ w' = wc)
        case first =>
          cases ng with
          | true =>
            have HT := Lib.hid (show ((⟨#[45]⟩ : ByteArray) ++ t1).data.toList = T by rw [← HCF.out, ByteArray.data_append, Array.toList_append, HT1.out]; rfl)
            have hsz2 : ((⟨#[45]⟩ : ByteArray) ++ t1).size ≤ 65537 := by rw [ByteArray.size_append]; have : (⟨#[45]⟩ : ByteArray).size = 1 := rfl; omega
            go_wp2_with (fail)
            go_meet
            exact ⟨⟨_, rfl, hsz2, HT⟩, rfl⟩
          | false =>
            have HT := Lib.hid (show t1.data.toList = T by rw [← HCF.out, HT1.out]; rfl)
            go_wp2_with (fail)
            go_meet
            exact ⟨⟨_, rfl, by omega, HT⟩, rfl⟩
        case rest =>
          obtain ⟨⟨t2, rfl, ht2, HT2⟩, rfl⟩ := hcut
          clear HT1 HCF e45 HE45
          have HR2 := Lib.hid (fun w => HRP.out w t2 HT2.out)
          clear HRP HT2
          have hE4 := Ext.rfl' wc
          go_upto_region 15 with (go_at_call 103; refine (HR2.out _).mono ?_; rintro e w5 ⟨vx, rfl, hx, hEx⟩; obtain ⟨nx, ax, kx, cx, rfl⟩ := IsInt.form hx)
          obtain ⟨w6, p, f1, f2, k1, hE6⟩ := box1 w5 (.cells #[.bool nx, .slice ax kx cx] 53)
          rw [f1, f2]
          clear f1 f2
          have hX6 := (show Ext wc w6 by exact exttI)
          replace k3 := hX6.blk k3
          replace hE := hE.trans' hX6
          replace hx := hx.ext hE6
          clear hX6 hE6 hEx hE4 HR2 HP
          have hXr := Ext.rfl' w6
          obtain ⟨Rp0, Fp0⟩ := rules k1 0 _ rfl
          obtain ⟨Rp1, Fp1⟩ := rules k1 1 _ rfl
          obtain ⟨Rr0, Fr0⟩ := rules k3 0 _ rfl
          obtain ⟨Rr1, Fr1⟩ := rules k3 1 _ rfl
          obtain ⟨Rr2, Fr2⟩ := rules k3 2 _ rfl
          obtain ⟨Rr3, Fr3⟩ := rules k3 3 _ rfl
          go_wp2_with (first | ((go_at_call 38; refine (ref02_FromInt (ds.length / 9 + 1) _ _ _ (hx.ext (by exact exttI))).mono ?_; rintro e w7 ⟨vy, rfl, hy, hEy⟩; obtain ⟨nyn, ayn, kyn, cyn, nyd, ayd, kyd, cyd, rfl, _, _⟩ := IsRat.form hy); have hXw7 := (show Ext w6 w7 by exact exttI)) | ((go_at_call 49; refine (ref06_Power _ m (by omega)).mono ?_; rintro e w8 ⟨vq, rfl, hqq, hEq⟩; obtain ⟨nqn, aqn, kqn, cqn, nqd, aqd, kqd, cqd, rfl, _, _⟩ := IsRat.form hqq); have hXw8 := (show Ext w6 w8 by exact exttI)) | ((go_at_call 104; refine (ref02_Over (max (ds.length / 9 + 1) 3) (3 * (m + 1)) _ _ _ _ _ (hy.ext (by exact exttI)) (hqq.ext (by exact exttI)) (by omega) (ten_num m)).mono ?_; rintro e w9 ⟨vz, rfl, hz, hEz⟩; obtain ⟨nzn, azn, kzn, czn, nzd, azd, kzd, czd, rfl, _, _⟩ := IsRat.form hz); have hXw9 := (show Ext w6 w9 by exact exttI)))
          have hE9 : Ext w w9 := by exact exttI
          have k9 := hXw9.blk k3
          have hbx : Box w9 r := Box.mk k9 rfl
          have hB : But [r] w9 w9 := by exact buttI
          have hBr0 := Rr0 _ hXw9
          have hBr1 := Rr1 _ hXw9
          have hBr2 := Rr2 _ hXw9
          have hBr3 := Rr3 _ hXw9
          exact bodyPost_ret (v := .tuple #[.agg #[.bool nzn, .slice azn kzn czn, .bool nzd, .slice azd kzd czd], .int .i64 0]) (by simp [results, Tryz.results41, go_sem, hBr0, hBr1, hBr2, hBr3]) rfl ⟨_, rfl, IsRat.put4 hB (by simp) ((hz.cast hq.out).mono (by omega)), (((((hB.set _ _ rfl (by simp)).set _ _ rfl (by simp)).set _ _ rfl (by simp)).set _ _ rfl (by simp)).old hE9 (by simp; omega))⟩
end Go.Proofs.YtechjiiijiipdaaGreatDoor
namespace Go.Proofs.YtechjiiijiipdaaGreatDoor
open Go.RowKit
set_option linter.unusedSimpArgs false
set_option linter.unusedVariables false
theorem ext_cut (s : ByteArray) (k n : Nat) : (s.extract k s.size).extract 0 n = ⟨(cutF s.data.toList k (k + n)).toArray⟩ := by
  rw [cut_extract, ext_drop, cutF_drop]
theorem ext_len (s : ByteArray) (k : Nat) (h : k ≤ s.size) : (s.extract k s.size).size + k = s.size := by
  rw [Lib.size_eq, ext_drop, List.length_drop, ← Lib.size_eq]; omega
theorem name_from (s : ByteArray) (k n : Nat) (w : World) (hs : s.size ≤ 65536) (hn : runF nameB s.data.toList k = k + n) :
    Calls Tryz.prog 70 #[.string (s.extract k s.size)] w fun e w' => e = .returned (.int .i64 (n : Int)) ∧ w = w' := by
  refine (ref21_name _ w (Nat.le_trans (ext_size s k) hs)).mono ?_
  rintro e w' ⟨rfl, rfl⟩
  rw [ext_drop, runF_drop', hn, Nat.add_sub_cancel_left]
  exact ⟨rfl, rfl⟩
theorem number_from (s : ByteArray) (k m : Nat) (w : World) (hs : s.size ≤ 65536) (hm : numL (s.data.toList.drop k) = m) :
    Calls Tryz.prog 71 #[.string (s.extract k s.size)] w fun e w' => e = .returned (.int .i64 (m : Int)) ∧ w = w' := by
  refine (ref21_number _ w (Nat.le_trans (ext_size s k) hs)).mono ?_
  rintro e w' ⟨rfl, rfl⟩
  rw [ext_drop, hm]
  exact ⟨rfl, rfl⟩
theorem peek_ext (s : ByteArray) (k m : Nat) (h : m < (s.extract k s.size).size) : (s.extract k s.size)[m] = peekF s.data.toList (k + m) := by
  rw [← peekF_at h, ext_drop, peekF_drop]
attribute [local irreducible] IsInt U32s Dig Norm Own IsRat AllD dec digF isDec decQ stepF lexF tokF runF peekF numF numL letterB digitB nameB symB symI cutF OwnT Toks
set_option maxRecDepth 100000 in
set_option maxHeartbeats 8000000 in
theorem ref21_Tokens (s : ByteArray) (w : World) (hs : s.size ≤ 65536) :
    Calls Tryz.prog 15 #[.string s] w fun e w' => ∃ v, e = .returned (.tuple #[v, .int .i64 ((tokF s.data.toList).2.1 : Nat), .int .i64 ((tokF s.data.toList).2.2 : Nat)]) ∧ Toks w' v (tokF s.data.toList).1 ∧ Ext w w' := by
  have hz := Lib.size_eq s
  have hT : Hid (tokF s.data.toList = lexF s.data.toList (s.data.toList.length + 1) 0 []) := by
    refine Lib.hid ?_
    unfold tokF; rw [if_neg (by omega)]
  have HZ := Lib.hid hz
  clear hz
  generalize tokF s.data.toList = R at *
  have hsI : ¬ (65536 : Int) < (s.size : Int) := by omega
  go_enter Tryz.func15, Tryz.ntmps15
  go_wp2_with (first | fail)
  go_loopw [5, 6] (fun o a w' => ∃ (k f : Nat) (ts : List Tok), a = .int .i64 k ∧ k ≤ s.size ∧ s.size < k + f ∧ ts.length ≤ k ∧ OwnT 85 w.heap.size w' o ts ∧ Hid (R = lexF s.data.toList f k ts) ∧ Ext w w') (fun _ a _ => s.size - (intOf a).toNat)
  case atStart => exact ⟨0, s.data.toList.length + 1, [], rfl, by omega, by have := HZ.out; omega, by simp, OwnT.nil _ _ _, hT, Ext.rfl' w⟩
  case round =>
    clear hT
    obtain ⟨k, f, ts, rfl, hk, hf, htl, hown, hR, hE⟩ := hrel
    obtain ⟨f, rfl⟩ : ∃ g, f = g + 1 := ⟨f - 1, by omega⟩
    by_cases hlt : k < s.size
    · have hp := peekF_at hlt
      by_cases h35 : s[k] = 35
      · have e35 : ((s[k].toNat : Int) != 35) = false := by rw [h35]; rfl
        have hst : Hid (stepF s.data.toList k = .stop) := by
          refine Lib.hid ?_
          unfold stepF; rw [hp, if_pos (.inr h35)]
        clear hp h35
        go_wp2_with (first | fail)
        go_ret3
        have e : R = (ts, 0, 0) := by rw [hR.out]; simp only [lexF, hst.out]
        exact ⟨_, by rw [e]; rfl, by rw [e]; exact hown.toks (by omega), hE⟩
      · have e35 : ((s[k].toNat : Int) != 35) = true := by
          have : s[k].toNat ≠ 35 := fun h => h35 (UInt8.toNat_inj.1 h)
          simp; omega
        have hsf := stepF_at hlt h35
        have hrl := ext_len s k (by omega)
        by_cases h32 : s[k] = 32
        · have e32 : ((s[k].toNat : Int) == 32) = true := by rw [h32]; rfl
          have hst : Hid (stepF s.data.toList k = .skip (k + 1)) := Lib.hid (by rw [hsf, if_pos h32])
          clear hp hsf h32 h35
          go_wp2_with (first | fail)
          go_roundw
          case rel => exact ⟨k + 1, f, ts, by go_num, by omega, by omega, by omega, hown, Lib.hid (by rw [hR.out]; simp only [lexF, hst.out]), hE⟩
          case measure => simp [intOf]; omega
        · have e32 : ((s[k].toNat : Int) == 32) = false := by
            have : s[k].toNat ≠ 32 := fun h => h32 (UInt8.toNat_inj.1 h)
            simp; omega
          rw [if_neg h32] at hsf
          clear h32 h35
          have hxc := ext_cut s k
          by_cases hL : letterB s[k] = true
          · rw [if_pos hL] at hsf
            have HL := Lib.hid hL
            have hrg := runF_ge nameB s.data.toList k
            have hre := runF_le (p := nameB) (l := s.data.toList) (k := k) (by have := HZ.out; omega)
            rw [← HZ.out] at hre
            obtain ⟨n, hn⟩ : ∃ n, runF nameB s.data.toList k = k + n := ⟨runF nameB s.data.toList k - k, by omega⟩
            have HN := Lib.hid (fun w => name_from s k n w hs hn)
            rw [hn, Nat.add_sub_cancel_left] at hsf
            rw [hn] at hre
            have hrz : n ≤ (s.extract k s.size).size := by omega
            have hcut := Lib.hid (hxc n)
            clear hL hp hrg hn hxc
            go_upto_region 9 with (first | fail)
            generalize s.extract k s.size = r at *
            by_cases h24 : 24 < n
            · rw [if_pos h24] at hsf
              have hst := Lib.hid hsf
              have g24 : decide ((24 : Int) < (n : Int)) = true := by simp; omega
              clear hsf
              go_wp2_with (first | (go_at_call 69; refine (ref21_letter _ _).mono ?_; rintro e w' ⟨rfl, rfl⟩; rw [HL.out]) | (go_at_call 70; refine (HN.out _).mono ?_; rintro e w' ⟨rfl, rfl⟩))
              go_ret3
              have e : R = ([], k, 3) := by rw [hR.out]; simp only [lexF, hst.out]
              exact ⟨_, by rw [e]; rfl, by rw [e]; exact Toks.nil _, by exact exttI⟩
            · rw [if_neg h24] at hsf
              have hst := Lib.hid hsf
              have g24 : decide ((24 : Int) < (n : Int)) = false := by simp; omega
              have hlt' := (stepF_next (.inr ⟨1, hsf⟩)).1
              clear hsf
              go_wp2_with (first | (go_at_call 69; refine (ref21_letter _ _).mono ?_; rintro e w' ⟨rfl, rfl⟩; rw [HL.out]) | (go_at_call 70; refine (HN.out _).mono ?_; rintro e w' ⟨rfl, rfl⟩) | (at_builtin; refine wpList_appT_ref rfl _ _ rfl (l := ts) ⟨1, k, cutF s.data.toList k (k + n)⟩ rfl rfl hown rfl rfl hcut.out (by omega) (by exact hE.size) ?_; intro v' w' hown' hg'))
              go_roundw
              case rel => exact ⟨k + n, f, _, by first | rfl | go_num, by omega, by omega, by rw [List.length_append]; simp; omega, hown', Lib.hid (by rw [hR.out]; simp only [lexF, hst.out]), (hE.alloc' _).grown' hg' hown.block⟩
              case measure => simp [intOf]; omega
          · rw [if_neg hL] at hsf
            have HL := Lib.hid (Bool.eq_false_iff.2 hL)
            clear hL
            obtain ⟨nb, hnb⟩ : ∃ nb : Bool, (digitB s[k] || (decide (s[k] = 45) && digitB (peekF s.data.toList (k + 1)))) = nb := ⟨_, rfl⟩
            rw [hnb] at hsf
            have hge := @numF_gt s.data.toList k
            rw [hp, hnb] at hge
            obtain ⟨np1, np2⟩ := numL_pos (l := s.data.toList.drop k) (by rw [List.length_drop]; have := HZ.out; omega)
            rw [peekF_drop, peekF_drop, Nat.add_zero, hp, hnb] at np1
            have hfd := numF_drop s.data.toList k
            obtain ⟨m, hm⟩ : ∃ m, numL (s.data.toList.drop k) = m := ⟨_, rfl⟩
            have HNM := Lib.hid (fun w => number_from s k m w hs hm)
            rw [hm] at np1 np2
            have hel := numF_le (l := s.data.toList) (k := k) (by have := HZ.out; omega)
            rw [← HZ.out] at hel
            have hpx := peek_ext s k
            clear hm hp hnb
            go_upto_region 9 with (first | fail)
            cases nb with
            | true =>
              have hm0 : 0 < m := by simpa using np1
              have hme : numF s.data.toList k = k + m := by have := np2 hm0; omega
              rw [if_pos rfl, hme] at hsf
              rw [hme] at hel
              have hcut := Lib.hid (hxc m)
              have hdd : ((s.extract k s.size).extract 0 m).data.toList = cutF s.data.toList k (k + m) := by rw [hcut.out]
              have hesz : ((s.extract k s.size).extract 0 m).size ≤ 4000000000 := by
                rw [Lib.size_eq, hdd]
                have : (cutF s.data.toList k (k + m)).length ≤ s.data.toList.length := by unfold cutF; simp; omega
                have := HZ.out; omega
              have hpx2 := hpx m
              clear hxc np1 np2 hge hfd hme hpx
              generalize s.extract k s.size = r at *
              have hrz : m ≤ r.size := by omega
              have hmI : (0 : Int) < (m : Int) := by omega
              by_cases hD : isDec (cutF s.data.toList k (k + m)) = false
              · rw [if_pos hD] at hsf
                have hst := Lib.hid hsf
                have hP := Lib.hid (fun w => ref06_Parse_no (r.extract 0 m) w hesz (by rw [hdd]; exact hD))
                clear hsf hD hdd hesz hpx2
                go_wp2_with (first | (go_at_call 69; refine (ref21_letter _ _).mono ?_; rintro e w' ⟨rfl, rfl⟩; rw [HL.out]) | (go_at_call 71; refine (HNM.out _).mono ?_; rintro e w' ⟨rfl, rfl⟩) | (go_at_call 41; refine (hP.out _).mono ?_; rintro e w5 ⟨rfl, hE5⟩))
                go_ret3
                have e : R = ([], k, 2) := by rw [hR.out]; simp only [lexF, hst.out]
                exact ⟨_, by rw [e]; rfl, by rw [e]; exact Toks.nil _, by exact exttI⟩
              · rw [if_neg hD] at hsf
                have hP := Lib.hid (fun w => ref06_Parse_ok (r.extract 0 m) w hesz (by rw [hdd]; simpa using hD))
                clear hD hdd hesz
                go_upto_region 18 with (first | (go_at_call 69; refine (ref21_letter _ _).mono ?_; rintro e w' ⟨rfl, rfl⟩; rw [HL.out]) | (go_at_call 71; refine (HNM.out _).mono ?_; rintro e w' ⟨rfl, rfl⟩) | (go_at_call 41; refine (hP.out _).mono ?_; rintro e w5 ⟨vx, rfl, hx, hE5⟩; obtain ⟨nxn, axn, kxn, cxn, nxd, axd, kxd, cxd, rfl, _, _⟩ := IsRat.form hx))
                obtain ⟨w6, p, f1, f2, _, hE6⟩ := box1 w5 (.cells #[.bool nxn, .slice axn kxn cxn, .bool nxd, .slice axd kxd cxd] 55)
                rw [f1, f2]
                replace hown := hown.ext (show Ext wr w6 by exact exttI)
                replace hE : Ext w w6 := by exact exttI
                clear f1 f2 hE5 hE6 hP hx
                by_cases hmr : m < r.size
                · have hpc := hpx2 hmr
                  generalize peekF s.data.toList (k + m) = pc at *
                  obtain ⟨lb, hlb⟩ : ∃ lb : Bool, letterB pc = lb := ⟨_, rfl⟩
                  rw [hlb] at hsf
                  have HLB := Lib.hid hlb
                  have HPC := Lib.hid hpc
                  clear hlb hpx2
                  cases lb with
                  | true =>
                    have hst := Lib.hid (hsf.trans (if_pos (by simp)))
                    clear hsf hpc
                    go_wp2_with (first | (go_at_call 69; refine (ref21_letter _ _).mono ?_; rintro e w' ⟨rfl, rfl⟩; rw [HPC.out, HLB.out]))
                    go_ret3
                    have e : R = ([], k + m, 2) := by rw [hR.out]; simp only [lexF, hst.out]
                    exact ⟨_, by rw [e]; first | rfl | go_num, by rw [e]; exact Toks.nil _, by exact exttI⟩
                  | false =>
                    by_cases h95 : pc = 95
                    · have e95 : ((r[m].toNat : Int) == 95) = true := by rw [hpc, h95]; rfl
                      have hst := Lib.hid (hsf.trans (if_pos (by simp [h95])))
                      clear hsf h95 hpc
                      go_wp2_with (first | (go_at_call 69; refine (ref21_letter _ _).mono ?_; rintro e w' ⟨rfl, rfl⟩; rw [HPC.out, HLB.out]))
                      go_ret3
                      have e : R = ([], k + m, 2) := by rw [hR.out]; simp only [lexF, hst.out]
                      exact ⟨_, by rw [e]; first | rfl | go_num, by rw [e]; exact Toks.nil _, by exact exttI⟩
                    · have e95 : ((r[m].toNat : Int) == 95) = false := by
                        have : pc.toNat ≠ 95 := fun h => h95 (UInt8.toNat_inj.1 h)
                        rw [hpc]; simp; omega
                      by_cases h46 : pc = 46
                      · have e46 : ((r[m].toNat : Int) == 46) = true := by rw [hpc, h46]; rfl
                        have hst := Lib.hid (hsf.trans (if_pos (by simp [h46])))
                        clear hsf h95 h46 hpc
                        go_wp2_with (first | (go_at_call 69; refine (ref21_letter _ _).mono ?_; rintro e w' ⟨rfl, rfl⟩; rw [HPC.out, HLB.out]))
                        go_ret3
                        have e : R = ([], k + m, 2) := by rw [hR.out]; simp only [lexF, hst.out]
                        exact ⟨_, by rw [e]; first | rfl | go_num, by rw [e]; exact Toks.nil _, by exact exttI⟩
                      · have e46 : ((r[m].toNat : Int) == 46) = false := by
                          have : pc.toNat ≠ 46 := fun h => h46 (UInt8.toNat_inj.1 h)
                          rw [hpc]; simp; omega
                        have hst := Lib.hid (hsf.trans (if_neg (by simp [h95, h46])))
                        clear hsf h95 h46 hpc
                        go_wp2_with (first | (go_at_call 69; refine (ref21_letter _ _).mono ?_; rintro e w' ⟨rfl, rfl⟩; rw [HPC.out, HLB.out]) | (at_builtin; refine wpList_appT_ref rfl _ _ rfl (l := ts) ⟨2, k, cutF s.data.toList k (k + m)⟩ rfl rfl hown rfl rfl hcut.out (by omega) (by exact hE.size) ?_; intro v' w' hown' hg'))
                        go_roundw
                        case rel => exact ⟨k + m, f, _, by first | rfl | go_num, by omega, by omega, by rw [List.length_append]; simp; omega, hown', Lib.hid (by rw [hR.out]; simp only [lexF, hst.out]), (hE.alloc' _).grown' hg' hown.block⟩
                        case measure => simp [intOf]; omega
                · have hpe : peekF s.data.toList (k + m) = 0 := peekF_len (by have := HZ.out; omega)
                  rw [hpe] at hsf
                  have hst := Lib.hid (hsf.trans (if_neg (by unfold letterB; decide)))
                  clear hsf hpe hpx2
                  go_wp2_with (first | (at_builtin; refine wpList_appT_ref rfl _ _ rfl (l := ts) ⟨2, k, cutF s.data.toList k (k + m)⟩ rfl rfl hown rfl rfl hcut.out (by omega) (by exact hE.size) ?_; intro v' w' hown' hg'))
                  go_roundw
                  case rel => exact ⟨k + m, f, _, by first | rfl | go_num, by omega, by omega, by rw [List.length_append]; simp; omega, hown', Lib.hid (by rw [hR.out]; simp only [lexF, hst.out]), (hE.alloc' _).grown' hg' hown.block⟩
                  case measure => simp [intOf]; omega
            | false =>
              have hm0 : m = 0 := by simpa using np1
              subst hm0
              rw [if_neg (by simp)] at hsf
              have hcut := Lib.hid (hxc 1)
              clear hxc np1 np2 hge hfd hel hpx
              generalize s.extract k s.size = r at *
              have hrz : 1 ≤ r.size := by omega
              by_cases hS : symB s[k] = true
              · rw [if_pos hS] at hsf
                have hst := Lib.hid hsf
                have HS := Lib.hid hS
                clear hsf hS
                go_wp2_with (first | (go_at_call 69; refine (ref21_letter _ _).mono ?_; rintro e w' ⟨rfl, rfl⟩; rw [HL.out]) | (go_at_call 71; refine (HNM.out _).mono ?_; rintro e w' ⟨rfl, rfl⟩) | (go_at_call 72; refine (ref21_symbol _ _).mono ?_; rintro e w' ⟨rfl, rfl⟩; rw [HS.out]) | (at_builtin; refine wpList_appT_ref rfl _ _ rfl (l := ts) ⟨3, k, cutF s.data.toList k (k + 1)⟩ rfl rfl hown rfl rfl hcut.out (by omega) (by exact hE.size) ?_; intro v' w' hown' hg'))
                go_roundw
                case rel => exact ⟨k + 1, f, _, by first | rfl | go_num, by omega, by omega, by rw [List.length_append]; simp; omega, hown', Lib.hid (by rw [hR.out]; simp only [lexF, hst.out]), (hE.alloc' _).grown' hg' hown.block⟩
                case measure => simp [intOf]; omega
              · rw [if_neg hS] at hsf
                have hst := Lib.hid hsf
                have HS := Lib.hid (Bool.eq_false_iff.2 hS)
                clear hsf hS
                go_wp2_with (first | (go_at_call 69; refine (ref21_letter _ _).mono ?_; rintro e w' ⟨rfl, rfl⟩; rw [HL.out]) | (go_at_call 71; refine (HNM.out _).mono ?_; rintro e w' ⟨rfl, rfl⟩) | (go_at_call 72; refine (ref21_symbol _ _).mono ?_; rintro e w' ⟨rfl, rfl⟩; rw [HS.out]))
                go_ret3
                have e : R = ([], k, 2) := by rw [hR.out]; simp only [lexF, hst.out]
                exact ⟨_, by rw [e]; rfl, by rw [e]; exact Toks.nil _, by exact exttI⟩
    · have hst : Hid (stepF s.data.toList k = .stop) := by
        refine Lib.hid ?_
        unfold stepF; rw [if_pos (.inl (by have := HZ.out; omega))]
      go_wp2_with (first | fail)
      go_ret3
      have e : R = (ts, 0, 0) := by rw [hR.out]; simp only [lexF, hst.out]
      exact ⟨_, by rw [e]; rfl, by rw [e]; exact hown.toks (by omega), hE⟩
end Go.Proofs.YtechjiiijiipdaaGreatDoor

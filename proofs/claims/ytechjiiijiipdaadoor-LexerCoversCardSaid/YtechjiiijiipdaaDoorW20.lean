/- Walk: decimal.Parse. -/
import Derived.Test.YtechjiiijiipdaaDoorW19
namespace Go.Proofs.YtechjiiijiipdaaDoor
open Go.RowKit
set_option linter.unusedSimpArgs false
set_option linter.unusedVariables false

theorem digs_iff (c : UInt8) : digs.contains c = true ↔ 48 ≤ c.toNat ∧ c.toNat ≤ 57 := by
  simp [digs, ← UInt8.toNat_inj]
  omega
theorem plainB_iff (l : List UInt8) : plainB l = true ↔ l ≠ [] ∧ AllD l := by
  unfold plainB AllD
  rw [Bool.and_eq_true, List.all_eq_true]
  constructor
  · rintro ⟨h1, h2⟩
    exact ⟨by rintro rfl; simp at h1, fun c hc => (digs_iff c).1 (h2 c hc)⟩
  · rintro ⟨h1, h2⟩
    exact ⟨by cases l with | nil => exact absurd rfl h1 | cons _ _ => rfl, fun c hc => (digs_iff c).2 (h2 c hc)⟩
theorem dec_drop0 : ∀ l : List UInt8, dec (l.dropWhile (· == 48)) = dec l
  | [] => rfl
  | c :: l => by
    rw [List.dropWhile_cons]
    by_cases h : c = 48
    · subst h
      simp only [beq_self_eq_true, if_true]
      rw [dec_drop0 l, dec_cons]; simp
    · simp [h]
theorem drop0_head : ∀ {l : List UInt8}, (l.dropWhile (· == 48)).head? ≠ some 48
  | [] => by simp
  | c :: l => by
    rw [List.dropWhile_cons]
    by_cases h : c = 48
    · simp only [h, beq_self_eq_true, if_true]; exact drop0_head (l := l)
    · simp [h]
theorem frac_undotted {l : List UInt8} (h : dotted l = false) : frac l = [] := by
  rcases index_dot l with ⟨_, _, h3, _⟩ | ⟨_, _, _, _, _, h4⟩
  · exact h3
  · rw [h] at h4; cases h4
theorem parts_le (l : List UInt8) : (whole l).length + (frac l).length ≤ l.length := by
  rcases index_dot l with ⟨_, h2, h3, _⟩ | ⟨o, h0, _, h2, h3, _⟩
  · rw [h2, h3]; simp
  · rw [h2, h3]; simp; omega
theorem body_sig (l : List UInt8) : l = sig (isNeg l) (bodyOf l) := by
  cases l with
  | nil => rfl
  | cons c l =>
    by_cases hc : c = 45
    · subst hc; simp [isNeg, bodyOf, sig]
    · have e1 : bodyOf (c :: l) = c :: l := by unfold bodyOf; split <;> simp_all
      have e2 : isNeg (c :: l) = false := by simp [isNeg, hc]
      rw [e1, e2]; rfl
theorem sig_len (b : Bool) (l : List UInt8) : (sig b l).length = l.length + (if b then 1 else 0) := by cases b <;> simp [sig]
/-- Is l a decimal text? -/
def isDec (l : List UInt8) : Bool := (digF l).2.2
/-- The number of a decimal text. -/
def decQ (l : List UInt8) : Rat := Rat.divInt (sgn (isNeg l) (dec (whole (bodyOf l) ++ frac (bodyOf l)))) ((10 ^ (frac (bodyOf l)).length : Nat) : Int)
theorem digF_ok {l : List UInt8} (h : isDec l = true) : ∃ (neg : Bool) (ds : List UInt8), (digF l).1 = sig neg ds ∧ AllD ds ∧ ds ≠ [] ∧ (ds.head? = some 48 → ds = [48] ∧ neg = false) ∧ l.length ≤ 65536 ∧
    (digF l).1.length ≤ l.length ∧ (digF l).2.1 = (frac (bodyOf l)).length ∧ (digF l).2.1 ≤ 30 ∧ sgn neg (dec ds) = sgn (isNeg l) (dec (whole (bodyOf l) ++ frac (bodyOf l))) := by
  unfold isDec digF at h
  unfold digF
  by_cases h1 : l.length ≤ 65536 ∧ okD l = true
  · rw [if_pos h1] at h ⊢
    obtain ⟨hlen, hok⟩ := h1
    have hl := congrArg List.length (body_sig l)
    rw [sig_len] at hl
    have hp := parts_le (bodyOf l)
    unfold okD at hok
    simp only [Bool.and_eq_true, Bool.or_eq_true, Bool.not_eq_true', decide_eq_true_eq] at hok
    obtain ⟨⟨hpw, _⟩, hd⟩ := hok
    obtain ⟨hw0, hwd⟩ := (plainB_iff _).1 hpw
    have hfd : AllD (frac (bodyOf l)) ∧ (frac (bodyOf l)).length ≤ 30 := by
      rcases hd with hd | ⟨hd, h30⟩
      · rw [frac_undotted hd]; exact ⟨by simp [AllD], by simp⟩
      · exact ⟨((plainB_iff _).1 hd).2, h30⟩
    have hwl := List.length_pos_iff.2 hw0
    have hall : AllD (whole (bodyOf l) ++ frac (bodyOf l)) := AllD.append.2 ⟨hwd, hfd.1⟩
    have hdz := dec_drop0 (whole (bodyOf l) ++ frac (bodyOf l))
    by_cases hz : allD l = []
    · rw [if_pos hz] at h ⊢
      unfold allD at hz
      rw [hz] at hdz
      have hn : isNeg l = false := by simpa using h
      refine ⟨false, [48], rfl, by simp [AllD], by simp, fun _ => ⟨rfl, rfl⟩, hlen, ?_, rfl, hfd.2, ?_⟩
      · simp only [List.length_singleton]; omega
      · rw [hn, ← hdz]; rfl
    · rw [if_neg hz] at h ⊢
      unfold allD at hz ⊢
      have hle : ((whole (bodyOf l) ++ frac (bodyOf l)).dropWhile (· == 48)).length ≤ (whole (bodyOf l)).length + (frac (bodyOf l)).length := by
        have := (List.dropWhile_suffix (l := whole (bodyOf l) ++ frac (bodyOf l)) (· == 48)).length_le
        rwa [List.length_append] at this
      refine ⟨isNeg l, _, rfl, fun c hc => hall c ((List.dropWhile_suffix _).mem hc), hz, fun h => absurd h drop0_head, hlen, ?_, rfl, hfd.2, by rw [hdz]⟩
      · show (sig _ _).length ≤ _
        rw [sig_len]; omega
  · rw [if_neg h1] at h; cases h
attribute [local irreducible] IsInt U32s Dig Norm Own IsRat AllD dec digF isDec decQ
set_option maxRecDepth 100000 in
set_option maxHeartbeats 2000000 in
theorem decimal_Parse_ok (s : ByteArray) (w : World) (hs : s.size ≤ 4000000000) (h : isDec s.data.toList = true) :
    Calls Tryd.prog 23 #[.string s] w fun e w' => ∃ v, e = .returned (.tuple #[v, .int .i64 0]) ∧ IsRat (s.size / 9 + 100) w' v (decQ s.data.toList) ∧ Ext w w' := by
  obtain ⟨neg, ds, h1, h2, h3, h4, h5, h6, h7, h8, h9⟩ := digF_ok h
  have hD := decimal_digits s
  have hsz := Lib.size_eq s
  unfold isDec at h
  rw [h] at hD
  have hP := fun w => integer_Parse w ⟨(digF s.data.toList).1.toArray⟩ neg ds (by rw [ba_toList, h1]) h2 h3 h4 (by simp only [ByteArray.size, List.size_toArray]; omega)
  have hdl : ds.length ≤ s.size := by rw [h1, sig_len] at h6; omega
  have hq : Hid (Rat.divInt (sgn neg (dec ds)) ((10 ^ (digF s.data.toList).2.1 : Nat) : Int) = decQ s.data.toList) := by
    refine Lib.hid ?_
    unfold decQ
    rw [h7, h9]
  generalize (digF s.data.toList).1 = t at *
  generalize (digF s.data.toList).2.1 = m at *
  generalize (⟨t.toArray⟩ : ByteArray) = tb at *
  have HD := Lib.hid (fun w => hD w hs)
  have HP := Lib.hid hP
  clear h1 h2 h3 h4 h6 h7 h9 hD hP h
  rw [← hsz] at h5
  clear hsz
  go_enter Tryd.func23, Tryd.ntmps23
  go_upto_region 1 with (fail)
  obtain ⟨w3, r, e1, e2, k3, hE⟩ := box1 w (.cells #[.bool false, .slice none 0 0, .bool false, .slice none 0 0] 38)
  rw [e1, e2]
  have hr0 : w.heap.size ≤ r := by omega
  clear e1 e2
  go_upto_region 5 with (first | (go_at_call 35; refine (HD.out _).mono ?_; rintro e w4 ⟨rfl, hE4⟩) | (go_at_call 36; refine (HP.out _).mono ?_; rintro e w5 ⟨vx, rfl, hx, hEx⟩; obtain ⟨nx, ax, kx, cx, rfl⟩ := IsInt.form hx))
  obtain ⟨w6, p, f1, f2, k1, hE6⟩ := box1 w5 (.cells #[.bool nx, .slice ax kx cx] 36)
  rw [f1, f2]
  clear f1 f2
  have hX6 := (show Ext w3 w6 by exact exttI)
  replace k3 := hX6.blk k3
  replace hE := hE.trans' hX6
  replace hx := hx.ext hE6
  clear hX6 hE6 hEx hE4 HD HP
  go_upto_region 7 with (fail)
  obtain ⟨Rp0, Fp0⟩ := rules k1 0 _ rfl
  obtain ⟨Rp1, Fp1⟩ := rules k1 1 _ rfl
  obtain ⟨Rr0, Fr0⟩ := rules k3 0 _ rfl
  obtain ⟨Rr1, Fr1⟩ := rules k3 1 _ rfl
  obtain ⟨Rr2, Fr2⟩ := rules k3 2 _ rfl
  obtain ⟨Rr3, Fr3⟩ := rules k3 3 _ rfl
  (refine wp_region_noPanic ?_; refine wp_region_head 6 (fun w' => Ext w6 w') (by kernel_rfl) (by kernel_rfl) ?_ (fun hHeld => ?_); (focus (show Ext _ _; exact exttI)); (try simp only [List.size_toArray, List.length_cons, List.length_nil]))
  (refine wpHead_take 0 (by kernel_rfl) (fun _ _ _ _ _ h => h) (by assumption) ?_; simp only [atOp]; refine ⟨by rfl, ?_, ?_, ?_⟩; rotate_left; (focus (intro w' hSw; (try dsimp only at hSw); go_simp; (try with_reducible rfl))); (try simp only [Act.put, List.setIfInBounds_toArray, List.set_cons_zero, List.set_cons_succ]))
  (refine wpHead_take 1 (by kernel_rfl) (fun _ _ _ _ _ h => h) (by assumption) ?_; simp only [atOp]; refine ⟨by rfl, ?_, ?_, ?_⟩; rotate_left; (focus (intro w' hSw; (try dsimp only at hSw); go_simp; (try with_reducible rfl))); (try simp only [Act.put, List.setIfInBounds_toArray, List.set_cons_zero, List.set_cons_succ]))
  (refine wpHead_only 2 (by kernel_rfl) ?_; simp only [atOp]; intro K hK; go_simp; ((go_at_call 38; refine (decimal_power _ m (by omega)).mono ?_; rintro e w7 ⟨vy, rfl, hy, hEy⟩; obtain ⟨ny, ay, ky, cy, rfl⟩ := IsInt.form hy); have hXw7 := (show Ext w6 w7 by exact exttI)); refine hK.out _ _ ?_ (fun hHeld => ?_); (focus (show Ext _ _; exact exttI)); clear hK K; (try simp only [Act.put, List.setIfInBounds_toArray, List.set_cons_zero, List.set_cons_succ]))
  (refine wpHead_only 3 (by kernel_rfl) ?_; simp only [atOp]; intro K hK; go_simp; ((go_at_call 37; refine (rational_Make (s.size / 9 + 100) _ _ _ _ _ ((hx.ext (by exact exttI)).mono (by omega)) ((hy.ext (by exact exttI)).mono (by omega)) (by omega) (by have := Nat.pow_pos (n := m) (show 0 < 10 by omega); omega)).mono ?_; rintro e w8 ⟨vz, rfl, hz, hEz⟩; obtain ⟨nzn, azn, kzn, czn, nzd, azd, kzd, czd, rfl, _, _⟩ := IsRat.form hz); have hXw8 := (show Ext w6 w8 by exact exttI)); refine hK.out _ _ ?_ (fun hHeld => ?_); (focus (show Ext _ _; exact exttI)); clear hK K; (try simp only [Act.put, List.setIfInBounds_toArray, List.set_cons_zero, List.set_cons_succ]))
  (refine wpHead_take 4 (by kernel_rfl) (fun _ _ _ _ _ h => h) (by assumption) ?_; simp only [atOp]; refine ⟨by rfl, ?_, ?_, ?_⟩; rotate_left; (focus (intro w' hSw; (try dsimp only at hSw); go_simp; (try with_reducible rfl))); (try simp only [Act.put, List.setIfInBounds_toArray, List.set_cons_zero, List.set_cons_succ]))
  (refine wpHead_take 5 (by kernel_rfl) (fun _ _ _ _ _ h => h) (by assumption) ?_; simp only [atOp]; refine ⟨by rfl, ?_, ?_, ?_⟩; rotate_left; (focus (intro w' hSw; (try dsimp only at hSw); go_simp; (try with_reducible rfl))); (try simp only [Act.put, List.setIfInBounds_toArray, List.set_cons_zero, List.set_cons_succ]))
  (refine wpHead_done (by kernel_rfl) ?_; simp only [List.drop_succ_cons, List.drop_zero])
  have hE9 : Ext w w8 := by exact exttI
  have k9 := hXw8.blk k3
  have hbx : Box w8 r := Box.mk k9 rfl
  have hB : But [r] w8 w8 := by exact buttI
  have hBr0 := Rr0 _ hXw8
  have hBr1 := Rr1 _ hXw8
  have hBr2 := Rr2 _ hXw8
  have hBr3 := Rr3 _ hXw8
  have hF0 := Fr0 _ hXw8
  have hF1 := Fr1 _ hXw8
  have hF2 := Fr2 _ hXw8
  have hF3 := Fr3 _ hXw8
  go_wp2_with fail
  refine NoPanic.normal ?_
  go_wp2_with fail
  exact bodyPost_ret (v := .tuple #[.agg #[.bool nzn, .slice azn kzn czn, .bool nzd, .slice azd kzd czd], .int .i64 0]) (by simp [results, Tryd.results23, go_sem, hBr0, hBr1, hBr2, hBr3]) rfl ⟨_, rfl, IsRat.put4 hB (by simp) (hz.cast hq.out), (((((hB.set _ _ rfl (by simp)).set _ _ rfl (by simp)).set _ _ rfl (by simp)).set _ _ rfl (by simp)).old hE9 (by simp; omega))⟩

set_option maxRecDepth 100000 in
set_option maxHeartbeats 2000000 in
theorem decimal_Parse_no (s : ByteArray) (w : World) (hs : s.size ≤ 4000000000) (h : isDec s.data.toList = false) :
    Calls Tryd.prog 23 #[.string s] w fun e w' => e = .returned (.tuple #[.agg #[.bool false, .slice none 0 0, .bool false, .slice none 0 0], .int .i64 2]) ∧ Ext w w' := by
  have hD := decimal_digits s
  unfold isDec at h
  rw [h] at hD
  generalize (digF s.data.toList).1 = t at *
  generalize (digF s.data.toList).2.1 = m at *
  have HD := Lib.hid (fun w => hD w hs)
  clear hD h
  go_enter Tryd.func23, Tryd.ntmps23
  go_upto_region 1 with (fail)
  obtain ⟨w3, r, e1, e2, k3, hE⟩ := box1 w (.cells #[.bool false, .slice none 0 0, .bool false, .slice none 0 0] 38)
  rw [e1, e2]
  have hr0 : w.heap.size ≤ r := by omega
  clear e1 e2
  obtain ⟨Rr0, Fr0⟩ := rules k3 0 _ rfl
  obtain ⟨Rr1, Fr1⟩ := rules k3 1 _ rfl
  obtain ⟨Rr2, Fr2⟩ := rules k3 2 _ rfl
  obtain ⟨Rr3, Fr3⟩ := rules k3 3 _ rfl
  go_wp2_with (go_at_call 35; refine (HD.out _).mono ?_; rintro e w4 ⟨rfl, hE4⟩)
  have hE9 : Ext w w4 := by exact exttI
  have k9 := hE4.blk k3
  have hbx : Box w4 r := Box.mk k9 rfl
  have hB : But [r] w4 w4 := by exact buttI
  have hBr0 := Rr0 _ hE4
  have hBr1 := Rr1 _ hE4
  have hBr2 := Rr2 _ hE4
  have hBr3 := Rr3 _ hE4
  exact bodyPost_ret (v := .tuple #[.agg #[.bool false, .slice none 0 0, .bool false, .slice none 0 0], .int .i64 2]) (by simp [results, Tryd.results23, go_sem, hBr0, hBr1, hBr2, hBr3]) rfl ⟨rfl, (((((hB.set _ _ rfl (by simp)).set _ _ rfl (by simp)).set _ _ rfl (by simp)).set _ _ rfl (by simp)).old hE9 (by simp; omega))⟩
end Go.Proofs.YtechjiiijiipdaaDoor

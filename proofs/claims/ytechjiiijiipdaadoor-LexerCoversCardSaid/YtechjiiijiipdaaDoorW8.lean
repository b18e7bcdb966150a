/- Walks: integer.split, FromInt64, Sign, Cmp, Neg. -/
import Derived.Test.YtechjiiijiipdaaDoorW7
import Derived.StillTailTactics
namespace Go.Proofs.YtechjiiijiipdaaDoor
open Go.RowKit
set_option linter.unusedSimpArgs false
set_option linter.unusedVariables false

/-- 'append([]uint32(nil), x...)'. -/
theorem step_copy32 {w : World} {ops : Array Oper} {o : Oper} {a : Act} {K : Act → World → Prop} {Q : Exit → Act → World → Prop} {E : Prop} (hgd : o.guard = none) (s x : Operand)
    (ho : o.op = .call { callee := .builtin .append, args := #[s, x], argTypes := #[34, 34] }) {v : Value} {l : List Nat}
    (hs : a.eval s = .slice none 0 0) (hx : a.eval x = v) (hl : U32s w v l)
    (h : ∀ v' w', Own w.heap.size w' v' l → Ext w w' → K (a.put o.dst v') w') :
    if Region.wanted o (yielded ops a.tmps) = true then Oper.wp Tryd.prog o a w K Q else E := by
  have hw : Region.wanted o (yielded ops a.tmps) = true := by simp [Region.wanted, hgd]
  rw [if_pos hw]
  obtain ⟨i0, hi, hz0, hz1, hz2⟩ := info_parts Tryd.info86
  obtain ⟨ad, c, rfl, hc, hb, hn, hz, hcell⟩ := hl
  cases ad with
  | none =>
    rcases hcell with rfl | ⟨b, o', h1, _⟩
    · obtain rfl := hz rfl
      have hrun := run_append_owned_none (P := Tryd.prog) (w := w) w.heap.size 34 o.type 86 i0 1 Tryd.underlying34 hi (.slice none 0 0) 0 [] (World.ownsRow_nil _ _ _ _)
      unfold Oper.wp
      simp [execOp, ho, resolve, invoke, builtin, hs, hx, hrun, Result.andThen]
      exact h _ _ (Own.nil _ _) (Ext.rfl' _)
    · cases h1
  | some ad =>
    refine wp_append_own w s x 34 ho w.heap.size 86 i0 (.int .u32 0) 1 4 Tryd.underlying34 hi hz0 hz1 hz2 rfl (by decide) _ 0 [] hs (World.ownsRow_nil _ _ _ _) ad l.length c (u32s l) hx (by rw [u32s_length]; omega) ?_ ?_ (by unfold maxLen; omega) (by omega) (Nat.le_refl _) ?_
    · intro j u hj
      have hj' : j < l.length := by
        have := (List.getElem?_eq_some_iff.1 hj).1
        rwa [u32s_length] at this
      rcases hcell with rfl | ⟨b, o', h1, _, hcell⟩
      · simp at hj'
      · obtain rfl := Option.some.inj h1
        rw [u32s_get l j hj'] at hj
        obtain rfl := Option.some.inj hj
        have e : (⟨b, o', none⟩ : Addr).add j = ⟨b, o' + j, none⟩ := by unfold Addr.add; split <;> simp_all
        rw [e]; exact hcell j hj'
    · intro u hu
      simp [u32s] at hu
      obtain ⟨n, _, rfl⟩ := hu
      exact oneCell_int _ _
    · intro v' w' h1 h2 _
      refine h v' w' ?_ ((Ext.rfl' w).grown' h2 (by simp [Value.ownBlock]))
      unfold Own
      rw [Nat.zero_add, List.nil_append] at h1
      exact h1


theorem dig3 (u : Nat) (hu : u < 18446744073709551616) : Dig [u % 1000000000, u / 1000000000 % 1000000000, u / 1000000000 / 1000000000] := by
  intro n hn
  simp at hn
  omega
theorem val3 (u : Nat) : val [u % 1000000000, u / 1000000000 % 1000000000, u / 1000000000 / 1000000000] = u := by
  simp [val]
  omega
set_option maxRecDepth 100000 in
theorem integer_split (w : World) (u : Nat) (hu : u < 18446744073709551616) :
    Calls Tryd.prog 62 #[.int .u64 (u : Int)] w fun e w' => ∃ v, e = .returned v ∧ U32s w' v [u % 1000000000, u / 1000000000 % 1000000000, u / 1000000000 / 1000000000] ∧ Ext w w' := by
  go_enter Tryd.func62, Tryd.ntmps62
  go_wp2
  go_ret
  refine ⟨_, rfl, ⟨_, 3, rfl, by simp, (dig3 u hu).u32, by simp, by simp, .inr ⟨_, 0, rfl, by simp, fun i hi => ?_⟩⟩, (Ext.rfl' w).alloc' _⟩
  match i, hi with
  | 0, _ => simp
  | 1, _ => simp
  | 2, _ => simp
  | i + 3, hi => exact absurd hi (by simp)

theorem sgn_sign_pos {l : List Nat} (h : Norm l) (hl : l ≠ []) : (sgn false (val l)).sign = 1 := by
  have := h.pos hl
  simp only [sgn]
  exact Int.sign_eq_one_of_pos (by simp; omega)
theorem sgn_sign_neg {l : List Nat} (h : Norm l) (hl : l ≠ []) : (sgn true (val l)).sign = -1 := by
  have := h.pos hl
  simp only [sgn]
  exact Int.sign_eq_neg_one_of_neg (by simp; omega)
set_option maxRecDepth 100000 in
theorem integer_Sign (n : Nat) (w : World) (va : Value) (a : Int) (ha : IsInt n w va a) :
    Calls Tryd.prog 54 #[va] w fun e w' => e = .returned (.int .i64 a.sign) ∧ Ext w w' := by
  obtain ⟨na, aa, la, ca, rfl, ua, da, nna, lna, sa, rfl, _⟩ := ha.shape
  clear ha
  go_enter Tryd.func54, Tryd.ntmps54
  cases na
  · by_cases hl : la = []
    · subst hl
      go_wp2
      go_ret
      exact ⟨rfl, (Ext.rfl' w).alloc' _⟩
    · have h0 : 0 < (la.length : Int) := by have := List.length_pos_iff.2 hl; omega
      go_wp2
      go_ret
      exact ⟨by rw [sgn_sign_pos nna hl]; rfl, (Ext.rfl' w).alloc' _⟩
  · go_wp2
    go_ret
    exact ⟨by rw [sgn_sign_neg nna (sa (by trivial))]; rfl, (Ext.rfl' w).alloc' _⟩

/-- The sign of a difference. -/
def cmpI (a b : Int) : Int := if a < b then -1 else if b < a then 1 else 0
set_option maxRecDepth 100000 in
theorem integer_Cmp (n m : Nat) (w : World) (va vb : Value) (a b : Int) (ha : IsInt n w va a) (hb : IsInt m w vb b) :
    Calls Tryd.prog 58 #[va, vb] w fun e w' => e = .returned (.int .i64 (cmpI a b)) ∧ Ext w w' := by
  obtain ⟨na, aa, la, ca, rfl, ua, da, nna, lna, sa, rfl, _⟩ := ha.shape
  obtain ⟨nb, ab, lb, cb, rfl, ub, db, nnb, lnb, sb, rfl, _⟩ := hb.shape
  clear ha hb
  have pa := fun h => nna.pos (sa h)
  have pb := fun h => nnb.pos (sb h)
  go_enter Tryd.func58, Tryd.ntmps58
  cases na <;> cases nb
  · go_wp2_with (go_at_call 74; refine (integer_compare _ _ _ la lb (ua.ext (by exact exttI)) (ub.ext (by exact exttI)) da db).mono ?_; rintro e w4 ⟨rfl, hE4⟩; replace hE4 := hE4.ext)
    go_ret
    refine ⟨?_, by exact exttI⟩
    simp [cmpI, cmpN, sgn]
  · go_wp2
    go_ret
    refine ⟨?_, by exact exttI⟩
    have := pb (by trivial)
    simp [cmpI, sgn]
    omega
  · go_wp2
    go_ret
    refine ⟨?_, by exact exttI⟩
    have := pa (by trivial)
    simp [cmpI, sgn]
    omega
  · go_wp2_with (go_at_call 74; refine (integer_compare _ _ _ lb la (ub.ext (by exact exttI)) (ua.ext (by exact exttI)) db da).mono ?_; rintro e w4 ⟨rfl, hE4⟩; replace hE4 := hE4.ext)
    go_ret
    refine ⟨?_, by exact exttI⟩
    simp [cmpI, cmpN, sgn]

set_option maxRecDepth 100000 in
theorem integer_FromInt64 (w : World) (n : Int) (h1 : -9223372036854775808 ≤ n) (h2 : n < 9223372036854775808) :
    Calls Tryd.prog 44 #[.int .i64 n] w fun e w' => ∃ v, e = .returned v ∧ IsInt 3 w' v n ∧ Ext w w' := by
  go_enter Tryd.func44, Tryd.ntmps44
  by_cases hn : n < 0
  · obtain ⟨u, rfl⟩ : ∃ u : Nat, n = -(u : Int) := ⟨n.natAbs, by omega⟩
    have hu : u < 18446744073709551616 := by omega
    have ew : IntKind.u64.wrap (-IntKind.u64.wrap (-(u : Int))) = (u : Int) := by
      simp only [IntKind.wrap, IntKind.bits, IntKind.signed]
      simp
      omega
    go_wp2_with (first | fail)
    obtain ⟨w3, r, e1, e2, h1, hE⟩ := box1 w (.cells #[.bool false, .slice none 0 0] 36)
    rw [e1, e2]
    have hge : ∀ k, k ∈ [r] → w.heap.size ≤ k := by simp; omega
    have hbxr : Box _ r := Box.mk h1 rfl
    obtain ⟨Rr0, Fr0⟩ := rulesR (rs := [r]) h1 (by simp) 0 (by simp)
    obtain ⟨Rr1, Fr1⟩ := rulesR (rs := [r]) h1 (by simp) 1 (by simp)
    (go_at_call 62; refine (integer_split _ u hu).mono ?_; rintro e w4 ⟨v3, rfl, hu3, hE3⟩)
    go_wp2_with (first | fail)
    (go_at_call 53; refine (integer_signed _ _ _ _ (by exact hu3) (by exact (dig3 u hu))).mono ?_; rintro e w5 ⟨vr, rfl, hr, hEr⟩; obtain ⟨nr, ar, lr, cr, rfl, ur, dr, nnr, lnr, sr, qr, _⟩ := IsInt.shape hr; have er := Lib.hid qr; clear qr)
    have hB : But [r] w3 w5 := by exact buttI
    have hBr0 := Rr0 _ hB
    have hBr1 := Rr1 _ hB
    have hFr0 := Fr0 _ hB
    have hFr1 := Fr1 _ hB
    go_wp2
    exact bodyPost_ret (v := .agg #[.bool nr, .slice ar lr.length cr]) (by simp [results, Tryd.results44, go_sem, Rr0 _ hB, Rr1 _ hB]) rfl ⟨_, rfl, IsInt.put (hr.cast (by rw [val3]; simp [sgn])) hB (by simp) rfl, ((hB.set _ _ rfl (by simp)).set _ _ rfl (by simp)).old hE hge⟩
  · obtain ⟨u, rfl⟩ : ∃ u : Nat, n = (u : Int) := ⟨n.natAbs, by omega⟩
    have hu : u < 18446744073709551616 := by omega
    go_wp2_with (first | fail)
    obtain ⟨w3, r, e1, e2, h1, hE⟩ := box1 w (.cells #[.bool false, .slice none 0 0] 36)
    rw [e1, e2]
    have hge : ∀ k, k ∈ [r] → w.heap.size ≤ k := by simp; omega
    have hbxr : Box _ r := Box.mk h1 rfl
    obtain ⟨Rr0, Fr0⟩ := rulesR (rs := [r]) h1 (by simp) 0 (by simp)
    obtain ⟨Rr1, Fr1⟩ := rulesR (rs := [r]) h1 (by simp) 1 (by simp)
    (go_at_call 62; refine (integer_split _ u hu).mono ?_; rintro e w4 ⟨v3, rfl, hu3, hE3⟩)
    go_wp2_with (first | fail)
    (go_at_call 53; refine (integer_signed _ _ _ _ (by exact hu3) (by exact (dig3 u hu))).mono ?_; rintro e w5 ⟨vr, rfl, hr, hEr⟩; obtain ⟨nr, ar, lr, cr, rfl, ur, dr, nnr, lnr, sr, qr, _⟩ := IsInt.shape hr; have er := Lib.hid qr; clear qr)
    have hB : But [r] w3 w5 := by exact buttI
    have hBr0 := Rr0 _ hB
    have hBr1 := Rr1 _ hB
    have hFr0 := Fr0 _ hB
    have hFr1 := Fr1 _ hB
    go_wp2
    exact bodyPost_ret (v := .agg #[.bool nr, .slice ar lr.length cr]) (by simp [results, Tryd.results44, go_sem, Rr0 _ hB, Rr1 _ hB]) rfl ⟨_, rfl, IsInt.put (hr.cast (by rw [val3]; simp [sgn])) hB (by simp) rfl, ((hB.set _ _ rfl (by simp)).set _ _ rfl (by simp)).old hE hge⟩
set_option maxRecDepth 100000 in
theorem integer_Neg (n : Nat) (w : World) (va : Value) (a : Int) (ha : IsInt n w va a) :
    Calls Tryd.prog 56 #[va] w fun e w' => ∃ v, e = .returned v ∧ IsInt n w' v (-a) ∧ Ext w w' := by
  obtain ⟨na, aa, la, ca, rfl, ua, da, nna, lna, sa, rfl, _⟩ := ha.shape
  clear ha
  go_enter Tryd.func56, Tryd.ntmps56
  go_wp2
  obtain ⟨w3, p, r, e1, e2, e3, h1, h2, hpr, hE⟩ := box2 w (.cells #[.bool na, .slice aa la.length ca] 36) (.cells #[.bool false, .slice none 0 0] 36)
  rw [e1, e2, e3]
  have hge : ∀ k, k ∈ [r] → w.heap.size ≤ k := by simp; omega
  clear e1 e2 e3
  have Rp0 := rulesB (rs := [r]) h1 (by simpa using hpr) 0 _ rfl
  have Rp1 := rulesB (rs := [r]) h1 (by simpa using hpr) 1 _ rfl
  have hbxr : Box _ r := Box.mk h2 rfl
  obtain ⟨Rr0, Fr0⟩ := rulesR (rs := [r]) h2 (by simp) 0 (by simp)
  obtain ⟨Rr1, Fr1⟩ := rulesR (rs := [r]) h2 (by simp) 1 (by simp)
  go_region_held3 (fun w' => But [r] w3 w') (exact buttI) (first | (refine step_copy32 rfl _ _ rfl rfl rfl (ua.ext (by exact exttI)) ?_; intro v' w4 hown hE4) | (go_at_call 53; refine (integer_signed _ _ _ _ (by exact ((hown.u32 da.u32 (by have := ua.shape; grind)).ext (by exact exttI))) (by exact da)).mono ?_; rintro e w5 ⟨vr, rfl, hr, hEr⟩; obtain ⟨nr, ar, lr, cr, rfl, ur, dr, nnr, lnr, sr, qr, _⟩ := IsInt.shape hr; have er := Lib.hid qr; clear qr))
  go_wp2
  have hB : But [r] w3 w5 := by exact buttI
  exact bodyPost_ret (v := .agg #[.bool nr, .slice ar lr.length cr]) (by simp [results, Tryd.results56, go_sem, Rr0 _ hB, Rr1 _ hB]) rfl ⟨_, rfl, IsInt.put ((hr.mono lna).cast (sgn_neg _ _)) hB (by simp) rfl, ((hB.set _ _ rfl (by simp)).set _ _ rfl (by simp)).old hE hge⟩
end Go.Proofs.YtechjiiijiipdaaDoor

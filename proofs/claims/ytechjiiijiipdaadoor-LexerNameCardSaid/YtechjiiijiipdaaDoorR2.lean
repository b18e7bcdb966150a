/- Walks over the reference: signed, FromInt64, Same of integers and of fractions. -/
import Derived.Test.YtechjiiijiipdaaDoorR1
import Derived.Test.YtechjiiijiipdaaDoorW16
namespace Go.Proofs.YtechjiiijiipdaaDoor
open Go.RowKit
set_option linter.unusedSimpArgs false
set_option linter.unusedVariables false
attribute [local irreducible] U32s Dig Norm Own
set_option maxRecDepth 100000 in
set_option maxHeartbeats 1000000 in
theorem ref01_signed (w : World) (neg : Bool) (v : Value) (l : List Nat) (h : U32s w v l) (hd : Dig l) :
    Calls Tryd.prog 47 #[.bool neg, v] w fun e w' => ∃ v', e = .returned v' ∧ IsInt l.length w' v' (sgn neg (val l)) ∧ Ext w w' := by
  obtain ⟨a, c, rfl, _, _⟩ := h.shape
  have htl := trimL_length_le l
  go_enter Tryd.func47, Tryd.ntmps47
  go_upto_region 1 with (fail)
  obtain ⟨w3, r, e1, e2, h3, hE⟩ := box1 w (.cells #[.bool false, .slice none 0 0] 36)
  rw [e1, e2]
  have hr0 : w.heap.size ≤ r := by omega
  clear e1 e2
  have ht := ref01_trim w3 a c l (h.ext hE)
  have HT := Lib.hid ht
  clear ht
  obtain ⟨Rr0, Fr0⟩ := rules h3 0 _ rfl
  obtain ⟨Rr1, Fr1⟩ := rules h3 1 _ rfl
  have hX3 := Ext.rfl' w3
  cases neg
  · go_wp2_with (go_at_call 64; refine HT.out.mono ?_; rintro e w' ⟨rfl, hu, rfl⟩)
    have hE9 : Ext w w3 := by exact exttI
    have k9 := hX3.blk h3
    have hbx : Box w3 r := Box.mk k9 rfl
    have hB : But [r] w3 w3 := by exact buttI
    have hBr0 := Rr0 _ hX3
    have hBr1 := Rr1 _ hX3
    exact bodyPost_ret (v := .agg #[.bool false, .slice a (trimL l).length c]) (by simp [results, Tryd.results47, go_sem, hBr0, hBr1]) rfl ⟨_, rfl, IsInt.put (IsInt.mk (neg := false) hu hd htl) hB (by simp) rfl, ((hB.set _ _ rfl (by simp)).set _ _ rfl (by simp)).old hE9 (by simp; omega)⟩
  · go_wp2_with (go_at_call 64; refine HT.out.mono ?_; rintro e w' ⟨rfl, hu, rfl⟩)
    have hE9 : Ext w w3 := by exact exttI
    have k9 := hX3.blk h3
    have hbx : Box w3 r := Box.mk k9 rfl
    have hB : But [r] w3 w3 := by exact buttI
    have hBr0 := Rr0 _ hX3
    have hBr1 := Rr1 _ hX3
    exact bodyPost_ret (v := .agg #[.bool (decide (0 < (trimL l).length)), .slice a (trimL l).length c]) (by simp [results, Tryd.results47, go_sem, hBr0, hBr1]) rfl ⟨_, rfl, IsInt.put (by have := IsInt.mk (neg := true) hu hd htl; simpa using this) hB (by simp) rfl, ((hB.set _ _ rfl (by simp)).set _ _ rfl (by simp)).old hE9 (by simp; omega)⟩
set_option maxRecDepth 100000 in
set_option maxHeartbeats 1000000 in
theorem ref01_FromInt64 (w : World) (n : Int) (h1 : -9223372036854775808 ≤ n) (h2 : n < 9223372036854775808) :
    Calls Tryd.prog 33 #[.int .i64 n] w fun e w' => ∃ v, e = .returned v ∧ IsInt 3 w' v n ∧ Ext w w' := by
  go_enter Tryd.func33, Tryd.ntmps33
  by_cases hn : n < 0
  · obtain ⟨u, rfl⟩ : ∃ u : Nat, n = -(u : Int) := ⟨n.natAbs, by omega⟩
    have hu : u < 18446744073709551616 := by omega
    have ew : IntKind.u64.wrap (-IntKind.u64.wrap (-(u : Int))) = (u : Int) := by
      simp only [IntKind.wrap, IntKind.bits, IntKind.signed]
      simp
      omega
    go_wp2_with (first | fail)
    obtain ⟨w3, r, e1, e2, h3, hE⟩ := box1 w (.cells #[.bool false, .slice none 0 0] 36)
    rw [e1, e2]
    have hr0 : w.heap.size ≤ r := by omega
    clear e1 e2
    obtain ⟨Rr0, Fr0⟩ := rules h3 0 _ rfl
    obtain ⟨Rr1, Fr1⟩ := rules h3 1 _ rfl
    have hX3 := Ext.rfl' w3
    (go_at_call 48; refine (ref01_limbs _ u hu).mono ?_; rintro e w4 ⟨vl, rfl, hl, hEl⟩)
    have hXw4 := (show Ext w3 w4 by exact exttI)
    go_wp2_with ((go_at_call 47; refine (ref01_signed _ _ _ _ (by exact hl) (by exact (dig_limbs u))).mono ?_; rintro e w5 ⟨vx, rfl, hx, hEx⟩; obtain ⟨nx, ax, kx, cx, rfl⟩ := IsInt.form hx); have hXw5 := (show Ext w3 w5 by exact exttI))
    have hE9 : Ext w w5 := by exact exttI
    have k9 := hXw5.blk h3
    have hbx : Box w5 r := Box.mk k9 rfl
    have hB : But [r] w5 w5 := by exact buttI
    have hBr0 := Rr0 _ hXw5
    have hBr1 := Rr1 _ hXw5
    exact bodyPost_ret (v := .agg #[.bool nx, .slice ax kx cx]) (by simp [results, Tryd.results33, go_sem, hBr0, hBr1]) rfl ⟨_, rfl, IsInt.put ((hx.mono (limbs_len 3 u (by omega))).cast (by rw [val_limbs]; simp [sgn])) hB (by simp) rfl, ((hB.set _ _ rfl (by simp)).set _ _ rfl (by simp)).old hE9 (by simp; omega)⟩
  · obtain ⟨u, rfl⟩ : ∃ u : Nat, n = (u : Int) := ⟨n.natAbs, by omega⟩
    have hu : u < 18446744073709551616 := by omega
    go_wp2_with (first | fail)
    obtain ⟨w3, r, e1, e2, h3, hE⟩ := box1 w (.cells #[.bool false, .slice none 0 0] 36)
    rw [e1, e2]
    have hr0 : w.heap.size ≤ r := by omega
    clear e1 e2
    obtain ⟨Rr0, Fr0⟩ := rules h3 0 _ rfl
    obtain ⟨Rr1, Fr1⟩ := rules h3 1 _ rfl
    have hX3 := Ext.rfl' w3
    (go_at_call 48; refine (ref01_limbs _ u hu).mono ?_; rintro e w4 ⟨vl, rfl, hl, hEl⟩)
    have hXw4 := (show Ext w3 w4 by exact exttI)
    go_wp2_with ((go_at_call 47; refine (ref01_signed _ _ _ _ (by exact hl) (by exact (dig_limbs u))).mono ?_; rintro e w5 ⟨vx, rfl, hx, hEx⟩; obtain ⟨nx, ax, kx, cx, rfl⟩ := IsInt.form hx); have hXw5 := (show Ext w3 w5 by exact exttI))
    have hE9 : Ext w w5 := by exact exttI
    have k9 := hXw5.blk h3
    have hbx : Box w5 r := Box.mk k9 rfl
    have hB : But [r] w5 w5 := by exact buttI
    have hBr0 := Rr0 _ hXw5
    have hBr1 := Rr1 _ hXw5
    exact bodyPost_ret (v := .agg #[.bool nx, .slice ax kx cx]) (by simp [results, Tryd.results33, go_sem, hBr0, hBr1]) rfl ⟨_, rfl, IsInt.put ((hx.mono (limbs_len 3 u (by omega))).cast (by rw [val_limbs]; simp [sgn])) hB (by simp) rfl, ((hB.set _ _ rfl (by simp)).set _ _ rfl (by simp)).old hE9 (by simp; omega)⟩
theorem sgn_eq {na nb : Bool} {la lb : List Nat} (pa : na = true → 0 < val la) (pb : nb = true → 0 < val lb) : sgn na (val la) = sgn nb (val lb) ↔ na = nb ∧ val la = val lb := by
  cases na <;> cases nb <;> simp [sgn] at * <;> omega
theorem cmpN_zero {m n : Nat} : (cmpN m n == 0) = decide (m = n) := by
  unfold cmpN
  rw [Bool.eq_iff_iff]
  simp
  split
  · simp; omega
  · split
    · simp; omega
    · simp; omega
set_option maxRecDepth 100000 in
set_option maxHeartbeats 1000000 in
theorem ref01_Same (n m : Nat) (w : World) (va vb : Value) (a b : Int) (ha : IsInt n w va a) (hb : IsInt m w vb b) :
    Calls Tryd.prog 32 #[va, vb] w fun e w' => e = .returned (.bool (decide (a = b))) ∧ Ext w w' := by
  obtain ⟨na, aa, la, ca, rfl, ua, da, nna, lna, sa, qa, _⟩ := IsInt.shape ha; have ea := Lib.hid qa; clear qa
  obtain ⟨nb, ab, lb, cb, rfl, ub, db, nnb, lnb, sb, qb, _⟩ := IsInt.shape hb; have eb := Lib.hid qb; clear qb
  have hse := @sgn_eq na nb la lb (fun h => nna.pos (sa h)) (fun h => nnb.pos (sb h))
  have hdec : decide (a = b) = (na == nb && decide (val la = val lb)) := by
    rw [ea.out, eb.out, Bool.eq_iff_iff]; simp [hse]
  have hz := @cmpN_zero (val la) (val lb)
  rw [hdec]
  clear hdec hse
  generalize hd : decide (val la = val lb) = d at *
  clear hd
  go_enter Tryd.func32, Tryd.ntmps32
  go_upto_region 1 with (fail)
  obtain ⟨w3, p, q, e1, e2, e3, h1, h2, hpq, hE⟩ := box2 w (.cells #[.bool na, .slice aa la.length ca] 36) (.cells #[.bool nb, .slice ab lb.length cb] 36)
  rw [e1, e2, e3]
  clear e1 e2 e3
  obtain ⟨Cp0, Gp0⟩ := cell_of h1 0 _ rfl
  obtain ⟨Cp1, Gp1⟩ := cell_of h1 1 _ rfl
  obtain ⟨Cq0, Gq0⟩ := cell_of h2 0 _ rfl
  obtain ⟨Cq1, Gq1⟩ := cell_of h2 1 _ rfl
  cases na <;> cases nb
  · go_wp2_with (go_at_call 46; refine (ref01_compare _ _ _ la lb (ua.ext hE) (ub.ext hE) da db nna nnb).mono ?_; rintro e w5 ⟨rfl, hD⟩; replace hD := hD.ext)
    go_ret
    exact ⟨rfl, by exact exttI⟩
  · go_wp2
    go_ret
    exact ⟨rfl, hE⟩
  · go_wp2
    go_ret
    exact ⟨rfl, hE⟩
  · go_wp2_with (go_at_call 46; refine (ref01_compare _ _ _ la lb (ua.ext hE) (ub.ext hE) da db nna nnb).mono ?_; rintro e w5 ⟨rfl, hD⟩; replace hD := hD.ext)
    go_ret
    exact ⟨rfl, by exact exttI⟩
end Go.Proofs.YtechjiiijiipdaaDoor

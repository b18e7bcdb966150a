/- Walks: integer.Add, Sub, word. -/
import Derived.Test.YtechjiiijiipdaaDoorW8
namespace Go.Proofs.YtechjiiijiipdaaDoor
open Go.RowKit
set_option linter.unusedSimpArgs false
set_option linter.unusedVariables false

theorem sgn_add_same (b : Bool) (m n : Nat) : sgn b (m + n) = sgn b m + sgn b n := by cases b <;> simp [sgn] <;> omega
theorem sgn_add_diff (b : Bool) {m n : Nat} (h : n ≤ m) : sgn b (m - n) = sgn b m + sgn (!b) n := by cases b <;> simp [sgn] <;> omega
/-- Two cells of a block stored. -/
theorem put2_self {w : World} {p : Nat} {x y a b : Value} {t : TypeId} (h : w.heap[p]? = some (.cells #[a, b] t (0, 0))) :
    ((w.setCell ⟨p, 0, none⟩ x).setCell ⟨p, 1, none⟩ y).heap[p]? = some (.cells #[x, y] t (0, 0)) := by
  simp [World.setCell, Array.getElem?_modify, h]
theorem put2_far {w : World} {p q : Nat} {x y : Value} {i j : Nat} {o : Obj} (h : w.heap[p]? = some o) (hne : q ≠ p) :
    ((w.setCell ⟨q, i, none⟩ x).setCell ⟨q, j, none⟩ y).heap[p]? = some o := by
  simp [World.setCell, Array.getElem?_modify, h, hne]
theorem cell_of {w : World} {p : Nat} {cs : Array Value} {t : TypeId} (h : w.heap[p]? = some (.cells cs t (0, 0))) (i : Nat) (v : Value) (hv : cs[i]? = some v) : w.cell? ⟨p, i, none⟩ = some v ∧ w.frozen? ⟨p, i, none⟩ = false := by
  simp [World.cell?, World.frozen?, h, hv]
theorem length_le_of_val {l m : List Nat} (hl : Norm l) (hm : Dig m) (h : val l ≤ val m) : l.length ≤ m.length := by
  rcases Nat.lt_or_ge m.length l.length with h1 | h1
  · have := val_lt_of_length hm hl h1
    omega
  · exact h1

set_option maxRecDepth 100000 in
theorem integer_Add (n m : Nat) (w : World) (va vb : Value) (a b : Int) (ha : IsInt n w va a) (hb : IsInt m w vb b) (hn : n < 400000) (hm : m < 400000) :
    Calls Tryd.prog 89 #[va, vb] w fun e w' => ∃ v, e = .returned v ∧ IsInt (max n m + 1) w' v (a + b) ∧ Ext w w' := by
  obtain ⟨na, aa, la, ca, rfl, ua, da, nna, lna, sa, qa, _⟩ := IsInt.shape ha; have ea := Lib.hid qa; clear qa
  obtain ⟨nb, ab, lb, cb, rfl, ub, db, nnb, lnb, sb, qb, _⟩ := IsInt.shape hb; have eb := Lib.hid qb; clear qb
  have eab := Lib.hid (show a + b = sgn na (val la) + sgn nb (val lb) by rw [ea.out, eb.out])
  go_enter Tryd.func89, Tryd.ntmps89
  by_cases hs : na = nb
  · subst hs
    go_wp2_with (first | fail)
    obtain ⟨w3, p, q, r, e1, e2, e3, e4, h1, h2, h3, hpq, hpr, hqr, hE⟩ := box3 w (.cells #[.bool na, .slice aa la.length ca] 36) (.cells #[.bool na, .slice ab lb.length cb] 36) (.cells #[.bool false, .slice none 0 0] 36)
    rw [e1, e2, e3, e4]
    have hge : ∀ k, k ∈ [r] → w.heap.size ≤ k := by simp; omega
    clear e1 e2 e3 e4
    have Rp0 := rulesB (rs := [r]) h1 (by simpa using hpr) 0 _ rfl
    have Rp1 := rulesB (rs := [r]) h1 (by simpa using hpr) 1 _ rfl
    have Rq0 := rulesB (rs := [r]) h2 (by simpa using hqr) 0 _ rfl
    have Rq1 := rulesB (rs := [r]) h2 (by simpa using hqr) 1 _ rfl
    have hbxr : Box _ r := Box.mk h3 rfl
    obtain ⟨Rr0, Fr0⟩ := rulesR (rs := [r]) h3 (by simp) 0 (by simp)
    obtain ⟨Rr1, Fr1⟩ := rulesR (rs := [r]) h3 (by simp) 1 (by simp)
    go_region_held3 (fun w' => But [r] w3 w') (exact buttI) (first | (go_at_call 96; refine (integer_plus _ _ _ la lb (ua.ext (by exact exttI)) (ub.ext (by exact exttI)) da db (by omega) (by omega)).mono ?_; rintro e w4 ⟨vs, s, rfl, us, ds, ys, zs, hEs⟩; have es := Lib.hid ys; clear ys) | (go_at_call 53; refine (integer_signed _ _ _ _ (by exact (us.ext (by exact exttI))) (by exact ds)).mono ?_; rintro e w5 ⟨vr, rfl, hr, hEr⟩; obtain ⟨nr, ar, lr, cr, rfl, ur, dr, nnr, lnr, sr, qr, _⟩ := IsInt.shape hr; have er := Lib.hid qr; clear qr))
    go_wp2
    have hB : But [r] w3 w5 := by exact buttI
    exact bodyPost_ret (v := .agg #[.bool nr, .slice ar lr.length cr]) (by simp [results, Tryd.results89, go_sem, Rr0 _ hB, Rr1 _ hB]) rfl ⟨_, rfl, IsInt.put ((hr.mono (by omega)).cast (by rw [es.out, sgn_add_same, ← eab.out])) hB (by simp) rfl, ((hB.set _ _ rfl (by simp)).set _ _ rfl (by simp)).old hE hge⟩
  · obtain rfl : nb = !na := by cases na <;> cases nb <;> simp_all
    clear hs
    go_wp2_with (first | fail)
    obtain ⟨w3, p, q, r, e1, e2, e3, e4, h1, h2, h3, hpq, hpr, hqr, hE⟩ := box3 w (.cells #[.bool na, .slice aa la.length ca] 36) (.cells #[.bool (!na), .slice ab lb.length cb] 36) (.cells #[.bool false, .slice none 0 0] 36)
    rw [e1, e2, e3, e4]
    have hge : ∀ k, k ∈ [p, q, r] → w.heap.size ≤ k := by simp; omega
    clear e1 e2 e3 e4
    (go_at_call 74; refine (integer_compare _ _ _ la lb (ua.ext (by exact exttI)) (ub.ext (by exact exttI)) da db).mono ?_; rintro e w4 ⟨rfl, hE4⟩; replace hE4 := hE4.ext)
    by_cases hc : val la < val lb
    · rw [show cmpN (val la) (val lb) = -1 by simp [cmpN, hc]]
      have h1 := hE4.blk h1
      have h2 := hE4.blk h2
      have h3 := hE4.blk h3
      replace hE := hE.trans' hE4
      clear hE4
      have lle := length_le_of_val nna db (Nat.le_of_lt hc)
      have hc := Lib.hid hc
      obtain ⟨Cp0, Gp0⟩ := cell_of h1 0 _ rfl
      obtain ⟨Cp1, Gp1⟩ := cell_of h1 1 _ rfl
      obtain ⟨Cq0, Gq0⟩ := cell_of h2 0 _ rfl
      obtain ⟨Cq1, Gq1⟩ := cell_of h2 1 _ rfl
      go_wp2_with (first | fail)
      generalize hW : World.setCell (World.setCell (World.setCell (World.setCell w4 _ _) _ _) _ _) _ _ = w6
      have k1 : w6.heap[p]? = some (.cells #[.bool (!na), .slice ab lb.length cb] 36) := by rw [← hW]; exact put2_far (put2_self h1) (Ne.symm hpq)
      have k2 : w6.heap[q]? = some (.cells #[.bool na, .slice aa la.length ca] 36) := by rw [← hW]; exact put2_self (put2_far h2 hpq)
      have k3 : w6.heap[r]? = some (.cells #[.bool false, .slice none 0 0] 36) := by rw [← hW]; exact put2_far (put2_far h3 hpr) hqr
      have hE6 : Ext w w6 := by
        rw [← hW]
        exact (((((But.start3 (Box.mk h1 rfl) (Box.mk h2 rfl) (Box.mk h3 rfl)).set _ _ rfl (by simp)).set _ _ rfl (by simp)).set _ _ rfl (by simp)).set _ _ rfl (by simp)).old hE hge
      clear hW Cp0 Gp0 Cp1 Gp1 Cq0 Gq0 Cq1 Gq1 h1 h2 h3 hE
      replace hge : ∀ k, k ∈ [r] → w.heap.size ≤ k := fun k hk => hge k (by simp at hk; simp [hk])
      rename Ext w w6 => hE
      have Rp0 := rulesB (rs := [r]) k1 (by simpa using hpr) 0 _ rfl
      have Rp1 := rulesB (rs := [r]) k1 (by simpa using hpr) 1 _ rfl
      have Rq0 := rulesB (rs := [r]) k2 (by simpa using hqr) 0 _ rfl
      have Rq1 := rulesB (rs := [r]) k2 (by simpa using hqr) 1 _ rfl
      have hbxr : Box _ r := Box.mk k3 rfl
      obtain ⟨Rr0, Fr0⟩ := rulesR (rs := [r]) k3 (by simp) 0 (by simp)
      obtain ⟨Rr1, Fr1⟩ := rulesR (rs := [r]) k3 (by simp) 1 (by simp)
      go_region_held3 (fun w' => But [r] w6 w') (exact buttI) (first | (go_at_call 97; refine (integer_minus _ _ _ lb la (ub.ext (by exact exttI)) (ua.ext (by exact exttI)) db da (by omega) lle (by have := hc.out; omega)).mono ?_; rintro e w7 ⟨vs, s, rfl, us, ds, ys, zs, hEs⟩; have es := Lib.hid ys; clear ys) | (go_at_call 53; refine (integer_signed _ _ _ _ (by exact (us.ext (by exact exttI))) (by exact ds)).mono ?_; rintro e w5 ⟨vr, rfl, hr, hEr⟩; obtain ⟨nr, ar, lr, cr, rfl, ur, dr, nnr, lnr, sr, qr, _⟩ := IsInt.shape hr; have er := Lib.hid qr; clear qr))
      go_wp2
      have hB : But [r] w6 w5 := by exact buttI
      exact bodyPost_ret (v := .agg #[.bool nr, .slice ar lr.length cr]) (by simp [results, Tryd.results89, go_sem, Rr0 _ hB, Rr1 _ hB]) rfl ⟨_, rfl, IsInt.put ((hr.mono (by omega)).cast (by have hc := hc.out; rw [es.out, sgn_add_diff _ (by omega), Bool.not_not, eab.out]; omega)) hB (by simp) rfl, ((hB.set _ _ rfl (by simp)).set _ _ rfl (by simp)).old hE hge⟩
    · have lle := length_le_of_val nnb da (by omega)
      have hc2 : ∃ k : Int, 0 ≤ k ∧ cmpN (val la) (val lb) = k := by simp only [cmpN, hc, if_false]; split <;> exact ⟨_, by omega, rfl⟩
      have hc := Lib.hid hc
      obtain ⟨k, hk, e⟩ := hc2
      rw [e]
      clear e
      have h1 := hE4.blk h1
      have h2 := hE4.blk h2
      have h3 := hE4.blk h3
      replace hE := hE.trans' hE4
      clear hE4
      go_wp2_with (first | fail)
      replace hge : ∀ k, k ∈ [r] → w.heap.size ≤ k := fun k hk => hge k (by simp at hk; simp [hk])
      have Rp0 := rulesB (rs := [r]) h1 (by simpa using hpr) 0 _ rfl
      have Rp1 := rulesB (rs := [r]) h1 (by simpa using hpr) 1 _ rfl
      have Rq0 := rulesB (rs := [r]) h2 (by simpa using hqr) 0 _ rfl
      have Rq1 := rulesB (rs := [r]) h2 (by simpa using hqr) 1 _ rfl
      have hbxr : Box _ r := Box.mk h3 rfl
      obtain ⟨Rr0, Fr0⟩ := rulesR (rs := [r]) h3 (by simp) 0 (by simp)
      obtain ⟨Rr1, Fr1⟩ := rulesR (rs := [r]) h3 (by simp) 1 (by simp)
      go_region_held3 (fun w' => But [r] w4 w') (exact buttI) (first | (go_at_call 97; refine (integer_minus _ _ _ la lb (ua.ext (by exact exttI)) (ub.ext (by exact exttI)) da db (by omega) lle (by have := hc.out; omega)).mono ?_; rintro e w7 ⟨vs, s, rfl, us, ds, ys, zs, hEs⟩; have es := Lib.hid ys; clear ys) | (go_at_call 53; refine (integer_signed _ _ _ _ (by exact (us.ext (by exact exttI))) (by exact ds)).mono ?_; rintro e w5 ⟨vr, rfl, hr, hEr⟩; obtain ⟨nr, ar, lr, cr, rfl, ur, dr, nnr, lnr, sr, qr, _⟩ := IsInt.shape hr; have er := Lib.hid qr; clear qr))
      go_wp2
      have hB : But [r] w4 w5 := by exact buttI
      exact bodyPost_ret (v := .agg #[.bool nr, .slice ar lr.length cr]) (by simp [results, Tryd.results89, go_sem, Rr0 _ hB, Rr1 _ hB]) rfl ⟨_, rfl, IsInt.put ((hr.mono (by omega)).cast (by have hc := hc.out; rw [es.out, sgn_add_diff _ (by omega), eab.out])) hB (by simp) rfl, ((hB.set _ _ rfl (by simp)).set _ _ rfl (by simp)).old hE hge⟩
end Go.Proofs.YtechjiiijiipdaaDoor

/- Tokens compared; walk: swarfref21.Same. -/
import Derived.Test.YtechjiiijiipdaaDoorR3
import Derived.Test.YtechjiiijiipdaaDoorW25
import Derived.Laws.StructEq
namespace Go.Proofs.YtechjiiijiipdaaDoor
open Go.RowKit
set_option linter.unusedSimpArgs false
set_option linter.unusedVariables false
theorem three {α β : Type} {f : α → β} {l : List α} {x y z : β} (h : l.map f = [x, y, z]) : ∃ a b c, l = [a, b, c] ∧ f a = x ∧ f b = y ∧ f c = z := by
  match l, h with
  | [a, b, c], h => simp at h; exact ⟨a, b, c, rfl, h.1, h.2.1, h.2.2⟩
theorem tok_eqRef (w : World) (k p k' p' : Int) (x x' : ByteArray) : (Op.equalIn 10000 51 (.agg #[.int .i64 k, .int .i64 p, .string x]) (.agg #[.int .i64 k', .int .i64 p', .string x'])).run Tryd.prog w = .ok (k == k' && p == p' && x.toList == x'.toList) w := by
  rw [run_equalIn_agg w 9999 _ _ _ (by kernel_rfl) (by kernel_rfl)]
  have hf : (Tryd.prog.fieldsOf 51).toList.map (fun f => (f.name != "_", f.type, f.offset)) = [(true, 3, 0), (true, 3, 1), (true, 9, 2)] := by kernel_rfl
  obtain ⟨f1, f2, f3, e, h1, h2, h3⟩ := three hf
  simp only [Prod.mk.injEq, bne_iff_ne, ne_eq] at h1 h2 h3
  obtain ⟨n1, t1, o1⟩ := h1
  obtain ⟨n2, t2, o2⟩ := h2
  obtain ⟨n3, t3, o3⟩ := h3
  rw [e]
  simp [Op.eqFields, n1, n2, n3, t1, t2, t3, o1, o2, o3, go_sem, run_equalIn_int w 9998 _ _ _ _ _ Tryd.underlying3, run_equalIn_string w 9998 _ _ _ Tryd.underlying9, Tryd.isAgg3, Tryd.isAgg9]
  by_cases g1 : k = k' <;> by_cases g2 : p = p' <;> by_cases g3 : x.toList = x'.toList <;> simp [g1, g2, g3]
theorem tok_eqLex (w : World) (k p k' p' : Int) (x x' : ByteArray) : (Op.equalIn 10000 28 (.agg #[.int .i64 k, .int .i64 p, .string x]) (.agg #[.int .i64 k', .int .i64 p', .string x'])).run Tryd.prog w = .ok (k == k' && p == p' && x.toList == x'.toList) w := by
  rw [run_equalIn_agg w 9999 _ _ _ (by kernel_rfl) (by kernel_rfl)]
  have hf : (Tryd.prog.fieldsOf 28).toList.map (fun f => (f.name != "_", f.type, f.offset)) = [(true, 3, 0), (true, 3, 1), (true, 9, 2)] := by kernel_rfl
  obtain ⟨f1, f2, f3, e, h1, h2, h3⟩ := three hf
  simp only [Prod.mk.injEq, bne_iff_ne, ne_eq] at h1 h2 h3
  obtain ⟨n1, t1, o1⟩ := h1
  obtain ⟨n2, t2, o2⟩ := h2
  obtain ⟨n3, t3, o3⟩ := h3
  rw [e]
  simp [Op.eqFields, n1, n2, n3, t1, t2, t3, o1, o2, o3, go_sem, run_equalIn_int w 9998 _ _ _ _ _ Tryd.underlying3, run_equalIn_string w 9998 _ _ _ Tryd.underlying9, Tryd.isAgg3, Tryd.isAgg9]
  by_cases g1 : k = k' <;> by_cases g2 : p = p' <;> by_cases g3 : x.toList = x'.toList <;> simp [g1, g2, g3]
theorem tok_ext {a b : Tok} : (a.kind == b.kind && (a.pos : Int) == (b.pos : Int) && (⟨a.text.toArray⟩ : ByteArray).toList == (⟨b.text.toArray⟩ : ByteArray).toList) = decide (a = b) := by
  rw [Lib.toList_data, Lib.toList_data, Bool.eq_iff_iff]
  obtain ⟨k, p, x⟩ := a
  obtain ⟨k', p', x'⟩ := b
  simp [and_assoc]
  intros; omega
theorem take_next {ts us : List Tok} (he : ts.length = us.length) {k : Nat} (hk : k < ts.length) (h : ts.take k = us.take k) (h2 : ts[k] = us[k]'(by omega)) : ts.take (k + 1) = us.take (k + 1) := by
  rw [List.take_succ_eq_append_getElem hk, List.take_succ_eq_append_getElem (by omega), h, h2]
set_option maxRecDepth 100000 in
set_option maxHeartbeats 2000000 in
theorem ref21_Same (w : World) (va vb : Value) (ts us : List Tok) (ha : Toks w va ts) (hb : Toks w vb us) :
    Calls Tryd.prog 9 #[va, vb] w fun e w' => e = .returned (.bool (decide (ts = us))) ∧ Drawn w w' := by
  obtain ⟨a, c, rfl, hl1, hc1⟩ := ha
  obtain ⟨a2, c2, rfl, hl2, hc2⟩ := hb
  by_cases he : ts.length = us.length
  · have HE := Lib.hid he
    rw [he] at hl1 ⊢
    clear he
    have hne : ((us.length : Int) != (us.length : Int)) = false := by simp
    obtain ⟨d, hd⟩ : ∃ d, decide (ts = us) = d := ⟨_, rfl⟩
    rw [hd]
    have HD := Lib.hid hd
    clear hd
    go_enter Tryd.func9, Tryd.ntmps9
    go_wp2
    go_loopw [5] (fun i w' => ∃ k : Nat, k ≤ us.length ∧ i = .int .i64 k ∧ Hid (ts.take k = us.take k) ∧ Drawn w w') (fun i _ => us.length - (intOf i).toNat)
    case atStart => exact ⟨0, by omega, rfl, by simp [Hid], Drawn.rfl' _⟩
    case round =>
      obtain ⟨k, hk, rfl, ht, n, rfl⟩ := hrel
      have hD : Drawn w (w.drewN n) := ⟨n, rfl⟩
      by_cases hlt : k < us.length
      · have hlt' : k < ts.length := by have := HE.out; omega
        rcases hc1 with rfl | ⟨b, o, rfl, _, hc1⟩
        · simp at hlt'
        rcases hc2 with rfl | ⟨b2, o2, rfl, _, hc2⟩
        · simp at hlt
        obtain ⟨x1, x2, x3⟩ := hc1 k hlt'
        obtain ⟨y1, y2, y3⟩ := hc2 k hlt
        have hnx := Lib.hid (@take_next ts us HE.out k hlt' ht.out)
        have hbad : Hid (¬ ts[k] = us[k] → decide (ts = us) = false) := Lib.hid (fun h => decide_eq_false (fun e => h (by subst e; rfl)))
        have htok := @tok_ext ts[k] us[k]
        generalize ts[k] = t at *
        generalize us[k] = u at *
        clear hc1 hc2
        have hrun := fun w => tok_eqRef w t.kind t.pos u.kind u.pos ⟨t.text.toArray⟩ ⟨u.text.toArray⟩
        rw [htok] at hrun
        clear htok
        by_cases htu : t = u
        · have e1 : decide (t = u) = true := by simpa using htu
          rw [e1] at hrun
          have HT := Lib.hid (hnx.out htu)
          clear e1 htu
          go_wp2
          go_quiet (fail)
          go_wp2
          go_roundw
          case rel => exact ⟨k + 1, by omega, by go_num, HT, ⟨_, rfl⟩⟩
          case measure => simp [intOf]; omega
        · have e1 : decide (t = u) = false := by simpa using htu
          rw [e1] at hrun
          have HT := Lib.hid (hbad.out htu)
          clear e1 htu
          go_wp2
          go_quiet (fail)
          go_wp2
          go_ret
          exact ⟨by rw [← HD.out, HT.out]; rfl, hD.n _⟩
      · have e : ts = us := by
          have := ht.out
          rwa [List.take_of_length_le (by have := HE.out; omega), List.take_of_length_le (by omega)] at this
        have he : d = true := by rw [← HD.out]; simpa using e
        clear e
        subst he
        go_wp2
        go_ret
        exact ⟨rfl, hD⟩
  · have hne : ((ts.length : Int) != (us.length : Int)) = true := by simp; omega
    rw [decide_eq_false (fun e => he (by rw [e]))]
    clear he
    go_enter Tryd.func9, Tryd.ntmps9
    go_wp2
    go_ret
    exact ⟨rfl, Drawn.rfl' _⟩
end Go.Proofs.YtechjiiijiipdaaDoor

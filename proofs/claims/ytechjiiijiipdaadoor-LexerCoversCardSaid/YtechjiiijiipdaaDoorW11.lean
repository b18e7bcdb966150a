/- Walks: integer.word. -/
import Derived.Test.YtechjiiijiipdaaDoorW10
namespace Go.Proofs.YtechjiiijiipdaaDoor
open Go.RowKit
set_option linter.unusedSimpArgs false
set_option linter.unusedVariables false

theorem IsInt.of_le {n m : Nat} {w w' : World} {v u : Value} {z y : Int} (h : IsInt n w v z) (k : IsInt m w' u y) (hz : z.natAbs ≤ y.natAbs) : IsInt m w v z := by
  obtain ⟨nz, az, lz, cz, rfl, uz, dz, nnz, lnz, sz, ez, _⟩ := h.shape
  obtain ⟨ny, ay, ly, cy, rfl, uy, dy, nny, lny, sy, ey, _⟩ := k.shape
  subst ez ey
  rw [sgn_natAbs, sgn_natAbs] at hz
  have := length_le_of_val nnz dy hz
  exact ⟨nz, _, lz, rfl, uz, dz, nnz, by omega, sz, rfl⟩

set_option maxRecDepth 100000 in
theorem integer_word (n : Nat) (w : World) (va : Value) (a : Int) (ha : IsInt n w va a) :
    Calls Tryd.prog 72 #[va] w fun e w' => (∃ u : Nat, u < 1000000000000000000 ∧ u = a.natAbs ∧ e = .returned (.tuple #[.int .u64 (u : Int), .bool true]) ∨ e = .returned (.tuple #[.int .u64 0, .bool false])) ∧ Ext w w' := by
  obtain ⟨na, aa, la, ca, rfl, ua, da, nna, lna, sa, rfl, _⟩ := ha.shape
  clear ha
  rw [sgn_natAbs]
  go_enter Tryd.func72, Tryd.ntmps72
  by_cases h0 : la.length = 0
  · obtain rfl := List.length_eq_zero_iff.1 h0
    go_wp2
    go_ret2
    exact ⟨⟨0, .inl ⟨by omega, rfl, rfl⟩⟩, by exact exttI⟩
  by_cases h1 : la.length = 1
  · obtain ⟨x, rfl⟩ := List.length_eq_one_iff.1 h1
    obtain ⟨b, o, rfl, hlt, hc⟩ := ua.cell (k := 0) (by simp)
    have dx : x < 1000000000 := by have := da.getD 0; simpa using this
    have hc' := (((Ext.rfl' w).alloc' (.cells #[.bool na, .slice (some ⟨b, o, none⟩) 1 ca] 36)).cell (p := ⟨b, o + 0, none⟩) hlt).trans hc
    simp at hc'
    go_wp2
    go_ret2
    refine ⟨⟨x, .inl ⟨by omega, by simp [val], ?_⟩⟩, by exact exttI⟩
    rfl
  by_cases h2 : la.length = 2
  · obtain ⟨x, y, rfl⟩ : ∃ x y, la = [x, y] := by
      match la, h2 with
      | [x, y], _ => exact ⟨x, y, rfl⟩
    obtain ⟨b, o, e1, hlt, hc⟩ := ua.cell (k := 0) (by simp)
    obtain ⟨b', o', rfl, hlt', hd⟩ := ua.cell (k := 1) (by simp)
    cases e1
    have dx : x < 1000000000 := by have := da.getD 0; simpa using this
    have dy : y < 1000000000 := by have := da.getD 1; simpa using this
    have hc' := (((Ext.rfl' w).alloc' (.cells #[.bool na, .slice (some ⟨b, o, none⟩) 2 ca] 36)).cell (p := ⟨b, o + 0, none⟩) hlt).trans hc
    have hd' := (((Ext.rfl' w).alloc' (.cells #[.bool na, .slice (some ⟨b, o, none⟩) 2 ca] 36)).cell (p := ⟨b, o + 1, none⟩) hlt).trans hd
    simp at hc' hd'
    have e1 : IntKind.u64.wrap ((y : Int) * 1000000000) = ((y * 1000000000 : Nat) : Int) := by
      exact (IntWalk.u64_in _ (by omega)).trans (by omega)
    have e2 : IntKind.u64.wrap (((y * 1000000000 : Nat) : Int) + (x : Int)) = ((y * 1000000000 + x : Nat) : Int) := by
      exact (IntWalk.u64_in _ (by omega)).trans (by omega)
    have hlen : ¬ (1 : Int) < 1 := by omega
    go_wp2
    go_quiet (fail)
    go_wp2
    go_ret2
    refine ⟨⟨y * 1000000000 + x, .inl ⟨by omega, by simp [val]; omega, rfl⟩⟩, ?_⟩
    exact exttI
  have i0 : ¬ ((la.length : Int) = 0) := by omega
  have i1 : ¬ ((la.length : Int) = 1) := by omega
  have i2 : ¬ ((la.length : Int) = 2) := by omega
  go_wp2
  go_ret2
  exact ⟨⟨0, .inr rfl⟩, by exact exttI⟩
end Go.Proofs.YtechjiiijiipdaaDoor

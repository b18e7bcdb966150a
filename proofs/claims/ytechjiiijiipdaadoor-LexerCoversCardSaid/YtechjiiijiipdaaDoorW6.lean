/- Walk: signed. -/
import Derived.Test.YtechjiiijiipdaaDoorInt
import Derived.Test.YtechjiiijiipdaaDoorW1
namespace Go.Proofs.YtechjiiijiipdaaDoor
open Go.RowKit
set_option linter.unusedSimpArgs false
set_option linter.unusedVariables false

set_option maxRecDepth 100000 in
set_option maxHeartbeats 1000000 in
theorem integer_signed (w : World) (neg : Bool) (v : Value) (l : List Nat) (h : U32s w v l) (hd : Dig l) :
    Calls Tryd.prog 53 #[.bool neg, v] w fun e w' => ∃ v', e = .returned v' ∧ IsInt l.length w' v' (sgn neg (val l)) ∧ Ext w w' := by
  obtain ⟨a, c, rfl, hc, hb, hn, hz, hcell⟩ := h
  have HZ := Lib.hid hz
  clear hz
  go_enter Tryd.func53, Tryd.ntmps53
  go_wp2
  go_loopw [5] (fun s w' => ∃ k : Nat, k ≤ l.length ∧ s = .int .i64 k ∧ Hid (trimL (l.take k) = trimL l) ∧ w' = w.alloc (.cells #[.bool false, .slice none 0 0] 36)) (fun s _ => (intOf s).toNat)
  case atStart => exact ⟨l.length, Nat.le_refl _, rfl, Lib.hid (by rw [List.take_length]), rfl⟩
  case round =>
    obtain ⟨k, hk, rfl, ht, rfl⟩ := hrel
    rcases Nat.eq_zero_or_pos k with rfl | hk0
    · cases neg <;> (
        go_wp2
        exact bodyPost_ret (v := .agg #[.bool false, .slice a 0 0]) (by simp [results, Tryd.results53, go_sem]) rfl ⟨_, rfl, IsInt.cut (k := 0) (U32s.nil _ _ _ (fun _ => rfl)) (by omega) hd ht.out.symm rfl, (Ext.rfl' w).alloc' _⟩)
    · rcases hcell with rfl | ⟨b, o, rfl, hlt, hcell⟩
      · simp at hk; omega
      have hcl := hcell (k - 1) (by omega)
      have e1 : ((k : Int) - 1) = ((k - 1 : Nat) : Int) := by omega
      by_cases hzz : l.getD (k - 1) 0 = 0
      · have ht' := Lib.hid ((trim_go hk0 hk hzz).symm.trans ht.out)
        rw [hzz] at hcl
        go_wp2
        go_roundw
        case rel => exact ⟨k - 1, by omega, by go_num, ht', by first | rfl | trivial⟩
        case measure => simp only [intOf]; omega
      · have ht2 := Lib.hid ((trim_stop hk0 hk hzz).symm.trans ht.out)
        generalize l.getD (k - 1) 0 = d at hcl hzz
        have hdz : ((d : Int) == 0) = false := by simpa using hzz
        have hk1 : 0 < (k : Int) := by omega
        cases neg <;> (
          go_wp2
          exact bodyPost_ret (v := .agg #[.bool _, .slice (some ⟨b, o, none⟩) k k]) (by simp [results, Tryd.results53, go_sem]; rfl) rfl ⟨_, rfl, IsInt.cut (k := k) (U32s.sub k hk hb hn (by simp; omega) (fun i hi => (((Ext.rfl' w).alloc' _).cell (p := ⟨b, o + i, none⟩) hlt).trans (hcell i hi))) hk hd ht2.out.symm (by simp [hk0]), (Ext.rfl' w).alloc' _⟩)
end Go.Proofs.YtechjiiijiipdaaDoor

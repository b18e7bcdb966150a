/- Walk: swarflaw21.awake. -/
import Derived.Test.YtechjiiijiipdaaDoorW26
namespace Go.Proofs.YtechjiiijiipdaaDoor
open Go.RowKit
set_option linter.unusedSimpArgs false
set_option linter.unusedVariables false
def ex1 : List UInt8 := [104, 111, 108, 101, 45, 49, 32, 61, 32, 45, 50, 46, 53, 48, 44, 120, 32, 35, 32, 102, 97, 114]
def ts1 : List Tok := [⟨1, 0, [104, 111, 108, 101, 45, 49]⟩, ⟨3, 7, [61]⟩, ⟨2, 9, [45, 50, 46, 53, 48]⟩, ⟨3, 14, [44]⟩, ⟨1, 15, [120]⟩]
set_option maxRecDepth 100000 in
theorem tok1 : tokF ex1 = (ts1, 0, 0) := by decide +kernel
theorem tok2 : tokF [50, 46, 53, 109, 109] = ([], 3, 2) := by decide +kernel
theorem tok3 : tokF [97, 32, 46, 32, 98] = ([], 2, 2) := by decide +kernel
theorem shape1 : ts1.map shapeC = [110, 61, 100, 44, 110] := by decide +kernel
theorem dec25 : isDec [50, 46, 53] = true := by decide +kernel
theorem decQ25 : decQ [50, 46, 53] * 1000 = ((2500 : Int) : Rat) := by decide +kernel
attribute [local irreducible] IsInt U32s Dig Norm Own IsRat AllD dec digF isDec decQ stepF lexF tokF OwnT Toks ts1
theorem Toks.at2 {w : World} {v : Value} (h : Toks w v ts1) : ∃ b o c, v = .slice (some ⟨b, o, none⟩) 5 c ∧ ∀ w', Ext w w' → w'.cell? ⟨b, o + 6, none⟩ = some (.int .i64 2) ∧ w'.cell? ⟨b, o + 6 + 1, none⟩ = some (.int .i64 9) ∧ w'.cell? ⟨b, o + 6 + 2, none⟩ = some (.string ⟨#[45, 50, 46, 53, 48]⟩) := by
  unfold Toks ts1 at h
  obtain ⟨a, c, rfl, _, h⟩ := h
  rcases h with h | ⟨b, o, rfl, hlt, h⟩
  · simp at h
  · obtain ⟨h1, h2, h3⟩ := h 2 (by simp)
    exact ⟨b, o, c, rfl, fun w' e => ⟨(e.cell (p := ⟨b, o + 6, none⟩) hlt).trans h1, (e.cell (p := ⟨b, o + 6 + 1, none⟩) hlt).trans h2, (e.cell (p := ⟨b, o + 6 + 2, none⟩) hlt).trans h3⟩⟩
theorem tokens_of (x : List UInt8) (ts : List Tok) (p e : Nat) (h : tokF x = (ts, p, e)) (hl : x.length ≤ 65536) (w : World) :
    Calls Tryd.prog 8 #[.string ⟨x.toArray⟩] w fun en w' => ∃ v, en = .returned (.tuple #[v, .int .i64 (p : Int), .int .i64 (e : Int)]) ∧ Toks w' v ts ∧ Ext w w' := by
  have := lexer_Tokens ⟨x.toArray⟩ w (by simpa [ByteArray.size] using hl)
  rw [ba_toList, h] at this
  exact this
set_option maxRecDepth 100000 in
set_option maxHeartbeats 4000000 in
theorem law21_awake (w : World) : Calls Tryd.prog 7 #[] w fun e w' => e = .returned (.bool true) ∧ Ext w w' := by
  have hT1 := Lib.hid (tokens_of ex1 ts1 0 0 tok1 (by decide))
  have hT2 := Lib.hid (tokens_of [50, 46, 53, 109, 109] [] 3 2 tok2 (by decide))
  have hT3 := Lib.hid (tokens_of [97, 32, 46, 32, 98] [] 2 2 tok3 (by decide))
  have hL := Lib.hid (fun w => lexer_Length_ok w 0 ⟨#[50, 46, 53]⟩ dec25)
  have hEq := fun w => tok_eqLex w 2 9 2 9 ⟨#[45, 50, 46, 53, 48]⟩ ⟨#[45, 50, 46, 53, 48]⟩
  go_enter Tryd.func7, Tryd.ntmps7
  go_upto_region 2 with (go_at_call 8; refine (hT1.out _).mono ?_; rintro e w1 ⟨v1, rfl, ht1, hE1⟩)
  go_upto_region 3 with (go_at_call 8; refine (hT2.out _).mono ?_; rintro e w2 ⟨v2, rfl, ht2, hE2⟩)
  go_upto_region 4 with (go_at_call 8; refine (hT3.out _).mono ?_; rintro e w3 ⟨v3, rfl, ht3, hE3⟩)
  go_upto_region 5 with (go_at_call 13; refine (hL.out _).mono ?_; rintro e w5 ⟨vx, rfl, hx, hE5⟩; obtain ⟨nxn, axn, kxn, cxn, nxd, axd, kxd, cxd, rfl, _, _⟩ := IsRat.form hx)
  obtain ⟨w6, q, f1, f2, k2, hE6⟩ := box1 w5 (.cells #[.bool nxn, .slice axn kxn cxn, .bool nxd, .slice axd kxd cxd] 38)
  rw [f1, f2]
  clear f1 f2 hT1 hT2 hT3 hL ht2 ht3
  replace hx := (hx.ext hE6).cast decQ25
  have ht := ht1.ext (show Ext w1 w6 by exact exttI)
  have hE : Ext w w6 := by exact exttI
  clear hE1 hE2 hE3 hE5 hE6 ht1
  obtain ⟨b, o, c, rfl, hcell⟩ := ht.at2
  have hc1 := fun w' h => (hcell w' h).1
  have hc2 := fun w' h => (hcell w' h).2.1
  have hc3 := fun w' h => (hcell w' h).2.2
  clear hcell
  obtain ⟨Rq0, _⟩ := rules k2 0 _ rfl
  obtain ⟨Rq1, _⟩ := rules k2 1 _ rfl
  obtain ⟨Rq2, _⟩ := rules k2 2 _ rfl
  obtain ⟨Rq3, _⟩ := rules k2 3 _ rfl
  go_region_held3 (fun w' => Ext w6 w') (exact exttI) (first | (go_at_call 14; refine (lexer_Shape _ _ ts1 (ht.ext (by exact exttI))).mono ?_; rintro e w7 ⟨rfl, hE7⟩; rw [shape1]; have hXw7 := (show Ext w6 w7 by exact exttI)) | ((go_at_call 16; refine (ref02_FromInt64 _ 2500 (by omega) (by omega)).mono ?_; rintro e w8 ⟨vy, rfl, hy, hE8⟩; obtain ⟨nyn, ayn, kyn, cyn, nyd, ayd, kyd, cyd, rfl, _, _⟩ := IsRat.form hy); have hXw8 := (show Ext w6 w8 by exact exttI)) | (go_at_call 15; refine (ref02_Same _ _ _ _ _ _ _ (hx.ext (by exact exttI)) (hy.ext (by exact exttI))).mono ?_; rintro e w9 ⟨rfl, hE9⟩; rw [decide_eq_true rfl]; have hXw9 := (show Ext w6 w9 by exact exttI)))
  go_wp2_with (first | fail)
  go_ret
  exact ⟨rfl, by exact exttI⟩
end Go.Proofs.YtechjiiijiipdaaDoor

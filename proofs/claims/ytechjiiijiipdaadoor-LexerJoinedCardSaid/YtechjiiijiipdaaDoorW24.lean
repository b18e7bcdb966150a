/- Walks: lexer.Shape, Length. -/
import Derived.Test.YtechjiiijiipdaaDoorBld
namespace Go.Proofs.YtechjiiijiipdaaDoor
open Go.RowKit
set_option linter.unusedSimpArgs false
set_option linter.unusedVariables false
/-- One letter for a token. -/
def shapeC (t : Tok) : UInt8 := if t.kind = 1 then 110 else if t.kind = 2 then 100 else if t.kind = 3 ∧ t.text.length = 1 then t.text.getD 0 0 else 63
theorem strCells_one {x : List UInt8} (h : x.length = 1) : Lib.strCells ⟨x.toArray⟩ = [.int .u8 ((x.getD 0 0).toNat : Int)] := by
  match x, h with
  | [c], _ => rfl
theorem shape_next {ts : List Tok} {k : Nat} (h : k < ts.length) : Lib.byteCells ((ts.take (k + 1)).map shapeC) = Lib.byteCells ((ts.take k).map shapeC) ++ [.int .u8 ((shapeC ts[k]).toNat : Int)] := by
  rw [List.take_succ_eq_append_getElem h, List.map_append, List.map_singleton, byteCells_snoc]
attribute [local irreducible] IsInt U32s Dig Norm Own IsRat AllD dec digF isDec decQ stepF lexF tokF OwnT
set_option maxRecDepth 100000 in
set_option maxHeartbeats 4000000 in
theorem lexer_Shape (w : World) (v : Value) (ts : List Tok) (h : Toks w v ts) :
    Calls Tryd.prog 14 #[v] w fun e w' => e = .returned (.string ⟨(ts.map shapeC).toArray⟩) ∧ Ext w w' := by
  obtain ⟨a, c, rfl, hlen, hcells⟩ := h
  go_enter Tryd.func14, Tryd.ntmps14
  go_upto_region 2 with (fail)
  obtain ⟨w3, p, e1, e2, h1, hE⟩ := box1 w (.cells #[.pointer none, .slice none 0 0] 57)
  have hb0 : Lib.IsBuilder 57 5 w.heap.size p (Lib.byteCells (([] : List Tok).map shapeC)) w3 := by subst e1; subst e2; exact bld_new w w.heap.size (Nat.le_refl _)
  rw [e1, e2]
  clear e1 e2 h1
  go_wp2_with (first | fail)
  go_loopw [8] (fun i w' => ∃ k : Nat, k ≤ ts.length ∧ i = .int .i64 k ∧ Lib.IsBuilder 57 5 w.heap.size p (Lib.byteCells ((ts.take k).map shapeC)) w' ∧ Ext w w') (fun i _ => ts.length - (intOf i).toNat)
  case atStart => exact ⟨0, by omega, rfl, hb0, hE⟩
  case round =>
    clear hb0 hE
    obtain ⟨k, hk, rfl, hb, hE⟩ := hrel
    by_cases hlt : k < ts.length
    · rcases hcells with rfl | ⟨b, o, rfl, hbl, hcells⟩
      · simp at hlt
      obtain ⟨c1, c2, c3⟩ := hcells k hlt
      replace c1 := (hE.cell (p := ⟨b, o + k * 3, none⟩) hbl).trans c1
      replace c2 := (hE.cell (p := ⟨b, o + k * 3 + 1, none⟩) hbl).trans c2
      replace c3 := (hE.cell (p := ⟨b, o + k * 3 + 2, none⟩) hbl).trans c3
      clear hcells
      go_upto_region 6 with (fail)
      obtain ⟨w4, q, e1, e2, h2, hE4⟩ := box1 wr (.cells #[.int .i64 ts[k].kind, .int .i64 (ts[k].pos : Int), .string ⟨ts[k].text.toArray⟩] 28)
      rw [e1, e2]
      clear e1 e2 c1 c2 c3
      replace hb := isb_ext hb hE4
      replace hE := hE.trans' hE4
      clear hE4
      have q0 := (cell_of h2 0 _ rfl).1
      have q1 := (cell_of h2 1 _ rfl).1
      have q2 := (cell_of h2 2 _ rfl).1
      have hnx := shape_next hlt
      have hlb : (Lib.byteCells ((ts.take k).map shapeC)).length ≤ 200000 := by rw [byteCells_len]; simp; omega
      have hszB := hE.size
      generalize Lib.byteCells ((ts.take k).map shapeC) = bs at *
      obtain ⟨bs', hbs'⟩ : ∃ bs', Lib.byteCells ((ts.take (k + 1)).map shapeC) = bs' := ⟨_, rfl⟩
      rw [hbs'] at hnx
      have HBS := Lib.hid hbs'
      clear hbs'
      unfold shapeC at hnx
      generalize ts[k].kind = kd at *
      generalize ts[k].text = x at *
      by_cases k1 : kd = 1
      · subst k1
        have HN := Lib.hid (hnx.trans (by rw [if_pos rfl]; rfl) : bs' = bs ++ [.int .u8 110])
        clear hnx
        go_wp2_with (go_at_call 29; refine (bld_WriteByte w.heap.size p bs 110 _ (by exact hb) (by omega) (by exact hszB)).mono ?_; rintro e w5 ⟨rfl, hb5, hE5⟩)
        go_roundw
        case rel => exact ⟨k + 1, by omega, by go_num, by rw [HBS.out, HN.out]; exact hb5, hE.trans hE5⟩
        case measure => simp [intOf]; omega
      · have b1 : (kd == 1) = false := by simpa using k1
        rw [if_neg k1] at hnx
        by_cases k2 : kd = 2
        · subst k2
          have HN := Lib.hid (hnx.trans (by rw [if_pos rfl]; rfl) : bs' = bs ++ [.int .u8 100])
          clear hnx k1
          go_wp2_with (go_at_call 29; refine (bld_WriteByte w.heap.size p bs 100 _ (by exact hb) (by omega) (by exact hszB)).mono ?_; rintro e w5 ⟨rfl, hb5, hE5⟩)
          go_roundw
          case rel => exact ⟨k + 1, by omega, by go_num, by rw [HBS.out, HN.out]; exact hb5, hE.trans hE5⟩
          case measure => simp [intOf]; omega
        · have b2 : (kd == 2) = false := by simpa using k2
          rw [if_neg k2] at hnx
          by_cases k3 : kd = 3
          · subst k3
            by_cases hx : x.length = 1
            · rw [if_pos ⟨rfl, hx⟩] at hnx
              have HN := Lib.hid (hnx.trans (by rw [strCells_one hx]) : bs' = bs ++ Lib.strCells ⟨x.toArray⟩)
              have b4 : ((⟨x.toArray⟩ : ByteArray).size : Int) = 1 := by simp [ByteArray.size, hx]
              have b5 : (⟨x.toArray⟩ : ByteArray).size = 1 := by simp [ByteArray.size, hx]
              generalize (⟨x.toArray⟩ : ByteArray) = xb at *
              have B5 := Lib.hid b5
              clear hnx k1 k2 hx b5
              go_wp2_with (go_at_call 30; refine (bld_WriteString w.heap.size p bs xb _ (by exact hb) (by have := B5.out; omega) (by exact hszB)).mono ?_; rintro e w5 ⟨rfl, hb5, hE5⟩)
              go_roundw
              case rel => exact ⟨k + 1, by omega, by go_num, by rw [HBS.out, HN.out]; exact hb5, hE.trans hE5⟩
              case measure => simp [intOf]; omega
            · rw [if_neg (fun h => hx h.2)] at hnx
              have HN := Lib.hid hnx
              have b4 : (((⟨x.toArray⟩ : ByteArray).size : Int) == 1) = false := by simp [ByteArray.size]; omega
              generalize (⟨x.toArray⟩ : ByteArray) = xb at *
              clear hnx k1 k2 hx
              go_wp2_with (go_at_call 29; refine (bld_WriteByte w.heap.size p bs 63 _ (by exact hb) (by omega) (by exact hszB)).mono ?_; rintro e w5 ⟨rfl, hb5, hE5⟩)
              go_roundw
              case rel => exact ⟨k + 1, by omega, by go_num, by rw [HBS.out, HN.out]; exact hb5, hE.trans hE5⟩
              case measure => simp [intOf]; omega
          · have b3 : (kd == 3) = false := by simpa using k3
            rw [if_neg (fun h => k3 h.1)] at hnx
            have HN := Lib.hid hnx
            clear hnx
            go_wp2_with (go_at_call 29; refine (bld_WriteByte w.heap.size p bs 63 _ (by exact hb) (by omega) (by exact hszB)).mono ?_; rintro e w5 ⟨rfl, hb5, hE5⟩)
            go_roundw
            case rel => exact ⟨k + 1, by omega, by go_num, by rw [HBS.out, HN.out]; exact hb5, hE.trans hE5⟩
            case measure => simp [intOf]; omega
    · obtain rfl : k = ts.length := by omega
      rw [List.take_length] at hb
      have hszB := hE.size
      go_wp2_with (go_at_call 31; refine (Tryd.Builder_String_any w.heap.size p _ _ hb hszB).mono ?_; rintro e w5 ⟨rfl, hE5⟩)
      go_ret
      exact ⟨rfl, hE.trans hE5⟩
end Go.Proofs.YtechjiiijiipdaaDoor

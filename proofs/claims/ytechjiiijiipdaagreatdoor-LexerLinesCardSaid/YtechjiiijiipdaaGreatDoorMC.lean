/- Walks: strings.Builder. Walks: lexer.Shape, Length. Walk: lexer.Length. Walks over the reference: trim, compare, limbs. Walks over the reference: signed, FromInt64, Same of integers and of fractions. Walks over the reference: fractions: unit, FromInt64, Same. Tokens compared; walk: swarfref21.Same. Walk: swarflaw21.own. Walk: swarflaw21.awake. Names: what the lexer makes of them. Walks: the names of the reference and of the lexer. Walks over the reference: plus, minus, times, by, short of limbs. Walks over the reference: times, by, short of limbs. Walk over the reference: parts (long division). -/
import Derived.Test.YtechjiiijiipdaaGreatDoorMB
import Derived.Shelf.Strings.Builder1
import Derived.Lib.Builder
import Derived.Lib.UnsafeStr
import Derived.Lib.AppendStr
import Derived.Laws.Externs
import Derived.Test.YtechjiiijiipdaaGreatDoorMA
import Derived.Laws.StructEq
namespace Go.Proofs.YtechjiiijiipdaaGreatDoor
open Go.RowKit
set_option linter.unusedSimpArgs false
set_option linter.unusedVariables false
theorem Tryz.sizeBld : (Tryz.prog.info? 145).map (·.size) = some 2 := by kernel_rfl
set_option maxHeartbeats 1000000 in
set_option maxRecDepth 100000 in
theorem bld_used (b : Nat) (w : World) (h0 : w.cell? ⟨b, 0, none⟩ = some (.pointer (some ⟨b, 0, none⟩))) :
    Calls Tryz.prog 176 #[.pointer (some ⟨b, 0, none⟩)] w fun e w' => e = .returned (.tuple #[]) ∧ w = w' := by
  obtain ⟨j, hj, _⟩ := Option.map_eq_some_iff.1 Tryz.sizeBld
  go_enter Tryz.func176, Tryz.ntmps176
  go_wp2
  rw [Lib.run_neq_ptr_same w _ Tryz.underlying142 hj]
  go_wp2
  go_end0
  exact ⟨rfl, rfl⟩
set_option maxHeartbeats 1000000 in
set_option maxRecDepth 100000 in
theorem bld_fresh (b : Nat) (w : World) (h0 : w.cell? ⟨b, 0, none⟩ = some (.pointer none)) (hsh : w.shape? b = some (145, 2)) (hfz : w.frozen? ⟨b, 0, none⟩ = false) :
    Calls Tryz.prog 176 #[.pointer (some ⟨b, 0, none⟩)] w fun e w' => e = .returned (.tuple #[]) ∧ w' = w.setCell ⟨b, 0, none⟩ (.pointer (some ⟨b, 0, none⟩)) := by
  obtain ⟨j, hj, hjs⟩ := Option.map_eq_some_iff.1 Tryz.sizeBld
  go_enter Tryz.func176, Tryz.ntmps176
  go_wp2
  rw [Lib.run_to_unsafe w ⟨b, 0, none⟩ Tryz.underlying142 Tryz.underlying205 hj (by rw [hjs]; decide) hsh (Nat.zero_lt_succ 1)]
  simp only [Result.andThen]
  rw [Oper.upon_value]
  go_wp2
  rw [run_callFunc_extern Tryz.func216 (by kernel_rfl) (by kernel_rfl) (by kernel_rfl) (e := Extern.AbiNoEscape.same) (by kernel_rfl)]
  rw [Lib.run_noEscape]
  simp only [Result.andThen]
  rw [Oper.upon_value]
  go_wp2
  rw [Lib.run_from_unsafe w ⟨b, 0, none⟩ Tryz.underlying205 Tryz.underlying142 hj hsh (by kernel_rfl)]
  simp only [Result.andThen]
  rw [Oper.upon_value]
  go_wp2
  go_end0
  exact ⟨rfl, rfl⟩
/-- A builder that holds the bytes l. -/
abbrev IsB (B b : Nat) (l : List UInt8) (w : World) : Prop := Lib.IsBuilder 145 5 B b (Lib.byteCells l) w
theorem bld_copyCheck (B b : Nat) (bs : List Value) (w : World) (h : Lib.IsBuilder 145 5 B b bs w) :
    Calls Tryz.prog 176 #[.pointer (some ⟨b, 0, none⟩)] w fun e w' => e = .returned (.tuple #[]) ∧ Lib.BuilderAt 145 5 B b (.pointer (some ⟨b, 0, none⟩)) bs w' ∧ Below B w w' := by
  rcases h with h | h
  · refine (bld_fresh b w h.cell0 h.shape h.frozen0).mono ?_
    rintro e w' ⟨rfl, rfl⟩
    exact ⟨rfl, h.used _, (Below.refl B w).setCell (p := ⟨b, 0, none⟩) h.1 _⟩
  · refine (bld_used b w h.cell0).mono ?_
    rintro e w' ⟨rfl, rfl⟩
    exact ⟨rfl, h, Below.refl B _⟩
theorem Tryz.infoB : (Tryz.prog.info? 5).map (fun i => (i.zero, i.size, i.bytes)) = some (some (.int .u8 0), 1, 1) := by kernel_rfl
set_option maxHeartbeats 1000000 in
set_option maxRecDepth 100000 in
theorem bld_WriteByte (B b : Nat) (bs : List Value) (c : Int) (w : World) (h : Lib.IsBuilder 145 5 B b bs w) (hlen : bs.length < 1000000000) (hBw : B ≤ w.heap.size) :
    Calls Tryz.prog 123 #[.pointer (some ⟨b, 0, none⟩), .int .u8 c] w fun e w' => e = .returned .nilIface ∧ Lib.IsBuilder 145 5 B b (bs ++ [.int .u8 c]) w' ∧ Below B w w' := by
  obtain ⟨i0, hi, hz0, hz1, hz2⟩ := info_parts Tryz.infoB
  have HC := Lib.hid (bld_copyCheck B b bs w h)
  clear h
  go_enter Tryz.func123, Tryz.ntmps123
  go_wp2_with (first | fail)
  refine HC.out.mono ?_
  rintro e w1 ⟨rfl, h1, hb1⟩
  obtain ⟨hB, v, hbk, hown, hne⟩ := h1
  have c0 : w1.cell? ⟨b, 0, none⟩ = some (.pointer (some ⟨b, 0, none⟩)) := by rw [Lib.cell_of_heap hbk]; rfl
  have c1 : w1.cell? ⟨b, 1, none⟩ = some v := by rw [Lib.cell_of_heap hbk]; rfl
  go_wp2_with (at_builtin; refine wpList_append_own _ rfl _ _ 143 rfl B 5 i0 (.int .u8 0) 1 1 Tryz.underlying143 hi hz0 hz1 hz2 rfl (by decide) _ _ _ rfl (hown.alloc _) ⟨w1.heap.size, 0, none⟩ 1 1 [.int .u8 c] rfl rfl ?c1 ?c2 ?c3 ?c4 ?c5 ?_)
  case c1 =>
    intro j u hj
    match j, hj with
    | 0, hj => simp at hj; subst hj; simp [Addr.add]
  case c2 => intro u hu; simp at hu; subst hu; rfl
  case c3 => unfold maxLen; omega
  case c4 => omega
  case c5 => have := hb1.size; simp; omega
  intro v' w2 hown' hgrow _
  have hlt : b < w1.heap.size := (Array.getElem?_eq_some_iff.1 hbk).1
  have hb2 : w2.heap[b]? = some (.cells #[.pointer (some ⟨b, 0, none⟩), v] 145 (0, 0)) := by
    rw [hgrow.block b (by simp; omega) (fun e => hne e.symm), Lib.alloc_old w1 _ b hlt]
    exact hbk
  have d0 : w2.cell? ⟨b, 0, none⟩ = some (.pointer (some ⟨b, 0, none⟩)) := by rw [Lib.cell_of_heap hb2]; rfl
  have d1 : w2.cell? ⟨b, 1, none⟩ = some v := by rw [Lib.cell_of_heap hb2]; rfl
  have f1 : w2.frozen? ⟨b, 1, none⟩ = false := Lib.frozen_of_heap hb2 1
  obtain ⟨g, cap, rfl⟩ : ∃ g cap, v' = .slice (some ⟨g, 0, none⟩) (bs.length + 1) cap := by
    rcases hown'.2 with ⟨_, h0⟩ | ⟨g, cap, cur, hv, _⟩
    · omega
    · exact ⟨g, cap, hv⟩
  go_wp2
  go_ret
  refine ⟨rfl, ?_, ?_⟩
  · exact .inr (Lib.BuilderAt.put (T := 145) (e := 5) hB hb2 (bs' := bs ++ [.int .u8 c]) (by simpa using hown') (by decide))
  · exact ((hb1.alloc (by have := hb1.size; omega) _).grown hgrow (by have := hb1.size; simp; omega) (fun k hk => (hown.lt k hk).1)).setCell (p := ⟨b, 1, none⟩) hB _
set_option maxHeartbeats 1000000 in
set_option maxRecDepth 100000 in
theorem bld_WriteString (B b : Nat) (bs : List Value) (s : ByteArray) (w : World) (h : Lib.IsBuilder 145 5 B b bs w) (hlen : bs.length + s.size < 1000000000) (hBw : B ≤ w.heap.size) :
    Calls Tryz.prog 124 #[.pointer (some ⟨b, 0, none⟩), .string s] w fun e w' => e = .returned (.tuple #[.int .i64 s.size, .nilIface]) ∧ Lib.IsBuilder 145 5 B b (bs ++ Lib.strCells s) w' ∧ Below B w w' := by
  obtain ⟨i0, hi, hz0, hz1, hz2⟩ := info_parts Tryz.infoB
  have HC := Lib.hid (bld_copyCheck B b bs w h)
  clear h
  go_enter Tryz.func124, Tryz.ntmps124
  go_wp2_with (first | fail)
  refine HC.out.mono ?_
  rintro e w1 ⟨rfl, h1, hb1⟩
  obtain ⟨hB, v, hbk, hown, hne⟩ := h1
  have c0 : w1.cell? ⟨b, 0, none⟩ = some (.pointer (some ⟨b, 0, none⟩)) := by rw [Lib.cell_of_heap hbk]; rfl
  have c1 : w1.cell? ⟨b, 1, none⟩ = some v := by rw [Lib.cell_of_heap hbk]; rfl
  go_wp2_with (at_builtin; refine Lib.wpList_append_own_string _ rfl _ _ 143 9 rfl B 5 i0 Tryz.underlying143 Tryz.underlying9 hi hz0 hz1 hz2 _ _ _ rfl hown s rfl ?c3 ?c4 ?c5 ?_)
  case c3 => unfold maxLen; omega
  case c4 => omega
  case c5 => have := hb1.size; omega
  intro v' w2 hown' hgrow _
  have hlt : b < w1.heap.size := (Array.getElem?_eq_some_iff.1 hbk).1
  have hb2 : w2.heap[b]? = some (.cells #[.pointer (some ⟨b, 0, none⟩), v] 145 (0, 0)) := by
    rw [hgrow.block b hlt (fun e => hne e.symm)]
    exact hbk
  have d0 : w2.cell? ⟨b, 0, none⟩ = some (.pointer (some ⟨b, 0, none⟩)) := by rw [Lib.cell_of_heap hb2]; rfl
  have d1 : w2.cell? ⟨b, 1, none⟩ = some v := by rw [Lib.cell_of_heap hb2]; rfl
  have f1 : w2.frozen? ⟨b, 1, none⟩ = false := Lib.frozen_of_heap hb2 1
  obtain ⟨ao, n', cap, rfl⟩ : ∃ ao n' cap, v' = .slice ao n' cap := by
    rcases hown'.2 with ⟨hv, _⟩ | ⟨g, cap, cur, hv, _⟩
    · exact ⟨_, _, _, hv⟩
    · exact ⟨_, _, _, hv⟩
  go_wp2
  go_ret2
  refine ⟨rfl, ?_, ?_⟩
  · exact .inr (Lib.BuilderAt.put (T := 145) (e := 5) hB hb2 (bs' := bs ++ Lib.strCells s) (by simpa [Lib.strCells_length] using hown') (by decide))
  · exact (hb1.grown hgrow (by have := hb1.size; omega) (fun k hk => (hown.lt k hk).1)).setCell (p := ⟨b, 1, none⟩) hB _
/-- 'var out strings.Builder'. -/
theorem bld_new (w : World) (B : Nat) (hB : B ≤ w.heap.size) : Lib.IsBuilder 145 5 B w.heap.size [] (w.alloc (.cells #[.pointer none, .slice none 0 0] 145)) :=
  .inl ⟨hB, .slice none 0 0, heap_alloc_new _ _, World.ownsRow_nil _ _ _ _, by simp [Value.ownBlock]⟩
theorem ownsRow_ext {w w' : World} {base : Nat} {e : TypeId} {size : Nat} {v : Value} {n : Nat} {xs : List Value} (h : w.ownsRow base e size v n xs) (x : Ext w w') : w'.ownsRow base e size v n xs := by
  refine World.ownsRow.kept (row := none) h ⟨x.os, x.tape, x.output, x.size, fun k hk _ => x.block k hk⟩ ?_
  cases v.ownBlock with
  | none => exact .inl rfl
  | some k => exact .inr (by simp)
theorem isb_ext {T e : TypeId} {B b : Nat} {bs : List Value} {w w' : World} (h : Lib.IsBuilder T e B b bs w) (x : Ext w w') : Lib.IsBuilder T e B b bs w' := by
  rcases h with ⟨h1, v, h2, h3, h4⟩ | ⟨h1, v, h2, h3, h4⟩
  · exact .inl ⟨h1, v, x.blk h2, ownsRow_ext h3 x, h4⟩
  · exact .inr ⟨h1, v, x.blk h2, ownsRow_ext h3 x, h4⟩
theorem byteCells_snoc (l : List UInt8) (c : UInt8) : Lib.byteCells (l ++ [c]) = Lib.byteCells l ++ [.int .u8 (c.toNat : Int)] := by simp [Lib.byteCells]
theorem byteCells_len (l : List UInt8) : (Lib.byteCells l).length = l.length := by simp [Lib.byteCells]
theorem strCells_eq (l : List UInt8) : Lib.strCells ⟨l.toArray⟩ = Lib.byteCells l := by simp [Lib.strCells, Lib.byteCells]
theorem byteCells_append (l m : List UInt8) : Lib.byteCells (l ++ m) = Lib.byteCells l ++ Lib.byteCells m := by simp [Lib.byteCells]
end Go.Proofs.YtechjiiijiipdaaGreatDoor
namespace Go.Proofs.YtechjiiijiipdaaGreatDoor
open Go.RowKit
set_option linter.unusedSimpArgs false
set_option linter.unusedVariables false
/-- One letter for a token. -/
def shapeC (t : Tok) : UInt8 := if t.kind = 1 then 110 else if t.kind = 2 then 100 else if t.kind = 3 ∧ t.text.length = 1 then t.text.getD 0 0 else 63
theorem strCells_one {x : List UInt8} (h : x.length = 1) : Lib.strCells ⟨x.toArray⟩ = [.int .u8 ((x.getD 0 0).toNat : Int)] := by
  match x, h with
  | [c], _ => rfl
theorem shape_next {ts : List Tok} {k : Nat} (h : k < ts.length) : Lib.byteCells ((ts.take (k + 1)).map shapeC) = Lib.byteCells ((ts.take k).map shapeC) ++ [.int .u8 ((shapeC ts[k]).toNat : Int)] := by
  rw [List.take_succ_eq_append_getElem h, List.map_append, List.map_singleton, byteCells_snoc]
attribute [local irreducible] IsInt U32s Dig Norm Own IsRat AllD dec digF isDec decQ stepF lexF tokF OwnT
set_option maxRecDepth 100000 in
set_option maxHeartbeats 4000000 in
theorem lexer_Shape (w : World) (v : Value) (ts : List Tok) (h : Toks w v ts) :
    Calls Tryz.prog 59 #[v] w fun e w' => e = .returned (.string ⟨(ts.map shapeC).toArray⟩) ∧ Ext w w' := by
  obtain ⟨a, c, rfl, hlen, hcells⟩ := h
  go_enter Tryz.func59, Tryz.ntmps59
  go_upto_region 2 with (fail)
  obtain ⟨w3, p, e1, e2, h1, hE⟩ := box1 w (.cells #[.pointer none, .slice none 0 0] 145)
  have hb0 : Lib.IsBuilder 145 5 w.heap.size p (Lib.byteCells (([] : List Tok).map shapeC)) w3 := by subst e1; subst e2; exact bld_new w w.heap.size (Nat.le_refl _)
  rw [e1, e2]
  clear e1 e2 h1
  go_wp2_with (first | fail)
  go_loopw [8] (fun i w' => ∃ k : Nat, k ≤ ts.length ∧ i = .int .i64 k ∧ Lib.IsBuilder 145 5 w.heap.size p (Lib.byteCells ((ts.take k).map shapeC)) w' ∧ Ext w w') (fun i _ => ts.length - (intOf i).toNat)
  case atStart => exact ⟨0, by omega, rfl, hb0, hE⟩
  case round =>
    clear hb0 hE
    obtain ⟨k, hk, rfl, hb, hE⟩ := hrel
    by_cases hlt : k < ts.length
    · rcases hcells with rfl | ⟨b, o, rfl, hbl, hcells⟩
      · simp at hlt
      obtain ⟨c1, c2, c3⟩ := hcells k hlt
      replace c1 := (hE.cell (p := ⟨b, o + k * 3, none⟩) hbl).trans c1
      replace c2 := (hE.cell (p := ⟨b, o + k * 3 + 1, none⟩) hbl).trans c2
      replace c3 := (hE.cell (p := ⟨b, o + k * 3 + 2, none⟩) hbl).trans c3
      clear hcells
      go_upto_region 6 with (fail)
      obtain ⟨w4, q, e1, e2, h2, hE4⟩ := box1 wr (.cells #[.int .i64 ts[k].kind, .int .i64 (ts[k].pos : Int), .string ⟨ts[k].text.toArray⟩] 84)
      rw [e1, e2]
      clear e1 e2 c1 c2 c3
      replace hb := isb_ext hb hE4
      replace hE := hE.trans' hE4
      clear hE4
      have q0 := (cell_of h2 0 _ rfl).1
      have q1 := (cell_of h2 1 _ rfl).1
      have q2 := (cell_of h2 2 _ rfl).1
      have hnx := shape_next hlt
      have hlb : (Lib.byteCells ((ts.take k).map shapeC)).length ≤ 200000 := by rw [byteCells_len]; simp; omega
      have hszB := hE.size
      generalize Lib.byteCells ((ts.take k).map shapeC) = bs at *
      obtain ⟨bs', hbs'⟩ : ∃ bs', Lib.byteCells ((ts.take (k + 1)).map shapeC) = bs' := ⟨_, rfl⟩
      rw [hbs'] at hnx
      have HBS := Lib.hid hbs'
      clear hbs'
      unfold shapeC at hnx
      generalize ts[k].kind = kd at *
      generalize ts[k].text = x at *
      by_cases k1 : kd = 1
      · subst k1
        have HN := Lib.hid (hnx.trans (by rw [if_pos rfl]; rfl) : bs' = bs ++ [.int .u8 110])
        clear hnx
        go_wp2_with (go_at_call 123; refine (bld_WriteByte w.heap.size p bs 110 _ (by exact hb) (by omega) (by exact hszB)).mono ?_; rintro e w5 ⟨rfl, hb5, hE5⟩)
        go_roundw
        case rel => exact ⟨k + 1, by omega, by go_num, by rw [HBS.out, HN.out]; exact hb5, hE.trans hE5⟩
        case measure => simp [intOf]; omega
      · have b1 : (kd == 1) = false := by simpa using k1
        rw [if_neg k1] at hnx
        by_cases k2 : kd = 2
        · subst k2
          have HN := Lib.hid (hnx.trans (by rw [if_pos rfl]; rfl) : bs' = bs ++ [.int .u8 100])
          clear hnx k1
          go_wp2_with (go_at_call 123; refine (bld_WriteByte w.heap.size p bs 100 _ (by exact hb) (by omega) (by exact hszB)).mono ?_; rintro e w5 ⟨rfl, hb5, hE5⟩)
          go_roundw
          case rel => exact ⟨k + 1, by omega, by go_num, by rw [HBS.out, HN.out]; exact hb5, hE.trans hE5⟩
          case measure => simp [intOf]; omega
        · have b2 : (kd == 2) = false := by simpa using k2
          rw [if_neg k2] at hnx
          by_cases k3 : kd = 3
          · subst k3
            by_cases hx : x.length = 1
            · rw [if_pos ⟨rfl, hx⟩] at hnx
              have HN := Lib.hid (hnx.trans (by rw [strCells_one hx]) : bs' = bs ++ Lib.strCells ⟨x.toArray⟩)
              have b4 : ((⟨x.toArray⟩ : ByteArray).size : Int) = 1 := by simp [ByteArray.size, hx]
              have b5 : (⟨x.toArray⟩ : ByteArray).size = 1 := by simp [ByteArray.size, hx]
              generalize (⟨x.toArray⟩ : ByteArray) = xb at *
              have B5 := Lib.hid b5
              clear hnx k1 k2 hx b5
              go_wp2_with (go_at_call 124; refine (bld_WriteString w.heap.size p bs xb _ (by exact hb) (by have := B5.out; omega) (by exact hszB)).mono ?_; rintro e w5 ⟨rfl, hb5, hE5⟩)
              go_roundw
              case rel => exact ⟨k + 1, by omega, by go_num, by rw [HBS.out, HN.out]; exact hb5, hE.trans hE5⟩
              case measure => simp [intOf]; omega
            · rw [if_neg (fun h => hx h.2)] at hnx
              have HN := Lib.hid hnx
              have b4 : (((⟨x.toArray⟩ : ByteArray).size : Int) == 1) = false := by simp [ByteArray.size]; omega
              generalize (⟨x.toArray⟩ : ByteArray) = xb at *
              clear hnx k1 k2 hx
              go_wp2_with (go_at_call 123; refine (bld_WriteByte w.heap.size p bs 63 _ (by exact hb) (by omega) (by exact hszB)).mono ?_; rintro e w5 ⟨rfl, hb5, hE5⟩)
              go_roundw
              case rel => exact ⟨k + 1, by omega, by go_num, by rw [HBS.out, HN.out]; exact hb5, hE.trans hE5⟩
              case measure => simp [intOf]; omega
          · have b3 : (kd == 3) = false := by simpa using k3
            rw [if_neg (fun h => k3 h.1)] at hnx
            have HN := Lib.hid hnx
            clear hnx
            go_wp2_with (go_at_call 123; refine (bld_WriteByte w.heap.size p bs 63 _ (by exact hb) (by omega) (by exact hszB)).mono ?_; rintro e w5 ⟨rfl, hb5, hE5⟩)
            go_roundw
            case rel => exact ⟨k + 1, by omega, by go_num, by rw [HBS.out, HN.out]; exact hb5, hE.trans hE5⟩
            case measure => simp [intOf]; omega
    · obtain rfl : k = ts.length := by omega
      rw [List.take_length] at hb
      have hszB := hE.size
      go_wp2_with (go_at_call 125; refine (Tryz.Builder_String_any w.heap.size p _ _ hb hszB).mono ?_; rintro e w5 ⟨rfl, hE5⟩)
      go_ret
      exact ⟨rfl, hE.trans hE5⟩
end Go.Proofs.YtechjiiijiipdaaGreatDoor
namespace Go.Proofs.YtechjiiijiipdaaGreatDoor
open Go.RowKit
set_option linter.unusedSimpArgs false
set_option linter.unusedVariables false
theorem isDec_le {l : List UInt8} (h : isDec l = true) : l.length ≤ 65536 := by
  obtain ⟨_, _, _, _, _, _, h, _⟩ := digF_ok h
  exact h
attribute [local irreducible] IsInt U32s Dig Norm Own IsRat AllD dec digF isDec decQ
set_option maxRecDepth 100000 in
set_option maxHeartbeats 2000000 in
theorem lexer_Length_ok (w : World) (pos : Int) (x : ByteArray) (h : isDec x.data.toList = true) :
    Calls Tryz.prog 57 #[.agg #[.int .i64 2, .int .i64 pos, .string x]] w fun e w' => ∃ v, e = .returned (.tuple #[v, .bool true]) ∧ IsRat (x.size / 9 + 103) w' v (decQ x.data.toList * 1000) ∧ Ext w w' := by
  have hx6 : x.size ≤ 65536 := by rw [Lib.size_eq]; exact isDec_le h
  have HP := Lib.hid (fun w => decimal_Parse_ok x w (by omega) h)
  clear h
  go_enter Tryz.func57, Tryz.ntmps57
  go_upto_region 1 with (fail)
  obtain ⟨w3, p, r, e1, e2, e3, h1, h3, hpr, hE⟩ := box2 w (.cells #[.int .i64 2, .int .i64 pos, .string x] 84) (.cells #[.bool false, .slice none 0 0, .bool false, .slice none 0 0] 55)
  rw [e1, e2, e3]
  have hr0 : w.heap.size ≤ r := by omega
  clear e1 e2 e3
  obtain ⟨Rp0, _⟩ := rules h1 0 _ rfl
  obtain ⟨Rp1, _⟩ := rules h1 1 _ rfl
  obtain ⟨Rp2, _⟩ := rules h1 2 _ rfl
  have hX3 := Ext.rfl' w3
  go_upto_region 6 with (go_at_call 40; refine (HP.out _).mono ?_; rintro e w5 ⟨vx, rfl, hx, hE5⟩; obtain ⟨nxn, axn, kxn, cxn, nxd, axd, kxd, cxd, rfl, _, _⟩ := IsRat.form hx)
  obtain ⟨w6, q, f1, f2, k2, hE6⟩ := box1 w5 (.cells #[.bool nxn, .slice axn kxn cxn, .bool nxd, .slice axd kxd cxd] 55)
  rw [f1, f2]
  clear f1 f2
  have hX6 := (show Ext w3 w6 by exact exttI)
  replace h3 := hX6.blk h3
  replace hE := hE.trans' hX6
  replace hx := hx.ext hE6
  clear HP hX3 hX6 hE6 hE5 Rp0 Rp1 Rp2
  obtain ⟨Rq0, _⟩ := rules k2 0 _ rfl
  obtain ⟨Rq1, _⟩ := rules k2 1 _ rfl
  obtain ⟨Rq2, _⟩ := rules k2 2 _ rfl
  obtain ⟨Rq3, _⟩ := rules k2 3 _ rfl
  obtain ⟨Rr0, Fr0⟩ := rules h3 0 _ rfl
  obtain ⟨Rr1, Fr1⟩ := rules h3 1 _ rfl
  obtain ⟨Rr2, Fr2⟩ := rules h3 2 _ rfl
  obtain ⟨Rr3, Fr3⟩ := rules h3 3 _ rfl
  (refine wp_region_noPanic ?_; refine wp_region_head 3 (fun w' => Ext w6 w') (by kernel_rfl) (by kernel_rfl) ?_ (fun hHeld => ?_); (focus (show Ext _ _; exact exttI)); (try simp only [List.size_toArray, List.length_cons, List.length_nil]))
  (refine wpHead_take 0 (by kernel_rfl) (fun _ _ _ _ _ h => h) (by assumption) ?_; simp only [atOp]; refine ⟨by rfl, ?_, ?_, ?_⟩; rotate_left; (focus (intro w' hSw; (try dsimp only at hSw); go_simp; (try with_reducible rfl))); (try simp only [Act.put, List.setIfInBounds_toArray, List.set_cons_zero, List.set_cons_succ]))
  (refine wpHead_only 1 (by kernel_rfl) ?_; simp only [atOp]; intro K hK; go_simp; ((go_at_call 122; refine (rational_FromInt64 _ 1000 (by omega) (by omega)).mono ?_; rintro e w7 ⟨vy, rfl, hy, hEy⟩; obtain ⟨nyn, ayn, kyn, cyn, nyd, ayd, kyd, cyd, rfl, _, _⟩ := IsRat.form hy); have hXw7 := (show Ext w6 w7 by exact exttI)); refine hK.out _ _ ?_ (fun hHeld => ?_); (focus (show Ext _ _; exact exttI)); clear hK K; (try simp only [Act.put, List.setIfInBounds_toArray, List.set_cons_zero, List.set_cons_succ]))
  (refine wpHead_only 2 (by kernel_rfl) ?_; simp only [atOp]; intro K hK; go_simp; ((go_at_call 121; refine (rational_Mul _ _ _ _ _ _ _ (hx.ext (by exact exttI)) (hy.ext (by exact exttI)) (by omega)).mono ?_; rintro e w8 ⟨vz, rfl, hz, hEz⟩; obtain ⟨nzn, azn, kzn, czn, nzd, azd, kzd, czd, rfl, _, _⟩ := IsRat.form hz); have hXw8 := (show Ext w6 w8 by exact exttI)); refine hK.out _ _ ?_ (fun hHeld => ?_); (focus (show Ext _ _; exact exttI)); clear hK K; (try simp only [Act.put, List.setIfInBounds_toArray, List.set_cons_zero, List.set_cons_succ]))
  (refine wpHead_done (by kernel_rfl) ?_; simp only [List.drop_succ_cons, List.drop_zero])
  have hE9 : Ext w w8 := by exact exttI
  have k9 := hXw8.blk h3
  have hbx : Box w8 r := Box.mk k9 rfl
  have hB : But [r] w8 w8 := by exact buttI
  have hBr0 := Rr0 _ hXw8
  have hBr1 := Rr1 _ hXw8
  have hBr2 := Rr2 _ hXw8
  have hBr3 := Rr3 _ hXw8
  have hF0 := Fr0 _ hXw8
  have hF1 := Fr1 _ hXw8
  have hF2 := Fr2 _ hXw8
  have hF3 := Fr3 _ hXw8
  go_wp2_with fail
  refine NoPanic.normal ?_
  go_wp2_with fail
  exact bodyPost_ret (v := .tuple #[.agg #[.bool nzn, .slice azn kzn czn, .bool nzd, .slice azd kzd czd], .bool true]) (by simp [results, Tryz.results57, go_sem, hBr0, hBr1, hBr2, hBr3]) rfl ⟨_, rfl, IsRat.put4 hB (by simp) ((hz.mono (by omega)).cast rfl), (((((hB.set _ _ rfl (by simp)).set _ _ rfl (by simp)).set _ _ rfl (by simp)).set _ _ rfl (by simp)).old hE9 (by simp; omega))⟩
end Go.Proofs.YtechjiiijiipdaaGreatDoor
namespace Go.Proofs.YtechjiiijiipdaaGreatDoor
open Go.RowKit
set_option linter.unusedSimpArgs false
set_option linter.unusedVariables false

set_option maxHeartbeats 400000 in
theorem ref01_trim (w : World) (a : Option Addr) (c : Nat) (l : List Nat) (h : U32s w (.slice a l.length c) l) :
    Calls Tryz.prog 94 #[.slice a l.length c] w fun e w' => e = .returned (.slice a (trimL l).length c) ∧ U32s w (.slice a (trimL l).length c) (trimL l) ∧ w = w' := by
  obtain ⟨a', c', hv, hc, hb, hn, hz, h⟩ := h
  injection hv with h1 _ h3
  subst h1 h3
  have HZ := Lib.hid hz
  clear hz
  go_enter Tryz.func94, Tryz.ntmps94
  go_wp2
  go_loop [0] (fun s => ∃ k : Nat, k ≤ l.length ∧ s = .slice a k c ∧ Hid (trimL (l.take k) = trimL l)) (fun s => match s with | .slice _ n _ => n | _ => 0)
  case atStart => exact ⟨l.length, Nat.le_refl _, rfl, (by rw [List.take_length] : trimL (l.take l.length) = trimL l)⟩
  case round =>
    obtain ⟨k, hk, rfl, ht⟩ := hrel
    rcases Nat.eq_zero_or_pos k with rfl | hk0
    · go_wp2
      go_ret
      rw [← ht.out]
      exact ⟨rfl, U32s.nil _ _ _ HZ.out, rfl⟩
    · rcases h with rfl | ⟨b, o, rfl, hlt, hcell⟩
      · simp at hk; omega
      have hcl := hcell (k - 1) (by omega)
      have e1 : ((k : Int) - 1) = ((k - 1 : Nat) : Int) := by omega
      by_cases hz : l.getD (k - 1) 0 = 0
      · have ht' := (trim_go hk0 hk hz).symm.trans ht.out
        rw [hz] at hcl
        go_wp2
        go_round
        case rel => exact ⟨k - 1, by omega, rfl, ht'⟩
        case measure => show k - 1 < k; omega
      · have ht2 := Lib.hid ((trim_stop hk0 hk hz).symm.trans ht.out)
        generalize l.getD (k - 1) 0 = d at hcl hz
        have hd : ((d : Int) == 0) = false := by simpa using hz
        go_wp2
        go_ret
        have hlen : (trimL l).length = k := by rw [← ht2.out, List.length_take]; omega
        rw [hlen, ← ht2.out]
        exact ⟨rfl, U32s.take k hk hc hb hn hlt hcell, rfl⟩

set_option maxHeartbeats 1000000 in
theorem ref01_compare (w : World) (v u : Value) (l' m' : List Nat) (hv' : U32s w v l') (hu' : U32s w u m') (hl : Dig l') (hm : Dig m') (nl : Norm l') (nm : Norm m') :
    Calls Tryz.prog 85 #[v, u] w fun e w' => e = .returned (.int .i64 (cmpN (val l') (val m'))) ∧ Drawn w w' := by
  obtain ⟨a, c, rfl, hc', hn'⟩ := hv'.shape
  obtain ⟨a2, c2, rfl, hc2', hn2'⟩ := hu'.shape
  rcases Nat.lt_trichotomy l'.length m'.length with h | h | h
  · have hcmp : Hid (cmpN (val l') (val m') = -1) := by have := val_lt_of_length hl nm h; unfold cmpN Hid; rw [if_pos this]
    have b1 : ((l'.length : Int) != (m'.length : Int)) = true := by simp; omega
    have b2 : decide (l'.length < m'.length) = true := by simpa using h
    go_enter Tryz.func85, Tryz.ntmps85
    go_wp2
    go_ret
    exact ⟨by rw [hcmp.out]; rfl, Drawn.rfl' _⟩
  · have he := Lib.hid h
    have hne : ((m'.length : Int) != (m'.length : Int)) = false := by simp
    rw [h] at hv' hc' hn' ⊢
    clear h
    go_enter Tryz.func85, Tryz.ntmps85
    go_wp2
    go_loopw [5] (fun s w' => ∃ j : Int, -1 ≤ j ∧ j < (m'.length : Int) ∧ s = .int .i64 j ∧ Hid (l'.drop (j + 1).toNat = m'.drop (j + 1).toNat) ∧ Drawn w w') (fun s _ => (intOf s + 1).toNat)
    case atStart => exact ⟨(m'.length : Int) - 1, by omega, by omega, rfl, (by rw [List.drop_of_length_le (by have := he.out; omega), List.drop_of_length_le (by omega)] : l'.drop _ = m'.drop _), Drawn.rfl' _⟩
    case round =>
      obtain ⟨j, hj0, hj1, rfl, hd, n, rfl⟩ := hrel
      have hD : Drawn w (w.drewN n) := ⟨n, rfl⟩
      by_cases hj : j = -1
      · subst hj
        have hcmp : Hid (cmpN (val l') (val m') = 0) := cmp_eq hd.out
        go_wp2
        go_ret
        exact ⟨by rw [hcmp.out]; rfl, hD⟩
      · obtain ⟨k, rfl⟩ : ∃ k : Nat, j = k := ⟨j.toNat, by omega⟩
        have hk : k < m'.length := by omega
        obtain ⟨b, o, rfl, _, hc1⟩ := hv'.cell (k := k) (by have := he.out; omega)
        obtain ⟨b2, o2, rfl, _, hc2⟩ := hu'.cell (k := k) (by omega)
        have e0 := Lib.hid (@cmp_lt l' m' hl he.out (k + 1) (by omega) (by have := he.out; omega) hd.out)
        have e1 := Lib.hid (@cmp_gt l' m' hm he.out (k + 1) (by omega) (by have := he.out; omega) hd.out)
        have e2 := Lib.hid (@drop_go l' m' he.out (k + 1) (by omega) (by have := he.out; omega) hd.out)
        simp only [Nat.add_sub_cancel] at e0 e1 e2
        generalize l'.getD k 0 = x at *
        generalize m'.getD k 0 = y at *
        have hk1 : (k : Int) < (m'.length : Int) := by omega
        have hk0 : 0 ≤ (k : Int) := by omega
        rcases Nat.lt_trichotomy x y with h | h | h
        · have h0 := Lib.hid (e0.out h)
          have h1 : (x : Int) < (y : Int) := by omega
          go_wp2
          go_quiet (fail)
          go_wp2
          go_ret
          exact ⟨by rw [h0.out]; rfl, hD.n _⟩
        · have h0 := Lib.hid (e2.out h)
          subst h
          go_wp2
          go_quiet (fail)
          go_wp2
          go_quiet (fail)
          go_wp2
          go_roundw
          case rel => exact ⟨(k : Int) - 1, by omega, by omega, rfl, (by rw [show ((k : Int) - 1 + 1).toNat = k by omega]; exact h0.out : l'.drop _ = m'.drop _), ⟨_, rfl⟩⟩
          case measure => simp only [intOf]; omega
        · have h0 := Lib.hid (e1.out h)
          have h1 : (y : Int) < (x : Int) := by omega
          go_wp2
          go_quiet (fail)
          go_wp2
          go_quiet (fail)
          go_wp2
          go_ret
          exact ⟨by rw [h0.out]; rfl, (hD.n _).n _⟩
  · have hcmp : Hid (cmpN (val l') (val m') = 1) := by have := val_lt_of_length hm nl h; unfold cmpN Hid; rw [if_neg (by omega), if_pos this]
    have b1 : ((l'.length : Int) != (m'.length : Int)) = true := by simp; omega
    have b2 : decide (l'.length < m'.length) = false := by simp; omega
    go_enter Tryz.func85, Tryz.ntmps85
    go_wp2
    go_ret
    exact ⟨by rw [hcmp.out]; rfl, Drawn.rfl' _⟩

/-- The limbs of a number, the least first, none for 0. -/
def limbs (n : Nat) : List Nat := if h : 0 < n then n % 1000000000 :: limbs (n / 1000000000) else []
termination_by n
decreasing_by omega
theorem limbs_zero : limbs 0 = [] := by rw [limbs]; simp
theorem limbs_pos {n : Nat} (h : 0 < n) : limbs n = n % 1000000000 :: limbs (n / 1000000000) := by
  rw [limbs]; simp [h]
theorem val_limbs : ∀ n : Nat, val (limbs n) = n := by
  intro n
  induction n using Nat.strongRecOn with
  | _ n ih =>
    rcases Nat.eq_zero_or_pos n with rfl | h
    · rw [limbs_zero]; rfl
    · rw [limbs_pos h, val_cons, ih _ (by omega)]; omega
theorem dig_limbs : ∀ n : Nat, Dig (limbs n) := by
  intro n
  induction n using Nat.strongRecOn with
  | _ n ih =>
    rcases Nat.eq_zero_or_pos n with rfl | h
    · rw [limbs_zero]; exact Dig.nil
    · rw [limbs_pos h]; exact Dig.cons.2 ⟨by omega, ih _ (by omega)⟩
theorem limbs_len : ∀ (k n : Nat), n < 1000000000 ^ k → (limbs n).length ≤ k
  | 0, n, h => by obtain rfl : n = 0 := by simpa using h
                  rw [limbs_zero]; simp
  | k + 1, n, h => by
    rcases Nat.eq_zero_or_pos n with rfl | h0
    · rw [limbs_zero]; simp
    · rw [limbs_pos h0, List.length_cons]
      have := limbs_len k (n / 1000000000) (by rw [Nat.pow_succ] at h; exact Nat.div_lt_of_lt_mul (by rw [Nat.mul_comm]; exact h))
      omega
theorem norm_limbs (n : Nat) : Norm (limbs n) := by
  induction n using Nat.strongRecOn with
  | _ n ih =>
    rcases Nat.eq_zero_or_pos n with rfl | h
    · rw [limbs_zero]; rfl
    · have ih' := ih (n / 1000000000) (by omega)
      rw [limbs_pos h]
      unfold Norm at *
      rw [trimL_cons, ih']
      by_cases h0 : limbs (n / 1000000000) = []
      · have : n / 1000000000 = 0 := by rw [← val_limbs (n / 1000000000), h0]; rfl
        rw [if_pos h0, if_neg (by omega), h0]
      · rw [if_neg h0]
def isU64 (n : Nat) : Prop := n < 18446744073709551616
set_option maxRecDepth 100000 in
set_option maxHeartbeats 1000000 in
theorem ref01_limbs (w : World) (u : Nat) (hu : u < 18446744073709551616) :
    Calls Tryz.prog 99 #[.int .u64 (u : Int)] w fun e w' => ∃ v, e = .returned v ∧ U32s w' v (limbs u) ∧ Ext w w' := by
  have h3 : (limbs u).length ≤ 3 := limbs_len 3 u (by omega)
  have HU : isU64 u := hu
  clear hu
  go_enter Tryz.func99, Tryz.ntmps99
  go_wp2_with (first | fail)
  go_loopw [0, 3] (fun x o w' => ∃ (n : Nat) (r : List Nat), x = .int .u64 (n : Int) ∧ isU64 n ∧ Own w.heap.size w' o r ∧ Hid (r ++ limbs n = limbs u) ∧ Ext w w') (fun x _ _ => (intOf x).toNat)
  case atStart => exact ⟨u, [], rfl, HU, Own.nil _ _, by simp [Hid], Ext.rfl' w⟩
  case round =>
    obtain ⟨n, r, rfl, hn, hown, hr, hE⟩ := hrel
    have hrl : r.length ≤ 3 := by have := congrArg List.length hr.out; rw [List.length_append] at this; omega
    by_cases h0 : n = 0
    · subst h0
      go_wp2_with (first | fail)
      go_ret
      have e : r = limbs u := by have := hr.out; rwa [limbs_zero, List.append_nil] at this
      exact ⟨_, rfl, by rw [← e]; exact hown.u32 (by rw [e]; exact (dig_limbs u).u32) (by omega), hE⟩
    · have hp : 0 < (n : Int) := by omega
      have hq := Lib.hid (show n / 1000000000 < n by omega)
      have hnn : n < 18446744073709551616 := hn
      have hq2 : isU64 (n / 1000000000) := by unfold isU64 at *; omega
      have hl := Lib.hid (limbs_pos (by omega : 0 < n))
      go_wp2_with (at_builtin; refine wpList_app1 rfl _ _ rfl rfl rfl hown (d := n % 1000000000) (by first | rfl | omega) (by omega) (by exact hE.size) ?_; intro v' w' hown' hg')
      go_roundw
      case rel => exact ⟨n / 1000000000, r ++ [n % 1000000000], by go_num, hq2, hown', Lib.hid (by rw [List.append_assoc, ← hr.out, hl.out]; rfl), (hE.alloc' _).grown' hg' hown.block⟩
      case measure => simp only [intOf]; have := hq.out; omega
end Go.Proofs.YtechjiiijiipdaaGreatDoor
namespace Go.Proofs.YtechjiiijiipdaaGreatDoor
open Go.RowKit
set_option linter.unusedSimpArgs false
set_option linter.unusedVariables false
attribute [local irreducible] U32s Dig Norm Own
set_option maxRecDepth 100000 in
set_option maxHeartbeats 1000000 in
theorem ref01_signed (w : World) (neg : Bool) (v : Value) (l : List Nat) (h : U32s w v l) (hd : Dig l) :
    Calls Tryz.prog 95 #[.bool neg, v] w fun e w' => ∃ v', e = .returned v' ∧ IsInt l.length w' v' (sgn neg (val l)) ∧ Ext w w' := by
  obtain ⟨a, c, rfl, _, _⟩ := h.shape
  have htl := trimL_length_le l
  go_enter Tryz.func95, Tryz.ntmps95
  go_upto_region 1 with (fail)
  obtain ⟨w3, r, e1, e2, h3, hE⟩ := box1 w (.cells #[.bool false, .slice none 0 0] 53)
  rw [e1, e2]
  have hr0 : w.heap.size ≤ r := by omega
  clear e1 e2
  have ht := ref01_trim w3 a c l (h.ext hE)
  have HT := Lib.hid ht
  clear ht
  obtain ⟨Rr0, Fr0⟩ := rules h3 0 _ rfl
  obtain ⟨Rr1, Fr1⟩ := rules h3 1 _ rfl
  have hX3 := Ext.rfl' w3
  cases neg
  · go_wp2_with (go_at_call 94; refine HT.out.mono ?_; rintro e w' ⟨rfl, hu, rfl⟩)
    have hE9 : Ext w w3 := by exact exttI
    have k9 := hX3.blk h3
    have hbx : Box w3 r := Box.mk k9 rfl
    have hB : But [r] w3 w3 := by exact buttI
    have hBr0 := Rr0 _ hX3
    have hBr1 := Rr1 _ hX3
    exact bodyPost_ret (v := .agg #[.bool false, .slice a (trimL l).length c]) (by simp [results, Tryz.results95, go_sem, hBr0, hBr1]) rfl ⟨_, rfl, IsInt.put (IsInt.mk (neg := false) hu hd htl) hB (by simp) rfl, ((hB.set _ _ rfl (by simp)).set _ _ rfl (by simp)).old hE9 (by simp; omega)⟩
  · go_wp2_with (go_at_call 94; refine HT.out.mono ?_; rintro e w' ⟨rfl, hu, rfl⟩)
    have hE9 : Ext w w3 := by exact exttI
    have k9 := hX3.blk h3
    have hbx : Box w3 r := Box.mk k9 rfl
    have hB : But [r] w3 w3 := by exact buttI
    have hBr0 := Rr0 _ hX3
    have hBr1 := Rr1 _ hX3
    exact bodyPost_ret (v := .agg #[.bool (decide (0 < (trimL l).length)), .slice a (trimL l).length c]) (by simp [results, Tryz.results95, go_sem, hBr0, hBr1]) rfl ⟨_, rfl, IsInt.put (by have := IsInt.mk (neg := true) hu hd htl; simpa using this) hB (by simp) rfl, ((hB.set _ _ rfl (by simp)).set _ _ rfl (by simp)).old hE9 (by simp; omega)⟩
set_option maxRecDepth 100000 in
set_option maxHeartbeats 1000000 in
theorem ref01_FromInt64 (w : World) (n : Int) (h1 : -9223372036854775808 ≤ n) (h2 : n < 9223372036854775808) :
    Calls Tryz.prog 39 #[.int .i64 n] w fun e w' => ∃ v, e = .returned v ∧ IsInt 3 w' v n ∧ Ext w w' := by
  go_enter Tryz.func39, Tryz.ntmps39
  by_cases hn : n < 0
  · obtain ⟨u, rfl⟩ : ∃ u : Nat, n = -(u : Int) := ⟨n.natAbs, by omega⟩
    have hu : u < 18446744073709551616 := by omega
    have ew : IntKind.u64.wrap (-IntKind.u64.wrap (-(u : Int))) = (u : Int) := by
      simp only [IntKind.wrap, IntKind.bits, IntKind.signed]
      simp
      omega
    go_wp2_with (first | fail)
    obtain ⟨w3, r, e1, e2, h3, hE⟩ := box1 w (.cells #[.bool false, .slice none 0 0] 53)
    rw [e1, e2]
    have hr0 : w.heap.size ≤ r := by omega
    clear e1 e2
    obtain ⟨Rr0, Fr0⟩ := rules h3 0 _ rfl
    obtain ⟨Rr1, Fr1⟩ := rules h3 1 _ rfl
    have hX3 := Ext.rfl' w3
    (go_at_call 99; refine (ref01_limbs _ u hu).mono ?_; rintro e w4 ⟨vl, rfl, hl, hEl⟩)
    have hXw4 := (show Ext w3 w4 by exact exttI)
    go_wp2_with ((go_at_call 95; refine (ref01_signed _ _ _ _ (by exact hl) (by exact (dig_limbs u))).mono ?_; rintro e w5 ⟨vx, rfl, hx, hEx⟩; obtain ⟨nx, ax, kx, cx, rfl⟩ := IsInt.form hx); have hXw5 := (show Ext w3 w5 by exact exttI))
    have hE9 : Ext w w5 := by exact exttI
    have k9 := hXw5.blk h3
    have hbx : Box w5 r := Box.mk k9 rfl
    have hB : But [r] w5 w5 := by exact buttI
    have hBr0 := Rr0 _ hXw5
    have hBr1 := Rr1 _ hXw5
    exact bodyPost_ret (v := .agg #[.bool nx, .slice ax kx cx]) (by simp [results, Tryz.results39, go_sem, hBr0, hBr1]) rfl ⟨_, rfl, IsInt.put ((hx.mono (limbs_len 3 u (by omega))).cast (by rw [val_limbs]; simp [sgn])) hB (by simp) rfl, ((hB.set _ _ rfl (by simp)).set _ _ rfl (by simp)).old hE9 (by simp; omega)⟩
  · obtain ⟨u, rfl⟩ : ∃ u : Nat, n = (u : Int) := ⟨n.natAbs, by omega⟩
    have hu : u < 18446744073709551616 := by omega
    go_wp2_with (first | fail)
    obtain ⟨w3, r, e1, e2, h3, hE⟩ := box1 w (.cells #[.bool false, .slice none 0 0] 53)
    rw [e1, e2]
    have hr0 : w.heap.size ≤ r := by omega
    clear e1 e2
    obtain ⟨Rr0, Fr0⟩ := rules h3 0 _ rfl
    obtain ⟨Rr1, Fr1⟩ := rules h3 1 _ rfl
    have hX3 := Ext.rfl' w3
    (go_at_call 99; refine (ref01_limbs _ u hu).mono ?_; rintro e w4 ⟨vl, rfl, hl, hEl⟩)
    have hXw4 := (show Ext w3 w4 by exact exttI)
    go_wp2_with ((go_at_call 95; refine (ref01_signed _ _ _ _ (by exact hl) (by exact (dig_limbs u))).mono ?_; rintro e w5 ⟨vx, rfl, hx, hEx⟩; obtain ⟨nx, ax, kx, cx, rfl⟩ := IsInt.form hx); have hXw5 := (show Ext w3 w5 by exact exttI))
    have hE9 : Ext w w5 := by exact exttI
    have k9 := hXw5.blk h3
    have hbx : Box w5 r := Box.mk k9 rfl
    have hB : But [r] w5 w5 := by exact buttI
    have hBr0 := Rr0 _ hXw5
    have hBr1 := Rr1 _ hXw5
    exact bodyPost_ret (v := .agg #[.bool nx, .slice ax kx cx]) (by simp [results, Tryz.results39, go_sem, hBr0, hBr1]) rfl ⟨_, rfl, IsInt.put ((hx.mono (limbs_len 3 u (by omega))).cast (by rw [val_limbs]; simp [sgn])) hB (by simp) rfl, ((hB.set _ _ rfl (by simp)).set _ _ rfl (by simp)).old hE9 (by simp; omega)⟩
theorem sgn_eq {na nb : Bool} {la lb : List Nat} (pa : na = true → 0 < val la) (pb : nb = true → 0 < val lb) : sgn na (val la) = sgn nb (val lb) ↔ na = nb ∧ val la = val lb := by
  cases na <;> cases nb <;> simp [sgn] at * <;> omega
theorem cmpN_zero {m n : Nat} : (cmpN m n == 0) = decide (m = n) := by
  unfold cmpN
  rw [Bool.eq_iff_iff]
  simp
  split
  · simp; omega
  · split
    · simp; omega
    · simp; omega
set_option maxRecDepth 100000 in
set_option maxHeartbeats 1000000 in
theorem ref01_Same (n m : Nat) (w : World) (va vb : Value) (a b : Int) (ha : IsInt n w va a) (hb : IsInt m w vb b) :
    Calls Tryz.prog 26 #[va, vb] w fun e w' => e = .returned (.bool (decide (a = b))) ∧ Ext w w' := by
  obtain ⟨na, aa, la, ca, rfl, ua, da, nna, lna, sa, qa, _⟩ := IsInt.shape ha; have ea := Lib.hid qa; clear qa
  obtain ⟨nb, ab, lb, cb, rfl, ub, db, nnb, lnb, sb, qb, _⟩ := IsInt.shape hb; have eb := Lib.hid qb; clear qb
  have hse := @sgn_eq na nb la lb (fun h => nna.pos (sa h)) (fun h => nnb.pos (sb h))
  have hdec : decide (a = b) = (na == nb && decide (val la = val lb)) := by
    rw [ea.out, eb.out, Bool.eq_iff_iff]; simp [hse]
  have hz := @cmpN_zero (val la) (val lb)
  rw [hdec]
  clear hdec hse
  generalize hd : decide (val la = val lb) = d at *
  clear hd
  go_enter Tryz.func26, Tryz.ntmps26
  go_upto_region 1 with (fail)
  obtain ⟨w3, p, q, e1, e2, e3, h1, h2, hpq, hE⟩ := box2 w (.cells #[.bool na, .slice aa la.length ca] 53) (.cells #[.bool nb, .slice ab lb.length cb] 53)
  rw [e1, e2, e3]
  clear e1 e2 e3
  obtain ⟨Cp0, Gp0⟩ := cell_of h1 0 _ rfl
  obtain ⟨Cp1, Gp1⟩ := cell_of h1 1 _ rfl
  obtain ⟨Cq0, Gq0⟩ := cell_of h2 0 _ rfl
  obtain ⟨Cq1, Gq1⟩ := cell_of h2 1 _ rfl
  cases na <;> cases nb
  · go_wp2_with (go_at_call 85; refine (ref01_compare _ _ _ la lb (ua.ext hE) (ub.ext hE) da db nna nnb).mono ?_; rintro e w5 ⟨rfl, hD⟩; replace hD := hD.ext)
    go_ret
    exact ⟨rfl, by exact exttI⟩
  · go_wp2
    go_ret
    exact ⟨rfl, hE⟩
  · go_wp2
    go_ret
    exact ⟨rfl, hE⟩
  · go_wp2_with (go_at_call 85; refine (ref01_compare _ _ _ la lb (ua.ext hE) (ub.ext hE) da db nna nnb).mono ?_; rintro e w5 ⟨rfl, hD⟩; replace hD := hD.ext)
    go_ret
    exact ⟨rfl, by exact exttI⟩
end Go.Proofs.YtechjiiijiipdaaGreatDoor
namespace Go.Proofs.YtechjiiijiipdaaGreatDoor
open Go.RowKit
set_option linter.unusedSimpArgs false
set_option linter.unusedVariables false
attribute [local irreducible] IsInt U32s Dig Norm Own IsRat
set_option maxRecDepth 100000 in
theorem ref02_unit (w : World) : Calls Tryz.prog 98 #[] w fun e w' => ∃ v, e = .returned v ∧ IsInt 3 w' v 1 ∧ Ext w w' := by
  go_enter Tryz.func98, Tryz.ntmps98
  go_wp2_with (first | fail)
  obtain ⟨w3, r, e1, e2, h3, hE⟩ := box1 w (.cells #[.bool false, .slice none 0 0] 53)
  rw [e1, e2]
  have hr0 : w.heap.size ≤ r := by omega
  clear e1 e2
  obtain ⟨Rr0, Fr0⟩ := rules h3 0 _ rfl
  obtain ⟨Rr1, Fr1⟩ := rules h3 1 _ rfl
  go_wp2_with ((go_at_call 39; refine (ref01_FromInt64 _ 1 (by omega) (by omega)).mono ?_; rintro e w5 ⟨vx, rfl, hx, hEx⟩; obtain ⟨nx, ax, kx, cx, rfl⟩ := IsInt.form hx); have hXw5 := (show Ext w3 w5 by exact exttI))
  have hE9 : Ext w w5 := by exact exttI
  have k9 := hXw5.blk h3
  have hbx : Box w5 r := Box.mk k9 rfl
  have hB : But [r] w5 w5 := by exact buttI
  have hBr0 := Rr0 _ hXw5
  have hBr1 := Rr1 _ hXw5
  exact bodyPost_ret (v := .agg #[.bool nx, .slice ax kx cx]) (by simp [results, Tryz.results98, go_sem, hBr0, hBr1]) rfl ⟨_, rfl, IsInt.put hx hB (by simp) rfl, ((hB.set _ _ rfl (by simp)).set _ _ rfl (by simp)).old hE9 (by simp; omega)⟩
set_option maxRecDepth 100000 in
set_option maxHeartbeats 1000000 in
theorem ref02_FromInt64 (w : World) (n : Int) (h1 : -9223372036854775808 ≤ n) (h2 : n < 9223372036854775808) :
    Calls Tryz.prog 61 #[.int .i64 n] w fun e w' => ∃ v, e = .returned v ∧ IsRat 3 w' v (n : Rat) ∧ Ext w w' := by
  go_enter Tryz.func61, Tryz.ntmps61
  go_upto_region 1 with (fail)
  obtain ⟨w3, r, e1, e2, h3, hE⟩ := box1 w (.cells #[.bool false, .slice none 0 0, .bool false, .slice none 0 0] 55)
  rw [e1, e2]
  have hr0 : w.heap.size ≤ r := by omega
  clear e1 e2
  obtain ⟨Rr0, Fr0⟩ := rules h3 0 _ rfl
  obtain ⟨Rr1, Fr1⟩ := rules h3 1 _ rfl
  obtain ⟨Rr2, Fr2⟩ := rules h3 2 _ rfl
  obtain ⟨Rr3, Fr3⟩ := rules h3 3 _ rfl
  have hX3 := Ext.rfl' w3
  go_wp2_with (first | ((go_at_call 39; refine (ref01_FromInt64 _ n h1 h2).mono ?_; rintro e w5 ⟨vi, rfl, hi, hEi⟩; obtain ⟨ni, ai, ki, ci, rfl⟩ := IsInt.form hi); have hXw5 := (show Ext w3 w5 by exact exttI)) | ((go_at_call 98; refine (ref02_unit _).mono ?_; rintro e w6 ⟨vx, rfl, hx, hEx⟩; obtain ⟨nx, ax, kx, cx, rfl⟩ := IsInt.form hx); have hXw6 := (show Ext w3 w6 by exact exttI)))
  have hE9 : Ext w w6 := by exact exttI
  have k9 := hXw6.blk h3
  have hbx : Box w6 r := Box.mk k9 rfl
  have hB : But [r] w6 w6 := by exact buttI
  have hBr0 := Rr0 _ hXw6
  have hBr1 := Rr1 _ hXw6
  have hBr2 := Rr2 _ hXw6
  have hBr3 := Rr3 _ hXw6
  have hi1 := hi.ext hEx
  exact bodyPost_ret (v := .agg #[.bool ni, .slice ai ki ci, .bool nx, .slice ax kx cx]) (by simp [results, Tryz.results61, go_sem, hBr0, hBr1, hBr2, hBr3]) rfl ⟨_, rfl, IsRat.put4 hB (by simp) (IsRat.whole hi1 hx), (((((hB.set _ _ rfl (by simp)).set _ _ rfl (by simp)).set _ _ rfl (by simp)).set _ _ rfl (by simp)).old hE9 (by simp; omega))⟩
theorem rat_eq (a b : Rat) : decide (a = b) = (decide (a.num = b.num) && decide ((a.den : Int) = b.den)) := by
  rw [Bool.eq_iff_iff]
  simp only [decide_eq_true_eq, Bool.and_eq_true, Int.natCast_inj]
  exact ⟨fun h => by rw [h]; exact ⟨rfl, rfl⟩, fun h => Rat.ext h.1 h.2⟩
set_option maxRecDepth 100000 in
set_option maxHeartbeats 1000000 in
theorem ref02_Same (n m : Nat) (w : World) (va vb : Value) (a b : Rat) (ha : IsRat n w va a) (hb : IsRat m w vb b) :
    Calls Tryz.prog 42 #[va, vb] w fun e w' => e = .returned (.bool (decide (a = b))) ∧ Ext w w' := by
  obtain ⟨na, aa, ka, ca, nb, ab, kb, cb, rfl, ha, hb'⟩ := ha.form
  obtain ⟨nc, ac, kc, cc, nd, ad, kd, cd, rfl, hc, hd⟩ := hb.form
  rw [rat_eq]
  have hS1 := fun w1 (h : Ext w w1) => ref01_Same n m w1 _ _ _ _ (ha.ext h) (hc.ext h)
  have hS2 := fun w1 (h : Ext w w1) => ref01_Same n m w1 _ _ _ _ (hb'.ext h) (hd.ext h)
  generalize decide (a.num = b.num) = d1 at *
  generalize decide ((a.den : Int) = b.den) = d2 at *
  have H1 := Lib.hid hS1
  have H2 := Lib.hid hS2
  clear hS1 hS2
  go_enter Tryz.func42, Tryz.ntmps42
  go_upto_region 1 with (fail)
  obtain ⟨w3, p, q, e1, e2, e3, h1, h2, hpq, hE⟩ := box2 w (.cells #[.bool na, .slice aa ka ca, .bool nb, .slice ab kb cb] 55) (.cells #[.bool nc, .slice ac kc cc, .bool nd, .slice ad kd cd] 55)
  rw [e1, e2, e3]
  clear e1 e2 e3
  obtain ⟨Rp0, _⟩ := rules h1 0 _ rfl
  obtain ⟨Rp1, _⟩ := rules h1 1 _ rfl
  obtain ⟨Rp2, _⟩ := rules h1 2 _ rfl
  obtain ⟨Rp3, _⟩ := rules h1 3 _ rfl
  obtain ⟨Rq0, _⟩ := rules h2 0 _ rfl
  obtain ⟨Rq1, _⟩ := rules h2 1 _ rfl
  obtain ⟨Rq2, _⟩ := rules h2 2 _ rfl
  obtain ⟨Rq3, _⟩ := rules h2 3 _ rfl
  have hX3 := Ext.rfl' w3
  cases d1
  · go_wp2_with (go_at_call 26; refine (H1.out _ (by exact exttI)).mono ?_; rintro e w5 ⟨rfl, hE5⟩; have hXw5 := (show Ext w3 w5 by exact exttI))
    go_ret
    exact ⟨rfl, by exact exttI⟩
  · go_wp2_with (go_at_call 26; first | ((with_reducible refine (H1.out _ (by exact exttI)).mono ?_); rintro e w5 ⟨rfl, hE5⟩; have hXw5 := (show Ext w3 w5 by exact exttI)) | ((with_reducible refine (H2.out _ (by exact exttI)).mono ?_); rintro e w6 ⟨rfl, hE6⟩; have hXw6 := (show Ext w3 w6 by exact exttI)))
    go_ret
    exact ⟨rfl, by exact exttI⟩
end Go.Proofs.YtechjiiijiipdaaGreatDoor
namespace Go.Proofs.YtechjiiijiipdaaGreatDoor
open Go.RowKit
set_option linter.unusedSimpArgs false
set_option linter.unusedVariables false
theorem three {α β : Type} {f : α → β} {l : List α} {x y z : β} (h : l.map f = [x, y, z]) : ∃ a b c, l = [a, b, c] ∧ f a = x ∧ f b = y ∧ f c = z := by
  match l, h with
  | [a, b, c], h => simp at h; exact ⟨a, b, c, rfl, h.1, h.2.1, h.2.2⟩
theorem tok_eqRef (w : World) (k p k' p' : Int) (x x' : ByteArray) : (Op.equalIn 10000 85 (.agg #[.int .i64 k, .int .i64 p, .string x]) (.agg #[.int .i64 k', .int .i64 p', .string x'])).run Tryz.prog w = .ok (k == k' && p == p' && x.toList == x'.toList) w := by
  rw [run_equalIn_agg w 9999 _ _ _ (by kernel_rfl) (by kernel_rfl)]
  have hf : (Tryz.prog.fieldsOf 85).toList.map (fun f => (f.name != "_", f.type, f.offset)) = [(true, 3, 0), (true, 3, 1), (true, 9, 2)] := by kernel_rfl
  obtain ⟨f1, f2, f3, e, h1, h2, h3⟩ := three hf
  simp only [Prod.mk.injEq, bne_iff_ne, ne_eq] at h1 h2 h3
  obtain ⟨n1, t1, o1⟩ := h1
  obtain ⟨n2, t2, o2⟩ := h2
  obtain ⟨n3, t3, o3⟩ := h3
  rw [e]
  simp [Op.eqFields, n1, n2, n3, t1, t2, t3, o1, o2, o3, go_sem, run_equalIn_int w 9998 _ _ _ _ _ Tryz.underlying3, run_equalIn_string w 9998 _ _ _ Tryz.underlying9, Tryz.isAgg3, Tryz.isAgg9]
  by_cases g1 : k = k' <;> by_cases g2 : p = p' <;> by_cases g3 : x.toList = x'.toList <;> simp [g1, g2, g3]
theorem tok_eqLex (w : World) (k p k' p' : Int) (x x' : ByteArray) : (Op.equalIn 10000 84 (.agg #[.int .i64 k, .int .i64 p, .string x]) (.agg #[.int .i64 k', .int .i64 p', .string x'])).run Tryz.prog w = .ok (k == k' && p == p' && x.toList == x'.toList) w := by
  rw [run_equalIn_agg w 9999 _ _ _ (by kernel_rfl) (by kernel_rfl)]
  have hf : (Tryz.prog.fieldsOf 84).toList.map (fun f => (f.name != "_", f.type, f.offset)) = [(true, 3, 0), (true, 3, 1), (true, 9, 2)] := by kernel_rfl
  obtain ⟨f1, f2, f3, e, h1, h2, h3⟩ := three hf
  simp only [Prod.mk.injEq, bne_iff_ne, ne_eq] at h1 h2 h3
  obtain ⟨n1, t1, o1⟩ := h1
  obtain ⟨n2, t2, o2⟩ := h2
  obtain ⟨n3, t3, o3⟩ := h3
  rw [e]
  simp [Op.eqFields, n1, n2, n3, t1, t2, t3, o1, o2, o3, go_sem, run_equalIn_int w 9998 _ _ _ _ _ Tryz.underlying3, run_equalIn_string w 9998 _ _ _ Tryz.underlying9, Tryz.isAgg3, Tryz.isAgg9]
  by_cases g1 : k = k' <;> by_cases g2 : p = p' <;> by_cases g3 : x.toList = x'.toList <;> simp [g1, g2, g3]
theorem tok_ext {a b : Tok} : (a.kind == b.kind && (a.pos : Int) == (b.pos : Int) && (⟨a.text.toArray⟩ : ByteArray).toList == (⟨b.text.toArray⟩ : ByteArray).toList) = decide (a = b) := by
  rw [Lib.toList_data, Lib.toList_data, Bool.eq_iff_iff]
  obtain ⟨k, p, x⟩ := a
  obtain ⟨k', p', x'⟩ := b
  simp [and_assoc]
  intros; omega
theorem take_next {ts us : List Tok} (he : ts.length = us.length) {k : Nat} (hk : k < ts.length) (h : ts.take k = us.take k) (h2 : ts[k] = us[k]'(by omega)) : ts.take (k + 1) = us.take (k + 1) := by
  rw [List.take_succ_eq_append_getElem hk, List.take_succ_eq_append_getElem (by omega), h, h2]
set_option maxRecDepth 100000 in
set_option maxHeartbeats 2000000 in
theorem ref21_Same (w : World) (va vb : Value) (ts us : List Tok) (ha : Toks w va ts) (hb : Toks w vb us) :
    Calls Tryz.prog 16 #[va, vb] w fun e w' => e = .returned (.bool (decide (ts = us))) ∧ Drawn w w' := by
  obtain ⟨a, c, rfl, hl1, hc1⟩ := ha
  obtain ⟨a2, c2, rfl, hl2, hc2⟩ := hb
  by_cases he : ts.length = us.length
  · have HE := Lib.hid he
    rw [he] at hl1 ⊢
    clear he
    have hne : ((us.length : Int) != (us.length : Int)) = false := by simp
    obtain ⟨d, hd⟩ : ∃ d, decide (ts = us) = d := ⟨_, rfl⟩
    rw [hd]
    have HD := Lib.hid hd
    clear hd
    go_enter Tryz.func16, Tryz.ntmps16
    go_wp2
    go_loopw [5] (fun i w' => ∃ k : Nat, k ≤ us.length ∧ i = .int .i64 k ∧ Hid (ts.take k = us.take k) ∧ Drawn w w') (fun i _ => us.length - (intOf i).toNat)
    case atStart => exact ⟨0, by omega, rfl, by simp [Hid], Drawn.rfl' _⟩
    case round =>
      obtain ⟨k, hk, rfl, ht, n, rfl⟩ := hrel
      have hD : Drawn w (w.drewN n) := ⟨n, rfl⟩
      by_cases hlt : k < us.length
      · have hlt' : k < ts.length := by have := HE.out; omega
        rcases hc1 with rfl | ⟨b, o, rfl, _, hc1⟩
        · simp at hlt'
        rcases hc2 with rfl | ⟨b2, o2, rfl, _, hc2⟩
        · simp at hlt
        obtain ⟨x1, x2, x3⟩ := hc1 k hlt'
        obtain ⟨y1, y2, y3⟩ := hc2 k hlt
        have hnx := Lib.hid (@take_next ts us HE.out k hlt' ht.out)
        have hbad : Hid (¬ ts[k] = us[k] → decide (ts = us) = false) := Lib.hid (fun h => decide_eq_false (fun e => h (by subst e; rfl)))
        have htok := @tok_ext ts[k] us[k]
        generalize ts[k] = t at *
        generalize us[k] = u at *
        clear hc1 hc2
        have hrun := fun w => tok_eqRef w t.kind t.pos u.kind u.pos ⟨t.text.toArray⟩ ⟨u.text.toArray⟩
        rw [htok] at hrun
        clear htok
        by_cases htu : t = u
        · have e1 : decide (t = u) = true := by simpa using htu
          rw [e1] at hrun
          have HT := Lib.hid (hnx.out htu)
          clear e1 htu
          go_wp2
          go_quiet (fail)
          go_wp2
          go_roundw
          case rel => exact ⟨k + 1, by omega, by go_num, HT, ⟨_, rfl⟩⟩
          case measure => simp [intOf]; omega
        · have e1 : decide (t = u) = false := by simpa using htu
          rw [e1] at hrun
          have HT := Lib.hid (hbad.out htu)
          clear e1 htu
          go_wp2
          go_quiet (fail)
          go_wp2
          go_ret
          exact ⟨by rw [← HD.out, HT.out]; rfl, hD.n _⟩
      · have e : ts = us := by
          have := ht.out
          rwa [List.take_of_length_le (by have := HE.out; omega), List.take_of_length_le (by omega)] at this
        have he : d = true := by rw [← HD.out]; simpa using e
        clear e
        subst he
        go_wp2
        go_ret
        exact ⟨rfl, hD⟩
  · have hne : ((ts.length : Int) != (us.length : Int)) = true := by simp; omega
    rw [decide_eq_false (fun e => he (by rw [e]))]
    clear he
    go_enter Tryz.func16, Tryz.ntmps16
    go_wp2
    go_ret
    exact ⟨rfl, Drawn.rfl' _⟩
end Go.Proofs.YtechjiiijiipdaaGreatDoor
namespace Go.Proofs.YtechjiiijiipdaaGreatDoor
open Go.RowKit
set_option linter.unusedSimpArgs false
set_option linter.unusedVariables false
theorem Tryz.infoTokref : (Tryz.prog.info? 85).map (fun i => (i.zero, i.size, i.bytes)) = some (some (.agg #[.int .i64 0, .int .i64 0, .string ⟨#[]⟩]), 3, 32) := by kernel_rfl
/-- 'append(out, T{..})'. -/
theorem wpList_appT_ref {wr : World} {ops : Array Oper} {rest : List Oper} {o : Oper} {a : Act} {Q : Exit → Act → World → Prop} (hgd : o.guard = none) (s x : Operand)
    (ho : o.op = .call { callee := .builtin .append, args := #[s, x], argTypes := #[27, 27] }) {base : Nat} {v : Value} {l : List Tok} {kd ps : Int} {tx : ByteArray} {c : Nat} (t : Tok)
    (hs : a.eval s = v) (hx : a.eval x = .slice (some ⟨wr.heap.size, 0, none⟩) 1 c) (hown : OwnT 85 base wr v l) (h1 : kd = (t.kind : Int)) (h2 : ps = (t.pos : Int)) (h3 : tx = ⟨t.text.toArray⟩) (hn : l.length < 1000000) (hb : base ≤ wr.heap.size)
    (h : ∀ v' w', OwnT 85 base w' v' (l ++ [t]) → (wr.alloc (.cells #[.int .i64 kd, .int .i64 ps, .string tx] 85)).grownBy w' v.ownBlock → wpList Tryz.prog ops Q rest (a.put o.dst v') w') :
    wpList Tryz.prog ops Q (o :: rest) a (wr.alloc (.cells #[.int .i64 kd, .int .i64 ps, .string tx] 85)) := by
  subst h1 h2 h3
  obtain ⟨i0, hi, hz0, hz1, hz2⟩ := info_parts3 Tryz.infoTokref
  refine wpList_append_own _ hgd s x 27 ho base 85 i0 (.agg #[.int .i64 0, .int .i64 0, .string ⟨#[]⟩]) 3 32 Tryz.underlying27 hi hz0 hz1 hz2 rfl (by decide) v l.length (l.flatMap tokVals) hs (World.ownsRow.alloc hown _) ⟨wr.heap.size, 0, none⟩ 1 c (tokVals t) hx rfl ?_ ?_ ?_ ?_ ?_ ?_
  · intro j u hj
    match j, hj with
    | 0, hj => simp [tokVals] at hj; subst hj; simp [Addr.add]
    | 1, hj => simp [tokVals] at hj; subst hj; simp [Addr.add]
    | 2, hj => simp [tokVals] at hj; subst hj; simp [Addr.add]
    | j + 3, hj => simp [tokVals] at hj
  · intro u hu; simp [tokVals] at hu; rcases hu with rfl | rfl | rfl <;> rfl
  · unfold maxLen; omega
  · omega
  · simp; omega
  · intro v' w' h1 h2 _
    refine h v' w' ?_ h2
    unfold OwnT
    rw [List.flatMap_append, List.length_append]
    simpa using h1
attribute [local irreducible] IsInt U32s Dig Norm Own IsRat AllD dec digF isDec decQ stepF lexF tokF OwnT
set_option maxRecDepth 100000 in
set_option maxHeartbeats 4000000 in
theorem law21_own (w : World) (v : Value) (ts : List Tok) (h : Toks w v ts) :
    Calls Tryz.prog 17 #[v] w fun e w' => ∃ u, e = .returned u ∧ Toks w' u ts ∧ Ext w w' := by
  obtain ⟨a, c, rfl, hlen, hcells⟩ := h
  go_enter Tryz.func17, Tryz.ntmps17
  go_wp2_with (first | fail)
  go_loopw [3, 8] (fun o i w' => ∃ k : Nat, k ≤ ts.length ∧ i = .int .i64 k ∧ OwnT 85 w.heap.size w' o (ts.take k) ∧ Ext w w') (fun _ i _ => ts.length - (intOf i).toNat)
  case atStart => exact ⟨0, by omega, rfl, OwnT.nil _ _ _, Ext.rfl' w⟩
  case round =>
    obtain ⟨k, hk, rfl, hown, hE⟩ := hrel
    by_cases hlt : k < ts.length
    · rcases hcells with rfl | ⟨b, o, rfl, hbl, hcells⟩
      · simp at hlt
      obtain ⟨c1, c2, c3⟩ := hcells k hlt
      replace c1 := (hE.cell (p := ⟨b, o + k * 3, none⟩) hbl).trans c1
      replace c2 := (hE.cell (p := ⟨b, o + k * 3 + 1, none⟩) hbl).trans c2
      replace c3 := (hE.cell (p := ⟨b, o + k * 3 + 2, none⟩) hbl).trans c3
      clear hcells
      go_upto_region 5 with (fail)
      obtain ⟨w4, q, e1, e2, h2, hE4⟩ := box1 wr (.cells #[.int .i64 ts[k].kind, .int .i64 (ts[k].pos : Int), .string ⟨ts[k].text.toArray⟩] 84)
      rw [e1, e2]
      clear e1 e2 c1 c2 c3
      replace hown := hown.ext hE4
      replace hE := hE.trans' hE4
      clear hE4
      have q0 := (cell_of h2 0 _ rfl).1
      have q1 := (cell_of h2 1 _ rfl).1
      have q2 := (cell_of h2 2 _ rfl).1
      have hnx := Lib.hid (List.take_succ_eq_append_getElem hlt)
      have htl := List.length_take_le k ts
      have hszB := hE.size
      generalize ts[k] = t at *
      generalize ts.take k = l at *
      go_wp2_with (at_builtin; refine wpList_appT_ref rfl _ _ rfl (l := l) t rfl rfl hown rfl rfl rfl (by omega) (by exact hszB) ?_; intro v' w' hown' hg')
      go_roundw
      case rel => exact ⟨k + 1, by omega, by go_num, by rw [hnx.out]; exact hown', (hE.alloc' _).grown' hg' hown.block⟩
      case measure => simp [intOf]; omega
    · obtain rfl : k = ts.length := by omega
      rw [List.take_length] at hown
      go_wp2_with (first | fail)
      go_ret
      exact ⟨_, rfl, hown.toks hlen, hE⟩
end Go.Proofs.YtechjiiijiipdaaGreatDoor
namespace Go.Proofs.YtechjiiijiipdaaGreatDoor
open Go.RowKit
set_option linter.unusedSimpArgs false
set_option linter.unusedVariables false
def ex1 : List UInt8 := [104, 111, 108, 101, 45, 49, 32, 61, 32, 45, 50, 46, 53, 48, 44, 120, 32, 35, 32, 102, 97, 114]
def ts1 : List Tok := [⟨1, 0, [104, 111, 108, 101, 45, 49]⟩, ⟨3, 7, [61]⟩, ⟨2, 9, [45, 50, 46, 53, 48]⟩, ⟨3, 14, [44]⟩, ⟨1, 15, [120]⟩]
set_option maxRecDepth 100000 in
theorem tok1 : tokF ex1 = (ts1, 0, 0) := by decide +kernel
theorem tok2 : tokF [50, 46, 53, 109, 109] = ([], 3, 2) := by decide +kernel
theorem tok3 : tokF [97, 32, 46, 32, 98] = ([], 2, 2) := by decide +kernel
theorem shape1 : ts1.map shapeC = [110, 61, 100, 44, 110] := by decide +kernel
theorem dec25 : isDec [50, 46, 53] = true := by decide +kernel
theorem decQ25 : decQ [50, 46, 53] * 1000 = ((2500 : Int) : Rat) := by decide +kernel
attribute [local irreducible] IsInt U32s Dig Norm Own IsRat AllD dec digF isDec decQ stepF lexF tokF OwnT Toks ts1
theorem Toks.at2 {w : World} {v : Value} (h : Toks w v ts1) : ∃ b o c, v = .slice (some ⟨b, o, none⟩) 5 c ∧ ∀ w', Ext w w' → w'.cell? ⟨b, o + 6, none⟩ = some (.int .i64 2) ∧ w'.cell? ⟨b, o + 6 + 1, none⟩ = some (.int .i64 9) ∧ w'.cell? ⟨b, o + 6 + 2, none⟩ = some (.string ⟨#[45, 50, 46, 53, 48]⟩) := by
  unfold Toks ts1 at h
  obtain ⟨a, c, rfl, _, h⟩ := h
  rcases h with h | ⟨b, o, rfl, hlt, h⟩
  · simp at h
  · obtain ⟨h1, h2, h3⟩ := h 2 (by simp)
    exact ⟨b, o, c, rfl, fun w' e => ⟨(e.cell (p := ⟨b, o + 6, none⟩) hlt).trans h1, (e.cell (p := ⟨b, o + 6 + 1, none⟩) hlt).trans h2, (e.cell (p := ⟨b, o + 6 + 2, none⟩) hlt).trans h3⟩⟩
theorem tokens_of (x : List UInt8) (ts : List Tok) (p e : Nat) (h : tokF x = (ts, p, e)) (hl : x.length ≤ 65536) (w : World) :
    Calls Tryz.prog 14 #[.string ⟨x.toArray⟩] w fun en w' => ∃ v, en = .returned (.tuple #[v, .int .i64 (p : Int), .int .i64 (e : Int)]) ∧ Toks w' v ts ∧ Ext w w' := by
  have := lexer_Tokens ⟨x.toArray⟩ w (by simpa [ByteArray.size] using hl)
  rw [ba_toList, h] at this
  exact this
set_option maxRecDepth 100000 in
set_option maxHeartbeats 4000000 in
theorem law21_awake (w : World) : Calls Tryz.prog 13 #[] w fun e w' => e = .returned (.bool true) ∧ Ext w w' := by
  have hT1 := Lib.hid (tokens_of ex1 ts1 0 0 tok1 (by decide))
  have hT2 := Lib.hid (tokens_of [50, 46, 53, 109, 109] [] 3 2 tok2 (by decide))
  have hT3 := Lib.hid (tokens_of [97, 32, 46, 32, 98] [] 2 2 tok3 (by decide))
  have hL := Lib.hid (fun w => lexer_Length_ok w 0 ⟨#[50, 46, 53]⟩ dec25)
  have hEq := fun w => tok_eqLex w 2 9 2 9 ⟨#[45, 50, 46, 53, 48]⟩ ⟨#[45, 50, 46, 53, 48]⟩
  go_enter Tryz.func13, Tryz.ntmps13
  go_upto_region 2 with (go_at_call 14; refine (hT1.out _).mono ?_; rintro e w1 ⟨v1, rfl, ht1, hE1⟩)
  go_upto_region 3 with (go_at_call 14; refine (hT2.out _).mono ?_; rintro e w2 ⟨v2, rfl, ht2, hE2⟩)
  go_upto_region 4 with (go_at_call 14; refine (hT3.out _).mono ?_; rintro e w3 ⟨v3, rfl, ht3, hE3⟩)
  go_upto_region 5 with (go_at_call 57; refine (hL.out _).mono ?_; rintro e w5 ⟨vx, rfl, hx, hE5⟩; obtain ⟨nxn, axn, kxn, cxn, nxd, axd, kxd, cxd, rfl, _, _⟩ := IsRat.form hx)
  obtain ⟨w6, q, f1, f2, k2, hE6⟩ := box1 w5 (.cells #[.bool nxn, .slice axn kxn cxn, .bool nxd, .slice axd kxd cxd] 55)
  rw [f1, f2]
  clear f1 f2 hT1 hT2 hT3 hL ht2 ht3
  replace hx := (hx.ext hE6).cast decQ25
  have ht := ht1.ext (show Ext w1 w6 by exact exttI)
  have hE : Ext w w6 := by exact exttI
  clear hE1 hE2 hE3 hE5 hE6 ht1
  obtain ⟨b, o, c, rfl, hcell⟩ := ht.at2
  have hc1 := fun w' h => (hcell w' h).1
  have hc2 := fun w' h => (hcell w' h).2.1
  have hc3 := fun w' h => (hcell w' h).2.2
  clear hcell
  obtain ⟨Rq0, _⟩ := rules k2 0 _ rfl
  obtain ⟨Rq1, _⟩ := rules k2 1 _ rfl
  obtain ⟨Rq2, _⟩ := rules k2 2 _ rfl
  obtain ⟨Rq3, _⟩ := rules k2 3 _ rfl
  go_region_held3 (fun w' => Ext w6 w') (exact exttI) (first | (go_at_call 59; refine (lexer_Shape _ _ ts1 (ht.ext (by exact exttI))).mono ?_; rintro e w7 ⟨rfl, hE7⟩; rw [shape1]; have hXw7 := (show Ext w6 w7 by exact exttI)) | ((go_at_call 61; refine (ref02_FromInt64 _ 2500 (by omega) (by omega)).mono ?_; rintro e w8 ⟨vy, rfl, hy, hE8⟩; obtain ⟨nyn, ayn, kyn, cyn, nyd, ayd, kyd, cyd, rfl, _, _⟩ := IsRat.form hy); have hXw8 := (show Ext w6 w8 by exact exttI)) | (go_at_call 42; refine (ref02_Same _ _ _ _ _ _ _ (hx.ext (by exact exttI)) (hy.ext (by exact exttI))).mono ?_; rintro e w9 ⟨rfl, hE9⟩; rw [decide_eq_true rfl]; have hXw9 := (show Ext w6 w9 by exact exttI)))
  go_wp2_with (first | fail)
  go_ret
  exact ⟨rfl, by exact exttI⟩
end Go.Proofs.YtechjiiijiipdaaGreatDoor
namespace Go.Proofs.YtechjiiijiipdaaGreatDoor
def isNameB (l : List UInt8) : Bool := !l.isEmpty && decide (l.length ≤ 24) && letterB (peekF l 0) && decide (runF nameB l 0 = l.length)
theorem cut_all (l : List UInt8) : cutF l 0 l.length = l := by unfold cutF; simp
theorem tok_name {l : List UInt8} (h : isNameB l = true) : tokF l = ([⟨1, 0, l⟩], 0, 0) := by
  unfold isNameB at h
  simp only [Bool.and_eq_true, decide_eq_true_eq] at h
  obtain ⟨⟨⟨h0, h1⟩, h2⟩, h3⟩ := h
  have hp : 0 < l.length := by cases l with | nil => simp at h0 | cons _ _ => simp
  have n35 : peekF l 0 ≠ 35 := by intro e; rw [e] at h2; revert h2; decide
  have n32 : peekF l 0 ≠ 32 := by intro e; rw [e] at h2; revert h2; decide
  have s1 : stepF l 0 = .tok 1 l.length := by
    unfold stepF
    rw [if_neg (by rintro (h | h); omega; exact n35 h), if_neg n32, if_pos h2, h3, if_neg (by omega)]
  have s2 : stepF l l.length = .stop := by unfold stepF; rw [if_pos (.inl (Nat.le_refl _))]
  unfold tokF
  rw [if_neg (by omega)]
  obtain ⟨m, hm⟩ : ∃ m, l.length = m + 1 := ⟨l.length - 1, by omega⟩
  rw [lexF, s1, hm]
  simp only [List.nil_append]
  rw [lexF, ← hm, s2]
  simp only [cut_all]
end Go.Proofs.YtechjiiijiipdaaGreatDoor
namespace Go.Proofs.YtechjiiijiipdaaGreatDoor
open Go.RowKit
set_option linter.unusedSimpArgs false
set_option linter.unusedVariables false
theorem ref21_letter (c : UInt8) (w : World) : Calls Tryz.prog 69 #[.int .u8 (c.toNat : Int)] w fun e w' => e = .returned (.bool (letterB c)) ∧ w = w' := by
  go_enter Tryz.func69, Tryz.ntmps69
  go_wp2
  all_goals go_ret
  all_goals (refine ⟨ret_bool ?_, rfl⟩; rw [Bool.eq_iff_iff]; simp [letterB]; try omega)
theorem ref21_digit (c : UInt8) (w : World) : Calls Tryz.prog 127 #[.int .u8 (c.toNat : Int)] w fun e w' => e = .returned (.bool (digitB c)) ∧ w = w' := by
  go_enter Tryz.func127, Tryz.ntmps127
  go_wp2
  all_goals go_ret
  all_goals (refine ⟨ret_bool ?_, rfl⟩; rw [Bool.eq_iff_iff]; simp [digitB]; try omega)
theorem nameB_or (c : UInt8) : nameB c = (letterB c || digitB c || ((c.toNat : Int) == 95) || ((c.toNat : Int) == 45)) := by
  have e1 : ((c.toNat : Int) == 95) = decide (c.toNat = 95) := by rw [Bool.eq_iff_iff]; simp; try omega
  have e2 : ((c.toNat : Int) == 45) = decide (c.toNat = 45) := by rw [Bool.eq_iff_iff]; simp; try omega
  rw [e1, e2]; rfl
set_option maxHeartbeats 1000000 in
theorem ref21_name (s : ByteArray) (w : World) (hs : s.size ≤ 65536) : Calls Tryz.prog 70 #[.string s] w fun e w' => e = .returned (.int .i64 (runF nameB s.data.toList 0 : Nat)) ∧ w = w' := by
  have HZ := Lib.hid (Lib.size_eq s)
  go_enter Tryz.func70, Tryz.ntmps70
  go_wp2
  go_loop [3] (fun a => ∃ j : Nat, j ≤ 65537 ∧ a = .int .i64 j ∧ Hid (runF nameB s.data.toList 0 = runF nameB s.data.toList j)) (fun a => s.size - (intOf a).toNat)
  case atStart => exact ⟨0, by omega, rfl, Lib.hid rfl⟩
  case round =>
    obtain ⟨j, hj, rfl, hr⟩ := hrel
    by_cases hlt : j < s.size
    · have hp := peekF_at (s := s) hlt
      have hg := Lib.hid (@runF_go nameB s.data.toList j (by have := HZ.out; omega))
      have hst := Lib.hid (@runF_stop nameB s.data.toList j)
      rw [hp] at hg hst
      have hn := nameB_or s[j]
      obtain ⟨lb, h1⟩ : ∃ b, letterB s[j] = b := ⟨_, rfl⟩
      obtain ⟨db, h2⟩ : ∃ b, digitB s[j] = b := ⟨_, rfl⟩
      obtain ⟨x, h3⟩ : ∃ b, ((s[j].toNat : Int) == 95) = b := ⟨_, rfl⟩
      obtain ⟨y, h4⟩ : ∃ b, ((s[j].toNat : Int) == 45) = b := ⟨_, rfl⟩
      rw [h1, h2, h3, h4] at hn
      have H1 := Lib.hid h1
      have H2 := Lib.hid h2
      have HN := Lib.hid hn
      clear h1 h2 hn hp
      cases lb with
      | true => (go_wp2_with (first | (go_at_call 69; refine (ref21_letter s[j] _).mono ?_; rintro e w' ⟨rfl, rfl⟩; rw [H1.out]) | (go_at_call 127; refine (ref21_digit s[j] _).mono ?_; rintro e w' ⟨rfl, rfl⟩; rw [H2.out])); go_round; (case rel => exact ⟨j + 1, by omega, by go_num, Lib.hid (by rw [hr.out, hg.out HN.out])⟩); (case measure => simp [intOf]; omega))
      | false => cases db with
        | true => (go_wp2_with (first | (go_at_call 69; refine (ref21_letter s[j] _).mono ?_; rintro e w' ⟨rfl, rfl⟩; rw [H1.out]) | (go_at_call 127; refine (ref21_digit s[j] _).mono ?_; rintro e w' ⟨rfl, rfl⟩; rw [H2.out])); go_round; (case rel => exact ⟨j + 1, by omega, by go_num, Lib.hid (by rw [hr.out, hg.out HN.out])⟩); (case measure => simp [intOf]; omega))
        | false => cases x with
          | true => (go_wp2_with (first | (go_at_call 69; refine (ref21_letter s[j] _).mono ?_; rintro e w' ⟨rfl, rfl⟩; rw [H1.out]) | (go_at_call 127; refine (ref21_digit s[j] _).mono ?_; rintro e w' ⟨rfl, rfl⟩; rw [H2.out])); go_round; (case rel => exact ⟨j + 1, by omega, by go_num, Lib.hid (by rw [hr.out, hg.out HN.out])⟩); (case measure => simp [intOf]; omega))
          | false => cases y with
            | true => (go_wp2_with (first | (go_at_call 69; refine (ref21_letter s[j] _).mono ?_; rintro e w' ⟨rfl, rfl⟩; rw [H1.out]) | (go_at_call 127; refine (ref21_digit s[j] _).mono ?_; rintro e w' ⟨rfl, rfl⟩; rw [H2.out])); go_round; (case rel => exact ⟨j + 1, by omega, by go_num, Lib.hid (by rw [hr.out, hg.out HN.out])⟩); (case measure => simp [intOf]; omega))
            | false =>
              go_wp2_with (first | (go_at_call 69; refine (ref21_letter s[j] _).mono ?_; rintro e w' ⟨rfl, rfl⟩; rw [H1.out]) | (go_at_call 127; refine (ref21_digit s[j] _).mono ?_; rintro e w' ⟨rfl, rfl⟩; rw [H2.out]))
              go_ret
              exact ⟨by rw [hr.out, hst.out (.inr HN.out)]; rfl, rfl⟩
    · have hst := Lib.hid (@runF_stop nameB s.data.toList j (.inl (by have := HZ.out; omega)))
      go_wp2
      go_ret
      exact ⟨by rw [hr.out, hst.out]; rfl, rfl⟩
end Go.Proofs.YtechjiiijiipdaaGreatDoor
namespace Go.Proofs.YtechjiiijiipdaaGreatDoor
open Go.RowKit
set_option linter.unusedSimpArgs false
set_option linter.unusedVariables false
theorem plus2_step {X Y r : List Nat} {k c d c' : Nat} (hk : k < r.length) (h : val (r.take k) + 1000000000 ^ k * c = val (X.take k) + val (Y.take k)) (hd : d + 1000000000 * c' = X.getD k 0 + c + Y.getD k 0) :
    val ((r.set k d).take (k + 1)) + 1000000000 ^ (k + 1) * c' = val (X.take (k + 1)) + val (Y.take (k + 1)) := by
  rw [val_take_succ', val_take_succ' X, val_take_succ' Y, Nat.pow_succ, List.take_set, List.set_eq_of_length_le (by simp; omega)]
  have e : (r.set k d).getD k 0 = d := by simp [hk]
  rw [e]
  generalize 1000000000 ^ k = p at *
  generalize X.getD k 0 = x at *
  generalize Y.getD k 0 = y at *
  have e : p * (d + 1000000000 * c') = p * (x + c + y) := by rw [hd]
  grind
theorem plus2_end {X Y r : List Nat} {c : Nat} (hk : r.length = X.length + 1) (hY : Y.length ≤ X.length) (h : val (r.take X.length) + 1000000000 ^ X.length * c = val (X.take X.length) + val (Y.take X.length)) :
    val (r.set X.length c) = val X + val Y := by
  rw [List.take_length, List.take_of_length_le hY] at h
  have h1 := val_take_succ' (r.set X.length c) X.length
  have e0 : (r.set X.length c).take (X.length + 1) = r.set X.length c := List.take_of_length_le (by rw [List.length_set]; omega)
  have e1 : (r.set X.length c).take X.length = r.take X.length := by rw [List.take_set, List.set_eq_of_length_le (by simp; omega)]
  rw [e0, e1] at h1
  have e : (r.set X.length c).getD X.length 0 = c := by simp [hk]
  rw [h1, e]; exact h
theorem trim_at (w : World) (g c : Nat) (n : Nat) (l : List Nat) (h : U32s w (.slice (some ⟨g, 0, none⟩) n c) l) (hn : n = l.length) : Calls Tryz.prog 94 #[.slice (some ⟨g, 0, none⟩) n c] w fun e w' => e = .returned (.slice (some ⟨g, 0, none⟩) (trimL l).length c) ∧ U32s w (.slice (some ⟨g, 0, none⟩) (trimL l).length c) (trimL l) ∧ w = w' := by
  subst hn; exact ref01_trim w _ _ _ h
theorem norm_trim (l : List Nat) : Norm (trimL l) := norm_trimL l
set_option maxRecDepth 100000 in
set_option maxHeartbeats 1000000 in
theorem ref01_plus (w : World) (v u : Value) (l m : List Nat) (hv : U32s w v l) (hu : U32s w u m) (hl : Dig l) (hm : Dig m) (hs : l.length < 1000000) (hs2 : m.length < 1000000) :
    Calls Tryz.prog 160 #[v, u] w fun e w' => ∃ v' r, e = .returned v' ∧ U32s w' v' r ∧ Dig r ∧ Norm r ∧ val r = val l + val m ∧ r.length ≤ max l.length m.length + 1 ∧ Ext w w' := by
  obtain ⟨a, c, rfl, hc, hn⟩ := hv.shape
  obtain ⟨a2, c2, rfl, hc2, hn2⟩ := hu.shape
  go_enter Tryz.func160, Tryz.ntmps160
  go_upto_if 12 with (fail)
  go_cut [0, 1] (fun s t w' => ∃ (X Y : List Nat), U32s w s X ∧ U32s w t Y ∧ Dig X ∧ Dig Y ∧ Y.length ≤ X.length ∧ Hid (val X + val Y = val l + val m) ∧ Hid (X.length = max l.length m.length) ∧ w' = w)
  case first =>
    by_cases h : l.length < m.length
    · have b2 : decide (l.length < m.length) = true := by simpa using h
      go_wp2
      go_meet
      exact ⟨m, l, hu, hv, hm, hl, by omega, by unfold Hid; omega, by unfold Hid; omega, rfl⟩
    · have b2 : decide (l.length < m.length) = false := by simpa using h
      go_wp2
      go_meet
      exact ⟨l, m, hv, hu, hl, hm, by omega, rfl, by unfold Hid; omega, rfl⟩
  case rest =>
    obtain ⟨X, Y, hX, hY, dX, dY, hle, hval, hlen, rfl⟩ := hcut
    obtain ⟨a, c, rfl, hc, hn⟩ := hX.shape
    obtain ⟨a2, c2, rfl, hc2, hn2⟩ := hY.shape
    have hX1 : X.length < 1000000 := by have := hlen.out; omega
    clear hv hu hl hm
    go_wp2_with (refine wpList_make32 rfl _ _ rfl (n := X.length + 1) rfl rfl (by omega) (by omega) (by omega) ?_; intro w1 hown hE)
    go_loopw [6, 7] (fun cr i w' => ∃ (k c0 : Nat) (r : List Nat), k ≤ X.length ∧ i = .int .i64 k ∧ cr = .int .u32 c0 ∧ c0 ≤ 1 ∧ Hid (r.length = X.length + 1) ∧ Dig r ∧ Own wc.heap.size w' (.slice (some ⟨wc.heap.size, 0, none⟩) (X.length + 1) (X.length + 1)) r ∧
        Hid (val (r.take k) + 1000000000 ^ k * c0 = val (X.take k) + val (Y.take k)) ∧ Ext wc w') (fun _ i _ => X.length - (intOf i).toNat)
    case atStart => exact ⟨0, 0, List.replicate (X.length + 1) 0, Nat.zero_le _, rfl, rfl, Nat.zero_le _, Lib.hid (by simp), Dig.zeros _, hown, by simp [Hid, val], hE⟩
    case round =>
      obtain ⟨k, c0, r, hk, rfl, rfl, hc0, hr, dr, hown, hinv, hE⟩ := hrel
      have hX' := hX.ext hE
      have hY' := hY.ext hE
      by_cases hlt : k < X.length
      · obtain ⟨b, o, rfl, _, hc1⟩ := hX'.cell hlt
        obtain ⟨hcell, hfroz⟩ := hown.at (k := k) hr.out (by omega)
        have hx : (X.getD k 0 : Int) < 1000000000 := by have := dX.getD k; omega
        have hy : (Y.getD k 0 : Int) < 1000000000 := by have := dY.getD k; omega
        have step := fun d c' => Lib.hid (@plus2_step X Y r k c0 d c' (by rw [hr.out]; omega) hinv.out)
        generalize X.getD k 0 = x at *
        by_cases hky : k < Y.length
        · obtain ⟨b2, o2, rfl, _, hc2⟩ := hY'.cell hky
          generalize Y.getD k 0 = y at *
          go_wp2_with (first | fail)
          go_roundw
          case rel => exact ⟨k + 1, (c0 + x + y) / 1000000000, r.set k ((c0 + x + y) % 1000000000), by omega, by go_num, by go_num, by omega, Lib.hid (by rw [List.length_set, hr.out]), dr.set (by omega), hown.stored hr.out k (by simp), (step _ _).out (by omega), hE.set' (Nat.le_refl _) _⟩
          case measure => simp [intOf]; omega
        · have hy0 : Y.getD k 0 = 0 := getD_len (by omega)
          rw [hy0] at hy step
          go_wp2_with (first | fail)
          go_roundw
          case rel => exact ⟨k + 1, (c0 + x) / 1000000000, r.set k ((c0 + x) % 1000000000), by omega, by go_num, by go_num, by omega, Lib.hid (by rw [List.length_set, hr.out]), dr.set (by omega), hown.stored hr.out k (by simp), (step _ _).out (by omega), hE.set' (Nat.le_refl _) _⟩
          case measure => simp [intOf]; omega
      · have e : k = X.length := by omega
        subst e
        obtain ⟨hcell, hfroz⟩ := hown.at (k := X.length) hr.out (by omega)
        have hfin := Lib.hid (plus2_end hr.out hle hinv.out)
        have hd : Dig (r.set X.length c0) := dr.set (by omega)
        have hl' := Lib.hid (trimL_length_le (r.set X.length c0))
        go_wp2_with (go_at_call 94; refine (trim_at _ _ _ _ (r.set X.length c0) ((hown.stored hr.out X.length rfl).u32 hd.u32 (by rw [List.length_set, hr.out]; omega)) (by rw [List.length_set, hr.out])).mono ?_; rintro e w' ⟨rfl, ht, rfl⟩)
        go_ret
        exact ⟨_, trimL (r.set X.length c0), rfl, ht, hd.trimL, norm_trimL _, by rw [val_trimL, hfin.out, hval.out], by have := hl'.out; rw [List.length_set, hr.out] at this; have := hlen.out; omega, hE.set' (Nat.le_refl _) _⟩
set_option maxRecDepth 100000 in
set_option maxHeartbeats 1000000 in
theorem ref01_minus (w : World) (v u : Value) (l m : List Nat) (hv : U32s w v l) (hu : U32s w u m) (hl : Dig l) (hm : Dig m) (hs : l.length < 1000000) (hle : m.length ≤ l.length) (hvl : val m ≤ val l) :
    Calls Tryz.prog 161 #[v, u] w fun e w' => ∃ v' r, e = .returned v' ∧ U32s w' v' r ∧ Dig r ∧ Norm r ∧ val r = val l - val m ∧ r.length ≤ l.length ∧ (∀ g, g < w.heap.size → Far g v') ∧ Ext w w' := by
  obtain ⟨a, c, rfl, hc, hn⟩ := hv.shape
  obtain ⟨a2, c2, rfl, hc2, hn2⟩ := hu.shape
  go_enter Tryz.func161, Tryz.ntmps161
  go_wp2_with (refine wpList_make32 rfl _ _ rfl (n := l.length) rfl rfl rfl rfl (by omega) ?_; intro w1 hown hE)
  go_loopw [6, 7] (fun cr i w' => ∃ (k c0 : Nat) (r : List Nat), k ≤ l.length ∧ i = .int .i64 k ∧ cr = .int .u32 c0 ∧ c0 ≤ 1 ∧ Hid (r.length = l.length) ∧ Dig r ∧
      Own w.heap.size w' (.slice (some ⟨w.heap.size, 0, none⟩) l.length l.length) r ∧ Hid (val (r.take k) + val (m.take k) = val (l.take k) + 1000000000 ^ k * c0) ∧ Ext w w') (fun _ i _ => l.length - (intOf i).toNat)
  case atStart => exact ⟨0, 0, List.replicate l.length 0, Nat.zero_le _, rfl, rfl, Nat.zero_le _, Lib.hid (by simp), Dig.zeros _, hown, by simp [Hid, val], hE⟩
  case round =>
    obtain ⟨k, c0, r, hk, rfl, rfl, hc0, hr, dr, hown, hinv, hE⟩ := hrel
    by_cases hlt : k < l.length
    · obtain ⟨b, o, rfl, _, hc1⟩ := (hv.ext hE).cell hlt
      obtain ⟨hcell, hfroz⟩ := hown.at hr.out hlt
      have hx : (l.getD k 0 : Int) < 1000000000 := by have := hl.getD k; omega
      have hy : (m.getD k 0 : Int) < 1000000000 := by have := hm.getD k; omega
      have step := fun d c' => Lib.hid (@minus_step l m r k c0 d c' (by rw [hr.out]; exact hlt) hinv.out)
      generalize l.getD k 0 = x at *
      by_cases hky : k < m.length
      · obtain ⟨b2, o2, rfl, _, hc2⟩ := (hu.ext hE).cell hky
        generalize m.getD k 0 = y at *
        by_cases hge : (1000000000 : Int) ≤ (x : Int) + 1000000000 - c0 - y
        · go_wp2
          go_roundw
          case rel => exact ⟨k + 1, 0, r.set k (x - (c0 + y)), by omega, by go_num, rfl, by omega, Lib.hid (by rw [List.length_set, hr.out]), dr.set (by omega), hown.stored hr.out k (by omega), (step _ 0).out (by omega), hE.set' (Nat.le_refl _) _⟩
          case measure => simp [intOf]; omega
        · go_wp2
          go_roundw
          case rel => exact ⟨k + 1, 1, r.set k (x + 1000000000 - (c0 + y)), by omega, by go_num, rfl, by omega, Lib.hid (by rw [List.length_set, hr.out]), dr.set (by omega), hown.stored hr.out k (by omega), (step _ 1).out (by omega), hE.set' (Nat.le_refl _) _⟩
          case measure => simp [intOf]; omega
      · rw [getD_len (by omega)] at hy step
        by_cases hge : (1000000000 : Int) ≤ (x : Int) + 1000000000 - c0
        · go_wp2
          go_roundw
          case rel => exact ⟨k + 1, 0, r.set k (x - c0), by omega, by go_num, rfl, by omega, Lib.hid (by rw [List.length_set, hr.out]), dr.set (by omega), hown.stored hr.out k (by omega), (step _ 0).out (by omega), hE.set' (Nat.le_refl _) _⟩
          case measure => simp [intOf]; omega
        · go_wp2
          go_roundw
          case rel => exact ⟨k + 1, 1, r.set k (x + 1000000000 - c0), by omega, by go_num, rfl, by omega, Lib.hid (by rw [List.length_set, hr.out]), dr.set (by omega), hown.stored hr.out k (by omega), (step _ 1).out (by omega), hE.set' (Nat.le_refl _) _⟩
          case measure => simp [intOf]; omega
    · have e : k = l.length := by omega
      subst e
      have hfin := Lib.hid (minus_end hr.out dr hle hvl hinv.out)
      have hl' := Lib.hid (trimL_length_le r)
      go_wp2_with (go_at_call 94; refine (trim_at _ _ _ _ r (hown.u32 dr.u32 (by rw [hr.out]; omega)) (by rw [hr.out])).mono ?_; rintro e w' ⟨rfl, ht, rfl⟩)
      go_ret
      exact ⟨_, trimL r, rfl, ht, dr.trimL, norm_trimL _, by rw [val_trimL, hfin.out], by have := hl'.out; rw [hr.out] at this; exact this, fun g hg a n c e => by cases e; simp only; omega, hE⟩
end Go.Proofs.YtechjiiijiipdaaGreatDoor
namespace Go.Proofs.YtechjiiijiipdaaGreatDoor
open Go.RowKit
set_option linter.unusedSimpArgs false
set_option linter.unusedVariables false
set_option maxRecDepth 100000 in
set_option maxHeartbeats 1000000 in
theorem ref01_times (w : World) (v u : Value) (l m : List Nat) (hv : U32s w v l) (hu : U32s w u m) (hl : Dig l) (hm : Dig m) (hs : l.length < 1000000) (hs2 : m.length < 1000000) :
    Calls Tryz.prog 168 #[v, u] w fun e w' => ∃ v' r, e = .returned v' ∧ U32s w' v' r ∧ Dig r ∧ Norm r ∧ val r = val l * val m ∧ r.length ≤ l.length + m.length ∧ (∀ g, g < w.heap.size → Far g v') ∧ Ext w w' := by
  obtain ⟨a, c, rfl, hc, hn⟩ := hv.shape
  obtain ⟨a2, c2, rfl, hc2, hn2⟩ := hu.shape
  go_enter Tryz.func168, Tryz.ntmps168
  go_wp2_with (refine wpList_make32 rfl _ _ rfl (n := l.length + m.length) rfl rfl (by omega) (by omega) (by omega) ?_; intro w1 hown hE)
  go_loopw [6] (fun i w' => ∃ (k : Nat) (r : List Nat), k ≤ l.length ∧ i = .int .i64 k ∧ Hid (r.length = l.length + m.length) ∧ Dig r ∧
      Own w.heap.size w' (.slice (some ⟨w.heap.size, 0, none⟩) (l.length + m.length) (l.length + m.length)) r ∧ Hid (val r = val (l.take k) * val m) ∧ Hid (∀ j, k + m.length ≤ j → r.getD j 0 = 0) ∧ Ext w w') (fun i _ => l.length - (intOf i).toNat)
  case atStart => exact ⟨0, List.replicate (l.length + m.length) 0, Nat.zero_le _, rfl, Lib.hid (by simp), Dig.zeros _, hown, by simp [Hid, val, val_zeros], Lib.hid (fun j _ => getD_zeros _ _), hE⟩
  case round =>
    obtain ⟨k, r, hk, rfl, hr, dr, hown, hinv, hz, hE⟩ := hrel
    by_cases hlt : k < l.length
    · have hx : (l.getD k 0 : Int) < 1000000000 := by have := hl.getD k; omega
      obtain ⟨x, hx'⟩ : ∃ x, l.getD k 0 = x := ⟨_, rfl⟩
      rw [hx'] at hx
      have HX := Lib.hid hx'
      clear hx'
      go_wp2
      obtain ⟨wo, rfl⟩ : ∃ wo : World, wo = wr := ⟨_, rfl⟩
      go_loopw [7, 8] (fun cr i w' => ∃ (q c0 : Nat) (r : List Nat), q ≤ m.length ∧ i = .int .i64 q ∧ cr = .int .u64 c0 ∧ (c0 : Int) < 1000000000 ∧ Hid (r.length = l.length + m.length) ∧ Dig r ∧
          Own w.heap.size w' (.slice (some ⟨w.heap.size, 0, none⟩) (l.length + m.length) (l.length + m.length)) r ∧ Hid (val r + 1000000000 ^ (k + q) * c0 = val (l.take k) * val m + 1000000000 ^ k * (x * val (m.take q))) ∧
          Hid (∀ j, k + m.length ≤ j → r.getD j 0 = 0) ∧ Ext w w') (fun _ i _ => m.length - (intOf i).toNat)
      case atStart => exact ⟨0, 0, r, Nat.zero_le _, rfl, rfl, by omega, hr, dr, hown, Lib.hid (by rw [hinv.out]; simp [val]), hz, hE⟩
      case round =>
        clear hown hr dr hinv hz hE
        obtain ⟨q, c0, r, hq, rfl, rfl, hc0, hr, dr, hown, hinv, hz, hE⟩ := hrel
        by_cases hqt : q < m.length
        · obtain ⟨b, o, rfl, _, hc1⟩ := (hv.ext hE).cell hlt
          rw [HX.out] at hc1
          obtain ⟨b2, o2, rfl, _, hc2⟩ := (hu.ext hE).cell hqt
          obtain ⟨hcell, hfroz⟩ := hown.at (k := k + q) hr.out (by omega)
          have hy : (m.getD q 0 : Int) < 1000000000 := by have := hm.getD q; omega
          have ho : (r.getD (k + q) 0 : Int) < 1000000000 := by have := dr.getD (k + q); omega
          have step := Lib.hid (fun t => @times_step r m (val (l.take k) * val m) x k q c0 t (by rw [hr.out]; omega) hinv.out)
          generalize m.getD q 0 = y at *
          generalize r.getD (k + q) 0 = od at *
          have hxy : (x : Int) * (y : Int) ≤ 999999998000000001 := by
            have : x * y ≤ 999999999 * 999999999 := Nat.mul_le_mul (by omega) (by omega)
            have h2 : ((x * y : Nat) : Int) = (x : Int) * (y : Int) := by simp
            omega
          have hxy0 : 0 ≤ (x : Int) * (y : Int) := Int.mul_nonneg (by omega) (by omega)
          have s1 : IntKind.i64.wrap ((k : Int) + (q : Int)) = ((k + q : Nat) : Int) := by rw [IntWalk.i64_in] <;> omega
          have s2 : IntKind.u64.wrap (od : Int) = od := IntWalk.u64_in _ (by omega)
          have s3 : IntKind.u64.wrap ((c0 : Int) + (od : Int)) = (c0 : Int) + (od : Int) := IntWalk.u64_in _ (by omega)
          have s4 : IntKind.u64.wrap (x : Int) = x := IntWalk.u64_in _ (by omega)
          have s5 : IntKind.u64.wrap (y : Int) = y := IntWalk.u64_in _ (by omega)
          have s6 : IntKind.u64.wrap ((x : Int) * (y : Int)) = (x : Int) * (y : Int) := IntWalk.u64_in _ (by omega)
          have s7 : IntKind.u64.wrap ((c0 : Int) + (od : Int) + (x : Int) * (y : Int)) = (c0 : Int) + (od : Int) + (x : Int) * (y : Int) := IntWalk.u64_in _ (by omega)
          have i1 : ((k + q : Nat) : Int) < ((l.length + m.length : Nat) : Int) := by omega
          have i2 : (0 : Int) ≤ ((k + q : Nat) : Int) := by omega
          go_upto_region 9 with (fail)
          go_quiet (fail)
          go_wp2
          go_roundw
          case rel => exact ⟨q + 1, (c0 + od + x * y) / 1000000000, r.set (k + q) ((c0 + od + x * y) % 1000000000), by omega, by go_num, by go_num, by omega, Lib.hid (by rw [List.length_set, hr.out]), dr.set (Nat.mod_lt _ (by omega)),
            (hown.drewN _).stored hr.out (k + q) (by simp), step.out _ (by omega), Lib.hid (zeros_set hz.out (by omega)), (hE.drewN' _).set' (Nat.le_refl _) _⟩
          case measure => simp only [intOf]; omega
        · have e : q = m.length := by omega
          subst e
          obtain ⟨hcell, hfroz⟩ := hown.at (k := k + m.length) hr.out (by omega)
          have hrow := Lib.hid (@times_row r l m k c0 (by rw [hr.out]; omega) (by rw [HX.out]; exact hinv.out) (hz.out _ (Nat.le_refl _)))
          go_wp2
          go_roundw
          case rel => exact ⟨k + 1, r.set (k + m.length) c0, by omega, by go_num, Lib.hid (by rw [List.length_set, hr.out]), dr.set (by omega), hown.stored hr.out (k + m.length) (by first | rfl | omega), hrow,
            Lib.hid (zeros_set (fun j hj => hz.out j (by omega)) (by omega)), hE.set' (Nat.le_refl _) _⟩
          case measure => simp only [intOf]; omega
    · have e : k = l.length := by omega
      subst e
      have hfin := Lib.hid hinv.out
      rw [List.take_length] at hfin
      have hl' := Lib.hid (trimL_length_le r)
      go_wp2_with (go_at_call 94; refine (trim_at _ _ _ _ r (hown.u32 dr.u32 (by rw [hr.out]; omega)) (by rw [hr.out])).mono ?_; rintro e w' ⟨rfl, ht, rfl⟩)
      go_ret
      exact ⟨_, trimL r, rfl, ht, dr.trimL, norm_trimL _, by rw [val_trimL, hfin.out], by have := hl'.out; rw [hr.out] at this; exact this, fun g hg a n c e => by cases e; simp only; omega, hE⟩
set_option maxRecDepth 100000 in
set_option maxHeartbeats 1000000 in
theorem ref01_by (w : World) (v : Value) (l : List Nat) (n : Nat) (hv : U32s w v l) (hl : Dig l) (hs : l.length < 1000000) (hn0 : n < 1000000000) :
    Calls Tryz.prog 231 #[v, .int .u32 (n : Int)] w fun e w' => ∃ v' r, e = .returned v' ∧ U32s w' v' r ∧ Dig r ∧ Norm r ∧ val r = val l * n ∧ r.length ≤ l.length + 1 ∧ (∀ g, g < w.heap.size → Far g v') ∧ Ext w w' := by
  obtain ⟨a, c, rfl, hc, hn⟩ := hv.shape
  have hd : Dig [n] := by simp [Dig]; omega
  have htl := Lib.hid (trimL_length_le [n])
  have hn1 : (n : Int) < 1000000000 := by omega
  go_enter Tryz.func231, Tryz.ntmps231
  go_wp2_with (first | (go_at_call 94; refine (trim_at _ _ _ _ [n] (U32s.lit1' _ n _ rfl (by omega)) rfl).mono ?_; rintro e w5 ⟨rfl, ht, rfl⟩) | (go_at_call 168; refine (ref01_times _ _ _ l (trimL [n]) (hv.ext (by exact exttI)) ht hl hd.trimL hs (by have := htl.out; simp at this; omega)).mono ?_; rintro e w6 ⟨v', r, rfl, hu, hdr, hnr, hvr, hlr, hfr, hE6⟩))
  go_ret
  exact ⟨_, r, rfl, hu, hdr, hnr, by rw [hvr, val_trimL]; simp [val], by have := htl.out; simp at this; omega, fun g hg => hfr g (by simp; omega), by exact exttI⟩
set_option maxRecDepth 100000 in
set_option maxHeartbeats 1000000 in
theorem ref01_short (w : World) (v : Value) (l : List Nat) (hv : U32s w v l) (hl : Dig l) (hs : l.length ≤ 2) :
    Calls Tryz.prog 174 #[v] w fun e w' => e = .returned (.int .u64 (val l : Nat)) ∧ Ext w w' := by
  obtain ⟨a, c, rfl, hc, hn⟩ := hv.shape
  go_enter Tryz.func174, Tryz.ntmps174
  go_wp2
  go_loopw [3, 4] (fun n i w' => ∃ (j : Int) (x : Nat), -1 ≤ j ∧ j < (l.length : Int) ∧ i = .int .i64 j ∧ n = .int .u64 x ∧ Hid (x = val (l.drop (j + 1).toNat)) ∧ Ext w w') (fun _ i _ => (intOf i + 1).toNat)
  case atStart => exact ⟨(l.length : Int) - 1, 0, by omega, by omega, rfl, rfl, Lib.hid (by rw [List.drop_of_length_le (by omega)]; rfl), Ext.rfl' _⟩
  case round =>
    obtain ⟨j, x, hj0, hj1, rfl, rfl, hx, hE⟩ := hrel
    by_cases hj : j = -1
    · subst hj
      have hx' := Lib.hid hx.out
      simp only [show (-1 + 1 : Int).toNat = 0 from rfl, List.drop_zero] at hx'
      go_wp2
      go_ret
      exact ⟨by rw [← hx'.out]; rfl, hE⟩
    · obtain ⟨k, rfl⟩ : ∃ k : Nat, j = k := ⟨j.toNat, by omega⟩
      have hk : k < l.length := by omega
      obtain ⟨b, o, rfl, _, hc1⟩ := (hv.ext hE).cell hk
      have hd : (l.getD k 0 : Int) < 1000000000 := by have := hl.getD k; omega
      have hxx : x < 1000000000 := by
        rw [hx.out, show ((k : Int) + 1).toNat = k + 1 by omega]
        have h1 := val_lt (hl.drop (k + 1))
        rw [List.length_drop] at h1
        have h2 : 1000000000 ^ (l.length - (k + 1)) ≤ 1000000000 ^ 1 := Nat.pow_le_pow_right (by omega) (by omega)
        omega
      have hst : Hid (x * 1000000000 + l.getD k 0 = val (l.drop k)) := by
        have := val_drop_pred hk
        have h3 := hx.out
        rw [show ((k : Int) + 1).toNat = k + 1 by omega] at h3
        unfold Hid; omega
      generalize l.getD k 0 = d at *
      go_wp2
      go_roundw
      case rel => exact ⟨(k : Int) - 1, x * 1000000000 + d, by omega, by omega, by go_num, by go_num, Lib.hid (by rw [show ((k : Int) - 1 + 1).toNat = k by omega]; exact hst.out), hE⟩
      case measure => simp only [intOf]; omega
end Go.Proofs.YtechjiiijiipdaaGreatDoor
namespace Go.Proofs.YtechjiiijiipdaaGreatDoor
open Go.RowKit
set_option linter.unusedSimpArgs false
set_option linter.unusedVariables false
theorem lit_own {base : Nat} (w : World) (d : Nat) (d' : Int) (hd : d' = (d : Int)) (hb : base ≤ w.heap.size) : Own base (w.alloc (.cells #[.int .u32 d'] 123)) (.slice (some ⟨w.heap.size, 0, none⟩) 1 1) [d] := by
  subst hd
  exact World.ownsRow_lit w #[.int .u32 (d : Int)] 1 hb (by unfold maxLen; omega) rfl
/-- 'append(own, x...)'. -/
theorem wpList_cat32 {w : World} {ops : Array Oper} {rest : List Oper} {o : Oper} {a : Act} {Q : Exit → Act → World → Prop} (hgd : o.guard = none) (s x : Operand)
    (ho : o.op = .call { callee := .builtin .append, args := #[s, x], argTypes := #[51, 51] }) {base : Nat} {v0 v : Value} {l0 l : List Nat}
    (hs : a.eval s = v0) (hx : a.eval x = v) (hown : Own base w v0 l0) (hl : U32s w v l) (hn0 : l0.length ≤ 4000000) (hb : base ≤ w.heap.size)
    (h : ∀ v' w', Own base w' v' (l0 ++ l) → w.grownBy w' v0.ownBlock → wpList Tryz.prog ops Q rest (a.put o.dst v') w') : wpList Tryz.prog ops Q (o :: rest) a w := by
  obtain ⟨i0, hi, hz0, hz1, hz2⟩ := info_parts Tryz.info123
  obtain ⟨ad, c, rfl, hc, hbb, hn, hz, hcell⟩ := hl
  cases ad with
  | none =>
    rcases hcell with rfl | ⟨b, o', h1, _⟩
    · obtain rfl := hz rfl
      exact wpList_append_own_none hgd s x 51 ho base 123 i0 1 Tryz.underlying51 hi _ l0.length (u32s l0) hs hown hx (h _ _ (by rw [List.append_nil]; exact hown) (World.grownBy.refl _ _))
    · cases h1
  | some ad =>
    refine wpList_append_own _ hgd s x 51 ho base 123 i0 (.int .u32 0) 1 4 Tryz.underlying51 hi hz0 hz1 hz2 rfl (by decide) v0 l0.length (u32s l0) hs hown ad l.length c (u32s l) hx (by rw [u32s_length]; omega) ?_ ?_ (by unfold maxLen; omega) (by omega) hb ?_
    · intro j u hj
      have hj' : j < l.length := by
        have := (List.getElem?_eq_some_iff.1 hj).1
        rwa [u32s_length] at this
      rcases hcell with rfl | ⟨b, o', h1, _, hcell⟩
      · simp at hj'
      · obtain rfl := Option.some.inj h1
        rw [u32s_get l j hj'] at hj
        obtain rfl := Option.some.inj hj
        have e : (⟨b, o', none⟩ : Addr).add j = ⟨b, o' + j, none⟩ := by unfold Addr.add; split <;> simp_all
        rw [e]; exact hcell j hj'
    · intro u hu
      simp [u32s] at hu
      obtain ⟨n, _, rfl⟩ := hu
      exact oneCell_int _ _
    · intro v' w' h1 h2 _
      refine h v' w' ?_ h2
      unfold Own
      rw [u32s_append, List.length_append]
      exact h1
theorem U32s.setF {w : World} {v : Value} {l : List Nat} {p : Addr} (h : U32s w v l) (hf : Far p.block v) (u : Value) : U32s (w.setCell p u) v l :=
  h.only hf ⟨rfl, rfl, rfl, by simp [World.setCell], fun k _ hne => Below.heap_setCell _ _ _ _ (by intro e; exact hne (by rw [e]))⟩
theorem limbs_at (w : World) (u : Nat) (z : Int) (hz : z = (u : Int)) (hu : u < 18446744073709551616) : Calls Tryz.prog 99 #[.int .u64 z] w fun e w' => ∃ v, e = .returned v ∧ U32s w' v (limbs u) ∧ Ext w w' := by
  subst hz; exact ref01_limbs w u hu
/-! Plain: the guess of a digit. -/
theorem div_le_guess {w V p top : Nat} (hp : 0 < p) (htop : 0 < top) (hV : top * p ≤ V) : w / V ≤ w / p / top := by
  have hVp : 0 < V := Nat.lt_of_lt_of_le (Nat.mul_pos htop hp) hV
  rw [Nat.le_div_iff_mul_le htop, Nat.le_div_iff_mul_le hp]
  have h1 := Nat.div_mul_le_self w V
  have h2 : w / V * (top * p) ≤ w / V * V := Nat.mul_le_mul_left _ hV
  rw [Nat.mul_assoc]; omega
theorem high_of {R : List Nat} {n : Nat} (hR : Dig R) (hn : 1 ≤ n) (hl : R.length ≤ n + 1) : R.getD n 0 * 1000000000 + R.getD (n - 1) 0 = val R / 1000000000 ^ (n - 1) := by
  rcases Nat.lt_or_ge (n - 1) R.length with h | h
  · have h1 := val_take_drop R (n - 1) (by omega)
    have h2 := val_lt (hR.take (n - 1))
    rw [List.length_take, Nat.min_eq_left (by omega)] at h2
    have h3 := val_drop_pred h
    rw [show n - 1 + 1 = n by omega] at h3
    have h4 : val (R.drop n) = R.getD n 0 := by
      rcases Nat.lt_or_ge n R.length with g | g
      · have h5 := val_drop_pred g
        have h6 : val (R.drop (n + 1)) = 0 := by rw [List.drop_of_length_le (by omega)]; rfl
        rw [h5, h6]; omega
      · rw [List.drop_of_length_le g, getD_len g]; rfl
    rw [h1, Nat.add_mul_div_left _ _ (Nat.pow_pos (by omega)), Nat.div_eq_of_lt h2, h3, h4]
    omega
  · have h2 := val_lt hR
    have h3 : 1000000000 ^ R.length ≤ 1000000000 ^ (n - 1) := Nat.pow_le_pow_right (by omega) h
    rw [getD_len (by omega), getD_len h, Nat.div_eq_of_lt (by omega)]
theorem top_le {M : List Nat} (hM : 0 < M.length) : M.getD (M.length - 1) 0 * 1000000000 ^ (M.length - 1) ≤ val M := by
  have h1 := @val_take_succ M (M.length - 1) (by omega)
  rw [Nat.sub_add_cancel hM, List.take_length] at h1
  rw [h1, Nat.mul_comm]; omega
theorem norm_len_le {R : List Nat} {n V : Nat} (hN : Norm R) (hV : V < 1000000000 ^ n) (hR : val R < 1000000000 * V) : R.length ≤ n + 1 := by
  rcases Nat.eq_zero_or_pos R.length with h | h
  · omega
  · have h1 := hN.ge (by intro e; subst e; simp at h)
    have h2 : 1000000000 ^ (R.length - 1) < 1000000000 ^ (n + 1) := by rw [Nat.pow_succ]; omega
    have := (Nat.pow_lt_pow_iff_right (show 1 < 1000000000 by omega)).1 h2
    omega
theorem norm_len_mono {l m : List Nat} (hm : Dig m) (nl : Norm l) (h : val l ≤ val m) : l.length ≤ m.length := by
  rcases Nat.lt_or_ge m.length l.length with g | g
  · have := val_lt_of_length hm nl g; omega
  · exact g
/-- One round: the rest w, with the next limb; the digit w / V. -/
theorem parts_round {U S : List Nat} {k V R w : Nat} (hU : k < U.length) (hS : k < S.length) (hw : w = U.getD k 0 + 1000000000 * R) (h : val (U.drop (k + 1)) = val (S.drop (k + 1)) * V + R) :
    val (U.drop k) = val ((S.set k (w / V)).drop k) * V + w % V := by
  rw [drop_set_self hS, val_drop_pred hU, h]
  have h2 := Nat.mod_add_div w V
  generalize w / V = q at *
  generalize w % V = m at *
  generalize U.getD k 0 = x at *
  generalize val (S.drop (k + 1)) = s at *
  subst hw
  grind
theorem parts_digit {w V g : Nat} (hV : 0 < V) (h1 : w / V ≤ g) (h2 : g * V ≤ w) : g = w / V := by
  have := (Nat.le_div_iff_mul_le hV).2 h2; omega
set_option maxRecDepth 100000 in
set_option maxHeartbeats 1000000 in
theorem parts_small (w : World) (v u : Value) (l m : List Nat) (hv : U32s w v l) (hu : U32s w u m) (hl : Dig l) (hm : Dig m) (nm : Norm m) (hne : m ≠ []) (h1 : l.length ≤ 2) (h2 : m.length ≤ 2) :
    Calls Tryz.prog 201 #[v, u] w fun e w' => ∃ v1 v2 q r, e = .returned (.tuple #[v1, v2]) ∧ U32s w' v1 q ∧ U32s w' v2 r ∧ Dig q ∧ Dig r ∧ Norm q ∧ Norm r ∧ val q = val l / val m ∧ val r = val l % val m ∧ q.length ≤ l.length + 1 ∧ r.length ≤ m.length ∧ Ext w w' := by
  obtain ⟨a, c, rfl, hc, hn⟩ := hv.shape
  obtain ⟨a2, c2, rfl, hc2, hn2⟩ := hu.shape
  have b1 : decide ((l.length : Int) ≤ 2) = true := by simp; omega
  have b2 : decide ((m.length : Int) ≤ 2) = true := by simp; omega
  have hp := nm.pos hne
  have hA : val l < 1000000000000000000 := by
    have h3 := val_lt hl
    have h4 : 1000000000 ^ l.length ≤ 1000000000 ^ 2 := Nat.pow_le_pow_right (by omega) h1
    omega
  have hB : val m < 1000000000000000000 := by
    have h3 := val_lt hm
    have h4 : 1000000000 ^ m.length ≤ 1000000000 ^ 2 := Nat.pow_le_pow_right (by omega) h2
    omega
  have hq1 : val l / val m ≤ val l := Nat.div_le_self _ _
  have hr1 : val l % val m < val m := Nat.mod_lt _ hp
  have F1 := Lib.hid (norm_len_mono (l := limbs (val l / val m)) hl (norm_limbs _) (by rw [val_limbs]; exact hq1))
  have F2 := Lib.hid (norm_len_mono (l := limbs (val l % val m)) hm (norm_limbs _) (by rw [val_limbs]; omega))
  have hS1 := fun w1 (h : Ext w w1) => ref01_short w1 _ l (hv.ext h) hl h1
  have hS2 := fun w1 (h : Ext w w1) => ref01_short w1 _ m (hu.ext h) hm h2
  have z1 : (val l : Int) / (val m : Int) = ((val l / val m : Nat) : Int) := by simp
  have z2 : (val l : Int) % (val m : Int) = ((val l % val m : Nat) : Int) := by simp
  have z3 : Int.tmod (val l : Int) (val m : Int) = ((val l % val m : Nat) : Int) := by rw [Int.tmod_eq_emod_of_nonneg (by omega)]; simp
  generalize val l / val m = Q at *
  generalize val l % val m = R at *
  have y1 : IntKind.u64.wrap (Q : Int) = (Q : Int) := IntWalk.u64_in _ (by omega)
  have hmz : ¬ (val m = 0) := by omega
  have hmz2 : ((val m : Int) == 0) = false := by simp; omega
  have hmz3 : ¬ ((val m : Int) = 0) := by omega
  generalize val l = A at *
  generalize val m = B at *
  have S1 := Lib.hid hS1
  have S2 := Lib.hid hS2
  clear hS1 hS2
  go_enter Tryz.func201, Tryz.ntmps201
  go_upto_region 3 with (go_at_call 174; first | ((with_reducible refine (S1.out _ (by exact exttI)).mono ?_); rintro e w5 ⟨rfl, hE5⟩) | ((with_reducible refine (S2.out _ (by exact exttI)).mono ?_); rintro e w6 ⟨rfl, hE6⟩))
  go_region_held3 (fun w' => Ext w6 w') (exact exttI) (first | (go_at_call 99; first | ((with_reducible refine (limbs_at _ Q _ rfl (by omega)).mono ?_); rintro e w7 ⟨v7, rfl, hv7, hE7⟩; have hXw7 := (show Ext w6 w7 by exact exttI)) | ((with_reducible refine (limbs_at _ R _ rfl (by omega)).mono ?_); rintro e w8 ⟨v8, rfl, hv8, hE8⟩; have hXw8 := (show Ext w6 w8 by exact exttI))))
  go_wp2
  go_ret2
  exact ⟨_, _, _, _, rfl, hv7.ext (by exact exttI), hv8, dig_limbs _, dig_limbs _, norm_limbs _, norm_limbs _, val_limbs _, val_limbs _, by have := F1.out; omega, F2.out, by exact exttI⟩
end Go.Proofs.YtechjiiijiipdaaGreatDoor

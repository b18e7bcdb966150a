/- Walk: swarflaw21.own. -/
import Derived.Test.YtechjiiijiipdaaDoorR4
namespace Go.Proofs.YtechjiiijiipdaaDoor
open Go.RowKit
set_option linter.unusedSimpArgs false
set_option linter.unusedVariables false
theorem Tryd.infoTokref : (Tryd.prog.info? 51).map (fun i => (i.zero, i.size, i.bytes)) = some (some (.agg #[.int .i64 0, .int .i64 0, .string ⟨#[]⟩]), 3, 32) := by kernel_rfl
/-- 'append(out, T{..})'. -/
theorem wpList_appT_ref {wr : World} {ops : Array Oper} {rest : List Oper} {o : Oper} {a : Act} {Q : Exit → Act → World → Prop} (hgd : o.guard = none) (s x : Operand)
    (ho : o.op = .call { callee := .builtin .append, args := #[s, x], argTypes := #[31, 31] }) {base : Nat} {v : Value} {l : List Tok} {kd ps : Int} {tx : ByteArray} {c : Nat} (t : Tok)
    (hs : a.eval s = v) (hx : a.eval x = .slice (some ⟨wr.heap.size, 0, none⟩) 1 c) (hown : OwnT 51 base wr v l) (h1 : kd = (t.kind : Int)) (h2 : ps = (t.pos : Int)) (h3 : tx = ⟨t.text.toArray⟩) (hn : l.length < 1000000) (hb : base ≤ wr.heap.size)
    (h : ∀ v' w', OwnT 51 base w' v' (l ++ [t]) → (wr.alloc (.cells #[.int .i64 kd, .int .i64 ps, .string tx] 51)).grownBy w' v.ownBlock → wpList Tryd.prog ops Q rest (a.put o.dst v') w') :
    wpList Tryd.prog ops Q (o :: rest) a (wr.alloc (.cells #[.int .i64 kd, .int .i64 ps, .string tx] 51)) := by
  subst h1 h2 h3
  obtain ⟨i0, hi, hz0, hz1, hz2⟩ := info_parts3 Tryd.infoTokref
  refine wpList_append_own _ hgd s x 31 ho base 51 i0 (.agg #[.int .i64 0, .int .i64 0, .string ⟨#[]⟩]) 3 32 Tryd.underlying31 hi hz0 hz1 hz2 rfl (by decide) v l.length (l.flatMap tokVals) hs (World.ownsRow.alloc hown _) ⟨wr.heap.size, 0, none⟩ 1 c (tokVals t) hx rfl ?_ ?_ ?_ ?_ ?_ ?_
  · intro j u hj
    match j, hj with
    | 0, hj => simp [tokVals] at hj; subst hj; simp [Addr.add]
    | 1, hj => simp [tokVals] at hj; subst hj; simp [Addr.add]
    | 2, hj => simp [tokVals] at hj; subst hj; simp [Addr.add]
    | j + 3, hj => simp [tokVals] at hj
  · intro u hu; simp [tokVals] at hu; rcases hu with rfl | rfl | rfl <;> rfl
  · unfold maxLen; omega
  · omega
  · simp; omega
  · intro v' w' h1 h2 _
    refine h v' w' ?_ h2
    unfold OwnT
    rw [List.flatMap_append, List.length_append]
    simpa using h1
attribute [local irreducible] IsInt U32s Dig Norm Own IsRat AllD dec digF isDec decQ stepF lexF tokF OwnT
set_option maxRecDepth 100000 in
set_option maxHeartbeats 4000000 in
theorem law21_own (w : World) (v : Value) (ts : List Tok) (h : Toks w v ts) :
    Calls Tryd.prog 10 #[v] w fun e w' => ∃ u, e = .returned u ∧ Toks w' u ts ∧ Ext w w' := by
  obtain ⟨a, c, rfl, hlen, hcells⟩ := h
  go_enter Tryd.func10, Tryd.ntmps10
  go_wp2_with (first | fail)
  go_loopw [3, 8] (fun o i w' => ∃ k : Nat, k ≤ ts.length ∧ i = .int .i64 k ∧ OwnT 51 w.heap.size w' o (ts.take k) ∧ Ext w w') (fun _ i _ => ts.length - (intOf i).toNat)
  case atStart => exact ⟨0, by omega, rfl, OwnT.nil _ _ _, Ext.rfl' w⟩
  case round =>
    obtain ⟨k, hk, rfl, hown, hE⟩ := hrel
    by_cases hlt : k < ts.length
    · rcases hcells with rfl | ⟨b, o, rfl, hbl, hcells⟩
      · simp at hlt
      obtain ⟨c1, c2, c3⟩ := hcells k hlt
      replace c1 := (hE.cell (p := ⟨b, o + k * 3, none⟩) hbl).trans c1
      replace c2 := (hE.cell (p := ⟨b, o + k * 3 + 1, none⟩) hbl).trans c2
      replace c3 := (hE.cell (p := ⟨b, o + k * 3 + 2, none⟩) hbl).trans c3
      clear hcells
      go_upto_region 5 with (fail)
      obtain ⟨w4, q, e1, e2, h2, hE4⟩ := box1 wr (.cells #[.int .i64 ts[k].kind, .int .i64 (ts[k].pos : Int), .string ⟨ts[k].text.toArray⟩] 28)
      rw [e1, e2]
      clear e1 e2 c1 c2 c3
      replace hown := hown.ext hE4
      replace hE := hE.trans' hE4
      clear hE4
      have q0 := (cell_of h2 0 _ rfl).1
      have q1 := (cell_of h2 1 _ rfl).1
      have q2 := (cell_of h2 2 _ rfl).1
      have hnx := Lib.hid (List.take_succ_eq_append_getElem hlt)
      have htl := List.length_take_le k ts
      have hszB := hE.size
      generalize ts[k] = t at *
      generalize ts.take k = l at *
      go_wp2_with (at_builtin; refine wpList_appT_ref rfl _ _ rfl (l := l) t rfl rfl hown rfl rfl rfl (by omega) (by exact hszB) ?_; intro v' w' hown' hg')
      go_roundw
      case rel => exact ⟨k + 1, by omega, by go_num, by rw [hnx.out]; exact hown', (hE.alloc' _).grown' hg' hown.block⟩
      case measure => simp [intOf]; omega
    · obtain rfl : k = ts.length := by omega
      rw [List.take_length] at hown
      go_wp2_with (first | fail)
      go_ret
      exact ⟨_, rfl, hown.toks hlen, hE⟩
end Go.Proofs.YtechjiiijiipdaaDoor

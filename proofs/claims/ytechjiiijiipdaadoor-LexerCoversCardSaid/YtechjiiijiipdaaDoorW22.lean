/- Words for slices of tokens; walk: lexer.Tokens. -/
import Derived.Test.YtechjiiijiipdaaDoorW21
namespace Go.Proofs.YtechjiiijiipdaaDoor
open Go.RowKit
set_option linter.unusedSimpArgs false
set_option linter.unusedVariables false

def tokVals (t : Tok) : List Value := [.int .i64 (t.kind : Int), .int .i64 (t.pos : Int), .string ⟨t.text.toArray⟩]
/-- A slice of tokens that the call itself made. -/
def OwnT (e : TypeId) (base : Nat) (w : World) (v : Value) (ts : List Tok) : Prop := w.ownsRow base e 3 v ts.length (ts.flatMap tokVals)
/-- v is a slice that reads as the tokens ts. -/
def Toks (w : World) (v : Value) (ts : List Tok) : Prop :=
  ∃ a c, v = .slice a ts.length c ∧ ts.length ≤ 100000 ∧ (ts = [] ∨ ∃ b o, a = some ⟨b, o, none⟩ ∧ b < w.heap.size ∧ ∀ i (h : i < ts.length), w.cell? ⟨b, o + i * 3, none⟩ = some (.int .i64 (ts[i].kind : Int)) ∧ w.cell? ⟨b, o + i * 3 + 1, none⟩ = some (.int .i64 (ts[i].pos : Int)) ∧
    w.cell? ⟨b, o + i * 3 + 2, none⟩ = some (.string ⟨ts[i].text.toArray⟩))
theorem Toks.ext {w w' : World} {v : Value} {ts : List Tok} (h : Toks w v ts) (e : Ext w w') : Toks w' v ts := by
  obtain ⟨a, c, hv, hl, h⟩ := h
  refine ⟨a, c, hv, hl, ?_⟩
  rcases h with h | ⟨b, o, ha, hlt, h⟩
  · exact .inl h
  · refine .inr ⟨b, o, ha, Nat.lt_of_lt_of_le hlt e.size, fun i hi => ?_⟩
    obtain ⟨h1, h2, h3⟩ := h i hi
    exact ⟨(e.cell (p := ⟨b, o + i * 3, none⟩) hlt).trans h1, (e.cell (p := ⟨b, o + i * 3 + 1, none⟩) hlt).trans h2, (e.cell (p := ⟨b, o + i * 3 + 2, none⟩) hlt).trans h3⟩
theorem Toks.nil (w : World) : Toks w (.slice none 0 0) [] := ⟨none, 0, rfl, by simp, .inl rfl⟩
theorem flat_len : ∀ ts : List Tok, (ts.flatMap tokVals).length = ts.length * 3
  | [] => rfl
  | t :: ts => by rw [List.flatMap_cons, List.length_append, flat_len ts, List.length_cons]; simp [tokVals]; omega
theorem flat_get : ∀ (ts : List Tok) (i : Nat) (h : i < ts.length), (ts.flatMap tokVals)[i * 3]? = some (.int .i64 (ts[i].kind : Int)) ∧ (ts.flatMap tokVals)[i * 3 + 1]? = some (.int .i64 (ts[i].pos : Int)) ∧ (ts.flatMap tokVals)[i * 3 + 2]? = some (.string ⟨ts[i].text.toArray⟩)
  | t :: ts, 0, _ => by simp [List.flatMap_cons, tokVals]
  | t :: ts, i + 1, h => by
    have h' : i < ts.length := by simpa using h
    obtain ⟨h1, h2, h3⟩ := flat_get ts i h'
    have e : ∀ k, (List.flatMap tokVals (t :: ts))[(i + 1) * 3 + k]? = (ts.flatMap tokVals)[i * 3 + k]? := fun k => by
      rw [List.flatMap_cons, List.getElem?_append_right (by simp [tokVals]; omega)]
      congr 1
      simp [tokVals]; omega
    exact ⟨(e 0).trans h1, (e 1).trans h2, (e 2).trans h3⟩
theorem OwnT.nil (e : TypeId) (base : Nat) (w : World) : OwnT e base w (.slice none 0 0) [] := World.ownsRow_nil _ _ _ _
theorem OwnT.block {e : TypeId} {base : Nat} {w : World} {v : Value} {l : List Tok} (h : OwnT e base w v l) : ∀ k, v.ownBlock = some k → base ≤ k := fun k hk => (World.ownsRow.lt h k hk).1
theorem OwnT.ext {e : TypeId} {base : Nat} {w w' : World} {v : Value} {l : List Tok} (h : OwnT e base w v l) (x : Ext w w') : OwnT e base w' v l := by
  refine World.ownsRow.kept (row := none) h ⟨x.os, x.tape, x.output, x.size, fun k hk _ => x.block k hk⟩ ?_
  cases v.ownBlock with
  | none => exact .inl rfl
  | some k => exact .inr (by simp)
theorem OwnT.toks {e : TypeId} {base : Nat} {w : World} {v : Value} {ts : List Tok} (h : OwnT e base w v ts) (hl : ts.length ≤ 100000) : Toks w v ts := by
  have h' := h
  obtain ⟨h1, h2⟩ := h'
  rcases h2 with ⟨rfl, h0⟩ | ⟨g, cap, cur, rfl, hg, hh, hc, hm, hs, ht⟩
  · obtain rfl := List.length_eq_zero_iff.1 h0
    exact Toks.nil w
  · refine ⟨_, _, rfl, hl, .inr ⟨g, 0, rfl, (Array.getElem?_eq_some_iff.1 hh).1, fun i hi => ?_⟩⟩
    have hcell : ∀ j u, (ts.flatMap tokVals)[j]? = some u → w.cell? ⟨g, j, none⟩ = some u := fun j u hj => by
      have := World.ownsRow.cells h (g := g) rfl j u hj
      simp only [Addr.add] at this
      split at this
      · rename_i h0; subst h0; exact this
      · simpa using this
    obtain ⟨a1, a2, a3⟩ := flat_get ts i hi
    rw [Nat.zero_add]
    exact ⟨hcell _ _ a1, hcell _ _ a2, hcell _ _ a3⟩
theorem Tryd.infoToklexer : (Tryd.prog.info? 28).map (fun i => (i.zero, i.size, i.bytes)) = some (some (.agg #[.int .i64 0, .int .i64 0, .string ⟨#[]⟩]), 3, 32) := by kernel_rfl
theorem info_parts3 {o : Option TypeInfo} {z : Option Value} {n m : Nat} (h : o.map (fun i => (i.zero, i.size, i.bytes)) = some (z, n, m)) : ∃ i, o = some i ∧ i.zero = z ∧ i.size = n ∧ i.bytes = m := by
  cases o with
  | none => simp at h
  | some i =>
    simp at h
    exact ⟨i, rfl, h.1, h.2.1, h.2.2⟩
/-- 'append(out, T{..})'. -/
theorem wpList_appT_lexer {wr : World} {ops : Array Oper} {rest : List Oper} {o : Oper} {a : Act} {Q : Exit → Act → World → Prop} (hgd : o.guard = none) (s x : Operand)
    (ho : o.op = .call { callee := .builtin .append, args := #[s, x], argTypes := #[23, 23] }) {base : Nat} {v : Value} {l : List Tok} {kd ps : Int} {tx : ByteArray} {c : Nat} (t : Tok)
    (hs : a.eval s = v) (hx : a.eval x = .slice (some ⟨wr.heap.size, 0, none⟩) 1 c) (hown : OwnT 28 base wr v l) (h1 : kd = (t.kind : Int)) (h2 : ps = (t.pos : Int)) (h3 : tx = ⟨t.text.toArray⟩) (hn : l.length < 1000000) (hb : base ≤ wr.heap.size)
    (h : ∀ v' w', OwnT 28 base w' v' (l ++ [t]) → (wr.alloc (.cells #[.int .i64 kd, .int .i64 ps, .string tx] 28)).grownBy w' v.ownBlock → wpList Tryd.prog ops Q rest (a.put o.dst v') w') :
    wpList Tryd.prog ops Q (o :: rest) a (wr.alloc (.cells #[.int .i64 kd, .int .i64 ps, .string tx] 28)) := by
  subst h1 h2 h3
  obtain ⟨i0, hi, hz0, hz1, hz2⟩ := info_parts3 Tryd.infoToklexer
  refine wpList_append_own _ hgd s x 23 ho base 28 i0 (.agg #[.int .i64 0, .int .i64 0, .string ⟨#[]⟩]) 3 32 Tryd.underlying23 hi hz0 hz1 hz2 rfl (by decide) v l.length (l.flatMap tokVals) hs (World.ownsRow.alloc hown _) ⟨wr.heap.size, 0, none⟩ 1 c (tokVals t) hx rfl ?_ ?_ ?_ ?_ ?_ ?_
  · intro j u hj
    match j, hj with
    | 0, hj => simp [tokVals] at hj; subst hj; simp [Addr.add]
    | 1, hj => simp [tokVals] at hj; subst hj; simp [Addr.add]
    | 2, hj => simp [tokVals] at hj; subst hj; simp [Addr.add]
    | j + 3, hj => simp [tokVals] at hj
  · intro u hu; simp [tokVals] at hu; rcases hu with rfl | rfl | rfl <;> rfl
  · unfold maxLen; omega
  · omega
  · simp; omega
  · intro v' w' h1 h2 _
    refine h v' w' ?_ h2
    unfold OwnT
    rw [List.flatMap_append, List.length_append]
    simpa using h1
end Go.Proofs.YtechjiiijiipdaaDoor

/- Words for the walks of this seat: what a slice of limbs and an integer of package api read as; how reading lasts while memory only grows. Regions that draw their order and end in a forced row of stores: the operations ahead of the stores under one condition S on the world; the stores behind it, in their order. Plain arithmetic of limbs: lists of numbers below 10^9, the lowest first. No program in sight. Plain arithmetic of long division: the guess of a quotient's digit, and what a round leaves. What an integer of package api reads as. Walks: trim. Walk: plus. Walk: minus, times. Walk: byWord, subtract, restore. Walk: divide. Walk: signed. Walks: integer's functions of small size. Walks: integer.split, FromInt64, Sign, Cmp, Neg. Walks: integer.Add, Sub, word. Walks: integer.Sub, word. Walks: integer.word. -/
import Derived.Test.YtechjiiijiipdaaGreatDoorProg
import Derived.WalkKit
import Derived.WalkSpells
import Derived.WalkLawsBesides
import Derived.Deep.RegionHeld3
import Derived.Deep.QuietTactic
import Derived.BigQuiet
import Derived.Lib.Hide
import Derived.Deep.DeepCutAuto
import Derived.Deep.CutBlock
import Derived.Deep.LoopGhost
import Derived.Laws.Rows
import Derived.Laws.AppendOwnNone
import Derived.KernelRfl
import Derived.StillTailTactics
namespace Go.Proofs.YtechjiiijiipdaaGreatDoor
open Go.RowKit
set_option linter.unusedSimpArgs false
set_option linter.unusedVariables false

/-- Memory has only grown. -/
abbrev Ext (w w' : World) : Prop := Below w.heap.size w w'
theorem Ext.rfl' (w : World) : Ext w w := Below.refl _ _
theorem Ext.trans' {a b c : World} (h : Ext a b) (k : Ext b c) : Ext a c := h.trans (k.mono h.size)
theorem Ext.drew' {a b : World} (h : Ext a b) : Ext a b.drew := h.drew
theorem Ext.drewN' {a b : World} (h : Ext a b) (n : Nat) : Ext a (b.drewN n) := ⟨h.os, h.tape, h.output, h.size, h.block⟩
theorem Ext.alloc' {a b : World} (h : Ext a b) (o : Obj) : Ext a (b.alloc o) := h.alloc h.size o

/-- The same memory; only draws. -/
def Drawn (w w' : World) : Prop := ∃ n, w' = w.drewN n
theorem Drawn.rfl' (w : World) : Drawn w w := ⟨0, rfl⟩
theorem Drawn.n {a b : World} (h : Drawn a b) (n : Nat) : Drawn a (b.drewN n) := by obtain ⟨m, rfl⟩ := h; exact ⟨_, World.drewN_drewN _ _ _⟩
theorem Drawn.one {a b : World} (h : Drawn a b) : Drawn a b.drew := h.n 1
theorem Drawn.trans' {a b c : World} (h : Drawn a b) (k : Drawn b c) : Drawn a c := by obtain ⟨m, rfl⟩ := k; exact h.n m
theorem Drawn.ext {a b : World} (h : Drawn a b) : Ext a b := by obtain ⟨m, rfl⟩ := h; exact (Ext.rfl' a).drewN' m

/-- The number that limbs show. -/
def val : List Nat → Nat
  | [] => 0
  | d :: l => d + 1000000000 * val l

/-- v is a slice of uint32 that reads as l. -/
def U32s (w : World) (v : Value) (l : List Nat) : Prop :=
  ∃ a c, v = .slice a l.length c ∧ l.length ≤ c ∧ (∀ n ∈ l, n < 4294967296) ∧ l.length ≤ 4000000 ∧ (a = none → c = 0) ∧
    (l = [] ∨ ∃ b o, a = some ⟨b, o, none⟩ ∧ b < w.heap.size ∧ ∀ i, i < l.length → w.cell? ⟨b, o + i, none⟩ = some (.int .u32 (l.getD i 0 : Nat)))

theorem U32s.ext {w w' : World} {v : Value} {l : List Nat} (h : U32s w v l) (e : Ext w w') : U32s w' v l := by
  obtain ⟨a, c, hv, hc, hb, hn, hz, h⟩ := h
  refine ⟨a, c, hv, hc, hb, hn, hz, ?_⟩
  rcases h with h | ⟨b, o, ha, hlt, h⟩
  · exact .inl h
  · exact .inr ⟨b, o, ha, Nat.lt_of_lt_of_le hlt e.size, fun i hi => (e.cell (p := ⟨b, o + i, none⟩) hlt).trans (h i hi)⟩

/-- Limbs without those that are 0 at the end. -/
def trimL : List Nat → List Nat
  | [] => []
  | d :: l => match trimL l with
    | [] => if d = 0 then [] else [d]
    | x :: t => d :: x :: t

theorem trimL_cons (d : Nat) (l : List Nat) : trimL (d :: l) = if trimL l = [] then (if d = 0 then [] else [d]) else d :: trimL l := by
  simp only [trimL]
  split <;> simp_all

theorem trimL_snoc_zero : ∀ l : List Nat, trimL (l ++ [0]) = trimL l
  | [] => rfl
  | d :: l => by simp only [List.cons_append, trimL_cons, trimL_snoc_zero l]

theorem trimL_snoc {d : Nat} (hd : d ≠ 0) : ∀ l : List Nat, trimL (l ++ [d]) = l ++ [d]
  | [] => by simp [trimL, hd]
  | x :: l => by simp only [List.cons_append, trimL_cons, trimL_snoc hd l]; simp

theorem trimL_length_le : ∀ l : List Nat, (trimL l).length ≤ l.length
  | [] => Nat.le_refl _
  | d :: l => by
    have := trimL_length_le l
    rw [trimL_cons]; split
    · split <;> simp
    · simp; exact this

theorem val_trimL : ∀ l : List Nat, val (trimL l) = val l
  | [] => rfl
  | d :: l => by
    have := val_trimL l
    rw [trimL_cons]
    split
    · rename_i h; rw [h] at this; split
      · simp [val, ← this, *]
      · simp [val, ← this]
    · simp [val, this]

theorem mem_trimL {n : Nat} : ∀ {l : List Nat}, n ∈ trimL l → n ∈ l
  | [], h => h
  | d :: l, h => by
    have := @mem_trimL n l
    rw [trimL_cons] at h
    split at h
    · split at h
      · cases h
      · simp at h; simp [h]
    · simp at h ⊢; rcases h with h | h
      · exact .inl h
      · exact .inr (this h)

theorem take_succ_getD {l : List Nat} {k : Nat} (h : k < l.length) : l.take (k + 1) = l.take k ++ [l.getD k 0] := by
  rw [List.take_succ_eq_append_getElem h]; simp [h]


theorem U32s.nil (w : World) (a : Option Addr) (c : Nat) (h : a = none → c = 0) : U32s w (.slice a 0 c) [] := ⟨a, c, rfl, Nat.zero_le _, by simp, by simp, h, .inl rfl⟩

theorem U32s.take {w : World} {b o c : Nat} {l : List Nat} (k : Nat) (hk : k ≤ l.length) (hc : l.length ≤ c) (hb : ∀ n ∈ l, n < 4294967296) (hn : l.length ≤ 4000000) (hlt : b < w.heap.size)
    (h : ∀ i, i < l.length → w.cell? ⟨b, o + i, none⟩ = some (.int .u32 (l.getD i 0 : Nat))) : U32s w (.slice (some ⟨b, o, none⟩) k c) (l.take k) := by
  have hl : (l.take k).length = k := by rw [List.length_take]; omega
  refine ⟨some ⟨b, o, none⟩, c, by rw [hl], by omega, fun n hn => hb n (List.mem_of_mem_take hn), by omega, by simp, .inr ⟨b, o, rfl, hlt, fun i hi => ?_⟩⟩
  rw [hl] at hi
  rw [h i (by omega)]
  simp [List.getD_eq_getElem?_getD, hi]

theorem trim_stop {l : List Nat} {k : Nat} (hk0 : 0 < k) (hk : k ≤ l.length) (hz : l.getD (k - 1) 0 ≠ 0) : trimL (l.take k) = l.take k := by
  obtain ⟨j, rfl⟩ : ∃ j, k = j + 1 := ⟨k - 1, by omega⟩
  rw [take_succ_getD (by omega)]; exact trimL_snoc (by simpa using hz) _

theorem trim_go {l : List Nat} {k : Nat} (hk0 : 0 < k) (hk : k ≤ l.length) (hz : l.getD (k - 1) 0 = 0) : trimL (l.take k) = trimL (l.take (k - 1)) := by
  obtain ⟨j, rfl⟩ : ∃ j, k = j + 1 := ⟨k - 1, by omega⟩
  simp only [Nat.add_sub_cancel] at hz ⊢
  rw [take_succ_getD (by omega), hz]; exact trimL_snoc_zero _


theorem U32s.cell {w : World} {a : Option Addr} {n c k : Nat} {l : List Nat} (h : U32s w (.slice a n c) l) (hk : k < l.length) : ∃ b o, a = some ⟨b, o, none⟩ ∧ b < w.heap.size ∧ w.cell? ⟨b, o + k, none⟩ = some (.int .u32 (l.getD k 0 : Nat)) := by
  obtain ⟨a', c', hv, hc, hb, hn, _, h⟩ := h
  injection hv with h1 h2 h3; subst h1
  rcases h with rfl | ⟨b, o, rfl, hlt, h⟩
  · simp at hk
  · exact ⟨b, o, rfl, hlt, h k hk⟩
theorem U32s.shape {w : World} {v : Value} {l : List Nat} (h : U32s w v l) : ∃ a c, v = .slice a l.length c ∧ l.length ≤ c ∧ l.length ≤ 4000000 := by
  obtain ⟨a, c, hv, hc, hb, hn, _, h⟩ := h
  exact ⟨a, c, hv, hc, hn⟩

/-- The values of limbs. -/
def u32s (l : List Nat) : List Value := l.map fun n : Nat => Value.int .u32 (n : Int)
theorem u32s_length (l : List Nat) : (u32s l).length = l.length := by simp [u32s]
theorem u32s_append (l m : List Nat) : u32s (l ++ m) = u32s l ++ u32s m := by simp [u32s]
theorem u32s_set (l : List Nat) (k d : Nat) : u32s (l.set k d) = (u32s l).set k (Value.int .u32 (d : Int)) := by simp [u32s, List.map_set]
theorem u32s_zeros (k : Nat) : u32s (List.replicate k 0) = List.replicate k (Value.int .u32 0) := by simp [u32s]
theorem u32s_get (l : List Nat) (k : Nat) (h : k < l.length) : (u32s l)[k]? = some (Value.int .u32 (l.getD k 0 : Nat)) := by simp [u32s, h]

/-- v is a slice of the call's own that holds l. -/
def Own (base : Nat) (w : World) (v : Value) (l : List Nat) : Prop := w.ownsRow base 123 1 v l.length (u32s l)
theorem Own.u32 {base : Nat} {w : World} {v : Value} {l : List Nat} (h : Own base w v l) (hb : ∀ n ∈ l, n < 4294967296) (hn : l.length ≤ 4000000) : U32s w v l := by
  obtain ⟨h1, h2⟩ := h
  rcases h2 with ⟨rfl, h0⟩ | ⟨g, cap, cur, rfl, hg, hh, hc, hm, hs, ht⟩
  · have : l = [] := List.eq_nil_of_length_eq_zero h0
    subst this
    exact U32s.nil _ _ _ (fun _ => rfl)
  · refine ⟨some ⟨g, 0, none⟩, cap, rfl, hc, hb, hn, by simp, .inr ⟨g, 0, rfl, (Array.getElem?_eq_some_iff.1 hh).1, fun i hi => ?_⟩⟩
    have := World.ownsRow.cells (w := w) (base := base) (e := 123) (size := 1) (v := .slice (some ⟨g, 0, none⟩) l.length cap) (n := l.length) (xs := u32s l) ⟨h1, .inr ⟨g, cap, cur, rfl, hg, hh, hc, hm, hs, ht⟩⟩ (g := g) rfl i _ (u32s_get l i hi)
    have e : (⟨g, 0, none⟩ : Addr).add i = ⟨g, 0 + i, none⟩ := by unfold Addr.add; split <;> simp_all
    rw [← e]; exact this

theorem Tryz.info123 : (Tryz.prog.info? 123).map (fun i => (i.zero, i.size, i.bytes)) = some (some (.int .u32 0), 1, 4) := by kernel_rfl


theorem Own.block {base : Nat} {w : World} {v : Value} {l : List Nat} (h : Own base w v l) : ∀ k, v.ownBlock = some k → base ≤ k := fun k hk => (World.ownsRow.lt h k hk).1
theorem Ext.grown' {w wr w' : World} {row : Option Nat} (h : Ext w wr) (hg : wr.grownBy w' row) (hr : ∀ k, row = some k → w.heap.size ≤ k) : Ext w w' := h.grown hg h.size hr
theorem Own.nil (base : Nat) (w : World) : Own base w (.slice none 0 0) [] := World.ownsRow_nil _ _ _ _
theorem Own.alloc {base : Nat} {w : World} {v : Value} {l : List Nat} (h : Own base w v l) (o : Obj) : Own base (w.alloc o) v l := World.ownsRow.alloc h o
theorem Own.kept {base : Nat} {w w' : World} {v : Value} {l : List Nat} {row : Option Nat} (h : Own base w v l) (hg : w.grownBy w' row) (hne : v.ownBlock = none ∨ v.ownBlock ≠ row) : Own base w' v l := World.ownsRow.kept h hg hne

/-- 'append(out, x)' of one limb. -/
theorem wpList_app1 {wr : World} {ops : Array Oper} {rest : List Oper} {o : Oper} {a : Act} {Q : Exit → Act → World → Prop} (hgd : o.guard = none) (s x : Operand)
    (ho : o.op = .call { callee := .builtin .append, args := #[s, x], argTypes := #[51, 51] }) {base : Nat} {v : Value} {l : List Nat} {d : Nat} {d' : Int} {c : Nat}
    (hs : a.eval s = v) (hx : a.eval x = .slice (some ⟨wr.heap.size, 0, none⟩) 1 c) (hown : Own base wr v l) (hd : d' = (d : Int)) (hn : l.length < 4000000) (hb : base ≤ wr.heap.size)
    (h : ∀ v' w', Own base w' v' (l ++ [d]) → (wr.alloc (.cells #[.int .u32 d'] 123)).grownBy w' v.ownBlock → wpList Tryz.prog ops Q rest (a.put o.dst v') w') :
    wpList Tryz.prog ops Q (o :: rest) a (wr.alloc (.cells #[.int .u32 d'] 123)) := by
  subst hd
  obtain ⟨i0, hi, hz0, hz1, hz2⟩ := info_parts Tryz.info123
  refine wpList_append_own _ hgd s x 51 ho base 123 i0 (.int .u32 0) 1 4 Tryz.underlying51 hi hz0 hz1 hz2 rfl (by decide) v l.length (u32s l) hs (hown.alloc _) ⟨wr.heap.size, 0, none⟩ 1 c [.int .u32 (d : Int)] hx rfl ?_ ?_ ?_ ?_ ?_ ?_
  · intro j u hj
    match j, hj with
    | 0, hj => simp at hj; subst hj; simp [Addr.add]
  · intro u hu; simp at hu; subst hu; rfl
  · unfold maxLen; omega
  · omega
  · simp; omega
  · intro v' w' h1 h2 _
    refine h v' w' ?_ h2
    unfold Own
    rw [u32s_append, List.length_append]
    exact h1

/-- 'make([]uint32, n)'. -/
theorem wpList_make32 {w : World} {ops : Array Oper} {rest : List Oper} {o : Oper} {a : Act} {Q : Exit → Act → World → Prop} (hgd : o.guard = none) (l c : Operand)
    (ho : o.op = .makeSlice 51 l c) {L C : Int} {n : Nat} (hl : a.eval l = .int .i64 L) (hc : a.eval c = .int .i64 C) (hL : L = (n : Int)) (hC : C = (n : Int)) (hn : n ≤ 4000000)
    (h : ∀ w', Own w.heap.size w' (.slice (some ⟨w.heap.size, 0, none⟩) n n) (List.replicate n 0) → Ext w w' → wpList Tryz.prog ops Q rest (a.put o.dst (.slice (some ⟨w.heap.size, 0, none⟩) n n)) w') :
    wpList Tryz.prog ops Q (o :: rest) a w := by
  obtain ⟨i0, hi, hz0, hz1, hz2⟩ := info_parts Tryz.info123
  refine wpList_make_full _ hgd l c 51 ho w.heap.size 123 i0 (.int .u32 0) 1 Tryz.underlying51 hi hz0 hz1 .i64 .i64 L C n hl hc hL hC (by rw [hz2]; omega) (by unfold maxLen; omega) (Nat.le_refl _) ?_
  intro w' h1 h2
  refine h w' ?_ ((Ext.rfl' w).grown' h2 (by simp))
  unfold Own
  rw [u32s_zeros, List.length_replicate]
  rw [show (madeCells (Value.int .u32 0).cells (n * 1)).toList = List.replicate n (Value.int .u32 0) from by rw [Nat.mul_one]; exact toList_madeCells_one _ _] at h1
  exact h1

/-- 'make([]uint32, 0, n)'. -/
theorem wpList_make0 {w : World} {ops : Array Oper} {rest : List Oper} {o : Oper} {a : Act} {Q : Exit → Act → World → Prop} (hgd : o.guard = none) (l c : Operand)
    (ho : o.op = .makeSlice 51 l c) {C : Int} {n : Nat} (hl : a.eval l = .int .i64 0) (hc : a.eval c = .int .i64 C) (hC : C = (n : Int)) (hn : n ≤ 4000000)
    (h : ∀ w', Own w.heap.size w' (.slice (some ⟨w.heap.size, 0, none⟩) 0 n) [] → Ext w w' → wpList Tryz.prog ops Q rest (a.put o.dst (.slice (some ⟨w.heap.size, 0, none⟩) 0 n)) w') :
    wpList Tryz.prog ops Q (o :: rest) a w := by
  obtain ⟨i0, hi, hz0, hz1, hz2⟩ := info_parts Tryz.info123
  refine wpList_make_own _ hgd l c 51 ho w.heap.size 123 i0 (.int .u32 0) 1 Tryz.underlying51 hi hz0 hz1 .i64 .i64 C n hl hc hC (by rw [hz2]; omega) (by unfold maxLen; omega) (Nat.le_refl _) ?_
  intro w' h1 h2
  exact h w' h1 ((Ext.rfl' w).grown' h2 (by simp))


theorem Own.at {base : Nat} {w : World} {g n c k : Nat} {l : List Nat} (h : Own base w (.slice (some ⟨g, 0, none⟩) n c) l) (hn : l.length = n) (hk : k < n) :
    w.cell? ⟨g, k, none⟩ = some (.int .u32 (l.getD k 0 : Nat)) ∧ w.frozen? ⟨g, k, none⟩ = false := by
  subst hn
  exact ⟨(World.ownsRow.cellAt h k (by omega)).trans (u32s_get l k hk), World.ownsRow.frozenAt h k⟩
theorem Own.stored {base : Nat} {w : World} {g n c : Nat} {l : List Nat} (h : Own base w (.slice (some ⟨g, 0, none⟩) n c) l) (hn : l.length = n) (k : Nat) {d : Nat} {d' : Int} (hd : d' = (d : Int)) :
    Own base (w.setCell ⟨g, k, none⟩ (.int .u32 d')) (.slice (some ⟨g, 0, none⟩) n c) (l.set k d) := by
  subst hn hd
  have := World.ownsRow.stored h k (.int .u32 (d : Int))
  unfold Own
  rw [u32s_set, List.length_set]
  exact this.1
theorem Ext.set' {w wr : World} (h : Ext w wr) {p : Addr} (hp : w.heap.size ≤ p.block) (u : Value) : Ext w (wr.setCell p u) := h.setCell hp u


theorem Own.drew {base : Nat} {w : World} {v : Value} {l : List Nat} (h : Own base w v l) : Own base w.drew v l := h
theorem Own.drewN {base : Nat} {w : World} {v : Value} {l : List Nat} (h : Own base w v l) (n : Nat) : Own base (w.drewN n) v l := h
/-- A slice literal of one limb. -/
theorem U32s.lit1 (w : World) (d : Nat) (hd : d < 4294967296) : U32s (w.alloc (.cells #[.int .u32 (d : Int)] 123)) (.slice (some ⟨w.heap.size, 0, none⟩) 1 1) [d] := by
  refine ⟨_, 1, rfl, by simp, by simpa using hd, by simp, by simp, .inr ⟨_, 0, rfl, by simp, fun i hi => ?_⟩⟩
  match i, hi with
  | 0, _ => simp
  | i + 1, hi => simp at hi


theorem oneCell_int (k : IntKind) (n : Int) : (Value.int k n).oneCell' = true := rfl
/-- 'append([]uint32(nil), x...)'. -/
theorem wpList_copy32 {w : World} {ops : Array Oper} {rest : List Oper} {o : Oper} {a : Act} {Q : Exit → Act → World → Prop} (hgd : o.guard = none) (s x : Operand)
    (ho : o.op = .call { callee := .builtin .append, args := #[s, x], argTypes := #[51, 51] }) {v : Value} {l : List Nat}
    (hs : a.eval s = .slice none 0 0) (hx : a.eval x = v) (hl : U32s w v l)
    (h : ∀ v' w', Own w.heap.size w' v' l → Ext w w' → wpList Tryz.prog ops Q rest (a.put o.dst v') w') : wpList Tryz.prog ops Q (o :: rest) a w := by
  obtain ⟨i0, hi, hz0, hz1, hz2⟩ := info_parts Tryz.info123
  obtain ⟨ad, c, rfl, hc, hb, hn, hz, hcell⟩ := hl
  cases ad with
  | none =>
    rcases hcell with rfl | ⟨b, o', h1, _⟩
    · obtain rfl := hz rfl
      exact wpList_append_own_none hgd s x 51 ho w.heap.size 123 i0 1 Tryz.underlying51 hi _ 0 [] hs (World.ownsRow_nil _ _ _ _) hx (h _ _ (Own.nil _ _) (Ext.rfl' _))
    · cases h1
  | some ad =>
    refine wpList_append_own _ hgd s x 51 ho w.heap.size 123 i0 (.int .u32 0) 1 4 Tryz.underlying51 hi hz0 hz1 hz2 rfl (by decide) _ 0 [] hs (World.ownsRow_nil _ _ _ _) ad l.length c (u32s l) hx (by rw [u32s_length]; omega) ?_ ?_ (by unfold maxLen; omega) (by omega) (Nat.le_refl _) ?_
    · intro j u hj
      have hj' : j < l.length := by
        have := (List.getElem?_eq_some_iff.1 hj).1
        rwa [u32s_length] at this
      rcases hcell with rfl | ⟨b, o', h1, _, hcell⟩
      · simp at hj'
      · obtain rfl := Option.some.inj h1
        rw [u32s_get l j hj'] at hj
        obtain rfl := Option.some.inj hj
        have e : (⟨b, o', none⟩ : Addr).add j = ⟨b, o' + j, none⟩ := by unfold Addr.add; split <;> simp_all
        rw [e]; exact hcell j hj'
    · intro u hu
      simp [u32s] at hu
      obtain ⟨n, _, rfl⟩ := hu
      exact oneCell_int _ _
    · intro v' w' h1 h2 _
      refine h v' w' ?_ ((Ext.rfl' w).grown' h2 (by simp [Value.ownBlock]))
      unfold Own
      rw [Nat.zero_add, List.nil_append] at h1
      exact h1


theorem Own.shape {base : Nat} {w : World} {v : Value} {l : List Nat} (h : Own base w v l) (hl : 0 < l.length) : ∃ g c, v = .slice (some ⟨g, 0, none⟩) l.length c ∧ base ≤ g ∧ g < w.heap.size := by
  obtain ⟨h1, h2⟩ := h
  rcases h2 with ⟨rfl, h0⟩ | ⟨g, cap, cur, rfl, hg, hh, hc, hm, hs, ht⟩
  · omega
  · exact ⟨g, cap, rfl, hg, (Array.getElem?_eq_some_iff.1 hh).1⟩
theorem Own.ext {base g n c : Nat} {w w' : World} {l : List Nat} (h : Own base w (.slice (some ⟨g, 0, none⟩) n c) l) (e : Ext w w') : Own base w' (.slice (some ⟨g, 0, none⟩) n c) l := by
  refine Own.kept (row := none) h ⟨e.os, e.tape, e.output, e.size, fun k hk _ => e.block k hk⟩ (.inr (by simp [Value.ownBlock]))
theorem Own.lower {base base' : Nat} {w : World} {v : Value} {l : List Nat} (h : Own base w v l) (hb : base' ≤ base) : Own base' w v l := by
  obtain ⟨h1, h2⟩ := h
  rcases h2 with h2 | ⟨g, cap, cur, rfl, hg, rest⟩
  · exact ⟨h1, .inl h2⟩
  · exact ⟨h1, .inr ⟨g, cap, cur, rfl, Nat.le_trans hb hg, rest⟩⟩

theorem Own.lt {base g n c : Nat} {w : World} {l : List Nat} (h : Own base w (.slice (some ⟨g, 0, none⟩) n c) l) : g < w.heap.size := (World.ownsRow.lt h g rfl).2

theorem Own.cap {base g n c : Nat} {w : World} {l : List Nat} (h : Own base w (.slice (some ⟨g, 0, none⟩) n c) l) : n ≤ c := by
  obtain ⟨h1, h2⟩ := h
  rcases h2 with ⟨h2, h0⟩ | ⟨g, cap, cur, he, hg, hh, hc, hm, hs, ht⟩
  · cases h2
  · cases he; exact hc

theorem Own.set_far {base g n c : Nat} {w : World} {l : List Nat} (h : Own base w (.slice (some ⟨g, 0, none⟩) n c) l) {p : Addr} (hp : g ≠ p.block) (u : Value) : Own base (w.setCell p u) (.slice (some ⟨g, 0, none⟩) n c) l := by
  refine Own.kept (row := some p.block) h ⟨rfl, rfl, rfl, by simp [World.setCell], fun k _ hne => Below.heap_setCell _ _ _ _ (by intro e; exact hne (by rw [e]))⟩ (.inr (by simp only [Value.ownBlock]; intro e; exact hp (Option.some.inj e)))
theorem U32s.set_far {w : World} {g o n c : Nat} {l : List Nat} (h : U32s w (.slice (some ⟨g, o, none⟩) n c) l) {p : Addr} (hp : g ≠ p.block) (u : Value) : U32s (w.setCell p u) (.slice (some ⟨g, o, none⟩) n c) l := by
  obtain ⟨a, c', hv, hc, hb, hn, hz, h⟩ := h
  refine ⟨a, c', hv, hc, hb, hn, hz, ?_⟩
  injection hv with h1 _ _
  subst h1
  rcases h with h | ⟨b, o', ha, hlt, h⟩
  · exact .inl h
  · refine .inr ⟨b, o', ha, by simpa [World.setCell] using hlt, fun i hi => ?_⟩
    have hb' : b ≠ p.block := by cases ha; exact hp
    rw [World.cell?_of_block (w := w) (Below.heap_setCell w p u b hb')]
    exact h i hi

theorem Own.cutTo {base g n c : Nat} {w : World} {l : List Nat} (h : Own base w (.slice (some ⟨g, 0, none⟩) n c) l) (hl : l.length = n) (hb : ∀ n ∈ l, n < 4294967296) (hn : n ≤ 4000000) {k : Nat} (hk : k ≤ n) : U32s w (.slice (some ⟨g, 0, none⟩) k c) (l.take k) := by
  refine U32s.take k (by omega) (by have := h.cap; omega) hb (by omega) h.lt (fun i hi => ?_)
  rw [Nat.zero_add]
  exact (h.at hl (by omega)).1

theorem U32s.sub {w : World} {b o : Nat} {l : List Nat} (k : Nat) (hk : k ≤ l.length) (hb : ∀ n ∈ l, n < 4294967296) (hn : l.length ≤ 4000000) (hlt : b < w.heap.size)
    (h : ∀ i, i < l.length → w.cell? ⟨b, o + i, none⟩ = some (.int .u32 (l.getD i 0 : Nat))) : U32s w (.slice (some ⟨b, o, none⟩) k k) (l.take k) := by
  obtain ⟨a', c', hv, h1, h2, h3, h4, h5⟩ := U32s.take k hk (Nat.le_refl _) hb hn hlt h
  injection hv with e1 e2 e3
  exact ⟨some ⟨b, o, none⟩, k, congrArg (fun n => Value.slice (some ⟨b, o, none⟩) n k) e2, by omega, h2, h3, by simp, by rw [e1]; exact h5⟩

end Go.Proofs.YtechjiiijiipdaaGreatDoor
namespace Go.Proofs.YtechjiiijiipdaaGreatDoor
open Go.RowKit
set_option linter.unusedSimpArgs false
set_option linter.unusedVariables false

section
variable {P : Program} {ops : Array Oper} {Q : Exit → Act → World → Prop} {md : Region.Mode} {S : World → Prop} {n : Nat} {L : Act → World → Prop}

/-- The operations ahead of number n in whatever order; S behind each of them; then L. -/
def wpHead (P : Program) (md : Region.Mode) (ops : Array Oper) (Q : Exit → Act → World → Prop) (S : World → Prop) (n : Nat) (L : Act → World → Prop) : Nat → Array Bool → Act → World → Prop
  | 0, listed, a, w => Region.seqB md ops (ops.size - n) n listed = true ∧ L a w
  | f + 1, listed, a, w => HeadInv md ops n listed → Region.ready md ops listed ≠ [] ∧ ∀ i ∈ Region.ready md ops listed, i < n ∧ wpOp P ops Q i (fun a' w' => S w' ∧ wpHead P md ops Q S n L f (listed.setIfInBounds i true) a' w') a w

def headB (md : Region.Mode) (ops : Array Oper) (n : Nat) : Bool := Region.noSelect ops && decide (n < ops.size) && Region.sinkB md ops n && Region.chainB md ops n
theorem headB_spec (h : headB md ops n = true) : Region.noSelect ops = true ∧ n < ops.size ∧ Region.sinkB md ops n = true ∧ Region.chainB md ops n = true := by
  simp only [headB, Bool.and_eq_true, decide_eq_true_eq] at h
  exact ⟨h.1.1.1, h.1.1.2, h.1.2, h.2⟩

theorem wpAny_of_wpHead {l : List Oper} (hops : ops = l.toArray) (hn : n < ops.size) :
    ∀ (f : Nat) (listed : Array Bool) (a : Act) (w : World), HeadInv md ops n listed → wpHead P md ops Q S n (fun a' w' => wpList P ops Q (l.drop n) a' w') f listed a w → wpAny P md ops Q (f + (ops.size - n)) listed a w
  | 0, listed, a, w, _, h => by
    have hd : (l.drop n).length = ops.size - n := by rw [hops]; simp
    rw [Nat.zero_add, ← hd]
    exact wpAny_of_seq (l.drop n) n listed a w (fun j => by rw [hops]; simp [List.getElem?_drop]) (by rw [hd]; exact h.1) h.2
  | f + 1, listed, a, w, inv, h => by
    rw [show f + 1 + (ops.size - n) = (f + (ops.size - n)) + 1 by omega]
    obtain ⟨h1, h2⟩ := h inv
    exact ⟨fun h0 => absurd h0 h1, fun i hi => wpOp_mono (fun a' w' h' => wpAny_of_wpHead hops hn f _ a' w' (inv.set hi (h2 i hi).1) h'.2) (h2 i hi).2⟩

theorem head_lt {i j : Nat} {listed : Array Bool} (hs : Region.sinkB md ops n = true) (hc : Region.chainB md ops n = true) (hn : n < ops.size) (inv : HeadInv md ops n listed) (hin : i < n) (hr : i ∈ Region.ready md ops listed) (hj : j ∈ Region.ready md ops listed) : j < n := by
  rcases Nat.lt_or_ge j n with h | h
  · exact h
  · exact absurd hj (tail_waits hs hc hn inv _ i rfl hin (mem_ready.1 hr).1 j h)

theorem wpHead_first {i : Nat} {oi : Oper} {v : Value} (hi : ops[i]? = some oi) (hB : headB md ops n = true) (hin : i < n) (hQ : ∀ c a w, Q (.panic c) (a.put oi.dst v) w → Q (.panic c) a w) :
    ∀ (f : Nat) (listed : Array Bool) (a : Act) (w : World),
      (∀ j oj, ops[j]? = some oj → j ≠ i → listed.getD j true = false → (∀ e ∈ oj.after, Region.binds md e = true → e.on ≠ i) → oi.apart ops oj = true) →
      i ∈ Region.ready md ops listed → YieldsIf P ops S oi v a → S w →
      wpHead P md ops Q S n L f (listed.setIfInBounds i true) (a.put oi.dst v) w → wpHead P md ops Q S n L (f + 1) listed a w := by
  obtain ⟨hsel, hn, hs, hc⟩ := headB_spec hB
  intro f
  induction f with
  | zero =>
    intro listed a w _ hr hy hS H inv
    refine ⟨fun h => (by rw [h] at hr; cases hr), fun j hj => ?_⟩
    have hjn := head_lt hs hc hn inv hin hr hj
    refine ⟨hjn, ?_⟩
    by_cases hji : j = i
    · subst hji; exact hy.wpOp hi hS ⟨hS, H⟩
    · have := seqB_ready H.1 j (ready_mono hj hji)
      omega
  | succ f ih =>
    intro listed a w hfree hr hy hS H inv
    refine ⟨fun h => (by rw [h] at hr; cases hr), fun j hj => ?_⟩
    have hjn := head_lt hs hc hn inv hin hr hj
    refine ⟨hjn, ?_⟩
    by_cases hji : j = i
    · subst hji; exact hy.wpOp hi hS ⟨hS, H⟩
    · have h1 := ((H (inv.set hr hin)).2 j (ready_mono hj hji)).2
      obtain ⟨hjun, oj, hoj, hall⟩ := mem_ready.1 hj
      have hnot : ∀ e ∈ oj.after, Region.binds md e = true → e.on ≠ i := fun e he hb heq => by
        have h1 := hall e he hb
        rw [heq, getD_both (mem_ready.1 hr).1] at h1
        cases h1
      have h2 := wpOp_putIf hoj (hfree j oj hoj hji hjun hnot) (fun cs b => Region.noSelect_spec hsel i oi cs b hi) (fun cs b => Region.noSelect_spec hsel j oj cs b hoj) hQ hy h1
      refine wpOp_mono (fun a' w' h3 => ⟨h3.2.1, ih (listed.setIfInBounds j true) a' w' (fun k ok hk hki hun hno => ?_) (ready_mono hr (Ne.symm hji)) h3.1 h3.2.1 ?_⟩) h2
      · refine hfree k ok hk hki ?_ hno
        by_cases hjk : j = k
        · subst hjk; exact hjun
        · rw [getD_set_ne true hjk] at hun; exact hun
      · rw [Array.setIfInBounds_comm _ _ hji]
        exact h3.2.2

end
/-- Operation number i of a list. -/
def atOp : List Oper → Nat → (Oper → Prop) → Prop
  | o :: _, 0, k => k o
  | _ :: l, i + 1, k => atOp l i k
  | [], _, _ => False
theorem atOp_spec : ∀ {l : List Oper} {i : Nat} {k : Oper → Prop}, atOp l i k → ∃ o, l.toArray[i]? = some o ∧ k o
  | o :: _, 0, _, h => ⟨o, by simp, h⟩
  | _ :: l, i + 1, k, h => by
    obtain ⟨o, h1, h2⟩ := atOp_spec (l := l) (i := i) (k := k) h
    exact ⟨o, by simpa using h1, h2⟩

section
variable {P : Program} {l : List Oper} {Q : Exit → Act → World → Prop} {md : Region.Mode} {S : World → Prop} {n : Nat} {L : Act → World → Prop}
/-- Take number i now: what it yields is fixed by S. -/
theorem wpHead_take (i : Nat) {f : Nat} {listed : Array Bool} {a : Act} {w : World}
    (hB : (headB md l.toArray n && decide (i < n) && Region.free md l.toArray listed i && (Region.ready md l.toArray listed).contains i) = true)
    (hQ : ∀ c a w d v, Q (.panic c) (Act.put a d v) w → Q (.panic c) a w) (hS : S w)
    (h : atOp l i fun oi => Region.wanted oi (yielded l.toArray a.tmps) = true ∧ ∃ v, (∀ w, S w → (execOp a.eval oi).run P w = .ok (.value v) w) ∧ wpHead P md l.toArray Q S n L f (listed.setIfInBounds i true) (a.put oi.dst v) w) : wpHead P md l.toArray Q S n L (f + 1) listed a w := by
  simp only [Bool.and_eq_true, decide_eq_true_eq] at hB
  obtain ⟨oi, hi, hw, v, hy, h⟩ := atOp_spec h
  exact wpHead_first hi hB.1.1.1 hB.1.1.2 (fun c a w => hQ c a w _ _) f listed a w (Region.free_spec hi hB.1.2) (by simpa using hB.2) (.inl ⟨hw, hy⟩) hS h

/-- The one operation that may come up. -/
theorem wpHead_only (i : Nat) {f : Nat} {listed : Array Bool} {a : Act} {w : World}
    (hB : (decide (i < n) && decide (Region.ready md l.toArray listed = [i])) = true)
    (h : atOp l i fun o => ∀ K' : Act → World → Prop, Shut (∀ a w, S w → (S w → wpHead P md l.toArray Q S n L f (listed.setIfInBounds i true) a w) → K' a w) → if Region.wanted o (yielded l.toArray a.tmps) = true then Oper.wp P o a w K' Q else K' (a.put o.dst undef) w) :
    wpHead P md l.toArray Q S n L (f + 1) listed a w := by
  simp only [Bool.and_eq_true, decide_eq_true_eq] at hB
  obtain ⟨o, ho, h⟩ := atOp_spec h
  intro _
  rw [hB.2]
  refine ⟨by simp, fun j hj => ?_⟩
  obtain rfl : j = i := by simpa using hj
  exact ⟨hB.1, wpOp_step ho (fun K' hK => h K' (fun a w hS hW => hK a w ⟨hS, hW hS⟩))⟩

/-- All have come up but the stores. -/
theorem wpHead_done {listed : Array Bool} {a : Act} {w : World} (hB : Region.seqB md l.toArray (l.toArray.size - n) n listed = true) (h : L a w) : wpHead P md l.toArray Q S n L 0 listed a w := ⟨hB, h⟩

end
/-- The beginning. -/
theorem wp_region_head {P : Program} {Q : Exit → Act → World → Prop} {id : Nat} {a : Act} {w : World} {l : List Oper} (n : Nat) (S : World → Prop) (hm : P.follows .mixedOrders = true) (hB : headB .any l.toArray n = true) (hS : S w.drew)
    (h : S w.drew → wpHead P .any l.toArray Q S n (fun a' w' => wpList P l.toArray Q (l.drop n) a' w') n (Array.replicate l.toArray.size false) a w.drew) : (Code.region id l.toArray true).wp P Q a w := by
  obtain ⟨_, hn, _, _⟩ := headB_spec hB
  refine wp_region_any hm ?_
  have inv0 : HeadInv .any l.toArray n (Array.replicate l.toArray.size false) :=
    ⟨by simp, fun j oj _ hl => (by rw [getD_replicate_false] at hl; cases hl), fun t _ ht => getD_in (by simpa using ht) (getD_replicate_false _ _)⟩
  have := wpAny_of_wpHead rfl hn n _ a _ inv0 (h hS)
  rwa [show n + (l.toArray.size - n) = l.toArray.size by omega] at this
end Go.Proofs.YtechjiiijiipdaaGreatDoor
namespace Go.Proofs.YtechjiiijiipdaaGreatDoor

/-- Each is a limb. -/
def Dig (l : List Nat) : Prop := ∀ n ∈ l, n < 1000000000

theorem Dig.nil : Dig [] := by simp [Dig]
theorem Dig.cons {d : Nat} {l : List Nat} : Dig (d :: l) ↔ d < 1000000000 ∧ Dig l := by simp [Dig]
theorem Dig.append {l m : List Nat} : Dig (l ++ m) ↔ Dig l ∧ Dig m := by simp [Dig, or_imp, forall_and]
theorem Dig.take {l : List Nat} (h : Dig l) (k : Nat) : Dig (l.take k) := fun n hn => h n (List.mem_of_mem_take hn)
theorem Dig.drop {l : List Nat} (h : Dig l) (k : Nat) : Dig (l.drop k) := fun n hn => h n (List.mem_of_mem_drop hn)
theorem Dig.trimL {l : List Nat} (h : Dig l) : Dig (trimL l) := fun n hn => h n (mem_trimL hn)
theorem Dig.getD {l : List Nat} (h : Dig l) (k : Nat) : l.getD k 0 < 1000000000 := by
  rw [List.getD_eq_getElem?_getD]
  by_cases hk : k < l.length
  · simp [hk]; exact h _ (List.getElem_mem hk)
  · simp [hk]
theorem Dig.u32 {l : List Nat} (h : Dig l) : ∀ n ∈ l, n < 4294967296 := fun n hn => by have := h n hn; omega
theorem Dig.set {l : List Nat} (h : Dig l) {k d : Nat} (hd : d < 1000000000) : Dig (l.set k d) := fun n hn => by
  rcases List.mem_or_eq_of_mem_set hn with h' | rfl
  · exact h n h'
  · exact hd
theorem Dig.zeros (k : Nat) : Dig (List.replicate k 0) := fun n hn => by simp at hn; omega

theorem getD_len {l : List Nat} {k : Nat} (h : l.length ≤ k) : l.getD k 0 = 0 := by rw [List.getD_eq_getElem?_getD, List.getElem?_eq_none h]; rfl
theorem getD_zeros (n k : Nat) : (List.replicate n 0).getD k 0 = 0 := by simp only [List.getD_eq_getElem?_getD, List.getElem?_replicate]; split <;> rfl
theorem val_nil : val [] = 0 := rfl
theorem val_cons (d : Nat) (l : List Nat) : val (d :: l) = d + 1000000000 * val l := rfl
theorem val_append : ∀ l m : List Nat, val (l ++ m) = val l + 1000000000 ^ l.length * val m
  | [], m => by simp [val]
  | d :: l, m => by
    have := val_append l m
    simp only [List.cons_append, val_cons, this, List.length_cons, Nat.pow_succ]
    grind
theorem val_lt : ∀ {l : List Nat}, Dig l → val l < 1000000000 ^ l.length
  | [], _ => by simp [val]
  | d :: l, h => by
    have h := Dig.cons.1 h
    have := val_lt h.2
    simp only [val_cons, List.length_cons, Nat.pow_succ]
    omega
theorem val_zeros : ∀ k : Nat, val (List.replicate k 0) = 0
  | 0 => rfl
  | k + 1 => by simp [List.replicate_succ, val_cons, val_zeros k]
theorem val_take_drop (l : List Nat) (k : Nat) (h : k ≤ l.length) : val l = val (l.take k) + 1000000000 ^ k * val (l.drop k) := by
  have := val_append (l.take k) (l.drop k)
  rw [List.take_append_drop, List.length_take, Nat.min_eq_left h] at this
  exact this
theorem val_take_succ {l : List Nat} {k : Nat} (h : k < l.length) : val (l.take (k + 1)) = val (l.take k) + 1000000000 ^ k * l.getD k 0 := by
  rw [take_succ_getD h, val_append, List.length_take, Nat.min_eq_left (by omega)]; simp [val]
theorem val_drop_pred {l : List Nat} {k : Nat} (h : k < l.length) : val (l.drop k) = l.getD k 0 + 1000000000 * val (l.drop (k + 1)) := by
  rw [List.drop_eq_getElem_cons h, val_cons]; simp [h]
theorem val_set {l : List Nat} {k d : Nat} (h : k < l.length) : val (l.set k d) + 1000000000 ^ k * l.getD k 0 = val l + 1000000000 ^ k * d := by
  have h1 := val_take_drop (l.set k d) k (by simp; omega)
  have h2 := val_take_drop l k (by omega)
  rw [val_drop_pred (by simpa using h)] at h1
  rw [val_drop_pred h] at h2
  simp only [List.take_set, List.drop_set] at h1
  have e3 : (l.set k d).getD k 0 = d := by simp [h]
  have e4 : (l.take k).set k d = l.take k := List.set_eq_of_length_le (by simp; omega)
  rw [e3, e4, if_pos (by omega)] at h1
  rw [h1, h2]; grind

/-- No limb 0 at the end. -/
def Norm (l : List Nat) : Prop := trimL l = l
theorem Norm.nil : Norm [] := rfl
theorem norm_trimL : ∀ l : List Nat, Norm (trimL l)
  | [] => rfl
  | d :: l => by
    have := norm_trimL l
    rw [trimL_cons]; split
    · split <;> simp [Norm, trimL, *]
    · unfold Norm at this ⊢; rw [trimL_cons, this]; simp [*]
theorem Norm.ge : ∀ {l : List Nat}, Norm l → l ≠ [] → 1000000000 ^ (l.length - 1) ≤ val l
  | [], _, h => absurd rfl h
  | d :: l, h, _ => by
    unfold Norm at h
    rw [trimL_cons] at h
    by_cases hl : l = []
    · subst hl
      by_cases hd : d = 0
      · subst hd; simp [trimL] at h
      · simp [val]; omega
    · have hn : Norm l := by
        split at h
        · split at h <;> simp at h; first | exact absurd h hl | exact absurd h.symm hl | exact absurd h.2 hl | exact absurd h.2.symm hl | exact absurd h (Ne.symm hl)
        · unfold Norm; simpa using h
      have := hn.ge hl
      obtain ⟨x, t, rfl⟩ := List.exists_cons_of_ne_nil hl
      simp only [List.length_cons, Nat.add_sub_cancel, val_cons, Nat.pow_succ] at this ⊢
      omega
theorem Norm.pos {l : List Nat} (h : Norm l) (hl : l ≠ []) : 0 < val l := Nat.lt_of_lt_of_le (Nat.pow_pos (by omega)) (h.ge hl)
theorem Norm.zero {l : List Nat} (h : Norm l) : val l = 0 ↔ l = [] := ⟨fun e => by
  by_cases hl : l = []
  · exact hl
  · have := h.pos hl; omega, fun e => by rw [e]; rfl⟩

theorem val_lt_of_length {l m : List Nat} (hl : Dig l) (hm : Norm m) (h : l.length < m.length) : val l < val m := by
  have h1 := val_lt hl
  have h2 := hm.ge (by intro e; subst e; simp at h)
  have h3 : 1000000000 ^ l.length ≤ 1000000000 ^ (m.length - 1) := Nat.pow_le_pow_right (by omega) (by omega)
  omega

theorem val_lt_at {l m : List Nat} (hl : Dig l) (he : l.length = m.length) {i : Nat} (hi : i < l.length) (hd : l.drop (i + 1) = m.drop (i + 1)) (h : l.getD i 0 < m.getD i 0) : val l < val m := by
  have h1 := val_take_drop l i (by omega)
  have h2 := val_take_drop m i (by omega)
  rw [val_drop_pred hi] at h1
  rw [val_drop_pred (by omega), ← hd] at h2
  have h3 := val_lt (hl.take i)
  rw [List.length_take, Nat.min_eq_left (by omega)] at h3
  generalize 1000000000 ^ i = p at *
  have h4 : p * (l.getD i 0 + 1) ≤ p * m.getD i 0 := Nat.mul_le_mul_left _ h
  grind

theorem Norm.inj : ∀ {l m : List Nat}, Dig l → Dig m → Norm l → Norm m → val l = val m → l = m := by
  intro l m hl hm hnl hnm h
  have he : l.length = m.length := by
    rcases Nat.lt_trichotomy l.length m.length with h' | h' | h'
    · have := val_lt_of_length hl hnm h'; omega
    · exact h'
    · have := val_lt_of_length hm hnl h'; omega
  clear hnl hnm
  induction l generalizing m with
  | nil => simp at he; exact (List.eq_nil_of_length_eq_zero he.symm).symm
  | cons d l ih =>
    cases m with
    | nil => simp at he
    | cons x m =>
      have h1 := Dig.cons.1 hl
      have h2 := Dig.cons.1 hm
      simp only [val_cons] at h
      have : d = x := by omega
      subst this
      rw [ih h1.2 h2.2 (by omega) (by simpa using he)]

/-- The sign of a - b. -/
def cmpN (a b : Nat) : Int := if a < b then -1 else if b < a then 1 else 0


theorem val_take_succ' (l : List Nat) (k : Nat) : val (l.take (k + 1)) = val (l.take k) + 1000000000 ^ k * l.getD k 0 := by
  by_cases h : k < l.length
  · exact val_take_succ h
  · rw [List.take_of_length_le (by omega), List.take_of_length_le (by omega)]; simp [h]
theorem val_snoc (r : List Nat) (d : Nat) : val (r ++ [d]) = val r + 1000000000 ^ r.length * d := by rw [val_append]; simp [val]

/-- One round of an addition. -/
theorem plus_step {X Y r : List Nat} {k c d c' : Nat} (hk : r.length = k) (h : val r + 1000000000 ^ k * c = val (X.take k) + val (Y.take k)) (hd : d + 1000000000 * c' = X.getD k 0 + c + Y.getD k 0) :
    val (r ++ [d]) + 1000000000 ^ (k + 1) * c' = val (X.take (k + 1)) + val (Y.take (k + 1)) := by
  subst hk
  rw [val_snoc, val_take_succ', val_take_succ', Nat.pow_succ]
  generalize 1000000000 ^ r.length = p at *
  generalize X.getD r.length 0 = x at *
  generalize Y.getD r.length 0 = y at *
  have e : p * (d + 1000000000 * c') = p * (x + c + y) := by rw [hd]
  grind
theorem plus_end {X Y r : List Nat} {c : Nat} (hk : r.length = X.length) (hY : Y.length ≤ X.length) (h : val r + 1000000000 ^ X.length * c = val (X.take X.length) + val (Y.take X.length)) :
    val (r ++ [c]) = val X + val Y := by
  rw [List.take_length, List.take_of_length_le hY] at h
  rw [val_snoc, hk]; exact h


/-- One step of a row of a product. -/
theorem times_step {O b : List Nat} {S x i k c t : Nat} (hlen : i + k < O.length) (h : val O + 1000000000 ^ (i + k) * c = S + 1000000000 ^ i * (x * val (b.take k)))
    (ht : t = O.getD (i + k) 0 + x * b.getD k 0 + c) : val (O.set (i + k) (t % 1000000000)) + 1000000000 ^ (i + (k + 1)) * (t / 1000000000) = S + 1000000000 ^ i * (x * val (b.take (k + 1))) := by
  have h1 := val_set (d := t % 1000000000) hlen
  have h2 : t % 1000000000 + 1000000000 * (t / 1000000000) = t := Nat.mod_add_div _ _
  rw [val_take_succ', show i + (k + 1) = (i + k) + 1 by omega, Nat.pow_succ]
  have h3 : 1000000000 ^ (i + k) = 1000000000 ^ i * 1000000000 ^ k := Nat.pow_add _ _ _
  generalize 1000000000 ^ (i + k) = p at *
  generalize 1000000000 ^ i = pi at *
  generalize 1000000000 ^ k = pk at *
  generalize O.getD (i + k) 0 = o at *
  generalize b.getD k 0 = y at *
  generalize t % 1000000000 = d at *
  generalize t / 1000000000 = q at *
  generalize val (O.set (i + k) d) = V at *
  generalize val (b.take k) = W at *
  subst ht
  have e : p * (d + 1000000000 * q) = p * (o + x * y + c) := by rw [h2]
  grind
theorem times_row {O a b : List Nat} {i c : Nat} (hlen : i + b.length < O.length) (h : val O + 1000000000 ^ (i + b.length) * c = val (a.take i) * val b + 1000000000 ^ i * (a.getD i 0 * val (b.take b.length)))
    (hz : O.getD (i + b.length) 0 = 0) : val (O.set (i + b.length) c) = val (a.take (i + 1)) * val b := by
  have h1 := val_set (d := c) hlen
  rw [hz] at h1
  rw [List.take_length] at h
  rw [val_take_succ']
  grind
theorem zeros_set {O : List Nat} {n k d : Nat} (h : ∀ j, n ≤ j → O.getD j 0 = 0) (hk : k < n) : ∀ j, n ≤ j → (O.set k d).getD j 0 = 0 := fun j hj => by
  have := h j hj
  rw [List.getD_eq_getElem?_getD] at this ⊢
  rw [List.getElem?_set_ne (by omega)]; exact this
theorem times_bound {o x y c : Nat} (ho : o < 1000000000) (hx : x < 1000000000) (hy : y < 1000000000) (hc : c < 1000000000) : o + x * y + c < 1000000000 * 1000000000 := by
  have h : x * y ≤ 999999999 * 999999999 := Nat.mul_le_mul (by omega) (by omega)
  omega


/-- One round of a subtraction. -/
theorem minus_step {X Y r : List Nat} {k c d c' : Nat} (hk : k < r.length) (h : val (r.take k) + val (Y.take k) = val (X.take k) + 1000000000 ^ k * c) (hd : d + Y.getD k 0 + c = X.getD k 0 + 1000000000 * c') :
    val ((r.set k d).take (k + 1)) + val (Y.take (k + 1)) = val (X.take (k + 1)) + 1000000000 ^ (k + 1) * c' := by
  rw [val_take_succ', val_take_succ', val_take_succ' X, Nat.pow_succ, List.take_set, List.set_eq_of_length_le (by simp; omega)]
  have e : (r.set k d).getD k 0 = d := by simp [hk]
  rw [e]
  generalize 1000000000 ^ k = p at *
  generalize X.getD k 0 = x at *
  generalize Y.getD k 0 = y at *
  have e : p * (d + y + c) = p * (x + 1000000000 * c') := by rw [hd]
  grind
theorem minus_end {X Y r : List Nat} {c : Nat} (hr : r.length = X.length) (hd : Dig r) (hY : Y.length ≤ X.length) (hle : val Y ≤ val X) (h : val (r.take X.length) + val (Y.take X.length) = val (X.take X.length) + 1000000000 ^ X.length * c) :
    val r = val X - val Y := by
  rw [List.take_of_length_le (by omega), List.take_of_length_le hY, List.take_length] at h
  have h1 := val_lt hd
  rw [hr] at h1
  by_cases hc : c = 0
  · subst hc; omega
  · have : 1000000000 ^ X.length * 1 ≤ 1000000000 ^ X.length * c := Nat.mul_le_mul_left _ (by omega)
    omega


theorem drop_set_self {r : List Nat} {k d : Nat} (hk : k < r.length) : val ((r.set k d).drop k) = d + 1000000000 * val (r.drop (k + 1)) := by
  rw [val_drop_pred (by simpa using hk)]
  have e : (r.set k d).getD k 0 = d := by simp [hk]
  rw [e, List.drop_set, if_pos (by omega)]
/-- One round of a division by a limb. -/
theorem byWord_step {X r : List Nat} {k b rest t : Nat} (hk : k < r.length) (hX : k < X.length) (h : val (r.drop (k + 1)) * b + rest = val (X.drop (k + 1))) (ht : t = rest * 1000000000 + X.getD k 0) :
    val ((r.set k (t / b)).drop k) * b + t % b = val (X.drop k) := by
  rw [drop_set_self hk, val_drop_pred hX]
  have h2 := Nat.mod_add_div t b
  generalize t / b = q at *
  generalize t % b = m at *
  generalize X.getD k 0 = x at *
  generalize val (r.drop (k + 1)) = V at *
  generalize val (X.drop (k + 1)) = W at *
  subst h ht
  grind
theorem byWord_dig {rest x b : Nat} (hr : rest < b) (hx : x < 1000000000) : (rest * 1000000000 + x) / b < 1000000000 := by
  rw [Nat.div_lt_iff_lt_mul (by omega)]
  have : (rest + 1) * 1000000000 ≤ b * 1000000000 := Nat.mul_le_mul_right _ hr
  grind


/-! A stretch of a row that is written in place: from k on, n limbs. -/
theorem seg_get {R U : List Nat} {j : Nat} (h : R.drop j = U.drop j) : R.getD j 0 = U.getD j 0 := by
  have := congrArg (fun l : List Nat => l.getD 0 0) h
  simpa using this
theorem seg_take {R U : List Nat} {k j d : Nat} (h : R.take k = U.take k) : (R.set (k + j) d).take k = U.take k := by
  rw [List.take_set, List.set_eq_of_length_le (by simp; omega), h]
theorem seg_drop {R U : List Nat} {k j d : Nat} (h : R.drop (k + j) = U.drop (k + j)) : (R.set (k + j) d).drop (k + (j + 1)) = U.drop (k + (j + 1)) := by
  rw [List.drop_set, if_pos (by omega)]
  have := congrArg (List.drop 1) h
  rw [List.drop_drop, List.drop_drop] at this
  exact this
theorem seg_val {R : List Nat} {k j d : Nat} (h : k + j < R.length) : val (((R.set (k + j) d).drop k).take (j + 1)) = val ((R.drop k).take j) + 1000000000 ^ j * d := by
  rw [List.drop_set, if_neg (by omega), show k + j - k = j by omega, val_take_succ', List.take_set, List.set_eq_of_length_le (by simp; omega)]
  have e : ((R.drop k).set j d).getD j 0 = d := by simp [show j < R.length - k by omega]
  rw [e]
theorem seg_old {U : List Nat} {k j : Nat} : val ((U.drop k).take (j + 1)) = val ((U.drop k).take j) + 1000000000 ^ j * U.getD (k + j) 0 := by
  rw [val_take_succ']; simp

/-- One round of u - v * by. -/
theorem sub_step {R U V : List Nat} {k j c b f d b' t : Nat} (hk : k + j < R.length) (h : val ((R.drop k).take j) + f * val (V.take j) = val ((U.drop k).take j) + 1000000000 ^ j * (c + b))
    (ht : t = c + V.getD j 0 * f) (hd : d + t % 1000000000 + b = U.getD (k + j) 0 + 1000000000 * b') :
    val (((R.set (k + j) d).drop k).take (j + 1)) + f * val (V.take (j + 1)) = val ((U.drop k).take (j + 1)) + 1000000000 ^ (j + 1) * (t / 1000000000 + b') := by
  rw [seg_val hk, seg_old, val_take_succ', Nat.pow_succ]
  have h2 := Nat.mod_add_div t 1000000000
  generalize 1000000000 ^ j = p at *
  generalize t / 1000000000 = q at *
  generalize t % 1000000000 = m at *
  generalize U.getD (k + j) 0 = u at *
  generalize V.getD j 0 = v at *
  have e : p * (d + m + b) = p * (u + 1000000000 * b') := by rw [hd]
  have e2 : p * (m + 1000000000 * q) = p * (c + v * f) := by rw [h2, ht]
  grind
/-- One round of u + v. -/
theorem add_step {R U V : List Nat} {k j c d c' : Nat} (hk : k + j < R.length) (h : val ((R.drop k).take j) + 1000000000 ^ j * c = val ((U.drop k).take j) + val (V.take j))
    (hd : d + 1000000000 * c' = U.getD (k + j) 0 + c + V.getD j 0) :
    val (((R.set (k + j) d).drop k).take (j + 1)) + 1000000000 ^ (j + 1) * c' = val ((U.drop k).take (j + 1)) + val (V.take (j + 1)) := by
  rw [seg_val hk, seg_old, val_take_succ', Nat.pow_succ]
  generalize 1000000000 ^ j = p at *
  generalize U.getD (k + j) 0 = u at *
  generalize V.getD j 0 = v at *
  have e : p * (d + 1000000000 * c') = p * (u + c + v) := by rw [hd]
  grind
theorem sub_carry {c v f : Nat} (hc : c < 1000000000) (hv : v < 1000000000) (hf : f < 1000000000) : (c + v * f) / 1000000000 < 1000000000 ∧ v * f ≤ 999999998000000001 := by
  have : v * f ≤ 999999999 * 999999999 := Nat.mul_le_mul (by omega) (by omega)
  omega

end Go.Proofs.YtechjiiijiipdaaGreatDoor
namespace Go.Proofs.YtechjiiijiipdaaGreatDoor

/-- What is known of a round: V the divisor, w what is to be divided (below 10^9 V), their heads. -/
structure Round (V w v1 v2 x2 top P : Nat) : Prop where
  a1 : 250000000 ≤ v1
  a1b : v1 < 1000000000
  a2 : v2 < 1000000000
  ax : x2 < 1000000000
  aP : 0 < P
  Vlo : (v1 * 1000000000 + v2) * P ≤ V
  Vhi : V < (v1 * 1000000000 + v2 + 1) * P
  wlo : (top * 1000000000 + x2) * P ≤ w
  whi : w < (top * 1000000000 + x2 + 1) * P
  lt : w < 1000000000 * V

namespace Round
variable {V w v1 v2 x2 top P : Nat}
theorem Vpos (h : Round V w v1 v2 x2 top P) : 0 < V := by
  have h1 := h.Vlo; have h2 := h.aP; have h3 := h.a1
  have : 1 * 1 ≤ (v1 * 1000000000 + v2) * P := Nat.mul_le_mul (by omega) h2
  omega
theorem Qlt (h : Round V w v1 v2 x2 top P) : w / V < 1000000000 := (Nat.div_lt_iff_lt_mul h.Vpos).2 h.lt
theorem Qle (_h : Round V w v1 v2 x2 top P) : w / V * V ≤ w := Nat.div_mul_le_self _ _
theorem topb (h : Round V w v1 v2 x2 top P) : top < (v1 + 1) * 1000000000 := by
  have h1 := h.wlo; have h2 := h.lt; have h3 := h.Vhi; have h4 := h.aP; have h5 := h.a2
  have h6 : V < ((v1 + 1) * 1000000000) * P := Nat.lt_of_lt_of_le h3 (Nat.mul_le_mul_right _ (by omega))
  have h7 : (top * 1000000000) * P ≤ w := Nat.le_trans (Nat.mul_le_mul_right _ (by omega)) h1
  have h8 : (top * 1000000000) * P < (1000000000 * ((v1 + 1) * 1000000000)) * P := by
    have : 1000000000 * V < 1000000000 * (((v1 + 1) * 1000000000) * P) := Nat.mul_lt_mul_of_pos_left h6 (by omega)
    rw [← Nat.mul_assoc] at this
    omega
  have h9 := Nat.lt_of_mul_lt_mul_right h8
  omega
theorem first (h : Round V w v1 v2 x2 top P) : w / V ≤ top / v1 := by
  have hv := h.a1
  rw [Nat.le_div_iff_mul_le (by omega)]
  have h1 := h.Qle; have h2 := h.Vlo; have h3 := h.whi; have h4 := h.ax; have h5 := h.aP
  have h6 : w / V * ((v1 * 1000000000) * P) ≤ w / V * V := Nat.mul_le_mul_left _ (Nat.le_trans (Nat.mul_le_mul_right _ (by omega)) h2)
  have h7 : w < ((top + 1) * 1000000000) * P := Nat.lt_of_lt_of_le h3 (Nat.mul_le_mul_right _ (by omega))
  have h8 : (w / V * v1 * 1000000000) * P < ((top + 1) * 1000000000) * P := by
    have e : (w / V * v1 * 1000000000) * P = w / V * ((v1 * 1000000000) * P) := by grind
    omega
  have h9 := Nat.lt_of_mul_lt_mul_right h8
  omega
theorem guessb (h : Round V w v1 v2 x2 top P) {g r : Nat} (hg : g * v1 + r = top) : g ≤ 1000000003 := by
  have h1 := h.topb; have h2 := h.a1
  have h3 : g * v1 < (1000000000 + 4) * v1 := by omega
  have := Nat.lt_of_mul_lt_mul_right h3
  omega
theorem dec_gt (h : Round V w v1 v2 x2 top P) {g r : Nat} (hg : g * v1 + r = top) (hgt : r * 1000000000 + x2 < g * v2) : w / V ≤ g - 1 ∧ 1 ≤ g := by
  have h1 := h.Qle; have h2 := h.Vlo; have h3 := h.whi
  have h4 : top * 1000000000 + x2 + 1 ≤ g * (v1 * 1000000000 + v2) := by
    have e : g * (v1 * 1000000000 + v2) = (g * v1) * 1000000000 + g * v2 := by grind
    omega
  have h5 : (top * 1000000000 + x2 + 1) * P ≤ g * V := Nat.le_trans (Nat.mul_le_mul_right P h4) (by rw [Nat.mul_assoc]; exact Nat.mul_le_mul_left _ h2)
  have h6 : w / V * V < g * V := by omega
  have h7 := Nat.lt_of_mul_lt_mul_right h6
  clear h1 h5 h6
  generalize w / V = q at *
  omega
theorem dec_ge (h : Round V w v1 v2 x2 top P) {g : Nat} (hg : 1000000000 ≤ g) : w / V ≤ g - 1 ∧ 1 ≤ g := by
  have := h.Qlt; omega
theorem end1 (h : Round V w v1 v2 x2 top P) {g r : Nat} (hg : g * v1 + r = top) (hb : g < 1000000000) (hle : g * v2 ≤ r * 1000000000 + x2) : g ≤ w / V + 1 := by
  have h1 := h.Vlo; have h2 := h.Vhi; have h3 := h.wlo; have h4 := h.a1; have h5 := h.aP
  have h6 : g * (v1 * 1000000000 + v2) ≤ top * 1000000000 + x2 := by
    have e : g * (v1 * 1000000000 + v2) = (g * v1) * 1000000000 + g * v2 := by grind
    omega
  have h7 : g * (v1 * 1000000000 + v2) * P ≤ w := Nat.le_trans (Nat.mul_le_mul_right P h6) h3
  have h8 : g * P ≤ V := Nat.le_trans (Nat.mul_le_mul_right P (by omega)) h1
  have h9 : g * V ≤ g * ((v1 * 1000000000 + v2 + 1) * P) := Nat.mul_le_mul_left _ (Nat.le_of_lt h2)
  have h10 : g * ((v1 * 1000000000 + v2 + 1) * P) = g * (v1 * 1000000000 + v2) * P + g * P := by grind
  have h11 : (g - 1) * V ≤ w := by
    have : (g - 1) * V = g * V - V := by rw [Nat.sub_mul, Nat.one_mul]
    omega
  have := (Nat.le_div_iff_mul_le h.Vpos).2 h11
  omega
theorem end2 (h : Round V w v1 v2 x2 top P) {g r : Nat} (hg : g * v1 + r = top) (hr : 1000000000 ≤ r) : g < 1000000000 ∧ g ≤ w / V + 1 := by
  have h1 := h.topb
  have h2 : g * v1 < 1000000000 * v1 := by omega
  have h3 := Nat.lt_of_mul_lt_mul_right h2
  have h4 : g * v2 ≤ 1000000000 * 1000000000 := Nat.mul_le_mul (by omega) (by have := h.a2; omega)
  exact ⟨h3, h.end1 hg h3 (by omega)⟩
end Round

/-- What a subtraction of the guess leaves: the digit is the guess, or one less where it fell below 0. -/
theorem digit_right {w V g M s : Nat} (hV : 0 < V) (hQ : w / V ≤ g) (h : s + g * V = w + M * 0) : g = w / V ∧ s = w % V := by
  have h1 : g ≤ w / V := (Nat.le_div_iff_mul_le hV).2 (by omega)
  have e : g = w / V := by omega
  subst e
  have := Nat.mod_add_div w V
  rw [Nat.mul_comm] at this
  exact ⟨rfl, by omega⟩
theorem digit_less {w V g M s o s2 c : Nat} (hV : 0 < V) (hVM : V < M) (hwM : w < M) (hg : g ≤ w / V + 1) (ho : 0 < o) (hs : s < M) (h : s + g * V = w + M * o) (hs2 : s2 < M) (h2 : s2 + M * c = s + V) : g - 1 = w / V ∧ s2 = w % V ∧ 1 ≤ g := by
  have h1 : M * 1 ≤ M * o := Nat.mul_le_mul_left _ ho
  have h3 : w < g * V := by omega
  have h4 : w / V < g := (Nat.div_lt_iff_lt_mul hV).2 h3
  have e : g = w / V + 1 := by omega
  subst e
  have h5 := Nat.mod_add_div w V
  rw [Nat.mul_comm] at h5
  have h6 := Nat.mod_lt w hV
  have h7 : (w / V + 1) * V = w / V * V + V := by rw [Nat.add_mul, Nat.one_mul]
  have ho1 : o = 1 := by
    by_cases h8 : o = 1
    · exact h8
    · have : M * 2 ≤ M * o := Nat.mul_le_mul_left _ (by omega)
      omega
  subst ho1
  have hc1 : c = 1 := by
    rcases Nat.lt_or_ge c 1 with h8 | h8
    · have : c = 0 := by omega
      subst this
      generalize w / V = q at *
      generalize w % V = m at *
      generalize (q + 1) * V = a at *
      generalize q * V = b at *
      omega
    · by_cases h9 : c = 1
      · exact h9
      · have : M * 2 ≤ M * c := Nat.mul_le_mul_left _ (by omega)
        omega
  subst hc1
  generalize w / V = q at *
  generalize w % V = m at *
  generalize (q + 1) * V = a at *
  generalize q * V = b at *
  exact ⟨by omega, by omega, by omega⟩

theorem norm_length {l : List Nat} {n : Nat} (hd : Dig l) (hn : Norm l) (h1 : 1000000000 ^ (n - 1) ≤ val l) (h2 : val l < 1000000000 ^ n) (hn0 : 0 < n) : l.length = n := by
  have h3 := val_lt hd
  have hne : l ≠ [] := by intro e; subst e; simp [val] at h1 <;> (have := Nat.pow_pos (n := n - 1) (show 0 < 1000000000 by omega); omega)
  have h4 := hn.ge hne
  have h5 : n - 1 < l.length := (Nat.pow_lt_pow_iff_right (show 1 < 1000000000 by omega)).1 (by omega)
  have h6 : l.length - 1 < n := (Nat.pow_lt_pow_iff_right (show 1 < 1000000000 by omega)).1 (by omega)
  omega
theorem norm_last {l : List Nat} (hn : Norm l) (hne : l ≠ []) : 0 < l.getD (l.length - 1) 0 := by
  rcases Nat.eq_zero_or_pos (l.getD (l.length - 1) 0) with h | h
  · exfalso
    have h1 := @val_take_succ l (l.length - 1) (by have := List.length_pos_iff.2 hne; omega)
    have hlen := List.length_pos_iff.2 hne
    rw [Nat.sub_add_cancel hlen, List.take_length, h] at h1
    have h2 := trim_go hlen (Nat.le_refl _) h
    rw [List.take_length] at h2
    have h3 := trimL_length_le (l.take (l.length - 1))
    rw [← h2, hn, List.length_take] at h3
    omega
  · exact h

/-- The scale of a divisor of n limbs whose last one is b. -/
structure Scaled (m : List Nat) (n d : Nat) : Prop where
  d0 : 0 < d
  d1 : d < 1000000000
  lo : 1000000000 ^ (n - 1) ≤ val m * d
  hi : val m * d < 1000000000 ^ n
  q : 250000000 * 1000000000 ^ (n - 1) ≤ val m * d

theorem scaled {m : List Nat} {n b d : Nat} (hm : Dig m) (hnm : Norm m) (hlen : m.length = n) (hn : 2 ≤ n) (hb : m.getD (n - 1) 0 = b) (hd : d = 1000000000 / (b + 1)) : Scaled m n d := by
  have hne : m ≠ [] := by intro e; subst e; simp at hlen; omega
  have hb0 : 0 < b := by rw [← hb, ← hlen]; exact norm_last hnm hne
  have hb1 : b < 1000000000 := by rw [← hb]; exact hm.getD _
  have hval := @val_take_succ m (n - 1) (by omega)
  rw [show n - 1 + 1 = n by omega, List.take_of_length_le (by omega), hb] at hval
  have hlow := val_lt (hm.take (n - 1))
  rw [List.length_take, Nat.min_eq_left (by omega)] at hlow
  have hpow : 1000000000 ^ n = 1000000000 ^ (n - 1) * 1000000000 := by rw [← Nat.pow_succ]; congr 1; omega
  have hp : 0 < 1000000000 ^ (n - 1) := Nat.pow_pos (by omega)
  have hdm : (b + 1) * d ≤ 1000000000 := by rw [hd]; exact Nat.mul_div_le _ _
  have hdl : 1000000000 < (b + 1) * d + (b + 1) := by
    have := Nat.div_add_mod 1000000000 (b + 1)
    have h2 := Nat.mod_lt 1000000000 (show 0 < b + 1 by omega)
    rw [← hd] at this
    omega
  have hd0 : 0 < d := by rw [hd]; exact Nat.div_pos (by omega) (by omega)
  have hd1 : d < 1000000000 := by
    have : 2 * d ≤ (b + 1) * d := Nat.mul_le_mul_right _ (by omega)
    omega
  clear hd
  have hbd : 250000000 ≤ b * d := by
    have h1 : (b + 1) * d = b * d + d := by rw [Nat.add_mul, Nat.one_mul]
    have h2 : 1 * d ≤ b * d := Nat.mul_le_mul_right _ hb0
    have h3 : (b + 1) * 1 ≤ (b + 1) * d := Nat.mul_le_mul_left _ hd0
    omega
  suffices H : ∀ p, val m = val (m.take (n - 1)) + p * b → val (m.take (n - 1)) < p → p ≤ val m * d ∧ val m * d < p * 1000000000 ∧ 250000000 * p ≤ val m * d by
    have H := H _ hval hlow
    exact ⟨hd0, hd1, H.1, by rw [hpow]; exact H.2.1, H.2.2⟩
  clear hval hlow hpow hp
  intro p hval hlow
  have h1 : val m * d = val (m.take (n - 1)) * d + p * (b * d) := by rw [hval]; grind
  have h2 : p * 250000000 ≤ p * (b * d) := Nat.mul_le_mul_left _ hbd
  have h3 : val m * d < p * 1000000000 := by
    have : val m < p * (b + 1) := by rw [hval]; have : p * (b + 1) = p * b + p := by rw [Nat.mul_add, Nat.mul_one]
                                     omega
    have h4 : val m * d < p * (b + 1) * d := Nat.mul_lt_mul_of_pos_right this hd0
    have h5 : p * (b + 1) * d ≤ p * 1000000000 := by rw [Nat.mul_assoc]; exact Nat.mul_le_mul_left _ hdm
    omega
  exact ⟨by omega, by omega, by omega⟩

theorem top_limb {M : List Nat} {n V : Nat} (hM : Dig M) (hlen : M.length = n) (hn : 2 ≤ n) (hV : val M = V) (hq : 250000000 * 1000000000 ^ (n - 1) ≤ V) : 250000000 ≤ M.getD (n - 1) 0 := by
  have hval := @val_take_succ M (n - 1) (by omega)
  rw [show n - 1 + 1 = n by omega, List.take_of_length_le (by omega)] at hval
  have hlow := val_lt (hM.take (n - 1))
  rw [List.length_take, Nat.min_eq_left (by omega)] at hlow
  have hp : 0 < 1000000000 ^ (n - 1) := Nat.pow_pos (by omega)
  generalize 1000000000 ^ (n - 1) = p at *
  generalize M.getD (n - 1) 0 = x at *
  have : 250000000 * p < (x + 1) * p := by have : (x + 1) * p = p * x + p := by grind
                                           omega
  have := Nat.lt_of_mul_lt_mul_right this
  omega

theorem upper_zero {R : List Nat} {k n V : Nat} (h : val (R.drop (k + 1)) < V) (hV : V < 1000000000 ^ n) : val (R.drop (k + 1 + n)) = 0 := by
  by_cases hk : n ≤ (R.drop (k + 1)).length
  · have h1 := val_take_drop (R.drop (k + 1)) n hk
    rw [List.drop_drop] at h1
    rcases Nat.eq_zero_or_pos (val (R.drop (k + 1 + n))) with h2 | h2
    · exact h2
    · have : 1000000000 ^ n * 1 ≤ 1000000000 ^ n * val (R.drop (k + 1 + n)) := Nat.mul_le_mul_left _ h2
      omega
  · rw [List.drop_of_length_le (by simp at hk; omega)]; rfl

theorem mkRound {R M : List Nat} {k n V : Nat} (hR : Dig R) (hM : Dig M) (hlen : M.length = n) (hn : 2 ≤ n) (hV : val M = V) (hVn : V < 1000000000 ^ n) (hq : 250000000 ≤ M.getD (n - 1) 0) (hk : k + n < R.length) (hlt : val (R.drop (k + 1)) < V) :
    Round V (val (R.drop k)) (M.getD (n - 1) 0) (M.getD (n - 2) 0) (R.getD (k + n - 2) 0) (R.getD (k + n) 0 * 1000000000 + R.getD (k + n - 1) 0) (1000000000 ^ (n - 2)) := by
  have hz := upper_zero hlt hVn
  have e1 := val_take_drop M (n - 2) (by omega)
  rw [val_drop_pred (k := n - 2) (by omega), show n - 2 + 1 = n - 1 by omega, val_drop_pred (k := n - 1) (by omega), show n - 1 + 1 = n by omega, List.drop_of_length_le (by omega)] at e1
  have e2 := val_take_drop (R.drop k) (n - 2) (by simp; omega)
  rw [List.drop_drop, val_drop_pred (k := k + (n - 2)) (by omega), show k + (n - 2) + 1 = k + n - 1 by omega, val_drop_pred (k := k + n - 1) (by omega), show k + n - 1 + 1 = k + n by omega, val_drop_pred (k := k + n) (by omega), show k + n + 1 = k + 1 + n by omega, hz, show k + (n - 2) = k + n - 2 by omega] at e2
  have l1 := val_lt (hM.take (n - 2))
  have l2 := val_lt ((hR.drop k).take (n - 2))
  rw [List.length_take, Nat.min_eq_left (by omega)] at l1
  rw [List.length_take, List.length_drop, Nat.min_eq_left (by omega)] at l2
  have hx := hR.getD (k + n - 2)
  have h1 := hM.getD (n - 1)
  have h2 := hM.getD (n - 2)
  have hlt' : val (R.drop k) < 1000000000 * V := by
    rw [val_drop_pred (k := k) (by omega)]
    have := hR.getD k
    omega
  have hp : 0 < 1000000000 ^ (n - 2) := Nat.pow_pos (by omega)
  simp only [val_nil, Nat.mul_zero, Nat.add_zero] at e1 e2
  rw [hV] at e1
  generalize 1000000000 ^ (n - 2) = P at *
  generalize val (R.drop k) = w at *
  generalize M.getD (n - 1) 0 = v1 at *
  generalize M.getD (n - 2) 0 = v2 at *
  generalize R.getD (k + n - 2) 0 = x2 at *
  generalize R.getD (k + n - 1) 0 = t1 at *
  generalize R.getD (k + n) 0 = t0 at *
  refine ⟨hq, h1, h2, hx, hp, ?_, ?_, ?_, ?_, hlt'⟩
  · have : (v1 * 1000000000 + v2) * P = P * (v2 + 1000000000 * v1) := by grind
    omega
  · have : (v1 * 1000000000 + v2 + 1) * P = P * (v2 + 1000000000 * v1) + P := by grind
    omega
  · have : ((t0 * 1000000000 + t1) * 1000000000 + x2) * P = P * (x2 + 1000000000 * (t1 + 1000000000 * t0)) := by grind
    omega
  · have : ((t0 * 1000000000 + t1) * 1000000000 + x2 + 1) * P = P * (x2 + 1000000000 * (t1 + 1000000000 * t0)) + P := by grind
    omega


/-- What stands ahead of the loop: dividend u and divisor v, scaled by d. -/
structure Begun (l m U M : List Nat) (d : Nat) : Prop where
  dU : Dig U
  dM : Dig M
  lU : U.length = l.length + 2
  lM : M.length = m.length
  hU : val U = val l * d
  hM : val M = val m * d
  hi : val M < 1000000000 ^ m.length
  top : 250000000 ≤ M.getD (m.length - 1) 0
  d0 : 0 < d
  n2 : 2 ≤ m.length
  le : m.length ≤ l.length
  zero : val (U.drop (U.length - m.length)) < val M

theorem begun {l m R0 M0 : List Nat} {d : Nat} (hsc : Scaled m m.length d) (hl : Dig l) (nm : Norm m) (hn : 2 ≤ m.length) (hle : val m ≤ val l) (dR0 : Dig R0) (dM0 : Dig M0)
    (hR0 : R0.length = l.length + 1 ∧ val R0 = val l * d) (hM0 : M0.length = m.length + 1 ∧ val M0 = val m * d) : Begun l m (R0 ++ [0]) (trimL M0) d := by
  have h1 := val_trimL M0
  have h2 : m.length ≤ l.length := by
    rcases Nat.lt_or_ge l.length m.length with h | h
    · have := val_lt_of_length hl nm h; omega
    · exact h
  have h3 : (trimL M0).length = m.length := norm_length dM0.trimL (norm_trimL M0) (by rw [h1, hM0.2]; exact hsc.lo) (by rw [h1, hM0.2]; exact hsc.hi) (by omega)
  refine ⟨Dig.append.2 ⟨dR0, by simp [Dig]⟩, dM0.trimL, by simp [hR0.1], h3, by rw [val_append, hR0.2]; simp [val], by rw [h1, hM0.2], by rw [h1, hM0.2]; exact hsc.hi, ?_, hsc.d0, hn, h2, ?_⟩
  · exact top_limb dM0.trimL h3 hn rfl (by rw [h1, hM0.2]; exact hsc.q)
  · rw [h1, hM0.2]
    refine Nat.lt_of_lt_of_le ?_ hsc.lo
    rw [List.length_append, List.drop_append_of_le_length (by rw [hR0.1]; simp; omega), val_append]
    have h4 := val_lt (dR0.drop (R0.length + [0].length - m.length))
    rw [List.length_drop, show R0.length - (R0.length + [0].length - m.length) = m.length - 1 by simp; omega] at h4
    simpa [val] using h4


theorem seg_all {R : List Nat} {k n : Nat} (hz : val (R.drop (k + n)) = 0) : val ((R.drop k).take n) = val (R.drop k) := by
  by_cases h : n ≤ (R.drop k).length
  · have := val_take_drop (R.drop k) n h
    rw [List.drop_drop, hz] at this
    omega
  · rw [List.take_of_length_le (by omega)]
theorem seg_lt {R : List Nat} {k n : Nat} (hR : Dig R) (hk : k + n ≤ R.length) : val ((R.drop k).take n) < 1000000000 ^ n := by
  have := val_lt ((hR.drop k).take n)
  rwa [List.length_take, List.length_drop, Nat.min_eq_left (by omega)] at this

/-- What a round leaves. -/
theorem div_round {R R' S : List Nat} {k n V X : Nat} (hRk : k ≤ R.length) (hl : R'.length = R.length) (ht : R'.take k = R.take k) (hd : R'.drop (k + (n + 1)) = R.drop (k + (n + 1))) (hS : k < S.length) (hz : val (R.drop (k + (n + 1))) = 0)
    (hs : val ((R'.drop k).take (n + 1)) = val (R.drop k) % V) (hV : 0 < V) (hinv : X = V * (1000000000 ^ (k + 1) * val (S.drop (k + 1))) + val R) :
    val (R'.drop k) < V ∧ X = V * (1000000000 ^ k * val ((S.set k (val (R.drop k) / V)).drop k)) + val R' := by
  have h1 : val (R'.drop k) = val (R.drop k) % V := by rw [← hs, seg_all (by rw [hd]; exact hz)]
  have h2 := Nat.mod_lt (val (R.drop k)) hV
  refine ⟨by omega, ?_⟩
  rw [drop_set_self hS]
  have h3 := val_take_drop R k hRk
  have h4 := val_take_drop R' k (by omega)
  rw [ht, h1] at h4
  have h5 := Nat.mod_add_div (val (R.drop k)) V
  rw [Nat.pow_succ] at hinv
  generalize 1000000000 ^ k = p at *
  generalize val (R.drop k) / V = q at *
  generalize val (R.drop k) % V = m at *
  generalize val (R.drop k) = w at *
  generalize val (R.take k) = t at *
  generalize val (S.drop (k + 1)) = s at *
  subst h5
  rw [hinv, h3, h4]
  grind


theorem div_final {A B d Q R q m : Nat} (h : A * d = B * d * Q + R) (hR : R < B * d) (hq : q * d + m = R) (hm : m < d) : Q = A / B ∧ q = A % B := by
  have h1 : B * Q ≤ A := by
    have : B * Q * d ≤ A * d := by rw [h]; have : B * d * Q = B * Q * d := by grind
                                   omega
    exact Nat.le_of_mul_le_mul_right this (by omega)
  obtain ⟨r, rfl⟩ : ∃ r, A = B * Q + r := ⟨A - B * Q, by omega⟩
  have h2 : R = r * d := by grind
  subst h2
  have h3 : q = r := by
    rcases Nat.lt_trichotomy q r with h | h | h
    · have : (q + 1) * d ≤ r * d := Nat.mul_le_mul_right _ h
      have : (q + 1) * d = q * d + d := by grind
      omega
    · exact h
    · have : (r + 1) * d ≤ q * d := Nat.mul_le_mul_right _ h
      have : (r + 1) * d = r * d + d := by grind
      omega
  subst h3
  have h4 : q < B := Nat.lt_of_mul_lt_mul_right hR
  rw [Nat.mul_add_div (by omega), Nat.mul_add_mod, Nat.div_eq_of_lt h4, Nat.mod_eq_of_lt h4]
  exact ⟨by omega, rfl⟩

end Go.Proofs.YtechjiiijiipdaaGreatDoor
namespace Go.Proofs.YtechjiiijiipdaaGreatDoor
open Go.RowKit
set_option linter.unusedSimpArgs false
set_option linter.unusedVariables false

/-- A number with a sign. -/
def sgn (neg : Bool) (n : Nat) : Int := if neg then -(n : Int) else n

/-- v is an api.Int in normal form, of at most n limbs, that shows z. -/
def IsInt (n : Nat) (w : World) (v : Value) (z : Int) : Prop :=
  ∃ neg sv l, v = .agg #[.bool neg, sv] ∧ U32s w sv l ∧ Dig l ∧ Norm l ∧ l.length ≤ n ∧ (neg = true → l ≠ []) ∧ z = sgn neg (val l)

theorem IsInt.ext {n : Nat} {w w' : World} {v : Value} {z : Int} (h : IsInt n w v z) (e : Ext w w') : IsInt n w' v z := by
  obtain ⟨neg, sv, l, hv, hu, rest⟩ := h
  exact ⟨neg, sv, l, hv, hu.ext e, rest⟩
theorem IsInt.mono {n m : Nat} {w : World} {v : Value} {z : Int} (h : IsInt n w v z) (hm : n ≤ m) : IsInt m w v z := by
  obtain ⟨neg, sv, l, hv, hu, hd, hn, hl, rest⟩ := h
  exact ⟨neg, sv, l, hv, hu, hd, hn, by omega, rest⟩
/-- Of trimmed limbs. -/
theorem IsInt.mk {n : Nat} {w : World} {sv : Value} {l : List Nat} {neg : Bool} (hu : U32s w sv (trimL l)) (hd : Dig l) (hn : (trimL l).length ≤ n) : IsInt n w (.agg #[.bool (neg && decide (0 < (trimL l).length)), sv]) (sgn neg (val l)) := by
  refine ⟨_, sv, trimL l, rfl, hu, hd.trimL, norm_trimL l, hn, ?_, ?_⟩
  · intro h e
    rw [e] at h
    simp at h
  · rw [val_trimL]
    by_cases h : trimL l = []
    · have h0 : val l = 0 := by rw [← val_trimL, h]; rfl
      rw [h, h0]; simp [sgn]
    · have : 0 < (trimL l).length := List.length_pos_iff.2 h
      rw [decide_eq_true this, Bool.and_true]

theorem IsInt.cast {n : Nat} {w : World} {v : Value} {z y : Int} (h : IsInt n w v z) (e : z = y) : IsInt n w v y := e ▸ h
theorem sgn_neg (b : Bool) (n : Nat) : sgn (!b) n = -sgn b n := by cases b <;> simp [sgn]
theorem sgn_mul (a b : Bool) (m n : Nat) : sgn (a != b) (m * n) = sgn a m * sgn b n := by cases a <;> cases b <;> simp [sgn, Int.neg_mul, Int.mul_neg]
theorem sgn_natAbs (b : Bool) (n : Nat) : (sgn b n).natAbs = n := by cases b <;> simp [sgn]


/-- What 'signed' hands back: the first k limbs, the rest zeros. -/
theorem IsInt.cut {w : World} {sv : Value} {l : List Nat} {neg b : Bool} {k : Nat} (hu : U32s w sv (l.take k)) (hk : k ≤ l.length) (hd : Dig l) (ht : trimL l = l.take k) (hb : b = (neg && decide (0 < k))) :
    IsInt l.length w (.agg #[.bool b, sv]) (sgn neg (val l)) := by
  have h1 : (trimL l).length = k := by rw [ht, List.length_take]; omega
  have := IsInt.mk (n := l.length) (neg := neg) (sv := sv) (w := w) (l := l) (by rw [ht]; exact hu) hd (trimL_length_le l)
  rwa [h1, ← hb] at this

/-! New blocks under names of their own. -/
theorem Ext.blk {w w' : World} {p : Nat} {o : Obj} (e : Ext w w') (h : w.heap[p]? = some o) : w'.heap[p]? = some o := by
  rw [e.block p (Array.getElem?_eq_some_iff.1 h).1]; exact h
theorem box1 (w : World) (a : Obj) : ∃ w3 p, w.alloc a = w3 ∧ w.heap.size = p ∧ w3.heap[p]? = some a ∧ Ext w w3 :=
  ⟨_, _, rfl, rfl, heap_alloc_new w a, (Ext.rfl' w).alloc' a⟩
theorem box2 (w : World) (a b : Obj) : ∃ w3 p q, (w.alloc a).alloc b = w3 ∧ w.heap.size + 1 = q ∧ w.heap.size = p ∧ w3.heap[p]? = some a ∧ w3.heap[q]? = some b ∧ p ≠ q ∧ Ext w w3 := by
  refine ⟨_, _, _, rfl, rfl, rfl, ?_, ?_, by omega, ((Ext.rfl' w).alloc' a).alloc' b⟩
  · exact ((Ext.rfl' _).alloc' b).blk (heap_alloc_new w a)
  · have := heap_alloc_new (w.alloc a) b
    simpa using this
theorem box3 (w : World) (a b c : Obj) : ∃ w3 p q r, ((w.alloc a).alloc b).alloc c = w3 ∧ w.heap.size + 1 + 1 = r ∧ w.heap.size + 1 = q ∧ w.heap.size = p ∧ w3.heap[p]? = some a ∧ w3.heap[q]? = some b ∧ w3.heap[r]? = some c ∧ p ≠ q ∧ p ≠ r ∧ q ≠ r ∧ Ext w w3 := by
  obtain ⟨w2, p, q, rfl, rfl, rfl, h1, h2, _, hE⟩ := box2 w a b
  refine ⟨_, _, _, _, rfl, rfl, rfl, rfl, ?_, ?_, ?_, by omega, by omega, by omega, hE.alloc' c⟩
  · exact ((Ext.rfl' _).alloc' c).blk h1
  · exact ((Ext.rfl' _).alloc' c).blk h2
  · have := heap_alloc_new ((w.alloc a).alloc b) c
    simpa using this
/-- What a block's cells read as wherever memory has only grown since. -/
theorem rules {w : World} {p : Nat} {cs : Array Value} {t : TypeId} (h : w.heap[p]? = some (.cells cs t (0, 0))) (i : Nat) (v : Value) (hv : cs[i]? = some v) :
    (∀ w', Ext w w' → w'.cell? ⟨p, i, none⟩ = some v) ∧ (∀ w', Ext w w' → w'.frozen? ⟨p, i, none⟩ = false) := by
  refine ⟨fun w' e => ?_, fun w' e => ?_⟩
  · have := e.blk h
    simp [World.cell?, this, hv]
  · have := e.blk h
    simp [World.frozen?, this]

/-! Memory in which, besides growing, one block of our own is written. -/
def atC (w : World) (a : Addr) : Value := (w.cell? a).getD (.bool false)
def noU : Value → Bool
  | .int .u32 _ => false
  | _ => true
structure But (rs : List Nat) (a b : World) : Prop where
  os : b.os = a.os
  tape : b.tape = a.tape
  output : b.output = a.output
  size : a.heap.size ≤ b.heap.size
  block : ∀ k, k < a.heap.size → k ∉ rs → b.heap[k]? = a.heap[k]?
  own : ∀ r, r ∈ rs → ∃ cs t cs', a.heap[r]? = some (.cells cs t (0, 0)) ∧ b.heap[r]? = some (.cells cs' t (0, 0)) ∧ cs'.size = cs.size ∧ ∀ (i : Nat) (v : Value), cs'[i]? = some v → noU v = true
/-- A block of our own. -/
def Box (a : World) (r : Nat) : Prop := ∃ cs t, a.heap[r]? = some (.cells cs t (0, 0)) ∧ cs.toList.all noU = true
theorem Box.mk {a : World} {r : Nat} {cs : Array Value} {t : TypeId} (h : a.heap[r]? = some (.cells cs t (0, 0))) (hn : cs.toList.all noU = true) : Box a r := ⟨cs, t, h, hn⟩
theorem But.start {rs : List Nat} {a : World} (h : ∀ r, r ∈ rs → Box a r) : But rs a a :=
  ⟨rfl, rfl, rfl, Nat.le_refl _, fun _ _ _ => rfl, fun r hr => by
    obtain ⟨cs, t, h, hn⟩ := h r hr
    exact ⟨cs, t, cs, h, h, rfl, fun i v hv => List.all_eq_true.1 hn v (Array.mem_toList_iff.2 (Array.mem_of_getElem? hv))⟩⟩
theorem But.start1 {r : Nat} {a : World} (h : Box a r) : But [r] a a := But.start (by simpa using h)
theorem But.start2 {r s : Nat} {a : World} (h : Box a r) (k : Box a s) : But [r, s] a a := But.start (by simpa using ⟨h, k⟩)
theorem But.start3 {r s t : Nat} {a : World} (h : Box a r) (k : Box a s) (l : Box a t) : But [r, s, t] a a := But.start (by simpa using ⟨h, k, l⟩)
theorem But.ext {rs : List Nat} {a b c : World} (h : But rs a b) (e : Ext b c) : But rs a c :=
  ⟨e.os.trans h.os, e.tape.trans h.tape, e.output.trans h.output, Nat.le_trans h.size e.size, fun k hk hr => (e.block k (Nat.lt_of_lt_of_le hk h.size)).trans (h.block k hk hr), fun r hr => by
    obtain ⟨cs, t, cs', h1, h2, h3, h4⟩ := h.own r hr
    exact ⟨cs, t, cs', h1, e.blk h2, h3, h4⟩⟩
theorem But.set {rs : List Nat} {a b : World} {r : Nat} (h : But rs a b) (i : Nat) (v : Value) (hv : noU v = true) (hm : r ∈ rs) : But rs a (b.setCell ⟨r, i, none⟩ v) := by
  refine ⟨h.os, h.tape, h.output, by simpa [World.setCell] using h.size, fun k hk hr => ?_, fun s hs => ?_⟩
  · rw [← h.block k hk hr]
    have : r ≠ k := by rintro rfl; exact hr hm
    simp [World.setCell, Array.getElem?_modify, this]
  · obtain ⟨cs, t, cs', h1, h2, h3, h4⟩ := h.own s hs
    by_cases e : r = s
    · subst e
      refine ⟨cs, t, cs'.setIfInBounds i v, h1, ?_, by simpa using h3, fun k x hx => ?_⟩
      · simp [World.setCell, Array.getElem?_modify, h2]
      · rw [Array.getElem?_setIfInBounds] at hx
        split at hx
        · split at hx
          · cases hx; exact hv
          · cases hx
        · exact h4 k x hx
    · exact ⟨cs, t, cs', h1, by simp [World.setCell, Array.getElem?_modify, h2, e], h3, h4⟩
/-- A block made since. -/
theorem But.setNew {rs : List Nat} {a b : World} {r : Nat} (h : But rs a b) (i : Nat) (v : Value) (hr : a.heap.size ≤ r) : But rs a (b.setCell ⟨r, i, none⟩ v) := by
  refine ⟨h.os, h.tape, h.output, by simpa [World.setCell] using h.size, fun k hk hn => ?_, fun s hs => ?_⟩
  · rw [← h.block k hk hn]
    have : r ≠ k := by omega
    simp [World.setCell, Array.getElem?_modify, this]
  · obtain ⟨cs, t, cs', h1, h2, h3, h4⟩ := h.own s hs
    have : s < a.heap.size := (Array.getElem?_eq_some_iff.1 h1).1
    have : r ≠ s := by omega
    exact ⟨cs, t, cs', h1, by simp [World.setCell, Array.getElem?_modify, h2, this], h3, h4⟩
theorem U32s.but {rs : List Nat} {r i : Nat} {a b : World} {u v : Value} {l : List Nat} (h : U32s b v l) (hb : But rs a b) (hm : r ∈ rs) : U32s (b.setCell ⟨r, i, none⟩ u) v l := by
  obtain ⟨ad, c, rfl, hc, hd, hn, hz, hcell⟩ := h
  refine ⟨ad, c, rfl, hc, hd, hn, hz, ?_⟩
  rcases hcell with rfl | ⟨p, o, rfl, hlt, hcell⟩
  · exact .inl rfl
  rcases l with _ | ⟨d, l⟩
  · exact .inl rfl
  refine .inr ⟨p, o, rfl, by simpa [World.setCell] using hlt, fun k hk => ?_⟩
  have hne : r ≠ p := by
    rintro rfl
    obtain ⟨cs, t, cs', h1, h2, h3, h4⟩ := hb.own r hm
    have h0 := hcell 0 (by simp)
    simp only [World.cell?, h2] at h0
    have := h4 _ _ h0
    simp [noU] at this
  exact (World.cell?_setCell_far b ⟨r, i, none⟩ ⟨p, o + k, none⟩ u hne).trans (hcell k hk)
theorem IsInt.but {rs : List Nat} {n r i : Nat} {a b : World} {u v : Value} {z : Int} (h : IsInt n b v z) (hb : But rs a b) (hm : r ∈ rs) : IsInt n (b.setCell ⟨r, i, none⟩ u) v z := by
  obtain ⟨neg, sv, l, hv, hu, rest⟩ := h
  exact ⟨neg, sv, l, hv, hu.but hb hm, rest⟩
theorem IsInt.put {rs : List Nat} {n r i j : Nat} {a b : World} {u x v : Value} {z : Int} (h : IsInt n b v z) (hb : But rs a b) (hm : r ∈ rs) (hx : noU x = true) : IsInt n ((b.setCell ⟨r, i, none⟩ x).setCell ⟨r, j, none⟩ u) v z :=
  (h.but hb hm).but (hb.set _ _ hx hm) hm
theorem But.old {rs : List Nat} {w a b : World} (h : But rs a b) (e : Ext w a) (hr : ∀ r, r ∈ rs → w.heap.size ≤ r) : Ext w b :=
  ⟨h.os.trans e.os, h.tape.trans e.tape, h.output.trans e.output, Nat.le_trans e.size h.size, fun k hk => (h.block k (Nat.lt_of_lt_of_le hk e.size) (fun hm => by have := hr k hm; omega)).trans (e.block k hk)⟩
theorem rulesB {rs : List Nat} {w : World} {p : Nat} {cs : Array Value} {t : TypeId} (h : w.heap[p]? = some (.cells cs t (0, 0))) (hp : p ∉ rs) (i : Nat) (v : Value) (hv : cs[i]? = some v) :
    ∀ w', But rs w w' → w'.cell? ⟨p, i, none⟩ = some v := fun w' e => by
  have := (e.block p (Array.getElem?_eq_some_iff.1 h).1 hp).trans h
  simp [World.cell?, this, hv]
theorem rulesR {rs : List Nat} {r : Nat} {w : World} {cs : Array Value} {t : TypeId} (h : w.heap[r]? = some (.cells cs t (0, 0))) (hm : r ∈ rs) (i : Nat) (hi : i < cs.size) :
    (∀ w', But rs w w' → w'.cell? ⟨r, i, none⟩ = some (atC w' ⟨r, i, none⟩)) ∧ (∀ w', But rs w w' → w'.frozen? ⟨r, i, none⟩ = false) := by
  refine ⟨fun w' e => ?_, fun w' e => ?_⟩
  · obtain ⟨cs0, t0, cs', h1, h2, h3, _⟩ := e.own r hm
    rw [h] at h1
    cases h1
    have : i < cs'.size := by omega
    simp [atC, World.cell?, h2, this]
  · obtain ⟨cs0, t0, cs', h1, h2, h3, _⟩ := e.own r hm
    simp [World.frozen?, h2]
theorem atC_of {w : World} {r : Nat} {cs : Array Value} {t : TypeId} (h : w.heap[r]? = some (.cells cs t (0, 0))) (i : Nat) (v : Value) (hv : cs[i]? = some v) : atC w ⟨r, i, none⟩ = v := by
  simp [atC, World.cell?, h, hv]

theorem Ext.setN {a b : World} {r i : Nat} {v : Value} (hr : a.heap.size ≤ r) (h : Ext a b) : Ext a (b.setCell ⟨r, i, none⟩ v) := h.setCell hr v
theorem But.dr {rs : List Nat} {a b : World} (h : But rs a b) : But rs a b.drew := h.ext (Ext.rfl' b).drew'
theorem But.drN {rs : List Nat} {a b : World} {n : Nat} (h : But rs a b) : But rs a (b.drewN n) := h.ext ((Ext.rfl' b).drewN' n)
theorem But.al {rs : List Nat} {a b : World} {o : Obj} (h : But rs a b) : But rs a (b.alloc o) := h.ext ((Ext.rfl' b).alloc' o)
theorem But.start0 (a : World) : But [] a a := But.start (by simp)
theorem But.none {a b : World} (h : But [] a b) : Ext a b := h.old (Ext.rfl' a) (by simp)
theorem But.start4 {r s t u : Nat} {a : World} (h : Box a r) (k : Box a s) (l : Box a t) (m : Box a u) : But [r, s, t, u] a a := But.start (by simpa using ⟨h, k, l, m⟩)
/-- Memory has only grown: shown by the facts at hand. (The word exact exttI stands for 'exact exttI'.) -/
theorem exttI {a b : World} (h : Ext a b := by first
    | (with_reducible assumption)
    | (with_reducible exact Ext.rfl' _)
    | (focus ((with_reducible apply Ext.drew'); exact exttI))
    | (focus ((with_reducible apply Ext.drewN'); exact exttI))
    | (focus ((with_reducible apply Ext.alloc'); exact exttI))
    | (focus ((with_reducible apply Ext.setN); omega; exact exttI))
    | exact But.old (by with_reducible assumption) (by with_reducible assumption) (by with_reducible assumption)
    | (focus ((refine Ext.trans' ?_ (by with_reducible assumption)); exact exttI))) : Ext a b := h
/-- The same but for some blocks. -/
theorem buttI {rs : List Nat} {a b : World} (h : But rs a b := by first
    | (with_reducible assumption)
    | exact But.start0 _
    | exact But.start1 (by with_reducible assumption)
    | exact But.start2 (by with_reducible assumption) (by with_reducible assumption)
    | exact But.start3 (by with_reducible assumption) (by with_reducible assumption) (by with_reducible assumption)
    | exact But.start4 (by with_reducible assumption) (by with_reducible assumption) (by with_reducible assumption) (by with_reducible assumption)
    | (focus ((with_reducible refine But.set ?_ _ _ rfl (List.Mem.head _)); exact buttI))
    | (focus ((with_reducible refine But.set ?_ _ _ rfl (List.Mem.tail _ (List.Mem.head _))); exact buttI))
    | (focus ((with_reducible refine But.set ?_ _ _ rfl (List.Mem.tail _ (List.Mem.tail _ (List.Mem.head _)))); exact buttI))
    | (focus ((with_reducible refine But.set ?_ _ _ rfl (List.Mem.tail _ (List.Mem.tail _ (List.Mem.tail _ (List.Mem.head _))))); exact buttI))
    | (focus ((with_reducible refine But.setNew ?_ _ _ ?_); rotate_left; omega; exact buttI))
    | (focus ((with_reducible refine But.dr ?_); exact buttI))
    | (focus ((with_reducible refine But.drN ?_); exact buttI))
    | (focus ((with_reducible refine But.al ?_); exact buttI))
    | (focus ((refine But.ext ?_ (by with_reducible assumption)); exact buttI))) : But rs a b := h
end Go.Proofs.YtechjiiijiipdaaGreatDoor
namespace Go.Proofs.YtechjiiijiipdaaGreatDoor
open Go.RowKit
set_option linter.unusedSimpArgs false
set_option linter.unusedVariables false

set_option maxHeartbeats 400000 in
theorem integer_trim (w : World) (a : Option Addr) (c : Nat) (l : List Nat) (h : U32s w (.slice a l.length c) l) :
    Calls Tryz.prog 211 #[.slice a l.length c] w fun e w' => e = .returned (.slice a (trimL l).length c) ∧ U32s w (.slice a (trimL l).length c) (trimL l) ∧ w = w' := by
  obtain ⟨a', c', hv, hc, hb, hn, hz, h⟩ := h
  injection hv with h1 _ h3
  subst h1 h3
  have HZ := Lib.hid hz
  clear hz
  go_enter Tryz.func211, Tryz.ntmps211
  go_wp2
  go_loop [0] (fun s => ∃ k : Nat, k ≤ l.length ∧ s = .slice a k c ∧ Hid (trimL (l.take k) = trimL l)) (fun s => match s with | .slice _ n _ => n | _ => 0)
  case atStart => exact ⟨l.length, Nat.le_refl _, rfl, (by rw [List.take_length] : trimL (l.take l.length) = trimL l)⟩
  case round =>
    obtain ⟨k, hk, rfl, ht⟩ := hrel
    rcases Nat.eq_zero_or_pos k with rfl | hk0
    · go_wp2
      go_ret
      rw [← ht.out]
      exact ⟨rfl, U32s.nil _ _ _ HZ.out, rfl⟩
    · rcases h with rfl | ⟨b, o, rfl, hlt, hcell⟩
      · simp at hk; omega
      have hcl := hcell (k - 1) (by omega)
      have e1 : ((k : Int) - 1) = ((k - 1 : Nat) : Int) := by omega
      by_cases hz : l.getD (k - 1) 0 = 0
      · have ht' := (trim_go hk0 hk hz).symm.trans ht.out
        rw [hz] at hcl
        go_wp2
        go_round
        case rel => exact ⟨k - 1, by omega, rfl, ht'⟩
        case measure => show k - 1 < k; omega
      · have ht2 := Lib.hid ((trim_stop hk0 hk hz).symm.trans ht.out)
        generalize l.getD (k - 1) 0 = d at hcl hz
        have hd : ((d : Int) == 0) = false := by simpa using hz
        go_wp2
        go_ret
        have hlen : (trimL l).length = k := by rw [← ht2.out, List.length_take]; omega
        rw [hlen, ← ht2.out]
        exact ⟨rfl, U32s.take k hk hc hb hn hlt hcell, rfl⟩

/-- At a difference, from above. -/
theorem cmp_lt {l m : List Nat} (hl : Dig l) (he : l.length = m.length) {k : Nat} (hk0 : 0 < k) (hk : k ≤ l.length) (hd : l.drop k = m.drop k) (h : l.getD (k - 1) 0 < m.getD (k - 1) 0) : cmpN (val l) (val m) = -1 := by
  have := val_lt_at hl he (i := k - 1) (by omega) (by rw [Nat.sub_add_cancel hk0]; exact hd) h
  unfold cmpN; rw [if_pos this]
theorem cmp_gt {l m : List Nat} (hm : Dig m) (he : l.length = m.length) {k : Nat} (hk0 : 0 < k) (hk : k ≤ l.length) (hd : l.drop k = m.drop k) (h : m.getD (k - 1) 0 < l.getD (k - 1) 0) : cmpN (val l) (val m) = 1 := by
  have := val_lt_at hm he.symm (i := k - 1) (by omega) (by rw [Nat.sub_add_cancel hk0]; exact hd.symm) h
  unfold cmpN; rw [if_neg (by omega), if_pos this]
theorem cmp_eq {l m : List Nat} (h : l.drop 0 = m.drop 0) : cmpN (val l) (val m) = 0 := by
  simp at h; subst h; simp [cmpN]
theorem drop_go {l m : List Nat} (he : l.length = m.length) {k : Nat} (hk0 : 0 < k) (hk : k ≤ l.length) (hd : l.drop k = m.drop k) (h : l.getD (k - 1) 0 = m.getD (k - 1) 0) : l.drop (k - 1) = m.drop (k - 1) := by
  obtain ⟨j, rfl⟩ : ∃ j, k = j + 1 := ⟨k - 1, by omega⟩
  simp only [Nat.add_sub_cancel] at *
  rw [List.drop_eq_getElem_cons (show j < l.length by omega), List.drop_eq_getElem_cons (show j < m.length by omega), hd]
  simp [show j < l.length by omega, show j < m.length by omega] at h
  simp [h]

set_option maxHeartbeats 1000000 in
theorem integer_compare (w : World) (v u : Value) (l m : List Nat) (hv : U32s w v l) (hu : U32s w u m) (hl : Dig l) (hm : Dig m) :
    Calls Tryz.prog 204 #[v, u] w fun e w' => e = .returned (.int .i64 (cmpN (val l) (val m))) ∧ Drawn w w' := by
  rw [← val_trimL l, ← val_trimL m]
  replace hl := hl.trimL
  replace hm := hm.trimL
  have nl := norm_trimL l
  have nm := norm_trimL m
  obtain ⟨a, c, rfl, hc, hn⟩ := hv.shape
  obtain ⟨a2, c2, rfl, hc2, hn2⟩ := hu.shape
  have h1 := integer_trim w a c l hv
  have h2 := integer_trim w a2 c2 m hu
  have hc' := Nat.le_trans (trimL_length_le l) hc
  have hn' := Nat.le_trans (trimL_length_le l) hn
  have hc2' := Nat.le_trans (trimL_length_le m) hc2
  have hn2' := Nat.le_trans (trimL_length_le m) hn2
  clear hv hu hc hn hc2 hn2
  generalize trimL l = l' at *
  generalize trimL m = m' at *
  have H1 := Lib.hid h1
  have H2 := Lib.hid h2
  clear h1 h2
  go_enter Tryz.func204, Tryz.ntmps204
  go_wp2_with fail
  refine H1.out.mono ?_
  rintro e w' ⟨rfl, hv', rfl⟩
  go_wp2_with fail
  refine H2.out.mono ?_
  rintro e w' ⟨rfl, hu', rfl⟩
  clear H1 H2
  rcases Nat.lt_trichotomy l'.length m'.length with h | h | h
  · have hcmp : Hid (cmpN (val l') (val m') = -1) := by have := val_lt_of_length hl nm h; unfold cmpN Hid; rw [if_pos this]
    have b1 : ((l'.length : Int) != (m'.length : Int)) = true := by simp; omega
    have b2 : decide (l'.length < m'.length) = true := by simpa using h
    go_wp2
    go_ret
    exact ⟨by rw [hcmp.out]; rfl, Drawn.rfl' _⟩
  · have he := Lib.hid h
    have hne : ((l'.length : Int) != (m'.length : Int)) = false := by simp [h]
    rw [h] at hv'
    go_wp2
    go_loopw [5] (fun s w' => ∃ j : Int, -1 ≤ j ∧ j < (m'.length : Int) ∧ s = .int .i64 j ∧ Hid (l'.drop (j + 1).toNat = m'.drop (j + 1).toNat) ∧ Drawn w w') (fun s _ => (intOf s + 1).toNat)
    case atStart => exact ⟨(m'.length : Int) - 1, by omega, by omega, rfl, (by rw [List.drop_of_length_le (by have := he.out; omega), List.drop_of_length_le (by omega)] : l'.drop _ = m'.drop _), Drawn.rfl' _⟩
    case round =>
      obtain ⟨j, hj0, hj1, rfl, hd, n, rfl⟩ := hrel
      have hD : Drawn w (w.drewN n) := ⟨n, rfl⟩
      by_cases hj : j = -1
      · subst hj
        have hcmp : Hid (cmpN (val l') (val m') = 0) := cmp_eq hd.out
        go_wp2
        go_ret
        exact ⟨by rw [hcmp.out]; rfl, hD⟩
      · obtain ⟨k, rfl⟩ : ∃ k : Nat, j = k := ⟨j.toNat, by omega⟩
        have hk : k < m'.length := by omega
        obtain ⟨b, o, rfl, _, hc1⟩ := hv'.cell (k := k) (by have := he.out; omega)
        obtain ⟨b2, o2, rfl, _, hc2⟩ := hu'.cell (k := k) (by omega)
        have e0 := Lib.hid (@cmp_lt l' m' hl he.out (k + 1) (by omega) (by have := he.out; omega) hd.out)
        have e1 := Lib.hid (@cmp_gt l' m' hm he.out (k + 1) (by omega) (by have := he.out; omega) hd.out)
        have e2 := Lib.hid (@drop_go l' m' he.out (k + 1) (by omega) (by have := he.out; omega) hd.out)
        simp only [Nat.add_sub_cancel] at e0 e1 e2
        generalize l'.getD k 0 = x at *
        generalize m'.getD k 0 = y at *
        have hk1 : (k : Int) < (m'.length : Int) := by omega
        have hk0 : 0 ≤ (k : Int) := by omega
        rcases Nat.lt_trichotomy x y with h | h | h
        · have h0 := Lib.hid (e0.out h)
          have h1 : (x : Int) < (y : Int) := by omega
          go_wp2
          go_quiet (fail)
          go_wp2
          go_ret
          exact ⟨by rw [h0.out]; rfl, hD.n _⟩
        · have h0 := Lib.hid (e2.out h)
          subst h
          go_wp2
          go_quiet (fail)
          go_wp2
          go_quiet (fail)
          go_wp2
          go_roundw
          case rel => exact ⟨(k : Int) - 1, by omega, by omega, rfl, (by rw [show ((k : Int) - 1 + 1).toNat = k by omega]; exact h0.out : l'.drop _ = m'.drop _), ⟨_, rfl⟩⟩
          case measure => simp only [intOf]; omega
        · have h0 := Lib.hid (e1.out h)
          have h1 : (y : Int) < (x : Int) := by omega
          go_wp2
          go_quiet (fail)
          go_wp2
          go_quiet (fail)
          go_wp2
          go_ret
          exact ⟨by rw [h0.out]; rfl, (hD.n _).n _⟩
  · have hcmp : Hid (cmpN (val l') (val m') = 1) := by have := val_lt_of_length hm nl h; unfold cmpN Hid; rw [if_neg (by omega), if_pos this]
    have b1 : ((l'.length : Int) != (m'.length : Int)) = true := by simp; omega
    have b2 : decide (l'.length < m'.length) = false := by simp; omega
    go_wp2
    go_ret
    exact ⟨by rw [hcmp.out]; rfl, Drawn.rfl' _⟩
end Go.Proofs.YtechjiiijiipdaaGreatDoor
namespace Go.Proofs.YtechjiiijiipdaaGreatDoor
open Go.RowKit
set_option linter.unusedSimpArgs false
set_option linter.unusedVariables false

set_option maxRecDepth 100000 in
set_option maxHeartbeats 1000000 in
theorem integer_plus (w : World) (v u : Value) (l m : List Nat) (hv : U32s w v l) (hu : U32s w u m) (hl : Dig l) (hm : Dig m) (hs : l.length < 1000000) (hs2 : m.length < 1000000) :
    Calls Tryz.prog 208 #[v, u] w fun e w' => ∃ v' r, e = .returned v' ∧ U32s w' v' r ∧ Dig r ∧ val r = val l + val m ∧ r.length ≤ max l.length m.length + 1 ∧ Ext w w' := by
  obtain ⟨a, c, rfl, hc, hn⟩ := hv.shape
  obtain ⟨a2, c2, rfl, hc2, hn2⟩ := hu.shape
  go_enter Tryz.func208, Tryz.ntmps208
  go_upto_if 13 with (fail)
  go_cut [0, 1] (fun s t w' => ∃ (X Y : List Nat), U32s w s X ∧ U32s w t Y ∧ Dig X ∧ Dig Y ∧ Y.length ≤ X.length ∧ Hid (val X + val Y = val l + val m) ∧ Hid (X.length = max l.length m.length) ∧ w' = w)
  case first =>
    by_cases h : l.length < m.length
    · have b2 : decide (l.length < m.length) = true := by simpa using h
      go_wp2
      go_meet
      exact ⟨m, l, hu, hv, hm, hl, by omega, by unfold Hid; omega, by unfold Hid; omega, rfl⟩
    · have b2 : decide (l.length < m.length) = false := by simpa using h
      go_wp2
      go_meet
      exact ⟨l, m, hv, hu, hl, hm, by omega, rfl, by unfold Hid; omega, rfl⟩
  case rest =>
    obtain ⟨X, Y, hX, hY, dX, dY, hle, hval, hlen, rfl⟩ := hcut
    obtain ⟨a, c, rfl, hc, hn⟩ := hX.shape
    obtain ⟨a2, c2, rfl, hc2, hn2⟩ := hY.shape
    have hX1 : X.length < 1000000 := by have := hlen.out; omega
    clear hv hu hl hm
    go_wp2_with (refine wpList_make0 rfl _ _ rfl (n := X.length + 1) rfl rfl (by omega) (by omega) ?_; intro w1 hown hE)
    go_loopw [5, 6, 22] (fun o cr i w' => ∃ (k c0 : Nat) (r : List Nat), k ≤ X.length ∧ i = .int .i64 k ∧ cr = .int .u32 c0 ∧ c0 ≤ 1 ∧ Hid (r.length = k) ∧ Dig r ∧ Own wc.heap.size w' o r ∧
        Hid (val r + 1000000000 ^ k * c0 = val (X.take k) + val (Y.take k)) ∧ Ext wc w') (fun _ _ i _ => X.length - (intOf i).toNat)
    case atStart => exact ⟨0, 0, [], Nat.zero_le _, rfl, rfl, Nat.zero_le _, rfl, Dig.nil, hown, by simp [Hid, val], hE⟩
    case round =>
      obtain ⟨k, c0, r, hk, rfl, rfl, hc0, hr, dr, hown, hinv, hE⟩ := hrel
      have hX' := hX.ext hE
      have hY' := hY.ext hE
      have hr' : r.length < 4000000 := by have := hr.out; omega
      by_cases hlt : k < X.length
      · obtain ⟨b, o, rfl, _, hc1⟩ := hX'.cell hlt
        have hx : (X.getD k 0 : Int) < 1000000000 := by have := dX.getD k; omega
        have hy : (Y.getD k 0 : Int) < 1000000000 := by have := dY.getD k; omega
        have step := fun d c' => Lib.hid (@plus_step X Y r k c0 d c' hr.out hinv.out)
        generalize X.getD k 0 = x at *
        by_cases hky : k < Y.length
        · obtain ⟨b2, o2, rfl, _, hc2⟩ := hY'.cell hky
          generalize Y.getD k 0 = y at *
          by_cases hge : (1000000000 : Int) ≤ (x : Int) + c0 + y
          · go_wp2_with (at_builtin; refine wpList_app1 rfl _ _ rfl rfl rfl hown (d := x + c0 + y - 1000000000) (by omega) hr' (by exact hE.size) ?_; intro v' w' hown' hg')
            go_roundw
            case rel => exact ⟨k + 1, 1, r ++ [x + c0 + y - 1000000000], by omega, by go_num, rfl, by omega, Lib.hid (by rw [List.length_append, hr.out]; rfl), Dig.append.2 ⟨dr, by simp [Dig]; omega⟩, hown', (step _ 1).out (by omega), (hE.alloc' _).grown' hg' hown.block⟩
            case measure => simp [intOf]; omega
          · go_wp2_with (at_builtin; refine wpList_app1 rfl _ _ rfl rfl rfl hown (d := x + c0 + y) (by omega) hr' (by exact hE.size) ?_; intro v' w' hown' hg')
            go_roundw
            case rel => exact ⟨k + 1, 0, r ++ [x + c0 + y], by omega, by go_num, rfl, by omega, Lib.hid (by rw [List.length_append, hr.out]; rfl), Dig.append.2 ⟨dr, by simp [Dig]; omega⟩, hown', (step _ 0).out (by omega), (hE.alloc' _).grown' hg' hown.block⟩
            case measure => simp [intOf]; omega
        · have hy0 : Y.getD k 0 = 0 := getD_len (by omega)
          rw [hy0] at hy step
          by_cases hge : (1000000000 : Int) ≤ (x : Int) + c0
          · go_wp2_with (at_builtin; refine wpList_app1 rfl _ _ rfl rfl rfl hown (d := x + c0 - 1000000000) (by omega) hr' (by exact hE.size) ?_; intro v' w' hown' hg')
            go_roundw
            case rel => exact ⟨k + 1, 1, r ++ [x + c0 - 1000000000], by omega, by go_num, rfl, by omega, Lib.hid (by rw [List.length_append, hr.out]; rfl), Dig.append.2 ⟨dr, by simp [Dig]; omega⟩, hown', (step _ 1).out (by omega), (hE.alloc' _).grown' hg' hown.block⟩
            case measure => simp [intOf]; omega
          · go_wp2_with (at_builtin; refine wpList_app1 rfl _ _ rfl rfl rfl hown (d := x + c0) (by omega) hr' (by exact hE.size) ?_; intro v' w' hown' hg')
            go_roundw
            case rel => exact ⟨k + 1, 0, r ++ [x + c0], by omega, by go_num, rfl, by omega, Lib.hid (by rw [List.length_append, hr.out]; rfl), Dig.append.2 ⟨dr, by simp [Dig]; omega⟩, hown', (step _ 0).out (by omega), (hE.alloc' _).grown' hg' hown.block⟩
            case measure => simp [intOf]; omega
      · have e : k = X.length := by omega
        subst e
        have hfin := Lib.hid (plus_end hr.out hle hinv.out)
        go_wp2_with (at_builtin; refine wpList_app1 rfl _ _ rfl rfl rfl hown (d := c0) rfl hr' (by exact hE.size) ?_; intro v' w' hown' hg')
        go_ret
        have hd : Dig (r ++ [c0]) := Dig.append.2 ⟨dr, by simp [Dig]; omega⟩
        exact ⟨_, r ++ [c0], rfl, hown'.u32 hd.u32 (by simp; omega), hd, by rw [hfin.out, hval.out], by rw [List.length_append, hr.out, hlen.out]; simp, (hE.alloc' _).grown' hg' hown.block⟩
end Go.Proofs.YtechjiiijiipdaaGreatDoor
namespace Go.Proofs.YtechjiiijiipdaaGreatDoor
open Go.RowKit
set_option linter.unusedSimpArgs false
set_option linter.unusedVariables false

set_option maxRecDepth 100000 in
set_option maxHeartbeats 1000000 in
theorem integer_minus (w : World) (v u : Value) (l m : List Nat) (hv : U32s w v l) (hu : U32s w u m) (hl : Dig l) (hm : Dig m) (hs : l.length < 1000000) (hle : m.length ≤ l.length) (hvl : val m ≤ val l) :
    Calls Tryz.prog 209 #[v, u] w fun e w' => ∃ v' r, e = .returned v' ∧ U32s w' v' r ∧ Dig r ∧ val r = val l - val m ∧ r.length = l.length ∧ Ext w w' := by
  obtain ⟨a, c, rfl, hc, hn⟩ := hv.shape
  obtain ⟨a2, c2, rfl, hc2, hn2⟩ := hu.shape
  go_enter Tryz.func209, Tryz.ntmps209
  go_wp2_with (refine wpList_make32 rfl _ _ rfl (n := l.length) rfl rfl rfl rfl (by omega) ?_; intro w1 hown hE)
  go_loopw [6, 15] (fun cr i w' => ∃ (k c0 : Nat) (r : List Nat), k ≤ l.length ∧ i = .int .i64 k ∧ cr = .int .u32 c0 ∧ c0 ≤ 1 ∧ Hid (r.length = l.length) ∧ Dig r ∧
      Own w.heap.size w' (.slice (some ⟨w.heap.size, 0, none⟩) l.length l.length) r ∧ Hid (val (r.take k) + val (m.take k) = val (l.take k) + 1000000000 ^ k * c0) ∧ Ext w w') (fun _ i _ => l.length - (intOf i).toNat)
  case atStart => exact ⟨0, 0, List.replicate l.length 0, Nat.zero_le _, rfl, rfl, Nat.zero_le _, Lib.hid (by simp), Dig.zeros _, hown, by simp [Hid, val], hE⟩
  case round =>
    obtain ⟨k, c0, r, hk, rfl, rfl, hc0, hr, dr, hown, hinv, hE⟩ := hrel
    by_cases hlt : k < l.length
    · obtain ⟨b, o, rfl, _, hc1⟩ := (hv.ext hE).cell hlt
      obtain ⟨hcell, hfroz⟩ := hown.at hr.out hlt
      have hx : (l.getD k 0 : Int) < 1000000000 := by have := hl.getD k; omega
      have hy : (m.getD k 0 : Int) < 1000000000 := by have := hm.getD k; omega
      have step := fun d c' => Lib.hid (@minus_step l m r k c0 d c' (by rw [hr.out]; exact hlt) hinv.out)
      generalize l.getD k 0 = x at *
      by_cases hky : k < m.length
      · obtain ⟨b2, o2, rfl, _, hc2⟩ := (hu.ext hE).cell hky
        generalize m.getD k 0 = y at *
        by_cases hge : (x : Int) < (c0 : Int) + y
        · go_wp2
          go_roundw
          case rel => exact ⟨k + 1, 1, r.set k (x + 1000000000 - (c0 + y)), by omega, by go_num, rfl, by omega, Lib.hid (by rw [List.length_set, hr.out]), dr.set (by omega), hown.stored hr.out k (by omega), (step _ 1).out (by omega), hE.set' (Nat.le_refl _) _⟩
          case measure => simp [intOf]; omega
        · go_wp2
          go_roundw
          case rel => exact ⟨k + 1, 0, r.set k (x - (c0 + y)), by omega, by go_num, rfl, by omega, Lib.hid (by rw [List.length_set, hr.out]), dr.set (by omega), hown.stored hr.out k (by omega), (step _ 0).out (by omega), hE.set' (Nat.le_refl _) _⟩
          case measure => simp [intOf]; omega
      · rw [getD_len (by omega)] at hy step
        by_cases hge : (x : Int) < (c0 : Int)
        · go_wp2
          go_roundw
          case rel => exact ⟨k + 1, 1, r.set k (x + 1000000000 - c0), by omega, by go_num, rfl, by omega, Lib.hid (by rw [List.length_set, hr.out]), dr.set (by omega), hown.stored hr.out k (by omega), (step _ 1).out (by omega), hE.set' (Nat.le_refl _) _⟩
          case measure => simp [intOf]; omega
        · go_wp2
          go_roundw
          case rel => exact ⟨k + 1, 0, r.set k (x - c0), by omega, by go_num, rfl, by omega, Lib.hid (by rw [List.length_set, hr.out]), dr.set (by omega), hown.stored hr.out k (by omega), (step _ 0).out (by omega), hE.set' (Nat.le_refl _) _⟩
          case measure => simp [intOf]; omega
    · have e : k = l.length := by omega
      subst e
      have hfin := Lib.hid (minus_end hr.out dr hle hvl hinv.out)
      go_wp2
      go_ret
      have hr' := hr.out
      exact ⟨_, r, rfl, hown.u32 dr.u32 (by omega), dr, hfin.out, hr', hE⟩

set_option maxRecDepth 100000 in
set_option maxHeartbeats 1000000 in
theorem integer_times (w : World) (v u : Value) (l m : List Nat) (hv : U32s w v l) (hu : U32s w u m) (hl : Dig l) (hm : Dig m) (hs : l.length < 1000000) (hs2 : m.length < 1000000) :
    Calls Tryz.prog 172 #[v, u] w fun e w' => ∃ g r, e = .returned (.slice (some ⟨g, 0, none⟩) r.length r.length) ∧ w.heap.size ≤ g ∧ g < w'.heap.size ∧ Own g w' (.slice (some ⟨g, 0, none⟩) r.length r.length) r ∧ r.length = l.length + m.length ∧ Dig r ∧ val r = val l * val m ∧ Ext w w' := by
  obtain ⟨a, c, rfl, hc, hn⟩ := hv.shape
  obtain ⟨a2, c2, rfl, hc2, hn2⟩ := hu.shape
  go_enter Tryz.func172, Tryz.ntmps172
  go_wp2_with (refine wpList_make32 rfl _ _ rfl (n := l.length + m.length) rfl rfl (by omega) (by omega) (by omega) ?_; intro w1 hown hE)
  go_loopw [20] (fun i w' => ∃ (k : Nat) (r : List Nat), k ≤ l.length ∧ i = .int .i64 k ∧ Hid (r.length = l.length + m.length) ∧ Dig r ∧
      Own w.heap.size w' (.slice (some ⟨w.heap.size, 0, none⟩) (l.length + m.length) (l.length + m.length)) r ∧ Hid (val r = val (l.take k) * val m) ∧ Hid (∀ j, k + m.length ≤ j → r.getD j 0 = 0) ∧ Ext w w') (fun i _ => l.length - (intOf i).toNat)
  case atStart => exact ⟨0, List.replicate (l.length + m.length) 0, Nat.zero_le _, rfl, Lib.hid (by simp), Dig.zeros _, hown, by simp [Hid, val, val_zeros], Lib.hid (fun j _ => getD_zeros _ _), hE⟩
  case round =>
    obtain ⟨k, r, hk, rfl, hr, dr, hown, hinv, hz, hE⟩ := hrel
    by_cases hlt : k < l.length
    · obtain ⟨b, o, rfl, _, hc1⟩ := (hv.ext hE).cell hlt
      have hx : (l.getD k 0 : Int) < 1000000000 := by have := hl.getD k; omega
      obtain ⟨x, hx'⟩ : ∃ x, l.getD k 0 = x := ⟨_, rfl⟩
      rw [hx'] at hc1 hx
      have HX := Lib.hid hx'
      clear hx'
      go_wp2
      obtain ⟨wo, rfl⟩ : ∃ wo : World, wo = wr := ⟨_, rfl⟩
      go_loopw [8, 27] (fun cr i w' => ∃ (q c0 : Nat) (r : List Nat), q ≤ m.length ∧ i = .int .i64 q ∧ cr = .int .u64 c0 ∧ (c0 : Int) < 1000000000 ∧ Hid (r.length = l.length + m.length) ∧ Dig r ∧
          Own w.heap.size w' (.slice (some ⟨w.heap.size, 0, none⟩) (l.length + m.length) (l.length + m.length)) r ∧ Hid (val r + 1000000000 ^ (k + q) * c0 = val (l.take k) * val m + 1000000000 ^ k * (x * val (m.take q))) ∧
          Hid (∀ j, k + m.length ≤ j → r.getD j 0 = 0) ∧ Ext w w') (fun _ i _ => m.length - (intOf i).toNat)
      case atStart => exact ⟨0, 0, r, Nat.zero_le _, rfl, rfl, by omega, hr, dr, hown, Lib.hid (by rw [hinv.out]; simp [val]), hz, hE⟩
      case round =>
        clear hown hr dr hinv hz hE hc1
        obtain ⟨q, c0, r, hq, rfl, rfl, hc0, hr, dr, hown, hinv, hz, hE⟩ := hrel
        by_cases hqt : q < m.length
        · obtain ⟨b2, o2, rfl, _, hc2⟩ := (hu.ext hE).cell hqt
          obtain ⟨hcell, hfroz⟩ := hown.at (k := k + q) hr.out (by omega)
          have hy : (m.getD q 0 : Int) < 1000000000 := by have := hm.getD q; omega
          have ho : (r.getD (k + q) 0 : Int) < 1000000000 := by have := dr.getD (k + q); omega
          have step := Lib.hid (fun t => @times_step r m (val (l.take k) * val m) x k q c0 t (by rw [hr.out]; omega) hinv.out)
          generalize m.getD q 0 = y at *
          generalize r.getD (k + q) 0 = od at *
          have hxy : (x : Int) * (y : Int) ≤ 999999998000000001 := by
            have : x * y ≤ 999999999 * 999999999 := Nat.mul_le_mul (by omega) (by omega)
            have h2 : ((x * y : Nat) : Int) = (x : Int) * (y : Int) := by simp
            omega
          have hxy0 : 0 ≤ (x : Int) * (y : Int) := Int.mul_nonneg (by omega) (by omega)
          go_wp2
          go_roundw
          case rel => exact ⟨q + 1, (od + x * y + c0) / 1000000000, r.set (k + q) ((od + x * y + c0) % 1000000000), by omega, by go_num, by go_num, by omega, Lib.hid (by rw [List.length_set, hr.out]), dr.set (Nat.mod_lt _ (by omega)),
            hown.stored hr.out (k + q) (by simp), step.out _ rfl, Lib.hid (zeros_set hz.out (by omega)), hE.set' (Nat.le_refl _) _⟩
          case measure => simp only [intOf]; omega
        · have e : q = m.length := by omega
          subst e
          obtain ⟨hcell, hfroz⟩ := hown.at (k := k + m.length) hr.out (by omega)
          have hrow := Lib.hid (@times_row r l m k c0 (by rw [hr.out]; omega) (by rw [HX.out]; exact hinv.out) (hz.out _ (Nat.le_refl _)))
          go_wp2
          go_roundw
          case rel => exact ⟨k + 1, r.set (k + m.length) c0, by omega, by go_num, Lib.hid (by rw [List.length_set, hr.out]), dr.set (by omega), hown.stored hr.out (k + m.length) (by first | rfl | omega), hrow,
            Lib.hid (zeros_set (fun j hj => hz.out j (by omega)) (by omega)), hE.set' (Nat.le_refl _) _⟩
          case measure => simp only [intOf]; omega
    · have e : k = l.length := by omega
      subst e
      have hfin := Lib.hid hinv.out
      rw [List.take_length] at hfin
      go_wp2
      go_ret
      have hr' := hr.out
      exact ⟨_, r, by rw [hr']; rfl, Nat.le_refl _, hown.lt, by rw [hr']; exact hown, hr', dr, hfin.out, hE⟩
end Go.Proofs.YtechjiiijiipdaaGreatDoor
namespace Go.Proofs.YtechjiiijiipdaaGreatDoor
open Go.RowKit
set_option linter.unusedSimpArgs false
set_option linter.unusedVariables false

set_option maxRecDepth 100000 in
set_option maxHeartbeats 1000000 in
theorem integer_byWord (w : World) (v : Value) (l : List Nat) (b : Nat) (hv : U32s w v l) (hl : Dig l) (hs : l.length < 1000000) (hb0 : 0 < b) (hb1 : b < 1000000000) :
    Calls Tryz.prog 212 #[v, .int .u32 b] w fun e w' => ∃ v1 v2 q m, e = .returned (.tuple #[v1, v2]) ∧ U32s w' v1 q ∧ U32s w' v2 [m] ∧ Dig q ∧ m < b ∧ val q * b + m = val l ∧ q.length = l.length ∧ Ext w w' := by
  obtain ⟨a, c, rfl, hc, hn⟩ := hv.shape
  have hb0' : 0 < (b : Int) := by omega
  have hb1' : (b : Int) < 1000000000 := by omega
  have hbz : ((b : Int) == 0) = false := by simp; omega
  go_enter Tryz.func212, Tryz.ntmps212
  go_wp2_with (refine wpList_make32 rfl _ _ rfl (n := l.length) rfl rfl rfl rfl (by omega) ?_; intro w1 hown hE)
  go_loopw [7, 8] (fun rs i w' => ∃ (j : Int) (m : Nat) (r : List Nat), -1 ≤ j ∧ j < (l.length : Int) ∧ i = .int .i64 j ∧ rs = .int .u64 m ∧ (m : Int) < b ∧ Hid (r.length = l.length) ∧ Dig r ∧
      Own w.heap.size w' (.slice (some ⟨w.heap.size, 0, none⟩) l.length l.length) r ∧ Hid (val (r.drop (j + 1).toNat) * b + m = val (l.drop (j + 1).toNat)) ∧ Ext w w') (fun _ i _ => (intOf i + 1).toNat)
  case atStart => exact ⟨(l.length : Int) - 1, 0, List.replicate l.length 0, by omega, by omega, rfl, rfl, by omega, Lib.hid (by simp), Dig.zeros _, hown, Lib.hid (by rw [List.drop_of_length_le (by simp), List.drop_of_length_le (by omega)]; simp [val]), hE⟩
  case round =>
    obtain ⟨j, m, r, hj0, hj1, rfl, rfl, hm, hr, dr, hown, hinv, hE⟩ := hrel
    by_cases hj : j = -1
    · subst hj
      go_wp2
      go_ret2
      have h0 := hinv.out
      simp only [show (-1 + 1 : Int).toNat = 0 from rfl, List.drop_zero] at h0
      exact ⟨_, _, r, m, rfl, (hown.alloc _).u32 dr.u32 (by have := hr.out; omega), U32s.lit1 _ m (by omega), dr, by omega, h0, hr.out, hE.alloc' _⟩
    · obtain ⟨k, rfl⟩ : ∃ k : Nat, j = k := ⟨j.toNat, by omega⟩
      have hk : k < l.length := by omega
      have hk1 : (k : Int) < (l.length : Int) := by omega
      have hk0 : 0 ≤ (k : Int) := by omega
      obtain ⟨b', o, rfl, _, hc1⟩ := (hv.ext hE).cell hk
      obtain ⟨hcell, hfroz⟩ := hown.at hr.out hk
      have hx : (l.getD k 0 : Int) < 1000000000 := by have := hl.getD k; omega
      have step := Lib.hid (fun t => @byWord_step l r k b m t (by rw [hr.out]; exact hk) hk hinv.out)
      generalize l.getD k 0 = x at *
      have hdig := Lib.hid (@byWord_dig m x b (by omega) (by omega))
      go_wp2
      go_region
      all_goals go_wp2
      have hq : ((m : Int) * 1000000000 + x) / (b : Int) % 4294967296 = (((m * 1000000000 + x) / b : Nat) : Int) := by
        rw [show ((m : Int) * 1000000000 + x) / (b : Int) = (((m * 1000000000 + x) / b : Nat) : Int) from by simp]
        have := hdig.out
        generalize (m * 1000000000 + x) / b = q at *
        omega
      have hq2 : ((m : Int) * 1000000000 + x) % (b : Int) = (((m * 1000000000 + x) % b : Nat) : Int) := by simp
      go_roundw
      case rel => exact ⟨(k : Int) - 1, (m * 1000000000 + x) % b, r.set k ((m * 1000000000 + x) / b), by omega, by omega, rfl, by rw [hq2], by have := Nat.mod_lt (m * 1000000000 + x) hb0; omega, Lib.hid (by rw [List.length_set, hr.out]), dr.set hdig.out,
        (hown.stored hr.out k hq).drew, Lib.hid (by rw [show ((k : Int) - 1 + 1).toNat = k by omega]; exact step.out _ rfl), (hE.set' (Nat.le_refl _) _).drew'⟩
      case measure => simp only [intOf]; omega

/-- Of a slice's own address. -/
def Far (g : Nat) (v : Value) : Prop := ∀ a n c, v = .slice (some a) n c → a.block ≠ g
theorem U32s.only {w w' : World} {v : Value} {l : List Nat} {g : Nat} (h : U32s w v l) (hf : Far g v) (e : w.grownBy w' (some g)) : U32s w' v l := by
  obtain ⟨a, c, rfl, hc, hb, hn, hz, h⟩ := h
  refine ⟨a, c, rfl, hc, hb, hn, hz, ?_⟩
  rcases h with h | ⟨b, o, rfl, hlt, h⟩
  · exact .inl h
  · have hne : b ≠ g := hf _ _ _ rfl
    refine .inr ⟨b, o, rfl, Nat.lt_of_lt_of_le hlt e.size, fun i hi => ?_⟩
    rw [World.cell?_of_block (w := w) (e.block b hlt (by simp; omega))]
    exact h i hi
theorem only_refl (w : World) (r : Option Nat) : w.grownBy w r := World.grownBy.refl w r
theorem only_set {w w' : World} {g o : Nat} (h : w.grownBy w' (some g)) (u : Value) : w.grownBy (w'.setCell ⟨g, o, none⟩ u) (some g) :=
  ⟨h.os, h.tape, h.output, Nat.le_trans h.size (by simp [World.setCell]), fun k hk hne => (Below.heap_setCell w' ⟨g, o, none⟩ u k (by simpa using hne)).trans (h.block k hk hne)⟩
theorem only_drewN {w w' : World} {r : Option Nat} (h : w.grownBy w' r) (n : Nat) : w.grownBy (w'.drewN n) r := ⟨h.os, h.tape, h.output, h.size, h.block⟩

set_option maxRecDepth 100000 in
set_option maxHeartbeats 2000000 in
theorem integer_subtract (w : World) (base g k n N C c : Nat) (u : Value) (U V : List Nat) (f : Nat) (hown : Own base w (.slice (some ⟨g, 0, none⟩) N C) U) (hU : U.length = N) (dU : Dig U) (hkn : k + n ≤ N) (hN : N < 2000000)
    (hu : U32s w u V) (hV : Dig V) (hfar : Far g u) (hVn : V.length ≤ n) (hf : f < 1000000000) :
    Calls Tryz.prog 213 #[.slice (some ⟨g, k, none⟩) n c, u, .int .u64 f] w fun e w' => ∃ R o, e = .returned (.bool (decide (0 < o))) ∧ Own base w' (.slice (some ⟨g, 0, none⟩) N C) R ∧ R.length = N ∧ Dig R ∧ R.take k = U.take k ∧
      R.drop (k + n) = U.drop (k + n) ∧ val ((R.drop k).take n) + f * val V = val ((U.drop k).take n) + 1000000000 ^ n * o ∧ w.grownBy w' (some g) := by
  obtain ⟨a2, c2, rfl, hc2, hn2⟩ := hu.shape
  have hf' : (f : Int) < 1000000000 := by omega
  have HU := Lib.hid hU
  clear hU
  go_enter Tryz.func213, Tryz.ntmps213
  go_wp2
  go_loopw [7, 8, 15] (fun cr br i w' => ∃ (j c b : Nat) (R : List Nat), j ≤ n ∧ i = .int .i64 j ∧ cr = .int .u64 c ∧ br = .int .u64 b ∧ (c : Int) < 1000000000 ∧ b ≤ 1 ∧ Own base w' (.slice (some ⟨g, 0, none⟩) N C) R ∧ Hid (R.length = N) ∧ Dig R ∧
      Hid (R.take k = U.take k) ∧ Hid (R.drop (k + j) = U.drop (k + j)) ∧ Hid (val ((R.drop k).take j) + f * val (V.take j) = val ((U.drop k).take j) + 1000000000 ^ j * (c + b)) ∧ w.grownBy w' (some g)) (fun _ _ i _ => n - (intOf i).toNat)
  case atStart => exact ⟨0, 0, 0, U, Nat.zero_le _, rfl, rfl, rfl, by omega, by omega, hown, HU, dU, rfl, rfl, by simp [Hid, val], only_refl _ _⟩
  case round =>
    clear hown dU
    obtain ⟨j, c0, b0, R, hj, rfl, rfl, rfl, hc0, hb0, hown, hR, dR, ht, hd, hinv, hE⟩ := hrel
    by_cases hlt : j < n
    · obtain ⟨hcell, hfroz⟩ := hown.at (k := k + j) hR.out (by omega)
      rw [seg_get hd.out] at hcell
      have step := Lib.hid (fun d b' t => @sub_step R U V k j c0 b0 f d b' t (by rw [hR.out]; omega) hinv.out)
      have hx : (U.getD (k + j) 0 : Int) < 1000000000 := by have := dR.getD (k + j); rw [seg_get hd.out] at this; omega
      have hy : (V.getD j 0 : Int) < 1000000000 := by have := hV.getD j; omega
      by_cases hjv : j < V.length
      · obtain ⟨b2, o2, rfl, _, hcv⟩ := (hu.only hfar hE).cell hjv
        generalize U.getD (k + j) 0 = x at *
        generalize V.getD j 0 = y at *
        have hcar := Lib.hid (@sub_carry c0 y f (by omega) (by omega) hf)
        have hxy : (y : Int) * (f : Int) ≤ 999999998000000001 := by
          have h1 := hcar.out.2
          have h2 : ((y * f : Nat) : Int) = (y : Int) * (f : Int) := by simp
          omega
        have hxy0 : 0 ≤ (y : Int) * (f : Int) := Int.mul_nonneg (by omega) (by omega)
        have hcar1 := hcar.out.1
        by_cases hge : (x : Int) < ((c0 : Int) + y * f) % 1000000000 + b0
        · go_wp2
          go_roundw
          case rel => exact ⟨j + 1, (c0 + y * f) / 1000000000, 1, R.set (k + j) (x + 1000000000 - ((c0 + y * f) % 1000000000 + b0)), by omega, by go_num, by go_num, rfl, by omega, by omega, hown.stored hR.out (k + j) (by omega), Lib.hid (by rw [List.length_set, hR.out]), dR.set (by omega),
            Lib.hid (seg_take ht.out), Lib.hid (seg_drop hd.out), Lib.hid (step.out _ 1 _ rfl (by omega)), only_set hE _⟩
          case measure => simp only [intOf]; omega
        · go_wp2
          go_roundw
          case rel => exact ⟨j + 1, (c0 + y * f) / 1000000000, 0, R.set (k + j) (x - ((c0 + y * f) % 1000000000 + b0)), by omega, by go_num, by go_num, rfl, by omega, by omega, hown.stored hR.out (k + j) (by omega), Lib.hid (by rw [List.length_set, hR.out]), dR.set (by omega),
            Lib.hid (seg_take ht.out), Lib.hid (seg_drop hd.out), Lib.hid (step.out _ 0 _ rfl (by omega)), only_set hE _⟩
          case measure => simp only [intOf]; omega
      · rw [getD_len (l := V) (k := j) (by omega)] at hy step
        simp only [Nat.zero_mul, Nat.add_zero] at step
        generalize U.getD (k + j) 0 = x at *
        by_cases hge : (x : Int) < (c0 : Int) % 1000000000 + b0
        · go_wp2
          go_roundw
          case rel => exact ⟨j + 1, (c0) / 1000000000, 1, R.set (k + j) (x + 1000000000 - (c0 % 1000000000 + b0)), by omega, by go_num, by go_num, rfl, by omega, by omega, hown.stored hR.out (k + j) (by omega), Lib.hid (by rw [List.length_set, hR.out]), dR.set (by omega),
            Lib.hid (seg_take ht.out), Lib.hid (seg_drop hd.out), Lib.hid (step.out _ 1 _ rfl (by omega)), only_set hE _⟩
          case measure => simp only [intOf]; omega
        · go_wp2
          go_roundw
          case rel => exact ⟨j + 1, (c0) / 1000000000, 0, R.set (k + j) (x - (c0 % 1000000000 + b0)), by omega, by go_num, by go_num, rfl, by omega, by omega, hown.stored hR.out (k + j) (by omega), Lib.hid (by rw [List.length_set, hR.out]), dR.set (by omega),
            Lib.hid (seg_take ht.out), Lib.hid (seg_drop hd.out), Lib.hid (step.out _ 0 _ rfl (by omega)), only_set hE _⟩
          case measure => simp only [intOf]; omega
    · have e : j = n := by omega
      subst e
      have hfin := hinv
      rw [List.take_of_length_le hVn] at hfin
      by_cases hb : b0 = 0
      · subst hb
        by_cases hc : c0 = 0
        · subst hc
          go_wp2
          go_ret
          exact ⟨R, 0 + 0, by rw [show decide (0 < 0 + 0) = false by simp; try omega]; first | rfl | (simp; omega), hown, hR.out, dR, ht.out, hd.out, hfin.out, hE⟩
        · have h1 : 0 < (c0 : Int) := by omega
          go_wp2
          go_ret
          exact ⟨R, c0 + 0, by rw [show decide (0 < c0 + 0) = true by simp; try omega]; first | rfl | (simp; omega), hown, hR.out, dR, ht.out, hd.out, hfin.out, hE⟩
      · have h1 : 0 < (b0 : Int) := by omega
        go_wp2
        go_ret
        exact ⟨R, c0 + b0, by rw [show decide (0 < c0 + b0) = true by simp; try omega]; first | rfl | (simp; omega), hown, hR.out, dR, ht.out, hd.out, hfin.out, hE⟩

set_option maxRecDepth 100000 in
set_option maxHeartbeats 2000000 in
theorem integer_restore (w : World) (base g k n N C c : Nat) (u : Value) (U V : List Nat) (hown : Own base w (.slice (some ⟨g, 0, none⟩) N C) U) (hU : U.length = N) (dU : Dig U) (hkn : k + n ≤ N) (hN : N < 2000000)
    (hu : U32s w u V) (hV : Dig V) (hfar : Far g u) (hVn : V.length ≤ n) :
    Calls Tryz.prog 214 #[.slice (some ⟨g, k, none⟩) n c, u] w fun e w' => ∃ R o, e = .returned (.tuple #[]) ∧ Own base w' (.slice (some ⟨g, 0, none⟩) N C) R ∧ R.length = N ∧ Dig R ∧ R.take k = U.take k ∧
      R.drop (k + n) = U.drop (k + n) ∧ val ((R.drop k).take n) + 1000000000 ^ n * o = val ((U.drop k).take n) + val V ∧ w.grownBy w' (some g) := by
  obtain ⟨a2, c2, rfl, hc2, hn2⟩ := hu.shape
  have HU := Lib.hid hU
  clear hU
  go_enter Tryz.func214, Tryz.ntmps214
  go_wp2
  go_loopw [4, 9] (fun cr i w' => ∃ (j c : Nat) (R : List Nat), j ≤ n ∧ i = .int .i64 j ∧ cr = .int .u32 c ∧ c ≤ 1 ∧ Own base w' (.slice (some ⟨g, 0, none⟩) N C) R ∧ Hid (R.length = N) ∧ Dig R ∧
      Hid (R.take k = U.take k) ∧ Hid (R.drop (k + j) = U.drop (k + j)) ∧ Hid (val ((R.drop k).take j) + 1000000000 ^ j * c = val ((U.drop k).take j) + val (V.take j)) ∧ w.grownBy w' (some g)) (fun _ i _ => n - (intOf i).toNat)
  case atStart => exact ⟨0, 0, U, Nat.zero_le _, rfl, rfl, by omega, hown, HU, dU, rfl, rfl, by simp [Hid, val], only_refl _ _⟩
  case round =>
    clear hown dU
    obtain ⟨j, c0, R, hj, rfl, rfl, hc0, hown, hR, dR, ht, hd, hinv, hE⟩ := hrel
    by_cases hlt : j < n
    · obtain ⟨hcell, hfroz⟩ := hown.at (k := k + j) hR.out (by omega)
      rw [seg_get hd.out] at hcell
      have step := Lib.hid (fun d c' => @add_step R U V k j c0 d c' (by rw [hR.out]; omega) hinv.out)
      have hx : (U.getD (k + j) 0 : Int) < 1000000000 := by have := dR.getD (k + j); rw [seg_get hd.out] at this; omega
      have hy : (V.getD j 0 : Int) < 1000000000 := by have := hV.getD j; omega
      by_cases hjv : j < V.length
      · obtain ⟨b2, o2, rfl, _, hcv⟩ := (hu.only hfar hE).cell hjv
        generalize U.getD (k + j) 0 = x at *
        generalize V.getD j 0 = y at *
        by_cases hge : (1000000000 : Int) ≤ (x : Int) + c0 + y
        · go_wp2
          go_roundw
          case rel => exact ⟨j + 1, 1, R.set (k + j) (x + c0 + y - 1000000000), by omega, by go_num, rfl, by omega, hown.stored hR.out (k + j) (by omega), Lib.hid (by rw [List.length_set, hR.out]), dR.set (by omega),
            Lib.hid (seg_take ht.out), Lib.hid (seg_drop hd.out), Lib.hid (step.out _ 1 (by omega)), only_set hE _⟩
          case measure => simp only [intOf]; omega
        · go_wp2
          go_roundw
          case rel => exact ⟨j + 1, 0, R.set (k + j) (x + c0 + y), by omega, by go_num, rfl, by omega, hown.stored hR.out (k + j) (by omega), Lib.hid (by rw [List.length_set, hR.out]), dR.set (by omega),
            Lib.hid (seg_take ht.out), Lib.hid (seg_drop hd.out), Lib.hid (step.out _ 0 (by omega)), only_set hE _⟩
          case measure => simp only [intOf]; omega
      · rw [getD_len (l := V) (k := j) (by omega)] at hy step
        generalize U.getD (k + j) 0 = x at *
        by_cases hge : (1000000000 : Int) ≤ (x : Int) + c0
        · go_wp2
          go_roundw
          case rel => exact ⟨j + 1, 1, R.set (k + j) (x + c0 - 1000000000), by omega, by go_num, rfl, by omega, hown.stored hR.out (k + j) (by omega), Lib.hid (by rw [List.length_set, hR.out]), dR.set (by omega),
            Lib.hid (seg_take ht.out), Lib.hid (seg_drop hd.out), Lib.hid (step.out _ 1 (by omega)), only_set hE _⟩
          case measure => simp only [intOf]; omega
        · go_wp2
          go_roundw
          case rel => exact ⟨j + 1, 0, R.set (k + j) (x + c0), by omega, by go_num, rfl, by omega, hown.stored hR.out (k + j) (by omega), Lib.hid (by rw [List.length_set, hR.out]), dR.set (by omega),
            Lib.hid (seg_take ht.out), Lib.hid (seg_drop hd.out), Lib.hid (step.out _ 0 (by omega)), only_set hE _⟩
          case measure => simp only [intOf]; omega
    · have e : j = n := by omega
      subst e
      have hfin := hinv
      rw [List.take_of_length_le hVn] at hfin
      go_wp2
      go_end0
      exact ⟨R, c0, rfl, hown, hR.out, dR, ht.out, hd.out, hfin.out, hE⟩
end Go.Proofs.YtechjiiijiipdaaGreatDoor
namespace Go.Proofs.YtechjiiijiipdaaGreatDoor
open Go.RowKit
set_option linter.unusedSimpArgs false
set_option linter.unusedVariables false

theorem U32s.lit1' (w : World) (d : Nat) (d' : Int) (hd : d' = (d : Int)) (hb : d < 4294967296) : U32s (w.alloc (.cells #[.int .u32 d'] 123)) (.slice (some ⟨w.heap.size, 0, none⟩) 1 1) [d] := by
  subst hd; exact U32s.lit1 w d hb

set_option maxRecDepth 100000 in
set_option maxHeartbeats 4000000 in
theorem integer_divide (w : World) (v u : Value) (l m : List Nat) (hv : U32s w v l) (hu : U32s w u m) (hl : Dig l) (hm : Dig m) (hs : l.length < 400000) (hs2 : m.length < 400000) (h0 : 0 < val m) :
    Calls Tryz.prog 170 #[v, u] w fun e w' => ∃ v1 v2 q r, e = .returned (.tuple #[v1, v2]) ∧ U32s w' v1 q ∧ U32s w' v2 r ∧ Dig q ∧ Dig r ∧ val q = val l / val m ∧ val r = val l % val m ∧ q.length ≤ l.length ∧ r.length ≤ m.length ∧ Ext w w' := by
  obtain ⟨a, c, rfl, hc, hn⟩ := hv.shape
  obtain ⟨a2, c2, rfl, hc2, hn2⟩ := hu.shape
  have h1 := integer_trim w a c l hv
  have h2 := integer_trim w a2 c2 m hu
  have b1 := trimL_length_le l
  have b2 := trimL_length_le m
  rw [← val_trimL m] at h0
  rw [← val_trimL l, ← val_trimL m]
  replace hl := hl.trimL
  replace hm := hm.trimL
  have nl := norm_trimL l
  have nm := norm_trimL m
  clear hv hu hc hn hc2 hn2
  generalize trimL l = l' at *
  generalize trimL m = m' at *
  have H1 := Lib.hid h1
  have H2 := Lib.hid h2
  have hne : m' ≠ [] := by intro e; subst e; simp [val] at h0
  have hlen0 := List.length_pos_iff.2 hne
  have HNE := Lib.hid hne
  clear h1 h2 hne
  go_enter Tryz.func170, Tryz.ntmps170
  go_wp2_with fail
  refine H1.out.mono ?_
  rintro e w' ⟨rfl, hv, rfl⟩
  go_wp2_with fail
  refine H2.out.mono ?_
  rintro e w' ⟨rfl, hu, rfl⟩
  clear H1 H2
  by_cases hn1 : m'.length = 1
  · have b3 : ((m'.length : Int) == 1) = true := by simp; omega
    have i1 : (0 : Int) < (m'.length : Int) := by omega
    have i2 : 0 < m'.length := by omega
    obtain ⟨b, o, rfl, _, hcb⟩ := hu.cell (k := 0) (by omega)
    obtain ⟨bb, rfl⟩ := List.length_eq_one_iff.1 hn1
    rw [show ([bb] : List Nat).getD 0 0 = bb from rfl, Nat.add_zero] at hcb
    have hbv : val [bb] = bb := by simp [val]
    rw [hbv] at h0
    have hb1 : bb < 1000000000 := hm bb (by simp)
    have HBV := Lib.hid hbv
    clear hbv b3 i1 hn1 hlen0
    have hlen2 : ([bb] : List Nat).length = 1 := rfl
    go_wp2_with fail
    refine (integer_byWord _ _ _ bb hv hl (by omega) h0 hb1).mono ?_
    rintro e w6 ⟨r1v, r2v, q, mm, rfl, hr1, hr2, dq, hmm, hqm, lq, hE6⟩
    have hfin : Hid (val q = val l' / val [bb] ∧ val [mm] = val l' % val [bb]) := by
      rw [HBV.out]
      have := div_final (A := val l') (B := bb) (d := 1) (Q := val q) (R := mm) (q := mm) (m := 0) (by rw [Nat.mul_one, Nat.mul_one, Nat.mul_comm]; exact hqm.symm) (by omega) (by omega) (by omega)
      exact ⟨this.1, by rw [← this.2]; simp [val]⟩
    have lq2 : q.length ≤ l.length := by omega
    clear hqm lq
    go_wp2
    go_ret2
    exact ⟨_, _, q, [mm], rfl, hr1, hr2, dq, by simp [Dig]; omega, hfin.out.1, hfin.out.2, lq2, by simpa using b2, hE6⟩
  · have b3 : ((m'.length : Int) == 1) = false := by simp; omega
    go_wp2_with fail
    refine (integer_compare _ _ _ _ _ hv hu hl hm).mono ?_
    rintro e w' ⟨rfl, hD⟩
    by_cases hlt : val l' < val m'
    · have hcmp : cmpN (val l') (val m') = -1 := by unfold cmpN; rw [if_pos hlt]
      rw [hcmp]
      obtain ⟨nd, rfl⟩ := hD
      have hE0 : Ext w (w.drewN nd) := (Ext.rfl' w).drewN' nd
      replace hv := hv.ext hE0
      have hle : l'.length ≤ m'.length := by
        rcases Nat.lt_or_ge m'.length l'.length with h | h
        · have := val_lt_of_length hm nl h; omega
        · exact h
      have hfin : Hid (0 = val l' / val m' ∧ val l' = val l' % val m') := ⟨(Nat.div_eq_of_lt hlt).symm, (Nat.mod_eq_of_lt hlt).symm⟩
      clear hcmp
      go_wp2_with (at_builtin; refine wpList_copy32 rfl _ _ rfl rfl rfl hv ?_; intro v' w' hown hE)
      go_ret2
      exact ⟨_, _, [], l', rfl, U32s.nil _ _ _ (fun _ => rfl), hown.u32 hl.u32 (by omega), Dig.nil, hl, hfin.out.1, hfin.out.2, by simp, by omega, hE0.trans' hE⟩
    · have hcmp : Hid (cmpN (val l') (val m') = 0 ∨ cmpN (val l') (val m') = 1) := by unfold cmpN Hid; rw [if_neg hlt]; split <;> simp
      have hcmp2 : decide (cmpN (val l') (val m') < 0) = false := by have := hcmp.out; simp; omega
      generalize cmpN (val l') (val m') = cc at *
      clear hcmp
      obtain ⟨nd, rfl⟩ := hD
      have hE0 : Ext w (w.drewN nd) := (Ext.rfl' w).drewN' nd
      replace hv := hv.ext hE0
      replace hu := hu.ext hE0
      obtain ⟨b, o, rfl, _, hcb⟩ := hu.cell (k := m'.length - 1) (by omega)
      have e1 : (m'.length : Int) - 1 = ((m'.length - 1 : Nat) : Int) := by omega
      obtain ⟨bb, hbb⟩ : ∃ x, m'.getD (m'.length - 1) 0 = x := ⟨_, rfl⟩
      obtain ⟨d, hd⟩ : ∃ d, d = 1000000000 / (bb + 1) := ⟨_, rfl⟩
      have hsc := scaled hm nm rfl (by omega) hbb hd
      have hb0 : 0 < (bb : Int) := by have := norm_last nm HNE.out; omega
      have hb1 : (bb : Int) < 1000000000 := by have := hm.getD (m'.length - 1); omega
      have hdi : (1000000000 : Int) / ((bb : Int) + 1) = (d : Int) := by rw [hd]; simp
      have hd0 : 0 < (d : Int) := by have := hsc.d0; omega
      have hd1 : (d : Int) < 1000000000 := by have := hsc.d1; omega
      rw [hbb] at hcb
      clear hbb hd
      go_wp2_with fail
      refine (integer_times _ _ _ _ [d] (hv.ext ((Ext.rfl' _).alloc' _)) (U32s.lit1' _ d _ rfl (by omega)) hl (by simp [Dig]; omega) (by omega) (by simp)).mono ?_
      rintro e w1 ⟨g0, R0, rfl, hg0, hg1, hown, hk0, dR0, hR0, hE1⟩
      have Hk0 : Hid (R0.length = l'.length + 1 ∧ val R0 = val l' * d) := ⟨hk0, by rw [hR0]; simp [val]⟩
      have hk1 : R0.length < 4000000 := by have := Hk0.out.1; omega
      clear hk0 hR0
      go_wp2_with (at_builtin; refine wpList_app1 rfl _ _ rfl rfl rfl hown (d := 0) rfl hk1 (Nat.le_of_lt hg1) ?_; intro u1 w2 hown2 hg2)
      have hE2 := (hE1.alloc' _).grown' hg2 (by intro k hk; have := hown.block k hk; omega)
      obtain ⟨gu, cu, rfl, hgu0, hgu1⟩ := hown2.shape (by simp)
      refine (integer_times _ _ _ _ [d] ?_ (U32s.lit1' _ d _ rfl (by omega)) hm (by simp [Dig]; omega) (by omega) (by simp)).mono ?_
      · exact hu.ext ((((Ext.rfl' _).alloc' _).trans' hE2).alloc' _)
      rintro e w3 ⟨gv, M0, rfl, hgv0, hgv1, hown3, hk2, dM0, hM0, hE3⟩
      have HM0 : Hid (M0.length = m'.length + 1 ∧ val M0 = val m' * d) := ⟨hk2, by rw [hM0]; simp [val]⟩
      have hk3 : M0.length < 4000000 := by have := HM0.out.1; omega
      clear hk2 hM0
      go_wp2_with fail
      refine (integer_trim _ _ _ M0 (hown3.u32 dM0.u32 (by omega))).mono ?_
      rintro e w' ⟨rfl, hM, rfl⟩
      have hbeg := begun hsc hl nm (by omega) (Nat.le_of_not_lt hlt) dR0 dM0 Hk0.out HM0.out
      have hM0c : (trimL M0).length ≤ M0.length := trimL_length_le M0
      have hEa : Ext w (w2.alloc (.cells #[.int .u32 (d : Int)] 123)) := ((hE0.alloc' _).trans' hE2).alloc' _
      have hEb : Ext w w3 := hEa.trans' hE3
      have hu3 := hown2.ext (((Ext.rfl' _).alloc' _).trans' hE3)
      have hM3 := Lib.hid (⟨hM, hgv1, by simp at hgv0; omega⟩ : U32s w3 (.slice (some ⟨gv, 0, none⟩) (trimL M0).length M0.length) (trimL M0) ∧ gv < w3.heap.size ∧ gu < gv)
      have hgu : w.heap.size ≤ gu := by have := hown.block g0 rfl; have := hE0.size; simp at hg0; have := hown2.block gu rfl; omega
      clear Hk0 HM0 hsc nl nm hl hm hlt dR0 dM0 hown hown2 hown3 hE1 hE2 hE3 hg0 hg1 hgv0 hgv1 hv hu hcb hdi e1 hM hb0 hb1 hk1 hk3 hg2 hEa
      obtain ⟨U, hUeq⟩ : ∃ U, R0 ++ [0] = U := ⟨_, rfl⟩
      have r1 : R0.length + 1 = U.length := by rw [← hUeq]; simp
      have r2 : (R0.length : Int) + 1 = (U.length : Int) := by omega
      rw [hUeq] at hbeg hu3
      clear hUeq
      generalize trimL M0 = M at *
      generalize M0.length = cv at *
      have lU := hbeg.lU
      have lM := hbeg.lM
      have n2 := hbeg.n2
      have lle := hbeg.le
      have LU := Lib.hid lU
      have LM := Lib.hid lM
      have lU1 : m'.length + 1 < U.length := by omega
      have lU2 : U.length < 1000000 := by omega
      have lM1 : m'.length ≤ M.length := by omega
      have lM2 : M.length ≤ m'.length := by omega
      clear lU lM
      go_wp2_with (refine wpList_make32 rfl _ _ rfl (n := U.length - m'.length) rfl rfl (by omega) (by omega) (by omega) ?_; intro w4 hq hE4)
      have hq1 : w3.heap.size < w4.heap.size := hq.lt
      have hE5 : Ext w w4 := hEb.trans' hE4
      have hu4 := hu3.ext hE4
      have hu4c := hu4.cap
      have hM4 := Lib.hid (hM3.out.1.ext hE4)
      have hgq : gv < w3.heap.size ∧ gu < gv ∧ w.heap.size ≤ gu := ⟨hM3.out.2.1, hM3.out.2.2, hgu⟩
      clear hM3 hE4 hu3 hEb hgu
      go_loopw [11] (fun i w' => ∃ (j : Int) (R S : List Nat), -1 ≤ j ∧ j + m'.length < U.length ∧ i = .int .i64 j ∧ Hid (R.length = U.length) ∧ Dig R ∧ Own g0 w' (.slice (some ⟨gu, 0, none⟩) U.length cu) R ∧
          Hid (S.length = U.length - m'.length) ∧ Dig S ∧ Own w3.heap.size w' (.slice (some ⟨w3.heap.size, 0, none⟩) (U.length - m'.length) (U.length - m'.length)) S ∧ Hid (val (R.drop (j + 1).toNat) < val M) ∧
          Hid (val l' * d = val M * (1000000000 ^ (j + 1).toNat * val (S.drop (j + 1).toNat)) + val R) ∧ Hid (U32s w' (.slice (some ⟨gv, 0, none⟩) M.length cv) M) ∧ Ext w w') (fun i _ => (intOf i + 1).toNat)
      case atStart => exact ⟨(U.length : Int) - m'.length - 1, U, List.replicate (U.length - m'.length) 0, by omega, by omega, rfl, rfl, hbeg.dU, hu4, Lib.hid (by simp), Dig.zeros _, hq, Lib.hid (by rw [show ((U.length : Int) - m'.length - 1 + 1).toNat = U.length - m'.length by omega]; exact hbeg.zero), Lib.hid (by rw [hbeg.hU, List.drop_of_length_le (by simp)]; simp [val]), hM4, hE5⟩
      case round =>
        obtain ⟨j, R, S, hj0, hj1, rfl, hRl, dR, hR, hSl, dS, hS, hlt, hinv, hMr, hE⟩ := hrel
        clear hq hu4 hM4 hE5 hq1
        by_cases hj : j = -1
        · subst hj
          have hlt0 := hlt.out
          have hinv0 := hinv.out
          simp only [show (-1 + 1 : Int).toNat = 0 from rfl, List.drop_zero, Nat.pow_zero, Nat.one_mul] at hlt0 hinv0
          have HL := Lib.hid hlt0
          have HI := Lib.hid hinv0
          have hcuc := hR.cap
          have hcut := hR.cutTo hRl.out dR.u32 (by omega) (k := m'.length) (by omega)
          have hup := Lib.hid (show val (R.take m'.length) = val R by
            have := seg_all (R := R) (k := 0) (n := m'.length) (by
              have h1 := val_take_drop R m'.length (by rw [hRl.out]; omega)
              have h2 := hbeg.hi
              rcases Nat.eq_zero_or_pos (val (R.drop m'.length)) with h3 | h3
              · rw [Nat.zero_add]; exact h3
              · have : 1000000000 ^ m'.length * 1 ≤ 1000000000 ^ m'.length * val (R.drop m'.length) := Nat.mul_le_mul_left _ h3
                omega)
            simpa using this)
          have hTl : (R.take m'.length).length = m'.length := by rw [List.length_take, hRl.out]; omega
          have hdT := dR.take m'.length
          have htl := trimL_length_le (R.take m'.length)
          clear hlt0 hinv0 hlt hinv hMr
          go_wp2_with fail
          have hcut2 : U32s wr (.slice (some ⟨gu, 0, none⟩) (R.take m'.length).length cu) (R.take m'.length) := by rw [hTl]; exact hcut
          have htrim := integer_trim wr (some ⟨gu, 0, none⟩) cu _ hcut2
          rw [hTl] at htrim
          refine htrim.mono ?_
          rintro e w' ⟨rfl, hT, rfl⟩
          have HTV := Lib.hid ((val_trimL (R.take m'.length)).trans hup.out)
          rw [hTl] at htl
          replace hdT := hdT.trimL
          clear htrim hcut hcut2 hTl
          generalize trimL (R.take m'.length) = T at *
          go_wp2_with fail
          refine (integer_byWord _ _ _ d hT hdT (by omega) (by omega) (by omega)).mono ?_
          rintro e w6 ⟨r1v, r2v, q, mm, rfl, hr1, hr2, dq, hmm, hqm, lq, hE6⟩
          have hfin := Lib.hid (div_final (A := val l') (B := val m') (d := d) (Q := val S) (R := val R) (q := val q) (m := mm) (by rw [← hbeg.hM]; exact HI.out) (by rw [← hbeg.hM]; exact HL.out) (by rw [← HTV.out]; exact hqm) hmm)
          have hS6 := hS.ext hE6
          have hE7 := hE.trans' hE6
          have lq2 : q.length ≤ m'.length := by omega
          clear hqm lq
          go_wp2
          go_ret2
          refine ⟨_, _, S, q, rfl, hS6.u32 dS.u32 (by have := hSl.out; omega), hr1, dS, dq, hfin.out.1, hfin.out.2, by have := hSl.out; have := LU.out; omega, by omega, hE7⟩
        · obtain ⟨k, rfl⟩ : ∃ k : Nat, j = k := ⟨j.toNat, by omega⟩
          have hround := mkRound (k := k) dR hbeg.dM hbeg.lM hbeg.n2 rfl hbeg.hi hbeg.top (by rw [hRl.out]; omega) hlt.out
          obtain ⟨c1, _⟩ := hR.at (k := k + m'.length) hRl.out (by omega)
          obtain ⟨c3, _⟩ := hR.at (k := k + m'.length - 1) hRl.out (by omega)
          obtain ⟨c5, _⟩ := hR.at (k := k + m'.length - 2) hRl.out (by omega)
          obtain ⟨_, _, e7, _, c7⟩ := hMr.out.cell (k := m'.length - 1) (by omega)
          obtain ⟨_, _, e8, _, c8⟩ := hMr.out.cell (k := m'.length - 2) (by omega)
          cases e7
          cases e8
          rw [Nat.zero_add] at c7 c8
          have t0b : R.getD (k + m'.length) 0 < 1000000000 := dR.getD _
          have t1b : R.getD (k + m'.length - 1) 0 < 1000000000 := dR.getD _
          generalize R.getD (k + m'.length) 0 = t0 at *
          generalize R.getD (k + m'.length - 1) 0 = t1 at *
          generalize R.getD (k + m'.length - 2) 0 = x2 at *
          generalize M.getD (m'.length - 1) 0 = v1 at *
          generalize M.getD (m'.length - 2) 0 = v2 at *
          have s1 : IntKind.i64.wrap ((k : Int) + m'.length) = ((k + m'.length : Nat) : Int) := by rw [IntWalk.i64_in] <;> omega
          have s2 : IntKind.i64.wrap (((k + m'.length : Nat) : Int) - 1) = ((k + m'.length - 1 : Nat) : Int) := by rw [IntWalk.i64_in] <;> omega
          have s3 : IntKind.i64.wrap ((m'.length : Int) - 1) = ((m'.length - 1 : Nat) : Int) := by rw [IntWalk.i64_in] <;> omega
          obtain ⟨top, htop⟩ : ∃ t, t0 * 1000000000 + t1 = t := ⟨_, rfl⟩
          have topb : top ≤ 999999999999999999 := by omega
          have z0 : IntKind.u64.wrap (t0 : Int) = t0 := IntWalk.u64_in _ (by omega)
          have z1 : IntKind.u64.wrap ((t0 : Int) * 1000000000) = (t0 : Int) * 1000000000 := IntWalk.u64_in _ (by omega)
          have z2 : IntKind.u64.wrap (t1 : Int) = t1 := IntWalk.u64_in _ (by omega)
          have z3 : IntKind.u64.wrap ((t0 : Int) * 1000000000 + (t1 : Int)) = (top : Int) := by rw [IntWalk.u64_in _ (by omega)]; omega
          have v1p : 250000000 ≤ v1 := hround.a1
          have v1b : v1 < 1000000000 := hround.a1b
          have z4 : IntKind.u64.wrap (v1 : Int) = v1 := IntWalk.u64_in _ (by omega)
          rw [htop] at hround
          have HT := Lib.hid htop
          clear htop t0b t1b
          have v1z : ¬ (v1 = 0) := by omega
          have z5 : IntKind.u64.wrap (Int.tdiv (top : Int) (v1 : Int)) = ((top / v1 : Nat) : Int) := by
            rw [Int.tdiv_eq_ediv_of_nonneg (by omega), ← Int.natCast_ediv]
            refine IntWalk.u64_in _ ⟨Int.natCast_nonneg _, ?_⟩
            have := Nat.div_le_self top v1
            generalize top / v1 = q at *
            omega
          have z6 : Int.tmod (top : Int) (v1 : Int) = ((top % v1 : Nat) : Int) := by
            rw [Int.tmod_eq_emod_of_nonneg (by omega), ← Int.natCast_emod]
          have i1 : ((m'.length - 1 : Nat) : Int) < (M.length : Int) := by omega
          have i2 : (0 : Int) ≤ ((m'.length - 1 : Nat) : Int) := by omega
          have HV1 := Lib.hid v1p
          have HV2 := Lib.hid v1b
          have HTB := Lib.hid topb
          clear v1p v1b topb
          go_wp2
          go_quiet (fail)
          go_wp2
          go_quiet (fail)
          go_upto_block 2 with (fail)
          go_cut [13, 14] (fun g r w' => ∃ gg : Nat, g = .int .u64 gg ∧ (gg : Int) < 1000000000 ∧ Hid (val (R.drop k) / val M ≤ gg ∧ gg ≤ val (R.drop k) / val M + 1) ∧ Drawn wr w')
          case first =>
            have s4 : IntKind.i64.wrap ((m'.length : Int) - 2) = ((m'.length - 2 : Nat) : Int) := by rw [IntWalk.i64_in] <;> omega
            have s5 : IntKind.i64.wrap (((k + m'.length : Nat) : Int) - 2) = ((k + m'.length - 2 : Nat) : Int) := by rw [IntWalk.i64_in] <;> omega
            have i3 : ((m'.length - 2 : Nat) : Int) < (M.length : Int) := by omega
            have i4 : (0 : Int) ≤ ((m'.length - 2 : Nat) : Int) := by omega
            have z7 : IntKind.u64.wrap ((top : Int) / (v1 : Int)) = ((top / v1 : Nat) : Int) := by
              rw [Int.tdiv_eq_ediv_of_nonneg (by omega)] at z5; exact z5
            have z8 : (top : Int) % (v1 : Int) = ((top % v1 : Nat) : Int) := by simp
            have hr0 : top % v1 < 1000000000 := by have := Nat.mod_lt top (show 0 < v1 by have := HV1.out; omega); have := HV2.out; omega
            have hg0' := hround.guessb (Nat.div_add_mod' top v1)
            have HR := Lib.hid hround
            clear hround z5 z6
            go_wp2
            obtain ⟨wo, rfl⟩ : ∃ wo : World, wo = wr := ⟨_, rfl⟩
            go_loopw [13, 14] (fun g r w' => ∃ gg rr : Nat, g = .int .u64 gg ∧ r = .int .u64 rr ∧ (gg : Int) ≤ 1000000003 ∧ (rr : Int) < 1000000000 ∧ Hid (gg * v1 + rr = top) ∧ Hid (val (R.drop k) / val M ≤ gg) ∧ Drawn wo w') (fun g _ _ => (intOf g).toNat)
            case atStart => exact ⟨top / v1, top % v1, by rw [z7], by rw [z8], by omega, by omega, Nat.div_add_mod' top v1, HR.out.first, ((Drawn.rfl' wo).n _).n _⟩
            case round =>
              clear z7 z8 hr0 hg0'
              obtain ⟨gg, rr, rfl, rfl, hg, hr, hgr, hQ, nn, rfl⟩ := hrel
              have hD : Drawn wo (wo.drewN nn) := ⟨nn, rfl⟩
              have hv2 : v2 < 1000000000 := HR.out.a2
              have hx2 : x2 < 1000000000 := HR.out.ax
              have hv1 := HV2.out
              have p1 : (gg : Int) * (v2 : Int) ≤ 1000000003000000000 := by
                have h1 : gg * v2 ≤ 1000000003 * 1000000000 := Nat.mul_le_mul (by omega) (by omega)
                have h2 : ((gg * v2 : Nat) : Int) = (gg : Int) * (v2 : Int) := by simp
                omega
              have p0 : 0 ≤ (gg : Int) * (v2 : Int) := Int.mul_nonneg (by omega) (by omega)
              have y1 : IntKind.u64.wrap ((gg : Int) * (v2 : Int)) = (gg : Int) * (v2 : Int) := IntWalk.u64_in _ (by omega)
              have y2 : IntKind.u64.wrap (v2 : Int) = v2 := IntWalk.u64_in _ (by omega)
              have y3 : IntKind.u64.wrap ((rr : Int) * 1000000000) = (rr : Int) * 1000000000 := IntWalk.u64_in _ (by omega)
              have y4 : IntKind.u64.wrap (x2 : Int) = x2 := IntWalk.u64_in _ (by omega)
              have y5 : IntKind.u64.wrap ((rr : Int) * 1000000000 + x2) = (rr : Int) * 1000000000 + x2 := IntWalk.u64_in _ (by omega)
              clear hv2 hx2
              go_wp2
              by_cases hge : (1000000000 : Int) ≤ (gg : Int)
              · have hdec := Lib.hid (HR.out.dec_ge (g := gg) (by omega))
                have d1 : decide ((1000000000 : Int) ≤ (gg : Int)) = true := decide_eq_true hge
                have q1 : (1 : Int) ≤ (gg : Int) := by have := hdec.out; omega
                have hs : Hid ((gg - 1) * v1 + (rr + v1) = top) := by
                  have := hgr.out
                  have h1 : gg * v1 = (gg - 1) * v1 + v1 := by rw [← Nat.succ_mul]; congr 1; omega
                  unfold Hid; omega
                by_cases hbr : (1000000000 : Int) ≤ (rr : Int) + (v1 : Int)
                · have hfin := Lib.hid (HR.out.end2 hs.out (by omega))
                  go_quiet (fail)
                  go_wp2
                  go_meet
                  exact ⟨gg - 1, by go_num, by have := hfin.out.1; omega, ⟨hdec.out.1, hfin.out.2⟩, by first | exact hD.n _ | exact ⟨_, rfl⟩⟩
                · go_quiet (fail)
                  go_wp2
                  go_roundw
                  case rel => exact ⟨gg - 1, rr + v1, by go_num, by go_num, by omega, by omega, hs, hdec.out.1, by first | exact hD.n _ | exact ⟨_, rfl⟩⟩
                  case measure => simp only [intOf]; omega
              · have d1 : decide ((1000000000 : Int) ≤ (gg : Int)) = false := decide_eq_false hge
                by_cases hgt : (rr : Int) * 1000000000 + x2 < (gg : Int) * (v2 : Int)
                · have d2 : decide ((rr : Int) * 1000000000 + x2 < (gg : Int) * (v2 : Int)) = true := decide_eq_true hgt
                  have hdec := Lib.hid (HR.out.dec_gt (g := gg) (r := rr) hgr.out (by have h2 : ((gg * v2 : Nat) : Int) = (gg : Int) * (v2 : Int) := by simp
                                                                                      omega))
                  have q1 : (1 : Int) ≤ (gg : Int) := by have := hdec.out; omega
                  have hs : Hid ((gg - 1) * v1 + (rr + v1) = top) := by
                    have := hgr.out
                    have h1 : gg * v1 = (gg - 1) * v1 + v1 := by rw [← Nat.succ_mul]; congr 1; omega
                    unfold Hid; omega
                  by_cases hbr : (1000000000 : Int) ≤ (rr : Int) + (v1 : Int)
                  · have hfin := Lib.hid (HR.out.end2 hs.out (by omega))
                    go_quiet (fail)
                    go_wp2
                    go_meet
                    exact ⟨gg - 1, by go_num, by have := hfin.out.1; omega, ⟨hdec.out.1, hfin.out.2⟩, by first | exact hD.n _ | exact ⟨_, rfl⟩⟩
                  · go_quiet (fail)
                    go_wp2
                    go_roundw
                    case rel => exact ⟨gg - 1, rr + v1, by go_num, by go_num, by omega, by omega, hs, hdec.out.1, by first | exact hD.n _ | exact ⟨_, rfl⟩⟩
                    case measure => simp only [intOf]; omega
                · have d2 : decide ((rr : Int) * 1000000000 + x2 < (gg : Int) * (v2 : Int)) = false := decide_eq_false hgt
                  have hfin := Lib.hid (HR.out.end1 (g := gg) (r := rr) hgr.out (by omega) (by have h2 : ((gg * v2 : Nat) : Int) = (gg : Int) * (v2 : Int) := by simp
                                                                                               omega))
                  go_quiet (fail)
                  go_wp2
                  go_meet
                  exact ⟨gg, rfl, by omega, ⟨hQ.out, hfin.out⟩, by first | exact hD.n _ | exact ⟨_, rfl⟩⟩
          case rest =>
            obtain ⟨gg, rfl, hgb, hQ, nn, rfl⟩ := hcut
            have hEd : Ext wr (wr.drewN nn) := (Ext.rfl' wr).drewN' nn
            replace hE := hE.trans' hEd
            replace hR := hR.drewN nn
            replace hS := hS.drewN nn
            replace hMr := Lib.hid (hMr.out.ext hEd)
            have HR := Lib.hid hround
            have cuk : k + m'.length + 1 ≤ cu := by
              have := hu4c
              omega
            clear hround c1 c3 c5 c7 c8 s1 s2 s3 z0 z1 z2 z3 z4 z5 z6 v1z i1 i2 HV1 HV2 HTB HT
            go_wp2_with fail
            rw [show k + m'.length + 1 - k = m'.length + 1 by omega]
            have hfar : Far gu (.slice (some ⟨gv, 0, none⟩) M.length cv) := by intro a n c e; cases e; show gv ≠ gu; omega
            have hupz := Lib.hid (upper_zero (k := k) (n := m'.length) hlt.out hbeg.hi)
            refine (integer_subtract _ g0 gu k (m'.length + 1) U.length cu (cu - k) _ R M gg hR hRl.out dR (by omega) (by omega) hMr.out hbeg.dM hfar (by omega) (by omega)).mono ?_
            rintro e w5 ⟨R1, o1, rfl, hR1, lR1, dR1, ht1, hd1', hv1, hg1⟩
            have hVp : 0 < val M := HR.out.Vpos
            have hw := Lib.hid (seg_all (R := R) (k := k) (n := m'.length + 1) (by rw [show k + (m'.length + 1) = k + 1 + m'.length by omega]; exact hupz.out))
            have hdr := Lib.hid (fun (R' : List Nat) (l : R'.length = R.length) h1 h2 h3 => @div_round R R' S k m'.length (val M) (val l' * d) (by have := hRl.out; omega) l h1 h2 (by have := hSl.out; omega)
              (by rw [show k + (m'.length + 1) = k + 1 + m'.length by omega]; exact hupz.out) h3 hVp (by have := hinv.out; rwa [show ((k : Int) + 1).toNat = k + 1 by omega] at this))
            have hgqu : w3.heap.size ≠ gu := by omega
            have hS1 := hS.kept hg1 (.inr (by simp only [Value.ownBlock]; intro e; exact hgqu (Option.some.inj e)))
            have hM1 := Lib.hid (hMr.out.only hfar hg1)
            have hE1 := Lib.hid (hE.grown' hg1 (by intro j e; cases e; omega))
            have HV := Lib.hid hv1
            have LR1 := Lib.hid lR1
            have HT1 := Lib.hid ht1
            have HD1 := Lib.hid hd1'
            clear hv1 lR1 ht1 hd1' hS hMr hE hR hg1 hEd
            by_cases ho : o1 = 0
            · subst ho
              have hdig := Lib.hid (digit_right (M := 1000000000 ^ (m'.length + 1)) hVp hQ.out.1 (by rw [← hw.out]; exact HV.out))
              have hfin := Lib.hid (hdr.out R1 (by rw [LR1.out, hRl.out]) HT1.out HD1.out (by rw [hdig.out.2, ← hw.out]))
              obtain ⟨cq, fq⟩ := hS1.at (k := k) hSl.out (by omega)
              go_wp2
              go_roundw
              case rel => exact ⟨(k : Int) - 1, R1, S.set k gg, by omega, by omega, rfl, LR1, dR1, hR1.set_far (fun e => hgqu e.symm) _, Lib.hid (by rw [List.length_set, hSl.out]), dS.set (by omega), hS1.stored hSl.out k (by first | rfl | omega),
                Lib.hid (by rw [show ((k : Int) - 1 + 1).toNat = k by omega]; exact hfin.out.1), Lib.hid (by rw [show ((k : Int) - 1 + 1).toNat = k by omega, hdig.out.1]; exact hfin.out.2), Lib.hid (hM1.out.set_far (by show gv ≠ w3.heap.size; omega) _), hE1.out.set' (by show w.heap.size ≤ w3.heap.size; omega) _⟩
              case measure => simp only [intOf]; omega
            · have hd2 : decide (0 < o1) = true := by simp; omega
              go_wp2_with fail
              rw [show k + m'.length + 1 - k = m'.length + 1 by omega]
              refine (integer_restore _ g0 gu k (m'.length + 1) U.length cu (cu - k) _ R1 M hR1 LR1.out dR1 (by omega) (by omega) hM1.out hbeg.dM hfar (by omega)).mono ?_
              rintro e w6 ⟨R2, o2, rfl, hR2, lR2, dR2, ht2, hd2', hv2, hg2⟩
              have hpp : 1000000000 ^ m'.length ≤ 1000000000 ^ (m'.length + 1) := Nat.pow_le_pow_right (by omega) (by omega)
              have hdig := Lib.hid (digit_less (M := 1000000000 ^ (m'.length + 1)) hVp (Nat.lt_of_lt_of_le hbeg.hi hpp) (by rw [← hw.out]; exact seg_lt dR (by rw [hRl.out]; omega)) hQ.out.2 (Nat.pos_of_ne_zero ho)
                (seg_lt dR1 (by rw [LR1.out]; omega)) (by rw [← hw.out]; exact HV.out) (seg_lt dR2 (by rw [lR2]; omega)) hv2)
              have hfin := Lib.hid (hdr.out R2 (by rw [lR2, hRl.out]) (ht2.trans HT1.out) (hd2'.trans HD1.out) (by rw [hdig.out.2.1, ← hw.out]))
              have hS2 := hS1.kept hg2 (.inr (by simp only [Value.ownBlock]; intro e; exact hgqu (Option.some.inj e)))
              have hM2 := Lib.hid (hM1.out.only hfar hg2)
              have hE2 := Lib.hid (hE1.out.grown' hg2 (by intro j e; cases e; omega))
              have LR2 := Lib.hid lR2
              obtain ⟨cq, fq⟩ := hS2.at (k := k) hSl.out (by omega)
              have hgg1 : (1 : Int) ≤ (gg : Int) := by
                have := hdig.out.2.2
                omega
              clear lR2 ht2 hd2' hv2 hg2 hS1 hpp hR1
              go_wp2
              go_roundw
              case rel => exact ⟨(k : Int) - 1, R2, S.set k (gg - 1), by omega, by omega, rfl, LR2, dR2, hR2.set_far (fun e => hgqu e.symm) _, Lib.hid (by rw [List.length_set, hSl.out]), dS.set (by omega), hS2.stored hSl.out k (by omega),
                Lib.hid (by rw [show ((k : Int) - 1 + 1).toNat = k by omega]; exact hfin.out.1), Lib.hid (by rw [show ((k : Int) - 1 + 1).toNat = k by omega, hdig.out.1]; exact hfin.out.2), Lib.hid (hM2.out.set_far (by show gv ≠ w3.heap.size; omega) _), hE2.out.set' (by show w.heap.size ≤ w3.heap.size; omega) _⟩
              case measure => simp only [intOf]; omega
end Go.Proofs.YtechjiiijiipdaaGreatDoor
namespace Go.Proofs.YtechjiiijiipdaaGreatDoor
open Go.RowKit
set_option linter.unusedSimpArgs false
set_option linter.unusedVariables false

set_option maxRecDepth 100000 in
set_option maxHeartbeats 1000000 in
theorem integer_signed (w : World) (neg : Bool) (v : Value) (l : List Nat) (h : U32s w v l) (hd : Dig l) :
    Calls Tryz.prog 158 #[.bool neg, v] w fun e w' => ∃ v', e = .returned v' ∧ IsInt l.length w' v' (sgn neg (val l)) ∧ Ext w w' := by
  obtain ⟨a, c, rfl, hc, hb, hn, hz, hcell⟩ := h
  have HZ := Lib.hid hz
  clear hz
  go_enter Tryz.func158, Tryz.ntmps158
  go_wp2
  go_loopw [5] (fun s w' => ∃ k : Nat, k ≤ l.length ∧ s = .int .i64 k ∧ Hid (trimL (l.take k) = trimL l) ∧ w' = w.alloc (.cells #[.bool false, .slice none 0 0] 53)) (fun s _ => (intOf s).toNat)
  case atStart => exact ⟨l.length, Nat.le_refl _, rfl, Lib.hid (by rw [List.take_length]), rfl⟩
  case round =>
    obtain ⟨k, hk, rfl, ht, rfl⟩ := hrel
    rcases Nat.eq_zero_or_pos k with rfl | hk0
    · cases neg <;> (
        go_wp2
        exact bodyPost_ret (v := .agg #[.bool false, .slice a 0 0]) (by simp [results, Tryz.results158, go_sem]) rfl ⟨_, rfl, IsInt.cut (k := 0) (U32s.nil _ _ _ (fun _ => rfl)) (by omega) hd ht.out.symm rfl, (Ext.rfl' w).alloc' _⟩)
    · rcases hcell with rfl | ⟨b, o, rfl, hlt, hcell⟩
      · simp at hk; omega
      have hcl := hcell (k - 1) (by omega)
      have e1 : ((k : Int) - 1) = ((k - 1 : Nat) : Int) := by omega
      by_cases hzz : l.getD (k - 1) 0 = 0
      · have ht' := Lib.hid ((trim_go hk0 hk hzz).symm.trans ht.out)
        rw [hzz] at hcl
        go_wp2
        go_roundw
        case rel => exact ⟨k - 1, by omega, by go_num, ht', by first | rfl | trivial⟩
        case measure => simp only [intOf]; omega
      · have ht2 := Lib.hid ((trim_stop hk0 hk hzz).symm.trans ht.out)
        generalize l.getD (k - 1) 0 = d at hcl hzz
        have hdz : ((d : Int) == 0) = false := by simpa using hzz
        have hk1 : 0 < (k : Int) := by omega
        cases neg <;> (
          go_wp2
          exact bodyPost_ret (v := .agg #[.bool _, .slice (some ⟨b, o, none⟩) k k]) (by simp [results, Tryz.results158, go_sem]; rfl) rfl ⟨_, rfl, IsInt.cut (k := k) (U32s.sub k hk hb hn (by simp; omega) (fun i hi => (((Ext.rfl' w).alloc' _).cell (p := ⟨b, o + i, none⟩) hlt).trans (hcell i hi))) hk hd ht2.out.symm (by simp [hk0]), (Ext.rfl' w).alloc' _⟩)
end Go.Proofs.YtechjiiijiipdaaGreatDoor
namespace Go.Proofs.YtechjiiijiipdaaGreatDoor
open Go.RowKit
set_option linter.unusedSimpArgs false
set_option linter.unusedVariables false

theorem IsInt.shape {n : Nat} {w : World} {v : Value} {z : Int} (h : IsInt n w v z) : ∃ neg a l c, v = .agg #[.bool neg, .slice a l.length c] ∧ U32s w (.slice a l.length c) l ∧ Dig l ∧ Norm l ∧ l.length ≤ n ∧ (neg = true → l ≠ []) ∧ z = sgn neg (val l) ∧ l.length ≤ c := by
  obtain ⟨neg, sv, l, rfl, hu, hd, hn, hl, hz, rfl⟩ := h
  obtain ⟨a, c, rfl, hc, _⟩ := hu.shape
  exact ⟨neg, a, l, c, rfl, hu, hd, hn, hl, hz, rfl, hc⟩

set_option maxRecDepth 100000 in
set_option maxHeartbeats 1000000 in
theorem integer_Mul (n m : Nat) (w : World) (va vb : Value) (a b : Int) (ha : IsInt n w va a) (hb : IsInt m w vb b) (hn : n < 400000) (hm : m < 400000) :
    Calls Tryz.prog 118 #[va, vb] w fun e w' => ∃ v, e = .returned v ∧ IsInt (n + m) w' v (a * b) ∧ Ext w w' := by
  obtain ⟨na, aa, la, ca, rfl, ua, da, _, lna, _, rfl, _⟩ := ha.shape
  obtain ⟨nb, ab, lb, cb, rfl, ub, db, _, lnb, _, rfl, _⟩ := hb.shape
  clear ha hb
  go_enter Tryz.func118, Tryz.ntmps118
  go_wp2
  obtain ⟨w3, p, q, r, e1, e2, e3, e4, h1, h2, h3, hpq, hpr, hqr, hE⟩ := box3 w (.cells #[.bool na, .slice aa la.length ca] 53) (.cells #[.bool nb, .slice ab lb.length cb] 53) (.cells #[.bool false, .slice none 0 0] 53)
  rw [e1, e2, e3, e4]
  have hge : ∀ k, k ∈ [r] → w.heap.size ≤ k := by simp; omega
  clear e1 e2 e3 e4
  have R1 := rulesB (rs := [r]) h1 (by simpa using hpr) 0 _ rfl
  have R2 := rulesB (rs := [r]) h1 (by simpa using hpr) 1 _ rfl
  have R3 := rulesB (rs := [r]) h2 (by simpa using hqr) 0 _ rfl
  have R4 := rulesB (rs := [r]) h2 (by simpa using hqr) 1 _ rfl
  obtain ⟨R5, F5⟩ := rulesR (rs := [r]) h3 (by simp) 0 (by decide)
  obtain ⟨R6, F6⟩ := rulesR (rs := [r]) h3 (by simp) 1 (by decide)
  have hbx : Box w3 r := Box.mk h3 rfl
  go_region_held3 (fun w' => But [r] w3 w') (exact buttI) (first | (go_at_call 172; refine (integer_times _ _ _ la lb (ua.ext (by exact exttI)) (ub.ext (by exact exttI)) da db (by omega) (by omega)).mono ?_; rintro e w4 ⟨g, rr, rfl, hg0, hg1, hown, hl, dr, hv, hE4⟩; have hl' := Lib.hid hl; clear hl; have hv' := Lib.hid hv; clear hv) | (go_at_call 158; refine (integer_signed _ _ _ rr ((hown.u32 dr.u32 (by have := hl'.out; omega)).ext (by exact exttI)) dr).mono ?_; rintro e w5 ⟨v', rfl, hI, hE5⟩; obtain ⟨nr, ar, lr, cr, rfl, ur, ddr, nnr, lnr, sr, vr, _⟩ := hI.shape; have vr' := Lib.hid vr; clear vr))
  go_wp2
  have hB : But [r] w3 w5 := by exact buttI
  exact bodyPost_ret (v := .agg #[.bool nr, .slice ar lr.length cr]) (by simp [results, Tryz.results118, R5 _ hB, R6 _ hB, go_sem]) rfl ⟨_, rfl, by
    rw [← sgn_mul, ← hv'.out]
    refine (((hI.mono ?_).but hB (by simp)).but (hB.set _ _ rfl (by simp)) (by simp)) |>.cast ?_
    · have := hl'.out; omega
    · cases na <;> cases nb <;> rfl, by exact exttI⟩
end Go.Proofs.YtechjiiijiipdaaGreatDoor
namespace Go.Proofs.YtechjiiijiipdaaGreatDoor
open Go.RowKit
set_option linter.unusedSimpArgs false
set_option linter.unusedVariables false

/-- 'append([]uint32(nil), x...)'. -/
theorem step_copy32 {w : World} {ops : Array Oper} {o : Oper} {a : Act} {K : Act → World → Prop} {Q : Exit → Act → World → Prop} {E : Prop} (hgd : o.guard = none) (s x : Operand)
    (ho : o.op = .call { callee := .builtin .append, args := #[s, x], argTypes := #[51, 51] }) {v : Value} {l : List Nat}
    (hs : a.eval s = .slice none 0 0) (hx : a.eval x = v) (hl : U32s w v l)
    (h : ∀ v' w', Own w.heap.size w' v' l → Ext w w' → K (a.put o.dst v') w') :
    if Region.wanted o (yielded ops a.tmps) = true then Oper.wp Tryz.prog o a w K Q else E := by
  have hw : Region.wanted o (yielded ops a.tmps) = true := by simp [Region.wanted, hgd]
  rw [if_pos hw]
  obtain ⟨i0, hi, hz0, hz1, hz2⟩ := info_parts Tryz.info123
  obtain ⟨ad, c, rfl, hc, hb, hn, hz, hcell⟩ := hl
  cases ad with
  | none =>
    rcases hcell with rfl | ⟨b, o', h1, _⟩
    · obtain rfl := hz rfl
      have hrun := run_append_owned_none (P := Tryz.prog) (w := w) w.heap.size 51 o.type 123 i0 1 Tryz.underlying51 hi (.slice none 0 0) 0 [] (World.ownsRow_nil _ _ _ _)
      unfold Oper.wp
      simp [execOp, ho, resolve, invoke, builtin, hs, hx, hrun, Result.andThen]
      exact h _ _ (Own.nil _ _) (Ext.rfl' _)
    · cases h1
  | some ad =>
    refine wp_append_own w s x 51 ho w.heap.size 123 i0 (.int .u32 0) 1 4 Tryz.underlying51 hi hz0 hz1 hz2 rfl (by decide) _ 0 [] hs (World.ownsRow_nil _ _ _ _) ad l.length c (u32s l) hx (by rw [u32s_length]; omega) ?_ ?_ (by unfold maxLen; omega) (by omega) (Nat.le_refl _) ?_
    · intro j u hj
      have hj' : j < l.length := by
        have := (List.getElem?_eq_some_iff.1 hj).1
        rwa [u32s_length] at this
      rcases hcell with rfl | ⟨b, o', h1, _, hcell⟩
      · simp at hj'
      · obtain rfl := Option.some.inj h1
        rw [u32s_get l j hj'] at hj
        obtain rfl := Option.some.inj hj
        have e : (⟨b, o', none⟩ : Addr).add j = ⟨b, o' + j, none⟩ := by unfold Addr.add; split <;> simp_all
        rw [e]; exact hcell j hj'
    · intro u hu
      simp [u32s] at hu
      obtain ⟨n, _, rfl⟩ := hu
      exact oneCell_int _ _
    · intro v' w' h1 h2 _
      refine h v' w' ?_ ((Ext.rfl' w).grown' h2 (by simp [Value.ownBlock]))
      unfold Own
      rw [Nat.zero_add, List.nil_append] at h1
      exact h1


theorem dig3 (u : Nat) (hu : u < 18446744073709551616) : Dig [u % 1000000000, u / 1000000000 % 1000000000, u / 1000000000 / 1000000000] := by
  intro n hn
  simp at hn
  omega
theorem val3 (u : Nat) : val [u % 1000000000, u / 1000000000 % 1000000000, u / 1000000000 / 1000000000] = u := by
  simp [val]
  omega
set_option maxRecDepth 100000 in
theorem integer_split (w : World) (u : Nat) (hu : u < 18446744073709551616) :
    Calls Tryz.prog 169 #[.int .u64 (u : Int)] w fun e w' => ∃ v, e = .returned v ∧ U32s w' v [u % 1000000000, u / 1000000000 % 1000000000, u / 1000000000 / 1000000000] ∧ Ext w w' := by
  go_enter Tryz.func169, Tryz.ntmps169
  go_wp2
  go_ret
  refine ⟨_, rfl, ⟨_, 3, rfl, by simp, (dig3 u hu).u32, by simp, by simp, .inr ⟨_, 0, rfl, by simp, fun i hi => ?_⟩⟩, (Ext.rfl' w).alloc' _⟩
  match i, hi with
  | 0, _ => simp
  | 1, _ => simp
  | 2, _ => simp
  | i + 3, hi => exact absurd hi (by simp)

theorem sgn_sign_pos {l : List Nat} (h : Norm l) (hl : l ≠ []) : (sgn false (val l)).sign = 1 := by
  have := h.pos hl
  simp only [sgn]
  exact Int.sign_eq_one_of_pos (by simp; omega)
theorem sgn_sign_neg {l : List Nat} (h : Norm l) (hl : l ≠ []) : (sgn true (val l)).sign = -1 := by
  have := h.pos hl
  simp only [sgn]
  exact Int.sign_eq_neg_one_of_neg (by simp; omega)
set_option maxRecDepth 100000 in
theorem integer_Sign (n : Nat) (w : World) (va : Value) (a : Int) (ha : IsInt n w va a) :
    Calls Tryz.prog 116 #[va] w fun e w' => e = .returned (.int .i64 a.sign) ∧ Ext w w' := by
  obtain ⟨na, aa, la, ca, rfl, ua, da, nna, lna, sa, rfl, _⟩ := ha.shape
  clear ha
  go_enter Tryz.func116, Tryz.ntmps116
  cases na
  · by_cases hl : la = []
    · subst hl
      go_wp2
      go_ret
      exact ⟨rfl, (Ext.rfl' w).alloc' _⟩
    · have h0 : 0 < (la.length : Int) := by have := List.length_pos_iff.2 hl; omega
      go_wp2
      go_ret
      exact ⟨by rw [sgn_sign_pos nna hl]; rfl, (Ext.rfl' w).alloc' _⟩
  · go_wp2
    go_ret
    exact ⟨by rw [sgn_sign_neg nna (sa (by trivial))]; rfl, (Ext.rfl' w).alloc' _⟩

/-- The sign of a difference. -/
def cmpI (a b : Int) : Int := if a < b then -1 else if b < a then 1 else 0
set_option maxRecDepth 100000 in
theorem integer_Cmp (n m : Nat) (w : World) (va vb : Value) (a b : Int) (ha : IsInt n w va a) (hb : IsInt m w vb b) :
    Calls Tryz.prog 150 #[va, vb] w fun e w' => e = .returned (.int .i64 (cmpI a b)) ∧ Ext w w' := by
  obtain ⟨na, aa, la, ca, rfl, ua, da, nna, lna, sa, rfl, _⟩ := ha.shape
  obtain ⟨nb, ab, lb, cb, rfl, ub, db, nnb, lnb, sb, rfl, _⟩ := hb.shape
  clear ha hb
  have pa := fun h => nna.pos (sa h)
  have pb := fun h => nnb.pos (sb h)
  go_enter Tryz.func150, Tryz.ntmps150
  cases na <;> cases nb
  · go_wp2_with (go_at_call 204; refine (integer_compare _ _ _ la lb (ua.ext (by exact exttI)) (ub.ext (by exact exttI)) da db).mono ?_; rintro e w4 ⟨rfl, hE4⟩; replace hE4 := hE4.ext)
    go_ret
    refine ⟨?_, by exact exttI⟩
    simp [cmpI, cmpN, sgn]
  · go_wp2
    go_ret
    refine ⟨?_, by exact exttI⟩
    have := pb (by trivial)
    simp [cmpI, sgn]
    omega
  · go_wp2
    go_ret
    refine ⟨?_, by exact exttI⟩
    have := pa (by trivial)
    simp [cmpI, sgn]
    omega
  · go_wp2_with (go_at_call 204; refine (integer_compare _ _ _ lb la (ub.ext (by exact exttI)) (ua.ext (by exact exttI)) db da).mono ?_; rintro e w4 ⟨rfl, hE4⟩; replace hE4 := hE4.ext)
    go_ret
    refine ⟨?_, by exact exttI⟩
    simp [cmpI, cmpN, sgn]

set_option maxRecDepth 100000 in
theorem integer_FromInt64 (w : World) (n : Int) (h1 : -9223372036854775808 ≤ n) (h2 : n < 9223372036854775808) :
    Calls Tryz.prog 114 #[.int .i64 n] w fun e w' => ∃ v, e = .returned v ∧ IsInt 3 w' v n ∧ Ext w w' := by
  go_enter Tryz.func114, Tryz.ntmps114
  by_cases hn : n < 0
  · obtain ⟨u, rfl⟩ : ∃ u : Nat, n = -(u : Int) := ⟨n.natAbs, by omega⟩
    have hu : u < 18446744073709551616 := by omega
    have ew : IntKind.u64.wrap (-IntKind.u64.wrap (-(u : Int))) = (u : Int) := by
      simp only [IntKind.wrap, IntKind.bits, IntKind.signed]
      simp
      omega
    go_wp2_with (first | fail)
    obtain ⟨w3, r, e1, e2, h1, hE⟩ := box1 w (.cells #[.bool false, .slice none 0 0] 53)
    rw [e1, e2]
    have hge : ∀ k, k ∈ [r] → w.heap.size ≤ k := by simp; omega
    have hbxr : Box _ r := Box.mk h1 rfl
    obtain ⟨Rr0, Fr0⟩ := rulesR (rs := [r]) h1 (by simp) 0 (by simp)
    obtain ⟨Rr1, Fr1⟩ := rulesR (rs := [r]) h1 (by simp) 1 (by simp)
    (go_at_call 169; refine (integer_split _ u hu).mono ?_; rintro e w4 ⟨v3, rfl, hu3, hE3⟩)
    go_wp2_with (first | fail)
    (go_at_call 158; refine (integer_signed _ _ _ _ (by exact hu3) (by exact (dig3 u hu))).mono ?_; rintro e w5 ⟨vr, rfl, hr, hEr⟩; obtain ⟨nr, ar, lr, cr, rfl, ur, dr, nnr, lnr, sr, qr, _⟩ := IsInt.shape hr; have er := Lib.hid qr; clear qr)
    have hB : But [r] w3 w5 := by exact buttI
    have hBr0 := Rr0 _ hB
    have hBr1 := Rr1 _ hB
    have hFr0 := Fr0 _ hB
    have hFr1 := Fr1 _ hB
    go_wp2
    exact bodyPost_ret (v := .agg #[.bool nr, .slice ar lr.length cr]) (by simp [results, Tryz.results114, go_sem, Rr0 _ hB, Rr1 _ hB]) rfl ⟨_, rfl, IsInt.put (hr.cast (by rw [val3]; simp [sgn])) hB (by simp) rfl, ((hB.set _ _ rfl (by simp)).set _ _ rfl (by simp)).old hE hge⟩
  · obtain ⟨u, rfl⟩ : ∃ u : Nat, n = (u : Int) := ⟨n.natAbs, by omega⟩
    have hu : u < 18446744073709551616 := by omega
    go_wp2_with (first | fail)
    obtain ⟨w3, r, e1, e2, h1, hE⟩ := box1 w (.cells #[.bool false, .slice none 0 0] 53)
    rw [e1, e2]
    have hge : ∀ k, k ∈ [r] → w.heap.size ≤ k := by simp; omega
    have hbxr : Box _ r := Box.mk h1 rfl
    obtain ⟨Rr0, Fr0⟩ := rulesR (rs := [r]) h1 (by simp) 0 (by simp)
    obtain ⟨Rr1, Fr1⟩ := rulesR (rs := [r]) h1 (by simp) 1 (by simp)
    (go_at_call 169; refine (integer_split _ u hu).mono ?_; rintro e w4 ⟨v3, rfl, hu3, hE3⟩)
    go_wp2_with (first | fail)
    (go_at_call 158; refine (integer_signed _ _ _ _ (by exact hu3) (by exact (dig3 u hu))).mono ?_; rintro e w5 ⟨vr, rfl, hr, hEr⟩; obtain ⟨nr, ar, lr, cr, rfl, ur, dr, nnr, lnr, sr, qr, _⟩ := IsInt.shape hr; have er := Lib.hid qr; clear qr)
    have hB : But [r] w3 w5 := by exact buttI
    have hBr0 := Rr0 _ hB
    have hBr1 := Rr1 _ hB
    have hFr0 := Fr0 _ hB
    have hFr1 := Fr1 _ hB
    go_wp2
    exact bodyPost_ret (v := .agg #[.bool nr, .slice ar lr.length cr]) (by simp [results, Tryz.results114, go_sem, Rr0 _ hB, Rr1 _ hB]) rfl ⟨_, rfl, IsInt.put (hr.cast (by rw [val3]; simp [sgn])) hB (by simp) rfl, ((hB.set _ _ rfl (by simp)).set _ _ rfl (by simp)).old hE hge⟩
set_option maxRecDepth 100000 in
theorem integer_Neg (n : Nat) (w : World) (va : Value) (a : Int) (ha : IsInt n w va a) :
    Calls Tryz.prog 92 #[va] w fun e w' => ∃ v, e = .returned v ∧ IsInt n w' v (-a) ∧ Ext w w' := by
  obtain ⟨na, aa, la, ca, rfl, ua, da, nna, lna, sa, rfl, _⟩ := ha.shape
  clear ha
  go_enter Tryz.func92, Tryz.ntmps92
  go_wp2
  obtain ⟨w3, p, r, e1, e2, e3, h1, h2, hpr, hE⟩ := box2 w (.cells #[.bool na, .slice aa la.length ca] 53) (.cells #[.bool false, .slice none 0 0] 53)
  rw [e1, e2, e3]
  have hge : ∀ k, k ∈ [r] → w.heap.size ≤ k := by simp; omega
  clear e1 e2 e3
  have Rp0 := rulesB (rs := [r]) h1 (by simpa using hpr) 0 _ rfl
  have Rp1 := rulesB (rs := [r]) h1 (by simpa using hpr) 1 _ rfl
  have hbxr : Box _ r := Box.mk h2 rfl
  obtain ⟨Rr0, Fr0⟩ := rulesR (rs := [r]) h2 (by simp) 0 (by simp)
  obtain ⟨Rr1, Fr1⟩ := rulesR (rs := [r]) h2 (by simp) 1 (by simp)
  go_region_held3 (fun w' => But [r] w3 w') (exact buttI) (first | (refine step_copy32 rfl _ _ rfl rfl rfl (ua.ext (by exact exttI)) ?_; intro v' w4 hown hE4) | (go_at_call 158; refine (integer_signed _ _ _ _ (by exact ((hown.u32 da.u32 (by have := ua.shape; grind)).ext (by exact exttI))) (by exact da)).mono ?_; rintro e w5 ⟨vr, rfl, hr, hEr⟩; obtain ⟨nr, ar, lr, cr, rfl, ur, dr, nnr, lnr, sr, qr, _⟩ := IsInt.shape hr; have er := Lib.hid qr; clear qr))
  go_wp2
  have hB : But [r] w3 w5 := by exact buttI
  exact bodyPost_ret (v := .agg #[.bool nr, .slice ar lr.length cr]) (by simp [results, Tryz.results92, go_sem, Rr0 _ hB, Rr1 _ hB]) rfl ⟨_, rfl, IsInt.put ((hr.mono lna).cast (sgn_neg _ _)) hB (by simp) rfl, ((hB.set _ _ rfl (by simp)).set _ _ rfl (by simp)).old hE hge⟩
end Go.Proofs.YtechjiiijiipdaaGreatDoor
namespace Go.Proofs.YtechjiiijiipdaaGreatDoor
open Go.RowKit
set_option linter.unusedSimpArgs false
set_option linter.unusedVariables false

theorem sgn_add_same (b : Bool) (m n : Nat) : sgn b (m + n) = sgn b m + sgn b n := by cases b <;> simp [sgn] <;> omega
theorem sgn_add_diff (b : Bool) {m n : Nat} (h : n ≤ m) : sgn b (m - n) = sgn b m + sgn (!b) n := by cases b <;> simp [sgn] <;> omega
/-- Two cells of a block stored. -/
theorem put2_self {w : World} {p : Nat} {x y a b : Value} {t : TypeId} (h : w.heap[p]? = some (.cells #[a, b] t (0, 0))) :
    ((w.setCell ⟨p, 0, none⟩ x).setCell ⟨p, 1, none⟩ y).heap[p]? = some (.cells #[x, y] t (0, 0)) := by
  simp [World.setCell, Array.getElem?_modify, h]
theorem put2_far {w : World} {p q : Nat} {x y : Value} {i j : Nat} {o : Obj} (h : w.heap[p]? = some o) (hne : q ≠ p) :
    ((w.setCell ⟨q, i, none⟩ x).setCell ⟨q, j, none⟩ y).heap[p]? = some o := by
  simp [World.setCell, Array.getElem?_modify, h, hne]
theorem cell_of {w : World} {p : Nat} {cs : Array Value} {t : TypeId} (h : w.heap[p]? = some (.cells cs t (0, 0))) (i : Nat) (v : Value) (hv : cs[i]? = some v) : w.cell? ⟨p, i, none⟩ = some v ∧ w.frozen? ⟨p, i, none⟩ = false := by
  simp [World.cell?, World.frozen?, h, hv]
theorem length_le_of_val {l m : List Nat} (hl : Norm l) (hm : Dig m) (h : val l ≤ val m) : l.length ≤ m.length := by
  rcases Nat.lt_or_ge m.length l.length with h1 | h1
  · have := val_lt_of_length hm hl h1
    omega
  · exact h1

set_option maxRecDepth 100000 in
theorem integer_Add (n m : Nat) (w : World) (va vb : Value) (a b : Int) (ha : IsInt n w va a) (hb : IsInt m w vb b) (hn : n < 400000) (hm : m < 400000) :
    Calls Tryz.prog 152 #[va, vb] w fun e w' => ∃ v, e = .returned v ∧ IsInt (max n m + 1) w' v (a + b) ∧ Ext w w' := by
  obtain ⟨na, aa, la, ca, rfl, ua, da, nna, lna, sa, qa, _⟩ := IsInt.shape ha; have ea := Lib.hid qa; clear qa
  obtain ⟨nb, ab, lb, cb, rfl, ub, db, nnb, lnb, sb, qb, _⟩ := IsInt.shape hb; have eb := Lib.hid qb; clear qb
  have eab := Lib.hid (show a + b = sgn na (val la) + sgn nb (val lb) by rw [ea.out, eb.out])
  go_enter Tryz.func152, Tryz.ntmps152
  by_cases hs : na = nb
  · subst hs
    go_wp2_with (first | fail)
    obtain ⟨w3, p, q, r, e1, e2, e3, e4, h1, h2, h3, hpq, hpr, hqr, hE⟩ := box3 w (.cells #[.bool na, .slice aa la.length ca] 53) (.cells #[.bool na, .slice ab lb.length cb] 53) (.cells #[.bool false, .slice none 0 0] 53)
    rw [e1, e2, e3, e4]
    have hge : ∀ k, k ∈ [r] → w.heap.size ≤ k := by simp; omega
    clear e1 e2 e3 e4
    have Rp0 := rulesB (rs := [r]) h1 (by simpa using hpr) 0 _ rfl
    have Rp1 := rulesB (rs := [r]) h1 (by simpa using hpr) 1 _ rfl
    have Rq0 := rulesB (rs := [r]) h2 (by simpa using hqr) 0 _ rfl
    have Rq1 := rulesB (rs := [r]) h2 (by simpa using hqr) 1 _ rfl
    have hbxr : Box _ r := Box.mk h3 rfl
    obtain ⟨Rr0, Fr0⟩ := rulesR (rs := [r]) h3 (by simp) 0 (by simp)
    obtain ⟨Rr1, Fr1⟩ := rulesR (rs := [r]) h3 (by simp) 1 (by simp)
    go_region_held3 (fun w' => But [r] w3 w') (exact buttI) (first | (go_at_call 208; refine (integer_plus _ _ _ la lb (ua.ext (by exact exttI)) (ub.ext (by exact exttI)) da db (by omega) (by omega)).mono ?_; rintro e w4 ⟨vs, s, rfl, us, ds, ys, zs, hEs⟩; have es := Lib.hid ys; clear ys) | (go_at_call 158; refine (integer_signed _ _ _ _ (by exact (us.ext (by exact exttI))) (by exact ds)).mono ?_; rintro e w5 ⟨vr, rfl, hr, hEr⟩; obtain ⟨nr, ar, lr, cr, rfl, ur, dr, nnr, lnr, sr, qr, _⟩ := IsInt.shape hr; have er := Lib.hid qr; clear qr))
    go_wp2
    have hB : But [r] w3 w5 := by exact buttI
    exact bodyPost_ret (v := .agg #[.bool nr, .slice ar lr.length cr]) (by simp [results, Tryz.results152, go_sem, Rr0 _ hB, Rr1 _ hB]) rfl ⟨_, rfl, IsInt.put ((hr.mono (by omega)).cast (by rw [es.out, sgn_add_same, ← eab.out])) hB (by simp) rfl, ((hB.set _ _ rfl (by simp)).set _ _ rfl (by simp)).old hE hge⟩
  · obtain rfl : nb = !na := by cases na <;> cases nb <;> simp_all
    clear hs
    go_wp2_with (first | fail)
    obtain ⟨w3, p, q, r, e1, e2, e3, e4, h1, h2, h3, hpq, hpr, hqr, hE⟩ := box3 w (.cells #[.bool na, .slice aa la.length ca] 53) (.cells #[.bool (!na), .slice ab lb.length cb] 53) (.cells #[.bool false, .slice none 0 0] 53)
    rw [e1, e2, e3, e4]
    have hge : ∀ k, k ∈ [p, q, r] → w.heap.size ≤ k := by simp; omega
    clear e1 e2 e3 e4
    (go_at_call 204; refine (integer_compare _ _ _ la lb (ua.ext (by exact exttI)) (ub.ext (by exact exttI)) da db).mono ?_; rintro e w4 ⟨rfl, hE4⟩; replace hE4 := hE4.ext)
    by_cases hc : val la < val lb
    · rw [show cmpN (val la) (val lb) = -1 by simp [cmpN, hc]]
      have h1 := hE4.blk h1
      have h2 := hE4.blk h2
      have h3 := hE4.blk h3
      replace hE := hE.trans' hE4
      clear hE4
      have lle := length_le_of_val nna db (Nat.le_of_lt hc)
      have hc := Lib.hid hc
      obtain ⟨Cp0, Gp0⟩ := cell_of h1 0 _ rfl
      obtain ⟨Cp1, Gp1⟩ := cell_of h1 1 _ rfl
      obtain ⟨Cq0, Gq0⟩ := cell_of h2 0 _ rfl
      obtain ⟨Cq1, Gq1⟩ := cell_of h2 1 _ rfl
      go_wp2_with (first | fail)
      generalize hW : World.setCell (World.setCell (World.setCell (World.setCell w4 _ _) _ _) _ _) _ _ = w6
      have k1 : w6.heap[p]? = some (.cells #[.bool (!na), .slice ab lb.length cb] 53) := by rw [← hW]; exact put2_far (put2_self h1) (Ne.symm hpq)
      have k2 : w6.heap[q]? = some (.cells #[.bool na, .slice aa la.length ca] 53) := by rw [← hW]; exact put2_self (put2_far h2 hpq)
      have k3 : w6.heap[r]? = some (.cells #[.bool false, .slice none 0 0] 53) := by rw [← hW]; exact put2_far (put2_far h3 hpr) hqr
      have hE6 : Ext w w6 := by
        rw [← hW]
        exact (((((But.start3 (Box.mk h1 rfl) (Box.mk h2 rfl) (Box.mk h3 rfl)).set _ _ rfl (by simp)).set _ _ rfl (by simp)).set _ _ rfl (by simp)).set _ _ rfl (by simp)).old hE hge
      clear hW Cp0 Gp0 Cp1 Gp1 Cq0 Gq0 Cq1 Gq1 h1 h2 h3 hE
      replace hge : ∀ k, k ∈ [r] → w.heap.size ≤ k := fun k hk => hge k (by simp at hk; simp [hk])
      rename Ext w w6 => hE
      have Rp0 := rulesB (rs := [r]) k1 (by simpa using hpr) 0 _ rfl
      have Rp1 := rulesB (rs := [r]) k1 (by simpa using hpr) 1 _ rfl
      have Rq0 := rulesB (rs := [r]) k2 (by simpa using hqr) 0 _ rfl
      have Rq1 := rulesB (rs := [r]) k2 (by simpa using hqr) 1 _ rfl
      have hbxr : Box _ r := Box.mk k3 rfl
      obtain ⟨Rr0, Fr0⟩ := rulesR (rs := [r]) k3 (by simp) 0 (by simp)
      obtain ⟨Rr1, Fr1⟩ := rulesR (rs := [r]) k3 (by simp) 1 (by simp)
      go_region_held3 (fun w' => But [r] w6 w') (exact buttI) (first | (go_at_call 209; refine (integer_minus _ _ _ lb la (ub.ext (by exact exttI)) (ua.ext (by exact exttI)) db da (by omega) lle (by have := hc.out; omega)).mono ?_; rintro e w7 ⟨vs, s, rfl, us, ds, ys, zs, hEs⟩; have es := Lib.hid ys; clear ys) | (go_at_call 158; refine (integer_signed _ _ _ _ (by exact (us.ext (by exact exttI))) (by exact ds)).mono ?_; rintro e w5 ⟨vr, rfl, hr, hEr⟩; obtain ⟨nr, ar, lr, cr, rfl, ur, dr, nnr, lnr, sr, qr, _⟩ := IsInt.shape hr; have er := Lib.hid qr; clear qr))
      go_wp2
      have hB : But [r] w6 w5 := by exact buttI
      exact bodyPost_ret (v := .agg #[.bool nr, .slice ar lr.length cr]) (by simp [results, Tryz.results152, go_sem, Rr0 _ hB, Rr1 _ hB]) rfl ⟨_, rfl, IsInt.put ((hr.mono (by omega)).cast (by have hc := hc.out; rw [es.out, sgn_add_diff _ (by omega), Bool.not_not, eab.out]; omega)) hB (by simp) rfl, ((hB.set _ _ rfl (by simp)).set _ _ rfl (by simp)).old hE hge⟩
    · have lle := length_le_of_val nnb da (by omega)
      have hc2 : ∃ k : Int, 0 ≤ k ∧ cmpN (val la) (val lb) = k := by simp only [cmpN, hc, if_false]; split <;> exact ⟨_, by omega, rfl⟩
      have hc := Lib.hid hc
      obtain ⟨k, hk, e⟩ := hc2
      rw [e]
      clear e
      have h1 := hE4.blk h1
      have h2 := hE4.blk h2
      have h3 := hE4.blk h3
      replace hE := hE.trans' hE4
      clear hE4
      go_wp2_with (first | fail)
      replace hge : ∀ k, k ∈ [r] → w.heap.size ≤ k := fun k hk => hge k (by simp at hk; simp [hk])
      have Rp0 := rulesB (rs := [r]) h1 (by simpa using hpr) 0 _ rfl
      have Rp1 := rulesB (rs := [r]) h1 (by simpa using hpr) 1 _ rfl
      have Rq0 := rulesB (rs := [r]) h2 (by simpa using hqr) 0 _ rfl
      have Rq1 := rulesB (rs := [r]) h2 (by simpa using hqr) 1 _ rfl
      have hbxr : Box _ r := Box.mk h3 rfl
      obtain ⟨Rr0, Fr0⟩ := rulesR (rs := [r]) h3 (by simp) 0 (by simp)
      obtain ⟨Rr1, Fr1⟩ := rulesR (rs := [r]) h3 (by simp) 1 (by simp)
      go_region_held3 (fun w' => But [r] w4 w') (exact buttI) (first | (go_at_call 209; refine (integer_minus _ _ _ la lb (ua.ext (by exact exttI)) (ub.ext (by exact exttI)) da db (by omega) lle (by have := hc.out; omega)).mono ?_; rintro e w7 ⟨vs, s, rfl, us, ds, ys, zs, hEs⟩; have es := Lib.hid ys; clear ys) | (go_at_call 158; refine (integer_signed _ _ _ _ (by exact (us.ext (by exact exttI))) (by exact ds)).mono ?_; rintro e w5 ⟨vr, rfl, hr, hEr⟩; obtain ⟨nr, ar, lr, cr, rfl, ur, dr, nnr, lnr, sr, qr, _⟩ := IsInt.shape hr; have er := Lib.hid qr; clear qr))
      go_wp2
      have hB : But [r] w4 w5 := by exact buttI
      exact bodyPost_ret (v := .agg #[.bool nr, .slice ar lr.length cr]) (by simp [results, Tryz.results152, go_sem, Rr0 _ hB, Rr1 _ hB]) rfl ⟨_, rfl, IsInt.put ((hr.mono (by omega)).cast (by have hc := hc.out; rw [es.out, sgn_add_diff _ (by omega), eab.out])) hB (by simp) rfl, ((hB.set _ _ rfl (by simp)).set _ _ rfl (by simp)).old hE hge⟩
end Go.Proofs.YtechjiiijiipdaaGreatDoor
namespace Go.Proofs.YtechjiiijiipdaaGreatDoor
open Go.RowKit
set_option linter.unusedSimpArgs false
set_option linter.unusedVariables false

theorem IsInt.flip {n : Nat} {w : World} {nb : Bool} {a : Option Addr} {l : List Nat} {c : Nat} {z : Int} (h : IsInt n w (.agg #[.bool nb, .slice a l.length c]) z) (b : Bool) (hb : b = (!nb && decide (0 < l.length))) (hu : U32s w (.slice a l.length c) l) (hd : Dig l) (hn : Norm l) (hl : l.length ≤ n) (hz : z = sgn nb (val l)) :
    IsInt n w (.agg #[.bool b, .slice a l.length c]) (-z) := by
  refine ⟨b, _, l, rfl, hu, hd, hn, hl, ?_, ?_⟩
  · rintro hbt rfl
    rw [hb] at hbt
    simp at hbt
  · subst hz
    rw [hb, ← sgn_neg]
    cases nb with
    | true => simp
    | false =>
      by_cases hl0 : l = []
      · subst hl0; simp [sgn, val]
      · have : 0 < l.length := List.length_pos_iff.2 hl0
        simp [this]
set_option maxRecDepth 100000 in
theorem integer_Sub (n m : Nat) (w : World) (va vb : Value) (a b : Int) (ha : IsInt n w va a) (hb : IsInt m w vb b) (hn : n < 400000) (hm : m < 400000) :
    Calls Tryz.prog 171 #[va, vb] w fun e w' => ∃ v, e = .returned v ∧ IsInt (max n m + 1) w' v (a - b) ∧ Ext w w' := by
  obtain ⟨na, aa, la, ca, rfl, ua, da, nna, lna, sa, qa, _⟩ := IsInt.shape ha; have ea := Lib.hid qa; clear qa
  obtain ⟨nb, ab, lb, cb, rfl, ub, db, nnb, lnb, sb, qb, _⟩ := IsInt.shape hb; have eb := Lib.hid qb; clear qb
  go_enter Tryz.func171, Tryz.ntmps171
  obtain ⟨s, hs⟩ : ∃ s, s = (!nb && decide (0 < lb.length)) := ⟨_, rfl⟩
  have hbn := hb.flip s hs ub db nnb lnb eb.out
  cases nb
  · by_cases hl : lb = []
    · subst hl
      subst hs
      go_wp2_with (first | fail)
      obtain ⟨w3, p, q, r, e1, e2, e3, e4, h1, h2, h3, hpq, hpr, hqr, hE⟩ := box3 w (.cells #[.bool na, .slice aa la.length ca] 53) (.cells #[.bool false, .slice ab 0 cb] 53) (.cells #[.bool false, .slice none 0 0] 53)
      rw [e1, e2, e3, e4]
      have hge : ∀ k, k ∈ [r] → w.heap.size ≤ k := by simp; omega
      clear e1 e2 e3 e4
      have hbxr : Box _ r := Box.mk h3 rfl
      obtain ⟨Rr0, Fr0⟩ := rulesR (rs := [r]) h3 (by simp) 0 (by simp)
      obtain ⟨Rr1, Fr1⟩ := rulesR (rs := [r]) h3 (by simp) 1 (by simp)
      (go_at_call 152; refine (integer_Add _ _ _ _ _ _ _ (ha.ext hE) (hbn.ext hE) (by omega) (by omega)).mono ?_; rintro e w5 ⟨vr, rfl, hr, hEr⟩; obtain ⟨nr, ar, lr, cr, rfl, ur, dr, nnr, lnr, sr, qr, _⟩ := IsInt.shape hr; have er := Lib.hid qr; clear qr)
      have hB : But [r] w3 w5 := by exact buttI
      have hBr0 := Rr0 _ hB
      have hBr1 := Rr1 _ hB
      have hFr0 := Fr0 _ hB
      have hFr1 := Fr1 _ hB
      go_wp2
      exact bodyPost_ret (v := .agg #[.bool nr, .slice ar lr.length cr]) (by simp [results, Tryz.results171, go_sem, hBr0, hBr1]) rfl ⟨_, rfl, IsInt.put (hr.cast (by rw [Int.sub_eq_add_neg])) hB (by simp) rfl, ((hB.set _ _ rfl (by simp)).set _ _ rfl (by simp)).old hE hge⟩
    · have h0 : 0 < (lb.length : Int) := by have := List.length_pos_iff.2 hl; omega
      obtain rfl : s = decide (0 < lb.length) := hs
      go_wp2_with (first | fail)
      obtain ⟨w3, p, q, r, e1, e2, e3, e4, h1, h2, h3, hpq, hpr, hqr, hE⟩ := box3 w (.cells #[.bool na, .slice aa la.length ca] 53) (.cells #[.bool (decide (0 < lb.length)), .slice ab lb.length cb] 53) (.cells #[.bool false, .slice none 0 0] 53)
      rw [e1, e2, e3, e4]
      have hge : ∀ k, k ∈ [r] → w.heap.size ≤ k := by simp; omega
      clear e1 e2 e3 e4
      have hbxr : Box _ r := Box.mk h3 rfl
      obtain ⟨Rr0, Fr0⟩ := rulesR (rs := [r]) h3 (by simp) 0 (by simp)
      obtain ⟨Rr1, Fr1⟩ := rulesR (rs := [r]) h3 (by simp) 1 (by simp)
      (go_at_call 152; refine (integer_Add _ _ _ _ _ _ _ (ha.ext hE) (hbn.ext hE) (by omega) (by omega)).mono ?_; rintro e w5 ⟨vr, rfl, hr, hEr⟩; obtain ⟨nr, ar, lr, cr, rfl, ur, dr, nnr, lnr, sr, qr, _⟩ := IsInt.shape hr; have er := Lib.hid qr; clear qr)
      have hB : But [r] w3 w5 := by exact buttI
      have hBr0 := Rr0 _ hB
      have hBr1 := Rr1 _ hB
      have hFr0 := Fr0 _ hB
      have hFr1 := Fr1 _ hB
      go_wp2
      exact bodyPost_ret (v := .agg #[.bool nr, .slice ar lr.length cr]) (by simp [results, Tryz.results171, go_sem, hBr0, hBr1]) rfl ⟨_, rfl, IsInt.put (hr.cast (by rw [Int.sub_eq_add_neg])) hB (by simp) rfl, ((hB.set _ _ rfl (by simp)).set _ _ rfl (by simp)).old hE hge⟩
  · obtain rfl : s = false := hs
    go_wp2_with (first | fail)
    obtain ⟨w3, p, q, r, e1, e2, e3, e4, h1, h2, h3, hpq, hpr, hqr, hE⟩ := box3 w (.cells #[.bool na, .slice aa la.length ca] 53) (.cells #[.bool false, .slice ab lb.length cb] 53) (.cells #[.bool false, .slice none 0 0] 53)
    rw [e1, e2, e3, e4]
    have hge : ∀ k, k ∈ [r] → w.heap.size ≤ k := by simp; omega
    clear e1 e2 e3 e4
    have hbxr : Box _ r := Box.mk h3 rfl
    obtain ⟨Rr0, Fr0⟩ := rulesR (rs := [r]) h3 (by simp) 0 (by simp)
    obtain ⟨Rr1, Fr1⟩ := rulesR (rs := [r]) h3 (by simp) 1 (by simp)
    (go_at_call 152; refine (integer_Add _ _ _ _ _ _ _ (ha.ext hE) (hbn.ext hE) (by omega) (by omega)).mono ?_; rintro e w5 ⟨vr, rfl, hr, hEr⟩; obtain ⟨nr, ar, lr, cr, rfl, ur, dr, nnr, lnr, sr, qr, _⟩ := IsInt.shape hr; have er := Lib.hid qr; clear qr)
    have hB : But [r] w3 w5 := by exact buttI
    have hBr0 := Rr0 _ hB
    have hBr1 := Rr1 _ hB
    have hFr0 := Fr0 _ hB
    have hFr1 := Fr1 _ hB
    go_wp2
    exact bodyPost_ret (v := .agg #[.bool nr, .slice ar lr.length cr]) (by simp [results, Tryz.results171, go_sem, hBr0, hBr1]) rfl ⟨_, rfl, IsInt.put (hr.cast (by rw [Int.sub_eq_add_neg])) hB (by simp) rfl, ((hB.set _ _ rfl (by simp)).set _ _ rfl (by simp)).old hE hge⟩
end Go.Proofs.YtechjiiijiipdaaGreatDoor
namespace Go.Proofs.YtechjiiijiipdaaGreatDoor
open Go.RowKit
set_option linter.unusedSimpArgs false
set_option linter.unusedVariables false

theorem IsInt.of_le {n m : Nat} {w w' : World} {v u : Value} {z y : Int} (h : IsInt n w v z) (k : IsInt m w' u y) (hz : z.natAbs ≤ y.natAbs) : IsInt m w v z := by
  obtain ⟨nz, az, lz, cz, rfl, uz, dz, nnz, lnz, sz, ez, _⟩ := h.shape
  obtain ⟨ny, ay, ly, cy, rfl, uy, dy, nny, lny, sy, ey, _⟩ := k.shape
  subst ez ey
  rw [sgn_natAbs, sgn_natAbs] at hz
  have := length_le_of_val nnz dy hz
  exact ⟨nz, _, lz, rfl, uz, dz, nnz, by omega, sz, rfl⟩

set_option maxRecDepth 100000 in
theorem integer_word (n : Nat) (w : World) (va : Value) (a : Int) (ha : IsInt n w va a) :
    Calls Tryz.prog 234 #[va] w fun e w' => (∃ u : Nat, u < 1000000000000000000 ∧ u = a.natAbs ∧ e = .returned (.tuple #[.int .u64 (u : Int), .bool true]) ∨ e = .returned (.tuple #[.int .u64 0, .bool false])) ∧ Ext w w' := by
  obtain ⟨na, aa, la, ca, rfl, ua, da, nna, lna, sa, rfl, _⟩ := ha.shape
  clear ha
  rw [sgn_natAbs]
  go_enter Tryz.func234, Tryz.ntmps234
  by_cases h0 : la.length = 0
  · obtain rfl := List.length_eq_zero_iff.1 h0
    go_wp2
    go_ret2
    exact ⟨⟨0, .inl ⟨by omega, rfl, rfl⟩⟩, by exact exttI⟩
  by_cases h1 : la.length = 1
  · obtain ⟨x, rfl⟩ := List.length_eq_one_iff.1 h1
    obtain ⟨b, o, rfl, hlt, hc⟩ := ua.cell (k := 0) (by simp)
    have dx : x < 1000000000 := by have := da.getD 0; simpa using this
    have hc' := (((Ext.rfl' w).alloc' (.cells #[.bool na, .slice (some ⟨b, o, none⟩) 1 ca] 53)).cell (p := ⟨b, o + 0, none⟩) hlt).trans hc
    simp at hc'
    go_wp2
    go_ret2
    refine ⟨⟨x, .inl ⟨by omega, by simp [val], ?_⟩⟩, by exact exttI⟩
    rfl
  by_cases h2 : la.length = 2
  · obtain ⟨x, y, rfl⟩ : ∃ x y, la = [x, y] := by
      match la, h2 with
      | [x, y], _ => exact ⟨x, y, rfl⟩
    obtain ⟨b, o, e1, hlt, hc⟩ := ua.cell (k := 0) (by simp)
    obtain ⟨b', o', rfl, hlt', hd⟩ := ua.cell (k := 1) (by simp)
    cases e1
    have dx : x < 1000000000 := by have := da.getD 0; simpa using this
    have dy : y < 1000000000 := by have := da.getD 1; simpa using this
    have hc' := (((Ext.rfl' w).alloc' (.cells #[.bool na, .slice (some ⟨b, o, none⟩) 2 ca] 53)).cell (p := ⟨b, o + 0, none⟩) hlt).trans hc
    have hd' := (((Ext.rfl' w).alloc' (.cells #[.bool na, .slice (some ⟨b, o, none⟩) 2 ca] 53)).cell (p := ⟨b, o + 1, none⟩) hlt).trans hd
    simp at hc' hd'
    have e1 : IntKind.u64.wrap ((y : Int) * 1000000000) = ((y * 1000000000 : Nat) : Int) := by
      exact (IntWalk.u64_in _ (by omega)).trans (by omega)
    have e2 : IntKind.u64.wrap (((y * 1000000000 : Nat) : Int) + (x : Int)) = ((y * 1000000000 + x : Nat) : Int) := by
      exact (IntWalk.u64_in _ (by omega)).trans (by omega)
    have hlen : ¬ (1 : Int) < 1 := by omega
    go_wp2
    go_quiet (fail)
    go_wp2
    go_ret2
    refine ⟨⟨y * 1000000000 + x, .inl ⟨by omega, by simp [val]; omega, rfl⟩⟩, ?_⟩
    exact exttI
  have i0 : ¬ ((la.length : Int) = 0) := by omega
  have i1 : ¬ ((la.length : Int) = 1) := by omega
  have i2 : ¬ ((la.length : Int) = 2) := by omega
  go_wp2
  go_ret2
  exact ⟨⟨0, .inr rfl⟩, by exact exttI⟩
end Go.Proofs.YtechjiiijiipdaaGreatDoor

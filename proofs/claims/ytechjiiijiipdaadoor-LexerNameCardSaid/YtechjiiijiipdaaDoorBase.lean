/- Words for the walks of this seat: what a slice of limbs and an integer of package api read as; how reading lasts while memory only grows. -/
import Derived.Test.YtechjiiijiipdaaDoorProg
import Derived.WalkKit
import Derived.WalkSpells
import Derived.WalkLawsBesides
import Derived.Deep.RegionHeld3
import Derived.Deep.QuietTactic
import Derived.BigQuiet
import Derived.Lib.Hide
import Derived.Deep.DeepCutAuto
import Derived.Deep.CutBlock
import Derived.Deep.LoopGhost
import Derived.Laws.Rows
import Derived.Laws.AppendOwnNone
import Derived.KernelRfl
namespace Go.Proofs.YtechjiiijiipdaaDoor
open Go.RowKit
set_option linter.unusedSimpArgs false
set_option linter.unusedVariables false

/-- Memory has only grown. -/
abbrev Ext (w w' : World) : Prop := Below w.heap.size w w'
theorem Ext.rfl' (w : World) : Ext w w := Below.refl _ _
theorem Ext.trans' {a b c : World} (h : Ext a b) (k : Ext b c) : Ext a c := h.trans (k.mono h.size)
theorem Ext.drew' {a b : World} (h : Ext a b) : Ext a b.drew := h.drew
theorem Ext.drewN' {a b : World} (h : Ext a b) (n : Nat) : Ext a (b.drewN n) := ⟨h.os, h.tape, h.output, h.size, h.block⟩
theorem Ext.alloc' {a b : World} (h : Ext a b) (o : Obj) : Ext a (b.alloc o) := h.alloc h.size o

/-- The same memory; only draws. -/
def Drawn (w w' : World) : Prop := ∃ n, w' = w.drewN n
theorem Drawn.rfl' (w : World) : Drawn w w := ⟨0, rfl⟩
theorem Drawn.n {a b : World} (h : Drawn a b) (n : Nat) : Drawn a (b.drewN n) := by obtain ⟨m, rfl⟩ := h; exact ⟨_, World.drewN_drewN _ _ _⟩
theorem Drawn.one {a b : World} (h : Drawn a b) : Drawn a b.drew := h.n 1
theorem Drawn.trans' {a b c : World} (h : Drawn a b) (k : Drawn b c) : Drawn a c := by obtain ⟨m, rfl⟩ := k; exact h.n m
theorem Drawn.ext {a b : World} (h : Drawn a b) : Ext a b := by obtain ⟨m, rfl⟩ := h; exact (Ext.rfl' a).drewN' m

/-- The number that limbs show. -/
def val : List Nat → Nat
  | [] => 0
  | d :: l => d + 1000000000 * val l

/-- v is a slice of uint32 that reads as l. -/
def U32s (w : World) (v : Value) (l : List Nat) : Prop :=
  ∃ a c, v = .slice a l.length c ∧ l.length ≤ c ∧ (∀ n ∈ l, n < 4294967296) ∧ l.length ≤ 4000000 ∧ (a = none → c = 0) ∧
    (l = [] ∨ ∃ b o, a = some ⟨b, o, none⟩ ∧ b < w.heap.size ∧ ∀ i, i < l.length → w.cell? ⟨b, o + i, none⟩ = some (.int .u32 (l.getD i 0 : Nat)))

theorem U32s.ext {w w' : World} {v : Value} {l : List Nat} (h : U32s w v l) (e : Ext w w') : U32s w' v l := by
  obtain ⟨a, c, hv, hc, hb, hn, hz, h⟩ := h
  refine ⟨a, c, hv, hc, hb, hn, hz, ?_⟩
  rcases h with h | ⟨b, o, ha, hlt, h⟩
  · exact .inl h
  · exact .inr ⟨b, o, ha, Nat.lt_of_lt_of_le hlt e.size, fun i hi => (e.cell (p := ⟨b, o + i, none⟩) hlt).trans (h i hi)⟩

/-- Limbs without those that are 0 at the end. -/
def trimL : List Nat → List Nat
  | [] => []
  | d :: l => match trimL l with
    | [] => if d = 0 then [] else [d]
    | x :: t => d :: x :: t

theorem trimL_cons (d : Nat) (l : List Nat) : trimL (d :: l) = if trimL l = [] then (if d = 0 then [] else [d]) else d :: trimL l := by
  simp only [trimL]
  split <;> simp_all

theorem trimL_snoc_zero : ∀ l : List Nat, trimL (l ++ [0]) = trimL l
  | [] => rfl
  | d :: l => by simp only [List.cons_append, trimL_cons, trimL_snoc_zero l]

theorem trimL_snoc {d : Nat} (hd : d ≠ 0) : ∀ l : List Nat, trimL (l ++ [d]) = l ++ [d]
  | [] => by simp [trimL, hd]
  | x :: l => by simp only [List.cons_append, trimL_cons, trimL_snoc hd l]; simp

theorem trimL_length_le : ∀ l : List Nat, (trimL l).length ≤ l.length
  | [] => Nat.le_refl _
  | d :: l => by
    have := trimL_length_le l
    rw [trimL_cons]; split
    · split <;> simp
    · simp; exact this

theorem val_trimL : ∀ l : List Nat, val (trimL l) = val l
  | [] => rfl
  | d :: l => by
    have := val_trimL l
    rw [trimL_cons]
    split
    · rename_i h; rw [h] at this; split
      · simp [val, ← this, *]
      · simp [val, ← this]
    · simp [val, this]

theorem mem_trimL {n : Nat} : ∀ {l : List Nat}, n ∈ trimL l → n ∈ l
  | [], h => h
  | d :: l, h => by
    have := @mem_trimL n l
    rw [trimL_cons] at h
    split at h
    · split at h
      · cases h
      · simp at h; simp [h]
    · simp at h ⊢; rcases h with h | h
      · exact .inl h
      · exact .inr (this h)

theorem take_succ_getD {l : List Nat} {k : Nat} (h : k < l.length) : l.take (k + 1) = l.take k ++ [l.getD k 0] := by
  rw [List.take_succ_eq_append_getElem h]; simp [h]


theorem U32s.nil (w : World) (a : Option Addr) (c : Nat) (h : a = none → c = 0) : U32s w (.slice a 0 c) [] := ⟨a, c, rfl, Nat.zero_le _, by simp, by simp, h, .inl rfl⟩

theorem U32s.take {w : World} {b o c : Nat} {l : List Nat} (k : Nat) (hk : k ≤ l.length) (hc : l.length ≤ c) (hb : ∀ n ∈ l, n < 4294967296) (hn : l.length ≤ 4000000) (hlt : b < w.heap.size)
    (h : ∀ i, i < l.length → w.cell? ⟨b, o + i, none⟩ = some (.int .u32 (l.getD i 0 : Nat))) : U32s w (.slice (some ⟨b, o, none⟩) k c) (l.take k) := by
  have hl : (l.take k).length = k := by rw [List.length_take]; omega
  refine ⟨some ⟨b, o, none⟩, c, by rw [hl], by omega, fun n hn => hb n (List.mem_of_mem_take hn), by omega, by simp, .inr ⟨b, o, rfl, hlt, fun i hi => ?_⟩⟩
  rw [hl] at hi
  rw [h i (by omega)]
  simp [List.getD_eq_getElem?_getD, hi]

theorem trim_stop {l : List Nat} {k : Nat} (hk0 : 0 < k) (hk : k ≤ l.length) (hz : l.getD (k - 1) 0 ≠ 0) : trimL (l.take k) = l.take k := by
  obtain ⟨j, rfl⟩ : ∃ j, k = j + 1 := ⟨k - 1, by omega⟩
  rw [take_succ_getD (by omega)]; exact trimL_snoc (by simpa using hz) _

theorem trim_go {l : List Nat} {k : Nat} (hk0 : 0 < k) (hk : k ≤ l.length) (hz : l.getD (k - 1) 0 = 0) : trimL (l.take k) = trimL (l.take (k - 1)) := by
  obtain ⟨j, rfl⟩ : ∃ j, k = j + 1 := ⟨k - 1, by omega⟩
  simp only [Nat.add_sub_cancel] at hz ⊢
  rw [take_succ_getD (by omega), hz]; exact trimL_snoc_zero _


theorem U32s.cell {w : World} {a : Option Addr} {n c k : Nat} {l : List Nat} (h : U32s w (.slice a n c) l) (hk : k < l.length) : ∃ b o, a = some ⟨b, o, none⟩ ∧ b < w.heap.size ∧ w.cell? ⟨b, o + k, none⟩ = some (.int .u32 (l.getD k 0 : Nat)) := by
  obtain ⟨a', c', hv, hc, hb, hn, _, h⟩ := h
  injection hv with h1 h2 h3; subst h1
  rcases h with rfl | ⟨b, o, rfl, hlt, h⟩
  · simp at hk
  · exact ⟨b, o, rfl, hlt, h k hk⟩
theorem U32s.shape {w : World} {v : Value} {l : List Nat} (h : U32s w v l) : ∃ a c, v = .slice a l.length c ∧ l.length ≤ c ∧ l.length ≤ 4000000 := by
  obtain ⟨a, c, hv, hc, hb, hn, _, h⟩ := h
  exact ⟨a, c, hv, hc, hn⟩

/-- The values of limbs. -/
def u32s (l : List Nat) : List Value := l.map fun n : Nat => Value.int .u32 (n : Int)
theorem u32s_length (l : List Nat) : (u32s l).length = l.length := by simp [u32s]
theorem u32s_append (l m : List Nat) : u32s (l ++ m) = u32s l ++ u32s m := by simp [u32s]
theorem u32s_set (l : List Nat) (k d : Nat) : u32s (l.set k d) = (u32s l).set k (Value.int .u32 (d : Int)) := by simp [u32s, List.map_set]
theorem u32s_zeros (k : Nat) : u32s (List.replicate k 0) = List.replicate k (Value.int .u32 0) := by simp [u32s]
theorem u32s_get (l : List Nat) (k : Nat) (h : k < l.length) : (u32s l)[k]? = some (Value.int .u32 (l.getD k 0 : Nat)) := by simp [u32s, h]

/-- v is a slice of the call's own that holds l. -/
def Own (base : Nat) (w : World) (v : Value) (l : List Nat) : Prop := w.ownsRow base 86 1 v l.length (u32s l)
theorem Own.u32 {base : Nat} {w : World} {v : Value} {l : List Nat} (h : Own base w v l) (hb : ∀ n ∈ l, n < 4294967296) (hn : l.length ≤ 4000000) : U32s w v l := by
  obtain ⟨h1, h2⟩ := h
  rcases h2 with ⟨rfl, h0⟩ | ⟨g, cap, cur, rfl, hg, hh, hc, hm, hs, ht⟩
  · have : l = [] := List.eq_nil_of_length_eq_zero h0
    subst this
    exact U32s.nil _ _ _ (fun _ => rfl)
  · refine ⟨some ⟨g, 0, none⟩, cap, rfl, hc, hb, hn, by simp, .inr ⟨g, 0, rfl, (Array.getElem?_eq_some_iff.1 hh).1, fun i hi => ?_⟩⟩
    have := World.ownsRow.cells (w := w) (base := base) (e := 86) (size := 1) (v := .slice (some ⟨g, 0, none⟩) l.length cap) (n := l.length) (xs := u32s l) ⟨h1, .inr ⟨g, cap, cur, rfl, hg, hh, hc, hm, hs, ht⟩⟩ (g := g) rfl i _ (u32s_get l i hi)
    have e : (⟨g, 0, none⟩ : Addr).add i = ⟨g, 0 + i, none⟩ := by unfold Addr.add; split <;> simp_all
    rw [← e]; exact this

theorem Tryd.info86 : (Tryd.prog.info? 86).map (fun i => (i.zero, i.size, i.bytes)) = some (some (.int .u32 0), 1, 4) := by kernel_rfl


theorem Own.block {base : Nat} {w : World} {v : Value} {l : List Nat} (h : Own base w v l) : ∀ k, v.ownBlock = some k → base ≤ k := fun k hk => (World.ownsRow.lt h k hk).1
theorem Ext.grown' {w wr w' : World} {row : Option Nat} (h : Ext w wr) (hg : wr.grownBy w' row) (hr : ∀ k, row = some k → w.heap.size ≤ k) : Ext w w' := h.grown hg h.size hr
theorem Own.nil (base : Nat) (w : World) : Own base w (.slice none 0 0) [] := World.ownsRow_nil _ _ _ _
theorem Own.alloc {base : Nat} {w : World} {v : Value} {l : List Nat} (h : Own base w v l) (o : Obj) : Own base (w.alloc o) v l := World.ownsRow.alloc h o
theorem Own.kept {base : Nat} {w w' : World} {v : Value} {l : List Nat} {row : Option Nat} (h : Own base w v l) (hg : w.grownBy w' row) (hne : v.ownBlock = none ∨ v.ownBlock ≠ row) : Own base w' v l := World.ownsRow.kept h hg hne

/-- 'append(out, x)' of one limb. -/
theorem wpList_app1 {wr : World} {ops : Array Oper} {rest : List Oper} {o : Oper} {a : Act} {Q : Exit → Act → World → Prop} (hgd : o.guard = none) (s x : Operand)
    (ho : o.op = .call { callee := .builtin .append, args := #[s, x], argTypes := #[34, 34] }) {base : Nat} {v : Value} {l : List Nat} {d : Nat} {d' : Int} {c : Nat}
    (hs : a.eval s = v) (hx : a.eval x = .slice (some ⟨wr.heap.size, 0, none⟩) 1 c) (hown : Own base wr v l) (hd : d' = (d : Int)) (hn : l.length < 4000000) (hb : base ≤ wr.heap.size)
    (h : ∀ v' w', Own base w' v' (l ++ [d]) → (wr.alloc (.cells #[.int .u32 d'] 86)).grownBy w' v.ownBlock → wpList Tryd.prog ops Q rest (a.put o.dst v') w') :
    wpList Tryd.prog ops Q (o :: rest) a (wr.alloc (.cells #[.int .u32 d'] 86)) := by
  subst hd
  obtain ⟨i0, hi, hz0, hz1, hz2⟩ := info_parts Tryd.info86
  refine wpList_append_own _ hgd s x 34 ho base 86 i0 (.int .u32 0) 1 4 Tryd.underlying34 hi hz0 hz1 hz2 rfl (by decide) v l.length (u32s l) hs (hown.alloc _) ⟨wr.heap.size, 0, none⟩ 1 c [.int .u32 (d : Int)] hx rfl ?_ ?_ ?_ ?_ ?_ ?_
  · intro j u hj
    match j, hj with
    | 0, hj => simp at hj; subst hj; simp [Addr.add]
  · intro u hu; simp at hu; subst hu; rfl
  · unfold maxLen; omega
  · omega
  · simp; omega
  · intro v' w' h1 h2 _
    refine h v' w' ?_ h2
    unfold Own
    rw [u32s_append, List.length_append]
    exact h1

/-- 'make([]uint32, n)'. -/
theorem wpList_make32 {w : World} {ops : Array Oper} {rest : List Oper} {o : Oper} {a : Act} {Q : Exit → Act → World → Prop} (hgd : o.guard = none) (l c : Operand)
    (ho : o.op = .makeSlice 34 l c) {L C : Int} {n : Nat} (hl : a.eval l = .int .i64 L) (hc : a.eval c = .int .i64 C) (hL : L = (n : Int)) (hC : C = (n : Int)) (hn : n ≤ 4000000)
    (h : ∀ w', Own w.heap.size w' (.slice (some ⟨w.heap.size, 0, none⟩) n n) (List.replicate n 0) → Ext w w' → wpList Tryd.prog ops Q rest (a.put o.dst (.slice (some ⟨w.heap.size, 0, none⟩) n n)) w') :
    wpList Tryd.prog ops Q (o :: rest) a w := by
  obtain ⟨i0, hi, hz0, hz1, hz2⟩ := info_parts Tryd.info86
  refine wpList_make_full _ hgd l c 34 ho w.heap.size 86 i0 (.int .u32 0) 1 Tryd.underlying34 hi hz0 hz1 .i64 .i64 L C n hl hc hL hC (by rw [hz2]; omega) (by unfold maxLen; omega) (Nat.le_refl _) ?_
  intro w' h1 h2
  refine h w' ?_ ((Ext.rfl' w).grown' h2 (by simp))
  unfold Own
  rw [u32s_zeros, List.length_replicate]
  rw [show (madeCells (Value.int .u32 0).cells (n * 1)).toList = List.replicate n (Value.int .u32 0) from by rw [Nat.mul_one]; exact toList_madeCells_one _ _] at h1
  exact h1

/-- 'make([]uint32, 0, n)'. -/
theorem wpList_make0 {w : World} {ops : Array Oper} {rest : List Oper} {o : Oper} {a : Act} {Q : Exit → Act → World → Prop} (hgd : o.guard = none) (l c : Operand)
    (ho : o.op = .makeSlice 34 l c) {C : Int} {n : Nat} (hl : a.eval l = .int .i64 0) (hc : a.eval c = .int .i64 C) (hC : C = (n : Int)) (hn : n ≤ 4000000)
    (h : ∀ w', Own w.heap.size w' (.slice (some ⟨w.heap.size, 0, none⟩) 0 n) [] → Ext w w' → wpList Tryd.prog ops Q rest (a.put o.dst (.slice (some ⟨w.heap.size, 0, none⟩) 0 n)) w') :
    wpList Tryd.prog ops Q (o :: rest) a w := by
  obtain ⟨i0, hi, hz0, hz1, hz2⟩ := info_parts Tryd.info86
  refine wpList_make_own _ hgd l c 34 ho w.heap.size 86 i0 (.int .u32 0) 1 Tryd.underlying34 hi hz0 hz1 .i64 .i64 C n hl hc hC (by rw [hz2]; omega) (by unfold maxLen; omega) (Nat.le_refl _) ?_
  intro w' h1 h2
  exact h w' h1 ((Ext.rfl' w).grown' h2 (by simp))


theorem Own.at {base : Nat} {w : World} {g n c k : Nat} {l : List Nat} (h : Own base w (.slice (some ⟨g, 0, none⟩) n c) l) (hn : l.length = n) (hk : k < n) :
    w.cell? ⟨g, k, none⟩ = some (.int .u32 (l.getD k 0 : Nat)) ∧ w.frozen? ⟨g, k, none⟩ = false := by
  subst hn
  exact ⟨(World.ownsRow.cellAt h k (by omega)).trans (u32s_get l k hk), World.ownsRow.frozenAt h k⟩
theorem Own.stored {base : Nat} {w : World} {g n c : Nat} {l : List Nat} (h : Own base w (.slice (some ⟨g, 0, none⟩) n c) l) (hn : l.length = n) (k : Nat) {d : Nat} {d' : Int} (hd : d' = (d : Int)) :
    Own base (w.setCell ⟨g, k, none⟩ (.int .u32 d')) (.slice (some ⟨g, 0, none⟩) n c) (l.set k d) := by
  subst hn hd
  have := World.ownsRow.stored h k (.int .u32 (d : Int))
  unfold Own
  rw [u32s_set, List.length_set]
  exact this.1
theorem Ext.set' {w wr : World} (h : Ext w wr) {p : Addr} (hp : w.heap.size ≤ p.block) (u : Value) : Ext w (wr.setCell p u) := h.setCell hp u


theorem Own.drew {base : Nat} {w : World} {v : Value} {l : List Nat} (h : Own base w v l) : Own base w.drew v l := h
theorem Own.drewN {base : Nat} {w : World} {v : Value} {l : List Nat} (h : Own base w v l) (n : Nat) : Own base (w.drewN n) v l := h
/-- A slice literal of one limb. -/
theorem U32s.lit1 (w : World) (d : Nat) (hd : d < 4294967296) : U32s (w.alloc (.cells #[.int .u32 (d : Int)] 86)) (.slice (some ⟨w.heap.size, 0, none⟩) 1 1) [d] := by
  refine ⟨_, 1, rfl, by simp, by simpa using hd, by simp, by simp, .inr ⟨_, 0, rfl, by simp, fun i hi => ?_⟩⟩
  match i, hi with
  | 0, _ => simp
  | i + 1, hi => simp at hi


theorem oneCell_int (k : IntKind) (n : Int) : (Value.int k n).oneCell' = true := rfl
/-- 'append([]uint32(nil), x...)'. -/
theorem wpList_copy32 {w : World} {ops : Array Oper} {rest : List Oper} {o : Oper} {a : Act} {Q : Exit → Act → World → Prop} (hgd : o.guard = none) (s x : Operand)
    (ho : o.op = .call { callee := .builtin .append, args := #[s, x], argTypes := #[34, 34] }) {v : Value} {l : List Nat}
    (hs : a.eval s = .slice none 0 0) (hx : a.eval x = v) (hl : U32s w v l)
    (h : ∀ v' w', Own w.heap.size w' v' l → Ext w w' → wpList Tryd.prog ops Q rest (a.put o.dst v') w') : wpList Tryd.prog ops Q (o :: rest) a w := by
  obtain ⟨i0, hi, hz0, hz1, hz2⟩ := info_parts Tryd.info86
  obtain ⟨ad, c, rfl, hc, hb, hn, hz, hcell⟩ := hl
  cases ad with
  | none =>
    rcases hcell with rfl | ⟨b, o', h1, _⟩
    · obtain rfl := hz rfl
      exact wpList_append_own_none hgd s x 34 ho w.heap.size 86 i0 1 Tryd.underlying34 hi _ 0 [] hs (World.ownsRow_nil _ _ _ _) hx (h _ _ (Own.nil _ _) (Ext.rfl' _))
    · cases h1
  | some ad =>
    refine wpList_append_own _ hgd s x 34 ho w.heap.size 86 i0 (.int .u32 0) 1 4 Tryd.underlying34 hi hz0 hz1 hz2 rfl (by decide) _ 0 [] hs (World.ownsRow_nil _ _ _ _) ad l.length c (u32s l) hx (by rw [u32s_length]; omega) ?_ ?_ (by unfold maxLen; omega) (by omega) (Nat.le_refl _) ?_
    · intro j u hj
      have hj' : j < l.length := by
        have := (List.getElem?_eq_some_iff.1 hj).1
        rwa [u32s_length] at this
      rcases hcell with rfl | ⟨b, o', h1, _, hcell⟩
      · simp at hj'
      · obtain rfl := Option.some.inj h1
        rw [u32s_get l j hj'] at hj
        obtain rfl := Option.some.inj hj
        have e : (⟨b, o', none⟩ : Addr).add j = ⟨b, o' + j, none⟩ := by unfold Addr.add; split <;> simp_all
        rw [e]; exact hcell j hj'
    · intro u hu
      simp [u32s] at hu
      obtain ⟨n, _, rfl⟩ := hu
      exact oneCell_int _ _
    · intro v' w' h1 h2 _
      refine h v' w' ?_ ((Ext.rfl' w).grown' h2 (by simp [Value.ownBlock]))
      unfold Own
      rw [Nat.zero_add, List.nil_append] at h1
      exact h1


theorem Own.shape {base : Nat} {w : World} {v : Value} {l : List Nat} (h : Own base w v l) (hl : 0 < l.length) : ∃ g c, v = .slice (some ⟨g, 0, none⟩) l.length c ∧ base ≤ g ∧ g < w.heap.size := by
  obtain ⟨h1, h2⟩ := h
  rcases h2 with ⟨rfl, h0⟩ | ⟨g, cap, cur, rfl, hg, hh, hc, hm, hs, ht⟩
  · omega
  · exact ⟨g, cap, rfl, hg, (Array.getElem?_eq_some_iff.1 hh).1⟩
theorem Own.ext {base g n c : Nat} {w w' : World} {l : List Nat} (h : Own base w (.slice (some ⟨g, 0, none⟩) n c) l) (e : Ext w w') : Own base w' (.slice (some ⟨g, 0, none⟩) n c) l := by
  refine Own.kept (row := none) h ⟨e.os, e.tape, e.output, e.size, fun k hk _ => e.block k hk⟩ (.inr (by simp [Value.ownBlock]))
theorem Own.lower {base base' : Nat} {w : World} {v : Value} {l : List Nat} (h : Own base w v l) (hb : base' ≤ base) : Own base' w v l := by
  obtain ⟨h1, h2⟩ := h
  rcases h2 with h2 | ⟨g, cap, cur, rfl, hg, rest⟩
  · exact ⟨h1, .inl h2⟩
  · exact ⟨h1, .inr ⟨g, cap, cur, rfl, Nat.le_trans hb hg, rest⟩⟩

theorem Own.lt {base g n c : Nat} {w : World} {l : List Nat} (h : Own base w (.slice (some ⟨g, 0, none⟩) n c) l) : g < w.heap.size := (World.ownsRow.lt h g rfl).2

theorem Own.cap {base g n c : Nat} {w : World} {l : List Nat} (h : Own base w (.slice (some ⟨g, 0, none⟩) n c) l) : n ≤ c := by
  obtain ⟨h1, h2⟩ := h
  rcases h2 with ⟨h2, h0⟩ | ⟨g, cap, cur, he, hg, hh, hc, hm, hs, ht⟩
  · cases h2
  · cases he; exact hc

theorem Own.set_far {base g n c : Nat} {w : World} {l : List Nat} (h : Own base w (.slice (some ⟨g, 0, none⟩) n c) l) {p : Addr} (hp : g ≠ p.block) (u : Value) : Own base (w.setCell p u) (.slice (some ⟨g, 0, none⟩) n c) l := by
  refine Own.kept (row := some p.block) h ⟨rfl, rfl, rfl, by simp [World.setCell], fun k _ hne => Below.heap_setCell _ _ _ _ (by intro e; exact hne (by rw [e]))⟩ (.inr (by simp only [Value.ownBlock]; intro e; exact hp (Option.some.inj e)))
theorem U32s.set_far {w : World} {g o n c : Nat} {l : List Nat} (h : U32s w (.slice (some ⟨g, o, none⟩) n c) l) {p : Addr} (hp : g ≠ p.block) (u : Value) : U32s (w.setCell p u) (.slice (some ⟨g, o, none⟩) n c) l := by
  obtain ⟨a, c', hv, hc, hb, hn, hz, h⟩ := h
  refine ⟨a, c', hv, hc, hb, hn, hz, ?_⟩
  injection hv with h1 _ _
  subst h1
  rcases h with h | ⟨b, o', ha, hlt, h⟩
  · exact .inl h
  · refine .inr ⟨b, o', ha, by simpa [World.setCell] using hlt, fun i hi => ?_⟩
    have hb' : b ≠ p.block := by cases ha; exact hp
    rw [World.cell?_of_block (w := w) (Below.heap_setCell w p u b hb')]
    exact h i hi

theorem Own.cutTo {base g n c : Nat} {w : World} {l : List Nat} (h : Own base w (.slice (some ⟨g, 0, none⟩) n c) l) (hl : l.length = n) (hb : ∀ n ∈ l, n < 4294967296) (hn : n ≤ 4000000) {k : Nat} (hk : k ≤ n) : U32s w (.slice (some ⟨g, 0, none⟩) k c) (l.take k) := by
  refine U32s.take k (by omega) (by have := h.cap; omega) hb (by omega) h.lt (fun i hi => ?_)
  rw [Nat.zero_add]
  exact (h.at hl (by omega)).1

theorem U32s.sub {w : World} {b o : Nat} {l : List Nat} (k : Nat) (hk : k ≤ l.length) (hb : ∀ n ∈ l, n < 4294967296) (hn : l.length ≤ 4000000) (hlt : b < w.heap.size)
    (h : ∀ i, i < l.length → w.cell? ⟨b, o + i, none⟩ = some (.int .u32 (l.getD i 0 : Nat))) : U32s w (.slice (some ⟨b, o, none⟩) k k) (l.take k) := by
  obtain ⟨a', c', hv, h1, h2, h3, h4, h5⟩ := U32s.take k hk (Nat.le_refl _) hb hn hlt h
  injection hv with e1 e2 e3
  exact ⟨some ⟨b, o, none⟩, k, congrArg (fun n => Value.slice (some ⟨b, o, none⟩) n k) e2, by omega, h2, h3, by simp, by rw [e1]; exact h5⟩

end Go.Proofs.YtechjiiijiipdaaDoor

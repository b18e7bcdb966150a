/- What an integer of package api reads as. -/
import Derived.Test.YtechjiiijiipdaaDoorNum
import Derived.Deep.RegionHeld3
namespace Go.Proofs.YtechjiiijiipdaaDoor
open Go.RowKit
set_option linter.unusedSimpArgs false
set_option linter.unusedVariables false

/-- A number with a sign. -/
def sgn (neg : Bool) (n : Nat) : Int := if neg then -(n : Int) else n

/-- v is an api.Int in normal form, of at most n limbs, that shows z. -/
def IsInt (n : Nat) (w : World) (v : Value) (z : Int) : Prop :=
  ∃ neg sv l, v = .agg #[.bool neg, sv] ∧ U32s w sv l ∧ Dig l ∧ Norm l ∧ l.length ≤ n ∧ (neg = true → l ≠ []) ∧ z = sgn neg (val l)

theorem IsInt.ext {n : Nat} {w w' : World} {v : Value} {z : Int} (h : IsInt n w v z) (e : Ext w w') : IsInt n w' v z := by
  obtain ⟨neg, sv, l, hv, hu, rest⟩ := h
  exact ⟨neg, sv, l, hv, hu.ext e, rest⟩
theorem IsInt.mono {n m : Nat} {w : World} {v : Value} {z : Int} (h : IsInt n w v z) (hm : n ≤ m) : IsInt m w v z := by
  obtain ⟨neg, sv, l, hv, hu, hd, hn, hl, rest⟩ := h
  exact ⟨neg, sv, l, hv, hu, hd, hn, by omega, rest⟩
/-- Of trimmed limbs. -/
theorem IsInt.mk {n : Nat} {w : World} {sv : Value} {l : List Nat} {neg : Bool} (hu : U32s w sv (trimL l)) (hd : Dig l) (hn : (trimL l).length ≤ n) : IsInt n w (.agg #[.bool (neg && decide (0 < (trimL l).length)), sv]) (sgn neg (val l)) := by
  refine ⟨_, sv, trimL l, rfl, hu, hd.trimL, norm_trimL l, hn, ?_, ?_⟩
  · intro h e
    rw [e] at h
    simp at h
  · rw [val_trimL]
    by_cases h : trimL l = []
    · have h0 : val l = 0 := by rw [← val_trimL, h]; rfl
      rw [h, h0]; simp [sgn]
    · have : 0 < (trimL l).length := List.length_pos_iff.2 h
      rw [decide_eq_true this, Bool.and_true]

theorem IsInt.cast {n : Nat} {w : World} {v : Value} {z y : Int} (h : IsInt n w v z) (e : z = y) : IsInt n w v y := e ▸ h
theorem sgn_neg (b : Bool) (n : Nat) : sgn (!b) n = -sgn b n := by cases b <;> simp [sgn]
theorem sgn_mul (a b : Bool) (m n : Nat) : sgn (a != b) (m * n) = sgn a m * sgn b n := by cases a <;> cases b <;> simp [sgn, Int.neg_mul, Int.mul_neg]
theorem sgn_natAbs (b : Bool) (n : Nat) : (sgn b n).natAbs = n := by cases b <;> simp [sgn]


/-- What 'signed' hands back: the first k limbs, the rest zeros. -/
theorem IsInt.cut {w : World} {sv : Value} {l : List Nat} {neg b : Bool} {k : Nat} (hu : U32s w sv (l.take k)) (hk : k ≤ l.length) (hd : Dig l) (ht : trimL l = l.take k) (hb : b = (neg && decide (0 < k))) :
    IsInt l.length w (.agg #[.bool b, sv]) (sgn neg (val l)) := by
  have h1 : (trimL l).length = k := by rw [ht, List.length_take]; omega
  have := IsInt.mk (n := l.length) (neg := neg) (sv := sv) (w := w) (l := l) (by rw [ht]; exact hu) hd (trimL_length_le l)
  rwa [h1, ← hb] at this

/-! New blocks under names of their own. -/
theorem Ext.blk {w w' : World} {p : Nat} {o : Obj} (e : Ext w w') (h : w.heap[p]? = some o) : w'.heap[p]? = some o := by
  rw [e.block p (Array.getElem?_eq_some_iff.1 h).1]; exact h
theorem box1 (w : World) (a : Obj) : ∃ w3 p, w.alloc a = w3 ∧ w.heap.size = p ∧ w3.heap[p]? = some a ∧ Ext w w3 :=
  ⟨_, _, rfl, rfl, heap_alloc_new w a, (Ext.rfl' w).alloc' a⟩
theorem box2 (w : World) (a b : Obj) : ∃ w3 p q, (w.alloc a).alloc b = w3 ∧ w.heap.size + 1 = q ∧ w.heap.size = p ∧ w3.heap[p]? = some a ∧ w3.heap[q]? = some b ∧ p ≠ q ∧ Ext w w3 := by
  refine ⟨_, _, _, rfl, rfl, rfl, ?_, ?_, by omega, ((Ext.rfl' w).alloc' a).alloc' b⟩
  · exact ((Ext.rfl' _).alloc' b).blk (heap_alloc_new w a)
  · have := heap_alloc_new (w.alloc a) b
    simpa using this
theorem box3 (w : World) (a b c : Obj) : ∃ w3 p q r, ((w.alloc a).alloc b).alloc c = w3 ∧ w.heap.size + 1 + 1 = r ∧ w.heap.size + 1 = q ∧ w.heap.size = p ∧ w3.heap[p]? = some a ∧ w3.heap[q]? = some b ∧ w3.heap[r]? = some c ∧ p ≠ q ∧ p ≠ r ∧ q ≠ r ∧ Ext w w3 := by
  obtain ⟨w2, p, q, rfl, rfl, rfl, h1, h2, _, hE⟩ := box2 w a b
  refine ⟨_, _, _, _, rfl, rfl, rfl, rfl, ?_, ?_, ?_, by omega, by omega, by omega, hE.alloc' c⟩
  · exact ((Ext.rfl' _).alloc' c).blk h1
  · exact ((Ext.rfl' _).alloc' c).blk h2
  · have := heap_alloc_new ((w.alloc a).alloc b) c
    simpa using this
/-- What a block's cells read as wherever memory has only grown since. -/
theorem rules {w : World} {p : Nat} {cs : Array Value} {t : TypeId} (h : w.heap[p]? = some (.cells cs t (0, 0))) (i : Nat) (v : Value) (hv : cs[i]? = some v) :
    (∀ w', Ext w w' → w'.cell? ⟨p, i, none⟩ = some v) ∧ (∀ w', Ext w w' → w'.frozen? ⟨p, i, none⟩ = false) := by
  refine ⟨fun w' e => ?_, fun w' e => ?_⟩
  · have := e.blk h
    simp [World.cell?, this, hv]
  · have := e.blk h
    simp [World.frozen?, this]

/-! Memory in which, besides growing, one block of our own is written. -/
def atC (w : World) (a : Addr) : Value := (w.cell? a).getD (.bool false)
def noU : Value → Bool
  | .int .u32 _ => false
  | _ => true
structure But (rs : List Nat) (a b : World) : Prop where
  os : b.os = a.os
  tape : b.tape = a.tape
  output : b.output = a.output
  size : a.heap.size ≤ b.heap.size
  block : ∀ k, k < a.heap.size → k ∉ rs → b.heap[k]? = a.heap[k]?
  own : ∀ r, r ∈ rs → ∃ cs t cs', a.heap[r]? = some (.cells cs t (0, 0)) ∧ b.heap[r]? = some (.cells cs' t (0, 0)) ∧ cs'.size = cs.size ∧ ∀ (i : Nat) (v : Value), cs'[i]? = some v → noU v = true
/-- A block of our own. -/
def Box (a : World) (r : Nat) : Prop := ∃ cs t, a.heap[r]? = some (.cells cs t (0, 0)) ∧ cs.toList.all noU = true
theorem Box.mk {a : World} {r : Nat} {cs : Array Value} {t : TypeId} (h : a.heap[r]? = some (.cells cs t (0, 0))) (hn : cs.toList.all noU = true) : Box a r := ⟨cs, t, h, hn⟩
theorem But.start {rs : List Nat} {a : World} (h : ∀ r, r ∈ rs → Box a r) : But rs a a :=
  ⟨rfl, rfl, rfl, Nat.le_refl _, fun _ _ _ => rfl, fun r hr => by
    obtain ⟨cs, t, h, hn⟩ := h r hr
    exact ⟨cs, t, cs, h, h, rfl, fun i v hv => List.all_eq_true.1 hn v (Array.mem_toList_iff.2 (Array.mem_of_getElem? hv))⟩⟩
theorem But.start1 {r : Nat} {a : World} (h : Box a r) : But [r] a a := But.start (by simpa using h)
theorem But.start2 {r s : Nat} {a : World} (h : Box a r) (k : Box a s) : But [r, s] a a := But.start (by simpa using ⟨h, k⟩)
theorem But.start3 {r s t : Nat} {a : World} (h : Box a r) (k : Box a s) (l : Box a t) : But [r, s, t] a a := But.start (by simpa using ⟨h, k, l⟩)
theorem But.ext {rs : List Nat} {a b c : World} (h : But rs a b) (e : Ext b c) : But rs a c :=
  ⟨e.os.trans h.os, e.tape.trans h.tape, e.output.trans h.output, Nat.le_trans h.size e.size, fun k hk hr => (e.block k (Nat.lt_of_lt_of_le hk h.size)).trans (h.block k hk hr), fun r hr => by
    obtain ⟨cs, t, cs', h1, h2, h3, h4⟩ := h.own r hr
    exact ⟨cs, t, cs', h1, e.blk h2, h3, h4⟩⟩
theorem But.set {rs : List Nat} {a b : World} {r : Nat} (h : But rs a b) (i : Nat) (v : Value) (hv : noU v = true) (hm : r ∈ rs) : But rs a (b.setCell ⟨r, i, none⟩ v) := by
  refine ⟨h.os, h.tape, h.output, by simpa [World.setCell] using h.size, fun k hk hr => ?_, fun s hs => ?_⟩
  · rw [← h.block k hk hr]
    have : r ≠ k := by rintro rfl; exact hr hm
    simp [World.setCell, Array.getElem?_modify, this]
  · obtain ⟨cs, t, cs', h1, h2, h3, h4⟩ := h.own s hs
    by_cases e : r = s
    · subst e
      refine ⟨cs, t, cs'.setIfInBounds i v, h1, ?_, by simpa using h3, fun k x hx => ?_⟩
      · simp [World.setCell, Array.getElem?_modify, h2]
      · rw [Array.getElem?_setIfInBounds] at hx
        split at hx
        · split at hx
          · cases hx; exact hv
          · cases hx
        · exact h4 k x hx
    · exact ⟨cs, t, cs', h1, by simp [World.setCell, Array.getElem?_modify, h2, e], h3, h4⟩
/-- A block made since. -/
theorem But.setNew {rs : List Nat} {a b : World} {r : Nat} (h : But rs a b) (i : Nat) (v : Value) (hr : a.heap.size ≤ r) : But rs a (b.setCell ⟨r, i, none⟩ v) := by
  refine ⟨h.os, h.tape, h.output, by simpa [World.setCell] using h.size, fun k hk hn => ?_, fun s hs => ?_⟩
  · rw [← h.block k hk hn]
    have : r ≠ k := by omega
    simp [World.setCell, Array.getElem?_modify, this]
  · obtain ⟨cs, t, cs', h1, h2, h3, h4⟩ := h.own s hs
    have : s < a.heap.size := (Array.getElem?_eq_some_iff.1 h1).1
    have : r ≠ s := by omega
    exact ⟨cs, t, cs', h1, by simp [World.setCell, Array.getElem?_modify, h2, this], h3, h4⟩
theorem U32s.but {rs : List Nat} {r i : Nat} {a b : World} {u v : Value} {l : List Nat} (h : U32s b v l) (hb : But rs a b) (hm : r ∈ rs) : U32s (b.setCell ⟨r, i, none⟩ u) v l := by
  obtain ⟨ad, c, rfl, hc, hd, hn, hz, hcell⟩ := h
  refine ⟨ad, c, rfl, hc, hd, hn, hz, ?_⟩
  rcases hcell with rfl | ⟨p, o, rfl, hlt, hcell⟩
  · exact .inl rfl
  rcases l with _ | ⟨d, l⟩
  · exact .inl rfl
  refine .inr ⟨p, o, rfl, by simpa [World.setCell] using hlt, fun k hk => ?_⟩
  have hne : r ≠ p := by
    rintro rfl
    obtain ⟨cs, t, cs', h1, h2, h3, h4⟩ := hb.own r hm
    have h0 := hcell 0 (by simp)
    simp only [World.cell?, h2] at h0
    have := h4 _ _ h0
    simp [noU] at this
  exact (World.cell?_setCell_far b ⟨r, i, none⟩ ⟨p, o + k, none⟩ u hne).trans (hcell k hk)
theorem IsInt.but {rs : List Nat} {n r i : Nat} {a b : World} {u v : Value} {z : Int} (h : IsInt n b v z) (hb : But rs a b) (hm : r ∈ rs) : IsInt n (b.setCell ⟨r, i, none⟩ u) v z := by
  obtain ⟨neg, sv, l, hv, hu, rest⟩ := h
  exact ⟨neg, sv, l, hv, hu.but hb hm, rest⟩
theorem IsInt.put {rs : List Nat} {n r i j : Nat} {a b : World} {u x v : Value} {z : Int} (h : IsInt n b v z) (hb : But rs a b) (hm : r ∈ rs) (hx : noU x = true) : IsInt n ((b.setCell ⟨r, i, none⟩ x).setCell ⟨r, j, none⟩ u) v z :=
  (h.but hb hm).but (hb.set _ _ hx hm) hm
theorem But.old {rs : List Nat} {w a b : World} (h : But rs a b) (e : Ext w a) (hr : ∀ r, r ∈ rs → w.heap.size ≤ r) : Ext w b :=
  ⟨h.os.trans e.os, h.tape.trans e.tape, h.output.trans e.output, Nat.le_trans e.size h.size, fun k hk => (h.block k (Nat.lt_of_lt_of_le hk e.size) (fun hm => by have := hr k hm; omega)).trans (e.block k hk)⟩
theorem rulesB {rs : List Nat} {w : World} {p : Nat} {cs : Array Value} {t : TypeId} (h : w.heap[p]? = some (.cells cs t (0, 0))) (hp : p ∉ rs) (i : Nat) (v : Value) (hv : cs[i]? = some v) :
    ∀ w', But rs w w' → w'.cell? ⟨p, i, none⟩ = some v := fun w' e => by
  have := (e.block p (Array.getElem?_eq_some_iff.1 h).1 hp).trans h
  simp [World.cell?, this, hv]
theorem rulesR {rs : List Nat} {r : Nat} {w : World} {cs : Array Value} {t : TypeId} (h : w.heap[r]? = some (.cells cs t (0, 0))) (hm : r ∈ rs) (i : Nat) (hi : i < cs.size) :
    (∀ w', But rs w w' → w'.cell? ⟨r, i, none⟩ = some (atC w' ⟨r, i, none⟩)) ∧ (∀ w', But rs w w' → w'.frozen? ⟨r, i, none⟩ = false) := by
  refine ⟨fun w' e => ?_, fun w' e => ?_⟩
  · obtain ⟨cs0, t0, cs', h1, h2, h3, _⟩ := e.own r hm
    rw [h] at h1
    cases h1
    have : i < cs'.size := by omega
    simp [atC, World.cell?, h2, this]
  · obtain ⟨cs0, t0, cs', h1, h2, h3, _⟩ := e.own r hm
    simp [World.frozen?, h2]
theorem atC_of {w : World} {r : Nat} {cs : Array Value} {t : TypeId} (h : w.heap[r]? = some (.cells cs t (0, 0))) (i : Nat) (v : Value) (hv : cs[i]? = some v) : atC w ⟨r, i, none⟩ = v := by
  simp [atC, World.cell?, h, hv]

theorem Ext.setN {a b : World} {r i : Nat} {v : Value} (hr : a.heap.size ≤ r) (h : Ext a b) : Ext a (b.setCell ⟨r, i, none⟩ v) := h.setCell hr v
theorem But.dr {rs : List Nat} {a b : World} (h : But rs a b) : But rs a b.drew := h.ext (Ext.rfl' b).drew'
theorem But.drN {rs : List Nat} {a b : World} {n : Nat} (h : But rs a b) : But rs a (b.drewN n) := h.ext ((Ext.rfl' b).drewN' n)
theorem But.al {rs : List Nat} {a b : World} {o : Obj} (h : But rs a b) : But rs a (b.alloc o) := h.ext ((Ext.rfl' b).alloc' o)
theorem But.start0 (a : World) : But [] a a := But.start (by simp)
theorem But.none {a b : World} (h : But [] a b) : Ext a b := h.old (Ext.rfl' a) (by simp)
theorem But.start4 {r s t u : Nat} {a : World} (h : Box a r) (k : Box a s) (l : Box a t) (m : Box a u) : But [r, s, t, u] a a := But.start (by simpa using ⟨h, k, l, m⟩)
/-- Memory has only grown: shown by the facts at hand. (The word exact exttI stands for 'exact exttI'.) -/
theorem exttI {a b : World} (h : Ext a b := by first
    | (with_reducible assumption)
    | (with_reducible exact Ext.rfl' _)
    | (focus ((with_reducible apply Ext.drew'); exact exttI))
    | (focus ((with_reducible apply Ext.drewN'); exact exttI))
    | (focus ((with_reducible apply Ext.alloc'); exact exttI))
    | (focus ((with_reducible apply Ext.setN); omega; exact exttI))
    | exact But.old (by with_reducible assumption) (by with_reducible assumption) (by with_reducible assumption)
    | (focus ((refine Ext.trans' ?_ (by with_reducible assumption)); exact exttI))) : Ext a b := h
/-- The same but for some blocks. -/
theorem buttI {rs : List Nat} {a b : World} (h : But rs a b := by first
    | (with_reducible assumption)
    | exact But.start0 _
    | exact But.start1 (by with_reducible assumption)
    | exact But.start2 (by with_reducible assumption) (by with_reducible assumption)
    | exact But.start3 (by with_reducible assumption) (by with_reducible assumption) (by with_reducible assumption)
    | exact But.start4 (by with_reducible assumption) (by with_reducible assumption) (by with_reducible assumption) (by with_reducible assumption)
    | (focus ((with_reducible refine But.set ?_ _ _ rfl (List.Mem.head _)); exact buttI))
    | (focus ((with_reducible refine But.set ?_ _ _ rfl (List.Mem.tail _ (List.Mem.head _))); exact buttI))
    | (focus ((with_reducible refine But.set ?_ _ _ rfl (List.Mem.tail _ (List.Mem.tail _ (List.Mem.head _)))); exact buttI))
    | (focus ((with_reducible refine But.set ?_ _ _ rfl (List.Mem.tail _ (List.Mem.tail _ (List.Mem.tail _ (List.Mem.head _))))); exact buttI))
    | (focus ((with_reducible refine But.setNew ?_ _ _ ?_); rotate_left; omega; exact buttI))
    | (focus ((with_reducible refine But.dr ?_); exact buttI))
    | (focus ((with_reducible refine But.drN ?_); exact buttI))
    | (focus ((with_reducible refine But.al ?_); exact buttI))
    | (focus ((refine But.ext ?_ (by with_reducible assumption)); exact buttI))) : But rs a b := h
end Go.Proofs.YtechjiiijiipdaaDoor

/- Regions that draw their order and end in a forced row of stores: the operations ahead of the stores under one condition S on the world; the stores behind it, in their order. -/
import Derived.Test.YtechjiiijiipdaaDoorBase
import Derived.StillTailTactics
import Derived.Deep.RegionHeld3
namespace Go.Proofs.YtechjiiijiipdaaDoor
open Go.RowKit
set_option linter.unusedSimpArgs false
set_option linter.unusedVariables false

section
variable {P : Program} {ops : Array Oper} {Q : Exit → Act → World → Prop} {md : Region.Mode} {S : World → Prop} {n : Nat} {L : Act → World → Prop}

/-- The operations ahead of number n in whatever order; S behind each of them; then L. -/
def wpHead (P : Program) (md : Region.Mode) (ops : Array Oper) (Q : Exit → Act → World → Prop) (S : World → Prop) (n : Nat) (L : Act → World → Prop) : Nat → Array Bool → Act → World → Prop
  | 0, listed, a, w => Region.seqB md ops (ops.size - n) n listed = true ∧ L a w
  | f + 1, listed, a, w => HeadInv md ops n listed → Region.ready md ops listed ≠ [] ∧ ∀ i ∈ Region.ready md ops listed, i < n ∧ wpOp P ops Q i (fun a' w' => S w' ∧ wpHead P md ops Q S n L f (listed.setIfInBounds i true) a' w') a w

def headB (md : Region.Mode) (ops : Array Oper) (n : Nat) : Bool := Region.noSelect ops && decide (n < ops.size) && Region.sinkB md ops n && Region.chainB md ops n
theorem headB_spec (h : headB md ops n = true) : Region.noSelect ops = true ∧ n < ops.size ∧ Region.sinkB md ops n = true ∧ Region.chainB md ops n = true := by
  simp only [headB, Bool.and_eq_true, decide_eq_true_eq] at h
  exact ⟨h.1.1.1, h.1.1.2, h.1.2, h.2⟩

theorem wpAny_of_wpHead {l : List Oper} (hops : ops = l.toArray) (hn : n < ops.size) :
    ∀ (f : Nat) (listed : Array Bool) (a : Act) (w : World), HeadInv md ops n listed → wpHead P md ops Q S n (fun a' w' => wpList P ops Q (l.drop n) a' w') f listed a w → wpAny P md ops Q (f + (ops.size - n)) listed a w
  | 0, listed, a, w, _, h => by
    have hd : (l.drop n).length = ops.size - n := by rw [hops]; simp
    rw [Nat.zero_add, ← hd]
    exact wpAny_of_seq (l.drop n) n listed a w (fun j => by rw [hops]; simp [List.getElem?_drop]) (by rw [hd]; exact h.1) h.2
  | f + 1, listed, a, w, inv, h => by
    rw [show f + 1 + (ops.size - n) = (f + (ops.size - n)) + 1 by omega]
    obtain ⟨h1, h2⟩ := h inv
    exact ⟨fun h0 => absurd h0 h1, fun i hi => wpOp_mono (fun a' w' h' => wpAny_of_wpHead hops hn f _ a' w' (inv.set hi (h2 i hi).1) h'.2) (h2 i hi).2⟩

theorem head_lt {i j : Nat} {listed : Array Bool} (hs : Region.sinkB md ops n = true) (hc : Region.chainB md ops n = true) (hn : n < ops.size) (inv : HeadInv md ops n listed) (hin : i < n) (hr : i ∈ Region.ready md ops listed) (hj : j ∈ Region.ready md ops listed) : j < n := by
  rcases Nat.lt_or_ge j n with h | h
  · exact h
  · exact absurd hj (tail_waits hs hc hn inv _ i rfl hin (mem_ready.1 hr).1 j h)

theorem wpHead_first {i : Nat} {oi : Oper} {v : Value} (hi : ops[i]? = some oi) (hB : headB md ops n = true) (hin : i < n) (hQ : ∀ c a w, Q (.panic c) (a.put oi.dst v) w → Q (.panic c) a w) :
    ∀ (f : Nat) (listed : Array Bool) (a : Act) (w : World),
      (∀ j oj, ops[j]? = some oj → j ≠ i → listed.getD j true = false → (∀ e ∈ oj.after, Region.binds md e = true → e.on ≠ i) → oi.apart ops oj = true) →
      i ∈ Region.ready md ops listed → YieldsIf P ops S oi v a → S w →
      wpHead P md ops Q S n L f (listed.setIfInBounds i true) (a.put oi.dst v) w → wpHead P md ops Q S n L (f + 1) listed a w := by
  obtain ⟨hsel, hn, hs, hc⟩ := headB_spec hB
  intro f
  induction f with
  | zero =>
    intro listed a w _ hr hy hS H inv
    refine ⟨fun h => (by rw [h] at hr; cases hr), fun j hj => ?_⟩
    have hjn := head_lt hs hc hn inv hin hr hj
    refine ⟨hjn, ?_⟩
    by_cases hji : j = i
    · subst hji; exact hy.wpOp hi hS ⟨hS, H⟩
    · have := seqB_ready H.1 j (ready_mono hj hji)
      omega
  | succ f ih =>
    intro listed a w hfree hr hy hS H inv
    refine ⟨fun h => (by rw [h] at hr; cases hr), fun j hj => ?_⟩
    have hjn := head_lt hs hc hn inv hin hr hj
    refine ⟨hjn, ?_⟩
    by_cases hji : j = i
    · subst hji; exact hy.wpOp hi hS ⟨hS, H⟩
    · have h1 := ((H (inv.set hr hin)).2 j (ready_mono hj hji)).2
      obtain ⟨hjun, oj, hoj, hall⟩ := mem_ready.1 hj
      have hnot : ∀ e ∈ oj.after, Region.binds md e = true → e.on ≠ i := fun e he hb heq => by
        have h1 := hall e he hb
        rw [heq, getD_both (mem_ready.1 hr).1] at h1
        cases h1
      have h2 := wpOp_putIf hoj (hfree j oj hoj hji hjun hnot) (fun cs b => Region.noSelect_spec hsel i oi cs b hi) (fun cs b => Region.noSelect_spec hsel j oj cs b hoj) hQ hy h1
      refine wpOp_mono (fun a' w' h3 => ⟨h3.2.1, ih (listed.setIfInBounds j true) a' w' (fun k ok hk hki hun hno => ?_) (ready_mono hr (Ne.symm hji)) h3.1 h3.2.1 ?_⟩) h2
      · refine hfree k ok hk hki ?_ hno
        by_cases hjk : j = k
        · subst hjk; exact hjun
        · rw [getD_set_ne true hjk] at hun; exact hun
      · rw [Array.setIfInBounds_comm _ _ hji]
        exact h3.2.2

end
/-- Operation number i of a list. -/
def atOp : List Oper → Nat → (Oper → Prop) → Prop
  | o :: _, 0, k => k o
  | _ :: l, i + 1, k => atOp l i k
  | [], _, _ => False
theorem atOp_spec : ∀ {l : List Oper} {i : Nat} {k : Oper → Prop}, atOp l i k → ∃ o, l.toArray[i]? = some o ∧ k o
  | o :: _, 0, _, h => ⟨o, by simp, h⟩
  | _ :: l, i + 1, k, h => by
    obtain ⟨o, h1, h2⟩ := atOp_spec (l := l) (i := i) (k := k) h
    exact ⟨o, by simpa using h1, h2⟩

section
variable {P : Program} {l : List Oper} {Q : Exit → Act → World → Prop} {md : Region.Mode} {S : World → Prop} {n : Nat} {L : Act → World → Prop}
/-- Take number i now: what it yields is fixed by S. -/
theorem wpHead_take (i : Nat) {f : Nat} {listed : Array Bool} {a : Act} {w : World}
    (hB : (headB md l.toArray n && decide (i < n) && Region.free md l.toArray listed i && (Region.ready md l.toArray listed).contains i) = true)
    (hQ : ∀ c a w d v, Q (.panic c) (Act.put a d v) w → Q (.panic c) a w) (hS : S w)
    (h : atOp l i fun oi => Region.wanted oi (yielded l.toArray a.tmps) = true ∧ ∃ v, (∀ w, S w → (execOp a.eval oi).run P w = .ok (.value v) w) ∧ wpHead P md l.toArray Q S n L f (listed.setIfInBounds i true) (a.put oi.dst v) w) : wpHead P md l.toArray Q S n L (f + 1) listed a w := by
  simp only [Bool.and_eq_true, decide_eq_true_eq] at hB
  obtain ⟨oi, hi, hw, v, hy, h⟩ := atOp_spec h
  exact wpHead_first hi hB.1.1.1 hB.1.1.2 (fun c a w => hQ c a w _ _) f listed a w (Region.free_spec hi hB.1.2) (by simpa using hB.2) (.inl ⟨hw, hy⟩) hS h

/-- The one operation that may come up. -/
theorem wpHead_only (i : Nat) {f : Nat} {listed : Array Bool} {a : Act} {w : World}
    (hB : (decide (i < n) && decide (Region.ready md l.toArray listed = [i])) = true)
    (h : atOp l i fun o => ∀ K' : Act → World → Prop, Shut (∀ a w, S w → (S w → wpHead P md l.toArray Q S n L f (listed.setIfInBounds i true) a w) → K' a w) → if Region.wanted o (yielded l.toArray a.tmps) = true then Oper.wp P o a w K' Q else K' (a.put o.dst undef) w) :
    wpHead P md l.toArray Q S n L (f + 1) listed a w := by
  simp only [Bool.and_eq_true, decide_eq_true_eq] at hB
  obtain ⟨o, ho, h⟩ := atOp_spec h
  intro _
  rw [hB.2]
  refine ⟨by simp, fun j hj => ?_⟩
  obtain rfl : j = i := by simpa using hj
  exact ⟨hB.1, wpOp_step ho (fun K' hK => h K' (fun a w hS hW => hK a w ⟨hS, hW hS⟩))⟩

/-- All have come up but the stores. -/
theorem wpHead_done {listed : Array Bool} {a : Act} {w : World} (hB : Region.seqB md l.toArray (l.toArray.size - n) n listed = true) (h : L a w) : wpHead P md l.toArray Q S n L 0 listed a w := ⟨hB, h⟩

end
/-- The beginning. -/
theorem wp_region_head {P : Program} {Q : Exit → Act → World → Prop} {id : Nat} {a : Act} {w : World} {l : List Oper} (n : Nat) (S : World → Prop) (hm : P.follows .mixedOrders = true) (hB : headB .any l.toArray n = true) (hS : S w.drew)
    (h : S w.drew → wpHead P .any l.toArray Q S n (fun a' w' => wpList P l.toArray Q (l.drop n) a' w') n (Array.replicate l.toArray.size false) a w.drew) : (Code.region id l.toArray true).wp P Q a w := by
  obtain ⟨_, hn, _, _⟩ := headB_spec hB
  refine wp_region_any hm ?_
  have inv0 : HeadInv .any l.toArray n (Array.replicate l.toArray.size false) :=
    ⟨by simp, fun j oj _ hl => (by rw [getD_replicate_false] at hl; cases hl), fun t _ ht => getD_in (by simpa using ht) (getD_replicate_false _ _)⟩
  have := wpAny_of_wpHead rfl hn n _ a _ inv0 (h hS)
  rwa [show n + (l.toArray.size - n) = l.toArray.size by omega] at this
end Go.Proofs.YtechjiiijiipdaaDoor

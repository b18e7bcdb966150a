/- Decimal digits: the number that they show. -/
import Derived.Test.YtechjiiijiipdaaDoorNum
namespace Go.Proofs.YtechjiiijiipdaaDoor

/-- The number that decimal digits show. -/
def dec (l : List UInt8) : Nat := l.foldl (fun a c => 10 * a + (c.toNat - 48)) 0
/-- Digits alone. -/
def AllD (l : List UInt8) : Prop := ∀ c ∈ l, 48 ≤ c.toNat ∧ c.toNat ≤ 57
theorem dec_from : ∀ (b : List UInt8) (x : Nat), b.foldl (fun a c => 10 * a + (c.toNat - 48)) x = x * 10 ^ b.length + dec b
  | [], x => by simp [dec]
  | c :: b, x => by
    have h1 := dec_from b (10 * x + (c.toNat - 48))
    have h2 := dec_from b (10 * 0 + (c.toNat - 48))
    simp only [dec, List.foldl_cons, List.length_cons] at *
    rw [h1, h2, Nat.pow_succ, Nat.add_mul, Nat.add_mul]
    have : 10 * x * 10 ^ b.length = x * (10 ^ b.length * 10) := by rw [Nat.mul_comm 10 x, Nat.mul_assoc, Nat.mul_comm 10]
    omega
theorem dec_append (a b : List UInt8) : dec (a ++ b) = dec a * 10 ^ b.length + dec b := by
  rw [dec, List.foldl_append]; exact dec_from b _
theorem dec_cons (c : UInt8) (b : List UInt8) : dec (c :: b) = (c.toNat - 48) * 10 ^ b.length + dec b := by
  have := dec_append [c] b
  simpa [dec] using this
theorem dec_snoc (a : List UInt8) (c : UInt8) : dec (a ++ [c]) = 10 * dec a + (c.toNat - 48) := by
  rw [dec_append]; simp [dec]; omega
theorem dec_nil : dec [] = 0 := rfl
theorem AllD.append {a b : List UInt8} : AllD (a ++ b) ↔ AllD a ∧ AllD b := by simp only [AllD, List.mem_append, or_imp, forall_and]; constructor <;> (intro h; simp_all)
theorem AllD.take {l : List UInt8} (h : AllD l) (k : Nat) : AllD (l.take k) := fun c hc => h c (List.mem_of_mem_take hc)
theorem AllD.drop {l : List UInt8} (h : AllD l) (k : Nat) : AllD (l.drop k) := fun c hc => h c (List.mem_of_mem_drop hc)
theorem dec_lt : ∀ {l : List UInt8}, AllD l → dec l < 10 ^ l.length
  | [], _ => by simp [dec]
  | c :: l, h => by
    have hl := dec_lt (l := l) (fun x hx => h x (List.mem_cons_of_mem _ hx))
    have hc := h c (List.mem_cons_self ..)
    rw [dec_cons, List.length_cons, Nat.pow_succ]
    have : (c.toNat - 48) * 10 ^ l.length ≤ 9 * 10 ^ l.length := Nat.mul_le_mul_right _ (by omega)
    omega
theorem dec_take_succ {l : List UInt8} {k : Nat} (h : k < l.length) : dec (l.take (k + 1)) = 10 * dec (l.take k) + (l[k].toNat - 48) := by
  rw [List.take_succ_eq_append_getElem h, dec_snoc]
/-- Nine digits more. -/
theorem parse_step {l : List UInt8} {e : Nat} {r : List Nat} (_he : e ≤ l.length) (h9 : 9 ≤ e) (h : val r + 1000000000 ^ r.length * dec (l.take e) = dec l) :
    val (r ++ [dec ((l.take e).drop (e - 9))]) + 1000000000 ^ (r ++ [dec ((l.take e).drop (e - 9))]).length * dec (l.take (e - 9)) = dec l := by
  have e1 : l.take e = l.take (e - 9) ++ (l.take e).drop (e - 9) := by
    have := List.take_append_drop (e - 9) (l.take e)
    rw [List.take_take, Nat.min_eq_left (by omega)] at this
    exact this.symm
  have e2 : ((l.take e).drop (e - 9)).length = 9 := by simp; omega
  have e3 : dec (l.take e) = dec (l.take (e - 9)) * 1000000000 + dec ((l.take e).drop (e - 9)) := by
    have := dec_append (l.take (e - 9)) ((l.take e).drop (e - 9))
    rw [← e1, e2] at this
    exact this
  rw [← h, e3, val_snoc, List.length_append, List.length_singleton, Nat.pow_succ, Nat.mul_add, Nat.mul_assoc]
  have : 1000000000 ^ r.length * (dec (l.take (e - 9)) * 1000000000) = 1000000000 ^ r.length * (1000000000 * dec (l.take (e - 9))) := by rw [Nat.mul_comm (dec _)]
  omega
theorem parse_last {l : List UInt8} {e : Nat} {r : List Nat} (h : val r + 1000000000 ^ r.length * dec (l.take e) = dec l) :
    val (r ++ [dec ((l.take e).drop 0)]) = dec l := by
  rw [List.drop_zero, val_snoc]; exact h
end Go.Proofs.YtechjiiijiipdaaDoor

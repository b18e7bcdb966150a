/- Walks: decimal.plain, power. -/
import Derived.Test.YtechjiiijiipdaaDoorW17
namespace Go.Proofs.YtechjiiijiipdaaDoor
open Go.RowKit
set_option linter.unusedSimpArgs false
set_option linter.unusedVariables false

def digs : List UInt8 := [48, 49, 50, 51, 52, 53, 54, 55, 56, 57]
/-- Digits alone, at least one. -/
def plainB (l : List UInt8) : Bool := !l.isEmpty && l.all (digs.contains ·)
theorem dropWhile_nil {p : UInt8 → Bool} : ∀ {l : List UInt8}, l.dropWhile p = [] ↔ l.all p = true
  | [] => by simp
  | c :: l => by
    rw [List.dropWhile_cons, List.all_cons]
    cases h : p c with
    | true => simp [dropWhile_nil (l := l)]
    | false => simp
theorem dropWhile_head {p : UInt8 → Bool} : ∀ {l : List UInt8} {c : UInt8} {t : List UInt8}, l.dropWhile p = c :: t → p c = false
  | [], _, _, h => by simp at h
  | d :: l, c, t, h => by
    rw [List.dropWhile_cons] at h
    cases hd : p d with
    | true => rw [hd] at h; exact dropWhile_head (by simpa using h)
    | false => rw [hd] at h; simp at h; rw [← h.1]; exact hd
theorem trimS_nil (l : List UInt8) : Lib.trimS l digs = [] ↔ l.all (digs.contains ·) = true := by
  unfold Lib.trimS Lib.trimLeftS Lib.trimRightS
  constructor
  · intro h
    have h1 := dropWhile_nil.1 h
    cases hr : l.reverse.dropWhile (digs.contains ·) with
    | nil => have := dropWhile_nil.1 hr; simpa using this
    | cons c t =>
      have h2 := dropWhile_head hr
      rw [hr] at h1
      simp at h1
      rw [← Bool.not_eq_true] at h2
      exact absurd (by simpa using h1.2) h2
  · intro h
    have : l.reverse.dropWhile (digs.contains ·) = [] := dropWhile_nil.2 (by simpa using h)
    rw [this]; rfl
theorem strings_Trim_digits (s : ByteArray) (w : World) (hs : s.size ≤ 4000000000) :
    Calls Tryd.prog 67 #[.string s, .string ⟨#[48, 49, 50, 51, 52, 53, 54, 55, 56, 57]⟩] w fun e w' => e = .returned (.string ⟨(Lib.trimS s.data.toList digs).toArray⟩) ∧ Ext w w' :=
  Any.strings_Trim_laid Tryd.lays160 (by kernel_rfl) s ⟨#[48, 49, 50, 51, 52, 53, 54, 55, 56, 57]⟩ w (by omega) (by decide) (ascii_of_all (by decide))
set_option maxHeartbeats 1000000 in
theorem decimal_plain (s : ByteArray) (w : World) (hs : s.size ≤ 4000000000) :
    Calls Tryd.prog 51 #[.string s] w fun e w' => e = .returned (.bool (plainB s.data.toList)) ∧ Ext w w' := by
  have ht := trimS_nil s.data.toList
  have hC := strings_Trim_digits s
  unfold plainB
  by_cases h0 : s.data.toList = []
  · have h1 : s.toList = [] := by rw [Lib.toList_data, h0]
    have h2 : (!s.toList.isEmpty) = false := by rw [h1]; rfl
    rw [h0]
    clear ht hC h0
    go_enter Tryd.func51, Tryd.ntmps51
    go_wp2
    go_ret
    exact ⟨rfl, Ext.rfl' _⟩
  · have h1 : s.toList.isEmpty = false := by rw [Lib.toList_data]; cases h : s.data.toList with | nil => exact absurd h h0 | cons _ _ => rfl
    have h3 : s.data.toList.isEmpty = false := by rw [← Lib.toList_data]; exact h1
    have h2 : (!s.toList.isEmpty) = true := by rw [h1]; rfl
    rw [h3]
    generalize Lib.trimS s.data.toList digs = t at *
    obtain ⟨b, hb⟩ : ∃ b, s.data.toList.all (digs.contains ·) = b := ⟨_, rfl⟩
    rw [hb] at ht ⊢
    have HC := Lib.hid hC
    clear hC h3 h0 hb
    cases b with
    | true =>
      obtain rfl := ht.2 rfl
      clear ht
      go_enter Tryd.func51, Tryd.ntmps51
      go_wp2_with (go_at_call 67; refine (HC.out _ hs).mono ?_; rintro e w5 ⟨rfl, hE5⟩)
      go_ret
      exact ⟨rfl, hE5⟩
    | false =>
      have h4 : t.isEmpty = false := by cases t with | nil => exact absurd (ht.1 rfl) (by simp) | cons _ _ => rfl
      clear ht
      go_enter Tryd.func51, Tryd.ntmps51
      go_wp2_with (go_at_call 67; refine (HC.out _ hs).mono ?_; rintro e w5 ⟨rfl, hE5⟩)
      go_ret
      exact ⟨rfl, hE5⟩
theorem U32s.butAll {rs : List Nat} {a b : World} {v : Value} {l : List Nat} (h : U32s a v l) (hbox : ∀ r, r ∈ rs → Box a r) (hB : But rs a b) : U32s b v l := by
  obtain ⟨ad, c, rfl, hc, hd, hn, hz, hcell⟩ := h
  refine ⟨ad, c, rfl, hc, hd, hn, hz, ?_⟩
  rcases hcell with rfl | ⟨p, o, rfl, hlt, hcell⟩
  · exact .inl rfl
  rcases l with _ | ⟨d, l⟩
  · exact .inl rfl
  refine .inr ⟨p, o, rfl, Nat.lt_of_lt_of_le hlt hB.size, fun k hk => ?_⟩
  have hne : p ∉ rs := by
    intro hm
    obtain ⟨cs, t, h1, h2⟩ := hbox p hm
    have h0 := hcell 0 (by simp)
    simp only [World.cell?, h1] at h0
    have := List.all_eq_true.1 h2 _ (Array.mem_toList_iff.2 (Array.mem_of_getElem? h0))
    simp [noU] at this
  exact (World.cell?_of_block (w := a) (a := ⟨p, o + k, none⟩) (hB.block p hlt hne)).trans (hcell k hk)
theorem IsInt.butAll {rs : List Nat} {n : Nat} {a b : World} {v : Value} {z : Int} (h : IsInt n a v z) (hbox : ∀ r, r ∈ rs → Box a r) (hB : But rs a b) : IsInt n b v z := by
  obtain ⟨neg, sv, l, hv, hu, rest⟩ := h
  exact ⟨neg, sv, l, hv, hu.butAll hbox hB, rest⟩
attribute [local irreducible] IsInt U32s Dig Norm Own IsRat
set_option maxRecDepth 100000 in
set_option maxHeartbeats 1000000 in
theorem decimal_power (w : World) (n : Nat) (hn : n ≤ 1000) :
    Calls Tryd.prog 38 #[.int .i64 (n : Int)] w fun e w' => ∃ v, e = .returned v ∧ IsInt (3 * (n + 1)) w' v ((10 ^ n : Nat) : Int) ∧ Ext w w' := by
  go_enter Tryd.func38, Tryd.ntmps38
  go_upto_region 1 with (fail)
  obtain ⟨w3, r, e1, e2, h3, hE⟩ := box1 w (.cells #[.bool false, .slice none 0 0] 36)
  rw [e1, e2]
  have hr0 : w.heap.size ≤ r := by omega
  clear e1 e2
  go_upto_region 2 with ((go_at_call 44; refine (integer_FromInt64 _ 1 (by omega) (by omega)).mono ?_; rintro e w4 ⟨vx, rfl, hx, hEx⟩; obtain ⟨nx, ax, kx, cx, rfl⟩ := IsInt.form hx))
  obtain ⟨w5, p, f1, f2, h1, hE1⟩ := box1 w4 (.cells #[.bool nx, .slice ax kx cx] 36)
  rw [f1, f2]
  have hp0 : w.heap.size ≤ p ∧ r < p := by have := hE.size; have := hEx.size; have := (Array.getElem?_eq_some_iff.1 h3).1; omega
  clear f1 f2
  go_upto_region 3 with ((go_at_call 44; refine (integer_FromInt64 _ 10 (by omega) (by omega)).mono ?_; rintro e w6 ⟨vy, rfl, hy, hEy⟩; obtain ⟨ny, ay, ky, cy, rfl⟩ := IsInt.form hy))
  obtain ⟨w7, q, f1, f2, h2, hE2⟩ := box1 w6 (.cells #[.bool ny, .slice ay ky cy] 36)
  rw [f1, f2]
  have hq0 : w.heap.size ≤ q ∧ r < q ∧ p < q := by have := hE.size; have := hEx.size; have := (Array.getElem?_eq_some_iff.1 h1).1; have := hE1.size; have := hEy.size; omega
  clear f1 f2
  have h3' := hE2.blk (hEy.blk (hE1.blk (hEx.blk h3)))
  have h1' := hE2.blk (hEy.blk h1)
  have hx' := hx.ext (show Ext w4 w7 by exact exttI)
  have hy' := hy.ext hE2
  have hEw : Ext w w7 := by exact exttI
  clear hE hEx hE1 hEy hE2 h3 h1 hx hy
  go_wp2_with (first | fail)
  go_loopw [8] (fun i w' => ∃ (k : Nat) (nc : Bool) (ac : Option Addr) (kc cc : Nat), k ≤ n ∧ i = .int .i64 k ∧ w'.heap[p]? = some (.cells #[.bool nc, .slice ac kc cc] 36) ∧ IsInt (3 * (k + 1)) w' (.agg #[.bool nc, .slice ac kc cc]) ((10 ^ k : Nat) : Int) ∧ But [p] w7 w') (fun i _ => n - (intOf i).toNat)
  case atStart => exact ⟨0, _, _, _, _, by omega, rfl, h1', hx', But.start1 (Box.mk h1' rfl)⟩
  case round =>
    have hbp : Box w7 p := Box.mk h1' rfl
    clear h1' hx'
    obtain ⟨k, nc, ac, kc, cc, hk, rfl, h1, hc, hB⟩ := hrel
    have hEr : Ext w wr := hB.old hEw (by simp; omega)
    have h2r := (hB.block q (Array.getElem?_eq_some_iff.1 h2).1 (by simp; omega)).trans h2
    have h3r := (hB.block r (Array.getElem?_eq_some_iff.1 h3').1 (by simp; omega)).trans h3'
    by_cases hlt : k < n
    · have hyr : IsInt 3 wr (.agg #[.bool ny, .slice ay ky cy]) 10 := hy'.butAll (by simpa using hbp) hB
      obtain ⟨Rp0, Fp0⟩ := rules h1 0 _ rfl
      obtain ⟨Rp1, Fp1⟩ := rules h1 1 _ rfl
      obtain ⟨Rq0, Fq0⟩ := rules h2r 0 _ rfl
      obtain ⟨Rq1, Fq1⟩ := rules h2r 1 _ rfl
      have hX := Ext.rfl' wr
      go_wp2_with ((go_at_call 42; refine (integer_Mul _ _ _ _ _ _ _ hc hyr (by omega) (by omega)).mono ?_; rintro e w8 ⟨vz, rfl, hz, hEz⟩; obtain ⟨nz, az, kz, cz, rfl⟩ := IsInt.form hz); have hXw8 := (show Ext wr w8 by exact exttI))
      have k1 := hXw8.blk h1
      go_roundw
      case rel => exact ⟨k + 1, nz, az, kz, cz, by omega, by go_num, by exact heaptI, IsInt.cast (z := ((10 ^ k : Nat) : Int) * 10) (IsInt.mono (n := 3 * (k + 1) + 3) (by exact inttI) (by omega)) (by rw [Nat.pow_succ, Int.natCast_mul]; rfl), by exact buttI⟩
      case measure => simp [intOf]; omega
    · obtain rfl : k = n := by omega
      obtain ⟨Rp0, Fp0⟩ := rules h1 0 _ rfl
      obtain ⟨Rp1, Fp1⟩ := rules h1 1 _ rfl
      obtain ⟨Rr0, Fr0⟩ := rules h3r 0 _ rfl
      obtain ⟨Rr1, Fr1⟩ := rules h3r 1 _ rfl
      have hX := Ext.rfl' wr
      have hE9 : Ext w wr := hEr
      clear hB
      have hbx : Box wr r := Box.mk h3r rfl
      have hB : But [r] wr wr := by exact buttI
      have hBr0 := Rr0 _ hX
      have hBr1 := Rr1 _ hX
      go_wp2_with (first | fail)
      exact bodyPost_ret (v := .agg #[.bool nc, .slice ac kc cc]) (by simp [results, Tryd.results38, go_sem, hBr0, hBr1]) rfl ⟨_, rfl, IsInt.put hc hB (by simp) rfl, ((hB.set _ _ rfl (by simp)).set _ _ rfl (by simp)).old hE9 (by simp; omega)⟩
end Go.Proofs.YtechjiiijiipdaaDoor

/- Walk: integer.Parse at decimal digits. -/
import Derived.Test.YtechjiiijiipdaaDoorW16
import Derived.Test.YtechjiiijiipdaaDoorStr
import Derived.Test.YtechjiiijiipdaaDoorDec
import Derived.Laws.IdiomStrings
namespace Go.Proofs.YtechjiiijiipdaaDoor
open Go.RowKit
set_option linter.unusedSimpArgs false
set_option linter.unusedVariables false
/-- '[]byte(s)'. -/
theorem bytes_of (w : World) (s : ByteArray) : ∃ w1 cap, (convert 9 55 (.string s)).run Tryd.prog w = .ok (.slice (some ⟨w.heap.size, 0, none⟩) s.size cap) w1 ∧ Ext w w1 ∧ w.heap.size < w1.heap.size ∧
    ∀ i (h : i < s.data.toList.length), w1.cell? ⟨w.heap.size, i, none⟩ = some (.int .u8 (s.data.toList[i].toNat : Int)) := by
  refine ⟨_, _, run_bytes_of_string w 9 55 5 s Tryd.underlying9 Tryd.underlying55 Tryd.underlying5, (Ext.rfl' w).drew'.alloc' _, by simp, fun i h => ?_⟩
  have h' : i < s.data.size := by simpa using h
  have e : ∀ (o : Obj), (w.drew.alloc o).heap[w.heap.size]? = some o := fun o => heap_alloc_new w.drew o
  simp only [World.cell?, e, bytesRow_at s _ i h', Array.getElem_toList]
  rfl
theorem Own.exta {base : Nat} {w w' : World} {v : Value} {l : List Nat} (h : Own base w v l) (e : Ext w w') : Own base w' v l := by
  refine Own.kept (row := none) h ⟨e.os, e.tape, e.output, e.size, fun k hk _ => e.block k hk⟩ ?_
  cases v.ownBlock with
  | none => exact .inl rfl
  | some k => exact .inr (by simp)
theorem dec_small {C : List UInt8} (h : AllD C) {t : Nat} (ht : t ≤ 8) : dec (C.take t) ≤ 99999999 := by
  have h1 := dec_lt (h.take t)
  have h2 : (C.take t).length ≤ t := List.length_take_le _ _
  have h3 : 10 ^ (C.take t).length ≤ 10 ^ 8 := Nat.pow_le_pow_right (by omega) (by omega)
  omega
theorem dec_nine {C : List UInt8} (h : AllD C) (ht : C.length ≤ 9) : dec C < 1000000000 := by
  have h1 := dec_lt h
  have h3 : 10 ^ C.length ≤ 10 ^ 9 := Nat.pow_le_pow_right (by omega) ht
  omega
theorem dec_take_getD {l : List UInt8} {k : Nat} (h : k < l.length) : dec (l.take (k + 1)) = 10 * dec (l.take k) + ((l.getD k 0).toNat - 48) := by
  rw [dec_take_succ h]; simp [h]
theorem AllD.getD {l : List UInt8} (h : AllD l) {k : Nat} (hk : k < l.length) : 48 ≤ (l.getD k 0).toNat ∧ (l.getD k 0).toNat ≤ 57 := by
  have e : l.getD k 0 = l[k] := by simp [hk]
  rw [e]; exact h _ (List.getElem_mem hk)
theorem chunk_len {ds : List UInt8} {k : Nat} (hk : k ≤ ds.length) : ((ds.take k).drop (max 0 ((k : Int) - 9)).toNat).length ≤ 9 ∧ (0 < k → 0 < ((ds.take k).drop (max 0 ((k : Int) - 9)).toNat).length) := by
  simp only [List.length_drop, List.length_take]
  omega
attribute [local irreducible] IsInt U32s Dig Norm Own IsRat AllD dec
set_option maxRecDepth 100000 in
set_option maxHeartbeats 4000000 in
theorem integer_Parse (w : World) (s : ByteArray) (neg : Bool) (ds : List UInt8) (hs : s.data.toList = sig neg ds) (hd : AllD ds) (hne : ds ≠ []) (h0 : ds.head? = some 48 → ds = [48] ∧ neg = false) (hsz : s.size ≤ 65536) :
    Calls Tryd.prog 36 #[.string s] w fun e w' => ∃ v, e = .returned (.tuple #[v, .int .i64 0]) ∧ IsInt (ds.length / 9 + 1) w' v (sgn neg (dec ds)) ∧ Ext w w' := by
  have h45 : ds.head? ≠ some 45 := by
    intro h
    cases ds with
    | nil => simp at h
    | cons c l =>
      have := by unfold AllD at hd; exact hd c (List.mem_cons_self ..)
      simp at h
      subst h
      simp at this
  have hcp := cutPrefix_sig s neg ds hs h45
  obtain ⟨b, hb⟩ : ∃ b : ByteArray, b = ⟨ds.toArray⟩ := ⟨_, rfl⟩
  have hbl : b.data.toList = ds := by rw [hb]
  have hbs : b.size = ds.length := by rw [Lib.size_eq, hbl]
  have hlen : ds.length ≤ 65536 := by
    have : s.size = (sig neg ds).length := by rw [Lib.size_eq, hs]
    cases neg <;> simp [sig] at this <;> omega
  have hb0 : 0 < b.size := by have := List.length_pos_iff.2 hne; omega
  rw [← hb] at hcp
  have HCP := Lib.hid hcp
  have hbt : b.toList.isEmpty = false := by
    rw [Lib.toList_data, hbl]; cases ds with | nil => exact absurd rfl hne | cons _ _ => rfl
  have hbt2 : (b.toList == []) = false := by
    rw [Lib.toList_data, hbl]; cases ds with | nil => exact absurd rfl hne | cons _ _ => rfl
  have hszI : decide ((65536 : Int) < (s.size : Int)) = false := by simp; omega
  have hb6 : b.size ≤ 65536 := by omega
  have HB := Lib.hid hbl
  have HS := Lib.hid hbs
  have h0B : Hid (b[0].toNat = 48 → b.size = 1 ∧ neg = false) := by
    intro h
    have e : ds.head? = some b[0] := by
      have h1 : ds[0]? = some b[0] := by rw [← hbl]; simp [hb0]; rfl
      rw [List.head?_eq_getElem?]; exact h1
    have e2 : b[0] = 48 := by apply UInt8.toNat_inj.1; exact h
    rw [e2] at e
    obtain ⟨h2, h3⟩ := h0 e
    exact ⟨by rw [hbs, h2]; rfl, h3⟩
  clear hb hcp hs hbl hbs h0 h45
  go_enter Tryd.func36, Tryd.ntmps36
  go_upto_region 1 with (fail)
  obtain ⟨w3, r, e1, e2, h3, hE⟩ := box1 w (.cells #[.bool false, .slice none 0 0] 36)
  rw [e1, e2]
  have hr0 : w.heap.size ≤ r := by omega
  clear e1 e2
  go_upto_region 2 with (go_at_call 49; refine (HCP.out _).mono ?_; rintro e w' ⟨rfl, rfl⟩)
  go_cut [36] (fun t w' => t = .bool false ∧ w' = w3)
  case first =>
    by_cases h48 : b[0].toNat = 48
    · obtain ⟨h1, rfl⟩ := h0B.out h48
      have e48 : ((b[0].toNat : Int) == 48) = true := by simp; omega
      have e1 : decide ((1 : Int) < (b.size : Int)) = false := by simp; omega
      clear h1 h48
      go_wp2_with fail
      go_meet
      exact ⟨rfl, rfl⟩
    · have e48 : ((b[0].toNat : Int) == 48) = false := by simp; omega
      clear h48
      go_wp2_with fail
      go_meet
      exact ⟨rfl, rfl⟩
  case rest =>
    obtain ⟨rfl, rfl⟩ := hcut
    clear h0B hbt hbt2 hszI HCP
    go_wp2_with fail
    go_loop [40] (fun i => ∃ k : Nat, k ≤ b.size ∧ i = .int .i64 k) (fun i => b.size - (intOf i).toNat)
    case atStart => exact ⟨0, by omega, rfl⟩
    case round =>
      obtain ⟨k, hk, rfl⟩ := hrel
      by_cases hlt : k < b.size
      · have hdk : 48 ≤ (b[k].toNat : Int) ∧ (b[k].toNat : Int) ≤ 57 := by
          have h1 : b[k] ∈ ds := by rw [← HB.out]; exact Array.mem_toList_iff.2 (Array.getElem_mem _)
          have h2 := hd
          unfold AllD at h2
          have := h2 _ h1
          omega
        obtain ⟨hd1, hd2⟩ := hdk
        go_wp2_with fail
        go_round
        case rel => exact ⟨k + 1, by omega, by go_num⟩
        case measure => simp [intOf]; omega
      · obtain rfl : k = b.size := by omega
        go_wp2_with fail
        go_loopw [7, 8] (fun l e w' => ∃ (q : List Nat) (j : Int), e = .int .i64 j ∧ j ≤ (b.size : Int) ∧ -9 < j ∧ Own wc.heap.size w' l q ∧ Dig q ∧ q.length ≤ b.size / 9 + 1 ∧
          Hid (0 ≤ j → 9 * q.length + j.toNat = b.size ∧ val q + 1000000000 ^ q.length * dec (ds.take j.toNat) = dec ds) ∧ Hid (j ≤ 0 → val q = dec ds) ∧ Ext wc w') (fun _ e _ => (intOf e + 9).toNat)
        case atStart => exact ⟨[], b.size, rfl, by omega, by omega, Own.nil _ _, Dig.nil, by simp, Lib.hid (fun _ => ⟨by simp, by rw [show ((b.size : Int)).toNat = ds.length by have := HS.out; omega, List.take_length]; simp [val]⟩), Lib.hid (fun h => by omega), Ext.rfl' _⟩
        case round =>
          obtain ⟨q, j, rfl, hj1, hj2, hown, dq, hql, hinv, hend, hE3⟩ := hrel
          by_cases hj0 : 0 < j
          · obtain ⟨k, rfl⟩ : ∃ k : Nat, j = k := ⟨j.toNat, by omega⟩
            have hkl : k ≤ ds.length := by have := HS.out; omega
            obtain ⟨cl1, cl2⟩ := chunk_len (ds := ds) hkl
            have cd : AllD ((ds.take k).drop (max 0 ((k : Int) - 9)).toNat) := (hd.take k).drop _
            obtain ⟨w1, cap, hconv, hE1, hlt1, hcell⟩ := bytes_of wr (b.extract (max 0 ((k : Int) - 9)).toNat k)
            have hxs : (b.extract (max 0 ((k : Int) - 9)).toNat k).data.toList = (ds.take k).drop (max 0 ((k : Int) - 9)).toNat := by
              rw [Lib.extract_data, HB.out, List.drop_take]
            have hsz1 : (b.extract (max 0 ((k : Int) - 9)).toNat k).size = ((ds.take k).drop (max 0 ((k : Int) - 9)).toNat).length := by
              rw [Lib.size_eq, hxs]
            have hcell' : ∀ i, i < ((ds.take k).drop (max 0 ((k : Int) - 9)).toNat).length → w1.cell? ⟨wr.heap.size, i, none⟩ = some (.int .u8 ((((ds.take k).drop (max 0 ((k : Int) - 9)).toNat).getD i 0).toNat : Int)) := by
              intro i hi
              have := hcell i (by rw [hxs]; exact hi)
              rw [this]
              simp only [hxs]
              rw [List.getD_eq_getElem?_getD, List.getElem?_eq_getElem hi]
              rfl
            rw [hsz1] at hconv
            clear hcell hxs hsz1
            have stp1 := (fun (h9 : 9 ≤ k) h => @parse_step ds k q hkl h9 h)
            have stp2 := (@parse_last ds k q)
            have stp3 : Hid ((val q + 1000000000 ^ q.length * dec (ds.take k) = dec ds) → (9 ≤ k → val (q ++ [dec ((ds.take k).drop (max 0 ((k : Int) - 9)).toNat)]) + 1000000000 ^ (q ++ [dec ((ds.take k).drop (max 0 ((k : Int) - 9)).toNat)]).length * dec (ds.take (k - 9)) = dec ds) ∧
                (k ≤ 9 → val (q ++ [dec ((ds.take k).drop (max 0 ((k : Int) - 9)).toNat)]) = dec ds)) := by
              refine Lib.hid (fun h => ⟨fun h9 => ?_, fun h9 => ?_⟩)
              · rw [show (max 0 ((k : Int) - 9)).toNat = k - 9 by omega]; exact stp1 h9 h
              · rw [show (max 0 ((k : Int) - 9)).toNat = 0 by omega]; exact stp2 h
            clear stp1 stp2
            generalize hC : (ds.take k).drop (max 0 ((k : Int) - 9)).toNat = C at *
            clear hC
            have HC := Lib.hid hcell'
            clear hcell'
            obtain ⟨m, hm⟩ : ∃ m, C.length = m := ⟨_, rfl⟩
            rw [hm] at hconv cl1 cl2
            have HM := Lib.hid hm
            clear hm
            have hown1 := hown.exta hE1
            replace hE3 := hE3.trans' hE1
            clear hown
            go_wp2_with fail
            clear hconv
            go_loop [9, 69] (fun x i => ∃ t : Nat, t ≤ m ∧ i = .int .i64 t ∧ x = .int .u32 (dec (C.take t) : Nat)) (fun _ i => m - (intOf i).toNat)
            case atStart => exact ⟨0, by omega, rfl, by simp [dec_nil]⟩
            case round =>
              obtain ⟨t, ht, rfl, rfl⟩ := hrel
              by_cases htm : t < m
              · have hcl := HC.out t (by have := HM.out; omega)
                obtain ⟨d1, d2⟩ := cd.getD (k := t) (by have := HM.out; omega)
                have hx8 := dec_small cd (t := t) (by omega)
                have stp := Lib.hid (@dec_take_getD C t (by have := HM.out; omega))
                generalize C.getD t 0 = c at *
                generalize dec (C.take t) = x at *
                have d1' : 48 ≤ (c.toNat : Int) := by omega
                have d2' : (c.toNat : Int) ≤ 57 := by omega
                have hx8' : (x : Int) ≤ 99999999 := by omega
                go_wp2_with fail
                go_round
                case rel => exact ⟨t + 1, by omega, by go_num, by rw [stp.out]; congr 1; omega⟩
                case measure => simp [intOf]; omega
              · obtain rfl : t = m := by omega
                have h9 := dec_nine cd (by have := HM.out; omega)
                rw [List.take_of_length_le (by have := HM.out; omega)]
                generalize dec C = x at *
                have hq4 : q.length < 4000000 := by omega
                go_wp2_with (at_builtin; refine wpList_app1 rfl _ _ rfl rfl rfl hown1 (d := x) rfl hq4 (by exact hE3.size) ?_; intro v' w' hown' hg')
                go_roundw
                case rel => exact ⟨q ++ [x], (k : Int) - 9, rfl, by omega, by omega, hown', Dig.append.2 ⟨dq, by simp [Dig]; omega⟩, by
                  have := (hinv.out (by omega)).1
                  simp; omega, Lib.hid (fun h => by
                  have h1 := hinv.out (by omega)
                  have h2 := (stp3.out (by simpa using h1.2)).1 (by omega)
                  rw [show ((k : Int) - 9).toNat = k - 9 by omega]
                  exact ⟨by rw [List.length_append]; simp; omega, h2⟩), Lib.hid (fun h => (stp3.out (by simpa using (hinv.out (by omega)).2)).2 (by omega)), (hE3.alloc' _).grown' hg' hown1.block⟩
                case measure => simp only [intOf]; omega
          · have hv := Lib.hid (hend.out (by omega))
            clear hinv hend
            replace hE : Ext w wr := hE.trans' hE3
            obtain ⟨Rr0, Fr0⟩ := rules (hE3.blk h3) 0 _ rfl
            obtain ⟨Rr1, Fr1⟩ := rules (hE3.blk h3) 1 _ rfl
            have hXr := Ext.rfl' wr
            have hu := hown.u32 dq.u32 (by omega)
            obtain ⟨aq, cq, rfl, _, _⟩ := hu.shape
            go_wp2_with ((go_at_call 53; refine (integer_signed _ _ _ _ (by exact hu) (by exact dq)).mono ?_; rintro e w5 ⟨vx, rfl, hx, hEx⟩; obtain ⟨nx, ax, lx, cx, rfl, ux, dx, nnx, lnx, sx, qx, _⟩ := IsInt.shape hx; have ex := Lib.hid qx; clear qx); have hXw5 := (show Ext wr w5 by exact exttI))
            have h3' := hE3.blk h3
            have hE9 : Ext w w5 := by exact exttI
            have k9 := hXw5.blk h3'
            have hbx : Box w5 r := Box.mk k9 rfl
            have hB : But [r] w5 w5 := by exact buttI
            have hBr0 := Rr0 _ hXw5
            have hBr1 := Rr1 _ hXw5
            exact bodyPost_ret (v := .tuple #[.agg #[.bool nx, .slice ax lx.length cx], .int .i64 0]) (by simp [results, Tryd.results36, go_sem, hBr0, hBr1]) rfl ⟨_, rfl, IsInt.put ((hx.mono (by have := HS.out; omega)).cast (by rw [hv.out])) hB (by simp) rfl, ((hB.set _ _ rfl (by simp)).set _ _ rfl (by simp)).old hE9 (by simp; omega)⟩
end Go.Proofs.YtechjiiijiipdaaDoor

/- Walks: decimal.digits. -/
import Derived.Test.YtechjiiijiipdaaDoorW18
namespace Go.Proofs.YtechjiiijiipdaaDoor
open Go.RowKit
set_option linter.unusedSimpArgs false
set_option linter.unusedVariables false

def okD (l : List UInt8) : Bool :=
  plainB (whole (bodyOf l)) && !(decide (1 < (whole (bodyOf l)).length) && (whole (bodyOf l)).head? == some 48) && (!dotted (bodyOf l) || plainB (frac (bodyOf l)) && decide ((frac (bodyOf l)).length ≤ 30))
def allD (l : List UInt8) : List UInt8 := (whole (bodyOf l) ++ frac (bodyOf l)).dropWhile (· == 48)
/-- What 'digits' returns. -/
def digF (l : List UInt8) : List UInt8 × Nat × Bool :=
  if l.length ≤ 65536 ∧ okD l = true then if allD l = [] then ([48], (frac (bodyOf l)).length, !isNeg l) else (sig (isNeg l) (allD l), (frac (bodyOf l)).length, true) else ([], 0, false)
theorem whole_le (l : List UInt8) : (whole l).length ≤ l.length := (List.takeWhile_prefix _).length_le
theorem frac_le (l : List UInt8) : (frac l).length ≤ l.length := by
  unfold frac
  have := (List.dropWhile_suffix (l := l) (· != 46)).length_le
  simp only [List.length_drop]
  omega
theorem bodyOf_le (l : List UInt8) : (bodyOf l).length ≤ l.length := by
  unfold bodyOf; split <;> simp
theorem ba_toList (x : List UInt8) : (⟨x.toArray⟩ : ByteArray).data.toList = x := by simp
theorem strings_TrimLeft_zero (x : List UInt8) (w : World) :
    Calls Tryd.prog 52 #[.string ⟨x.toArray⟩, .string ⟨#[48]⟩] w fun e w' => e = .returned (.string ⟨(x.dropWhile (· == 48)).toArray⟩) ∧ w = w' :=
  (Any.strings_TrimLeft_one Tryd.lays161 ⟨x.toArray⟩ 48 (by decide) w).mono (by rintro e w' ⟨rfl, rfl⟩; exact ⟨rfl, rfl⟩)

set_option maxRecDepth 100000 in
set_option maxHeartbeats 4000000 in
theorem decimal_digits (s : ByteArray) (w : World) (hs : s.size ≤ 4000000000) :
    Calls Tryd.prog 35 #[.string s] w fun e w' => e = .returned (.tuple #[.string ⟨(digF s.data.toList).1.toArray⟩, .int .i64 (digF s.data.toList).2.1, .bool (digF s.data.toList).2.2]) ∧ Ext w w' := by
  have hsl := Lib.size_eq s
  by_cases hl : 65536 < s.size
  · have hd : digF s.data.toList = ([], 0, false) := by unfold digF; rw [if_neg (by omega)]
    have hI : (65536 : Int) < (s.size : Int) := by omega
    rw [hd]
    clear hd hl hsl
    go_enter Tryd.func35, Tryd.ntmps35
    go_wp2
    go_ret3
    exact ⟨rfl, Ext.rfl' _⟩
  · have hI : ¬ (65536 : Int) < (s.size : Int) := by omega
    have hCP := cutPrefix_any s
    have hb1 := bodyOf_le s.data.toList
    have hb2 := whole_le (bodyOf s.data.toList)
    have hb3 := frac_le (bodyOf s.data.toList)
    have hd : digF s.data.toList = if okD s.data.toList = true then if allD s.data.toList = [] then ([48], (frac (bodyOf s.data.toList)).length, !isNeg s.data.toList) else (sig (isNeg s.data.toList) (allD s.data.toList), (frac (bodyOf s.data.toList)).length, true) else ([], 0, false) := by
      unfold digF
      have : s.data.toList.length ≤ 65536 := by omega
      simp only [this, true_and]
    unfold okD allD at hd
    rw [hd]
    clear hd
    generalize hB : bodyOf s.data.toList = B at *
    generalize isNeg s.data.toList = N at *
    have hC := strings_Cut_dot ⟨B.toArray⟩
    rw [ba_toList] at hC
    generalize whole B = X at *
    generalize frac B = Y at *
    generalize dotted B = D at *
    have hpx := decimal_plain ⟨X.toArray⟩
    have hpy := decimal_plain ⟨Y.toArray⟩
    rw [ba_toList] at hpx hpy
    generalize plainB X = px at *
    generalize plainB Y = py at *
    have hT := strings_TrimLeft_zero (X ++ Y)
    have hZl : ((X ++ Y).dropWhile (· == 48)).length ≤ X.length + Y.length := by
      have := (List.dropWhile_suffix (l := X ++ Y) (· == 48)).length_le
      rwa [List.length_append] at this
    generalize (X ++ Y).dropWhile (· == 48) = Z at *
    obtain ⟨z0, hz0⟩ : ∃ z0 : Bool, (decide (1 < X.length) && X.head? == some 48) = z0 := ⟨_, rfl⟩
    rw [hz0]
    obtain ⟨x, hx⟩ : ∃ x : ByteArray, x = ⟨X.toArray⟩ := ⟨_, rfl⟩
    obtain ⟨y, hy⟩ : ∃ y : ByteArray, y = ⟨Y.toArray⟩ := ⟨_, rfl⟩
    have hxs : x.size = X.length := by rw [hx]; simp [ByteArray.size]
    have hys : y.size = Y.length := by rw [hy]; simp [ByteArray.size]
    have hxy : (⟨(X ++ Y).toArray⟩ : ByteArray) = x ++ y := by rw [hx, hy]; ext1; simp
    have hx0 : (h : 0 < x.size) → (x[0].toNat = 48 ↔ X.head? = some 48) := by
      intro h
      subst hx
      cases X with
      | nil => simp [ByteArray.size] at h
      | cons c t =>
        have : (⟨(c :: t).toArray⟩ : ByteArray)[0] = c := rfl
        simp only [this, List.head?_cons, Option.some.injEq]
        exact ⟨fun h => UInt8.toNat_inj.1 h, fun h => by rw [h]; rfl⟩
    rw [← hx] at hC hpx
    rw [← hy] at hC hpy
    rw [hxy] at hT
    obtain ⟨ok, hok⟩ : ∃ ok : Bool, (px && !z0 && (!D || py && decide (Y.length ≤ 30))) = ok := ⟨_, rfl⟩
    rw [hok]
    obtain ⟨R, hR⟩ : ∃ R : List UInt8 × Nat × Bool, (if ok = true then if Z = [] then ([48], Y.length, !N) else (sig N Z, Y.length, true) else ([], 0, false)) = R := ⟨_, rfl⟩
    rw [hR]
    have HR := Lib.hid hR
    clear hR
    have hXs : x.size ≤ 4000000000 := by omega
    have hYs : y.size ≤ 4000000000 := by omega
    have hBs : (⟨B.toArray⟩ : ByteArray).size ≤ 4000000000 := by simp only [ByteArray.size, List.size_toArray]; omega
    have hXY : x.size + y.size ≤ 8000000000 := by omega
    generalize (⟨B.toArray⟩ : ByteArray) = b at *
    obtain ⟨z, hz⟩ : ∃ z : ByteArray, z = ⟨Z.toArray⟩ := ⟨_, rfl⟩
    rw [← hz] at hT
    have hZs : 1 + z.size ≤ 8000000001 := by rw [hz]; simp only [ByteArray.size, List.size_toArray]; omega
    have hzt : z.toList = Z := by rw [Lib.toList_data, hz]
    have HCP := Lib.hid hCP
    have HC := Lib.hid (fun w => hC w hBs)
    have HPX := Lib.hid (fun w => hpx w hXs)
    have HPY := Lib.hid (fun w => hpy w hYs)
    have HT := Lib.hid hT
    have HZ0 := Lib.hid hz0
    have HOK := Lib.hid hok
    have HZ := Lib.hid hz
    have HXS := Lib.hid hxs
    have HYS := Lib.hid hys
    have HX0 := Lib.hid hx0
    have HZT := Lib.hid hzt
    clear hCP hC hpx hpy hT hz0 hok hz hxs hys hx0 hzt hx hy hxy hB hsl hb1 hb2 hb3 hl hZl
    go_enter Tryd.func35, Tryd.ntmps35
    go_upto_region 5 with (first | (go_at_call 49; refine (HCP.out _).mono ?_; rintro e w' ⟨rfl, rfl⟩) | (go_at_call 50; refine (HC.out _).mono ?_; rintro e w3 ⟨rfl, hD3⟩; replace hD3 := hD3.ext))
    go_cut [50] (fun t w' => t = .bool (!ok) ∧ Ext w w')
    case first =>
      cases px with
      | false =>
        have e : ok = false := by rw [← HOK.out]; rfl
        go_wp2_with (first | (go_at_call 51; first | ((with_reducible refine (HPX.out _).mono ?_); rintro e w4 ⟨rfl, hE4⟩) | ((with_reducible refine (HPY.out _).mono ?_); rintro e w5 ⟨rfl, hE5⟩)))
        go_meet
        exact ⟨by rw [e]; rfl, by exact exttI⟩
      | true =>
        obtain ⟨zz, hzz⟩ : ∃ zz : Bool, z0 = zz := ⟨_, rfl⟩
        by_cases h1 : 1 < X.length
        · have g1 : decide ((1 : Int) < (x.size : Int)) = true := by have := HXS.out; simp; omega
          have g1' : (1 : Int) < (x.size : Int) := by have := HXS.out; omega
          have g0 : 0 < x.size := by have := HXS.out; omega
          by_cases h48 : X.head? = some 48
          · have e48 : ((x[0].toNat : Int) == 48) = true := by have := (HX0.out g0).2 h48; simp; omega
            have e : ok = false := by rw [← HOK.out, ← HZ0.out, h48]; simp [h1]
            clear h1 h48 hzz
            go_wp2_with (first | (go_at_call 51; first | ((with_reducible refine (HPX.out _).mono ?_); rintro e w4 ⟨rfl, hE4⟩) | ((with_reducible refine (HPY.out _).mono ?_); rintro e w5 ⟨rfl, hE5⟩)))
            go_meet
            exact ⟨by rw [e]; rfl, by exact exttI⟩
          · have e48 : ((x[0].toNat : Int) == 48) = false := by have := mt (HX0.out g0).1 h48; simp; omega
            have ez : z0 = false := by rw [← HZ0.out]; simp [h48]
            clear h1 h48 hzz
            cases D with
            | false =>
              have e : ok = true := by rw [← HOK.out, ez]; rfl
              clear ez
              go_wp2_with (first | (go_at_call 51; first | ((with_reducible refine (HPX.out _).mono ?_); rintro e w4 ⟨rfl, hE4⟩) | ((with_reducible refine (HPY.out _).mono ?_); rintro e w5 ⟨rfl, hE5⟩)))
              go_meet
              exact ⟨by rw [e]; rfl, by exact exttI⟩
            | true =>
              cases py with
              | false =>
                have e : ok = false := by rw [← HOK.out, ez]; rfl
                clear ez
                go_wp2_with (first | (go_at_call 51; first | ((with_reducible refine (HPX.out _).mono ?_); rintro e w4 ⟨rfl, hE4⟩) | ((with_reducible refine (HPY.out _).mono ?_); rintro e w5 ⟨rfl, hE5⟩)))
                go_meet
                exact ⟨by rw [e]; rfl, by exact exttI⟩
              | true =>
                by_cases h30 : Y.length ≤ 30
                · have g2 : decide ((30 : Int) < (y.size : Int)) = false := by have := HYS.out; simp; omega
                  have e : ok = true := by rw [← HOK.out, ez]; simp [h30]
                  clear ez h30
                  go_wp2_with (first | (go_at_call 51; first | ((with_reducible refine (HPX.out _).mono ?_); rintro e w4 ⟨rfl, hE4⟩) | ((with_reducible refine (HPY.out _).mono ?_); rintro e w5 ⟨rfl, hE5⟩)))
                  go_meet
                  exact ⟨by rw [e]; rfl, by exact exttI⟩
                · have g2 : decide ((30 : Int) < (y.size : Int)) = true := by have := HYS.out; simp; omega
                  have e : ok = false := by rw [← HOK.out, ez]; simp [h30]
                  clear ez h30
                  go_wp2_with (first | (go_at_call 51; first | ((with_reducible refine (HPX.out _).mono ?_); rintro e w4 ⟨rfl, hE4⟩) | ((with_reducible refine (HPY.out _).mono ?_); rintro e w5 ⟨rfl, hE5⟩)))
                  go_meet
                  exact ⟨by rw [e]; rfl, by exact exttI⟩
        · have g1 : decide ((1 : Int) < (x.size : Int)) = false := by have := HXS.out; simp; omega
          have ez : z0 = false := by rw [← HZ0.out]; simp [h1]
          clear h1 hzz
          cases D with
          | false =>
            have e : ok = true := by rw [← HOK.out, ez]; rfl
            clear ez
            go_wp2_with (first | (go_at_call 51; first | ((with_reducible refine (HPX.out _).mono ?_); rintro e w4 ⟨rfl, hE4⟩) | ((with_reducible refine (HPY.out _).mono ?_); rintro e w5 ⟨rfl, hE5⟩)))
            go_meet
            exact ⟨by rw [e]; rfl, by exact exttI⟩
          | true =>
            cases py with
            | false =>
              have e : ok = false := by rw [← HOK.out, ez]; rfl
              clear ez
              go_wp2_with (first | (go_at_call 51; first | ((with_reducible refine (HPX.out _).mono ?_); rintro e w4 ⟨rfl, hE4⟩) | ((with_reducible refine (HPY.out _).mono ?_); rintro e w5 ⟨rfl, hE5⟩)))
              go_meet
              exact ⟨by rw [e]; rfl, by exact exttI⟩
            | true =>
              by_cases h30 : Y.length ≤ 30
              · have g2 : decide ((30 : Int) < (y.size : Int)) = false := by have := HYS.out; simp; omega
                have e : ok = true := by rw [← HOK.out, ez]; simp [h30]
                clear ez h30
                go_wp2_with (first | (go_at_call 51; first | ((with_reducible refine (HPX.out _).mono ?_); rintro e w4 ⟨rfl, hE4⟩) | ((with_reducible refine (HPY.out _).mono ?_); rintro e w5 ⟨rfl, hE5⟩)))
                go_meet
                exact ⟨by rw [e]; rfl, by exact exttI⟩
              · have g2 : decide ((30 : Int) < (y.size : Int)) = true := by have := HYS.out; simp; omega
                have e : ok = false := by rw [← HOK.out, ez]; simp [h30]
                clear ez h30
                go_wp2_with (first | (go_at_call 51; first | ((with_reducible refine (HPX.out _).mono ?_); rintro e w4 ⟨rfl, hE4⟩) | ((with_reducible refine (HPY.out _).mono ?_); rintro e w5 ⟨rfl, hE5⟩)))
                go_meet
                exact ⟨by rw [e]; rfl, by exact exttI⟩
    case rest =>
      obtain ⟨rfl, hE⟩ := hcut
      clear HCP HC HPX HPY HZ0 HX0 HOK
      cases ok with
      | false =>
        go_wp2_with fail
        go_ret3
        exact ⟨by rw [← HR.out]; simp, hE⟩
      | true =>
        by_cases hZ : Z = []
        · have hz1 : z.toList.isEmpty = true := by rw [HZT.out, hZ]; rfl
          have HZZ := Lib.hid hZ
          clear hZ
          go_wp2_with (go_at_call 52; refine (HT.out _).mono ?_; rintro e w' ⟨rfl, rfl⟩)
          go_ret3
          refine ⟨?_, hE⟩
          have e : R = ([48], Y.length, !N) := by rw [← HR.out]; simp [HZZ.out]
          rw [e, ← HYS.out]
          rfl
        · have hz1 : z.toList.isEmpty = false := by rw [HZT.out]; cases Z with | nil => exact absurd rfl hZ | cons _ _ => rfl
          have HZZ := Lib.hid hZ
          clear hZ
          cases N with
          | false =>
            go_wp2_with (go_at_call 52; refine (HT.out _).mono ?_; rintro e w' ⟨rfl, rfl⟩)
            go_ret3
            refine ⟨?_, hE⟩
            have e : R = (Z, Y.length, true) := by rw [← HR.out]; simp [HZZ.out, sig]
            rw [e, ← HYS.out, HZ.out]
            rfl
          | true =>
            have e45 : (⟨#[45]⟩ : ByteArray) ++ z = ⟨(45 :: Z).toArray⟩ := by rw [HZ.out]; ext1; simp
            have HE := Lib.hid e45
            clear e45
            go_wp2_with (go_at_call 52; refine (HT.out _).mono ?_; rintro e w' ⟨rfl, rfl⟩)
            go_ret3
            refine ⟨?_, hE⟩
            have e : R = (45 :: Z, Y.length, true) := by rw [← HR.out]; simp [HZZ.out, sig]
            rw [e, ← HYS.out, ← HE.out]
            rfl
end Go.Proofs.YtechjiiijiipdaaDoor

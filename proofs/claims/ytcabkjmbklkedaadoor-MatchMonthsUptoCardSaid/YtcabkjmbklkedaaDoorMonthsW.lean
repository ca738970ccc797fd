/- The walk of the law MatchMonths. -/
import Derived.Test.YtcabkjmbklkedaaDoorMonthsM
namespace Go.Proofs.YtcabkjmbklkedaaDoor.W
open Go.RowKit Go.Proofs.YtcabkjmbklkedaaDoor.Plain

/-- one call of Equal over G, its answer known -/
theorem eq_callsG {G : World → Prop} {n : Int} {T F : Nat} {nf : Bytes → Option Bytes} (K : NKindG G n T F nf) (v a : ByteArray) (lv la : Bytes) (r : Int) (w : World) (hlv : v.data.toList = lv) (hla : a.data.toList = la) (hr : eqT (nf lv) (nf la) = r)
    (hv : lv.length ≤ 1073741824) (ha : la.length ≤ 1073741824) (hg : G w) :
    Calls Tryd.prog 9 #[.int .i64 n, .string v, .string a] w fun e w' => e = .returned (.int .i64 r) ∧ Below w.heap.size w w' := by
  subst hlv hla hr
  exact equal_callsG K v a w (by rw [← len_eq]; exact hv) (by rw [← len_eq]; exact ha) hg

theorem two_to (n : Nat) (x : Int) (hx : x = n) (h : n < 100) (w : World) :
    Calls Tryd.prog 8 #[.int .i64 x] w fun e w' => e = .returned (.string ⟨(twoL n).toArray⟩) ∧ Below w.heap.size w w' := by subst hx; exact two_calls n h w
theorem twoL_len (n : Nat) : (twoL n).length = 2 := rfl
def lastI (d D : Nat) : Nat := if d ≤ 28 then 0 else if d ≤ D + 1 then d - 1 else D

set_option maxRecDepth 100000 in
set_option maxHeartbeats 8000000 in
theorem months_walk {it : Int → Bytes} {G : World → Prop} (H : Has it G) (year month : Int) (a0 : -9223372036854775808 ≤ year) (a1 : year ≤ 9223372036854775807) (b0 : -9223372036854775808 ≤ month) (b1 : month ≤ 9223372036854775807)
    (hf : ∀ y m : Nat, y ≤ 9999 → 1 ≤ m → m ≤ 12 → MonthFacts (timeN it) y m (daysI y m).toNat) (w : World) (hg : G w) :
    Calls Tryd.prog 3 #[.int .i64 year, .int .i64 month] w fun e w' => e = .returned (.bool true) ∧ Below w.heap.size w w' := by
  have HF := Lib.hid hf
  clear hf
  have K := Lib.hid (k_time H)
  go_enter Tryd.func3, Tryd.ntmps3
  go_wp2_with fail
  refine (in_calls year 0 9999 a0 a1 (by omega) (by omega) (by omega) _).mono ?_
  rintro e w1 ⟨⟨r, r0, r1, rfl⟩, rfl⟩
  obtain ⟨y, rfl⟩ : ∃ y : Nat, r = y := ⟨r.toNat, by omega⟩
  go_wp2_with fail
  refine (in_calls month 1 12 b0 b1 (by omega) (by omega) (by omega) _).mono ?_
  rintro e w1 ⟨⟨r, m0, m1, rfl⟩, rfl⟩
  obtain ⟨m, rfl⟩ : ∃ m : Nat, r = m := ⟨r.toNat, by omega⟩
  have hy : y ≤ 9999 := by omega
  have hm0 : 1 ≤ m := by omega
  have hm1 : m ≤ 12 := by omega
  have MF := Lib.hid (HF.out y m hy hm0 hm1)
  clear HF a0 a1 b0 b1
  obtain ⟨D, hD⟩ : ∃ D, (daysI y m).toNat = D := ⟨_, rfl⟩
  have MF2 : Hid (MonthFacts (timeN it) y m D) := by rw [← hD]; exact MF
  clear MF hD
  have dlo := MF2.out.d0
  have dhi := MF2.out.d1
  go_wp2_with fail
  refine (two_to (y / 100) _ (by omega) (by omega) _).mono ?_
  rintro e w1 ⟨rfl, hB1⟩
  go_wp2_with fail
  refine (two_to (y % 100) _ (by omega) (by omega) _).mono ?_
  rintro e w2 ⟨rfl, hB2⟩
  replace hB2 := hB1.trans (hB2.mono hB1.size)
  go_wp2_with fail
  refine (two_to m _ rfl (by omega) _).mono ?_
  rintro e w3 ⟨rfl, hB3⟩
  replace hB3 := hB2.trans (hB3.mono hB2.size)
  go_wp2_with fail
  obtain ⟨Y, hY⟩ : ∃ Y : ByteArray, ((⟨(twoL (y / 100)).toArray⟩ : ByteArray) ++ (⟨(twoL (y % 100)).toArray⟩ : ByteArray) ++ (⟨(twoL m).toArray⟩ : ByteArray)) = Y := ⟨_, rfl⟩
  have hYl : Y.data.toList = ymL y m := by rw [← hY]; simp [ymL]
  have hYs : Y.size = 6 := by rw [← len_eq, hYl]; rfl
  rw [hY]
  have HY := Lib.hid hYl
  have HYS := Lib.hid hYs
  have hY6 : Y.size ≤ 6 := by omega
  clear hY hYl hYs
  go_loopw [8, 9, 10] (fun vl vd vo wr => ∃ d : Nat, 28 ≤ d ∧ d ≤ 32 ∧ vl = .int .i64 (lastI d D : Int) ∧ vd = .int .i64 (d : Int) ∧ Below w.heap.size w wr) (fun _ vd _ _ => 32 - (intOf vd).toNat)
  case atStart => exact ⟨28, by omega, by omega, rfl, rfl, hB3⟩
  case round =>
    obtain ⟨d, hd0, hd1, rfl, rfl, hBw⟩ := hrel
    by_cases hd : d ≤ 31
    · have HE1 := Lib.hid (MF2.out.e1 d hd0 hd)
      by_cases hdD : d ≤ D
      · have HE2 := Lib.hid ((MF2.out.e2 d hd0 hd).trans (if_pos hdD))
        have hne : ¬ (28 : Int) < (d : Int) ∨ ((28 : Int) < (d : Int) ∧ ((lastI d D : Int) != (d : Int) - 1) = false ∧ (lastI d D : Int) = (d : Int) - 1) := by
          by_cases h28 : d = 28
          · exact .inl (by omega)
          · have : lastI d D = d - 1 := by unfold lastI; rw [if_neg (by omega), if_pos (by omega)]
            exact .inr ⟨by omega, by rw [bne_eq_false_iff_eq]; omega, by omega⟩
        rcases hne with g0 | ⟨g1, g2, g3⟩
        all_goals
          have hgw := H.keep _ _ hg hBw
          have hl2 : (twoL d).length ≤ 2 := Nat.le_refl _
          go_wp2_with fail
          refine (two_to d _ rfl (by omega) _).mono ?_
          rintro e v1 ⟨rfl, hV1⟩
          replace hV1 := hBw.trans (hV1.mono hBw.size)
          go_wp2_with fail
          refine (eq_callsG K.out _ _ _ _ _ _ (by simp [HY.out]) (by simp [HY.out]) HE1.out (by simp [ymL, twoL]) (by simp [ymL, twoL]) (H.keep _ _ hg hV1)).mono ?_
          rintro e v2 ⟨rfl, hV2⟩
          replace hV2 := hV1.trans (hV2.mono hV1.size)
          go_wp2_with fail
          refine (two_to d _ rfl (by omega) _).mono ?_
          rintro e v3 ⟨rfl, hV3⟩
          replace hV3 := hV2.trans (hV3.mono hV2.size)
          go_wp2_with fail
          refine (two_to d _ rfl (by omega) _).mono ?_
          rintro e v4 ⟨rfl, hV4⟩
          replace hV4 := hV3.trans (hV4.mono hV3.size)
          go_wp2_with fail
          refine (eq_callsG K.out _ _ _ _ _ _ (by simp [HY.out]) (by simp [HY.out]) HE2.out (by simp [ymL, twoL]) (by simp [ymL, twoL]) (H.keep _ _ hg hV4)).mono ?_
          rintro e v5 ⟨rfl, hV5⟩
          replace hV5 := hV4.trans (hV5.mono hV4.size)
          go_wp2_with fail
          go_roundw
          case rel => exact ⟨d + 1, by omega, by omega, by unfold lastI; rw [if_neg (by omega), if_pos (by omega)]; first | rfl | exact congrArg (Value.int .i64) (by omega), by go_num, hV5⟩
          case measure => simp [intOf]; omega
      · have HE2 := Lib.hid ((MF2.out.e2 d hd0 hd).trans (if_neg hdD))
        have HL : Hid (lastI d D = D ∧ lastI (d + 1) D = D) := Lib.hid ⟨by unfold lastI; rw [if_neg (by omega)]; split <;> omega, by unfold lastI; rw [if_neg (by omega), if_neg (by omega)]⟩
        have hgw := H.keep _ _ hg hBw
        have hl2 : (twoL d).length ≤ 2 := Nat.le_refl _
        go_wp2_with fail
        refine (two_to d _ rfl (by omega) _).mono ?_
        rintro e v1 ⟨rfl, hV1⟩
        replace hV1 := hBw.trans (hV1.mono hBw.size)
        go_wp2_with fail
        refine (eq_callsG K.out _ _ _ _ _ _ (by simp [HY.out]) (by simp [HY.out]) HE1.out (by simp [ymL, twoL]) (by simp [ymL, twoL]) (H.keep _ _ hg hV1)).mono ?_
        rintro e v2 ⟨rfl, hV2⟩
        replace hV2 := hV1.trans (hV2.mono hV1.size)
        go_wp2_with fail
        refine (two_to d _ rfl (by omega) _).mono ?_
        rintro e v3 ⟨rfl, hV3⟩
        replace hV3 := hV2.trans (hV3.mono hV2.size)
        go_wp2_with fail
        refine (two_to d _ rfl (by omega) _).mono ?_
        rintro e v4 ⟨rfl, hV4⟩
        replace hV4 := hV3.trans (hV4.mono hV3.size)
        go_wp2_with fail
        refine (eq_callsG K.out _ _ _ _ _ _ (by simp [HY.out]) (by simp [HY.out]) HE2.out (by simp [ymL, twoL]) (by simp [ymL, twoL]) (H.keep _ _ hg hV4)).mono ?_
        rintro e v5 ⟨rfl, hV5⟩
        replace hV5 := hV4.trans (hV5.mono hV4.size)
        go_wp2_with fail
        go_roundw
        case rel => exact ⟨d + 1, by omega, by omega, by rw [HL.out.1, HL.out.2], by go_num, hV5⟩
        case measure => simp [intOf]; omega
    · obtain rfl : d = 32 := by omega
      have hlast : lastI 32 D = D := by unfold lastI; rw [if_neg (by omega)]; split <;> omega
      rw [hlast]
      have hgw := H.keep _ _ hg hBw
      have hl28 : ¬ (D : Int) < 28 := by omega
      have dm := MF2.out.dm
      have dl := MF2.out.dl
      have hq : ((y : Int) % 4 = 0 ∧ ((y : Int) % 4 == 0) = true ∧ ¬ (y : Int) % 100 = 0 ∧ ((y : Int) % 100 != 0) = true ∧ leapI y = true) ∨ ((y : Int) % 4 = 0 ∧ ((y : Int) % 4 == 0) = true ∧ (y : Int) % 100 = 0 ∧ ((y : Int) % 100 != 0) = false ∧ ((y : Int) % 400 == 0) = true ∧ leapI y = true) ∨
          (¬ (y : Int) % 4 = 0 ∧ ((y : Int) % 4 == 0) = false ∧ leapI y = false) ∨ ((y : Int) % 4 = 0 ∧ ((y : Int) % 4 == 0) = true ∧ (y : Int) % 100 = 0 ∧ ((y : Int) % 100 != 0) = false ∧ ((y : Int) % 400 == 0) = false ∧ leapI y = false) := by
        unfold leapI
        by_cases h4 : (y : Int) % 4 = 0
        · by_cases h1 : (y : Int) % 100 = 0
          · by_cases h5 : (y : Int) % 400 = 0
            · exact .inr (.inl ⟨h4, beq_iff_eq.2 h4, h1, bne_eq_false_iff_eq.2 h1, beq_iff_eq.2 h5, by simp [h4, h1, h5]⟩)
            · exact .inr (.inr (.inr ⟨h4, beq_iff_eq.2 h4, h1, bne_eq_false_iff_eq.2 h1, beq_eq_false_iff_ne.2 h5, by simp [h4, h1, h5]⟩))
          · exact .inl ⟨h4, beq_iff_eq.2 h4, h1, bne_iff_ne.2 h1, by simp [h4, h1]⟩
        · exact .inr (.inr (.inl ⟨h4, beq_eq_false_iff_ne.2 h4, by simp [h4]⟩))
      by_cases hy99 : y = 9999
      · clear hq
        by_cases hm2 : m = 2
        · have HE4 := Lib.hid (MF2.out.e5 (by omega))
          have d30 := dm.1 hm2
          have hl30 : (D : Int) < 30 := by omega
          have hz : ((D : Int) == 29) = false := beq_eq_false_iff_ne.2 (by
            intro h
            have := (dl hm2).2 (by omega)
            rw [hy99] at this
            exact absurd this (by decide))
          subst hm2
          subst hy99
          clear dm dl MF2 d30
          have hl2 : (twoL D).length ≤ 2 := Nat.le_refl _
          go_wp2_with fail
          refine (two_to D _ (by omega) (by omega) _).mono ?_
          rintro e v1 ⟨rfl, hV1⟩
          replace hV1 := hBw.trans (hV1.mono hBw.size)
          go_wp2_with fail
          refine (two_to (9999 / 100) _ (by omega) (by omega) _).mono ?_
          rintro e v2 ⟨rfl, hV2⟩
          replace hV2 := hV1.trans (hV2.mono hV1.size)
          go_wp2_with fail
          refine (two_to (9999 % 100) _ (by omega) (by omega) _).mono ?_
          rintro e v3 ⟨rfl, hV3⟩
          replace hV3 := hV2.trans (hV3.mono hV2.size)
          go_wp2_with fail
          refine (two_to 3 _ (by first | rfl | omega) (by omega) _).mono ?_
          rintro e v4 ⟨rfl, hV4⟩
          replace hV4 := hV3.trans (hV4.mono hV3.size)
          go_wp2_with fail
          refine (eq_callsG K.out _ _ _ _ _ _ (by simp [HY.out, ymL]) (by simp [HY.out, ymL]) HE4.out (by simp [ymL, twoL]) (by simp [ymL, twoL]) (H.keep _ _ hg hV4)).mono ?_
          rintro e v5 ⟨rfl, hV5⟩
          replace hV5 := hV4.trans (hV5.mono hV4.size)
          go_wp2_with fail
          go_ret
          exact ⟨rfl, hV5⟩
        · have hm2b : ((m : Int) == 2) = false := beq_eq_false_iff_ne.2 (by omega)
          have hm2c : ¬ (m : Int) = 2 := by omega
          have hl30 : ¬ (D : Int) < 30 := by have := fun h => hm2 (dm.2 h); omega
          clear dm dl
          by_cases hm12 : m = 12
          · have HE3 := Lib.hid (MF2.out.e3 hy99 hm12)
            subst hy99
            subst hm12
            clear MF2
            have hl2 : (twoL D).length ≤ 2 := Nat.le_refl _
            go_wp2_with fail
            refine (two_to D _ (by omega) (by omega) _).mono ?_
            rintro e v1 ⟨rfl, hV1⟩
            replace hV1 := hBw.trans (hV1.mono hBw.size)
            go_wp2_with fail
            refine (eq_callsG K.out _ _ _ _ _ _ (by simp [HY.out, ymL]) (by simp [HY.out, ymL]) HE3.out.1 (by simp [ymL, twoL]) (by simp [ymL, twoL]) (H.keep _ _ hg hV1)).mono ?_
            rintro e v2 ⟨rfl, hV2⟩
            replace hV2 := hV1.trans (hV2.mono hV1.size)
            go_wp2_with fail
            refine (eq_callsG K.out _ _ _ _ _ _ (by simp [HY.out, ymL]) (by simp [HY.out, ymL]) HE3.out.2 (by simp [ymL, twoL]) (by simp [ymL, twoL]) (H.keep _ _ hg hV2)).mono ?_
            rintro e v3 ⟨rfl, hV3⟩
            replace hV3 := hV2.trans (hV3.mono hV2.size)
            go_wp2_with fail
            go_ret
            exact ⟨rfl, hV3⟩
          · have HE4 := Lib.hid (MF2.out.e5 (by omega))
            have hm9 : ¬ (m : Int) = 12 := by omega
            have hm9b : ((m : Int) == 12) = false := beq_eq_false_iff_ne.2 hm9
            subst hy99
            clear MF2
            have hl2 : (twoL D).length ≤ 2 := Nat.le_refl _
            go_wp2_with fail
            refine (two_to D _ (by omega) (by omega) _).mono ?_
            rintro e v1 ⟨rfl, hV1⟩
            replace hV1 := hBw.trans (hV1.mono hBw.size)
            go_wp2_with fail
            refine (two_to (9999 / 100) _ (by omega) (by omega) _).mono ?_
            rintro e v2 ⟨rfl, hV2⟩
            replace hV2 := hV1.trans (hV2.mono hV1.size)
            go_wp2_with fail
            refine (two_to (9999 % 100) _ (by omega) (by omega) _).mono ?_
            rintro e v3 ⟨rfl, hV3⟩
            replace hV3 := hV2.trans (hV3.mono hV2.size)
            go_wp2_with fail
            refine (two_to (m + 1) _ (by first | rfl | omega) (by omega) _).mono ?_
            rintro e v4 ⟨rfl, hV4⟩
            replace hV4 := hV3.trans (hV4.mono hV3.size)
            go_wp2_with fail
            refine (eq_callsG K.out _ _ _ _ _ _ (by simp [HY.out, ymL]) (by simp [HY.out, ymL]) HE4.out (by simp [ymL, twoL]) (by simp [ymL, twoL]) (H.keep _ _ hg hV4)).mono ?_
            rintro e v5 ⟨rfl, hV5⟩
            replace hV5 := hV4.trans (hV5.mono hV4.size)
            go_wp2_with fail
            go_ret
            exact ⟨rfl, hV5⟩
      · have hy9 : ¬ (y : Int) = 9999 := by omega
        have hy9b : ((y : Int) == 9999) = false := beq_eq_false_iff_ne.2 hy9
        by_cases hm2 : m = 2
        · have d30 := dm.1 hm2
          have hl30 : (D : Int) < 30 := by omega
          have dl2 := dl hm2
          have HE4 := Lib.hid (MF2.out.e5 (by omega))
          subst hm2
          clear dm dl MF2 d30
          have hd29 : (leapI y = true ∧ ((D : Int) == 29) = true ∧ D = 29) ∨ (leapI y = false ∧ ((D : Int) == 29) = false ∧ ¬ D = 29) := by
            by_cases h : D = 29
            · exact .inl ⟨dl2.2 h, beq_iff_eq.2 (by omega), h⟩
            · exact .inr ⟨Bool.eq_false_iff.2 fun e => h (dl2.1 e), beq_eq_false_iff_ne.2 (by omega), h⟩
          clear dl2
          rcases hq with ⟨q1, q2, q3, q4, q5⟩ | ⟨q1, q2, q3, q4, q6, q5⟩ | ⟨q1, q2, q5⟩ | ⟨q1, q2, q3, q4, q6, q5⟩ <;> rcases hd29 with ⟨z1, z2, z3⟩ | ⟨z1, z2, z3⟩
          all_goals first
            | (rw [q5] at z1; exact absurd z1 (by decide))
            | skip
          all_goals clear q5 z1 z3
          all_goals
            have hl2 : (twoL D).length ≤ 2 := Nat.le_refl _
            go_wp2_with fail
            refine (two_to D _ (by omega) (by omega) _).mono ?_
            rintro e v1 ⟨rfl, hV1⟩
            replace hV1 := hBw.trans (hV1.mono hBw.size)
            go_wp2_with fail
            refine (two_to (y / 100) _ (by omega) (by omega) _).mono ?_
            rintro e v2 ⟨rfl, hV2⟩
            replace hV2 := hV1.trans (hV2.mono hV1.size)
            go_wp2_with fail
            refine (two_to (y % 100) _ (by omega) (by omega) _).mono ?_
            rintro e v3 ⟨rfl, hV3⟩
            replace hV3 := hV2.trans (hV3.mono hV2.size)
            go_wp2_with fail
            refine (two_to 3 _ (by first | rfl | omega) (by omega) _).mono ?_
            rintro e v4 ⟨rfl, hV4⟩
            replace hV4 := hV3.trans (hV4.mono hV3.size)
            go_wp2_with fail
            refine (eq_callsG K.out _ _ _ _ _ _ (by simp [HY.out, ymL]) (by simp [HY.out, ymL]) HE4.out (by simp [ymL, twoL]) (by simp [ymL, twoL]) (H.keep _ _ hg hV4)).mono ?_
            rintro e v5 ⟨rfl, hV5⟩
            replace hV5 := hV4.trans (hV5.mono hV4.size)
            go_wp2_with fail
            go_ret
            exact ⟨rfl, hV5⟩
        · have hm2b : ((m : Int) == 2) = false := beq_eq_false_iff_ne.2 (by omega)
          have hm2c : ¬ (m : Int) = 2 := by omega
          have hl30 : ¬ (D : Int) < 30 := by have := fun h => hm2 (dm.2 h); omega
          clear dm dl
          by_cases hm12 : m = 12
          · have HE4 := Lib.hid (MF2.out.e4 (by omega) hm12)
            subst hm12
            clear MF2
            rcases hq with ⟨q1, q2, q3, q4, q5⟩ | ⟨q1, q2, q3, q4, q6, q5⟩ | ⟨q1, q2, q5⟩ | ⟨q1, q2, q3, q4, q6, q5⟩
            all_goals clear q5
            all_goals
              have hl2 : (twoL D).length ≤ 2 := Nat.le_refl _
              go_wp2_with fail
              refine (two_to D _ (by omega) (by omega) _).mono ?_
              rintro e v1 ⟨rfl, hV1⟩
              replace hV1 := hBw.trans (hV1.mono hBw.size)
              go_wp2_with fail
              refine (two_to ((y + 1) / 100) _ (by omega) (by omega) _).mono ?_
              rintro e v2 ⟨rfl, hV2⟩
              replace hV2 := hV1.trans (hV2.mono hV1.size)
              go_wp2_with fail
              refine (two_to ((y + 1) % 100) _ (by omega) (by omega) _).mono ?_
              rintro e v3 ⟨rfl, hV3⟩
              replace hV3 := hV2.trans (hV3.mono hV2.size)
              go_wp2_with fail
              refine (two_to 1 _ (by first | rfl | omega) (by omega) _).mono ?_
              rintro e v4 ⟨rfl, hV4⟩
              replace hV4 := hV3.trans (hV4.mono hV3.size)
              go_wp2_with fail
              refine (eq_callsG K.out _ _ _ _ _ _ (by simp [HY.out, ymL]) (by simp [HY.out, ymL]) HE4.out (by simp [ymL, twoL]) (by simp [ymL, twoL]) (H.keep _ _ hg hV4)).mono ?_
              rintro e v5 ⟨rfl, hV5⟩
              replace hV5 := hV4.trans (hV5.mono hV4.size)
              go_wp2_with fail
              go_ret
              exact ⟨rfl, hV5⟩
          · have HE4 := Lib.hid (MF2.out.e5 (by omega))
            have hm9 : ¬ (m : Int) = 12 := by omega
            have hm9b : ((m : Int) == 12) = false := beq_eq_false_iff_ne.2 hm9
            clear MF2
            rcases hq with ⟨q1, q2, q3, q4, q5⟩ | ⟨q1, q2, q3, q4, q6, q5⟩ | ⟨q1, q2, q5⟩ | ⟨q1, q2, q3, q4, q6, q5⟩
            all_goals clear q5
            all_goals
              have hl2 : (twoL D).length ≤ 2 := Nat.le_refl _
              go_wp2_with fail
              refine (two_to D _ (by omega) (by omega) _).mono ?_
              rintro e v1 ⟨rfl, hV1⟩
              replace hV1 := hBw.trans (hV1.mono hBw.size)
              go_wp2_with fail
              refine (two_to (y / 100) _ (by omega) (by omega) _).mono ?_
              rintro e v2 ⟨rfl, hV2⟩
              replace hV2 := hV1.trans (hV2.mono hV1.size)
              go_wp2_with fail
              refine (two_to (y % 100) _ (by omega) (by omega) _).mono ?_
              rintro e v3 ⟨rfl, hV3⟩
              replace hV3 := hV2.trans (hV3.mono hV2.size)
              go_wp2_with fail
              refine (two_to (m + 1) _ (by first | rfl | omega) (by omega) _).mono ?_
              rintro e v4 ⟨rfl, hV4⟩
              replace hV4 := hV3.trans (hV4.mono hV3.size)
              go_wp2_with fail
              refine (eq_callsG K.out _ _ _ _ _ _ (by simp [HY.out, ymL]) (by simp [HY.out, ymL]) HE4.out (by simp [ymL, twoL]) (by simp [ymL, twoL]) (H.keep _ _ hg hV4)).mono ?_
              rintro e v5 ⟨rfl, hV5⟩
              replace hV5 := hV4.trans (hV5.mono hV4.size)
              go_wp2_with fail
              go_ret
              exact ⟨rfl, hV5⟩

end Go.Proofs.YtcabkjmbklkedaaDoor.W

/- The walk of the law MatchLong. -/
import Derived.Test.YthopanlkjdcgmaaGreatDoorAt
import Derived.Test.YthopanlkjdcgmaaGreatDoorLongL
namespace Go.Proofs.YthopanlkjdcgmaaGreatDoor.W
open Go.RowKit Go.Proofs.YthopanlkjdcgmaaGreatDoor.Plain

theorem one_byte (w : World) (n : Int) : (convert 30 9 (.slice (some ⟨w.heap.size, 0, none⟩) 1 1)).run Tryz.prog (w.alloc (.cells #[.int .u8 n] 5)) =
    .ok (.string ⟨#[UInt8.ofNat n.toNat]⟩) (w.alloc (.cells #[.int .u8 n] 5)) := by
  have hx := run_convert_bytes_arg (P := Tryz.prog) (w.alloc (.cells #[.int .u8 n] 5)) 30 5 Tryz.underlying30 Tryz.underlying5 w.heap.size 0 1 1 [n] rfl (fun i hi => by
    have h : i = 0 := by omega
    subst h
    rw [World.cell?_alloc_new]; rfl) 9 Tryz.underlying9
  rw [hx]; rfl
theorem fig_dig (c : UInt8) : digitB (UInt8.ofNat (48 + (c.toNat : Int) % 10).toNat) = true := by
  rw [digit_iff]
  have h : (48 + (c.toNat : Int) % 10).toNat = 48 + c.toNat % 10 := by omega
  rw [h, UInt8.toNat_ofNat', Nat.mod_eq_of_lt (by omega)]
  omega
def z18 : Bytes := List.replicate 18 48

set_option maxRecDepth 100000 in
set_option maxHeartbeats 8000000 in
theorem long_walk (T : Nat → Int) (a : ByteArray) (more : Int) (w : World) (ha : a.size ≤ 1073741824) (hg : GR T w) :
    Calls Tryz.prog 4 #[.string a, .int .i64 more] w fun e w' => e = .returned (.bool true) ∧ Below w.heap.size w w' := by
  have H := has_itR T
  have K := o_int H
  have hq0 : more.tmod 50 ≤ 49 := by have := Int.tmod_lt_of_pos more (show (0 : Int) < 50 by decide); omega
  have hB0 := Below.refl w.heap.size w
  go_enter Tryz.func4, Tryz.ntmps4
  go_wp2_with fail
  go_loopw [5, 6] (fun d i wr => ∃ (k : Nat) (D : ByteArray) (LL : Bytes), k ≤ a.size ∧ k ≤ 200 ∧ i = .int .i64 (k : Int) ∧ d = .string D ∧ Hid (D.data.toList = 49 :: LL ∧ allL digitB LL = true ∧ LL.length = k) ∧ D.size = k + 1 ∧ Below w.heap.size w wr) (fun _ i _ => 200 - (intOf i).toNat)
  case atStart => exact ⟨0, ⟨#[49]⟩, [], by omega, by omega, rfl, rfl, Lib.hid ⟨rfl, rfl, rfl⟩, rfl, hB0⟩
  case round =>
    obtain ⟨k, D, LL, hk1, hk2, rfl, rfl, HD, hDs, hBw⟩ := hrel
    by_cases hin : k < a.size ∧ k < 200
    · obtain ⟨h1, h2⟩ := hin
      have c0 : 0 ≤ ((a[k]).toNat : Int) % 10 := by omega
      have c1 : ((a[k]).toNat : Int) % 10 ≤ 9 := by omega
      have hcv := one_byte wr (48 + ((a[k]).toNat : Int) % 10)
      obtain ⟨c, hc⟩ : ∃ c, UInt8.ofNat (48 + ((a[k]).toNat : Int) % 10).toNat = c := ⟨_, rfl⟩
      have hcd : digitB c = true := by rw [← hc]; exact fig_dig _
      rw [hc] at hcv
      clear hc
      go_wp2
      go_roundw
      case rel => exact ⟨k + 1, _, LL ++ [c], by omega, by omega, by go_num, rfl, Lib.hid ⟨by simp [HD.out.1], by rw [allL_eq, List.all_append, ← allL_eq, HD.out.2.1]; simp [hcd], by simp [HD.out.2.2]⟩, by rw [ByteArray.size_append, hDs]; rfl, hBw.alloc hBw.size _⟩
      case measure => simp [intOf]; omega
    · have hout : ¬ (k : Int) < (a.size : Int) ∨ ((k : Int) < (a.size : Int) ∧ ¬ (k : Int) < 200) := by omega
      have hLk : LL.length ≤ 200 := by have := HD.out.2.2; omega
      clear hin
      rcases hout with o1 | ⟨o1, o2⟩
      all_goals
        go_wp2_with fail
        go_loopw [7, 8] (fun ev i wr => ∃ (n : Nat) (E : ByteArray) (Z : Bytes), n ≤ 50 ∧ i = .int .i64 (n : Int) ∧ ev = .string E ∧ Hid (E.data.toList = 49 :: LL ++ Z ∧ allL digitB Z = true ∧ Z.length = n) ∧ E.size ≤ 201 + n ∧ Below w.heap.size w wr) (fun _ i _ => 50 - (intOf i).toNat)
        case atStart => exact ⟨0, D, [], by omega, rfl, rfl, Lib.hid ⟨by rw [HD.out.1]; simp, rfl, rfl⟩, by omega, hBw⟩
        case round =>
          obtain ⟨n, E, Z, hn, rfl, rfl, HE, hEs, hB2⟩ := hrel
          have hcase : (n : Int) < more.tmod 50 ∨ (¬ (n : Int) < more.tmod 50 ∧ (n : Int) < 1) ∨ (¬ (n : Int) < more.tmod 50 ∧ ¬ (n : Int) < 1) := by omega
          rcases hcase with q1 | ⟨q1, q2⟩ | ⟨q1, q2⟩
          · go_wp2
            go_roundw
            case rel => exact ⟨n + 1, _, Z ++ [48], by omega, by go_num, rfl, Lib.hid ⟨by simp [HE.out.1], by rw [allL_eq, List.all_append, ← allL_eq, HE.out.2.1]; rfl, by simp [HE.out.2.2]⟩, by rw [ByteArray.size_append]; have : (⟨#[48]⟩ : ByteArray).size = 1 := rfl; omega, hB2⟩
            case measure => simp [intOf]; omega
          · go_wp2
            go_roundw
            case rel => exact ⟨n + 1, _, Z ++ [48], by omega, by go_num, rfl, Lib.hid ⟨by simp [HE.out.1], by rw [allL_eq, List.all_append, ← allL_eq, HE.out.2.1]; rfl, by simp [HE.out.2.2]⟩, by rw [ByteArray.size_append]; have : (⟨#[48]⟩ : ByteArray).size = 1 := rfl; omega, hB2⟩
            case measure => simp [intOf]; omega
          · have hZn : 1 ≤ Z.length := by have := HE.out.2.2; omega
            have hZ50 : Z.length ≤ 50 := by have := HE.out.2.2; omega
            have LF := Lib.hid (long_facts LL Z HD.out.2.1 HE.out.2.1 hZn)
            obtain ⟨LG, hLG⟩ : ∃ LG : ByteArray, (⟨#[57]⟩ : ByteArray) ++ E ++ (⟨#[48, 48, 48, 48, 48, 48, 48, 48, 48, 48, 48, 48, 48, 48, 48, 48, 48, 48]⟩ : ByteArray) = LG := ⟨_, rfl⟩
            have hLd : LG.data.toList = 57 :: (49 :: (LL ++ (Z ++ z18))) := by rw [← hLG]; simp [HE.out.1, z18]
            have HLG := Lib.hid hLG
            have HLD := Lib.hid hLd
            have hdig : allL digitB (49 :: (LL ++ (Z ++ z18))) = true := by
              have h1 := HD.out.2.1
              have h2 := HE.out.2.1
              rw [allL_eq] at *
              rw [List.all_cons, List.all_append, List.all_append, h1, h2]; rfl
            have hnl : nInt LG.data.toList = some LG.data.toList := by unfold nInt; rw [hLd, if_pos (intOk_dig 57 _ (by decide) (by decide) hdig)]
            have hpl : Lib.parseIntB 64 LG.data.toList = .range := by rw [hLd]; exact parse_long _ hdig (by simp [z18]; omega)
            have hls : LG.size ≤ 1073741824 := by rw [← len_eq, hLd]; simp [z18]; omega
            have HLN : Hid (ruleT (fun nv na => decide (nv = na)) (nInt LG.data.toList) (nInt LG.data.toList) = 2) := by rw [hnl]; unfold ruleT; simp; exact Lib.hid trivial
            have HBL : Hid (∀ w, GR T w → Calls Tryz.prog 34 #[.string LG] w fun e w' => (∃ v : Int, e = .returned (.tuple #[.int .i64 v, .bool false])) ∧ Below w.heap.size w w') := Lib.hid fun w hw => bits_range LG w hls hnl hpl hw.2
            have HB1 : Hid (∀ w, GR T w → Calls Tryz.prog 34 #[.string ⟨#[49]⟩] w fun e w' => (∃ v : Int, e = .returned (.tuple #[.int .i64 v, .bool true])) ∧ Below w.heap.size w w') := Lib.hid fun w _ => (bits_ok ⟨#[49]⟩ 1 w (by decide) (by decide) (by decide)).mono fun _ _ ⟨h1, h2⟩ => ⟨⟨_, h1⟩, h2⟩
            clear hLG hLd hdig hnl hpl
            go_wp2_with fail
            refine (leastAt K _ _ (49 :: LL ++ Z) (49 :: LL) _ _ _ _ (by simp [HD.out.1, HE.out.1]) (by simp [HD.out.1, HE.out.1]) LF.out.e_ok LF.out.d_ok (geT LF.out.ed) (by simp; omega) (by simp; omega) (H.keep _ _ hg hB2)).mono ?_
            rintro e v10 ⟨rfl, hV10⟩
            replace hV10 := hB2.trans (hV10.mono hB2.size)
            go_wp2_with fail
            refine (leastAt K _ _ (49 :: LL) (49 :: LL ++ Z) _ _ _ _ (by simp [HD.out.1, HE.out.1]) (by simp [HD.out.1, HE.out.1]) LF.out.d_ok LF.out.e_ok (geT LF.out.de) (by simp; omega) (by simp; omega) (H.keep _ _ hg hV10)).mono ?_
            rintro e v11 ⟨rfl, hV11⟩
            replace hV11 := hV10.trans (hV11.mono hV10.size)
            go_wp2_with fail
            refine (mostAt K _ _ (45 :: (49 :: LL ++ Z)) (45 :: (49 :: LL)) _ _ _ _ (by simp [HD.out.1, HE.out.1]) (by simp [HD.out.1, HE.out.1]) LF.out.en_ok LF.out.dn_ok (leT LF.out.nd) (by simp; omega) (by simp; omega) (H.keep _ _ hg hV11)).mono ?_
            rintro e v12 ⟨rfl, hV12⟩
            replace hV12 := hV11.trans (hV12.mono hV11.size)
            go_wp2_with fail
            refine (mostAt K _ _ (45 :: (49 :: LL)) (45 :: (49 :: LL ++ Z)) _ _ _ _ (by simp [HD.out.1, HE.out.1]) (by simp [HD.out.1, HE.out.1]) LF.out.dn_ok LF.out.en_ok (leT LF.out.ne) (by simp; omega) (by simp; omega) (H.keep _ _ hg hV12)).mono ?_
            rintro e v13 ⟨rfl, hV13⟩
            replace hV13 := hV12.trans (hV13.mono hV12.size)
            go_wp2_with fail
            refine (eqAt K.base _ _ (48 :: (49 :: LL)) (49 :: LL) _ _ _ _ (by simp [HD.out.1, HE.out.1]) (by simp [HD.out.1, HE.out.1]) LF.out.dz LF.out.d_ok (rfl) (by simp; omega) (by simp; omega) (H.keep _ _ hg hV13)).mono ?_
            rintro e v14 ⟨rfl, hV14⟩
            replace hV14 := hV13.trans (hV14.mono hV13.size)
            go_wp2_with fail
            refine (eqAt K.base _ _ (49 :: LL) (48 :: (49 :: LL)) _ _ _ _ (by simp [HD.out.1, HE.out.1]) (by simp [HD.out.1, HE.out.1]) LF.out.d_ok LF.out.dz (rfl) (by simp; omega) (by simp; omega) (H.keep _ _ hg hV14)).mono ?_
            rintro e v15 ⟨rfl, hV15⟩
            replace hV15 := hV14.trans (hV15.mono hV14.size)
            go_wp2_with fail
            refine (leastAt K _ _ (49 :: LL) (45 :: (49 :: LL ++ Z)) _ _ _ _ (by simp [HD.out.1, HE.out.1]) (by simp [HD.out.1, HE.out.1]) LF.out.d_ok LF.out.en_ok (geT LF.out.dne) (by simp; omega) (by simp; omega) (H.keep _ _ hg hV15)).mono ?_
            rintro e v16 ⟨rfl, hV16⟩
            replace hV16 := hV15.trans (hV16.mono hV15.size)
            go_wp2_with fail
            rw [HLG.out]
            refine (byrule_na rule_or K.base _ _ HBL.out _ hls (H.keep _ _ hg hV16)).mono ?_
            rintro e v20 ⟨rfl, hV20⟩
            replace hV20 := hV16.trans (hV20.mono hV16.size)
            go_wp2_with fail
            refine (byrule_nv rule_or K.base _ _ HB1.out HBL.out _ (by decide) (H.keep _ _ hg hV20)).mono ?_
            rintro e v21 ⟨rfl, hV21⟩
            replace hV21 := hV20.trans (hV21.mono hV20.size)
            go_wp2_with fail
            refine (byrule_plain rule_int (.inr rfl) K.base _ _ (fun nv na w h1 h2 hg => eq_asks K.base _ _ hls hls nv na w h1 h2 hg) _ hls hls (H.keep _ _ hg hV21)).mono ?_
            rintro e v22 ⟨rfl, hV22⟩
            replace hV22 := hV21.trans (hV22.mono hV21.size)
            rw [HLN.out]
            go_wp2
            go_ret
            exact ⟨rfl, hV22⟩

end Go.Proofs.YthopanlkjdcgmaaGreatDoor.W

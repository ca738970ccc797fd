/- Walks of the layer 'text' and of the kinds of bytes: what each function returns. -/
import Derived.Test.YthopanlkjdcgmaaGreatDoorProg
import Derived.Test.YthopanlkjdcgmaaGreatDoorKit
namespace Go.Proofs.YthopanlkjdcgmaaGreatDoor.W
open Go.RowKit Go.Proofs.YthopanlkjdcgmaaGreatDoor.Plain

theorem info5 : (Tryz.prog.info? 5).map (fun i => (i.zero, i.size, i.bytes)) = some (some (.int .u8 0), 1, 1) := by kernel_rfl

set_option maxHeartbeats 400000 in
theorem blank (c : UInt8) (w : World) :
    Calls Tryz.prog 167 #[.int .u8 (c.toNat : Int)] w fun e w' => e = .returned (.bool (blankB c)) ∧ w = w' := by
  go_enter Tryz.func167, Tryz.ntmps167
  go_wp2
  all_goals go_ret
  all_goals exact ⟨ret_bool (by rw [Bool.eq_iff_iff]; simp [blankB, u8_le, u8_eq]; omega), rfl⟩

set_option maxHeartbeats 400000 in
theorem digit (c : UInt8) (w : World) :
    Calls Tryz.prog 65 #[.int .u8 (c.toNat : Int)] w fun e w' => e = .returned (.bool (digitB c)) ∧ w = w' := by
  go_enter Tryz.func65, Tryz.ntmps65
  go_wp2
  all_goals go_ret
  all_goals exact ⟨ret_bool (by rw [Bool.eq_iff_iff]; simp [digitB, u8_le]; omega), rfl⟩

set_option maxHeartbeats 400000 in
theorem letter (c : UInt8) (w : World) :
    Calls Tryz.prog 247 #[.int .u8 (c.toNat : Int)] w fun e w' => e = .returned (.bool (letterB c)) ∧ w = w' := by
  go_enter Tryz.func247, Tryz.ntmps247
  go_wp2
  all_goals go_ret
  all_goals exact ⟨ret_bool (by rw [Bool.eq_iff_iff]; simp [letterB, u8_le]; omega), rfl⟩

set_option maxHeartbeats 400000 in
theorem goesOn (c : UInt8) (w : World) :
    Calls Tryz.prog 124 #[.int .u8 (c.toNat : Int)] w fun e w' => e = .returned (.bool (goesB c)) ∧ w = w' := by
  go_enter Tryz.func124, Tryz.ntmps124
  go_wp2
  all_goals go_ret
  all_goals exact ⟨ret_bool (by rw [Bool.eq_iff_iff]; simp [goesB, u8_le]; omega), rfl⟩

set_option maxHeartbeats 400000 in
theorem ascii (s : ByteArray) (w : World) (hs : s.size ≤ maxLen) :
    Calls Tryz.prog 234 #[.string s] w fun e w' => e = .returned (.bool (asciiL s.data.toList)) ∧ w = w' := by
  unfold maxLen at hs
  go_enter Tryz.func234, Tryz.ntmps234
  go_wp2
  go_loop [6] (fun i => ∃ k : Nat, k ≤ s.size ∧ i = .int .i64 k ∧ Hid (asciiL s.data.toList = asciiL (s.data.toList.drop k))) (fun i => s.size - (intOf i).toNat)
  case atStart => exact ⟨0, Nat.zero_le _, rfl, Lib.hid rfl⟩
  case round =>
    obtain ⟨k, hk, rfl, HQ⟩ := hrel
    by_cases hlt : k < s.size
    · have HS := Lib.hid (asciiL_step s.data.toList k (by simpa using hlt))
      go_wp2
      · go_ret
        exact ⟨ret_bool (by rw [HQ.out, HS.out, if_pos (by rw [u8_lt]; assumption)]), rfl⟩
      · go_round
        case rel => exact ⟨k + 1, by omega, by go_num, Lib.hid (by rw [HQ.out, HS.out, if_neg (by rw [u8_lt]; exact Int.not_lt.2 (by assumption))])⟩
        case measure => simp [intOf]; omega
    · go_wp2
      go_ret
      exact ⟨ret_bool (by rw [HQ.out, List.drop_of_length_le (by simp; omega)]; rfl), rfl⟩


set_option maxRecDepth 100000 in
set_option maxHeartbeats 1000000 in
theorem collapse_any (s : ByteArray) (w : World) (hs : s.size ≤ 140737488351232) :
    Calls Tryz.prog 147 #[.string s] w fun e w' => e = .returned (.string ⟨(collapse s.data.toList).toArray⟩) ∧ Below w.heap.size w w' := by
  obtain ⟨i0, hi, hz0, hz1, hz2⟩ := info_parts info5
  go_enter Tryz.func147, Tryz.ntmps147
  go_wp2_with (at_make; refine wpList_make_own _ rfl _ _ 30 rfl w.heap.size 5 i0 (.int .u8 0) 1 Tryz.underlying30 hi hz0 hz1 _ _ _ s.size rfl rfl (by omega) ?b2 ?b3 (Nat.le_refl _) ?_)
  case b2 => rw [hz2]; omega
  case b3 => unfold maxLen; omega
  intro w0 hown0 hgrow0
  go_wp2
  go_loopw [3, 10] (fun v i wr => ∃ k : Nat, k ≤ s.size ∧ i = .int .i64 k ∧ wr.ownsRow w.heap.size 5 1 v (collapse (s.data.toList.take k)).length (bvs (collapse (s.data.toList.take k))) ∧ Below w.heap.size w wr) (fun _ i _ => s.size - (intOf i).toNat)
  case atStart => exact ⟨0, Nat.zero_le _, rfl, hown0, (Below.refl _ _).grown hgrow0 (Nat.le_refl _) (fun k h => by cases h)⟩
  case round =>
    obtain ⟨k, hk, rfl, hown, hB⟩ := hrel
    by_cases hlt : k < s.size
    · have hl := collapse_length (s.data.toList.take k)
      have hl2 : (s.data.toList.take k).length ≤ k := List.length_take_le _ _
      have hl3 : (collapse (s.data.toList.take k)).length ≤ k := by omega
      clear hl hl2
      cases hb : blankB s[k]
      · have HS := Lib.hid (collapse_none s.data.toList k (by simpa using hlt) hb)
        go_wp2_with (first | (go_at_call 167; refine (blank _ _).mono ?_; rintro e w' ⟨rfl, rfl⟩) | (at_builtin; refine wpList_append_own _ rfl _ _ 30 rfl w.heap.size 5 i0 (.int .u8 0) 1 1 Tryz.underlying30 hi hz0 hz1 hz2 rfl (by decide) _ _ _ rfl (hown.alloc _) ⟨wr.heap.size, 0, none⟩ 1 1 (bvs [s[k]]) rfl rfl ?c1 ?c2 ?c3 ?c4 ?c5 ?_))
        case c1 => exact cell_one_new _ _ _
        case c2 => exact bvs_one _
        case c3 => unfold maxLen; omega
        case c4 => omega
        case c5 => have := hB.size; simp; omega
        intro v' w1 hown' hgrow _
        have hsz := hB.size
        have hB' := (hB.alloc hsz _).grown hgrow (by simp; omega) (own_ge hown)
        rw [← bvs_append] at hown'
        have ho2 := own_len hown' HS.out
        go_wp2
        go_roundw
        case rel => exact ⟨k + 1, by omega, by go_num, ho2, hB'⟩
        case measure => simp [intOf]; omega
      · cases k with
        | zero =>
          have HS := Lib.hid (collapse_first s.data.toList (by simpa using hlt) hb)
          have h0 : ((0 : Nat) : Int) = 0 := rfl
          go_wp2_with (first | (go_at_call 167; refine (blank _ _).mono ?_; rintro e w' ⟨rfl, rfl⟩) | (at_builtin; refine wpList_append_own _ rfl _ _ 30 rfl w.heap.size 5 i0 (.int .u8 0) 1 1 Tryz.underlying30 hi hz0 hz1 hz2 rfl (by decide) _ _ _ rfl (hown.alloc _) ⟨wr.heap.size, 0, none⟩ 1 1 (bvs [32]) rfl rfl ?c1 ?c2 ?c3 ?c4 ?c5 ?_))
          case c1 => exact cell_one_new _ _ _
          case c2 => exact bvs_one _
          case c3 => unfold maxLen; omega
          case c4 => omega
          case c5 => have := hB.size; simp; omega
          intro v' w1 hown' hgrow _
          have hsz := hB.size
          have hB' := (hB.alloc hsz _).grown hgrow (by simp; omega) (own_ge hown)
          rw [← bvs_append] at hown'
          have ho2 := own_len hown' HS.out
          go_wp2
          go_roundw
          case rel => exact ⟨0 + 1, by omega, by go_num, ho2, hB'⟩
          case measure => simp [intOf]; omega
        | succ k =>
          cases ha : blankB s[k]
          · have HS := Lib.hid (collapse_more s.data.toList k (by simpa using hlt) hb ha)
            go_wp2_with (first | (go_at_call 167; refine (blank _ _).mono ?_; rintro e w' ⟨rfl, rfl⟩) | (at_builtin; refine wpList_append_own _ rfl _ _ 30 rfl w.heap.size 5 i0 (.int .u8 0) 1 1 Tryz.underlying30 hi hz0 hz1 hz2 rfl (by decide) _ _ _ rfl (hown.alloc _) ⟨wr.heap.size, 0, none⟩ 1 1 (bvs [32]) rfl rfl ?c1 ?c2 ?c3 ?c4 ?c5 ?_))
            case c1 => exact cell_one_new _ _ _
            case c2 => exact bvs_one _
            case c3 => unfold maxLen; omega
            case c4 => omega
            case c5 => have := hB.size; simp; omega
            intro v' w1 hown' hgrow _
            have hsz := hB.size
            have hB' := (hB.alloc hsz _).grown hgrow (by simp; omega) (own_ge hown)
            rw [← bvs_append] at hown'
            have ho2 := own_len hown' HS.out
            go_wp2
            go_roundw
            case rel => exact ⟨k + 1 + 1, by omega, by go_num, ho2, hB'⟩
            case measure => simp [intOf]; omega
          · have HS := Lib.hid (collapse_still s.data.toList k (by simpa using hlt) hb ha)
            go_wp2_with (go_at_call 167; refine (blank _ _).mono ?_; rintro e w' ⟨rfl, rfl⟩)
            go_roundw
            case rel => exact ⟨k + 2, by omega, by go_num, by rw [HS.out]; exact hown, hB⟩
            case measure => simp [intOf]; omega
    · have hconv := own_string (P := Tryz.prog) (src := 30) (dst := 9) (e := 5) Tryz.underlying30 Tryz.underlying5 Tryz.underlying9 hown
      go_wp2
      go_ret
      exact ⟨ret_l (by rw [List.take_of_length_le (by simp; omega)]), hB⟩


set_option maxRecDepth 100000 in
set_option maxHeartbeats 1000000 in
theorem fold_any (s : ByteArray) (w : World) (hs : s.size ≤ 140737488351232) :
    Calls Tryz.prog 69 #[.string s] w fun e w' => e = .returned (.string ⟨(fold s.data.toList).toArray⟩) ∧ Below w.heap.size w w' := by
  have kc := fun (W : World) => Lib.run_convert_string_bytes (P := Tryz.prog) W 9 30 5 s Tryz.underlying9 Tryz.underlying30 Tryz.underlying5
  go_enter Tryz.func69, Tryz.ntmps69
  go_wp2
  have h0 := CellsAre.bytesWorld w s 5
  have hb0 := below_bytesWorld w 5 s
  generalize Lib.bytesWorld w 5 s = W0 at h0 hb0 ⊢
  generalize grownCap w s.size 0 5 = cp
  clear kc
  go_loopw [10] (fun i wr => ∃ k : Nat, k ≤ s.size ∧ i = .int .i64 k ∧ CellsAre wr w.heap.size (foldTo s.data.toList k) ∧ Below w.heap.size w wr) (fun i _ => s.size - (intOf i).toNat)
  case atStart => exact ⟨0, Nat.zero_le _, rfl, by rw [foldTo_zero]; exact h0, hb0⟩
  case round =>
    obtain ⟨k, hk, rfl, hC, hB⟩ := hrel
    by_cases hlt : k < s.size
    · obtain ⟨hc, hf⟩ := hC k s[k] (foldTo_at s.data.toList k (by simpa using hlt))
      have HS := Lib.hid (foldTo_succ s.data.toList k (by simpa using hlt))
      have HS2 := Lib.hid (foldTo_same s.data.toList k (by simpa using hlt))
      have HL := Lib.hid (foldTo_length s.data.toList k)
      have HC := Lib.hid hC
      clear hC h0 hb0
      by_cases h1 : 65 ≤ ((s[k]).toNat : Int)
      · by_cases h2 : ((s[k]).toNat : Int) ≤ 90
        · have HF := Lib.hid (foldB_yes s[k] h1 h2)
          go_wp2
          go_roundw
          case rel => exact ⟨k + 1, by omega, by go_num, by rw [HS.out, ← HF.out]; exact HC.out.set k (foldB s[k]) (by rw [HL.out]; simpa using hlt), hB.setCell (Nat.le_refl _) _⟩
          case measure => simp [intOf]; omega
        · have HF := Lib.hid (foldB_no s[k] (by omega))
          go_wp2
          go_roundw
          case rel => exact ⟨k + 1, by omega, by go_num, by rw [HS2.out HF.out]; exact HC.out, hB⟩
          case measure => simp [intOf]; omega
      · have HF := Lib.hid (foldB_no s[k] (by omega))
        go_wp2
        go_roundw
        case rel => exact ⟨k + 1, by omega, by go_num, by rw [HS2.out HF.out]; exact HC.out, hB⟩
        case measure => simp [intOf]; omega
    · have hconv := fun cp => CellsAre.string (P := Tryz.prog) (src := 30) (dst := 9) (e := 5) (n := s.size) (cap := cp) Tryz.underlying30 Tryz.underlying5 Tryz.underlying9 hC (by rw [foldTo_length]; simp)
      go_wp2
      go_ret
      exact ⟨ret_l (foldTo_all _ _ (by simp; omega)), hB⟩

theorem trimL_no (l : Bytes) (h : 0 < l.length) (hb : ¬ (l[0].toNat : Int) = 32) : trimL l = l := by
  unfold trimL
  cases l with
  | nil => rfl
  | cons c r => rw [if_neg]; simp at hb ⊢; rintro rfl; exact hb rfl
theorem trimL_yes (l : Bytes) (h : 0 < l.length) (hb : (l[0].toNat : Int) = 32) : trimL l = l.drop 1 := by
  unfold trimL
  cases l with
  | nil => rfl
  | cons c r => rw [if_pos (by simp at hb ⊢; rw [← UInt8.toNat_inj]; simp; omega)]; rfl
theorem trimR_no (l : Bytes) (h : 0 < l.length) (hb : ¬ (l[l.length - 1].toNat : Int) = 32) : trimR l = l := by
  unfold trimR
  rw [if_neg]
  rw [List.getLast?_eq_getElem?, List.getElem?_eq_getElem (by omega)]
  intro e; rw [Option.some.inj e] at hb; exact hb rfl
theorem trimR_yes (l : Bytes) (h : 0 < l.length) (hb : (l[l.length - 1].toNat : Int) = 32) : trimR l = l.take (l.length - 1) := by
  unfold trimR
  rw [if_pos, List.dropLast_eq_take]
  rw [List.getLast?_eq_getElem?, List.getElem?_eq_getElem (by omega)]
  congr 1; rw [← UInt8.toNat_inj]; simp; omega

theorem trimL_nil : trimL [] = [] := rfl
theorem trimR_nil : trimR [] = [] := rfl

set_option maxRecDepth 100000 in
set_option maxHeartbeats 1000000 in
theorem squeeze_any (s : ByteArray) (w : World) (hs : s.size ≤ 140737488351232) :
    Calls Tryz.prog 135 #[.string s] w fun e w' => e = .returned (.string ⟨(squeeze s.data.toList).toArray⟩) ∧ Below w.heap.size w w' := by
  have hlen := collapse_length s.data.toList
  obtain ⟨c, hc⟩ : ∃ c : ByteArray, (⟨(collapse s.data.toList).toArray⟩ : ByteArray) = c := ⟨_, rfl⟩
  have HS : Hid (squeeze s.data.toList = trimR (trimL c.data.toList)) := by unfold squeeze; rw [← hc]; exact Lib.hid rfl
  have hcl : c.size ≤ s.size := by rw [← hc, mk_size, ← len_eq]; exact hlen
  have HC := Lib.hid hc
  clear hc hlen
  by_cases hz : c.size = 0
  · have hce : c = ⟨#[]⟩ := mk_of (empty_of hz).2.2.2
    have HC2 := Lib.hid (HC.out.trans hce)
    rw [hce] at HS
    clear hz hcl hce HC
    go_enter Tryz.func135, Tryz.ntmps135
    go_wp2_with (go_at_call 147; refine (collapse_any _ _ hs).mono ?_; rintro e w1 ⟨rfl, hB⟩; rw [HC2.out])
    go_ret
    exact ⟨ret_l HS.out.symm, hB⟩
  · have hp : 0 < c.size := by omega
    obtain ⟨e1, e2, e3⟩ := full_of hp
    clear hz
    by_cases h32 : ((c[0]).toNat : Int) = 32
    · have HL := Lib.hid (trimL_yes c.data.toList (by simpa using hp) h32)
      obtain ⟨d, hd⟩ : ∃ d : ByteArray, c.extract 1 c.size = d := ⟨_, rfl⟩
      have hdl : d.data.toList = c.data.toList.drop 1 := by rw [← hd, Lib.extract_data, List.take_of_length_le (by simp)]
      have hds : d.size = c.size - 1 := by have := congrArg List.length hdl; simpa using this
      by_cases hz : d.size = 0
      · obtain rfl : d = ⟨#[]⟩ := mk_of (empty_of hz).2.2.2
        clear hz
        have HD := Lib.hid hdl
        clear hdl hds
        go_enter Tryz.func135, Tryz.ntmps135
        go_wp2_with (go_at_call 147; refine (collapse_any _ _ hs).mono ?_; rintro e w1 ⟨rfl, hB⟩; rw [HC.out])
        go_ret
        exact ⟨ret_l (by rw [HS.out, HL.out, ← HD.out]; rfl), hB⟩
      · have hp2 : 0 < d.size := by omega
        obtain ⟨f1, f2, f3⟩ := full_of hp2
        have HD := Lib.hid hdl
        have hdz : d.size ≤ s.size := by omega
        clear hz hdl hds
        by_cases hl : ((d[d.size - 1]).toNat : Int) = 32
        · have HR := Lib.hid (trimR_yes d.data.toList (by simpa using hp2) hl)
          go_enter Tryz.func135, Tryz.ntmps135
          go_wp2_with (go_at_call 147; refine (collapse_any _ _ hs).mono ?_; rintro e w1 ⟨rfl, hB⟩; rw [HC.out])
          go_ret
          exact ⟨ret_str (mk_of (by rw [HS.out, HL.out, ← HD.out, HR.out, Lib.extract_data]; simp)), hB⟩
        · have HR := Lib.hid (trimR_no d.data.toList (by simpa using hp2) hl)
          go_enter Tryz.func135, Tryz.ntmps135
          go_wp2_with (go_at_call 147; refine (collapse_any _ _ hs).mono ?_; rintro e w1 ⟨rfl, hB⟩; rw [HC.out])
          go_ret
          exact ⟨ret_str (mk_of (by rw [HS.out, HL.out, ← HD.out, HR.out])), hB⟩
    · have HL := Lib.hid (trimL_no c.data.toList (by simpa using hp) h32)
      by_cases hl : ((c[c.size - 1]).toNat : Int) = 32
      · have HR := Lib.hid (trimR_yes c.data.toList (by simpa using hp) hl)
        go_enter Tryz.func135, Tryz.ntmps135
        go_wp2_with (go_at_call 147; refine (collapse_any _ _ hs).mono ?_; rintro e w1 ⟨rfl, hB⟩; rw [HC.out])
        go_ret
        exact ⟨ret_str (mk_of (by rw [HS.out, HL.out, HR.out, Lib.extract_data]; simp)), hB⟩
      · have HR := Lib.hid (trimR_no c.data.toList (by simpa using hp) hl)
        go_enter Tryz.func135, Tryz.ntmps135
        go_wp2_with (go_at_call 147; refine (collapse_any _ _ hs).mono ?_; rintro e w1 ⟨rfl, hB⟩; rw [HC.out])
        go_ret
        exact ⟨ret_str (mk_of (by rw [HS.out, HL.out, HR.out])), hB⟩


theorem fold_length (l : Bytes) : (fold l).length = l.length := by simp [fold]
theorem fold_size (s : ByteArray) : (⟨(fold s.data.toList).toArray⟩ : ByteArray).size = s.size := by rw [mk_size, fold_length, len_eq]
set_option maxHeartbeats 400000 in
theorem normal_any (s : ByteArray) (w : World) (hs : s.size ≤ 140737488351232) :
    Calls Tryz.prog 115 #[.string s] w fun e w' => e = .returned (.string ⟨(normal s.data.toList).toArray⟩) ∧ Below w.heap.size w w' := by
  obtain ⟨c, hc⟩ : ∃ c : ByteArray, (⟨(fold s.data.toList).toArray⟩ : ByteArray) = c := ⟨_, rfl⟩
  have HS : Hid (normal s.data.toList = squeeze c.data.toList) := by unfold normal; rw [← hc]; exact Lib.hid rfl
  have hcl : c.size ≤ 140737488351232 := by rw [← hc, fold_size]; exact hs
  have HC := Lib.hid hc
  clear hc
  go_enter Tryz.func115, Tryz.ntmps115
  go_wp2_with (first | (go_at_call 69; refine (fold_any _ _ hs).mono ?_; rintro e w1 ⟨rfl, hB⟩; rw [HC.out]) | (go_at_call 135; refine (squeeze_any _ _ hcl).mono ?_; rintro e w2 ⟨rfl, hB2⟩))
  go_ret
  exact ⟨ret_l HS.out.symm, hB.trans (hB2.mono hB.size)⟩

end Go.Proofs.YthopanlkjdcgmaaGreatDoor.W

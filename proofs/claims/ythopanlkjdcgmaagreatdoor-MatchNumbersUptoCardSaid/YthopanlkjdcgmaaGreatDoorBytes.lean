/- Walks of the kinds of bytes, of 'all', and of each syntax's 'normal'. -/
import Derived.Test.YthopanlkjdcgmaaGreatDoorUtfB
import Derived.Test.YthopanlkjdcgmaaGreatDoorShelf
import Derived.Test.YthopanlkjdcgmaaGreatDoorLaid
namespace Go.Proofs.YthopanlkjdcgmaaGreatDoor.W
open Go.RowKit Go.Proofs.YthopanlkjdcgmaaGreatDoor.Plain

set_option maxHeartbeats 400000 in
theorem num (c : UInt8) (w : World) :
    Calls Tryz.prog 240 #[.int .u8 (c.toNat : Int)] w fun e w' => e = .returned (.bool (numB c)) ∧ w = w' := by
  by_cases h : (c.toNat : Int) = 32
  · have e : numB c = true := by unfold numB; rw [show c = 32 from by rw [← UInt8.toNat_inj]; simp; omega]; rfl
    rw [e, h]
    go_enter Tryz.func240, Tryz.ntmps240
    go_wp2
    go_ret
    exact ⟨rfl, rfl⟩
  · have e : numB c = digitB c := by unfold numB; rw [show (c == 32) = false from beq_eq_false_iff_ne.2 (by rw [Ne, ← UInt8.toNat_inj]; simp; omega)]; rfl
    have hb : ((c.toNat : Int) == 32) = false := beq_eq_false_iff_ne.2 h
    have HE := Lib.hid e
    clear e h
    go_enter Tryz.func240, Tryz.ntmps240
    go_wp2_with (go_at_call 65; refine (digit _ _).mono ?_; rintro e w' ⟨rfl, rfl⟩)
    go_ret
    exact ⟨ret_bool HE.out.symm, rfl⟩

theorem indexByte_has (l : Bytes) (c : UInt8) : (0 ≤ Lib.indexByte l c) ↔ l.contains c = true := by
  induction l with
  | nil => simp [Lib.indexByte]
  | cons b r ih =>
    rw [Lib.indexByte]
    by_cases h : b = c
    · subst h; simp
    · have h2 : (b == c) = false := beq_eq_false_iff_ne.2 h
      rw [h2]
      simp only [Bool.false_eq_true, if_false]
      have h3 : (b :: r).contains c = r.contains c := by simp [Ne.symm h]
      rw [h3, ← ih]
      split
      · rename_i e; have := beq_iff_eq.1 e; omega
      · rename_i e
        have h4 : Lib.indexByte r c ≠ -1 := fun e2 => e (beq_iff_eq.2 e2)
        omega

set_option maxHeartbeats 400000 in
theorem print (c : UInt8) (w : World) :
    Calls Tryz.prog 246 #[.int .u8 (c.toNat : Int)] w fun e w' => e = .returned (.bool (printB c)) ∧ w = w' := by
  have hi := indexByte_has signs c
  unfold printB
  have hc : ((c.toNat : Int).toNat).toUInt8 = c := by simp
  obtain ⟨a, ha⟩ : ∃ a, letterB c = a := ⟨_, rfl⟩
  obtain ⟨b, hb⟩ : ∃ b, digitB c = b := ⟨_, rfl⟩
  obtain ⟨j, hj⟩ : ∃ j, Lib.indexByte signs c = j := ⟨_, rfl⟩
  rw [hj] at hi
  rw [ha, hb]
  have HA := Lib.hid ha
  have HB := Lib.hid hb
  have HJ : Hid (Lib.indexByte ({ data := #[32, 39, 40, 41, 43, 44, 45, 46, 47, 58, 61, 63] } : ByteArray).data.toList c = j) := hj
  have HI := Lib.hid hi
  have HC := Lib.hid hc
  clear ha hb hj hi hc
  cases a
  · cases b
    · go_enter Tryz.func246, Tryz.ntmps246
      go_wp2_with (first | (go_at_call 65; refine (digit _ _).mono ?_; rintro e w' ⟨rfl, rfl⟩; rw [HB.out]) | (go_at_call 247; refine (letter _ _).mono ?_; rintro e w' ⟨rfl, rfl⟩; rw [HA.out]) | (go_at_call 132; refine (Tryz.strings_IndexByte _ _ _).mono ?_; rintro e w' ⟨rfl, hw⟩; rw [HC.out, hw, HJ.out]; clear hw))
      go_ret
      exact ⟨ret_bool (by rw [Bool.eq_iff_iff]; simp only [Bool.or_false, Bool.false_or, decide_eq_true_eq]; exact HI.out), rfl⟩
    · go_enter Tryz.func246, Tryz.ntmps246
      go_wp2_with (first | (go_at_call 65; refine (digit _ _).mono ?_; rintro e w' ⟨rfl, rfl⟩; rw [HB.out]) | (go_at_call 247; refine (letter _ _).mono ?_; rintro e w' ⟨rfl, rfl⟩; rw [HA.out]))
      go_ret
      exact ⟨rfl, rfl⟩
  · go_enter Tryz.func246, Tryz.ntmps246
    go_wp2_with (first | (go_at_call 247; refine (letter _ _).mono ?_; rintro e w' ⟨rfl, rfl⟩; rw [HA.out]))
    go_ret
    exact ⟨ret_bool (by cases b <;> simp), rfl⟩

set_option maxHeartbeats 400000 in
theorem oidByte (c : UInt8) (w : World) :
    Calls Tryz.prog 254 #[.int .u8 (c.toNat : Int)] w fun e w' => e = .returned (.bool (oidB c)) ∧ w = w' := by
  have h45 : (c == 45) = ((c.toNat : Int) == 45) := by
    rw [Bool.eq_iff_iff]; simp only [beq_iff_eq]; rw [← UInt8.toNat_inj]; simp; omega
  unfold oidB
  obtain ⟨a, ha⟩ : ∃ a, letterB c = a := ⟨_, rfl⟩
  obtain ⟨b, hb⟩ : ∃ b, digitB c = b := ⟨_, rfl⟩
  rw [ha, hb, h45]
  have HA := Lib.hid ha
  have HB := Lib.hid hb
  clear ha hb h45
  cases a
  · cases b
    all_goals
      go_enter Tryz.func254, Tryz.ntmps254
      go_wp2_with (first | (go_at_call 65; refine (digit _ _).mono ?_; rintro e w' ⟨rfl, rfl⟩; rw [HB.out]) | (go_at_call 247; refine (letter _ _).mono ?_; rintro e w' ⟨rfl, rfl⟩; rw [HA.out]))
      go_ret
      exact ⟨ret_bool (by simp), rfl⟩
  · go_enter Tryz.func254, Tryz.ntmps254
    go_wp2_with (first | (go_at_call 247; refine (letter _ _).mono ?_; rintro e w' ⟨rfl, rfl⟩; rw [HA.out]))
    go_ret
    exact ⟨ret_bool (by cases b <;> simp), rfl⟩

set_option maxHeartbeats 400000 in
theorem all_digit (s : ByteArray) (w : World) (hs : s.size ≤ maxLen) :
    Calls Tryz.prog 64 #[.string s, .func (.func 65) #[] #[]] w fun e w' => e = .returned (.bool (allL digitB s.data.toList)) ∧ w = w' := by
  unfold maxLen at hs
  go_enter Tryz.func64, Tryz.ntmps64
  go_wp2
  go_loop [8] (fun i => ∃ k : Nat, k ≤ s.size ∧ i = .int .i64 k ∧ Hid (allL digitB s.data.toList = allL digitB (s.data.toList.drop k))) (fun i => s.size - (intOf i).toNat)
  case atStart => exact ⟨0, Nat.zero_le _, rfl, Lib.hid rfl⟩
  case round =>
    obtain ⟨k, hk, rfl, HQ⟩ := hrel
    by_cases hlt : k < s.size
    · have HS : Hid (allL digitB (s.data.toList.drop k) = if digitB s[k] then allL digitB (s.data.toList.drop (k + 1)) else false) := allL_step digitB s.data.toList k (by simpa using hlt)
      cases hb : digitB s[k]
      · go_wp2_with (go_at_call 65; refine (digit _ _).mono ?_; rintro e w' ⟨rfl, rfl⟩)
        go_ret
        exact ⟨ret_bool (by rw [HQ.out, HS.out, hb]; rfl), rfl⟩
      · go_wp2_with (go_at_call 65; refine (digit _ _).mono ?_; rintro e w' ⟨rfl, rfl⟩)
        go_round
        case rel => exact ⟨k + 1, by omega, by go_num, Lib.hid (by rw [HQ.out, HS.out, hb]; rfl)⟩
        case measure => simp [intOf]; omega
    · go_wp2
      go_ret
      exact ⟨ret_bool (by rw [HQ.out, List.drop_of_length_le (by rw [len_eq]; omega)]; rfl), rfl⟩

set_option maxHeartbeats 400000 in
theorem all_num (s : ByteArray) (w : World) (hs : s.size ≤ maxLen) :
    Calls Tryz.prog 64 #[.string s, .func (.func 240) #[] #[]] w fun e w' => e = .returned (.bool (allL numB s.data.toList)) ∧ w = w' := by
  unfold maxLen at hs
  go_enter Tryz.func64, Tryz.ntmps64
  go_wp2
  go_loop [8] (fun i => ∃ k : Nat, k ≤ s.size ∧ i = .int .i64 k ∧ Hid (allL numB s.data.toList = allL numB (s.data.toList.drop k))) (fun i => s.size - (intOf i).toNat)
  case atStart => exact ⟨0, Nat.zero_le _, rfl, Lib.hid rfl⟩
  case round =>
    obtain ⟨k, hk, rfl, HQ⟩ := hrel
    by_cases hlt : k < s.size
    · have HS : Hid (allL numB (s.data.toList.drop k) = if numB s[k] then allL numB (s.data.toList.drop (k + 1)) else false) := allL_step numB s.data.toList k (by simpa using hlt)
      cases hb : numB s[k]
      · go_wp2_with (go_at_call 240; refine (num _ _).mono ?_; rintro e w' ⟨rfl, rfl⟩)
        go_ret
        exact ⟨ret_bool (by rw [HQ.out, HS.out, hb]; rfl), rfl⟩
      · go_wp2_with (go_at_call 240; refine (num _ _).mono ?_; rintro e w' ⟨rfl, rfl⟩)
        go_round
        case rel => exact ⟨k + 1, by omega, by go_num, Lib.hid (by rw [HQ.out, HS.out, hb]; rfl)⟩
        case measure => simp [intOf]; omega
    · go_wp2
      go_ret
      exact ⟨ret_bool (by rw [HQ.out, List.drop_of_length_le (by rw [len_eq]; omega)]; rfl), rfl⟩

set_option maxHeartbeats 400000 in
theorem all_print (s : ByteArray) (w : World) (hs : s.size ≤ maxLen) :
    Calls Tryz.prog 64 #[.string s, .func (.func 246) #[] #[]] w fun e w' => e = .returned (.bool (allL printB s.data.toList)) ∧ w = w' := by
  unfold maxLen at hs
  go_enter Tryz.func64, Tryz.ntmps64
  go_wp2
  go_loop [8] (fun i => ∃ k : Nat, k ≤ s.size ∧ i = .int .i64 k ∧ Hid (allL printB s.data.toList = allL printB (s.data.toList.drop k))) (fun i => s.size - (intOf i).toNat)
  case atStart => exact ⟨0, Nat.zero_le _, rfl, Lib.hid rfl⟩
  case round =>
    obtain ⟨k, hk, rfl, HQ⟩ := hrel
    by_cases hlt : k < s.size
    · have HS : Hid (allL printB (s.data.toList.drop k) = if printB s[k] then allL printB (s.data.toList.drop (k + 1)) else false) := allL_step printB s.data.toList k (by simpa using hlt)
      cases hb : printB s[k]
      · go_wp2_with (go_at_call 246; refine (print _ _).mono ?_; rintro e w' ⟨rfl, rfl⟩)
        go_ret
        exact ⟨ret_bool (by rw [HQ.out, HS.out, hb]; rfl), rfl⟩
      · go_wp2_with (go_at_call 246; refine (print _ _).mono ?_; rintro e w' ⟨rfl, rfl⟩)
        go_round
        case rel => exact ⟨k + 1, by omega, by go_num, Lib.hid (by rw [HQ.out, HS.out, hb]; rfl)⟩
        case measure => simp [intOf]; omega
    · go_wp2
      go_ret
      exact ⟨ret_bool (by rw [HQ.out, List.drop_of_length_le (by rw [len_eq]; omega)]; rfl), rfl⟩

set_option maxHeartbeats 400000 in
theorem all_oid (s : ByteArray) (w : World) (hs : s.size ≤ maxLen) :
    Calls Tryz.prog 64 #[.string s, .func (.func 254) #[] #[]] w fun e w' => e = .returned (.bool (allL oidB s.data.toList)) ∧ w = w' := by
  unfold maxLen at hs
  go_enter Tryz.func64, Tryz.ntmps64
  go_wp2
  go_loop [8] (fun i => ∃ k : Nat, k ≤ s.size ∧ i = .int .i64 k ∧ Hid (allL oidB s.data.toList = allL oidB (s.data.toList.drop k))) (fun i => s.size - (intOf i).toNat)
  case atStart => exact ⟨0, Nat.zero_le _, rfl, Lib.hid rfl⟩
  case round =>
    obtain ⟨k, hk, rfl, HQ⟩ := hrel
    by_cases hlt : k < s.size
    · have HS : Hid (allL oidB (s.data.toList.drop k) = if oidB s[k] then allL oidB (s.data.toList.drop (k + 1)) else false) := allL_step oidB s.data.toList k (by simpa using hlt)
      cases hb : oidB s[k]
      · go_wp2_with (go_at_call 254; refine (oidByte _ _).mono ?_; rintro e w' ⟨rfl, rfl⟩)
        go_ret
        exact ⟨ret_bool (by rw [HQ.out, HS.out, hb]; rfl), rfl⟩
      · go_wp2_with (go_at_call 254; refine (oidByte _ _).mono ?_; rintro e w' ⟨rfl, rfl⟩)
        go_round
        case rel => exact ⟨k + 1, by omega, by go_num, Lib.hid (by rw [HQ.out, HS.out, hb]; rfl)⟩
        case measure => simp [intOf]; omega
    · go_wp2
      go_ret
      exact ⟨ret_bool (by rw [HQ.out, List.drop_of_length_le (by rw [len_eq]; omega)]; rfl), rfl⟩

end Go.Proofs.YthopanlkjdcgmaaGreatDoor.W

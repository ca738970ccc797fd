/- Walks of text.sequence (all ways at once), text.Check and match.utf. -/
import Derived.Test.YthopanlkjdcgmaaGreatDoorUtf
namespace Go.Proofs.YthopanlkjdcgmaaGreatDoor.W
open Go.RowKit Go.Proofs.YthopanlkjdcgmaaGreatDoor.Plain

theorem getD_at (s : ByteArray) (k : Nat) (h : k < s.size) : s.data.toList.getD k 0 = s[k] := by
  have : k < s.data.toList.length := by rw [len_eq]; exact h
  rw [List.getD_eq_getElem?_getD, List.getElem?_eq_getElem this]; rfl

set_option maxRecDepth 100000 in
theorem seq_any (s : ByteArray) (w : World) (h0 : 0 < s.size) (hz : s.size ≤ 140737488351232) :
    Calls Tryz.prog 109 #[.string s] w fun e w' => e = .returned (.int .i64 (seqLen s.data.toList : Nat)) ∧ Below w.heap.size w w' := by
  have hr := missI_range (s[0].toNat : Int)
  obtain ⟨⟨n, lo, hi, ok⟩, hm⟩ : ∃ r, missI (s[0].toNat : Int) = r := ⟨_, rfl⟩
  rw [hm] at hr
  simp only at hr
  have e0 := getD_at s 0 h0
  have hl : s.data.toList.length = s.size := len_eq s
  have hq : seqLen s.data.toList = if ok = false ∨ (s.size : Int) < n + 1 then 0 else if 3 ≤ n ∧ goesB (s.data.toList.getD 3 0) = false then 0
      else if 2 ≤ n ∧ goesB (s.data.toList.getD 2 0) = false then 0
      else if 1 ≤ n ∧ (((s.data.toList.getD 1 0).toNat : Int) < lo ∨ hi < ((s.data.toList.getD 1 0).toNat : Int)) then 0 else n.toNat + 1 := by
    unfold seqLen; rw [e0, hm, hl]
  have fin : ∀ r : Int, ((seqLen s.data.toList : Nat) : Int) = r → (Calls Tryz.prog 109 #[.string s] w fun e w' => e = .returned (.int .i64 r) ∧ Below w.heap.size w w') →
      Calls Tryz.prog 109 #[.string s] w fun e w' => e = .returned (.int .i64 (seqLen s.data.toList : Nat)) ∧ Below w.heap.size w w' := by
    rintro r rfl h; exact h
  cases ok with
  | false => exact fin 0 (by rw [hq, if_pos (.inl rfl)]; rfl) (seq_none s n lo hi w h0 hm)
  | true =>
    by_cases hs : (s.size : Int) < n + 1
    · exact fin 0 (by rw [hq, if_pos (.inr hs)]; rfl) (seq_short s n lo hi w h0 hm hr.2 hr.1 hs)
    rw [if_neg (by simp; omega)] at hq
    have hn : n = 0 ∨ n = 1 ∨ n = 2 ∨ n = 3 := by omega
    rcases hn with rfl | rfl | rfl | rfl
    · exact fin 1 (by rw [hq, if_neg (by omega), if_neg (by omega), if_neg (by omega)]; rfl) (seq_0 s lo hi w h0 hm hz)
    · have hk : 1 < s.size := by omega
      have g1 := getD_at s 1 (by omega)
      rw [g1] at hq
      by_cases a : (s[1].toNat : Int) < lo
      · exact fin 0 (by rw [hq, if_neg (by omega), if_neg (by omega), if_pos ⟨by omega, .inl a⟩]; rfl) (seq_1_low s lo hi w hk hm hz a)
      by_cases b : hi < (s[1].toNat : Int)
      · exact fin 0 (by rw [hq, if_neg (by omega), if_neg (by omega), if_pos ⟨by omega, .inr b⟩]; rfl) (seq_1_high s lo hi w hk hm hz (by omega) b)
      exact fin 2 (by rw [hq, if_neg (by omega), if_neg (by omega), if_neg (by omega)]; rfl) (seq_1_good s lo hi w hk hm hz (by omega) (by omega))
    · have hk : 2 < s.size := by omega
      have g1 := getD_at s 1 (by omega)
      have g2 := getD_at s 2 (by omega)
      rw [g1, g2] at hq
      cases b2 : goesB s[2] with
      | false => exact fin 0 (by rw [hq, if_neg (by omega), if_pos ⟨by omega, b2⟩]; rfl) (seq_2_bad2 s lo hi w hk hm hz b2)
      | true =>
        by_cases a : (s[1].toNat : Int) < lo
        · exact fin 0 (by rw [hq, if_neg (by omega), if_neg (by rw [b2]; simp), if_pos ⟨by omega, .inl a⟩]; rfl) (seq_2_low s lo hi w hk hm hz b2 a)
        by_cases b : hi < (s[1].toNat : Int)
        · exact fin 0 (by rw [hq, if_neg (by omega), if_neg (by rw [b2]; simp), if_pos ⟨by omega, .inr b⟩]; rfl) (seq_2_high s lo hi w hk hm hz b2 (by omega) b)
        exact fin 3 (by rw [hq, if_neg (by omega), if_neg (by rw [b2]; simp), if_neg (by omega)]; rfl) (seq_2_good s lo hi w hk hm hz b2 (by omega) (by omega))
    · have hk : 3 < s.size := by omega
      have g1 := getD_at s 1 (by omega)
      have g2 := getD_at s 2 (by omega)
      have g3 := getD_at s 3 (by omega)
      rw [g1, g2, g3] at hq
      cases b3 : goesB s[3] with
      | false => exact fin 0 (by rw [hq, if_pos ⟨by omega, b3⟩]; rfl) (seq_3_bad3 s lo hi w hk hm hz b3)
      | true =>
        cases b2 : goesB s[2] with
        | false => exact fin 0 (by rw [hq, if_neg (by rw [b3]; simp), if_pos ⟨by omega, b2⟩]; rfl) (seq_3_bad2 s lo hi w hk hm hz b2 b3)
        | true =>
          by_cases a : (s[1].toNat : Int) < lo
          · exact fin 0 (by rw [hq, if_neg (by rw [b3]; simp), if_neg (by rw [b2]; simp), if_pos ⟨by omega, .inl a⟩]; rfl) (seq_3_low s lo hi w hk hm hz b3 b2 a)
          by_cases b : hi < (s[1].toNat : Int)
          · exact fin 0 (by rw [hq, if_neg (by rw [b3]; simp), if_neg (by rw [b2]; simp), if_pos ⟨by omega, .inr b⟩]; rfl) (seq_3_high s lo hi w hk hm hz b3 b2 (by omega) b)
          exact fin 4 (by rw [hq, if_neg (by rw [b3]; simp), if_neg (by rw [b2]; simp), if_neg (by omega)]; rfl) (seq_3_good s lo hi w hk hm hz b3 b2 (by omega) (by omega))

/-- what 'Check' leaves: the number, and some place -/
def CheckPost (ok : Bool) (w : World) (e : Ending) (w' : World) : Prop := ∃ p : Int, e = .returned (.tuple #[.int .i64 (if ok then 0 else 10), .int .i64 p]) ∧ Below w.heap.size w w'

theorem ext_from (s : ByteArray) (k : Nat) : (s.extract k s.size).data.toList = s.data.toList.drop k := by
  rw [Lib.extract_data, List.take_of_length_le (by rw [List.length_drop, len_eq]; omega)]
theorem ext_from_size (s : ByteArray) (k : Nat) : (s.extract k s.size).size = s.size - k := by
  rw [← len_eq, ext_from, List.length_drop, len_eq]

set_option maxRecDepth 100000 in
set_option maxHeartbeats 1000000 in
theorem check_any (s : ByteArray) (w : World) (hs : s.size ≤ 140737488351232) :
    Calls Tryz.prog 90 #[.string s] w (CheckPost (utfL s.data.toList) w) := by
  go_enter Tryz.func90, Tryz.ntmps90
  go_wp2
  go_loopw [4] (fun i wr => ∃ k : Nat, k ≤ s.size ∧ i = .int .i64 k ∧ Hid (utfL s.data.toList = utfL (s.data.toList.drop k)) ∧ Below w.heap.size w wr) (fun i _ => s.size - (intOf i).toNat)
  case atStart => exact ⟨0, Nat.zero_le _, rfl, Lib.hid rfl, Below.refl _ _⟩
  case round =>
    obtain ⟨k, hk, rfl, HQ, hB⟩ := hrel
    by_cases hlt : k < s.size
    · obtain ⟨d, hd⟩ : ∃ d : ByteArray, s.extract k s.size = d := ⟨_, rfl⟩
      have hdl : d.data.toList = s.data.toList.drop k := by rw [← hd, ext_from]
      have hds : d.size = s.size - k := by rw [← hd, ext_from_size]
      have hd0 : 0 < d.size := by omega
      have hd1 : d.size ≤ 140737488351232 := by omega
      obtain ⟨n, hn⟩ : ∃ n, seqLen d.data.toList = n := ⟨_, rfl⟩
      have hle : n ≤ s.size - k := by rw [← hn, ← hds, ← len_eq]; exact seqLen_le _
      have HD := Lib.hid hdl
      have HN := Lib.hid hn
      have HE : Hid (d.data.toList ≠ []) := fun e => by rw [← len_eq, e] at hd0; exact absurd hd0 (by simp)
      clear hdl hds hn
      by_cases hz : n = 0
      · subst hz
        go_wp2_with (go_at_call 109; refine (seq_any d _ hd0 hd1).mono ?_; rintro e w1 ⟨rfl, hB1⟩; rw [HN.out])
        go_ret2
        exact ⟨k, by rw [HQ.out, ← HD.out, utfL_bad _ HE.out HN.out]; rfl, hB.trans (hB1.mono hB.size)⟩
      · have hz2 : ((n : Int) == 0) = false := beq_eq_false_iff_ne.2 (by omega)
        have HZ := Lib.hid hz
        clear hz
        go_wp2_with (go_at_call 109; refine (seq_any d _ hd0 hd1).mono ?_; rintro e w1 ⟨rfl, hB1⟩; rw [HN.out])
        go_roundw
        case rel => exact ⟨k + n, by omega, by go_num, Lib.hid (by rw [HQ.out, ← HD.out, utfL_step _ HE.out (by rw [HN.out]; exact HZ.out), HN.out, HD.out, List.drop_drop]), hB.trans (hB1.mono hB.size)⟩
        case measure => have := HZ.out; simp [intOf]; omega
    · go_wp2
      go_ret2
      exact ⟨s.size, by rw [HQ.out, List.drop_of_length_le (by rw [len_eq]; omega), utfL_nil]; rfl, hB⟩

set_option maxHeartbeats 400000 in
theorem utf_any (s : ByteArray) (w : World) (hs : s.size ≤ 140737488351232) :
    Calls Tryz.prog 224 #[.string s] w fun e w' => e = .returned (.bool (utfL s.data.toList)) ∧ Below w.heap.size w w' := by
  obtain ⟨b, hb⟩ : ∃ b, utfL s.data.toList = b := ⟨_, rfl⟩
  have HB := Lib.hid hb
  clear hb
  rw [HB.out]
  cases b
  all_goals
    go_enter Tryz.func224, Tryz.ntmps224
    go_wp2_with (go_at_call 90; refine (check_any _ _ hs).mono ?_; rintro e w1 ⟨p, rfl, hB⟩; rw [HB.out])
    go_ret
    exact ⟨rfl, hB⟩

end Go.Proofs.YthopanlkjdcgmaaGreatDoor.W

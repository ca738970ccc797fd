/- Walks of the reader of times: more, row, leap, days. -/
import Derived.Test.YthopanlkjdcgmaaGreatDoorTimeA
namespace Go.Proofs.YthopanlkjdcgmaaGreatDoor.W
open Go.RowKit Go.Proofs.YthopanlkjdcgmaaGreatDoor.Plain

/-- whether a digit stands at the front -/
def headD : Bytes → Bool
  | [] => false
  | c :: _ => digitB c
theorem headD_none {s : ByteArray} (h : s.size = 0) : headD s.data.toList = false := by rw [(empty_of h).2.2.2]; rfl
theorem headD_some {s : ByteArray} (h : 0 < s.size) : headD s.data.toList = digitB (s[0]'h) := by
  have h2 : s.data.toList[0]? = some (s[0]'h) := by rw [List.getElem?_eq_getElem (by rw [len_eq]; exact h)]; rfl
  cases hl : s.data.toList with
  | nil => rw [hl] at h2; simp at h2
  | cons a r => rw [hl] at h2; simp at h2; rw [← h2]; rfl

set_option maxHeartbeats 400000 in
theorem more_calls (b : Nat) (s : ByteArray) (ok : Bool) (w : World) (h : RdAt w b s ok) :
    Calls Tryz.prog 258 #[.pointer (some ⟨b, 0, none⟩)] w fun e w' => e = .returned (.bool (ok && headD s.data.toList)) ∧ w = w' := by
  obtain ⟨h0, h1, f0, f1⟩ := h
  by_cases hz : s.size = 0
  · have HN := Lib.hid (headD_none hz)
    have h3 := (empty_of hz).2.2.1
    have h4 : s = ⟨#[]⟩ := mk_of (empty_of hz).2.2.2
    subst h4
    cases ok
    all_goals
      go_enter Tryz.func258, Tryz.ntmps258
      go_wp2
      go_ret
      exact ⟨by first | (rw [HN.out]; rfl) | rfl, rfl⟩
  · have hp : 0 < s.size := by omega
    have HN := Lib.hid (headD_some hp)
    obtain ⟨he1, he2, he3⟩ := full_of hp
    cases ok
    · go_enter Tryz.func258, Tryz.ntmps258
      go_wp2
      go_ret
      exact ⟨by simp, rfl⟩
    · go_enter Tryz.func258, Tryz.ntmps258
      go_wp2_with (go_at_call 65; refine (digit _ _).mono ?_; rintro e w4 ⟨rfl, rfl⟩)
      go_ret
      exact ⟨by rw [HN.out]; first | rfl | simp [he1], rfl⟩

def leapI (y : Int) : Bool := decide (y % 4 = 0) && (!decide (y % 100 = 0) || decide (y % 400 = 0))
def daysI (y m : Int) : Int := if m = 4 ∨ m = 6 ∨ m = 9 ∨ m = 11 then 30 else if m = 2 then (if leapI y then 29 else 28) else 31

set_option maxHeartbeats 400000 in
theorem leap_calls (y : Int) (hy : 0 ≤ y) (w : World) :
    Calls Tryz.prog 263 #[.int .i64 y] w fun e w' => e = .returned (.bool (leapI y)) ∧ w = w' := by
  have e4 : y.tmod 4 = y % 4 := Int.tmod_eq_emod_of_nonneg hy
  have e100 : y.tmod 100 = y % 100 := Int.tmod_eq_emod_of_nonneg hy
  have e400 : y.tmod 400 = y % 400 := Int.tmod_eq_emod_of_nonneg hy
  go_enter Tryz.func263, Tryz.ntmps263
  go_wp2
  all_goals go_ret
  all_goals exact ⟨ret_bool (by unfold leapI; rw [Bool.eq_iff_iff]; simp; omega), rfl⟩

set_option maxHeartbeats 400000 in
theorem days_calls (y m : Int) (hy : m = 2 → 0 ≤ y) (w : World) :
    Calls Tryz.prog 257 #[.int .i64 y, .int .i64 m] w fun e w' => e = .returned (.int .i64 (daysI y m)) ∧ w = w' := by
  by_cases h1 : m = 4 ∨ m = 6 ∨ m = 9 ∨ m = 11
  · have HD : Hid (daysI y m = 30) := by unfold daysI; rw [if_pos h1]; exact Lib.hid rfl
    rcases h1 with rfl | rfl | rfl | rfl
    all_goals
      go_enter Tryz.func257, Tryz.ntmps257
      go_wp2
      go_ret
      exact ⟨by rw [HD.out]; rfl, rfl⟩
  · have n4 : ¬ m = 4 := by omega
    have n6 : ¬ m = 6 := by omega
    have n9 : ¬ m = 9 := by omega
    have n11 : ¬ m = 11 := by omega
    by_cases h2 : m = 2
    · subst h2
      obtain ⟨a, ha⟩ : ∃ a, leapI y = a := ⟨_, rfl⟩
      have HD : Hid (daysI y 2 = if a then 29 else 28) := by unfold daysI; rw [if_neg h1, if_pos rfl, ha]; exact Lib.hid rfl
      have HA := Lib.hid ha
      clear ha h1
      cases a
      all_goals
        go_enter Tryz.func257, Tryz.ntmps257
        go_wp2_with (go_at_call 263; refine (leap_calls y (hy rfl) _).mono ?_; rintro e w4 ⟨rfl, rfl⟩; rw [HA.out])
        go_ret
        exact ⟨by rw [HD.out]; rfl, rfl⟩
    · have HD : Hid (daysI y m = 31) := by unfold daysI; rw [if_neg h1, if_neg h2]; exact Lib.hid rfl
      clear h1
      go_enter Tryz.func257, Tryz.ntmps257
      go_wp2
      go_ret
      exact ⟨by rw [HD.out]; rfl, rfl⟩
theorem daysI_range (y m : Int) : 28 ≤ daysI y m ∧ daysI y m ≤ 31 := by
  unfold daysI; split
  · omega
  · split
    · split <;> omega
    · omega

end Go.Proofs.YthopanlkjdcgmaaGreatDoor.W

/- Walks of text.missing, sequence, Check and match.utf: is a text UTF-8? -/
import Derived.Test.YthopanlkjdcgmaaGreatDoorKit
import Derived.Test.YthopanlkjdcgmaaGreatDoorText
import Derived.RegionTactic
import Derived.ChangeAlike
import Derived.Deep.QuietTactic
import Derived.BigQuiet
namespace Go.Proofs.YthopanlkjdcgmaaGreatDoor.W
open Go.RowKit Go.Proofs.YthopanlkjdcgmaaGreatDoor.Plain

def missV (r : Int × Int × Int × Bool) : Value := .tuple #[.int .i64 r.1, .agg #[.int .u8 r.2.1, .int .u8 r.2.2.1], .bool r.2.2.2]

set_option maxHeartbeats 400000 in
theorem missing_1 (c : Int) (w : World) (_h0 : 0 ≤ c) (h : c < 128) :
    Calls Tryz.prog 123 #[.int .u8 c] w fun e w' => e = .returned (missV (0, 128, 191, true)) ∧ Below w.heap.size w w' := by
  go_enter Tryz.func123, Tryz.ntmps123
  go_wp2
  go_region
  go_wp2
  exact bodyPost_ret (v := missV (0, 128, 191, true)) (by simp [results, Tryz.results123, go_sem, missV]) rfl ⟨rfl, by repeat (first | exact Below.refl _ _ | (refine Below.drew ?_) | (refine Below.setCell ?_ (by simp) _) | (refine Below.alloc ?_ (by simp <;> omega) _))⟩

set_option maxHeartbeats 400000 in
theorem missing_2 (c : Int) (w : World) (h0 : 194 ≤ c) (h : c ≤ 223) :
    Calls Tryz.prog 123 #[.int .u8 c] w fun e w' => e = .returned (missV (1, 128, 191, true)) ∧ Below w.heap.size w w' := by
  go_enter Tryz.func123, Tryz.ntmps123
  go_wp2
  go_region
  go_wp2
  exact bodyPost_ret (v := missV (1, 128, 191, true)) (by simp [results, Tryz.results123, go_sem, missV]) rfl ⟨rfl, by repeat (first | exact Below.refl _ _ | (refine Below.drew ?_) | (refine Below.setCell ?_ (by simp) _) | (refine Below.alloc ?_ (by simp <;> omega) _))⟩

set_option maxHeartbeats 400000 in
theorem missing_3  (w : World)  :
    Calls Tryz.prog 123 #[.int .u8 224] w fun e w' => e = .returned (missV (2, 160, 191, true)) ∧ Below w.heap.size w w' := by
  go_enter Tryz.func123, Tryz.ntmps123
  go_wp2
  exact bodyPost_ret (v := missV (2, 160, 191, true)) (by simp [results, Tryz.results123, go_sem, missV]) rfl ⟨rfl, by repeat (first | exact Below.refl _ _ | (refine Below.drew ?_) | (refine Below.setCell ?_ (by simp) _) | (refine Below.alloc ?_ (by simp <;> omega) _))⟩

set_option maxHeartbeats 400000 in
theorem missing_4  (w : World)  :
    Calls Tryz.prog 123 #[.int .u8 237] w fun e w' => e = .returned (missV (2, 128, 159, true)) ∧ Below w.heap.size w w' := by
  go_enter Tryz.func123, Tryz.ntmps123
  go_wp2
  exact bodyPost_ret (v := missV (2, 128, 159, true)) (by simp [results, Tryz.results123, go_sem, missV]) rfl ⟨rfl, by repeat (first | exact Below.refl _ _ | (refine Below.drew ?_) | (refine Below.setCell ?_ (by simp) _) | (refine Below.alloc ?_ (by simp <;> omega) _))⟩

set_option maxHeartbeats 400000 in
theorem missing_5 (c : Int) (w : World) (h0 : 225 ≤ c) (h : c ≤ 239) (hn : c ≠ 237) :
    Calls Tryz.prog 123 #[.int .u8 c] w fun e w' => e = .returned (missV (2, 128, 191, true)) ∧ Below w.heap.size w w' := by
  have b224 : (c == 224) = false := beq_eq_false_iff_ne.2 (by omega)
  have b237 : (c == 237) = false := beq_eq_false_iff_ne.2 (by omega)
  clear hn
  go_enter Tryz.func123, Tryz.ntmps123
  go_wp2
  go_region
  go_wp2
  exact bodyPost_ret (v := missV (2, 128, 191, true)) (by simp [results, Tryz.results123, go_sem, missV]) rfl ⟨rfl, by repeat (first | exact Below.refl _ _ | (refine Below.drew ?_) | (refine Below.setCell ?_ (by simp) _) | (refine Below.alloc ?_ (by simp <;> omega) _))⟩

set_option maxHeartbeats 400000 in
theorem missing_6  (w : World)  :
    Calls Tryz.prog 123 #[.int .u8 240] w fun e w' => e = .returned (missV (3, 144, 191, true)) ∧ Below w.heap.size w w' := by
  go_enter Tryz.func123, Tryz.ntmps123
  go_wp2
  exact bodyPost_ret (v := missV (3, 144, 191, true)) (by simp [results, Tryz.results123, go_sem, missV]) rfl ⟨rfl, by repeat (first | exact Below.refl _ _ | (refine Below.drew ?_) | (refine Below.setCell ?_ (by simp) _) | (refine Below.alloc ?_ (by simp <;> omega) _))⟩

set_option maxHeartbeats 400000 in
theorem missing_7 (c : Int) (w : World) (h0 : 241 ≤ c) (h : c ≤ 243) :
    Calls Tryz.prog 123 #[.int .u8 c] w fun e w' => e = .returned (missV (3, 128, 191, true)) ∧ Below w.heap.size w w' := by
  have b224 : (c == 224) = false := beq_eq_false_iff_ne.2 (by omega)
  have b237 : (c == 237) = false := beq_eq_false_iff_ne.2 (by omega)
  have b240 : (c == 240) = false := beq_eq_false_iff_ne.2 (by omega)
  go_enter Tryz.func123, Tryz.ntmps123
  go_wp2
  go_region
  go_wp2
  exact bodyPost_ret (v := missV (3, 128, 191, true)) (by simp [results, Tryz.results123, go_sem, missV]) rfl ⟨rfl, by repeat (first | exact Below.refl _ _ | (refine Below.drew ?_) | (refine Below.setCell ?_ (by simp) _) | (refine Below.alloc ?_ (by simp <;> omega) _))⟩

set_option maxHeartbeats 400000 in
theorem missing_8  (w : World)  :
    Calls Tryz.prog 123 #[.int .u8 244] w fun e w' => e = .returned (missV (3, 128, 143, true)) ∧ Below w.heap.size w w' := by
  go_enter Tryz.func123, Tryz.ntmps123
  go_wp2
  exact bodyPost_ret (v := missV (3, 128, 143, true)) (by simp [results, Tryz.results123, go_sem, missV]) rfl ⟨rfl, by repeat (first | exact Below.refl _ _ | (refine Below.drew ?_) | (refine Below.setCell ?_ (by simp) _) | (refine Below.alloc ?_ (by simp <;> omega) _))⟩

set_option maxHeartbeats 400000 in
theorem missing_9 (c : Int) (w : World) (h0 : 128 ≤ c) (h : c < 194) :
    Calls Tryz.prog 123 #[.int .u8 c] w fun e w' => e = .returned (missV (0, 128, 191, false)) ∧ Below w.heap.size w w' := by
  have b224 : (c == 224) = false := beq_eq_false_iff_ne.2 (by omega)
  have b237 : (c == 237) = false := beq_eq_false_iff_ne.2 (by omega)
  have b240 : (c == 240) = false := beq_eq_false_iff_ne.2 (by omega)
  have b244 : (c == 244) = false := beq_eq_false_iff_ne.2 (by omega)
  go_enter Tryz.func123, Tryz.ntmps123
  go_wp2
  go_region
  go_wp2
  exact bodyPost_ret (v := missV (0, 128, 191, false)) (by simp [results, Tryz.results123, go_sem, missV]) rfl ⟨rfl, by repeat (first | exact Below.refl _ _ | (refine Below.drew ?_) | (refine Below.setCell ?_ (by simp) _) | (refine Below.alloc ?_ (by simp <;> omega) _))⟩

set_option maxHeartbeats 400000 in
theorem missing_10 (c : Int) (w : World) (h0 : 244 < c) :
    Calls Tryz.prog 123 #[.int .u8 c] w fun e w' => e = .returned (missV (0, 128, 191, false)) ∧ Below w.heap.size w w' := by
  have b224 : (c == 224) = false := beq_eq_false_iff_ne.2 (by omega)
  have b237 : (c == 237) = false := beq_eq_false_iff_ne.2 (by omega)
  have b240 : (c == 240) = false := beq_eq_false_iff_ne.2 (by omega)
  have b244 : (c == 244) = false := beq_eq_false_iff_ne.2 (by omega)
  go_enter Tryz.func123, Tryz.ntmps123
  go_wp2
  go_region
  go_wp2
  exact bodyPost_ret (v := missV (0, 128, 191, false)) (by simp [results, Tryz.results123, go_sem, missV]) rfl ⟨rfl, by repeat (first | exact Below.refl _ _ | (refine Below.drew ?_) | (refine Below.setCell ?_ (by simp) _) | (refine Below.alloc ?_ (by simp <;> omega) _))⟩

theorem missing_any (c : Int) (w : World) (h0 : 0 ≤ c) :
    Calls Tryz.prog 123 #[.int .u8 c] w fun e w' => e = .returned (missV (missI c)) ∧ Below w.heap.size w w' := by
  unfold missI
  by_cases h1 : c < 128
  · rw [if_pos h1]; exact missing_1 c w h0 h1
  rw [if_neg h1]
  by_cases h2 : 194 ≤ c ∧ c ≤ 223
  · rw [if_pos h2]; exact missing_2 c w h2.1 h2.2
  rw [if_neg h2]
  by_cases h3 : c = 224
  · subst h3; exact missing_3 w
  rw [if_neg h3]
  by_cases h4 : c = 237
  · subst h4; exact missing_4 w
  rw [if_neg h4]
  by_cases h5 : 225 ≤ c ∧ c ≤ 239
  · rw [if_pos h5]; exact missing_5 c w h5.1 h5.2 h4
  rw [if_neg h5]
  by_cases h6 : c = 240
  · subst h6; exact missing_6 w
  rw [if_neg h6]
  by_cases h7 : 241 ≤ c ∧ c ≤ 243
  · rw [if_pos h7]; exact missing_7 c w h7.1 h7.2
  rw [if_neg h7]
  by_cases h8 : c = 244
  · subst h8; exact missing_8 w
  rw [if_neg h8]
  by_cases h9 : c < 194
  · exact missing_9 c w (by omega) h9
  · exact missing_10 c w (by omega)


theorem missV_eq (n lo hi : Int) (ok : Bool) : missV (n, lo, hi, ok) = .tuple #[.int .i64 n, .agg #[.int .u8 lo, .int .u8 hi], .bool ok] := rfl

set_option maxRecDepth 100000 in
set_option maxHeartbeats 400000 in
/-- none begins so -/
theorem seq_none (s : ByteArray) (n lo hi : Int) (w : World) (h0 : 0 < s.size) (hm : missI (s[0].toNat : Int) = (n, lo, hi, false)) :
    Calls Tryz.prog 109 #[.string s] w fun e w' => e = .returned (.int .i64 0) ∧ Below w.heap.size w w' := by
  have HM := Lib.hid hm
  clear hm
  go_enter Tryz.func109, Tryz.ntmps109
  go_wp2_with (go_at_call 123; refine (missing_any _ _ (by omega)).mono ?_; rintro e w1 ⟨rfl, hB⟩; rw [HM.out, missV_eq])
  go_ret
  exact ⟨rfl, by have := hB.size; exact (hB.alloc this _)⟩

set_option maxRecDepth 100000 in
set_option maxHeartbeats 400000 in
/-- bytes are missing -/
theorem seq_short (s : ByteArray) (n lo hi : Int) (w : World) (h0 : 0 < s.size) (hm : missI (s[0].toNat : Int) = (n, lo, hi, true)) (hn : n ≤ 3) (hn0 : 0 ≤ n) (hs : (s.size : Int) < n + 1) :
    Calls Tryz.prog 109 #[.string s] w fun e w' => e = .returned (.int .i64 0) ∧ Below w.heap.size w w' := by
  have HM := Lib.hid hm
  clear hm
  go_enter Tryz.func109, Tryz.ntmps109
  go_wp2_with (go_at_call 123; refine (missing_any _ _ (by omega)).mono ?_; rintro e w1 ⟨rfl, hB⟩; rw [HM.out, missV_eq])
  go_ret
  exact ⟨rfl, by have := hB.size; exact (hB.alloc this _)⟩

set_option maxRecDepth 100000 in
set_option maxHeartbeats 400000 in
/-- one byte -/
theorem seq_0 (s : ByteArray) (lo hi : Int) (w : World) (h0 : 0 < s.size) (hm : missI (s[0].toNat : Int) = (0, lo, hi, true)) (hz : s.size ≤ 140737488351232) :
    Calls Tryz.prog 109 #[.string s] w fun e w' => e = .returned (.int .i64 1) ∧ Below w.heap.size w w' := by
  have HM := Lib.hid hm
  clear hm
  go_enter Tryz.func109, Tryz.ntmps109
  go_wp2_with (go_at_call 123; refine (missing_any _ _ (by omega)).mono ?_; rintro e w1 ⟨rfl, hB⟩; rw [HM.out, missV_eq])
  go_ret
  exact ⟨rfl, by have := hB.size; exact (hB.alloc this _)⟩

theorem below_ad {B : Nat} {w w1 : World} (h : Below B w w1) (hz : B ≤ w1.heap.size) (o : Obj) (n : Nat) : Below B w ((w1.alloc o).drewN n) := below_drewN (h.alloc hz o) n
theorem below_a {B : Nat} {w w1 : World} (h : Below B w w1) (hz : B ≤ w1.heap.size) (o : Obj) : Below B w (w1.alloc o) := h.alloc hz o

set_option maxRecDepth 100000 in
set_option maxHeartbeats 400000 in
theorem seq_1_low (s : ByteArray) (lo hi : Int) (w : World) (h0 : 1 < s.size) (hm : missI (s[0].toNat : Int) = (1, lo, hi, true)) (hz : s.size ≤ 140737488351232) (hl : (s[1].toNat : Int) < lo) :
    Calls Tryz.prog 109 #[.string s] w fun e w' => e = .returned (.int .i64 0) ∧ Below w.heap.size w w' := by
  have HM := Lib.hid hm
  have i1 : (1 : Int) < (s.size : Int) := by omega
  have d1 : decide ((s[1].toNat : Int) < lo) = true := by simp; omega
  clear hm
  go_enter Tryz.func109, Tryz.ntmps109
  go_wp2_with (go_at_call 123; refine (missing_any _ _ (by omega)).mono ?_; rintro e w1 ⟨rfl, hB⟩; rw [HM.out, missV_eq])
  go_quiet (fail)
  go_wp2
  go_ret
  exact ⟨rfl, by have := hB.size; first | exact below_ad hB this _ _ | exact below_a hB this _⟩

set_option maxRecDepth 100000 in
set_option maxHeartbeats 400000 in
theorem seq_1_high (s : ByteArray) (lo hi : Int) (w : World) (h0 : 1 < s.size) (hm : missI (s[0].toNat : Int) = (1, lo, hi, true)) (hz : s.size ≤ 140737488351232) (hl : lo ≤ (s[1].toNat : Int)) (hh : hi < (s[1].toNat : Int)) :
    Calls Tryz.prog 109 #[.string s] w fun e w' => e = .returned (.int .i64 0) ∧ Below w.heap.size w w' := by
  have HM := Lib.hid hm
  have i1 : (1 : Int) < (s.size : Int) := by omega
  have d1 : decide ((s[1].toNat : Int) < lo) = false := by simp; omega
  clear hm
  go_enter Tryz.func109, Tryz.ntmps109
  go_wp2_with (go_at_call 123; refine (missing_any _ _ (by omega)).mono ?_; rintro e w1 ⟨rfl, hB⟩; rw [HM.out, missV_eq])
  go_quiet (fail)
  go_wp2
  go_ret
  exact ⟨rfl, by have := hB.size; first | exact below_ad hB this _ _ | exact below_a hB this _⟩

set_option maxRecDepth 100000 in
set_option maxHeartbeats 400000 in
theorem seq_1_good (s : ByteArray) (lo hi : Int) (w : World) (h0 : 1 < s.size) (hm : missI (s[0].toNat : Int) = (1, lo, hi, true)) (hz : s.size ≤ 140737488351232) (hl : lo ≤ (s[1].toNat : Int)) (hh : (s[1].toNat : Int) ≤ hi) :
    Calls Tryz.prog 109 #[.string s] w fun e w' => e = .returned (.int .i64 2) ∧ Below w.heap.size w w' := by
  have HM := Lib.hid hm
  have i1 : (1 : Int) < (s.size : Int) := by omega
  have d1 : decide ((s[1].toNat : Int) < lo) = false := by simp; omega
  clear hm
  go_enter Tryz.func109, Tryz.ntmps109
  go_wp2_with (go_at_call 123; refine (missing_any _ _ (by omega)).mono ?_; rintro e w1 ⟨rfl, hB⟩; rw [HM.out, missV_eq])
  go_quiet (fail)
  go_wp2
  go_ret
  exact ⟨rfl, by have := hB.size; first | exact below_ad hB this _ _ | exact below_a hB this _⟩

set_option maxRecDepth 100000 in
set_option maxHeartbeats 400000 in
theorem seq_2_bad2 (s : ByteArray) (lo hi : Int) (w : World) (h0 : 2 < s.size) (hm : missI (s[0].toNat : Int) = (2, lo, hi, true)) (hz : s.size ≤ 140737488351232) (hb : goesB s[2] = false) :
    Calls Tryz.prog 109 #[.string s] w fun e w' => e = .returned (.int .i64 0) ∧ Below w.heap.size w w' := by
  have HM := Lib.hid hm
  have i1 : (1 : Int) < (s.size : Int) := by omega
  have i2 : (2 : Int) < (s.size : Int) := by omega
  clear hm
  go_enter Tryz.func109, Tryz.ntmps109
  go_wp2_with (first | (go_at_call 123; refine (missing_any _ _ (by omega)).mono ?_; rintro e w1 ⟨rfl, hB⟩; rw [HM.out, missV_eq]) | (go_at_call 124; refine (goesOn _ _).mono ?_; rintro e w' ⟨rfl, rfl⟩))
  go_ret
  exact ⟨rfl, by have := hB.size; first | exact below_ad hB this _ _ | exact below_a hB this _⟩

set_option maxRecDepth 100000 in
set_option maxHeartbeats 400000 in
theorem seq_2_low (s : ByteArray) (lo hi : Int) (w : World) (h0 : 2 < s.size) (hm : missI (s[0].toNat : Int) = (2, lo, hi, true)) (hz : s.size ≤ 140737488351232) (g2 : goesB s[2] = true) (hl : (s[1].toNat : Int) < lo) :
    Calls Tryz.prog 109 #[.string s] w fun e w' => e = .returned (.int .i64 0) ∧ Below w.heap.size w w' := by
  have HM := Lib.hid hm
  have i1 : (1 : Int) < (s.size : Int) := by omega
  have i2 : (2 : Int) < (s.size : Int) := by omega
  have d1 : decide ((s[1].toNat : Int) < lo) = true := by simp; omega
  clear hm
  go_enter Tryz.func109, Tryz.ntmps109
  go_wp2_with (first | (go_at_call 123; refine (missing_any _ _ (by omega)).mono ?_; rintro e w1 ⟨rfl, hB⟩; rw [HM.out, missV_eq]) | (go_at_call 124; refine (goesOn _ _).mono ?_; rintro e w' ⟨rfl, rfl⟩))
  go_quiet (fail)
  go_wp2
  go_ret
  exact ⟨rfl, by have := hB.size; first | exact below_ad hB this _ _ | exact below_a hB this _⟩

set_option maxRecDepth 100000 in
set_option maxHeartbeats 400000 in
theorem seq_2_high (s : ByteArray) (lo hi : Int) (w : World) (h0 : 2 < s.size) (hm : missI (s[0].toNat : Int) = (2, lo, hi, true)) (hz : s.size ≤ 140737488351232) (g2 : goesB s[2] = true) (hl : lo ≤ (s[1].toNat : Int)) (hh : hi < (s[1].toNat : Int)) :
    Calls Tryz.prog 109 #[.string s] w fun e w' => e = .returned (.int .i64 0) ∧ Below w.heap.size w w' := by
  have HM := Lib.hid hm
  have i1 : (1 : Int) < (s.size : Int) := by omega
  have i2 : (2 : Int) < (s.size : Int) := by omega
  have d1 : decide ((s[1].toNat : Int) < lo) = false := by simp; omega
  clear hm
  go_enter Tryz.func109, Tryz.ntmps109
  go_wp2_with (first | (go_at_call 123; refine (missing_any _ _ (by omega)).mono ?_; rintro e w1 ⟨rfl, hB⟩; rw [HM.out, missV_eq]) | (go_at_call 124; refine (goesOn _ _).mono ?_; rintro e w' ⟨rfl, rfl⟩))
  go_quiet (fail)
  go_wp2
  go_ret
  exact ⟨rfl, by have := hB.size; first | exact below_ad hB this _ _ | exact below_a hB this _⟩

set_option maxRecDepth 100000 in
set_option maxHeartbeats 400000 in
theorem seq_2_good (s : ByteArray) (lo hi : Int) (w : World) (h0 : 2 < s.size) (hm : missI (s[0].toNat : Int) = (2, lo, hi, true)) (hz : s.size ≤ 140737488351232) (g2 : goesB s[2] = true) (hl : lo ≤ (s[1].toNat : Int)) (hh : (s[1].toNat : Int) ≤ hi) :
    Calls Tryz.prog 109 #[.string s] w fun e w' => e = .returned (.int .i64 3) ∧ Below w.heap.size w w' := by
  have HM := Lib.hid hm
  have i1 : (1 : Int) < (s.size : Int) := by omega
  have i2 : (2 : Int) < (s.size : Int) := by omega
  have d1 : decide ((s[1].toNat : Int) < lo) = false := by simp; omega
  clear hm
  go_enter Tryz.func109, Tryz.ntmps109
  go_wp2_with (first | (go_at_call 123; refine (missing_any _ _ (by omega)).mono ?_; rintro e w1 ⟨rfl, hB⟩; rw [HM.out, missV_eq]) | (go_at_call 124; refine (goesOn _ _).mono ?_; rintro e w' ⟨rfl, rfl⟩))
  go_quiet (fail)
  go_wp2
  go_ret
  exact ⟨rfl, by have := hB.size; first | exact below_ad hB this _ _ | exact below_a hB this _⟩

set_option maxRecDepth 100000 in
set_option maxHeartbeats 400000 in
theorem seq_3_bad3 (s : ByteArray) (lo hi : Int) (w : World) (h0 : 3 < s.size) (hm : missI (s[0].toNat : Int) = (3, lo, hi, true)) (hz : s.size ≤ 140737488351232) (hb : goesB s[3] = false) :
    Calls Tryz.prog 109 #[.string s] w fun e w' => e = .returned (.int .i64 0) ∧ Below w.heap.size w w' := by
  have HM := Lib.hid hm
  have i1 : (1 : Int) < (s.size : Int) := by omega
  have i2 : (2 : Int) < (s.size : Int) := by omega
  have i3 : (3 : Int) < (s.size : Int) := by omega
  clear hm
  go_enter Tryz.func109, Tryz.ntmps109
  go_wp2_with (first | (go_at_call 123; refine (missing_any _ _ (by omega)).mono ?_; rintro e w1 ⟨rfl, hB⟩; rw [HM.out, missV_eq]) | (go_at_call 124; refine (goesOn _ _).mono ?_; rintro e w' ⟨rfl, rfl⟩))
  go_ret
  exact ⟨rfl, by have := hB.size; first | exact below_ad hB this _ _ | exact below_a hB this _⟩

set_option maxRecDepth 100000 in
set_option maxHeartbeats 400000 in
theorem seq_3_bad2 (s : ByteArray) (lo hi : Int) (w : World) (h0 : 3 < s.size) (hm : missI (s[0].toNat : Int) = (3, lo, hi, true)) (hz : s.size ≤ 140737488351232) (hb : goesB s[2] = false) (g3 : goesB s[3] = true) :
    Calls Tryz.prog 109 #[.string s] w fun e w' => e = .returned (.int .i64 0) ∧ Below w.heap.size w w' := by
  have HM := Lib.hid hm
  have i1 : (1 : Int) < (s.size : Int) := by omega
  have i2 : (2 : Int) < (s.size : Int) := by omega
  have i3 : (3 : Int) < (s.size : Int) := by omega
  clear hm
  go_enter Tryz.func109, Tryz.ntmps109
  go_wp2_with (first | (go_at_call 123; refine (missing_any _ _ (by omega)).mono ?_; rintro e w1 ⟨rfl, hB⟩; rw [HM.out, missV_eq]) | (go_at_call 124; refine (goesOn _ _).mono ?_; rintro e w' ⟨rfl, rfl⟩))
  go_ret
  exact ⟨rfl, by have := hB.size; first | exact below_ad hB this _ _ | exact below_a hB this _⟩

set_option maxRecDepth 100000 in
set_option maxHeartbeats 400000 in
theorem seq_3_low (s : ByteArray) (lo hi : Int) (w : World) (h0 : 3 < s.size) (hm : missI (s[0].toNat : Int) = (3, lo, hi, true)) (hz : s.size ≤ 140737488351232) (g3 : goesB s[3] = true) (g2 : goesB s[2] = true) (hl : (s[1].toNat : Int) < lo) :
    Calls Tryz.prog 109 #[.string s] w fun e w' => e = .returned (.int .i64 0) ∧ Below w.heap.size w w' := by
  have HM := Lib.hid hm
  have i1 : (1 : Int) < (s.size : Int) := by omega
  have i2 : (2 : Int) < (s.size : Int) := by omega
  have i3 : (3 : Int) < (s.size : Int) := by omega
  have d1 : decide ((s[1].toNat : Int) < lo) = true := by simp; omega
  clear hm
  go_enter Tryz.func109, Tryz.ntmps109
  go_wp2_with (first | (go_at_call 123; refine (missing_any _ _ (by omega)).mono ?_; rintro e w1 ⟨rfl, hB⟩; rw [HM.out, missV_eq]) | (go_at_call 124; refine (goesOn _ _).mono ?_; rintro e w' ⟨rfl, rfl⟩))
  go_quiet (fail)
  go_wp2
  go_ret
  exact ⟨rfl, by have := hB.size; first | exact below_ad hB this _ _ | exact below_a hB this _⟩

set_option maxRecDepth 100000 in
set_option maxHeartbeats 400000 in
theorem seq_3_high (s : ByteArray) (lo hi : Int) (w : World) (h0 : 3 < s.size) (hm : missI (s[0].toNat : Int) = (3, lo, hi, true)) (hz : s.size ≤ 140737488351232) (g3 : goesB s[3] = true) (g2 : goesB s[2] = true) (hl : lo ≤ (s[1].toNat : Int)) (hh : hi < (s[1].toNat : Int)) :
    Calls Tryz.prog 109 #[.string s] w fun e w' => e = .returned (.int .i64 0) ∧ Below w.heap.size w w' := by
  have HM := Lib.hid hm
  have i1 : (1 : Int) < (s.size : Int) := by omega
  have i2 : (2 : Int) < (s.size : Int) := by omega
  have i3 : (3 : Int) < (s.size : Int) := by omega
  have d1 : decide ((s[1].toNat : Int) < lo) = false := by simp; omega
  clear hm
  go_enter Tryz.func109, Tryz.ntmps109
  go_wp2_with (first | (go_at_call 123; refine (missing_any _ _ (by omega)).mono ?_; rintro e w1 ⟨rfl, hB⟩; rw [HM.out, missV_eq]) | (go_at_call 124; refine (goesOn _ _).mono ?_; rintro e w' ⟨rfl, rfl⟩))
  go_quiet (fail)
  go_wp2
  go_ret
  exact ⟨rfl, by have := hB.size; first | exact below_ad hB this _ _ | exact below_a hB this _⟩

set_option maxRecDepth 100000 in
set_option maxHeartbeats 400000 in
theorem seq_3_good (s : ByteArray) (lo hi : Int) (w : World) (h0 : 3 < s.size) (hm : missI (s[0].toNat : Int) = (3, lo, hi, true)) (hz : s.size ≤ 140737488351232) (g3 : goesB s[3] = true) (g2 : goesB s[2] = true) (hl : lo ≤ (s[1].toNat : Int)) (hh : (s[1].toNat : Int) ≤ hi) :
    Calls Tryz.prog 109 #[.string s] w fun e w' => e = .returned (.int .i64 4) ∧ Below w.heap.size w w' := by
  have HM := Lib.hid hm
  have i1 : (1 : Int) < (s.size : Int) := by omega
  have i2 : (2 : Int) < (s.size : Int) := by omega
  have i3 : (3 : Int) < (s.size : Int) := by omega
  have d1 : decide ((s[1].toNat : Int) < lo) = false := by simp; omega
  clear hm
  go_enter Tryz.func109, Tryz.ntmps109
  go_wp2_with (first | (go_at_call 123; refine (missing_any _ _ (by omega)).mono ?_; rintro e w1 ⟨rfl, hB⟩; rw [HM.out, missV_eq]) | (go_at_call 124; refine (goesOn _ _).mono ?_; rintro e w' ⟨rfl, rfl⟩))
  go_quiet (fail)
  go_wp2
  go_ret
  exact ⟨rfl, by have := hB.size; first | exact below_ad hB this _ _ | exact below_a hB this _⟩


end Go.Proofs.YthopanlkjdcgmaaGreatDoor.W

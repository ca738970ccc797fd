/- MatchMonths: the law's helpers 'in' and 'two'. -/
import Derived.Test.YtcabkjmbklkedaaDoorTimeH
namespace Go.Proofs.YtcabkjmbklkedaaDoor.W
open Go.RowKit Go.Proofs.YtcabkjmbklkedaaDoor.Plain

set_option maxHeartbeats 400000 in
theorem in_calls (n lo hi : Int) (hn0 : -9223372036854775808 ≤ n) (hn1 : n ≤ 9223372036854775807) (h0 : 0 ≤ lo) (h1 : lo ≤ hi) (h2 : hi ≤ 9999) (w : World) :
    Calls Tryd.prog 7 #[.int .i64 n, .int .i64 lo, .int .i64 hi] w fun e w' => (∃ r : Int, lo ≤ r ∧ r ≤ hi ∧ e = .returned (.int .i64 r)) ∧ w = w' := by
  by_cases hneg : n < 0
  · have hm : ∀ m : Int, 0 ≤ m → 0 ≤ m.tmod (hi - lo + 1) ∧ m.tmod (hi - lo + 1) ≤ hi - lo := fun m hm => by
      have e : m.tmod (hi - lo + 1) = m % (hi - lo + 1) := Int.tmod_eq_emod_of_nonneg hm
      rw [e]
      have a := Int.emod_nonneg m (show hi - lo + 1 ≠ 0 by omega)
      have b := Int.emod_lt_of_pos m (show 0 < hi - lo + 1 by omega)
      omega
    have hm2 := hm (-(n + 1)) (by omega)
    rw [Int.neg_tmod] at hm2
    have hz : ¬ hi - lo + 1 = 0 := by omega
    have hz2 : (hi - lo + 1 == 0) = false := by rw [beq_eq_false_iff_ne]; exact hz
    clear hm
    go_enter Tryd.func7, Tryd.ntmps7
    go_wp2
    go_ret
    exact ⟨⟨_, by omega, by omega, rfl⟩, rfl⟩
  · have hm : ∀ m : Int, 0 ≤ m → 0 ≤ m.tmod (hi - lo + 1) ∧ m.tmod (hi - lo + 1) ≤ hi - lo := fun m hm => by
      have e : m.tmod (hi - lo + 1) = m % (hi - lo + 1) := Int.tmod_eq_emod_of_nonneg hm
      rw [e]
      have a := Int.emod_nonneg m (show hi - lo + 1 ≠ 0 by omega)
      have b := Int.emod_lt_of_pos m (show 0 < hi - lo + 1 by omega)
      omega
    have hm2 := hm n (by omega)
    rw [Int.tmod_eq_emod_of_nonneg (by omega : 0 ≤ n)] at hm2
    have hz : ¬ hi - lo + 1 = 0 := by omega
    have hz2 : (hi - lo + 1 == 0) = false := by rw [beq_eq_false_iff_ne]; exact hz
    clear hm
    go_enter Tryd.func7, Tryd.ntmps7
    go_wp2
    go_ret
    exact ⟨⟨_, by omega, by omega, rfl⟩, rfl⟩

def twoL (n : Nat) : Bytes := [UInt8.ofNat (48 + n / 10), UInt8.ofNat (48 + n % 10)]
theorem ofNat_int (k : Nat) (h : k < 256) : ((UInt8.ofNat k).toNat : Int) = k := by simp; omega

theorem two_bytes (w : World) (n m : Int) : (convert 41 9 (.slice (some ⟨w.heap.size, 0, none⟩) 2 2)).run Tryd.prog (w.alloc (.cells #[.int .u8 n, .int .u8 m] 5)) =
    .ok (.string ⟨#[UInt8.ofNat n.toNat, UInt8.ofNat m.toNat]⟩) (w.alloc (.cells #[.int .u8 n, .int .u8 m] 5)) := by
  have hx := run_convert_bytes_arg (P := Tryd.prog) (w.alloc (.cells #[.int .u8 n, .int .u8 m] 5)) 41 5 Tryd.underlying41 Tryd.underlying5 w.heap.size 0 2 2 [n, m] rfl (fun i hi => by
    have h : i = 0 ∨ i = 1 := by omega
    rcases h with rfl | rfl
    all_goals rw [World.cell?_alloc_new]; rfl) 9 Tryd.underlying9
  rw [hx]; rfl

set_option maxHeartbeats 1000000 in
set_option maxRecDepth 100000 in
theorem two_calls (n : Nat) (h : n < 100) (w : World) :
    Calls Tryd.prog 8 #[.int .i64 (n : Int)] w fun e w' => e = .returned (.string ⟨(twoL n).toArray⟩) ∧ Below w.heap.size w w' := by
  have e10 : (n : Int) / 10 = ((n / 10 : Nat) : Int) := by omega
  have t10 : (n : Int) % 10 = ((n % 10 : Nat) : Int) := by omega
  have a0 : n / 10 < 10 := by omega
  have b0 : n % 10 < 10 := by omega
  have hL : Hid (twoL n = [UInt8.ofNat (48 + n / 10), UInt8.ofNat (48 + n % 10)]) := Lib.hid rfl
  have hcv := two_bytes w (48 + (n : Int) / 10) (48 + (n : Int) % 10)
  clear e10 t10 a0 b0
  go_enter Tryd.func8, Tryd.ntmps8
  go_wp2
  go_ret
  exact ⟨rfl, (Below.refl _ _).alloc (Nat.le_refl _) _⟩

end Go.Proofs.YtcabkjmbklkedaaDoor.W

/- strconv.Itoa of 100..9999 whatever the table internal/strconv.uint64pow10 holds. -/
import Derived.Lib.ItoaWalk
import Derived.Lib.ItoaMem
import Derived.Lib.Walk
import Derived.WalkKit
import Derived.RegionTactic
import Derived.BigCall
import Derived.BigGuard
import Derived.CellFam
import Derived.Shelf.RegionOpenPlain
import Derived.Test.YthopanlkjdcgmaaGreatDoorTimeE
namespace Go.Proofs.YthopanlkjdcgmaaGreatDoor.W
open Go.RowKit Go.Sort Go.Proofs.YthopanlkjdcgmaaGreatDoor.Plain

/-- the table's cells, whatever they are -/
def TabAt (T : Nat → Int) (w : World) : Prop := ∀ k, k < 20 → w.cell? ⟨1, k, none⟩ = some (.int .u64 (T k))

theorem l10_in (u : Nat) (h1 : 100 ≤ u) (h2 : u ≤ 9999) : 2 ≤ Lib.l10 (Lib.bitLen u) ∧ Lib.l10 (Lib.bitLen u) ≤ 4 := by
  obtain ⟨a, b, c⟩ := Lib.bitLenAux_bounds 64 u (by omega) (by omega)
  have h14 : Lib.bitLen u ≤ 14 := Lib.bitLen_le u 14 (by omega) (by omega)
  have h7 : 7 ≤ Lib.bitLen u := by
    unfold Lib.bitLen
    by_cases hh : 7 ≤ Lib.bitLenAux 64 u
    · exact hh
    · have : 2 ^ Lib.bitLenAux 64 u ≤ 2 ^ 6 := Nat.pow_le_pow_right (by omega) (by omega)
      omega
  unfold Lib.l10
  omega
def digI (T : Nat → Int) (u : Nat) : Nat := Lib.l10 (Lib.bitLen u) + if T (Lib.l10 (Lib.bitLen u)) ≤ (u : Int) then 1 else 0
theorem digI_in (T : Nat → Int) (u : Nat) (h1 : 100 ≤ u) (h2 : u ≤ 9999) : 2 ≤ digI T u ∧ digI T u ≤ 5 := by
  have := l10_in u h1 h2
  unfold digI; split <;> omega

set_option maxHeartbeats 400000 in
theorem numDigits_any (T : Nat → Int) (u : Nat) (h1 : 100 ≤ u) (h2 : u ≤ 9999) (w : World) (hT : TabAt T w) :
    Calls Tryz.prog 46 #[.int .u64 (u : Int)] w fun e w' => e = .returned (.int .i64 (digI T u : Int)) ∧ w' = w := by
  have hk := l10_in u h1 h2
  have hb : Lib.bitLen u ≤ 64 := Nat.le_trans (Lib.bitLen_le u 14 (by omega) (by omega)) (by omega)
  obtain ⟨k, hkk⟩ : ∃ k, Lib.l10 (Lib.bitLen u) = k := ⟨_, rfl⟩
  rw [hkk] at hk
  have hc := hT k (by omega)
  have hD : digI T u = k + if T k ≤ (u : Int) then 1 else 0 := by unfold digI; rw [hkk]
  have HD := Lib.hid hD
  have HK := Lib.hid hkk
  clear hD hkk hT
  obtain ⟨t, ht⟩ : ∃ t, T k = t := ⟨_, rfl⟩
  have HT := Lib.hid ht
  rw [ht] at hc
  clear ht
  obtain ⟨q, hq⟩ : ∃ q, decide (t ≤ (u : Int)) = q := ⟨_, rfl⟩
  have HQ := Lib.hid hq
  clear hq
  go_enter Tryz.func46, Tryz.ntmps46
  go_wp2_with fail
  refine (Tryz.bits_Len64 (u : Int) w (by omega) (by omega)).mono ?_
  rintro e w1 ⟨rfl, rfl⟩
  go_wp2_with fail
  refine (Tryz.internal_strconv_log10Pow2 (Lib.bitLen (u : Int).toNat) (by simpa using hb) _).mono ?_
  rintro e w1 ⟨rfl, rfl⟩
  rw [show ((u : Int).toNat) = u from rfl, HK.out]
  go_wp2_with fail
  refine (Tryz.internal_strconv_bool2_int _ _).mono ?_
  rintro e w1 ⟨rfl, rfl⟩
  rw [HQ.out]
  cases q
  · have HR : Hid (digI T u = k) := by rw [HD.out, if_neg (by rw [HT.out]; exact of_decide_eq_false HQ.out)]; exact Lib.hid rfl
    rw [if_neg (by decide)]
    go_wp2
    go_ret
    exact ⟨by rw [HR.out]; first | rfl | exact ret_int (by omega), rfl⟩
  · have HR : Hid (digI T u = k + 1) := by rw [HD.out, if_pos (by rw [HT.out]; exact of_decide_eq_true HQ.out)]; exact Lib.hid rfl
    rw [if_pos rfl]
    go_wp2
    go_ret
    exact ⟨by rw [HR.out]; first | rfl | exact ret_int (by omega), rfl⟩

abbrev encB (b : UInt8) : Value := .int .u8 (b.toNat : Int)
/-- what formatBase10 leaves of a number in two or three bytes, be they enough or not -/
def row2 (u : Nat) (d : Array UInt8) : Array UInt8 := (d.setIfInBounds 1 (Lib.sm (u % 100 * 2 + 1))).setIfInBounds 0 (Lib.sm (u % 100 * 2))
def row3 (u : Nat) (d : Array UInt8) : Array UInt8 := ((d.setIfInBounds 2 (Lib.sm (u % 100 * 2 + 1))).setIfInBounds 1 (Lib.sm (u % 100 * 2))).setIfInBounds 0 (UInt8.ofNat (48 + u / 100))

set_option maxHeartbeats 3200000 in
set_option maxRecDepth 100000 in
theorem base10_two (blk off cap u : Nat) (d : Array UInt8) (hd : d.size = 2) (w : World) (hH : Holds encB w blk off d) (h1 : 100 ≤ u) (h2 : u ≤ 9999) :
    Calls Tryz.prog 47 #[.slice (some ⟨blk, off, none⟩) (2 : Nat) cap, .int .u64 (u : Int)] w fun e w' =>
      e = .returned (.tuple #[]) ∧ ∃ n, w' = (putRow encB w blk off (row2 u d)).drewN n := by
  have mixed : Tryz.prog.follows Departure.mixedOrders = true := by kernel_rfl
  obtain ⟨G0, hG0⟩ : ∃ G : Nat → Int, ∀ t, G t = (d[t]!.toNat : Int) := ⟨_, fun _ => rfl⟩
  have hc0 : ∀ t, t < 2 → w.cell? ⟨blk, off + t, none⟩ = some (.int .u8 (G0 t)) := fun t ht => by rw [hG0]; exact (hH t (by omega)).1
  have hf0 : ∀ t, t < 2 → w.frozen? ⟨blk, off + t, none⟩ = false := fun t ht => (hH t (by omega)).2
  have AW0 := Lib.hid (putRow_self encB w blk off d hH).symm
  clear hG0 hH
  go_enter Tryz.func47, Tryz.ntmps47
  go_name_bytes SM hSM
  have eSM : SM = Lib.smalls := by rw [← hSM]; decide +kernel
  subst eSM
  clear hSM
  go_wp2
  go_loopw [1, 4] (fun vu vn wr => vu = .int .u64 (u : Int) ∧ vn = .int .i64 2 ∧ w = wr) (fun _ _ _ => 0)
  case atStart => exact ⟨rfl, rfl, rfl⟩
  case round =>
    obtain ⟨rfl, rfl, rfl⟩ := hrel
    go_wp2
    go_name_slot 16 x0 hx0
    have hxe0 : x0 = ((u % 100 * 2 : Nat) : Int) := by omega
    have hXa0 : ∀ w, (Instr.index 9 (.string Lib.smalls) (.int .u32 (x0 + 1))).run Tryz.prog w = .ok (.int .u8 ((Lib.sm (u % 100 * 2 + 1)).toNat : Int)) w := Lib.idx_smalls 9 (by kernel_rfl) .u32 _ _ (by omega) (by omega)
    have hXb0 : ∀ w, (Instr.index 9 (.string Lib.smalls) (.int .u32 x0)).run Tryz.prog w = .ok (.int .u8 ((Lib.sm (u % 100 * 2)).toNat : Int)) w := Lib.idx_smalls 9 (by kernel_rfl) .u32 _ _ (by omega) (by omega)
    have hlo0 : 0 ≤ x0 := by omega
    have hhi0 : x0 ≤ 198 := by omega
    clear hx0 hxe0
    go_region_o
    go_wp2
    go_end0
    refine ⟨rfl, 1, ?_⟩
    have e := Lib.store2_world w blk off d 0 1 0 (Lib.sm (u % 100 * 2 + 1)) (Lib.sm (u % 100 * 2)) (by omega) (by omega)
    rw [← AW0.out] at e
    exact e

set_option maxHeartbeats 3200000 in
set_option maxRecDepth 100000 in
theorem base10_three (blk off cap u : Nat) (d : Array UInt8) (hd : d.size = 3) (w : World) (hH : Holds encB w blk off d) (h1 : 100 ≤ u) (h2 : u ≤ 9999) :
    Calls Tryz.prog 47 #[.slice (some ⟨blk, off, none⟩) (3 : Nat) cap, .int .u64 (u : Int)] w fun e w' =>
      e = .returned (.tuple #[]) ∧ ∃ n, w' = (putRow encB w blk off (row3 u d)).drewN n := by
  have mixed : Tryz.prog.follows Departure.mixedOrders = true := by kernel_rfl
  obtain ⟨G0, hG0⟩ : ∃ G : Nat → Int, ∀ t, G t = (d[t]!.toNat : Int) := ⟨_, fun _ => rfl⟩
  have hc0 : ∀ t, t < 3 → w.cell? ⟨blk, off + t, none⟩ = some (.int .u8 (G0 t)) := fun t ht => by rw [hG0]; exact (hH t (by omega)).1
  have hf0 : ∀ t, t < 3 → w.frozen? ⟨blk, off + t, none⟩ = false := fun t ht => (hH t (by omega)).2
  have AW0 := Lib.hid (putRow_self encB w blk off d hH).symm
  clear hG0 hH
  go_enter Tryz.func47, Tryz.ntmps47
  go_name_bytes SM hSM
  have eSM : SM = Lib.smalls := by rw [← hSM]; decide +kernel
  subst eSM
  clear hSM
  go_wp2
  go_loopw [1, 4] (fun vu vn wr => vu = .int .u64 (u : Int) ∧ vn = .int .i64 3 ∧ w = wr) (fun _ _ _ => 0)
  case atStart => exact ⟨rfl, rfl, rfl⟩
  case round =>
    obtain ⟨rfl, rfl, rfl⟩ := hrel
    go_wp2
    go_name_slot 16 x0 hx0
    have hxe0 : x0 = ((u % 100 * 2 : Nat) : Int) := by omega
    have hXa0 : ∀ w, (Instr.index 9 (.string Lib.smalls) (.int .u32 (x0 + 1))).run Tryz.prog w = .ok (.int .u8 ((Lib.sm (u % 100 * 2 + 1)).toNat : Int)) w := Lib.idx_smalls 9 (by kernel_rfl) .u32 _ _ (by omega) (by omega)
    have hXb0 : ∀ w, (Instr.index 9 (.string Lib.smalls) (.int .u32 x0)).run Tryz.prog w = .ok (.int .u8 ((Lib.sm (u % 100 * 2)).toNat : Int)) w := Lib.idx_smalls 9 (by kernel_rfl) .u32 _ _ (by omega) (by omega)
    have hlo0 : 0 ≤ x0 := by omega
    have hhi0 : x0 ≤ 198 := by omega
    clear hx0 hxe0
    go_region_o
    go_wp2
    go_end0
    refine ⟨rfl, 1, ?_⟩
    have e := Lib.store21_world w blk off d 0 2 1 (Lib.sm (u % 100 * 2 + 1)) (Lib.sm (u % 100 * 2)) (48 + (u : Int) / 100) (u / 100) (by omega) (by omega) (by omega)
    rw [← AW0.out] at e
    exact e

end Go.Proofs.YthopanlkjdcgmaaGreatDoor.W

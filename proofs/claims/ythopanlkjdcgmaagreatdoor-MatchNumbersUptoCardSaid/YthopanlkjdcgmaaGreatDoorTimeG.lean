/- strconv.Itoa of 0..9999 whatever the table internal/strconv.uint64pow10 holds: FormatInt, Itoa. -/
import Derived.Lib.AppendIntMem
import Derived.Lib.ItoaLen
import Derived.Test.YthopanlkjdcgmaaGreatDoorTimeF
namespace Go.Proofs.YthopanlkjdcgmaaGreatDoor.W
open Go.RowKit Go.Sort Go.Proofs.YthopanlkjdcgmaaGreatDoor.Plain

/-- the row that formatBase10 leaves of u in N bytes -/
def rowN (N u : Nat) : Array UInt8 :=
  if N = 2 then row2 u (Array.replicate 2 0) else if N = 3 then row3 u (Array.replicate 3 0) else Array.ofFn (n := N) fun t => Lib.dg u (N - 1 - t.val)
theorem rowN_size (N u : Nat) (h2 : 2 ≤ N) : (rowN N u).size = N := by
  unfold rowN; split
  · subst N; simp [row2]
  · split
    · subst N; simp [row3]
    · simp
theorem rowN_inv {N u v' : Nat} {dk : Array UInt8} (hN : 4 ≤ N) (h : Lib.FmtInv N u 0 v' dk) : dk = rowN N u := by
  have hs := h.size
  apply Array.ext
  · rw [hs, rowN_size N u (by omega)]
  · intro t h1 h2
    have hd := h.done t (by omega) (by omega)
    rw [getElem!_pos dk t h1] at hd
    rw [hd]
    unfold rowN
    simp [show ¬ N = 2 by omega, show ¬ N = 3 by omega]
theorem fmt_any (N u : Nat) (hN : 2 ≤ N) (hN5 : N ≤ 5) (h1 : 100 ≤ u) (h2 : u ≤ 9999) (blk off cap : Nat) (w : World) (hH : Holds encB w blk off (Array.replicate N 0)) :
    Calls Tryz.prog 47 #[.slice (some ⟨blk, off, none⟩) N cap, .int .u64 (u : Int)] w fun e w' => e = .returned (.tuple #[]) ∧ ∃ n, w' = (putRow encB w blk off (rowN N u)).drewN n := by
  by_cases e2 : N = 2
  · subst e2
    exact base10_two blk off cap u (Array.replicate 2 0) (by simp) w hH h1 h2
  · by_cases e3 : N = 3
    · subst e3
      exact base10_three blk off cap u (Array.replicate 3 0) (by simp) w hH h1 h2
    · have hp : u < 10 ^ N := Nat.lt_of_lt_of_le (show u < 10 ^ 4 by omega) (Nat.pow_le_pow_right (by omega) (by omega))
      have h := Tryz.internal_strconv_formatBase10 blk off cap u (Array.replicate N 0) w hH (by rw [Array.size_replicate]; exact hp) (by omega) (by rw [Array.size_replicate]; omega)
      rw [Array.size_replicate] at h
      refine h.mono ?_
      rintro e w' ⟨rfl, n, v', dk, rfl, hF⟩
      exact ⟨rfl, n, by rw [rowN_inv (by omega) hF]⟩

/-- what Itoa writes, with a table T -/
def itT (T : Nat → Int) (n : Int) : Bytes := if n < 100 then Lib.decDigits n.toNat else (rowN (digI T n.toNat) n.toNat).toList
theorem TabAt.below {T : Nat → Int} {w w' : World} (h : TabAt T w) (hb : Below w.heap.size w w') : TabAt T w' := fun k hk => below_some (h k hk) hb

set_option maxRecDepth 100000 in
set_option maxHeartbeats 1000000 in
theorem formatInt_any (T : Nat → Int) (u : Nat) (h1 : 100 ≤ u) (h2 : u ≤ 9999) (w : World) (hT : TabAt T w) :
    Calls Tryz.prog 28 #[.int .i64 (u : Int), .int .i64 10] w fun e w' => e = .returned (.string ⟨(rowN (digI T u) u)⟩) ∧ Below w.heap.size w w' := by
  have hin := digI_in T u h1 h2
  have hT2 : TabAt T (w.alloc (.cells Lib.zeros24 68)) := hT.below ((Below.refl _ _).alloc (Nat.le_refl _) _)
  have hD := numDigits_any T u h1 h2 _ hT2
  obtain ⟨N, hN⟩ : ∃ N, digI T u = N := ⟨_, rfl⟩
  rw [hN] at hin hD ⊢
  obtain ⟨n2, n5⟩ := hin
  clear hN
  have hH0 := Lib.holds_zero w 68 N (by omega)
  have hfmt := fmt_any N u n2 n5 h1 h2 w.heap.size 1 23 _ hH0
  have HH0 := Lib.hid hH0
  have hal : Tryz.prog.arrayLen 68 = 24 := by kernel_rfl
  have hsl1 : ∀ W, (Instr.sliceAt 68 (.pointer (some ⟨w.heap.size, 0, none⟩)) (some (.int .i64 1)) (some (.int .i64 (1 + (N : Int)))) none).run Tryz.prog W = .ok (.slice (some ⟨w.heap.size, 1, none⟩) N 23) W := fun W => by
    rw [run_sliceAt_array_lh W 68 ⟨w.heap.size, 0, none⟩ (by kernel_rfl) .i64 .i64 1 (1 + (N : Int)) (by omega) (by omega) (by rw [hal]; omega)]
    go_simp
    omega
  clear hH0 hal hT hT2
  go_enter Tryz.func28, Tryz.ntmps28
  go_wp2_with fail
  refine hD.mono ?_
  rintro e w' ⟨rfl, rfl⟩
  go_wp2_with fail
  refine hfmt.mono ?_
  rintro e w' ⟨rfl, k, rfl⟩
  have hcv : (convert 30 9 (.slice (some ⟨w.heap.size, 1, none⟩) N 23)).run Tryz.prog ((putRow encB (w.alloc (.cells Lib.zeros24 68)) w.heap.size 1 (rowN N u)).drewN k) = .ok (.string ⟨rowN N u⟩) ((putRow encB (w.alloc (.cells Lib.zeros24 68)) w.heap.size 1 (rowN N u)).drewN k) := by
    have h := run_convert_bytes_back (P := Tryz.prog) ((putRow encB (w.alloc (.cells Lib.zeros24 68)) w.heap.size 1 (rowN N u)).drewN k) 30 9 5 ⟨w.heap.size, 1, none⟩ 23 (rowN N u).toList (by kernel_rfl) (by kernel_rfl) (by kernel_rfl) (fun j hj => by
      rw [Lib.add_plain, World.cell?_drewN]
      have hj2 : j < (rowN N u).size := by simpa using hj
      have := cell?_putRow encB (w.alloc (.cells Lib.zeros24 68)) w.heap.size 1 _ (rowN N u) HH0.out (by rw [rowN_size N u n2, Array.size_replicate]) j hj2
      rw [this, getElem!_pos (rowN N u) j hj2, Array.getElem_toList])
    rw [show (rowN N u).toList.length = N by rw [Array.length_toList, rowN_size N u n2]] at h
    exact h
  go_wp2
  go_ret
  obtain ⟨os, eo⟩ := Lib.fin_pos w (.cells Lib.zeros24 68) (rowN N u) k
  refine ⟨rfl, ?_⟩
  rw [eo]
  exact Lib.below_grow _ w (Nat.le_refl _) k os

theorem itoa_any (T : Nat → Int) (n : Int) (h0 : 0 ≤ n) (h1 : n ≤ 9999) (w : World) (hT : TabAt T w) :
    Calls Tryz.prog 6 #[.int .i64 n] w fun e w' => e = .returned (.string ⟨(itT T n).toArray⟩) ∧ Below w.heap.size w w' := by
  obtain ⟨u, rfl⟩ : ∃ u : Nat, n = u := ⟨n.toNat, by omega⟩
  by_cases h : u < 100
  · have e : itT T (u : Int) = Lib.decDigits u := by unfold itT; rw [if_pos (by omega)]; rfl
    rw [e]
    refine (Tryz.strconv_Itoa_small u h w).mono ?_
    rintro e w' ⟨rfl, rfl⟩
    exact ⟨rfl, Below.refl _ _⟩
  · have e : itT T (u : Int) = (rowN (digI T u) u).toList := by unfold itT; rw [if_neg (by omega)]; rfl
    rw [e]
    have hF := formatInt_any T u (by omega) (by omega) w hT
    have hI : Calls Tryz.prog 15 #[.int .i64 (u : Int)] w fun e w' => e = .returned (.string ⟨(rowN (digI T u) u)⟩) ∧ Below w.heap.size w w' := by
      go_enter Tryz.func15, Tryz.ntmps15
      go_wp2_with fail
      refine hF.mono ?_
      rintro e w' ⟨rfl, hB⟩
      go_wp2
      go_ret
      exact ⟨rfl, hB⟩
    clear hF
    go_enter Tryz.func6, Tryz.ntmps6
    go_wp2_with fail
    refine hI.mono ?_
    rintro e w' ⟨rfl, hB⟩
    go_wp2
    go_ret
    exact ⟨rfl, hB⟩
theorem itT_length (T : Nat → Int) (n : Int) (h0 : 0 ≤ n) (h1 : n ≤ 9999) : (itT T n).length ≤ 1000 := by
  unfold itT; split
  · rw [Lib.decDigits_length]; have := Lib.nDigits_le20 n.toNat (by omega); omega
  · have h := digI_in T n.toNat (by omega) (by omega)
    rw [Array.length_toList, rowN_size _ _ h.1]; omega

end Go.Proofs.YthopanlkjdcgmaaGreatDoor.W

/- Times: the numbers' text (padded), the world in which it stands. -/
import Derived.Test.YthopanlkjdcgmaaGreatDoorTimeC
import Derived.Test.YthopanlkjdcgmaaGreatDoorShelf
namespace Go.Proofs.YthopanlkjdcgmaaGreatDoor.W
open Go.RowKit Go.Proofs.YthopanlkjdcgmaaGreatDoor.Plain

/-- worlds in which strconv.Itoa writes a number from 0 to 9999 as 'it' says -/
structure Has (it : Int → Bytes) (G : World → Prop) : Prop where
  glob : ∀ w, G w → Glob w
  keep : ∀ w w', G w → Below w.heap.size w w' → G w'
  itoa : ∀ (n : Int) (w : World), 0 ≤ n → n ≤ 9999 → G w → Calls Tryz.prog 6 #[.int .i64 n] w fun e w' => e = .returned (.string ⟨(it n).toArray⟩) ∧ Below w.heap.size w w'
  len : ∀ n : Int, 0 ≤ n → n ≤ 9999 → (it n).length ≤ 1000

def padL (it : Int → Bytes) (n : Int) (d : Nat) : Bytes := Lib.repeatL [48] (d - (it n).length) ++ it n
theorem padL_length (it : Int → Bytes) (n : Int) (d : Nat) : (padL it n d).length = (d - (it n).length) + (it n).length := by
  unfold padL; rw [List.length_append, Lib.repeatL_length]; simp

set_option maxRecDepth 100000 in
set_option maxHeartbeats 1000000 in
theorem padded_calls {it : Int → Bytes} {G : World → Prop} (H : Has it G) (n : Int) (d : Nat) (hd : d ≤ 4) (h0 : 0 ≤ n) (h1 : n ≤ 9999) (w : World) (hg : G w) :
    Calls Tryz.prog 262 #[.int .i64 n, .int .i64 (d : Int)] w fun e w' => e = .returned (.string ⟨(padL it n d).toArray⟩) ∧ Below w.heap.size w w' := by
  have hl := H.len n h0 h1
  have hI := H.itoa n w h0 h1 hg
  obtain ⟨t, ht⟩ : ∃ t, it n = t := ⟨_, rfl⟩
  rw [ht] at hl hI
  have HT := Lib.hid ht
  clear ht
  have hm : max (0 : Int) ((d : Int) - (t.length : Int)) = ((d - t.length : Nat) : Int) := by omega
  have HM := Lib.hid hm
  clear hm
  have hno : ¬ 9223372036854775807 < (Lib.repeatL [48] (d - t.length)).length + t.length := by rw [Lib.repeatL_length]; simp; omega
  go_enter Tryz.func262, Tryz.ntmps262
  go_wp2_with fail
  refine hI.mono ?_
  rintro e w1 ⟨rfl, hB⟩
  go_wp2_with fail
  rw [HM.out]
  refine (Tryz.strings_Repeat ⟨#[48]⟩ (d - t.length) w1 (by omega) (by have : (⟨#[48]⟩ : ByteArray).size = 1 := rfl; rw [this]; omega)).mono ?_
  rintro e w2 ⟨rfl, hB2⟩
  go_wp2
  go_ret
  exact ⟨by unfold padL; rw [HT.out]; exact ret_str (mk_of (by simp)), hB.trans (hB2.mono hB.size)⟩

end Go.Proofs.YthopanlkjdcgmaaGreatDoor.W

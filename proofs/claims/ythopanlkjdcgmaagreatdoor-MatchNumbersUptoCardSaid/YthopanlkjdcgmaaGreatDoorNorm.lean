/- match.of, match.Normal, match.holds, match.Equal: through the interface to each syntax's own 'normal'. -/
import Derived.Test.YthopanlkjdcgmaaGreatDoorMethC
namespace Go.Proofs.YthopanlkjdcgmaaGreatDoor.W
open Go.RowKit Go.Proofs.YthopanlkjdcgmaaGreatDoor.Plain

set_option maxHeartbeats 400000 in
theorem of_in (i : Nat) (hi : i < 15) (w : World) (hk : KindsAt w) :
    Calls Tryz.prog 29 #[.int .i64 (i : Int)] w fun e w' => e = .returned (.iface (kindT i) (.agg #[])) ∧ w = w' := by
  have hc := hk i hi
  have h1 : decide ((i : Int) < 0) = false := by simp
  have h2 : decide ((15 : Int) ≤ (i : Int)) = false := by simp; omega
  go_enter Tryz.func29, Tryz.ntmps29
  go_wp2
  go_ret
  exact ⟨rfl, rfl⟩
set_option maxHeartbeats 400000 in
theorem of_out (n : Int) (hn : n < 0 ∨ 15 ≤ n) (w : World) :
    Calls Tryz.prog 29 #[.int .i64 n] w fun e w' => e = .returned (.iface 75 (.agg #[])) ∧ w = w' := by
  by_cases h : n < 0
  · have h1 : decide (n < 0) = true := by simp; omega
    clear hn
    go_enter Tryz.func29, Tryz.ntmps29
    go_wp2
    go_ret
    exact ⟨rfl, rfl⟩
  · have h1 : decide (n < 0) = false := by simp; omega
    have h2 : decide (15 ≤ n) = true := by simp; omega
    clear hn
    go_enter Tryz.func29, Tryz.ntmps29
    go_wp2
    go_ret
    exact ⟨rfl, rfl⟩
theorem of_at (n : Int) (i : Nat) (T : TypeId) (hn : n = (i : Int)) (hi : i < 15) (hT : kindT i = T) (w : World) (hg : Glob w) :
    Calls Tryz.prog 29 #[.int .i64 n] w fun e w' => e = .returned (.iface T (.agg #[])) ∧ w = w' := by
  subst hn hT; exact of_in i hi w hg.kinds

/-- the syntax of number n: its dynamic type T, the function F that is its 'normal', and what that one answers -/
structure NKind (n : Int) (T F : Nat) (nf : Bytes → Option Bytes) : Prop where
  of : ∀ w, Glob w → Calls Tryz.prog 29 #[.int .i64 n] w fun e w' => e = .returned (.iface T (.agg #[])) ∧ w = w'
  meth : ∀ (k : Nat) (w : World), (method (k + 1) T (.agg #[]) "roster/match.normal").run Tryz.prog w = .ok (F, .agg #[]) w
  enter : ∀ (args : Array Value) (w : World), (callFunc F args).run Tryz.prog w = .ok (.enter F args) w
  calls : ∀ (s : ByteArray) (w : World), s.size ≤ 1073741824 → Glob w → Calls Tryz.prog F #[.agg #[], .string s] w (NormPost (nf s.data.toList) w)

set_option maxRecDepth 100000 in
set_option maxHeartbeats 400000 in
theorem normal_calls {n : Int} {T F : Nat} {nf : Bytes → Option Bytes} (K : NKind n T F nf) (s : ByteArray) (w : World) (hs : s.size ≤ 1073741824) (hg : Glob w) :
    Calls Tryz.prog 32 #[.int .i64 n, .string s] w (NormPost (nf s.data.toList) w) := by
  obtain ⟨r, hr⟩ : ∃ r, nf s.data.toList = r := ⟨_, rfl⟩
  have HR := Lib.hid hr
  clear hr
  rw [HR.out]
  have hm := K.meth
  have he := K.enter
  cases r
  all_goals
    go_enter Tryz.func32, Tryz.ntmps32
    go_wp2_with (go_at_call 29; refine (K.of _ hg).mono ?_; rintro e w1 ⟨rfl, rfl⟩)
    refine (K.calls s _ hs hg).mono ?_
    rintro e w2 ⟨rfl, hB⟩
    first | rw [HR.out, normV_none] | rw [HR.out, normV_some]
    go_wp2
    go_ret2
    exact ⟨rfl, hB⟩

end Go.Proofs.YthopanlkjdcgmaaGreatDoor.W

/- match.Parts, match.Contains of the syntax octet. -/
import Derived.Test.YtcabkjmbklkedaaDoorPiecesG
import Derived.Test.YtcabkjmbklkedaaDoorInst
import Derived.OwnWalk
import Derived.Laws.OwnMore
namespace Go.Proofs.YtcabkjmbklkedaaDoor.W
open Go.RowKit Go.Proofs.YtcabkjmbklkedaaDoor.Plain

theorem part_calls (w : World) : Calls Tryd.prog 128 #[.agg #[]] w fun e w' => e = .returned (.bool true) ∧ Below w.heap.size w w' := by
  go_enter Tryd.func128, Tryd.ntmps128
  go_wp2
  go_ret
  exact ⟨rfl, (Below.refl _ _).alloc (Nat.le_refl _) _⟩
theorem piece_calls (p : ByteArray) (w : World) : Calls Tryd.prog 129 #[.agg #[], .string p] w fun e w' => e = .returned (.tuple #[.string p, .bool true]) ∧ Below w.heap.size w w' := by
  go_enter Tryd.func129, Tryd.ntmps129
  go_wp2
  go_ret2
  exact ⟨rfl, (Below.refl _ _).alloc (Nat.le_refl _) _⟩
theorem trim_calls (p : ByteArray) (w : World) : Calls Tryd.prog 60 #[.agg #[], .string p] w fun e w' => e = .returned (.tuple #[.string p, .string p]) ∧ Below w.heap.size w w' := by
  go_enter Tryd.func60, Tryd.ntmps60
  go_wp2
  go_ret2
  exact ⟨rfl, (Below.refl _ _).alloc (Nat.le_refl _) _⟩

theorem m_partial (k : Nat) (w : World) : (method (k + 1) 96 (.agg #[]) "roster/match.partial").run Tryd.prog w = .ok (128, .agg #[]) w := by kernel_rfl
theorem m_piece (k : Nat) (w : World) : (method (k + 1) 96 (.agg #[]) "roster/match.piece").run Tryd.prog w = .ok (129, .agg #[]) w := by kernel_rfl
theorem m_trim (k : Nat) (w : World) : (method (k + 1) 96 (.agg #[]) "roster/match.trim").run Tryd.prog w = .ok (60, .agg #[]) w := by kernel_rfl
theorem e_partial : ∀ (args : Array Value) (w : World), (callFunc 128 args).run Tryd.prog w = .ok (.enter 128 args) w := enters_of Tryd.func128 (by kernel_rfl) rfl
theorem e_piece : ∀ (args : Array Value) (w : World), (callFunc 129 args).run Tryd.prog w = .ok (.enter 129 args) w := enters_of Tryd.func129 (by kernel_rfl) rfl
theorem e_trim : ∀ (args : Array Value) (w : World), (callFunc 60 args).run Tryd.prog w = .ok (.enter 60 args) w := enters_of Tryd.func60 (by kernel_rfl) rfl

end Go.Proofs.YtcabkjmbklkedaaDoor.W

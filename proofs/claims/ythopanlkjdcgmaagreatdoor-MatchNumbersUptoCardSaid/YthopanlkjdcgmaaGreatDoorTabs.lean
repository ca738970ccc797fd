/- A table of the library's whose values a row does not list: whatever it holds, it holds twenty numbers. -/
import Derived.Test.YthopanlkjdcgmaaGreatDoorTimeH
import Derived.Test.YthopanlkjdcgmaaGreatDoorCards
import Derived.Shelf.Vars
namespace Go.Proofs.YthopanlkjdcgmaaGreatDoor.W
open Go.RowKit

theorem tab_of_shaped {P : Program} {w : World} {g : Nat} {t e : TypeId} {zero : Array Value} {k : IntKind} {n : Nat}
    (h : w.ShapedOpen P) (hg : g < P.globals.size)
    (h0 : ((begin P (fun _ _ => 0) default).world.heap[g]?).bind Obj.row? = some (zero, t)) (hz : zero.size = n)
    (hb : P.buildable t = true) (ts : List TypeId) (hc : P.cellTypes P.depth t = some ts) (hts : ∀ u ∈ ts, u = e) (hu : P.underlying e = some (.int k)) :
    ∃ T : Nat → Int, ∀ i, i < n → w.cell? ⟨g, i, none⟩ = some (.int k (T i)) := by
  obtain ⟨cs, hh, hs, hr⟩ := h.1 g zero t hg h0
  obtain ⟨ts', hts', _, hall⟩ := hr hb
  rw [hc] at hts'
  obtain rfl := Option.some.inj hts'
  have hcell : ∀ i, i < n → ∃ m, w.cell? ⟨g, i, none⟩ = some (.int k m) := by
    intro i hi
    have h1 : i < cs.size := by omega
    obtain ⟨u, hu', hok⟩ := hall i cs[i] (by simp [h1])
    have : u = e := hts u (List.mem_of_getElem? hu')
    subst this
    have hcell : w.cell? ⟨g, i, none⟩ = some cs[i] := by simp [World.cell?, hh, h1]
    rw [hcell]
    unfold Cell.ok at hok
    rw [hu] at hok
    cases hv : cs[i] <;> rw [hv] at hok <;> simp at hok
    case int k' n => exact ⟨n, by rw [hok.1]⟩
  exact ⟨fun i => if hi : i < n then Classical.choose (hcell i hi) else 0, fun i hi => by rw [Classical.choose_spec (hcell i hi)]; simp [hi]⟩

theorem tab_at {W : World} (hS : W.ShapedOpen Tryz.prog) : ∃ T, TabAt T W :=
  tab_of_shaped (zero := Array.replicate 20 (.int .u64 0)) (t := 94) hS (of_decide_eq_true (by kernel_rfl)) (by kernel_rfl) rfl (by kernel_rfl) (List.replicate 20 69) (by kernel_rfl) (fun _ hu => List.eq_of_mem_replicate hu) Tryz.underlying69

end Go.Proofs.YthopanlkjdcgmaaGreatDoor.W

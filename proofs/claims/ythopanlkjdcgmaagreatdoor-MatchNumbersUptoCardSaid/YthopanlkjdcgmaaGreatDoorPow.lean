/- The table of powers of ten, as the rows list it. -/
import Derived.Test.YthopanlkjdcgmaaGreatDoorNumsW
import Derived.Test.YthopanlkjdcgmaaGreatDoorLaidZ
namespace Go.Proofs.YthopanlkjdcgmaaGreatDoor.W
open Go.RowKit Go.Proofs.YthopanlkjdcgmaaGreatDoor.Plain

theorem gPow : Tryz.prog.globalNamed "internal/strconv.uint64pow10" = some 1 := by kernel_rfl
theorem gPowType : (Tryz.prog.globals[1]?).map (·.type) = some 94 := by kernel_rfl
theorem powCells : Tryz.prog.cellsOf 94 = 20 := by kernel_rfl
theorem powCell : Tryz.prog.cellsOf 69 = 1 := by kernel_rfl
theorem powData : (Rows.laid_internal_strconv_uint64pow10 : DataW Unit) = Lib.tabData .u64 Lib.pow10Tab := by rfl
theorem pow_mem {W : World} {l : List (String × DataW Unit)} (h : laidMet Tryz.prog l W) (hm : ("internal/strconv.uint64pow10", Rows.laid_internal_strconv_uint64pow10) ∈ l) : PowAt W := by
  obtain ⟨ps, hl, _⟩ := h
  obtain ⟨g', t', cs, fuel, p, hg', ht', hvar, hd⟩ := laid_get hl hm
  obtain rfl := Option.some.inj (gPow.symm.trans hg')
  obtain rfl := Option.some.inj (gPowType.symm.trans ht')
  rw [powData] at hd
  have hc := Lib.cells_of_tab Tryz.underlying94 Tryz.underlying69 powCell powCells hd
  unfold PowAt Lib.TabIs
  rw [hvar, ← hc]
theorem PowAt.below {w w' : World} (h : PowAt w) (hb : Below w.heap.size w w') : PowAt w' := by
  unfold PowAt Lib.TabIs World.var? at *
  rw [gPow] at *
  simp only [Option.bind_some] at *
  have hlt : 1 < w.heap.size := by
    rcases Nat.lt_or_ge 1 w.heap.size with hl | hl
    · exact hl
    · rw [Array.getElem?_eq_none hl] at h; simp at h
  rw [hb.block _ hlt]; exact h

end Go.Proofs.YthopanlkjdcgmaaGreatDoor.W

/- A world for the witness of the rows of this seat: every listed variable holds what the rows list. -/
import Derived.Test.YthopanlkjdcgmaaGreatDoorLift
import Derived.Test.YthopanlkjdcgmaaGreatDoorLaidZ
import Derived.Test.YthopanlkjdcgmaaGreatDoorTabs
namespace Go.Proofs.YthopanlkjdcgmaaGreatDoor.W
open Go.RowKit

def cellsTo (cs : Array Value) : Obj → Obj
  | .cells _ t frozen => .cells cs t frozen
  | o => o
/-- the heap hp with the variables laid, and the errors' texts behind it -/
def laidHeap (hp : Array Obj) : Array Obj :=
  let h0 := hp.modify 5 (cellsTo #[.int .u8 0, .int .u8 1, .int .u8 28, .int .u8 2, .int .u8 29, .int .u8 14, .int .u8 24, .int .u8 3, .int .u8 30, .int .u8 22, .int .u8 20, .int .u8 15, .int .u8 25, .int .u8 17, .int .u8 4, .int .u8 8, .int .u8 31, .int .u8 27, .int .u8 13, .int .u8 23, .int .u8 21, .int .u8 19, .int .u8 16, .int .u8 7, .int .u8 26, .int .u8 12, .int .u8 18, .int .u8 6, .int .u8 11, .int .u8 5, .int .u8 10, .int .u8 9])
  let h1 := h0.modify 6 (cellsTo #[.int .u8 0, .int .u8 1, .int .u8 56, .int .u8 2, .int .u8 57, .int .u8 49, .int .u8 28, .int .u8 3, .int .u8 61, .int .u8 58, .int .u8 42, .int .u8 50, .int .u8 38, .int .u8 29, .int .u8 17, .int .u8 4, .int .u8 62, .int .u8 47, .int .u8 59, .int .u8 36, .int .u8 45, .int .u8 43, .int .u8 51, .int .u8 22, .int .u8 53, .int .u8 39, .int .u8 33, .int .u8 30, .int .u8 24, .int .u8 18, .int .u8 12, .int .u8 5, .int .u8 63, .int .u8 55, .int .u8 48, .int .u8 27, .int .u8 60, .int .u8 41, .int .u8 37, .int .u8 16, .int .u8 46, .int .u8 35, .int .u8 44, .int .u8 21, .int .u8 52, .int .u8 32, .int .u8 23, .int .u8 11, .int .u8 54, .int .u8 26, .int .u8 40, .int .u8 15, .int .u8 34, .int .u8 20, .int .u8 31, .int .u8 10, .int .u8 25, .int .u8 14, .int .u8 19, .int .u8 9, .int .u8 13, .int .u8 8, .int .u8 7, .int .u8 6])
  let h2 := h1.modify 1 (cellsTo #[.int .u64 1, .int .u64 10, .int .u64 100, .int .u64 1000, .int .u64 10000, .int .u64 100000, .int .u64 1000000, .int .u64 10000000, .int .u64 100000000, .int .u64 1000000000, .int .u64 10000000000, .int .u64 100000000000, .int .u64 1000000000000, .int .u64 10000000000000, .int .u64 100000000000000, .int .u64 1000000000000000, .int .u64 10000000000000000, .int .u64 100000000000000000, .int .u64 1000000000000000000, .int .u64 10000000000000000000])
  let h3 := h2.modify 15 (cellsTo #[.int .u8 128, .int .u8 191, .int .u8 160, .int .u8 191, .int .u8 128, .int .u8 159, .int .u8 144, .int .u8 191, .int .u8 128, .int .u8 143, .int .u8 0, .int .u8 0, .int .u8 0, .int .u8 0, .int .u8 0, .int .u8 0, .int .u8 0, .int .u8 0, .int .u8 0, .int .u8 0, .int .u8 0, .int .u8 0, .int .u8 0, .int .u8 0, .int .u8 0, .int .u8 0, .int .u8 0, .int .u8 0, .int .u8 0, .int .u8 0, .int .u8 0, .int .u8 0])
  let h4 := h3.modify 8 (cellsTo #[.iface 167 (.pointer (some ⟨hp.size + 0, 0, none⟩))])
  let h5 := h4.modify 7 (cellsTo #[.iface 167 (.pointer (some ⟨hp.size + 1, 0, none⟩))])
  let h6 := h5.modify 3 (cellsTo #[.iface 167 (.pointer (some ⟨hp.size + 2, 0, none⟩))])
  let h7 := h6.modify 4 (cellsTo #[.iface 167 (.pointer (some ⟨hp.size + 3, 0, none⟩))])
  let h8 := h7.modify 10 (cellsTo #[.iface 167 (.pointer (some ⟨hp.size + 4, 0, none⟩))])
  let h9 := h8.modify 12 (cellsTo #[.iface 167 (.pointer (some ⟨hp.size + 5, 0, none⟩))])
  let h10 := h9.modify 17 (cellsTo #[.iface 167 (.pointer (some ⟨hp.size + 6, 0, none⟩))])
  let h11 := h10.modify 16 (cellsTo #[.iface 167 (.pointer (some ⟨hp.size + 7, 0, none⟩))])
  let h12 := h11.modify 18 (cellsTo #[.iface 167 (.pointer (some ⟨hp.size + 8, 0, none⟩))])
  let h13 := h12.modify 11 (cellsTo #[.iface 167 (.pointer (some ⟨hp.size + 9, 0, none⟩))])
  let h14 := h13.modify 9 (cellsTo #[.iface 167 (.pointer (some ⟨hp.size + 10, 0, none⟩))])
  let h15 := h14.modify 13 (cellsTo #[.iface 167 (.pointer (some ⟨hp.size + 11, 0, none⟩))])
  let h16 := h15.modify 14 (cellsTo (Go.Pinned.utf8FirstZ.map fun (n : Nat) => Value.int .u8 (n : Int)).toArray)
  h16 ++ #[.cells #[.string ⟨#[118, 97, 108, 117, 101, 32, 111, 117, 116, 32, 111, 102, 32, 114, 97, 110, 103, 101]⟩] 169, .cells #[.string ⟨#[105, 110, 118, 97, 108, 105, 100, 32, 115, 121, 110, 116, 97, 120]⟩] 169, .cells #[.string ⟨#[110, 97, 109, 101, 32, 116, 111, 111, 32, 108, 111, 110, 103]⟩] 169, .cells #[.string ⟨#[110, 111, 32, 85, 84, 70, 45, 56]⟩] 169, .cells #[.string ⟨#[110, 111, 32, 97, 116, 116, 114, 105, 98, 117, 116, 101, 32, 116, 121, 112, 101]⟩] 169, .cells #[.string ⟨#[110, 111, 32, 101, 113, 117, 97, 108, 115, 32, 115, 105, 103, 110]⟩] 169, .cells #[.string ⟨#[110, 111, 116, 104, 105, 110, 103, 32, 114, 105, 103, 104, 116, 32, 98, 101, 104, 105, 110, 100, 32, 97, 32, 98, 97, 99, 107, 115, 108, 97, 115, 104]⟩] 169, .cells #[.string ⟨#[97, 32, 98, 121, 116, 101, 32, 116, 104, 97, 116, 32, 109, 117, 115, 116, 32, 98, 101, 32, 101, 115, 99, 97, 112, 101, 100]⟩] 169, .cells #[.string ⟨#[110, 111, 32, 104, 101, 120, 32, 118, 97, 108, 117, 101]⟩] 169, .cells #[.string ⟨#[97, 32, 116, 121, 112, 101, 32, 116, 119, 105, 99, 101, 32, 105, 110, 32, 97, 32, 112, 97, 114, 116]⟩] 169, .cells #[.string ⟨#[116, 111, 111, 32, 109, 97, 110, 121, 32, 112, 97, 114, 116, 115, 32, 111, 114, 32, 112, 97, 105, 114, 115]⟩] 169, .cells #[.string ⟨#[97, 32, 110, 97, 109, 101, 32, 116, 104, 97, 116, 32, 110, 111, 32, 116, 101, 120, 116, 32, 109, 101, 97, 110, 115]⟩] 169]
noncomputable def laidWorldZ (os : Os) : World := { laidWorld os with heap := laidHeap (laidWorld os).heap }

end Go.Proofs.YthopanlkjdcgmaaGreatDoor.W

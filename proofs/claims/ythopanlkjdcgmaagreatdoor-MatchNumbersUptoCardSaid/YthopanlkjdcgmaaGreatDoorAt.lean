/- One call of Equal, AtLeast, AtMost, ByRule, the answer known. -/
import Derived.Test.YthopanlkjdcgmaaGreatDoorBits
namespace Go.Proofs.YthopanlkjdcgmaaGreatDoor.W
open Go.RowKit Go.Proofs.YthopanlkjdcgmaaGreatDoor.Plain

theorem eqAt {G : World → Prop} {n : Int} {T F : Nat} {nf : Bytes → Option Bytes} (K : NKindG G n T F nf) (v a : ByteArray) (lv la : Bytes) (x y : Option Bytes) (r : Int) (w : World) (hlv : v.data.toList = lv) (hla : a.data.toList = la) (hx : nf lv = x) (hy : nf la = y) (hr : eqT x y = r)
    (hv : lv.length ≤ 1073741824) (ha : la.length ≤ 1073741824) (hg : G w) :
    Calls Tryz.prog 7 #[.int .i64 n, .string v, .string a] w fun e w' => e = .returned (.int .i64 r) ∧ Below w.heap.size w w' := by
  subst hlv hla hx hy hr; exact equal_callsG K v a w (by rw [← len_eq]; exact hv) (by rw [← len_eq]; exact ha) hg
theorem leastAt {G : World → Prop} {n : Int} {T F : Nat} {nf : Bytes → Option Bytes} {V : Bytes → Prop} {cmp : Bytes → Bytes → Int} (K : OKind G n T F nf V cmp) (v a : ByteArray) (lv la : Bytes) (x y : Option Bytes) (r : Int) (w : World) (hlv : v.data.toList = lv) (hla : a.data.toList = la) (hx : nf lv = x) (hy : nf la = y) (hr : ordT geZ cmp x y = r)
    (hv : lv.length ≤ 1073741824) (ha : la.length ≤ 1073741824) (hg : G w) :
    Calls Tryz.prog 9 #[.int .i64 n, .string v, .string a] w fun e w' => e = .returned (.int .i64 r) ∧ Below w.heap.size w w' := by
  subst hlv hla hx hy hr; exact least_any K v a w (by rw [← len_eq]; exact hv) (by rw [← len_eq]; exact ha) hg
theorem mostAt {G : World → Prop} {n : Int} {T F : Nat} {nf : Bytes → Option Bytes} {V : Bytes → Prop} {cmp : Bytes → Bytes → Int} (K : OKind G n T F nf V cmp) (v a : ByteArray) (lv la : Bytes) (x y : Option Bytes) (r : Int) (w : World) (hlv : v.data.toList = lv) (hla : a.data.toList = la) (hx : nf lv = x) (hy : nf la = y) (hr : ordT leZ cmp x y = r)
    (hv : lv.length ≤ 1073741824) (ha : la.length ≤ 1073741824) (hg : G w) :
    Calls Tryz.prog 10 #[.int .i64 n, .string v, .string a] w fun e w' => e = .returned (.int .i64 r) ∧ Below w.heap.size w w' := by
  subst hlv hla hx hy hr; exact most_any K v a w (by rw [← len_eq]; exact hv) (by rw [← len_eq]; exact ha) hg
theorem geT {cmp : Bytes → Bytes → Int} {a b : Bytes} {x : Int} (h : cmp a b = x) : ordT geZ cmp (some a) (some b) = if geZ x then 2 else 0 := by rw [ordT_some, h]
theorem leT {cmp : Bytes → Bytes → Int} {a b : Bytes} {x : Int} (h : cmp a b = x) : ordT leZ cmp (some a) (some b) = if leZ x then 2 else 0 := by rw [ordT_some, h]

end Go.Proofs.YthopanlkjdcgmaaGreatDoor.W

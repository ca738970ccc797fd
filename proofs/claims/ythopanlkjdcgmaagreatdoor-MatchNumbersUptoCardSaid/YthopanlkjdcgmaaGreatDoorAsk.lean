/- Ordered, Compare, AtLeast, AtMost over a syntax with an order. -/
import Derived.Test.YthopanlkjdcgmaaGreatDoorTimeH
import Derived.Test.YthopanlkjdcgmaaGreatDoorOrd
namespace Go.Proofs.YthopanlkjdcgmaaGreatDoor.W
open Go.RowKit Go.Proofs.YthopanlkjdcgmaaGreatDoor.Plain

/-- a syntax with an order: its comparison is a total order on the texts of V, among which its normal forms are -/
structure OKind (G : World → Prop) (n : Int) (T F : Nat) (nf : Bytes → Option Bytes) (V : Bytes → Prop) (cmp : Bytes → Bytes → Int) : Prop where
  base : NKindG G n T F nf
  val : ∀ l m, l.length ≤ 1073741824 → nf l = some m → V m
  total : CmpOrd V cmp
  ord : ∀ w, G w → Calls Tryz.prog 18 #[.int .i64 n] w fun e w' => e = .returned (.bool true) ∧ Below w.heap.size w w'
  comp : ∀ (a b : Bytes) (w : World), V a → V b → G w → Calls Tryz.prog 20 #[.int .i64 n, .string ⟨a.toArray⟩, .string ⟨b.toArray⟩] w fun e w' => e = .returned (.int .i64 (cmp a b)) ∧ Below w.heap.size w w'

/-- the three answers of a question of order -/
def ordT (r : Int → Bool) (cmp : Bytes → Bytes → Int) (v a : Option Bytes) : Int :=
  match a with
  | none => 1
  | some a => match v with
    | none => 0
    | some v => if r (cmp v a) then 2 else 0
def geZ (x : Int) : Bool := decide (0 ≤ x)
def leZ (x : Int) : Bool := decide (x ≤ 0)
theorem ordT_none (r : Int → Bool) (cmp : Bytes → Bytes → Int) (v : Option Bytes) : ordT r cmp v none = 1 := rfl
theorem ordT_no (r : Int → Bool) (cmp : Bytes → Bytes → Int) (a : Bytes) : ordT r cmp none (some a) = 0 := rfl
theorem ordT_some (r : Int → Bool) (cmp : Bytes → Bytes → Int) (v a : Bytes) : ordT r cmp (some v) (some a) = if r (cmp v a) then 2 else 0 := rfl

set_option maxRecDepth 100000 in
theorem least_calls {G : World → Prop} {n : Int} {T F : Nat} {nf : Bytes → Option Bytes} {V : Bytes → Prop} {cmp : Bytes → Bytes → Int} (K : OKind G n T F nf V cmp) (a b : Bytes) (p : Nat) (w : World) (ha : V a) (hb : V b) (hp : w.cell? ⟨p, 0, none⟩ = some (.int .i64 n)) (hg : G w) :
    Calls Tryz.prog 19 #[.string ⟨a.toArray⟩, .string ⟨b.toArray⟩, .pointer (some ⟨p, 0, none⟩)] w fun e w' => e = .returned (.bool (geZ (cmp a b))) ∧ Below w.heap.size w w' := by
  obtain ⟨x, hx⟩ : ∃ x, cmp a b = x := ⟨_, rfl⟩
  have HX := Lib.hid hx
  clear hx
  rw [HX.out]
  by_cases h : 0 ≤ x
  all_goals
    first | (have hd : geZ x = true := decide_eq_true h; rw [hd]; have h1 : decide (0 ≤ x) = true := decide_eq_true h) | (have hd : geZ x = false := decide_eq_false h; rw [hd]; have h1 : decide (0 ≤ x) = false := decide_eq_false h)
    clear hd
    go_enter Tryz.func19, Tryz.ntmps19
    go_wp2_with (go_at_call 20; refine (K.comp a b _ ha hb hg).mono ?_; rintro e w1 ⟨rfl, hB⟩; rw [HX.out])
    go_ret
    exact ⟨rfl, hB⟩

set_option maxRecDepth 100000 in
set_option maxHeartbeats 1000000 in
theorem holds_least {G : World → Prop} {n : Int} {T F : Nat} {nf : Bytes → Option Bytes} {V : Bytes → Prop} {cmp : Bytes → Bytes → Int} (K : OKind G n T F nf V cmp) (v a : ByteArray) (p : Nat) (w : World) (hv : v.size ≤ 1073741824) (ha : a.size ≤ 1073741824) (hp : w.cell? ⟨p, 0, none⟩ = some (.int .i64 n)) (hg : G w) :
    Calls Tryz.prog 16 #[.int .i64 n, .string v, .string a, .func (.func 19) #[] #[.pointer (some ⟨p, 0, none⟩)]] w fun e w' => e = .returned (.int .i64 (ordT geZ cmp (nf v.data.toList) (nf a.data.toList))) ∧ Below w.heap.size w w' := by
  obtain ⟨rv, hrv⟩ : ∃ r, nf v.data.toList = r := ⟨_, rfl⟩
  obtain ⟨ra, hra⟩ : ∃ r, nf a.data.toList = r := ⟨_, rfl⟩
  have HV := Lib.hid hrv
  have HA := Lib.hid hra
  clear hrv hra
  rw [HV.out, HA.out]
  have hm := K.base.meth
  have he := K.base.enter
  cases ra with
  | none =>
    rw [ordT_none]
    go_enter Tryz.func16, Tryz.ntmps16
    go_wp2_with (go_at_call 29; refine (K.base.of _ hg).mono ?_; rintro e w1 ⟨rfl, rfl⟩)
    refine (K.base.calls a _ ha hg).mono ?_
    rintro e w2 ⟨rfl, hB⟩
    rw [HA.out, normV_none]
    go_wp2
    go_ret
    exact ⟨rfl, hB⟩
  | some na =>
    cases rv with
    | none =>
      rw [ordT_no]
      go_enter Tryz.func16, Tryz.ntmps16
      go_wp2_with (go_at_call 29; refine (K.base.of _ hg).mono ?_; rintro e w1 ⟨rfl, rfl⟩)
      refine (K.base.calls a _ ha hg).mono ?_
      rintro e w2 ⟨rfl, hB⟩
      rw [HA.out, normV_some]
      have hg2 := K.base.keep _ _ hg hB
      go_wp2_with fail
      refine (K.base.calls v _ hv hg2).mono ?_
      rintro e w3 ⟨rfl, hB2⟩
      rw [HV.out, normV_none]
      go_wp2
      go_ret
      exact ⟨rfl, hB.trans (hB2.mono hB.size)⟩
    | some nv =>
      have VV := K.val _ _ (by rw [len_eq]; exact hv) HV.out
      have VA := K.val _ _ (by rw [len_eq]; exact ha) HA.out
      obtain ⟨b, hb⟩ : ∃ b, geZ (cmp nv na) = b := ⟨_, rfl⟩
      have HB := Lib.hid hb
      clear hb
      have HR : Hid (ordT geZ cmp (some nv) (some na) = if b then 2 else 0) := by rw [ordT_some, HB.out]; exact Lib.hid rfl
      rw [HR.out]
      cases b
      all_goals
        go_enter Tryz.func16, Tryz.ntmps16
        go_wp2_with (go_at_call 29; refine (K.base.of _ hg).mono ?_; rintro e w1 ⟨rfl, rfl⟩)
        refine (K.base.calls a _ ha hg).mono ?_
        rintro e w2 ⟨rfl, hB⟩
        rw [HA.out, normV_some]
        have hg2 := K.base.keep _ _ hg hB
        go_wp2_with fail
        refine (K.base.calls v _ hv hg2).mono ?_
        rintro e w3 ⟨rfl, hB2⟩
        rw [HV.out, normV_some]
        have hg3 := K.base.keep _ _ hg2 hB2
        have hp3 := below_some (below_some hp hB) hB2
        go_wp2_with (go_at_call 19; refine (least_calls K nv na p _ VV VA hp3 hg3).mono ?_; rintro e w4 ⟨rfl, hB3⟩; rw [HB.out])
        go_ret
        exact ⟨rfl, (hB.trans (hB2.mono hB.size)).trans (hB3.mono (hB.trans (hB2.mono hB.size)).size)⟩

set_option maxRecDepth 100000 in
set_option maxHeartbeats 1000000 in
theorem least_any {G : World → Prop} {n : Int} {T F : Nat} {nf : Bytes → Option Bytes} {V : Bytes → Prop} {cmp : Bytes → Bytes → Int} (K : OKind G n T F nf V cmp) (v a : ByteArray) (w : World) (hv : v.size ≤ 1073741824) (ha : a.size ≤ 1073741824) (hg : G w) :
    Calls Tryz.prog 9 #[.int .i64 n, .string v, .string a] w fun e w' => e = .returned (.int .i64 (ordT geZ cmp (nf v.data.toList) (nf a.data.toList))) ∧ Below w.heap.size w w' := by
  have hB0 := (Below.refl w.heap.size w).alloc (Nat.le_refl _) (.cells #[.int .i64 n] 25)
  have hg0 := K.base.keep _ _ hg hB0
  have hp0 : (w.alloc (.cells #[.int .i64 n] 25)).cell? ⟨w.heap.size, 0, none⟩ = some (.int .i64 n) := by rw [World.cell?_alloc_new]; rfl
  go_enter Tryz.func9, Tryz.ntmps9
  go_wp2_with fail
  refine (K.ord _ hg0).mono ?_
  rintro e w1 ⟨rfl, hB1⟩
  have hg1 := K.base.keep _ _ hg0 hB1
  have hp1 := below_some hp0 hB1
  replace hB1 := hB0.trans (hB1.mono (by rw [World.size_alloc]; exact Nat.le_succ _))
  go_wp2_with fail
  refine (holds_least K v a _ _ hv ha hp1 hg1).mono ?_
  rintro e w2 ⟨rfl, hB2⟩
  replace hB2 := hB1.trans (hB2.mono hB1.size)
  go_wp2
  go_ret
  exact ⟨rfl, hB2⟩

set_option maxRecDepth 100000 in
theorem most_calls {G : World → Prop} {n : Int} {T F : Nat} {nf : Bytes → Option Bytes} {V : Bytes → Prop} {cmp : Bytes → Bytes → Int} (K : OKind G n T F nf V cmp) (a b : Bytes) (p : Nat) (w : World) (ha : V a) (hb : V b) (hp : w.cell? ⟨p, 0, none⟩ = some (.int .i64 n)) (hg : G w) :
    Calls Tryz.prog 21 #[.string ⟨a.toArray⟩, .string ⟨b.toArray⟩, .pointer (some ⟨p, 0, none⟩)] w fun e w' => e = .returned (.bool (leZ (cmp a b))) ∧ Below w.heap.size w w' := by
  obtain ⟨x, hx⟩ : ∃ x, cmp a b = x := ⟨_, rfl⟩
  have HX := Lib.hid hx
  clear hx
  rw [HX.out]
  by_cases h : x ≤ 0
  all_goals
    first | (have hd : leZ x = true := decide_eq_true h; rw [hd]; have h1 : decide (x ≤ 0) = true := decide_eq_true h) | (have hd : leZ x = false := decide_eq_false h; rw [hd]; have h1 : decide (x ≤ 0) = false := decide_eq_false h)
    clear hd
    go_enter Tryz.func21, Tryz.ntmps21
    go_wp2_with (go_at_call 20; refine (K.comp a b _ ha hb hg).mono ?_; rintro e w1 ⟨rfl, hB⟩; rw [HX.out])
    go_ret
    exact ⟨rfl, hB⟩

set_option maxRecDepth 100000 in
set_option maxHeartbeats 1000000 in
theorem holds_most {G : World → Prop} {n : Int} {T F : Nat} {nf : Bytes → Option Bytes} {V : Bytes → Prop} {cmp : Bytes → Bytes → Int} (K : OKind G n T F nf V cmp) (v a : ByteArray) (p : Nat) (w : World) (hv : v.size ≤ 1073741824) (ha : a.size ≤ 1073741824) (hp : w.cell? ⟨p, 0, none⟩ = some (.int .i64 n)) (hg : G w) :
    Calls Tryz.prog 16 #[.int .i64 n, .string v, .string a, .func (.func 21) #[] #[.pointer (some ⟨p, 0, none⟩)]] w fun e w' => e = .returned (.int .i64 (ordT leZ cmp (nf v.data.toList) (nf a.data.toList))) ∧ Below w.heap.size w w' := by
  obtain ⟨rv, hrv⟩ : ∃ r, nf v.data.toList = r := ⟨_, rfl⟩
  obtain ⟨ra, hra⟩ : ∃ r, nf a.data.toList = r := ⟨_, rfl⟩
  have HV := Lib.hid hrv
  have HA := Lib.hid hra
  clear hrv hra
  rw [HV.out, HA.out]
  have hm := K.base.meth
  have he := K.base.enter
  cases ra with
  | none =>
    rw [ordT_none]
    go_enter Tryz.func16, Tryz.ntmps16
    go_wp2_with (go_at_call 29; refine (K.base.of _ hg).mono ?_; rintro e w1 ⟨rfl, rfl⟩)
    refine (K.base.calls a _ ha hg).mono ?_
    rintro e w2 ⟨rfl, hB⟩
    rw [HA.out, normV_none]
    go_wp2
    go_ret
    exact ⟨rfl, hB⟩
  | some na =>
    cases rv with
    | none =>
      rw [ordT_no]
      go_enter Tryz.func16, Tryz.ntmps16
      go_wp2_with (go_at_call 29; refine (K.base.of _ hg).mono ?_; rintro e w1 ⟨rfl, rfl⟩)
      refine (K.base.calls a _ ha hg).mono ?_
      rintro e w2 ⟨rfl, hB⟩
      rw [HA.out, normV_some]
      have hg2 := K.base.keep _ _ hg hB
      go_wp2_with fail
      refine (K.base.calls v _ hv hg2).mono ?_
      rintro e w3 ⟨rfl, hB2⟩
      rw [HV.out, normV_none]
      go_wp2
      go_ret
      exact ⟨rfl, hB.trans (hB2.mono hB.size)⟩
    | some nv =>
      have VV := K.val _ _ (by rw [len_eq]; exact hv) HV.out
      have VA := K.val _ _ (by rw [len_eq]; exact ha) HA.out
      obtain ⟨b, hb⟩ : ∃ b, leZ (cmp nv na) = b := ⟨_, rfl⟩
      have HB := Lib.hid hb
      clear hb
      have HR : Hid (ordT leZ cmp (some nv) (some na) = if b then 2 else 0) := by rw [ordT_some, HB.out]; exact Lib.hid rfl
      rw [HR.out]
      cases b
      all_goals
        go_enter Tryz.func16, Tryz.ntmps16
        go_wp2_with (go_at_call 29; refine (K.base.of _ hg).mono ?_; rintro e w1 ⟨rfl, rfl⟩)
        refine (K.base.calls a _ ha hg).mono ?_
        rintro e w2 ⟨rfl, hB⟩
        rw [HA.out, normV_some]
        have hg2 := K.base.keep _ _ hg hB
        go_wp2_with fail
        refine (K.base.calls v _ hv hg2).mono ?_
        rintro e w3 ⟨rfl, hB2⟩
        rw [HV.out, normV_some]
        have hg3 := K.base.keep _ _ hg2 hB2
        have hp3 := below_some (below_some hp hB) hB2
        go_wp2_with (go_at_call 21; refine (most_calls K nv na p _ VV VA hp3 hg3).mono ?_; rintro e w4 ⟨rfl, hB3⟩; rw [HB.out])
        go_ret
        exact ⟨rfl, (hB.trans (hB2.mono hB.size)).trans (hB3.mono (hB.trans (hB2.mono hB.size)).size)⟩

set_option maxRecDepth 100000 in
set_option maxHeartbeats 1000000 in
theorem most_any {G : World → Prop} {n : Int} {T F : Nat} {nf : Bytes → Option Bytes} {V : Bytes → Prop} {cmp : Bytes → Bytes → Int} (K : OKind G n T F nf V cmp) (v a : ByteArray) (w : World) (hv : v.size ≤ 1073741824) (ha : a.size ≤ 1073741824) (hg : G w) :
    Calls Tryz.prog 10 #[.int .i64 n, .string v, .string a] w fun e w' => e = .returned (.int .i64 (ordT leZ cmp (nf v.data.toList) (nf a.data.toList))) ∧ Below w.heap.size w w' := by
  have hB0 := (Below.refl w.heap.size w).alloc (Nat.le_refl _) (.cells #[.int .i64 n] 25)
  have hg0 := K.base.keep _ _ hg hB0
  have hp0 : (w.alloc (.cells #[.int .i64 n] 25)).cell? ⟨w.heap.size, 0, none⟩ = some (.int .i64 n) := by rw [World.cell?_alloc_new]; rfl
  go_enter Tryz.func10, Tryz.ntmps10
  go_wp2_with fail
  refine (K.ord _ hg0).mono ?_
  rintro e w1 ⟨rfl, hB1⟩
  have hg1 := K.base.keep _ _ hg0 hB1
  have hp1 := below_some hp0 hB1
  replace hB1 := hB0.trans (hB1.mono (by rw [World.size_alloc]; exact Nat.le_succ _))
  go_wp2_with fail
  refine (holds_most K v a _ _ hv ha hp1 hg1).mono ?_
  rintro e w2 ⟨rfl, hB2⟩
  replace hB2 := hB1.trans (hB2.mono hB1.size)
  go_wp2
  go_ret
  exact ⟨rfl, hB2⟩

end Go.Proofs.YthopanlkjdcgmaaGreatDoor.W

/- match.holds and match.Equal. -/
import Derived.Test.YthopanlkjdcgmaaGreatDoorNorm
namespace Go.Proofs.YthopanlkjdcgmaaGreatDoor.W
open Go.RowKit Go.Proofs.YthopanlkjdcgmaaGreatDoor.Plain

/-- the three answers: 0 no, 1 undefined, 2 yes -/
def eqT (v a : Option Bytes) : Int :=
  match a with
  | none => 1
  | some a => match v with
    | none => 0
    | some v => if v = a then 2 else 0
theorem eqT_none (v : Option Bytes) : eqT v none = 1 := rfl
theorem eqT_no (a : Bytes) : eqT none (some a) = 0 := rfl
theorem eqT_some (v a : Bytes) : eqT (some v) (some a) = if v = a then 2 else 0 := rfl

theorem same_calls (a b : ByteArray) (w : World) :
    Calls Tryz.prog 17 #[.string a, .string b] w fun e w' => e = .returned (.bool (decide (a.data.toList = b.data.toList))) ∧ w = w' := by
  have h : (a.toList == b.toList) = decide (a.data.toList = b.data.toList) := by rw [toList_eq, toList_eq, Bool.eq_iff_iff]; simp
  have H := Lib.hid h
  clear h
  go_enter Tryz.func17, Tryz.ntmps17
  go_wp2
  go_ret
  exact ⟨ret_bool H.out, rfl⟩

set_option maxRecDepth 100000 in
set_option maxHeartbeats 1000000 in
theorem holds_eq {n : Int} {T F : Nat} {nf : Bytes → Option Bytes} (K : NKind n T F nf) (v a : ByteArray) (w : World) (hv : v.size ≤ 1073741824) (ha : a.size ≤ 1073741824) (hg : Glob w) :
    Calls Tryz.prog 16 #[.int .i64 n, .string v, .string a, .func (.func 17) #[] #[]] w fun e w' => e = .returned (.int .i64 (eqT (nf v.data.toList) (nf a.data.toList))) ∧ Below w.heap.size w w' := by
  obtain ⟨rv, hrv⟩ : ∃ r, nf v.data.toList = r := ⟨_, rfl⟩
  obtain ⟨ra, hra⟩ : ∃ r, nf a.data.toList = r := ⟨_, rfl⟩
  have HV := Lib.hid hrv
  have HA := Lib.hid hra
  clear hrv hra
  rw [HV.out, HA.out]
  have hm := K.meth
  have he := K.enter
  cases ra with
  | none =>
    rw [eqT_none]
    go_enter Tryz.func16, Tryz.ntmps16
    go_wp2_with (go_at_call 29; refine (K.of _ hg).mono ?_; rintro e w1 ⟨rfl, rfl⟩)
    refine (K.calls a _ ha hg).mono ?_
    rintro e w2 ⟨rfl, hB⟩
    rw [HA.out, normV_none]
    go_wp2
    go_ret
    exact ⟨rfl, hB⟩
  | some na =>
    cases rv with
    | none =>
      rw [eqT_no]
      go_enter Tryz.func16, Tryz.ntmps16
      go_wp2_with (go_at_call 29; refine (K.of _ hg).mono ?_; rintro e w1 ⟨rfl, rfl⟩)
      refine (K.calls a _ ha hg).mono ?_
      rintro e w2 ⟨rfl, hB⟩
      rw [HA.out, normV_some]
      have hg2 := hg.below hB
      go_wp2_with fail
      refine (K.calls v _ hv hg2).mono ?_
      rintro e w3 ⟨rfl, hB2⟩
      rw [HV.out, normV_none]
      go_wp2
      go_ret
      exact ⟨rfl, hB.trans (hB2.mono hB.size)⟩
    | some nv =>
      have hq : eqT (some nv) (some na) = if nv = na then 2 else 0 := rfl
      have HQ := Lib.hid hq
      clear hq
      obtain ⟨b, hb⟩ : ∃ b, decide (nv = na) = b := ⟨_, rfl⟩
      have HB := Lib.hid hb
      clear hb
      cases b
      · have HR : Hid (eqT (some nv) (some na) = 0) := by rw [HQ.out, if_neg (of_decide_eq_false HB.out)]; exact Lib.hid rfl
        rw [HR.out]
        go_enter Tryz.func16, Tryz.ntmps16
        go_wp2_with (go_at_call 29; refine (K.of _ hg).mono ?_; rintro e w1 ⟨rfl, rfl⟩)
        refine (K.calls a _ ha hg).mono ?_
        rintro e w2 ⟨rfl, hB⟩
        rw [HA.out, normV_some]
        have hg2 := hg.below hB
        go_wp2_with fail
        refine (K.calls v _ hv hg2).mono ?_
        rintro e w3 ⟨rfl, hB2⟩
        rw [HV.out, normV_some]
        go_wp2_with (go_at_call 17; refine (same_calls _ _ _).mono ?_; rintro e w4 ⟨rfl, rfl⟩; rw [mk_data, mk_data, HB.out])
        go_ret
        exact ⟨rfl, hB.trans (hB2.mono hB.size)⟩
      · have HR : Hid (eqT (some nv) (some na) = 2) := by rw [HQ.out, if_pos (of_decide_eq_true HB.out)]; exact Lib.hid rfl
        rw [HR.out]
        go_enter Tryz.func16, Tryz.ntmps16
        go_wp2_with (go_at_call 29; refine (K.of _ hg).mono ?_; rintro e w1 ⟨rfl, rfl⟩)
        refine (K.calls a _ ha hg).mono ?_
        rintro e w2 ⟨rfl, hB⟩
        rw [HA.out, normV_some]
        have hg2 := hg.below hB
        go_wp2_with fail
        refine (K.calls v _ hv hg2).mono ?_
        rintro e w3 ⟨rfl, hB2⟩
        rw [HV.out, normV_some]
        go_wp2_with (go_at_call 17; refine (same_calls _ _ _).mono ?_; rintro e w4 ⟨rfl, rfl⟩; rw [mk_data, mk_data, HB.out])
        go_ret
        exact ⟨rfl, hB.trans (hB2.mono hB.size)⟩

set_option maxRecDepth 100000 in
set_option maxHeartbeats 400000 in
theorem equal_calls {n : Int} {T F : Nat} {nf : Bytes → Option Bytes} (K : NKind n T F nf) (v a : ByteArray) (w : World) (hv : v.size ≤ 1073741824) (ha : a.size ≤ 1073741824) (hg : Glob w) :
    Calls Tryz.prog 7 #[.int .i64 n, .string v, .string a] w fun e w' => e = .returned (.int .i64 (eqT (nf v.data.toList) (nf a.data.toList))) ∧ Below w.heap.size w w' := by
  go_enter Tryz.func7, Tryz.ntmps7
  go_wp2_with (go_at_call 16; refine (holds_eq K v a _ hv ha hg).mono ?_; rintro e w1 ⟨rfl, hB⟩)
  go_ret
  exact ⟨rfl, hB⟩

end Go.Proofs.YthopanlkjdcgmaaGreatDoor.W

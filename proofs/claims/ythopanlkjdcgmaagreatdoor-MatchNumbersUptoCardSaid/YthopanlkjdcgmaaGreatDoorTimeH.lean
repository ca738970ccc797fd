/- Kinds over any predicate of worlds; SynTime is the syntax 12. -/
import Derived.Test.YthopanlkjdcgmaaGreatDoorTimeG
import Derived.Test.YthopanlkjdcgmaaGreatDoorEqual
namespace Go.Proofs.YthopanlkjdcgmaaGreatDoor.W
open Go.RowKit Go.Proofs.YthopanlkjdcgmaaGreatDoor.Plain

/-- worlds with the kinds, and a table of powers T -/
def GT (T : Nat → Int) (w : World) : Prop := Glob w ∧ TabAt T w
theorem has_it (T : Nat → Int) : Has (itT T) (GT T) :=
  ⟨fun _ h => h.1, fun _ _ h hb => ⟨h.1.below hb, h.2.below hb⟩, fun n w h0 h1 hg => itoa_any T n h0 h1 w hg.2, fun n h0 h1 => itT_length T n h0 h1⟩

/-- as NKind, over a predicate G of worlds -/
structure NKindG (G : World → Prop) (n : Int) (T F : Nat) (nf : Bytes → Option Bytes) : Prop where
  of : ∀ w, G w → Calls Tryz.prog 29 #[.int .i64 n] w fun e w' => e = .returned (.iface T (.agg #[])) ∧ w = w'
  meth : ∀ (k : Nat) (w : World), (method (k + 1) T (.agg #[]) "roster/match.normal").run Tryz.prog w = .ok (F, .agg #[]) w
  enter : ∀ (args : Array Value) (w : World), (callFunc F args).run Tryz.prog w = .ok (.enter F args) w
  calls : ∀ (s : ByteArray) (w : World), s.size ≤ 1073741824 → G w → Calls Tryz.prog F #[.agg #[], .string s] w (NormPost (nf s.data.toList) w)
  keep : ∀ w w', G w → Below w.heap.size w w' → G w'
theorem NKind.gen {it : Int → Bytes} {G : World → Prop} (H : Has it G) {n : Int} {T F : Nat} {nf : Bytes → Option Bytes} (K : NKind n T F nf) : NKindG G n T F nf :=
  ⟨fun w hg => K.of w (H.glob w hg), K.meth, K.enter, fun s w hs hg => K.calls s w hs (H.glob w hg), H.keep⟩
theorem k_time {it : Int → Bytes} {G : World → Prop} (H : Has it G) : NKindG G 12 275 255 (timeN it) :=
  ⟨fun w hg => of_at 12 12 _ rfl (by omega) rfl w (H.glob w hg), fun _ _ => by kernel_rfl, enters_of Tryz.func255 (by kernel_rfl) rfl, fun s w hs hg => time_calls H s w hs hg, H.keep⟩

set_option maxRecDepth 100000 in
set_option maxHeartbeats 1000000 in
theorem holds_eqG {G : World → Prop} {n : Int} {T F : Nat} {nf : Bytes → Option Bytes} (K : NKindG G n T F nf) (v a : ByteArray) (w : World) (hv : v.size ≤ 1073741824) (ha : a.size ≤ 1073741824) (hg : G w) :
    Calls Tryz.prog 16 #[.int .i64 n, .string v, .string a, .func (.func 17) #[] #[]] w fun e w' => e = .returned (.int .i64 (eqT (nf v.data.toList) (nf a.data.toList))) ∧ Below w.heap.size w w' := by
  obtain ⟨rv, hrv⟩ : ∃ r, nf v.data.toList = r := ⟨_, rfl⟩
  obtain ⟨ra, hra⟩ : ∃ r, nf a.data.toList = r := ⟨_, rfl⟩
  have HV := Lib.hid hrv
  have HA := Lib.hid hra
  clear hrv hra
  rw [HV.out, HA.out]
  have hm := K.meth
  have he := K.enter
  cases ra with
  | none =>
    rw [eqT_none]
    go_enter Tryz.func16, Tryz.ntmps16
    go_wp2_with (go_at_call 29; refine (K.of _ hg).mono ?_; rintro e w1 ⟨rfl, rfl⟩)
    refine (K.calls a _ ha hg).mono ?_
    rintro e w2 ⟨rfl, hB⟩
    rw [HA.out, normV_none]
    go_wp2
    go_ret
    exact ⟨rfl, hB⟩
  | some na =>
    cases rv with
    | none =>
      rw [eqT_no]
      go_enter Tryz.func16, Tryz.ntmps16
      go_wp2_with (go_at_call 29; refine (K.of _ hg).mono ?_; rintro e w1 ⟨rfl, rfl⟩)
      refine (K.calls a _ ha hg).mono ?_
      rintro e w2 ⟨rfl, hB⟩
      rw [HA.out, normV_some]
      have hg2 := K.keep _ _ hg hB
      go_wp2_with fail
      refine (K.calls v _ hv hg2).mono ?_
      rintro e w3 ⟨rfl, hB2⟩
      rw [HV.out, normV_none]
      go_wp2
      go_ret
      exact ⟨rfl, hB.trans (hB2.mono hB.size)⟩
    | some nv =>
      have hq : eqT (some nv) (some na) = if nv = na then 2 else 0 := rfl
      have HQ := Lib.hid hq
      clear hq
      obtain ⟨b, hb⟩ : ∃ b, decide (nv = na) = b := ⟨_, rfl⟩
      have HB := Lib.hid hb
      clear hb
      cases b
      · have HR : Hid (eqT (some nv) (some na) = 0) := by rw [HQ.out, if_neg (of_decide_eq_false HB.out)]; exact Lib.hid rfl
        rw [HR.out]
        go_enter Tryz.func16, Tryz.ntmps16
        go_wp2_with (go_at_call 29; refine (K.of _ hg).mono ?_; rintro e w1 ⟨rfl, rfl⟩)
        refine (K.calls a _ ha hg).mono ?_
        rintro e w2 ⟨rfl, hB⟩
        rw [HA.out, normV_some]
        have hg2 := K.keep _ _ hg hB
        go_wp2_with fail
        refine (K.calls v _ hv hg2).mono ?_
        rintro e w3 ⟨rfl, hB2⟩
        rw [HV.out, normV_some]
        go_wp2_with (go_at_call 17; refine (same_calls _ _ _).mono ?_; rintro e w4 ⟨rfl, rfl⟩; rw [mk_data, mk_data, HB.out])
        go_ret
        exact ⟨rfl, hB.trans (hB2.mono hB.size)⟩
      · have HR : Hid (eqT (some nv) (some na) = 2) := by rw [HQ.out, if_pos (of_decide_eq_true HB.out)]; exact Lib.hid rfl
        rw [HR.out]
        go_enter Tryz.func16, Tryz.ntmps16
        go_wp2_with (go_at_call 29; refine (K.of _ hg).mono ?_; rintro e w1 ⟨rfl, rfl⟩)
        refine (K.calls a _ ha hg).mono ?_
        rintro e w2 ⟨rfl, hB⟩
        rw [HA.out, normV_some]
        have hg2 := K.keep _ _ hg hB
        go_wp2_with fail
        refine (K.calls v _ hv hg2).mono ?_
        rintro e w3 ⟨rfl, hB2⟩
        rw [HV.out, normV_some]
        go_wp2_with (go_at_call 17; refine (same_calls _ _ _).mono ?_; rintro e w4 ⟨rfl, rfl⟩; rw [mk_data, mk_data, HB.out])
        go_ret
        exact ⟨rfl, hB.trans (hB2.mono hB.size)⟩

set_option maxRecDepth 100000 in
set_option maxHeartbeats 400000 in
theorem equal_callsG {G : World → Prop} {n : Int} {T F : Nat} {nf : Bytes → Option Bytes} (K : NKindG G n T F nf) (v a : ByteArray) (w : World) (hv : v.size ≤ 1073741824) (ha : a.size ≤ 1073741824) (hg : G w) :
    Calls Tryz.prog 7 #[.int .i64 n, .string v, .string a] w fun e w' => e = .returned (.int .i64 (eqT (nf v.data.toList) (nf a.data.toList))) ∧ Below w.heap.size w w' := by
  go_enter Tryz.func7, Tryz.ntmps7
  go_wp2_with (go_at_call 16; refine (holds_eqG K v a _ hv ha hg).mono ?_; rintro e w1 ⟨rfl, hB⟩)
  go_ret
  exact ⟨rfl, hB⟩

end Go.Proofs.YthopanlkjdcgmaaGreatDoor.W

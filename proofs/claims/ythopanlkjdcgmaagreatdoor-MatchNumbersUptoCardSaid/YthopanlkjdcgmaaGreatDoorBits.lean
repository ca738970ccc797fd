/- match.bits, and match.ByRule for the rules that look at bits. -/
import Derived.Test.YthopanlkjdcgmaaGreatDoorRule
import Derived.Deep.RegionWith
namespace Go.Proofs.YthopanlkjdcgmaaGreatDoor.W
open Go.RowKit Go.Proofs.YthopanlkjdcgmaaGreatDoor.Plain

/-- the variable strconv.ErrRange holds an error -/
def ErrAt (w : World) : Prop := ∃ ev, w.cell? ⟨8, 0, none⟩ = some ev ∧ (ev = .nilIface ∨ ∃ te pe, ev = .iface te pe)
def GR (T : Nat → Int) (w : World) : Prop := GT T w ∧ ErrAt w
theorem ErrAt.below {w w' : World} (h : ErrAt w) (hb : Below w.heap.size w w') : ErrAt w' := let ⟨ev, h1, h2⟩ := h; ⟨ev, below_some h1 hb, h2⟩
theorem has_itR (T : Nat → Int) : Has (itT T) (GR T) :=
  ⟨fun w h => (has_it T).glob w h.1, fun w w' h hb => ⟨(has_it T).keep w w' h.1 hb, h.2.below hb⟩, fun n w h0 h1 hg => (has_it T).itoa n w h0 h1 hg.1, (has_it T).len⟩

theorem bits_ok (s : ByteArray) (v : Int) (w : World) (hs : s.size ≤ 1073741824) (hn : nInt s.data.toList = some s.data.toList) (hp : Lib.parseIntB 64 s.data.toList = .ok v) :
    Calls Tryz.prog 34 #[.string s] w fun e w' => e = .returned (.tuple #[.int .i64 v, .bool true]) ∧ Below w.heap.size w w' := by
  have hm : Tryz.prog.follows Departure.mixedOrders = true := by kernel_rfl
  have NA : Hid (normV (nInt s.data.toList) = .tuple #[.string s, .bool true]) := by rw [hn, normV_some, ← mk_of (c := s) rfl]; exact Lib.hid rfl
  have HP := Lib.hid hp
  clear hn hp
  go_enter Tryz.func34, Tryz.ntmps34
  go_wp2_with fail
  refine (int_any s _ hs).mono ?_
  rintro e w1 ⟨rfl, hB1⟩
  rw [NA.out]
  go_wp2_with fail
  refine (Tryz.strconv_ParseInt_10_at64_ok s (by omega) v HP.out _).mono ?_
  rintro e w2 ⟨rfl, hw2⟩
  have hB2 : Below w1.heap.size w1 w2 := by
    rcases hw2 with rfl | ⟨t, rfl⟩
    · exact Below.refl _ _
    · exact below_bytesWorld _ _ _
  replace hB2 := hB1.trans (hB2.mono hB1.size)
  clear hw2
  go_wp2_with fail
  go_region_o
  go_wp2
  go_ret2
  exact ⟨rfl, hB2.drew⟩
theorem bits_range (s : ByteArray) (w : World) (hs : s.size ≤ 1073741824) (hn : nInt s.data.toList = some s.data.toList) (hp : Lib.parseIntB 64 s.data.toList = .range) (he : ErrAt w) :
    Calls Tryz.prog 34 #[.string s] w fun e w' => (∃ v : Int, e = .returned (.tuple #[.int .i64 v, .bool false])) ∧ Below w.heap.size w w' := by
  have hm : Tryz.prog.follows Departure.mixedOrders = true := by kernel_rfl
  have NA : Hid (normV (nInt s.data.toList) = .tuple #[.string s, .bool true]) := by rw [hn, normV_some, ← mk_of (c := s) rfl]; exact Lib.hid rfl
  have HP := Lib.hid hp
  clear hn hp
  go_enter Tryz.func34, Tryz.ntmps34
  go_wp2_with fail
  refine (int_any s _ hs).mono ?_
  rintro e w1 ⟨rfl, hB1⟩
  rw [NA.out]
  obtain ⟨ev, hv, hev⟩ := he.below hB1
  go_wp2_with fail
  refine (Tryz.strconv_ParseInt_10_at64_range s (by omega) HP.out ev _ hv hev).mono ?_
  rintro e w2 ⟨N, rfl, hN, hcell, hB2⟩
  replace hB2 := hB1.trans (hB2.mono hB1.size)
  clear hcell
  go_wp2_with fail
  go_region_o
  go_wp2
  go_ret2
  exact ⟨⟨_, rfl⟩, hB2.drew⟩

set_option maxRecDepth 100000 in
set_option maxHeartbeats 1000000 in
theorem asserts_bits {G : World → Prop} {r : Int} {Q T F : Nat} {nf : Bytes → Option Bytes} (R : RuleK r 7 2 Q) (K : NKindG G 7 T F nf) (a : ByteArray) (ok : Bool)
    (hb : ∀ w, G w → Calls Tryz.prog 34 #[.string a] w fun e w' => (∃ v : Int, e = .returned (.tuple #[.int .i64 v, .bool ok])) ∧ Below w.heap.size w w') (w : World) (ha : a.size ≤ 1073741824) (hg : G w) :
    Calls Tryz.prog 23 #[.int .i64 r, .string a] w fun e w' => e = .returned (.bool ok) ∧ Below w.heap.size w w' := by
  have hf2 := field_syn
  obtain ⟨x, hx⟩ : ∃ r, nf a.data.toList = r := ⟨_, rfl⟩
  have HR := Lib.hid hx
  clear hx
  cases x
  all_goals
    go_enter Tryz.func23, Tryz.ntmps23
    go_wp2_with fail
    refine (R.known _).mono ?_
    rintro e w1 ⟨rfl, rfl⟩
    go_wp2_with fail
    refine (R.rows _).mono ?_
    rintro e w1 ⟨⟨nm, id, rfl⟩, hB0⟩
    go_wp2_with fail
    refine (normal_callsG K a _ ha (K.keep _ _ hg hB0)).mono ?_
    rintro e w2 ⟨rfl, hB⟩
    replace hB := hB0.trans (hB.mono hB0.size)
    first | rw [HR.out, normV_none] | rw [HR.out, normV_some]
    go_wp2_with fail
    refine (R.kind _).mono ?_
    rintro e w3 ⟨rfl, rfl⟩
    go_wp2_with fail
    refine (hb _ (K.keep _ _ hg hB)).mono ?_
    rintro e w4 ⟨⟨v, rfl⟩, hB4⟩
    replace hB4 := hB.trans (hB4.mono hB.size)
    go_wp2
    go_ret
    exact ⟨rfl, hB4⟩
theorem reads_bits {G : World → Prop} {r : Int} {Q : Nat} (R : RuleK r 7 2 Q) (a : ByteArray) (ok : Bool)
    (hb : ∀ w, G w → Calls Tryz.prog 34 #[.string a] w fun e w' => (∃ v : Int, e = .returned (.tuple #[.int .i64 v, .bool ok])) ∧ Below w.heap.size w w') (w : World) (hg : G w) :
    Calls Tryz.prog 24 #[.int .i64 r, .string a] w fun e w' => e = .returned (.bool ok) ∧ Below w.heap.size w w' := by
  go_enter Tryz.func24, Tryz.ntmps24
  go_wp2_with fail
  refine (R.kind _).mono ?_
  rintro e w3 ⟨rfl, rfl⟩
  go_wp2_with fail
  refine (hb _ hg).mono ?_
  rintro e w4 ⟨⟨v, rfl⟩, hB4⟩
  go_wp2
  go_ret
  exact ⟨rfl, hB4⟩

set_option maxRecDepth 100000 in
set_option maxHeartbeats 1000000 in
/-- the assertion is no number of 64 bits: undefined -/
theorem byrule_na {G : World → Prop} {r : Int} {Q T F : Nat} {nf : Bytes → Option Bytes} (R : RuleK r 7 2 Q) (K : NKindG G 7 T F nf) (v a : ByteArray)
    (hb : ∀ w, G w → Calls Tryz.prog 34 #[.string a] w fun e w' => (∃ v : Int, e = .returned (.tuple #[.int .i64 v, .bool false])) ∧ Below w.heap.size w w') (w : World) (ha : a.size ≤ 1073741824) (hg : G w) :
    Calls Tryz.prog 11 #[.int .i64 r, .int .i64 7, .string v, .string a] w fun e w' => e = .returned (.int .i64 1) ∧ Below w.heap.size w w' := by
  go_enter Tryz.func11, Tryz.ntmps11
  go_wp2_with fail
  refine (suits_any R _).mono ?_
  rintro e w0 ⟨rfl, hB0⟩
  go_wp2_with fail
  refine (asserts_bits R K a false hb _ ha (K.keep _ _ hg hB0)).mono ?_
  rintro e w1 ⟨rfl, hB1⟩
  replace hB1 := hB0.trans (hB1.mono hB0.size)
  go_wp2
  go_ret
  exact ⟨rfl, hB1⟩
set_option maxRecDepth 100000 in
set_option maxHeartbeats 1000000 in
/-- the value is no number of 64 bits: no -/
theorem byrule_nv {G : World → Prop} {r : Int} {Q T F : Nat} {nf : Bytes → Option Bytes} (R : RuleK r 7 2 Q) (K : NKindG G 7 T F nf) (v a : ByteArray)
    (hb : ∀ w, G w → Calls Tryz.prog 34 #[.string a] w fun e w' => (∃ v : Int, e = .returned (.tuple #[.int .i64 v, .bool true])) ∧ Below w.heap.size w w')
    (hc : ∀ w, G w → Calls Tryz.prog 34 #[.string v] w fun e w' => (∃ v : Int, e = .returned (.tuple #[.int .i64 v, .bool false])) ∧ Below w.heap.size w w') (w : World) (ha : a.size ≤ 1073741824) (hg : G w) :
    Calls Tryz.prog 11 #[.int .i64 r, .int .i64 7, .string v, .string a] w fun e w' => e = .returned (.int .i64 0) ∧ Below w.heap.size w w' := by
  go_enter Tryz.func11, Tryz.ntmps11
  go_wp2_with fail
  refine (suits_any R _).mono ?_
  rintro e w0 ⟨rfl, hB0⟩
  go_wp2_with fail
  refine (asserts_bits R K a true hb _ ha (K.keep _ _ hg hB0)).mono ?_
  rintro e w1 ⟨rfl, hB1⟩
  replace hB1 := hB0.trans (hB1.mono hB0.size)
  go_wp2_with fail
  refine (reads_bits R v false hc _ (K.keep _ _ hg hB1)).mono ?_
  rintro e w2 ⟨rfl, hB2⟩
  replace hB2 := hB1.trans (hB2.mono hB1.size)
  go_wp2
  go_ret
  exact ⟨rfl, hB2⟩

end Go.Proofs.YthopanlkjdcgmaaGreatDoor.W

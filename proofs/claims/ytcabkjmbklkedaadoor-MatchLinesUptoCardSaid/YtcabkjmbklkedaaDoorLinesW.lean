/- The walk of the law MatchLines. -/
import Derived.Test.YtcabkjmbklkedaaDoorOrdW
namespace Go.Proofs.YtcabkjmbklkedaaDoor.W
open Go.RowKit Go.Proofs.YtcabkjmbklkedaaDoor.Plain

/-- what stands in the list of the six syntaxes: number s is one with an order -/
def HasOrd (G : World → Prop) (s : Int) : Prop := ∃ T F nf V cmp, OKind G s T F nf V cmp

/-- one call of Equal, of AtLeast, of AtMost, the answer known -/
theorem eq_at {G : World → Prop} {n : Int} {T F : Nat} {nf : Bytes → Option Bytes} (K : NKindG G n T F nf) (v a : ByteArray) (x y : Option Bytes) (r : Int) (w : World) (hx : nf v.data.toList = x) (hy : nf a.data.toList = y) (hr : eqT x y = r)
    (hv : v.size ≤ 1073741824) (ha : a.size ≤ 1073741824) (hg : G w) :
    Calls Tryd.prog 9 #[.int .i64 n, .string v, .string a] w fun e w' => e = .returned (.int .i64 r) ∧ Below w.heap.size w w' := by
  subst hx hy hr; exact equal_callsG K v a w hv ha hg
theorem least_at {G : World → Prop} {n : Int} {T F : Nat} {nf : Bytes → Option Bytes} {V : Bytes → Prop} {cmp : Bytes → Bytes → Int} (K : OKind G n T F nf V cmp) (v a : ByteArray) (x y : Option Bytes) (r : Int) (w : World) (hx : nf v.data.toList = x) (hy : nf a.data.toList = y) (hr : ordT geZ cmp x y = r)
    (hv : v.size ≤ 1073741824) (ha : a.size ≤ 1073741824) (hg : G w) :
    Calls Tryd.prog 11 #[.int .i64 n, .string v, .string a] w fun e w' => e = .returned (.int .i64 r) ∧ Below w.heap.size w w' := by
  subst hx hy hr; exact least_any K v a w hv ha hg
theorem most_at {G : World → Prop} {n : Int} {T F : Nat} {nf : Bytes → Option Bytes} {V : Bytes → Prop} {cmp : Bytes → Bytes → Int} (K : OKind G n T F nf V cmp) (v a : ByteArray) (x y : Option Bytes) (r : Int) (w : World) (hx : nf v.data.toList = x) (hy : nf a.data.toList = y) (hr : ordT leZ cmp x y = r)
    (hv : v.size ≤ 1073741824) (ha : a.size ≤ 1073741824) (hg : G w) :
    Calls Tryd.prog 12 #[.int .i64 n, .string v, .string a] w fun e w' => e = .returned (.int .i64 r) ∧ Below w.heap.size w w' := by
  subst hx hy hr; exact most_any K v a w hv ha hg

/-- the round's answers: of three values with normal forms -/
structure LineFacts (cmp : Bytes → Bytes → Int) (a b c : Option Bytes) (up down bc ac : Int) : Prop where
  eab : eqT a b = if up = 2 ∧ down = 2 then 2 else 0
  lab : ordT geZ cmp a b = up
  mab : ordT leZ cmp a b = down
  mba : ordT leZ cmp b a = up
  lba : ordT geZ cmp b a = down
  lbc : ordT geZ cmp b c = bc
  lac : ordT geZ cmp a c = ac
theorem line_facts {V : Bytes → Prop} {cmp : Bytes → Bytes → Int} (C : CmpOrd V cmp) {a b c : Bytes} (ha : V a) (hb : V b) (hc : V c) :
    LineFacts cmp (some a) (some b) (some c) 0 2 (ordT geZ cmp (some b) (some c)) (ordT geZ cmp (some a) (some c)) ∨
    (∃ down, (down = 0 ∨ down = 2) ∧ (LineFacts cmp (some a) (some b) (some c) 2 down 0 (ordT geZ cmp (some a) (some c)) ∨ LineFacts cmp (some a) (some b) (some c) 2 down 2 2)) := by
  have hq := C.eq a b ha hb
  have hn := C.anti a b ha hb
  have ht := C.trans a b c ha hb hc
  have L : ∀ x y : Bytes, ordT leZ cmp (some x) (some y) = if cmp x y ≤ 0 then 2 else 0 := fun x y => by rw [ordT_some]; unfold leZ; by_cases h : cmp x y ≤ 0 <;> simp [h]
  have M : ∀ x y : Bytes, ordT geZ cmp (some x) (some y) = if 0 ≤ cmp x y then 2 else 0 := fun x y => by rw [ordT_some]; unfold geZ; by_cases h : 0 ≤ cmp x y <;> simp [h]
  rcases C.rng a b with h | h | h
  · left
    refine ⟨?_, ?_, ?_, ?_, ?_, rfl, rfl⟩
    · rw [eqT_some, if_neg (by rw [← hq]; omega), if_neg (by decide)]
    · rw [M, if_neg (by omega)]
    · rw [L, if_pos (by omega)]
    · rw [L, if_neg (by omega)]
    · rw [M, if_pos (by omega)]
  · right
    refine ⟨2, .inr rfl, ?_⟩
    by_cases hbc : 0 ≤ cmp b c
    · right
      refine ⟨?_, ?_, ?_, ?_, ?_, ?_, ?_⟩
      · rw [eqT_some, if_pos (hq.1 h), if_pos (by decide)]
      · rw [M, if_pos (by omega)]
      · rw [L, if_pos (by omega)]
      · rw [L, if_pos (by omega)]
      · rw [M, if_pos (by omega)]
      · rw [M, if_pos hbc]
      · rw [M, if_pos (ht (by omega) hbc)]
    · left
      refine ⟨?_, ?_, ?_, ?_, ?_, ?_, rfl⟩
      · rw [eqT_some, if_pos (hq.1 h), if_pos (by decide)]
      · rw [M, if_pos (by omega)]
      · rw [L, if_pos (by omega)]
      · rw [L, if_pos (by omega)]
      · rw [M, if_pos (by omega)]
      · rw [M, if_neg hbc]
  · right
    refine ⟨0, .inl rfl, ?_⟩
    by_cases hbc : 0 ≤ cmp b c
    · right
      refine ⟨?_, ?_, ?_, ?_, ?_, ?_, ?_⟩
      · rw [eqT_some, if_neg (by rw [← hq]; omega), if_neg (by decide)]
      · rw [M, if_pos (by omega)]
      · rw [L, if_neg (by omega)]
      · rw [L, if_pos (by omega)]
      · rw [M, if_neg (by omega)]
      · rw [M, if_pos hbc]
      · rw [M, if_pos (ht (by omega) hbc)]
    · left
      refine ⟨?_, ?_, ?_, ?_, ?_, ?_, rfl⟩
      · rw [eqT_some, if_neg (by rw [← hq]; omega), if_neg (by decide)]
      · rw [M, if_pos (by omega)]
      · rw [L, if_neg (by omega)]
      · rw [L, if_pos (by omega)]
      · rw [M, if_neg (by omega)]
      · rw [M, if_neg hbc]
theorem eqT_own (x : Option Bytes) : eqT x x = if x = none then 1 else 2 := by
  cases x with
  | none => rfl
  | some a => rw [eqT_some, if_pos rfl]; rfl

/-- THE WALK -/
theorem oct_self (a : ByteArray) : ordT geZ Lib.compareBytes (nOctet a.data.toList) (nOctet a.data.toList) = 2 := by
  unfold nOctet; rw [ordT_some, (cb_eq _ _).2 rfl]; rfl

set_option maxRecDepth 100000 in
set_option maxHeartbeats 4000000 in
theorem lines_walk {it : Int → Bytes} {G : World → Prop} (H : Has it G) (hK : ∀ s ∈ ([1, 2, 5, 7, 9, 12] : List Int), HasOrd G s) {T9 F9 : Nat} {V9 : Bytes → Prop} (K9 : OKind G 9 T9 F9 nOctet V9 Lib.compareBytes)
    (a b c : ByteArray) (ha : a.size ≤ 1073741824) (hb : b.size ≤ 1073741824) (hc : c.size ≤ 1073741824) (w : World) (hg : G w) :
    Calls Tryd.prog 5 #[.string a, .string b, .string c] w fun e w' => e = .returned (.bool true) ∧ Below w.heap.size w w' := by
  have hB0 := (Below.refl w.heap.size w).alloc (Nat.le_refl _) (.cells #[.int .i64 1, .int .i64 2, .int .i64 5, .int .i64 7, .int .i64 9, .int .i64 12] 26)
  obtain ⟨w0, hw0⟩ : ∃ w0, w.alloc (.cells #[.int .i64 1, .int .i64 2, .int .i64 5, .int .i64 7, .int .i64 9, .int .i64 12] 26) = w0 := ⟨_, rfl⟩
  have hcell : ∀ i, i < 6 → ∃ s, HasOrd G s ∧ w0.cell? ⟨w.heap.size, i, none⟩ = some (.int .i64 s) := by
    intro i hi
    have h : i = 0 ∨ i = 1 ∨ i = 2 ∨ i = 3 ∨ i = 4 ∨ i = 5 := by omega
    rw [← hw0]
    rcases h with rfl | rfl | rfl | rfl | rfl | rfl
    · exact ⟨1, hK 1 (by decide), by rw [World.cell?_alloc_new]; rfl⟩
    · exact ⟨2, hK 2 (by decide), by rw [World.cell?_alloc_new]; rfl⟩
    · exact ⟨5, hK 5 (by decide), by rw [World.cell?_alloc_new]; rfl⟩
    · exact ⟨7, hK 7 (by decide), by rw [World.cell?_alloc_new]; rfl⟩
    · exact ⟨9, hK 9 (by decide), by rw [World.cell?_alloc_new]; rfl⟩
    · exact ⟨12, hK 12 (by decide), by rw [World.cell?_alloc_new]; rfl⟩
  have HC := Lib.hid hcell
  have HW0 := Lib.hid hw0
  rw [hw0] at hB0
  clear hcell hw0 hK
  have hg0 := H.keep _ _ hg hB0
  have hR0 := Below.refl w0.heap.size w0
  go_enter Tryd.func5, Tryd.ntmps5
  go_wp2_with fail
  rw [HW0.out]
  refine (least_at K9 a a _ _ 2 _ rfl rfl (oct_self a) ha ha hg0).mono ?_
  rintro e u1 ⟨rfl, hU1⟩
  go_wp2_with fail
  refine (most_at K9 ⟨#[97]⟩ ⟨#[98]⟩ _ _ 2 _ rfl rfl (by decide) (by decide) (by decide) (H.keep _ _ hg0 hU1)).mono ?_
  rintro e u2 ⟨rfl, hU2⟩
  replace hU2 := hU1.trans (hU2.mono hU1.size)
  go_wp2_with fail
  refine (least_at K9 ⟨#[97]⟩ ⟨#[98]⟩ _ _ 0 _ rfl rfl (by decide) (by decide) (by decide) (H.keep _ _ hg0 hU2)).mono ?_
  rintro e u3 ⟨rfl, hU3⟩
  replace hU3 := hU2.trans (hU3.mono hU2.size)
  go_wp2_with fail
  go_loopw [8, 9, 10, 11] (fun vi _ _ _ wr => ∃ i : Nat, i ≤ 6 ∧ vi = .int .i64 (i : Int) ∧ Below w0.heap.size w0 wr) (fun vi _ _ _ _ => 6 - (intOf vi).toNat)
  case atStart => exact ⟨0, by omega, rfl, hU3⟩
  case round =>
    obtain ⟨i, hi, rfl, hBw⟩ := hrel
    by_cases hi6 : i < 6
    · obtain ⟨s, ⟨T, F, nf, V, cmp, K⟩, hcs⟩ := HC.out i hi6
      have hcw := below_some hcs hBw
      have hgw := H.keep _ _ hg0 hBw
      obtain ⟨x, hx⟩ : ∃ x, nf a.data.toList = x := ⟨_, rfl⟩
      obtain ⟨y, hy⟩ : ∃ y, nf b.data.toList = y := ⟨_, rfl⟩
      obtain ⟨z, hz⟩ : ∃ z, nf c.data.toList = z := ⟨_, rfl⟩
      have Xa := Lib.hid hx
      have Xb := Lib.hid hy
      have Xc := Lib.hid hz
      have hVa := fun m h => K.val _ m (by rw [len_eq]; exact ha) (hx.trans h)
      have hVb := fun m h => K.val _ m (by rw [len_eq]; exact hb) (hy.trans h)
      have hVc := fun m h => K.val _ m (by rw [len_eq]; exact hc) (hz.trans h)
      have HVa := Lib.hid hVa
      have HVb := Lib.hid hVb
      have HVc := Lib.hid hVc
      clear hx hy hz hcs hVa hVb hVc
      go_wp2_with fail
      refine (K.ord _ hgw).mono ?_
      rintro e v1 ⟨rfl, hV1⟩
      replace hV1 := hBw.trans (hV1.mono hBw.size)
      cases x with
      | none =>
        go_wp2_with fail
        refine (eq_at K.base a a _ _ 1 _ (Xa).out (Xa).out rfl ha ha (H.keep _ _ hg0 hV1)).mono ?_
        rintro e v2 ⟨rfl, hV2⟩
        replace hV2 := hV1.trans (hV2.mono hV1.size)
        go_wp2_with fail
        go_roundw
        case rel => exact ⟨i + 1, by omega, by go_num, hV2⟩
        case measure => simp [intOf]; omega
      | some na =>
      cases y with
      | none =>
        go_wp2_with fail
        refine (eq_at K.base a a _ _ 2 _ (Xa).out (Xa).out (by rw [eqT_some, if_pos rfl]) ha ha (H.keep _ _ hg0 hV1)).mono ?_
        rintro e v2 ⟨rfl, hV2⟩
        replace hV2 := hV1.trans (hV2.mono hV1.size)
        go_wp2_with fail
        refine (eq_at K.base b b _ _ 1 _ (Xb).out (Xb).out rfl hb hb (H.keep _ _ hg0 hV2)).mono ?_
        rintro e v3 ⟨rfl, hV3⟩
        replace hV3 := hV2.trans (hV3.mono hV2.size)
        go_wp2_with fail
        go_roundw
        case rel => exact ⟨i + 1, by omega, by go_num, hV3⟩
        case measure => simp [intOf]; omega
      | some nb =>
      cases z with
      | none =>
        go_wp2_with fail
        refine (eq_at K.base a a _ _ 2 _ (Xa).out (Xa).out (by rw [eqT_some, if_pos rfl]) ha ha (H.keep _ _ hg0 hV1)).mono ?_
        rintro e v2 ⟨rfl, hV2⟩
        replace hV2 := hV1.trans (hV2.mono hV1.size)
        go_wp2_with fail
        refine (eq_at K.base b b _ _ 2 _ (Xb).out (Xb).out (by rw [eqT_some, if_pos rfl]) hb hb (H.keep _ _ hg0 hV2)).mono ?_
        rintro e v3 ⟨rfl, hV3⟩
        replace hV3 := hV2.trans (hV3.mono hV2.size)
        go_wp2_with fail
        refine (eq_at K.base c c _ _ 1 _ (Xc).out (Xc).out rfl hc hc (H.keep _ _ hg0 hV3)).mono ?_
        rintro e v4 ⟨rfl, hV4⟩
        replace hV4 := hV3.trans (hV4.mono hV3.size)
        go_wp2_with fail
        go_roundw
        case rel => exact ⟨i + 1, by omega, by go_num, hV4⟩
        case measure => simp [intOf]; omega
      | some nc =>
        rcases line_facts K.total (HVa.out _ rfl) (HVb.out _ rfl) (HVc.out _ rfl) with LF | ⟨down, hdown, LF | LF⟩
        · have LF2 := Lib.hid LF
          clear LF
          go_wp2_with fail
          refine (eq_at K.base a a _ _ 2 _ (Xa).out (Xa).out (by rw [eqT_some, if_pos rfl]) ha ha (H.keep _ _ hg0 hV1)).mono ?_
          rintro e v2 ⟨rfl, hV2⟩
          replace hV2 := hV1.trans (hV2.mono hV1.size)
          go_wp2_with fail
          refine (eq_at K.base b b _ _ 2 _ (Xb).out (Xb).out (by rw [eqT_some, if_pos rfl]) hb hb (H.keep _ _ hg0 hV2)).mono ?_
          rintro e v3 ⟨rfl, hV3⟩
          replace hV3 := hV2.trans (hV3.mono hV2.size)
          go_wp2_with fail
          refine (eq_at K.base c c _ _ 2 _ (Xc).out (Xc).out (by rw [eqT_some, if_pos rfl]) hc hc (H.keep _ _ hg0 hV3)).mono ?_
          rintro e v4 ⟨rfl, hV4⟩
          replace hV4 := hV3.trans (hV4.mono hV3.size)
          go_wp2_with fail
          refine (least_at K a b _ _ 0 _ (Xa).out (Xb).out LF2.out.lab ha hb (H.keep _ _ hg0 hV4)).mono ?_
          rintro e v5 ⟨rfl, hV5⟩
          replace hV5 := hV4.trans (hV5.mono hV4.size)
          go_wp2_with fail
          refine (most_at K a b _ _ 2 _ (Xa).out (Xb).out LF2.out.mab ha hb (H.keep _ _ hg0 hV5)).mono ?_
          rintro e v6 ⟨rfl, hV6⟩
          replace hV6 := hV5.trans (hV6.mono hV5.size)
          go_wp2_with fail
          refine (eq_at K.base a b _ _ 0 _ (Xa).out (Xb).out LF2.out.eab ha hb (H.keep _ _ hg0 hV6)).mono ?_
          rintro e v7 ⟨rfl, hV7⟩
          replace hV7 := hV6.trans (hV7.mono hV6.size)
          go_wp2_with fail
          refine (most_at K b a _ _ 0 _ (Xb).out (Xa).out LF2.out.mba hb ha (H.keep _ _ hg0 hV7)).mono ?_
          rintro e v8 ⟨rfl, hV8⟩
          replace hV8 := hV7.trans (hV8.mono hV7.size)
          go_wp2_with fail
          refine (least_at K b a _ _ 2 _ (Xb).out (Xa).out LF2.out.lba hb ha (H.keep _ _ hg0 hV8)).mono ?_
          rintro e v9 ⟨rfl, hV9⟩
          replace hV9 := hV8.trans (hV9.mono hV8.size)
          go_wp2_with fail
          go_roundw
          case rel => exact ⟨i + 1, by omega, by go_num, hV9⟩
          case measure => simp [intOf]; omega
        · rcases hdown with rfl | rfl
          · have LF2 := Lib.hid LF
            clear LF
            go_wp2_with fail
            refine (eq_at K.base a a _ _ 2 _ (Xa).out (Xa).out (by rw [eqT_some, if_pos rfl]) ha ha (H.keep _ _ hg0 hV1)).mono ?_
            rintro e v2 ⟨rfl, hV2⟩
            replace hV2 := hV1.trans (hV2.mono hV1.size)
            go_wp2_with fail
            refine (eq_at K.base b b _ _ 2 _ (Xb).out (Xb).out (by rw [eqT_some, if_pos rfl]) hb hb (H.keep _ _ hg0 hV2)).mono ?_
            rintro e v3 ⟨rfl, hV3⟩
            replace hV3 := hV2.trans (hV3.mono hV2.size)
            go_wp2_with fail
            refine (eq_at K.base c c _ _ 2 _ (Xc).out (Xc).out (by rw [eqT_some, if_pos rfl]) hc hc (H.keep _ _ hg0 hV3)).mono ?_
            rintro e v4 ⟨rfl, hV4⟩
            replace hV4 := hV3.trans (hV4.mono hV3.size)
            go_wp2_with fail
            refine (least_at K a b _ _ 2 _ (Xa).out (Xb).out LF2.out.lab ha hb (H.keep _ _ hg0 hV4)).mono ?_
            rintro e v5 ⟨rfl, hV5⟩
            replace hV5 := hV4.trans (hV5.mono hV4.size)
            go_wp2_with fail
            refine (most_at K a b _ _ 0 _ (Xa).out (Xb).out LF2.out.mab ha hb (H.keep _ _ hg0 hV5)).mono ?_
            rintro e v6 ⟨rfl, hV6⟩
            replace hV6 := hV5.trans (hV6.mono hV5.size)
            go_wp2_with fail
            refine (eq_at K.base a b _ _ 0 _ (Xa).out (Xb).out LF2.out.eab ha hb (H.keep _ _ hg0 hV6)).mono ?_
            rintro e v7 ⟨rfl, hV7⟩
            replace hV7 := hV6.trans (hV7.mono hV6.size)
            go_wp2_with fail
            refine (most_at K b a _ _ 2 _ (Xb).out (Xa).out LF2.out.mba hb ha (H.keep _ _ hg0 hV7)).mono ?_
            rintro e v8 ⟨rfl, hV8⟩
            replace hV8 := hV7.trans (hV8.mono hV7.size)
            go_wp2_with fail
            refine (least_at K b a _ _ 0 _ (Xb).out (Xa).out LF2.out.lba hb ha (H.keep _ _ hg0 hV8)).mono ?_
            rintro e v9 ⟨rfl, hV9⟩
            replace hV9 := hV8.trans (hV9.mono hV8.size)
            go_wp2_with fail
            refine (least_at K b c _ _ 0 _ (Xb).out (Xc).out LF2.out.lbc hb hc (H.keep _ _ hg0 hV9)).mono ?_
            rintro e v10 ⟨rfl, hV10⟩
            replace hV10 := hV9.trans (hV10.mono hV9.size)
            go_wp2_with fail
            go_roundw
            case rel => exact ⟨i + 1, by omega, by go_num, hV10⟩
            case measure => simp [intOf]; omega
          · have LF2 := Lib.hid LF
            clear LF
            go_wp2_with fail
            refine (eq_at K.base a a _ _ 2 _ (Xa).out (Xa).out (by rw [eqT_some, if_pos rfl]) ha ha (H.keep _ _ hg0 hV1)).mono ?_
            rintro e v2 ⟨rfl, hV2⟩
            replace hV2 := hV1.trans (hV2.mono hV1.size)
            go_wp2_with fail
            refine (eq_at K.base b b _ _ 2 _ (Xb).out (Xb).out (by rw [eqT_some, if_pos rfl]) hb hb (H.keep _ _ hg0 hV2)).mono ?_
            rintro e v3 ⟨rfl, hV3⟩
            replace hV3 := hV2.trans (hV3.mono hV2.size)
            go_wp2_with fail
            refine (eq_at K.base c c _ _ 2 _ (Xc).out (Xc).out (by rw [eqT_some, if_pos rfl]) hc hc (H.keep _ _ hg0 hV3)).mono ?_
            rintro e v4 ⟨rfl, hV4⟩
            replace hV4 := hV3.trans (hV4.mono hV3.size)
            go_wp2_with fail
            refine (least_at K a b _ _ 2 _ (Xa).out (Xb).out LF2.out.lab ha hb (H.keep _ _ hg0 hV4)).mono ?_
            rintro e v5 ⟨rfl, hV5⟩
            replace hV5 := hV4.trans (hV5.mono hV4.size)
            go_wp2_with fail
            refine (most_at K a b _ _ 2 _ (Xa).out (Xb).out LF2.out.mab ha hb (H.keep _ _ hg0 hV5)).mono ?_
            rintro e v6 ⟨rfl, hV6⟩
            replace hV6 := hV5.trans (hV6.mono hV5.size)
            go_wp2_with fail
            refine (eq_at K.base a b _ _ 2 _ (Xa).out (Xb).out LF2.out.eab ha hb (H.keep _ _ hg0 hV6)).mono ?_
            rintro e v7 ⟨rfl, hV7⟩
            replace hV7 := hV6.trans (hV7.mono hV6.size)
            go_wp2_with fail
            refine (most_at K b a _ _ 2 _ (Xb).out (Xa).out LF2.out.mba hb ha (H.keep _ _ hg0 hV7)).mono ?_
            rintro e v8 ⟨rfl, hV8⟩
            replace hV8 := hV7.trans (hV8.mono hV7.size)
            go_wp2_with fail
            refine (least_at K b a _ _ 2 _ (Xb).out (Xa).out LF2.out.lba hb ha (H.keep _ _ hg0 hV8)).mono ?_
            rintro e v9 ⟨rfl, hV9⟩
            replace hV9 := hV8.trans (hV9.mono hV8.size)
            go_wp2_with fail
            refine (least_at K b c _ _ 0 _ (Xb).out (Xc).out LF2.out.lbc hb hc (H.keep _ _ hg0 hV9)).mono ?_
            rintro e v10 ⟨rfl, hV10⟩
            replace hV10 := hV9.trans (hV10.mono hV9.size)
            go_wp2_with fail
            go_roundw
            case rel => exact ⟨i + 1, by omega, by go_num, hV10⟩
            case measure => simp [intOf]; omega
        · rcases hdown with rfl | rfl
          · have LF2 := Lib.hid LF
            clear LF
            go_wp2_with fail
            refine (eq_at K.base a a _ _ 2 _ (Xa).out (Xa).out (by rw [eqT_some, if_pos rfl]) ha ha (H.keep _ _ hg0 hV1)).mono ?_
            rintro e v2 ⟨rfl, hV2⟩
            replace hV2 := hV1.trans (hV2.mono hV1.size)
            go_wp2_with fail
            refine (eq_at K.base b b _ _ 2 _ (Xb).out (Xb).out (by rw [eqT_some, if_pos rfl]) hb hb (H.keep _ _ hg0 hV2)).mono ?_
            rintro e v3 ⟨rfl, hV3⟩
            replace hV3 := hV2.trans (hV3.mono hV2.size)
            go_wp2_with fail
            refine (eq_at K.base c c _ _ 2 _ (Xc).out (Xc).out (by rw [eqT_some, if_pos rfl]) hc hc (H.keep _ _ hg0 hV3)).mono ?_
            rintro e v4 ⟨rfl, hV4⟩
            replace hV4 := hV3.trans (hV4.mono hV3.size)
            go_wp2_with fail
            refine (least_at K a b _ _ 2 _ (Xa).out (Xb).out LF2.out.lab ha hb (H.keep _ _ hg0 hV4)).mono ?_
            rintro e v5 ⟨rfl, hV5⟩
            replace hV5 := hV4.trans (hV5.mono hV4.size)
            go_wp2_with fail
            refine (most_at K a b _ _ 0 _ (Xa).out (Xb).out LF2.out.mab ha hb (H.keep _ _ hg0 hV5)).mono ?_
            rintro e v6 ⟨rfl, hV6⟩
            replace hV6 := hV5.trans (hV6.mono hV5.size)
            go_wp2_with fail
            refine (eq_at K.base a b _ _ 0 _ (Xa).out (Xb).out LF2.out.eab ha hb (H.keep _ _ hg0 hV6)).mono ?_
            rintro e v7 ⟨rfl, hV7⟩
            replace hV7 := hV6.trans (hV7.mono hV6.size)
            go_wp2_with fail
            refine (most_at K b a _ _ 2 _ (Xb).out (Xa).out LF2.out.mba hb ha (H.keep _ _ hg0 hV7)).mono ?_
            rintro e v8 ⟨rfl, hV8⟩
            replace hV8 := hV7.trans (hV8.mono hV7.size)
            go_wp2_with fail
            refine (least_at K b a _ _ 0 _ (Xb).out (Xa).out LF2.out.lba hb ha (H.keep _ _ hg0 hV8)).mono ?_
            rintro e v9 ⟨rfl, hV9⟩
            replace hV9 := hV8.trans (hV9.mono hV8.size)
            go_wp2_with fail
            refine (least_at K b c _ _ 2 _ (Xb).out (Xc).out LF2.out.lbc hb hc (H.keep _ _ hg0 hV9)).mono ?_
            rintro e v10 ⟨rfl, hV10⟩
            replace hV10 := hV9.trans (hV10.mono hV9.size)
            go_wp2_with fail
            refine (least_at K a c _ _ 2 _ (Xa).out (Xc).out LF2.out.lac ha hc (H.keep _ _ hg0 hV10)).mono ?_
            rintro e v11 ⟨rfl, hV11⟩
            replace hV11 := hV10.trans (hV11.mono hV10.size)
            go_wp2_with fail
            go_roundw
            case rel => exact ⟨i + 1, by omega, by go_num, hV11⟩
            case measure => simp [intOf]; omega
          · have LF2 := Lib.hid LF
            clear LF
            go_wp2_with fail
            refine (eq_at K.base a a _ _ 2 _ (Xa).out (Xa).out (by rw [eqT_some, if_pos rfl]) ha ha (H.keep _ _ hg0 hV1)).mono ?_
            rintro e v2 ⟨rfl, hV2⟩
            replace hV2 := hV1.trans (hV2.mono hV1.size)
            go_wp2_with fail
            refine (eq_at K.base b b _ _ 2 _ (Xb).out (Xb).out (by rw [eqT_some, if_pos rfl]) hb hb (H.keep _ _ hg0 hV2)).mono ?_
            rintro e v3 ⟨rfl, hV3⟩
            replace hV3 := hV2.trans (hV3.mono hV2.size)
            go_wp2_with fail
            refine (eq_at K.base c c _ _ 2 _ (Xc).out (Xc).out (by rw [eqT_some, if_pos rfl]) hc hc (H.keep _ _ hg0 hV3)).mono ?_
            rintro e v4 ⟨rfl, hV4⟩
            replace hV4 := hV3.trans (hV4.mono hV3.size)
            go_wp2_with fail
            refine (least_at K a b _ _ 2 _ (Xa).out (Xb).out LF2.out.lab ha hb (H.keep _ _ hg0 hV4)).mono ?_
            rintro e v5 ⟨rfl, hV5⟩
            replace hV5 := hV4.trans (hV5.mono hV4.size)
            go_wp2_with fail
            refine (most_at K a b _ _ 2 _ (Xa).out (Xb).out LF2.out.mab ha hb (H.keep _ _ hg0 hV5)).mono ?_
            rintro e v6 ⟨rfl, hV6⟩
            replace hV6 := hV5.trans (hV6.mono hV5.size)
            go_wp2_with fail
            refine (eq_at K.base a b _ _ 2 _ (Xa).out (Xb).out LF2.out.eab ha hb (H.keep _ _ hg0 hV6)).mono ?_
            rintro e v7 ⟨rfl, hV7⟩
            replace hV7 := hV6.trans (hV7.mono hV6.size)
            go_wp2_with fail
            refine (most_at K b a _ _ 2 _ (Xb).out (Xa).out LF2.out.mba hb ha (H.keep _ _ hg0 hV7)).mono ?_
            rintro e v8 ⟨rfl, hV8⟩
            replace hV8 := hV7.trans (hV8.mono hV7.size)
            go_wp2_with fail
            refine (least_at K b a _ _ 2 _ (Xb).out (Xa).out LF2.out.lba hb ha (H.keep _ _ hg0 hV8)).mono ?_
            rintro e v9 ⟨rfl, hV9⟩
            replace hV9 := hV8.trans (hV9.mono hV8.size)
            go_wp2_with fail
            refine (least_at K b c _ _ 2 _ (Xb).out (Xc).out LF2.out.lbc hb hc (H.keep _ _ hg0 hV9)).mono ?_
            rintro e v10 ⟨rfl, hV10⟩
            replace hV10 := hV9.trans (hV10.mono hV9.size)
            go_wp2_with fail
            refine (least_at K a c _ _ 2 _ (Xa).out (Xc).out LF2.out.lac ha hc (H.keep _ _ hg0 hV10)).mono ?_
            rintro e v11 ⟨rfl, hV11⟩
            replace hV11 := hV10.trans (hV11.mono hV10.size)
            go_wp2_with fail
            go_roundw
            case rel => exact ⟨i + 1, by omega, by go_num, hV11⟩
            case measure => simp [intOf]; omega
    · go_wp2
      go_ret
      exact ⟨rfl, hB0.trans (hBw.mono hB0.size)⟩

end Go.Proofs.YtcabkjmbklkedaaDoor.W

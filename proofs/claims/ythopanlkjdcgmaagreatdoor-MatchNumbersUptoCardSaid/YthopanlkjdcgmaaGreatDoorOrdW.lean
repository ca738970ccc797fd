/- The six syntaxes with an order: their 'ordered' and 'compare'. -/
import Derived.Test.YthopanlkjdcgmaaGreatDoorAsk
import Derived.Test.YthopanlkjdcgmaaGreatDoorInst
import Derived.Deep.RegionWith
namespace Go.Proofs.YthopanlkjdcgmaaGreatDoor.W
open Go.RowKit Go.Proofs.YthopanlkjdcgmaaGreatDoor.Plain

theorem bord_calls (w : World) : Calls Tryz.prog 219 #[.agg #[]] w fun e w' => e = .returned (.bool true) ∧ Below w.heap.size w w' := by
  go_enter Tryz.func219, Tryz.ntmps219
  go_wp2
  go_ret
  exact ⟨rfl, (Below.refl _ _).alloc (Nat.le_refl _) _⟩
theorem iord_calls (w : World) : Calls Tryz.prog 206 #[.agg #[]] w fun e w' => e = .returned (.bool true) ∧ Below w.heap.size w w' := by
  go_enter Tryz.func206, Tryz.ntmps206
  go_wp2
  go_ret
  exact ⟨rfl, (Below.refl _ _).alloc (Nat.le_refl _) _⟩
theorem bcmp_calls (a b : ByteArray) (w : World) : Calls Tryz.prog 218 #[.agg #[], .string a, .string b] w fun e w' => e = .returned (.int .i64 (Lib.compareBytes a.data.toList b.data.toList)) ∧ Below w.heap.size w w' := by
  go_enter Tryz.func218, Tryz.ntmps218
  go_wp2_with (go_at_call 207; refine (Tryz.strings_Compare _ _ _).mono ?_; rintro e w1 ⟨rfl, hw⟩; rw [hw]; clear hw)
  go_ret
  exact ⟨rfl, (Below.refl _ _).alloc (Nat.le_refl _) _⟩

theorem int_head {a : ByteArray} (h : intOk a.data.toList = true) : ∃ hp : 0 < a.size, negL a.data.toList = (((a[0]).toNat : Int) == 45) := by
  have hp : 0 < a.size := by
    rcases Nat.eq_zero_or_pos a.size with hz | hz
    · rw [nil_of hz] at h; exact absurd h (by decide)
    · exact hz
  refine ⟨hp, ?_⟩
  have hh : a.data.toList.head? = some a[0] := by
    have : a.data.toList[0]? = some a[0] := by rw [List.getElem?_eq_getElem (by rw [len_eq]; exact hp)]; rfl
    rw [List.head?_eq_getElem?]; exact this
  unfold negL
  rw [hh, Bool.eq_iff_iff]
  simp only [beq_iff_eq, Option.some.injEq]
  rw [u8_eq]; rfl
theorem tail_str (a : ByteArray) : (a.extract 1 a.size).data.toList = a.data.toList.tail := by
  rw [← toList_eq, Lib.extract_toList, List.take_of_length_le (by rw [List.length_drop, len_eq]; omega), List.drop_one]

theorem take_str (a : ByteArray) : (a.extract 1 a.size).data.toList = List.take (a.size - 1) a.data.toList.tail := by
  rw [tail_str, List.take_of_length_le (by rw [List.length_tail, len_eq]; exact Nat.le_refl _)]

/-- rows of digits: how integer.compare ends -/
theorem mg_less {a b : ByteArray} (h : a.size < b.size) : magn a.data.toList b.data.toList = -1 := by
  unfold magn; rw [len_eq, len_eq, if_neg (by omega), if_pos h]
theorem mg_more {a b : ByteArray} (h : b.size < a.size) : magn a.data.toList b.data.toList = 1 := by
  unfold magn; rw [len_eq, len_eq, if_neg (by omega), if_neg (by omega)]
theorem mg_same {a b : ByteArray} (h : a.size = b.size) : magn a.data.toList b.data.toList = Lib.compareBytes a.data.toList b.data.toList := by
  unfold magn; rw [len_eq, len_eq, if_pos h]

theorem mixed : Tryz.prog.follows Departure.mixedOrders = true := by kernel_rfl

set_option maxRecDepth 100000 in
set_option maxHeartbeats 2000000 in
theorem icmp_calls (a b : ByteArray) (w : World) (ha : intOk a.data.toList = true) (hb : intOk b.data.toList = true) (sa : a.size ≤ 1073741824) (sb : b.size ≤ 1073741824) :
    Calls Tryz.prog 205 #[.agg #[], .string a, .string b] w fun e w' => e = .returned (.int .i64 (cmpI a.data.toList b.data.toList)) ∧ Below w.heap.size w w' := by
  have hm := mixed
  obtain ⟨pa, na⟩ := int_head ha
  obtain ⟨pb, nb⟩ := int_head hb
  have NA : Hid (normV (nInt a.data.toList) = .tuple #[.string a, .bool true]) := by unfold nInt; rw [if_pos ha, normV_some, ← mk_of (c := a) rfl]; exact Lib.hid rfl
  have NB : Hid (normV (nInt b.data.toList) = .tuple #[.string b, .bool true]) := by unfold nInt; rw [if_pos hb, normV_some, ← mk_of (c := b) rfl]; exact Lib.hid rfl
  have h0 := (Below.refl w.heap.size w).alloc (Nat.le_refl _) (.cells #[] 78)
  have CI : Hid (cmpI a.data.toList b.data.toList = if (((a[0]).toNat : Int) == 45) then (if (((b[0]).toNat : Int) == 45) then magn (b.extract 1 b.size).data.toList (a.extract 1 a.size).data.toList else -1) else (if (((b[0]).toNat : Int) == 45) then 1 else magn a.data.toList b.data.toList)) := by
    unfold cmpI; rw [na, nb, tail_str, tail_str]; exact Lib.hid rfl
  clear na nb ha hb
  obtain ⟨x, hx⟩ : ∃ x, (((a[0]).toNat : Int) == 45) = x := ⟨_, rfl⟩
  obtain ⟨y, hy⟩ : ∃ y, (((b[0]).toNat : Int) == 45) = y := ⟨_, rfl⟩
  rw [hx, hy] at CI
  have wa : a.size - 1 < a.size := by omega
  cases x <;> cases y
  case false.true =>
    go_enter Tryz.func205, Tryz.ntmps205
    go_wp2_with fail
    refine (int_any a _ sa).mono ?_
    rintro e w1 ⟨rfl, hB1⟩
    rw [NA.out]
    replace hB1 := h0.trans (hB1.mono h0.size)
    go_wp2_with fail
    refine (int_any b _ sb).mono ?_
    rintro e w2 ⟨rfl, hB2⟩
    rw [NB.out]
    replace hB2 := hB1.trans (hB2.mono hB1.size)
    go_wp2_with fail
    go_region_o
    go_wp2
    go_ret
    exact ⟨by rw [CI.out]; rfl, hB2.drew⟩
  case true.false =>
    go_enter Tryz.func205, Tryz.ntmps205
    go_wp2_with fail
    refine (int_any a _ sa).mono ?_
    rintro e w1 ⟨rfl, hB1⟩
    rw [NA.out]
    replace hB1 := h0.trans (hB1.mono h0.size)
    go_wp2_with fail
    refine (int_any b _ sb).mono ?_
    rintro e w2 ⟨rfl, hB2⟩
    rw [NB.out]
    replace hB2 := hB1.trans (hB2.mono hB1.size)
    go_wp2_with fail
    go_region_o
    go_wp2
    go_ret
    exact ⟨by rw [CI.out]; rfl, hB2.drew⟩
  case false.false =>
    have hs : ((a.size : Int) != b.size) = true ∧ ¬ (a.size : Int) = b.size ∧ magn a.data.toList b.data.toList = Lib.compareInt a.size b.size ∨ ((a.size : Int) != b.size) = false ∧ (a.size : Int) = b.size ∧ magn a.data.toList b.data.toList = Lib.compareBytes a.data.toList b.data.toList := by
      by_cases h : a.size = b.size
      · exact .inr ⟨by simp [h], by omega, mg_same h⟩
      · refine .inl ⟨by simp; omega, by omega, ?_⟩
        unfold Lib.compareInt
        by_cases h2 : a.size < b.size
        · rw [mg_less h2, if_pos (by omega)]
        · rw [mg_more (by omega), if_neg (by omega), if_pos (by omega)]
    rcases hs with ⟨s1, s2, s3⟩ | ⟨s1, s2, s3⟩
    all_goals
      have HS := Lib.hid s3
      clear s3
      go_enter Tryz.func205, Tryz.ntmps205
      go_wp2_with fail
      refine (int_any a _ sa).mono ?_
      rintro e w1 ⟨rfl, hB1⟩
      rw [NA.out]
      replace hB1 := h0.trans (hB1.mono h0.size)
      go_wp2_with fail
      refine (int_any b _ sb).mono ?_
      rintro e w2 ⟨rfl, hB2⟩
      rw [NB.out]
      replace hB2 := hB1.trans (hB2.mono hB1.size)
      go_wp2_with fail
      go_region_o
      go_wp2_with (first | (go_at_call 208; refine (Tryz.cmp_Compare_int _ _ _).mono ?_; rintro e w4 ⟨rfl, hw⟩; rw [hw]; clear hw) | (go_at_call 207; refine (Tryz.strings_Compare _ _ _).mono ?_; rintro e w4 ⟨rfl, hw⟩; rw [hw]; clear hw))
      go_ret
      exact ⟨by rw [CI.out, ← HS.out]; rfl, hB2.drew⟩
  case true.true =>
    have ea : (a.extract 1 a.size).size = a.size - 1 := by rw [ByteArray.size_extract]; omega
    have eb : (b.extract 1 b.size).size = b.size - 1 := by rw [ByteArray.size_extract]; omega
    have hs : (((b.size - 1 : Nat) : Int) != ((a.size - 1 : Nat) : Int)) = true ∧ ¬ ((b.size - 1 : Nat) : Int) = ((a.size - 1 : Nat) : Int) ∧ magn (b.extract 1 b.size).data.toList (a.extract 1 a.size).data.toList = Lib.compareInt ((b.size - 1 : Nat) : Int) ((a.size - 1 : Nat) : Int) ∨ (((b.size - 1 : Nat) : Int) != ((a.size - 1 : Nat) : Int)) = false ∧ ((b.size - 1 : Nat) : Int) = ((a.size - 1 : Nat) : Int) ∧ magn (b.extract 1 b.size).data.toList (a.extract 1 a.size).data.toList = Lib.compareBytes (List.take (b.size - 1) b.data.toList.tail) (List.take (a.size - 1) a.data.toList.tail) := by
      by_cases h : b.size - 1 = a.size - 1
      · exact .inr ⟨by simp [h], by omega, (mg_same (by rw [ea, eb]; exact h)).trans (by rw [← take_str, ← take_str])⟩
      · refine .inl ⟨by rw [bne_iff_ne]; omega, by omega, ?_⟩
        unfold Lib.compareInt
        by_cases h2 : b.size - 1 < a.size - 1
        · rw [mg_less (by rw [ea, eb]; exact h2), if_pos (by omega)]
        · rw [mg_more (by rw [ea, eb]; omega), if_neg (by omega), if_pos (by omega)]
    clear ea eb
    rcases hs with ⟨s1, s2, s3⟩ | ⟨s1, s2, s3⟩
    all_goals
      have HS := Lib.hid s3
      clear s3
      go_enter Tryz.func205, Tryz.ntmps205
      go_wp2_with fail
      refine (int_any a _ sa).mono ?_
      rintro e w1 ⟨rfl, hB1⟩
      rw [NA.out]
      replace hB1 := h0.trans (hB1.mono h0.size)
      go_wp2_with fail
      refine (int_any b _ sb).mono ?_
      rintro e w2 ⟨rfl, hB2⟩
      rw [NB.out]
      replace hB2 := hB1.trans (hB2.mono hB1.size)
      go_wp2_with fail
      go_region_o
      go_wp2_with fail
      go_region_o
      go_wp2_with (first | (go_at_call 208; refine (Tryz.cmp_Compare_int _ _ _).mono ?_; rintro e w4 ⟨rfl, hw⟩; rw [hw]; clear hw) | (go_at_call 207; refine (Tryz.strings_Compare _ _ _).mono ?_; rintro e w4 ⟨rfl, hw⟩; rw [hw]; clear hw))
      go_ret
      exact ⟨by rw [CI.out, ← HS.out]; rfl, hB2.drew.drew⟩

/-- the method Ordered, Compare of a syntax, through its interface -/
theorem ord_of {G : World → Prop} {n : Int} {T F O : Nat} {nf : Bytes → Option Bytes} (B : NKindG G n T F nf) (hm : ∀ (k : Nat) (w : World), (method (k + 1) T (.agg #[]) "roster/match.ordered").run Tryz.prog w = .ok (O, .agg #[]) w)
    (he : ∀ (args : Array Value) (w : World), (callFunc O args).run Tryz.prog w = .ok (.enter O args) w) (hO : ∀ w, Calls Tryz.prog O #[.agg #[]] w fun e w' => e = .returned (.bool true) ∧ Below w.heap.size w w') (w : World) (hg : G w) :
    Calls Tryz.prog 18 #[.int .i64 n] w fun e w' => e = .returned (.bool true) ∧ Below w.heap.size w w' := by
  go_enter Tryz.func18, Tryz.ntmps18
  go_wp2_with (go_at_call 29; refine (B.of _ hg).mono ?_; rintro e w1 ⟨rfl, rfl⟩)
  refine (hO _).mono ?_
  rintro e w2 ⟨rfl, hB⟩
  go_wp2
  go_ret
  exact ⟨rfl, hB⟩
theorem comp_of {G : World → Prop} {n : Int} {T F C : Nat} {nf : Bytes → Option Bytes} {a b : Bytes} {r : Int} (B : NKindG G n T F nf) (hm : ∀ (k : Nat) (w : World), (method (k + 1) T (.agg #[]) "roster/match.compare").run Tryz.prog w = .ok (C, .agg #[]) w)
    (he : ∀ (args : Array Value) (w : World), (callFunc C args).run Tryz.prog w = .ok (.enter C args) w) (hC : ∀ w, Calls Tryz.prog C #[.agg #[], .string ⟨a.toArray⟩, .string ⟨b.toArray⟩] w fun e w' => e = .returned (.int .i64 r) ∧ Below w.heap.size w w') (w : World) (hg : G w) :
    Calls Tryz.prog 20 #[.int .i64 n, .string ⟨a.toArray⟩, .string ⟨b.toArray⟩] w fun e w' => e = .returned (.int .i64 r) ∧ Below w.heap.size w w' := by
  go_enter Tryz.func20, Tryz.ntmps20
  go_wp2_with (go_at_call 29; refine (B.of _ hg).mono ?_; rintro e w1 ⟨rfl, rfl⟩)
  refine (hC _).mono ?_
  rintro e w2 ⟨rfl, hB⟩
  go_wp2
  go_ret
  exact ⟨rfl, hB⟩

def anyV (_ : Bytes) : Prop := True
def intV (l : Bytes) : Prop := intOk l = true ∧ l.length ≤ 1073741824

theorem byte_kind {G : World → Prop} {n : Int} {T F : Nat} {nf : Bytes → Option Bytes} (B : NKindG G n T F nf)
    (hm : ∀ (k : Nat) (w : World), (method (k + 1) T (.agg #[]) "roster/match.ordered").run Tryz.prog w = .ok (219, .agg #[]) w)
    (hc : ∀ (k : Nat) (w : World), (method (k + 1) T (.agg #[]) "roster/match.compare").run Tryz.prog w = .ok (218, .agg #[]) w) :
    OKind G n T F nf anyV Lib.compareBytes :=
  ⟨B, fun _ _ _ _ => trivial, cb_ord _, fun w hg => ord_of B hm (enters_of Tryz.func219 (by kernel_rfl) rfl) bord_calls w hg,
    fun a b w _ _ hg => comp_of B hc (enters_of Tryz.func218 (by kernel_rfl) rfl) (fun w => (bcmp_calls ⟨a.toArray⟩ ⟨b.toArray⟩ w).mono fun _ _ ⟨h1, h2⟩ => ⟨by rw [h1], h2⟩) w hg⟩

theorem o_text {it : Int → Bytes} {G : World → Prop} (H : Has it G) : OKind G 1 263 228 nText anyV Lib.compareBytes := byte_kind (k_text.gen H) (fun _ _ => by kernel_rfl) (fun _ _ => by kernel_rfl)
theorem o_exact {it : Int → Bytes} {G : World → Prop} (H : Has it G) : OKind G 2 261 220 nExact anyV Lib.compareBytes := byte_kind (k_exact.gen H) (fun _ _ => by kernel_rfl) (fun _ _ => by kernel_rfl)
theorem o_num {it : Int → Bytes} {G : World → Prop} (H : Has it G) : OKind G 5 269 237 nNum anyV Lib.compareBytes := byte_kind (k_num.gen H) (fun _ _ => by kernel_rfl) (fun _ _ => by kernel_rfl)
theorem o_octet {it : Int → Bytes} {G : World → Prop} (H : Has it G) : OKind G 9 272 249 nOctet anyV Lib.compareBytes := byte_kind (k_octet.gen H) (fun _ _ => by kernel_rfl) (fun _ _ => by kernel_rfl)
theorem o_time {it : Int → Bytes} {G : World → Prop} (H : Has it G) : OKind G 12 275 255 (timeN it) anyV Lib.compareBytes := byte_kind (k_time H) (fun _ _ => by kernel_rfl) (fun _ _ => by kernel_rfl)
theorem int_val (l m : Bytes) (hl : l.length ≤ 1073741824) (h : nInt l = some m) : intV m := by
  unfold nInt at h
  split at h
  · rename_i hi; obtain rfl := Option.some.inj h; exact ⟨hi, hl⟩
  · cases h
theorem o_int {it : Int → Bytes} {G : World → Prop} (H : Has it G) : OKind G 7 78 49 nInt intV cmpI :=
  ⟨k_int.gen H, int_val, ci_ord _,
    fun w hg => ord_of (k_int.gen H) (fun _ _ => by kernel_rfl) (enters_of Tryz.func206 (by kernel_rfl) rfl) iord_calls w hg,
    fun a b w ha hb hg => comp_of (k_int.gen H) (fun _ _ => by kernel_rfl) (enters_of Tryz.func205 (by kernel_rfl) rfl) (fun w => (icmp_calls ⟨a.toArray⟩ ⟨b.toArray⟩ w ha.1 hb.1 (by rw [mk_size]; exact ha.2) (by rw [mk_size]; exact hb.2)).mono fun _ _ ⟨h1, h2⟩ => ⟨by rw [h1], h2⟩) w hg⟩

theorem six_ords {it : Int → Bytes} {G : World → Prop} (H : Has it G) : ∀ s ∈ ([1, 2, 5, 7, 9, 12] : List Int), ∃ T F nf V cmp, OKind G s T F nf V cmp := by
  intro s hs
  have h : s = 1 ∨ s = 2 ∨ s = 5 ∨ s = 7 ∨ s = 9 ∨ s = 12 := by simpa using hs
  rcases h with rfl | rfl | rfl | rfl | rfl | rfl
  · exact ⟨_, _, _, _, _, o_text H⟩
  · exact ⟨_, _, _, _, _, o_exact H⟩
  · exact ⟨_, _, _, _, _, o_num H⟩
  · exact ⟨_, _, _, _, _, o_int H⟩
  · exact ⟨_, _, _, _, _, o_octet H⟩
  · exact ⟨_, _, _, _, _, o_time H⟩

end Go.Proofs.YthopanlkjdcgmaaGreatDoor.W

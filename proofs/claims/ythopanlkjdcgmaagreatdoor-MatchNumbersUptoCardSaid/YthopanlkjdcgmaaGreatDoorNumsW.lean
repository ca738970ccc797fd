/- The walk of the law MatchNumbers. -/
import Derived.Test.YthopanlkjdcgmaaGreatDoorAt
import Derived.Test.YthopanlkjdcgmaaGreatDoorNumsL
import Derived.Lib.LaidTab
namespace Go.Proofs.YthopanlkjdcgmaaGreatDoor.W
open Go.RowKit Go.Proofs.YthopanlkjdcgmaaGreatDoor.Plain

theorem truthC (b : Bool) (r : Int) (w : World) (hr : (if b then 2 else 0) = r) : Calls Tryz.prog 8 #[.bool b] w fun e w' => e = .returned (.int .i64 r) ∧ w = w' := by
  subst hr
  cases b
  all_goals
    go_enter Tryz.func8, Tryz.ntmps8
    go_wp2
    go_ret
    exact ⟨rfl, rfl⟩

/-- the table of powers of ten, from world to world -/
def PowAt (w : World) : Prop := Lib.TabIs Tryz.prog w "internal/strconv.uint64pow10" .u64 Lib.pow10Tab
theorem itoa_calls (n : Int) (h0 : -9223372036854775808 ≤ n) (h1 : n ≤ 9223372036854775807) (w : World) (hp : PowAt w) :
    Calls Tryz.prog 6 #[.int .i64 n] w fun e w' => e = .returned (.string ⟨(Lib.itoa n).toArray⟩) ∧ Below w.heap.size w w' := by
  refine (Tryz.strconv_Itoa n h0 h1 w hp).mono ?_
  rintro e w' ⟨rfl, k, os, rfl⟩
  exact ⟨rfl, Lib.below_grow _ w (Nat.le_refl _) k os⟩

set_option maxRecDepth 100000 in
set_option maxHeartbeats 1000000 in
/-- ByRule of bits, both numbers read -/
theorem byrule_both {G : World → Prop} {r : Int} {Q T F : Nat} {nf : Bytes → Option Bytes} (R : RuleK r 7 2 Q) (K : NKindG G 7 T F nf) (v a : ByteArray) (t : Bool)
    (hb : ∀ w, G w → Calls Tryz.prog 34 #[.string a] w fun e w' => (∃ v : Int, e = .returned (.tuple #[.int .i64 v, .bool true])) ∧ Below w.heap.size w w')
    (hc : ∀ w, G w → Calls Tryz.prog 34 #[.string v] w fun e w' => (∃ v : Int, e = .returned (.tuple #[.int .i64 v, .bool true])) ∧ Below w.heap.size w w')
    (hQ : ∀ w, G w → Calls Tryz.prog Q #[.int .i64 7, .string v, .string a] w fun e w' => e = .returned (.bool t) ∧ Below w.heap.size w w') (w : World) (ha : a.size ≤ 1073741824) (hg : G w) :
    Calls Tryz.prog 11 #[.int .i64 r, .int .i64 7, .string v, .string a] w fun e w' => e = .returned (.int .i64 (if t then 2 else 0)) ∧ Below w.heap.size w w' := by
  have he := R.enter
  have hf2 := field_syn
  have hf3 := field_ask
  cases t
  all_goals
    go_enter Tryz.func11, Tryz.ntmps11
    go_wp2_with fail
    refine (suits_any R _).mono ?_
    rintro e w0 ⟨rfl, hB0⟩
    go_wp2_with fail
    refine (asserts_bits R K a true hb _ ha (K.keep _ _ hg hB0)).mono ?_
    rintro e w1 ⟨rfl, hB1⟩
    replace hB1 := hB0.trans (hB1.mono hB0.size)
    go_wp2_with fail
    refine (reads_bits R v true hc _ (K.keep _ _ hg hB1)).mono ?_
    rintro e w2 ⟨rfl, hB2⟩
    replace hB2 := hB1.trans (hB2.mono hB1.size)
    go_wp2_with fail
    refine (R.rows _).mono ?_
    rintro e w3 ⟨⟨nm, id, rfl⟩, hB3⟩
    replace hB2 := hB2.trans (hB3.mono hB2.size)
    clear hB3
    go_wp2_with fail
    refine (R.rows _).mono ?_
    rintro e w3 ⟨⟨nm2, id2, rfl⟩, hB3⟩
    replace hB2 := hB2.trans (hB3.mono hB2.size)
    clear hB3
    go_wp2_with fail
    refine (hQ _ (K.keep _ _ hg hB2)).mono ?_
    rintro e w4 ⟨rfl, hB4⟩
    replace hB4 := hB2.trans (hB4.mono hB2.size)
    go_wp2
    go_ret
    exact ⟨rfl, hB4⟩

/-- a number's own text is read as that number -/
theorem bits_itoa (x : Int) (h0 : -9223372036854775808 ≤ x) (h1 : x ≤ 9223372036854775807) (w : World) :
    Calls Tryz.prog 34 #[.string ⟨(Lib.itoa x).toArray⟩] w fun e w' => e = .returned (.tuple #[.int .i64 x, .bool true]) ∧ Below w.heap.size w w' :=
  bits_ok ⟨(Lib.itoa x).toArray⟩ x w (by rw [mk_size]; have := Lib.itoa_length_le x h0 h1; omega) (by rw [mk_data]; exact itoa_value x) (by rw [mk_data]; exact parse_itoa x h0 h1)

theorem all_asks (x y : Int) (h0 : -9223372036854775808 ≤ x) (h1 : x ≤ 9223372036854775807) (h2 : -9223372036854775808 ≤ y) (h3 : y ≤ 9223372036854775807) (p : Bool) (hp : (Go.bits .and .i64 x y == y) = p) (w : World) :
    Calls Tryz.prog 40 #[.int .i64 7, .string ⟨(Lib.itoa x).toArray⟩, .string ⟨(Lib.itoa y).toArray⟩] w fun e w' => e = .returned (.bool p) ∧ Below w.heap.size w w' := by
  cases p
  all_goals
    go_enter Tryz.func40, Tryz.ntmps40
    go_wp2_with fail
    refine (bits_itoa x h0 h1 _).mono ?_
    rintro e w1 ⟨rfl, hB1⟩
    go_wp2_with fail
    refine (bits_itoa y h2 h3 _).mono ?_
    rintro e w2 ⟨rfl, hB2⟩
    replace hB2 := hB1.trans (hB2.mono hB1.size)
    go_wp2
    go_ret
    exact ⟨rfl, hB2⟩
theorem one_asks (x y : Int) (h0 : -9223372036854775808 ≤ x) (h1 : x ≤ 9223372036854775807) (h2 : -9223372036854775808 ≤ y) (h3 : y ≤ 9223372036854775807) (p : Bool) (hp : (Go.bits .and .i64 x y != 0) = p) (w : World) :
    Calls Tryz.prog 41 #[.int .i64 7, .string ⟨(Lib.itoa x).toArray⟩, .string ⟨(Lib.itoa y).toArray⟩] w fun e w' => e = .returned (.bool p) ∧ Below w.heap.size w w' := by
  cases p
  all_goals
    go_enter Tryz.func41, Tryz.ntmps41
    go_wp2_with fail
    refine (bits_itoa x h0 h1 _).mono ?_
    rintro e w1 ⟨rfl, hB1⟩
    go_wp2_with fail
    refine (bits_itoa y h2 h3 _).mono ?_
    rintro e w2 ⟨rfl, hB2⟩
    replace hB2 := hB1.trans (hB2.mono hB1.size)
    go_wp2
    go_ret
    exact ⟨rfl, hB2⟩

theorem ruleAt {G : World → Prop} {r s kd : Int} {Q T F : Nat} {nf : Bytes → Option Bytes} {t : Bytes → Bytes → Bool} (R : RuleK r s kd Q) (hkd : kd = 0 ∨ kd = 1) (K : NKindG G s T F nf) (v a : ByteArray) (lv la : Bytes) (x : Int) (hlv : v.data.toList = lv) (hla : a.data.toList = la)
    (hQ : ∀ nv na w, nf v.data.toList = some nv → nf a.data.toList = some na → G w → Calls Tryz.prog Q #[.int .i64 s, .string v, .string a] w fun e w' => e = .returned (.bool (t nv na)) ∧ Below w.heap.size w w')
    (w : World) (hr : ruleT t (nf lv) (nf la) = x) (hv : lv.length ≤ 1073741824) (ha : la.length ≤ 1073741824) (hg : G w) :
    Calls Tryz.prog 11 #[.int .i64 r, .int .i64 s, .string v, .string a] w fun e w' => e = .returned (.int .i64 x) ∧ Below w.heap.size w w' := by
  subst hlv hla hr; exact byrule_plain R hkd K v a hQ w (by rw [← len_eq]; exact hv) (by rw [← len_eq]; exact ha) hg

set_option maxRecDepth 100000 in
set_option maxHeartbeats 8000000 in
theorem nums_walk (T : Nat → Int) (x y : Int) (h0 : -9223372036854775808 ≤ x) (h1 : x ≤ 9223372036854775807) (h2 : -9223372036854775808 ≤ y) (h3 : y ≤ 9223372036854775807) (w : World) (hg : GR T w) (hpw : ∀ w', Below w.heap.size w w' → PowAt w') :
    Calls Tryz.prog 3 #[.int .i64 x, .int .i64 y] w fun e w' => e = .returned (.bool true) ∧ Below w.heap.size w w' := by
  have H := has_itR T
  have K := o_int H
  have HPW := Lib.hid hpw
  clear hpw
  have HA : Hid (nInt (Lib.itoa x) = some (Lib.itoa x)) := Lib.hid (itoa_value x)
  have HB : Hid (nInt (Lib.itoa y) = some (Lib.itoa y)) := Lib.hid (itoa_value y)
  have lx := Lib.itoa_length_le x h0 h1
  have ly := Lib.itoa_length_le y h2 h3
  have ORD : Hid (cmpI (Lib.itoa x) (Lib.itoa y) = sgn x y) := Lib.hid (itoa_order x y)
  have EQI : Hid (Lib.itoa x = Lib.itoa y ↔ x = y) := Lib.hid ⟨fun e => by
    have h := itoa_order x y
    rw [e, (ci_eq _ _).2 rfl] at h
    unfold sgn at h
    split at h
    · exact absurd h (by decide)
    · split at h
      · exact absurd h (by decide)
      · omega, fun e => by rw [e]⟩
  have BX : Hid (∀ w, GR T w → Calls Tryz.prog 34 #[.string ⟨(Lib.itoa x).toArray⟩] w fun e w' => (∃ v : Int, e = .returned (.tuple #[.int .i64 v, .bool true])) ∧ Below w.heap.size w w') := Lib.hid fun w _ => (bits_itoa x h0 h1 w).mono fun _ _ ⟨a, b⟩ => ⟨⟨_, a⟩, b⟩
  have BY : Hid (∀ w, GR T w → Calls Tryz.prog 34 #[.string ⟨(Lib.itoa y).toArray⟩] w fun e w' => (∃ v : Int, e = .returned (.tuple #[.int .i64 v, .bool true])) ∧ Below w.heap.size w w') := Lib.hid fun w _ => (bits_itoa y h2 h3 w).mono fun _ _ ⟨a, b⟩ => ⟨⟨_, a⟩, b⟩
  obtain ⟨p, hp⟩ : ∃ p, (Go.bits .and .i64 x y == y) = p := ⟨_, rfl⟩
  obtain ⟨o, ho⟩ : ∃ o, (Go.bits .and .i64 x y != 0) = o := ⟨_, rfl⟩
  have HP := Lib.hid hp
  have HO := Lib.hid ho
  have hcase : (¬ x = y ∧ (x == y) = false ∧ decide (y ≤ x) = false ∧ decide (x ≤ y) = true ∧ decide (x < y) = true ∧ sgn x y = -1) ∨ (x = y ∧ sgn x y = 0) ∨ (¬ x = y ∧ (x == y) = false ∧ decide (y ≤ x) = true ∧ decide (x ≤ y) = false ∧ decide (x < y) = false ∧ sgn x y = 1) := by
    unfold sgn
    rcases Int.lt_trichotomy x y with h | h | h
    · exact .inl ⟨by omega, beq_eq_false_iff_ne.2 (by omega), decide_eq_false (by omega), decide_eq_true (by omega), decide_eq_true h, if_pos h⟩
    · exact .inr (.inl ⟨h, by rw [if_neg (by omega), if_neg (by omega)]⟩)
    · exact .inr (.inr ⟨by omega, beq_eq_false_iff_ne.2 (by omega), decide_eq_true (by omega), decide_eq_false (by omega), decide_eq_false (by omega), by rw [if_neg (by omega), if_pos h]⟩)
  have hB0 := Below.refl w.heap.size w
  go_enter Tryz.func3, Tryz.ntmps3
  go_wp2_with fail
  refine (itoa_calls x h0 h1 _ (HPW.out _ hB0)).mono ?_
  rintro e u1 ⟨rfl, hU1⟩
  go_wp2_with fail
  refine (itoa_calls y h2 h3 _ (HPW.out _ hU1)).mono ?_
  rintro e u2 ⟨rfl, hU2⟩
  replace hU2 := hU1.trans (hU2.mono hU1.size)
  rcases hcase with ⟨c0, d1, d2, d3, d4, d6⟩ | ⟨c0, d6⟩ | ⟨c0, d1, d2, d3, d4, d6⟩
  · have CS := Lib.hid d6
    clear d6
    have C0 := Lib.hid c0
    clear c0
    go_wp2_with fail
    refine (eqAt K.base ⟨(Lib.itoa x).toArray⟩ ⟨(Lib.itoa y).toArray⟩ (Lib.itoa x) (Lib.itoa y) _ _ 0 _ (mk_data _) (mk_data _) HA.out HB.out (by rw [eqT_some, if_neg (fun e => C0.out (EQI.out.1 e))]) (by omega) (by omega) (H.keep _ _ hg hU2)).mono ?_
    rintro e v1 ⟨rfl, hV1⟩
    replace hV1 := hU2.trans (hV1.mono hU2.size)
    go_wp2_with fail
    refine (truthC false 0 _ rfl).mono ?_
    rintro e v2 ⟨rfl, rfl⟩
    go_wp2_with fail
    refine (leastAt K ⟨(Lib.itoa x).toArray⟩ ⟨(Lib.itoa y).toArray⟩ (Lib.itoa x) (Lib.itoa y) _ _ 0 _ (mk_data _) (mk_data _) HA.out HB.out (by rw [geT (ORD.out.trans CS.out)]; rfl) (by omega) (by omega) (H.keep _ _ hg hV1)).mono ?_
    rintro e v3 ⟨rfl, hV3⟩
    replace hV3 := hV1.trans (hV3.mono hV1.size)
    go_wp2_with fail
    refine (truthC false 0 _ rfl).mono ?_
    rintro e v4 ⟨rfl, rfl⟩
    go_wp2_with fail
    refine (mostAt K ⟨(Lib.itoa x).toArray⟩ ⟨(Lib.itoa y).toArray⟩ (Lib.itoa x) (Lib.itoa y) _ _ 2 _ (mk_data _) (mk_data _) HA.out HB.out (by rw [leT (ORD.out.trans CS.out)]; rfl) (by omega) (by omega) (H.keep _ _ hg hV3)).mono ?_
    rintro e v5 ⟨rfl, hV5⟩
    replace hV5 := hV3.trans (hV5.mono hV3.size)
    go_wp2_with fail
    refine (truthC true 2 _ rfl).mono ?_
    rintro e v6 ⟨rfl, rfl⟩
    go_wp2_with fail
    refine (ruleAt rule_iord (.inl rfl) K.base ⟨(Lib.itoa x).toArray⟩ ⟨(Lib.itoa y).toArray⟩ (Lib.itoa x) (Lib.itoa y) 2 (mk_data _) (mk_data _) (fun nv na w h1 h2 hg => ahead_asks K _ _ (by rw [mk_size]; omega) (by rw [mk_size]; omega) nv na w h1 h2 hg) _ (by rw [HA.out, HB.out]; show (if ltZ (cmpI (Lib.itoa x) (Lib.itoa y)) then (2 : Int) else 0) = _; rw [ORD.out, CS.out]; rfl) (by omega) (by omega) (H.keep _ _ hg hV5)).mono ?_
    rintro e v7 ⟨rfl, hV7⟩
    replace hV7 := hV5.trans (hV7.mono hV5.size)
    go_wp2_with fail
    refine (truthC true 2 _ rfl).mono ?_
    rintro e v8 ⟨rfl, rfl⟩
    go_wp2_with fail
    refine (ruleAt rule_int (.inr rfl) K.base ⟨(Lib.itoa x).toArray⟩ ⟨(Lib.itoa y).toArray⟩ (Lib.itoa x) (Lib.itoa y) 0 (mk_data _) (mk_data _) (fun nv na w h1 h2 hg => eq_asks K.base _ _ (by rw [mk_size]; omega) (by rw [mk_size]; omega) nv na w h1 h2 hg) _ (by rw [HA.out, HB.out]; show (if decide (Lib.itoa x = Lib.itoa y) then (2 : Int) else 0) = _; rw [decide_eq_false (fun e => C0.out (EQI.out.1 e))]; rfl) (by omega) (by omega) (H.keep _ _ hg hV7)).mono ?_
    rintro e v9 ⟨rfl, hV9⟩
    replace hV9 := hV7.trans (hV9.mono hV7.size)
    go_wp2_with fail
    refine (truthC false 0 _ rfl).mono ?_
    rintro e v10 ⟨rfl, rfl⟩
    cases p <;> cases o
    · go_wp2_with fail
      refine (byrule_both rule_and K.base ⟨(Lib.itoa x).toArray⟩ ⟨(Lib.itoa y).toArray⟩ false BY.out BX.out (fun w _ => all_asks x y h0 h1 h2 h3 _ hp w) _ (by rw [mk_size]; omega) (H.keep _ _ hg hV9)).mono ?_
      rintro e v11 ⟨rfl, hV11⟩
      replace hV11 := hV9.trans (hV11.mono hV9.size)
      go_wp2_with fail
      refine (truthC false 0 _ rfl).mono ?_
      rintro e v12 ⟨rfl, rfl⟩
      go_wp2_with fail
      refine (byrule_both rule_or K.base ⟨(Lib.itoa x).toArray⟩ ⟨(Lib.itoa y).toArray⟩ false BY.out BX.out (fun w _ => one_asks x y h0 h1 h2 h3 _ ho w) _ (by rw [mk_size]; omega) (H.keep _ _ hg hV11)).mono ?_
      rintro e v13 ⟨rfl, hV13⟩
      replace hV13 := hV11.trans (hV13.mono hV11.size)
      go_wp2_with fail
      refine (truthC false 0 _ rfl).mono ?_
      rintro e v14 ⟨rfl, rfl⟩
      go_wp2
      go_ret
      exact ⟨rfl, hV13⟩
    · go_wp2_with fail
      refine (byrule_both rule_and K.base ⟨(Lib.itoa x).toArray⟩ ⟨(Lib.itoa y).toArray⟩ false BY.out BX.out (fun w _ => all_asks x y h0 h1 h2 h3 _ hp w) _ (by rw [mk_size]; omega) (H.keep _ _ hg hV9)).mono ?_
      rintro e v11 ⟨rfl, hV11⟩
      replace hV11 := hV9.trans (hV11.mono hV9.size)
      go_wp2_with fail
      refine (truthC false 0 _ rfl).mono ?_
      rintro e v12 ⟨rfl, rfl⟩
      go_wp2_with fail
      refine (byrule_both rule_or K.base ⟨(Lib.itoa x).toArray⟩ ⟨(Lib.itoa y).toArray⟩ true BY.out BX.out (fun w _ => one_asks x y h0 h1 h2 h3 _ ho w) _ (by rw [mk_size]; omega) (H.keep _ _ hg hV11)).mono ?_
      rintro e v13 ⟨rfl, hV13⟩
      replace hV13 := hV11.trans (hV13.mono hV11.size)
      go_wp2_with fail
      refine (truthC true 2 _ rfl).mono ?_
      rintro e v14 ⟨rfl, rfl⟩
      go_wp2
      go_ret
      exact ⟨rfl, hV13⟩
    · go_wp2_with fail
      refine (byrule_both rule_and K.base ⟨(Lib.itoa x).toArray⟩ ⟨(Lib.itoa y).toArray⟩ true BY.out BX.out (fun w _ => all_asks x y h0 h1 h2 h3 _ hp w) _ (by rw [mk_size]; omega) (H.keep _ _ hg hV9)).mono ?_
      rintro e v11 ⟨rfl, hV11⟩
      replace hV11 := hV9.trans (hV11.mono hV9.size)
      go_wp2_with fail
      refine (truthC true 2 _ rfl).mono ?_
      rintro e v12 ⟨rfl, rfl⟩
      go_wp2_with fail
      refine (byrule_both rule_or K.base ⟨(Lib.itoa x).toArray⟩ ⟨(Lib.itoa y).toArray⟩ false BY.out BX.out (fun w _ => one_asks x y h0 h1 h2 h3 _ ho w) _ (by rw [mk_size]; omega) (H.keep _ _ hg hV11)).mono ?_
      rintro e v13 ⟨rfl, hV13⟩
      replace hV13 := hV11.trans (hV13.mono hV11.size)
      go_wp2_with fail
      refine (truthC false 0 _ rfl).mono ?_
      rintro e v14 ⟨rfl, rfl⟩
      go_wp2
      go_ret
      exact ⟨rfl, hV13⟩
    · go_wp2_with fail
      refine (byrule_both rule_and K.base ⟨(Lib.itoa x).toArray⟩ ⟨(Lib.itoa y).toArray⟩ true BY.out BX.out (fun w _ => all_asks x y h0 h1 h2 h3 _ hp w) _ (by rw [mk_size]; omega) (H.keep _ _ hg hV9)).mono ?_
      rintro e v11 ⟨rfl, hV11⟩
      replace hV11 := hV9.trans (hV11.mono hV9.size)
      go_wp2_with fail
      refine (truthC true 2 _ rfl).mono ?_
      rintro e v12 ⟨rfl, rfl⟩
      go_wp2_with fail
      refine (byrule_both rule_or K.base ⟨(Lib.itoa x).toArray⟩ ⟨(Lib.itoa y).toArray⟩ true BY.out BX.out (fun w _ => one_asks x y h0 h1 h2 h3 _ ho w) _ (by rw [mk_size]; omega) (H.keep _ _ hg hV11)).mono ?_
      rintro e v13 ⟨rfl, hV13⟩
      replace hV13 := hV11.trans (hV13.mono hV11.size)
      go_wp2_with fail
      refine (truthC true 2 _ rfl).mono ?_
      rintro e v14 ⟨rfl, rfl⟩
      go_wp2
      go_ret
      exact ⟨rfl, hV13⟩
  · have CS := Lib.hid d6
    clear d6
    subst c0
    go_wp2_with fail
    refine (eqAt K.base ⟨(Lib.itoa x).toArray⟩ ⟨(Lib.itoa x).toArray⟩ (Lib.itoa x) (Lib.itoa x) _ _ 2 _ (mk_data _) (mk_data _) HA.out HA.out (by rw [eqT_some, if_pos rfl]) (by omega) (by omega) (H.keep _ _ hg hU2)).mono ?_
    rintro e v1 ⟨rfl, hV1⟩
    replace hV1 := hU2.trans (hV1.mono hU2.size)
    go_wp2_with fail
    refine (truthC true 2 _ rfl).mono ?_
    rintro e v2 ⟨rfl, rfl⟩
    go_wp2_with fail
    refine (leastAt K ⟨(Lib.itoa x).toArray⟩ ⟨(Lib.itoa x).toArray⟩ (Lib.itoa x) (Lib.itoa x) _ _ 2 _ (mk_data _) (mk_data _) HA.out HA.out (by rw [geT (ORD.out.trans CS.out)]; rfl) (by omega) (by omega) (H.keep _ _ hg hV1)).mono ?_
    rintro e v3 ⟨rfl, hV3⟩
    replace hV3 := hV1.trans (hV3.mono hV1.size)
    go_wp2_with fail
    refine (truthC true 2 _ rfl).mono ?_
    rintro e v4 ⟨rfl, rfl⟩
    go_wp2_with fail
    refine (mostAt K ⟨(Lib.itoa x).toArray⟩ ⟨(Lib.itoa x).toArray⟩ (Lib.itoa x) (Lib.itoa x) _ _ 2 _ (mk_data _) (mk_data _) HA.out HA.out (by rw [leT (ORD.out.trans CS.out)]; rfl) (by omega) (by omega) (H.keep _ _ hg hV3)).mono ?_
    rintro e v5 ⟨rfl, hV5⟩
    replace hV5 := hV3.trans (hV5.mono hV3.size)
    go_wp2_with fail
    refine (truthC true 2 _ rfl).mono ?_
    rintro e v6 ⟨rfl, rfl⟩
    go_wp2_with fail
    refine (ruleAt rule_iord (.inl rfl) K.base ⟨(Lib.itoa x).toArray⟩ ⟨(Lib.itoa x).toArray⟩ (Lib.itoa x) (Lib.itoa x) 0 (mk_data _) (mk_data _) (fun nv na w h1 h2 hg => ahead_asks K _ _ (by rw [mk_size]; omega) (by rw [mk_size]; omega) nv na w h1 h2 hg) _ (by rw [HA.out]; show (if ltZ (cmpI (Lib.itoa x) (Lib.itoa x)) then (2 : Int) else 0) = _; rw [ORD.out, CS.out]; rfl) (by omega) (by omega) (H.keep _ _ hg hV5)).mono ?_
    rintro e v7 ⟨rfl, hV7⟩
    replace hV7 := hV5.trans (hV7.mono hV5.size)
    go_wp2_with fail
    refine (truthC false 0 _ rfl).mono ?_
    rintro e v8 ⟨rfl, rfl⟩
    go_wp2_with fail
    refine (ruleAt rule_int (.inr rfl) K.base ⟨(Lib.itoa x).toArray⟩ ⟨(Lib.itoa x).toArray⟩ (Lib.itoa x) (Lib.itoa x) 2 (mk_data _) (mk_data _) (fun nv na w h1 h2 hg => eq_asks K.base _ _ (by rw [mk_size]; omega) (by rw [mk_size]; omega) nv na w h1 h2 hg) _ (by rw [HA.out]; show (if decide (Lib.itoa x = Lib.itoa x) then (2 : Int) else 0) = _; rw [decide_eq_true rfl]; rfl) (by omega) (by omega) (H.keep _ _ hg hV7)).mono ?_
    rintro e v9 ⟨rfl, hV9⟩
    replace hV9 := hV7.trans (hV9.mono hV7.size)
    go_wp2_with fail
    refine (truthC true 2 _ rfl).mono ?_
    rintro e v10 ⟨rfl, rfl⟩
    cases p <;> cases o
    · go_wp2_with fail
      refine (byrule_both rule_and K.base ⟨(Lib.itoa x).toArray⟩ ⟨(Lib.itoa x).toArray⟩ false BY.out BX.out (fun w _ => all_asks x x h0 h1 h2 h3 _ hp w) _ (by rw [mk_size]; omega) (H.keep _ _ hg hV9)).mono ?_
      rintro e v11 ⟨rfl, hV11⟩
      replace hV11 := hV9.trans (hV11.mono hV9.size)
      go_wp2_with fail
      refine (truthC false 0 _ rfl).mono ?_
      rintro e v12 ⟨rfl, rfl⟩
      go_wp2_with fail
      refine (byrule_both rule_or K.base ⟨(Lib.itoa x).toArray⟩ ⟨(Lib.itoa x).toArray⟩ false BY.out BX.out (fun w _ => one_asks x x h0 h1 h2 h3 _ ho w) _ (by rw [mk_size]; omega) (H.keep _ _ hg hV11)).mono ?_
      rintro e v13 ⟨rfl, hV13⟩
      replace hV13 := hV11.trans (hV13.mono hV11.size)
      go_wp2_with fail
      refine (truthC false 0 _ rfl).mono ?_
      rintro e v14 ⟨rfl, rfl⟩
      go_wp2
      go_ret
      exact ⟨rfl, hV13⟩
    · go_wp2_with fail
      refine (byrule_both rule_and K.base ⟨(Lib.itoa x).toArray⟩ ⟨(Lib.itoa x).toArray⟩ false BY.out BX.out (fun w _ => all_asks x x h0 h1 h2 h3 _ hp w) _ (by rw [mk_size]; omega) (H.keep _ _ hg hV9)).mono ?_
      rintro e v11 ⟨rfl, hV11⟩
      replace hV11 := hV9.trans (hV11.mono hV9.size)
      go_wp2_with fail
      refine (truthC false 0 _ rfl).mono ?_
      rintro e v12 ⟨rfl, rfl⟩
      go_wp2_with fail
      refine (byrule_both rule_or K.base ⟨(Lib.itoa x).toArray⟩ ⟨(Lib.itoa x).toArray⟩ true BY.out BX.out (fun w _ => one_asks x x h0 h1 h2 h3 _ ho w) _ (by rw [mk_size]; omega) (H.keep _ _ hg hV11)).mono ?_
      rintro e v13 ⟨rfl, hV13⟩
      replace hV13 := hV11.trans (hV13.mono hV11.size)
      go_wp2_with fail
      refine (truthC true 2 _ rfl).mono ?_
      rintro e v14 ⟨rfl, rfl⟩
      go_wp2
      go_ret
      exact ⟨rfl, hV13⟩
    · go_wp2_with fail
      refine (byrule_both rule_and K.base ⟨(Lib.itoa x).toArray⟩ ⟨(Lib.itoa x).toArray⟩ true BY.out BX.out (fun w _ => all_asks x x h0 h1 h2 h3 _ hp w) _ (by rw [mk_size]; omega) (H.keep _ _ hg hV9)).mono ?_
      rintro e v11 ⟨rfl, hV11⟩
      replace hV11 := hV9.trans (hV11.mono hV9.size)
      go_wp2_with fail
      refine (truthC true 2 _ rfl).mono ?_
      rintro e v12 ⟨rfl, rfl⟩
      go_wp2_with fail
      refine (byrule_both rule_or K.base ⟨(Lib.itoa x).toArray⟩ ⟨(Lib.itoa x).toArray⟩ false BY.out BX.out (fun w _ => one_asks x x h0 h1 h2 h3 _ ho w) _ (by rw [mk_size]; omega) (H.keep _ _ hg hV11)).mono ?_
      rintro e v13 ⟨rfl, hV13⟩
      replace hV13 := hV11.trans (hV13.mono hV11.size)
      go_wp2_with fail
      refine (truthC false 0 _ rfl).mono ?_
      rintro e v14 ⟨rfl, rfl⟩
      go_wp2
      go_ret
      exact ⟨rfl, hV13⟩
    · go_wp2_with fail
      refine (byrule_both rule_and K.base ⟨(Lib.itoa x).toArray⟩ ⟨(Lib.itoa x).toArray⟩ true BY.out BX.out (fun w _ => all_asks x x h0 h1 h2 h3 _ hp w) _ (by rw [mk_size]; omega) (H.keep _ _ hg hV9)).mono ?_
      rintro e v11 ⟨rfl, hV11⟩
      replace hV11 := hV9.trans (hV11.mono hV9.size)
      go_wp2_with fail
      refine (truthC true 2 _ rfl).mono ?_
      rintro e v12 ⟨rfl, rfl⟩
      go_wp2_with fail
      refine (byrule_both rule_or K.base ⟨(Lib.itoa x).toArray⟩ ⟨(Lib.itoa x).toArray⟩ true BY.out BX.out (fun w _ => one_asks x x h0 h1 h2 h3 _ ho w) _ (by rw [mk_size]; omega) (H.keep _ _ hg hV11)).mono ?_
      rintro e v13 ⟨rfl, hV13⟩
      replace hV13 := hV11.trans (hV13.mono hV11.size)
      go_wp2_with fail
      refine (truthC true 2 _ rfl).mono ?_
      rintro e v14 ⟨rfl, rfl⟩
      go_wp2
      go_ret
      exact ⟨rfl, hV13⟩
  · have CS := Lib.hid d6
    clear d6
    have C0 := Lib.hid c0
    clear c0
    go_wp2_with fail
    refine (eqAt K.base ⟨(Lib.itoa x).toArray⟩ ⟨(Lib.itoa y).toArray⟩ (Lib.itoa x) (Lib.itoa y) _ _ 0 _ (mk_data _) (mk_data _) HA.out HB.out (by rw [eqT_some, if_neg (fun e => C0.out (EQI.out.1 e))]) (by omega) (by omega) (H.keep _ _ hg hU2)).mono ?_
    rintro e v1 ⟨rfl, hV1⟩
    replace hV1 := hU2.trans (hV1.mono hU2.size)
    go_wp2_with fail
    refine (truthC false 0 _ rfl).mono ?_
    rintro e v2 ⟨rfl, rfl⟩
    go_wp2_with fail
    refine (leastAt K ⟨(Lib.itoa x).toArray⟩ ⟨(Lib.itoa y).toArray⟩ (Lib.itoa x) (Lib.itoa y) _ _ 2 _ (mk_data _) (mk_data _) HA.out HB.out (by rw [geT (ORD.out.trans CS.out)]; rfl) (by omega) (by omega) (H.keep _ _ hg hV1)).mono ?_
    rintro e v3 ⟨rfl, hV3⟩
    replace hV3 := hV1.trans (hV3.mono hV1.size)
    go_wp2_with fail
    refine (truthC true 2 _ rfl).mono ?_
    rintro e v4 ⟨rfl, rfl⟩
    go_wp2_with fail
    refine (mostAt K ⟨(Lib.itoa x).toArray⟩ ⟨(Lib.itoa y).toArray⟩ (Lib.itoa x) (Lib.itoa y) _ _ 0 _ (mk_data _) (mk_data _) HA.out HB.out (by rw [leT (ORD.out.trans CS.out)]; rfl) (by omega) (by omega) (H.keep _ _ hg hV3)).mono ?_
    rintro e v5 ⟨rfl, hV5⟩
    replace hV5 := hV3.trans (hV5.mono hV3.size)
    go_wp2_with fail
    refine (truthC false 0 _ rfl).mono ?_
    rintro e v6 ⟨rfl, rfl⟩
    go_wp2_with fail
    refine (ruleAt rule_iord (.inl rfl) K.base ⟨(Lib.itoa x).toArray⟩ ⟨(Lib.itoa y).toArray⟩ (Lib.itoa x) (Lib.itoa y) 0 (mk_data _) (mk_data _) (fun nv na w h1 h2 hg => ahead_asks K _ _ (by rw [mk_size]; omega) (by rw [mk_size]; omega) nv na w h1 h2 hg) _ (by rw [HA.out, HB.out]; show (if ltZ (cmpI (Lib.itoa x) (Lib.itoa y)) then (2 : Int) else 0) = _; rw [ORD.out, CS.out]; rfl) (by omega) (by omega) (H.keep _ _ hg hV5)).mono ?_
    rintro e v7 ⟨rfl, hV7⟩
    replace hV7 := hV5.trans (hV7.mono hV5.size)
    go_wp2_with fail
    refine (truthC false 0 _ rfl).mono ?_
    rintro e v8 ⟨rfl, rfl⟩
    go_wp2_with fail
    refine (ruleAt rule_int (.inr rfl) K.base ⟨(Lib.itoa x).toArray⟩ ⟨(Lib.itoa y).toArray⟩ (Lib.itoa x) (Lib.itoa y) 0 (mk_data _) (mk_data _) (fun nv na w h1 h2 hg => eq_asks K.base _ _ (by rw [mk_size]; omega) (by rw [mk_size]; omega) nv na w h1 h2 hg) _ (by rw [HA.out, HB.out]; show (if decide (Lib.itoa x = Lib.itoa y) then (2 : Int) else 0) = _; rw [decide_eq_false (fun e => C0.out (EQI.out.1 e))]; rfl) (by omega) (by omega) (H.keep _ _ hg hV7)).mono ?_
    rintro e v9 ⟨rfl, hV9⟩
    replace hV9 := hV7.trans (hV9.mono hV7.size)
    go_wp2_with fail
    refine (truthC false 0 _ rfl).mono ?_
    rintro e v10 ⟨rfl, rfl⟩
    cases p <;> cases o
    · go_wp2_with fail
      refine (byrule_both rule_and K.base ⟨(Lib.itoa x).toArray⟩ ⟨(Lib.itoa y).toArray⟩ false BY.out BX.out (fun w _ => all_asks x y h0 h1 h2 h3 _ hp w) _ (by rw [mk_size]; omega) (H.keep _ _ hg hV9)).mono ?_
      rintro e v11 ⟨rfl, hV11⟩
      replace hV11 := hV9.trans (hV11.mono hV9.size)
      go_wp2_with fail
      refine (truthC false 0 _ rfl).mono ?_
      rintro e v12 ⟨rfl, rfl⟩
      go_wp2_with fail
      refine (byrule_both rule_or K.base ⟨(Lib.itoa x).toArray⟩ ⟨(Lib.itoa y).toArray⟩ false BY.out BX.out (fun w _ => one_asks x y h0 h1 h2 h3 _ ho w) _ (by rw [mk_size]; omega) (H.keep _ _ hg hV11)).mono ?_
      rintro e v13 ⟨rfl, hV13⟩
      replace hV13 := hV11.trans (hV13.mono hV11.size)
      go_wp2_with fail
      refine (truthC false 0 _ rfl).mono ?_
      rintro e v14 ⟨rfl, rfl⟩
      go_wp2
      go_ret
      exact ⟨rfl, hV13⟩
    · go_wp2_with fail
      refine (byrule_both rule_and K.base ⟨(Lib.itoa x).toArray⟩ ⟨(Lib.itoa y).toArray⟩ false BY.out BX.out (fun w _ => all_asks x y h0 h1 h2 h3 _ hp w) _ (by rw [mk_size]; omega) (H.keep _ _ hg hV9)).mono ?_
      rintro e v11 ⟨rfl, hV11⟩
      replace hV11 := hV9.trans (hV11.mono hV9.size)
      go_wp2_with fail
      refine (truthC false 0 _ rfl).mono ?_
      rintro e v12 ⟨rfl, rfl⟩
      go_wp2_with fail
      refine (byrule_both rule_or K.base ⟨(Lib.itoa x).toArray⟩ ⟨(Lib.itoa y).toArray⟩ true BY.out BX.out (fun w _ => one_asks x y h0 h1 h2 h3 _ ho w) _ (by rw [mk_size]; omega) (H.keep _ _ hg hV11)).mono ?_
      rintro e v13 ⟨rfl, hV13⟩
      replace hV13 := hV11.trans (hV13.mono hV11.size)
      go_wp2_with fail
      refine (truthC true 2 _ rfl).mono ?_
      rintro e v14 ⟨rfl, rfl⟩
      go_wp2
      go_ret
      exact ⟨rfl, hV13⟩
    · go_wp2_with fail
      refine (byrule_both rule_and K.base ⟨(Lib.itoa x).toArray⟩ ⟨(Lib.itoa y).toArray⟩ true BY.out BX.out (fun w _ => all_asks x y h0 h1 h2 h3 _ hp w) _ (by rw [mk_size]; omega) (H.keep _ _ hg hV9)).mono ?_
      rintro e v11 ⟨rfl, hV11⟩
      replace hV11 := hV9.trans (hV11.mono hV9.size)
      go_wp2_with fail
      refine (truthC true 2 _ rfl).mono ?_
      rintro e v12 ⟨rfl, rfl⟩
      go_wp2_with fail
      refine (byrule_both rule_or K.base ⟨(Lib.itoa x).toArray⟩ ⟨(Lib.itoa y).toArray⟩ false BY.out BX.out (fun w _ => one_asks x y h0 h1 h2 h3 _ ho w) _ (by rw [mk_size]; omega) (H.keep _ _ hg hV11)).mono ?_
      rintro e v13 ⟨rfl, hV13⟩
      replace hV13 := hV11.trans (hV13.mono hV11.size)
      go_wp2_with fail
      refine (truthC false 0 _ rfl).mono ?_
      rintro e v14 ⟨rfl, rfl⟩
      go_wp2
      go_ret
      exact ⟨rfl, hV13⟩
    · go_wp2_with fail
      refine (byrule_both rule_and K.base ⟨(Lib.itoa x).toArray⟩ ⟨(Lib.itoa y).toArray⟩ true BY.out BX.out (fun w _ => all_asks x y h0 h1 h2 h3 _ hp w) _ (by rw [mk_size]; omega) (H.keep _ _ hg hV9)).mono ?_
      rintro e v11 ⟨rfl, hV11⟩
      replace hV11 := hV9.trans (hV11.mono hV9.size)
      go_wp2_with fail
      refine (truthC true 2 _ rfl).mono ?_
      rintro e v12 ⟨rfl, rfl⟩
      go_wp2_with fail
      refine (byrule_both rule_or K.base ⟨(Lib.itoa x).toArray⟩ ⟨(Lib.itoa y).toArray⟩ true BY.out BX.out (fun w _ => one_asks x y h0 h1 h2 h3 _ ho w) _ (by rw [mk_size]; omega) (H.keep _ _ hg hV11)).mono ?_
      rintro e v13 ⟨rfl, hV13⟩
      replace hV13 := hV11.trans (hV13.mono hV11.size)
      go_wp2_with fail
      refine (truthC true 2 _ rfl).mono ?_
      rintro e v14 ⟨rfl, rfl⟩
      go_wp2
      go_ret
      exact ⟨rfl, hV13⟩

end Go.Proofs.YthopanlkjdcgmaaGreatDoor.W

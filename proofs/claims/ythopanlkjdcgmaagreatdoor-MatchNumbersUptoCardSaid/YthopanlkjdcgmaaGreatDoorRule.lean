/- match.ByRule: the rules of whole numbers and of the order of times. -/
import Derived.Test.YthopanlkjdcgmaaGreatDoorOrdW
import Derived.Laws.EntriesVeiled
namespace Go.Proofs.YthopanlkjdcgmaaGreatDoor.W
open Go.RowKit Go.Proofs.YthopanlkjdcgmaaGreatDoor.Plain

/-- rule r: of the syntax s, its kind kd, what it asks: the function Q -/
structure RuleK (r s kd : Int) (Q : Nat) : Prop where
  known : ∀ w, Calls Tryz.prog 30 #[.int .i64 r] w fun e w' => e = .returned (.bool true) ∧ w = w'
  rows : ∀ w, Calls Tryz.prog 25 #[.int .i64 r] w fun e w' => (∃ nm id : ByteArray, e = .returned (.agg #[.string nm, .string id, .int .i64 s, .func (.func Q) #[] #[]])) ∧ Below w.heap.size w w'
  kind : ∀ w, Calls Tryz.prog 33 #[.int .i64 r] w fun e w' => e = .returned (.int .i64 kd) ∧ w = w'
  fam : ∀ w, Calls Tryz.prog 31 #[.int .i64 s] w fun e w' => e = .returned (.int .i64 s) ∧ w = w'
  enter : ∀ (args : Array Value) (w : World), (callFunc Q args).run Tryz.prog w = .ok (.enter Q args) w
  low : 0 < s
  high : s < 15

set_option maxRecDepth 100000 in
set_option maxHeartbeats 1000000 in
theorem rule_int : RuleK 7 7 1 38 := by
  refine ⟨fun w => ?_, fun w => ?_, fun w => ?_, fun w => ?_, enters_of Tryz.func38 (by kernel_rfl) rfl, by decide, by decide⟩
  · go_enter Tryz.func30, Tryz.ntmps30
    go_wp2
    go_ret
    exact ⟨rfl, rfl⟩
  · go_enter Tryz.func25, Tryz.ntmps25
    go_wp2
    refine bodyPost_ret (v := .agg #[.string ⟨#[105, 110, 116, 101, 103, 101, 114, 109, 97, 116, 99, 104]⟩, .string ⟨#[50, 46, 53, 46, 49, 51, 46, 49, 52]⟩, .int .i64 7, .func (.func 38) #[] #[]]) (by simp [results, Tryz.results25, go_sem]) rfl ⟨⟨_, _, rfl⟩, (Below.refl _ _).alloc (Nat.le_refl _) _⟩
  · go_enter Tryz.func33, Tryz.ntmps33
    go_wp2
    go_ret
    exact ⟨rfl, rfl⟩
  · go_enter Tryz.func31, Tryz.ntmps31
    go_wp2
    go_ret
    exact ⟨rfl, rfl⟩

set_option maxRecDepth 100000 in
set_option maxHeartbeats 1000000 in
theorem rule_iord : RuleK 16 7 0 39 := by
  refine ⟨fun w => ?_, fun w => ?_, fun w => ?_, fun w => ?_, enters_of Tryz.func39 (by kernel_rfl) rfl, by decide, by decide⟩
  · go_enter Tryz.func30, Tryz.ntmps30
    go_wp2
    go_ret
    exact ⟨rfl, rfl⟩
  · go_enter Tryz.func25, Tryz.ntmps25
    go_wp2
    refine bodyPost_ret (v := .agg #[.string ⟨#[105, 110, 116, 101, 103, 101, 114, 111, 114, 100, 101, 114, 105, 110, 103, 109, 97, 116, 99, 104]⟩, .string ⟨#[50, 46, 53, 46, 49, 51, 46, 49, 53]⟩, .int .i64 7, .func (.func 39) #[] #[]]) (by simp [results, Tryz.results25, go_sem]) rfl ⟨⟨_, _, rfl⟩, (Below.refl _ _).alloc (Nat.le_refl _) _⟩
  · go_enter Tryz.func33, Tryz.ntmps33
    go_wp2
    go_ret
    exact ⟨rfl, rfl⟩
  · go_enter Tryz.func31, Tryz.ntmps31
    go_wp2
    go_ret
    exact ⟨rfl, rfl⟩

set_option maxRecDepth 100000 in
set_option maxHeartbeats 1000000 in
theorem rule_tord : RuleK 18 12 0 39 := by
  refine ⟨fun w => ?_, fun w => ?_, fun w => ?_, fun w => ?_, enters_of Tryz.func39 (by kernel_rfl) rfl, by decide, by decide⟩
  · go_enter Tryz.func30, Tryz.ntmps30
    go_wp2
    go_ret
    exact ⟨rfl, rfl⟩
  · go_enter Tryz.func25, Tryz.ntmps25
    go_wp2
    refine bodyPost_ret (v := .agg #[.string ⟨#[103, 101, 110, 101, 114, 97, 108, 105, 122, 101, 100, 116, 105, 109, 101, 111, 114, 100, 101, 114, 105, 110, 103, 109, 97, 116, 99, 104]⟩, .string ⟨#[50, 46, 53, 46, 49, 51, 46, 50, 56]⟩, .int .i64 12, .func (.func 39) #[] #[]]) (by simp [results, Tryz.results25, go_sem]) rfl ⟨⟨_, _, rfl⟩, (Below.refl _ _).alloc (Nat.le_refl _) _⟩
  · go_enter Tryz.func33, Tryz.ntmps33
    go_wp2
    go_ret
    exact ⟨rfl, rfl⟩
  · go_enter Tryz.func31, Tryz.ntmps31
    go_wp2
    go_ret
    exact ⟨rfl, rfl⟩

set_option maxRecDepth 100000 in
set_option maxHeartbeats 1000000 in
theorem rule_and : RuleK 19 7 2 40 := by
  refine ⟨fun w => ?_, fun w => ?_, fun w => ?_, fun w => ?_, enters_of Tryz.func40 (by kernel_rfl) rfl, by decide, by decide⟩
  · go_enter Tryz.func30, Tryz.ntmps30
    go_wp2
    go_ret
    exact ⟨rfl, rfl⟩
  · go_enter Tryz.func25, Tryz.ntmps25
    go_wp2
    refine bodyPost_ret (v := .agg #[.string ⟨#[105, 110, 116, 101, 103, 101, 114, 98, 105, 116, 97, 110, 100, 109, 97, 116, 99, 104]⟩, .string ⟨#[49, 46, 50, 46, 56, 52, 48, 46, 49, 49, 51, 53, 53, 54, 46, 49, 46, 52, 46, 56, 48, 51]⟩, .int .i64 7, .func (.func 40) #[] #[]]) (by simp [results, Tryz.results25, go_sem]) rfl ⟨⟨_, _, rfl⟩, (Below.refl _ _).alloc (Nat.le_refl _) _⟩
  · go_enter Tryz.func33, Tryz.ntmps33
    go_wp2
    go_ret
    exact ⟨rfl, rfl⟩
  · go_enter Tryz.func31, Tryz.ntmps31
    go_wp2
    go_ret
    exact ⟨rfl, rfl⟩

set_option maxRecDepth 100000 in
set_option maxHeartbeats 1000000 in
theorem rule_or : RuleK 20 7 2 41 := by
  refine ⟨fun w => ?_, fun w => ?_, fun w => ?_, fun w => ?_, enters_of Tryz.func41 (by kernel_rfl) rfl, by decide, by decide⟩
  · go_enter Tryz.func30, Tryz.ntmps30
    go_wp2
    go_ret
    exact ⟨rfl, rfl⟩
  · go_enter Tryz.func25, Tryz.ntmps25
    go_wp2
    refine bodyPost_ret (v := .agg #[.string ⟨#[105, 110, 116, 101, 103, 101, 114, 98, 105, 116, 111, 114, 109, 97, 116, 99, 104]⟩, .string ⟨#[49, 46, 50, 46, 56, 52, 48, 46, 49, 49, 51, 53, 53, 54, 46, 49, 46, 52, 46, 56, 48, 52]⟩, .int .i64 7, .func (.func 41) #[] #[]]) (by simp [results, Tryz.results25, go_sem]) rfl ⟨⟨_, _, rfl⟩, (Below.refl _ _).alloc (Nat.le_refl _) _⟩
  · go_enter Tryz.func33, Tryz.ntmps33
    go_wp2
    go_ret
    exact ⟨rfl, rfl⟩
  · go_enter Tryz.func31, Tryz.ntmps31
    go_wp2
    go_ret
    exact ⟨rfl, rfl⟩

theorem field_syn (nm id : ByteArray) (s : Int) (Q : Nat) (w : World) : (Instr.field 45 (.agg #[.string nm, .string id, .int .i64 s, .func (.func Q) #[] #[]]) 2).run Tryz.prog w = .ok (.int .i64 s) w := by kernel_rfl
theorem field_ask (nm id : ByteArray) (s : Int) (Q : Nat) (w : World) : (Instr.field 45 (.agg #[.string nm, .string id, .int .i64 s, .func (.func Q) #[] #[]]) 3).run Tryz.prog w = .ok (.func (.func Q) #[] #[]) w := by kernel_rfl

set_option maxRecDepth 100000 in
set_option maxHeartbeats 400000 in
theorem suits_any {r s kd : Int} {Q : Nat} (R : RuleK r s kd Q) (w : World) :
    Calls Tryz.prog 22 #[.int .i64 r, .int .i64 s] w fun e w' => e = .returned (.bool true) ∧ Below w.heap.size w w' := by
  have h0 := R.low
  have h1 := R.high
  have hf2 := field_syn
  go_enter Tryz.func22, Tryz.ntmps22
  go_wp2_with fail
  refine (R.known _).mono ?_
  rintro e w1 ⟨rfl, rfl⟩
  go_wp2_with fail
  refine (R.rows _).mono ?_
  rintro e w1 ⟨⟨nm, id, rfl⟩, hB⟩
  go_wp2_with fail
  refine (R.fam _).mono ?_
  rintro e w2 ⟨rfl, rfl⟩
  go_wp2_with fail
  refine (R.fam _).mono ?_
  rintro e w2 ⟨rfl, rfl⟩
  go_wp2
  go_ret
  exact ⟨rfl, hB⟩

set_option maxRecDepth 100000 in
set_option maxHeartbeats 400000 in
theorem normal_callsG {G : World → Prop} {n : Int} {T F : Nat} {nf : Bytes → Option Bytes} (K : NKindG G n T F nf) (s : ByteArray) (w : World) (hs : s.size ≤ 1073741824) (hg : G w) :
    Calls Tryz.prog 32 #[.int .i64 n, .string s] w (NormPost (nf s.data.toList) w) := by
  obtain ⟨r, hr⟩ : ∃ r, nf s.data.toList = r := ⟨_, rfl⟩
  have HR := Lib.hid hr
  clear hr
  rw [HR.out]
  have hm := K.meth
  have he := K.enter
  cases r
  all_goals
    go_enter Tryz.func32, Tryz.ntmps32
    go_wp2_with (go_at_call 29; refine (K.of _ hg).mono ?_; rintro e w1 ⟨rfl, rfl⟩)
    refine (K.calls s _ hs hg).mono ?_
    rintro e w2 ⟨rfl, hB⟩
    first | rw [HR.out, normV_none] | rw [HR.out, normV_some]
    go_wp2
    go_ret2
    exact ⟨rfl, hB⟩

set_option maxRecDepth 100000 in
set_option maxHeartbeats 1000000 in
/-- Asserts, reads of a rule of a syntax (not of bits) -/
theorem asserts_plain {G : World → Prop} {r s kd : Int} {Q T F : Nat} {nf : Bytes → Option Bytes} (R : RuleK r s kd Q) (hkd : kd = 0 ∨ kd = 1) (K : NKindG G s T F nf) (a : ByteArray) (w : World) (ha : a.size ≤ 1073741824) (hg : G w) :
    Calls Tryz.prog 23 #[.int .i64 r, .string a] w fun e w' => e = .returned (.bool (nf a.data.toList).isSome) ∧ Below w.heap.size w w' := by
  have hf2 := field_syn
  obtain ⟨x, hx⟩ : ∃ r, nf a.data.toList = r := ⟨_, rfl⟩
  have HR := Lib.hid hx
  clear hx
  rw [HR.out]
  cases x
  all_goals
    rcases hkd with rfl | rfl
    all_goals
      go_enter Tryz.func23, Tryz.ntmps23
      go_wp2_with fail
      refine (R.known _).mono ?_
      rintro e w1 ⟨rfl, rfl⟩
      go_wp2_with fail
      refine (R.rows _).mono ?_
      rintro e w1 ⟨⟨nm, id, rfl⟩, hB0⟩
      go_wp2_with fail
      refine (normal_callsG K a _ ha (K.keep _ _ hg hB0)).mono ?_
      rintro e w2 ⟨rfl, hB⟩
      replace hB := hB0.trans (hB.mono hB0.size)
      first | rw [HR.out, normV_none] | rw [HR.out, normV_some]
      go_wp2_with fail
      refine (R.kind _).mono ?_
      rintro e w3 ⟨rfl, rfl⟩
      go_wp2
      go_ret
      exact ⟨rfl, hB⟩

set_option maxRecDepth 100000 in
set_option maxHeartbeats 1000000 in
theorem reads_plain {G : World → Prop} {r s kd : Int} {Q T F : Nat} {nf : Bytes → Option Bytes} (R : RuleK r s kd Q) (hkd : kd = 0 ∨ kd = 1) (K : NKindG G s T F nf) (a : ByteArray) (w : World) (ha : a.size ≤ 1073741824) (hg : G w) :
    Calls Tryz.prog 24 #[.int .i64 r, .string a] w fun e w' => e = .returned (.bool (nf a.data.toList).isSome) ∧ Below w.heap.size w w' := by
  have hf2 := field_syn
  obtain ⟨x, hx⟩ : ∃ r, nf a.data.toList = r := ⟨_, rfl⟩
  have HR := Lib.hid hx
  clear hx
  rw [HR.out]
  cases x
  all_goals
    rcases hkd with rfl | rfl
    all_goals
      go_enter Tryz.func24, Tryz.ntmps24
      go_wp2_with fail
      refine (R.kind _).mono ?_
      rintro e w3 ⟨rfl, rfl⟩
      go_wp2_with fail
      refine (R.rows _).mono ?_
      rintro e w1 ⟨⟨nm, id, rfl⟩, hB0⟩
      go_wp2_with fail
      refine (normal_callsG K a _ ha (K.keep _ _ hg hB0)).mono ?_
      rintro e w2 ⟨rfl, hB⟩
      replace hB := hB0.trans (hB.mono hB0.size)
      first | rw [HR.out, normV_none] | rw [HR.out, normV_some]
      go_wp2
      go_ret
      exact ⟨rfl, hB⟩

/-- the three answers of a rule: what it asks of the normal forms -/
def ruleT (t : Bytes → Bytes → Bool) (v a : Option Bytes) : Int :=
  match a with
  | none => 1
  | some a => match v with
    | none => 0
    | some v => if t v a then 2 else 0

set_option maxRecDepth 100000 in
set_option maxHeartbeats 1000000 in
theorem byrule_plain {G : World → Prop} {r s kd : Int} {Q T F : Nat} {nf : Bytes → Option Bytes} {t : Bytes → Bytes → Bool} (R : RuleK r s kd Q) (hkd : kd = 0 ∨ kd = 1) (K : NKindG G s T F nf) (v a : ByteArray)
    (hQ : ∀ nv na w, nf v.data.toList = some nv → nf a.data.toList = some na → G w → Calls Tryz.prog Q #[.int .i64 s, .string v, .string a] w fun e w' => e = .returned (.bool (t nv na)) ∧ Below w.heap.size w w')
    (w : World) (hv : v.size ≤ 1073741824) (ha : a.size ≤ 1073741824) (hg : G w) :
    Calls Tryz.prog 11 #[.int .i64 r, .int .i64 s, .string v, .string a] w fun e w' => e = .returned (.int .i64 (ruleT t (nf v.data.toList) (nf a.data.toList))) ∧ Below w.heap.size w w' := by
  obtain ⟨x, hx⟩ : ∃ r, nf v.data.toList = r := ⟨_, rfl⟩
  obtain ⟨y, hy⟩ : ∃ r, nf a.data.toList = r := ⟨_, rfl⟩
  have HV := Lib.hid hx
  have HA := Lib.hid hy
  have HQ := Lib.hid hQ
  clear hx hy hQ
  rw [HV.out, HA.out]
  have he := R.enter
  have hf2 := field_syn
  have hf3 := field_ask
  cases y with
  | none =>
    go_enter Tryz.func11, Tryz.ntmps11
    go_wp2_with fail
    refine (suits_any R _).mono ?_
    rintro e w0 ⟨rfl, hB0⟩
    go_wp2_with fail
    refine (asserts_plain R hkd K a _ ha (K.keep _ _ hg hB0)).mono ?_
    rintro e w1 ⟨rfl, hB1⟩
    replace hB1 := hB0.trans (hB1.mono hB0.size)
    rw [HA.out, Option.isSome_none]
    go_wp2
    go_ret
    exact ⟨rfl, hB1⟩
  | some na =>
    cases x with
    | none =>
      go_enter Tryz.func11, Tryz.ntmps11
      go_wp2_with fail
      refine (suits_any R _).mono ?_
      rintro e w0 ⟨rfl, hB0⟩
      go_wp2_with fail
      refine (asserts_plain R hkd K a _ ha (K.keep _ _ hg hB0)).mono ?_
      rintro e w1 ⟨rfl, hB1⟩
      replace hB1 := hB0.trans (hB1.mono hB0.size)
      rw [HA.out, Option.isSome_some]
      go_wp2_with fail
      refine (reads_plain R hkd K v _ hv (K.keep _ _ hg hB1)).mono ?_
      rintro e w2 ⟨rfl, hB2⟩
      rw [HV.out, Option.isSome_none]
      replace hB2 := hB1.trans (hB2.mono hB1.size)
      go_wp2
      go_ret
      exact ⟨rfl, hB2⟩
    | some nv =>
      obtain ⟨b, hb⟩ : ∃ b, t nv na = b := ⟨_, rfl⟩
      have HB := Lib.hid hb
      clear hb
      have HT : Hid (ruleT t (some nv) (some na) = if b then 2 else 0) := by unfold ruleT; dsimp only; rw [HB.out]; exact Lib.hid rfl
      rw [HT.out]
      cases b
      all_goals
        go_enter Tryz.func11, Tryz.ntmps11
        go_wp2_with fail
        refine (suits_any R _).mono ?_
        rintro e w0 ⟨rfl, hB0⟩
        go_wp2_with fail
        refine (asserts_plain R hkd K a _ ha (K.keep _ _ hg hB0)).mono ?_
        rintro e w1 ⟨rfl, hB1⟩
        replace hB1 := hB0.trans (hB1.mono hB0.size)
        rw [HA.out, Option.isSome_some]
        go_wp2_with fail
        refine (reads_plain R hkd K v _ hv (K.keep _ _ hg hB1)).mono ?_
        rintro e w2 ⟨rfl, hB2⟩
        rw [HV.out, Option.isSome_some]
        replace hB2 := hB1.trans (hB2.mono hB1.size)
        go_wp2_with fail
        refine (R.rows _).mono ?_
        rintro e w3 ⟨⟨nm, id, rfl⟩, hB3⟩
        replace hB2 := hB2.trans (hB3.mono hB2.size)
        clear hB3
        go_wp2_with fail
        refine (R.rows _).mono ?_
        rintro e w3 ⟨⟨nm2, id2, rfl⟩, hB3⟩
        replace hB2 := hB2.trans (hB3.mono hB2.size)
        clear hB3
        go_wp2_with fail
        refine (HQ.out nv na _ HV.out HA.out (K.keep _ _ hg hB2)).mono ?_
        rintro e w4 ⟨rfl, hB4⟩
        rw [HB.out]
        replace hB4 := hB2.trans (hB4.mono hB2.size)
        go_wp2
        go_ret
        exact ⟨rfl, hB4⟩

theorem eq_asks {G : World → Prop} {n : Int} {T F : Nat} {nf : Bytes → Option Bytes} (K : NKindG G n T F nf) (v a : ByteArray) (hv : v.size ≤ 1073741824) (ha : a.size ≤ 1073741824) (nv na : Bytes) (w : World) (h1 : nf v.data.toList = some nv) (h2 : nf a.data.toList = some na) (hg : G w) :
    Calls Tryz.prog 38 #[.int .i64 n, .string v, .string a] w fun e w' => e = .returned (.bool (decide (nv = na))) ∧ Below w.heap.size w w' := by
  have H1 := Lib.hid h1
  have H2 := Lib.hid h2
  clear h1 h2
  by_cases h : nv = na
  · have H3 : Hid (eqT (some nv) (some na) = 2) := by rw [eqT_some, if_pos h]; exact Lib.hid rfl
    rw [decide_eq_true h]
    clear h
    go_enter Tryz.func38, Tryz.ntmps38
    go_wp2_with fail
    refine (equal_callsG K v a _ hv ha hg).mono ?_
    rintro e w1 ⟨rfl, hB⟩
    rw [H1.out, H2.out, H3.out]
    go_wp2
    go_ret
    exact ⟨rfl, hB⟩
  · have H3 : Hid (eqT (some nv) (some na) = 0) := by rw [eqT_some, if_neg h]; exact Lib.hid rfl
    rw [decide_eq_false h]
    clear h
    go_enter Tryz.func38, Tryz.ntmps38
    go_wp2_with fail
    refine (equal_callsG K v a _ hv ha hg).mono ?_
    rintro e w1 ⟨rfl, hB⟩
    rw [H1.out, H2.out, H3.out]
    go_wp2
    go_ret
    exact ⟨rfl, hB⟩

def ltZ (x : Int) : Bool := decide (x < 0)
theorem ahead_asks {G : World → Prop} {n : Int} {T F : Nat} {nf : Bytes → Option Bytes} {V : Bytes → Prop} {cmp : Bytes → Bytes → Int} (K : OKind G n T F nf V cmp) (v a : ByteArray) (hv : v.size ≤ 1073741824) (ha : a.size ≤ 1073741824) (nv na : Bytes) (w : World) (h1 : nf v.data.toList = some nv) (h2 : nf a.data.toList = some na) (hg : G w) :
    Calls Tryz.prog 39 #[.int .i64 n, .string v, .string a] w fun e w' => e = .returned (.bool (ltZ (cmp nv na))) ∧ Below w.heap.size w w' := by
  have VV := K.val _ _ (by rw [len_eq]; exact hv) h1
  have VA := K.val _ _ (by rw [len_eq]; exact ha) h2
  have H1 := Lib.hid h1
  have H2 := Lib.hid h2
  clear h1 h2
  obtain ⟨x, hx⟩ : ∃ x, cmp nv na = x := ⟨_, rfl⟩
  have HX := Lib.hid hx
  clear hx
  rw [HX.out]
  by_cases h : x < 0
  all_goals
    first | (have hd : ltZ x = true := decide_eq_true h; rw [hd]; have h1 : decide (x < 0) = true := decide_eq_true h) | (have hd : ltZ x = false := decide_eq_false h; rw [hd]; have h1 : decide (x < 0) = false := decide_eq_false h)
    clear hd
    go_enter Tryz.func39, Tryz.ntmps39
    go_wp2_with fail
    refine (normal_callsG K.base v _ hv hg).mono ?_
    rintro e w1 ⟨rfl, hB1⟩
    rw [H1.out, normV_some]
    go_wp2_with fail
    refine (normal_callsG K.base a _ ha (K.base.keep _ _ hg hB1)).mono ?_
    rintro e w2 ⟨rfl, hB2⟩
    rw [H2.out, normV_some]
    replace hB2 := hB1.trans (hB2.mono hB1.size)
    go_wp2_with fail
    refine (K.comp nv na _ VV VA (K.base.keep _ _ hg hB2)).mono ?_
    rintro e w3 ⟨rfl, hB3⟩
    rw [HX.out]
    replace hB3 := hB2.trans (hB3.mono hB2.size)
    go_wp2
    go_ret
    exact ⟨rfl, hB3⟩

end Go.Proofs.YthopanlkjdcgmaaGreatDoor.W

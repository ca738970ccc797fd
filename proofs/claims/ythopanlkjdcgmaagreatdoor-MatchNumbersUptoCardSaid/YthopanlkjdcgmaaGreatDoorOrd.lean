/- The orders of normal forms, in plain Lean: the bytes' order, and the whole numbers' order as their digits tell it; both are total orders. -/
import Derived.Test.YthopanlkjdcgmaaGreatDoorPlain
import Derived.Lib.Bytealg
namespace Go.Proofs.YthopanlkjdcgmaaGreatDoor.Plain
open Go

/-- c tells a total order on the texts of P -/
structure CmpOrd (P : Bytes → Prop) (c : Bytes → Bytes → Int) : Prop where
  rng : ∀ a b, c a b = -1 ∨ c a b = 0 ∨ c a b = 1
  eq : ∀ a b, P a → P b → (c a b = 0 ↔ a = b)
  anti : ∀ a b, P a → P b → c b a = - c a b
  trans : ∀ a b d, P a → P b → P d → 0 ≤ c a b → 0 ≤ c b d → 0 ≤ c a d

theorem cb_rng : ∀ a b : Bytes, Lib.compareBytes a b = -1 ∨ Lib.compareBytes a b = 0 ∨ Lib.compareBytes a b = 1
  | [], [] => .inr (.inl rfl)
  | [], _ :: _ => .inl rfl
  | _ :: _, [] => .inr (.inr rfl)
  | x :: a, y :: b => by
    unfold Lib.compareBytes
    split
    · exact .inl rfl
    · split
      · exact .inr (.inr rfl)
      · exact cb_rng a b
theorem cb_eq : ∀ a b : Bytes, Lib.compareBytes a b = 0 ↔ a = b
  | [], [] => by simp [Lib.compareBytes]
  | [], _ :: _ => by simp [Lib.compareBytes]
  | _ :: _, [] => by simp [Lib.compareBytes]
  | x :: a, y :: b => by
    unfold Lib.compareBytes
    by_cases h1 : x < y
    · rw [if_pos h1]
      refine ⟨fun h => absurd h (by decide), fun h => ?_⟩
      injection h with h _; subst h; exact absurd h1 (UInt8.lt_irrefl x)
    · rw [if_neg h1]
      by_cases h2 : y < x
      · rw [if_pos h2]
        refine ⟨fun h => absurd h (by decide), fun h => ?_⟩
        injection h with h _; subst h; exact absurd h2 (UInt8.lt_irrefl x)
      · rw [if_neg h2, cb_eq a b]
        have : x = y := UInt8.le_antisymm (UInt8.not_lt.1 h2) (UInt8.not_lt.1 h1)
        subst this
        simp
theorem cb_anti : ∀ a b : Bytes, Lib.compareBytes b a = - Lib.compareBytes a b
  | [], [] => rfl
  | [], _ :: _ => rfl
  | _ :: _, [] => rfl
  | x :: a, y :: b => by
    unfold Lib.compareBytes
    by_cases h1 : x < y
    · rw [if_pos h1, if_neg (UInt8.lt_asymm h1), if_pos h1]; rfl
    · by_cases h2 : y < x
      · rw [if_pos h2, if_neg h1, if_pos h2]
      · rw [if_neg h1, if_neg h2, if_neg h2, if_neg h1]; exact cb_anti a b
theorem cb_trans : ∀ a b d : Bytes, 0 ≤ Lib.compareBytes a b → 0 ≤ Lib.compareBytes b d → 0 ≤ Lib.compareBytes a d
  | [], [], d, _, h => h
  | [], _ :: _, _, h, _ => absurd h (by unfold Lib.compareBytes; decide)
  | _ :: _, _, [], _, _ => by unfold Lib.compareBytes; decide
  | _ :: _, [], _ :: _, _, h => absurd h (by unfold Lib.compareBytes; decide)
  | x :: a, y :: b, z :: d, h1, h2 => by
    have ih := cb_trans a b d
    unfold Lib.compareBytes at h1 h2 ⊢
    by_cases hxy : x < y
    · rw [if_pos hxy] at h1; exact absurd h1 (by decide)
    rw [if_neg hxy] at h1
    by_cases hyz : y < z
    · rw [if_pos hyz] at h2; exact absurd h2 (by decide)
    rw [if_neg hyz] at h2
    have hxz : ¬ x < z := UInt8.not_lt.2 (UInt8.le_trans (UInt8.not_lt.1 hyz) (UInt8.not_lt.1 hxy))
    rw [if_neg hxz]
    by_cases hzx : z < x
    · rw [if_pos hzx]; decide
    rw [if_neg hzx]
    have e1 : x = z := UInt8.le_antisymm (UInt8.not_lt.1 hzx) (UInt8.not_lt.1 hxz)
    subst e1
    have e2 : x = y := UInt8.le_antisymm (UInt8.not_lt.1 hyz) (UInt8.not_lt.1 hxy)
    subst e2
    rw [if_neg (UInt8.lt_irrefl x)] at h1 h2
    exact ih h1 h2
theorem cb_ord (P : Bytes → Prop) : CmpOrd P Lib.compareBytes :=
  ⟨cb_rng, fun a b _ _ => cb_eq a b, fun a b _ _ => cb_anti a b, fun a b d _ _ _ => cb_trans a b d⟩

/-- shorter rows of digits are less -/
def magn (a b : Bytes) : Int := if a.length = b.length then Lib.compareBytes a b else if a.length < b.length then -1 else 1
theorem mg_rng (a b : Bytes) : magn a b = -1 ∨ magn a b = 0 ∨ magn a b = 1 := by
  unfold magn; split
  · exact cb_rng a b
  · split
    · exact .inl rfl
    · exact .inr (.inr rfl)
theorem mg_eq (a b : Bytes) : magn a b = 0 ↔ a = b := by
  unfold magn; split
  · exact cb_eq a b
  · rename_i h
    split
    · exact ⟨fun h => absurd h (by decide), fun e => absurd (congrArg List.length e) h⟩
    · exact ⟨fun h => absurd h (by decide), fun e => absurd (congrArg List.length e) h⟩
theorem mg_anti (a b : Bytes) : magn b a = - magn a b := by
  unfold magn
  by_cases h : a.length = b.length
  · rw [if_pos h, if_pos h.symm]; exact cb_anti a b
  · rw [if_neg h, if_neg (fun e => h e.symm)]
    by_cases h2 : a.length < b.length
    · rw [if_pos h2, if_neg (by omega)]; rfl
    · rw [if_neg h2, if_pos (by omega)]
theorem mg_len {a b : Bytes} (h : 0 ≤ magn a b) : b.length ≤ a.length ∧ (a.length = b.length → 0 ≤ Lib.compareBytes a b) := by
  unfold magn at h
  by_cases h1 : a.length = b.length
  · rw [if_pos h1] at h; exact ⟨by omega, fun _ => h⟩
  · rw [if_neg h1] at h
    by_cases h2 : a.length < b.length
    · rw [if_pos h2] at h; exact absurd h (by decide)
    · exact ⟨by omega, fun e => absurd e h1⟩
theorem mg_of {a b : Bytes} (h : b.length ≤ a.length) (h2 : a.length = b.length → 0 ≤ Lib.compareBytes a b) : 0 ≤ magn a b := by
  unfold magn
  by_cases h1 : a.length = b.length
  · rw [if_pos h1]; exact h2 h1
  · rw [if_neg h1, if_neg (by omega)]; decide
theorem mg_trans (a b d : Bytes) (h1 : 0 ≤ magn a b) (h2 : 0 ≤ magn b d) : 0 ≤ magn a d := by
  have a1 := mg_len h1
  have a2 := mg_len h2
  exact mg_of (by omega) (fun e => cb_trans a b d (a1.2 (by omega)) (a2.2 (by omega)))

def negL (a : Bytes) : Bool := a.head? == some 45
/-- the order of whole numbers, as integer.compare tells it -/
def cmpI (a b : Bytes) : Int := if negL a then (if negL b then magn b.tail a.tail else -1) else (if negL b then 1 else magn a b)
theorem ci_rng (a b : Bytes) : cmpI a b = -1 ∨ cmpI a b = 0 ∨ cmpI a b = 1 := by
  unfold cmpI
  split
  · split
    · exact mg_rng _ _
    · exact .inl rfl
  · split
    · exact .inr (.inr rfl)
    · exact mg_rng _ _
theorem neg_tail {a b : Bytes} (ha : negL a = true) (hb : negL b = true) (h : b.tail = a.tail) : a = b := by
  cases a with
  | nil => simp [negL] at ha
  | cons x a =>
    cases b with
    | nil => simp [negL] at hb
    | cons y b =>
      simp [negL] at ha hb
      simp at h
      rw [ha, hb, h]
theorem ci_eq (a b : Bytes) : cmpI a b = 0 ↔ a = b := by
  unfold cmpI
  cases ha : negL a <;> cases hb : negL b <;> simp only [if_true, if_false, Bool.false_eq_true]
  · exact mg_eq a b
  · exact ⟨fun h => absurd h (by decide), fun e => by rw [e, hb] at ha; exact absurd ha (by decide)⟩
  · exact ⟨fun h => absurd h (by decide), fun e => by rw [e, hb] at ha; exact absurd ha (by decide)⟩
  · rw [mg_eq]; exact ⟨fun h => neg_tail ha hb h, fun h => by rw [h]⟩
theorem ci_anti (a b : Bytes) : cmpI b a = - cmpI a b := by
  unfold cmpI
  cases ha : negL a <;> cases hb : negL b <;> simp only [if_true, if_false, Bool.false_eq_true]
  · exact mg_anti a b
  · rfl
  · exact mg_anti b.tail a.tail
theorem ci_trans (a b d : Bytes) : 0 ≤ cmpI a b → 0 ≤ cmpI b d → 0 ≤ cmpI a d := by
  unfold cmpI
  cases ha : negL a <;> cases hb : negL b <;> cases hd : negL d <;> simp only [if_true, if_false, Bool.false_eq_true] <;> intro h1 h2
  · exact mg_trans a b d h1 h2
  all_goals first | decide | exact absurd h1 (by decide) | exact absurd h2 (by decide) | exact mg_trans _ _ _ h2 h1
theorem ci_ord (P : Bytes → Prop) : CmpOrd P cmpI :=
  ⟨ci_rng, fun a b _ _ => ci_eq a b, fun a b _ _ => ci_anti a b, fun a b d _ _ _ => ci_trans a b d⟩

end Go.Proofs.YthopanlkjdcgmaaGreatDoor.Plain

/- MatchLong: what its walk wants, in plain Lean: rows of digits, longer is more, a 0 at the front is no number, no bits beyond 64. -/
import Derived.Test.YthopanlkjdcgmaaGreatDoorOrd
import Derived.Lib.ParseIntB
namespace Go.Proofs.YthopanlkjdcgmaaGreatDoor.Plain
open Go

theorem digit_iff (c : UInt8) : digitB c = true ↔ 48 ≤ c.toNat ∧ c.toNat ≤ 57 := by
  unfold digitB
  simp only [Bool.and_eq_true, decide_eq_true_eq, UInt8.le_iff_toNat_le]
  exact Iff.rfl
theorem unsigned_dig (c : UInt8) (l : Bytes) (h : digitB c = true) : unsigned (c :: l) = c :: l := by
  have hc := (digit_iff c).1 h
  unfold unsigned
  split
  · rename_i h2; injection h2 with h2 _; subst h2; exact absurd hc.1 (by decide)
  · rfl
theorem intOk_dig (c : UInt8) (l : Bytes) (h : digitB c = true) (h0 : c ≠ 48) (hl : allL digitB l = true) : intOk (c :: l) = true := by
  unfold intOk
  rw [unsigned_dig c l h]
  have e : allL digitB (c :: l) = true := by rw [allL_eq] at hl ⊢; rw [List.all_cons, h, hl]; rfl
  rw [e]
  simp [h0]
theorem intOk_neg (c : UInt8) (l : Bytes) (h : digitB c = true) (h0 : c ≠ 48) (hl : allL digitB l = true) : intOk (45 :: c :: l) = true := by
  unfold intOk
  have e : allL digitB (c :: l) = true := by rw [allL_eq] at hl ⊢; rw [List.all_cons, h, hl]; rfl
  rw [show unsigned (45 :: c :: l) = c :: l from rfl, e]
  simp [h0]
theorem intOk_zero (c : UInt8) (l : Bytes) : intOk (48 :: c :: l) = false := by
  unfold intOk
  rw [unsigned_dig 48 (c :: l) (by decide)]
  simp
theorem negL_dig (c : UInt8) (l : Bytes) (h : digitB c = true) : negL (c :: l) = false := by
  have hc := (digit_iff c).1 h
  unfold negL
  rw [List.head?_cons, Bool.eq_false_iff]
  intro e
  have e2 : c = 45 := by simpa using e
  subst e2
  exact absurd hc.1 (by decide)

/-- more digits than a number of 64 bits has: out of range -/
theorem parse_row : ∀ (l : Bytes) (acc : Nat), allL digitB l = true → 1 ≤ acc → 18446744073709551616 ≤ acc * 10 ^ l.length → Lib.parseUintM (2 ^ 64 - 1) acc l = .range ∨ (18446744073709551616 ≤ acc ∧ l = [])
  | [], acc, _, _, h => .inr ⟨by simpa using h, rfl⟩
  | c :: r, acc, hl, ha, h => by
    rw [allL_eq, List.all_cons, Bool.and_eq_true] at hl
    have hc := (digit_iff c).1 hl.1
    unfold Lib.parseUintM
    rw [if_pos hc]
    by_cases h1 : 1844674407370955162 ≤ acc
    · rw [if_pos h1]; exact .inl rfl
    · rw [if_neg h1]
      by_cases h2 : 2 ^ 64 - 1 < acc * 10 + (c.toNat - 48)
      · rw [if_pos h2]; exact .inl rfl
      · rw [if_neg h2]
        have hr := parse_row r (acc * 10 + (c.toNat - 48)) (by rw [allL_eq]; exact hl.2) (by omega) (by
          rw [List.length_cons, Nat.pow_succ] at h
          have h3 : acc * (10 ^ r.length * 10) = (acc * 10) * 10 ^ r.length := by rw [Nat.mul_comm (10 ^ r.length) 10, ← Nat.mul_assoc]
          rw [h3] at h
          exact Nat.le_trans h (Nat.mul_le_mul_right _ (Nat.le_add_right _ _)))
        rcases hr with hr | ⟨hr, _⟩
        · exact .inl hr
        · exfalso; have : (2 : Nat) ^ 64 = 18446744073709551616 := by decide
          omega
theorem parse_long (l : Bytes) (hl : allL digitB l = true) (hn : 20 ≤ l.length) : Lib.parseIntB 64 (57 :: l) = .range := by
  have h10 : (18446744073709551616 : Nat) ≤ 10 ^ 20 := by decide
  have hp : (10 : Nat) ^ 20 ≤ 10 ^ l.length := Nat.pow_le_pow_right (by decide) hn
  have h : Lib.parseUintM (2 ^ 64 - 1) 0 (57 :: l) = .range := by
    unfold Lib.parseUintM
    rw [if_pos (by decide), if_neg (by decide), if_neg (by decide)]
    rcases parse_row l (0 * 10 + ((57 : UInt8).toNat - 48)) hl (by decide) (by
      have : 10 ^ l.length ≤ (0 * 10 + ((57 : UInt8).toNat - 48)) * 10 ^ l.length := Nat.le_mul_of_pos_left _ (by decide)
      omega) with h | ⟨_, h⟩
    · exact h
    · rw [h] at hn; exact absurd hn (by simp)
  unfold Lib.parseIntB
  simp only [show ¬ ((57 : UInt8).toNat = 43 ∨ (57 : UInt8).toNat = 45) by decide, if_false]
  unfold Lib.parseUintB
  rw [if_neg (by simp), h]

/-- the rows of MatchLong: d, e = d with zeros behind -/
structure LongFacts (d e : Bytes) : Prop where
  d_ok : nInt d = some d
  e_ok : nInt e = some e
  dn_ok : nInt (45 :: d) = some (45 :: d)
  en_ok : nInt (45 :: e) = some (45 :: e)
  dz : nInt (48 :: d) = none
  ed : cmpI e d = 1
  de : cmpI d e = -1
  nd : cmpI (45 :: e) (45 :: d) = -1
  ne : cmpI (45 :: d) (45 :: e) = 1
  dne : cmpI d (45 :: e) = 1
theorem long_facts (l z : Bytes) (hl : allL digitB l = true) (hz : allL digitB z = true) (hn : 1 ≤ z.length) : LongFacts (49 :: l) (49 :: l ++ z) := by
  have hlz : allL digitB (l ++ z) = true := by rw [allL_eq] at *; rw [List.all_append, hl, hz]; rfl
  have N : ∀ m : Bytes, allL digitB m = true → nInt (49 :: m) = some (49 :: m) := fun m hm => by unfold nInt; rw [if_pos (intOk_dig 49 m (by decide) (by decide) hm)]
  have NN : ∀ m : Bytes, allL digitB m = true → nInt (45 :: 49 :: m) = some (45 :: 49 :: m) := fun m hm => by unfold nInt; rw [if_pos (intOk_neg 49 m (by decide) (by decide) hm)]
  have M1 : magn (49 :: (l ++ z)) (49 :: l) = 1 := by
    unfold magn
    rw [if_neg (by simp only [List.length_cons, List.length_append]; omega), if_neg (by simp only [List.length_cons, List.length_append]; omega)]
  have M2 : magn (49 :: l) (49 :: (l ++ z)) = -1 := by
    unfold magn
    rw [if_neg (by simp only [List.length_cons, List.length_append]; omega), if_pos (by simp only [List.length_cons, List.length_append]; omega)]
  have G : ∀ m : Bytes, negL (49 :: m) = false := fun m => negL_dig 49 m (by decide)
  have GN : ∀ m : Bytes, negL (45 :: m) = true := fun m => rfl
  refine ⟨N l hl, N _ hlz, NN l hl, NN _ hlz, ?_, ?_, ?_, ?_, ?_, ?_⟩
  · unfold nInt; rw [intOk_zero]; rfl
  · unfold cmpI; rw [List.cons_append, G, G]; exact M1
  · unfold cmpI; rw [List.cons_append, G, G]; exact M2
  · unfold cmpI; rw [List.cons_append, GN, GN]; exact M2
  · unfold cmpI; rw [List.cons_append, GN, GN]; exact M1
  · unfold cmpI; rw [G, GN]; rfl

end Go.Proofs.YthopanlkjdcgmaaGreatDoor.Plain

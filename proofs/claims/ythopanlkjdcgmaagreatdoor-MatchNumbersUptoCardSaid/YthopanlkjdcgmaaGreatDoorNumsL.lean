/- MatchNumbers: what its walk wants, in plain Lean: a number's text is a value of the syntax, reads back as the number, and texts stand in the order of their numbers. -/
import Derived.Test.YthopanlkjdcgmaaGreatDoorLongL
import Derived.Lib.ItoaNum
namespace Go.Proofs.YthopanlkjdcgmaaGreatDoor.Plain
open Go

theorem dec_small {u : Nat} (h : u < 10) : Lib.decDigits u = [UInt8.ofNat (48 + u)] := by rw [Lib.decDigits, dif_pos h]
theorem dec_big {u : Nat} (h : ¬ u < 10) : Lib.decDigits u = Lib.decDigits (u / 10) ++ [UInt8.ofNat (48 + u % 10)] := by
  conv => lhs; rw [Lib.decDigits, dif_neg h]
theorem fig_nat (k : Nat) (h : k < 10) : (UInt8.ofNat (48 + k)).toNat = 48 + k := by rw [UInt8.toNat_ofNat', Nat.mod_eq_of_lt (by omega)]
theorem fig_ok (k : Nat) (h : k < 10) : digitB (UInt8.ofNat (48 + k)) = true := by rw [digit_iff, fig_nat k h]; omega
theorem one_dig (k : Nat) (h : k < 10) : allL digitB [UInt8.ofNat (48 + k)] = true := by rw [allL_eq, List.all_cons, fig_ok k h]; rfl
theorem dig_app (l m : Bytes) (h1 : allL digitB l = true) (h2 : allL digitB m = true) : allL digitB (l ++ m) = true := by rw [allL_eq] at *; rw [List.all_append, h1, h2]; rfl
theorem dec_dig : ∀ u : Nat, allL digitB (Lib.decDigits u) = true := by
  intro u
  induction u using Nat.strongRecOn with
  | ind u ih =>
    by_cases h : u < 10
    · rw [dec_small h]; exact one_dig u h
    · rw [dec_big h]; exact dig_app _ _ (ih (u / 10) (by omega)) (one_dig _ (by omega))
theorem dec_head : ∀ u : Nat, 1 ≤ u → ∃ c l, Lib.decDigits u = c :: l ∧ c ≠ 48 ∧ digitB c = true ∧ allL digitB l = true := by
  intro u
  induction u using Nat.strongRecOn with
  | ind u ih =>
    intro hu
    by_cases h : u < 10
    · refine ⟨_, _, dec_small h, ?_, fig_ok u h, rfl⟩
      intro e
      have := congrArg UInt8.toNat e
      rw [fig_nat u h] at this
      have h48 : (48 : UInt8).toNat = 48 := rfl
      omega
    · obtain ⟨c, l, e, h1, h2, h3⟩ := ih (u / 10) (by omega) (by omega)
      refine ⟨c, l ++ [UInt8.ofNat (48 + u % 10)], by rw [dec_big h, e]; rfl, h1, h2, ?_⟩
      exact dig_app _ _ h3 (one_dig _ (by omega))

/-- -1, 0, 1 -/
def sgn (x y : Int) : Int := if x < y then -1 else if y < x then 1 else 0
def sgnB (x y : UInt8) : Int := if x < y then -1 else if y < x then 1 else 0
theorem cb_snoc (x y : UInt8) : ∀ p q : Bytes, p.length = q.length → Lib.compareBytes (p ++ [x]) (q ++ [y]) = if Lib.compareBytes p q = 0 then sgnB x y else Lib.compareBytes p q
  | [], [], _ => by simp [Lib.compareBytes, sgnB]
  | [], _ :: _, h => by simp at h
  | _ :: _, [], h => by simp at h
  | a :: p, b :: q, h => by
    have ih := cb_snoc x y p q (by simpa using h)
    rw [List.cons_append, List.cons_append]
    unfold Lib.compareBytes
    by_cases h1 : a < b
    · simp [h1]
    · by_cases h2 : b < a
      · simp [h1, h2]
      · rw [if_neg h1, if_neg h2, if_neg h1, if_neg h2]; exact ih
theorem mg_snoc (x y : UInt8) (p q : Bytes) : magn (p ++ [x]) (q ++ [y]) = if magn p q = 0 then sgnB x y else magn p q := by
  unfold magn
  simp only [List.length_append, List.length_singleton, Nat.add_right_cancel_iff, Nat.add_lt_add_iff_right]
  by_cases h : p.length = q.length
  · rw [if_pos h, if_pos h]; exact cb_snoc x y p q h
  · rw [if_neg h, if_neg h]
    by_cases h2 : p.length < q.length
    · rw [if_pos h2]; rfl
    · rw [if_neg h2]; rfl
theorem sgnB_fig (j k : Nat) (hj : j < 10) (hk : k < 10) : sgnB (UInt8.ofNat (48 + j)) (UInt8.ofNat (48 + k)) = sgn j k := by
  have e1 : UInt8.ofNat (48 + j) < UInt8.ofNat (48 + k) ↔ (j : Int) < (k : Int) := by rw [UInt8.lt_iff_toNat_lt, fig_nat j hj, fig_nat k hk]; omega
  have e2 : UInt8.ofNat (48 + k) < UInt8.ofNat (48 + j) ↔ (k : Int) < (j : Int) := by rw [UInt8.lt_iff_toNat_lt, fig_nat j hj, fig_nat k hk]; omega
  unfold sgnB sgn
  simp only [e1, e2]
theorem sgn_ten (a b : Nat) : (if sgn (a / 10 : Nat) (b / 10 : Nat) = 0 then sgn (a % 10 : Nat) (b % 10 : Nat) else sgn (a / 10 : Nat) (b / 10 : Nat)) = sgn a b := by
  unfold sgn
  split
  all_goals (repeat' split) <;> first | rfl | (exfalso; omega) | omega
theorem dec_ne (u : Nat) : Lib.decDigits u ≠ [] := by
  by_cases h : u < 10
  · rw [dec_small h]; simp
  · rw [dec_big h]; simp
theorem dec_order : ∀ a b : Nat, magn (Lib.decDigits a) (Lib.decDigits b) = sgn a b := by
  intro a
  induction a using Nat.strongRecOn with
  | ind a ih =>
    intro b
    by_cases ha : a < 10
    · by_cases hb : b < 10
      · rw [dec_small ha, dec_small hb]
        have h := mg_snoc (UInt8.ofNat (48 + a)) (UInt8.ofNat (48 + b)) [] []
        rw [List.nil_append, List.nil_append] at h
        rw [h, if_pos (show magn [] [] = 0 from rfl), sgnB_fig a b ha hb]
      · rw [dec_small ha, dec_big hb]
        have hl : 1 ≤ (Lib.decDigits (b / 10)).length := by
          have := dec_ne (b / 10)
          cases hd : Lib.decDigits (b / 10) with
          | nil => exact absurd hd this
          | cons _ _ => simp
        unfold magn sgn
        rw [if_neg (by simp only [List.length_append, List.length_singleton]; omega), if_pos (by simp only [List.length_append, List.length_singleton]; omega), if_pos (by omega)]
    · by_cases hb : b < 10
      · rw [dec_big ha, dec_small hb]
        have hl : 1 ≤ (Lib.decDigits (a / 10)).length := by
          have := dec_ne (a / 10)
          cases hd : Lib.decDigits (a / 10) with
          | nil => exact absurd hd this
          | cons _ _ => simp
        unfold magn sgn
        rw [if_neg (by simp only [List.length_append, List.length_singleton]; omega), if_neg (by simp only [List.length_append, List.length_singleton]; omega), if_neg (by omega), if_pos (by omega)]
      · rw [dec_big ha, dec_big hb, mg_snoc, ih (a / 10) (by omega) (b / 10), sgnB_fig _ _ (by omega) (by omega), sgn_ten]

theorem negL_itoa (x : Int) : negL (Lib.itoa x) = decide (x < 0) := by
  unfold Lib.itoa
  by_cases h : x < 0
  · rw [if_pos h, decide_eq_true h]; rfl
  · rw [if_neg h, decide_eq_false h]
    rcases Nat.eq_zero_or_pos x.toNat with hz | hp
    · rw [hz, dec_small (by decide)]; rfl
    · obtain ⟨c, l, e, _, h2, _⟩ := dec_head x.toNat hp
      rw [e]; exact negL_dig c l h2
theorem itoa_order (x y : Int) : cmpI (Lib.itoa x) (Lib.itoa y) = sgn x y := by
  unfold cmpI
  rw [negL_itoa, negL_itoa]
  unfold Lib.itoa
  by_cases hx : x < 0
  · by_cases hy : y < 0
    · rw [decide_eq_true hx, decide_eq_true hy, if_pos rfl, if_pos rfl, if_pos hx, if_pos hy, List.tail_cons, List.tail_cons, dec_order]
      unfold sgn
      (repeat' split) <;> first | rfl | (exfalso; omega)
    · rw [decide_eq_true hx, decide_eq_false hy, if_pos rfl, if_neg (by decide)]
      unfold sgn; rw [if_pos (by omega)]
  · by_cases hy : y < 0
    · rw [decide_eq_false hx, decide_eq_true hy, if_neg (by decide), if_pos rfl]
      unfold sgn; rw [if_neg (by omega), if_pos (by omega)]
    · rw [decide_eq_false hx, decide_eq_false hy, if_neg (by decide), if_neg (by decide), if_neg hx, if_neg hy, dec_order]
      unfold sgn
      (repeat' split) <;> first | rfl | (exfalso; omega)
theorem itoa_value (x : Int) : nInt (Lib.itoa x) = some (Lib.itoa x) := by
  unfold nInt
  rw [if_pos]
  unfold Lib.itoa
  by_cases h : x < 0
  · rw [if_pos h]
    obtain ⟨c, l, e, h1, h2, h3⟩ := dec_head x.natAbs (by omega)
    rw [e]; exact intOk_neg c l h2 h1 h3
  · rw [if_neg h]
    rcases Nat.eq_zero_or_pos x.toNat with hz | hp
    · rw [hz, dec_small (by decide)]; rfl
    · obtain ⟨c, l, e, h1, h2, h3⟩ := dec_head x.toNat hp
      rw [e]; exact intOk_dig c l h2 h1 h3

theorem parse_snoc (M : Nat) (c : UInt8) : ∀ (l : Bytes) (acc : Nat), Lib.parseUintM M acc (l ++ [c]) = match Lib.parseUintM M acc l with | .ok v => Lib.parseUintM M v [c] | .syntax => .syntax | .range => .range
  | [], acc => by
    rw [List.nil_append, show Lib.parseUintM M acc [] = .ok acc from rfl]
  | d :: l, acc => by
    rw [List.cons_append]
    conv => lhs; unfold Lib.parseUintM
    conv => rhs; unfold Lib.parseUintM
    split
    · split
      · rfl
      · split
        · rfl
        · exact parse_snoc M c l _
    · rfl
theorem parse_dec : ∀ u : Nat, u < 18446744073709551616 → Lib.parseUintM (2 ^ 64 - 1) 0 (Lib.decDigits u) = .ok u := by
  intro u
  have hM : (2 : Nat) ^ 64 - 1 = 18446744073709551615 := by decide
  rw [hM]
  have step : ∀ v k : Nat, k < 10 → v * 10 + k < 18446744073709551616 → Lib.parseUintM 18446744073709551615 v [UInt8.ofNat (48 + k)] = .ok (v * 10 + k) := by
    intro v k hk hv
    unfold Lib.parseUintM
    rw [fig_nat k hk, if_pos (by omega), if_neg (by omega), if_neg (by omega)]
    unfold Lib.parseUintM
    congr 1; omega
  induction u using Nat.strongRecOn with
  | ind u ih =>
    intro hu
    by_cases h : u < 10
    · rw [dec_small h]
      have := step 0 u h (by omega)
      rw [this]; congr 1; omega
    · rw [dec_big h, parse_snoc, ih (u / 10) (by omega) (by omega)]
      dsimp only
      rw [step (u / 10) (u % 10) (by omega) (by omega)]
      congr 1; omega
theorem parse_itoa (x : Int) (h0 : -9223372036854775808 ≤ x) (h1 : x ≤ 9223372036854775807) : Lib.parseIntB 64 (Lib.itoa x) = .ok x := by
  have h63 : (2 : Nat) ^ (64 - 1) = 9223372036854775808 := by decide
  unfold Lib.itoa
  by_cases h : x < 0
  · rw [if_pos h]
    unfold Lib.parseIntB Lib.parseUintB
    simp only [show (45 : UInt8).toNat = 45 from rfl, or_true, if_true]
    rw [if_neg (dec_ne _), parse_dec _ (by omega)]
    simp only [not_true_eq_false, false_and, if_false, true_and, h63, if_true]
    rw [if_neg (by omega)]
    congr 1; omega
  · rw [if_neg h]
    obtain ⟨c, l, e, hc⟩ : ∃ c l, Lib.decDigits x.toNat = c :: l ∧ digitB c = true := by
      rcases Nat.eq_zero_or_pos x.toNat with hz | hp
      · rw [hz, dec_small (by decide)]; exact ⟨_, _, rfl, by decide⟩
      · obtain ⟨c, l, e, _, h2, _⟩ := dec_head x.toNat hp; exact ⟨c, l, e, h2⟩
    have hp := parse_dec x.toNat (by omega)
    have hcd := (digit_iff c).1 hc
    rw [e] at hp ⊢
    unfold Lib.parseIntB Lib.parseUintB
    simp only [show ¬ c.toNat = 43 by omega, show ¬ c.toNat = 45 by omega, or_self, if_false]
    rw [if_neg (by simp), hp]
    simp only [not_false_eq_true, true_and, false_and, if_false, h63]
    rw [if_neg (by omega)]
    congr 1; omega

end Go.Proofs.YthopanlkjdcgmaaGreatDoor.Plain

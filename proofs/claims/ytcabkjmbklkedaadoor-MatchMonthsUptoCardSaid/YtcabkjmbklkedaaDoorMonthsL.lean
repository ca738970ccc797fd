/- MatchMonths: the plain law: what the reader of times makes of a text of digits. -/
import Derived.Test.YtcabkjmbklkedaaDoorMonthsF
namespace Go.Proofs.YtcabkjmbklkedaaDoor.W
open Go.RowKit Go.Proofs.YtcabkjmbklkedaaDoor.Plain

theorem two_dig (n : Nat) (h : n < 100) : allL digitB (twoL n) = true ∧ numVal (twoL n) = n := by
  have a := ofNat_int (48 + n / 10) (by omega)
  have b := ofNat_int (48 + n % 10) (by omega)
  constructor
  · have hd : ∀ k : Nat, k < 10 → digitB (UInt8.ofNat (48 + k)) = true := by decide
    rw [allL_eq]; unfold twoL
    simp only [List.all_cons, List.all_nil, Bool.and_true, hd (n / 10) (by omega), hd (n % 10) (by omega)]
  · unfold numVal twoL
    simp only [List.foldl_cons, List.foldl_nil]
    rw [a, b]; omega
theorem numR_two (n : Nat) (h : n < 100) (lo hi : Int) (r : Bytes) :
    numR 2 lo hi (twoL n ++ r) = if (n : Int) < lo ∨ hi < n then (lo, r, false) else ((n : Int), r, true) := by
  have ht : (twoL n ++ r).take 2 = twoL n := rfl
  have hd : (twoL n ++ r).drop 2 = r := rfl
  unfold numR
  rw [ht, hd, (two_dig n h).1, (two_dig n h).2, if_neg (by simp [twoL])]
theorem numVal_four (a b : Nat) (ha : a < 100) (hb : b < 100) : numVal (twoL a ++ twoL b) = ((100 * a + b : Nat) : Int) := by
  have a1 := ofNat_int (48 + a / 10) (by omega)
  have a2 := ofNat_int (48 + a % 10) (by omega)
  have b1 := ofNat_int (48 + b / 10) (by omega)
  have b2 := ofNat_int (48 + b % 10) (by omega)
  unfold numVal twoL
  simp only [List.cons_append, List.nil_append, List.foldl_cons, List.foldl_nil]
  rw [a1, a2, b1, b2]; omega
theorem numR_four (y : Nat) (h : y ≤ 9999) (r : Bytes) : numR 4 0 9999 (twoL (y / 100) ++ (twoL (y % 100) ++ r)) = ((y : Int), r, true) := by
  have ht : (twoL (y / 100) ++ (twoL (y % 100) ++ r)).take 4 = twoL (y / 100) ++ twoL (y % 100) := rfl
  have hd : (twoL (y / 100) ++ (twoL (y % 100) ++ r)).drop 4 = r := rfl
  have hall : allL digitB (twoL (y / 100) ++ twoL (y % 100)) = true := by
    rw [allL_eq, List.all_append, ← allL_eq, ← allL_eq, (two_dig _ (by omega)).1, (two_dig _ (by omega)).1]; rfl
  have hv := numVal_four (y / 100) (y % 100) (by omega) (by omega)
  unfold numR
  rw [ht, hd, hall, hv, if_neg (by simp [twoL]), if_neg (by omega), show (100 * (y / 100) + y % 100) = y by omega]

theorem timeN_of {it : Int → Bytes} {l l1 l2 l3 l4 : Bytes} {y m d h : Int} {g1 g2 g3 g4 : Bool} (h1 : numR 4 0 9999 l = (y, l1, g1)) (h2 : numR 2 1 12 l1 = (m, l2, g2))
    (h3 : numR 2 1 (daysI y m) l2 = (d, l3, g3)) (h4 : numR 2 0 23 l3 = (h, l4, g4)) : timeN it l = zoneT it y m d h (midR (true && g1 && g2 && g3 && g4) l4) := by
  unfold timeN; simp only [h1, h2, h3, h4]
/-- the first four figures of a time, all in bounds: what is left is 'rest' -/
theorem time_head (it : Int → Bytes) (y m d : Nat) (hy : y ≤ 9999) (hm0 : 1 ≤ m) (hm1 : m ≤ 12) (hd0 : 1 ≤ d) (hd1 : d < 100) (h : Nat) (hh : h < 24) (r : Bytes) :
    timeN it (twoL (y / 100) ++ (twoL (y % 100) ++ (twoL m ++ (twoL d ++ (twoL h ++ r))))) =
      if (d : Int) ≤ daysI y m then zoneT it y m d h (midR true r) else none := by
  have h1 := numR_four y hy (twoL m ++ (twoL d ++ (twoL h ++ r)))
  have h2 := numR_two m (by omega) 1 12 (twoL d ++ (twoL h ++ r))
  rw [if_neg (by omega)] at h2
  have h3 := numR_two d hd1 1 (daysI y m) (twoL h ++ r)
  have h4 := numR_two h (by omega) 0 23 r
  rw [if_neg (by omega)] at h4
  by_cases hb : (d : Int) ≤ daysI y m
  · rw [if_neg (by omega)] at h3
    rw [if_pos hb, timeN_of h1 h2 h3 h4]
    rfl
  · rw [if_pos (by omega)] at h3
    rw [if_neg hb, timeN_of h1 h2 h3 h4]
    rfl

theorem end_in (it : Int → Bytes) (y : Nat) (m d n : Int) (hy : y ≤ 9999) (h0 : 0 ≤ n) (h1 : n < 1440) : endT it (forth (back ⟨(y : Int), m, d, n⟩)) 0 [] = some (clockText it ⟨(y : Int), m, d, n⟩ 0 []) := by
  rw [back_id _ _ _ _ h0, forth_id _ _ _ _ h1]; unfold endT; rw [if_neg (by dsimp only; omega)]
/-- '..00Z' -/
theorem time_day (it : Int → Bytes) (y m d : Nat) (hy : y ≤ 9999) (hm0 : 1 ≤ m) (hm1 : m ≤ 12) (hd0 : 1 ≤ d) (hd1 : d < 100) :
    timeN it (twoL (y / 100) ++ (twoL (y % 100) ++ (twoL m ++ (twoL d ++ [48, 48, 90])))) =
      if (d : Int) ≤ daysI y m then some (clockText it ⟨(y : Int), m, d, 0⟩ 0 []) else none := by
  have h := time_head it y m d hy hm0 hm1 hd0 hd1 0 (by omega) [90]
  rw [show twoL 0 ++ [90] = [48, 48, 90] from rfl] at h
  rw [h]
  have hz : zoneT it y m d ((0 : Nat) : Int) (midR true [90]) = endT it (forth (back ⟨(y : Int), m, d, 0⟩)) 0 [] := rfl
  rw [hz, end_in it y m d 0 hy (by omega) (by omega)]
/-- '..0030Z' -/
theorem time_half (it : Int → Bytes) (y m d : Nat) (hy : y ≤ 9999) (hm0 : 1 ≤ m) (hm1 : m ≤ 12) (hd0 : 1 ≤ d) (hd1 : d < 100) :
    timeN it (twoL (y / 100) ++ (twoL (y % 100) ++ (twoL m ++ (twoL d ++ [48, 48, 51, 48, 90])))) =
      if (d : Int) ≤ daysI y m then some (clockText it ⟨(y : Int), m, d, 30⟩ 0 []) else none := by
  have h := time_head it y m d hy hm0 hm1 hd0 hd1 0 (by omega) [51, 48, 90]
  rw [show twoL 0 ++ [51, 48, 90] = [48, 48, 51, 48, 90] from rfl] at h
  rw [h]
  have hz : zoneT it y m d ((0 : Nat) : Int) (midR true [51, 48, 90]) = endT it (forth (back ⟨(y : Int), m, d, 30⟩)) 0 [] := rfl
  rw [hz, end_in it y m d 30 hy (by omega) (by omega)]
/-- '..2330-0100' on a month's last day -/
theorem time_eve (it : Int → Bytes) (y m d : Nat) (hy : y ≤ 9999) (hm0 : 1 ≤ m) (hm1 : m ≤ 12) (hd0 : 1 ≤ d) (hd1 : d < 100) (hl : daysI y m = (d : Int)) :
    timeN it (twoL (y / 100) ++ (twoL (y % 100) ++ (twoL m ++ (twoL d ++ [50, 51, 51, 48, 45, 48, 49, 48, 48])))) =
      if m = 12 then (if y = 9999 then none else some (clockText it ⟨(y : Int) + 1, 1, 1, 30⟩ 0 [])) else some (clockText it ⟨(y : Int), (m : Int) + 1, 1, 30⟩ 0 []) := by
  have h := time_head it y m d hy hm0 hm1 hd0 hd1 23 (by omega) [51, 48, 45, 48, 49, 48, 48]
  rw [show twoL 23 ++ [51, 48, 45, 48, 49, 48, 48] = [50, 51, 51, 48, 45, 48, 49, 48, 48] from rfl] at h
  rw [h, if_pos (by omega)]
  have hz : zoneT it y m d ((23 : Nat) : Int) (midR true [51, 48, 45, 48, 49, 48, 48]) = endT it (forth (back ⟨(y : Int), m, d, 1470⟩)) 0 [] := rfl
  rw [hz, back_id _ _ _ _ (by omega)]
  unfold forth
  dsimp only
  rw [if_pos (by omega), if_pos (by omega)]
  by_cases h12 : m = 12
  · rw [if_pos (by omega), if_pos h12]
    unfold endT
    by_cases h9 : y = 9999
    · rw [if_pos h9, if_pos (.inr (by dsimp only; omega))]
    · rw [if_neg h9, if_neg (by dsimp only; omega)]; rfl
  · rw [if_neg (by omega), if_neg h12]
    unfold endT
    rw [if_neg (by dsimp only; omega)]; rfl
/-- '000001010030+0100' -/
theorem time_first (it : Int → Bytes) : timeN it [48, 48, 48, 48, 48, 49, 48, 49, 48, 48, 51, 48, 43, 48, 49, 48, 48] = none := by
  have h := time_head it 0 1 1 (by omega) (by omega) (by omega) (by omega) (by omega) 0 (by omega) [51, 48, 43, 48, 49, 48, 48]
  have e : (twoL (0 / 100) ++ (twoL (0 % 100) ++ (twoL 1 ++ (twoL 1 ++ (twoL 0 ++ [51, 48, 43, 48, 49, 48, 48]))))) = [48, 48, 48, 48, 48, 49, 48, 49, 48, 48, 51, 48, 43, 48, 49, 48, 48] := rfl
  rw [e] at h
  rw [h, if_pos (by decide)]
  rfl

theorem pad_one (T : Nat → Int) : padL (itT T) 1 2 = [48, 49] := by
  unfold padL itT; rw [if_pos (by decide), show (1 : Int).toNat = 1 from rfl, Lib.decDigits_one (by omega)]; rfl
theorem pad_two (T : Nat → Int) (d : Nat) (h1 : 10 ≤ d) (h2 : d < 100) : padL (itT T) d 2 = twoL d := by
  unfold padL itT; rw [if_pos (by omega), show (d : Int).toNat = d from rfl, Lib.decDigits_two (by omega) h2]; rfl
theorem day_ne (T : Nat → Int) (y m : Int) (d : Nat) (h1 : 10 ≤ d) (h2 : d < 100) : clockText (itT T) ⟨y, m, d, 0⟩ 0 [] ≠ clockText (itT T) ⟨y, m, 1, 0⟩ 0 [] := by
  intro h
  unfold clockText at h
  dsimp only at h
  rw [pad_one, pad_two T d h1 h2] at h
  simp only [List.append_assoc] at h
  have h2 := List.append_cancel_left (List.append_cancel_left h)
  have h3 : (twoL d).take 2 = [48, 49] := by
    have := congrArg (List.take 2) h2
    simpa [twoL] using this
  have h4 : UInt8.ofNat (48 + d / 10) = 48 := by simpa [twoL] using (List.cons.inj h3).1
  have h5 := congrArg (fun c : UInt8 => (c.toNat : Int)) h4
  rw [ofNat_int _ (by omega)] at h5
  have : ((48 : UInt8).toNat : Int) = 48 := rfl
  omega

end Go.Proofs.YtcabkjmbklkedaaDoor.W

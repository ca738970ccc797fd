/- MatchMonths: the plain facts that its walk wants. -/
import Derived.Test.YtcabkjmbklkedaaDoorMonthsL
namespace Go.Proofs.YtcabkjmbklkedaaDoor.W
open Go.RowKit Go.Proofs.YtcabkjmbklkedaaDoor.Plain

def ymL (y m : Nat) : Bytes := twoL (y / 100) ++ twoL (y % 100) ++ twoL m
theorem ym_day (it : Int → Bytes) (y m d : Nat) (hy : y ≤ 9999) (hm0 : 1 ≤ m) (hm1 : m ≤ 12) (hd0 : 1 ≤ d) (hd1 : d < 100) :
    timeN it (ymL y m ++ twoL d ++ [48, 48, 90]) = if (d : Int) ≤ daysI y m then some (clockText it ⟨(y : Int), m, d, 0⟩ 0 []) else none := by
  rw [← time_day it y m d hy hm0 hm1 hd0 hd1]; unfold ymL; simp only [List.append_assoc]
theorem ym_one (it : Int → Bytes) (y m : Nat) (hy : y ≤ 9999) (hm0 : 1 ≤ m) (hm1 : m ≤ 12) :
    timeN it (ymL y m ++ [48, 49] ++ [48, 48, 90]) = some (clockText it ⟨(y : Int), m, 1, 0⟩ 0 []) := by
  have h := ym_day it y m 1 hy hm0 hm1 (by omega) (by omega)
  rw [if_pos (by have := daysI_range y m; omega)] at h
  exact h
theorem eqT_self (a : Bytes) : eqT (some a) (some a) = 2 := by rw [eqT_some, if_pos rfl]

structure MonthFacts (tn : Bytes → Option Bytes) (y m D : Nat) : Prop where
  d0 : 28 ≤ D
  d1 : D ≤ 31
  dm : m = 2 ↔ D < 30
  dl : m = 2 → (leapI y = true ↔ D = 29)
  e1 : ∀ d, 28 ≤ d → d ≤ 31 → eqT (tn (ymL y m ++ twoL d ++ [48, 48, 90])) (tn (ymL y m ++ [48, 49] ++ [48, 48, 90])) = 0
  e2 : ∀ d, 28 ≤ d → d ≤ 31 → eqT (tn (ymL y m ++ twoL d ++ [48, 48, 90])) (tn (ymL y m ++ twoL d ++ [48, 48, 90])) = if d ≤ D then 2 else 1
  e3 : y = 9999 → m = 12 → eqT (tn (ymL y m ++ twoL D ++ [50, 51, 51, 48, 45, 48, 49, 48, 48])) (tn (ymL y m ++ [48, 49, 48, 48, 90])) = 0 ∧
    eqT (tn [48, 48, 48, 48, 48, 49, 48, 49, 48, 48, 51, 48, 43, 48, 49, 48, 48]) (tn (ymL y m ++ [48, 49, 48, 48, 90])) = 0
  e4 : y < 9999 → m = 12 → eqT (tn (ymL y m ++ twoL D ++ [50, 51, 51, 48, 45, 48, 49, 48, 48])) (tn (ymL (y + 1) 1 ++ [48, 49, 48, 48, 51, 48, 90])) = 2
  e5 : m < 12 → eqT (tn (ymL y m ++ twoL D ++ [50, 51, 51, 48, 45, 48, 49, 48, 48])) (tn (ymL y (m + 1) ++ [48, 49, 48, 48, 51, 48, 90])) = 2

theorem month_facts (T : Nat → Int) (y m : Nat) (hy : y ≤ 9999) (hm0 : 1 ≤ m) (hm1 : m ≤ 12) : MonthFacts (timeN (itT T)) y m (daysI y m).toNat := by
  have hr := daysI_range y m
  obtain ⟨D, hD⟩ : ∃ D : Nat, daysI y m = D := ⟨(daysI y m).toNat, by omega⟩
  have hD2 : (daysI y m).toNat = D := by omega
  rw [hD2]
  rw [hD] at hr
  have heve : timeN (itT T) (ymL y m ++ twoL D ++ [50, 51, 51, 48, 45, 48, 49, 48, 48]) =
      if m = 12 then (if y = 9999 then none else some (clockText (itT T) ⟨(y : Int) + 1, 1, 1, 30⟩ 0 [])) else some (clockText (itT T) ⟨(y : Int), (m : Int) + 1, 1, 30⟩ 0 []) := by
    rw [← time_eve (itT T) y m D hy hm0 hm1 (by omega) (by omega) hD]; unfold ymL; simp only [List.append_assoc]
  have hhalf : ∀ y' m' : Nat, y' ≤ 9999 → 1 ≤ m' → m' ≤ 12 → timeN (itT T) (ymL y' m' ++ [48, 49, 48, 48, 51, 48, 90]) = some (clockText (itT T) ⟨(y' : Int), m', 1, 30⟩ 0 []) := fun y' m' h1 h2 h3 => by
    have h := time_half (itT T) y' m' 1 h1 h2 h3 (by omega) (by omega)
    rw [if_pos (by have := daysI_range y' m'; omega)] at h
    refine Eq.trans ?_ h; unfold ymL; simp only [List.append_assoc]; rfl
  have hone := ym_one (itT T) y m hy hm0 hm1
  refine ⟨by omega, by omega, ?_, ?_, ?_, ?_, ?_, ?_, ?_⟩
  · unfold daysI at hD; split at hD
    · omega
    · split at hD
      · split at hD <;> omega
      · omega
  · intro h2; subst h2
    unfold daysI at hD; rw [if_neg (by decide), if_pos (by decide)] at hD
    split at hD
    · rename_i hl; exact ⟨fun _ => by omega, fun _ => hl⟩
    · rename_i hl; exact ⟨fun h => absurd h hl, fun h => by omega⟩
  · intro d h1 h2
    rw [hone, ym_day (itT T) y m d hy hm0 hm1 (by omega) (by omega), hD]
    split
    · rw [eqT_some, if_neg (day_ne T y m d (by omega) (by omega))]
    · rfl
  · intro d h1 h2
    rw [ym_day (itT T) y m d hy hm0 hm1 (by omega) (by omega), hD]
    by_cases hd : d ≤ D
    · rw [if_pos (by omega), if_pos hd, eqT_self]
    · rw [if_neg (by omega), if_neg hd]; rfl
  · intro h1 h2
    have ho : timeN (itT T) (ymL y m ++ [48, 49, 48, 48, 90]) = some (clockText (itT T) ⟨(y : Int), m, 1, 0⟩ 0 []) := by rw [← hone]; simp only [List.append_assoc]; rfl
    rw [heve, if_pos h2, if_pos h1, ho, time_first]
    exact ⟨rfl, rfl⟩
  · intro h1 h2
    rw [heve, if_pos h2, if_neg (by omega), hhalf (y + 1) 1 (by omega) (by omega) (by omega)]
    exact eqT_self _
  · intro h1
    rw [heve, if_neg (by omega), hhalf y (m + 1) hy (by omega) (by omega)]
    exact eqT_self _

end Go.Proofs.YtcabkjmbklkedaaDoor.W

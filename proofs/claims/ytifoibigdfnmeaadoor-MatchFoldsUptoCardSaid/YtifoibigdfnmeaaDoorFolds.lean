/- MatchFolds holds at every text of bulk at most 1048576: case and blanks around make no difference to SynText and SynIA5, case does to SynExact. Conditions: the package variable match.kinds holds what the program's text lays. -/
import Derived.Test.YtifoibigdfnmeaaDoorFoldsP
import Derived.Test.YtifoibigdfnmeaaDoorPureC
namespace Go.Proofs.YtifoibigdfnmeaaDoor
open Go.Proofs.YtifoibigdfnmeaaDoor.W Go.Proofs.YtifoibigdfnmeaaDoor.Plain

namespace folds
theorem fold_swapB (c : UInt8) : foldB (swapB c) = foldB c := by
  rw [← UInt8.toNat_inj]
  by_cases h1 : 97 ≤ (c.toNat : Int) ∧ (c.toNat : Int) ≤ 122
  · have a := swapB_small c h1.1 h1.2
    have b := foldB_yes (swapB c) (by omega) (by omega)
    rw [foldB_no c (by omega)]; omega
  by_cases h2 : 65 ≤ (c.toNat : Int) ∧ (c.toNat : Int) ≤ 90
  · have a := swapB_capital c h2.1 h2.2
    have b := foldB_yes c h2.1 h2.2
    rw [foldB_no (swapB c) (by omega)]; omega
  rw [swapB_no c (by omega)]
theorem fold_swap (l : Bytes) : fold (swapL l) = fold l := by
  unfold fold swapL
  rw [List.map_map]
  exact List.map_congr_left fun c _ => fold_swapB c
theorem soft_swap : Soft swapB := by
  refine ⟨fun c h => swapB_no c (by omega), fun c h => ?_, fun c => ?_, fun c h => ?_⟩
  · by_cases h1 : 97 ≤ (c.toNat : Int) ∧ (c.toNat : Int) ≤ 122
    · have := swapB_small c h1.1 h1.2; omega
    by_cases h2 : 65 ≤ (c.toNat : Int) ∧ (c.toNat : Int) ≤ 90
    · have := swapB_capital c h2.1 h2.2; omega
    rw [swapB_no c (by omega)]; exact h
  · by_cases h1 : 97 ≤ (c.toNat : Int) ∧ (c.toNat : Int) ≤ 122
    · have := swapB_small c h1.1 h1.2
      rw [soft_fold.not_blank _ (by omega), soft_fold.not_blank _ (by omega)]
    by_cases h2 : 65 ≤ (c.toNat : Int) ∧ (c.toNat : Int) ≤ 90
    · have := swapB_capital c h2.1 h2.2
      rw [soft_fold.not_blank _ (by omega), soft_fold.not_blank _ (by omega)]
    rw [swapB_no c (by omega)]
  · have := soft_fold.blank_small c h
    exact swapB_no c (by omega)
theorem swap_nil (l : Bytes) : swapL l = [] ↔ l = [] := by unfold swapL; simp
theorem exact_swap (l : Bytes) : nExact (swapL l) = (nExact l).map swapL := by
  unfold nExact
  by_cases h : l = []
  · rw [if_pos h, if_pos ((swap_nil l).2 h)]; rfl
  · rw [if_neg h, if_neg (fun e => h ((swap_nil l).1 e))]
    have hu : utfL (swapL l) = utfL l := utf_soft soft_swap _ l (Nat.le_refl _)
    have hq : squeeze (swapL l) = swapL (squeeze l) := squeeze_soft soft_swap l
    rw [hu, hq]
    cases utfL l <;> rfl
theorem text_swap (l : Bytes) : nText (swapL l) = nText l := by unfold nText; rw [fold_swap]
theorem lowF_swap (l : Bytes) : nLowF (swapL l) = nLowF l := by unfold nLowF; rw [fold_swap]
theorem eqT_self (a : Bytes) : eqT (some a) (some a) = 2 := by rw [eqT_some, if_pos rfl]
/-- letters that the change leaves: none -/
theorem swap_same (l : Bytes) (h : swapL (squeeze l) = squeeze l) : swapL l = l := by
  have h1 : ∀ c ∈ squeeze l, swapB c = c := by
    intro c hc
    obtain ⟨j, hj, rfl⟩ := List.mem_iff_getElem.1 hc
    have h2 : (swapL (squeeze l))[j]? = (squeeze l)[j]? := by rw [h]
    unfold swapL at h2
    rw [List.getElem?_map, List.getElem?_eq_getElem hj] at h2
    exact Option.some.inj h2
  unfold swapL
  conv => rhs; rw [← List.map_id l]
  apply List.map_congr_left
  intro c hc
  cases hb : blankB c with
  | true => exact soft_swap.space c hb
  | false => exact h1 c (mem_squeeze_back l c hb hc)
theorem pad_exact (a l b : Bytes) (h0 : l ≠ []) (hu : utfL l = true) (ha : ∀ c ∈ a, blankB c = true) (hb : ∀ c ∈ b, blankB c = true) : nExact (a ++ l ++ b) = some (squeeze l) := by
  have low : ∀ c, blankB c = true → (c.toNat : Int) < 128 := fun c h => by have := soft_fold.blank_small c h; omega
  have h1 : a ++ l ++ b ≠ [] := by simp [h0]
  have h2 : utfL (a ++ l ++ b) = true := by
    rw [List.append_assoc, utf_ahead a _ (fun c hc => low c (ha c hc)), utf_behind _ l b (Nat.le_refl _) hu]
    have := utf_ahead b [] (fun c hc => low c (hb c hc))
    rw [List.append_nil] at this
    rw [this]; exact utfL_nil
  unfold nExact
  rw [if_neg h1, if_pos h2, squeeze_behind _ b hb, squeeze_ahead a l ha]
theorem fig_digit (c : UInt8) : digitB (figB c) = true := by
  unfold digitB figB
  have h : (UInt8.ofNat (48 + c.toNat % 10)).toNat = 48 + c.toNat % 10 := by
    rw [UInt8.toNat_ofNat']; omega
  simp only [Bool.and_eq_true, decide_eq_true_eq, UInt8.le_iff_toNat_le, h]
  simp; omega
theorem fig_mem (l : Bytes) (c : UInt8) (h : c ∈ figL l) : digitB c = true := by
  obtain ⟨b, _, rfl⟩ := List.mem_map.1 h
  exact fig_digit b
theorem digit_range (c : UInt8) (h : digitB c = true) : 48 ≤ (c.toNat : Int) ∧ (c.toNat : Int) ≤ 57 := by
  unfold digitB at h
  simp only [Bool.and_eq_true, decide_eq_true_eq, UInt8.le_iff_toNat_le] at h
  simp at h; omega
theorem fig_drop (x : UInt8) (l : Bytes) (hx : (x.toNat : Int) < 48) : dropB x (figL l) = figL l := by
  unfold dropB
  rw [List.filter_eq_self]
  intro c hc
  have := digit_range c (fig_mem l c hc)
  have hne : c ≠ x := fun e => by rw [e] at this; omega
  simpa using hne
theorem fig_fold (l : Bytes) : fold (figL l) = figL l := by
  apply fold_fixed
  intro c hc
  have := digit_range c (fig_mem l c hc)
  exact foldB_no c (by omega)
theorem digit_print (c : UInt8) (h : digitB c = true) : printB c = true := by unfold printB; rw [h]; simp
theorem digit_num (c : UInt8) (h : digitB c = true) : numB c = true := by unfold numB; rw [h]; simp

theorem drop_append (x : UInt8) (a b : Bytes) : dropB x (a ++ b) = dropB x a ++ dropB x b := by unfold dropB; rw [List.filter_append]
theorem fold_append (a b : Bytes) : fold (a ++ b) = fold a ++ fold b := by unfold fold; rw [List.map_append]

theorem phone_a (l : Bytes) : nPhone ([43, 49, 32] ++ figL l) = some ([43, 49] ++ figL l) := by
  unfold nPhone
  rw [if_neg (by simp), if_pos]
  · rw [fold_append, fig_fold, drop_append, drop_append, fig_drop 32 l (by decide), fig_drop 45 l (by decide)]; rfl
  · rw [allL_iff]
    intro c hc
    rcases List.mem_append.1 hc with h | h
    · exact (by decide : ∀ c ∈ ([43, 49, 32] : Bytes), printB c = true) c h
    · exact digit_print c (fig_mem l c h)
theorem phone_b (l : Bytes) : nPhone ([43, 49, 45] ++ figL l ++ [32]) = some ([43, 49] ++ figL l) := by
  unfold nPhone
  rw [if_neg (by simp), if_pos]
  · rw [fold_append, fold_append, fig_fold, drop_append, drop_append, drop_append, drop_append, fig_drop 32 l (by decide), fig_drop 45 l (by decide)]
    rw [show dropB 45 (dropB 32 (fold [32])) = [] from rfl, List.append_nil]; rfl
  · rw [allL_iff]
    intro c hc
    rcases List.mem_append.1 hc with h | h
    · rcases List.mem_append.1 h with h | h
      · exact (by decide : ∀ c ∈ ([43, 49, 45] : Bytes), printB c = true) c h
      · exact digit_print c (fig_mem l c h)
    · exact (by decide : ∀ c ∈ ([32] : Bytes), printB c = true) c h
theorem num_a (l : Bytes) : nNum ([55] ++ figL l) = some ([55] ++ figL l) := by
  unfold nNum
  rw [if_neg (by simp), if_pos]
  · rw [drop_append, fig_drop 32 l (by decide)]; rfl
  · rw [allL_iff]
    intro c hc
    rcases List.mem_append.1 hc with h | h
    · exact (by decide : ∀ c ∈ ([55] : Bytes), numB c = true) c h
    · exact digit_num c (fig_mem l c h)
theorem num_b (l : Bytes) : nNum ([55, 32] ++ figL l) = some ([55] ++ figL l) := by
  unfold nNum
  rw [if_neg (by simp), if_pos]
  · rw [drop_append, fig_drop 32 l (by decide)]; rfl
  · rw [allL_iff]
    intro c hc
    rcases List.mem_append.1 hc with h | h
    · exact (by decide : ∀ c ∈ ([55, 32] : Bytes), numB c = true) c h
    · exact digit_num c (fig_mem l c h)
theorem utf_two (a b : UInt8) (ha : (a.toNat : Int) < 128) (hb : (b.toNat : Int) < 128) : utfL [a, b] = true := by
  rw [utf_ascii a _ ha, utf_ascii b _ hb]; exact utfL_nil

theorem facts (l : Bytes) : FoldsFacts l := by
  refine ⟨?_, ?_, ?_, ?_, ?_, ?_⟩
  · have h1 : nText [97, 66] = some [97, 98] := by
      show nExact [97, 98] = _
      unfold nExact; rw [if_neg (by simp), if_pos (utf_two 97 98 (by decide) (by decide))]; rfl
    have h2 : nText [65, 98] = some [97, 98] := by
      show nExact [97, 98] = _
      unfold nExact; rw [if_neg (by simp), if_pos (utf_two 97 98 (by decide) (by decide))]; rfl
    rw [h1, h2]; rfl
  · have h1 : nExact [97, 66] = some [97, 66] := by
      unfold nExact; rw [if_neg (by simp), if_pos (utf_two 97 66 (by decide) (by decide))]; rfl
    have h2 : nExact [65, 98] = some [65, 98] := by
      unfold nExact; rw [if_neg (by simp), if_pos (utf_two 65 98 (by decide) (by decide))]; rfl
    rw [h1, h2]; rfl
  · have hf : utfL (fold l) = utfL l := utf_soft soft_fold _ l (Nat.le_refl _)
    by_cases hv : l ≠ [] ∧ utfL l = true
    · right
      have ht : nText l = some (squeeze (fold l)) := by
        unfold nText nExact
        rw [if_neg (by unfold fold; simpa using hv.1), hf, if_pos hv.2]
      have he : nExact l = some (squeeze l) := by
        unfold nExact
        rw [if_neg hv.1, if_pos hv.2]
      refine ⟨?_, ?_, ?_, ?_⟩
      · rw [text_swap, ht]; exact eqT_self _
      · rw [exact_swap, he]
        show eqT (some (squeeze l)) (some (swapL (squeeze l))) = _
        rw [eqT_some]
        by_cases e : l = swapL l
        · have : squeeze l = swapL (squeeze l) := by
            have h2 : squeeze (swapL l) = swapL (squeeze l) := squeeze_soft soft_swap l
            rw [← e] at h2; exact h2
          rw [if_pos e, if_pos this]
        · rw [if_neg e, if_neg (fun h => e (swap_same l h.symm).symm)]
      · rw [he, pad_exact [32, 9] l [32, 32] hv.1 hv.2 (by decide) (by decide)]; exact eqT_self _
      · have : nText ([10] ++ swapL l ++ [32]) = some (squeeze (fold l)) := by
          unfold nText
          rw [fold_append, fold_append, fold_swap]
          exact pad_exact [10] (fold l) [32] (by unfold fold; simpa using hv.1) (by rw [hf]; exact hv.2) (by decide) (by decide)
        rw [this, ht]; exact eqT_self _
    · left
      have hn : nExact l = none ∧ nText l = none := by
        by_cases h0 : l = []
        · subst h0; exact ⟨rfl, rfl⟩
        · have hfn : fold l ≠ [] := by unfold fold; simpa using h0
          have hu : utfL l = false := by
            cases h : utfL l with
            | false => rfl
            | true => exact absurd ⟨h0, h⟩ hv
          constructor
          · unfold nExact; rw [if_neg h0, hu]; rfl
          · unfold nText nExact; rw [if_neg hfn, hf, hu]; rfl
      rw [text_swap, exact_swap, hn.1, hn.2]
      exact ⟨rfl, rfl⟩
  · rw [lowF_swap]
    cases nLowF l with
    | none => exact .inl rfl
    | some a => exact .inr (eqT_self a)
  · rw [phone_a, phone_b]; exact eqT_self _
  · rw [num_a, num_b]; exact eqT_self _
end folds

/-- MatchFolds, its card. -/
theorem MatchFolds_holds : Rows.MatchFoldsUptoCardSaid := matchFoldsRow.cardUpto folds.facts

#print axioms MatchFolds_holds
end Go.Proofs.YtifoibigdfnmeaaDoor

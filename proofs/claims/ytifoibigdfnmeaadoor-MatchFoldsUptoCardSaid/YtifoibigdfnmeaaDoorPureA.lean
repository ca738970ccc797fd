/- Plain facts: squeezing, folding, dropping and UTF-8 are firm. -/
import Derived.Test.YtifoibigdfnmeaaDoorRepl
namespace Go.Proofs.YtifoibigdfnmeaaDoor.Plain

/-! ### Squeezed texts -/
/-- no blank but single spaces; 'p': a blank stands ahead -/
def tidy : Bool → Bytes → Bool
  | _, [] => true
  | p, c :: r => if blankB c then (c == 32 && !p && tidy true r) else tidy false r
theorem blank_space : blankB 32 = true := rfl
theorem tidy_collapse (l : Bytes) : ∀ p, tidy p (collapseFrom p l) = true := by
  induction l with
  | nil => intro p; rfl
  | cons c r ih =>
    intro p
    rw [collapseFrom]
    cases hb : blankB c with
    | true =>
      cases p with
      | true => simp only [if_true]; exact ih true
      | false =>
        simp only [if_true, Bool.false_eq_true, if_false]
        rw [tidy, blank_space]; simp only [if_true]; rw [ih true]; rfl
    | false =>
      simp only [Bool.false_eq_true, if_false]
      rw [tidy, hb]; simp only [Bool.false_eq_true, if_false]; exact ih false
theorem collapse_tidy (l : Bytes) : ∀ p, tidy p l = true → collapseFrom p l = l := by
  induction l with
  | nil => intro p _; rfl
  | cons c r ih =>
    intro p h
    rw [tidy] at h
    rw [collapseFrom]
    cases hb : blankB c with
    | true =>
      rw [hb] at h
      simp only [if_true, Bool.and_eq_true, Bool.not_eq_true', beq_iff_eq] at h
      obtain ⟨⟨h1, h2⟩, h3⟩ := h
      subst h1 h2
      simp only [if_true, Bool.false_eq_true, if_false]
      rw [ih true h3]
    | false =>
      rw [hb] at h
      simp only [Bool.false_eq_true, if_false] at h ⊢
      rw [ih false h]
theorem tidy_weak (l : Bytes) (h : tidy true l = true) : tidy false l = true ∧ l.head? ≠ some 32 := by
  cases l with
  | nil => exact ⟨rfl, by simp⟩
  | cons c r =>
    rw [tidy] at h
    cases hb : blankB c with
    | true => rw [hb] at h; simp at h
    | false =>
      rw [hb] at h
      simp only [Bool.false_eq_true, if_false] at h
      refine ⟨by rw [tidy, hb]; simpa using h, ?_⟩
      intro e
      simp at e
      rw [e, blank_space] at hb; cases hb
theorem tidy_append (l m : Bytes) : ∀ p, tidy p (l ++ m) = true → tidy p l = true := by
  induction l with
  | nil => intro p _; rfl
  | cons c r ih =>
    intro p h
    rw [List.cons_append, tidy] at h
    rw [tidy]
    cases hb : blankB c with
    | true =>
      rw [hb] at h
      simp only [if_true, Bool.and_eq_true] at h ⊢
      exact ⟨h.1, ih true h.2⟩
    | false =>
      rw [hb] at h
      simp only [Bool.false_eq_true, if_false] at h ⊢
      exact ih false h
/-- ahead of a space stands none -/
theorem tidy_before (l : Bytes) : ∀ p, tidy p (l ++ [32]) = true → l.getLast? ≠ some 32 := by
  induction l with
  | nil => intro p _; simp
  | cons c r ih =>
    intro p h
    rw [List.cons_append, tidy] at h
    cases r with
    | nil =>
      intro e
      simp at e
      subst e
      rw [blank_space] at h
      simp [tidy, blank_space] at h
    | cons d r =>
      rw [List.getLast?_cons_cons]
      cases hb : blankB c with
      | true => rw [hb] at h; simp only [if_true, Bool.and_eq_true] at h; exact ih true h.2
      | false => rw [hb] at h; simp only [Bool.false_eq_true, if_false] at h; exact ih false h
theorem tidy_trimL (l : Bytes) (h : tidy false l = true) : tidy false (trimL l) = true ∧ (trimL l).head? ≠ some 32 := by
  unfold trimL
  by_cases e : l.head? = some 32
  · rw [if_pos e]
    cases l with
    | nil => simp at e
    | cons c r =>
      simp at e
      subst e
      rw [tidy, blank_space] at h
      simp only [if_true, Bool.and_eq_true] at h
      exact tidy_weak r h.2
  · rw [if_neg e]; exact ⟨h, e⟩
theorem last_split (l : Bytes) (c : UInt8) (h : l.getLast? = some c) : l = l.dropLast ++ [c] := by
  have hne : l ≠ [] := by intro e; rw [e] at h; cases h
  have := List.dropLast_concat_getLast hne
  rw [List.getLast?_eq_some_getLast hne] at h
  rw [Option.some.inj h] at this
  exact this.symm
theorem head_append (a b : Bytes) (h : (a ++ b).head? ≠ some 32) : a.head? ≠ some 32 := by
  cases a with
  | nil => simp
  | cons c r => simpa using h
theorem tidy_trimR (l : Bytes) (h : tidy false l = true) (hh : l.head? ≠ some 32) : tidy false (trimR l) = true ∧ (trimR l).head? ≠ some 32 ∧ (trimR l).getLast? ≠ some 32 := by
  unfold trimR
  by_cases e : l.getLast? = some 32
  · rw [if_pos e]
    have hs := last_split l 32 e
    rw [hs] at h hh
    exact ⟨tidy_append _ _ _ h, head_append _ _ hh, tidy_before _ _ h⟩
  · rw [if_neg e]; exact ⟨h, hh, e⟩
theorem squeeze_fixed (l : Bytes) (h : tidy false l = true) (hh : l.head? ≠ some 32) (hl : l.getLast? ≠ some 32) : squeeze l = l := by
  unfold squeeze collapse
  rw [collapse_tidy l false h]
  unfold trimL
  rw [if_neg hh]
  unfold trimR
  rw [if_neg hl]
theorem squeeze_idem (l : Bytes) : squeeze (squeeze l) = squeeze l := by
  have h1 := tidy_trimL (collapse l) (tidy_collapse l false)
  have h2 := tidy_trimR _ h1.1 h1.2
  exact squeeze_fixed _ h2.1 h2.2.1 h2.2.2

theorem mem_collapse (l : Bytes) : ∀ p, ∀ c ∈ collapseFrom p l, c ∈ l ∨ c = 32 := by
  induction l with
  | nil => intro p c h; cases h
  | cons b r ih =>
    intro p c h
    rw [collapseFrom] at h
    split at h
    · split at h
      · rcases ih true c h with h | h
        · exact .inl (List.mem_cons_of_mem _ h)
        · exact .inr h
      · rcases List.mem_cons.1 h with h | h
        · exact .inr h
        · rcases ih true c h with h | h
          · exact .inl (List.mem_cons_of_mem _ h)
          · exact .inr h
    · rcases List.mem_cons.1 h with h | h
      · exact .inl (by rw [h]; exact List.mem_cons_self)
      · rcases ih false c h with h | h
        · exact .inl (List.mem_cons_of_mem _ h)
        · exact .inr h
theorem mem_trimL (l : Bytes) (c : UInt8) (h : c ∈ trimL l) : c ∈ l := by
  unfold trimL at h; split at h
  · exact List.mem_of_mem_tail h
  · exact h
theorem mem_trimR (l : Bytes) (c : UInt8) (h : c ∈ trimR l) : c ∈ l := by
  unfold trimR at h; split at h
  · exact List.dropLast_subset _ h
  · exact h
theorem mem_squeeze (l : Bytes) (c : UInt8) (h : c ∈ squeeze l) : c ∈ l ∨ c = 32 := mem_collapse l false c (mem_trimL _ _ (mem_trimR _ _ h))
theorem squeeze_length (l : Bytes) : (squeeze l).length ≤ l.length := by
  have h1 := collapse_length l
  have h2 : (trimL (collapse l)).length ≤ (collapse l).length := by unfold trimL; split <;> simp
  have h3 : (trimR (trimL (collapse l))).length ≤ (trimL (collapse l)).length := by unfold trimR; split <;> simp
  unfold squeeze; omega

/-! ### Folding -/
theorem foldB_idem (c : UInt8) : foldB (foldB c) = foldB c := by
  by_cases h : 65 ≤ (c.toNat : Int) ∧ (c.toNat : Int) ≤ 90
  · have h1 := foldB_yes c h.1 h.2
    exact foldB_no _ (by omega)
  · rw [foldB_no c (by omega), foldB_no c (by omega)]
theorem fold_fixed (l : Bytes) (h : ∀ c ∈ l, foldB c = c) : fold l = l := by
  unfold fold
  conv => rhs; rw [← List.map_id l]
  exact List.map_congr_left h
theorem mem_fold (l : Bytes) (c : UInt8) (h : c ∈ fold l) : foldB c = c := by
  obtain ⟨b, _, rfl⟩ := List.mem_map.1 h
  exact foldB_idem b
theorem fold_idem (l : Bytes) : fold (fold l) = fold l := fold_fixed _ (mem_fold l)
theorem fold_squeeze (l : Bytes) : fold (squeeze (fold l)) = squeeze (fold l) := by
  apply fold_fixed
  intro c hc
  rcases mem_squeeze _ c hc with h | h
  · exact mem_fold l c h
  · rw [h]; rfl
theorem fold_len (l : Bytes) : (fold l).length = l.length := by simp [fold]

/-! ### Bytes below 128, digits and the like -/
theorem asciiL_iff (l : Bytes) : asciiL l = true ↔ ∀ c ∈ l, c ≤ 127 := by
  induction l with
  | nil => simp [asciiL]
  | cons c r ih =>
    rw [asciiL]
    by_cases h : 127 < c
    · rw [if_pos h]
      constructor
      · intro e; cases e
      · intro e
        have h2 := e c List.mem_cons_self
        rw [UInt8.lt_iff_toNat_lt] at h; rw [UInt8.le_iff_toNat_le] at h2; omega
    · rw [if_neg h, ih]
      have h2 : c ≤ 127 := by rw [UInt8.lt_iff_toNat_lt] at h; rw [UInt8.le_iff_toNat_le]; omega
      simp [h2]
theorem allL_iff (p : UInt8 → Bool) (l : Bytes) : allL p l = true ↔ ∀ c ∈ l, p c = true := by
  rw [allL_eq]; simp
theorem dropB_idem (c : UInt8) (l : Bytes) : dropB c (dropB c l) = dropB c l := by
  unfold dropB; simp [List.filter_filter]
theorem mem_dropB (a c : UInt8) (l : Bytes) (h : a ∈ dropB c l) : a ∈ l := (List.mem_filter.1 h).1
theorem dropB_len (c : UInt8) (l : Bytes) : (dropB c l).length ≤ l.length := List.length_filter_le _ _
theorem dropB_comm (a b : UInt8) (l : Bytes) : dropB a (dropB b l) = dropB b (dropB a l) := by
  unfold dropB; simp [List.filter_filter, Bool.and_comm]

end Go.Proofs.YtifoibigdfnmeaaDoor.Plain

/- Plain facts: squeezing keeps UTF-8; each syntax's normal form is firm. -/
import Derived.Test.YtifoibigdfnmeaaDoorPureA
namespace Go.Proofs.YtifoibigdfnmeaaDoor.Plain

theorem getD_take (l l' : Bytes) (n k : Nat) (h : l'.take n = l.take n) (hk : k < n) : l'.getD k 0 = l.getD k 0 := by
  have h1 : (l'.take n)[k]? = (l.take n)[k]? := by rw [h]
  rw [List.getElem?_take_of_lt hk, List.getElem?_take_of_lt hk] at h1
  rw [List.getD_eq_getElem?_getD, List.getD_eq_getElem?_getD, h1]

/-- what a sequence is: the answer of 'missing' for its first byte, and its further bytes -/
theorem seqLen_inv (l : Bytes) (h : seqLen l ≠ 0) : ∃ m lo hi, missI ((l.getD 0 0).toNat : Int) = (m, lo, hi, true) ∧ (seqLen l : Int) = m + 1 ∧ m + 1 ≤ (l.length : Int) ∧ 0 ≤ m ∧ m ≤ 3 ∧
    (3 ≤ m → goesB (l.getD 3 0) = true) ∧ (2 ≤ m → goesB (l.getD 2 0) = true) ∧ (1 ≤ m → lo ≤ ((l.getD 1 0).toNat : Int) ∧ ((l.getD 1 0).toNat : Int) ≤ hi) := by
  have hr := missI_range ((l.getD 0 0).toNat : Int)
  obtain ⟨⟨m, lo, hi, ok⟩, hm⟩ : ∃ r, missI ((l.getD 0 0).toNat : Int) = r := ⟨_, rfl⟩
  rw [hm] at hr
  simp only at hr
  refine ⟨m, lo, hi, ?_⟩
  unfold seqLen at h ⊢
  rw [hm] at h ⊢
  simp only at h ⊢
  split at h
  · exact absurd rfl h
  rename_i h1
  split at h
  · exact absurd rfl h
  rename_i h2
  split at h
  · exact absurd rfl h
  rename_i h3
  split at h
  · exact absurd rfl h
  rename_i h4
  rw [if_neg h1, if_neg h2, if_neg h3, if_neg h4]
  have hok : ok = true := by cases ok <;> simp at h1 ⊢
  refine ⟨by rw [hok], by omega, by simp [hok] at h1; omega, hr.1, hr.2, fun a => ?_, fun a => ?_, fun a => ?_⟩
  · cases hg : goesB (l.getD 3 0) <;> first | rfl | exact absurd ⟨a, hg⟩ h2
  · cases hg : goesB (l.getD 2 0) <;> first | rfl | exact absurd ⟨a, hg⟩ h3
  · constructor
    · apply Int.not_lt.1; intro b; exact h4 ⟨a, .inl b⟩
    · apply Int.not_lt.1; intro b; exact h4 ⟨a, .inr b⟩
theorem seqLen_of (l : Bytes) (m lo hi : Int) (hm : missI ((l.getD 0 0).toNat : Int) = (m, lo, hi, true)) (hl : m + 1 ≤ (l.length : Int)) (h0 : 0 ≤ m)
    (h3 : 3 ≤ m → goesB (l.getD 3 0) = true) (h2 : 2 ≤ m → goesB (l.getD 2 0) = true) (h1 : 1 ≤ m → lo ≤ ((l.getD 1 0).toNat : Int) ∧ ((l.getD 1 0).toNat : Int) ≤ hi) : (seqLen l : Int) = m + 1 := by
  unfold seqLen
  rw [hm]
  simp only
  rw [if_neg (by simp; omega), if_neg (fun ⟨a, b⟩ => by rw [h3 a] at b; cases b), if_neg (fun ⟨a, b⟩ => by rw [h2 a] at b; cases b), if_neg (fun ⟨a, b⟩ => by have := h1 a; omega)]
  omega
theorem seqLen_ext (l l' : Bytes) (h : seqLen l ≠ 0) (hp : l'.take (seqLen l) = l.take (seqLen l)) : seqLen l' = seqLen l := by
  obtain ⟨m, lo, hi, hm, hn, hl, h0, h3, g3, g2, g1⟩ := seqLen_inv l h
  have hlen : m + 1 ≤ (l'.length : Int) := by
    have h4 : (l'.take (seqLen l)).length = (l.take (seqLen l)).length := by rw [hp]
    rw [List.length_take, List.length_take] at h4
    omega
  have e0 := getD_take l l' (seqLen l) 0 hp (by omega)
  have h5 := seqLen_of l' m lo hi (by rw [e0]; exact hm) hlen h0
    (fun a => by rw [getD_take l l' (seqLen l) 3 hp (by omega)]; exact g3 a)
    (fun a => by rw [getD_take l l' (seqLen l) 2 hp (by omega)]; exact g2 a)
    (fun a => by rw [getD_take l l' (seqLen l) 1 hp (by omega)]; exact g1 a)
  omega
theorem missI_low (c : Int) (h : c < 128) : missI c = (0, 128, 191, true) := by unfold missI; rw [if_pos h]
theorem missI_zero (c m lo hi : Int) (h : missI c = (m, lo, hi, true)) : (m = 0 ∧ c < 128) ∨ (1 ≤ m ∧ 128 ≤ c ∧ 128 ≤ lo) := by
  unfold missI at h
  by_cases h1 : c < 128
  · rw [if_pos h1] at h; simp at h; omega
  rw [if_neg h1] at h
  repeat
    split at h
    · simp at h; omega
  simp at h
theorem seqLen_ascii (c : UInt8) (r : Bytes) (h : (c.toNat : Int) < 128) : seqLen (c :: r) = 1 := by
  have := seqLen_of (c :: r) 0 128 191 (missI_low _ h) (by simp only [List.length_cons]; omega) (by omega) (by omega) (by omega) (by omega)
  omega
theorem goes_high (c : UInt8) (h : goesB c = true) : 128 ≤ (c.toNat : Int) := by
  unfold goesB at h
  simp only [Bool.and_eq_true, decide_eq_true_eq] at h
  have := UInt8.le_iff_toNat_le.1 h.1
  simp at this
  omega
/-- a sequence is one byte below 128, or bytes from 128 on alone -/
theorem seqLen_high (l : Bytes) (h : seqLen l ≠ 0) : (seqLen l = 1 ∧ ((l.getD 0 0).toNat : Int) < 128) ∨ (∀ k, k < seqLen l → 128 ≤ ((l.getD k 0).toNat : Int)) := by
  obtain ⟨m, lo, hi, hm, hn, hl, h0, h3, g3, g2, g1⟩ := seqLen_inv l h
  rcases missI_zero _ _ _ _ hm with ⟨a, b⟩ | ⟨a, b, c⟩
  · exact .inl ⟨by omega, b⟩
  · refine .inr fun k hk => ?_
    have hk2 : k = 0 ∨ k = 1 ∨ k = 2 ∨ k = 3 := by omega
    rcases hk2 with rfl | rfl | rfl | rfl
    · exact b
    · have := g1 (by omega); omega
    · exact goes_high _ (g2 (by omega))
    · exact goes_high _ (g3 (by omega))
theorem utf_ascii (c : UInt8) (r : Bytes) (h : (c.toNat : Int) < 128) : utfL (c :: r) = utfL r := by
  have h1 := seqLen_ascii c r h
  rw [utfL_step (c :: r) (by simp) (by omega), h1]; rfl
theorem utf_split (l : Bytes) (h0 : l ≠ []) (h : utfL l = true) : seqLen l ≠ 0 ∧ utfL (l.drop (seqLen l)) = true := by
  have h1 : seqLen l ≠ 0 := fun e => by rw [utfL_bad l h0 e] at h; cases h
  exact ⟨h1, by rw [← utfL_step l h0 h1]; exact h⟩
theorem utf_join (a x : Bytes) (l : Bytes) (h : seqLen l ≠ 0) (ha : a = l.take (seqLen l)) : utfL (a ++ x) = utfL x := by
  have hal : a.length = seqLen l := by rw [ha, List.length_take]; have := seqLen_le l; omega
  have h1 : seqLen (a ++ x) = seqLen l := seqLen_ext l (a ++ x) h (by rw [← hal, List.take_left, hal]; exact ha)
  have h2 : a ++ x ≠ [] := by
    intro e
    have : (a ++ x).length = 0 := by rw [e]; rfl
    rw [List.length_append] at this; omega
  rw [utfL_step _ h2 (by omega), h1, ← hal, List.drop_left]
theorem blank_low (c : UInt8) (h : 128 ≤ (c.toNat : Int)) : blankB c = false := by
  unfold blankB
  cases h1 : (c == 32) with
  | true => rw [beq_iff_eq.1 h1] at h; exact absurd h (by decide)
  | false =>
    cases h2 : decide (c ≤ 13) with
    | true => have := UInt8.le_iff_toNat_le.1 (of_decide_eq_true h2); simp at this; omega
    | false => simp
theorem collapse_high (a x : Bytes) (ha : ∀ c ∈ a, blankB c = false) (h0 : a ≠ []) (p : Bool) : collapseFrom p (a ++ x) = a ++ collapseFrom false x := by
  induction a generalizing p with
  | nil => exact absurd rfl h0
  | cons c r ih =>
    rw [List.cons_append, collapseFrom, ha c List.mem_cons_self]
    simp only [Bool.false_eq_true, if_false, List.cons_append]
    by_cases hr : r = []
    · subst hr; rfl
    · rw [ih (fun d hd => ha d (List.mem_cons_of_mem _ hd)) hr]
theorem utf_collapse : ∀ (k : Nat) (l : Bytes), l.length ≤ k → utfL l = true → ∀ p, utfL (collapseFrom p l) = true := by
  intro k
  induction k with
  | zero =>
    intro l hl _ p
    obtain rfl : l = [] := List.eq_nil_of_length_eq_zero (by omega)
    exact utfL_nil
  | succ k ih =>
    intro l hl h p
    by_cases h0 : l = []
    · subst h0; exact utfL_nil
    obtain ⟨hn, hd⟩ := utf_split l h0 h
    rcases seqLen_high l hn with ⟨h1, hc⟩ | hh
    · cases l with
      | nil => exact absurd rfl h0
      | cons c r =>
        have hr : utfL r = true := by rw [h1] at hd; exact hd
        have hc' : (c.toNat : Int) < 128 := hc
        have hrl : r.length ≤ k := by simp at hl; exact hl
        rw [collapseFrom]
        split
        · split
          · exact ih r hrl hr true
          · rw [utf_ascii 32 _ (by decide)]; exact ih r hrl hr true
        · rw [utf_ascii c _ hc']; exact ih r hrl hr false
    · have hsl := seqLen_le l
      have hta : l = l.take (seqLen l) ++ l.drop (seqLen l) := (List.take_append_drop _ _).symm
      have hal : (l.take (seqLen l)).length = seqLen l := by rw [List.length_take]; omega
      rw [hta, collapse_high _ _ ?_ ?_ p, utf_join _ _ l hn rfl]
      · exact ih _ (by rw [List.length_drop]; omega) hd false
      · intro c hc
        obtain ⟨j, hj, he⟩ := List.mem_iff_getElem.1 hc
        have h2 := hh j (by omega)
        have hjl : j < l.length := by omega
        have h3 : l.getD j 0 = c := by
          rw [List.getD_eq_getElem?_getD, List.getElem?_eq_getElem hjl, ← he]; simp
        rw [h3] at h2
        exact blank_low c h2
      · intro e; rw [e] at hal; simp at hal; omega
theorem utf_trimL (l : Bytes) (h : utfL l = true) : utfL (trimL l) = true := by
  unfold trimL
  split
  · rename_i e
    cases l with
    | nil => exact h
    | cons c r => simp at e; subst e; rw [utf_ascii 32 _ (by decide)] at h; exact h
  · exact h
set_option maxRecDepth 100000 in
theorem utf_snoc : ∀ (k : Nat) (x : Bytes), x.length ≤ k → utfL (x ++ [32]) = true → utfL x = true := by
  intro k
  induction k with
  | zero =>
    intro x hx _
    obtain rfl : x = [] := List.eq_nil_of_length_eq_zero (by omega)
    exact utfL_nil
  | succ k ih =>
    intro x hx h
    by_cases h0 : x = []
    · subst h0; exact utfL_nil
    have hxl : 0 < x.length := List.length_pos_iff.2 h0
    obtain ⟨hn, hd⟩ := utf_split (x ++ [32]) (by simp) h
    obtain ⟨n, hne⟩ : ∃ n, seqLen (x ++ [32]) = n := ⟨_, rfl⟩
    have hle := seqLen_le (x ++ [32])
    have hh := seqLen_high (x ++ [32]) hn
    have hext := seqLen_ext (x ++ [32]) x hn
    rw [hne] at hn hd hle hh hext
    rw [List.length_append] at hle
    simp at hle
    by_cases hnx : n ≤ x.length
    · have h1 : seqLen x = n := hext (by rw [List.take_append_of_le_length hnx])
      rw [utfL_step x h0 (by omega), h1]
      rw [List.drop_append_of_le_length hnx] at hd
      exact ih _ (by rw [List.length_drop]; omega) hd
    · exfalso
      rcases hh with ⟨h1, _⟩ | h1
      · omega
      · have h2 := h1 x.length (by omega)
        rw [List.getD_eq_getElem?_getD, List.getElem?_append_right (Nat.le_refl _)] at h2
        simp at h2
theorem utf_trimR (l : Bytes) (h : utfL l = true) : utfL (trimR l) = true := by
  unfold trimR
  split
  · rename_i e
    rw [last_split l 32 e] at h
    exact utf_snoc _ _ (Nat.le_refl _) h
  · exact h
theorem utf_squeeze (l : Bytes) (h : utfL l = true) : utfL (squeeze l) = true :=
  utf_trimR _ (utf_trimL _ (utf_collapse _ l (Nat.le_refl _) h false))

end Go.Proofs.YtifoibigdfnmeaaDoor.Plain

/- Plain facts: changing letters' case goes through squeezing and UTF-8; blanks around a text fall away. -/
import Derived.Test.YtifoibigdfnmeaaDoorPureB
namespace Go.Proofs.YtifoibigdfnmeaaDoor.Plain

/-- a change of bytes below 128 alone, which keeps blanks and spaces -/
structure Soft (g : UInt8 → UInt8) : Prop where
  high : ∀ c : UInt8, 128 ≤ (c.toNat : Int) → g c = c
  low : ∀ c : UInt8, (c.toNat : Int) < 128 → ((g c).toNat : Int) < 128
  blank : ∀ c, blankB (g c) = blankB c
  space : ∀ c, blankB c = true → g c = c

theorem seq_soft {g : UInt8 → UInt8} (G : Soft g) (l : Bytes) (h : seqLen l ≠ 0) : seqLen (l.map g) = seqLen l := by
  rcases seqLen_high l h with ⟨h1, hc⟩ | hh
  · cases l with
    | nil => exact absurd rfl h
    | cons c r =>
      rw [h1, List.map_cons]
      exact seqLen_ascii _ _ (G.low c hc)
  · apply seqLen_ext l (l.map g) h
    rw [← List.map_take]
    conv => rhs; rw [← List.map_id (l.take (seqLen l))]
    apply List.map_congr_left
    intro c hc
    obtain ⟨j, hj, he⟩ := List.mem_iff_getElem.1 hc
    have hle := seqLen_le l
    rw [List.length_take] at hj
    have hjl : j < l.length := by omega
    have h2 := hh j (by omega)
    have h3 : l.getD j 0 = c := by
      rw [List.getD_eq_getElem?_getD, List.getElem?_eq_getElem hjl, ← he]; simp
    rw [h3] at h2
    exact G.high c h2
set_option maxRecDepth 100000 in
theorem seq_soft_back {g : UInt8 → UInt8} (G : Soft g) (l : Bytes) (h : seqLen (l.map g) ≠ 0) : seqLen l = seqLen (l.map g) := by
  rcases seqLen_high _ h with ⟨h1, hc⟩ | hh
  · cases l with
    | nil => exact absurd rfl h
    | cons c r =>
      rw [h1]
      apply seqLen_ascii
      rw [List.map_cons] at hc
      apply Int.not_le.1
      intro hb
      rw [show (g c :: r.map g).getD 0 0 = g c from rfl, G.high c hb] at hc
      omega
  · symm
    have hle := seqLen_le (l.map g)
    rw [List.length_map] at hle
    refine (seqLen_ext (l.map g) l h ?_).symm
    rw [← List.map_take]
    conv => lhs; rw [← List.map_id (l.take (seqLen (l.map g)))]
    symm
    apply List.map_congr_left
    intro c hc
    obtain ⟨j, hj, he⟩ := List.mem_iff_getElem.1 hc
    rw [List.length_take] at hj
    have hjl : j < l.length := by omega
    have h2 := hh j (by omega)
    have h3 : (l.map g).getD j 0 = g c := by
      rw [List.getD_eq_getElem?_getD, List.getElem?_map, List.getElem?_eq_getElem hjl, ← he]; simp
    rw [h3] at h2
    have h4 : 128 ≤ (c.toNat : Int) := by
      apply Int.not_lt.1
      intro hb
      have := G.low c hb
      omega
    exact G.high c h4
theorem utf_soft {g : UInt8 → UInt8} (G : Soft g) : ∀ (k : Nat) (l : Bytes), l.length ≤ k → utfL (l.map g) = utfL l := by
  intro k
  induction k with
  | zero =>
    intro l hl
    obtain rfl : l = [] := List.eq_nil_of_length_eq_zero (by omega)
    rfl
  | succ k ih =>
    intro l hl
    by_cases h0 : l = []
    · subst h0; rfl
    have h0' : l.map g ≠ [] := by simpa using h0
    by_cases hn : seqLen l = 0
    · have hn' : seqLen (l.map g) = 0 := by
        apply Classical.byContradiction
        intro e
        have := seq_soft_back G l e
        omega
      rw [utfL_bad l h0 hn, utfL_bad _ h0' hn']
    · have hs := seq_soft G l hn
      rw [utfL_step l h0 hn, utfL_step _ h0' (by omega), hs, ← List.map_drop]
      exact ih _ (by rw [List.length_drop]; omega)
theorem collapse_soft {g : UInt8 → UInt8} (G : Soft g) (l : Bytes) : ∀ p, collapseFrom p (l.map g) = (collapseFrom p l).map g := by
  have h32 : g 32 = 32 := G.space 32 rfl
  induction l with
  | nil => intro p; rfl
  | cons c r ih =>
    intro p
    rw [List.map_cons, collapseFrom, collapseFrom, G.blank]
    split
    · split
      · exact ih true
      · rw [List.map_cons, h32, ih true]
    · rw [List.map_cons, ih false]
theorem soft_32 {g : UInt8 → UInt8} (G : Soft g) (c : UInt8) : g c = 32 ↔ c = 32 := by
  constructor
  · intro h
    have hb : blankB c = true := by rw [← G.blank, h]; rfl
    rw [G.space c hb] at h; exact h
  · intro h; rw [h]; exact G.space 32 rfl
theorem trimL_soft {g : UInt8 → UInt8} (G : Soft g) (l : Bytes) : trimL (l.map g) = (trimL l).map g := by
  cases l with
  | nil => rfl
  | cons c r =>
    unfold trimL
    by_cases h : c = 32
    · rw [if_pos (by simp [(soft_32 G c).2 h]), if_pos (by simp [h])]; rfl
    · rw [if_neg (by simp; exact fun e => h ((soft_32 G c).1 e)), if_neg (by simpa using h)]
theorem trimR_soft {g : UInt8 → UInt8} (G : Soft g) (l : Bytes) : trimR (l.map g) = (trimR l).map g := by
  unfold trimR
  by_cases h : l.getLast? = some 32
  · rw [if_pos (by rw [List.getLast?_map, h]; simp [G.space 32 rfl]), if_pos h, List.map_dropLast]
  · rw [if_neg ?_, if_neg h]
    rw [List.getLast?_map]
    intro e
    obtain ⟨a, ha, hg⟩ := Option.map_eq_some_iff.1 e
    rw [(soft_32 G a).1 hg] at ha
    exact h ha
theorem squeeze_soft {g : UInt8 → UInt8} (G : Soft g) (l : Bytes) : squeeze (l.map g) = (squeeze l).map g := by
  unfold squeeze collapse
  rw [collapse_soft G, trimL_soft G, trimR_soft G]

/-! ### blanks around -/
theorem trimL_collapse (l : Bytes) : trimL (collapse l) = collapseFrom true l := by
  cases l with
  | nil => rfl
  | cons c r =>
    unfold collapse
    rw [collapseFrom, collapseFrom]
    cases hb : blankB c with
    | true => simp [trimL]
    | false =>
      simp only [Bool.false_eq_true, if_false]
      unfold trimL
      rw [if_neg]
      intro e
      simp at e
      rw [e] at hb; cases hb
theorem squeeze_eq (l : Bytes) : squeeze l = trimR (collapseFrom true l) := by unfold squeeze; rw [trimL_collapse]
theorem collapse_ahead (a x : Bytes) (ha : ∀ c ∈ a, blankB c = true) : collapseFrom true (a ++ x) = collapseFrom true x := by
  induction a with
  | nil => rfl
  | cons c r ih =>
    rw [List.cons_append, collapseFrom, ha c List.mem_cons_self]
    simp only [if_true]
    exact ih fun d hd => ha d (List.mem_cons_of_mem _ hd)
theorem squeeze_ahead (a x : Bytes) (ha : ∀ c ∈ a, blankB c = true) : squeeze (a ++ x) = squeeze x := by
  rw [squeeze_eq, squeeze_eq, collapse_ahead a x ha]
theorem collapse_last (l : Bytes) (c : UInt8) (p : Bool) (h : l.getLast? = some c) (hb : blankB c = false) : (collapseFrom p l).getLast? = some c := by
  rw [last_split l c h, collapseFrom_append]
  have : ∀ q, collapseFrom q [c] = [c] := by
    intro q; rw [collapseFrom, hb]; rfl
  rw [this, List.getLast?_concat]
theorem squeeze_behind (x b : Bytes) (hb : ∀ c ∈ b, blankB c = true) : squeeze (x ++ b) = squeeze x := by
  cases b with
  | nil => rw [List.append_nil]
  | cons d r =>
    rw [squeeze_eq, squeeze_eq, collapseFrom_append]
    have hd := hb d List.mem_cons_self
    have hr : collapseFrom true r = [] := by
      have := collapse_ahead r [] fun c hc => hb c (List.mem_cons_of_mem _ hc)
      rw [List.append_nil] at this; exact this
    cases hl : x.getLast? with
    | none => simp only [collapseFrom, hd, if_true, hr, List.append_nil]
    | some c =>
      simp only
      cases hc : blankB c with
      | true => simp only [collapseFrom, hd, if_true, hr, List.append_nil]
      | false =>
        simp only [collapseFrom, hd, if_true, Bool.false_eq_true, if_false, hr]
        have h1 := collapse_last x c true hl hc
        have h2 : trimR (collapseFrom true x) = collapseFrom true x := by
          unfold trimR
          rw [if_neg]
          rw [h1]; intro e; rw [Option.some.inj e] at hc; cases hc
        rw [h2]
        unfold trimR
        rw [if_pos List.getLast?_concat, List.dropLast_concat]
theorem utf_ahead (a x : Bytes) (ha : ∀ c ∈ a, (c.toNat : Int) < 128) : utfL (a ++ x) = utfL x := by
  induction a with
  | nil => rfl
  | cons c r ih => rw [List.cons_append, utf_ascii c _ (ha c List.mem_cons_self)]; exact ih fun d hd => ha d (List.mem_cons_of_mem _ hd)
theorem utf_behind : ∀ (k : Nat) (x b : Bytes), x.length ≤ k → utfL x = true → utfL (x ++ b) = utfL b := by
  intro k
  induction k with
  | zero =>
    intro x b hx _
    obtain rfl : x = [] := List.eq_nil_of_length_eq_zero (by omega)
    rfl
  | succ k ih =>
    intro x b hx h
    by_cases h0 : x = []
    · subst h0; rfl
    obtain ⟨hn, hd⟩ := utf_split x h0 h
    have hta : x ++ b = x.take (seqLen x) ++ (x.drop (seqLen x) ++ b) := by rw [← List.append_assoc, List.take_append_drop]
    rw [hta, utf_join _ _ x hn rfl]
    exact ih _ b (by rw [List.length_drop]; omega) hd
theorem mem_squeeze_back (l : Bytes) (c : UInt8) (hb : blankB c = false) (h : c ∈ l) : c ∈ squeeze l := by
  have h1 : ∀ p, c ∈ collapseFrom p l := by
    induction l with
    | nil => cases h
    | cons d r ih =>
      intro p
      rw [collapseFrom]
      rcases List.mem_cons.1 h with rfl | h
      · rw [hb]; simp
      · have i1 := ih h
        split
        · split
          · exact i1 true
          · exact List.mem_cons_of_mem _ (i1 true)
        · exact List.mem_cons_of_mem _ (i1 false)
  rw [squeeze_eq]
  unfold trimR
  split
  · rename_i e
    have h2 := h1 true
    rw [last_split _ 32 e] at h2
    rcases List.mem_append.1 h2 with h2 | h2
    · exact h2
    · simp at h2; rw [h2] at hb; cases hb
  · exact h1 true

theorem soft_fold : Soft foldB := by
  refine ⟨fun c h => foldB_no c (by omega), fun c h => ?_, fun c => ?_, fun c h => ?_⟩
  · by_cases h1 : 65 ≤ (c.toNat : Int) ∧ (c.toNat : Int) ≤ 90
    · have := foldB_yes c h1.1 h1.2; omega
    · rw [foldB_no c (by omega)]; exact h
  · by_cases h1 : 65 ≤ (c.toNat : Int) ∧ (c.toNat : Int) ≤ 90
    · have h2 := foldB_yes c h1.1 h1.2
      have a : blankB (foldB c) = false := not_blank _ (by omega)
      have b : blankB c = false := not_blank _ (by omega)
      rw [a, b]
    · rw [foldB_no c (by omega)]
  · apply foldB_no
    have := blank_small c h
    omega
where
  not_blank (c : UInt8) (h : 32 < (c.toNat : Int)) : blankB c = false := by
    unfold blankB
    have h1 : (c == 32) = false := beq_eq_false_iff_ne.2 (fun e => by rw [e] at h; exact absurd h (by decide))
    have h2 : decide (c ≤ 13) = false := by
      apply decide_eq_false
      intro e; have := UInt8.le_iff_toNat_le.1 e; simp at this; omega
    rw [h1, h2]; simp
  blank_small (c : UInt8) (h : blankB c = true) : (c.toNat : Int) ≤ 32 := by
    apply Int.not_lt.1
    intro e
    rw [not_blank c e] at h; cases h

end Go.Proofs.YtifoibigdfnmeaaDoor.Plain

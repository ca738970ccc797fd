/- What the library's ReplaceAll, Split and TrimPrefix give at one byte, in plain words. -/
import Derived.Test.YthopanlkjdcgmaaGreatDoorPlain
import Derived.Lib.SplitLaws
import Derived.Lib.Replace
import Derived.Lib.ReplaceLaws
import Derived.Lib.CountLaws
import Derived.Lib.IndexMore
import Derived.Lib.Strings
namespace Go.Proofs.YthopanlkjdcgmaaGreatDoor.Plain
open Go.Lib

/-- the first place of one byte: what stands ahead has none -/
theorem index_one (c : UInt8) : ∀ l : Bytes, (index l [c] = -1 ∧ c ∉ l) ∨ ∃ i : Nat, index l [c] = i ∧ i < l.length ∧ l[i]? = some c ∧ c ∉ l.take i := by
  intro l
  rcases index_spec l [c] with ⟨h, hn⟩ | ⟨i, h, hi, ho, hn⟩
  · refine .inl ⟨h, fun hm => ?_⟩
    obtain ⟨j, hj, rfl⟩ := List.mem_iff_getElem.1 hm
    have h1 := hn j (by omega)
    have h2 := occAt_iff_take l [l[j]] j (by simp; omega)
    rw [h1] at h2
    have h3 : ((l.drop j).take [l[j]].length == [l[j]]) = true := by rw [List.drop_eq_getElem_cons hj]; exact beq_iff_eq.2 rfl
    rw [h3] at h2; cases h2
  · have hc := occAt_head (s := l) (sub := [c]) (t := []) rfl ho
    have hlt : i < l.length := (List.getElem?_eq_some_iff.1 hc).1
    refine .inr ⟨i, h, hlt, hc, fun hm => ?_⟩
    obtain ⟨j, hj, he⟩ := List.mem_iff_getElem.1 hm
    have hj2 : j < i := by simp at hj; omega
    have hjl : j < l.length := by omega
    have h1 := hn j hj2
    have h2 := occAt_iff_take l [c] j (by simp; omega)
    have h3 : l[j] = c := by rw [← he]; simp
    have h4 : ((l.drop j).take [c].length == [c]) = true := by rw [List.drop_eq_getElem_cons hjl, h3]; exact beq_iff_eq.2 rfl
    rw [h1, h4] at h2; cases h2

theorem split_at (c : UInt8) (l : Bytes) (i : Nat) (h : l[i]? = some c) : l = l.take i ++ c :: l.drop (i + 1) := by
  obtain ⟨hlt, he⟩ := List.getElem?_eq_some_iff.1 h
  conv => lhs; rw [← List.take_append_drop i l, List.drop_eq_getElem_cons hlt, he]
theorem filter_none (c : UInt8) (l : Bytes) (h : c ∉ l) : l.filter (· != c) = l := by
  rw [List.filter_eq_self]
  intro a ha
  have : a ≠ c := fun e => h (e ▸ ha)
  simpa using this

/-- 'ReplaceAll(s, "c", "")' takes every c away -/
theorem replaceK_drop (c : UInt8) : ∀ (k : Nat) (l : Bytes), l.count c ≤ k → replaceK [c] [] k l = dropB c l := by
  intro k
  induction k with
  | zero =>
    intro l h
    have h0 : c ∉ l := by intro hm; have := List.count_pos_iff.2 hm; omega
    rw [replaceK, dropB, filter_none c l h0]
  | succ k ih =>
    intro l h
    rcases index_one c l with ⟨h1, hm⟩ | ⟨i, h1, hlt, hc, hm⟩
    · rw [replaceK, h1, dropB, filter_none c l hm]; rfl
    · rw [replaceK_hit [c] [] k l i h1]
      have e := split_at c l i hc
      have hcnt : (l.drop (i + 1)).count c ≤ k := by
        have h2 : l.count c = (l.take i).count c + (1 + (l.drop (i + 1)).count c) := by
          conv => lhs; rw [e, List.count_append, List.count_cons_self]
          omega
        omega
      have h3 : dropB c l = dropB c (l.take i) ++ dropB c (l.drop (i + 1)) := by
        unfold dropB
        conv => lhs; rw [e, List.filter_append, List.filter_cons]
        simp
      rw [h3]
      show l.take i ++ [] ++ replaceK [c] [] k (l.drop (i + [c].length)) = _
      rw [List.append_nil, show [c].length = 1 from rfl, ih _ hcnt]
      congr 1
      unfold dropB; rw [filter_none c _ hm]
theorem replaceAll_drop (c : UInt8) (l : Bytes) : replaceAll l [c] [] = dropB c l := by
  unfold replaceAll replace
  have h : ([c] == ([] : List UInt8)) = false := rfl
  rw [h]
  simp only [Bool.false_eq_true, if_false]
  have hn : replaceNum l [c] (-1) = l.count c := by
    unfold replaceNum; rw [if_pos (.inl (by omega)), count_one]
  rw [hn]
  exact replaceK_drop c _ l (Nat.le_refl _)

theorem trimPrefix_minus (l : Bytes) : trimPrefix l [45] = unsigned l := by
  unfold trimPrefix hasPrefix
  cases l with
  | nil => rfl
  | cons b r =>
    by_cases h : b = 45
    · subst h; simp [unsigned]
    · have : ([45] : List UInt8).isPrefixOf (b :: r) = false := by simp [List.isPrefixOf]; exact fun e => h e.symm
      rw [this]
      simp only [Bool.false_eq_true, if_false]
      unfold unsigned
      split
      · rename_i e; injection e with e1 _; exact absurd e1 h
      · rfl


/-- the pieces between the bytes c -/
def splitOn (c : UInt8) : Bytes → List Bytes
  | [] => [[]]
  | b :: r => if b == c then [] :: splitOn c r else match splitOn c r with | h :: t => (b :: h) :: t | [] => [[b]]
theorem splitOn_none (c : UInt8) (l : Bytes) (h : c ∉ l) : splitOn c l = [l] := by
  induction l with
  | nil => rfl
  | cons b r ih =>
    have hb : (b == c) = false := beq_eq_false_iff_ne.2 (fun e => h (by rw [e]; exact List.mem_cons_self))
    have hr : c ∉ r := fun hm => h (List.mem_cons_of_mem _ hm)
    rw [splitOn, hb, ih hr]; rfl
theorem splitOn_at (c : UInt8) (a r : Bytes) (h : c ∉ a) : splitOn c (a ++ c :: r) = a :: splitOn c r := by
  induction a with
  | nil => rw [List.nil_append, splitOn]; simp
  | cons b a ih =>
    have hb : (b == c) = false := beq_eq_false_iff_ne.2 (fun e => h (by rw [e]; exact List.mem_cons_self))
    have ha : c ∉ a := fun hm => h (List.mem_cons_of_mem _ hm)
    rw [List.cons_append, splitOn, hb, ih ha]; rfl
theorem splitK_on (c : UInt8) : ∀ (k : Nat) (l : Bytes), l.count c = k → splitK [c] 0 k l = splitOn c l := by
  intro k
  induction k with
  | zero =>
    intro l h
    have h0 : c ∉ l := by intro hm; have := List.count_pos_iff.2 hm; omega
    rw [splitK, splitOn_none c l h0]
  | succ k ih =>
    intro l h
    rcases index_one c l with ⟨h1, hm⟩ | ⟨i, h1, hlt, hc, hm⟩
    · exfalso; rw [List.count_eq_zero.2 hm] at h; omega
    · have e := split_at c l i hc
      have hcnt : (l.drop (i + 1)).count c = k := by
        have h2 : l.count c = (l.take i).count c + (1 + (l.drop (i + 1)).count c) := by
          conv => lhs; rw [e, List.count_append, List.count_cons_self]
          omega
        rw [List.count_eq_zero.2 hm] at h2
        omega
      rw [splitK, h1]
      have h3 : (((i : Nat) : Int) == -1) = false := beq_eq_false_iff_ne.2 (by omega)
      rw [h3]
      simp only [Bool.false_eq_true, if_false]
      show l.take (((i : Nat) : Int).toNat + 0) :: splitK [c] 0 k (l.drop (((i : Nat) : Int).toNat + 1)) = _
      rw [Int.toNat_natCast, Nat.add_zero, ih _ hcnt]
      conv => rhs; rw [e, splitOn_at c _ _ hm]
theorem splitB_on (c : UInt8) (s : ByteArray) : (splitB ⟨#[c]⟩ 0 (countB s ⟨#[c]⟩) s).map (·.data.toList) = splitOn c s.data.toList := by
  rw [splitB_data]
  exact splitK_on c _ _ (count_one c s.data.toList).symm
theorem splitOn_ne (c : UInt8) (l : Bytes) : splitOn c l ≠ [] := by
  cases l with
  | nil => simp [splitOn]
  | cons b r =>
    rw [splitOn]; split
    · simp
    · split <;> simp
theorem splitOn_length (c : UInt8) (l : Bytes) : (splitOn c l).length ≤ l.length + 1 := by
  induction l with
  | nil => simp [splitOn]
  | cons b r ih =>
    rw [splitOn]
    split
    · simp only [List.length_cons]; omega
    · split
      · rename_i h t e; rw [e] at ih; simp only [List.length_cons] at ih ⊢; omega
      · simp
theorem splitOn_piece (c : UInt8) (l : Bytes) : ∀ p ∈ splitOn c l, p.length ≤ l.length := by
  induction l with
  | nil => intro p hp; simp [splitOn] at hp; subst hp; simp
  | cons b r ih =>
    intro p hp
    rw [splitOn] at hp
    split at hp
    · rcases List.mem_cons.1 hp with rfl | h
      · simp
      · have := ih p h; simp only [List.length_cons]; omega
    · split at hp
      · rename_i h t e
        rcases List.mem_cons.1 hp with rfl | h2
        · have := ih h (by rw [e]; exact List.mem_cons_self); simp only [List.length_cons]; omega
        · have := ih p (by rw [e]; exact List.mem_cons_of_mem _ h2); simp only [List.length_cons]; omega
      · simp at hp; subst hp; simp

def partOk (p : Bytes) : Bool := p != [] && allL digitB p && !(decide (1 < p.length) && p.head? == some 48)
def partsOk : List Bytes → Bool
  | [] => true
  | p :: r => if partOk p then partsOk r else false
theorem partsOk_step (ps : List Bytes) (k : Nat) (h : k < ps.length) : partsOk (ps.drop k) = if partOk ps[k] then partsOk (ps.drop (k + 1)) else false := by
  rw [List.drop_eq_getElem_cons h, partsOk]
def nOid : Bytes → Option Bytes
  | [] => none
  | c :: r => if letterB c then (if allL oidB (c :: r) then some (fold (c :: r)) else none) else if partsOk (splitOn 46 (c :: r)) && decide (2 ≤ (splitOn 46 (c :: r)).length) then some (c :: r) else none

end Go.Proofs.YthopanlkjdcgmaaGreatDoor.Plain

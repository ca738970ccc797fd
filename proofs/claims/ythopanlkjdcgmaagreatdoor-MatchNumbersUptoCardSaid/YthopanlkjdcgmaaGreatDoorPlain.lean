/- Plain functions on lists of bytes: what the layer 'text' and the kinds of bytes compute. No program in sight. -/
namespace Go.Proofs.YthopanlkjdcgmaaGreatDoor.Plain

abbrev Bytes := List UInt8

def blankB (c : UInt8) : Bool := c == 32 || (9 ≤ c && c ≤ 13)
def digitB (c : UInt8) : Bool := 48 ≤ c && c ≤ 57
def letterB (c : UInt8) : Bool := (97 ≤ c && c ≤ 122) || (65 ≤ c && c ≤ 90)
def goesB (c : UInt8) : Bool := 128 ≤ c && c ≤ 191
def foldB (c : UInt8) : UInt8 := if 65 ≤ c && c ≤ 90 then c + 32 else c
def fold (l : Bytes) : Bytes := l.map foldB

/-- every run of blanks one space; 'p': the byte ahead was a blank -/
def collapseFrom : Bool → Bytes → Bytes
  | _, [] => []
  | p, c :: r => if blankB c then (if p then collapseFrom true r else 32 :: collapseFrom true r) else c :: collapseFrom false r
def collapse (l : Bytes) : Bytes := collapseFrom false l

def trimL (l : Bytes) : Bytes := if l.head? = some 32 then l.tail else l
def trimR (l : Bytes) : Bytes := if l.getLast? = some 32 then l.dropLast else l
def squeeze (l : Bytes) : Bytes := trimR (trimL (collapse l))
def normal (l : Bytes) : Bytes := squeeze (fold l)

/-- the byte ahead is a blank -/
def lastBlank (l : Bytes) : Bool := match l.getLast? with | some c => blankB c | none => false

theorem collapseFrom_append (l : Bytes) : ∀ (p : Bool) (m : Bytes), collapseFrom p (l ++ m) = collapseFrom p l ++ collapseFrom (match l.getLast? with | some c => blankB c | none => p) m := by
  induction l with
  | nil => intro p m; simp [collapseFrom]
  | cons c r ih =>
    intro p m
    simp only [List.cons_append, collapseFrom]
    have hl : (c :: r).getLast? = some (r.getLast?.getD c) := by
      cases r with
      | nil => rfl
      | cons d r => simp [List.getLast?_cons]
    rw [hl]
    cases hb : blankB c with
    | true =>
      simp only [if_true]
      have e : (match r.getLast? with | some c => blankB c | none => true) = blankB (r.getLast?.getD c) := by
        cases h : r.getLast? <;> simp [hb]
      rw [ih true m, e]
      cases p <;> simp
    | false =>
      have e : (match r.getLast? with | some c => blankB c | none => false) = blankB (r.getLast?.getD c) := by
        cases h : r.getLast? <;> simp [hb]
      rw [ih false m, e]
      simp

theorem collapse_snoc (l : Bytes) (c : UInt8) : collapse (l ++ [c]) = collapse l ++ (if blankB c then (if lastBlank l then [] else [32]) else [c]) := by
  unfold collapse
  rw [collapseFrom_append]
  have e : (match l.getLast? with | some c => blankB c | none => false) = lastBlank l := rfl
  rw [e]
  cases hb : blankB c <;> cases lastBlank l <;> simp [collapseFrom, hb]

theorem collapseFrom_length (l : Bytes) : ∀ p, (collapseFrom p l).length ≤ l.length := by
  induction l with
  | nil => intro p; simp [collapseFrom]
  | cons c r ih =>
    intro p
    simp only [collapseFrom]
    have h1 := ih true
    have h2 := ih false
    split
    · split <;> simp only [List.length_cons] <;> omega
    · simp only [List.length_cons]; omega
theorem collapse_length (l : Bytes) : (collapse l).length ≤ l.length := collapseFrom_length l false

theorem take_snoc (l : Bytes) (k : Nat) (h : k < l.length) : l.take (k + 1) = l.take k ++ [l[k]] := by
  rw [List.take_succ_eq_append_getElem h]
theorem lastBlank_take (l : Bytes) (k : Nat) (h : k < l.length) : lastBlank (l.take (k + 1)) = blankB l[k] := by
  unfold lastBlank; rw [take_snoc l k h, List.getLast?_concat]
theorem collapse_none (l : Bytes) (k : Nat) (h : k < l.length) (hb : blankB l[k] = false) : collapse (l.take (k + 1)) = collapse (l.take k) ++ [l[k]] := by
  rw [take_snoc l k h, collapse_snoc, hb]; rfl
theorem collapse_first (l : Bytes) (h : 0 < l.length) (hb : blankB l[0] = true) : collapse (l.take 1) = collapse (l.take 0) ++ [32] := by
  rw [take_snoc l 0 h, collapse_snoc, hb]; rfl
theorem collapse_more (l : Bytes) (k : Nat) (h : k + 1 < l.length) (hb : blankB l[k + 1] = true) (ha : blankB l[k] = false) : collapse (l.take (k + 2)) = collapse (l.take (k + 1)) ++ [32] := by
  rw [take_snoc l (k + 1) h, collapse_snoc, hb, lastBlank_take l k (by omega), ha]; rfl
theorem collapse_still (l : Bytes) (k : Nat) (h : k + 1 < l.length) (hb : blankB l[k + 1] = true) (ha : blankB l[k] = true) : collapse (l.take (k + 2)) = collapse (l.take (k + 1)) := by
  rw [take_snoc l (k + 1) h, collapse_snoc, hb, lastBlank_take l k (by omega), ha]; simp

/-- folded up to the place k -/
def foldTo (l : Bytes) (k : Nat) : Bytes := fold (l.take k) ++ l.drop k
theorem foldTo_length (l : Bytes) (k : Nat) : (foldTo l k).length = l.length := by
  simp [foldTo, fold]; omega
theorem foldTo_zero (l : Bytes) : foldTo l 0 = l := by simp [foldTo, fold]
theorem foldTo_all (l : Bytes) (k : Nat) (h : l.length ≤ k) : foldTo l k = fold l := by
  simp [foldTo, List.take_of_length_le h, List.drop_of_length_le h]
theorem foldTo_at (l : Bytes) (k : Nat) (h : k < l.length) : (foldTo l k)[k]? = some l[k] := by
  unfold foldTo
  have e : (fold (l.take k)).length = k := by simp [fold]; omega
  rw [List.getElem?_append_right (by omega), e, Nat.sub_self, List.getElem?_drop]
  simp [h]
theorem foldTo_succ (l : Bytes) (k : Nat) (h : k < l.length) : foldTo l (k + 1) = (foldTo l k).set k (foldB l[k]) := by
  unfold foldTo
  have e : (fold (l.take k)).length = k := by simp [fold]; omega
  have e2 : fold (l.take (k + 1)) = fold (l.take k) ++ [foldB l[k]] := by rw [take_snoc l k h]; simp only [fold, List.map_append, List.map_cons, List.map_nil]
  rw [e2, List.set_append_right _ _ (by omega), e, Nat.sub_self, List.append_assoc]
  congr 1
  rw [List.drop_eq_getElem_cons h]; rfl
theorem set_same {α : Type} (l : List α) (k : Nat) (c : α) (h : l[k]? = some c) : l.set k c = l := by
  apply List.ext_getElem?
  intro j
  rw [List.getElem?_set]
  split
  · rename_i e; subst e; split
    · exact h.symm
    · rename_i g; rw [List.getElem?_eq_none (by omega)]
  · rfl
theorem foldTo_same (l : Bytes) (k : Nat) (h : k < l.length) (hs : foldB l[k] = l[k]) : foldTo l (k + 1) = foldTo l k := by
  rw [foldTo_succ l k h, hs]; exact set_same _ _ _ (foldTo_at l k h)
theorem foldB_yes (c : UInt8) (h1 : 65 ≤ (c.toNat : Int)) (h2 : (c.toNat : Int) ≤ 90) : ((foldB c).toNat : Int) = c.toNat + 97 - 65 := by
  unfold foldB
  have a1 : (65 : UInt8) ≤ c := by rw [UInt8.le_iff_toNat_le]; simp; omega
  have a2 : c ≤ (90 : UInt8) := by rw [UInt8.le_iff_toNat_le]; simp; omega
  simp [a1, a2, UInt8.toNat_add]; omega
theorem foldB_no (c : UInt8) (h : (c.toNat : Int) < 65 ∨ 90 < (c.toNat : Int)) : foldB c = c := by
  unfold foldB
  have a : ¬ ((65 : UInt8) ≤ c ∧ c ≤ (90 : UInt8)) := by rw [UInt8.le_iff_toNat_le, UInt8.le_iff_toNat_le]; simp; omega
  simp at a
  simp; exact a

/-- bytes below 128 alone -/
def asciiL : Bytes → Bool
  | [] => true
  | c :: r => if 127 < c then false else asciiL r
theorem asciiL_step (l : Bytes) (k : Nat) (h : k < l.length) : asciiL (l.drop k) = if 127 < l[k] then false else asciiL (l.drop (k + 1)) := by
  rw [List.drop_eq_getElem_cons h, asciiL]

/-- what 'missing' answers: how many bytes behind, the range of the second one, whether a sequence begins so -/
def missI (c : Int) : Int × Int × Int × Bool :=
  if c < 128 then (0, 128, 191, true) else if 194 ≤ c ∧ c ≤ 223 then (1, 128, 191, true) else if c = 224 then (2, 160, 191, true)
  else if c = 237 then (2, 128, 159, true) else if 225 ≤ c ∧ c ≤ 239 then (2, 128, 191, true) else if c = 240 then (3, 144, 191, true)
  else if 241 ≤ c ∧ c ≤ 243 then (3, 128, 191, true) else if c = 244 then (3, 128, 143, true) else (0, 128, 191, false)

/-- how long the sequence is with which the bytes begin; 0: none does -/
def seqLen (l : Bytes) : Nat :=
  let m := missI ((l.getD 0 0).toNat : Int)
  if m.2.2.2 = false ∨ (l.length : Int) < m.1 + 1 then 0
  else if 3 ≤ m.1 ∧ goesB (l.getD 3 0) = false then 0
  else if 2 ≤ m.1 ∧ goesB (l.getD 2 0) = false then 0
  else if 1 ≤ m.1 ∧ (((l.getD 1 0).toNat : Int) < m.2.1 ∨ m.2.2.1 < ((l.getD 1 0).toNat : Int)) then 0
  else m.1.toNat + 1
theorem missI_range (c : Int) : 0 ≤ (missI c).1 ∧ (missI c).1 ≤ 3 := by
  unfold missI
  repeat (split; simp)
  simp
theorem seqLen_le (l : Bytes) : seqLen l ≤ l.length := by
  unfold seqLen
  have := missI_range ((l.getD 0 0).toNat : Int)
  simp only
  split; omega
  split; omega
  split; omega
  split <;> omega

/-- is it UTF-8? -/
def utfL (l : Bytes) : Bool :=
  if l = [] then true else if _h : seqLen l = 0 then false else utfL (l.drop (seqLen l))
termination_by l.length
decreasing_by
  have := seqLen_le l
  simp only [List.length_drop]
  omega
theorem utfL_nil : utfL [] = true := by rw [utfL]; simp
theorem utfL_bad (l : Bytes) (h0 : l ≠ []) (h : seqLen l = 0) : utfL l = false := by rw [utfL]; simp [h0, h]
theorem utfL_step (l : Bytes) (h0 : l ≠ []) (h : seqLen l ≠ 0) : utfL l = utfL (l.drop (seqLen l)) := by
  conv => lhs; rw [utfL]
  simp [h0, h]


/-- each byte is one that p takes -/
def allL (p : UInt8 → Bool) : Bytes → Bool
  | [] => true
  | c :: r => if p c then allL p r else false
theorem allL_step (p : UInt8 → Bool) (l : Bytes) (k : Nat) (h : k < l.length) : allL p (l.drop k) = if p l[k] then allL p (l.drop (k + 1)) else false := by
  rw [List.drop_eq_getElem_cons h, allL]
theorem allL_eq (p : UInt8 → Bool) (l : Bytes) : allL p l = l.all p := by
  induction l with
  | nil => rfl
  | cons c r ih => simp only [allL, List.all_cons, ih]; cases p c <;> simp

def numB (c : UInt8) : Bool := c == 32 || digitB c
def signs : Bytes := [32, 39, 40, 41, 43, 44, 45, 46, 47, 58, 61, 63]
def printB (c : UInt8) : Bool := letterB c || digitB c || signs.contains c
def oidB (c : UInt8) : Bool := letterB c || digitB c || c == 45
/-- the text without a byte -/
def dropB (c : UInt8) (l : Bytes) : Bytes := l.filter (· != c)

/-! Normal forms, syntax by syntax; none: the value is not of the syntax. -/
def nExact (l : Bytes) : Option Bytes := if l = [] then none else if utfL l then some (squeeze l) else none
def nText (l : Bytes) : Option Bytes := nExact (fold l)
def nLow (l : Bytes) : Option Bytes := if asciiL l then some (squeeze l) else none
def nLowF (l : Bytes) : Option Bytes := nLow (fold l)
def nNum (l : Bytes) : Option Bytes := if l = [] then none else if allL numB l then some (dropB 32 l) else none
def nPhone (l : Bytes) : Option Bytes := if l = [] then none else if allL printB l then some (dropB 45 (dropB 32 (fold l))) else none
/-- what stands behind a minus -/
def unsigned : Bytes → Bytes
  | 45 :: r => r
  | l => l
def intOk (l : Bytes) : Bool := l == [48] || (unsigned l != [] && (unsigned l).head? != some 48 && allL digitB (unsigned l))
def nInt (l : Bytes) : Option Bytes := if intOk l then some l else none
def nBool (l : Bytes) : Option Bytes := if l = [84, 82, 85, 69] ∨ l = [70, 65, 76, 83, 69] then some l else none
def nOctet (l : Bytes) : Option Bytes := some l

end Go.Proofs.YthopanlkjdcgmaaGreatDoor.Plain

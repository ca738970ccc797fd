/- Walks of the syntaxes' 'normal': numeric, phone, integer, boolean, octet. -/
import Derived.Test.YthopanlkjdcgmaaGreatDoorMeth
import Derived.Test.YthopanlkjdcgmaaGreatDoorRepl
namespace Go.Proofs.YthopanlkjdcgmaaGreatDoor.W
open Go.RowKit Go.Proofs.YthopanlkjdcgmaaGreatDoor.Plain

theorem dropB_length (c : UInt8) (l : Bytes) : (dropB c l).length ≤ l.length := List.length_filter_le _ _
/-- 'ReplaceAll(s, "c", "")' -/
theorem drop_calls (c : UInt8) (s : ByteArray) (w : World) (hs : s.size ≤ 1073741824) (hg : Glob w) :
    Calls Tryz.prog 241 #[.string s, .string ⟨#[c]⟩, .string ⟨#[]⟩] w fun e w' => e = .returned (.string ⟨(dropB c s.data.toList).toArray⟩) ∧ Below w.heap.size w w' := by
  obtain ⟨m, hm⟩ := hg.room
  have h := Tryz.strings_ReplaceAll s ⟨#[c]⟩ ⟨#[]⟩ m w (by omega) hm (Nat.le_refl 1) (by
    have : (⟨#[]⟩ : ByteArray).size = 0 := rfl
    rw [this]; omega)
  have e : Lib.replaceAll s.data.toList (⟨#[c]⟩ : ByteArray).data.toList (⟨#[]⟩ : ByteArray).data.toList = dropB c s.data.toList := replaceAll_drop c _
  rw [e] at h
  exact h

def PiecePost (r : Bytes × Bool) (w : World) (e : Ending) (w' : World) : Prop := e = .returned (.tuple #[.string ⟨r.1.toArray⟩, .bool r.2]) ∧ Below w.heap.size w w'

set_option maxHeartbeats 400000 in
theorem numPiece (s : ByteArray) (w : World) (hs : s.size ≤ 1073741824) (hg : Glob w) :
    Calls Tryz.prog 239 #[.agg #[], .string s] w (PiecePost (dropB 32 s.data.toList, allL numB s.data.toList) w) := by
  have hm : s.size ≤ maxLen := by unfold maxLen; omega
  have hg1 := hg.below ((Below.refl _ w).alloc (Nat.le_refl _) (.cells #[] 269))
  go_enter Tryz.func239, Tryz.ntmps239
  go_wp2_with (first | (go_at_call 64; refine (all_num _ _ hm).mono ?_; rintro e w1 ⟨rfl, rfl⟩) | (go_at_call 241; refine (drop_calls 32 _ _ hs hg1).mono ?_; rintro e w2 ⟨rfl, hB2⟩))
  go_ret2
  exact ⟨rfl, b1 _ (by simpa using hB2)⟩

set_option maxHeartbeats 400000 in
theorem num_any (s : ByteArray) (w : World) (hs : s.size ≤ 1073741824) (hg : Glob w) :
    Calls Tryz.prog 237 #[.agg #[], .string s] w (NormPost (nNum s.data.toList) w) := by
  have hg1 := hg.below ((Below.refl _ w).alloc (Nat.le_refl _) (.cells #[] 269))
  obtain ⟨b, hb⟩ : ∃ b, allL numB s.data.toList = b := ⟨_, rfl⟩
  have HB := Lib.hid hb
  by_cases hz : s.size = 0
  · have HN : Hid (nNum s.data.toList = none) := by unfold nNum; rw [if_pos (nil_of hz)]; exact Lib.hid rfl
    obtain ⟨e1, e2, e3, _⟩ := empty_of hz
    clear e1 e3 hb
    obtain rfl := emp hz
    clear hz
    go_enter Tryz.func237, Tryz.ntmps237
    go_wp2_with (go_at_call 239; refine (numPiece _ _ hs hg1).mono ?_; rintro e w1 ⟨rfl, hB⟩)
    go_ret2
    exact ⟨by rw [HN.out]; rfl, b1 _ (by simpa using hB)⟩
  · obtain ⟨e1, e2, e3⟩ := full_of (c := s) (by omega)
    have HN : Hid (nNum s.data.toList = if b then some (dropB 32 s.data.toList) else none) := by unfold nNum; rw [if_neg (not_nil (by omega)), hb]; exact Lib.hid rfl
    clear hz hb
    cases b
    all_goals
      go_enter Tryz.func237, Tryz.ntmps237
      go_wp2_with (go_at_call 239; refine (numPiece _ _ hs hg1).mono ?_; rintro e w1 ⟨rfl, hB⟩; rw [HB.out])
      go_ret2
      exact ⟨by rw [HN.out]; rfl, b1 _ (by simpa using hB)⟩

set_option maxHeartbeats 400000 in
theorem phonePiece (s : ByteArray) (w : World) (hs : s.size ≤ 1073741824) (hg : Glob w) :
    Calls Tryz.prog 245 #[.agg #[], .string s] w (PiecePost (dropB 45 (dropB 32 (fold s.data.toList)), allL printB s.data.toList) w) := by
  have hm : s.size ≤ maxLen := by unfold maxLen; omega
  have hs2 : s.size ≤ 140737488351232 := by omega
  have hb0 := (Below.refl _ w).alloc (Nat.le_refl _) (.cells #[] 270)
  have hg1 := hg.below hb0
  obtain ⟨c, hc⟩ : ∃ c : ByteArray, (⟨(fold s.data.toList).toArray⟩ : ByteArray) = c := ⟨_, rfl⟩
  have hcd : c.data.toList = fold s.data.toList := by rw [← hc]
  have hcs : c.size ≤ 1073741824 := by rw [← hc, fold_size]; exact hs
  obtain ⟨d, hd⟩ : ∃ d : ByteArray, (⟨(dropB 32 c.data.toList).toArray⟩ : ByteArray) = d := ⟨_, rfl⟩
  have hdd : d.data.toList = dropB 32 (fold s.data.toList) := by rw [← hd, ← hcd]
  have hds : d.size ≤ 1073741824 := by rw [← hd, mk_size]; have := dropB_length 32 c.data.toList; rw [len_eq] at this; omega
  have HC := Lib.hid hc
  have HD := Lib.hid hd
  have HF : Hid ((PiecePost (dropB 45 (dropB 32 (fold s.data.toList)), allL printB s.data.toList) w) = (PiecePost (dropB 45 d.data.toList, allL printB s.data.toList) w)) := by rw [hdd]; exact Lib.hid rfl
  clear hc hcd hd hdd
  rw [HF.out]
  go_enter Tryz.func245, Tryz.ntmps245
  go_wp2_with fail
  refine (fold_any _ _ hs2).mono ?_
  rintro e w1 ⟨rfl, hB⟩
  rw [HC.out]
  have hg2 := hg1.below hB
  go_wp2_with fail
  refine (drop_calls 32 _ _ hcs hg2).mono ?_
  rintro e w2 ⟨rfl, hB2⟩
  rw [HD.out]
  have hg3 := hg2.below hB2
  go_wp2_with fail
  refine (drop_calls 45 _ _ hds hg3).mono ?_
  rintro e w3 ⟨rfl, hB3⟩
  go_wp2_with (go_at_call 64; refine (all_print _ _ hm).mono ?_; rintro e w4 ⟨rfl, rfl⟩)
  go_ret2
  have h1 := hB.size
  have h2 := hB2.size
  have h0 : (w.alloc (.cells #[] 270)).heap.size = w.heap.size + 1 := by simp
  exact ⟨rfl, ((hb0.trans (hB.mono (by omega))).trans (hB2.mono (by omega))).trans (hB3.mono (by omega))⟩

set_option maxHeartbeats 400000 in
theorem phone_any (s : ByteArray) (w : World) (hs : s.size ≤ 1073741824) (hg : Glob w) :
    Calls Tryz.prog 243 #[.agg #[], .string s] w (NormPost (nPhone s.data.toList) w) := by
  have hg1 := hg.below ((Below.refl _ w).alloc (Nat.le_refl _) (.cells #[] 270))
  obtain ⟨b, hb⟩ : ∃ b, allL printB s.data.toList = b := ⟨_, rfl⟩
  have HB := Lib.hid hb
  by_cases hz : s.size = 0
  · have HN : Hid (nPhone s.data.toList = none) := by unfold nPhone; rw [if_pos (nil_of hz)]; exact Lib.hid rfl
    obtain ⟨e1, e2, e3, _⟩ := empty_of hz
    clear e1 e3 hb
    obtain rfl := emp hz
    clear hz
    go_enter Tryz.func243, Tryz.ntmps243
    go_wp2_with (go_at_call 245; refine (phonePiece _ _ hs hg1).mono ?_; rintro e w1 ⟨rfl, hB⟩)
    go_ret2
    exact ⟨by rw [HN.out]; rfl, b1 _ (by simpa using hB)⟩
  · obtain ⟨e1, e2, e3⟩ := full_of (c := s) (by omega)
    have HN : Hid (nPhone s.data.toList = if b then some (dropB 45 (dropB 32 (fold s.data.toList))) else none) := by unfold nPhone; rw [if_neg (not_nil (by omega)), hb]; exact Lib.hid rfl
    clear hz hb
    cases b
    all_goals
      go_enter Tryz.func243, Tryz.ntmps243
      go_wp2_with (go_at_call 245; refine (phonePiece _ _ hs hg1).mono ?_; rintro e w1 ⟨rfl, hB⟩; rw [HB.out])
      go_ret2
      exact ⟨by rw [HN.out]; rfl, b1 _ (by simpa using hB)⟩


set_option maxHeartbeats 400000 in
theorem octet_any (s : ByteArray) (w : World) :
    Calls Tryz.prog 249 #[.agg #[], .string s] w (NormPost (nOctet s.data.toList) w) := by
  go_enter Tryz.func249, Tryz.ntmps249
  go_wp2
  go_ret2
  exact ⟨rfl, (Below.refl _ _).alloc (Nat.le_refl _) _⟩

theorem ne_lit {s : ByteArray} {l : Bytes} (h : s.data.toList ≠ l) : (s.toList == l) = false ∧ ¬ s.toList = l ∧ (!(s.toList == l)) = true := by
  have h1 : ¬ s.toList = l := by rw [toList_eq]; exact h
  have h2 : (s.toList == l) = false := beq_eq_false_iff_ne.2 h1
  exact ⟨h2, h1, by rw [h2]; rfl⟩

set_option maxHeartbeats 400000 in
theorem bool_any (s : ByteArray) (w : World) :
    Calls Tryz.prog 248 #[.agg #[], .string s] w (NormPost (nBool s.data.toList) w) := by
  by_cases h1 : s.data.toList = [84, 82, 85, 69]
  · obtain rfl := mk_of h1
    go_enter Tryz.func248, Tryz.ntmps248
    go_wp2
    go_ret2
    exact ⟨rfl, (Below.refl _ _).alloc (Nat.le_refl _) _⟩
  by_cases h2 : s.data.toList = [70, 65, 76, 83, 69]
  · obtain rfl := mk_of h2
    go_enter Tryz.func248, Tryz.ntmps248
    go_wp2
    go_ret2
    exact ⟨rfl, (Below.refl _ _).alloc (Nat.le_refl _) _⟩
  have HN : Hid (nBool s.data.toList = none) := by unfold nBool; rw [if_neg (by simp [h1, h2])]; exact Lib.hid rfl
  obtain ⟨a1, a2, a3⟩ := ne_lit h1
  obtain ⟨c1, c2, c3⟩ := ne_lit h2
  clear h1 h2
  go_enter Tryz.func248, Tryz.ntmps248
  go_wp2
  go_ret2
  exact ⟨by rw [HN.out]; rfl, (Below.refl _ _).alloc (Nat.le_refl _) _⟩

theorem unsigned_length (l : Bytes) : (unsigned l).length ≤ l.length := by
  unfold unsigned; split <;> simp
theorem unsigned_zero : unsigned [48] = [48] := rfl

/-- TrimPrefix(v, "-") -/
theorem minus_calls (s : ByteArray) (w : World) :
    Calls Tryz.prog 63 #[.string s, .string ⟨#[45]⟩] w fun e w' => e = .returned (.string ⟨(unsigned s.data.toList).toArray⟩) ∧ w' = w := by
  have h := Tryz.strings_TrimPrefix s ⟨#[45]⟩ w
  have e : Lib.trimPrefix s.data.toList (⟨#[45]⟩ : ByteArray).data.toList = unsigned s.data.toList := trimPrefix_minus _
  rw [e] at h
  exact h

set_option maxHeartbeats 400000 in
theorem int_any (s : ByteArray) (w : World) (hs : s.size ≤ 1073741824) :
    Calls Tryz.prog 49 #[.agg #[], .string s] w (NormPost (nInt s.data.toList) w) := by
  have ha := (Below.refl w.heap.size w).alloc (Nat.le_refl _) (.cells #[] 78)
  by_cases h1 : s.data.toList = [48]
  · obtain rfl := mk_of h1
    go_enter Tryz.func49, Tryz.ntmps49
    go_wp2_with (go_at_call 63; refine (minus_calls _ _).mono ?_; rintro e w1 ⟨rfl, hw⟩; rw [hw]; clear hw)
    go_ret2
    exact ⟨rfl, ha⟩
  obtain ⟨a1, a2, a3⟩ := ne_lit h1
  obtain ⟨d, hd⟩ : ∃ d : ByteArray, (⟨(unsigned s.data.toList).toArray⟩ : ByteArray) = d := ⟨_, rfl⟩
  have hdd : d.data.toList = unsigned s.data.toList := by rw [← hd]
  have hds : d.size ≤ 1073741824 := by rw [← hd, mk_size]; have := unsigned_length s.data.toList; rw [len_eq] at this; omega
  have hdm : d.size ≤ maxLen := by unfold maxLen; omega
  have hok : intOk s.data.toList = (d.data.toList != [] && d.data.toList.head? != some 48 && allL digitB d.data.toList) := by
    unfold intOk; rw [hdd, beq_eq_false_iff_ne.2 h1]; rfl
  have HD := Lib.hid hd
  obtain ⟨r, hr⟩ : ∃ r, intOk s.data.toList = r := ⟨_, rfl⟩
  have HN : Hid (nInt s.data.toList = if r then some s.data.toList else none) := by unfold nInt; rw [hr]; exact Lib.hid rfl
  rw [hr] at hok
  clear hd hdd h1 hr
  by_cases hz : d.size = 0
  · obtain ⟨e1, e2, e3, e4⟩ := empty_of hz
    obtain rfl : r = false := by rw [hok, e4]; rfl
    clear e1 e3 e4 hok
    obtain rfl := emp hz
    clear hz
    go_enter Tryz.func49, Tryz.ntmps49
    go_wp2_with (go_at_call 63; refine (minus_calls _ _).mono ?_; rintro e w1 ⟨rfl, hw⟩; rw [hw, HD.out]; clear hw)
    go_ret2
    exact ⟨by rw [HN.out]; rfl, ha⟩
  have hp : 0 < d.size := by omega
  obtain ⟨e1, e2, e3⟩ := full_of hp
  have hh : d.data.toList.head? = some d[0] := by
    have : d.data.toList[0]? = some d[0] := by rw [List.getElem?_eq_getElem (by rw [len_eq]; exact hp)]; rfl
    rw [List.head?_eq_getElem?]; exact this
  have hne : (d.data.toList != []) = true := by simpa using not_nil hp
  rw [hh, hne] at hok
  clear hz hh hne
  by_cases h48 : ((d[0]).toNat : Int) = 48
  · obtain rfl : r = false := by
      rw [hok, show d[0] = 48 from by rw [← UInt8.toNat_inj]; simp; omega]; rfl
    clear hok
    go_enter Tryz.func49, Tryz.ntmps49
    go_wp2_with (go_at_call 63; refine (minus_calls _ _).mono ?_; rintro e w1 ⟨rfl, hw⟩; rw [hw, HD.out]; clear hw)
    go_ret2
    exact ⟨by rw [HN.out]; rfl, ha⟩
  have hok2 : r = allL digitB d.data.toList := by
    rw [hok, show ((some d[0] : Option UInt8) != some 48) = true from by
      have : d[0] ≠ 48 := fun e => h48 (by rw [e]; rfl)
      simpa using this]; rfl
  have HO := Lib.hid hok2
  have b48 : (((d[0]).toNat : Int) == 48) = false := beq_eq_false_iff_ne.2 h48
  have n48 : (((d[0]).toNat : Int) != 48) = true := by rw [bne, b48]; rfl
  have HS : Hid (normV (some s.data.toList) = .tuple #[.string s, .bool true]) := by rw [normV_some, ← mk_of (c := s) rfl]; exact Lib.hid rfl
  clear hok hok2
  cases r
  all_goals
    go_enter Tryz.func49, Tryz.ntmps49
    go_wp2_with (first | (go_at_call 63; refine (minus_calls _ _).mono ?_; rintro e w1 ⟨rfl, hw⟩; rw [hw, HD.out]; clear hw) | (go_at_call 64; refine (all_digit _ _ hdm).mono ?_; rintro e w4 ⟨rfl, rfl⟩; rw [← HO.out]))
    go_ret2
    exact ⟨by rw [HN.out]; first | rfl | exact congrArg Ending.returned HS.out.symm, ha⟩

end Go.Proofs.YthopanlkjdcgmaaGreatDoor.W

/- The walk of the syntax oid's 'normal': words, and numbers with points. -/
import Derived.Test.YthopanlkjdcgmaaGreatDoorMethB
namespace Go.Proofs.YthopanlkjdcgmaaGreatDoor.W
open Go.RowKit Go.Proofs.YthopanlkjdcgmaaGreatDoor.Plain

/-- 'Split(s, "c")' -/
def SplitPost (ps : List Bytes) (w : World) (e : Ending) (w' : World) : Prop :=
  e = .returned (.slice (some ⟨w.heap.size, 0, none⟩) ps.length ps.length) ∧ (∀ k p, ps[k]? = some p → w'.cell? ⟨w.heap.size, k, none⟩ = some (.string ⟨p.toArray⟩)) ∧ Below w.heap.size w w' ∧ w.heap.size < w'.heap.size
theorem split_calls (c : UInt8) (s : ByteArray) (w : World) (hs : s.size ≤ 1073741824) (hg : Glob w) :
    Calls Tryz.prog 51 #[.string s, .string ⟨#[c]⟩] w (SplitPost (splitOn c s.data.toList) w) := by
  obtain ⟨m, hm⟩ := hg.room
  refine (Tryz.strings_Split s ⟨#[c]⟩ m w (by omega) hm (Nat.le_refl 1)).mono ?_
  rintro e w' ⟨h1, h2⟩
  have hl : Lib.countB s ⟨#[c]⟩ + 1 = (splitOn c s.data.toList).length := by
    rw [← splitB_on c s, List.length_map, Lib.splitB_all ⟨#[c]⟩ (Nat.le_refl 1) 0 _ s rfl]
  rw [hl] at h1
  refine ⟨h1, ?_, ?_, ?_⟩
  · intro k p hk
    rw [h2]
    have h3 : ((Lib.splitB ⟨#[c]⟩ 0 (Lib.countB s ⟨#[c]⟩) s).map (·.data.toList))[k]? = some p := by rw [splitB_on]; exact hk
    rw [List.getElem?_map, Option.map_eq_some_iff] at h3
    obtain ⟨b, hb, hp⟩ := h3
    rw [World.cell?_alloc_new]
    simp only [List.getElem?_toArray, List.getElem?_map, hb, Option.map_some]
    rw [mk_of hp]
  · rw [h2]; exact (Below.refl _ _).alloc (Nat.le_refl _) _
  · rw [h2]; simp

theorem nOid_eq (l : Bytes) (c : UInt8) (r : Bytes) (h : l = c :: r) : nOid l = if letterB c then (if allL oidB l then some (fold l) else none) else if partsOk (splitOn 46 l) && decide (2 ≤ (splitOn 46 l).length) then some l else none := by
  subst h; rfl

theorem one_str (s : ByteArray) : Hid (normV (some s.data.toList) = .tuple #[.string s, .bool true]) := by rw [normV_some, ← mk_of (c := s) rfl]; exact Lib.hid rfl

set_option maxHeartbeats 1000000 in
theorem oid_any (s : ByteArray) (w : World) (hs : s.size ≤ 1073741824) (hg : Glob w) :
    Calls Tryz.prog 253 #[.agg #[], .string s] w (NormPost (nOid s.data.toList) w) := by
  have ha := (Below.refl w.heap.size w).alloc (Nat.le_refl _) (.cells #[] 274)
  have hg1 := hg.below ha
  have hm : s.size ≤ maxLen := by unfold maxLen; omega
  have hs2 : s.size ≤ 140737488351232 := by omega
  by_cases hz : s.size = 0
  · obtain rfl := emp hz
    clear hz
    go_enter Tryz.func253, Tryz.ntmps253
    go_wp2
    go_ret2
    exact ⟨rfl, ha⟩
  have hp : 0 < s.size := by omega
  obtain ⟨e1, e2, e3⟩ := full_of hp
  have hh : ∃ r, s.data.toList = s[0] :: r := by
    have h0 : s.data.toList[0]? = some s[0] := by rw [List.getElem?_eq_getElem (by rw [len_eq]; exact hp)]; rfl
    cases hl : s.data.toList with
    | nil => rw [hl] at h0; cases h0
    | cons b r => rw [hl] at h0; simp at h0; exact ⟨r, by rw [h0]⟩
  obtain ⟨r, hh⟩ := hh
  have HQ := Lib.hid (nOid_eq _ _ _ hh)
  clear hz hh r
  obtain ⟨a, hla⟩ : ∃ a, letterB s[0] = a := ⟨_, rfl⟩
  cases a
  · -- numbers
    obtain ⟨ps, hps⟩ : ∃ ps, splitOn 46 s.data.toList = ps := ⟨_, rfl⟩
    have hpl : ps.length ≤ s.size + 1 := by rw [← hps, ← len_eq]; exact splitOn_length _ _
    have hpp : ∀ (k : Nat) (h : k < ps.length), (ps[k]).length ≤ s.size := by
      intro k h
      rw [← len_eq]
      exact splitOn_piece 46 s.data.toList _ (by rw [hps]; exact List.getElem_mem h)
    rw [hps, hla] at HQ
    have HN : Hid (nOid s.data.toList = if partsOk ps && decide (2 ≤ ps.length) then some s.data.toList else none) := HQ.out
    have HL := Lib.hid hla
    have HP := Lib.hid hps
    have HPP := Lib.hid hpp
    clear HQ hla hps hpp
    go_enter Tryz.func253, Tryz.ntmps253
    go_wp2_with (first | (go_at_call 247; refine (letter _ _).mono ?_; rintro e w1 ⟨rfl, rfl⟩; rw [HL.out]) | (go_at_call 51; refine (split_calls 46 _ _ hs hg1).mono ?_; rintro e w2 ⟨rfl, hcell, hB, hlt⟩; rw [HP.out] at hcell; rw [HP.out]; have HCell := Lib.hid hcell; clear hcell))
    have hBB : Below w.heap.size w w2 := ha.trans (hB.mono (by simp))
    clear hB hlt
    go_loop [25] (fun i => ∃ k : Nat, k ≤ ps.length ∧ i = .int .i64 k ∧ Hid (partsOk ps = partsOk (ps.drop k))) (fun i => ps.length - (intOf i).toNat)
    case atStart => exact ⟨0, Nat.zero_le _, rfl, Lib.hid rfl⟩
    case round =>
      obtain ⟨k, hk, rfl, HQ⟩ := hrel
      by_cases hlt : k < ps.length
      · have HS := Lib.hid (partsOk_step ps k hlt)
        obtain ⟨p, hpk⟩ : ∃ p, ps[k] = p := ⟨_, rfl⟩
        rw [hpk] at HS
        obtain ⟨d, hd⟩ : ∃ d : ByteArray, (⟨p.toArray⟩ : ByteArray) = d := ⟨_, rfl⟩
        have hc : w2.cell? ⟨w.heap.size + 1, k, none⟩ = some (.string d) := by
          have := HCell.out k p (by rw [← hpk]; exact List.getElem?_eq_getElem hlt)
          rw [hd] at this
          simpa using this
        have hdp : d.data.toList = p := by rw [← hd]
        have hds : d.size ≤ s.size := by
          have := HPP.out k hlt
          rw [hpk, ← hdp, len_eq] at this; exact this
        have hdm : d.size ≤ maxLen := by unfold maxLen; omega
        have HD := Lib.hid hdp
        clear hd hpk hdp
        by_cases hz : d.size = 0
        · have HF : Hid (partOk p = false) := by rw [← HD.out]; unfold partOk; rw [nil_of hz]; exact Lib.hid rfl
          obtain rfl := emp hz
          clear hz
          go_wp2
          go_ret2
          exact ⟨by rw [HN.out, HQ.out, HS.out, HF.out]; rfl, hBB⟩
        have hdp : 0 < d.size := by omega
        obtain ⟨f1, f2, f3⟩ := full_of hdp
        have hne : (p != []) = true := by rw [← HD.out]; simpa using not_nil hdp
        clear hz
        obtain ⟨b, hb⟩ : ∃ b, allL digitB d.data.toList = b := ⟨_, rfl⟩
        have HB := Lib.hid hb
        have HPO : Hid (partOk p = (b && !(decide (1 < d.size) && d.data.toList.head? == some 48))) := by
          unfold partOk; rw [hne, ← HD.out, hb, len_eq]; exact Lib.hid rfl
        clear hb hne
        cases b
        · have HF : Hid (partOk p = false) := HPO.out
          go_wp2_with (go_at_call 64; refine (all_digit _ _ hdm).mono ?_; rintro e w4 ⟨rfl, rfl⟩; rw [HB.out])
          go_ret2
          exact ⟨by rw [HN.out, HQ.out, HS.out, HF.out]; rfl, hBB⟩
        by_cases h1 : 1 < d.size
        · have hh : d.data.toList.head? = some d[0] := by
            have : d.data.toList[0]? = some d[0] := by rw [List.getElem?_eq_getElem (by rw [len_eq]; exact hdp)]; rfl
            rw [List.head?_eq_getElem?]; exact this
          have hl1 : decide (1 < (d.size : Int)) = true := by simp; omega
          by_cases h48 : ((d[0]).toNat : Int) = 48
          · have HF : Hid (partOk p = false) := by
              rw [HPO.out, hh, show d[0] = 48 from by rw [← UInt8.toNat_inj]; simp; omega, decide_eq_true h1]; exact Lib.hid rfl
            clear hh
            go_wp2_with (go_at_call 64; refine (all_digit _ _ hdm).mono ?_; rintro e w4 ⟨rfl, rfl⟩; rw [HB.out])
            go_ret2
            exact ⟨by rw [HN.out, HQ.out, HS.out, HF.out]; rfl, hBB⟩
          · have HF : Hid (partOk p = true) := by
              rw [HPO.out, hh, show ((some d[0] : Option UInt8) == some 48) = false from by
                have : d[0] ≠ 48 := fun e => h48 (by rw [e]; rfl)
                simpa using this]; simp; exact Lib.hid trivial
            have b48 : (((d[0]).toNat : Int) == 48) = false := beq_eq_false_iff_ne.2 h48
            clear hh
            go_wp2_with (go_at_call 64; refine (all_digit _ _ hdm).mono ?_; rintro e w4 ⟨rfl, rfl⟩; rw [HB.out])
            go_round
            case rel => exact ⟨k + 1, by omega, by go_num, Lib.hid (by rw [HQ.out, HS.out, HF.out]; rfl)⟩
            case measure => simp [intOf]; omega
        · have HF : Hid (partOk p = true) := by rw [HPO.out, decide_eq_false h1]; exact Lib.hid rfl
          have hl1 : decide (1 < (d.size : Int)) = false := by simp; omega
          go_wp2_with (go_at_call 64; refine (all_digit _ _ hdm).mono ?_; rintro e w4 ⟨rfl, rfl⟩; rw [HB.out])
          go_round
          case rel => exact ⟨k + 1, by omega, by go_num, Lib.hid (by rw [HQ.out, HS.out, HF.out]; rfl)⟩
          case measure => simp [intOf]; omega
      · have HQ2 : Hid (partsOk ps = true) := by rw [HQ.out, List.drop_of_length_le (by omega)]; exact Lib.hid rfl
        have HV := one_str s
        by_cases h2 : 2 ≤ ps.length
        · go_wp2
          go_ret2
          exact ⟨by rw [HN.out, HQ2.out, decide_eq_true h2]; exact congrArg Ending.returned HV.out.symm, hBB⟩
        · go_wp2
          go_ret2
          exact ⟨by rw [HN.out, HQ2.out, decide_eq_false h2]; rfl, hBB⟩
  · obtain ⟨b, hb⟩ : ∃ b, allL oidB s.data.toList = b := ⟨_, rfl⟩
    rw [hla, hb] at HQ
    have HN : Hid (nOid s.data.toList = if b then some (fold s.data.toList) else none) := HQ.out
    have HL := Lib.hid hla
    have HB := Lib.hid hb
    clear HQ hla hb
    cases b
    · go_enter Tryz.func253, Tryz.ntmps253
      go_wp2_with (first | (go_at_call 247; refine (letter _ _).mono ?_; rintro e w1 ⟨rfl, rfl⟩; rw [HL.out]) | (go_at_call 64; refine (all_oid _ _ hm).mono ?_; rintro e w4 ⟨rfl, rfl⟩; rw [HB.out]))
      go_ret2
      exact ⟨by rw [HN.out]; rfl, ha⟩
    · go_enter Tryz.func253, Tryz.ntmps253
      go_wp2_with (first | (go_at_call 247; refine (letter _ _).mono ?_; rintro e w1 ⟨rfl, rfl⟩; rw [HL.out]) | (go_at_call 64; refine (all_oid _ _ hm).mono ?_; rintro e w4 ⟨rfl, rfl⟩; rw [HB.out]) | (go_at_call 69; refine (fold_any _ _ hs2).mono ?_; rintro e w5 ⟨rfl, hB⟩))
      go_ret2
      exact ⟨by rw [HN.out]; rfl, b1 _ (by simpa using hB)⟩

end Go.Proofs.YthopanlkjdcgmaaGreatDoor.W

/- MatchFirm holds at every text of bulk at most 1048576: a normal form that is not empty is its own normal form (ten syntaxes). Conditions: the package variable match.kinds holds what the program's text lays. -/
import Derived.Test.YtifoibigdfnmeaaDoorFirmP
import Derived.Test.YtifoibigdfnmeaaDoorPureB
namespace Go.Proofs.YtifoibigdfnmeaaDoor
open Go.Proofs.YtifoibigdfnmeaaDoor.W Go.Proofs.YtifoibigdfnmeaaDoor.Plain

namespace firm
theorem f_exact : Firm nExact := by
  intro l n h
  unfold nExact at h
  split at h
  · cases h
  split at h
  · rename_i h0 hu
    obtain rfl := Option.some.inj h
    refine ⟨squeeze_length l, fun hne => ?_⟩
    unfold nExact
    rw [if_neg hne, if_pos (utf_squeeze l hu), squeeze_idem]
  · cases h
theorem f_text : Firm nText := by
  intro l n h
  obtain ⟨h1, h2⟩ := f_exact (fold l) n h
  rw [fold_len] at h1
  refine ⟨h1, fun hne => ?_⟩
  have hf : fold n = n := by
    unfold nText nExact at h
    split at h
    · cases h
    split at h
    · obtain rfl := Option.some.inj h; exact fold_squeeze l
    · cases h
  unfold nText
  rw [hf]; exact h2 hne
theorem f_low : Firm nLow := by
  intro l n h
  unfold nLow at h
  split at h
  · rename_i hu
    obtain rfl := Option.some.inj h
    refine ⟨squeeze_length l, fun _ => ?_⟩
    have ha : asciiL (squeeze l) = true := by
      rw [asciiL_iff] at hu ⊢
      intro c hc
      rcases mem_squeeze l c hc with h | h
      · exact hu c h
      · rw [h]; decide
    unfold nLow
    rw [if_pos ha, squeeze_idem]
  · cases h
theorem f_lowF : Firm nLowF := by
  intro l n h
  obtain ⟨h1, h2⟩ := f_low (fold l) n h
  rw [fold_len] at h1
  refine ⟨h1, fun hne => ?_⟩
  have hf : fold n = n := by
    unfold nLowF nLow at h
    split at h
    · obtain rfl := Option.some.inj h; exact fold_squeeze l
    · cases h
  unfold nLowF
  rw [hf]; exact h2 hne
theorem f_num : Firm nNum := by
  intro l n h
  unfold nNum at h
  split at h
  · cases h
  split at h
  · rename_i h0 hu
    obtain rfl := Option.some.inj h
    refine ⟨dropB_len 32 l, fun hne => ?_⟩
    have ha : allL numB (dropB 32 l) = true := by
      rw [allL_iff] at hu ⊢
      exact fun c hc => hu c (mem_dropB c 32 l hc)
    unfold nNum
    rw [if_neg hne, if_pos ha, dropB_idem]
  · cases h
theorem letter_fold (c : UInt8) (h : letterB c = true) : letterB (foldB c) = true := by
  by_cases h1 : 65 ≤ (c.toNat : Int) ∧ (c.toNat : Int) ≤ 90
  · have := foldB_yes c h1.1 h1.2
    unfold letterB
    simp only [Bool.or_eq_true, Bool.and_eq_true, decide_eq_true_eq, UInt8.le_iff_toNat_le]
    left; simp; omega
  · rw [foldB_no c (by omega)]; exact h
theorem notletter_fold (c : UInt8) (h : letterB c = false) : foldB c = c := by
  apply foldB_no
  unfold letterB at h
  simp only [Bool.or_eq_false_iff, Bool.and_eq_false_iff, decide_eq_false_iff_not, UInt8.le_iff_toNat_le] at h
  simp at h; omega
theorem print_fold (c : UInt8) (h : printB c = true) : printB (foldB c) = true := by
  cases hl : letterB c with
  | true => unfold printB; rw [letter_fold c hl]; rfl
  | false => rw [notletter_fold c hl]; exact h
theorem f_phone : Firm nPhone := by
  intro l n h
  unfold nPhone at h
  split at h
  · cases h
  split at h
  · rename_i h0 hu
    obtain rfl := Option.some.inj h
    refine ⟨Nat.le_trans (dropB_len _ _) (Nat.le_trans (dropB_len _ _) (by rw [fold_len]; exact Nat.le_refl _)), fun hne => ?_⟩
    have hm : ∀ c ∈ dropB 45 (dropB 32 (fold l)), c ∈ fold l := fun c hc => mem_dropB _ _ _ (mem_dropB _ _ _ hc)
    have hf : fold (dropB 45 (dropB 32 (fold l))) = dropB 45 (dropB 32 (fold l)) := fold_fixed _ fun c hc => mem_fold l c (hm c hc)
    have ha : allL printB (dropB 45 (dropB 32 (fold l))) = true := by
      rw [allL_iff] at hu ⊢
      intro c hc
      obtain ⟨b, hb, rfl⟩ := List.mem_map.1 (hm c hc)
      exact print_fold b (hu b hb)
    unfold nPhone
    rw [if_neg hne, if_pos ha, hf, dropB_comm 32 45 (dropB 32 (fold l)), dropB_idem 32, dropB_idem 45]
  · cases h
theorem f_int : Firm nInt := by
  intro l n h
  have h' := h
  unfold nInt at h
  split at h
  · obtain rfl := Option.some.inj h; exact ⟨Nat.le_refl _, fun _ => h'⟩
  · cases h
theorem f_bool : Firm nBool := by
  intro l n h
  have h' := h
  unfold nBool at h
  split at h
  · obtain rfl := Option.some.inj h; exact ⟨Nat.le_refl _, fun _ => h'⟩
  · cases h
theorem f_octet : Firm nOctet := by
  intro l n h
  obtain rfl := Option.some.inj h; exact ⟨Nat.le_refl _, fun _ => rfl⟩
theorem oid_fold (c : UInt8) (h : oidB c = true) : oidB (foldB c) = true := by
  cases hl : letterB c with
  | true => unfold oidB; rw [letter_fold c hl]; rfl
  | false => rw [notletter_fold c hl]; exact h
theorem f_oid : Firm nOid := by
  intro l n h
  have h' := h
  cases l with
  | nil => cases h
  | cons c r =>
    rw [nOid_eq (c :: r) c r rfl] at h
    split at h
    · rename_i hl
      split at h
      · rename_i hu
        obtain rfl := Option.some.inj h
        refine ⟨by rw [fold_len]; exact Nat.le_refl _, fun _ => ?_⟩
        have e : fold (c :: r) = foldB c :: fold r := rfl
        have hall : allL oidB (fold (c :: r)) = true := by
          rw [allL_iff] at hu ⊢
          intro b hb
          obtain ⟨a, ha, rfl⟩ := List.mem_map.1 hb
          exact oid_fold a (hu a ha)
        have hi := fold_idem (c :: r)
        rw [e] at hall hi ⊢
        rw [nOid_eq _ _ _ rfl, if_pos (letter_fold c hl), if_pos hall, hi]
      · cases h
    · split at h
      · obtain rfl := Option.some.inj h; exact ⟨Nat.le_refl _, fun _ => h'⟩
      · cases h

theorem all (k : Nat) (h1 : 1 ≤ k) (h11 : k ≤ 11) (h10 : k ≠ 10) : FirmK k := by
  have hk : k = 1 ∨ k = 2 ∨ k = 3 ∨ k = 4 ∨ k = 5 ∨ k = 6 ∨ k = 7 ∨ k = 8 ∨ k = 9 ∨ k = 11 := by omega
  rcases hk with rfl | rfl | rfl | rfl | rfl | rfl | rfl | rfl | rfl | rfl
  · exact ⟨_, _, _, k_text, f_text⟩
  · exact ⟨_, _, _, k_exact, f_exact⟩
  · exact ⟨_, _, _, k_ia5, f_lowF⟩
  · exact ⟨_, _, _, k_ia5x, f_low⟩
  · exact ⟨_, _, _, k_num, f_num⟩
  · exact ⟨_, _, _, k_phone, f_phone⟩
  · exact ⟨_, _, _, k_int, f_int⟩
  · exact ⟨_, _, _, k_bool, f_bool⟩
  · exact ⟨_, _, _, k_octet, f_octet⟩
  · exact ⟨_, _, _, k_oid, f_oid⟩
end firm

/-- MatchFirm, its card. -/
theorem MatchFirm_holds : Rows.MatchFirmUptoCardSaid := firm.cardUpto firm.all

#print axioms MatchFirm_holds
end Go.Proofs.YtifoibigdfnmeaaDoor

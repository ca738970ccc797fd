/- The walk of the law MatchFirm, from the contracts; the plain fact that it needs is the hypothesis 'Firm'. -/
import Derived.Test.YtifoibigdfnmeaaDoorInst
namespace Go.Proofs.YtifoibigdfnmeaaDoor.W
open Go.RowKit Go.Proofs.YtifoibigdfnmeaaDoor.Plain

/-- a normal form that is not empty is its own normal form, and no longer than the value -/
def Firm (nf : Bytes → Option Bytes) : Prop := ∀ l n, nf l = some n → n.length ≤ l.length ∧ (n ≠ [] → nf n = some n)
def FirmK (k : Nat) : Prop := ∃ T F nf, NKind (k : Int) T F nf ∧ Firm nf

set_option maxRecDepth 100000 in
set_option maxHeartbeats 1000000 in
theorem firm_walk (hF : ∀ k, 1 ≤ k → k ≤ 11 → k ≠ 10 → FirmK k) (s : ByteArray) (w : World) (hs : s.size ≤ 1073741824) (hg : Glob w) :
    Calls Tryd.prog 4 #[.string s] w fun e w' => e = .returned (.bool true) ∧ Below w.heap.size w w' := by
  have HO : Hid (normV (nOctet s.data.toList) = .tuple #[.string s, .bool true]) := one_str s
  have HF := Lib.hid hF
  clear hF
  go_enter Tryd.func4, Tryd.ntmps4
  go_wp2_with fail
  refine (normal_calls k_octet s _ hs hg).mono ?_
  rintro e w1 ⟨rfl, hB⟩
  rw [HO.out]
  have hg1 := hg.below hB
  go_wp2_with fail
  go_loopw [5] (fun i wr => ∃ k : Nat, 1 ≤ k ∧ k ≤ 12 ∧ i = .int .i64 k ∧ Glob wr ∧ Below w.heap.size w wr) (fun i _ => 12 - (intOf i).toNat)
  case atStart => exact ⟨1, by omega, by omega, rfl, hg1, hB⟩
  case round =>
    clear hB
    obtain ⟨k, hk1, hk2, rfl, hgr, hB⟩ := hrel
    by_cases hlt : k ≤ 11
    · by_cases h10 : k = 10
      · subst h10
        go_wp2_with fail
        go_roundw
        case rel => exact ⟨11, by omega, by omega, rfl, hgr, hB⟩
        case measure => simp [intOf]
      · obtain ⟨T, F, nf, K, hfirm⟩ := HF.out k hk1 hlt h10
        have b10 : ((k : Int) == 10) = false := beq_eq_false_iff_ne.2 (by omega)
        obtain ⟨r, hr⟩ : ∃ r, nf s.data.toList = r := ⟨_, rfl⟩
        have HR := Lib.hid hr
        clear hr h10
        go_wp2_with fail
        refine (normal_calls K s _ hs hgr).mono ?_
        rintro e w2 ⟨rfl, hB2⟩
        have hg2 := hgr.below hB2
        have hB3 := hB.trans (hB2.mono hB.size)
        rw [HR.out]
        cases r with
        | none =>
          rw [normV_none]
          go_wp2_with fail
          go_roundw
          case rel => exact ⟨k + 1, by omega, by omega, by go_num, hg2, hB3⟩
          case measure => simp [intOf]; omega
        | some n =>
          rw [normV_some]
          obtain ⟨hl, hn⟩ := hfirm _ n HR.out
          rw [len_eq] at hl
          by_cases hz : n = []
          · subst hz
            go_wp2_with fail
            go_roundw
            case rel => exact ⟨k + 1, by omega, by omega, by go_num, hg2, hB3⟩
            case measure => simp [intOf]; omega
          · have hn2 := hn hz
            obtain ⟨d, hd⟩ : ∃ d : ByteArray, (⟨n.toArray⟩ : ByteArray) = d := ⟨_, rfl⟩
            have hdd : d.data.toList = n := by rw [← hd]
            have hdz : 0 < d.size := by rw [← len_eq, hdd]; exact List.length_pos_iff.2 hz
            have hds : d.size ≤ 1073741824 := by rw [← len_eq, hdd]; omega
            have HV : Hid (normV (nf d.data.toList) = .tuple #[.string d, .bool true]) := by rw [hdd, hn2, ← hdd]; exact one_str d
            obtain ⟨e1, e2, e3⟩ := full_of hdz
            rw [hd]
            clear hz hn hn2 hd hdd hl
            go_wp2_with fail
            refine (normal_calls K d _ hds hg2).mono ?_
            rintro e w3 ⟨rfl, hB4⟩
            have hg3 := hg2.below hB4
            have hB5 := hB3.trans (hB4.mono hB3.size)
            rw [HV.out]
            go_wp2_with fail
            go_roundw
            case rel => exact ⟨k + 1, by omega, by omega, by go_num, hg3, hB5⟩
            case measure => simp [intOf]; omega
    · go_wp2_with fail
      go_ret
      exact ⟨rfl, hB⟩

end Go.Proofs.YtifoibigdfnmeaaDoor.W

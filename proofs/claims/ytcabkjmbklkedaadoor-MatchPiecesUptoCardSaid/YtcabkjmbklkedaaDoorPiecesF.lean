/- MatchPieces: the law's helpers begins, ends, has, truth. -/
import Derived.Test.YtcabkjmbklkedaaDoorNorm
import Derived.Test.YtcabkjmbklkedaaDoorPiecesL
namespace Go.Proofs.YtcabkjmbklkedaaDoor.W
open Go.RowKit Go.Proofs.YtcabkjmbklkedaaDoor.Plain

theorem truth_calls (b : Bool) (w : World) : Calls Tryd.prog 16 #[.bool b] w fun e w' => e = .returned (.int .i64 (if b then 2 else 0)) ∧ w = w' := by
  cases b
  all_goals
    go_enter Tryd.func16, Tryd.ntmps16
    go_wp2
    go_ret
    exact ⟨rfl, rfl⟩

theorem begins_calls (s p : ByteArray) (w : World) (_hs : s.size ≤ 1073741824) :
    Calls Tryd.prog 18 #[.string s, .string p] w fun e w' => e = .returned (.bool (Lib.hasPrefix s.data.toList p.data.toList)) ∧ w = w' := by
  rw [← Lib.hasPrefix_raw]
  by_cases h : p.size ≤ s.size
  · go_enter Tryd.func18, Tryd.ntmps18
    go_wp2
    go_ret
    refine ⟨?_, rfl⟩
    show Ending.returned (Value.bool ((s.extract 0 p.size).toList == p.toList)) = _
    simp [h]
  · go_enter Tryd.func18, Tryd.ntmps18
    go_wp2
    go_ret
    refine ⟨?_, rfl⟩
    show Ending.returned (Value.bool false) = _
    simp [h]

theorem ends_calls (s p : ByteArray) (w : World) (hs : s.size ≤ 1073741824) :
    Calls Tryd.prog 19 #[.string s, .string p] w fun e w' => e = .returned (.bool (Lib.hasSuffix s.data.toList p.data.toList)) ∧ w = w' := by
  rw [← Lib.hasSuffix_raw]
  by_cases h : p.size ≤ s.size
  · have hlo : (s.size : Int) - (p.size : Int) = ((s.size - p.size : Nat) : Int) := by omega
    go_enter Tryd.func19, Tryd.ntmps19
    go_wp2
    go_ret
    refine ⟨?_, rfl⟩
    show Ending.returned (Value.bool ((s.extract (s.size - p.size) s.size).toList == p.toList)) = _
    simp [h]
  · go_enter Tryd.func19, Tryd.ntmps19
    go_wp2
    go_ret
    refine ⟨?_, rfl⟩
    show Ending.returned (Value.bool false) = _
    simp [h]

theorem occ_raw (s p : ByteArray) (k : Nat) (h : k + p.size ≤ s.size) : Lib.occAt s.data.toList p.data.toList k = ((s.extract k (k + p.size)).toList == p.toList) := by
  have e : (s.extract k (k + p.size)).toList = (s.data.toList.drop k).take p.data.toList.length := by rw [Lib.extract_toList, Nat.add_sub_cancel_left, len_eq]
  rw [e, toList_eq, Bool.eq_iff_iff, beq_iff_eq]
  unfold Lib.occAt
  rw [List.isPrefixOf_iff_prefix, List.prefix_iff_eq_take]
  exact ⟨fun h => h.symm, fun h => h.symm⟩
theorem has_none (s p : Bytes) (k : Nat) (h : ∀ j, j < k → Lib.occAt s p j = false) (hk : s.length < k + p.length) : hasL s p = false := by
  unfold hasL
  rcases Lib.index_spec s p with ⟨h1, _⟩ | ⟨i, h1, h2, h3, _⟩
  · rw [h1]; rfl
  · have hi : i < k := by
      have hl : p.length ≤ (s.drop i).length := by
        have : p <+: s.drop i := List.isPrefixOf_iff_prefix.1 h3
        exact this.length_le
      rw [List.length_drop] at hl
      omega
    rw [h i hi] at h3; exact absurd h3 (by decide)
theorem has_some (s p : Bytes) (k : Nat) (hk : k ≤ s.length) (h : Lib.occAt s p k = true) : hasL s p = true := by
  unfold hasL
  rcases Lib.index_spec s p with ⟨_, h2⟩ | ⟨i, h1, _, _, _⟩
  · rw [h2 k hk] at h; exact absurd h (by decide)
  · rw [h1]; exact decide_eq_true (by omega)

set_option maxHeartbeats 1000000 in
theorem has_calls (s p : ByteArray) (w : World) (hs : s.size ≤ 1073741824) (hp : p.size ≤ 1073741824) :
    Calls Tryd.prog 17 #[.string s, .string p] w fun e w' => e = .returned (.bool (hasL s.data.toList p.data.toList)) ∧ w = w' := by
  go_enter Tryd.func17, Tryd.ntmps17
  go_wp2
  go_loop [5] (fun i => ∃ k : Nat, k ≤ s.size + 1 ∧ i = .int .i64 (k : Int) ∧ Hid (∀ j, j < k → Lib.occAt s.data.toList p.data.toList j = false)) (fun i => s.size + 2 - (intOf i).toNat)
  case atStart => exact ⟨0, by omega, rfl, Lib.hid (fun j hj => absurd hj (Nat.not_lt_zero j))⟩
  case round =>
    obtain ⟨k, hk, rfl, HN⟩ := hrel
    by_cases hlt : k + p.size ≤ s.size
    · have hb1 : ((k : Int) + (p.size : Int)) ≤ (s.size : Int) := by omega
      obtain ⟨b, hb⟩ : ∃ b, ((s.extract k (k + p.size)).toList == p.toList) = b := ⟨_, rfl⟩
      have HO : Hid (Lib.occAt s.data.toList p.data.toList k = b) := by rw [occ_raw s p k hlt]; exact Lib.hid hb
      cases b
      · go_wp2
        go_round
        case rel => exact ⟨k + 1, by omega, by go_num, Lib.hid fun j hj => by
          by_cases h : j < k
          · exact HN.out j h
          · obtain rfl : j = k := by omega
            exact HO.out⟩
        case measure => simp [intOf]; omega
      · go_wp2
        go_ret
        exact ⟨ret_bool (has_some _ _ k (by rw [len_eq]; omega) HO.out).symm, rfl⟩
    · go_wp2
      go_ret
      exact ⟨ret_bool (has_none _ _ k HN.out (by rw [len_eq, len_eq]; omega)).symm, rfl⟩

end Go.Proofs.YtcabkjmbklkedaaDoor.W

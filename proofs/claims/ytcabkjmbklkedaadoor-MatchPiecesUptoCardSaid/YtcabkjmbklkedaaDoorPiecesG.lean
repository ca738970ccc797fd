/- match.Fits: whether a normal form has a pattern's parts. -/
import Derived.Test.YtcabkjmbklkedaaDoorPiecesF
import Derived.Deep.RegionWith
namespace Go.Proofs.YtcabkjmbklkedaaDoor.W
open Go.RowKit Go.Proofs.YtcabkjmbklkedaaDoor.Plain

/-- the value sl is a slice of the strings qs -/
def StrSlice (w : World) (sl : Value) (qs : List ByteArray) : Prop :=
  (sl = .slice none 0 0 ∧ qs = []) ∨ ∃ b cap, sl = .slice (some ⟨b, 0, none⟩) qs.length cap ∧ ∀ k (h : k < qs.length), w.cell? ⟨b, k, none⟩ = some (.string qs[k])
theorem StrSlice.keep {w w' : World} {sl : Value} {qs : List ByteArray} (h : StrSlice w sl qs) (hb : Below w.heap.size w w') : StrSlice w' sl qs := by
  rcases h with h | ⟨b, cap, h1, h2⟩
  · exact .inl h
  · exact .inr ⟨b, cap, h1, fun k hk => below_some (h2 k hk) hb⟩
def lists (qs : List ByteArray) : List Bytes := qs.map (·.data.toList)

theorem mid_list (v : ByteArray) (a b : Nat) (_h : b ≤ v.size) : (v.extract a (v.size - b)).data.toList = (v.data.toList.take (v.data.toList.length - b)).drop a := by
  rw [← toList_eq, Lib.extract_toList, len_eq, List.drop_take]

/-- Cut: how the pieces are sought -/
theorem cut_calls (s p : ByteArray) (w : World) (hs : s.size ≤ 1073741824) (hg : Glob w) :
    Calls Tryd.prog 29 #[.string s, .string p] w fun e w' => (∃ b r : ByteArray, e = .returned (.tuple #[.string b, .string r, .bool (decide (0 ≤ Lib.index s.data.toList p.data.toList))]) ∧ r.size ≤ s.size ∧
      (0 ≤ Lib.index s.data.toList p.data.toList → r.data.toList = s.data.toList.drop ((Lib.index s.data.toList p.data.toList).toNat + p.data.toList.length))) ∧ Below w.heap.size w w' := by
  obtain ⟨m, hm⟩ := hg.room
  refine (Tryd.strings_Cut s p m w (by omega) hm).mono ?_
  rintro e w' ⟨rfl, n, rfl⟩
  refine ⟨?_, ?_⟩
  · unfold Lib.cut
    by_cases h : 0 ≤ Lib.index s.data.toList p.data.toList
    · rw [if_pos h]
      refine ⟨_, _, by rw [decide_eq_true h], ?_, fun _ => rfl⟩
      rw [mk_size, List.length_drop, len_eq]; omega
    · rw [if_neg h]
      exact ⟨_, _, by rw [decide_eq_false h], by rw [mk_size]; simp, fun h2 => absurd h2 h⟩
  · induction n with
    | zero => exact Below.refl _ _
    | succ n ih => exact ih.drew

theorem anyFit_step (r a : Bytes) (qs : List Bytes) : anyFit r (a :: qs) = if 0 ≤ Lib.index r a then anyFit (r.drop ((Lib.index r a).toNat + a.length)) qs else false := by
  conv => lhs; unfold anyFit

set_option maxRecDepth 100000 in
set_option maxHeartbeats 4000000 in
theorem fits_calls (v i f : ByteArray) (sl : Value) (qs : List ByteArray) (w : World) (hv : v.size ≤ 1073741824) (hi : i.size ≤ 1073741824) (hf : f.size ≤ 1073741824) (has : qs.length ≤ 1073741824) (hsl : StrSlice w sl qs) (hg : Glob w) :
    Calls Tryd.prog 15 #[.string v, .agg #[.string i, sl, .string f]] w fun e w' => e = .returned (.bool (fitsL v.data.toList i.data.toList f.data.toList (lists qs))) ∧ Below w.heap.size w w' := by
  have hB0 := (Below.refl w.heap.size w).alloc (Nat.le_refl _) (.cells #[.string i, sl, .string f] 35)
  have FD : Hid (fitsL v.data.toList i.data.toList f.data.toList (lists qs) = if v.size < i.size + f.size then false else if Lib.hasPrefix v.data.toList i.data.toList then (if Lib.hasSuffix v.data.toList f.data.toList then anyFit ((v.data.toList.take (v.data.toList.length - f.data.toList.length)).drop i.data.toList.length) (lists qs) else false) else false) := by
    unfold fitsL; rw [len_eq, len_eq, len_eq]; exact Lib.hid rfl
  obtain ⟨R, hR⟩ : ∃ R, fitsL v.data.toList i.data.toList f.data.toList (lists qs) = R := ⟨_, rfl⟩
  rw [hR] at FD ⊢
  clear hR
  have tP := fun w => (Tryd.strings_HasPrefix v i w)
  by_cases h1 : v.size < i.size + f.size
  · obtain rfl : R = false := by rw [FD.out, if_pos h1]
    have h2 : (v.size : Int) < (i.size : Int) + (f.size : Int) := by omega
    rcases hsl with ⟨rfl, rfl⟩ | ⟨b, cap, rfl, hcs⟩
    all_goals
      go_enter Tryd.func15, Tryd.ntmps15
      go_wp2
      go_ret
      exact ⟨rfl, hB0⟩
  have h2 : ¬ (v.size : Int) < (i.size : Int) + (f.size : Int) := by omega
  rw [if_neg h1] at FD
  obtain ⟨b1, hb1⟩ : ∃ b, Lib.hasPrefix v.data.toList i.data.toList = b := ⟨_, rfl⟩
  obtain ⟨b2, hb2⟩ : ∃ b, Lib.hasSuffix v.data.toList f.data.toList = b := ⟨_, rfl⟩
  rw [hb1, hb2] at FD
  have H1 := Lib.hid hb1
  have H2 := Lib.hid hb2
  clear hb1 hb2 tP
  cases b1
  · obtain rfl : R = false := FD.out
    rcases hsl with ⟨rfl, rfl⟩ | ⟨b, cap, rfl, hcs⟩
    all_goals
      go_enter Tryd.func15, Tryd.ntmps15
      go_wp2_with (go_at_call 27; refine (Tryd.strings_HasPrefix _ _ _).mono ?_; rintro e w1 ⟨rfl, hw⟩; rw [hw, H1.out]; clear hw)
      go_ret
      exact ⟨rfl, hB0⟩
  cases b2
  · obtain rfl : R = false := FD.out
    rcases hsl with ⟨rfl, rfl⟩ | ⟨b, cap, rfl, hcs⟩
    all_goals
      go_enter Tryd.func15, Tryd.ntmps15
      go_wp2_with (first | (go_at_call 27; refine (Tryd.strings_HasPrefix _ _ _).mono ?_; rintro e w1 ⟨rfl, hw⟩; rw [hw, H1.out]; clear hw) | (go_at_call 28; refine (Tryd.strings_HasSuffix _ _ _ (by omega)).mono ?_; rintro e w1 ⟨rfl, hw⟩; rw [hw, H2.out]; clear hw))
      go_ret
      exact ⟨rfl, hB0⟩
  obtain ⟨r0, hr0⟩ : ∃ r, v.extract i.size (v.size - f.size) = r := ⟨_, rfl⟩
  have HR0 := Lib.hid hr0
  have FA : Hid (R = anyFit r0.data.toList (lists qs)) := by
    rw [← hr0, mid_list v i.size f.size (by omega)]; rw [FD.out, len_eq i]; exact Lib.hid rfl
  have hrs : r0.size ≤ 1073741824 := by rw [← hr0, ByteArray.size_extract]; omega
  clear hr0 FD
  have s1 : (v.size : Int) - (f.size : Int) = ((v.size - f.size : Nat) : Int) := by omega
  have s2 : (0 : Int) ≤ ((v.size - f.size : Nat) : Int) := by omega
  have s3 : (i.size : Int) ≤ ((v.size - f.size : Nat) : Int) := by omega
  have s4 : ((v.size - f.size : Nat) : Int) ≤ (v.size : Int) := by omega
  rcases hsl with ⟨rfl, rfl⟩ | ⟨b, cap, rfl, hcs⟩
  · obtain rfl : R = true := FA.out
    go_enter Tryd.func15, Tryd.ntmps15
    go_wp2_with (first | (go_at_call 27; refine (Tryd.strings_HasPrefix _ _ _).mono ?_; rintro e w1 ⟨rfl, hw⟩; rw [hw, H1.out]; clear hw) | (go_at_call 28; refine (Tryd.strings_HasSuffix _ _ _ (by omega)).mono ?_; rintro e w1 ⟨rfl, hw⟩; rw [hw, H2.out]; clear hw))
    go_loop [49] (fun k => k = .int .i64 0) (fun _ => 0)
    case atStart => rfl
    case round =>
      obtain rfl := hrel
      go_wp2
      go_ret
      exact ⟨rfl, hB0⟩
  · have HCS := Lib.hid hcs
    clear hcs
    go_enter Tryd.func15, Tryd.ntmps15
    go_wp2_with (first | (go_at_call 27; refine (Tryd.strings_HasPrefix _ _ _).mono ?_; rintro e w1 ⟨rfl, hw⟩; rw [hw, H1.out]; clear hw) | (go_at_call 28; refine (Tryd.strings_HasSuffix _ _ _ (by omega)).mono ?_; rintro e w1 ⟨rfl, hw⟩; rw [hw, H2.out]; clear hw))
    trace_state
    go_loopw [5, 7, 8, 9, 10, 49] (fun r _ _ _ _ k wr => ∃ (n : Nat) (rb : ByteArray), n ≤ qs.length ∧ k = .int .i64 (n : Int) ∧ r = .string rb ∧ rb.size ≤ 1073741824 ∧ Hid (R = anyFit rb.data.toList ((lists qs).drop n)) ∧ Below w.heap.size w wr) (fun _ _ _ _ _ k _ => qs.length - (intOf k).toNat)
    case atStart => exact ⟨0, r0, by omega, rfl, by rw [HR0.out], hrs, by rw [List.drop_zero]; exact FA, hB0⟩
    case round =>
      obtain ⟨n, rb, hn, rfl, rfl, hrb, HF, hBw⟩ := hrel
      by_cases hlt : n < qs.length
      · have hcell := below_some (HCS.out n hlt) hBw
        have hgw := hg.below hBw
        have HS : Hid (R = if 0 ≤ Lib.index rb.data.toList qs[n].data.toList then anyFit (rb.data.toList.drop ((Lib.index rb.data.toList qs[n].data.toList).toNat + qs[n].data.toList.length)) ((lists qs).drop (n + 1)) else false) := by
          have hl : n < (lists qs).length := by unfold lists; rw [List.length_map]; exact hlt
          have e : (lists qs)[n] = qs[n].data.toList := by simp [lists]
          rw [HF.out, List.drop_eq_getElem_cons hl, anyFit_step, e]; exact Lib.hid rfl
        obtain ⟨q, hq⟩ : ∃ q, qs[n] = q := ⟨_, rfl⟩
        rw [hq] at hcell HS
        clear hq
        obtain ⟨x, hx⟩ : ∃ x, decide (0 ≤ Lib.index rb.data.toList q.data.toList) = x := ⟨_, rfl⟩
        have HX := Lib.hid hx
        clear hx
        cases x
        · obtain rfl : R = false := by rw [HS.out, if_neg (of_decide_eq_false HX.out)]
          go_wp2_with fail
          refine (cut_calls rb q _ hrb hgw).mono ?_
          rintro e w2 ⟨⟨b1, r1, rfl, hr1, hd1⟩, hB2⟩
          rw [HX.out]
          replace hB2 := hBw.trans (hB2.mono hBw.size)
          go_wp2
          go_ret
          exact ⟨rfl, hB2⟩
        · have HS2 : Hid (R = anyFit (rb.data.toList.drop ((Lib.index rb.data.toList q.data.toList).toNat + q.data.toList.length)) ((lists qs).drop (n + 1))) := by
            rw [HS.out, if_pos (of_decide_eq_true HX.out)]; exact Lib.hid rfl
          go_wp2_with fail
          refine (cut_calls rb q _ hrb hgw).mono ?_
          rintro e w2 ⟨⟨b1, r1, rfl, hr1, hd1⟩, hB2⟩
          rw [HX.out]
          have HD := Lib.hid (hd1 (of_decide_eq_true HX.out))
          clear hd1
          replace hB2 := hBw.trans (hB2.mono hBw.size)
          go_wp2
          go_roundw
          case rel => exact ⟨n + 1, r1, by omega, by go_num, rfl, by omega, by rw [HD.out]; exact HS2, hB2⟩
          case measure => simp [intOf]; omega
      · obtain rfl : n = qs.length := by omega
        obtain rfl : R = true := by rw [HF.out, List.drop_of_length_le (by unfold lists; rw [List.length_map]; exact Nat.le_refl _)]; rfl
        go_wp2
        go_ret
        exact ⟨rfl, hBw⟩

end Go.Proofs.YtcabkjmbklkedaaDoor.W

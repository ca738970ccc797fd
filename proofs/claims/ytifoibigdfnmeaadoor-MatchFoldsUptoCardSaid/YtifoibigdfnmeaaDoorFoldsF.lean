/- Walks of what the law MatchFolds uses: swapped, figure, truth. -/
import Derived.Test.YtifoibigdfnmeaaDoorEqual
namespace Go.Proofs.YtifoibigdfnmeaaDoor.W
open Go.RowKit Go.Proofs.YtifoibigdfnmeaaDoor.Plain

set_option maxHeartbeats 400000 in
theorem truth_calls (b : Bool) (w : World) :
    Calls Tryd.prog 16 #[.bool b] w fun e w' => e = .returned (.int .i64 (if b then 2 else 0)) ∧ w = w' := by
  cases b
  all_goals
    go_enter Tryd.func16, Tryd.ntmps16
    go_wp2
    go_ret
    exact ⟨rfl, rfl⟩

/-- small letters for capitals, and capitals for small ones -/
def swapB (c : UInt8) : UInt8 := if 97 ≤ c ∧ c ≤ 122 then c - 32 else if 65 ≤ c ∧ c ≤ 90 then c + 32 else c
def swapL (l : Bytes) : Bytes := l.map swapB
def swapTo (l : Bytes) (k : Nat) : Bytes := swapL (l.take k) ++ l.drop k
theorem swapTo_length (l : Bytes) (k : Nat) : (swapTo l k).length = l.length := by simp [swapTo, swapL]; omega
theorem swapTo_zero (l : Bytes) : swapTo l 0 = l := by simp [swapTo, swapL]
theorem swapTo_all (l : Bytes) (k : Nat) (h : l.length ≤ k) : swapTo l k = swapL l := by
  simp [swapTo, List.take_of_length_le h, List.drop_of_length_le h]
theorem swapTo_at (l : Bytes) (k : Nat) (h : k < l.length) : (swapTo l k)[k]? = some l[k] := by
  unfold swapTo
  have e : (swapL (l.take k)).length = k := by simp [swapL]; omega
  rw [List.getElem?_append_right (by omega), e, Nat.sub_self, List.getElem?_drop]
  simp [h]
theorem swapTo_succ (l : Bytes) (k : Nat) (h : k < l.length) : swapTo l (k + 1) = (swapTo l k).set k (swapB l[k]) := by
  unfold swapTo
  have e : (swapL (l.take k)).length = k := by simp [swapL]; omega
  have e2 : swapL (l.take (k + 1)) = swapL (l.take k) ++ [swapB l[k]] := by rw [take_snoc l k h]; simp only [swapL, List.map_append, List.map_cons, List.map_nil]
  rw [e2, List.set_append_right _ _ (by omega), e, Nat.sub_self, List.append_assoc]
  congr 1
  rw [List.drop_eq_getElem_cons h]; rfl
theorem swapTo_same (l : Bytes) (k : Nat) (h : k < l.length) (hs : swapB l[k] = l[k]) : swapTo l (k + 1) = swapTo l k := by
  rw [swapTo_succ l k h, hs]; exact set_same _ _ _ (swapTo_at l k h)
theorem swapB_small (c : UInt8) (h1 : 97 ≤ (c.toNat : Int)) (h2 : (c.toNat : Int) ≤ 122) : ((swapB c).toNat : Int) = c.toNat - 32 := by
  unfold swapB
  have a1 : (97 : UInt8) ≤ c := by rw [UInt8.le_iff_toNat_le]; simp; omega
  have a2 : c ≤ (122 : UInt8) := by rw [UInt8.le_iff_toNat_le]; simp; omega
  rw [if_pos ⟨a1, a2⟩]
  simp [UInt8.toNat_sub]; omega
theorem swapB_capital (c : UInt8) (h1 : 65 ≤ (c.toNat : Int)) (h2 : (c.toNat : Int) ≤ 90) : ((swapB c).toNat : Int) = c.toNat + 32 := by
  unfold swapB
  have a1 : (65 : UInt8) ≤ c := by rw [UInt8.le_iff_toNat_le]; simp; omega
  have a2 : c ≤ (90 : UInt8) := by rw [UInt8.le_iff_toNat_le]; simp; omega
  rw [if_neg (fun h => by have := UInt8.le_iff_toNat_le.1 h.1; simp at this; omega), if_pos ⟨a1, a2⟩]
  simp [UInt8.toNat_add]; omega
theorem swapB_no (c : UInt8) (h : (c.toNat : Int) < 65 ∨ (90 < (c.toNat : Int) ∧ (c.toNat : Int) < 97) ∨ 122 < (c.toNat : Int)) : swapB c = c := by
  unfold swapB
  rw [if_neg (fun h => by have h1 := UInt8.le_iff_toNat_le.1 h.1; have h2 := UInt8.le_iff_toNat_le.1 h.2; simp at h1 h2; omega), if_neg (fun h => by have h1 := UInt8.le_iff_toNat_le.1 h.1; have h2 := UInt8.le_iff_toNat_le.1 h.2; simp at h1 h2; omega)]

set_option maxRecDepth 100000 in
set_option maxHeartbeats 1000000 in
theorem swap_calls (s : ByteArray) (w : World) (hs : s.size ≤ 140737488351232) :
    Calls Tryd.prog 15 #[.string s] w fun e w' => e = .returned (.string ⟨(swapL s.data.toList).toArray⟩) ∧ Below w.heap.size w w' := by
  have kc := fun (W : World) => Lib.run_convert_string_bytes (P := Tryd.prog) W 9 54 5 s Tryd.underlying9 Tryd.underlying54 Tryd.underlying5
  go_enter Tryd.func15, Tryd.ntmps15
  go_wp2
  have h0 := CellsAre.bytesWorld w s 5
  have hb0 := below_bytesWorld w 5 s
  generalize Lib.bytesWorld w 5 s = W0 at h0 hb0 ⊢
  generalize grownCap w s.size 0 5 = cp
  clear kc
  go_loopw [4] (fun i wr => ∃ k : Nat, k ≤ s.size ∧ i = .int .i64 k ∧ CellsAre wr w.heap.size (swapTo s.data.toList k) ∧ Below w.heap.size w wr) (fun i _ => s.size - (intOf i).toNat)
  case atStart => exact ⟨0, Nat.zero_le _, rfl, by rw [swapTo_zero]; exact h0, hb0⟩
  case round =>
    obtain ⟨k, hk, rfl, hC, hB⟩ := hrel
    by_cases hlt : k < s.size
    · obtain ⟨hc, hf⟩ := hC k s[k] (swapTo_at s.data.toList k (by simpa using hlt))
      have HS := Lib.hid (swapTo_succ s.data.toList k (by simpa using hlt))
      have HS2 := Lib.hid (swapTo_same s.data.toList k (by simpa using hlt))
      have HL := Lib.hid (swapTo_length s.data.toList k)
      have HC := Lib.hid hC
      clear hC h0 hb0
      by_cases h1 : 97 ≤ ((s[k]).toNat : Int)
      · by_cases h2 : ((s[k]).toNat : Int) ≤ 122
        · have HF := Lib.hid (swapB_small s[k] h1 h2)
          go_wp2
          go_roundw
          case rel => exact ⟨k + 1, by omega, by go_num, by rw [HS.out, ← HF.out]; exact HC.out.set k (swapB s[k]) (by rw [HL.out]; simpa using hlt), hB.setCell (Nat.le_refl _) _⟩
          case measure => simp [intOf]; omega
        · have HF := Lib.hid (swapB_no s[k] (by omega))
          have h4 : ¬ ((s[k]).toNat : Int) ≤ 90 := by omega
          go_wp2
          go_roundw
          case rel => exact ⟨k + 1, by omega, by go_num, by rw [HS2.out HF.out]; exact HC.out, hB⟩
          case measure => simp [intOf]; omega
      · by_cases h3 : 65 ≤ ((s[k]).toNat : Int)
        · by_cases h4 : ((s[k]).toNat : Int) ≤ 90
          · have HF := Lib.hid (swapB_capital s[k] h3 h4)
            go_wp2
            go_roundw
            case rel => exact ⟨k + 1, by omega, by go_num, by rw [HS.out, ← HF.out]; exact HC.out.set k (swapB s[k]) (by rw [HL.out]; simpa using hlt), hB.setCell (Nat.le_refl _) _⟩
            case measure => simp [intOf]; omega
          · have HF := Lib.hid (swapB_no s[k] (by omega))
            go_wp2
            go_roundw
            case rel => exact ⟨k + 1, by omega, by go_num, by rw [HS2.out HF.out]; exact HC.out, hB⟩
            case measure => simp [intOf]; omega
        · have HF := Lib.hid (swapB_no s[k] (by omega))
          go_wp2
          go_roundw
          case rel => exact ⟨k + 1, by omega, by go_num, by rw [HS2.out HF.out]; exact HC.out, hB⟩
          case measure => simp [intOf]; omega
    · have hconv := fun cp => CellsAre.string (P := Tryd.prog) (src := 54) (dst := 9) (e := 5) (n := s.size) (cap := cp) Tryd.underlying54 Tryd.underlying5 Tryd.underlying9 hC (by rw [swapTo_length]; simp)
      go_wp2
      go_ret
      exact ⟨ret_l (swapTo_all _ _ (by simp; omega)), hB⟩

/-- 'string([]byte{n})' -/
theorem one_byte (w : World) (n : Int) : (convert 54 9 (.slice (some ⟨w.heap.size, 0, none⟩) 1 1)).run Tryd.prog (w.alloc (.cells #[.int .u8 n] 5)) =
    .ok (.string ⟨#[UInt8.ofNat n.toNat]⟩) (w.alloc (.cells #[.int .u8 n] 5)) := by
  have hx := run_convert_bytes_arg (P := Tryd.prog) (w.alloc (.cells #[.int .u8 n] 5)) 54 5 Tryd.underlying54 Tryd.underlying5 w.heap.size 0 1 1 [n] rfl (fun i hi => by
    obtain rfl : i = 0 := by omega
    rw [World.cell?_alloc_new]; rfl) 9 Tryd.underlying9
  rw [hx]; rfl
theorem app_data (a b : ByteArray) : (a ++ b).data.toList = a.data.toList ++ b.data.toList := by simp
theorem app_size (a b : ByteArray) : (a ++ b).size = a.size + b.size := by simp

/-- a digit for each of the first hundred bytes -/
def figB (c : UInt8) : UInt8 := UInt8.ofNat (48 + c.toNat % 10)
def figL (l : Bytes) : Bytes := (l.take 100).map figB
theorem fig_byte (c : UInt8) : 48 + UInt8.ofNat (c.toNat % 10) = figB c := by
  unfold figB; rw [UInt8.ofNat_add]; rfl
theorem figL_end (l : Bytes) (k : Nat) (h : k = 100 ∨ (k = l.length ∧ k ≤ 100)) : (l.take k).map figB = figL l := by
  unfold figL
  rcases h with rfl | ⟨rfl, h⟩
  · rfl
  · rw [List.take_of_length_le (Nat.le_refl _), List.take_of_length_le h]

set_option maxRecDepth 100000 in
set_option maxHeartbeats 1000000 in
theorem fig_calls (s : ByteArray) (w : World) (_hs : s.size ≤ 140737488351232) :
    Calls Tryd.prog 17 #[.string s] w fun e w' => e = .returned (.string ⟨(figL s.data.toList).toArray⟩) ∧ Below w.heap.size w w' := by
  go_enter Tryd.func17, Tryd.ntmps17
  go_wp2
  go_loopw [3, 4] (fun o i wr => ∃ k : Nat, k ≤ s.size ∧ k ≤ 100 ∧ i = .int .i64 k ∧ (∃ d : ByteArray, o = .string d ∧ d.size = k ∧ Hid (d.data.toList = (s.data.toList.take k).map figB)) ∧ Below w.heap.size w wr) (fun _ i _ => s.size - (intOf i).toNat)
  case atStart => exact ⟨0, Nat.zero_le _, by omega, rfl, ⟨_, rfl, rfl, by rw [List.take_zero]; exact Lib.hid rfl⟩, Below.refl _ _⟩
  case round =>
    obtain ⟨k, hk, hk2, rfl, ⟨d, rfl, hds, HD⟩, hB⟩ := hrel
    have hdl : d.size ≤ 100 := by omega
    have HDS := Lib.hid hds
    clear hds
    by_cases hlt : k < s.size
    · by_cases h100 : k < 100
      · have hconv := fun n => one_byte wr n
        have HT := Lib.hid (take_snoc s.data.toList k (by rw [len_eq]; exact hlt))
        go_wp2
        go_roundw
        case rel => exact ⟨k + 1, by omega, by omega, by go_num, ⟨_, rfl, by rw [app_size, HDS.out]; rfl, by rw [app_data, HD.out, HT.out, List.map_append]; congr 1; exact congrArg (fun x => [x]) (fig_byte s[k])⟩, hB.alloc hB.size _⟩
        case measure => simp [intOf]; omega
      · have hd1 : decide ((k : Int) < 100) = false := by simp; omega
        go_wp2
        go_ret
        exact ⟨ret_str (mk_of (by rw [HD.out]; exact figL_end _ _ (.inl (by omega)))), hB⟩
    · go_wp2
      go_ret
      exact ⟨ret_str (mk_of (by rw [HD.out]; exact figL_end _ _ (.inr ⟨by rw [len_eq]; omega, hk2⟩))), hB⟩

end Go.Proofs.YtifoibigdfnmeaaDoor.W

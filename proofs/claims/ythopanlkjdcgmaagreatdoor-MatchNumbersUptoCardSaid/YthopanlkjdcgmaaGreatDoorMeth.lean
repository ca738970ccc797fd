/- Walks of each syntax's 'normal' (the syntaxes without names, times and lists of lines). -/
import Derived.Test.YthopanlkjdcgmaaGreatDoorBytes
import Derived.Deep.RegionWith
namespace Go.Proofs.YthopanlkjdcgmaaGreatDoor.W
open Go.RowKit Go.Proofs.YthopanlkjdcgmaaGreatDoor.Plain

/-- what the walks need of the package-level variables, from world to world -/
structure Glob (w : World) : Prop where
  kinds : KindsAt w
  room : ∃ m : Int, w.cell? ⟨2, 0, none⟩ = some (.int .i64 m)
theorem below_some {w w' : World} {a : Addr} {v : Value} (h : w.cell? a = some v) (hb : Below w.heap.size w w') : w'.cell? a = some v :=
  (hb.cell (World.block_lt_of_cell? w a h)).trans h
theorem Glob.below {w w' : World} (h : Glob w) (hb : Below w.heap.size w w') : Glob w' :=
  ⟨fun i hi => below_some (h.kinds i hi) hb, let ⟨m, hm⟩ := h.room; ⟨m, below_some hm hb⟩⟩

/-- what 'normal' answers -/
def normV : Option Bytes → Value
  | some n => .tuple #[.string ⟨n.toArray⟩, .bool true]
  | none => .tuple #[.string ⟨#[]⟩, .bool false]
def NormPost (r : Option Bytes) (w : World) (e : Ending) (w' : World) : Prop := e = .returned (normV r) ∧ Below w.heap.size w w'

theorem nil_of {s : ByteArray} (h : s.size = 0) : s.data.toList = [] := (empty_of h).2.2.2
theorem not_nil {s : ByteArray} (h : 0 < s.size) : s.data.toList ≠ [] := fun e => by rw [← len_eq, e] at h; exact absurd h (by simp)
theorem emp {s : ByteArray} (h : s.size = 0) : s = ⟨#[]⟩ := mk_of (nil_of h)
theorem b1 {w w1 : World} (o : Obj) (h : Below (w.heap.size + 1) (w.alloc o) w1) : Below w.heap.size w w1 :=
  (Below.alloc (Below.refl _ _) (Nat.le_refl _) o).trans (h.mono (Nat.le_succ _))

set_option maxHeartbeats 400000 in
theorem exact_any (s : ByteArray) (w : World) (hs : s.size ≤ 140737488351232) :
    Calls Tryz.prog 220 #[.agg #[], .string s] w (NormPost (nExact s.data.toList) w) := by
  by_cases hz : s.size = 0
  · obtain rfl := emp hz
    clear hz
    go_enter Tryz.func220, Tryz.ntmps220
    go_wp2
    go_ret2
    exact ⟨rfl, (Below.refl _ _).alloc (Nat.le_refl _) _⟩
  · obtain ⟨e1, e2, e3⟩ := full_of (c := s) (by omega)
    have hn := not_nil (s := s) (by omega)
    obtain ⟨b, hb⟩ : ∃ b, utfL s.data.toList = b := ⟨_, rfl⟩
    have HN : Hid (nExact s.data.toList = if b then some (squeeze s.data.toList) else none) := by unfold nExact; rw [if_neg hn, hb]; exact Lib.hid rfl
    have HB := Lib.hid hb
    clear hb hz hn
    cases b
    · go_enter Tryz.func220, Tryz.ntmps220
      go_wp2_with (go_at_call 224; refine (utf_any _ _ hs).mono ?_; rintro e w1 ⟨rfl, hB⟩; rw [HB.out])
      go_ret2
      exact ⟨by rw [HN.out]; rfl, b1 _ (by simpa using hB)⟩
    · go_enter Tryz.func220, Tryz.ntmps220
      go_wp2_with (first | (go_at_call 224; refine (utf_any _ _ hs).mono ?_; rintro e w1 ⟨rfl, hB⟩; rw [HB.out]) | (go_at_call 135; refine (squeeze_any _ _ hs).mono ?_; rintro e w2 ⟨rfl, hB2⟩))
      go_ret2
      exact ⟨by rw [HN.out]; rfl, b1 _ ((by simpa using hB : Below _ _ _).trans (hB2.mono (by have := hB.size; simpa using this)))⟩


theorem shape_of {P : Program} {W : World} {b e : Nat} {cs : Array Value} {fr : Nat × Nat} (h : W.heap[b]? = some (.cells cs e fr)) : (shape b).run P W = .ok (some (e, cs.size)) W := by
  have hr : (shape b).run P W = .ok (W.shape? b) W := rfl
  rw [hr]; simp [World.shape?, h]
theorem part_zero {P : Program} {W : World} {b e : Nat} {cs : Array Value} {fr : Nat × Nat} (h : W.heap[b]? = some (.cells cs e fr)) (hc : P.cellsOf e = 0) :
    (partAt ⟨b, 0, none⟩ 0 0).run P W = .ok ⟨b, 0, none⟩ W := by
  have hs := shape_of (P := P) h
  have hv : (viewAt b).run P W = .ok none W := by
    simp [viewAt, hs, Result.andThen]
  have hb : (byteOf ⟨b, 0, none⟩).run P W = .ok 0 W := by
    simp [byteOf, noView, hs, hv, hc, Result.andThen]
  simp [partAt, hb, Result.andThen]
theorem new_at_drew (w : World) (o : Obj) : (w.alloc o).drew.heap[w.heap.size]? = some o := heap_alloc_new w o
theorem normV_some (n : Bytes) : normV (some n) = .tuple #[.string ⟨n.toArray⟩, .bool true] := rfl
theorem normV_none : normV none = .tuple #[.string ⟨#[]⟩, .bool false] := rfl
theorem b1d {w w1 w2 : World} (o : Obj) (h : Below (w.alloc o).drew.heap.size (w.alloc o).drew w1) (h2 : Below w1.heap.size w1 w2) : Below w.heap.size w w2 := by
  have hs : (w.alloc o).drew.heap.size = w.heap.size + 1 := by simp
  have hz : w.heap.size + 1 ≤ w1.heap.size := by have := h.size; omega
  exact ((((Below.refl _ w).alloc (Nat.le_refl _) o).drew).trans (h.mono (by omega))).trans (h2.mono (by omega))

set_option maxHeartbeats 1000000 in
theorem text_any (s : ByteArray) (w : World) (hs : s.size ≤ 140737488351232) :
    Calls Tryz.prog 228 #[.agg #[], .string s] w (NormPost (nText s.data.toList) w) := by
  obtain ⟨c, hc⟩ : ∃ c : ByteArray, (⟨(fold s.data.toList).toArray⟩ : ByteArray) = c := ⟨_, rfl⟩
  have hcl : c.size ≤ 140737488351232 := by rw [← hc, fold_size]; exact hs
  obtain ⟨r, hr⟩ : ∃ r, nExact c.data.toList = r := ⟨_, rfl⟩
  have HN : Hid (nText s.data.toList = r) := by unfold nText; rw [← hr, ← hc]; exact Lib.hid rfl
  have HC := Lib.hid hc
  have HR := Lib.hid hr
  clear hc hr
  have hp0 := part_zero (P := Tryz.prog) (new_at_drew w (.cells #[] 263)) (by kernel_rfl)
  cases r
  · go_enter Tryz.func228, Tryz.ntmps228
    go_wp2
    go_region_with (first | (go_at_call 69; refine (fold_any _ _ hs).mono ?_; rintro e w1 ⟨rfl, hB⟩; rw [HC.out]; have hp1 := part_zero (P := Tryz.prog) (W := w1) ((hB.block w.heap.size (by simp)).trans (new_at_drew w (.cells #[] 263))) (by kernel_rfl)) | (go_at_call 220; refine (exact_any _ _ hcl).mono ?_; rintro e w2 ⟨rfl, hB2⟩; rw [HR.out, normV_none]))
    all_goals go_wp2
    all_goals go_ret2
    all_goals exact ⟨by rw [HN.out]; rfl, b1d _ hB hB2⟩
  · go_enter Tryz.func228, Tryz.ntmps228
    go_wp2
    go_region_with (first | (go_at_call 69; refine (fold_any _ _ hs).mono ?_; rintro e w1 ⟨rfl, hB⟩; rw [HC.out]; have hp1 := part_zero (P := Tryz.prog) (W := w1) ((hB.block w.heap.size (by simp)).trans (new_at_drew w (.cells #[] 263))) (by kernel_rfl)) | (go_at_call 220; refine (exact_any _ _ hcl).mono ?_; rintro e w2 ⟨rfl, hB2⟩; rw [HR.out, normV_some]))
    all_goals go_wp2
    all_goals go_ret2
    all_goals exact ⟨by rw [HN.out]; rfl, b1d _ hB hB2⟩

set_option maxHeartbeats 400000 in
theorem low_any (s : ByteArray) (w : World) (hs : s.size ≤ 140737488351232) :
    Calls Tryz.prog 230 #[.agg #[], .string s] w (NormPost (nLow s.data.toList) w) := by
  obtain ⟨b, hb⟩ : ∃ b, asciiL s.data.toList = b := ⟨_, rfl⟩
  have HN : Hid (nLow s.data.toList = if b then some (squeeze s.data.toList) else none) := by unfold nLow; rw [hb]; exact Lib.hid rfl
  have HB := Lib.hid hb
  clear hb
  have hm : s.size ≤ maxLen := by unfold maxLen; omega
  cases b
  · go_enter Tryz.func230, Tryz.ntmps230
    go_wp2_with (go_at_call 234; refine (ascii _ _ hm).mono ?_; rintro e w1 ⟨rfl, rfl⟩; rw [HB.out])
    go_ret2
    exact ⟨by rw [HN.out]; rfl, (Below.refl _ _).alloc (Nat.le_refl _) _⟩
  · go_enter Tryz.func230, Tryz.ntmps230
    go_wp2_with (first | (go_at_call 234; refine (ascii _ _ hm).mono ?_; rintro e w1 ⟨rfl, rfl⟩; rw [HB.out]) | (go_at_call 135; refine (squeeze_any _ _ hs).mono ?_; rintro e w2 ⟨rfl, hB2⟩))
    go_ret2
    exact ⟨by rw [HN.out]; rfl, b1 _ (by simpa using hB2)⟩

set_option maxHeartbeats 1000000 in
theorem lowF_any (s : ByteArray) (w : World) (hs : s.size ≤ 140737488351232) :
    Calls Tryz.prog 235 #[.agg #[], .string s] w (NormPost (nLowF s.data.toList) w) := by
  obtain ⟨c, hc⟩ : ∃ c : ByteArray, (⟨(fold s.data.toList).toArray⟩ : ByteArray) = c := ⟨_, rfl⟩
  have hcl : c.size ≤ 140737488351232 := by rw [← hc, fold_size]; exact hs
  obtain ⟨r, hr⟩ : ∃ r, nLow c.data.toList = r := ⟨_, rfl⟩
  have HN : Hid (nLowF s.data.toList = r) := by unfold nLowF; rw [← hr, ← hc]; exact Lib.hid rfl
  have HC := Lib.hid hc
  have HR := Lib.hid hr
  clear hc hr
  have hp0 := part_zero (P := Tryz.prog) (new_at_drew w (.cells #[] 268)) (by kernel_rfl)
  cases r
  · go_enter Tryz.func235, Tryz.ntmps235
    go_wp2
    go_region_with (first | (go_at_call 69; refine (fold_any _ _ hs).mono ?_; rintro e w1 ⟨rfl, hB⟩; rw [HC.out]; have hp1 := part_zero (P := Tryz.prog) (W := w1) ((hB.block w.heap.size (by simp)).trans (new_at_drew w (.cells #[] 268))) (by kernel_rfl)) | (go_at_call 230; refine (low_any _ _ hcl).mono ?_; rintro e w2 ⟨rfl, hB2⟩; rw [HR.out, normV_none]))
    all_goals go_wp2
    all_goals go_ret2
    all_goals exact ⟨by rw [HN.out]; rfl, b1d _ hB hB2⟩
  · go_enter Tryz.func235, Tryz.ntmps235
    go_wp2
    go_region_with (first | (go_at_call 69; refine (fold_any _ _ hs).mono ?_; rintro e w1 ⟨rfl, hB⟩; rw [HC.out]; have hp1 := part_zero (P := Tryz.prog) (W := w1) ((hB.block w.heap.size (by simp)).trans (new_at_drew w (.cells #[] 268))) (by kernel_rfl)) | (go_at_call 230; refine (low_any _ _ hcl).mono ?_; rintro e w2 ⟨rfl, hB2⟩; rw [HR.out, normV_some]))
    all_goals go_wp2
    all_goals go_ret2
    all_goals exact ⟨by rw [HN.out]; rfl, b1d _ hB hB2⟩

end Go.Proofs.YthopanlkjdcgmaaGreatDoor.W

/- Small general lemmas for the walks: slices of bytes that the call itself makes, and their text. -/
import Derived.Test.YthopanlkjdcgmaaGreatDoorProg
import Derived.Test.YthopanlkjdcgmaaGreatDoorPlain
import Derived.WalkKit
import Derived.WalkSpells
import Derived.WalkLawsBesides
import Derived.Lib.Hide
import Derived.Laws.BytesArg
import Derived.Lib.ConvBytes
import Derived.Lib.Strings
import Derived.Deep.DeepCutAuto
namespace Go.Proofs.YthopanlkjdcgmaaGreatDoor.W
open Go.RowKit Go.Proofs.YthopanlkjdcgmaaGreatDoor.Plain

theorem ret_bool {a b : Bool} (h : a = b) : Ending.returned (.bool a) = .returned (.bool b) := by rw [h]
theorem ret_int {k : IntKind} {a b : Int} (h : a = b) : Ending.returned (.int k a) = .returned (.int k b) := by rw [h]
theorem ret_str {a b : ByteArray} (h : a = b) : Ending.returned (.string a) = .returned (.string b) := by rw [h]
theorem ret_l {a b : Bytes} (h : a = b) : Ending.returned (.string ⟨a.toArray⟩) = .returned (.string ⟨b.toArray⟩) := by rw [h]
theorem u8_le (a b : UInt8) : (a ≤ b) = ((a.toNat : Int) ≤ (b.toNat : Int)) := by
  rw [UInt8.le_iff_toNat_le]; simp
theorem u8_lt (a b : UInt8) : (a < b) = ((a.toNat : Int) < (b.toNat : Int)) := by
  rw [UInt8.lt_iff_toNat_lt]; simp
theorem u8_eq (a b : UInt8) : (a = b) = ((a.toNat : Int) = (b.toNat : Int)) := by
  rw [← UInt8.toNat_inj]; apply propext; omega

/-- bytes as values -/
def bv (c : UInt8) : Value := .int .u8 (c.toNat : Int)
def bvs (l : Bytes) : List Value := l.map bv
theorem bvs_length (l : Bytes) : (bvs l).length = l.length := by simp [bvs]
theorem bvs_append (l m : Bytes) : bvs (l ++ m) = bvs l ++ bvs m := by simp [bvs]
theorem bvs_one (l : Bytes) : ∀ u ∈ bvs l, u.oneCell' = true := by
  intro u hu
  obtain ⟨c, _, rfl⟩ := List.mem_map.1 hu
  rfl

/-- the text of bytes that the call's own row holds -/
theorem own_string {P : Program} {w : World} {src dst e : TypeId} {base n : Nat} {v : Value} {l : Bytes} (hs : P.underlying src = some (.slice e)) (he : P.underlying e = some (.int .u8)) (hd : P.underlying dst = some .string)
    (h : w.ownsRow base e 1 v n (bvs l)) : (convert src dst v).run P w = .ok (.string ⟨l.toArray⟩) w := by
  obtain ⟨hl, h⟩ := h
  rw [bvs_length] at hl
  simp only [Nat.mul_one] at hl
  rcases h with ⟨rfl, rfl⟩ | ⟨g, cap, cur, rfl, hb, hg, hn, hm, hc, ht⟩
  · obtain rfl : l = [] := List.eq_nil_of_length_eq_zero hl
    exact run_convert_bytes_nil w src e hs he 0 0 dst hd
  · have hx := run_convert_bytes_arg (P := P) w src e hs he g 0 n cap (l.map fun c => (c.toNat : Int)) (by simpa using hl) (fun i hi => by
      have hi2 : i < l.length := by omega
      have h3 : cur.toList[i]? = some (bv l[i]) := by
        have h4 : (cur.toList.take (n * 1))[i]? = (bvs l)[i]? := by rw [ht]
        rw [List.getElem?_take_of_lt (by omega)] at h4
        rw [h4]; simp [bvs, hi2]
      have h5 : cur[i]? = some (bv l[i]) := by simpa using h3
      simp [World.cell?, hg, h5, List.getD, hi2, bv]) dst hd
    rw [hx]
    congr 2
    unfold strOfNums
    congr 2
    rw [List.map_map]
    conv => rhs; rw [← List.map_id l]
    apply List.map_congr_left
    intro c _
    simp

theorem own_ge {w : World} {base n : Nat} {e size : Nat} {v : Value} {xs : List Value} (h : w.ownsRow base e size v n xs) : ∀ k, v.ownBlock = some k → base ≤ k := fun k hk => (h.lt k hk).1
theorem own_len {w : World} {base n : Nat} {e : Nat} {v : Value} {l m : Bytes} (h : w.ownsRow base e 1 v n (bvs l)) (hl : m = l) : w.ownsRow base e 1 v m.length (bvs m) := by
  subst hl
  have h1 := h.1
  rw [bvs_length] at h1
  have h2 : n = m.length := by omega
  rw [← h2]; exact h

/-- the first cells of a block hold these bytes, and may be written -/
def CellsAre (w : World) (b : Nat) (l : Bytes) : Prop := ∀ j c, l[j]? = some c → w.cell? ⟨b, j, none⟩ = some (.int .u8 (c.toNat : Int)) ∧ w.frozen? ⟨b, j, none⟩ = false
theorem CellsAre.bytesWorld (w : World) (s : ByteArray) (e : TypeId) : CellsAre (Lib.bytesWorld w e s) w.heap.size s.data.toList := by
  intro j c hc
  have hj : j < s.data.toList.length := (List.getElem?_eq_some_iff.1 hc).1
  have hj2 : j < s.size := by simpa using hj
  refine ⟨?_, ?_⟩
  · rw [Lib.bytesWorld_cell w e s j hj2]
    simp [List.getD, hc]
  · have hn := Lib.bytesWorld_at_new w e s
    have hz : j < (Lib.bytesCells w e s).size := by simp [Lib.bytesCells]; omega
    simp only [World.frozen?, hn]
    simp; omega
theorem CellsAre.set {w : World} {b : Nat} {l : Bytes} (h : CellsAre w b l) (k : Nat) (c : UInt8) (hk : k < l.length) : CellsAre (w.setCell ⟨b, k, none⟩ (.int .u8 (c.toNat : Int))) b (l.set k c) := by
  intro j d hd
  rw [List.getElem?_set] at hd
  by_cases e : k = j
  · subst e
    simp only [if_true, hk] at hd
    obtain rfl := Option.some.inj hd
    obtain ⟨hc, hf⟩ := h k l[k] (by simp [hk])
    exact ⟨World.cell?_setCell_same _ _ _ hc, by rw [World.frozen?_setCell]; exact hf⟩
  · simp only [e, if_false] at hd
    obtain ⟨hc, hf⟩ := h j d hd
    exact ⟨(World.cell?_setCell_other _ _ _ _ (by intro he; injection he with _ he; exact e he)).trans hc, by rw [World.frozen?_setCell]; exact hf⟩
theorem CellsAre.string {P : Program} {w : World} {src dst e : TypeId} {b n cap : Nat} {l : Bytes} (hs : P.underlying src = some (.slice e)) (he : P.underlying e = some (.int .u8)) (hd : P.underlying dst = some .string)
    (h : CellsAre w b l) (hn : l.length = n) : (convert src dst (.slice (some ⟨b, 0, none⟩) n cap)).run P w = .ok (.string ⟨l.toArray⟩) w := by
  have hx := run_convert_bytes_arg (P := P) w src e hs he b 0 n cap (l.map fun c => (c.toNat : Int)) (by simpa using hn) (fun i hi => by
    have hi2 : i < l.length := by omega
    rw [Nat.zero_add, (h i l[i] (by simp [hi2])).1]
    simp [List.getD, hi2]) dst hd
  rw [hx]
  congr 2
  unfold strOfNums
  congr 2
  rw [List.map_map]
  conv => rhs; rw [← List.map_id l]
  apply List.map_congr_left
  intro c _
  simp
theorem below_bytesWorld (w : World) (e : TypeId) (s : ByteArray) : Below w.heap.size w (Lib.bytesWorld w e s) :=
  ⟨rfl, rfl, rfl, by rw [Lib.bytesWorld_size]; omega, fun k hk => Lib.bytesWorld_at_old w e s k hk⟩

theorem toList_eq (c : ByteArray) : c.toList = c.data.toList := Lib.toList_data c
theorem full_of {c : ByteArray} (h : 0 < c.size) : c.toList.isEmpty = false ∧ (!c.toList.isEmpty) = true ∧ ¬ c.toList = [] := by
  have h1 : c.toList ≠ [] := by
    intro e
    rw [toList_eq] at e
    have : c.data.toList.length = 0 := by rw [e]; rfl
    have h2 : c.data.toList.length = c.size := by simp
    omega
  have h3 : c.toList.isEmpty = false := by cases hc : c.toList with | nil => exact absurd hc h1 | cons _ _ => rfl
  exact ⟨h3, by rw [h3]; rfl, h1⟩
theorem empty_of {c : ByteArray} (h : c.size = 0) : c.toList.isEmpty = true ∧ (!c.toList.isEmpty) = false ∧ c.toList = [] ∧ c.data.toList = [] := by
  have h1 : c.data.toList = [] := by
    apply List.eq_nil_of_length_eq_zero
    rw [Array.length_toList]; exact h
  have h2 : c.toList = [] := by rw [toList_eq]; exact h1
  exact ⟨by rw [h2]; rfl, by rw [h2]; rfl, h2, h1⟩
theorem len_eq (s : ByteArray) : s.data.toList.length = s.size := by rw [Array.length_toList]; rfl
theorem mk_size (l : Bytes) : (⟨l.toArray⟩ : ByteArray).size = l.length := by simp [ByteArray.size]
theorem mk_data (l : Bytes) : (⟨l.toArray⟩ : ByteArray).data.toList = l := by simp
theorem mk_of {c : ByteArray} {l : Bytes} (h : c.data.toList = l) : c = ⟨l.toArray⟩ := by
  subst h; cases c; simp
end Go.Proofs.YthopanlkjdcgmaaGreatDoor.W

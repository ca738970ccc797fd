/- Walks of the reader of times: number, more, row, zone. -/
import Derived.Test.YthopanlkjdcgmaaGreatDoorNorm
namespace Go.Proofs.YthopanlkjdcgmaaGreatDoor.W
open Go.RowKit Go.Proofs.YthopanlkjdcgmaaGreatDoor.Plain

/-- a reader in memory: what is left of the text, and whether all went well -/
structure RdAt (w : World) (b : Nat) (s : ByteArray) (ok : Bool) : Prop where
  s : w.cell? ⟨b, 0, none⟩ = some (.string s)
  ok : w.cell? ⟨b, 1, none⟩ = some (.bool ok)
  fs : w.frozen? ⟨b, 0, none⟩ = false
  fok : w.frozen? ⟨b, 1, none⟩ = false
theorem RdAt.bad {w : World} {b : Nat} {s : ByteArray} {ok : Bool} (h : RdAt w b s ok) (x : Bool) : RdAt (w.setCell ⟨b, 1, none⟩ (.bool x)) b s x :=
  ⟨(World.cell?_setCell_other _ _ _ _ (by simp)).trans h.s, World.cell?_setCell_same _ _ _ h.ok, by rw [World.frozen?_setCell]; exact h.fs, by rw [World.frozen?_setCell]; exact h.fok⟩
theorem RdAt.put {w : World} {b : Nat} {s : ByteArray} {ok : Bool} (h : RdAt w b s ok) (x : ByteArray) : RdAt (w.setCell ⟨b, 0, none⟩ (.string x)) b x ok :=
  ⟨World.cell?_setCell_same _ _ _ h.s, (World.cell?_setCell_other _ _ _ _ (by simp)).trans h.ok, by rw [World.frozen?_setCell]; exact h.fs, by rw [World.frozen?_setCell]; exact h.fok⟩
theorem below_put {b : Nat} {w0 w : World} (h : Below b w0 w) (o : Nat) (x : Value) : Below b w0 (w.setCell ⟨b, o, none⟩ x) := h.setCell (Nat.le_refl _) x

/-- the number that digits mean -/
def numVal (l : Bytes) : Int := l.foldl (fun v c => 10 * v + ((c.toNat : Int) - 48)) 0
theorem numVal_snoc (l : Bytes) (c : UInt8) : numVal (l ++ [c]) = 10 * numVal l + ((c.toNat : Int) - 48) := by
  unfold numVal; rw [List.foldl_append]; rfl
theorem digit_is (c : UInt8) (h : digitB c = true) : 48 ≤ (c.toNat : Int) ∧ (c.toNat : Int) ≤ 57 := by
  unfold digitB at h
  simp only [Bool.and_eq_true, decide_eq_true_eq, UInt8.le_iff_toNat_le] at h
  simp at h; omega
def ten : Nat → Int
  | 0 => 1
  | k + 1 => 10 * ten k
theorem ten_le (k : Nat) (h : k ≤ 4) : ten k ≤ 10000 ∧ 1 ≤ ten k := by
  have hk : k = 0 ∨ k = 1 ∨ k = 2 ∨ k = 3 ∨ k = 4 := by omega
  rcases hk with rfl | rfl | rfl | rfl | rfl <;> decide
theorem numVal_bound (l : Bytes) (k : Nat) (hk : k ≤ l.length) (hd : allL digitB l = true) : 0 ≤ numVal (l.take k) ∧ numVal (l.take k) < ten k := by
  induction k with
  | zero => rw [List.take_zero]; exact ⟨by decide, by decide⟩
  | succ k ih =>
    have := ih (by omega)
    rw [take_snoc l k (by omega), numVal_snoc]
    rw [allL_eq, List.all_eq_true] at hd
    have hc := digit_is l[k] (hd _ (List.getElem_mem _))
    unfold ten; omega

/-- 'number': the value, what is left, and whether it went well -/
def numR (n : Nat) (lo hi : Int) (l : Bytes) : Int × Bytes × Bool :=
  if l.length < n ∨ allL digitB (l.take n) = false then (lo, l, false)
  else if numVal (l.take n) < lo ∨ hi < numVal (l.take n) then (lo, l.drop n, false) else (numVal (l.take n), l.drop n, true)
def NumPost (r : Int × Bytes × Bool) (b : Nat) (ok : Bool) (w : World) (e : Ending) (w' : World) : Prop :=
  e = .returned (.int .i64 r.1) ∧ RdAt w' b ⟨r.2.1.toArray⟩ (ok && r.2.2) ∧ Below b w w'

theorem ext_to (s : ByteArray) (k : Nat) : (s.extract 0 k).data.toList = s.data.toList.take k := by
  rw [Lib.extract_data]; simp

set_option maxRecDepth 100000 in
set_option maxHeartbeats 1000000 in
theorem number_calls (b : Nat) (s : ByteArray) (ok : Bool) (n : Nat) (hn : n ≤ 4) (lo hi : Int) (w : World) (h : RdAt w b s ok) (hs : s.size ≤ 1073741824) :
    Calls Tryz.prog 256 #[.pointer (some ⟨b, 0, none⟩), .int .i64 (n : Int), .int .i64 lo, .int .i64 hi] w (NumPost (numR n lo hi s.data.toList) b ok w) := by
  have HH := Lib.hid h
  obtain ⟨h0, h1, f0, f1⟩ := h
  by_cases hsz : s.size < n
  · have HR : Hid (numR n lo hi s.data.toList = (lo, s.data.toList, false)) := by unfold numR; rw [if_pos (.inl (by rw [len_eq]; exact hsz))]; exact Lib.hid rfl
    go_enter Tryz.func256, Tryz.ntmps256
    go_wp2
    go_ret
    exact ⟨by rw [HR.out]; rfl, by rw [HR.out]; simp only [Bool.and_false]; rw [← mk_of (c := s) rfl]; exact HH.out.bad false, below_put (Below.refl _ _) _ _⟩
  have hle : n ≤ s.size := by omega
  clear hsz
  obtain ⟨d, hd⟩ : ∃ d : ByteArray, s.extract 0 n = d := ⟨_, rfl⟩
  have hdl : d.data.toList = s.data.toList.take n := by rw [← hd, ext_to]
  have hds : d.size = n := by rw [← len_eq, hdl, List.length_take, len_eq]; omega
  have hdm : d.size ≤ maxLen := by unfold maxLen; omega
  obtain ⟨a, ha⟩ : ∃ a, allL digitB d.data.toList = a := ⟨_, rfl⟩
  have HA := Lib.hid ha
  cases a
  · have HR : Hid (numR n lo hi s.data.toList = (lo, s.data.toList, false)) := by unfold numR; rw [if_pos (.inr (by rw [← hdl]; exact ha))]; exact Lib.hid rfl
    clear ha hdl hds
    go_enter Tryz.func256, Tryz.ntmps256
    go_wp2_with (go_at_call 64; refine (all_digit d _ hdm).mono ?_; rintro e w4 ⟨rfl, rfl⟩; rw [HA.out])
    go_ret
    exact ⟨by rw [HR.out]; rfl, by rw [HR.out]; simp only [Bool.and_false]; rw [← mk_of (c := s) rfl]; exact HH.out.bad false, below_put (Below.refl _ _) _ _⟩
  · have hbound := fun k (hk : k ≤ n) => numVal_bound d.data.toList k (by rw [len_eq]; omega) ha
    have HBd := Lib.hid hbound
    have hr : numR n lo hi s.data.toList = if numVal d.data.toList < lo ∨ hi < numVal d.data.toList then (lo, s.data.toList.drop n, false) else (numVal d.data.toList, s.data.toList.drop n, true) := by
      unfold numR; rw [if_neg (by rw [← hdl, ha, len_eq]; simp; omega), ← hdl]
    have HR := Lib.hid hr
    have HDL := Lib.hid hdl
    have hdig : ∀ k (hk : k < n), digitB (s[k]'(Nat.lt_of_lt_of_le hk hle)) = true := by
      intro k hk
      rw [allL_eq, List.all_eq_true] at ha
      have hm : s[k]'(Nat.lt_of_lt_of_le hk hle) ∈ d.data.toList := by
        rw [hdl]
        have h2 : (s.data.toList.take n)[k]? = some (s[k]'(Nat.lt_of_lt_of_le hk hle)) := by
          rw [List.getElem?_take_of_lt hk, List.getElem?_eq_getElem (by rw [len_eq]; omega)]; rfl
        exact List.mem_of_getElem? h2
      exact ha _ hm
    have hck : ∀ k (hk : k < n), d.data.toList.take (k + 1) = d.data.toList.take k ++ [s[k]'(Nat.lt_of_lt_of_le hk hle)] := by
      intro k hk
      have hkl : k < d.data.toList.length := by rw [len_eq, hds]; exact hk
      rw [take_snoc _ k hkl]
      have h2 : d.data.toList[k]? = some (s[k]'(Nat.lt_of_lt_of_le hk hle)) := by
        rw [hdl, List.getElem?_take_of_lt hk, List.getElem?_eq_getElem (by rw [len_eq]; omega)]; rfl
      rw [List.getElem?_eq_getElem hkl] at h2
      rw [Option.some.inj h2]
    have HCK := Lib.hid hck
    have HDG := Lib.hid hdig
    have HDS := Lib.hid hds
    clear hck ha hdl hds hbound hr hdig
    go_enter Tryz.func256, Tryz.ntmps256
    go_wp2_with (go_at_call 64; refine (all_digit d _ hdm).mono ?_; rintro e w4 ⟨rfl, rfl⟩; rw [HA.out])
    go_loop [9, 33] (fun v i => ∃ k : Nat, k ≤ n ∧ i = .int .i64 k ∧ v = .int .i64 (numVal (d.data.toList.take k))) (fun _ i => n - (intOf i).toNat)
    case atStart => exact ⟨0, Nat.zero_le _, rfl, rfl⟩
    case round =>
      obtain ⟨k, hk, rfl, rfl⟩ := hrel
      obtain ⟨v, hv⟩ : ∃ v, numVal (d.data.toList.take k) = v := ⟨_, rfl⟩
      have hb := HBd.out k hk
      have ht := ten_le k (by omega)
      rw [hv] at hb ⊢
      have HV := Lib.hid hv
      clear hv
      by_cases hlt : k < n
      · have hks : k < s.size := by omega
        have hc := digit_is _ (HDG.out k hlt)
        go_wp2
        go_round
        case rel => exact ⟨k + 1, by omega, by go_num, by rw [HCK.out k hlt, numVal_snoc, HV.out]⟩
        case measure => simp [intOf]; omega
      · obtain rfl : k = n := by omega
        have hx : (⟨(s.data.toList.drop k).toArray⟩ : ByteArray) = s.extract k s.size := (mk_of (by rw [Lib.extract_data, List.take_of_length_le (by rw [List.length_drop, len_eq]; omega)])).symm
        have hvd : numVal d.data.toList = v := by
          have := HV.out
          rwa [List.take_of_length_le (by rw [len_eq, HDS.out]; omega)] at this
        have hr2 := HR.out
        rw [hvd] at hr2
        have HR2 := Lib.hid hr2
        have HX := Lib.hid hx
        clear hx hvd hr2
        by_cases hlo : v < lo
        · have HR3 : Hid (numR k lo hi s.data.toList = (lo, s.data.toList.drop k, false)) := by rw [HR2.out, if_pos (.inl hlo)]; exact Lib.hid rfl
          go_wp2
          go_ret
          exact ⟨by rw [HR3.out]; rfl, by rw [HR3.out]; simp only [Bool.and_false]; rw [HX.out]; exact (HH.out.put _).bad false, below_put (below_put (Below.refl _ _) _ _) _ _⟩
        · by_cases hhi : hi < v
          · have HR3 : Hid (numR k lo hi s.data.toList = (lo, s.data.toList.drop k, false)) := by rw [HR2.out, if_pos (.inr hhi)]; exact Lib.hid rfl
            go_wp2
            go_ret
            exact ⟨by rw [HR3.out]; rfl, by rw [HR3.out]; simp only [Bool.and_false]; rw [HX.out]; exact (HH.out.put _).bad false, below_put (below_put (Below.refl _ _) _ _) _ _⟩
          · have HR3 : Hid (numR k lo hi s.data.toList = (v, s.data.toList.drop k, true)) := by rw [HR2.out, if_neg (by omega)]; exact Lib.hid rfl
            go_wp2
            go_ret
            exact ⟨by rw [HR3.out]; rfl, by rw [HR3.out]; simp only [Bool.and_true]; rw [HX.out]; exact HH.out.put _, below_put (Below.refl _ _) _ _⟩

end Go.Proofs.YthopanlkjdcgmaaGreatDoor.W

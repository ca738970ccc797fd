/- The walk of the law MatchPieces. -/
import Derived.Test.YtcabkjmbklkedaaDoorPiecesJ
import Derived.Deep.RegionHeld3
namespace Go.Proofs.YtcabkjmbklkedaaDoor.W
open Go.RowKit Go.Proofs.YtcabkjmbklkedaaDoor.Plain

theorem ne_three (i f n : Nat) (h : 0 < n) : 0 < i ∨ (i = 0 ∧ 0 < f) ∨ (i = 0 ∧ f = 0 ∧ 0 < n) := by omega

/-- what stands from world to world -/
def Kp (B : Nat) (w0 w : World) : Prop := Glob w ∧ Below B w0 w
theorem Kp.below {B : Nat} {w0 w w' : World} (h : Kp B w0 w) (hb : Below w.heap.size w w') (hB : B ≤ w.heap.size) : Kp B w0 w' := ⟨h.1.below hb, h.2.trans (hb.mono hB)⟩
theorem Kp.le {B : Nat} {w0 w : World} (h : Kp B w0 w) (h0 : B ≤ w0.heap.size) : B ≤ w.heap.size := Nat.le_trans h0 h.2.size

/-- the three patterns of one piece -/
theorem one_calls (V q : ByteArray) (b : Nat) (w : World) (hc : w.cell? ⟨b, 0, none⟩ = some (.string q)) (hV : V.size ≤ 1073741824) (hg : Glob w) :
    Calls Tryd.prog 14 #[.int .i64 9, .string V, .agg #[.string ⟨#[]⟩, .slice (some ⟨b, 0, none⟩) 1 1, .string ⟨#[]⟩]] w fun e w' => e = .returned (.int .i64 (if hasL V.data.toList q.data.toList then 2 else 0)) ∧ Below w.heap.size w w' := by
  have h := contains_oct V ⟨#[]⟩ ⟨#[]⟩ (some ⟨b, 0, none⟩) 1 1 [q] w (fun k hk => by
    have : k = 0 := by simp at hk; omega
    subst this; exact ⟨b, rfl, hc⟩) rfl (.inr (.inr ⟨rfl, rfl, by simp⟩)) (by simp) hV (by decide) (by decide) hg
  rw [show fitsL V.data.toList (⟨#[]⟩ : ByteArray).data.toList (⟨#[]⟩ : ByteArray).data.toList (lists [q]) = hasL V.data.toList q.data.toList from fits_any _ _] at h
  exact h
theorem front_calls (V q : ByteArray) (w : World) (hV : V.size ≤ 1073741824) (hq : q.size ≤ 1073741824) (hp : 0 < q.size) (hg : Glob w) :
    Calls Tryd.prog 14 #[.int .i64 9, .string V, .agg #[.string q, .slice none 0 0, .string ⟨#[]⟩]] w fun e w' => e = .returned (.int .i64 (if Lib.hasPrefix V.data.toList q.data.toList then 2 else 0)) ∧ Below w.heap.size w w' := by
  have h := contains_oct V q ⟨#[]⟩ none 0 0 [] w (fun k hk => by simp at hk) rfl (.inl hp) (by simp) hV hq (by decide) hg
  rw [show fitsL V.data.toList q.data.toList (⟨#[]⟩ : ByteArray).data.toList (lists []) = Lib.hasPrefix V.data.toList q.data.toList from fits_front _ _] at h
  exact h
theorem end_calls (V q : ByteArray) (w : World) (hV : V.size ≤ 1073741824) (hq : q.size ≤ 1073741824) (hp : 0 < q.size) (hg : Glob w) :
    Calls Tryd.prog 14 #[.int .i64 9, .string V, .agg #[.string ⟨#[]⟩, .slice none 0 0, .string q]] w fun e w' => e = .returned (.int .i64 (if Lib.hasSuffix V.data.toList q.data.toList then 2 else 0)) ∧ Below w.heap.size w w' := by
  have h := contains_oct V ⟨#[]⟩ q none 0 0 [] w (fun k hk => by simp at hk) rfl (.inr (.inl ⟨rfl, hp⟩)) (by simp) hV (by decide) hq hg
  rw [show fitsL V.data.toList (⟨#[]⟩ : ByteArray).data.toList q.data.toList (lists []) = Lib.hasSuffix V.data.toList q.data.toList from fits_end _ _] at h
  exact h

theorem new_drew (w : World) (v : Value) (t : TypeId) : (w.drew.alloc (.cells #[v] t)).cell? ⟨w.heap.size, 0, none⟩ = some v := by
  have h : w.heap.size = w.drew.heap.size := rfl
  rw [h, World.cell?_alloc_new]; rfl
/-- what a region of the round keeps: the piece's cell, and Kp -/
theorem S_drew {B : Nat} {w0 w : World} {a : Addr} {v : Value} (h : w.cell? a = some v ∧ Kp B w0 w) : w.drew.cell? a = some v ∧ Kp B w0 w.drew :=
  ⟨h.1, h.2.1.below ((Below.refl _ _).drew), h.2.2.drew⟩
theorem S_alloc {B : Nat} {w0 w : World} {a : Addr} {v : Value} (hB : B ≤ w0.heap.size) (h : w.cell? a = some v ∧ Kp B w0 w) (o : Obj) : (w.alloc o).cell? a = some v ∧ Kp B w0 (w.alloc o) :=
  ⟨below_some h.1 ((Below.refl _ _).alloc (Nat.le_refl _) o), h.2.below ((Below.refl _ _).alloc (Nat.le_refl _) o) (h.2.le hB)⟩
theorem one_S {B : Nat} {w0 : World} {a : Addr} (V q : ByteArray) (b : Nat) (x : Bool) (w : World) (hx : hasL V.data.toList q.data.toList = x) (hc : w.cell? ⟨b, 0, none⟩ = some (.string q)) (hV : V.size ≤ 1073741824) (hB : B ≤ w0.heap.size) (hS : w.cell? a = some (.string q) ∧ Kp B w0 w) :
    Calls Tryd.prog 14 #[.int .i64 9, .string V, .agg #[.string ⟨#[]⟩, .slice (some ⟨b, 0, none⟩) 1 1, .string ⟨#[]⟩]] w fun e w' => e = .returned (.int .i64 (if x then 2 else 0)) ∧ (w'.cell? a = some (.string q) ∧ Kp B w0 w') := by
  refine (one_calls V q b w hc hV hS.2.1).mono ?_
  rintro e w' ⟨rfl, hb⟩
  rw [hx]
  exact ⟨rfl, below_some hS.1 hb, hS.2.below hb (hS.2.le hB)⟩
theorem front_S {B : Nat} {w0 : World} {a : Addr} (V q : ByteArray) (x : Bool) (w : World) (hx : Lib.hasPrefix V.data.toList q.data.toList = x) (hV : V.size ≤ 1073741824) (hq : q.size ≤ 1073741824) (hp : 0 < q.size) (hB : B ≤ w0.heap.size) (hS : w.cell? a = some (.string q) ∧ Kp B w0 w) :
    Calls Tryd.prog 14 #[.int .i64 9, .string V, .agg #[.string q, .slice none 0 0, .string ⟨#[]⟩]] w fun e w' => e = .returned (.int .i64 (if x then 2 else 0)) ∧ (w'.cell? a = some (.string q) ∧ Kp B w0 w') := by
  refine (front_calls V q w hV hq hp hS.2.1).mono ?_
  rintro e w' ⟨rfl, hb⟩
  rw [hx]
  exact ⟨rfl, below_some hS.1 hb, hS.2.below hb (hS.2.le hB)⟩
theorem end_S {B : Nat} {w0 : World} {a : Addr} (V q : ByteArray) (x : Bool) (w : World) (hx : Lib.hasSuffix V.data.toList q.data.toList = x) (hV : V.size ≤ 1073741824) (hq : q.size ≤ 1073741824) (hp : 0 < q.size) (hB : B ≤ w0.heap.size) (hS : w.cell? a = some (.string q) ∧ Kp B w0 w) :
    Calls Tryd.prog 14 #[.int .i64 9, .string V, .agg #[.string ⟨#[]⟩, .slice none 0 0, .string q]] w fun e w' => e = .returned (.int .i64 (if x then 2 else 0)) ∧ (w'.cell? a = some (.string q) ∧ Kp B w0 w') := by
  refine (end_calls V q w hV hq hp hS.2.1).mono ?_
  rintro e w' ⟨rfl, hb⟩
  rw [hx]
  exact ⟨rfl, below_some hS.1 hb, hS.2.below hb (hS.2.le hB)⟩
theorem has_S (V q : ByteArray) (x : Bool) (w : World) (hx : hasL V.data.toList q.data.toList = x) (hV : V.size ≤ 1073741824) (hq : q.size ≤ 1073741824) : Calls Tryd.prog 17 #[.string V, .string q] w fun e w' => e = .returned (.bool x) ∧ w = w' := by
  subst hx; exact has_calls V q w hV hq
theorem begins_S (V q : ByteArray) (x : Bool) (w : World) (hx : Lib.hasPrefix V.data.toList q.data.toList = x) (hV : V.size ≤ 1073741824) : Calls Tryd.prog 18 #[.string V, .string q] w fun e w' => e = .returned (.bool x) ∧ w = w' := by
  subst hx; exact begins_calls V q w hV
theorem ends_S (V q : ByteArray) (x : Bool) (w : World) (hx : Lib.hasSuffix V.data.toList q.data.toList = x) (hV : V.size ≤ 1073741824) : Calls Tryd.prog 19 #[.string V, .string q] w fun e w' => e = .returned (.bool x) ∧ w = w' := by
  subst hx; exact ends_calls V q w hV

set_option maxRecDepth 100000 in
set_option maxHeartbeats 8000000 in
theorem pieces_walk (I M N F G : ByteArray) (hI : I.size ≤ 1048576) (hM : M.size ≤ 1048576) (hN : N.size ≤ 1048576) (hF : F.size ≤ 1048576) (hG : G.size ≤ 1048576) (w : World) (hg : Glob w) :
    Calls Tryd.prog 6 #[.string I, .string M, .string N, .string F, .string G] w fun e w' => e = .returned (.bool true) ∧ Below w.heap.size w w' := by
  obtain ⟨V, hV⟩ : ∃ V, I ++ G ++ M ++ G ++ N ++ F = V := ⟨_, rfl⟩
  have hVs : V.size = I.size + G.size + M.size + G.size + N.size + F.size := by rw [← hV]; simp [ByteArray.size_append]
  have hVd : V.data.toList = I.data.toList ++ (G.data.toList ++ (M.data.toList ++ (G.data.toList ++ (N.data.toList ++ F.data.toList)))) := by rw [← hV]; simp
  have HV := Lib.hid hV
  have HF1 : Hid (fitsL V.data.toList I.data.toList F.data.toList (lists [M, N]) = true) := by rw [hVd]; exact Lib.hid (fits_whole _ _ _ _ _)
  clear hV hVd
  have hV30 : V.size ≤ 1073741824 := by omega
  have hBa := (Below.refl w.heap.size w).alloc (Nat.le_refl _) (.cells #[.string M, .string N] 9)
  have hBb := hBa.alloc (by simp) (.cells #[.string I, .slice (some ⟨w.heap.size, 0, none⟩) 2 2, .string F] 35)
  have KP := Blk.new (w.alloc (.cells #[.string M, .string N] 9)) (.string I) (.slice (some ⟨w.heap.size, 0, none⟩) 2 2) (.string F)
  rw [World.size_alloc] at KP
  have hcs : ∀ k (h : k < [M, N].length), ∃ b, some (⟨w.heap.size, 0, none⟩ : Addr) = some ⟨b, 0, none⟩ ∧ ((w.alloc (.cells #[.string M, .string N] 9)).alloc (.cells #[.string I, .slice (some ⟨w.heap.size, 0, none⟩) 2 2, .string F] 35)).cell? ⟨b, k, none⟩ = some (.string [M, N][k]) := by
    intro k hk
    have h : k = 0 ∨ k = 1 := by simp at hk; omega
    have hb2 := (Below.refl (w.alloc (.cells #[.string M, .string N] 9)).heap.size _).alloc (Nat.le_refl _) (.cells #[.string I, .slice (some ⟨w.heap.size, 0, none⟩) 2 2, .string F] 35)
    rcases h with rfl | rfl
    · exact ⟨w.heap.size, rfl, below_some (by rw [World.cell?_alloc_new]; rfl) hb2⟩
    · exact ⟨w.heap.size, rfl, below_some (by rw [World.cell?_alloc_new]; rfl) hb2⟩
  have HCS := Lib.hid hcs
  clear hcs
  have hgb := hg.below hBb
  go_enter Tryd.func6, Tryd.ntmps6
  go_wp2_with fail
  rw [HV.out]
  refine (contains_oct V I F (some ⟨w.heap.size, 0, none⟩) 2 2 [M, N] _ HCS.out rfl (ne_three _ _ _ (by simp)) (by simp) hV30 (by omega) (by omega) hgb).mono ?_
  rintro e v1 ⟨rfl, hV1⟩
  rw [HF1.out]
  have K1 := KP.keep hV1
  have hg1 := hgb.below hV1
  have hs1 : StrSlice v1 (.slice (some ⟨w.heap.size, 0, none⟩) 2 2) [M, N] := .inr ⟨w.heap.size, 2, rfl, fun k hk => by
    obtain ⟨b, hb, hc⟩ := HCS.out k hk
    have hb2 : w.heap.size = b := by injection hb with hb; injection hb
    rw [hb2]; exact below_some hc hV1⟩
  replace hV1 := hBb.trans (hV1.mono hBb.size)
  obtain ⟨d0, d1, d2⟩ := K1.cells
  clear KP HCS hgb K1
  go_wp2_with fail
  refine (fits_calls V I F _ [M, N] _ hV30 (by omega) (by omega) (by simp) hs1 hg1).mono ?_
  rintro e v2 ⟨rfl, hV2⟩
  rw [HF1.out]
  have hg2 := hg1.below hV2
  replace hV2 := hV1.trans (hV2.mono hV1.size)
  clear d0 d1 d2 hs1 hg1
  obtain ⟨w0, hw0⟩ : ∃ w0, v2.alloc (.cells #[.string (M ++ N), .string (G ++ M), .string F, .string (N ++ F), .string (I ++ M)] 9) = w0 := ⟨_, rfl⟩
  have hB0 := (Below.refl v2.heap.size v2).alloc (Nat.le_refl _) (.cells #[.string (M ++ N), .string (G ++ M), .string F, .string (N ++ F), .string (I ++ M)] 9)
  rw [hw0] at hB0
  have hg0 := hg2.below hB0
  have hA0 := hV2.trans (hB0.mono hV2.size)
  have hcell : ∀ k, k < 5 → ∃ q : ByteArray, q.size ≤ 2097152 ∧ w0.cell? ⟨v2.heap.size, k, none⟩ = some (.string q) := by
    intro k hk
    have h : k = 0 ∨ k = 1 ∨ k = 2 ∨ k = 3 ∨ k = 4 := by omega
    rw [← hw0]
    rcases h with rfl | rfl | rfl | rfl | rfl
    · exact ⟨M ++ N, by rw [ByteArray.size_append]; omega, by rw [World.cell?_alloc_new]; rfl⟩
    · exact ⟨G ++ M, by rw [ByteArray.size_append]; omega, by rw [World.cell?_alloc_new]; rfl⟩
    · exact ⟨F, by omega, by rw [World.cell?_alloc_new]; rfl⟩
    · exact ⟨N ++ F, by rw [ByteArray.size_append]; omega, by rw [World.cell?_alloc_new]; rfl⟩
    · exact ⟨I ++ M, by rw [ByteArray.size_append]; omega, by rw [World.cell?_alloc_new]; rfl⟩
  have HC := Lib.hid hcell
  have HW0 := Lib.hid hw0
  clear hcell hw0 hB0 hg2
  have hR0 : Kp w0.heap.size w0 w0 := ⟨hg0, Below.refl _ _⟩
  go_wp2_with fail
  rw [HW0.out]
  go_loopw [14] (fun vk wr => ∃ k : Nat, k ≤ 5 ∧ vk = .int .i64 (k : Int) ∧ Kp w0.heap.size w0 wr) (fun vk _ => 5 - (intOf vk).toNat)
  case atStart => exact ⟨0, by omega, rfl, hR0⟩
  case round =>
    obtain ⟨k, hk, rfl, hK⟩ := hrel
    by_cases hk5 : k < 5
    · obtain ⟨q, hq, hc0⟩ := HC.out k hk5
      have hc := below_some hc0 hK.2
      clear hc0
      have hq30 : q.size ≤ 1073741824 := by omega
      have hS0 : wr.cell? ⟨v2.heap.size, k, none⟩ = some (.string q) ∧ Kp w0.heap.size w0 wr := ⟨hc, hK⟩
      have hle : w0.heap.size ≤ w0.heap.size := Nat.le_refl _
      have hmx : Tryd.prog.follows Departure.mixedOrders = true := by kernel_rfl
      obtain ⟨x, hx⟩ : ∃ x, hasL V.data.toList q.data.toList = x := ⟨_, rfl⟩
      obtain ⟨y, hy⟩ : ∃ y, Lib.hasPrefix V.data.toList q.data.toList = y := ⟨_, rfl⟩
      obtain ⟨z, hz⟩ : ∃ z, Lib.hasSuffix V.data.toList q.data.toList = z := ⟨_, rfl⟩
      have HX := Lib.hid hx
      have HY := Lib.hid hy
      have HZ := Lib.hid hz
      clear hx hy hz
      by_cases hq0 : q.size = 0
      · obtain ⟨e1, e2, e3, _⟩ := empty_of hq0
        cases x
        all_goals
          go_wp2_with fail
          go_region_held3 (fun w' => w'.cell? ⟨v2.heap.size, k, none⟩ = some (.string q) ∧ Kp w0.heap.size w0 w') (first | assumption | exact S_drew (by assumption) | exact S_alloc hle (by assumption) _)
            (first
              | (go_at_call 14; refine (one_S V q _ _ _ HX.out (by first | exact new_drew _ _ _ | assumption | (rw [World.cell?_alloc_new]; rfl)) hV30 hle (by assumption)).mono ?_; rintro e w' ⟨rfl, hS'⟩)
              | (go_at_call 17; refine (has_S V q _ _ HX.out hV30 hq30).mono ?_; rintro e w' ⟨rfl, rfl⟩)
              | (go_at_call 16; refine (truth_calls _ _).mono ?_; rintro e w' ⟨rfl, rfl⟩))
          have hc2 := hS'.1
          have hS2 := hS'
          go_wp2_with fail
          go_roundw
          case rel => exact ⟨k + 1, by omega, by go_num, hS2.2⟩
          case measure => simp [intOf]; omega
      · have hp : 0 < q.size := by omega
        obtain ⟨e1, e2, e3⟩ := full_of hp
        cases x
        all_goals
          go_wp2_with fail
          go_region_held3 (fun w' => w'.cell? ⟨v2.heap.size, k, none⟩ = some (.string q) ∧ Kp w0.heap.size w0 w') (first | assumption | exact S_drew (by assumption) | exact S_alloc hle (by assumption) _)
            (first
              | (go_at_call 14; refine (one_S V q _ _ _ HX.out (by first | exact new_drew _ _ _ | assumption | (rw [World.cell?_alloc_new]; rfl)) hV30 hle (by assumption)).mono ?_; rintro e w' ⟨rfl, hS'⟩)
              | (go_at_call 17; refine (has_S V q _ _ HX.out hV30 hq30).mono ?_; rintro e w' ⟨rfl, rfl⟩)
              | (go_at_call 16; refine (truth_calls _ _).mono ?_; rintro e w' ⟨rfl, rfl⟩))
          have hc2 := hS'.1
          have hS2 := hS'
          go_wp2_with fail
          cases y
          all_goals
            go_region_held3 (fun w' => w'.cell? ⟨v2.heap.size, k, none⟩ = some (.string q) ∧ Kp w0.heap.size w0 w') (first | assumption | exact S_drew (by assumption) | exact S_alloc hle (by assumption) _)
              (first
                | (go_at_call 14; refine (front_S V q _ _ HY.out hV30 hq30 hp hle (by assumption)).mono ?_; rintro e w' ⟨rfl, hS'⟩)
                | (go_at_call 18; refine (begins_S V q _ _ HY.out hV30).mono ?_; rintro e w' ⟨rfl, rfl⟩)
                | (go_at_call 16; refine (truth_calls _ _).mono ?_; rintro e w' ⟨rfl, rfl⟩))
            have hc3 := hS'.1
            have hS3 := hS'
            go_wp2_with fail
            cases z
            all_goals
              go_region_held3 (fun w' => w'.cell? ⟨v2.heap.size, k, none⟩ = some (.string q) ∧ Kp w0.heap.size w0 w') (first | assumption | exact S_drew (by assumption) | exact S_alloc hle (by assumption) _)
                (first
                  | (go_at_call 14; refine (end_S V q _ _ HZ.out hV30 hq30 hp hle (by assumption)).mono ?_; rintro e w' ⟨rfl, hS'⟩)
                  | (go_at_call 19; refine (ends_S V q _ _ HZ.out hV30).mono ?_; rintro e w' ⟨rfl, rfl⟩)
                  | (go_at_call 16; refine (truth_calls _ _).mono ?_; rintro e w' ⟨rfl, rfl⟩))
              have hS4 := hS'
              go_wp2_with fail
              go_roundw
              case rel => exact ⟨k + 1, by omega, by go_num, hS4.2⟩
              case measure => simp [intOf]; omega
    · have hgr := hK.1
      have hFV : fitsL V.data.toList V.data.toList V.data.toList (lists []) = decide (V.data.toList = []) := fits_both _
      rcases Nat.eq_zero_or_pos V.size with hz | hp
      · obtain ⟨e1, e2, e3, e4⟩ := empty_of hz
        rw [decide_eq_true e4] at hFV
        have HFV := Lib.hid hFV
        clear hFV
        go_wp2_with fail
        refine (fits_calls V V V _ [] _ hV30 hV30 hV30 (by simp) (.inl ⟨rfl, rfl⟩) hgr).mono ?_
        rintro e v5 ⟨rfl, hV5⟩
        rw [HFV.out]
        have hE := hA0.trans ((hK.2.trans (hV5.mono hK.2.size)).mono hA0.size)
        go_wp2
        go_ret
        exact ⟨rfl, hE⟩
      · obtain ⟨e1, e2, e3⟩ := full_of hp
        rw [decide_eq_false (not_nil hp)] at hFV
        have HFV := Lib.hid hFV
        clear hFV
        go_wp2_with fail
        refine (fits_calls V V V _ [] _ hV30 hV30 hV30 (by simp) (.inl ⟨rfl, rfl⟩) hgr).mono ?_
        rintro e v5 ⟨rfl, hV5⟩
        rw [HFV.out]
        have hE := hA0.trans ((hK.2.trans (hV5.mono hK.2.size)).mono hA0.size)
        go_wp2
        go_ret
        exact ⟨rfl, hE⟩

end Go.Proofs.YtcabkjmbklkedaaDoor.W

/- match.Parts of the syntax octet. -/
import Derived.Test.YtcabkjmbklkedaaDoorPiecesH
import Derived.Deep.AppendLies
namespace Go.Proofs.YtcabkjmbklkedaaDoor.W
open Go.RowKit Go.Proofs.YtcabkjmbklkedaaDoor.Plain

theorem infoS : (Tryd.prog.info? 9).map (fun i => (i.zero, i.size, i.bytes)) = some (some (.string ⟨#[]⟩), 1, 16) := by kernel_rfl

/-- block b holds a pattern -/
def Blk (w : World) (b : Nat) (x y z : Value) : Prop := w.heap[b]? = some (.cells #[x, y, z] 35)
theorem Blk.cells {w : World} {b : Nat} {x y z : Value} (h : Blk w b x y z) : w.cell? ⟨b, 0, none⟩ = some x ∧ w.cell? ⟨b, 1, none⟩ = some y ∧ w.cell? ⟨b, 2, none⟩ = some z := by
  unfold Blk at h
  refine ⟨?_, ?_, ?_⟩ <;> simp [World.cell?, h]
theorem Blk.free {w : World} {b : Nat} {x y z : Value} (h : Blk w b x y z) : w.frozen? ⟨b, 0, none⟩ = false ∧ w.frozen? ⟨b, 1, none⟩ = false ∧ w.frozen? ⟨b, 2, none⟩ = false := by
  unfold Blk at h
  refine ⟨?_, ?_, ?_⟩ <;> simp [World.frozen?, h]
theorem Blk.lt {w : World} {b : Nat} {x y z : Value} (h : Blk w b x y z) : b < w.heap.size := by
  unfold Blk at h
  rcases Nat.lt_or_ge b w.heap.size with hl | hl
  · exact hl
  · rw [Array.getElem?_eq_none hl] at h; cases h
theorem Blk.keep {w w' : World} {b : Nat} {x y z : Value} (h : Blk w b x y z) (hb : Below w.heap.size w w') : Blk w' b x y z := (hb.block b h.lt).trans h
theorem Blk.new (w : World) (x y z : Value) : Blk (w.alloc (.cells #[x, y, z] 35)) w.heap.size x y z := heap_alloc_new w _
theorem Blk.alloc {w : World} {b : Nat} {x y z : Value} (h : Blk w b x y z) (o : Obj) : Blk (w.alloc o) b x y z := h.keep ((Below.refl _ _).alloc (Nat.le_refl _) o)
theorem Blk.other {w : World} {b : Nat} {x y z : Value} (h : Blk w b x y z) {a : Addr} (ha : b ≠ a.block) (u : Value) : Blk (w.setCell a u) b x y z := (Below.heap_setCell w a u b ha).trans h
theorem Blk.set0 {w : World} {b : Nat} {x y z : Value} (h : Blk w b x y z) (u : Value) : Blk (w.setCell ⟨b, 0, none⟩ u) b u y z := by
  unfold Blk at h ⊢
  simp only [World.setCell, Array.getElem?_modify, if_true, h, Option.map_some]
  rfl
theorem Blk.set1 {w : World} {b : Nat} {x y z : Value} (h : Blk w b x y z) (u : Value) : Blk (w.setCell ⟨b, 1, none⟩ u) b x u z := by
  unfold Blk at h ⊢
  simp only [World.setCell, Array.getElem?_modify, if_true, h, Option.map_some]
  rfl
theorem Blk.set2 {w : World} {b : Nat} {x y z : Value} (h : Blk w b x y z) (u : Value) : Blk (w.setCell ⟨b, 2, none⟩ u) b x y u := by
  unfold Blk at h ⊢
  simp only [World.setCell, Array.getElem?_modify, if_true, h, Option.map_some]
  rfl
theorem Blk.grown {w w' : World} {b : Nat} {x y z : Value} {row : Option Nat} (h : Blk w b x y z) (hg : w.grownBy w' row) (hne : some b ≠ row) : Blk w' b x y z := (hg.block b h.lt hne).trans h
theorem own_keep {w w' : World} {base : Nat} {e size : Nat} {v : Value} {n : Nat} {xs : List Value} (h : w.ownsRow base e size v n xs) (hb : Below w.heap.size w w') : w'.ownsRow base e size v n xs := by
  obtain ⟨h1, h2⟩ := h
  refine ⟨h1, ?_⟩
  rcases h2 with h2 | ⟨g, cap, cur, hv, hbs, hg, h3⟩
  · exact .inl h2
  · have hlt : g < w.heap.size := by
      rcases Nat.lt_or_ge g w.heap.size with hl | hl
      · exact hl
      · rw [Array.getElem?_eq_none hl] at hg; cases hg
    exact .inr ⟨g, cap, cur, hv, hbs, (hb.block g hlt).trans hg, h3⟩

/-- a pattern that has a part, as the walk asks it -/
theorem some_piece {i f : ByteArray} {qs : List ByteArray} (h : 0 < i.size ∨ (i.size = 0 ∧ 0 < f.size) ∨ (i.size = 0 ∧ f.size = 0 ∧ 0 < qs.length)) :
    (i.toList.isEmpty = false ∧ (!i.toList.isEmpty) = true ∧ ¬ i.toList = []) ∨ (i.toList.isEmpty = true ∧ (!i.toList.isEmpty) = false ∧ i.toList = [] ∧ f.toList.isEmpty = false ∧ (!f.toList.isEmpty) = true ∧ ¬ f.toList = []) ∨
    (i.toList.isEmpty = true ∧ (!i.toList.isEmpty) = false ∧ i.toList = [] ∧ f.toList.isEmpty = true ∧ (!f.toList.isEmpty) = false ∧ f.toList = [] ∧ ¬ (qs.length : Int) = 0 ∧ ((qs.length : Int) == 0) = false) := by
  rcases h with h | ⟨h1, h⟩ | ⟨h1, h2, h⟩
  · exact .inl (full_of h)
  · obtain ⟨a1, a2, a3, _⟩ := empty_of h1
    obtain ⟨b1, b2, b3⟩ := full_of h
    exact .inr (.inl ⟨a1, a2, a3, b1, b2, b3⟩)
  · obtain ⟨a1, a2, a3, _⟩ := empty_of h1
    obtain ⟨b1, b2, b3, _⟩ := empty_of h2
    have e7 : ¬ (qs.length : Int) = 0 := by omega
    exact .inr (.inr ⟨a1, a2, a3, b1, b2, b3, e7, beq_eq_false_iff_ne.2 e7⟩)

set_option maxRecDepth 100000 in
set_option maxHeartbeats 8000000 in
theorem parts_any (i f : ByteArray) (p : Option Addr) (cap : Nat) (qs : List ByteArray) (w : World) (hcs : ∀ k (h : k < qs.length), ∃ b, p = some ⟨b, 0, none⟩ ∧ w.cell? ⟨b, k, none⟩ = some (.string qs[k]))
    (hne : 0 < i.size ∨ (i.size = 0 ∧ 0 < f.size) ∨ (i.size = 0 ∧ f.size = 0 ∧ 0 < qs.length)) (hq : qs.length ≤ 1000) (hg : Glob w) :
    Calls Tryd.prog 26 #[.int .i64 9, .agg #[.string i, .slice p qs.length cap, .string f]] w fun e w' => ∃ sl', e = .returned (.tuple #[.agg #[.string i, sl', .string f], .bool true]) ∧ StrSlice w' sl' qs ∧ Below w.heap.size w w' := by
  obtain ⟨i0, hi, hz0, hz1, hz2⟩ := info_parts infoS
  have m1 := m_partial
  have m2 := m_piece
  have m3 := m_trim
  have n1 := e_partial
  have n2 := e_piece
  have n3 := e_trim
  have hlen : qs.length ≤ 9223372036854775807 := by omega
  have hBa := (Below.refl w.heap.size w).alloc (Nat.le_refl _) (.cells #[.string i, .slice p qs.length cap, .string f] 35)
  have hBb := hBa.alloc (by simp) (.cells #[.string ⟨#[]⟩, .slice none 0 0, .string ⟨#[]⟩] 35)
  have KA := (Blk.new w (.string i) (.slice p qs.length cap) (.string f)).alloc (.cells #[.string ⟨#[]⟩, .slice none 0 0, .string ⟨#[]⟩] 35)
  have KB := Blk.new (w.alloc (.cells #[.string i, .slice p qs.length cap, .string f] 35)) (.string ⟨#[]⟩) (.slice none 0 0) (.string ⟨#[]⟩)
  rw [World.size_alloc] at KB
  have hgb := hg.below hBb
  have HCS := Lib.hid hcs
  clear hcs
  rcases some_piece hne with ⟨e1, e2, e3⟩ | ⟨e1, e2, e3, e4, e5, e6⟩ | ⟨e1, e2, e3, e4, e5, e6, e7, e8⟩
  all_goals
    go_enter Tryd.func26, Tryd.ntmps26
    go_wp2_with (go_at_call 22; refine (k_octet.of _ hgb).mono ?_; rintro e w1 ⟨rfl, rfl⟩)
    refine (part_calls _).mono ?_
    rintro e v1 ⟨rfl, hV1⟩
    have KA1 := KA.keep hV1
    have KB1 := KB.keep hV1
    replace hV1 := hBb.trans (hV1.mono (by simp; omega))
    obtain ⟨a0, a1, a2⟩ := KA1.cells
    have hC0 := hV1.size
    have KA2 := KA1.alloc (.cells #[.string ⟨#[]⟩, .slice none 0 0, .string ⟨#[]⟩] 35)
    have KB2 := KB1.alloc (.cells #[.string ⟨#[]⟩, .slice none 0 0, .string ⟨#[]⟩] 35)
    have KC2 := Blk.new v1 (.string ⟨#[]⟩) (.slice none 0 0) (.string ⟨#[]⟩)
    have hV2 := hV1.alloc hC0 (.cells #[.string ⟨#[]⟩, .slice none 0 0, .string ⟨#[]⟩] 35)
    obtain ⟨b0, b1, b2⟩ := KA2.cells
    go_wp2_with fail
    refine (piece_calls _ _).mono ?_
    rintro e v3 ⟨rfl, hV3⟩
    have KA3 := KA2.keep hV3
    have KB3 := KB2.keep hV3
    have KC3 := KC2.keep hV3
    replace hV3 := hV2.trans (hV3.mono hV2.size)
    obtain ⟨c0, c1, c2⟩ := KA3.cells
    go_wp2_with fail
    refine (piece_calls _ _).mono ?_
    rintro e v4 ⟨rfl, hV4⟩
    have KA4 := KA3.keep hV4
    have KB4 := KB3.keep hV4
    have KC4 := KC3.keep hV4
    replace hV4 := hV3.trans (hV4.mono hV3.size)
    go_wp2_with fail
    refine (trim_calls _ _).mono ?_
    rintro e v5 ⟨rfl, hV5⟩
    have KA5 := KA4.keep hV5
    have KB5 := KB4.keep hV5
    have KC5 := KC4.keep hV5
    replace hV5 := hV4.trans (hV5.mono hV4.size)
    obtain ⟨d0, d1, d2⟩ := KC5.cells
    obtain ⟨f0, f1, f2⟩ := KC5.free
    have KB1lt := KB1.lt
    have hAC : w.heap.size ≠ v1.heap.size := by have := KA1.lt; omega
    have hBC : w.heap.size + 1 ≠ v1.heap.size := by have := KB1.lt; omega
    have KA6 := KA5.other (a := ⟨v1.heap.size, 0, none⟩) hAC (.string i)
    have KB6 := KB5.other (a := ⟨v1.heap.size, 0, none⟩) hBC (.string i)
    have KC6 := KC5.set0 (.string i)
    have hV6 := hV5.setCell (p := ⟨v1.heap.size, 0, none⟩) hC0 (.string i)
    go_wp2_with fail
    refine (trim_calls _ _).mono ?_
    rintro e v7 ⟨rfl, hV7⟩
    have KA7 := KA6.keep hV7
    have KB7 := KB6.keep hV7
    have KC7 := KC6.keep hV7
    replace hV7 := hV6.trans (hV7.mono hV6.size)
    obtain ⟨g0, g1, g2⟩ := KC7.cells
    obtain ⟨p0, p1, p2⟩ := KC7.free
    have KA8 := KA7.other (a := ⟨v1.heap.size, 2, none⟩) hAC (.string f)
    have KB8 := KB7.other (a := ⟨v1.heap.size, 2, none⟩) hBC (.string f)
    have KC8 := KC7.set2 (.string f)
    have hV8 := hV7.setCell (p := ⟨v1.heap.size, 2, none⟩) hC0 (.string f)
    obtain ⟨r0, r1, r2⟩ := KA8.cells
    clear e1 e2 e3 a0 a1 a2 b0 b1 b2 c0 c1 c2 d0 d1 d2 f0 f1 f2 KA1 KA2 KA3 KA4 KA5 KA6 KA7 KB1 KB2 KB3 KB4 KB5 KB6 KB7 KC2 KC3 KC4 KC5 KC6 KC7
    have HA := Lib.hid KA8
    have HB := Lib.hid KB8
    have HC := Lib.hid KC8
    clear KA8 KB8 KC8
    go_wp2_with fail
    clear r0 r1 r2 g0 g1 g2 p0 p1 p2
    go_loopw [13, 14, 15, 76] (fun _ _ _ k wr => ∃ (n : Nat) (so : Value), n ≤ qs.length ∧ k = .int .i64 (n : Int) ∧ Hid (Blk wr (w.heap.size + 1) (.string ⟨#[]⟩) (.slice none 0 0) (.string ⟨#[]⟩)) ∧ Hid (Blk wr v1.heap.size (.string i) so (.string f)) ∧ wr.ownsRow (v1.heap.size + 1) 9 1 so n ((qs.map Value.string).take n) ∧ Below w.heap.size w wr ∧ v1.heap.size + 1 ≤ wr.heap.size) (fun _ _ _ k _ => qs.length - (intOf k).toNat)
    case atStart => exact ⟨0, _, by omega, rfl, HB, HC, ⟨by simp, .inl ⟨rfl, rfl⟩⟩, hV8, HC.out.lt⟩
    case round =>
      obtain ⟨n, so, hn', rfl, HBr, HCr, hown, hBw, hsz⟩ := hrel
      by_cases hlt : n < qs.length
      · obtain ⟨b, hpb, hcell0⟩ := HCS.out n hlt
        subst hpb
        have hcell := below_some hcell0 hBw
        clear hcell0
        obtain ⟨q, hqn⟩ : ∃ q, qs[n] = q := ⟨_, rfl⟩
        rw [hqn] at hcell
        have HQ : Hid ((qs.map Value.string).take (n + 1) = (qs.map Value.string).take n ++ [.string q]) := by
          rw [List.take_succ_eq_append_getElem (by rw [List.length_map]; exact hlt), List.getElem_map, hqn]; exact Lib.hid rfl
        clear hqn
        go_wp2_with fail
        refine (piece_calls _ _).mono ?_
        rintro e v9 ⟨rfl, hV9⟩
        have HB9 := Lib.hid (HBr.out.keep hV9)
        have HC9 := Lib.hid (HCr.out.keep hV9)
        have hown9 := own_keep hown hV9
        have hsz9 := hV9.size
        replace hV9 := hBw.trans (hV9.mono hBw.size)
        obtain ⟨d0, d1, d2⟩ := HC9.out.cells
        clear hown
        go_wp2_with (at_builtin; refine wpList_append_own _ rfl _ _ 28 rfl (v1.heap.size + 1) 9 i0 (.string ⟨#[]⟩) 1 16 Tryd.underlying28 hi hz0 hz1 hz2 rfl (by decide) _ _ _ rfl (hown9.alloc _) ⟨v9.heap.size, 0, none⟩ 1 1 [.string q] rfl rfl ?c1 ?c2 ?c3 ?c4 ?c5 ?_)
        case c1 => exact cell_one_new _ _ _
        case c2 => intro u hu; rw [List.mem_singleton.1 hu]; rfl
        case c3 => unfold maxLen; omega
        case c4 => omega
        case c5 => simp; omega
        intro v' w7 hown7 hgrow hnil
        rw [← HQ.out] at hown7
        have hge := own_ge hown9
        have HB7 := (HB9.out.alloc (.cells #[.string q] 9)).grown hgrow (fun e => by have := hge _ e.symm; omega)
        have HC7 := (HC9.out.alloc (.cells #[.string q] 9)).grown hgrow (fun e => by have := hge _ e.symm; omega)
        have hV7 := (hV9.alloc hV9.size (.cells #[.string q] 9)).grown hgrow (by have := hV9.size; simp; omega) (fun k hk => by have := hge k hk; omega)
        obtain ⟨d0, d1, d2⟩ := HC7.cells
        obtain ⟨f0, f1, f2⟩ := HC7.free
        obtain ⟨gg, capg, rfl, hgg, hgl⟩ := hown7.form (by omega)
        have HB8 := Lib.hid (HB7.other (a := ⟨v1.heap.size, 1, none⟩) (by omega) (.slice (some ⟨gg, 0, none⟩) (n + 1) capg))
        have HC8 := Lib.hid (HC7.set1 (.slice (some ⟨gg, 0, none⟩) (n + 1) capg))
        have hown8 := ownsRow_setCell_below hown7 (a := ⟨v1.heap.size, 1, none⟩) (Nat.lt_succ_self _) (.slice (some ⟨gg, 0, none⟩) (n + 1) capg)
        have hV8 := hV7.setCell (p := ⟨v1.heap.size, 1, none⟩) hC0 (.slice (some ⟨gg, 0, none⟩) (n + 1) capg)
        have hsz8 := HC8.out.lt
        clear HB7 HC7 HB9 HC9 hown7 hown9 hge
        go_wp2
        go_roundw
        case rel => exact ⟨n + 1, _, by omega, by go_num, HB8, HC8, hown8, hV8, hsz8⟩
        case measure => simp [intOf]; omega
      · obtain rfl : n = qs.length := by omega
        have hBlk : ∀ x y z, Below w.heap.size w (((wr.setCell ⟨w.heap.size + 1, 0, none⟩ x).setCell ⟨w.heap.size + 1, 1, none⟩ y).setCell ⟨w.heap.size + 1, 2, none⟩ z) := fun x y z => ((hBw.setCell (p := ⟨w.heap.size + 1, 0, none⟩) (Nat.le_succ _) x).setCell (p := ⟨w.heap.size + 1, 1, none⟩) (Nat.le_succ _) y).setCell (p := ⟨w.heap.size + 1, 2, none⟩) (Nat.le_succ _) z
        have HBLK := Lib.hid hBlk
        have HFAR : Hid (∀ g k x y z, w.heap.size + 1 < g → (((wr.setCell ⟨w.heap.size + 1, 0, none⟩ x).setCell ⟨w.heap.size + 1, 1, none⟩ y).setCell ⟨w.heap.size + 1, 2, none⟩ z).cell? ⟨g, k, none⟩ = wr.cell? ⟨g, k, none⟩) := Lib.hid fun g k x y z hlt => by
          have hne : ∀ o, (⟨g, k, none⟩ : Addr) ≠ ⟨w.heap.size + 1, o, none⟩ := fun o e => by injection e with e _ _; omega
          rw [World.cell?_setCell_other _ _ _ _ (hne 2).symm, World.cell?_setCell_other _ _ _ _ (hne 1).symm, World.cell?_setCell_other _ _ _ _ (hne 0).symm]
        clear hBlk
        obtain ⟨d0, d1, d2⟩ := HCr.out.cells
        obtain ⟨f0, f1, f2⟩ := HBr.out.free
        obtain ⟨g0, g1, g2⟩ := HBr.out.cells
        have hown2 := hown
        rcases hown.2 with ⟨rfl, hz⟩ | ⟨gg, capg, cur, rfl, hgg, _⟩
        · first
            | (exfalso; omega)
            | (obtain ⟨q0, q1, q2⟩ := (((HBr.out.set0 (.string i)).set1 (.slice none 0 0)).set2 (.string f)).cells
               go_wp2
               refine bodyPost_ret (v := .tuple #[.agg #[.string i, .slice none 0 0, .string f], .bool true]) (by simp [results, Tryd.results26, go_sem, q0, q1, q2]) rfl ⟨_, rfl, .inl ⟨rfl, List.eq_nil_of_length_eq_zero hz⟩, HBLK.out _ _ _⟩)
        · obtain ⟨q0, q1, q2⟩ := (((HBr.out.set0 (.string i)).set1 (.slice (some ⟨gg, 0, none⟩) qs.length capg)).set2 (.string f)).cells
          go_wp2
          refine bodyPost_ret (v := .tuple #[.agg #[.string i, .slice (some ⟨gg, 0, none⟩) qs.length capg, .string f], .bool true]) (by simp [results, Tryd.results26, go_sem, q0, q1, q2]) rfl ⟨_, rfl, .inr ⟨gg, capg, rfl, fun k hk => ?_⟩, HBLK.out _ _ _⟩
          rw [HFAR.out gg k _ _ _ (by have := KB1lt; omega), hown2.cellAt k (by omega), List.getElem?_take_of_lt hk, List.getElem?_map, List.getElem?_eq_getElem hk]
          rfl

end Go.Proofs.YtcabkjmbklkedaaDoor.W

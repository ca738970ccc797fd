/- match.Contains of the syntax octet. -/
import Derived.Test.YtcabkjmbklkedaaDoorPiecesI
namespace Go.Proofs.YtcabkjmbklkedaaDoor.W
open Go.RowKit Go.Proofs.YtcabkjmbklkedaaDoor.Plain

set_option maxRecDepth 100000 in
set_option maxHeartbeats 2000000 in
theorem contains_oct (v i f : ByteArray) (p : Option Addr) (n cap : Nat) (qs : List ByteArray) (w : World) (hcs : ∀ k (h : k < qs.length), ∃ b, p = some ⟨b, 0, none⟩ ∧ w.cell? ⟨b, k, none⟩ = some (.string qs[k]))
    (hn : qs.length = n) (hne : 0 < i.size ∨ (i.size = 0 ∧ 0 < f.size) ∨ (i.size = 0 ∧ f.size = 0 ∧ 0 < qs.length)) (hq : qs.length ≤ 1000) (hv : v.size ≤ 1073741824) (hi : i.size ≤ 1073741824) (hf : f.size ≤ 1073741824) (hg : Glob w) :
    Calls Tryd.prog 14 #[.int .i64 9, .string v, .agg #[.string i, .slice p n cap, .string f]] w fun e w' => e = .returned (.int .i64 (if fitsL v.data.toList i.data.toList f.data.toList (lists qs) then 2 else 0)) ∧ Below w.heap.size w w' := by
  subst hn
  have hBa := (Below.refl w.heap.size w).alloc (Nat.le_refl _) (.cells #[.string i, .slice p qs.length cap, .string f] 35)
  have KA := Blk.new w (.string i) (.slice p qs.length cap) (.string f)
  have hga := hg.below hBa
  have HCS : Hid (∀ k (h : k < qs.length), ∃ b, p = some ⟨b, 0, none⟩ ∧ (w.alloc (.cells #[.string i, .slice p qs.length cap, .string f] 35)).cell? ⟨b, k, none⟩ = some (.string qs[k])) := Lib.hid fun k h => by
    obtain ⟨b, h1, h2⟩ := hcs k h
    exact ⟨b, h1, below_some h2 hBa⟩
  clear hcs
  obtain ⟨x, hx⟩ : ∃ x, fitsL v.data.toList i.data.toList f.data.toList (lists qs) = x := ⟨_, rfl⟩
  have HX := Lib.hid hx
  clear hx
  rw [HX.out]
  have ON := one_str v
  cases x
  all_goals
    go_enter Tryd.func14, Tryd.ntmps14
    go_wp2_with fail
    refine (parts_any i f p cap qs _ HCS.out hne hq hga).mono ?_
    rintro e v1 ⟨sl, rfl, hsl, hV1⟩
    have hg1 := hga.below hV1
    replace hV1 := hBa.trans (hV1.mono (by simp))
    have HSL := Lib.hid hsl
    rcases hsl with ⟨rfl, hz⟩ | ⟨b, c, rfl, hk⟩
    ·
      have hV2 := hV1.alloc hV1.size (.cells #[.string i, .slice none 0 0, .string f] 35)
      have hA2 := (Below.refl v1.heap.size v1).alloc (Nat.le_refl _) (.cells #[.string i, .slice none 0 0, .string f] 35)
      have K2 := Blk.new v1 (.string i) (.slice none 0 0) (.string f)
      have hg2 := hg1.below hA2
      have hsl2 := HSL.out.keep hA2
      go_wp2_with fail
      refine (normal_calls k_octet v _ hv hg2).mono ?_
      rintro e v3 ⟨rfl, hV3⟩
      unfold nOctet
      rw [ON.out]
      have K3 := K2.keep hV3
      have hg3 := hg2.below hV3
      have hsl3 := hsl2.keep hV3
      replace hV3 := hV2.trans (hV3.mono hV2.size)
      obtain ⟨d0, d1, d2⟩ := K3.cells
      clear hA2 K2 hg2 hsl2 K3
      go_wp2_with fail
      refine (fits_calls v i f _ qs _ hv hi hf (by omega) hsl3 hg3).mono ?_
      rintro e v4 ⟨rfl, hV4⟩
      rw [HX.out]
      replace hV4 := hV3.trans (hV4.mono hV3.size)
      go_wp2
      go_ret
      exact ⟨rfl, hV4⟩
    ·
      have hV2 := hV1.alloc hV1.size (.cells #[.string i, .slice (some ⟨b, 0, none⟩) qs.length c, .string f] 35)
      have hA2 := (Below.refl v1.heap.size v1).alloc (Nat.le_refl _) (.cells #[.string i, .slice (some ⟨b, 0, none⟩) qs.length c, .string f] 35)
      have K2 := Blk.new v1 (.string i) (.slice (some ⟨b, 0, none⟩) qs.length c) (.string f)
      have hg2 := hg1.below hA2
      have hsl2 := HSL.out.keep hA2
      go_wp2_with fail
      refine (normal_calls k_octet v _ hv hg2).mono ?_
      rintro e v3 ⟨rfl, hV3⟩
      unfold nOctet
      rw [ON.out]
      have K3 := K2.keep hV3
      have hg3 := hg2.below hV3
      have hsl3 := hsl2.keep hV3
      replace hV3 := hV2.trans (hV3.mono hV2.size)
      obtain ⟨d0, d1, d2⟩ := K3.cells
      clear hA2 K2 hg2 hsl2 K3
      go_wp2_with fail
      refine (fits_calls v i f _ qs _ hv hi hf (by omega) hsl3 hg3).mono ?_
      rintro e v4 ⟨rfl, hV4⟩
      rw [HX.out]
      replace hV4 := hV3.trans (hV4.mono hV3.size)
      go_wp2
      go_ret
      exact ⟨rfl, hV4⟩

end Go.Proofs.YtcabkjmbklkedaaDoor.W

/- The walk of the law MatchFolds, from the contracts; the plain facts that it needs are the hypothesis 'FoldsFacts'. -/
import Derived.Test.YtifoibigdfnmeaaDoorFoldsF
import Derived.Test.YtifoibigdfnmeaaDoorInst
namespace Go.Proofs.YtifoibigdfnmeaaDoor.W
open Go.RowKit Go.Proofs.YtifoibigdfnmeaaDoor.Plain

structure FoldsFacts (v : Bytes) : Prop where
  p1 : eqT (nText [97, 66]) (nText [65, 98]) = 2
  p2 : eqT (nExact [97, 66]) (nExact [65, 98]) = 0
  p3 : (eqT (nText v) (nText (swapL v)) = 1 ∧ eqT (nExact v) (nExact (swapL v)) = 1) ∨ (eqT (nText v) (nText (swapL v)) = 2 ∧ eqT (nExact v) (nExact (swapL v)) = (if v = swapL v then 2 else 0) ∧
    eqT (nExact v) (nExact ([32, 9] ++ v ++ [32, 32])) = 2 ∧ eqT (nText ([10] ++ swapL v ++ [32])) (nText v) = 2)
  p6 : eqT (nLowF v) (nLowF (swapL v)) = 1 ∨ eqT (nLowF v) (nLowF (swapL v)) = 2
  p7 : eqT (nPhone ([43, 49, 32] ++ figL v)) (nPhone ([43, 49, 45] ++ figL v ++ [32])) = 2
  p8 : eqT (nNum ([55] ++ figL v)) (nNum ([55, 32] ++ figL v)) = 2

/-- one call of Equal, its answer known -/
theorem eq_calls {n : Int} {T F : Nat} {nf : Bytes → Option Bytes} (K : NKind n T F nf) (v a : ByteArray) (lv la : Bytes) (r : Int) (w : World) (hlv : v.data.toList = lv) (hla : a.data.toList = la) (hr : eqT (nf lv) (nf la) = r)
    (hv : lv.length ≤ 1073741824) (ha : la.length ≤ 1073741824) (hg : Glob w) :
    Calls Tryd.prog 14 #[.int .i64 n, .string v, .string a] w fun e w' => e = .returned (.int .i64 r) ∧ Below w.heap.size w w' := by
  subst hlv hla hr
  exact equal_calls K v a w (by rw [← len_eq]; exact hv) (by rw [← len_eq]; exact ha) hg

/-- the end of the law: the syntax ia5, telephone numbers, digits -/
theorem swapL_len (l : Bytes) : (swapL l).length = l.length := by simp [swapL]
theorem figL_len (l : Bytes) : (figL l).length ≤ 100 := by simp [figL]; omega

set_option maxRecDepth 100000 in
set_option maxHeartbeats 2000000 in
theorem folds_walk (s : ByteArray) (w : World) (hs : s.size ≤ 1048576) (hf : FoldsFacts s.data.toList) (hg : Glob w) :
    Calls Tryd.prog 6 #[.string s] w fun e w' => e = .returned (.bool true) ∧ Below w.heap.size w w' := by
  have HF := Lib.hid hf
  clear hf
  have hs2 : s.size ≤ 140737488351232 := by omega
  have hsl : s.data.toList.length ≤ 1048576 := by rw [len_eq]; exact hs
  have HSL := Lib.hid hsl
  clear hsl
  obtain ⟨d, hd⟩ : ∃ d : ByteArray, (⟨(swapL s.data.toList).toArray⟩ : ByteArray) = d := ⟨_, rfl⟩
  have hdd : d.data.toList = swapL s.data.toList := by rw [← hd]
  have HD := Lib.hid hd
  have HDD := Lib.hid hdd
  obtain ⟨b, hb⟩ : ∃ b, (s.toList == d.toList) = b := ⟨_, rfl⟩
  have hbb : (if s.data.toList = swapL s.data.toList then (2 : Int) else 0) = if b then 2 else 0 := by
    rw [← hb, toList_eq, toList_eq, hdd]
    by_cases e : s.data.toList = swapL s.data.toList
    · rw [if_pos e, beq_iff_eq.2 e]; rfl
    · rw [if_neg e, beq_eq_false_iff_ne.2 e]; rfl
  have HBB := Lib.hid hbb
  clear hd hdd hbb
  obtain ⟨f, hf⟩ : ∃ f : ByteArray, (⟨(figL s.data.toList).toArray⟩ : ByteArray) = f := ⟨_, rfl⟩
  have hff : f.data.toList = figL s.data.toList := by rw [← hf]
  have HFG := Lib.hid hf
  have HFF := Lib.hid hff
  have hfs : f.size ≤ 100 := by rw [← len_eq, hff]; exact figL_len _
  have hds : d.size ≤ 1048576 := by rw [← len_eq, HDD.out, swapL_len]; exact HSL.out
  clear hf hff
  go_enter Tryd.func6, Tryd.ntmps6
  go_wp2_with fail
  refine (eq_calls k_text ⟨#[97, 66]⟩ ⟨#[65, 98]⟩ _ _ _ _ rfl rfl HF.out.p1 (by decide) (by decide) hg).mono ?_
  rintro e w1 ⟨rfl, hB1⟩
  have hg1 := hg.below hB1
  go_wp2_with fail
  refine (eq_calls k_exact ⟨#[97, 66]⟩ ⟨#[65, 98]⟩ _ _ _ _ rfl rfl HF.out.p2 (by decide) (by decide) hg1).mono ?_
  rintro e w2 ⟨rfl, hB2⟩
  have hg2 := hg1.below hB2
  have hBa := hB1.trans (hB2.mono hB1.size)
  clear hB1 hB2 hg1
  go_wp2_with fail
  refine (swap_calls s _ hs2).mono ?_
  rintro e w3 ⟨rfl, hB3⟩
  rw [HD.out]
  have hg3 := hg2.below hB3
  have hBb := hBa.trans (hB3.mono hBa.size)
  clear hB3 hBa hg2
  have HT := Lib.hid HF.out.p3
  have HI := Lib.hid HF.out.p6
  have hC3 := hBb
  clear hBb
  rcases HT.out with ⟨t1, t2⟩ | ⟨t1, t2, t3, t4⟩
  · have T1 := Lib.hid t1
    have T2 := Lib.hid t2
    clear t1 t2
    go_wp2_with fail
    refine (eq_calls k_text s d _ _ _ _ rfl HDD.out T1.out (by have := HSL.out; omega) (by rw [swapL_len]; have := HSL.out; omega) hg3).mono ?_
    rintro e w4 ⟨rfl, hB4⟩
    have hg4 := hg3.below hB4
    have hC4 := hC3.trans (hB4.mono hC3.size)
    clear hB4 hC3 hg3
    go_wp2_with fail
    refine (eq_calls k_exact s d _ _ _ _ rfl HDD.out T2.out (by have := HSL.out; omega) (by rw [swapL_len]; have := HSL.out; omega) hg4).mono ?_
    rintro e w5 ⟨rfl, hB5⟩
    have hg5 := hg4.below hB5
    have hC5 := hC4.trans (hB5.mono hC4.size)
    clear hB5 hC4 hg4
    rcases HI.out with i1 | i1
    · have I := Lib.hid i1
      clear i1
      go_wp2_with fail
      refine (eq_calls k_ia5 s d _ _ _ _ rfl HDD.out I.out (by have := HSL.out; omega) (by rw [swapL_len]; have := HSL.out; omega) hg5).mono ?_
      rintro e w6 ⟨rfl, hB6⟩
      have hg6 := hg5.below hB6
      have hC6 := hC5.trans (hB6.mono hC5.size)
      clear hB6 hC5 hg5
      go_wp2_with fail
      refine (fig_calls s _ hs2).mono ?_
      rintro e w7 ⟨rfl, hB7⟩
      rw [HFG.out]
      have hg7 := hg6.below hB7
      have hC7 := hC6.trans (hB7.mono hC6.size)
      clear hB7 hC6 hg6
      go_wp2_with fail
      refine (fig_calls s _ hs2).mono ?_
      rintro e w8 ⟨rfl, hB8⟩
      rw [HFG.out]
      have hg8 := hg7.below hB8
      have hC8 := hC7.trans (hB8.mono hC7.size)
      clear hB8 hC7 hg7
      go_wp2_with fail
      refine (eq_calls k_phone _ _ _ _ _ _ (by first | (rw [app_data, HFF.out]; done) | (rw [app_data, HFF.out]; rfl)) (by first | (rw [app_data, app_data, HFF.out]; done) | (rw [app_data, app_data, HFF.out]; rfl)) HF.out.p7 (by have := figL_len s.data.toList; simp only [List.length_append, List.length_cons, List.length_nil]; omega) (by have := figL_len s.data.toList; simp only [List.length_append, List.length_cons, List.length_nil]; omega) hg8).mono ?_
      rintro e w9 ⟨rfl, hB9⟩
      have hg9 := hg8.below hB9
      have hC9 := hC8.trans (hB9.mono hC8.size)
      clear hB9 hC8 hg8
      go_wp2_with fail
      refine (fig_calls s _ hs2).mono ?_
      rintro e w10 ⟨rfl, hB10⟩
      rw [HFG.out]
      have hg10 := hg9.below hB10
      have hC10 := hC9.trans (hB10.mono hC9.size)
      clear hB10 hC9 hg9
      go_wp2_with fail
      refine (fig_calls s _ hs2).mono ?_
      rintro e w11 ⟨rfl, hB11⟩
      rw [HFG.out]
      have hg11 := hg10.below hB11
      have hC11 := hC10.trans (hB11.mono hC10.size)
      clear hB11 hC10 hg10
      go_wp2_with fail
      refine (eq_calls k_num _ _ _ _ _ _ (by first | (rw [app_data, HFF.out]; done) | (rw [app_data, HFF.out]; rfl)) (by first | (rw [app_data, HFF.out]; done) | (rw [app_data, HFF.out]; rfl)) HF.out.p8 (by have := figL_len s.data.toList; simp only [List.length_append, List.length_cons, List.length_nil]; omega) (by have := figL_len s.data.toList; simp only [List.length_append, List.length_cons, List.length_nil]; omega) hg11).mono ?_
      rintro e w12 ⟨rfl, hB12⟩
      have hg12 := hg11.below hB12
      have hC12 := hC11.trans (hB12.mono hC11.size)
      clear hB12 hC11 hg11
      go_wp2_with fail
      go_ret
      exact ⟨rfl, hC12⟩
    · have I := Lib.hid i1
      clear i1
      go_wp2_with fail
      refine (eq_calls k_ia5 s d _ _ _ _ rfl HDD.out I.out (by have := HSL.out; omega) (by rw [swapL_len]; have := HSL.out; omega) hg5).mono ?_
      rintro e w6 ⟨rfl, hB6⟩
      have hg6 := hg5.below hB6
      have hC6 := hC5.trans (hB6.mono hC5.size)
      clear hB6 hC5 hg5
      go_wp2_with fail
      refine (fig_calls s _ hs2).mono ?_
      rintro e w7 ⟨rfl, hB7⟩
      rw [HFG.out]
      have hg7 := hg6.below hB7
      have hC7 := hC6.trans (hB7.mono hC6.size)
      clear hB7 hC6 hg6
      go_wp2_with fail
      refine (fig_calls s _ hs2).mono ?_
      rintro e w8 ⟨rfl, hB8⟩
      rw [HFG.out]
      have hg8 := hg7.below hB8
      have hC8 := hC7.trans (hB8.mono hC7.size)
      clear hB8 hC7 hg7
      go_wp2_with fail
      refine (eq_calls k_phone _ _ _ _ _ _ (by first | (rw [app_data, HFF.out]; done) | (rw [app_data, HFF.out]; rfl)) (by first | (rw [app_data, app_data, HFF.out]; done) | (rw [app_data, app_data, HFF.out]; rfl)) HF.out.p7 (by have := figL_len s.data.toList; simp only [List.length_append, List.length_cons, List.length_nil]; omega) (by have := figL_len s.data.toList; simp only [List.length_append, List.length_cons, List.length_nil]; omega) hg8).mono ?_
      rintro e w9 ⟨rfl, hB9⟩
      have hg9 := hg8.below hB9
      have hC9 := hC8.trans (hB9.mono hC8.size)
      clear hB9 hC8 hg8
      go_wp2_with fail
      refine (fig_calls s _ hs2).mono ?_
      rintro e w10 ⟨rfl, hB10⟩
      rw [HFG.out]
      have hg10 := hg9.below hB10
      have hC10 := hC9.trans (hB10.mono hC9.size)
      clear hB10 hC9 hg9
      go_wp2_with fail
      refine (fig_calls s _ hs2).mono ?_
      rintro e w11 ⟨rfl, hB11⟩
      rw [HFG.out]
      have hg11 := hg10.below hB11
      have hC11 := hC10.trans (hB11.mono hC10.size)
      clear hB11 hC10 hg10
      go_wp2_with fail
      refine (eq_calls k_num _ _ _ _ _ _ (by first | (rw [app_data, HFF.out]; done) | (rw [app_data, HFF.out]; rfl)) (by first | (rw [app_data, HFF.out]; done) | (rw [app_data, HFF.out]; rfl)) HF.out.p8 (by have := figL_len s.data.toList; simp only [List.length_append, List.length_cons, List.length_nil]; omega) (by have := figL_len s.data.toList; simp only [List.length_append, List.length_cons, List.length_nil]; omega) hg11).mono ?_
      rintro e w12 ⟨rfl, hB12⟩
      have hg12 := hg11.below hB12
      have hC12 := hC11.trans (hB12.mono hC11.size)
      clear hB12 hC11 hg11
      go_wp2_with fail
      go_ret
      exact ⟨rfl, hC12⟩
  · rw [HBB.out] at t2
    have T1 := Lib.hid t1
    have T2 := Lib.hid t2
    have T3 := Lib.hid t3
    have T4 := Lib.hid t4
    clear t1 t2 t3 t4
    cases b
    · have T5 := Lib.hid T2.out
      go_wp2_with fail
      refine (eq_calls k_text s d _ _ _ _ rfl HDD.out T1.out (by have := HSL.out; omega) (by rw [swapL_len]; have := HSL.out; omega) hg3).mono ?_
      rintro e w4 ⟨rfl, hB4⟩
      have hg4 := hg3.below hB4
      have hC4 := hC3.trans (hB4.mono hC3.size)
      clear hB4 hC3 hg3
      go_wp2_with fail
      refine (eq_calls k_exact s d _ _ _ _ rfl HDD.out T5.out (by have := HSL.out; omega) (by rw [swapL_len]; have := HSL.out; omega) hg4).mono ?_
      rintro e w5 ⟨rfl, hB5⟩
      have hg5 := hg4.below hB5
      have hC5 := hC4.trans (hB5.mono hC4.size)
      clear hB5 hC4 hg4
      go_wp2_with fail
      refine (truth_calls _ _).mono ?_
      rintro e w' ⟨rfl, rfl⟩
      go_wp2_with fail
      refine (eq_calls k_exact s _ _ _ _ _ rfl (by first | (rw [app_data, app_data]; done) | (rw [app_data, app_data]; rfl)) T3.out (by have := HSL.out; omega) (by simp only [List.length_append, List.length_cons, List.length_nil]; have := HSL.out; omega) hg5).mono ?_
      rintro e w6 ⟨rfl, hB6⟩
      have hg6 := hg5.below hB6
      have hC6 := hC5.trans (hB6.mono hC5.size)
      clear hB6 hC5 hg5
      go_wp2_with fail
      refine (eq_calls k_text _ s _ _ _ _ (by first | (rw [app_data, app_data, HDD.out]; done) | (rw [app_data, app_data, HDD.out]; rfl)) rfl T4.out (by simp only [List.length_append, List.length_cons, List.length_nil, swapL_len]; have := HSL.out; omega) (by have := HSL.out; omega) hg6).mono ?_
      rintro e w7 ⟨rfl, hB7⟩
      have hg7 := hg6.below hB7
      have hC7 := hC6.trans (hB7.mono hC6.size)
      clear hB7 hC6 hg6
      rcases HI.out with i1 | i1
      · have I := Lib.hid i1
        clear i1
        go_wp2_with fail
        refine (eq_calls k_ia5 s d _ _ _ _ rfl HDD.out I.out (by have := HSL.out; omega) (by rw [swapL_len]; have := HSL.out; omega) hg7).mono ?_
        rintro e w8 ⟨rfl, hB8⟩
        have hg8 := hg7.below hB8
        have hC8 := hC7.trans (hB8.mono hC7.size)
        clear hB8 hC7 hg7
        go_wp2_with fail
        refine (fig_calls s _ hs2).mono ?_
        rintro e w9 ⟨rfl, hB9⟩
        rw [HFG.out]
        have hg9 := hg8.below hB9
        have hC9 := hC8.trans (hB9.mono hC8.size)
        clear hB9 hC8 hg8
        go_wp2_with fail
        refine (fig_calls s _ hs2).mono ?_
        rintro e w10 ⟨rfl, hB10⟩
        rw [HFG.out]
        have hg10 := hg9.below hB10
        have hC10 := hC9.trans (hB10.mono hC9.size)
        clear hB10 hC9 hg9
        go_wp2_with fail
        refine (eq_calls k_phone _ _ _ _ _ _ (by first | (rw [app_data, HFF.out]; done) | (rw [app_data, HFF.out]; rfl)) (by first | (rw [app_data, app_data, HFF.out]; done) | (rw [app_data, app_data, HFF.out]; rfl)) HF.out.p7 (by have := figL_len s.data.toList; simp only [List.length_append, List.length_cons, List.length_nil]; omega) (by have := figL_len s.data.toList; simp only [List.length_append, List.length_cons, List.length_nil]; omega) hg10).mono ?_
        rintro e w11 ⟨rfl, hB11⟩
        have hg11 := hg10.below hB11
        have hC11 := hC10.trans (hB11.mono hC10.size)
        clear hB11 hC10 hg10
        go_wp2_with fail
        refine (fig_calls s _ hs2).mono ?_
        rintro e w12 ⟨rfl, hB12⟩
        rw [HFG.out]
        have hg12 := hg11.below hB12
        have hC12 := hC11.trans (hB12.mono hC11.size)
        clear hB12 hC11 hg11
        go_wp2_with fail
        refine (fig_calls s _ hs2).mono ?_
        rintro e w13 ⟨rfl, hB13⟩
        rw [HFG.out]
        have hg13 := hg12.below hB13
        have hC13 := hC12.trans (hB13.mono hC12.size)
        clear hB13 hC12 hg12
        go_wp2_with fail
        refine (eq_calls k_num _ _ _ _ _ _ (by first | (rw [app_data, HFF.out]; done) | (rw [app_data, HFF.out]; rfl)) (by first | (rw [app_data, HFF.out]; done) | (rw [app_data, HFF.out]; rfl)) HF.out.p8 (by have := figL_len s.data.toList; simp only [List.length_append, List.length_cons, List.length_nil]; omega) (by have := figL_len s.data.toList; simp only [List.length_append, List.length_cons, List.length_nil]; omega) hg13).mono ?_
        rintro e w14 ⟨rfl, hB14⟩
        have hg14 := hg13.below hB14
        have hC14 := hC13.trans (hB14.mono hC13.size)
        clear hB14 hC13 hg13
        go_wp2_with fail
        go_ret
        exact ⟨rfl, hC14⟩
      · have I := Lib.hid i1
        clear i1
        go_wp2_with fail
        refine (eq_calls k_ia5 s d _ _ _ _ rfl HDD.out I.out (by have := HSL.out; omega) (by rw [swapL_len]; have := HSL.out; omega) hg7).mono ?_
        rintro e w8 ⟨rfl, hB8⟩
        have hg8 := hg7.below hB8
        have hC8 := hC7.trans (hB8.mono hC7.size)
        clear hB8 hC7 hg7
        go_wp2_with fail
        refine (fig_calls s _ hs2).mono ?_
        rintro e w9 ⟨rfl, hB9⟩
        rw [HFG.out]
        have hg9 := hg8.below hB9
        have hC9 := hC8.trans (hB9.mono hC8.size)
        clear hB9 hC8 hg8
        go_wp2_with fail
        refine (fig_calls s _ hs2).mono ?_
        rintro e w10 ⟨rfl, hB10⟩
        rw [HFG.out]
        have hg10 := hg9.below hB10
        have hC10 := hC9.trans (hB10.mono hC9.size)
        clear hB10 hC9 hg9
        go_wp2_with fail
        refine (eq_calls k_phone _ _ _ _ _ _ (by first | (rw [app_data, HFF.out]; done) | (rw [app_data, HFF.out]; rfl)) (by first | (rw [app_data, app_data, HFF.out]; done) | (rw [app_data, app_data, HFF.out]; rfl)) HF.out.p7 (by have := figL_len s.data.toList; simp only [List.length_append, List.length_cons, List.length_nil]; omega) (by have := figL_len s.data.toList; simp only [List.length_append, List.length_cons, List.length_nil]; omega) hg10).mono ?_
        rintro e w11 ⟨rfl, hB11⟩
        have hg11 := hg10.below hB11
        have hC11 := hC10.trans (hB11.mono hC10.size)
        clear hB11 hC10 hg10
        go_wp2_with fail
        refine (fig_calls s _ hs2).mono ?_
        rintro e w12 ⟨rfl, hB12⟩
        rw [HFG.out]
        have hg12 := hg11.below hB12
        have hC12 := hC11.trans (hB12.mono hC11.size)
        clear hB12 hC11 hg11
        go_wp2_with fail
        refine (fig_calls s _ hs2).mono ?_
        rintro e w13 ⟨rfl, hB13⟩
        rw [HFG.out]
        have hg13 := hg12.below hB13
        have hC13 := hC12.trans (hB13.mono hC12.size)
        clear hB13 hC12 hg12
        go_wp2_with fail
        refine (eq_calls k_num _ _ _ _ _ _ (by first | (rw [app_data, HFF.out]; done) | (rw [app_data, HFF.out]; rfl)) (by first | (rw [app_data, HFF.out]; done) | (rw [app_data, HFF.out]; rfl)) HF.out.p8 (by have := figL_len s.data.toList; simp only [List.length_append, List.length_cons, List.length_nil]; omega) (by have := figL_len s.data.toList; simp only [List.length_append, List.length_cons, List.length_nil]; omega) hg13).mono ?_
        rintro e w14 ⟨rfl, hB14⟩
        have hg14 := hg13.below hB14
        have hC14 := hC13.trans (hB14.mono hC13.size)
        clear hB14 hC13 hg13
        go_wp2_with fail
        go_ret
        exact ⟨rfl, hC14⟩
    · have T5 := Lib.hid T2.out
      go_wp2_with fail
      refine (eq_calls k_text s d _ _ _ _ rfl HDD.out T1.out (by have := HSL.out; omega) (by rw [swapL_len]; have := HSL.out; omega) hg3).mono ?_
      rintro e w4 ⟨rfl, hB4⟩
      have hg4 := hg3.below hB4
      have hC4 := hC3.trans (hB4.mono hC3.size)
      clear hB4 hC3 hg3
      go_wp2_with fail
      refine (eq_calls k_exact s d _ _ _ _ rfl HDD.out T5.out (by have := HSL.out; omega) (by rw [swapL_len]; have := HSL.out; omega) hg4).mono ?_
      rintro e w5 ⟨rfl, hB5⟩
      have hg5 := hg4.below hB5
      have hC5 := hC4.trans (hB5.mono hC4.size)
      clear hB5 hC4 hg4
      go_wp2_with fail
      refine (truth_calls _ _).mono ?_
      rintro e w' ⟨rfl, rfl⟩
      go_wp2_with fail
      refine (eq_calls k_exact s _ _ _ _ _ rfl (by first | (rw [app_data, app_data]; done) | (rw [app_data, app_data]; rfl)) T3.out (by have := HSL.out; omega) (by simp only [List.length_append, List.length_cons, List.length_nil]; have := HSL.out; omega) hg5).mono ?_
      rintro e w6 ⟨rfl, hB6⟩
      have hg6 := hg5.below hB6
      have hC6 := hC5.trans (hB6.mono hC5.size)
      clear hB6 hC5 hg5
      go_wp2_with fail
      refine (eq_calls k_text _ s _ _ _ _ (by first | (rw [app_data, app_data, HDD.out]; done) | (rw [app_data, app_data, HDD.out]; rfl)) rfl T4.out (by simp only [List.length_append, List.length_cons, List.length_nil, swapL_len]; have := HSL.out; omega) (by have := HSL.out; omega) hg6).mono ?_
      rintro e w7 ⟨rfl, hB7⟩
      have hg7 := hg6.below hB7
      have hC7 := hC6.trans (hB7.mono hC6.size)
      clear hB7 hC6 hg6
      rcases HI.out with i1 | i1
      · have I := Lib.hid i1
        clear i1
        go_wp2_with fail
        refine (eq_calls k_ia5 s d _ _ _ _ rfl HDD.out I.out (by have := HSL.out; omega) (by rw [swapL_len]; have := HSL.out; omega) hg7).mono ?_
        rintro e w8 ⟨rfl, hB8⟩
        have hg8 := hg7.below hB8
        have hC8 := hC7.trans (hB8.mono hC7.size)
        clear hB8 hC7 hg7
        go_wp2_with fail
        refine (fig_calls s _ hs2).mono ?_
        rintro e w9 ⟨rfl, hB9⟩
        rw [HFG.out]
        have hg9 := hg8.below hB9
        have hC9 := hC8.trans (hB9.mono hC8.size)
        clear hB9 hC8 hg8
        go_wp2_with fail
        refine (fig_calls s _ hs2).mono ?_
        rintro e w10 ⟨rfl, hB10⟩
        rw [HFG.out]
        have hg10 := hg9.below hB10
        have hC10 := hC9.trans (hB10.mono hC9.size)
        clear hB10 hC9 hg9
        go_wp2_with fail
        refine (eq_calls k_phone _ _ _ _ _ _ (by first | (rw [app_data, HFF.out]; done) | (rw [app_data, HFF.out]; rfl)) (by first | (rw [app_data, app_data, HFF.out]; done) | (rw [app_data, app_data, HFF.out]; rfl)) HF.out.p7 (by have := figL_len s.data.toList; simp only [List.length_append, List.length_cons, List.length_nil]; omega) (by have := figL_len s.data.toList; simp only [List.length_append, List.length_cons, List.length_nil]; omega) hg10).mono ?_
        rintro e w11 ⟨rfl, hB11⟩
        have hg11 := hg10.below hB11
        have hC11 := hC10.trans (hB11.mono hC10.size)
        clear hB11 hC10 hg10
        go_wp2_with fail
        refine (fig_calls s _ hs2).mono ?_
        rintro e w12 ⟨rfl, hB12⟩
        rw [HFG.out]
        have hg12 := hg11.below hB12
        have hC12 := hC11.trans (hB12.mono hC11.size)
        clear hB12 hC11 hg11
        go_wp2_with fail
        refine (fig_calls s _ hs2).mono ?_
        rintro e w13 ⟨rfl, hB13⟩
        rw [HFG.out]
        have hg13 := hg12.below hB13
        have hC13 := hC12.trans (hB13.mono hC12.size)
        clear hB13 hC12 hg12
        go_wp2_with fail
        refine (eq_calls k_num _ _ _ _ _ _ (by first | (rw [app_data, HFF.out]; done) | (rw [app_data, HFF.out]; rfl)) (by first | (rw [app_data, HFF.out]; done) | (rw [app_data, HFF.out]; rfl)) HF.out.p8 (by have := figL_len s.data.toList; simp only [List.length_append, List.length_cons, List.length_nil]; omega) (by have := figL_len s.data.toList; simp only [List.length_append, List.length_cons, List.length_nil]; omega) hg13).mono ?_
        rintro e w14 ⟨rfl, hB14⟩
        have hg14 := hg13.below hB14
        have hC14 := hC13.trans (hB14.mono hC13.size)
        clear hB14 hC13 hg13
        go_wp2_with fail
        go_ret
        exact ⟨rfl, hC14⟩
      · have I := Lib.hid i1
        clear i1
        go_wp2_with fail
        refine (eq_calls k_ia5 s d _ _ _ _ rfl HDD.out I.out (by have := HSL.out; omega) (by rw [swapL_len]; have := HSL.out; omega) hg7).mono ?_
        rintro e w8 ⟨rfl, hB8⟩
        have hg8 := hg7.below hB8
        have hC8 := hC7.trans (hB8.mono hC7.size)
        clear hB8 hC7 hg7
        go_wp2_with fail
        refine (fig_calls s _ hs2).mono ?_
        rintro e w9 ⟨rfl, hB9⟩
        rw [HFG.out]
        have hg9 := hg8.below hB9
        have hC9 := hC8.trans (hB9.mono hC8.size)
        clear hB9 hC8 hg8
        go_wp2_with fail
        refine (fig_calls s _ hs2).mono ?_
        rintro e w10 ⟨rfl, hB10⟩
        rw [HFG.out]
        have hg10 := hg9.below hB10
        have hC10 := hC9.trans (hB10.mono hC9.size)
        clear hB10 hC9 hg9
        go_wp2_with fail
        refine (eq_calls k_phone _ _ _ _ _ _ (by first | (rw [app_data, HFF.out]; done) | (rw [app_data, HFF.out]; rfl)) (by first | (rw [app_data, app_data, HFF.out]; done) | (rw [app_data, app_data, HFF.out]; rfl)) HF.out.p7 (by have := figL_len s.data.toList; simp only [List.length_append, List.length_cons, List.length_nil]; omega) (by have := figL_len s.data.toList; simp only [List.length_append, List.length_cons, List.length_nil]; omega) hg10).mono ?_
        rintro e w11 ⟨rfl, hB11⟩
        have hg11 := hg10.below hB11
        have hC11 := hC10.trans (hB11.mono hC10.size)
        clear hB11 hC10 hg10
        go_wp2_with fail
        refine (fig_calls s _ hs2).mono ?_
        rintro e w12 ⟨rfl, hB12⟩
        rw [HFG.out]
        have hg12 := hg11.below hB12
        have hC12 := hC11.trans (hB12.mono hC11.size)
        clear hB12 hC11 hg11
        go_wp2_with fail
        refine (fig_calls s _ hs2).mono ?_
        rintro e w13 ⟨rfl, hB13⟩
        rw [HFG.out]
        have hg13 := hg12.below hB13
        have hC13 := hC12.trans (hB13.mono hC12.size)
        clear hB13 hC12 hg12
        go_wp2_with fail
        refine (eq_calls k_num _ _ _ _ _ _ (by first | (rw [app_data, HFF.out]; done) | (rw [app_data, HFF.out]; rfl)) (by first | (rw [app_data, HFF.out]; done) | (rw [app_data, HFF.out]; rfl)) HF.out.p8 (by have := figL_len s.data.toList; simp only [List.length_append, List.length_cons, List.length_nil]; omega) (by have := figL_len s.data.toList; simp only [List.length_append, List.length_cons, List.length_nil]; omega) hg13).mono ?_
        rintro e w14 ⟨rfl, hB14⟩
        have hg14 := hg13.below hB14
        have hC14 := hC13.trans (hB14.mono hC13.size)
        clear hB14 hC13 hg13
        go_wp2_with fail
        go_ret
        exact ⟨rfl, hC14⟩

end Go.Proofs.YtifoibigdfnmeaaDoor.W

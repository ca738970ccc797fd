/- Walks of the reader of times: row, zone. -/
import Derived.Test.YthopanlkjdcgmaaGreatDoorTimeB
namespace Go.Proofs.YthopanlkjdcgmaaGreatDoor.W
open Go.RowKit Go.Proofs.YthopanlkjdcgmaaGreatDoor.Plain

/-- how many digits stand at the front -/
def digN : Bytes → Nat
  | [] => 0
  | c :: r => if digitB c then digN r + 1 else 0
theorem digN_le : ∀ l : Bytes, digN l ≤ l.length
  | [] => Nat.le_refl _
  | c :: r => by unfold digN; have := digN_le r; rw [List.length_cons]; split <;> omega
theorem digN_at : ∀ (l : Bytes) (k : Nat) (_hk : k ≤ digN l) (h : k < l.length), (digitB l[k] = true → k + 1 ≤ digN l) ∧ (digitB l[k] = false → digN l = k)
  | [], k, _, h => absurd h (by simp)
  | c :: r, 0, _, _ => by
    constructor
    · intro hd; unfold digN; rw [if_pos (by simpa using hd)]; omega
    · intro hd; unfold digN; rw [if_neg (by simpa using hd)]
  | c :: r, k + 1, hk, h => by
    unfold digN at hk ⊢
    by_cases hc : digitB c = true
    · rw [if_pos hc] at hk ⊢
      have := digN_at r k (by omega) (by simpa using h)
      rw [List.getElem_cons_succ]
      exact ⟨fun hd => by have := this.1 hd; omega, fun hd => by have := this.2 hd; omega⟩
    · rw [if_neg hc] at hk; omega
def RowPost (l : Bytes) (b : Nat) (ok : Bool) (w : World) (e : Ending) (w' : World) : Prop :=
  e = .returned (.string ⟨(l.take (digN l)).toArray⟩) ∧ RdAt w' b ⟨(l.drop (digN l)).toArray⟩ (ok && decide (digN l ≠ 0)) ∧ Below b w w'
theorem ext_tail (s : ByteArray) (k : Nat) : s.extract k s.size = ⟨(s.data.toList.drop k).toArray⟩ :=
  mk_of (by rw [Lib.extract_data, List.take_of_length_le (by rw [List.length_drop, len_eq]; omega)])

set_option maxRecDepth 100000 in
set_option maxHeartbeats 1000000 in
theorem row_calls (b : Nat) (s : ByteArray) (ok : Bool) (w : World) (h : RdAt w b s ok) (hs : s.size ≤ 1073741824) :
    Calls Tryz.prog 260 #[.pointer (some ⟨b, 0, none⟩)] w (RowPost s.data.toList b ok w) := by
  have HH := Lib.hid h
  obtain ⟨h0, h1, f0, f1⟩ := h
  obtain ⟨n, hn⟩ : ∃ n, digN s.data.toList = n := ⟨_, rfl⟩
  have hle := digN_le s.data.toList
  rw [hn, len_eq] at hle
  have HN := Lib.hid hn
  have HAt := Lib.hid (digN_at s.data.toList)
  clear hn
  go_enter Tryz.func260, Tryz.ntmps260
  go_wp2
  go_loop [3] (fun i => ∃ k : Nat, k ≤ n ∧ i = .int .i64 k) (fun i => n - (intOf i).toNat)
  case atStart => exact ⟨0, Nat.zero_le _, rfl⟩
  case round =>
    obtain ⟨k, hk, rfl⟩ := hrel
    by_cases hlt : k < s.size
    · have hat : (digitB s[k] = true → k + 1 ≤ n) ∧ (digitB s[k] = false → n = k) := by
        have := HAt.out k (by rw [HN.out]; exact hk) (by rw [len_eq]; exact hlt)
        rw [HN.out] at this
        exact this
      cases hb : digitB s[k]
      · obtain rfl := hat.2 hb
        have HB := Lib.hid hb
        clear hb hat
        by_cases hz : n = 0
        · subst hz
          go_wp2_with (go_at_call 65; refine (digit _ _).mono ?_; rintro e w4 ⟨rfl, rfl⟩; rw [HB.out])
          go_ret
          exact ⟨by rw [HN.out]; first | rfl | (rw [← mk_of (ext_to s 0)]; rfl), by rw [HN.out, show (⟨(s.data.toList.drop 0).toArray⟩ : ByteArray) = s from (mk_of rfl).symm]; simp only [Bool.and_false, ne_eq, not_true, decide_false]; exact (HH.out.put _).bad false, below_put (below_put (Below.refl _ _) _ _) _ _⟩
        · have hx : 0 < (s.extract 0 n).size := by simp; omega
          obtain ⟨g1, g2, g3⟩ := full_of hx
          have HZ := Lib.hid hz
          clear hz
          go_wp2_with (go_at_call 65; refine (digit _ _).mono ?_; rintro e w4 ⟨rfl, rfl⟩; rw [HB.out])
          go_ret
          exact ⟨by rw [HN.out, ← mk_of (ext_to s n)]; rfl, by rw [HN.out, ← ext_tail, decide_eq_true HZ.out, Bool.and_true]; exact HH.out.put _, below_put (Below.refl _ _) _ _⟩
      · have hk1 := hat.1 hb
        have HB := Lib.hid hb
        clear hb hat
        go_wp2_with (go_at_call 65; refine (digit _ _).mono ?_; rintro e w4 ⟨rfl, rfl⟩; rw [HB.out])
        go_round
        case rel => exact ⟨k + 1, by omega, by go_num⟩
        case measure => simp [intOf]; omega
    · obtain rfl : k = n := by omega
      by_cases hz : k = 0
      · subst hz
        go_wp2
        go_ret
        exact ⟨by rw [HN.out]; first | rfl | (rw [← mk_of (ext_to s 0)]; rfl), by rw [HN.out, show (⟨(s.data.toList.drop 0).toArray⟩ : ByteArray) = s from (mk_of rfl).symm]; simp only [Bool.and_false, ne_eq, not_true, decide_false]; exact (HH.out.put _).bad false, below_put (below_put (Below.refl _ _) _ _) _ _⟩
      · have hx : 0 < (s.extract 0 k).size := by simp; omega
        obtain ⟨g1, g2, g3⟩ := full_of hx
        have HZ := Lib.hid hz
        clear hz
        go_wp2
        go_ret
        exact ⟨by rw [HN.out, ← mk_of (ext_to s k)]; rfl, by rw [HN.out, ← ext_tail, decide_eq_true HZ.out, Bool.and_true]; exact HH.out.put _, below_put (Below.refl _ _) _ _⟩

/-- the minutes of a zone, and the rest of them, behind its hours -/
def zoneM (r : Bytes) : Int × Bytes × Bool :=
  if (numR 2 0 23 r).2.2 && headD (numR 2 0 23 r).2.1 then (60 * (numR 2 0 23 r).1 + (numR 2 0 59 (numR 2 0 23 r).2.1).1, (numR 2 0 59 (numR 2 0 23 r).2.1).2.1, (numR 2 0 59 (numR 2 0 23 r).2.1).2.2)
  else (60 * (numR 2 0 23 r).1, (numR 2 0 23 r).2.1, (numR 2 0 23 r).2.2)
def zoneC (c : UInt8) (r : Bytes) : Int × Bool :=
  if c = 90 ∧ r = [] then (0, true) else if c ≠ 43 ∧ c ≠ 45 then (0, false) else
    (if c = 45 then -(zoneM r).1 else (zoneM r).1, (zoneM r).2.2 && decide ((zoneM r).2.1 = []))
/-- a zone: the minutes, and whether it is one -/
def zoneR : Bytes → Int × Bool
  | [] => (0, false)
  | c :: r => zoneC c r
def ZonePost (r : Int × Bool) (b : Nat) (w : World) (e : Ending) (w' : World) : Prop :=
  e = .returned (.int .i64 r.1) ∧ (∃ s, RdAt w' b s r.2) ∧ Below b w w'
theorem numR_range (n : Nat) (lo hi : Int) (h : lo ≤ hi) (l : Bytes) : lo ≤ (numR n lo hi l).1 ∧ (numR n lo hi l).1 ≤ hi ∧ (numR n lo hi l).2.1.length ≤ l.length := by
  unfold numR
  split
  · exact ⟨Int.le_refl _, h, Nat.le_refl _⟩
  · split
    · exact ⟨Int.le_refl _, h, by simp⟩
    · exact ⟨by omega, by omega, by simp⟩

theorem number_to (b : Nat) (l : Bytes) (ok : Bool) (n : Nat) (hn : n ≤ 4) (lo hi v : Int) (l2 : Bytes) (g : Bool) (hr : numR n lo hi l = (v, l2, g)) (w : World) (h : RdAt w b ⟨l.toArray⟩ ok) (hs : l.length ≤ 1073741824) :
    Calls Tryz.prog 256 #[.pointer (some ⟨b, 0, none⟩), .int .i64 (n : Int), .int .i64 lo, .int .i64 hi] w fun e w' => e = .returned (.int .i64 v) ∧ RdAt w' b ⟨l2.toArray⟩ (ok && g) ∧ Below b w w' := by
  refine (number_calls b ⟨l.toArray⟩ ok n hn lo hi w h (by rw [mk_size]; exact hs)).mono ?_
  rintro e w' ⟨rfl, h1, h2⟩
  rw [mk_data, hr] at h1
  rw [mk_data, hr]
  exact ⟨rfl, h1, h2⟩
theorem more_to (b : Nat) (l : Bytes) (ok : Bool) (w : World) (h : RdAt w b ⟨l.toArray⟩ ok) :
    Calls Tryz.prog 258 #[.pointer (some ⟨b, 0, none⟩)] w fun e w' => e = .returned (.bool (ok && headD l)) ∧ w = w' := by
  have := more_calls b ⟨l.toArray⟩ ok w h
  rwa [mk_data] at this
theorem none_or (l : Bytes) : l = [] ∨ (l ≠ [] ∧ l.isEmpty = false ∧ (!l.isEmpty) = true ∧ (l == []) = false) := by
  cases l with
  | nil => exact .inl rfl
  | cons c r => exact .inr ⟨by simp, rfl, rfl, rfl⟩

set_option maxRecDepth 100000 in
set_option maxHeartbeats 2000000 in
theorem zone_calls (b : Nat) (s : ByteArray) (w : World) (h : RdAt w b s true) (hs : s.size ≤ 1073741824) :
    Calls Tryz.prog 261 #[.pointer (some ⟨b, 0, none⟩)] w (ZonePost (zoneR s.data.toList) b w) := by
  have HH := Lib.hid h
  obtain ⟨h0, h1, f0, f1⟩ := h
  by_cases hz : s.data.toList = [90]
  · obtain rfl := mk_of hz
    go_enter Tryz.func261, Tryz.ntmps261
    go_wp2
    go_ret
    exact ⟨rfl, ⟨_, HH.out.put _⟩, below_put (Below.refl _ _) _ _⟩
  obtain ⟨a1, a2, a3⟩ := ne_lit hz
  by_cases he : s.size = 0
  · have HN := (empty_of he).2.2.2
    obtain rfl := mk_of HN
    go_enter Tryz.func261, Tryz.ntmps261
    go_wp2
    go_ret
    exact ⟨rfl, ⟨_, HH.out.bad false⟩, below_put (Below.refl _ _) _ _⟩
  have hp : 0 < s.size := by omega
  obtain ⟨e1, e2, e3⟩ := full_of hp
  have hcons : s.data.toList = s[0] :: s.data.toList.drop 1 := by
    have h2 : s.data.toList[0]? = some (s[0]'hp) := by rw [List.getElem?_eq_getElem (by rw [len_eq]; exact hp)]; rfl
    cases hl : s.data.toList with
    | nil => rw [hl] at h2; simp at h2
    | cons a r => rw [hl] at h2; simp at h2; rw [← h2]; rfl
  obtain ⟨r, hr⟩ : ∃ r, s.data.toList.drop 1 = r := ⟨_, rfl⟩
  have hrl : r.length ≤ 1073741823 := by rw [← hr, List.length_drop, len_eq]; omega
  have hnot : ¬ (s[0] = 90 ∧ r = []) := by rintro ⟨q1, rfl⟩; apply hz; rw [hcons, q1, hr]
  have HX : Hid (s.extract 1 s.size = ⟨r.toArray⟩) := by rw [ext_tail, hr]; exact Lib.hid rfl
  have HZR : Hid (zoneR s.data.toList = zoneC s[0] r) := by rw [hcons, hr]; exact Lib.hid rfl
  rw [HZR.out]
  clear hcons hr hz
  by_cases hno : s[0] ≠ 43 ∧ s[0] ≠ 45
  · have HR : Hid (zoneC s[0] r = (0, false)) := by unfold zoneC; rw [if_neg hnot, if_pos hno]; exact Lib.hid rfl
    have n43 : ((s[0].toNat : Int) != 43) = true := by rw [bne_iff_ne]; exact fun hh => hno.1 ((u8_eq _ _).mpr hh)
    have n45 : ((s[0].toNat : Int) != 45) = true := by rw [bne_iff_ne]; exact fun hh => hno.2 ((u8_eq _ _).mpr hh)
    clear hno hnot
    go_enter Tryz.func261, Tryz.ntmps261
    go_wp2
    go_ret
    exact ⟨by rw [HR.out]; rfl, ⟨s, by rw [HR.out]; exact HH.out.bad false⟩, below_put (Below.refl _ _) _ _⟩
  have hR : zoneC s[0] r = (if s[0] = 45 then -(zoneM r).1 else (zoneM r).1, (zoneM r).2.2 && decide ((zoneM r).2.1 = [])) := by
    unfold zoneC; rw [if_neg hnot, if_neg hno]
  have hyes : s[0] = 43 ∨ s[0] = 45 := by
    by_cases h43 : s[0] = 43
    · exact .inl h43
    · by_cases h45 : s[0] = 45
      · exact .inr h45
      · exact absurd ⟨h43, h45⟩ hno
  clear hno hnot
  obtain ⟨v, l2, g, hn⟩ : ∃ v l2 g, numR 2 0 23 r = (v, l2, g) := ⟨_, _, _, rfl⟩
  have hra := numR_range 2 0 23 (by decide) r
  rw [hn] at hra
  obtain ⟨v0, v1, hl2⟩ := hra
  obtain ⟨v', l3, g', hn2⟩ : ∃ v l g, numR 2 0 59 l2 = (v, l, g) := ⟨_, _, _, rfl⟩
  have hrb := numR_range 2 0 59 (by decide) l2
  rw [hn2] at hrb
  obtain ⟨w0, w1, hl3⟩ := hrb
  dsimp only at v0 v1 hl2 w0 w1 hl3
  have HM : Hid (zoneM r = if g && headD l2 then (60 * v + v', l3, g') else (60 * v, l2, g)) := by
    unfold zoneM; rw [hn]; dsimp only; rw [hn2]; exact Lib.hid rfl
  have HN1 := Lib.hid hn
  have HN2 := Lib.hid hn2
  have hl2' : l2.length ≤ 1073741824 := by omega
  have hrl' : r.length ≤ 1073741824 := by omega
  clear hn hn2 hl2 hl3 hrl
  -- the sign
  obtain ⟨sg, hsg⟩ : ∃ sg : Bool, decide (s[0] = 45) = sg := ⟨_, rfl⟩
  have hR2 : zoneC s[0] r = (if sg then -(zoneM r).1 else (zoneM r).1, (zoneM r).2.2 && decide ((zoneM r).2.1 = [])) := by
    rw [hR, ← hsg]; simp
  have HR := Lib.hid hR2
  have hd43 : ((s[0].toNat : Int) != 43) = sg ∧ ((s[0].toNat : Int) != 45) = !sg ∧ ((s[0].toNat : Int) == 45) = sg := by
    rcases hyes with q | q
    · rw [q] at hsg ⊢; rw [← hsg]; decide
    · rw [q] at hsg ⊢; rw [← hsg]; decide
  clear hR2 hR hsg hyes
  obtain ⟨d43, d45, e45⟩ := hd43
  cases sg
  all_goals
    go_enter Tryz.func261, Tryz.ntmps261
    go_wp2_with fail
    rw [HX.out]
    refine (number_to b r true 2 (by omega) 0 23 v l2 g HN1.out _ (HH.out.put _) hrl').mono ?_
    rintro e w1 ⟨rfl, hr1, hB1⟩
    replace hr1 : RdAt w1 b ⟨l2.toArray⟩ g := hr1
    have hB1 : Below b w w1 := (below_put (Below.refl _ _) _ _).trans hB1
    have HH1 := Lib.hid hr1
    obtain ⟨r0, r1, rf0, rf1⟩ := hr1
    clear h0 h1 f0 f1
    go_wp2_with fail
    refine (more_to b l2 g w1 HH1.out).mono ?_
    rintro e w2 ⟨rfl, rfl⟩
    cases hq : (g && headD l2)
    · have HM2 := HM.out
      rw [hq, if_neg (by decide)] at HM2
      have HM3 := Lib.hid HM2
      have HQ := Lib.hid hq
      clear HM2 hq
      rcases none_or l2 with rfl | ⟨z0, z1, z2, z3⟩
      · go_wp2
        go_ret
        exact ⟨by rw [HR.out, HM3.out]; rfl, ⟨_, by rw [HR.out, HM3.out]; first | exact HH1.out | (simp only [decide_true, Bool.and_true]; exact HH1.out)⟩, hB1⟩
      · have HZ := Lib.hid z0
        clear z0
        go_wp2
        go_ret
        exact ⟨by rw [HR.out, HM3.out]; rfl, ⟨_, by rw [HR.out, HM3.out]; simp only [decide_eq_false HZ.out, Bool.and_false]; exact HH1.out.bad false⟩, below_put hB1 _ _⟩
    · have HM2 := HM.out
      rw [hq, if_pos rfl] at HM2
      have HM3 := Lib.hid HM2
      have hg : g = true := by cases g <;> simp_all
      subst hg
      clear HM2 hq
      go_wp2_with fail
      refine (number_to b l2 true 2 (by omega) 0 59 v' l3 g' HN2.out _ HH1.out hl2').mono ?_
      rintro e w3 ⟨rfl, hr3, hB3⟩
      replace hr3 : RdAt w3 b ⟨l3.toArray⟩ g' := hr3
      have hB3 : Below b w w3 := hB1.trans hB3
      have HH3 := Lib.hid hr3
      obtain ⟨t0, t1, tf0, tf1⟩ := hr3
      clear r0 r1 rf0 rf1
      rcases none_or l3 with rfl | ⟨z0, z1, z2, z3⟩
      · go_wp2
        go_ret
        exact ⟨by rw [HR.out, HM3.out]; rfl, ⟨_, by rw [HR.out, HM3.out]; first | exact HH3.out | (simp only [decide_true, Bool.and_true]; exact HH3.out)⟩, hB3⟩
      · have HZ := Lib.hid z0
        clear z0
        go_wp2
        go_ret
        exact ⟨by rw [HR.out, HM3.out]; rfl, ⟨_, by rw [HR.out, HM3.out]; simp only [decide_eq_false HZ.out, Bool.and_false]; exact HH3.out.bad false⟩, below_put hB3 _ _⟩

end Go.Proofs.YthopanlkjdcgmaaGreatDoor.W

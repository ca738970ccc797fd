/- instant.normal: the walk. -/
import Derived.Deep.Cut
import Derived.Deep.DeepCutAuto
import Derived.Test.YthopanlkjdcgmaaGreatDoorTimeD
namespace Go.Proofs.YthopanlkjdcgmaaGreatDoor.W
open Go.RowKit Go.Proofs.YthopanlkjdcgmaaGreatDoor.Plain

def markB (c : UInt8) : Bool := c == 46 || c == 44
def headM : Bytes → Bool
  | [] => false
  | c :: _ => markB c
/-- minutes, seconds and fraction: their values, the rest, and whether all went well -/
structure Mid where
  mi : Int
  se : Int
  fr : Bytes
  rest : Bytes
  ok : Bool
def fracR (mi se : Int) (tl : Bytes) : Mid := ⟨mi, se, Lib.trimRightB (tl.take (digN tl)) 48, tl.drop (digN tl), decide (digN tl ≠ 0)⟩
def midC (mi : Int) (r : Int × Bytes × Bool) : Mid := if r.2.2 && headM r.2.1 then fracR mi r.1 (r.2.1.drop 1) else ⟨mi, r.1, [], r.2.1, r.2.2⟩
def midB (r : Int × Bytes × Bool) : Mid := if r.2.2 && headD r.2.1 then midC r.1 (numR 2 0 59 r.2.1) else ⟨r.1, 0, [], r.2.1, r.2.2⟩
def midR (ok : Bool) (l : Bytes) : Mid := if ok && headD l then midB (numR 2 0 59 l) else ⟨0, 0, [], l, ok⟩

theorem rd_new (w : World) (o : Obj) (s : ByteArray) (T : TypeId) : RdAt ((w.alloc o).alloc (.cells #[.string s, .bool true] T)) (w.heap.size + 1) s true :=
  have hz : w.heap.size + 1 = (w.alloc o).heap.size := by simp
  ⟨by rw [World.cell?_alloc_at _ _ _ _ hz]; rfl, by rw [World.cell?_alloc_at _ _ _ _ hz]; rfl, by rw [World.frozen?_alloc_at _ _ _ _ hz], by rw [World.frozen?_alloc_at _ _ _ _ hz]⟩
theorem below_new (w : World) (o p : Obj) : Below w.heap.size w ((w.alloc o).alloc p) := ((Below.refl _ _).alloc (Nat.le_refl _) o).alloc (by simp) p
theorem trip (r : Int × Bytes × Bool) : ∃ v l g, r = (v, l, g) := ⟨r.1, r.2.1, r.2.2, rfl⟩

theorem ret_some {x : ByteArray} {l : Bytes} (h : x.data.toList = l) : Ending.returned (.tuple #[.string x, .bool true]) = .returned (normV (some l)) := by rw [mk_of h]; rfl
theorem and_left {a b : Bool} (h : (a && b) = true) : a = true := by cases a <;> simp_all
theorem mark_no {c : UInt8} {t : Bytes} (h : markB c = false) :
    ((((⟨(c :: t).toArray⟩ : ByteArray)[0]'(by rw [mk_size]; simp)).toNat : Int) == 46) = false ∧ ((((⟨(c :: t).toArray⟩ : ByteArray)[0]'(by rw [mk_size]; simp)).toNat : Int) == 44) = false ∧
    ¬ (((⟨(c :: t).toArray⟩ : ByteArray)[0]'(by rw [mk_size]; simp)).toNat : Int) = 46 ∧ ¬ (((⟨(c :: t).toArray⟩ : ByteArray)[0]'(by rw [mk_size]; simp)).toNat : Int) = 44 := by
  show ((c.toNat : Int) == 46) = false ∧ ((c.toNat : Int) == 44) = false ∧ ¬ (c.toNat : Int) = 46 ∧ ¬ (c.toNat : Int) = 44
  unfold markB at h; simp only [Bool.or_eq_false_iff, beq_eq_false_iff_ne, ne_eq, u8_eq] at h ⊢; exact ⟨h.1, h.2, h⟩
theorem mark_yes {c : UInt8} {t : Bytes} (h : markB c = true) :
    (((((⟨(c :: t).toArray⟩ : ByteArray)[0]'(by rw [mk_size]; simp)).toNat : Int) == 46) = true ∧ (((⟨(c :: t).toArray⟩ : ByteArray)[0]'(by rw [mk_size]; simp)).toNat : Int) = 46) ∨
    (((((⟨(c :: t).toArray⟩ : ByteArray)[0]'(by rw [mk_size]; simp)).toNat : Int) == 46) = false ∧ ¬ (((⟨(c :: t).toArray⟩ : ByteArray)[0]'(by rw [mk_size]; simp)).toNat : Int) = 46 ∧
      ((((⟨(c :: t).toArray⟩ : ByteArray)[0]'(by rw [mk_size]; simp)).toNat : Int) == 44) = true ∧ (((⟨(c :: t).toArray⟩ : ByteArray)[0]'(by rw [mk_size]; simp)).toNat : Int) = 44) := by
  show (((c.toNat : Int) == 46) = true ∧ (c.toNat : Int) = 46) ∨ (((c.toNat : Int) == 46) = false ∧ ¬ (c.toNat : Int) = 46 ∧ ((c.toNat : Int) == 44) = true ∧ (c.toNat : Int) = 44)
  unfold markB at h; simp only [Bool.or_eq_true, beq_iff_eq, u8_eq] at h
  by_cases h1 : (c.toNat : Int) = 46
  · exact .inl ⟨by simpa using h1, h1⟩
  · rcases h with h | h
    · exact absurd h h1
    · exact .inr ⟨by simpa using h1, h1, by simpa using h, h⟩
theorem row_to (b : Nat) (l : Bytes) (ok : Bool) (w : World) (h : RdAt w b ⟨l.toArray⟩ ok) (hs : l.length ≤ 1073741824) :
    Calls Tryz.prog 260 #[.pointer (some ⟨b, 0, none⟩)] w fun e w' => e = .returned (.string ⟨(l.take (digN l)).toArray⟩) ∧ RdAt w' b ⟨(l.drop (digN l)).toArray⟩ (ok && decide (digN l ≠ 0)) ∧ Below b w w' := by
  refine (row_calls b ⟨l.toArray⟩ ok w h (by rw [mk_size]; exact hs)).mono ?_
  rintro e w' ⟨h0, h1, h2⟩
  exact ⟨h0, h1, h2⟩
theorem ext_cons (c : UInt8) (t : Bytes) : (⟨(c :: t).toArray⟩ : ByteArray).extract 1 (t.length + 1) = ⟨t.toArray⟩ := by
  have h := ext_tail ⟨(c :: t).toArray⟩ 1
  rw [mk_size, mk_data] at h
  exact h

/-- a minute of a day -/
structure Clock where
  y : Int
  m : Int
  d : Int
  mn : Int
def back (c : Clock) : Clock :=
  if c.mn < 0 then (if c.d - 1 = 0 then (if c.m - 1 = 0 then ⟨c.y - 1, 12, daysI (c.y - 1) 12, c.mn + 1440⟩ else ⟨c.y, c.m - 1, daysI c.y (c.m - 1), c.mn + 1440⟩) else ⟨c.y, c.m, c.d - 1, c.mn + 1440⟩) else c
def forth (c : Clock) : Clock :=
  if 1440 ≤ c.mn then (if daysI c.y c.m < c.d + 1 then (if c.m + 1 = 13 then ⟨c.y + 1, 1, 1, c.mn - 1440⟩ else ⟨c.y, c.m + 1, 1, c.mn - 1440⟩) else ⟨c.y, c.m, c.d + 1, c.mn - 1440⟩) else c
structure Clock.Good (c : Clock) : Prop where
  y0 : -1 ≤ c.y
  y1 : c.y ≤ 10000
  m0 : 1 ≤ c.m
  m1 : c.m ≤ 12
  d0 : 1 ≤ c.d
  d1 : c.d ≤ 31
def clockText (it : Int → Bytes) (c : Clock) (se : Int) (fr : Bytes) : Bytes :=
  padL it c.y 4 ++ padL it c.m 2 ++ padL it c.d 2 ++ padL it (c.mn / 60) 2 ++ padL it (c.mn % 60) 2 ++ padL it se 2 ++ (if fr = [] then [] else 46 :: fr)
def endT (it : Int → Bytes) (c : Clock) (se : Int) (fr : Bytes) : Option Bytes := if c.y < 0 ∨ 9999 < c.y then none else some (clockText it c se fr)
def zoneT (it : Int → Bytes) (y m d h : Int) (M : Mid) : Option Bytes :=
  if M.ok = false then none else if (zoneR M.rest).2 = false then none else endT it (forth (back ⟨y, m, d, 60 * h + M.mi - (zoneR M.rest).1⟩)) M.se M.fr
/-- a time's normal form -/
def timeN (it : Int → Bytes) (l : Bytes) : Option Bytes :=
  let r1 := numR 4 0 9999 l
  let r2 := numR 2 1 12 r1.2.1
  let r3 := numR 2 1 (daysI r1.1 r2.1) r2.2.1
  let r4 := numR 2 0 23 r3.2.1
  zoneT it r1.1 r2.1 r3.1 r4.1 (midR (true && r1.2.2 && r2.2.2 && r3.2.2 && r4.2.2) r4.2.1)

theorem trimR_length (c : UInt8) (l : Bytes) : (Lib.trimRightB l c).length ≤ l.length := by
  unfold Lib.trimRightB
  have := (List.dropWhile_sublist (fun x => x == c) (l := l.reverse)).length_le
  rw [List.length_reverse] at this ⊢
  exact this
theorem back_id (y m d n : Int) (h : 0 ≤ n) : back ⟨y, m, d, n⟩ = ⟨y, m, d, n⟩ := by unfold back; rw [if_neg (by dsimp only; omega)]
theorem forth_id (y m d n : Int) (h : n < 1440) : forth ⟨y, m, d, n⟩ = ⟨y, m, d, n⟩ := by unfold forth; rw [if_neg (by dsimp only; omega)]
structure Mid.Good (M : Mid) (n : Nat) : Prop where
  mi0 : 0 ≤ M.mi
  mi1 : M.mi ≤ 59
  se0 : 0 ≤ M.se
  se1 : M.se ≤ 59
  fr : M.fr.length ≤ n
  rest : M.rest.length ≤ n
theorem fracR_good (mi se : Int) (tl : Bytes) (n : Nat) (h0 : 0 ≤ mi) (h1 : mi ≤ 59) (h2 : 0 ≤ se) (h3 : se ≤ 59) (h : tl.length ≤ n) : (fracR mi se tl).Good n :=
  ⟨h0, h1, h2, h3, by unfold fracR; have := trimR_length 48 (tl.take (digN tl)); dsimp only; rw [List.length_take] at this; omega, by unfold fracR; dsimp only; rw [List.length_drop]; omega⟩
theorem midR_good (ok : Bool) (l : Bytes) : (midR ok l).Good l.length := by
  unfold midR; split
  · obtain ⟨v, l5, g5, h5⟩ := trip (numR 2 0 59 l)
    have r5 := numR_range 2 0 59 (by decide) l
    rw [h5] at r5 ⊢
    dsimp only at r5
    unfold midB; split
    · obtain ⟨v6, l6, g6, h6⟩ := trip (numR 2 0 59 l5)
      have r6 := numR_range 2 0 59 (by decide) l5
      dsimp only
      rw [h6] at r6 ⊢
      dsimp only at r6
      unfold midC; split
      · exact fracR_good _ _ _ _ r5.1 r5.2.1 r6.1 r6.2.1 (by dsimp only; rw [List.length_drop]; omega)
      · exact ⟨r5.1, r5.2.1, r6.1, r6.2.1, by simp, by dsimp only; omega⟩
    · exact ⟨r5.1, r5.2.1, by dsimp only; omega, by dsimp only; omega, by simp, r5.2.2⟩
  · exact ⟨by dsimp only; omega, by dsimp only; omega, by dsimp only; omega, by dsimp only; omega, by simp, Nat.le_refl _⟩
theorem zoneM_range (r : Bytes) : 0 ≤ (zoneM r).1 ∧ (zoneM r).1 ≤ 1439 := by
  have r5 := numR_range 2 0 23 (by decide) r
  have r6 := numR_range 2 0 59 (by decide) (numR 2 0 23 r).2.1
  unfold zoneM; split
  · dsimp only; omega
  · dsimp only; omega
theorem zoneR_range (l : Bytes) : -1439 ≤ (zoneR l).1 ∧ (zoneR l).1 ≤ 1439 := by
  unfold zoneR; split
  · decide
  · rename_i c r
    have := zoneM_range r
    unfold zoneC; split
    · decide
    · split
      · decide
      · dsimp only; split <;> omega

set_option maxRecDepth 100000 in
set_option maxHeartbeats 2000000 in
theorem time_calls {it : Int → Bytes} {G : World → Prop} (H : Has it G) (s : ByteArray) (w : World) (hs : s.size ≤ 1073741824) (hg : G w) :
    Calls Tryz.prog 255 #[.agg #[], .string s] w (NormPost (timeN it s.data.toList) w) := by
  obtain ⟨l, hl⟩ : ∃ l, s.data.toList = l := ⟨_, rfl⟩
  obtain rfl := mk_of hl
  clear hl
  rw [mk_data]
  rw [mk_size] at hs
  obtain ⟨y, l1, g1, hn1⟩ := trip (numR 4 0 9999 l)
  have hr1 := numR_range 4 0 9999 (by decide) l
  rw [hn1] at hr1
  obtain ⟨y0, y1, hl1⟩ := hr1
  obtain ⟨m, l2, g2, hn2⟩ := trip (numR 2 1 12 l1)
  have hr2 := numR_range 2 1 12 (by decide) l1
  rw [hn2] at hr2
  obtain ⟨m0, m1, hl2⟩ := hr2
  have hdr := daysI_range y m
  obtain ⟨d, l3, g3, hn3⟩ := trip (numR 2 1 (daysI y m) l2)
  have hr3 := numR_range 2 1 (daysI y m) (by omega) l2
  rw [hn3] at hr3
  obtain ⟨d0, d1, hl3⟩ := hr3
  obtain ⟨h, l4, g4, hn4⟩ := trip (numR 2 0 23 l3)
  have hr4 := numR_range 2 0 23 (by decide) l3
  rw [hn4] at hr4
  obtain ⟨h0, h1, hl4⟩ := hr4
  dsimp only at y0 y1 hl1 m0 m1 hl2 d0 d1 hl3 h0 h1 hl4
  have d2 : d ≤ 31 := by omega
  have k1 : l1.length ≤ 1073741824 := by omega
  have k2 : l2.length ≤ 1073741824 := by omega
  have k3 : l3.length ≤ 1073741824 := by omega
  have k4 : l4.length ≤ 1073741824 := by omega
  have HN1 := Lib.hid hn1
  have HN2 := Lib.hid hn2
  have HN3 := Lib.hid hn3
  have HN4 := Lib.hid hn4
  clear hn1 hn2 hn3 hn4 hl1 hl2 hl3 hl4 hdr d1
  go_enter Tryz.func255, Tryz.ntmps255
  go_wp2_with fail
  have hR0 := rd_new w (Obj.cells #[] 275) ⟨l.toArray⟩ 282
  have hB0 := below_new w (Obj.cells #[] 275) (Obj.cells #[Value.string { data := l.toArray }, Value.bool true] 282)
  obtain ⟨b, hb⟩ : ∃ b, w.heap.size + 1 = b := ⟨_, rfl⟩
  have hwb : w.heap.size ≤ b := by omega
  rw [hb] at hR0 ⊢
  clear hb
  refine (number_to b l true 4 (by omega) 0 9999 y l1 g1 HN1.out _ hR0 hs).mono ?_
  rintro e w1 ⟨rfl, hR1, hB1⟩
  replace hB1 := hB0.trans (hB1.mono hwb)
  clear hR0 hB0
  go_wp2_with fail
  refine (number_to b l1 _ 2 (by omega) 1 12 m l2 g2 HN2.out _ hR1 k1).mono ?_
  rintro e w2 ⟨rfl, hR2, hB2⟩
  replace hB2 := hB1.trans (hB2.mono hwb)
  clear hR1 hB1
  go_wp2_with fail
  refine (days_calls y m (fun _ => y0) _).mono ?_
  rintro e w3 ⟨rfl, rfl⟩
  go_wp2_with fail
  refine (number_to b l2 _ 2 (by omega) 1 (daysI y m) d l3 g3 HN3.out _ hR2 k2).mono ?_
  rintro e w3 ⟨rfl, hR3, hB3⟩
  replace hB3 := hB2.trans (hB3.mono hwb)
  clear hR2 hB2
  go_wp2_with fail
  refine (number_to b l3 _ 2 (by omega) 0 23 h l4 g4 HN4.out _ hR3 k3).mono ?_
  rintro e w4 ⟨rfl, hR4, hB4⟩
  replace hB4 := hB3.trans (hB4.mono hwb)
  clear hR3 hB3
  obtain ⟨ok, hok⟩ : ∃ ok, (true && g1 && g2 && g3 && g4) = ok := ⟨_, rfl⟩
  rw [hok] at hR4
  have HOK := Lib.hid hok
  clear hok
  go_wp2_with fail
  refine (more_to b l4 ok _ hR4).mono ?_
  rintro e w5 ⟨rfl, rfl⟩
  obtain ⟨q, hq⟩ : ∃ q, (ok && headD l4) = q := ⟨_, rfl⟩
  have HQ := Lib.hid hq
  clear hq
  rw [HQ.out]
  go_upto_if 31 with (fail)
  go_cut [11, 12, 13] (fun mi se fr wc => mi = .int .i64 (midR ok l4).mi ∧ se = .int .i64 (midR ok l4).se ∧ fr = .string ⟨(midR ok l4).fr.toArray⟩ ∧ RdAt wc b ⟨(midR ok l4).rest.toArray⟩ (midR ok l4).ok ∧ Below w.heap.size w wc)
  case first =>
    cases q
    · have HM : Hid (midR ok l4 = ⟨0, 0, [], l4, ok⟩) := by unfold midR; rw [HQ.out, if_neg (by decide)]; exact Lib.hid rfl
      go_wp2_with fail
      go_meet
      case rel =>
        rw [HM.out]
        exact ⟨rfl, rfl, rfl, hR4, hB4⟩
    · have hok : ok = true := and_left HQ.out
      subst hok
      obtain ⟨mi, l5, g5, hn5⟩ := trip (numR 2 0 59 l4)
      have HM : Hid (midR true l4 = midB (mi, l5, g5)) := by unfold midR; rw [HQ.out, if_pos rfl, hn5]; exact Lib.hid rfl
      have HN5 := Lib.hid hn5
      have hr5 := numR_range 2 0 59 (by decide) l4
      rw [hn5] at hr5
      obtain ⟨-, -, hl5⟩ := hr5
      dsimp only at hl5
      have k5 : l5.length ≤ 1073741824 := by omega
      clear hn5 hl5
      go_wp2_with fail
      refine (number_to b l4 true 2 (by omega) 0 59 mi l5 g5 HN5.out _ hR4 k4).mono ?_
      rintro e w6 ⟨rfl, hR6, hB6⟩
      replace hB6 := hB4.trans (hB6.mono hwb)
      replace hR6 : RdAt w6 b ⟨l5.toArray⟩ g5 := hR6
      clear hR4 hB4
      go_wp2_with fail
      refine (more_to b l5 g5 _ hR6).mono ?_
      rintro e w7 ⟨rfl, rfl⟩
      obtain ⟨q2, hq2⟩ : ∃ q, (g5 && headD l5) = q := ⟨_, rfl⟩
      have HQ2 := Lib.hid hq2
      clear hq2
      rw [HQ2.out]
      cases q2
      · have HM2 : Hid (midB (mi, l5, g5) = ⟨mi, 0, [], l5, g5⟩) := by unfold midB; dsimp only; rw [HQ2.out, if_neg (by decide)]; exact Lib.hid rfl
        go_wp2_with fail
        go_meet
        case rel =>
          rw [HM.out, HM2.out]
          exact ⟨rfl, rfl, rfl, hR6, hB6⟩
      · have hok : g5 = true := and_left HQ2.out
        subst hok
        obtain ⟨se, l6, g6, hn6⟩ := trip (numR 2 0 59 l5)
        have HM2 : Hid (midB (mi, l5, true) = midC mi (se, l6, g6)) := by unfold midB; dsimp only; rw [HQ2.out, if_pos rfl, hn6]; exact Lib.hid rfl
        have HN6 := Lib.hid hn6
        have hr6 := numR_range 2 0 59 (by decide) l5
        rw [hn6] at hr6
        obtain ⟨-, -, hl6⟩ := hr6
        dsimp only at hl6
        have k6 : l6.length ≤ 1073741824 := by omega
        clear hn6 hl6
        go_wp2_with fail
        refine (number_to b l5 true 2 (by omega) 0 59 se l6 g6 HN6.out _ hR6 k5).mono ?_
        rintro e w8 ⟨rfl, hR8, hB8⟩
        replace hB8 := hB6.trans (hB8.mono hwb)
        replace hR8 : RdAt w8 b ⟨l6.toArray⟩ g6 := hR8
        clear hR6 hB6
        have HR8 := Lib.hid hR8
        obtain ⟨c0, c1, f0, f1⟩ := hR8
        obtain ⟨q3, hq3⟩ : ∃ q, (g6 && headM l6) = q := ⟨_, rfl⟩
        cases q3
        · have HM3 : Hid (midC mi (se, l6, g6) = ⟨mi, se, [], l6, g6⟩) := by unfold midC; dsimp only; rw [hq3, if_neg (by decide)]; exact Lib.hid rfl
          cases g6
          · clear hq3
            go_wp2_with fail
            go_meet
            case rel =>
              rw [HM.out, HM2.out, HM3.out]
              exact ⟨rfl, rfl, rfl, HR8.out, hB8⟩
          · cases l6 with
            | nil =>
              clear hq3
              go_wp2_with fail
              go_meet
              case rel =>
                rw [HM.out, HM2.out, HM3.out]
                exact ⟨rfl, rfl, rfl, HR8.out, hB8⟩
            | cons c t =>
              obtain ⟨e1, e2, e3, e4⟩ := mark_no (t := t) (by simpa [headM] using hq3 : markB c = false)
              clear hq3
              go_wp2_with fail
              go_meet
              case rel =>
                rw [HM.out, HM2.out, HM3.out]
                exact ⟨rfl, rfl, rfl, HR8.out, hB8⟩
        · obtain rfl : g6 = true := and_left hq3
          cases l6 with
          | nil => cases hq3
          | cons c t =>
            have HM3 : Hid (midC mi (se, c :: t, true) = fracR mi se t) := by unfold midC; dsimp only; rw [hq3, if_pos rfl]; exact Lib.hid rfl
            have hm := mark_yes (t := t) (by simpa [headM] using hq3 : markB c = true)
            have HX := Lib.hid (ext_cons c t)
            have kt : t.length ≤ 1073741824 := by rw [List.length_cons] at k6; omega
            have htr : (t.take (digN t)).length ≤ 1073741824 := by rw [List.length_take]; omega
            clear hq3
            rcases hm with ⟨e1, e2⟩ | ⟨e1, e2, e3, e4⟩
            all_goals
              go_wp2_with fail
              rw [HX.out]
              refine (row_to b t true _ (HR8.out.put _) kt).mono ?_
              rintro e w9 ⟨rfl, hR9, hB9⟩
              replace hB9 := hB8.trans (((below_put (Below.refl _ _) _ _).trans hB9).mono hwb)
              replace hR9 : RdAt w9 b ⟨(t.drop (digN t)).toArray⟩ (decide (digN t ≠ 0)) := hR9
              go_wp2_with fail
              refine (Tryz.strings_TrimRight_one ⟨(t.take (digN t)).toArray⟩ 48 (by decide) w9 (by rw [mk_size]; omega)).mono ?_
              rintro e w10 ⟨rfl, rfl⟩
              go_wp2_with fail
              go_meet
              case rel =>
                rw [HM.out, HM2.out, HM3.out]
                exact ⟨rfl, rfl, rfl, hR9, hB9⟩
  case rest =>
    obtain ⟨rfl, rfl, rfl, hRC, hBC⟩ := hcut
    clear hR4 hB4
    have hgood := midR_good ok l4
    obtain ⟨M, hM⟩ : ∃ M, midR ok l4 = M := ⟨_, rfl⟩
    rw [hM] at hRC hgood ⊢
    have HM := Lib.hid hM
    clear hM
    obtain ⟨mi, se, fr, rest, okM⟩ := M
    obtain ⟨i0, i1, s0, s1, hfr, hrest⟩ := hgood
    dsimp only at i0 i1 s0 s1 hfr hrest hRC ⊢
    have hT : timeN it l = zoneT it y m d h ⟨mi, se, fr, rest, okM⟩ := by
      unfold timeN; simp only [HN1.out, HN2.out, HN3.out, HN4.out]; rw [HOK.out, HM.out]
    have HT := Lib.hid hT
    clear hT
    have kr : rest.length ≤ 1073741824 := by omega
    have kf : fr.length ≤ 1073741824 := by omega
    clear hfr hrest
    have HRC := Lib.hid hRC
    obtain ⟨c0, c1, f0, f1⟩ := hRC
    cases okM
    · have HZ : Hid (timeN it l = none) := by rw [HT.out]; exact Lib.hid rfl
      go_wp2
      go_ret2
      exact ⟨by rw [HZ.out]; rfl, hBC⟩
    · obtain ⟨z, zo, hz⟩ : ∃ z zo, zoneR rest = (z, zo) := ⟨_, _, rfl⟩
      have hzr := zoneR_range rest
      rw [hz] at hzr
      obtain ⟨z0, z1⟩ := hzr
      dsimp only at z0 z1
      have hT2 : timeN it l = if zo = false then none else endT it (forth (back ⟨y, m, d, 60 * h + mi - z⟩)) se fr := by
        rw [HT.out]; unfold zoneT; rw [hz]; simp
      have HT2 := Lib.hid hT2
      have HZ := Lib.hid hz
      clear hT2 hz HT
      go_wp2_with fail
      refine (zone_calls b ⟨rest.toArray⟩ _ HRC.out (by rw [mk_size]; exact kr)).mono ?_
      rw [mk_data, HZ.out]
      rintro e w11 ⟨rfl, ⟨sz, hRZ⟩, hBZ⟩
      replace hBZ := hBC.trans (hBZ.mono hwb)
      dsimp only at hRZ ⊢
      clear c0 c1 f0 f1
      obtain ⟨c0, c1, f0, f1⟩ := hRZ
      cases zo
      · have HZ : Hid (timeN it l = none) := by rw [HT2.out]; exact Lib.hid rfl
        go_wp2
        go_ret2
        exact ⟨by rw [HZ.out]; rfl, hBZ⟩
      · have hT3 : timeN it l = endT it (forth (back ⟨y, m, d, 60 * h + mi - z⟩)) se fr := by rw [HT2.out]; simp
        obtain ⟨m0', hm0⟩ : ∃ m0', 60 * h + mi - z = m0' := ⟨_, rfl⟩
        rw [hm0] at hT3
        have HT3 := Lib.hid hT3
        have q0 : -1439 ≤ m0' := by omega
        have q1 : m0' ≤ 2878 := by omega
        have HM0 := Lib.hid hm0
        clear hT3 HT2 hm0
        go_wp2_with fail
        obtain ⟨B, hB⟩ : ∃ B, back ⟨y, m, d, m0'⟩ = B := ⟨_, rfl⟩
        have HB := Lib.hid hB
        have HB0 := Lib.hid hB
        clear hB
        go_loop [7, 8, 9, 14] (fun vy vm vd vn => ∃ y m d n : Int, vy = .int .i64 y ∧ vm = .int .i64 m ∧ vd = .int .i64 d ∧ vn = .int .i64 n ∧ Hid (back ⟨y, m, d, n⟩ = B) ∧ -1 ≤ y ∧ y ≤ 9999 ∧ 1 ≤ m ∧ m ≤ 12 ∧ 1 ≤ d ∧ d ≤ 31 ∧ -1439 ≤ n ∧ n ≤ 2878 ∧ (n < 1440 ∨ 0 ≤ y) ∧ (0 ≤ n ∨ 0 ≤ y)) (fun _ _ _ vn => (1440 - intOf vn).toNat)
        case atStart => exact ⟨y, m, d, m0', rfl, rfl, rfl, by rw [HM0.out], HB, by omega, by omega, by omega, by omega, by omega, by omega, by omega, by omega, .inr (by omega), .inr (by omega)⟩
        case round =>
          obtain ⟨y, m, d, n, rfl, rfl, rfl, rfl, HB, ry0, ry1, rm0, rm1, rd0, rd1, rn0, rn1, ryn, ryz⟩ := hrel
          by_cases hn : n < 0
          · have ry : 0 ≤ y := by omega
            by_cases hd : d = 1
            · subst hd
              by_cases hm : m = 1
              · subst hm
                have HB2 : Hid (back ⟨y - 1, 12, 31, n + 1440⟩ = B) := by
                  rw [back_id _ _ _ _ (by omega), ← HB.out]; unfold back; dsimp only; rw [if_pos hn, if_pos (by omega), if_pos (by omega)]; exact Lib.hid rfl
                go_wp2_with fail
                refine (days_calls (y - 1) 12 (fun h => absurd h (by decide)) _).mono ?_
                rintro e w12 ⟨rfl, rfl⟩
                go_wp2_with fail
                go_round
                case rel => exact ⟨y - 1, 12, 31, n + 1440, rfl, rfl, rfl, by go_num, HB2, by omega, by omega, by omega, by omega, by omega, by omega, by omega, by omega, .inl (by omega), .inl (by omega)⟩
                case measure => simp [intOf]; omega
              · have HB2 : Hid (back ⟨y, m - 1, daysI y (m - 1), n + 1440⟩ = B) := by
                  rw [back_id _ _ _ _ (by omega), ← HB.out]; unfold back; dsimp only; rw [if_pos hn, if_pos (by omega), if_neg (by omega)]; exact Lib.hid rfl
                have hm2 : (m - 1 == 0) = false := by rw [beq_eq_false_iff_ne]; omega
                have hdr := daysI_range y (m - 1)
                go_wp2_with fail
                refine (days_calls y (m - 1) (fun _ => ry) _).mono ?_
                rintro e w12 ⟨rfl, rfl⟩
                go_wp2_with fail
                go_round
                case rel => exact ⟨y, m - 1, daysI y (m - 1), n + 1440, rfl, by go_num, rfl, by go_num, HB2, by omega, by omega, by omega, by omega, by omega, by omega, by omega, by omega, .inl (by omega), .inl (by omega)⟩
                case measure => simp [intOf]; omega
            · have HB2 : Hid (back ⟨y, m, d - 1, n + 1440⟩ = B) := by
                rw [back_id _ _ _ _ (by omega), ← HB.out]; unfold back; dsimp only; rw [if_pos hn, if_neg (by omega)]; exact Lib.hid rfl
              have hd2 : (d - 1 == 0) = false := by rw [beq_eq_false_iff_ne]; omega
              go_wp2_with fail
              go_round
              case rel => exact ⟨y, m, d - 1, n + 1440, rfl, rfl, by go_num, by go_num, HB2, by omega, by omega, by omega, by omega, by omega, by omega, by omega, by omega, .inl (by omega), .inl (by omega)⟩
              case measure => simp [intOf]; omega
          · have HT4 : Hid (timeN it l = endT it (forth ⟨y, m, d, n⟩) se fr) := by rw [HT3.out, HB0.out, ← HB.out, back_id _ _ _ _ (by omega)]; exact Lib.hid rfl
            clear HT3 HB HB0
            obtain ⟨E, hE⟩ : ∃ E, forth ⟨y, m, d, n⟩ = E := ⟨_, rfl⟩
            have HE := Lib.hid hE
            have HE0 := Lib.hid hE
            clear hE
            go_wp2_with fail
            go_loop [7, 8, 9, 14] (fun vy vm vd vn => ∃ y m d n : Int, vy = .int .i64 y ∧ vm = .int .i64 m ∧ vd = .int .i64 d ∧ vn = .int .i64 n ∧ Hid (forth ⟨y, m, d, n⟩ = E) ∧ -1 ≤ y ∧ y ≤ 10000 ∧ 1 ≤ m ∧ m ≤ 12 ∧ 1 ≤ d ∧ d ≤ 31 ∧ 0 ≤ n ∧ n ≤ 2878 ∧ (n < 1440 ∨ (0 ≤ y ∧ y ≤ 9999))) (fun _ _ _ vn => (intOf vn).toNat)
            case atStart => exact ⟨y, m, d, n, rfl, rfl, rfl, rfl, HE, by omega, by omega, by omega, by omega, by omega, by omega, by omega, by omega, by omega⟩
            case round =>
              obtain ⟨y, m, d, n, rfl, rfl, rfl, rfl, HE, ry0, ry1, rm0, rm1, rd0, rd1, rn0, rn1, ryn⟩ := hrel
              by_cases hn : 1440 ≤ n
              · have ry : 0 ≤ y := by omega
                have ry9 : y ≤ 9999 := by omega
                obtain ⟨D, hD⟩ : ∃ D, daysI y m = D := ⟨_, rfl⟩
                have HD := Lib.hid hD
                clear hD
                by_cases hd : D < d + 1
                · by_cases hm : m = 12
                  · subst hm
                    have HE2 : Hid (forth ⟨y + 1, 1, 1, n - 1440⟩ = E) := by
                      rw [forth_id _ _ _ _ (by omega), ← HE.out]; unfold forth; dsimp only; rw [HD.out, if_pos hn, if_pos hd, if_pos (by omega)]; exact Lib.hid rfl
                    go_wp2_with fail
                    refine (days_calls y 12 (fun _ => ry) _).mono ?_
                    rintro e w12 ⟨rfl, rfl⟩
                    rw [HD.out]
                    go_wp2_with fail
                    go_round
                    case rel => exact ⟨y + 1, 1, 1, n - 1440, by go_num, rfl, rfl, by go_num, HE2, by omega, by omega, by omega, by omega, by omega, by omega, by omega, by omega, .inl (by omega)⟩
                    case measure => simp [intOf]; omega
                  · have HE2 : Hid (forth ⟨y, m + 1, 1, n - 1440⟩ = E) := by
                      rw [forth_id _ _ _ _ (by omega), ← HE.out]; unfold forth; dsimp only; rw [HD.out, if_pos hn, if_pos hd, if_neg (by omega)]; exact Lib.hid rfl
                    have hm2 : (m + 1 == 13) = false := by rw [beq_eq_false_iff_ne]; omega
                    go_wp2_with fail
                    refine (days_calls y m (fun _ => ry) _).mono ?_
                    rintro e w12 ⟨rfl, rfl⟩
                    rw [HD.out]
                    go_wp2_with fail
                    go_round
                    case rel => exact ⟨y, m + 1, 1, n - 1440, rfl, by go_num, rfl, by go_num, HE2, by omega, by omega, by omega, by omega, by omega, by omega, by omega, by omega, .inl (by omega)⟩
                    case measure => simp [intOf]; omega
                · have hdr := daysI_range y m
                  rw [HD.out] at hdr
                  have HE2 : Hid (forth ⟨y, m, d + 1, n - 1440⟩ = E) := by
                    rw [forth_id _ _ _ _ (by omega), ← HE.out]; unfold forth; dsimp only; rw [HD.out, if_pos hn, if_neg hd]; exact Lib.hid rfl
                  go_wp2_with fail
                  refine (days_calls y m (fun _ => ry) _).mono ?_
                  rintro e w12 ⟨rfl, rfl⟩
                  rw [HD.out]
                  go_wp2_with fail
                  go_round
                  case rel => exact ⟨y, m, d + 1, n - 1440, rfl, rfl, by go_num, by go_num, HE2, by omega, by omega, by omega, by omega, by omega, by omega, by omega, by omega, .inl (by omega)⟩
                  case measure => simp [intOf]; omega
              · have HT5 : Hid (timeN it l = endT it ⟨y, m, d, n⟩ se fr) := by rw [HT4.out, HE0.out, ← HE.out, forth_id _ _ _ _ (by omega)]; exact Lib.hid rfl
                clear HT4 HE HE0
                have e60 : n.tdiv 60 = n / 60 := Int.tdiv_eq_ediv_of_nonneg rn0
                have t60 : n.tmod 60 = n % 60 := Int.tmod_eq_emod_of_nonneg rn0
                by_cases hy : y < 0
                · have HZ : Hid (timeN it l = none) := by rw [HT5.out]; unfold endT; rw [if_pos (.inl hy)]; exact Lib.hid rfl
                  go_wp2
                  go_ret2
                  exact ⟨by rw [HZ.out]; rfl, hBZ⟩
                · by_cases hy2 : 9999 < y
                  · have HZ : Hid (timeN it l = none) := by rw [HT5.out]; unfold endT; rw [if_pos (.inr hy2)]; exact Lib.hid rfl
                    go_wp2
                    go_ret2
                    exact ⟨by rw [HZ.out]; rfl, hBZ⟩
                  · have HZ : Hid (timeN it l = some (clockText it ⟨y, m, d, n⟩ se fr)) := by rw [HT5.out]; unfold endT; rw [if_neg (by dsimp only; omega)]; exact Lib.hid rfl
                    go_wp2_with fail
                    have L : ∀ (x : Int) (k : Nat), k ≤ 4 → 0 ≤ x → x ≤ 9999 → (padL it x k).length ≤ 1004 := fun x k hk hx0 hx1 => by rw [padL_length]; have := H.len x hx0 hx1; omega
                    obtain ⟨p1, hp1⟩ : ∃ p, padL it y 4 = p := ⟨_, rfl⟩
                    obtain ⟨p2, hp2⟩ : ∃ p, padL it m 2 = p := ⟨_, rfl⟩
                    obtain ⟨p3, hp3⟩ : ∃ p, padL it d 2 = p := ⟨_, rfl⟩
                    obtain ⟨p4, hp4⟩ : ∃ p, padL it (n / 60) 2 = p := ⟨_, rfl⟩
                    obtain ⟨p5, hp5⟩ : ∃ p, padL it (n % 60) 2 = p := ⟨_, rfl⟩
                    obtain ⟨p6, hp6⟩ : ∃ p, padL it se 2 = p := ⟨_, rfl⟩
                    have q1 := L y 4 (by omega) (by omega) (by omega)
                    have q2 := L m 2 (by omega) (by omega) (by omega)
                    have q3 := L d 2 (by omega) (by omega) (by omega)
                    have q4 := L (n / 60) 2 (by omega) (by omega) (by omega)
                    have q5 := L (n % 60) 2 (by omega) (by omega) (by omega)
                    have q6 := L se 2 (by omega) (by omega) (by omega)
                    rw [hp1] at q1
                    rw [hp2] at q2
                    rw [hp3] at q3
                    rw [hp4] at q4
                    rw [hp5] at q5
                    rw [hp6] at q6
                    have a1 : ¬ 9223372036854775807 < p1.length + p2.length := by omega
                    have a2 : ¬ 9223372036854775807 < p1.length + p2.length + p3.length := by omega
                    have a3 : ¬ 9223372036854775807 < p1.length + p2.length + p3.length + p4.length := by omega
                    have a4 : ¬ 9223372036854775807 < p1.length + p2.length + p3.length + p4.length + p5.length := by omega
                    have a5 : ¬ 9223372036854775807 < p1.length + p2.length + p3.length + p4.length + p5.length + p6.length := by omega
                    have a6 : ¬ 9223372036854775807 < 1 + fr.length := by omega
                    have a7 : ¬ 9223372036854775807 < p1.length + p2.length + p3.length + p4.length + p5.length + p6.length + (1 + fr.length) := by omega
                    have P1 := Lib.hid hp1
                    have P2 := Lib.hid hp2
                    have P3 := Lib.hid hp3
                    have P4 := Lib.hid hp4
                    have P5 := Lib.hid hp5
                    have P6 := Lib.hid hp6
                    clear hp1 hp2 hp3 hp4 hp5 hp6 L
                    have HC : Hid (clockText it ⟨y, m, d, n⟩ se fr = p1 ++ p2 ++ p3 ++ p4 ++ p5 ++ p6 ++ (if fr = [] then [] else 46 :: fr)) := by
                      unfold clockText; dsimp only; rw [P1.out, P2.out, P3.out, P4.out, P5.out, P6.out]; exact Lib.hid rfl
                    refine (padded_calls H y 4 (by omega) (by omega) (by omega) _ (H.keep _ _ hg hBZ)).mono ?_
                    rw [P1.out]
                    rintro e v1 ⟨rfl, hV1⟩
                    replace hV1 := hBZ.trans (hV1.mono hBZ.size)
                    go_wp2_with fail
                    refine (padded_calls H m 2 (by omega) (by omega) (by omega) _ (H.keep _ _ hg hV1)).mono ?_
                    rw [P2.out]
                    rintro e v2 ⟨rfl, hV2⟩
                    replace hV2 := hV1.trans (hV2.mono hV1.size)
                    go_wp2_with fail
                    refine (padded_calls H d 2 (by omega) (by omega) (by omega) _ (H.keep _ _ hg hV2)).mono ?_
                    rw [P3.out]
                    rintro e v3 ⟨rfl, hV3⟩
                    replace hV3 := hV2.trans (hV3.mono hV2.size)
                    go_wp2_with fail
                    first | rw [e60] | skip
                    refine (padded_calls H (n / 60) 2 (by omega) (by omega) (by omega) _ (H.keep _ _ hg hV3)).mono ?_
                    rw [P4.out]
                    rintro e v4 ⟨rfl, hV4⟩
                    replace hV4 := hV3.trans (hV4.mono hV3.size)
                    go_wp2_with fail
                    first | rw [t60] | skip
                    refine (padded_calls H (n % 60) 2 (by omega) (by omega) (by omega) _ (H.keep _ _ hg hV4)).mono ?_
                    rw [P5.out]
                    rintro e v5 ⟨rfl, hV5⟩
                    replace hV5 := hV4.trans (hV5.mono hV4.size)
                    go_wp2_with fail
                    refine (padded_calls H se 2 (by omega) (by omega) (by omega) _ (H.keep _ _ hg hV5)).mono ?_
                    rw [P6.out]
                    rintro e v6 ⟨rfl, hV6⟩
                    replace hV6 := hV5.trans (hV6.mono hV5.size)
                    rcases none_or fr with rfl | ⟨z0, z1, z2, z3⟩
                    · go_wp2
                      go_ret2
                      exact ⟨by rw [HZ.out, HC.out]; exact ret_some (by simp), hV6⟩
                    · have HF := Lib.hid z0
                      clear z0
                      go_wp2
                      go_ret2
                      exact ⟨by rw [HZ.out, HC.out, if_neg HF.out]; exact ret_some (by simp), hV6⟩

end Go.Proofs.YthopanlkjdcgmaaGreatDoor.W

/- What a longer list of laid variables gives: 'kinds' and the error ErrRange, wherever they stand in the list. -/
import Derived.Test.YthopanlkjdcgmaaGreatDoorLaid
import Derived.Test.YthopanlkjdcgmaaGreatDoorBits
import Derived.LaidLaws
namespace Go.Proofs.YthopanlkjdcgmaaGreatDoor.W
open Go.RowKit Go.Proofs.YthopanlkjdcgmaaGreatDoor.Plain

theorem laid_get {P : Program} {w : World} : ∀ {l : List (String × DataW Unit)} {ps : List MemPlace}, DataW.LaidVars P w l ps → ∀ {n : String} {d : DataW Unit}, (n, d) ∈ l →
    ∃ g t cs fuel p, P.globalNamed n = some g ∧ (P.globals[g]?).map (·.type) = some t ∧ w.var? P n = some cs ∧ DataW.trod (fun _ => ()) P w 0 (fun _ => true) false fuel t cs.toList = some (d, p)
  | [], _, _, _, _, hm => by cases hm
  | (n', d') :: r, ps, h, n, d, hm => by
    obtain ⟨g, t, cs, fuel, p, q, h1, h2, h3, h4, h5, _⟩ := h
    rcases List.mem_cons.1 hm with e | hm
    · injection e with e1 e2
      subst e1 e2
      exact ⟨g, t, cs, fuel, p, h1, h2, h3, h4⟩
    · exact laid_get h5 hm

set_option maxRecDepth 100000 in
theorem kinds_mem {W : World} {l : List (String × DataW Unit)} (h : laidMet Tryz.prog l W) (hm : ("roster/match.kinds", Rows.laid_roster_match_kinds) ∈ l) : KindsAt W := by
  obtain ⟨ms, he⟩ := under_kind
  obtain ⟨ps, hl, _⟩ := h
  obtain ⟨g', t', cs, fuel, p, hg', ht', hvar, hd⟩ := laid_get hl hm
  obtain rfl := Option.some.inj (gKinds.symm.trans hg')
  obtain rfl := Option.some.inj (gKindsType.symm.trans ht')
  intro i hi
  rw [World.var?_cell gKinds hvar i]
  have hm : i = 0 ∨ i = 1 ∨ i = 2 ∨ i = 3 ∨ i = 4 ∨ i = 5 ∨ i = 6 ∨ i = 7 ∨ i = 8 ∨ i = 9 ∨ i = 10 ∨ i = 11 ∨ i = 12 ∨ i = 13 ∨ i = 14 := by omega
  rcases hm with rfl | rfl | rfl | rfl | rfl | rfl | rfl | rfl | rfl | rfl | rfl | rfl | rfl | rfl | rfl
  all_goals exact kind_cell he hd _ _ _ _ (by first | exact List.mem_of_getElem? (i := 0) rfl | exact List.mem_of_getElem? (i := 1) rfl | exact List.mem_of_getElem? (i := 2) rfl | exact List.mem_of_getElem? (i := 3) rfl | exact List.mem_of_getElem? (i := 4) rfl | exact List.mem_of_getElem? (i := 5) rfl | exact List.mem_of_getElem? (i := 6) rfl | exact List.mem_of_getElem? (i := 7) rfl | exact List.mem_of_getElem? (i := 8) rfl | exact List.mem_of_getElem? (i := 9) rfl | exact List.mem_of_getElem? (i := 10) rfl | exact List.mem_of_getElem? (i := 11) rfl | exact List.mem_of_getElem? (i := 12) rfl | exact List.mem_of_getElem? (i := 13) rfl | exact List.mem_of_getElem? (i := 14) rfl) _ rfl rfl hi

theorem gErr : Tryz.prog.globalNamed "strconv.ErrRange" = some 8 := by kernel_rfl
theorem gErrType : (Tryz.prog.globals[8]?).map (·.type) = some 80 := by kernel_rfl
theorem under_err : ∃ ms, Tryz.prog.underlying 80 = some (.interface ms) := ⟨_, Tryz.underlying80⟩
theorem err_mem {W : World} {l : List (String × DataW Unit)} (h : laidMet Tryz.prog l W) (hm : ("strconv.ErrRange", Rows.laid_strconv_ErrRange) ∈ l) : ErrAt W := by
  obtain ⟨ms, he⟩ := under_err
  obtain ⟨ps, hl, _⟩ := h
  obtain ⟨g', t', cs, fuel, p, hg', ht', hvar, hd⟩ := laid_get hl hm
  obtain rfl := Option.some.inj (gErr.symm.trans hg')
  obtain rfl := Option.some.inj (gErrType.symm.trans ht')
  obtain ⟨f1, u, v, hcs, _⟩ := iface_of_trod he hd
  refine ⟨.iface u v, ?_, .inr ⟨u, v, rfl⟩⟩
  rw [World.var?_cell gErr hvar 0]
  have : cs[0]? = cs.toList[0]? := by simp
  rw [this, hcs]; rfl

end Go.Proofs.YthopanlkjdcgmaaGreatDoor.W

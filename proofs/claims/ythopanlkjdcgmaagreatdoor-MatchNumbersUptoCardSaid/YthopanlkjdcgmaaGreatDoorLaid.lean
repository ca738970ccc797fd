/- What the listed variable 'kinds' holds, cell by cell; and the facts on package-level variables that the walks carry from world to world. -/
import Derived.Test.YthopanlkjdcgmaaGreatDoorKit
import Derived.Test.YthopanlkjdcgmaaGreatDoorRows
import Derived.LaidLaws
import Derived.OpenShut
import Derived.Lib.LaidTab
namespace Go.Proofs.YthopanlkjdcgmaaGreatDoor.W
open Go.RowKit Go.Proofs.YthopanlkjdcgmaaGreatDoor.Plain

/-- the row of a type's name: one row bears it -/
def rowOk (nm : String) (tp : TypeId) (u : TypeId) (i : TypeInfo) : Bool :=
  match i.desc with
  | .named m _ => m != nm || u == tp
  | .bool | .int _ | .float _ | .string => i.str != nm
  | _ => true
def rowsOk (P : Program) (nm : String) (tp : TypeId) : Bool := (List.range P.types.size).all fun u => match P.types[u]? with | some i => rowOk nm tp u i | none => true

theorem star_head (a : String) : ("*" ++ a).toList.head? = some (Char.ofNat 42) := by
  rw [String.toList_append]; rfl
theorem typeName_plain {P : Program} {nm : String} {tp : TypeId} (hrows : rowsOk P nm tp = true) (hstar : nm.toList.head? ≠ some (Char.ofNat 42)) (u : TypeId) (hu : P.typeName? 3 u = some nm) : u = tp := by
  unfold Program.typeName? at hu
  cases hi : P.info? u with
  | none => simp [hi] at hu
  | some i =>
    simp only [hi] at hu
    by_cases hlt : u < P.types.size
    · have hin : P.types[u]? = some i := by
        have h2 : P.info? u = P.types[u]? := by unfold Tables.info?; rw [if_pos hlt]
        rw [← h2]; exact hi
      have hr := List.all_eq_true.1 hrows u (List.mem_range.2 hlt)
      rw [hin] at hr
      simp only [rowOk] at hr
      cases hd : i.desc <;> simp only [hd] at hu hr <;> try cases hu
      all_goals first
        | (split at hu <;> first | (cases hu; done) | (injection hu with hu; subst hu; first | (simp at hr; done) | (simpa using hr) | (simp at hr; exact hr)))
        | (simp only [Option.map_eq_some_iff] at hu; obtain ⟨n', _, hs⟩ := hu; exact absurd (by rw [← hs]; exact star_head n') hstar)
    · exfalso
      have hb := Tables.info?_beyond hlt hi
      cases hd : i.desc <;> simp only [hd, TypeDesc.tableOnly] at hu hb <;> try cases hb
      all_goals try cases hu
      simp only [Option.map_eq_some_iff] at hu
      obtain ⟨n', _, hs⟩ := hu
      exact hstar (by rw [← hs]; exact star_head n')

theorem trod_iface {H : Type} {enc : TypeId × Value → H} {P : Program} {w : World} {base : Nat} {sp : Nat → Bool} {m : Nat} {e : TypeId} {c : List Value} {x : DataW H × List MemPlace} {nm : String} {D : DataW H} {ms : Array (String × TypeId)}
    (he : P.underlying e = some (.interface ms)) (h : DataW.trod enc P w base sp false m e c = some x) (hx : x.1 = .iface nm D) :
    ∃ u v m' q, c = [.iface u v] ∧ P.typeName? 3 u = some nm ∧ DataW.trod enc P w base sp false m' u v.cells.toList = some (D, q) := by
  cases m with
  | zero => simp [DataW.trod] at h
  | succ m =>
    unfold DataW.trod at h
    rw [he] at h
    split at h <;> first | (cases h; done) | skip
    all_goals simp_all
    · subst h; cases hx
    · rename_i u v _
      cases hn : P.typeName? 3 u with
      | none => rw [hn] at h; cases h
      | some name =>
        rw [hn] at h
        simp only [Option.map_eq_some_iff] at h
        obtain ⟨y, hy, rfl⟩ := h
        simp only [DataW.iface.injEq] at hx
        obtain ⟨rfl, rfl⟩ := hx
        exact ⟨u, v, ⟨rfl, rfl⟩, hn, m, y.2, hy⟩
theorem trod_none {H : Type} {enc : TypeId × Value → H} {P : Program} {w : World} {base : Nat} {sp : Nat → Bool} {m : Nat} {u : TypeId} {v : Value} {x : DataW H × List MemPlace} {fs : Array Field}
    (hu : P.underlying u = some (.struct fs)) (hc : P.cellsOf u = 0) (h : DataW.trod enc P w base sp false m u v.cells.toList = some x) : v = .agg #[] := by
  cases m with
  | zero => simp [DataW.trod] at h
  | succ m =>
    unfold DataW.trod at h
    rw [hu] at h
    have hl : v.cells.toList.length = 0 := by
      split at h <;> simp_all
    cases v <;> simp [Value.cells] at hl
    rw [hl]
/-- the fifteen syntaxes, in the order of their numbers: the type's name, and its number -/
def kindNames : List (String × TypeId) := [("roster/match.plain", 75), ("roster/match.folded", 263), ("roster/match.exact", 261), ("roster/match.lowFolded", 268), ("roster/match.low", 266), ("roster/match.numeric", 269), ("roster/match.phone", 270), ("roster/match.integer", 78), ("roster/match.boolean", 271), ("roster/match.octet", 272), ("roster/match.name", 273), ("roster/match.oid", 274), ("roster/match.instant", 275), ("roster/match.list", 276), ("roster/match.bitString", 277)]
theorem rows_all : (kindNames.all fun x => rowsOk Tryz.prog x.1 x.2) = true := by kernel_rfl


def kindT (i : Nat) : TypeId := (kindNames.map (·.2)).getD i 0
/-- what the variable 'kinds' holds -/
def KindsAt (w : World) : Prop := ∀ i, i < 15 → w.cell? ⟨0, i, none⟩ = some (.iface (kindT i) (.agg #[]))

theorem under_kinds : ((kindNames.map (·.2)).all fun u => (match Tryz.prog.underlying u with | some (.struct _) => true | _ => false) && Tryz.prog.cellsOf u == 0) = true := by kernel_rfl
theorem gKinds : Tryz.prog.globalNamed "roster/match.kinds" = some 0 := by kernel_rfl
theorem gKindsType : (Tryz.prog.globals[0]?).map (·.type) = some 76 := by kernel_rfl
theorem cellsKind : Tryz.prog.cellsOf 50 = 1 := by kernel_rfl
theorem kind_names : ∀ nm T, (nm, T) ∈ kindNames → nm.toList.head? ≠ some (Char.ofNat 42) := by
  intro nm T h
  have hh : (kindNames.all fun x => x.1.toList.head? != some (Char.ofNat 42)) = true := by decide +kernel
  have := List.all_eq_true.1 hh _ h
  simpa using this

set_option maxRecDepth 100000 in
theorem kind_cell {W : World} {cs : Array Value} {fuel : Nat} {p : List MemPlace} {ms : Array (String × TypeId)} (he : Tryz.prog.underlying 50 = some (.interface ms))
    (hd : DataW.trod (fun _ => ()) Tryz.prog W 0 (fun _ => true) false fuel 76 cs.toList = some (Rows.laid_roster_match_kinds, p)) (i : Nat) (nm : String) (T : TypeId) (D : DataW Unit) (hk : (nm, T) ∈ kindNames)
    (L : List (DataW Unit)) (hL : Rows.laid_roster_match_kinds = .agg L) (hi : L[i]? = some (.iface nm D)) (h15 : i < 15) : cs[i]? = some (.iface T (.agg #[])) := by
  obtain ⟨xs, m, rfl, hx, hlen, hxl, hat⟩ := DataW.trod_array Tryz.underlying76 hd
  have h1 := hat i h15
  rw [hL] at hx
  have h2 : L = xs.map (·.1) := by injection hx with ha hb; injection ha
  rw [h2, List.getElem?_map] at hi
  obtain ⟨x, hxi, hx1⟩ := Option.map_eq_some_iff.1 hi
  rw [hxi] at h1
  obtain ⟨u, v, m', q, hc, hn, htr⟩ := trod_iface he h1 hx1
  have hu : u = T := typeName_plain (List.all_eq_true.1 rows_all _ hk) (kind_names nm T hk) u hn
  subst hu
  have hun := List.all_eq_true.1 under_kinds u (List.mem_map.2 ⟨_, hk, rfl⟩)
  simp only [Bool.and_eq_true, beq_iff_eq] at hun
  have hv : v = .agg #[] := by
    cases hus : Tryz.prog.underlying u with
    | none => rw [hus] at hun; exact absurd hun.1 (by simp)
    | some d =>
      rw [hus] at hun
      cases d with
      | struct fs => exact trod_none hus hun.2 htr
      | _ => exact absurd hun.1 (by simp)
  subst hv
  rw [cellsKind] at hc
  simp only [Nat.mul_one] at hc
  have h3 : (cs.toList.drop i)[0]? = some (Value.iface u (.agg #[])) := by
    have : ((cs.toList.drop i).take 1)[0]? = some (Value.iface u (.agg #[])) := by rw [hc]; rfl
    simpa using this
  simpa using h3

theorem under_kind : ∃ ms, Tryz.prog.underlying 50 = some (.interface ms) := ⟨_, Tryz.underlying50⟩
set_option maxRecDepth 100000 in
theorem kinds_of {W : World} {rest : List (String × DataW Unit)} (h : laidMet Tryz.prog (("roster/match.kinds", Rows.laid_roster_match_kinds) :: rest) W) : KindsAt W := by
  obtain ⟨ms, he⟩ := under_kind
  obtain ⟨ps, ⟨g', t', cs, fuel, p, q, hg', ht', hvar, hd, _, _⟩, _⟩ := h
  obtain rfl := Option.some.inj (gKinds.symm.trans hg')
  obtain rfl := Option.some.inj (gKindsType.symm.trans ht')
  intro i hi
  rw [World.var?_cell gKinds hvar i]
  have hm : i = 0 ∨ i = 1 ∨ i = 2 ∨ i = 3 ∨ i = 4 ∨ i = 5 ∨ i = 6 ∨ i = 7 ∨ i = 8 ∨ i = 9 ∨ i = 10 ∨ i = 11 ∨ i = 12 ∨ i = 13 ∨ i = 14 := by omega
  rcases hm with rfl | rfl | rfl | rfl | rfl | rfl | rfl | rfl | rfl | rfl | rfl | rfl | rfl | rfl | rfl
  all_goals exact kind_cell he hd _ _ _ _ (by first | exact List.mem_of_getElem? (i := 0) rfl | exact List.mem_of_getElem? (i := 1) rfl | exact List.mem_of_getElem? (i := 2) rfl | exact List.mem_of_getElem? (i := 3) rfl | exact List.mem_of_getElem? (i := 4) rfl | exact List.mem_of_getElem? (i := 5) rfl | exact List.mem_of_getElem? (i := 6) rfl | exact List.mem_of_getElem? (i := 7) rfl | exact List.mem_of_getElem? (i := 8) rfl | exact List.mem_of_getElem? (i := 9) rfl | exact List.mem_of_getElem? (i := 10) rfl | exact List.mem_of_getElem? (i := 11) rfl | exact List.mem_of_getElem? (i := 12) rfl | exact List.mem_of_getElem? (i := 13) rfl | exact List.mem_of_getElem? (i := 14) rfl) _ rfl rfl hi

end Go.Proofs.YthopanlkjdcgmaaGreatDoor.W

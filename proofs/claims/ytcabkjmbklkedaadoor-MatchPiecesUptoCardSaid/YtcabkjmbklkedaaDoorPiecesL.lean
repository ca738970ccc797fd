/- MatchPieces: what its walk wants of texts, in plain Lean: a text laid out of pieces has them as its pattern. -/
import Derived.Test.YtcabkjmbklkedaaDoorPlain
import Derived.Lib.Strings
import Derived.Lib.IndexMore
namespace Go.Proofs.YtcabkjmbklkedaaDoor.Plain
open Go

/-- the pieces stand in r one behind the other -/
def anyFit : Bytes → List Bytes → Bool
  | _, [] => true
  | r, a :: as => if 0 ≤ Lib.index r a then anyFit (r.drop ((Lib.index r a).toNat + a.length)) as else false
/-- match.Fits -/
def fitsL (v i f : Bytes) (as : List Bytes) : Bool :=
  if v.length < i.length + f.length then false else if Lib.hasPrefix v i then (if Lib.hasSuffix v f then anyFit ((v.take (v.length - f.length)).drop i.length) as else false) else false
def hasL (v p : Bytes) : Bool := decide (0 ≤ Lib.index v p)

theorem index_at (g m r : Bytes) : 0 ≤ Lib.index (g ++ (m ++ r)) m ∧ (Lib.index (g ++ (m ++ r)) m).toNat ≤ g.length := by
  have ho : Lib.occAt (g ++ (m ++ r)) m g.length = true := by
    unfold Lib.occAt; rw [List.drop_left, List.isPrefixOf_iff_prefix]; exact List.prefix_append m r
  rcases Lib.index_spec (g ++ (m ++ r)) m with ⟨_, h⟩ | ⟨i, h1, _, _, h4⟩
  · have := h g.length (by simp)
    rw [ho] at this; exact absurd this (by decide)
  · rw [h1]
    refine ⟨by omega, ?_⟩
    have : ¬ g.length < i := fun hlt => by have := h4 g.length hlt; rw [ho] at this; exact absurd this (by decide)
    omega

theorem anyFit_two (g m n : Bytes) : anyFit (g ++ (m ++ (g ++ n))) [m, n] = true := by
  have h := index_at g m (g ++ n)
  unfold anyFit
  rw [if_pos h.1]
  have e : (g ++ (m ++ (g ++ n))).drop ((Lib.index (g ++ (m ++ (g ++ n))) m).toNat + m.length) = ((g ++ (m ++ g)).drop ((Lib.index (g ++ (m ++ (g ++ n))) m).toNat + m.length)) ++ (n ++ []) := by
    rw [show g ++ (m ++ (g ++ n)) = (g ++ (m ++ g)) ++ n by simp, List.append_nil]
    rw [← List.drop_append_of_le_length (by simp; have := h.2; rw [show g ++ (m ++ (g ++ n)) = (g ++ (m ++ g)) ++ n by simp] at this; simp at this; omega)]
  unfold anyFit
  rw [e, if_pos (index_at _ n []).1]
  rfl
theorem anyFit_one (r p : Bytes) : anyFit r [p] = hasL r p := by
  unfold anyFit hasL
  by_cases h : 0 ≤ Lib.index r p
  · rw [if_pos h, decide_eq_true h]; rfl
  · rw [if_neg h, decide_eq_false h]

theorem fits_whole (i g m n f : Bytes) : fitsL (i ++ (g ++ (m ++ (g ++ (n ++ f))))) i f [m, n] = true := by
  unfold fitsL
  rw [if_neg (by simp; omega)]
  rw [if_pos (by unfold Lib.hasPrefix; rw [List.isPrefixOf_iff_prefix]; exact List.prefix_append _ _)]
  rw [if_pos (by unfold Lib.hasSuffix; rw [List.isSuffixOf_iff_suffix]; exact ⟨i ++ (g ++ (m ++ (g ++ n))), by simp⟩)]
  have e : ((i ++ (g ++ (m ++ (g ++ (n ++ f))))).take ((i ++ (g ++ (m ++ (g ++ (n ++ f))))).length - f.length)).drop i.length = g ++ (m ++ (g ++ n)) := by
    rw [show i ++ (g ++ (m ++ (g ++ (n ++ f)))) = (i ++ (g ++ (m ++ (g ++ n)))) ++ f by simp]
    rw [List.length_append, Nat.add_sub_cancel, List.take_left, List.drop_left]
  rw [e]; exact anyFit_two g m n
theorem pre_nil (v : Bytes) : Lib.hasPrefix v [] = true := by unfold Lib.hasPrefix; rw [List.isPrefixOf_iff_prefix]; exact List.nil_prefix
theorem suf_nil (v : Bytes) : Lib.hasSuffix v [] = true := by unfold Lib.hasSuffix; rw [List.isSuffixOf_iff_suffix]; exact List.nil_suffix
theorem fits_any (v p : Bytes) : fitsL v [] [] [p] = hasL v p := by
  unfold fitsL
  rw [if_neg (by simp), if_pos (pre_nil v), if_pos (suf_nil v)]
  simp only [List.length_nil, Nat.sub_zero, List.take_length, List.drop_zero]
  exact anyFit_one v p
theorem fits_front (v p : Bytes) : fitsL v p [] [] = Lib.hasPrefix v p := by
  unfold fitsL
  rw [if_pos (suf_nil v)]
  by_cases h : v.length < p.length + ([] : Bytes).length
  · rw [if_pos h]
    have : ¬ p <+: v := fun hp => by have := hp.length_le; simp at h; omega
    unfold Lib.hasPrefix
    rw [eq_comm, Bool.eq_false_iff]; intro hp; exact this (List.isPrefixOf_iff_prefix.1 hp)
  · rw [if_neg h]; cases Lib.hasPrefix v p <;> rfl
theorem fits_end (v p : Bytes) : fitsL v [] p [] = Lib.hasSuffix v p := by
  unfold fitsL
  rw [if_pos (pre_nil v)]
  by_cases h : v.length < ([] : Bytes).length + p.length
  · rw [if_pos h]
    have : ¬ p <:+ v := fun hp => by have := hp.length_le; simp at h; omega
    unfold Lib.hasSuffix
    rw [eq_comm, Bool.eq_false_iff]; intro hp; exact this (List.isSuffixOf_iff_suffix.1 hp)
  · rw [if_neg h]; cases Lib.hasSuffix v p <;> rfl
theorem fits_both (v : Bytes) : fitsL v v v [] = decide (v = []) := by
  cases v with
  | nil => rfl
  | cons a l => unfold fitsL; rw [if_pos (by simp)]; simp

end Go.Proofs.YtcabkjmbklkedaaDoor.Plain

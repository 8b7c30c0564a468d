/-
  An entry taken out of a list, as a filter.
-/
import Derived.Test.YtpbabdoecjlifaaHo
namespace Go.Proofs.Ytpbabdoecjlifaa
open Go.RowKit
set_option linter.unusedVariables false
set_option linter.unusedSimpArgs false

theorem erase_filter : ∀ (its : List Itm) (i : Nat) (x : Itm), (its.map Itm.id).Nodup → its[i]? = some x → its.eraseIdx i = its.filter fun y => decide (y.id ≠ x.id)
  | [], i, x, _, h => by simp at h
  | a :: r, 0, x, hn, h => by
    simp at h
    subst h
    simp only [List.map_cons, List.nodup_cons] at hn
    have : ∀ y ∈ r, decide (y.id ≠ a.id) = true := by
      intro y hy
      simp only [decide_eq_true_eq]
      intro e
      exact hn.1 (by rw [← e]; exact List.mem_map.2 ⟨y, hy, rfl⟩)
    rw [List.eraseIdx_cons_zero, List.filter_cons_of_neg (by simp), List.filter_eq_self.2 this]
  | a :: r, i + 1, x, hn, h => by
    have hx : r[i]? = some x := by simpa using h
    simp only [List.map_cons, List.nodup_cons] at hn
    have hax : a.id ≠ x.id := fun e => hn.1 (by rw [e]; exact List.mem_map.2 ⟨x, List.mem_of_getElem? hx, rfl⟩)
    rw [List.eraseIdx_cons_succ, List.filter_cons_of_pos (by simpa using hax), erase_filter r i x hn.2 hx]
end Go.Proofs.Ytpbabdoecjlifaa

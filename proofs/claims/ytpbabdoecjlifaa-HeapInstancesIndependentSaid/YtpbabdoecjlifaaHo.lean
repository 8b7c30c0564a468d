/-
  Sifting with a hole: what the array, the index and the entry in the hand are together. Plain law.
-/
import Derived.Test.YtpbabdoecjlifaaHk
namespace Go.Proofs.Ytpbabdoecjlifaa
set_option linter.unusedVariables false
set_option linter.unusedSimpArgs false

theorem ids_ne {C : List Itm} (h : (C.map Itm.id).Nodup) {j k : Nat} {a b : Itm} (hj : C[j]? = some a) (hk : C[k]? = some b) (hne : j ≠ k) : a.id ≠ b.id := by
  intro e
  have e1 : (C.map Itm.id)[j]? = some a.id := by simp [hj]
  have e2 : (C.map Itm.id)[k]? = some a.id := by simp [hk, e]
  obtain ⟨q1, r1⟩ := List.getElem?_eq_some_iff.1 e1
  obtain ⟨q2, r2⟩ := List.getElem?_eq_some_iff.1 e2
  exact hne (nodup_inj h (r1.trans r2.symm))
/-- The array A, with x put at the place i, is the list C: a permutation of 'its'; the index is right but at i. -/
structure Hole (its A C : List Itm) (kv0 kv : List (Int × Value)) (i : Nat) (x : Itm) : Prop where
  c : C = A.set i x
  il : i < A.length
  perm : C.Perm its
  ix : IxB kv C i
  oth : ∀ id, (∀ y ∈ its, y.id ≠ id) → look kv id = look kv0 id
variable {its A C : List Itm} {kv0 kv : List (Int × Value)} {i : Nat} {x : Itm}
theorem Hole.nodup (h : Hole its A C kv0 kv i x) (hn : (its.map Itm.id).Nodup) : (C.map Itm.id).Nodup := (h.perm.map Itm.id).nodup_iff.2 hn
theorem Hole.at_i (h : Hole its A C kv0 kv i x) : C[i]? = some x := by rw [h.c, List.getElem?_set_self h.il]
theorem Hole.other (h : Hole its A C kv0 kv i x) {j : Nat} (hj : j ≠ i) : C[j]? = A[j]? := by rw [h.c, List.getElem?_set_ne (Ne.symm hj)]
theorem Hole.len (h : Hole its A C kv0 kv i x) : A.length = its.length := by
  have := h.perm.length_eq
  rw [h.c, List.length_set] at this
  exact this
/-- The entry y at the place p is laid at i; the hole is now at p. -/
theorem Hole.move (h : Hole its A C kv0 kv i x) (hn : (its.map Itm.id).Nodup) {p : Nat} {y : Itm} (hp : p ≠ i) (hy : A[p]? = some y) : Hole its (A.set i y) ((C.set i y).set p x) kv0 (put kv y.id (.int .i64 i)) p x := by
  have hy' : C[p]? = some y := by rw [h.other hp]; exact hy
  have hpl := (List.getElem?_eq_some_iff.1 hy).1
  have hil := (List.getElem?_eq_some_iff.1 h.at_i).1
  have hpC := (List.getElem?_eq_some_iff.1 hy').1
  refine ⟨?_, by rw [List.length_set]; exact hpl, (swap_perm (Ne.symm hp) h.at_i hy').trans h.perm, ?_, ?_⟩
  · rw [h.c, List.set_set]
  · intro j z hj hz
    rw [List.getElem?_set_ne (Ne.symm hj)] at hz
    by_cases hji : j = i
    · subst hji
      rw [List.getElem?_set_self hil] at hz
      cases hz
      exact look_put_same _ _ _
    · rw [List.getElem?_set_ne (Ne.symm hji)] at hz
      rw [look_put_other _ _ _ _ (ids_ne (h.nodup hn) hz hy' hj)]
      exact h.ix j z hji hz
  · intro id hid
    have hm : y ∈ its := h.perm.mem_iff.1 (List.mem_of_getElem? hy')
    rw [look_put_other _ _ _ _ (Ne.symm (hid y hm))]
    exact h.oth id hid
/-- x is laid at i: the index is right. -/
theorem Hole.fin (h : Hole its A C kv0 kv i x) (hn : (its.map Itm.id).Nodup) :
    (∀ (j : Nat) y, C[j]? = some y → look (put kv x.id (.int .i64 i)) y.id = some (.int .i64 j)) ∧ ∀ id, (∀ y ∈ its, y.id ≠ id) → look (put kv x.id (.int .i64 i)) id = look kv0 id := by
  refine ⟨fun j y hy => ?_, fun id hid => ?_⟩
  · by_cases hji : j = i
    · subst hji
      rw [h.at_i] at hy
      cases hy
      exact look_put_same _ _ _
    · rw [look_put_other _ _ _ _ (ids_ne (h.nodup hn) hy h.at_i hji)]
      exact h.ix j y hji hy
  · have hm : x ∈ its := h.perm.mem_iff.1 (List.mem_of_getElem? h.at_i)
    rw [look_put_other _ _ _ _ (Ne.symm (hid x hm))]
    exact h.oth id hid
theorem Hole.start {its : List Itm} {kv : List (Int × Value)} {i : Nat} {x : Itm} (hx : its[i]? = some x) (hix : IxB kv its i) : Hole its its its kv kv i x := by
  obtain ⟨h1, h2⟩ := List.getElem?_eq_some_iff.1 hx
  refine ⟨?_, h1, List.Perm.refl _, hix, fun _ _ => rfl⟩
  subst h2
  exact (List.set_getElem_self h1).symm
end Go.Proofs.Ytpbabdoecjlifaa

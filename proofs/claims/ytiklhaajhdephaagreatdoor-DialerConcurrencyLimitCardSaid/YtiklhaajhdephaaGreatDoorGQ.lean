/-
  Merged texts: Qv.
-/
import Derived.Test.YtiklhaajhdephaaGreatDoorGN

/-
 What a queue keeps: its addresses differ, what was taken was not taken before. Plain lists.
-/
namespace Go.Proofs.YtiklhaajhdephaaGreatDoor
open Go.RowKit
set_option linter.unusedVariables false
set_option linter.unusedSimpArgs false

structure Inv (A : List Ad) (K : List Nat) : Prop where
 nodA : A.Nodup
 nodK : K.Nodup
 bound : ∀ i ∈ K, i < A.length
theorem addS_nodup {A : List Ad} (h : A.Nodup) (a : Ad) : (addS A a).Nodup := by
 unfold addS
 split
 ·rename_i h2
  have h3 : a ∉ A := by simpa [inL] using h2.2
  rw [List.nodup_append]
  exact ⟨h, by simp, fun x hx y hy => by simp at hy; subst hy; intro e; subst e; exact h3 hx⟩
 ·exact h
theorem addL_nodup {A : List Ad} (h : A.Nodup) (l : List Ad) : (addL A l).Nodup := by
 unfold addL
 induction l generalizing A with
 | nil => exact h
 | cons a l ih => rw [List.foldl_cons]; exact ih (addS_nodup h a)
theorem addL_prefix (A l : List Ad) : ∃ r, addL A l = A ++ r := by
 unfold addL
 induction l generalizing A with
 | nil => exact ⟨[], by simp⟩
 | cons a l ih =>
  obtain ⟨r, hr⟩ := ih (addS A a)
  rw [List.foldl_cons, hr]
  unfold addS
  split
  ·exact ⟨a :: r, by simp⟩
  ·exact ⟨r, rfl⟩
theorem Inv.add {A : List Ad} {K : List Nat} (h : Inv A K) (l : List Ad) : Inv (addL A l) K := ⟨addL_nodup h.nodA l, h.nodK, fun i hi => Nat.lt_of_lt_of_le (h.bound i hi) (addL_len A l).1⟩
theorem tknP_add {A : List Ad} {K : List Nat} (hb : ∀ i ∈ K, i < A.length) (l : List Ad) : tknP (addL A l) K = tknP A K := by
 obtain ⟨r, hr⟩ := addL_prefix A l
 rw [hr]
 unfold tknP
 induction K with
 | nil => rfl
 | cons i K ih =>
  rw [List.filterMap_cons, List.filterMap_cons, List.getElem?_append_left (hb i (by simp)), ih (fun j hj => hb j (by simp [hj]))]
theorem tknP_mem {A : List Ad} {K : List Nat} {a : Ad} : a ∈ tknP A K ↔ ∃ i ∈ K, A[i]? = some a := by
 unfold tknP; rw [List.mem_filterMap]
theorem tknP_len {A : List Ad} {K : List Nat} (hb : ∀ i ∈ K, i < A.length) : (tknP A K).length = K.length := by
 unfold tknP
 induction K with
 | nil => rfl
 | cons i K ih =>
  have hi := hb i (by simp)
  rw [List.filterMap_cons, List.getElem?_eq_getElem hi]
  simp only [List.length_cons]
  rw [ih (fun j hj => hb j (by simp [hj]))]
theorem nodup_at {A : List Ad} (h : A.Nodup) {i j : Nat} {a : Ad} (hi : A[i]? = some a) (hj : A[j]? = some a) : i = j := by
 have h1 := (List.getElem?_eq_some_iff.1 hi).1
 have h2 := (List.getElem?_eq_some_iff.1 hj).1
 have e1 := (List.getElem?_eq_some_iff.1 hi).2
 have e2 := (List.getElem?_eq_some_iff.1 hj).2
 exact (List.getElem_inj h).1 (e1.trans e2.symm)
theorem idxOf_at {A : List Ad} (h : A.Nodup) {i : Nat} {a : Ad} (hi : A[i]? = some a) : A.idxOf a = i := by
 have hm : a ∈ A := List.mem_of_getElem? hi
 have h1 : A.idxOf a < A.length := List.idxOf_lt_length_iff.2 hm
 exact nodup_at h (i := A.idxOf a) (a := a) (by rw [List.getElem?_eq_getElem h1, List.getElem_idxOf h1]) hi
theorem filter_range {K : List Nat} (hn : K.Nodup) {n : Nat} (hb : ∀ i ∈ K, i < n) : ((List.range n).filter fun i => decide (i ∈ K)).length = K.length := by
 apply List.Perm.length_eq
 rw [List.perm_ext_iff_of_nodup (List.nodup_range.filter _) hn]
 intro a
 rw [List.mem_filter, List.mem_range, decide_eq_true_eq]
 exact ⟨fun h => h.2, fun h => ⟨hb a h, h⟩⟩
/-- The next one is new, and what was kept stays. -/
theorem Inv.next {A : List Ad} {K : List Nat} (h : Inv A K) {first : Int} {a : Ad} {r : List Ad} (hr : remP first A K = a :: r) :
  a ∈ A ∧ a ∉ tknP A K ∧ Inv A (takeK A K a) ∧ tknP A (takeK A K a) = tknP A K ++ [a] ∧ (takeK A K a).length = K.length + 1 := by
 have hm := (remP_perm first A K).mem_iff.1 (by rw [hr]; simp : a ∈ remP first A K)
 obtain ⟨i, hi, hk, ha⟩ := (leftN_mem A K A.length a).1 hm
 have hix := idxOf_at h.nodA ha
 have hmem := List.mem_of_getElem? ha
 refine ⟨hmem, ?_, ⟨h.nodA, ?_, ?_⟩, ?_, by simp [takeK]⟩
 ·intro ht
  obtain ⟨j, hj, hja⟩ := tknP_mem.1 ht
  exact hk (nodup_at h.nodA hja ha ▸ hj)
 ·unfold takeK
  rw [hix, List.nodup_append]
  exact ⟨h.nodK, by simp, fun x hx y hy => by simp at hy; subst hy; intro e; subst e; exact hk hx⟩
 ·intro j hj
  unfold takeK at hj
  rw [hix, List.mem_append, List.mem_singleton] at hj
  rcases hj with e | rfl
  ·exact h.bound j e
  ·exact hi
 ·unfold takeK tknP
  rw [List.filterMap_append, hix]
  simp [ha]
def Sep (F G : List Nat) : Prop := ∀ g ∈ F, g ∉ G
theorem Sep.symm {F G : List Nat} (h : Sep F G) : Sep G F := fun g hg hf => h g hf hg
theorem foot_new_add {h : Nat} {va va' vt : Value} {w : World} (hv : va'.ownBlock = va.ownBlock ∨ ∃ k, va'.ownBlock = some k ∧ w.heap.size ≤ k) : ∀ g ∈ qfoot h va' vt, g ∈ qfoot h va vt ∨ w.heap.size ≤ g := by
 intro g hg
 simp only [qfoot, List.mem_cons, List.mem_append, Option.mem_toList] at hg ⊢
 rcases hg with e | e | e
 ·exact .inl (.inl e)
 ·rcases hv with e2 | ⟨k, e2, hk⟩
  ·rw [e2] at e; exact .inl (.inr (.inl e))
  ·rw [e2] at e; cases e; exact .inr hk
 ·exact .inl (.inr (.inr e))
theorem foot_new_take {h : Nat} {va vt vt' : Value} {w : World} (hv : vt'.ownBlock = vt.ownBlock ∨ ∃ k, vt'.ownBlock = some k ∧ w.heap.size ≤ k) : ∀ g ∈ qfoot h va vt', g ∈ qfoot h va vt ∨ w.heap.size ≤ g := by
 intro g hg
 simp only [qfoot, List.mem_cons, List.mem_append, Option.mem_toList] at hg ⊢
 rcases hg with e | e | e
 ·exact .inl (.inl e)
 ·exact .inl (.inr (.inl e))
 ·rcases hv with e2 | ⟨k, e2, hk⟩
  ·rw [e2] at e; exact .inl (.inr (.inr e))
  ·rw [e2] at e; cases e; exact .inr hk
theorem OwnA.rdn {w0 w : World} {v : Value} {l : List Ad} (h : OwnA w0 w v l) : ∃ b, Rd w 17 b v (l.map Ad.cells) ∧ (l ≠ [] → v.ownBlock = some b) := by
 obtain ⟨b, hr, hb⟩ := h.rd
 refine ⟨b, hr, fun hne => ?_⟩
 rcases hb with e | e
 ·exact e
 ·obtain ⟨a0, c0, hv0, _, _, hat⟩ := h.form
  obtain ⟨g, hg⟩ := hat (List.length_pos_iff.2 hne)
  rw [hv0, hg] at e
  simp [Value.ownBlock] at e
theorem Inv.nil : Inv [] [] := ⟨List.nodup_nil, List.nodup_nil, by simp⟩
end Go.Proofs.YtiklhaajhdephaaGreatDoor

/-
  Binary heaps as lists: what sifting up and down does to them. Plain law; no program in sight.
-/
namespace Go.Proofs.Ytpbabdoecjlifaa
set_option linter.unusedVariables false
set_option linter.unusedSimpArgs false

/-- An entry's handle and due time (its value goes along). -/
structure Key where
  id : Int
  due : Int
def le (a b : Key) : Prop := a.due < b.due ∨ (a.due = b.due ∧ a.id ≤ b.id)
def lt (a b : Key) : Prop := a.due < b.due ∨ (a.due = b.due ∧ a.id < b.id)
theorem le_refl (a : Key) : le a a := .inr ⟨rfl, Int.le_refl _⟩
theorem le_trans {a b c : Key} (h : le a b) (k : le b c) : le a c := by unfold le at *; omega
theorem le_total (a b : Key) : le a b ∨ lt b a := by unfold le lt; omega
theorem lt_le {a b : Key} (h : lt a b) : le a b := by unfold le lt at *; omega
theorem not_lt {a b : Key} : ¬ lt a b ↔ le b a := by unfold le lt; omega

section
variable {α : Type} (key : α → Key)
def par (b : Nat) : Nat := (b - 1) / 2
/-- The edge from b to its parent. -/
def Edge (C : List α) (b : Nat) : Prop := ∀ x y, C[par b]? = some x → C[b]? = some y → le (key x) (key y)
def Heap (C : List α) : Prop := ∀ b, 1 ≤ b → Edge key C b
/-- Past i: what lies above i is at most what lies below it. -/
def Gp (C : List α) (i : Nat) : Prop := 1 ≤ i → ∀ b, 1 ≤ b → par b = i → ∀ x y, C[par i]? = some x → C[b]? = some y → le (key x) (key y)
/-- All edges that do not meet i. -/
structure Up (C : List α) (i : Nat) : Prop where
  rest : ∀ b, 1 ≤ b → b ≠ i → par b ≠ i → Edge key C b
  gp : Gp key C i
/-- All edges but those down from i. -/
structure Down (C : List α) (i : Nat) : Prop where
  rest : ∀ b, 1 ≤ b → par b ≠ i → Edge key C b
  gp : Gp key C i
variable {key}
variable {C : List α} {i : Nat}
/-- What a heap is once its entry at i has been changed. -/
theorem Heap.up {x : α} (h : Heap key C) : Up key (C.set i x) i := by
  refine ⟨?_, ?_⟩
  · intro b hb h1 h2 u v hu hv
    rw [List.getElem?_set_ne (Ne.symm h2)] at hu
    rw [List.getElem?_set_ne (Ne.symm h1)] at hv
    exact h b hb u v hu hv
  · intro hi b hb hp u v hu hv
    have h1 : par i ≠ i := by unfold par; omega
    have h2 : b ≠ i := by unfold par at hp; omega
    rw [List.getElem?_set_ne (Ne.symm h1)] at hu
    rw [List.getElem?_set_ne (Ne.symm h2)] at hv
    have hil : i < C.length := by
      have := (List.getElem?_eq_some_iff.1 hv).1
      unfold par at hp
      omega
    have hm := List.getElem?_eq_getElem hil
    exact le_trans (h i hi u _ hu hm) (h b hb _ v (by rw [hp]; exact hm) hv)
theorem Heap.snoc {x : α} (h : Heap key C) : Up key (C ++ [x]) C.length := by
  refine ⟨?_, ?_⟩
  · intro b hb h1 h2 u v hu hv
    have hbl : b < C.length := by
      have := (List.getElem?_eq_some_iff.1 hv).1
      simp at this
      omega
    have hpl : par b < C.length := by unfold par; omega
    rw [List.getElem?_append_left hpl] at hu
    rw [List.getElem?_append_left hbl] at hv
    exact h b hb u v hu hv
  · intro hi b hb hp u v hu hv
    have := (List.getElem?_eq_some_iff.1 hv).1
    simp at this
    unfold par at hp
    omega
theorem Heap.take (h : Heap key C) (n : Nat) : Heap key (C.take n) := by
  intro b hb u v hu hv
  rw [List.getElem?_take] at hu hv
  split at hu
  · split at hv
    · exact h b hb u v hu hv
    · cases hv
  · cases hu
/-- The entry at i stays: sifting up is at its end. -/
theorem Up.stop (h : Up key C i) (he : i = 0 ∨ Edge key C i) : Down key C i := by
  refine ⟨?_, h.gp⟩
  intro b hb hp
  by_cases hbi : b = i
  · subst hbi
    rcases he with he | he
    · omega
    · exact he
  · exact h.rest b hb hbi hp
/-- x at the place i is less than its parent y: they change places. -/
theorem Up.step {x y : α} (h : Up key C i) (hi : 1 ≤ i) (hx : C[i]? = some x) (hy : C[par i]? = some y) (hlt : lt (key x) (key y)) : Up key ((C.set i y).set (par i) x) (par i) := by
  have hpi : par i < i := by unfold par; omega
  have hil := (List.getElem?_eq_some_iff.1 hx).1
  have at_i : ((C.set i y).set (par i) x)[i]? = some y := by
    rw [List.getElem?_set_ne (by omega), List.getElem?_set_self hil]
  have other : ∀ b, b ≠ i → b ≠ par i → ((C.set i y).set (par i) x)[b]? = C[b]? := by
    intro b h1 h2
    rw [List.getElem?_set_ne (Ne.symm h2), List.getElem?_set_ne (Ne.symm h1)]
  refine ⟨?_, ?_⟩
  · intro b hb h1 h2 u v hu hv
    by_cases hbi : b = i
    · exact absurd (by rw [hbi]) h2
    rw [other b hbi h1] at hv
    by_cases hp : par b = i
    · rw [hp, at_i] at hu
      cases hu
      exact h.gp hi b hb hp y v hy hv
    · rw [other _ hp h2] at hu
      exact h.rest b hb hbi hp u v hu hv
  · intro hp1 b hb hp u v hu hv
    have hpp : par (par i) < par i := by unfold par at *; omega
    rw [other _ (by omega) (by omega)] at hu
    have e1 : le (key u) (key y) := h.rest (par i) hp1 (by omega) (by omega) u y hu hy
    by_cases hbi : b = i
    · rw [hbi, at_i] at hv
      cases hv
      exact e1
    · have hbp : b ≠ par i := by
        intro e
        rw [e] at hp
        omega
      rw [other b hbi hbp] at hv
      exact le_trans e1 (h.rest b hb hbi (by omega) y v (by rw [hp]; exact hy) hv)
/-- The edges down from i. -/
def Kids (key : α → Key) (C : List α) (i : Nat) : Prop := ∀ b, 1 ≤ b → par b = i → Edge key C b
/-- x at the place i is less than its parent y: they change places, and x is at most its children. -/
theorem Up.kids {x y : α} (h : Up key C i) (hi : 1 ≤ i) (hx : C[i]? = some x) (hy : C[par i]? = some y) (hlt : lt (key x) (key y)) : Kids key ((C.set i y).set (par i) x) (par i) := by
  have hpi : par i < i := by unfold par; omega
  have hil := (List.getElem?_eq_some_iff.1 hx).1
  have hpl := (List.getElem?_eq_some_iff.1 hy).1
  have at_i : ((C.set i y).set (par i) x)[i]? = some y := by
    rw [List.getElem?_set_ne (by omega), List.getElem?_set_self hil]
  have at_p : ((C.set i y).set (par i) x)[par i]? = some x := by
    rw [List.getElem?_set_self (by simpa using hpl)]
  intro b hb hp u v hu hv
  rw [hp, at_p] at hu
  cases hu
  have hbp : par b < b := by unfold par; omega
  by_cases hbi : b = i
  · subst hbi
    rw [at_i] at hv
    cases hv
    exact lt_le hlt
  · rw [List.getElem?_set_ne (by omega), List.getElem?_set_ne (Ne.symm hbi)] at hv
    exact le_trans (lt_le hlt) (h.rest b hb hbi (by omega) y v (by rw [hp]; exact hy) hv)
/-- i has no child, or none less than itself: a heap. -/
theorem Down.stop (h : Down key C i) (hc : ∀ b, 1 ≤ b → par b = i → Edge key C b) : Heap key C := by
  intro b hb
  by_cases hp : par b = i
  · exact hc b hb hp
  · exact h.rest b hb hp
/-- The least child y of i is less than x: they change places. -/
theorem Down.step {c : Nat} {x y : α} (h : Down key C i) (hc1 : 1 ≤ c) (hc : par c = i) (hx : C[i]? = some x) (hy : C[c]? = some y) (hlt : lt (key y) (key x)) (hmin : ∀ b z, 1 ≤ b → par b = i → C[b]? = some z → le (key y) (key z)) :
    Down key ((C.set i y).set c x) c := by
  have hic : i < c := by unfold par at hc; omega
  have hil := (List.getElem?_eq_some_iff.1 hx).1
  have hcl := (List.getElem?_eq_some_iff.1 hy).1
  have at_i : ((C.set i y).set c x)[i]? = some y := by
    rw [List.getElem?_set_ne (by omega), List.getElem?_set_self hil]
  have at_c : ((C.set i y).set c x)[c]? = some x := by
    rw [List.getElem?_set_self (by simpa using hcl)]
  have other : ∀ b, b ≠ i → b ≠ c → ((C.set i y).set c x)[b]? = C[b]? := by
    intro b h1 h2
    rw [List.getElem?_set_ne (Ne.symm h2), List.getElem?_set_ne (Ne.symm h1)]
  refine ⟨?_, ?_⟩
  · intro b hb hp u v hu hv
    by_cases hbc : b = c
    · subst hbc
      rw [hc, at_i] at hu
      rw [at_c] at hv
      cases hu
      cases hv
      exact lt_le hlt
    by_cases hbi : b = i
    · subst hbi
      have hpb : par b < b := by unfold par; omega
      rw [at_i] at hv
      cases hv
      rw [other _ (by omega) hp] at hu
      exact h.gp hb c hc1 hc u y hu hy
    rw [other b hbi hbc] at hv
    by_cases hpi : par b = i
    · rw [hpi, at_i] at hu
      cases hu
      exact hmin b v hb hpi hv
    · rw [other _ hpi hp] at hu
      exact h.rest b hb hpi u v hu hv
  · intro _ b hb hp u v hu hv
    rw [hc, at_i] at hu
    cases hu
    have hbi : b ≠ i := by unfold par at hp; omega
    have hbc : b ≠ c := by unfold par at hp; omega
    rw [other b hbi hbc] at hv
    exact h.rest b hb (by omega) y v (by rw [hp]; exact hy) hv
/-- Two entries change places: a permutation. -/
theorem swap_perm {c : Nat} {x y : α} (hne : i ≠ c) (hx : C[i]? = some x) (hy : C[c]? = some y) : ((C.set i y).set c x).Perm C := by
  obtain ⟨h1, e1⟩ := List.getElem?_eq_some_iff.1 hx
  obtain ⟨h2, e2⟩ := List.getElem?_eq_some_iff.1 hy
  have := List.set_set_perm (as := C) h1 h2
  rwa [e1, e2] at this
/-- The first entry of a heap is the least. -/
theorem Heap.least {x : α} (h : Heap key C) (h0 : C[0]? = some x) : ∀ (b : Nat) (y : α), C[b]? = some y → le (key x) (key y) := by
  intro b
  induction b using Nat.strongRecOn with
  | _ b ih =>
    intro y hb
    rcases Nat.eq_zero_or_pos b with rfl | hpos
    · rw [h0] at hb
      cases hb
      exact le_refl _
    · have hpb : par b < b := by unfold par; omega
      have hlt := (List.getElem?_eq_some_iff.1 hb).1
      have hm := List.getElem?_eq_getElem (l := C) (i := par b) (by omega)
      exact le_trans (ih (par b) hpb _ hm) (h b hpos _ _ hm hb)
end
end Go.Proofs.Ytpbabdoecjlifaa

/-
  The library's sort at the endpoints of a table; the contract of Endpoints.
-/
import Derived.Test.YtnglkdpmkgehoaaEp
namespace Go.Proofs.Ytnglkdpmkgehoaa
open Go.RowKit Go.Sort Go.Shelf
set_option linter.unusedVariables false
set_option linter.unusedSimpArgs false

theorem ltK (x y : Key) : ltOf cmpK x y = decide (x.1 < y.1 ∨ (x.1 = y.1 ∧ x.2 < y.2)) := by
  unfold ltOf cmpK cmpI
  by_cases h1 : x.1 < y.1
  · simp [h1]
  · by_cases h2 : y.1 < x.1
    · have : ¬ x.1 = y.1 := by omega
      simp [h1, h2, this]
    · have h3 : x.1 = y.1 := by omega
      by_cases h4 : x.2 < y.2
      · simp [h3, h4]
      · by_cases h5 : y.2 < x.2 <;> simp [h3, h4, h5]
theorem swoK : SWO (ltOf cmpK) where
  irrefl x := by rw [ltK]; simp
  trans x y z h1 h2 := by rw [ltK] at *; simp at *; omega
  ntrans x y z h1 h2 := by rw [ltK] at *; simp at *; omega
theorem totK (x y : Key) (h1 : ltOf cmpK x y = false) (h2 : ltOf cmpK y x = false) : x = y := by
  rw [ltK] at *
  simp at *
  obtain ⟨a, b⟩ := x
  obtain ⟨c, d⟩ := y
  simp at *
  omega
def sortK (l : List Key) : List Key := l.mergeSort fun x y => !ltOf cmpK y x
theorem sortK_perm (l : List Key) : (sortK l).Perm l := List.mergeSort_perm _ _
theorem sortK_sorted (l : List Key) : (sortK l).Pairwise (fun x y => (!ltOf cmpK y x) = true) := by
  refine List.pairwise_mergeSort (le := fun x y => !ltOf cmpK y x) ?_ ?_ l
  · intro a b c h1 h2
    simp only [Bool.not_eq_true'] at *
    exact swoK.ntrans _ _ _ h2 h1
  · intro a b
    simp only [ltK]
    simp
    omega
theorem sorted_unique : ∀ {l l' : List Key}, l.Perm l' → l.Pairwise (fun x y => (!ltOf cmpK y x) = true) → l'.Pairwise (fun x y => (!ltOf cmpK y x) = true) → l = l'
  | [], l', hp, _, _ => (List.nil_perm.1 hp).symm
  | x :: l, l', hp, h1, h2 => by
    cases l' with
    | nil => simp at hp
    | cons y l' =>
      have hxy : x = y := by
        have hx : x ∈ y :: l' := hp.subset List.mem_cons_self
        have hy : y ∈ x :: l := hp.symm.subset List.mem_cons_self
        rcases List.mem_cons.1 hx with e | hx
        · exact e
        rcases List.mem_cons.1 hy with e | hy
        · exact e.symm
        have a1 := (List.pairwise_cons.1 h1).1 y hy
        have a2 := (List.pairwise_cons.1 h2).1 x hx
        exact totK x y (by simpa using a2) (by simpa using a1)
      subst hxy
      rw [sorted_unique (List.Perm.cons_inv hp) (List.pairwise_cons.1 h1).2 (List.pairwise_cons.1 h2).2]
theorem sortK_of_perm {l l' : List Key} (h : l.Perm l') : sortK l = sortK l' :=
  sorted_unique ((sortK_perm l).trans (h.trans (sortK_perm l').symm)) (sortK_sorted l) (sortK_sorted l')

theorem sizeOf23 : ∀ w, (Go.sizeOf 23).run Try.prog w = .ok 2 w := by
  intro w
  kernel_rfl
theorem isAgg23 : ∀ w, (isAgg 23).run Try.prog w = .ok true w := by
  intro w
  kernel_rfl
theorem cmpLays38 (blk off size : Nat) (w : World) : CmpLays Try.prog 38 #[] encL 2 cmpK blk off size w := fun _ _ _ _ x y => clos_38 x y _
theorem sort_any (v : Value) (ks : List Key) (w0 w : World) (ho : OwnK w0 w v ks) (hl : ks.length ≤ 1000) :
    Calls Try.prog 37 #[v, .func (.func 38) #[] #[]] w fun e w' => e = .returned (.tuple #[]) ∧ OwnK w0 w' v (sortK ks) ∧ Touch v.ownBlock.toList w w' := by
  have eg : ∀ args w, (callFunc 38 args).run Try.prog w = .ok (.enter 38 args) w := enters_of Try.func38 (by kernel_rfl) rfl
  obtain ⟨a, c, rfl, _, _, h3⟩ := owns_form ho.row
  cases ks with
  | nil =>
    have hcon := AnyF.slices_SortFunc_none { Try.sortL with } a c (.func (.func 38) #[] #[]) w
    change Calls Try.prog 37 _ _ _ at hcon
    refine hcon.mono fun e w' ⟨he, hw⟩ => ⟨he, ?_⟩
    subst hw
    have : sortK [] = [] := by simp [sortK]
    rw [this]
    exact ⟨ho, Touch.refl _ _⟩
  | cons k ks =>
    obtain ⟨g, rfl⟩ := h3 (by simp)
    have hcon := AnyQ.slices_SortFunc_total Try.sortL 2 isAgg23 sizeOf23 encL (fun _ => rfl) encL_one cmpK swoK 38 #[] g 0 c (k :: ks).toArray w eg (cmpLays38 g 0 _ w) (owns_holds encL_len (k :: ks) ho.row) (ho.lt g rfl) (by simp at hl ⊢; omega) totK
    change Calls Try.prog 37 _ _ _ at hcon
    have hl2 : (sortK (k :: ks)).length = (k :: ks).length := (sortK_perm _).length_eq
    refine hcon.mono fun e w' ⟨he, n, os, hw⟩ => ⟨he, ?_⟩
    have hs := owns_sorted (n := n) (os := os) encL_len (k :: ks) (sortK (k :: ks)) hl2 ho.row
    have ht := touch_sorted (enc := encL) (k := 2) w g n (sortK (k :: ks)).toArray os
    have hw2 : w' = sortWorldK encL 2 w g 0 n (sortK (k :: ks)).toArray os := by rw [hw]; rfl
    rw [hw2]
    refine ⟨⟨?_, ho.new⟩, by simpa [Value.ownBlock] using ht⟩
    rw [hl2] at hs ⊢
    exact hs

/-- THE CONTRACT OF Endpoints. -/
theorem endpoints_any (t m u : Nat) (live : List Fd) (used : List Bool) (total : Int) (w : World) (h : Tab w t m u live used total) :
    Calls Try.prog 22 #[.pointer (some ⟨t, 0, none⟩)] w fun e w' => ∃ v, e = .returned v ∧ OwnK w w' v (sortK (live.map (·.key))) ∧ Touch [] w w' := by
  refine (collect_any t m u live used total w h ?_).mono ?_
  · intro v ks wr ho hp ht
    refine (sort_any v ks w wr ho (by have := hp.length_eq; have := h.few; simp at *; omega)).mono fun e w' ⟨he, ho', ht'⟩ => ⟨he, sortK ks, ho', (sortK_perm ks).trans hp, ?_, ht.trans ht' (fun x hx => .inr (ho.new x (by simpa using hx)))⟩
    refine (sortK_sorted ks).imp fun {x y} hxy hlt => ?_
    simp [ltOf, hlt] at hxy
  · rintro e w' ⟨v, ks, he, ho, hp, hs, ht⟩
    have : ks = sortK (live.map (·.key)) := by
      refine sorted_unique (hp.trans (sortK_perm _).symm) ?_ (sortK_sorted _)
      refine hs.imp fun {x y} hxy => ?_
      have h0 : ¬ cmpK y x < 0 := hxy
      simp [ltOf]
      omega
    rw [← this]
    exact ⟨v, he, ho, ht⟩
end Go.Proofs.Ytnglkdpmkgehoaa

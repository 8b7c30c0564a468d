/-
  The slice of addresses that came in, told as a list; what Interleave keeps. Plain.
-/
import Derived.Test.YtdpjfhogkllajaaArg
import Derived.Test.YtdpjfhogkllajaaIl
namespace Go.Proofs.Ytdpjfhogkllajaa
open Go.ChangeShapes Go.WideShapes Go.Deep
set_option linter.unusedVariables false
set_option linter.unusedSimpArgs false

theorem isAd_cells {H : Type} {enc : TypeId × Value → H} {w : World} {base : Nat} {spare : Nat → Bool} {held : Bool} {x : List Value}
    (h : CellsOk enc Try.prog w base spare held [4, 5, 5, 5, 5, 5, 5, 5, 5, 5, 5, 5, 5, 5, 5, 5, 5] x) : IsAd x := by
  obtain ⟨hl, hc⟩ := h
  cases x with
  | nil => simp at hl
  | cons u r =>
    obtain ⟨v, hv, l0⟩ := hc 0 4 rfl
    simp at hv
    subst hv
    obtain ⟨b, rfl⟩ := l0.bool Try.underlying4
    have hr : r.length = 16 := by simpa using hl
    have key : ∀ j, j < 16 → ∃ n : Int, r[j]? = some (.int .u8 n) ∧ 0 ≤ n ∧ n ≤ 255 := by
      intro j hj
      have : [4, 5, 5, 5, 5, 5, 5, 5, 5, 5, 5, 5, 5, 5, 5, 5, 5][j + 1]? = some 5 := by
        have : ∀ j : Fin 16, [4, 5, 5, 5, 5, 5, 5, 5, 5, 5, 5, 5, 5, 5, 5, 5, 5][j.val + 1]? = some 5 := by decide
        exact this ⟨j, hj⟩
      obtain ⟨v, hv, l⟩ := hc (j + 1) 5 this
      obtain ⟨n, rfl, hw⟩ := l.int Try.underlying5
      refine ⟨n, by simpa using hv, ?_⟩
      simp [Lit.wf, IntKind.min, IntKind.max, IntKind.signed, IntKind.bits] at hw
      omega
    refine ⟨b, r.map fun v => match v with | .int _ n => n | _ => 0, ?_, by simpa using hr, ?_⟩
    · unfold adr
      congr 1
      apply List.ext_getElem?
      intro j
      by_cases hj : j < 16
      · obtain ⟨n, hn, _⟩ := key j hj
        simp [hn]
      · simp [List.getElem?_eq_none (show r.length ≤ j by omega)]
    · intro y hy
      obtain ⟨z, hz, rfl⟩ := List.mem_map.1 hy
      obtain ⟨j, hj, rfl⟩ := List.getElem_of_mem hz
      obtain ⟨n, hn, h1, h2⟩ := key j (by omega)
      rw [List.getElem?_eq_getElem hj] at hn
      simp at hn
      rw [hn]
      exact ⟨h1, h2⟩

theorem fam_flag {b : Bool} {xs : List (List Value)} : ∀ x ∈ fam b xs, flagv x = b := by
  intro x hx
  have := (List.mem_filter.1 hx).2
  simpa using this
theorem fam_same {b : Bool} {xs : List (List Value)} (h : ∀ x ∈ xs, flagv x = b) : fam b xs = xs := by
  unfold fam
  rw [List.filter_eq_self]
  intro x hx
  simp [h x hx]
theorem fam_none {b : Bool} {xs : List (List Value)} (h : ∀ x ∈ xs, flagv x = !b) : fam b xs = [] := by
  unfold fam
  rw [List.filter_eq_nil_iff]
  intro x hx
  simp [h x hx]
theorem fam_append (b : Bool) (xs ys : List (List Value)) : fam b (xs ++ ys) = fam b xs ++ fam b ys := by simp [fam]
theorem fam_zip {c : Bool} : ∀ {os ls : List (List Value)}, (∀ o ∈ os, flagv o = !c) → (∀ l ∈ ls, flagv l = c) → fam c (zipR os ls) = ls ∧ fam (!c) (zipR os ls) = os
  | o :: os, l :: ls, ho, hl => by
    obtain ⟨h1, h2⟩ := fam_zip (os := os) (ls := ls) (fun x hx => ho x (List.mem_cons_of_mem _ hx)) (fun x hx => hl x (List.mem_cons_of_mem _ hx))
    have e1 := ho o List.mem_cons_self
    have e2 := hl l List.mem_cons_self
    simp only [fam] at h1 h2
    simp [zipR, fam, e1, e2, h1, h2]
  | [], ls, ho, hl => by
    rw [zipR_nil (.inl rfl)]
    simp only [List.append_nil]
    exact ⟨fam_same hl, fam_none (by simpa using hl)⟩
  | o :: os, [], ho, hl => by
    rw [zipR_nil (.inr rfl)]
    simp only [List.nil_append]
    exact ⟨fam_none ho, fam_same ho⟩
theorem fam_inter (xs : List (List Value)) (first : Int) (v6 b : Bool) : fam b (inter xs first v6) = fam b xs := by
  have key : fam v6 (inter xs first v6) = fam v6 xs ∧ fam (!v6) (inter xs first v6) = fam (!v6) xs := by
    unfold inter
    simp only
    by_cases h : fam v6 xs = []
    · rw [if_pos h, h]
      exact ⟨fam_none fam_flag, fam_same fam_flag⟩
    · rw [if_neg h]
      obtain ⟨h1, h2⟩ := fam_zip (c := v6) (os := fam (!v6) xs) (ls := (fam v6 xs).drop (lead first (fam v6 xs).length)) fam_flag (fun x hx => fam_flag x (List.mem_of_mem_drop hx))
      rw [fam_append, fam_append, h1, h2]
      have hf : ∀ x ∈ (fam v6 xs).take (lead first (fam v6 xs).length), flagv x = v6 := fun x hx => fam_flag x (List.mem_of_mem_take hx)
      rw [fam_same hf, fam_none (b := !v6) (by simpa using hf)]
      simp
  by_cases hb : b = v6
  · subst hb; exact key.1
  · obtain rfl : b = !v6 := by cases b <;> cases v6 <;> simp_all
    exact key.2
theorem fam_split (xs : List (List Value)) : xs.length = (fam true xs).length + (fam false xs).length := by
  induction xs with
  | nil => rfl
  | cons x xs ih =>
    simp only [fam, List.filter_cons] at ih ⊢
    cases h : flagv x <;> simp only [h, List.length_cons, beq_self_eq_true, if_true, Bool.true_beq, Bool.false_beq, Bool.not_true, Bool.false_eq_true, if_false, Bool.not_false, beq_iff_eq, Bool.true_eq_false, reduceCtorEq] <;> omega
theorem inter_len (xs : List (List Value)) (first : Int) (v6 : Bool) : (inter xs first v6).length = xs.length := by
  rw [fam_split, fam_split xs, fam_inter, fam_inter]
theorem inter_mem {xs : List (List Value)} (first : Int) (v6 : Bool) (h : ∀ x ∈ xs, IsAd x) : ∀ x ∈ inter xs first v6, IsAd x := by
  intro x hx
  have : x ∈ fam (flagv x) (inter xs first v6) := List.mem_filter.2 ⟨hx, by simp⟩
  rw [fam_inter] at this
  exact h x (List.mem_filter.1 this).1
end Go.Proofs.Ytdpjfhogkllajaa

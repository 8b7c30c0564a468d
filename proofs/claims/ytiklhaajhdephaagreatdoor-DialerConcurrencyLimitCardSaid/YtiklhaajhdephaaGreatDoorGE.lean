/-
  Merged texts: Sx, Sb.
-/
import Derived.WalkKit
import Derived.Test.YtiklhaajhdephaaGreatDoorGD

/-
 Stable sorting by plain lists: elements bear tags (their first places); the order by 'less' and then by tag is strict and total, so that a sorted rearrangement is the only one. No program in sight.
-/
namespace Go.Proofs.YtiklhaajhdephaaGreatDoor
set_option linter.unusedVariables false
set_option linter.unusedSimpArgs false
section
variable {A : Type}
/-- A strict weak order. -/
structure Weak (less : A → A → Bool) : Prop where
 asymm : ∀ a b, less a b = true → less b a = false
 neg : ∀ a b c, less a b = false → less b c = false → less a c = false
def tR (less : A → A → Bool) (p q : A × Nat) : Prop := less p.1 q.1 = true ∨ (less q.1 p.1 = false ∧ p.2 < q.2)
theorem tR_trans {less : A → A → Bool} (W : Weak less) {p q r : A × Nat} (h : tR less p q) (k : tR less q r) : tR less p r := by
 rcases h with h | ⟨h, ht⟩ <;> rcases k with k | ⟨k, kt⟩
 ·cases e : less p.1 r.1 with
  | true => exact .inl e
  | false =>
   have := W.neg _ _ _ e (W.asymm _ _ k)
   rw [this] at h; cases h
 ·cases e : less p.1 r.1 with
  | true => exact .inl e
  | false =>
   have := W.neg _ _ _ e k
   rw [this] at h; cases h
 ·cases e : less p.1 r.1 with
  | true => exact .inl e
  | false =>
   have := W.neg _ _ _ h e
   rw [this] at k; cases k
 ·exact .inr ⟨W.neg _ _ _ k h, by omega⟩
theorem tR_asymm {less : A → A → Bool} (W : Weak less) {p q : A × Nat} (h : tR less p q) (k : tR less q p) : False := by
 rcases h with h | ⟨h, ht⟩ <;> rcases k with k | ⟨k, kt⟩
 ·have := W.asymm _ _ h; rw [this] at k; cases k
 ·rw [h] at k; cases k
 ·rw [h] at k; cases k
 ·omega
abbrev Srt (less : A → A → Bool) (l : List (A × Nat)) : Prop := l.Pairwise (tR less)
theorem srt_unique {less : A → A → Bool} (W : Weak less) {l k : List (A × Nat)} (h : l.Perm k) (sl : Srt less l) (sk : Srt less k) : l = k :=
 List.Perm.eq_of_pairwise (fun a b _ _ h1 h2 => (tR_asymm W h1 h2).elim) sl sk h
/-- Every tag of l lies below every tag of k. -/
def TagLt (l k : List (A × Nat)) : Prop := ∀ p ∈ l, ∀ q ∈ k, p.2 < q.2
/-! ### the last of a sorted list, and its first -/
theorem srt_all_lt {less : A → A → Bool} (W : Weak less) {l : List (A × Nat)} {y q : A × Nat} (h : Srt less (l ++ [y])) (hq : tR less y q) : ∀ p ∈ l ++ [y], tR less p q := by
 intro p hp
 rw [List.mem_append] at hp
 rcases hp with hp | hp
 ·exact tR_trans W ((List.pairwise_append.1 h).2.2 p hp y (by simp)) hq
 ·simp at hp; subst hp; exact hq
theorem srt_all_gt {less : A → A → Bool} (W : Weak less) {l : List (A × Nat)} {y q : A × Nat} (h : Srt less (y :: l)) (hq : tR less q y) : ∀ p ∈ y :: l, tR less q p := by
 intro p hp
 simp only [List.mem_cons] at hp
 rcases hp with hp | hp
 ·subst hp; exact hq
 ·exact tR_trans W hq ((List.pairwise_cons.1 h).1 p hp)
/-! ### exchanges -/
theorem set_swap {B : Type} (U M V : List B) (x y : B) (i j : Nat) (hi : i = U.length) (hj : j = U.length + 1 + M.length) : ((U ++ x :: (M ++ y :: V)).set i y).set j x = U ++ y :: (M ++ x :: V) := by
 subst hi hj
 rw [List.set_append_right _ _ (Nat.le_refl _), Nat.sub_self, List.set_cons_zero, List.set_append_right _ _ (by omega)]
 rw [show U.length + 1 + M.length - U.length = M.length + 1 by omega, List.set_cons_succ, List.set_append_right _ _ (Nat.le_refl _), Nat.sub_self, List.set_cons_zero]
theorem set_swap' {B : Type} (U M V : List B) (x y : B) (i j : Nat) (hi : i = U.length) (hj : j = U.length + 1 + M.length) : ((U ++ x :: (M ++ y :: V)).set j x).set i y = U ++ y :: (M ++ x :: V) := by
 rw [← set_swap U M V x y i j hi hj, List.set_comm _ _ (by omega)]
/-! ### insertion sort -/
def bubbleG (less : A → A → Bool) (a : Nat) : Nat → List A → List A
 | 0, L => L
 | k + 1, L => match L[k + 1]?, L[k]? with
  | some x, some y => if a < k + 1 ∧ less x y = true then bubbleG less a k ((L.set (k + 1) y).set k x) else L
  | _, _ => L
def isortG (less : A → A → Bool) (l : List A) (a : Nat) : Nat → List A
 | 0 => l
 | k + 1 => bubbleG less a (a + 1 + k) (isortG less l a k)
theorem map_fst_get {T : List (A × Nat)} {U V : List (A × Nat)} {p : A × Nat} (h : T = U ++ p :: V) (i : Nat) (hi : i = U.length) : (T.map Prod.fst)[i]? = some p.1 := by
 subst h hi; simp
/-- One element is brought to its place. -/
theorem bubbleG_ins {less : A → A → Bool} (W : Weak less) (P : List (A × Nat)) (p : A × Nat) : ∀ (n : Nat) (S V : List (A × Nat)), S.length = n → Srt less S → (∀ q ∈ S, q.2 < p.2) →
  ∃ X, X.Perm (S ++ [p]) ∧ Srt less X ∧ bubbleG less P.length (P.length + n) ((P ++ S ++ p :: V).map Prod.fst) = (P ++ X ++ V).map Prod.fst
 | 0, S, V, hn, hs, ht => by
  have : S = [] := List.eq_nil_of_length_eq_zero hn
  subst this
  refine ⟨[p], by simp, by simp, ?_⟩
  have : ∀ j (L : List A), j ≤ P.length → bubbleG less P.length j L = L := by
   intro j L hj
   cases j with
   | zero => rfl
   | succ k =>
    unfold bubbleG
    split
    ·rw [if_neg (by rintro ⟨h, _⟩; omega)]
    ·rfl
  rw [this _ _ (by omega)]
  simp
 | n + 1, S, V, hn, hs, ht => by
  obtain ⟨S', y, rfl⟩ : ∃ S' y, S = S' ++ [y] := by
   rcases List.eq_nil_or_concat S with e | ⟨l, b, e⟩
   ·subst e; simp at hn
   ·exact ⟨l, b, by simpa using e⟩
  have hS' : S'.length = n := by simpa using hn
  have e1 : ((P ++ (S' ++ [y]) ++ p :: V).map Prod.fst)[P.length + n + 1]? = some p.1 :=
   map_fst_get (U := P ++ (S' ++ [y])) (V := V) rfl _ (by simp; omega)
  have e2 : ((P ++ (S' ++ [y]) ++ p :: V).map Prod.fst)[P.length + n]? = some y.1 :=
   map_fst_get (U := P ++ S') (V := p :: V) (by simp) _ (by simp; omega)
  have hss := List.pairwise_append.1 hs
  rw [show P.length + (n + 1) = P.length + n + 1 by omega]
  unfold bubbleG
  rw [e1, e2]
  cases hl : less p.1 y.1 with
  | true =>
   simp only
   rw [if_pos ⟨by omega, hl⟩]
   obtain ⟨X, hp, hx, he⟩ := bubbleG_ins W P p n S' (y :: V) hS' hss.1 (fun q hq => ht q (by simp [hq]))
   have hsw : ((((P ++ (S' ++ [y]) ++ p :: V).map Prod.fst).set (P.length + n + 1) y.1).set (P.length + n) p.1) = (P ++ S' ++ p :: y :: V).map Prod.fst := by
    have := set_swap' ((P ++ S').map Prod.fst) [] (V.map Prod.fst) y.1 p.1 (P.length + n) (P.length + n + 1) (by simp; omega) (by simp; omega)
    simpa using this
   rw [hsw, he]
   refine ⟨X ++ [y], ?_, ?_, by simp⟩
   ·have h1 := hp.append_right [y]
    refine h1.trans ?_
    rw [List.append_assoc, List.append_assoc]
    exact List.Perm.append_left _ (List.perm_append_comm (l₁ := [p]) (l₂ := [y]))
   ·refine List.pairwise_append.2 ⟨hx, by simp, ?_⟩
    intro q hq z hz
    simp at hz; subst hz
    have := hp.mem_iff.1 hq
    simp only [List.mem_append, List.mem_singleton] at this
    rcases this with h | h
    ·exact hss.2.2 q h z (by simp)
    ·subst h; exact .inl hl
  | false =>
   simp only
   rw [if_neg (by simp [hl])]
   refine ⟨S' ++ [y] ++ [p], by simp, ?_, by simp⟩
   refine List.pairwise_append.2 ⟨hs, by simp, ?_⟩
   intro q hq z hz
   simp at hz; subst hz
   exact srt_all_lt W hs (.inr ⟨hl, ht y (by simp)⟩) q (by simpa using hq)
/-- The insertion sort of a part. -/
theorem isortG_srt {less : A → A → Bool} (W : Weak less) (P S : List (A × Nat)) : ∀ (n : Nat) (X Y : List (A × Nat)), X.length = n + 1 → (X ++ Y).Pairwise (fun p q => p.2 < q.2) →
  ∃ Z, Z.Perm X ∧ Srt less Z ∧ isortG less ((P ++ X ++ Y ++ S).map Prod.fst) P.length n = (P ++ Z ++ Y ++ S).map Prod.fst
 | 0, X, Y, hn, ht => by
  obtain ⟨x, rfl⟩ := List.length_eq_one_iff.1 hn
  exact ⟨[x], .refl _, by simp, rfl⟩
 | n + 1, X, Y, hn, ht => by
  obtain ⟨X', p, rfl⟩ : ∃ S' y, X = S' ++ [y] := by
   rcases List.eq_nil_or_concat X with e | ⟨l, b, e⟩
   ·subst e; simp at hn
   ·exact ⟨l, b, by simpa using e⟩
  have hX' : X'.length = n + 1 := by simpa using hn
  obtain ⟨Z, hz, hs, he⟩ := isortG_srt W P S n X' (p :: Y) hX' (by simpa using ht)
  have hzt : ∀ q ∈ Z, q.2 < p.2 := by
   intro q hq
   have := (List.pairwise_append.1 (List.pairwise_append.1 ht).1).2.2 q (hz.mem_iff.1 hq) p (by simp)
   exact this
  obtain ⟨X2, hp2, hs2, he2⟩ := bubbleG_ins W P p (n + 1) Z (Y ++ S) (by rw [hz.length_eq, hX']) hs hzt
  refine ⟨X2, hp2.trans (hz.append_right _), hs2, ?_⟩
  rw [isortG, show P.length + 1 + n = P.length + (n + 1) by omega]
  have e0 : P ++ (X' ++ [p]) ++ Y ++ S = P ++ X' ++ (p :: Y) ++ S := by simp
  rw [e0, he]
  have e1 : P ++ Z ++ p :: Y ++ S = P ++ Z ++ p :: (Y ++ S) := by simp
  rw [e1, he2]
  simp
/-! ### merging -/
theorem sym_one_right {less : A → A → Bool} (W : Weak less) {y : A × Nat} {A1 A2 : List (A × Nat)} (hA : Srt less (A1 ++ A2)) (ht : TagLt (A1 ++ A2) [y])
  (h1 : ∀ x, A1.getLast? = some x → less y.1 x.1 = false) (h2 : ∀ x, A2.head? = some x → less y.1 x.1 = true) : (A1 ++ y :: A2).Perm (A1 ++ A2 ++ [y]) ∧ Srt less (A1 ++ y :: A2) := by
 refine ⟨List.perm_middle.trans (List.perm_append_comm (l₁ := [y]) (l₂ := A1 ++ A2)), ?_⟩
 have hA' := List.pairwise_append.1 hA
 have a1 : ∀ p ∈ A1, tR less p y := by
  intro p hp
  rcases List.eq_nil_or_concat A1 with e | ⟨L, x, e⟩
  ·subst e; simp at hp
  ·rw [List.concat_eq_append] at e
   subst e
   exact srt_all_lt W hA'.1 (.inr ⟨h1 x (by simp), ht x (by simp) y (by simp)⟩) p hp
 have a2 : ∀ p ∈ A2, tR less y p := by
  intro p hp
  cases A2 with
  | nil => simp at hp
  | cons x R => exact srt_all_gt W hA'.2.1 (.inl (h2 x (by simp))) p hp
 refine List.pairwise_append.2 ⟨hA'.1, List.pairwise_cons.2 ⟨a2, hA'.2.1⟩, ?_⟩
 intro p hp q hq
 simp only [List.mem_cons] at hq
 rcases hq with rfl | hq
 ·exact a1 p hp
 ·exact hA'.2.2 p hp q hq
/-! ### the sorted list -/
/-- Where x is put in: as far to the left as it is less. -/
def insK (less : A → A → Bool) (x : A) (out : List A) : Nat → Nat
 | 0 => 0
 | k + 1 => match out[k]? with
  | some y => if less x y = true then insK less x out k else k + 1
  | none => k + 1
def insS (less : A → A → Bool) (out : List A) (x : A) : List A := out.take (insK less x out out.length) ++ x :: out.drop (insK less x out out.length)
/-- The sorted list, by insertion. -/
def sortS (less : A → A → Bool) (l : List A) : List A := l.foldl (insS less) []
theorem insK_le (less : A → A → Bool) (x : A) (out : List A) : ∀ k, insK less x out k ≤ k
 | 0 => Nat.le_refl _
 | k + 1 => by
  unfold insK
  split
  ·split
   ·exact Nat.le_succ_of_le (insK_le less x out k)
   ·exact Nat.le_refl _
  ·exact Nat.le_refl _
theorem insS_len (less : A → A → Bool) (out : List A) (x : A) : (insS less out x).length = out.length + 1 := by
 have := insK_le less x out out.length
 simp [insS]; omega
theorem insK_spec {less : A → A → Bool} (x : A) (out : List A) : ∀ k, k ≤ out.length → (∀ y, out[insK less x out k - 1]? = some y → 0 < insK less x out k → less x y = false) ∧ (∀ j y, insK less x out k ≤ j → j < k → out[j]? = some y → less x y = true)
 | 0, _ => ⟨fun y h0 h => by simp [insK] at h, fun j y h1 h2 => by omega⟩
 | k + 1, hk => by
  obtain ⟨y, hy⟩ : ∃ y, out[k]? = some y := ⟨_, List.getElem?_eq_getElem (by omega)⟩
  have ih := insK_spec (less := less) x out k (by omega)
  have e : insK less x out (k + 1) = if less x y = true then insK less x out k else k + 1 := by rw [insK, hy]
  rw [e]
  split
  ·rename_i hl
   refine ⟨ih.1, ?_⟩
   intro j z h1 h2 h3
   by_cases ej : j = k
   ·subst ej; rw [hy] at h3; cases h3; exact hl
   ·exact ih.2 j z h1 (by omega) h3
  ·rename_i hl
   refine ⟨?_, fun j z h1 h2 => by omega⟩
   intro z hz _
   rw [Nat.add_sub_cancel, hy] at hz
   cases hz
   simpa using hl
theorem insS_tag {less : A → A → Bool} (W : Weak less) {T : List (A × Nat)} {p : A × Nat} (hs : Srt less T) (ht : ∀ q ∈ T, q.2 < p.2) :
  ∃ Z, Z.Perm (T ++ [p]) ∧ Srt less Z ∧ insS less (T.map Prod.fst) p.1 = Z.map Prod.fst := by
 let k := insK less p.1 (T.map Prod.fst) T.length
 have hk : k ≤ T.length := insK_le _ _ _ _
 have sp := insK_spec (less := less) p.1 (T.map Prod.fst) T.length (by simp)
 refine ⟨T.take k ++ p :: T.drop k, ?_, ?_, ?_⟩
 ·refine List.perm_middle.trans ?_
  rw [List.take_append_drop]
  exact List.perm_append_comm (l₁ := [p]) (l₂ := T)
 ·have hT : Srt less (T.take k ++ T.drop k) := by rw [List.take_append_drop]; exact hs
  refine (sym_one_right W (y := p) hT (by rw [List.take_append_drop]; intro q hq z hz; simp at hz; subst hz; exact ht q hq) ?_ ?_).2
  ·intro x hx
   have h0 : 0 < k := by
    rcases Nat.eq_zero_or_pos k with h | h
    ·rw [h] at hx; simp at hx
    ·exact h
   refine sp.1 x.1 ?_ h0
   rw [List.getLast?_eq_getElem?, List.length_take, Nat.min_eq_left hk, List.getElem?_take, if_pos (by omega)] at hx
   simpa using ⟨x.2, hx⟩
  ·intro x hx
   rw [List.head?_drop] at hx
   have hlt : k < T.length := by
    rcases Nat.lt_or_ge k T.length with h | h
    ·exact h
    ·rw [List.getElem?_eq_none h] at hx; cases hx
   exact sp.2 k x.1 (Nat.le_refl _) hlt (by simpa using ⟨x.2, hx⟩)
 ·have : insK less p.1 (T.map Prod.fst) (T.map Prod.fst).length = k := by simp [k]
  unfold insS
  rw [this]
  simp [List.map_take, List.map_drop]
theorem sortS_tag_from {less : A → A → Bool} (W : Weak less) : ∀ (l : List (A × Nat)) (T : List (A × Nat)), Srt less T → (T ++ l).Pairwise (fun p q => p.2 < q.2) ∨ (l.Pairwise (fun p q => p.2 < q.2) ∧ TagLt T l) →
  ∃ Z, Z.Perm (T ++ l) ∧ Srt less Z ∧ (l.map Prod.fst).foldl (insS less) (T.map Prod.fst) = Z.map Prod.fst
 | [], T, hs, _ => ⟨T, by simp, hs, rfl⟩
 | p :: l, T, hs, ht => by
  have ht2 : (p :: l).Pairwise (fun p q => p.2 < q.2) ∧ TagLt T (p :: l) := by
   rcases ht with h | h
   ·have := List.pairwise_append.1 h
    exact ⟨this.2.1, this.2.2⟩
   ·exact h
  obtain ⟨Z, hz, hzs, he⟩ := insS_tag W (p := p) hs (fun q hq => ht2.2 q hq p (by simp))
  have hp := List.pairwise_cons.1 ht2.1
  obtain ⟨Z2, hz2, hzs2, he2⟩ := sortS_tag_from W l Z hzs (.inr ⟨hp.2, by
   intro q hq z hzl
   have := hz.mem_iff.1 hq
   simp only [List.mem_append, List.mem_singleton] at this
   rcases this with h | h
   ·exact ht2.2 q h z (by simp [hzl])
   ·subst h; exact hp.1 z hzl⟩)
  refine ⟨Z2, hz2.trans ?_, hzs2, ?_⟩
  ·have := hz.append_right l
   simpa using this
  ·rw [List.map_cons, List.foldl_cons, he, he2]
/-- The sorted list is the one sorted rearrangement of the tagged elements. -/
theorem sortS_tag {less : A → A → Bool} (W : Weak less) (T : List (A × Nat)) (ht : T.Pairwise (fun p q => p.2 < q.2)) : ∃ Z, Z.Perm T ∧ Srt less Z ∧ sortS less (T.map Prod.fst) = Z.map Prod.fst := by
 obtain ⟨Z, h1, h2, h3⟩ := sortS_tag_from W T [] (by simp) (.inl (by simpa using ht))
 exact ⟨Z, by simpa using h1, h2, h3⟩
theorem sortS_eq {less : A → A → Bool} (W : Weak less) {T Z : List (A × Nat)} (ht : T.Pairwise (fun p q => p.2 < q.2)) (hz : Z.Perm T) (hs : Srt less Z) : Z.map Prod.fst = sortS less (T.map Prod.fst) := by
 obtain ⟨Z', h1, h2, h3⟩ := sortS_tag W T ht
 rw [h3, srt_unique W (hz.trans h1.symm) hs h2]
/-- The tagged list. -/
theorem tagged (l : List A) : (l.zipIdx.map Prod.fst) = l ∧ (l.zipIdx).Pairwise (fun p q => p.2 < q.2) := by
 refine ⟨List.zipIdx_map_fst 0 l, ?_⟩
 rw [List.pairwise_iff_getElem]
 intro i j hi hj hij
 simp
 exact hij
theorem foldl_insS_len (less : A → A → Bool) (l : List A) (out : List A) : (l.foldl (insS less) out).length = out.length + l.length := by
 induction l generalizing out with
 | nil => simp
 | cons x l ih => rw [List.foldl_cons, ih, insS_len]; simp; omega
theorem sortS_len (less : A → A → Bool) (l : List A) : (sortS less l).length = l.length := by simp [sortS, foldl_insS_len]
theorem sortS_perm {less : A → A → Bool} (W : Weak less) (l : List A) : (sortS less l).Perm l := by
 obtain ⟨t1, t2⟩ := tagged l
 obtain ⟨Z, h1, h2, h3⟩ := sortS_tag W _ t2
 rw [t1] at h3
 rw [h3]
 have := h1.map Prod.fst
 rwa [t1] at this
end
end Go.Proofs.YtiklhaajhdephaaGreatDoor

/-
 The insertion sort of at most twenty addresses is the stable sort of the list. No program in sight.
-/
namespace Go.Proofs.YtiklhaajhdephaaGreatDoor
open Go.RowKit
set_option linter.unusedVariables false
set_option linter.unusedSimpArgs false

abbrev TA := Ad × Nat
theorem cmpP_neg (x y : Int) : cmpP x y < 0 ↔ x < y := by unfold cmpP; split <;> (try split) <;> omega
theorem cmpP_zero (x y : Int) : cmpP x y = 0 ↔ x = y := by unfold cmpP; split <;> (try split) <;> omega
theorem less_iff (x y : Ad) : x.less y = true ↔ precP y.b y.xs < precP x.b x.xs ∨ (precP y.b y.xs = precP x.b x.xs ∧ scopeP x.b x.xs < scopeP y.b y.xs) := by
 rw [Ad.less_eq, decide_eq_true_eq]
 unfold Ad.comp compP orP
 split
 ·rename_i h
  rw [cmpP_zero] at h
  rw [cmpP_neg]; omega
 ·rename_i h
  rw [cmpP_zero] at h
  rw [cmpP_neg]; omega
theorem less_not (x y : Ad) : x.less y = false ↔ ¬ (precP y.b y.xs < precP x.b x.xs ∨ (precP y.b y.xs = precP x.b x.xs ∧ scopeP x.b x.xs < scopeP y.b y.xs)) := by
 rw [← less_iff, Bool.not_eq_true]
theorem Ad.weak : Weak Ad.less where
 asymm := fun a b h => by rw [less_iff] at h; rw [less_not]; omega
 neg := fun a b c h k => by rw [less_not] at h k ⊢; omega

theorem bubble_G (a : Nat) : ∀ (k : Nat) (L : List Ad), bubble a k L = bubbleG Ad.less a k L
 | 0, L => rfl
 | k + 1, L => by
  unfold bubble bubbleG
  cases L[k + 1]? with
  | none => rfl
  | some x =>
   cases L[k]? with
   | none => rfl
   | some y =>
    simp only
    split
    ·exact bubble_G a k _
    ·rfl
theorem isort_G (l : List Ad) (a : Nat) : ∀ k, isortN l a k = isortG Ad.less l a k
 | 0 => rfl
 | k + 1 => by rw [isortN, isortG, isort_G l a k, bubble_G]
theorem sorted_eq (l : List Ad) (Z : List TA) (hp : Z.Perm l.zipIdx) (hs : Srt Ad.less Z) : Z.map Prod.fst = sortS Ad.less l := by
 obtain ⟨t1, t2⟩ := tagged l
 rw [sortS_eq Ad.weak t2 hp hs, t1]
/-- At most twenty elements. -/
theorem sortP_eq (l : List Ad) : sortP l = sortS Ad.less l := by
 unfold sortP
 rcases Nat.eq_zero_or_pos l.length with h | h
 ·have : l = [] := List.eq_nil_of_length_eq_zero h
  subst this; rfl
 ·obtain ⟨t1, t2⟩ := tagged l
  obtain ⟨Z, z1, z2, z3⟩ := isortG_srt Ad.weak [] [] (l.length - 1) l.zipIdx [] (by simp; omega) (by simpa using t2)
  rw [isort_G]
  have e : (([] : List TA) ++ l.zipIdx ++ [] ++ []).map Prod.fst = l := by simp
  rw [e] at z3
  rw [List.length_nil] at z3
  rw [z3]
  have := sorted_eq l Z z1 z2
  simpa using this
theorem sort20_any (v : Value) (b : Nat) (l : List Ad) (w : World) (hv : Rd w 17 b v (l.map Ad.cells)) (hl : l.length ≤ 20) :
  Calls Tryz.prog 105 #[v] w fun e w' => ∃ v', e = .returned v' ∧ OwnA w w' v' (sortS Ad.less l) ∧ Touch [] w w' := by
 rw [← sortP_eq]
 exact sort_any v b l w hv hl
end Go.Proofs.YtiklhaajhdephaaGreatDoor

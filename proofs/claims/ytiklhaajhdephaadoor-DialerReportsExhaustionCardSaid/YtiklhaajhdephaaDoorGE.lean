/-
  Merged texts: Sx, Sv, Sw, Sy.
-/
import Derived.WalkKit
import Derived.Test.YtiklhaajhdephaaDoorGD

/-
  Stable sorting by plain lists: elements bear tags (their first places); the order by 'less' and then by tag is strict and total, so that a sorted rearrangement is the only one. No program in sight.
-/
namespace Go.Proofs.YtiklhaajhdephaaDoor
set_option linter.unusedVariables false
set_option linter.unusedSimpArgs false
section
variable {A : Type}
/-- A strict weak order. -/
structure Weak (less : A → A → Bool) : Prop where
  asymm : ∀ a b, less a b = true → less b a = false
  neg : ∀ a b c, less a b = false → less b c = false → less a c = false
def tR (less : A → A → Bool) (p q : A × Nat) : Prop := less p.1 q.1 = true ∨ (less q.1 p.1 = false ∧ p.2 < q.2)
theorem tR_trans {less : A → A → Bool} (W : Weak less) {p q r : A × Nat} (h : tR less p q) (k : tR less q r) : tR less p r := by
  rcases h with h | ⟨h, ht⟩ <;> rcases k with k | ⟨k, kt⟩
  · cases e : less p.1 r.1 with
    | true => exact .inl e
    | false =>
      have := W.neg _ _ _ e (W.asymm _ _ k)
      rw [this] at h; cases h
  · cases e : less p.1 r.1 with
    | true => exact .inl e
    | false =>
      have := W.neg _ _ _ e k
      rw [this] at h; cases h
  · cases e : less p.1 r.1 with
    | true => exact .inl e
    | false =>
      have := W.neg _ _ _ h e
      rw [this] at k; cases k
  · exact .inr ⟨W.neg _ _ _ k h, by omega⟩
theorem tR_asymm {less : A → A → Bool} (W : Weak less) {p q : A × Nat} (h : tR less p q) (k : tR less q p) : False := by
  rcases h with h | ⟨h, ht⟩ <;> rcases k with k | ⟨k, kt⟩
  · have := W.asymm _ _ h; rw [this] at k; cases k
  · rw [h] at k; cases k
  · rw [h] at k; cases k
  · omega
abbrev Srt (less : A → A → Bool) (l : List (A × Nat)) : Prop := l.Pairwise (tR less)
theorem srt_unique {less : A → A → Bool} (W : Weak less) {l k : List (A × Nat)} (h : l.Perm k) (sl : Srt less l) (sk : Srt less k) : l = k :=
  List.Perm.eq_of_pairwise (fun a b _ _ h1 h2 => (tR_asymm W h1 h2).elim) sl sk h
/-- Every tag of l lies below every tag of k. -/
def TagLt (l k : List (A × Nat)) : Prop := ∀ p ∈ l, ∀ q ∈ k, p.2 < q.2
/-! ### the last of a sorted list, and its first -/
theorem srt_all_lt {less : A → A → Bool} (W : Weak less) {l : List (A × Nat)} {y q : A × Nat} (h : Srt less (l ++ [y])) (hq : tR less y q) : ∀ p ∈ l ++ [y], tR less p q := by
  intro p hp
  rw [List.mem_append] at hp
  rcases hp with hp | hp
  · exact tR_trans W ((List.pairwise_append.1 h).2.2 p hp y (by simp)) hq
  · simp at hp; subst hp; exact hq
theorem srt_all_gt {less : A → A → Bool} (W : Weak less) {l : List (A × Nat)} {y q : A × Nat} (h : Srt less (y :: l)) (hq : tR less q y) : ∀ p ∈ y :: l, tR less q p := by
  intro p hp
  simp only [List.mem_cons] at hp
  rcases hp with hp | hp
  · subst hp; exact hq
  · exact tR_trans W hq ((List.pairwise_cons.1 h).1 p hp)
/-! ### exchanges -/
theorem set_swap {B : Type} (U M V : List B) (x y : B) (i j : Nat) (hi : i = U.length) (hj : j = U.length + 1 + M.length) : ((U ++ x :: (M ++ y :: V)).set i y).set j x = U ++ y :: (M ++ x :: V) := by
  subst hi hj
  rw [List.set_append_right _ _ (Nat.le_refl _), Nat.sub_self, List.set_cons_zero, List.set_append_right _ _ (by omega)]
  rw [show U.length + 1 + M.length - U.length = M.length + 1 by omega, List.set_cons_succ, List.set_append_right _ _ (Nat.le_refl _), Nat.sub_self, List.set_cons_zero]
theorem set_swap' {B : Type} (U M V : List B) (x y : B) (i j : Nat) (hi : i = U.length) (hj : j = U.length + 1 + M.length) : ((U ++ x :: (M ++ y :: V)).set j x).set i y = U ++ y :: (M ++ x :: V) := by
  rw [← set_swap U M V x y i j hi hj, List.set_comm _ _ (by omega)]
/-! ### insertion sort -/
def bubbleG (less : A → A → Bool) (a : Nat) : Nat → List A → List A
  | 0, L => L
  | k + 1, L => match L[k + 1]?, L[k]? with
    | some x, some y => if a < k + 1 ∧ less x y = true then bubbleG less a k ((L.set (k + 1) y).set k x) else L
    | _, _ => L
def isortG (less : A → A → Bool) (l : List A) (a : Nat) : Nat → List A
  | 0 => l
  | k + 1 => bubbleG less a (a + 1 + k) (isortG less l a k)
theorem map_fst_get {T : List (A × Nat)} {U V : List (A × Nat)} {p : A × Nat} (h : T = U ++ p :: V) (i : Nat) (hi : i = U.length) : (T.map Prod.fst)[i]? = some p.1 := by
  subst h hi; simp
/-- One element is brought to its place. -/
theorem bubbleG_ins {less : A → A → Bool} (W : Weak less) (P : List (A × Nat)) (p : A × Nat) : ∀ (n : Nat) (S V : List (A × Nat)), S.length = n → Srt less S → (∀ q ∈ S, q.2 < p.2) →
    ∃ X, X.Perm (S ++ [p]) ∧ Srt less X ∧ bubbleG less P.length (P.length + n) ((P ++ S ++ p :: V).map Prod.fst) = (P ++ X ++ V).map Prod.fst
  | 0, S, V, hn, hs, ht => by
    have : S = [] := List.eq_nil_of_length_eq_zero hn
    subst this
    refine ⟨[p], by simp, by simp, ?_⟩
    have : ∀ j (L : List A), j ≤ P.length → bubbleG less P.length j L = L := by
      intro j L hj
      cases j with
      | zero => rfl
      | succ k =>
        unfold bubbleG
        split
        · rw [if_neg (by rintro ⟨h, _⟩; omega)]
        · rfl
    rw [this _ _ (by omega)]
    simp
  | n + 1, S, V, hn, hs, ht => by
    obtain ⟨S', y, rfl⟩ : ∃ S' y, S = S' ++ [y] := by
      rcases List.eq_nil_or_concat S with e | ⟨l, b, e⟩
      · subst e; simp at hn
      · exact ⟨l, b, by simpa using e⟩
    have hS' : S'.length = n := by simpa using hn
    have e1 : ((P ++ (S' ++ [y]) ++ p :: V).map Prod.fst)[P.length + n + 1]? = some p.1 :=
      map_fst_get (U := P ++ (S' ++ [y])) (V := V) rfl _ (by simp; omega)
    have e2 : ((P ++ (S' ++ [y]) ++ p :: V).map Prod.fst)[P.length + n]? = some y.1 :=
      map_fst_get (U := P ++ S') (V := p :: V) (by simp) _ (by simp; omega)
    have hss := List.pairwise_append.1 hs
    rw [show P.length + (n + 1) = P.length + n + 1 by omega]
    unfold bubbleG
    rw [e1, e2]
    cases hl : less p.1 y.1 with
    | true =>
      simp only
      rw [if_pos ⟨by omega, hl⟩]
      obtain ⟨X, hp, hx, he⟩ := bubbleG_ins W P p n S' (y :: V) hS' hss.1 (fun q hq => ht q (by simp [hq]))
      have hsw : ((((P ++ (S' ++ [y]) ++ p :: V).map Prod.fst).set (P.length + n + 1) y.1).set (P.length + n) p.1) = (P ++ S' ++ p :: y :: V).map Prod.fst := by
        have := set_swap' ((P ++ S').map Prod.fst) [] (V.map Prod.fst) y.1 p.1 (P.length + n) (P.length + n + 1) (by simp; omega) (by simp; omega)
        simpa using this
      rw [hsw, he]
      refine ⟨X ++ [y], ?_, ?_, by simp⟩
      · have h1 := hp.append_right [y]
        refine h1.trans ?_
        rw [List.append_assoc, List.append_assoc]
        exact List.Perm.append_left _ (List.perm_append_comm (l₁ := [p]) (l₂ := [y]))
      · refine List.pairwise_append.2 ⟨hx, by simp, ?_⟩
        intro q hq z hz
        simp at hz; subst hz
        have := hp.mem_iff.1 hq
        simp only [List.mem_append, List.mem_singleton] at this
        rcases this with h | h
        · exact hss.2.2 q h z (by simp)
        · subst h; exact .inl hl
    | false =>
      simp only
      rw [if_neg (by simp [hl])]
      refine ⟨S' ++ [y] ++ [p], by simp, ?_, by simp⟩
      refine List.pairwise_append.2 ⟨hs, by simp, ?_⟩
      intro q hq z hz
      simp at hz; subst hz
      exact srt_all_lt W hs (.inr ⟨hl, ht y (by simp)⟩) q (by simpa using hq)
/-- The insertion sort of a part. -/
theorem isortG_srt {less : A → A → Bool} (W : Weak less) (P S : List (A × Nat)) : ∀ (n : Nat) (X Y : List (A × Nat)), X.length = n + 1 → (X ++ Y).Pairwise (fun p q => p.2 < q.2) →
    ∃ Z, Z.Perm X ∧ Srt less Z ∧ isortG less ((P ++ X ++ Y ++ S).map Prod.fst) P.length n = (P ++ Z ++ Y ++ S).map Prod.fst
  | 0, X, Y, hn, ht => by
    obtain ⟨x, rfl⟩ := List.length_eq_one_iff.1 hn
    exact ⟨[x], .refl _, by simp, rfl⟩
  | n + 1, X, Y, hn, ht => by
    obtain ⟨X', p, rfl⟩ : ∃ S' y, X = S' ++ [y] := by
      rcases List.eq_nil_or_concat X with e | ⟨l, b, e⟩
      · subst e; simp at hn
      · exact ⟨l, b, by simpa using e⟩
    have hX' : X'.length = n + 1 := by simpa using hn
    obtain ⟨Z, hz, hs, he⟩ := isortG_srt W P S n X' (p :: Y) hX' (by simpa using ht)
    have hzt : ∀ q ∈ Z, q.2 < p.2 := by
      intro q hq
      have := (List.pairwise_append.1 (List.pairwise_append.1 ht).1).2.2 q (hz.mem_iff.1 hq) p (by simp)
      exact this
    obtain ⟨X2, hp2, hs2, he2⟩ := bubbleG_ins W P p (n + 1) Z (Y ++ S) (by rw [hz.length_eq, hX']) hs hzt
    refine ⟨X2, hp2.trans (hz.append_right _), hs2, ?_⟩
    rw [isortG, show P.length + 1 + n = P.length + (n + 1) by omega]
    have e0 : P ++ (X' ++ [p]) ++ Y ++ S = P ++ X' ++ (p :: Y) ++ S := by simp
    rw [e0, he]
    have e1 : P ++ Z ++ p :: Y ++ S = P ++ Z ++ p :: (Y ++ S) := by simp
    rw [e1, he2]
    simp
/-! ### merging -/
/-- The halves of a merge by symmetry: where the two cuts fit, everything of the first half comes ahead of everything of the second. -/
theorem sym_cross {less : A → A → Bool} (W : Weak less) {A1 A2 B1 B2 : List (A × Nat)} (hA : Srt less (A1 ++ A2)) (hB : Srt less (B1 ++ B2)) (ht : TagLt (A1 ++ A2) (B1 ++ B2))
    (h1 : ∀ x y, A1.getLast? = some x → B2.head? = some y → less y.1 x.1 = false) (h2 : ∀ x y, B1.getLast? = some x → A2.head? = some y → less x.1 y.1 = true) :
    ∀ p ∈ A1 ++ B1, ∀ q ∈ A2 ++ B2, tR less p q := by
  have hA' := List.pairwise_append.1 hA
  have hB' := List.pairwise_append.1 hB
  have c1 : ∀ p ∈ A1, ∀ q ∈ B2, tR less p q := by
    intro p hp q hq
    rcases List.eq_nil_or_concat A1 with e | ⟨L, x, e⟩
    · subst e; simp at hp
    · cases B2 with
      | nil => simp at hq
      | cons y R =>
        rw [List.concat_eq_append] at e
        subst e
        have hxy : tR less x y := .inr ⟨h1 x y (by simp) (by simp), ht x (by simp) y (by simp)⟩
        exact srt_all_gt W hB'.2.1 (srt_all_lt W hA'.1 hxy p hp) q hq
  have c2 : ∀ p ∈ B1, ∀ q ∈ A2, tR less p q := by
    intro p hp q hq
    rcases List.eq_nil_or_concat B1 with e | ⟨L, x, e⟩
    · subst e; simp at hp
    · cases A2 with
      | nil => simp at hq
      | cons y R =>
        rw [List.concat_eq_append] at e
        subst e
        have hxy : tR less x y := .inl (h2 x y (by simp) (by simp))
        exact srt_all_gt W hA'.2.1 (srt_all_lt W hB'.1 hxy p hp) q hq
  intro p hp q hq
  rw [List.mem_append] at hp hq
  rcases hp with hp | hp <;> rcases hq with hq | hq
  · exact hA'.2.2 p hp q hq
  · exact c1 p hp q hq
  · exact c2 p hp q hq
  · exact hB'.2.2 p hp q hq
theorem sym_join {less : A → A → Bool} {A1 A2 B1 B2 X1 X2 : List (A × Nat)} (hc : ∀ p ∈ A1 ++ B1, ∀ q ∈ A2 ++ B2, tR less p q) (p1 : X1.Perm (A1 ++ B1)) (s1 : Srt less X1) (p2 : X2.Perm (A2 ++ B2)) (s2 : Srt less X2) :
    (X1 ++ X2).Perm (A1 ++ A2 ++ (B1 ++ B2)) ∧ Srt less (X1 ++ X2) := by
  refine ⟨(p1.append p2).trans ?_, List.pairwise_append.2 ⟨s1, s2, fun p hp q hq => hc p (p1.mem_iff.1 hp) q (p2.mem_iff.1 hq)⟩⟩
  rw [List.append_assoc, List.append_assoc]
  refine List.Perm.append_left _ ?_
  rw [← List.append_assoc, ← List.append_assoc]
  exact List.Perm.append_right _ List.perm_append_comm
/-- One element ahead of many. -/
theorem sym_one_left {less : A → A → Bool} (W : Weak less) {x : A × Nat} {B1 B2 : List (A × Nat)} (hB : Srt less (B1 ++ B2)) (ht : TagLt [x] (B1 ++ B2))
    (h1 : ∀ y, B1.getLast? = some y → less y.1 x.1 = true) (h2 : ∀ y, B2.head? = some y → less y.1 x.1 = false) : (B1 ++ x :: B2).Perm ([x] ++ (B1 ++ B2)) ∧ Srt less (B1 ++ x :: B2) := by
  refine ⟨List.perm_middle, ?_⟩
  have hB' := List.pairwise_append.1 hB
  have a1 : ∀ p ∈ B1, tR less p x := by
    intro p hp
    rcases List.eq_nil_or_concat B1 with e | ⟨L, y, e⟩
    · subst e; simp at hp
    · rw [List.concat_eq_append] at e
      subst e
      exact srt_all_lt W hB'.1 (.inl (h1 y (by simp))) p hp
  have a2 : ∀ p ∈ B2, tR less x p := by
    intro p hp
    cases B2 with
    | nil => simp at hp
    | cons y R => exact srt_all_gt W hB'.2.1 (.inr ⟨h2 y (by simp), ht x (by simp) y (by simp)⟩) p hp
  refine List.pairwise_append.2 ⟨hB'.1, List.pairwise_cons.2 ⟨a2, hB'.2.1⟩, ?_⟩
  intro p hp q hq
  simp only [List.mem_cons] at hq
  rcases hq with rfl | hq
  · exact a1 p hp
  · exact hB'.2.2 p hp q hq
theorem sym_one_right {less : A → A → Bool} (W : Weak less) {y : A × Nat} {A1 A2 : List (A × Nat)} (hA : Srt less (A1 ++ A2)) (ht : TagLt (A1 ++ A2) [y])
    (h1 : ∀ x, A1.getLast? = some x → less y.1 x.1 = false) (h2 : ∀ x, A2.head? = some x → less y.1 x.1 = true) : (A1 ++ y :: A2).Perm (A1 ++ A2 ++ [y]) ∧ Srt less (A1 ++ y :: A2) := by
  refine ⟨List.perm_middle.trans (List.perm_append_comm (l₁ := [y]) (l₂ := A1 ++ A2)), ?_⟩
  have hA' := List.pairwise_append.1 hA
  have a1 : ∀ p ∈ A1, tR less p y := by
    intro p hp
    rcases List.eq_nil_or_concat A1 with e | ⟨L, x, e⟩
    · subst e; simp at hp
    · rw [List.concat_eq_append] at e
      subst e
      exact srt_all_lt W hA'.1 (.inr ⟨h1 x (by simp), ht x (by simp) y (by simp)⟩) p hp
  have a2 : ∀ p ∈ A2, tR less y p := by
    intro p hp
    cases A2 with
    | nil => simp at hp
    | cons x R => exact srt_all_gt W hA'.2.1 (.inl (h2 x (by simp))) p hp
  refine List.pairwise_append.2 ⟨hA'.1, List.pairwise_cons.2 ⟨a2, hA'.2.1⟩, ?_⟩
  intro p hp q hq
  simp only [List.mem_cons] at hq
  rcases hq with rfl | hq
  · exact a1 p hp
  · exact hA'.2.2 p hp q hq
/-! ### the sorted list -/
/-- Where x is put in: as far to the left as it is less. -/
def insK (less : A → A → Bool) (x : A) (out : List A) : Nat → Nat
  | 0 => 0
  | k + 1 => match out[k]? with
    | some y => if less x y = true then insK less x out k else k + 1
    | none => k + 1
def insS (less : A → A → Bool) (out : List A) (x : A) : List A := out.take (insK less x out out.length) ++ x :: out.drop (insK less x out out.length)
/-- The sorted list, by insertion. -/
def sortS (less : A → A → Bool) (l : List A) : List A := l.foldl (insS less) []
theorem insK_le (less : A → A → Bool) (x : A) (out : List A) : ∀ k, insK less x out k ≤ k
  | 0 => Nat.le_refl _
  | k + 1 => by
    unfold insK
    split
    · split
      · exact Nat.le_succ_of_le (insK_le less x out k)
      · exact Nat.le_refl _
    · exact Nat.le_refl _
theorem insS_len (less : A → A → Bool) (out : List A) (x : A) : (insS less out x).length = out.length + 1 := by
  have := insK_le less x out out.length
  simp [insS]; omega
theorem insK_spec {less : A → A → Bool} (x : A) (out : List A) : ∀ k, k ≤ out.length → (∀ y, out[insK less x out k - 1]? = some y → 0 < insK less x out k → less x y = false) ∧ (∀ j y, insK less x out k ≤ j → j < k → out[j]? = some y → less x y = true)
  | 0, _ => ⟨fun y h0 h => by simp [insK] at h, fun j y h1 h2 => by omega⟩
  | k + 1, hk => by
    obtain ⟨y, hy⟩ : ∃ y, out[k]? = some y := ⟨_, List.getElem?_eq_getElem (by omega)⟩
    have ih := insK_spec (less := less) x out k (by omega)
    have e : insK less x out (k + 1) = if less x y = true then insK less x out k else k + 1 := by rw [insK, hy]
    rw [e]
    split
    · rename_i hl
      refine ⟨ih.1, ?_⟩
      intro j z h1 h2 h3
      by_cases ej : j = k
      · subst ej; rw [hy] at h3; cases h3; exact hl
      · exact ih.2 j z h1 (by omega) h3
    · rename_i hl
      refine ⟨?_, fun j z h1 h2 => by omega⟩
      intro z hz _
      rw [Nat.add_sub_cancel, hy] at hz
      cases hz
      simpa using hl
theorem insS_tag {less : A → A → Bool} (W : Weak less) {T : List (A × Nat)} {p : A × Nat} (hs : Srt less T) (ht : ∀ q ∈ T, q.2 < p.2) :
    ∃ Z, Z.Perm (T ++ [p]) ∧ Srt less Z ∧ insS less (T.map Prod.fst) p.1 = Z.map Prod.fst := by
  let k := insK less p.1 (T.map Prod.fst) T.length
  have hk : k ≤ T.length := insK_le _ _ _ _
  have sp := insK_spec (less := less) p.1 (T.map Prod.fst) T.length (by simp)
  refine ⟨T.take k ++ p :: T.drop k, ?_, ?_, ?_⟩
  · refine List.perm_middle.trans ?_
    rw [List.take_append_drop]
    exact List.perm_append_comm (l₁ := [p]) (l₂ := T)
  · have hT : Srt less (T.take k ++ T.drop k) := by rw [List.take_append_drop]; exact hs
    refine (sym_one_right W (y := p) hT (by rw [List.take_append_drop]; intro q hq z hz; simp at hz; subst hz; exact ht q hq) ?_ ?_).2
    · intro x hx
      have h0 : 0 < k := by
        rcases Nat.eq_zero_or_pos k with h | h
        · rw [h] at hx; simp at hx
        · exact h
      refine sp.1 x.1 ?_ h0
      rw [List.getLast?_eq_getElem?, List.length_take, Nat.min_eq_left hk, List.getElem?_take, if_pos (by omega)] at hx
      simpa using ⟨x.2, hx⟩
    · intro x hx
      rw [List.head?_drop] at hx
      have hlt : k < T.length := by
        rcases Nat.lt_or_ge k T.length with h | h
        · exact h
        · rw [List.getElem?_eq_none h] at hx; cases hx
      exact sp.2 k x.1 (Nat.le_refl _) hlt (by simpa using ⟨x.2, hx⟩)
  · have : insK less p.1 (T.map Prod.fst) (T.map Prod.fst).length = k := by simp [k]
    unfold insS
    rw [this]
    simp [List.map_take, List.map_drop]
theorem sortS_tag_from {less : A → A → Bool} (W : Weak less) : ∀ (l : List (A × Nat)) (T : List (A × Nat)), Srt less T → (T ++ l).Pairwise (fun p q => p.2 < q.2) ∨ (l.Pairwise (fun p q => p.2 < q.2) ∧ TagLt T l) →
    ∃ Z, Z.Perm (T ++ l) ∧ Srt less Z ∧ (l.map Prod.fst).foldl (insS less) (T.map Prod.fst) = Z.map Prod.fst
  | [], T, hs, _ => ⟨T, by simp, hs, rfl⟩
  | p :: l, T, hs, ht => by
    have ht2 : (p :: l).Pairwise (fun p q => p.2 < q.2) ∧ TagLt T (p :: l) := by
      rcases ht with h | h
      · have := List.pairwise_append.1 h
        exact ⟨this.2.1, this.2.2⟩
      · exact h
    obtain ⟨Z, hz, hzs, he⟩ := insS_tag W (p := p) hs (fun q hq => ht2.2 q hq p (by simp))
    have hp := List.pairwise_cons.1 ht2.1
    obtain ⟨Z2, hz2, hzs2, he2⟩ := sortS_tag_from W l Z hzs (.inr ⟨hp.2, by
      intro q hq z hzl
      have := hz.mem_iff.1 hq
      simp only [List.mem_append, List.mem_singleton] at this
      rcases this with h | h
      · exact ht2.2 q h z (by simp [hzl])
      · subst h; exact hp.1 z hzl⟩)
    refine ⟨Z2, hz2.trans ?_, hzs2, ?_⟩
    · have := hz.append_right l
      simpa using this
    · rw [List.map_cons, List.foldl_cons, he, he2]
/-- The sorted list is the one sorted rearrangement of the tagged elements. -/
theorem sortS_tag {less : A → A → Bool} (W : Weak less) (T : List (A × Nat)) (ht : T.Pairwise (fun p q => p.2 < q.2)) : ∃ Z, Z.Perm T ∧ Srt less Z ∧ sortS less (T.map Prod.fst) = Z.map Prod.fst := by
  obtain ⟨Z, h1, h2, h3⟩ := sortS_tag_from W T [] (by simp) (.inl (by simpa using ht))
  exact ⟨Z, by simpa using h1, h2, h3⟩
theorem sortS_eq {less : A → A → Bool} (W : Weak less) {T Z : List (A × Nat)} (ht : T.Pairwise (fun p q => p.2 < q.2)) (hz : Z.Perm T) (hs : Srt less Z) : Z.map Prod.fst = sortS less (T.map Prod.fst) := by
  obtain ⟨Z', h1, h2, h3⟩ := sortS_tag W T ht
  rw [h3, srt_unique W (hz.trans h1.symm) hs h2]
/-- The tagged list. -/
theorem tagged (l : List A) : (l.zipIdx.map Prod.fst) = l ∧ (l.zipIdx).Pairwise (fun p q => p.2 < q.2) := by
  refine ⟨List.zipIdx_map_fst 0 l, ?_⟩
  rw [List.pairwise_iff_getElem]
  intro i j hi hj hij
  simp
  exact hij
theorem foldl_insS_len (less : A → A → Bool) (l : List A) (out : List A) : (l.foldl (insS less) out).length = out.length + l.length := by
  induction l generalizing out with
  | nil => simp
  | cons x l ih => rw [List.foldl_cons, ih, insS_len]; simp; omega
theorem sortS_len (less : A → A → Bool) (l : List A) : (sortS less l).length = l.length := by simp [sortS, foldl_insS_len]
theorem sortS_perm {less : A → A → Bool} (W : Weak less) (l : List A) : (sortS less l).Perm l := by
  obtain ⟨t1, t2⟩ := tagged l
  obtain ⟨Z, h1, h2, h3⟩ := sortS_tag W _ t2
  rw [t1] at h3
  rw [h3]
  have := h1.map Prod.fst
  rwa [t1] at this
end
end Go.Proofs.YtiklhaajhdephaaDoor

/-
  A row of addresses of the call's own as a list; exchanges in it. Plain lemmas for the stable sort.
-/
namespace Go.Proofs.YtiklhaajhdephaaDoor
open Go.RowKit
set_option linter.unusedVariables false
set_option linter.unusedSimpArgs false

/-- The slice at block g reads as L. -/
def RowL (w : World) (g n c : Nat) (L : List Ad) : Prop := L.length = n ∧ w.ownsRow 0 28 17 (.slice (some ⟨g, 0, none⟩) n c) n (L.map Ad.cells).flatten
theorem RowL.at {w : World} {g n c : Nat} {L : List Ad} (h : RowL w g n c L) {i : Nat} {a : Ad} (hi : L[i]? = some a) : w.rangeAt g (i * 17) a.cells := own_at h.2 hi
theorem RowL.touch {w w' : World} {g n c : Nat} {L : List Ad} {S : List Nat} (h : RowL w g n c L) (t : Touch S w w') (hn : g ∉ S) : RowL w' g n c L :=
  ⟨h.1, t.owns h.2 (by intro g' e; simp [Value.ownBlock] at e; subst e; exact hn)⟩
theorem RowL.drew {w : World} {g n c : Nat} {L : List Ad} (h : RowL w g n c L) : RowL w.drew g n c L := ⟨h.1, h.2⟩
theorem wpList_store_L {ops : Array Oper} {rest : List Oper} {op : Oper} {a : Act} {w : World} {Q : Exit → Act → World → Prop} (hgd : op.guard = none) (x y : Operand) (ho : op.op = .store 28 x y)
    (g n c : Nat) (L : List Ad) (row : RowL w g n c L) (j : Nat) (z : Ad) (hj : j < L.length) (hx : a.eval x = .pointer (some ⟨g, j * 17, none⟩)) (hy : a.eval y = .agg z.cells.toArray)
    (h : ∀ w', RowL w' g n c (L.set j z) → Touch [g] w w' → w'.heap.size = w.heap.size → wpList Tryd.prog ops Q rest (a.put op.dst undef) w') : wpList Tryd.prog ops Q (op :: rest) a w := by
  refine wpList_store_own hgd 28 x y ho g (j * 17) n c 28 17 _ z.cells row.2 hx hy (by rw [ads_flat, z.len]; omega) (by rw [size31, z.len]) z.one ?_
  intro w' r t s
  rw [z.len, ads_set L j z hj] at r
  exact h w' ⟨by rw [List.length_set]; exact row.1, r⟩ t s
/-! ### exchange of two parts -/
def swL (P X M Y S : List Ad) (i : Nat) : List Ad := (P ++ Y.take i) ++ (X.drop i ++ M ++ X.take i) ++ (Y.drop i ++ S)
theorem swL_zero (P X M Y S : List Ad) : swL P X M Y S 0 = P ++ X ++ M ++ Y ++ S := by simp [swL]
theorem swL_end (P X M Y S : List Ad) (k : Nat) (hx : X.length = k) (hy : Y.length = k) : swL P X M Y S k = P ++ Y ++ M ++ X ++ S := by
  unfold swL
  rw [List.take_of_length_le (by omega), List.drop_eq_nil_of_le (by omega), List.take_of_length_le (by omega), List.drop_eq_nil_of_le (by omega)]
  simp
theorem swL_len (P X M Y S : List Ad) (i k : Nat) (hx : X.length = k) (hy : Y.length = k) (hi : i ≤ k) : (swL P X M Y S i).length = (P ++ X ++ M ++ Y ++ S).length := by
  simp [swL]; omega
theorem swL_step (P X M Y S : List Ad) (k i : Nat) (hx : X.length = k) (hy : Y.length = k) (x y : Ad) (ex : X[i]? = some x) (ey : Y[i]? = some y) (J K : Nat) (hJ : J = P.length + i) (hK : K = P.length + X.length + M.length + i) :
    (swL P X M Y S i)[J]? = some x ∧ (swL P X M Y S i)[K]? = some y ∧ ((swL P X M Y S i).set J y).set K x = swL P X M Y S (i + 1) := by
  have hi : i < X.length := by
    rcases Nat.lt_or_ge i X.length with h | h
    · exact h
    · rw [List.getElem?_eq_none h] at ex; cases ex
  have hiy : i < Y.length := by omega
  have gx : X[i] = x := by rw [List.getElem?_eq_getElem hi] at ex; cases ex; rfl
  have gy : Y[i] = y := by rw [List.getElem?_eq_getElem hiy] at ey; cases ey; rfl
  have dx : X.drop i = x :: X.drop (i + 1) := by rw [List.drop_eq_getElem_cons hi, gx]
  have dy : Y.drop i = y :: Y.drop (i + 1) := by rw [List.drop_eq_getElem_cons hiy, gy]
  have tx : X.take (i + 1) = X.take i ++ [x] := by rw [List.take_succ_eq_append_getElem hi, gx]
  have ty : Y.take (i + 1) = Y.take i ++ [y] := by rw [List.take_succ_eq_append_getElem hiy, gy]
  have e0 : swL P X M Y S i = (P ++ Y.take i) ++ x :: ((X.drop (i + 1) ++ M ++ X.take i) ++ y :: (Y.drop (i + 1) ++ S)) := by
    unfold swL; rw [dx, dy]; simp
  have l1 : J = (P ++ Y.take i).length := by simp; omega
  have l2 : K = (P ++ Y.take i).length + 1 + (X.drop (i + 1) ++ M ++ X.take i).length := by simp; omega
  refine ⟨?_, ?_, ?_⟩
  · rw [e0, l1]; simp
  · rw [e0, l2, List.getElem?_append_right (by omega), show (P ++ List.take i Y).length + 1 + (List.drop (i + 1) X ++ M ++ List.take i X).length - (P ++ List.take i Y).length = (List.drop (i + 1) X ++ M ++ List.take i X).length + 1 by omega, List.getElem?_cons_succ]
    simp
  · rw [e0, set_swap _ _ _ _ _ _ _ l1 l2]
    unfold swL; rw [tx, ty]; simp
end Go.Proofs.YtiklhaajhdephaaDoor

/-
  The contracts of slices.swapRangeCmpFunc and slices.rotateCmpFunc at addresses.
-/
namespace Go.Proofs.YtiklhaajhdephaaDoor
open Go.RowKit
set_option linter.unusedVariables false
set_option linter.unusedSimpArgs false

set_option maxRecDepth 100000 in
set_option maxHeartbeats 2000000 in
theorem swr_any (g n c : Nat) (P X M Y S : List Ad) (k a b : Nat) (cv : Value) (hX : X.length = k) (hY : Y.length = k) (ha : a = P.length) (hb : b = P.length + X.length + M.length) (hn : n ≤ 1000000000) (w : World) (hrow : RowL w g n c (P ++ X ++ M ++ Y ++ S)) :
    Calls Tryd.prog 114 #[.slice (some ⟨g, 0, none⟩) n c, .int .i64 a, .int .i64 b, .int .i64 k, cv] w fun e w' => e = .returned (.tuple #[]) ∧ RowL w' g n c (P ++ Y ++ M ++ X ++ S) ∧ Touch [g] w w' := by
  have hlen : (P ++ X ++ M ++ Y ++ S).length = n := hrow.1
  have hln : P.length + X.length + M.length + k ≤ n := by rw [← hlen]; simp; omega
  have HA := Lib.hid ha
  have HB := Lib.hid hb
  have HR0 := Lib.hid (show RowL w g n c (swL P X M Y S 0) by rw [swL_zero]; exact hrow)
  have hak : a + k ≤ n := by omega
  have hbk : b + k ≤ n := by omega
  have HX := Lib.hid hX
  have HY := Lib.hid hY
  have HL := Lib.hid hlen
  clear hrow ha hb hln hX hY hlen
  go_enter Tryd.func114, Tryd.ntmps114
  go_wp2_with fail
  go_loopw [10] (fun vi wr => ∃ i : Nat, i ≤ k ∧ vi = .int .i64 i ∧ RowL wr g n c (swL P X M Y S i) ∧ Touch [g] w wr) (fun vi _ => k - (intOf vi).toNat)
  case atStart => exact ⟨0, by omega, rfl, HR0.out, Touch.refl _ _⟩
  case round =>
    obtain ⟨i, hi, rfl, hrow, ht⟩ := hrel
    have HT := Lib.hid ht
    have HROW := Lib.hid hrow
    clear hrow ht
    by_cases hlt : i < k
    · obtain ⟨x, hx⟩ : ∃ x, X[i]? = some x := ⟨_, List.getElem?_eq_getElem (by rw [HX.out]; exact hlt)⟩
      obtain ⟨y, hy⟩ : ∃ y, Y[i]? = some y := ⟨_, List.getElem?_eq_getElem (by rw [HY.out]; exact hlt)⟩
      obtain ⟨J, hJ⟩ : ∃ J : Nat, J = a + i := ⟨_, rfl⟩
      obtain ⟨Q, hQ⟩ : ∃ Q : Nat, Q = b + i := ⟨_, rfl⟩
      have hst := swL_step P X M Y S k i HX.out HY.out x y hx hy J Q (by rw [← HA.out]; exact hJ) (by rw [← HB.out]; exact hQ)
      have HJ := Lib.hid hst.1
      have HQ := Lib.hid hst.2.1
      have HN := Lib.hid hst.2.2
      have hwJ : IntKind.i64.wrap ((a : Int) + (i : Int)) = (J : Int) := by rw [IntKind.wrap_i64] <;> omega
      have hwQ : IntKind.i64.wrap ((b : Int) + (i : Int)) = (Q : Int) := by rw [IntKind.wrap_i64] <;> omega
      have hwi : IntKind.i64.wrap ((i : Int) + 1) = (i : Int) + 1 := by rw [IntKind.wrap_i64] <;> omega
      have hJn : (J : Int) < (n : Int) := by omega
      have hQn : (Q : Int) < (n : Int) := by omega
      have HJL := Lib.hid (show J < (swL P X M Y S i).length by rw [HROW.out.1]; omega)
      have HQL := Lib.hid (show Q < ((swL P X M Y S i).set J y).length by rw [List.length_set, HROW.out.1]; omega)
      clear hst hx hy hJ hQ
      generalize swL P X M Y S i = L at *
      have HLX := Lib.hid x.len
      have HLY := Lib.hid y.len
      go_wp2_with fail
      refine wp_region_any (by kernel_rfl) ?_
      change wpAny _ _ _ _ _ _ _ wr.drew
      have rJ := HROW.out.drew.at HJ.out
      have rQ := HROW.out.drew.at HQ.out
      have HROW := Lib.hid HROW.out.drew
      have HT := Lib.hid HT.out.drew
      generalize wr.drew = W at *
      refine tkA 0 (.slice (some ⟨g, 0, none⟩) n c) rfl ?_
      try simp only [Act.put, sT, s0, sS]
      refine tkA 1 (.int .i64 (a : Nat)) rfl ?_
      try simp only [Act.put, sT, s0, sS]
      refine tkA 2 (.int .i64 (i : Nat)) rfl ?_
      try simp only [Act.put, sT, s0, sS]
      refine tkA 3 (.int .i64 (J : Nat)) rfl ?_
      try simp only [Act.put, sT, s0, sS]
      refine tkA 4 (.slice (some ⟨g, 0, none⟩) n c) rfl ?_
      try simp only [Act.put, sT, s0, sS]
      refine tkA 5 (.int .i64 (b : Nat)) rfl ?_
      try simp only [Act.put, sT, s0, sS]
      refine tkA 6 (.int .i64 (i : Nat)) rfl ?_
      try simp only [Act.put, sT, s0, sS]
      refine tkA 7 (.int .i64 (Q : Nat)) rfl ?_
      try simp only [Act.put, sT, s0, sS]
      refine tkA 8 (.slice (some ⟨g, 0, none⟩) n c) rfl ?_
      try simp only [Act.put, sT, s0, sS]
      refine tkA 9 (.int .i64 (b : Nat)) rfl ?_
      try simp only [Act.put, sT, s0, sS]
      refine tkA 10 (.int .i64 (i : Nat)) rfl ?_
      try simp only [Act.put, sT, s0, sS]
      refine tkA 11 (.int .i64 (Q : Nat)) rfl ?_
      try simp only [Act.put, sT, s0, sS]
      refine tkA 12 (.pointer (some ⟨g, Q * 17, none⟩)) rfl ?_
      try simp only [Act.put, sT, s0, sS]
      refine tkA 14 (.slice (some ⟨g, 0, none⟩) n c) rfl ?_
      try simp only [Act.put, sT, s0, sS]
      refine tkA 15 (.int .i64 (a : Nat)) rfl ?_
      try simp only [Act.put, sT, s0, sS]
      refine tkA 16 (.int .i64 (i : Nat)) rfl ?_
      try simp only [Act.put, sT, s0, sS]
      refine tkA 17 (.int .i64 (J : Nat)) rfl ?_
      try simp only [Act.put, sT, s0, sS]
      refine tkA 18 (.pointer (some ⟨g, J * 17, none⟩)) rfl ?_
      try simp only [Act.put, sT, s0, sS]
      refine wpAny_ready (rs := [13, 19]) (by kernel_rfl) (by simp) ?_
      refine cnA rfl (fun K hK0 => ?_) (cnA rfl (fun K hK0 => ?_) AllReady.nil)
      · have hK := Lib.hid hK0
        clear hK0
        refine step_of_list rfl ?_
        refine wpList_load_mid rfl 28 _ rfl g (Q * 17) rfl y.cells _ rQ Tryd.underlying28 rfl (by rw [size31, HLY.out]) ?_
        refine ⟨rfl, hK.out _ _ ?_⟩
        clear hK K
        try simp only [Act.put, sT, s0, sS]
        refine wpAny_ready (rs := [19]) (by kernel_rfl) (by simp) ?_
        refine cnA rfl (fun K hK0 => ?_) AllReady.nil
        have hK := Lib.hid hK0
        clear hK0
        refine step_of_list rfl ?_
        refine wpList_load_mid rfl 28 _ rfl g (J * 17) rfl x.cells _ rJ Tryd.underlying28 rfl (by rw [size31, HLX.out]) ?_
        refine ⟨rfl, hK.out _ _ ?_⟩
        clear hK K
        try simp only [Act.put, sT, s0, sS]
        refine tkA 20 (.pointer (some ⟨g, J * 17, none⟩)) rfl ?_
        try simp only [Act.put, sT, s0, sS]
        refine wpAny_ready (rs := [21]) (by kernel_rfl) (by simp) ?_
        refine cnA rfl (fun K hK0 => ?_) AllReady.nil
        have hK := Lib.hid hK0
        clear hK0
        refine step_of_list rfl ?_
        refine wpList_store_L rfl _ _ rfl g n c L HROW.out J y HJL.out rfl rfl ?_
        intro ws1 row1 t1 z1
        refine ⟨rfl, hK.out _ _ ?_⟩
        clear hK K
        try simp only [Act.put, sT, s0, sS]
        refine tkA 22 (.pointer (some ⟨g, Q * 17, none⟩)) rfl ?_
        try simp only [Act.put, sT, s0, sS]
        refine wpAny_ready (rs := [23]) (by kernel_rfl) (by simp) ?_
        refine cnA rfl (fun K hK0 => ?_) AllReady.nil
        have hK := Lib.hid hK0
        clear hK0
        refine step_of_list rfl ?_
        refine wpList_store_L rfl _ _ rfl g n c _ row1 Q x HQL.out rfl rfl ?_
        intro ws2 row2 t2 z2
        refine ⟨rfl, hK.out _ _ ?_⟩
        clear hK K
        try simp only [Act.put, sT, s0, sS]
        refine wpAny_done (by kernel_rfl) ?_ _
        try simp only [Act.put, sT, s0, sS]
        rw [HN.out] at row2
        go_wp2_with fail
        go_roundw
        case rel => exact ⟨i + 1, by omega, by go_num, row2, HT.out.trans (t1.trans t2 (by simp)) (by simp)⟩
        case measure => simp [intOf]; omega
      · have hK := Lib.hid hK0
        clear hK0
        refine step_of_list rfl ?_
        refine wpList_load_mid rfl 28 _ rfl g (J * 17) rfl x.cells _ rJ Tryd.underlying28 rfl (by rw [size31, HLX.out]) ?_
        refine ⟨rfl, hK.out _ _ ?_⟩
        clear hK K
        try simp only [Act.put, sT, s0, sS]
        refine wpAny_ready (rs := [13]) (by kernel_rfl) (by simp) ?_
        refine cnA rfl (fun K hK0 => ?_) AllReady.nil
        have hK := Lib.hid hK0
        clear hK0
        refine step_of_list rfl ?_
        refine wpList_load_mid rfl 28 _ rfl g (Q * 17) rfl y.cells _ rQ Tryd.underlying28 rfl (by rw [size31, HLY.out]) ?_
        refine ⟨rfl, hK.out _ _ ?_⟩
        clear hK K
        try simp only [Act.put, sT, s0, sS]
        refine tkA 20 (.pointer (some ⟨g, J * 17, none⟩)) rfl ?_
        try simp only [Act.put, sT, s0, sS]
        refine wpAny_ready (rs := [21]) (by kernel_rfl) (by simp) ?_
        refine cnA rfl (fun K hK0 => ?_) AllReady.nil
        have hK := Lib.hid hK0
        clear hK0
        refine step_of_list rfl ?_
        refine wpList_store_L rfl _ _ rfl g n c L HROW.out J y HJL.out rfl rfl ?_
        intro ws1 row1 t1 z1
        refine ⟨rfl, hK.out _ _ ?_⟩
        clear hK K
        try simp only [Act.put, sT, s0, sS]
        refine tkA 22 (.pointer (some ⟨g, Q * 17, none⟩)) rfl ?_
        try simp only [Act.put, sT, s0, sS]
        refine wpAny_ready (rs := [23]) (by kernel_rfl) (by simp) ?_
        refine cnA rfl (fun K hK0 => ?_) AllReady.nil
        have hK := Lib.hid hK0
        clear hK0
        refine step_of_list rfl ?_
        refine wpList_store_L rfl _ _ rfl g n c _ row1 Q x HQL.out rfl rfl ?_
        intro ws2 row2 t2 z2
        refine ⟨rfl, hK.out _ _ ?_⟩
        clear hK K
        try simp only [Act.put, sT, s0, sS]
        refine wpAny_done (by kernel_rfl) ?_ _
        try simp only [Act.put, sT, s0, sS]
        rw [HN.out] at row2
        go_wp2_with fail
        go_roundw
        case rel => exact ⟨i + 1, by omega, by go_num, row2, HT.out.trans (t1.trans t2 (by simp)) (by simp)⟩
        case measure => simp [intOf]; omega
    · have hke : i = k := by omega
      have HQE := Lib.hid hke
      clear hke
      go_wp2_with fail
      exact end0 rfl rfl ⟨rfl, by
        have h := HROW.out
        rw [HQE.out, swL_end P X M Y S k HX.out HY.out] at h
        exact h, HT.out⟩
set_option maxRecDepth 100000 in
set_option maxHeartbeats 2000000 in
theorem rot_any (g n c : Nat) (P X Y S : List Ad) (a m b : Nat) (cv : Value) (ha : a = P.length) (hm : m = a + X.length) (hb : b = m + Y.length) (hx0 : 0 < X.length) (hy0 : 0 < Y.length) (hn : n ≤ 1000000000) (w : World) (hrow : RowL w g n c (P ++ X ++ Y ++ S)) :
    Calls Tryd.prog 104 #[.slice (some ⟨g, 0, none⟩) n c, .int .i64 a, .int .i64 m, .int .i64 b, cv] w fun e w' => e = .returned (.tuple #[]) ∧ RowL w' g n c (P ++ Y ++ X ++ S) ∧ Touch [g] w w' := by
  have hlen : (P ++ X ++ Y ++ S).length = n := hrow.1
  have hln : b ≤ n := by rw [← hlen]; simp; omega
  have h1 : IntKind.i64.wrap ((m : Int) - (a : Int)) = (X.length : Int) := by rw [IntKind.wrap_i64] <;> omega
  have h2 : IntKind.i64.wrap ((b : Int) - (m : Int)) = (Y.length : Int) := by rw [IntKind.wrap_i64] <;> omega
  have hmn : m ≤ n := by omega
  have hpm : P.length + X.length = m := by omega
  have HPM := Lib.hid hpm
  have HX0 := Lib.hid hx0
  have HY0 := Lib.hid hy0
  have HR0 := Lib.hid hrow
  generalize hT : P ++ Y ++ X ++ S = T at *
  have HT0 := Lib.hid hT
  clear hrow ha hb hln hlen hpm hm hT hx0 hy0
  go_enter Tryd.func104, Tryd.ntmps104
  go_wp2_with fail
  clear h1 h2
  go_loopw [10, 11] (fun vi vj wr => ∃ (P' X' Y' S' : List Ad) (i j : Nat), 0 < i ∧ 0 < j ∧ vi = .int .i64 i ∧ vj = .int .i64 j ∧ X'.length = i ∧ Y'.length = j ∧ P'.length + i = m ∧ P' ++ Y' ++ X' ++ S' = T ∧ RowL wr g n c (P' ++ X' ++ Y' ++ S') ∧ Touch [g] w wr) (fun vi vj _ => (intOf vi).toNat + (intOf vj).toNat)
  case atStart => exact ⟨P, X, Y, S, _, _, HX0.out, HY0.out, rfl, rfl, rfl, rfl, HPM.out, HT0.out, HR0.out, Touch.refl _ _⟩
  case round =>
    obtain ⟨P', X', Y', S', i, j, hi0, hj0, rfl, rfl, hX, hY, hP, hT, hrow, ht⟩ := hrel
    have HT := Lib.hid ht
    have HROW := Lib.hid hrow
    have HTT := Lib.hid hT
    have HX := Lib.hid hX
    have HY := Lib.hid hY
    have hlen : (P' ++ X' ++ Y' ++ S').length = n := hrow.1
    have hmj : m + j ≤ n := by rw [← hlen]; simp; omega
    obtain ⟨A, hA⟩ : ∃ A : Nat, A = P'.length := ⟨_, rfl⟩
    have HA := Lib.hid hA
    have hwA : IntKind.i64.wrap ((m : Int) - (i : Int)) = (A : Int) := by rw [IntKind.wrap_i64] <;> omega
    have hAm : A + i = m := by omega
    have HAm := Lib.hid hAm
    clear ht hrow hT hX hY hlen hA hP HR0 HT0
    by_cases hne : i = j
    · have HIJ := Lib.hid hne
      have hq : ((i : Int) != (j : Int)) = false := by simp only [bne_eq_false_iff_eq]; omega
      clear hne hAm
      go_wp2_with fail
      refine (swr_any g n c P' X' [] Y' S' i A m cv HX.out (by rw [HY.out, HIJ.out]) HA.out (by rw [HX.out, ← HA.out]; have := HAm.out; simp; omega) hn _ (by rw [List.append_nil]; exact HROW.out)).mono ?_
      rintro e w2 ⟨rfl, row2, t2⟩
      have HR2 := Lib.hid (show RowL w2 g n c T by rw [← HTT.out]; rw [List.append_nil] at row2; exact row2)
      have HT2 := Lib.hid (HT.out.trans t2 (by simp))
      clear row2 t2
      go_wp2_with fail
      exact end0 rfl rfl ⟨rfl, HR2.out, HT2.out⟩
    · have hq : ((i : Int) != (j : Int)) = true := by simp only [bne_iff_ne, ne_eq]; omega
      by_cases hgt : j < i
      · obtain ⟨d, hd⟩ : ∃ d : Nat, d = i - j := ⟨_, rfl⟩
        have hwd : IntKind.i64.wrap ((i : Int) - (j : Int)) = (d : Int) := by rw [IntKind.wrap_i64] <;> omega
        have HD := Lib.hid (show d + j = i by omega)
        have hlt : (j : Int) < (i : Int) := by omega
        have hdp : 0 < d := by omega
        have HDP := Lib.hid hdp
        have hXs : X'.take j ++ X'.drop j = X' := List.take_append_drop _ _
        have HXS := Lib.hid hXs
        have HL1 := Lib.hid (show (X'.take j).length = j by rw [List.length_take, HX.out]; omega)
        have HL2 := Lib.hid (show (X'.drop j).length = d by rw [List.length_drop, HX.out]; omega)
        generalize X'.take j = X1 at *
        generalize X'.drop j = X2 at *
        have HJ0 := Lib.hid hj0
        clear hXs hne hAm hd hdp hgt hj0
        go_wp2_with fail
        refine (swr_any g n c P' X1 X2 Y' S' j A m cv HL1.out HY.out HA.out (by rw [HL1.out, HL2.out, ← HA.out]; have := HAm.out; have := HD.out; omega) hn _ (by have h := HROW.out; rw [← HXS.out] at h; simpa using h)).mono ?_
        rintro e w2 ⟨rfl, row2, t2⟩
        have HR2 := Lib.hid (show RowL w2 g n c ((P' ++ Y') ++ X2 ++ X1 ++ S') by simpa using row2)
        have HT2 := Lib.hid (HT.out.trans t2 (by simp))
        have HE := Lib.hid (show (P' ++ Y') ++ X1 ++ X2 ++ S' = T by rw [← HTT.out, ← HXS.out]; simp)
        clear row2 t2
        go_wp2_with fail
        go_roundw
        case rel => exact ⟨P' ++ Y', X2, X1, S', d, j, HDP.out, HJ0.out, rfl, rfl, HL2.out, HL1.out, by rw [List.length_append, HY.out, ← HA.out]; have := HD.out; have := HAm.out; omega, HE.out, HR2.out, HT2.out⟩
        case measure => simp [intOf]; have := HD.out; have := HJ0.out; omega
      · obtain ⟨d, hd⟩ : ∃ d : Nat, d = j - i := ⟨_, rfl⟩
        obtain ⟨Q, hQ⟩ : ∃ Q : Nat, Q = m + j := ⟨_, rfl⟩
        obtain ⟨B, hB⟩ : ∃ B : Nat, B = m + d := ⟨_, rfl⟩
        have hwQ : IntKind.i64.wrap ((m : Int) + (j : Int)) = (Q : Int) := by rw [IntKind.wrap_i64] <;> omega
        have hwB : IntKind.i64.wrap ((Q : Int) - (i : Int)) = (B : Int) := by rw [IntKind.wrap_i64] <;> omega
        have hwd : IntKind.i64.wrap ((j : Int) - (i : Int)) = (d : Int) := by rw [IntKind.wrap_i64] <;> omega
        have HD := Lib.hid (show d + i = j by omega)
        have hlt : ¬ (j : Int) < (i : Int) := by omega
        have hdp : 0 < d := by omega
        have HDP := Lib.hid hdp
        have hYs : Y'.take d ++ Y'.drop d = Y' := List.take_append_drop _ _
        have HYS := Lib.hid hYs
        have HL1 := Lib.hid (show (Y'.take d).length = d by rw [List.length_take, HY.out]; omega)
        have HL2 := Lib.hid (show (Y'.drop d).length = i by rw [List.length_drop, HY.out]; omega)
        generalize Y'.take d = Y1 at *
        generalize Y'.drop d = Y2 at *
        have HI0 := Lib.hid hi0
        have HB := Lib.hid hB
        clear hYs hne hAm hd hdp hgt hi0 hQ hB
        go_wp2_with fail
        refine (swr_any g n c P' X' Y1 Y2 S' i A B cv HX.out HL2.out HA.out (by rw [HX.out, HL1.out, ← HA.out, HB.out]; have := HAm.out; omega) hn _ (by have h := HROW.out; rw [← HYS.out] at h; simpa using h)).mono ?_
        rintro e w2 ⟨rfl, row2, t2⟩
        have HR2 := Lib.hid (show RowL w2 g n c (P' ++ Y2 ++ Y1 ++ (X' ++ S')) by simpa using row2)
        have HT2 := Lib.hid (HT.out.trans t2 (by simp))
        have HE := Lib.hid (show P' ++ Y1 ++ Y2 ++ (X' ++ S') = T by rw [← HTT.out, ← HYS.out]; simp)
        clear row2 t2
        go_wp2_with fail
        go_roundw
        case rel => exact ⟨P', Y2, Y1, X' ++ S', i, d, HI0.out, HDP.out, rfl, rfl, HL2.out, HL1.out, by rw [← HA.out]; exact HAm.out, HE.out, HR2.out, HT2.out⟩
        case measure => simp [intOf]; have := HD.out; have := HI0.out; omega
end Go.Proofs.YtiklhaajhdephaaDoor

/-
  The contract of slices.symMergeCmpFunc at addresses: two sorted parts, side by side, become one.
-/
namespace Go.Proofs.YtiklhaajhdephaaDoor
open Go.RowKit
set_option linter.unusedVariables false
set_option linter.unusedSimpArgs false

abbrev TA := Ad × Nat
def RowT (w : World) (g n c : Nat) (T : List TA) : Prop := RowL w g n c (T.map Prod.fst)
def MergedT (w : World) (g n c : Nat) (P Q S : List TA) : Prop := ∃ X : List TA, X.Perm Q ∧ Srt Ad.less X ∧ RowT w g n c (P ++ X ++ S)
theorem ret0 {P : Program} {fn : Func} {R : Ending → World → Prop} {a : Act} {w : World} (hr : fn.results = #[]) (hd : a.defers = []) (hR : R (.returned (.tuple #[])) w) : bodyPost P fn R .ret a w :=
  bodyPost_ret (v := .tuple #[]) (by simp [results, hr]) hd hR
theorem slide_step (P B1 R : List TA) (x y : TA) (t k k1 : Nat) (hy : B1[t]? = some y) (hk : k = P.length + t) (hk1 : k1 = k + 1) :
    ((P ++ B1.take t ++ x :: (B1.drop t ++ R)).map Prod.fst)[k]? = some x.1 ∧ ((P ++ B1.take t ++ x :: (B1.drop t ++ R)).map Prod.fst)[k1]? = some y.1 ∧
      ((((P ++ B1.take t ++ x :: (B1.drop t ++ R)).map Prod.fst).set k y.1).set k1 x.1) = (P ++ B1.take (t + 1) ++ x :: (B1.drop (t + 1) ++ R)).map Prod.fst := by
  have ht : t < B1.length := by
    rcases Nat.lt_or_ge t B1.length with h | h
    · exact h
    · rw [List.getElem?_eq_none h] at hy; cases hy
  have gy : B1[t] = y := by rw [List.getElem?_eq_getElem ht] at hy; cases hy; rfl
  have d : B1.drop t = y :: B1.drop (t + 1) := by rw [List.drop_eq_getElem_cons ht, gy]
  have e : B1.take (t + 1) = B1.take t ++ [y] := by rw [List.take_succ_eq_append_getElem ht, gy]
  have l : k = ((P ++ B1.take t).map Prod.fst).length := by simp; omega
  have e0 : (P ++ B1.take t ++ x :: (B1.drop t ++ R)).map Prod.fst = (P ++ B1.take t).map Prod.fst ++ x.1 :: ([] ++ y.1 :: (B1.drop (t + 1) ++ R).map Prod.fst) := by rw [d]; simp
  refine ⟨?_, ?_, ?_⟩
  · rw [e0, l]; simp
  · rw [e0, hk1, l, List.getElem?_append_right (by omega), Nat.add_sub_cancel_left]; simp
  · rw [e0, set_swap _ _ _ _ _ _ _ l (by rw [hk1, l]; simp), e]; simp
set_option maxRecDepth 100000 in
set_option maxHeartbeats 4000000 in
theorem sym_left (g n c : Nat) (x : TA) (P B S : List TA) (a m b : Nat) (ha : a = P.length) (hm : m = a + 1) (hb : b = m + B.length) (hB : Srt Ad.less B) (hB0 : 0 < B.length) (ht : TagLt [x] B) (hW : Weak Ad.less) (hn : n ≤ 1000000000) (w : World) (hrow : RowT w g n c (P ++ [x] ++ B ++ S)) :
    Calls Tryd.prog 92 #[.slice (some ⟨g, 0, none⟩) n c, .int .i64 a, .int .i64 m, .int .i64 b, .func (.func 56) #[] #[]] w fun e w' => e = .returned (.tuple #[]) ∧ MergedT w' g n c P ([x] ++ B) S ∧ Touch [g] w w' := by
  obtain ⟨L, hL⟩ : ∃ L, L = (P ++ [x] ++ B ++ S).map Prod.fst := ⟨_, rfl⟩
  have hrow : RowL w g n c L := by rw [hL]; exact hrow
  have hlen : L.length = n := hrow.1
  have hbn : b ≤ n := by rw [← hlen, hL]; simp; omega
  have hLa : L[a]? = some x.1 := by rw [hL, ha]; simp
  have HLA := Lib.hid hLa
  have HLB := Lib.hid (show ∀ h, h < B.length → L[m + h]? = (B[h]?).map Prod.fst from fun h hh => by
    rw [hL, List.getElem?_map, show P ++ [x] ++ B ++ S = (P ++ [x]) ++ (B ++ S) by simp, List.getElem?_append_right (by simp; omega), show m + h - (P ++ [x]).length = h by simp; omega, List.getElem?_append_left hh])
  have HL := Lib.hid hL
  have HB := Lib.hid hb
  have HA := Lib.hid ha
  have HM := Lib.hid hm
  have HSB := Lib.hid hB
  have HTG := Lib.hid ht
  have HR0 := Lib.hid hrow
  have hwma : IntKind.i64.wrap ((m : Int) - (a : Int)) = 1 := by rw [IntKind.wrap_i64] <;> omega
  have hmb : m ≤ b := by omega
  have HLEN := Lib.hid hlen
  clear hL hb ha hm hB ht hrow hLa hlen hB0
  go_enter Tryd.func92, Tryd.ntmps92
  go_wp2_with fail
  go_loopw [10, 11] (fun vi vj wr => ∃ i j : Nat, m ≤ i ∧ i ≤ j ∧ j ≤ b ∧ vi = .int .i64 i ∧ vj = .int .i64 j ∧ (∀ y, m < i → L[i - 1]? = some y → y.less x.1 = true) ∧ (∀ y, j < b → L[j]? = some y → y.less x.1 = false) ∧ RowL wr g n c L ∧ Touch [g] w wr) (fun vi vj _ => (intOf vj).toNat - (intOf vi).toNat)
  case atStart => exact ⟨m, b, by omega, by omega, by omega, rfl, rfl, fun _ h => by omega, fun _ h => by omega, HR0.out, Touch.refl _ _⟩
  case round =>
    obtain ⟨i, j, hmi, hij, hjb, rfl, rfl, hi1, hj1, hrow, ht⟩ := hrel
    have HT := Lib.hid ht
    have HROW := Lib.hid hrow
    have HI1 := Lib.hid hi1
    have HJ1 := Lib.hid hj1
    clear ht hrow hi1 hj1 HR0
    by_cases hlt : i < j
    · obtain ⟨h, hh⟩ : ∃ h : Nat, h = (i + j) / 2 := ⟨_, rfl⟩
      have hh0 : i ≤ h ∧ h < j := by omega
      have hwij : IntKind.i64.wrap ((i : Int) + (j : Int)) = (i : Int) + (j : Int) := by rw [IntKind.wrap_i64] <;> omega
      have hwh : ((i : Int) + (j : Int)) / 2 = (h : Int) := by omega
      have hwh1 : IntKind.i64.wrap ((h : Int) + 1) = (h : Int) + 1 := by rw [IntKind.wrap_i64] <;> omega
      have hhn : (h : Int) < (n : Int) := by omega
      have han : (a : Int) < (n : Int) := by have := HM.out; omega
      obtain ⟨y, hy⟩ : ∃ y, L[h]? = some y := ⟨_, List.getElem?_eq_getElem (by rw [HLEN.out]; omega)⟩
      have HY := Lib.hid hy
      have HCO := Lib.hid (comp_ad y x.1)
      have hle := y.less_eq x.1
      have HLX := Lib.hid x.1.len
      have HLY := Lib.hid y.len
      generalize y.comp x.1 = cv at *
      have HHH := Lib.hid hh0
      clear hh hy hh0
      by_cases hls : cv < 0
      · have HLESS := Lib.hid (show y.less x.1 = true by rw [hle]; simpa using hls)
        clear hle
        go_wp2_with fail
        refine wp_region_held (S := Touch [] wr.drew) (by kernel_rfl) ?_
        change wpAnyH _ _ _ _ _ _ _ _ wr.drew
        have rh : wr.drew.rangeAt g (h * 17) y.cells := HROW.out.at HY.out
        have ra : wr.drew.rangeAt g (a * 17) x.1.cells := HROW.out.at HLA.out
        have HTd := Lib.hid (HT.out.drew)
        have HROWd := Lib.hid (HROW.out.drew)
        clear HT HROW
        generalize wr.drew = W at *
        have hS := Touch.refl [] W
        refine tkH 0 (.func (.func 56) #[] #[]) rfl ?_
        try simp only [Act.put, sT, s0, sS]
        refine tkH 1 (.slice (some ⟨g, 0, none⟩) n c) rfl ?_
        try simp only [Act.put, sT, s0, sS]
        refine tkH 2 (.int .i64 (h : Nat)) rfl ?_
        try simp only [Act.put, sT, s0, sS]
        refine tkH 3 (.pointer (some ⟨g, h * 17, none⟩)) rfl ?_
        try simp only [Act.put, sT, s0, sS]
        refine tkH 4 (.agg y.cells.toArray) rfl ?_ (hy := Or.inl ⟨by rfl, fun w' hw => exec_load_agg _ 28 _ rfl _ _ rfl y.cells _ (hw.range rh (by simp)) Tryd.underlying28 rfl (by rw [size31, HLY.out])⟩)
        try simp only [Act.put, sT, s0, sS]
        refine tkH 5 (.slice (some ⟨g, 0, none⟩) n c) rfl ?_
        try simp only [Act.put, sT, s0, sS]
        refine tkH 6 (.int .i64 (a : Nat)) rfl ?_
        try simp only [Act.put, sT, s0, sS]
        refine tkH 7 (.pointer (some ⟨g, a * 17, none⟩)) rfl ?_
        try simp only [Act.put, sT, s0, sS]
        refine tkH 8 (.agg x.1.cells.toArray) rfl ?_ (hy := Or.inl ⟨by rfl, fun w' hw => exec_load_agg _ 28 _ rfl _ _ rfl x.1.cells _ (hw.range ra (by simp)) Tryd.underlying28 rfl (by rw [size31, HLX.out])⟩)
        try simp only [Act.put, sT, s0, sS]
        refine wpAnyH_ready (rs := [9]) (by kernel_rfl) (by simp) ?_
        refine cnH rfl (fun K hK => ?_) AllReadyH.nil
        go_simp
        refine (HCO.out _).mono ?_
        rintro e w9 ⟨rfl, t9⟩
        have hS2 := hS.trans t9 (by simp)
        refine hK.out _ _ hS2 (fun _ => ?_)
        clear hK K hS t9
        have hS := hS2
        clear hS2
        try simp only [Act.put, sT, s0, sS]
        refine tkH 10 (.bool true) rfl ?_ (hy := Or.inl ⟨by rfl, fun w' hw => by (have q := hls; go_simp)⟩)
        try simp only [Act.put, sT, s0, sS]
        refine wpAnyH_done (by kernel_rfl) ?_ _
        try simp only [Act.put, sT, s0, sS]
        have HT2 := Lib.hid (HTd.out.trans hS (by simp))
        have HR2 := Lib.hid (HROWd.out.touch hS (by simp))
        clear hS HTd HROWd rh ra
        go_wp2_with fail
        go_roundw
        case rel => exact ⟨h + 1, j, by have := HHH.out; omega, by have := HHH.out; omega, hjb, by go_num, rfl, (by intro z _ hz; rw [Nat.add_sub_cancel, HY.out] at hz; cases hz; exact HLESS.out), HJ1.out, HR2.out, HT2.out⟩
        case measure => simp [intOf]; have := HHH.out; omega
      · have HLESS := Lib.hid (show y.less x.1 = false by rw [hle]; simpa using hls)
        clear hle
        go_wp2_with fail
        refine wp_region_held (S := Touch [] wr.drew) (by kernel_rfl) ?_
        change wpAnyH _ _ _ _ _ _ _ _ wr.drew
        have rh : wr.drew.rangeAt g (h * 17) y.cells := HROW.out.at HY.out
        have ra : wr.drew.rangeAt g (a * 17) x.1.cells := HROW.out.at HLA.out
        have HTd := Lib.hid (HT.out.drew)
        have HROWd := Lib.hid (HROW.out.drew)
        clear HT HROW
        generalize wr.drew = W at *
        have hS := Touch.refl [] W
        refine tkH 0 (.func (.func 56) #[] #[]) rfl ?_
        try simp only [Act.put, sT, s0, sS]
        refine tkH 1 (.slice (some ⟨g, 0, none⟩) n c) rfl ?_
        try simp only [Act.put, sT, s0, sS]
        refine tkH 2 (.int .i64 (h : Nat)) rfl ?_
        try simp only [Act.put, sT, s0, sS]
        refine tkH 3 (.pointer (some ⟨g, h * 17, none⟩)) rfl ?_
        try simp only [Act.put, sT, s0, sS]
        refine tkH 4 (.agg y.cells.toArray) rfl ?_ (hy := Or.inl ⟨by rfl, fun w' hw => exec_load_agg _ 28 _ rfl _ _ rfl y.cells _ (hw.range rh (by simp)) Tryd.underlying28 rfl (by rw [size31, HLY.out])⟩)
        try simp only [Act.put, sT, s0, sS]
        refine tkH 5 (.slice (some ⟨g, 0, none⟩) n c) rfl ?_
        try simp only [Act.put, sT, s0, sS]
        refine tkH 6 (.int .i64 (a : Nat)) rfl ?_
        try simp only [Act.put, sT, s0, sS]
        refine tkH 7 (.pointer (some ⟨g, a * 17, none⟩)) rfl ?_
        try simp only [Act.put, sT, s0, sS]
        refine tkH 8 (.agg x.1.cells.toArray) rfl ?_ (hy := Or.inl ⟨by rfl, fun w' hw => exec_load_agg _ 28 _ rfl _ _ rfl x.1.cells _ (hw.range ra (by simp)) Tryd.underlying28 rfl (by rw [size31, HLX.out])⟩)
        try simp only [Act.put, sT, s0, sS]
        refine wpAnyH_ready (rs := [9]) (by kernel_rfl) (by simp) ?_
        refine cnH rfl (fun K hK => ?_) AllReadyH.nil
        go_simp
        refine (HCO.out _).mono ?_
        rintro e w9 ⟨rfl, t9⟩
        have hS2 := hS.trans t9 (by simp)
        refine hK.out _ _ hS2 (fun _ => ?_)
        clear hK K hS t9
        have hS := hS2
        clear hS2
        try simp only [Act.put, sT, s0, sS]
        refine tkH 10 (.bool false) rfl ?_ (hy := Or.inl ⟨by rfl, fun w' hw => by (have q := hls; go_simp)⟩)
        try simp only [Act.put, sT, s0, sS]
        refine wpAnyH_done (by kernel_rfl) ?_ _
        try simp only [Act.put, sT, s0, sS]
        have HT2 := Lib.hid (HTd.out.trans hS (by simp))
        have HR2 := Lib.hid (HROWd.out.touch hS (by simp))
        clear hS HTd HROWd rh ra
        go_wp2_with fail
        go_roundw
        case rel => exact ⟨i, h, hmi, by have := HHH.out; omega, by have := HHH.out; omega, rfl, rfl, HI1.out, (by intro z _ hz; rw [HY.out] at hz; cases hz; exact HLESS.out), HR2.out, HT2.out⟩
        case measure => simp [intOf]; have := HHH.out; omega
    · have hij2 : i = j := by omega
      subst hij2
      obtain ⟨q, hq⟩ : ∃ q : Nat, i = m + q := ⟨i - m, by omega⟩
      have hqb : q ≤ B.length := by have := HB.out; omega
      have hBs : B.take q ++ B.drop q = B := List.take_append_drop _ _
      have h1 : ∀ y, (B.take q).getLast? = some y → y.1.less x.1 = true := by
        intro y hy
        rw [List.getLast?_eq_getElem?, List.length_take, Nat.min_eq_left hqb] at hy
        have hq0 : 0 < q := by
          rcases Nat.eq_zero_or_pos q with e | e
          · subst e; simp at hy
          · exact e
        rw [List.getElem?_take, if_pos (by omega)] at hy
        refine HI1.out y.1 (by omega) ?_
        rw [show i - 1 = m + (q - 1) by omega, HLB.out (q - 1) (by omega), hy]
        rfl
      have h2 : ∀ y, (B.drop q).head? = some y → y.1.less x.1 = false := by
        intro y hy
        rw [List.head?_drop] at hy
        have hlt : q < B.length := by
          rcases Nat.lt_or_ge q B.length with e | e
          · exact e
          · rw [List.getElem?_eq_none e] at hy; cases hy
        refine HJ1.out y.1 (by have := HB.out; omega) ?_
        rw [hq, HLB.out q hlt, hy]
        rfl
      have HONE := Lib.hid (sym_one_left hW (x := x) (B1 := B.take q) (B2 := B.drop q) (by rw [hBs]; exact HSB.out) (by rw [hBs]; exact HTG.out) h1 h2)
      have HQ := Lib.hid (show (B.take q).length = q by rw [List.length_take]; omega)
      have HBS := Lib.hid hBs
      generalize B.take q = B1 at *
      generalize B.drop q = B2 at *
      obtain ⟨E, hE⟩ : ∃ E : Nat, E = a + q := ⟨_, rfl⟩
      have hwE : IntKind.i64.wrap ((i : Int) - 1) = (E : Int) := by have := HM.out; rw [IntKind.wrap_i64] <;> omega
      have hEn : E < n := by have := HM.out; omega
      have hEa : a ≤ E := by omega
      have HE := Lib.hid hE
      have HR1 := Lib.hid (show RowL wr g n c ((P ++ B1.take 0 ++ x :: (B1.drop 0 ++ B2 ++ S)).map Prod.fst) by
        have h := HROW.out
        rw [HL.out, ← HBS.out] at h
        simpa using h)
      clear hBs h1 h2 hq hlt hE hwma hqb
      go_wp2_with fail
      go_loopw [13] (fun vk wr2 => ∃ t : Nat, t ≤ q ∧ vk = .int .i64 ((a + t : Nat) : Int) ∧ RowL wr2 g n c ((P ++ B1.take t ++ x :: (B1.drop t ++ B2 ++ S)).map Prod.fst) ∧ Touch [g] w wr2) (fun vk _ => E - (intOf vk).toNat)
      case atStart => exact ⟨0, by omega, by simp, HR1.out, HT.out⟩
      case round =>
        obtain ⟨t, htq, rfl, hrow, ht⟩ := hrel
        have HT2 := Lib.hid ht
        have HROW2 := Lib.hid hrow
        obtain ⟨k, hk⟩ : ∃ k : Nat, k = a + t := ⟨_, rfl⟩
        rw [← hk]
        have HK := Lib.hid hk
        clear ht hrow HT HROW HR1
        by_cases hke : k < E
        · have htl : t < q := by have := HE.out; omega
          obtain ⟨y, hy⟩ : ∃ y, B1[t]? = some y := ⟨_, List.getElem?_eq_getElem (by rw [HQ.out]; omega)⟩
          obtain ⟨k1, hk1⟩ : ∃ k1 : Nat, k1 = k + 1 := ⟨_, rfl⟩
          have hst := slide_step P B1 (B2 ++ S) x y t k k1 hy (by rw [HK.out, HA.out]) hk1
          simp only [← List.append_assoc] at hst
          have Hk := Lib.hid hst.1
          have Hk1 := Lib.hid hst.2.1
          have HN := Lib.hid hst.2.2
          have hwk1 : IntKind.i64.wrap ((k : Int) + 1) = (k1 : Int) := by rw [IntKind.wrap_i64] <;> omega
          have hkn : (k : Int) < (n : Int) := by omega
          have hk1n : (k1 : Int) < (n : Int) := by omega
          have HkL := Lib.hid (show k < ((P ++ B1.take t ++ x :: (B1.drop t ++ B2 ++ S)).map Prod.fst).length by rw [HROW2.out.1]; omega)
          have Hk1L := Lib.hid (show k1 < (((P ++ B1.take t ++ x :: (B1.drop t ++ B2 ++ S)).map Prod.fst).set k y.1).length by rw [List.length_set, HROW2.out.1]; omega)
          have HK1 := Lib.hid hk1
          clear hst hy hk hk1
          generalize (P ++ B1.take t ++ x :: (B1.drop t ++ B2 ++ S)).map Prod.fst = L2 at *
          generalize hyv : y.1 = yv at *
          generalize hxv : x.1 = xv at *
          have HYV := Lib.hid hyv
          have HXV := Lib.hid hxv
          clear hyv hxv
          have HLXV := Lib.hid xv.len
          have HLYV := Lib.hid yv.len
          go_wp2_with fail
          refine wp_region_any (by kernel_rfl) ?_
          change wpAny _ _ _ _ _ _ _ wr.drew
          have rk := HROW2.out.drew.at Hk.out
          have rk1 := HROW2.out.drew.at Hk1.out
          have HROW := Lib.hid HROW2.out.drew
          have HT := Lib.hid HT2.out.drew
          generalize wr.drew = W at *
          refine tkA 0 (.slice (some ⟨g, 0, none⟩) n c) rfl ?_
          try simp only [Act.put, sT, s0, sS]
          refine tkA 1 (.int .i64 (k : Nat)) rfl ?_
          try simp only [Act.put, sT, s0, sS]
          refine tkA 2 (.slice (some ⟨g, 0, none⟩) n c) rfl ?_
          try simp only [Act.put, sT, s0, sS]
          refine tkA 3 (.int .i64 (k : Nat)) rfl ?_
          try simp only [Act.put, sT, s0, sS]
          refine tkA 4 (.int .i64 (k1 : Nat)) rfl ?_
          try simp only [Act.put, sT, s0, sS]
          refine tkA 5 (.slice (some ⟨g, 0, none⟩) n c) rfl ?_
          try simp only [Act.put, sT, s0, sS]
          refine tkA 6 (.int .i64 (k : Nat)) rfl ?_
          try simp only [Act.put, sT, s0, sS]
          refine tkA 7 (.int .i64 (k1 : Nat)) rfl ?_
          try simp only [Act.put, sT, s0, sS]
          refine tkA 8 (.pointer (some ⟨g, k1 * 17, none⟩)) rfl ?_
          try simp only [Act.put, sT, s0, sS]
          refine tkA 10 (.slice (some ⟨g, 0, none⟩) n c) rfl ?_
          try simp only [Act.put, sT, s0, sS]
          refine tkA 11 (.int .i64 (k : Nat)) rfl ?_
          try simp only [Act.put, sT, s0, sS]
          refine tkA 12 (.pointer (some ⟨g, k * 17, none⟩)) rfl ?_
          try simp only [Act.put, sT, s0, sS]
          refine wpAny_ready (rs := [9, 13]) (by kernel_rfl) (by simp) ?_
          refine cnA rfl (fun K hK0 => ?_) (cnA rfl (fun K hK0 => ?_) AllReady.nil)
          · have hK := Lib.hid hK0
            clear hK0
            refine step_of_list rfl ?_
            refine wpList_load_mid rfl 28 _ rfl g (k1 * 17) rfl yv.cells _ rk1 Tryd.underlying28 rfl (by rw [size31, HLYV.out]) ?_
            refine ⟨rfl, hK.out _ _ ?_⟩
            clear hK K
            try simp only [Act.put, sT, s0, sS]
            refine wpAny_ready (rs := [13]) (by kernel_rfl) (by simp) ?_
            refine cnA rfl (fun K hK0 => ?_) AllReady.nil
            have hK := Lib.hid hK0
            clear hK0
            refine step_of_list rfl ?_
            refine wpList_load_mid rfl 28 _ rfl g (k * 17) rfl xv.cells _ rk Tryd.underlying28 rfl (by rw [size31, HLXV.out]) ?_
            refine ⟨rfl, hK.out _ _ ?_⟩
            clear hK K
            try simp only [Act.put, sT, s0, sS]
            refine tkA 14 (.pointer (some ⟨g, k * 17, none⟩)) rfl ?_
            try simp only [Act.put, sT, s0, sS]
            refine wpAny_ready (rs := [15]) (by kernel_rfl) (by simp) ?_
            refine cnA rfl (fun K hK0 => ?_) AllReady.nil
            have hK := Lib.hid hK0
            clear hK0
            refine step_of_list rfl ?_
            refine wpList_store_L rfl _ _ rfl g n c L2 HROW.out k yv HkL.out rfl rfl ?_
            intro ws1 row1 t1 z1
            refine ⟨rfl, hK.out _ _ ?_⟩
            clear hK K
            try simp only [Act.put, sT, s0, sS]
            refine tkA 16 (.pointer (some ⟨g, k1 * 17, none⟩)) rfl ?_
            try simp only [Act.put, sT, s0, sS]
            refine wpAny_ready (rs := [17]) (by kernel_rfl) (by simp) ?_
            refine cnA rfl (fun K hK0 => ?_) AllReady.nil
            have hK := Lib.hid hK0
            clear hK0
            refine step_of_list rfl ?_
            refine wpList_store_L rfl _ _ rfl g n c _ row1 k1 xv Hk1L.out rfl rfl ?_
            intro ws2 row2 t2 z2
            refine ⟨rfl, hK.out _ _ ?_⟩
            clear hK K
            try simp only [Act.put, sT, s0, sS]
            refine wpAny_done (by kernel_rfl) ?_ _
            try simp only [Act.put, sT, s0, sS]
            rw [HN.out] at row2
            go_wp2_with fail
            go_roundw
            case rel => exact ⟨t + 1, by omega, by have := HK1.out; have := HK.out; go_num, row2, HT.out.trans (t1.trans t2 (by simp)) (by simp)⟩
            case measure => simp [intOf]; have := HK1.out; omega
          · have hK := Lib.hid hK0
            clear hK0
            refine step_of_list rfl ?_
            refine wpList_load_mid rfl 28 _ rfl g (k * 17) rfl xv.cells _ rk Tryd.underlying28 rfl (by rw [size31, HLXV.out]) ?_
            refine ⟨rfl, hK.out _ _ ?_⟩
            clear hK K
            try simp only [Act.put, sT, s0, sS]
            refine wpAny_ready (rs := [9]) (by kernel_rfl) (by simp) ?_
            refine cnA rfl (fun K hK0 => ?_) AllReady.nil
            have hK := Lib.hid hK0
            clear hK0
            refine step_of_list rfl ?_
            refine wpList_load_mid rfl 28 _ rfl g (k1 * 17) rfl yv.cells _ rk1 Tryd.underlying28 rfl (by rw [size31, HLYV.out]) ?_
            refine ⟨rfl, hK.out _ _ ?_⟩
            clear hK K
            try simp only [Act.put, sT, s0, sS]
            refine tkA 14 (.pointer (some ⟨g, k * 17, none⟩)) rfl ?_
            try simp only [Act.put, sT, s0, sS]
            refine wpAny_ready (rs := [15]) (by kernel_rfl) (by simp) ?_
            refine cnA rfl (fun K hK0 => ?_) AllReady.nil
            have hK := Lib.hid hK0
            clear hK0
            refine step_of_list rfl ?_
            refine wpList_store_L rfl _ _ rfl g n c L2 HROW.out k yv HkL.out rfl rfl ?_
            intro ws1 row1 t1 z1
            refine ⟨rfl, hK.out _ _ ?_⟩
            clear hK K
            try simp only [Act.put, sT, s0, sS]
            refine tkA 16 (.pointer (some ⟨g, k1 * 17, none⟩)) rfl ?_
            try simp only [Act.put, sT, s0, sS]
            refine wpAny_ready (rs := [17]) (by kernel_rfl) (by simp) ?_
            refine cnA rfl (fun K hK0 => ?_) AllReady.nil
            have hK := Lib.hid hK0
            clear hK0
            refine step_of_list rfl ?_
            refine wpList_store_L rfl _ _ rfl g n c _ row1 k1 xv Hk1L.out rfl rfl ?_
            intro ws2 row2 t2 z2
            refine ⟨rfl, hK.out _ _ ?_⟩
            clear hK K
            try simp only [Act.put, sT, s0, sS]
            refine wpAny_done (by kernel_rfl) ?_ _
            try simp only [Act.put, sT, s0, sS]
            rw [HN.out] at row2
            go_wp2_with fail
            go_roundw
            case rel => exact ⟨t + 1, by omega, by have := HK1.out; have := HK.out; go_num, row2, HT.out.trans (t1.trans t2 (by simp)) (by simp)⟩
            case measure => simp [intOf]; have := HK1.out; omega
        · have htl : t = q := by have := HE.out; omega
          have HTL := Lib.hid htl
          clear htl hk
          go_wp2_with fail
          exact ret0 rfl rfl ⟨rfl, ⟨B1 ++ x :: B2, by rw [← HBS.out]; exact HONE.out.1, HONE.out.2, by
            have h := HROW2.out
            rw [HTL.out, List.take_of_length_le (by rw [HQ.out]; omega), List.drop_eq_nil_of_le (by rw [HQ.out]; omega)] at h
            unfold RowT
            simpa using h⟩, HT2.out⟩
end Go.Proofs.YtiklhaajhdephaaDoor

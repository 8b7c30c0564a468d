/-
  Merged texts: Us.
-/
import Derived.Test.YtiklhaajhdephaaDoorGG
import Derived.Test.YtiklhaajhdephaaDoorGF

/-
  Plain lemmas for the law 'Sort is a stable sort': the places of the sorted list.
-/
namespace Go.Proofs.YtiklhaajhdephaaDoor
open Go.RowKit
set_option linter.unusedVariables false
set_option linter.unusedSimpArgs false

theorem exec_neq_agg {P : Program} {a : Act} {w : World} (op : Oper) (t t' : TypeId) (x y : Operand) (ho : op.op = .binOp .neq t x y t')
    (xs ys : Array Value) (hx : a.eval x = .agg xs) (hy : a.eval y = .agg ys) (hm : P.eqGuardType P.depth t = false) (r : Bool) (hr : (Op.equalIn 10000 t (.agg xs) (.agg ys)).run P w = .ok r w) : (execOp a.eval op).run P w = .ok (.value (.bool (!r))) w := by
  have hb : (binOp .neq t (.agg xs) (.agg ys)).run P w = .ok (.bool (!r)) w := by rw [run_neq_struct, hr]; rfl
  unfold execOp
  simp only [ho, hx, hy, Sem.run_bind, run_eqGuard_agg w _ _ _ _ _ _ hm, Result.andThen_ok, hb, Sem.run_pure]
/-- Z is l sorted; each element bears its place in l. -/
structure Sorted (l : List Ad) (Z : List TA) : Prop where
  perm : Z.Perm l.zipIdx
  srt : Srt Ad.less Z
theorem sorted_mk (l : List Ad) : ∃ Z, Sorted l Z ∧ sortS Ad.less l = Z.map Prod.fst := by
  obtain ⟨t1, t2⟩ := tagged l
  obtain ⟨Z, z1, z2, z3⟩ := sortS_tag Ad.weak l.zipIdx t2
  exact ⟨Z, ⟨z1, z2⟩, by rw [t1] at z3; exact z3⟩
theorem Sorted.len {l : List Ad} {Z : List TA} (h : Sorted l Z) : Z.length = l.length := by rw [h.perm.length_eq]; simp
theorem zip_mem {l : List Ad} {c : Ad} {t : Nat} : (c, t) ∈ l.zipIdx ↔ l[t]? = some c := by
  rw [List.mem_zipIdx_iff_getElem?]
theorem Sorted.at {l : List Ad} {Z : List TA} (h : Sorted l Z) {i : Nat} {c : Ad} {t : Nat} (hz : Z[i]? = some (c, t)) : l[t]? = some c := zip_mem.1 (h.perm.mem_iff.1 (List.mem_of_getElem? hz))
theorem Sorted.adj {l : List Ad} {Z : List TA} (h : Sorted l Z) {i : Nat} {p q : TA} (hp : Z[i]? = some p) (hq : Z[i + 1]? = some q) : q.1.less p.1 = false := by
  have hr := List.pairwise_iff_getElem.1 h.srt i (i + 1) (List.getElem?_eq_some_iff.1 hp).1 (List.getElem?_eq_some_iff.1 hq).1 (by omega)
  rw [(List.getElem?_eq_some_iff.1 hp).2, (List.getElem?_eq_some_iff.1 hq).2] at hr
  rcases hr with hr | ⟨hr, _⟩
  · exact Ad.weak.asymm _ _ hr
  · exact hr
theorem Sorted.nodup {l : List Ad} {Z : List TA} (h : Sorted l Z) : (Z.map Prod.snd).Nodup := by
  have : (l.zipIdx.map Prod.snd).Nodup := by
    rw [List.zipIdx_map_snd]
    exact List.nodup_range'
  exact (h.perm.map Prod.snd).nodup_iff.2 this
/-- What has not come up yet comes later. -/
theorem Sorted.later {l : List Ad} {Z : List TA} (h : Sorted l Z) {i : Nat} {c : Ad} {t : Nat} (hz : Z[i]? = some (c, t)) {k : Nat} {y : Ad} (hy : l[k]? = some y) (hu : k ∉ (Z.take i).map Prod.snd) (hkt : k ≠ t) : tR Ad.less (c, t) (y, k) := by
  have hm : (y, k) ∈ Z := h.perm.mem_iff.2 (zip_mem.2 hy)
  obtain ⟨j, hj, e⟩ := List.mem_iff_getElem.1 hm
  have hji : ¬ j < i := fun hlt => hu (by
    refine List.mem_map.2 ⟨(y, k), ?_, rfl⟩
    refine List.mem_iff_getElem?.2 ⟨j, ?_⟩
    rw [List.getElem?_take, if_pos hlt, List.getElem?_eq_getElem hj, e])
  have hne : j ≠ i := fun e2 => by
    subst e2
    rw [List.getElem?_eq_getElem hj, e] at hz
    cases hz
    exact hkt rfl
  have hr := List.pairwise_iff_getElem.1 h.srt i j (List.getElem?_eq_some_iff.1 hz).1 hj (by omega)
  rw [(List.getElem?_eq_some_iff.1 hz).2, e] at hr
  exact hr
theorem Sorted.other {l : List Ad} {Z : List TA} (h : Sorted l Z) {i : Nat} {c : Ad} {t : Nat} (hz : Z[i]? = some (c, t)) {k : Nat} {y : Ad} (hy : l[k]? = some y) (hu : k ∉ (Z.take i).map Prod.snd) (hkt : k < t) : y ≠ c := by
  intro e
  subst e
  rcases h.later hz hy hu (by omega) with hr | ⟨_, hr⟩
  · have := Ad.weak.asymm _ _ hr
    simp only at hr this
    rw [this] at hr; cases hr
  · simp only at hr; omega
theorem Sorted.stable {l : List Ad} {Z : List TA} (h : Sorted l Z) {i : Nat} {c : Ad} {t : Nat} (hz : Z[i]? = some (c, t)) {k : Nat} {y : Ad} (hy : l[k]? = some y) (hu : k ∉ (Z.take i).map Prod.snd) (hkt : k < t) : c.less y = true := by
  rcases h.later hz hy hu (by omega) with hr | ⟨_, hr⟩
  · exact hr
  · simp only at hr; omega
theorem Sorted.new {l : List Ad} {Z : List TA} (h : Sorted l Z) {i : Nat} {c : Ad} {t : Nat} (hz : Z[i]? = some (c, t)) : t ∉ (Z.take i).map Prod.snd := by
  intro hm
  have hn := h.nodup
  have hi := (List.getElem?_eq_some_iff.1 hz).1
  have e : Z.map Prod.snd = (Z.take i).map Prod.snd ++ (Z.drop i).map Prod.snd := by rw [← List.map_append, List.take_append_drop]
  rw [e] at hn
  refine (List.nodup_append.1 hn).2.2 t hm t ?_ rfl
  rw [List.drop_eq_getElem_cons hi, (List.getElem?_eq_some_iff.1 hz).2]
  simp
/-- The flags of the places that have come up among the first i. -/
def usedL (Z : List TA) (i n : Nat) : List Value := (List.range n).map fun k => .bool (decide (k ∈ (Z.take i).map Prod.snd))
theorem usedL_len (Z : List TA) (i n : Nat) : (usedL Z i n).length = n := by simp [usedL]
theorem usedL_at (Z : List TA) (i n k : Nat) (hk : k < n) (b : Bool) (hb : decide (k ∈ (Z.take i).map Prod.snd) = b) : (usedL Z i n)[k]? = some (.bool b) := by
  simp [usedL, hk, ← hb]
theorem usedL_zero (Z : List TA) (n : Nat) : usedL Z 0 n = List.replicate n (.bool false) := by
  apply List.ext_getElem
  · simp [usedL]
  · intro i h1 h2; simp [usedL]
theorem usedL_step {Z : List TA} {i n : Nat} {c : Ad} {t : Nat} (hz : Z[i]? = some (c, t)) : usedL Z (i + 1) n = (usedL Z i n).set t (.bool true) := by
  apply List.ext_getElem?
  intro k
  by_cases hk : k < n
  · rw [List.getElem?_set]
    have hmem : k ∈ (Z.take (i + 1)).map Prod.snd ↔ k ∈ (Z.take i).map Prod.snd ∨ k = t := by
      rw [List.take_add_one, hz, Option.toList_some, List.map_append, List.mem_append]
      simp
    by_cases e : t = k
    · subst e
      rw [if_pos rfl, usedL_len, if_pos hk, usedL_at Z (i + 1) n t hk true (by rw [decide_eq_true_eq, hmem]; exact .inr rfl)]
    · rw [if_neg e, usedL_at Z (i + 1) n k hk _ rfl, usedL_at Z i n k hk _ rfl]
      congr 2
      rw [Bool.eq_iff_iff, decide_eq_true_eq, decide_eq_true_eq, hmem]
      constructor
      · rintro (h | h)
        · exact h
        · exact absurd h.symm e
      · exact .inl
  · rw [List.getElem?_eq_none (by rw [usedL_len]; omega), List.getElem?_eq_none (by rw [List.length_set, usedL_len]; omega)]
theorem sortS_idem (l : List Ad) : sortS Ad.less (sortS Ad.less l) = sortS Ad.less l := by
  obtain ⟨Z, hZ, e⟩ := sorted_mk l
  have hs : Srt Ad.less (sortS Ad.less l).zipIdx := by
    refine List.pairwise_iff_getElem.2 ?_
    intro i j hi hj hij
    simp only [List.length_zipIdx] at hi hj
    have hr := List.pairwise_iff_getElem.1 hZ.srt i j (by rw [e, List.length_map] at hi; exact hi) (by rw [e, List.length_map] at hj; exact hj) hij
    simp only [List.getElem_zipIdx, Nat.zero_add]
    have ei : (sortS Ad.less l)[i] = (Z[i]'(by rw [e, List.length_map] at hi; exact hi)).1 := by simp [e]
    have ej : (sortS Ad.less l)[j] = (Z[j]'(by rw [e, List.length_map] at hj; exact hj)).1 := by simp [e]
    unfold tR
    simp only [ei, ej]
    cases hl : (Z[i]'(by rw [e, List.length_map] at hi; exact hi)).1.less (Z[j]'(by rw [e, List.length_map] at hj; exact hj)).1 with
    | true => exact .inl rfl
    | false =>
      right
      refine ⟨?_, hij⟩
      rcases hr with hr | ⟨hr, _⟩
      · rw [hl] at hr; cases hr
      · exact hr
  have := sorted_eq (sortS Ad.less l) _ (List.Perm.refl _) hs
  rw [← this, (tagged _).1]
end Go.Proofs.YtiklhaajhdephaaDoor

/-
  A slice of structs of the call's own, ahead of and behind the library's sort. Plain lemmas over any program.
-/
import Derived.Test.YtpbabdoecjlifaaRecS
import Derived.Shelf.GgSortFunc.InsertionK
import Derived.Sort.OwnSorted
namespace Go.Proofs.Ytpbabdoecjlifaa
open Go.RowKit Go.Sort Go.Shelf
set_option linter.unusedVariables false
set_option linter.unusedSimpArgs false

section
variable {α : Type} [Inhabited α] {enc : α → List Value} {k : Nat}
theorem flat_enc (hk : ∀ x, (enc x).length = k) (d : List α) (j : Nat) (hj : j < d.length * k) : (d.map enc).flatten[j]? = some (flatK enc k d.toArray)[j]! := by
  have hk0 : 0 < k := by
    rcases Nat.eq_zero_or_pos k with h | h
    · subst h; simp at hj
    · exact h
  have hq : j / k < d.length := (Nat.div_lt_iff_lt_mul hk0).2 hj
  have hm : j % k < k := Nat.mod_lt _ hk0
  rw [get_flatK _ _ _ _ (by simpa using hj)]
  have h1 : (d.map enc)[j / k]? = some (enc d[j / k]) := by simp [hq]
  have h2 : (enc d[j / k])[j % k]? = some ((enc d[j / k])[j % k]'(by rw [hk]; exact hm)) := List.getElem?_eq_getElem _
  have := flat_get (k := k) (xs := d.map enc) (by intro x hx; obtain ⟨y, _, rfl⟩ := List.mem_map.1 hx; exact hk y) h1 h2
  rw [Nat.div_add_mod'] at this
  rw [this]
  have e1 : d.toArray[j / k]! = d[j / k] := by
    rw [getElem!_pos _ _ (by simpa using hq)]
    simp
  rw [e1, getElem!_pos _ _ (by rw [hk]; exact hm)]
theorem owns_holds {w : World} {e : TypeId} {g cap : Nat} (hk : ∀ x, (enc x).length = k) (d : List α) (ho : w.ownsRow 0 e k (.slice (some ⟨g, 0, none⟩) d.length cap) d.length (d.map enc).flatten) : HoldsK enc k w g 0 d.toArray := by
  intro j hj
  have hj' : j < d.length * k := by simpa using hj
  rw [Nat.zero_add]
  exact ⟨owns_cell ho j _ (flat_enc hk d j hj'), owns_frozen ho j⟩
theorem touch_sorted (w : World) (g n : Nat) (d : Array α) (os : Array Obj) : Touch [g] w (sortWorldK enc k w g 0 n d os) := by
  refine ⟨rfl, rfl, rfl, by simp [sortWorldK, putRowK, putRow, mapBlock, ahead, grow], fun i hi hn => ?_⟩
  unfold sortWorldK
  rw [heap_grow_old _ _ (by simpa [putRowK, putRow, mapBlock, ahead] using hi)]
  have : g ≠ i := by simpa [eq_comm] using hn
  simp [putRowK, putRow, mapBlock, Sort.ahead, Array.getElem?_modify, this]
theorem owns_sorted {w : World} {e : TypeId} {g cap n : Nat} {os : Array Obj} (hk : ∀ x, (enc x).length = k) (d d' : List α) (hl : d'.length = d.length) (ho : w.ownsRow 0 e k (.slice (some ⟨g, 0, none⟩) d.length cap) d.length (d.map enc).flatten) :
    (sortWorldK enc k w g 0 n d'.toArray os).ownsRow 0 e k (.slice (some ⟨g, 0, none⟩) d'.length cap) d'.length (d'.map enc).flatten := by
  obtain ⟨_, h2⟩ := ho
  have hfl : (d'.map enc).flatten.length = d'.length * k := by
    have := flat_len (k := k) (xs := d'.map enc) (by intro x hx; obtain ⟨y, _, rfl⟩ := List.mem_map.1 hx; exact hk y)
    simpa using this
  refine ⟨hfl, ?_⟩
  rcases h2 with ⟨h3, _⟩ | ⟨g', cap', cur, hv, hb, hh, h4, h5, h6, h7⟩
  · cases h3
  · simp only [Value.slice.injEq, Option.some.injEq, Addr.mk.injEq, and_true, true_and] at hv
    obtain ⟨rfl, rfl⟩ := hv
    have hg : g < w.heap.size := (Array.getElem?_eq_some_iff.1 hh).1
    refine .inr ⟨g, cap, putCells id 0 (flatK enc k d'.toArray) cur, rfl, hb, ?_, by omega, h5, by simp [putCells, h6], ?_⟩
    · unfold sortWorldK
      rw [heap_grow_old _ _ (by simpa [putRowK, putRow, mapBlock, ahead] using hg)]
      simp [putRowK, putRow, mapBlock, Sort.ahead, Array.getElem?_modify, hh, onCells]
    · have hle : d'.length * k ≤ cur.size := by rw [h6, hl]; exact Nat.mul_le_mul_right _ h4
      apply List.ext_getElem?
      intro j
      by_cases hj : j < d'.length * k
      · rw [List.getElem?_take_of_lt hj, Array.getElem?_toList, flat_enc hk d' j hj]
        have hjc : j < cur.size := by omega
        simp [putCells, hj, hjc]
      · rw [List.getElem?_take_eq_none (by omega), List.getElem?_eq_none (by omega)]
end
end Go.Proofs.Ytpbabdoecjlifaa

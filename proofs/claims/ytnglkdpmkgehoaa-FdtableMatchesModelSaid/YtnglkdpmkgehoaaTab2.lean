/-
  The contracts of the descriptor table's counters, of valid, of slices.Index at the flags, of New.
-/
import Derived.Test.YtnglkdpmkgehoaaTab
namespace Go.Proofs.Ytnglkdpmkgehoaa
open Go.RowKit
set_option linter.unusedVariables false
set_option linter.unusedSimpArgs false

section
variable {w : World} {t m u : Nat} {live : List Fd} {used : List Bool} {total : Int}
theorem Tab.len (h : Tab w t m u live used total) (ty : TypeId) : ∀ n, (Builtin.len_ #[57] ty #[.map (some m)]).run Try.prog (w.drewN n) = .ok (.int .i64 live.length) (w.drewN n) := by
  intro n
  have := (h.mp.touch (drewN_touch w n) (by simp)).len Try.underlying57 ty
  simpa using this
theorem Tab.len0 (h : Tab w t m u live used total) (ty : TypeId) : (Builtin.len_ #[57] ty #[.map (some m)]).run Try.prog w = .ok (.int .i64 live.length) w := h.len ty 0
end

set_option maxRecDepth 100000 in
set_option maxHeartbeats 400000 in
theorem len_any (t m u : Nat) (live : List Fd) (used : List Bool) (total : Int) (w : World) (h : Tab w t m u live used total) :
    Calls Try.prog 20 #[.pointer (some ⟨t, 0, none⟩)] w fun e w' => e = .returned (.int .i64 live.length) ∧ w = w' := by
  obtain ⟨c0, c1, c2⟩ := h.cells
  have hl := h.len0 3
  clear h
  go_enter Try.func20, Try.ntmps20
  go_wp2_with fail
  go_ret
  exact ⟨rfl, rfl⟩
set_option maxRecDepth 100000 in
set_option maxHeartbeats 400000 in
theorem total_any (t m u : Nat) (live : List Fd) (used : List Bool) (total : Int) (w : World) (h : Tab w t m u live used total) :
    Calls Try.prog 21 #[.pointer (some ⟨t, 0, none⟩)] w fun e w' => e = .returned (.int .i64 total) ∧ w = w' := by
  obtain ⟨c0, c1, c2⟩ := h.cells
  clear h
  go_enter Try.func21, Try.ntmps21
  go_wp2_with fail
  go_ret
  exact ⟨rfl, rfl⟩
set_option maxRecDepth 100000 in
set_option maxHeartbeats 400000 in
theorem free_any (t m u : Nat) (live : List Fd) (used : List Bool) (total : Int) (w : World) (h : Tab w t m u live used total) :
    Calls Try.prog 19 #[.pointer (some ⟨t, 0, none⟩)] w fun e w' => e = .returned (.int .i64 (used.length - live.length)) ∧ Touch [] w w' := by
  obtain ⟨c0, c1, c2⟩ := h.cells
  have hl := h.len 3
  have hr := h.room
  have hf := h.few
  clear h
  go_enter Try.func19, Try.ntmps19
  go_wp2_with fail
  go_quiet (fail)
  go_wp2_with fail
  go_ret
  exact ⟨rfl, (Touch.refl _ _).drews _⟩

def validB (c a : Int) : Bool := decide (0 ≤ c) && decide (c < 1048576) && decide (0 ≤ a) && decide (a ≤ 64)
set_option maxRecDepth 100000 in
set_option maxHeartbeats 1000000 in
theorem valid_any (c a : Int) (w : World) :
    Calls Try.prog 31 #[.agg #[.int .i64 c, .int .i64 a]] w fun e w' => e = .returned (.bool (validB c a)) ∧ Touch [] w w' := by
  have tA := (Touch.refl [] w).alloc (.cells #[.int .i64 c, .int .i64 a] 23)
  by_cases h1 : 0 ≤ c
  · by_cases h2 : c < 1048576
    · by_cases h3 : 0 ≤ a
      · by_cases h4 : a ≤ 64
        · have e : validB c a = true := by simp [validB, h1, h2, h3, h4]
          rw [e]
          go_enter Try.func31, Try.ntmps31
          go_wp2_with fail
          go_ret
          exact ⟨rfl, tA⟩
        · have e : validB c a = false := by simp [validB, h1, h2, h3, h4]
          rw [e]
          go_enter Try.func31, Try.ntmps31
          go_wp2_with fail
          go_ret
          exact ⟨rfl, tA⟩
      · have e : validB c a = false := by simp [validB, h1, h2, h3]
        rw [e]
        go_enter Try.func31, Try.ntmps31
        go_wp2_with fail
        go_ret
        exact ⟨rfl, tA⟩
    · have e : validB c a = false := by simp [validB, h1, h2]
      rw [e]
      go_enter Try.func31, Try.ntmps31
      go_wp2_with fail
      go_ret
      exact ⟨rfl, tA⟩
  · have e : validB c a = false := by simp [validB, h1]
    rw [e]
    go_enter Try.func31, Try.ntmps31
    go_wp2_with fail
    go_ret
    exact ⟨rfl, tA⟩

/-- The first place of a false flag, or the length. -/
def hole (used : List Bool) : Nat := used.findIdx (fun b => !b)
theorem hole_le (used : List Bool) : hole used ≤ used.length := List.findIdx_le_length
theorem hole_at {used : List Bool} (h : hole used < used.length) : used[hole used]? = some false := by
  have h2 : (!used[hole used]) = true := List.findIdx_getElem (p := fun b : Bool => !b) (xs := used) (w := h)
  rw [List.getElem?_eq_getElem h]
  cases hb : used[hole used]
  · rfl
  · rw [hb] at h2; cases h2
theorem hole_before {used : List Bool} {k : Nat} (h : k < hole used) : used[k]? = some true := by
  have hl := hole_le used
  have := List.not_of_lt_findIdx (p := fun b : Bool => !b) (xs := used) h
  rw [List.getElem?_eq_getElem (by omega)]
  simpa using this
set_option maxRecDepth 100000 in
set_option maxHeartbeats 400000 in
theorem index_any (u : Nat) (used : List Bool) (w : World) (h : w.heap[u]? = some (.cells (used.map Value.bool).toArray 4 (0, 0))) (hl : used.length ≤ 256) :
    Calls Try.prog 32 #[.slice (some ⟨u, 0, none⟩) used.length used.length, .bool false] w fun e w' => e = .returned (.int .i64 (if hole used < used.length then (hole used : Int) else -1)) ∧ w = w' := by
  have hc : ∀ k b, used[k]? = some b → w.cell? ⟨u, k, none⟩ = some (.bool b) := by
    intro k b hb
    simp [World.cell?, h, hb]
  have hle := hole_le used
  have HC := Lib.hid hc
  clear hc h
  go_enter Try.func32, Try.ntmps32
  go_wp2_with fail
  go_loop [8] (fun vi => ∃ k : Nat, k ≤ hole used ∧ vi = .int .i64 k) (fun vi => used.length - (intOf vi).toNat)
  case atStart => exact ⟨0, by omega, rfl⟩
  case round =>
    obtain ⟨k, hk, rfl⟩ := hrel
    by_cases hlt : k < used.length
    · by_cases hkh : k < hole used
      · have h0 := HC.out k true (hole_before hkh)
        go_wp2_with fail
        go_round
        case rel => exact ⟨k + 1, by omega, by go_num⟩
        case measure => simp [intOf]; omega
      · obtain rfl : k = hole used := by omega
        have h0 := HC.out (hole used) false (hole_at hlt)
        go_wp2_with fail
        go_ret
        exact ⟨rfl, rfl⟩
    · have hn : ¬ hole used < used.length := by omega
      go_wp2_with fail
      go_ret
      exact ⟨rfl, rfl⟩

theorem info4 : (Try.prog.info? 4).map (fun i => (i.zero, i.size, i.bytes)) = some (some (.bool false), 1, 1) := by kernel_rfl
theorem run_flags (n : Nat) (hn : n ≤ 256) (w : World) : (Instr.makeSlice 58 (.int .i64 n) (.int .i64 n)).run Try.prog w = .ok (.slice (some ⟨w.heap.size, 0, none⟩) n n) (w.alloc (.cells (Array.replicate n (Value.bool false)) 4)) := by
  obtain ⟨i4, hi, hz, hs, hb⟩ := info_parts info4
  have := run_make (P := Try.prog) w 58 4 i4 _ Try.underlying58 hi hz .i64 .i64 n n (by omega) (Int.le_refl _) (by rw [hb]; omega) (by omega)
  rw [hs, Nat.mul_one] at this
  rw [this]
  congr 3
  unfold madeCells
  apply Array.ext
  · simp
  · intro i h1 h2
    simp [Value.cells, Nat.mod_one]
set_option maxRecDepth 100000 in
set_option maxHeartbeats 400000 in
theorem new_ok (n : Nat) (w : World) (h1 : 1 ≤ n) (h2 : n ≤ 256) :
    Calls Try.prog 8 #[.int .i64 n] w fun e w' => e = .returned (.tuple #[.pointer (some ⟨w.heap.size + 2, 0, none⟩), .int .i64 0]) ∧ Tab w' (w.heap.size + 2) w.heap.size (w.heap.size + 1) [] (List.replicate n false) 0 ∧ Touch [] w w' := by
  have hmk := fun w => run_flags n h2 w
  have hmm := @run_makeMap Try.prog
  go_enter Try.func8, Try.ntmps8
  go_wp2_with fail
  go_ret2
  refine ⟨rfl, ?_, (((Touch.refl _ _).alloc _).alloc _).alloc _⟩
  have e1 : (w.alloc (.map #[] 0)).heap.size = w.heap.size + 1 := by simp
  have t2 := (Touch.refl [] (w.alloc (.map #[] 0))).alloc (.cells (Array.replicate n (Value.bool false)) 4)
  generalize hO : Obj.cells (Array.replicate n (Value.bool false)) 4 = O at *
  have e2 : ((w.alloc (.map #[] 0)).alloc O).heap.size = w.heap.size + 2 := by simp
  have n2 := heap_alloc_new (w.alloc (.map #[] 0)) O
  rw [e1] at n2
  have hm0 : Mp encK okK (w.alloc (.map #[] 0)) w.heap.size [] := Mp.made w
  have hm2 := hm0.touch t2 (by simp)
  generalize (w.alloc (.map #[] 0)).alloc O = w2 at *
  have hh := heap_alloc_new w2 (.cells #[.map (some w.heap.size), .slice (some ⟨w.heap.size + 1, 0, none⟩) n n, .int .i64 0] 60)
  have t3 := (Touch.refl [] w2).alloc (.cells #[.map (some w.heap.size), .slice (some ⟨w.heap.size + 1, 0, none⟩) n n, .int .i64 0] 60)
  rw [e2] at hh
  refine ⟨by simpa using hh, ?_, hm2.touch t3 (by simp), by simp, by simp, by simpa using h2, by simp, by simp, by simp [List.count_replicate]⟩
  have := t3.at n2 (by simp)
  rw [← hO] at this
  simpa using this
theorem new_bad (n : Int) (w : World) (h : n < 1 ∨ 256 < n) :
    Calls Try.prog 8 #[.int .i64 n] w fun e w' => e = .returned (.tuple #[.pointer none, .int .i64 1]) ∧ w = w' := by
  rcases h with h | h
  · go_enter Try.func8, Try.ntmps8
    go_wp2_with fail
    go_ret2
    exact ⟨rfl, rfl⟩
  · have h' : ¬ n < 1 := by omega
    go_enter Try.func8, Try.ntmps8
    go_wp2_with fail
    go_ret2
    exact ⟨rfl, rfl⟩
end Go.Proofs.Ytnglkdpmkgehoaa

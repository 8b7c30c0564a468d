/-
  The sanity check of the statements about descriptor tables answers true; ValidEndpoint; shutdown.
-/
import Derived.Test.YtnglkdpmkgehoaaCl
namespace Go.Proofs.Ytnglkdpmkgehoaa
open Go.RowKit
set_option linter.unusedVariables false
set_option linter.unusedSimpArgs false

theorem new_ex (N : Int) (n : Nat) (w : World) (hN : N = n) (h1 : 1 ≤ n) (h2 : n ≤ 256) :
    Calls Try.prog 8 #[.int .i64 N] w fun e w' => ∃ t m u, e = .returned (.tuple #[.pointer (some ⟨t, 0, none⟩), .int .i64 0]) ∧ Tab w' t m u [] (List.replicate n false) 0 ∧ (w.heap.size ≤ t ∧ w.heap.size ≤ m ∧ w.heap.size ≤ u) ∧ Touch [] w w' := by
  subst hN
  exact (new_ok n w h1 h2).mono fun e w' ⟨he, hT, ht⟩ => ⟨_, _, _, he, hT, ⟨by omega, by omega, by omega⟩, ht⟩
theorem cells_two {w : World} {B : Nat} {x y : Value} {T : TypeId} (h : w.heap[B]? = some (.cells #[x, y] T (0, 0))) : w.cell? ⟨B, 0, none⟩ = some x ∧ w.cell? ⟨B, 1, none⟩ = some y := by
  simp [World.cell?, h]
theorem okS (c a : Int) (h1 : 0 ≤ c) (h2 : c ≤ 1048576) (h3 : 0 ≤ a) (h4 : a ≤ 1048576) : okK (c, a) := by
  simp [okK, Lit.wf, IntKind.min, IntKind.max, IntKind.signed, IntKind.bits]
  omega

set_option maxRecDepth 100000 in
set_option maxHeartbeats 2000000 in
theorem awake_ok (w : World) : Calls Try.prog 11 #[] w fun e w' => e = .returned (.bool true) ∧ Touch [] w w' := by
  go_enter Try.func11, Try.ntmps11
  go_wp2_with fail
  refine (new_ex 2 2 _ rfl (by omega) (by omega)).mono ?_
  rintro _ w1 ⟨t, m, u, rfl, T1, ⟨zt, zm, zu⟩, t1⟩
  go_wp2_with fail
  refine (new_bad 0 _ (.inl (by omega))).mono ?_
  rintro _ w1' ⟨rfl, rfl⟩
  have tA := (Touch.refl [] w1).alloc (.cells #[.int .i64 7, .int .i64 0] 23)
  have gA := heap_alloc_new w1 (.cells #[.int .i64 7, .int .i64 0] 23)
  have tB := (Touch.refl [] (w1.alloc (.cells #[.int .i64 7, .int .i64 0] 23))).alloc (.cells #[.int .i64 7, .int .i64 1] 23)
  have gB := heap_alloc_new (w1.alloc (.cells #[.int .i64 7, .int .i64 0] 23)) (.cells #[.int .i64 7, .int .i64 1] 23)
  rw [World.size_alloc] at gB
  replace gA := tB.at gA (by simp)
  have T2 := (T1.touch tA (by simp)).touch tB (by simp)
  have t2 := (t1.trans tA (by simp)).trans tB (by simp)
  have hlt := T1.lt
  have l1 := hlt t (by simp [Tab.foot])
  have l2 := hlt m (by simp [Tab.foot])
  have l3 := hlt u (by simp [Tab.foot])
  have l0 := t1.size
  clear T1 t1 tA tB hlt
  go_wp2_with fail
  generalize (w1.alloc (.cells #[.int .i64 7, .int .i64 0] 23)).alloc (.cells #[.int .i64 7, .int .i64 1] 23) = w2 at *
  refine (open_ok t m u [] _ 0 7 0 false _ T2 (okS _ _ (by omega) (by omega) (by omega) (by omega)) rfl rfl (by decide) (by omega)).mono ?_
  rintro e w3 ⟨he, g1, hg1, T3, t3⟩
  obtain rfl : e = .returned (.tuple #[.int .i64 0, .int .i64 0]) := he
  change Tab w3 t m u [⟨(7, 0), g1, 0, 2⟩] [true, false] 1 at T3
  have s3 := t3.size
  have G3 : w3.heap[w1.heap.size]? = _ := t3.at gA (by simp; omega)
  have H3 : w3.heap[w1.heap.size + 1]? = _ := t3.at gB (by simp; omega)
  have u3 : Touch [] w w3 := t2.trans t3 (by simp; omega)
  obtain ⟨a0, a1⟩ := cells_two G3
  obtain ⟨b0, b1⟩ := cells_two H3
  clear gA gB T2 t2 t3
  go_wp2_with fail
  refine (open_ok t m u _ _ 1 7 1 true _ T3 (okS _ _ (by omega) (by omega) (by omega) (by omega)) rfl rfl (by decide) (by omega)).mono ?_
  rintro e w4 ⟨he, g2, hg2, T4, t4⟩
  obtain rfl : e = .returned (.tuple #[.int .i64 1, .int .i64 0]) := he
  change Tab w4 t m u [⟨(7, 0), g1, 0, 2⟩, ⟨(7, 1), g2, 1, 1⟩] [true, true] 2 at T4
  have s4 := t4.size
  have G4 : w4.heap[w1.heap.size]? = _ := t4.at G3 (by simp; omega)
  have H4 : w4.heap[w1.heap.size + 1]? = _ := t4.at H3 (by simp; omega)
  have u4 : Touch [] w w4 := u3.trans t4 (by simp; omega)
  clear a0 a1 b0 b1 G3 H3 T3 t4 u3
  obtain ⟨a0, a1⟩ := cells_two G4
  obtain ⟨b0, b1⟩ := cells_two H4
  go_wp2_with fail
  refine (state_any t m u _ _ _ 7 1 _ T4 (okS _ _ (by omega) (by omega) (by omega) (by omega))).mono ?_
  rintro e w5 ⟨he, t5⟩
  obtain rfl : e = .returned (.int .i64 1) := he
  have T5 := T4.touch t5 (by simp)
  have G5 : w5.heap[w1.heap.size]? = _ := t5.at G4 (by simp)
  have H5 : w5.heap[w1.heap.size + 1]? = _ := t5.at H4 (by simp)
  have u5 : Touch [] w w5 := u4.trans t5 (by simp)
  have s5 := t5.size
  clear a0 a1 b0 b1 G4 H4 T4 t5 u4
  obtain ⟨a0, a1⟩ := cells_two G5
  obtain ⟨b0, b1⟩ := cells_two H5
  go_wp2_with fail
  refine (close_ok t m u _ _ _ 7 0 _ T5 (okS _ _ (by omega) (by omega) (by omega) (by omega)) ⟨(7, 0), g1, 0, 2⟩ rfl).mono ?_
  rintro e w6 ⟨he, T6, t6⟩
  obtain rfl : e = .returned (.int .i64 0) := he
  change Tab w6 t m u [⟨(7, 1), g2, 1, 1⟩] [false, true] 2 at T6
  have s6 := t6.size
  have G6 : w6.heap[w1.heap.size]? = _ := t6.at G5 (by simp; omega)
  have H6 : w6.heap[w1.heap.size + 1]? = _ := t6.at H5 (by simp; omega)
  have u6 : Touch [] w w6 := u5.trans t6 (by simp; omega)
  clear a0 a1 b0 b1 G5 H5 T5 t6 u5
  go_wp2_with fail
  refine (open_ok t m u _ _ 2 9 0 false _ T6 (okS _ _ (by omega) (by omega) (by omega) (by omega)) rfl rfl (by decide) (by omega)).mono ?_
  rintro e w7 ⟨he, g3, hg3, T7, t7⟩
  obtain rfl : e = .returned (.tuple #[.int .i64 0, .int .i64 0]) := he
  change Tab w7 t m u [⟨(7, 1), g2, 1, 1⟩, ⟨(9, 0), g3, 0, 2⟩] [true, true] 3 at T7
  have G7 : w7.heap[w1.heap.size]? = _ := t7.at G6 (by simp; omega)
  have H7 : w7.heap[w1.heap.size + 1]? = _ := t7.at H6 (by simp; omega)
  have u7 : Touch [] w w7 := u6.trans t7 (by simp; omega)
  clear G6 H6 T6 t7 u6
  obtain ⟨a0, a1⟩ := cells_two G7
  obtain ⟨b0, b1⟩ := cells_two H7
  go_wp2_with fail
  refine (len_any t m u _ _ _ _ T7).mono ?_
  rintro e w7' ⟨he, rfl⟩
  obtain rfl : e = .returned (.int .i64 2) := he
  go_wp2_with fail
  refine (free_any t m u _ _ _ _ T7).mono ?_
  rintro e w8 ⟨he, t8⟩
  obtain rfl : e = .returned (.int .i64 0) := he
  have T8 := T7.touch t8 (by simp)
  have G8 : w8.heap[w1.heap.size]? = _ := t8.at G7 (by simp)
  have H8 : w8.heap[w1.heap.size + 1]? = _ := t8.at H7 (by simp)
  have u8 : Touch [] w w8 := u7.trans t8 (by simp)
  clear a0 a1 b0 b1 G7 H7 T7 t8 u7
  obtain ⟨a0, a1⟩ := cells_two G8
  obtain ⟨b0, b1⟩ := cells_two H8
  go_wp2_with fail
  refine (total_any t m u _ _ _ _ T8).mono ?_
  rintro e w8' ⟨he, rfl⟩
  obtain rfl : e = .returned (.int .i64 3) := he
  go_wp2_with fail
  refine (number_any t m u _ _ _ 7 0 _ T8 (okS _ _ (by omega) (by omega) (by omega) (by omega))).mono ?_
  rintro e w9 ⟨he, t9⟩
  obtain rfl : e = .returned (.int .i64 (-1)) := he
  have T9 := T8.touch t9 (by simp)
  have H9 : w9.heap[w1.heap.size + 1]? = _ := t9.at H8 (by simp)
  have u9 : Touch [] w w9 := u8.trans t9 (by simp)
  clear a0 a1 b0 b1 G8 H8 T8 t9 u8
  obtain ⟨b0, b1⟩ := cells_two H9
  go_wp2_with fail
  refine (number_any t m u _ _ _ 7 1 _ T9 (okS _ _ (by omega) (by omega) (by omega) (by omega))).mono ?_
  rintro e w10 ⟨he, t10⟩
  obtain rfl : e = .returned (.int .i64 1) := he
  go_wp2_with fail
  go_ret
  exact ⟨rfl, u9.trans t10 (by simp)⟩
end Go.Proofs.Ytnglkdpmkgehoaa

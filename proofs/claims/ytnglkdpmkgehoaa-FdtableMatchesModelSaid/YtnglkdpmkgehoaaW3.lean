/-
  The walk of FdtableValidatesEndpoint: true at every endpoint. No condition.
-/
import Derived.Test.YtnglkdpmkgehoaaAw
import Derived.Test.YtnglkdpmkgehoaaArg
import Derived.DeepKeys4
namespace Go.Proofs.Ytnglkdpmkgehoaa
open Go.RowKit
set_option linter.unusedVariables false
set_option linter.unusedSimpArgs false

theorem lits23 (c a : Int) (h : okK (c, a)) : Try.prog.keyLits 5 23 [.int .i64 c, .int .i64 a] = some [.int .i64 c, .int .i64 a] := by
  have c3 : Try.prog.cellsOf 3 = 1 := by kernel_rfl
  have c23 : Try.prog.cellsOf 23 = 2 := by kernel_rfl
  obtain ⟨h1, h2⟩ := h
  simp at h1 h2
  simp [Program.keyLits, Try.underlying23, Try.underlying3, c3, c23, h1, h2]
theorem eq23 (c a c' a' : Int) (h : okK (c, a)) (h' : okK (c', a')) (w : World) : (Op.equalIn 10000 23 (.agg #[.int .i64 c, .int .i64 a]) (.agg #[.int .i64 c', .int .i64 a'])).run Try.prog w = .ok (decide (c = c' ∧ a = a')) w := by
  obtain ⟨r, hrun, hi⟩ := run_equalIn_deep 9995 5 23 (by kernel_rfl) w 5 5 (.agg #[.int .i64 c, .int .i64 a]) (.agg #[.int .i64 c', .int .i64 a']) _ _ (by rfl) (by rfl) (lits23 c a h) (lits23 c' a' h')
  have : r = decide (c = c' ∧ a = a') := by
    by_cases hc : c = c' ∧ a = a'
    · obtain ⟨rfl, rfl⟩ := hc
      rw [hi.2 rfl]
      simp
    · have : ¬ r = true := fun hr => hc (by simpa using hi.1 hr)
      simp [hc, this]
  rw [← this]
  exact hrun
set_option maxRecDepth 100000 in
set_option maxHeartbeats 1000000 in
theorem vend_any (c a : Int) (w : World) :
    Calls Try.prog 10 #[.agg #[.int .i64 c, .int .i64 a]] w fun e w' => e = .returned (.bool (validB c a)) ∧ Touch [] w w' := by
  have tA := (Touch.refl [] w).alloc (.cells #[.int .i64 c, .int .i64 a] 23)
  by_cases h1 : 0 ≤ c
  · by_cases h2 : c < 1048576
    · by_cases h3 : 0 ≤ a
      · by_cases h4 : a ≤ 64
        · have e : validB c a = true := by simp [validB, h1, h2, h3, h4]
          rw [e]
          go_enter Try.func10, Try.ntmps10
          go_wp2_with fail
          go_ret
          exact ⟨rfl, tA⟩
        · have e : validB c a = false := by simp [validB, h1, h2, h3, h4]
          rw [e]
          go_enter Try.func10, Try.ntmps10
          go_wp2_with fail
          go_ret
          exact ⟨rfl, tA⟩
      · have e : validB c a = false := by simp [validB, h1, h2, h3]
        rw [e]
        go_enter Try.func10, Try.ntmps10
        go_wp2_with fail
        go_ret
        exact ⟨rfl, tA⟩
    · have e : validB c a = false := by simp [validB, h1, h2]
      rw [e]
      go_enter Try.func10, Try.ntmps10
      go_wp2_with fail
      go_ret
      exact ⟨rfl, tA⟩
  · have e : validB c a = false := by simp [validB, h1]
    rw [e]
    go_enter Try.func10, Try.ntmps10
    go_wp2_with fail
    go_ret
    exact ⟨rfl, tA⟩

set_option maxRecDepth 100000 in
set_option maxHeartbeats 4000000 in
theorem walk3 (c a : Int) (full pending : Bool) (w : World) (hk : okK (c, a)) :
    Calls Try.prog 3 #[.agg #[.int .i64 c, .int .i64 a], .bool full, .bool pending] w fun e w' => e = .returned (.bool true) ∧ Touch [] w w' := by
  have k5 : okK (5, 5) := okS _ _ (by omega) (by omega) (by omega) (by omega)
  have k6 : okK (5, 6) := okS _ _ (by omega) (by omega) (by omega) (by omega)
  have tA := (Touch.refl [] w).alloc (.cells #[.int .i64 c, .int .i64 a] 23)
  have gA := heap_alloc_new w (.cells #[.int .i64 c, .int .i64 a] 23)
  by_cases hx : c = 5 ∧ a = 5
  · obtain ⟨rfl, rfl⟩ := hx
    cases full
    · go_enter Try.func3, Try.ntmps3
      go_wp2_with fail
      refine (new_ex 1 1 _ rfl (by omega) (by omega)).mono ?_
      rintro _ w1 ⟨t, m, u, rfl, T1, ⟨zt, zm, zu⟩, t1⟩
      have G1 := t1.at gA (by simp)
      have l1 := (Array.getElem?_eq_some_iff.1 G1).1
      have T2 := T1.touch ((Touch.refl [] w1).alloc (.cells #[.int .i64 5, .int .i64 6] 23)) (by simp)
      have t2 := (tA.trans t1 (by simp)).alloc (.cells #[.int .i64 5, .int .i64 6] 23)
      have G2 := ((Touch.refl [] w1).alloc (.cells #[.int .i64 5, .int .i64 6] 23)).at G1 (by simp)
      have H2 := heap_alloc_new w1 (.cells #[.int .i64 5, .int .i64 6] 23)
      have sz : (w1.alloc (.cells #[.int .i64 5, .int .i64 6] 23)).heap.size = w1.heap.size + 1 := by simp
      obtain ⟨x0, x1⟩ := cells_two G1
      have ll := T1.lt
      have q1 := ll t (by simp [Tab.foot])
      have q2 := ll m (by simp [Tab.foot])
      have q3 := ll u (by simp [Tab.foot])
      rw [World.size_alloc] at zt zm zu
      clear t1 T1 tA gA G1 ll
      go_wp2_with (refine wpList_eql_agg rfl 23 _ _ _ rfl #[.int .i64 5, .int .i64 5] #[.int .i64 5, .int .i64 5] rfl rfl (by kernel_rfl) true (by have := eq23 5 5 5 5 hk k5; simpa using this _) ?_)
      generalize w1.alloc (.cells #[.int .i64 5, .int .i64 6] 23) = W at *
      have T3 := T2
      have G3 := G2
      have u3 := t2
      clear T2 G2 t2 x0 x1
      obtain ⟨x0, x1⟩ := cells_two G3
      go_wp2_with fail
      refine (vend_any 5 5 _).mono ?_
      rintro e w4 ⟨he, t4⟩
      obtain rfl : e = .returned (.bool true) := he
      have T4 := T3.touch t4 (by simp)
      have G4 := t4.at G3 (by simp)
      have u4 := u3.trans t4 (by simp)
      clear T3 G3 u3 t4 x0 x1
      obtain ⟨x0, x1⟩ := cells_two G4
      go_wp2_with fail
      refine (open_ok t m u [] _ 0 5 5 pending _ T4 hk rfl rfl (by decide) (by omega)).mono ?_
      rintro e w5 ⟨he, g1, hg1, T5, t5⟩
      obtain rfl : e = .returned (.tuple #[.int .i64 0, .int .i64 0]) := he
      change Tab w5 t m u [⟨(5, 5), g1, 0, if pending then 1 else 2⟩] [true] 1 at T5
      have u5 : Touch [] w w5 := u4.trans t5 (by simp; omega)
      have G5 : w5.heap[w.heap.size]? = _ := t5.at G4 (by simp; omega)
      clear G4 T4 u4 t5 x0 x1
      go_wp2_with fail
      refine (awake_ok _).mono ?_
      rintro e w6 ⟨rfl, t6⟩
      have T6 := T5.touch t6 (by simp)
      have G6 := t6.at G5 (by simp)
      obtain ⟨x0, x1⟩ := cells_two G6
      go_wp2_with fail
      refine (state_any t m u _ _ _ 5 5 _ T6 hk).mono ?_
      rintro e w7 ⟨he, t7⟩
      cases pending
      · obtain rfl : e = .returned (.int .i64 2) := he
        go_wp2_with fail
        go_ret
        exact ⟨rfl, (u5.trans t6 (by simp)).trans t7 (by simp)⟩
      · obtain rfl : e = .returned (.int .i64 1) := he
        go_wp2_with fail
        go_ret
        exact ⟨rfl, (u5.trans t6 (by simp)).trans t7 (by simp)⟩
    · go_enter Try.func3, Try.ntmps3
      go_wp2_with fail
      refine (new_ex 1 1 _ rfl (by omega) (by omega)).mono ?_
      rintro _ w1 ⟨t, m, u, rfl, T1, ⟨zt, zm, zu⟩, t1⟩
      have G1 := t1.at gA (by simp)
      have l1 := (Array.getElem?_eq_some_iff.1 G1).1
      have T2 := T1.touch ((Touch.refl [] w1).alloc (.cells #[.int .i64 5, .int .i64 6] 23)) (by simp)
      have t2 := (tA.trans t1 (by simp)).alloc (.cells #[.int .i64 5, .int .i64 6] 23)
      have G2 := ((Touch.refl [] w1).alloc (.cells #[.int .i64 5, .int .i64 6] 23)).at G1 (by simp)
      have H2 := heap_alloc_new w1 (.cells #[.int .i64 5, .int .i64 6] 23)
      have sz : (w1.alloc (.cells #[.int .i64 5, .int .i64 6] 23)).heap.size = w1.heap.size + 1 := by simp
      obtain ⟨x0, x1⟩ := cells_two G1
      have ll := T1.lt
      have q1 := ll t (by simp [Tab.foot])
      have q2 := ll m (by simp [Tab.foot])
      have q3 := ll u (by simp [Tab.foot])
      rw [World.size_alloc] at zt zm zu
      clear t1 T1 tA gA G1 ll
      go_wp2_with (refine wpList_eql_agg rfl 23 _ _ _ rfl #[.int .i64 5, .int .i64 5] #[.int .i64 5, .int .i64 5] rfl rfl (by kernel_rfl) true (by have := eq23 5 5 5 5 hk k5; simpa using this _) ?_)
      generalize w1.alloc (.cells #[.int .i64 5, .int .i64 6] 23) = W at *
      refine (open_ok t m u [] _ 0 5 6 false _ T2 k6 rfl rfl (by decide) (by omega)).mono ?_
      rintro e w3 ⟨he, g1, hg1, T3, t3⟩
      obtain rfl : e = .returned (.tuple #[.int .i64 0, .int .i64 0]) := he
      change Tab w3 t m u [⟨(5, 6), g1, 0, 2⟩] [true] 1 at T3
      have G3 : w3.heap[w.heap.size]? = _ := t3.at G2 (by simp; omega)
      have u3 : Touch [] w w3 := t2.trans t3 (by simp; omega)
      clear G2 H2 T2 t2 t3 x0 x1
      obtain ⟨x0, x1⟩ := cells_two G3
      go_wp2_with fail
      refine (vend_any 5 5 _).mono ?_
      rintro e w4 ⟨he, t4⟩
      obtain rfl : e = .returned (.bool true) := he
      have T4 := T3.touch t4 (by simp)
      have G4 := t4.at G3 (by simp)
      have u4 := u3.trans t4 (by simp)
      clear T3 G3 u3 t4 x0 x1
      obtain ⟨x0, x1⟩ := cells_two G4
      go_wp2_with fail
      refine (open_full t m u _ _ _ 5 5 pending _ T4 hk rfl (rfl) (by decide)).mono ?_
      rintro e w5 ⟨rfl, t5⟩
      have u5 := u4.trans t5 (by simp)
      clear G4 T4 u4 t5 x0 x1
      go_wp2_with fail
      refine (awake_ok _).mono ?_
      rintro e w6 ⟨rfl, t6⟩
      go_wp2_with fail
      go_ret
      exact ⟨rfl, u5.trans t6 (by simp)⟩
  · cases hv : validB c a
    · cases full
      · go_enter Try.func3, Try.ntmps3
        go_wp2_with fail
        refine (new_ex 1 1 _ rfl (by omega) (by omega)).mono ?_
        rintro _ w1 ⟨t, m, u, rfl, T1, ⟨zt, zm, zu⟩, t1⟩
        have G1 := t1.at gA (by simp)
        have l1 := (Array.getElem?_eq_some_iff.1 G1).1
        have T2 := T1.touch ((Touch.refl [] w1).alloc (.cells #[.int .i64 5, .int .i64 5] 23)) (by simp)
        have t2 := (tA.trans t1 (by simp)).alloc (.cells #[.int .i64 5, .int .i64 5] 23)
        have G2 := ((Touch.refl [] w1).alloc (.cells #[.int .i64 5, .int .i64 5] 23)).at G1 (by simp)
        have H2 := heap_alloc_new w1 (.cells #[.int .i64 5, .int .i64 5] 23)
        have sz : (w1.alloc (.cells #[.int .i64 5, .int .i64 5] 23)).heap.size = w1.heap.size + 1 := by simp
        obtain ⟨x0, x1⟩ := cells_two G1
        have ll := T1.lt
        have q1 := ll t (by simp [Tab.foot])
        have q2 := ll m (by simp [Tab.foot])
        have q3 := ll u (by simp [Tab.foot])
        rw [World.size_alloc] at zt zm zu
        clear t1 T1 tA gA G1 ll
        go_wp2_with (refine wpList_eql_agg rfl 23 _ _ _ rfl #[.int .i64 c, .int .i64 a] #[.int .i64 5, .int .i64 5] rfl rfl (by kernel_rfl) false (by have := eq23 c a 5 5 hk k5; rw [this]; simp [hx]) ?_)
        generalize w1.alloc (.cells #[.int .i64 5, .int .i64 5] 23) = W at *
        have T3 := T2
        have G3 := G2
        have u3 := t2
        clear T2 G2 t2 x0 x1
        obtain ⟨x0, x1⟩ := cells_two G3
        go_wp2_with fail
        refine (vend_any c a _).mono ?_
        rintro e w4 ⟨he, t4⟩
        obtain rfl : e = .returned (.bool false) := by rw [he, hv]
        have T4 := T3.touch t4 (by simp)
        have G4 := t4.at G3 (by simp)
        have u4 := u3.trans t4 (by simp)
        clear T3 G3 u3 t4 x0 x1
        obtain ⟨x0, x1⟩ := cells_two G4
        go_wp2_with fail
        refine (open_bad t c a pending _ hv).mono ?_
        rintro e w5 ⟨rfl, t5⟩
        have u5 := u4.trans t5 (by simp)
        clear G4 T4 u4 t5 x0 x1
        go_wp2_with fail
        refine (awake_ok _).mono ?_
        rintro e w6 ⟨rfl, t6⟩
        go_wp2_with fail
        go_ret
        exact ⟨rfl, u5.trans t6 (by simp)⟩
      · go_enter Try.func3, Try.ntmps3
        go_wp2_with fail
        refine (new_ex 1 1 _ rfl (by omega) (by omega)).mono ?_
        rintro _ w1 ⟨t, m, u, rfl, T1, ⟨zt, zm, zu⟩, t1⟩
        have G1 := t1.at gA (by simp)
        have l1 := (Array.getElem?_eq_some_iff.1 G1).1
        have T2 := T1.touch ((Touch.refl [] w1).alloc (.cells #[.int .i64 5, .int .i64 5] 23)) (by simp)
        have t2 := (tA.trans t1 (by simp)).alloc (.cells #[.int .i64 5, .int .i64 5] 23)
        have G2 := ((Touch.refl [] w1).alloc (.cells #[.int .i64 5, .int .i64 5] 23)).at G1 (by simp)
        have H2 := heap_alloc_new w1 (.cells #[.int .i64 5, .int .i64 5] 23)
        have sz : (w1.alloc (.cells #[.int .i64 5, .int .i64 5] 23)).heap.size = w1.heap.size + 1 := by simp
        obtain ⟨x0, x1⟩ := cells_two G1
        have ll := T1.lt
        have q1 := ll t (by simp [Tab.foot])
        have q2 := ll m (by simp [Tab.foot])
        have q3 := ll u (by simp [Tab.foot])
        rw [World.size_alloc] at zt zm zu
        clear t1 T1 tA gA G1 ll
        go_wp2_with (refine wpList_eql_agg rfl 23 _ _ _ rfl #[.int .i64 c, .int .i64 a] #[.int .i64 5, .int .i64 5] rfl rfl (by kernel_rfl) false (by have := eq23 c a 5 5 hk k5; rw [this]; simp [hx]) ?_)
        generalize w1.alloc (.cells #[.int .i64 5, .int .i64 5] 23) = W at *
        refine (open_ok t m u [] _ 0 5 5 false _ T2 k5 rfl rfl (by decide) (by omega)).mono ?_
        rintro e w3 ⟨he, g1, hg1, T3, t3⟩
        obtain rfl : e = .returned (.tuple #[.int .i64 0, .int .i64 0]) := he
        change Tab w3 t m u [⟨(5, 5), g1, 0, 2⟩] [true] 1 at T3
        have G3 : w3.heap[w.heap.size]? = _ := t3.at G2 (by simp; omega)
        have u3 : Touch [] w w3 := t2.trans t3 (by simp; omega)
        clear G2 H2 T2 t2 t3 x0 x1
        obtain ⟨x0, x1⟩ := cells_two G3
        go_wp2_with fail
        refine (vend_any c a _).mono ?_
        rintro e w4 ⟨he, t4⟩
        obtain rfl : e = .returned (.bool false) := by rw [he, hv]
        have T4 := T3.touch t4 (by simp)
        have G4 := t4.at G3 (by simp)
        have u4 := u3.trans t4 (by simp)
        clear T3 G3 u3 t4 x0 x1
        obtain ⟨x0, x1⟩ := cells_two G4
        go_wp2_with fail
        refine (open_bad t c a pending _ hv).mono ?_
        rintro e w5 ⟨rfl, t5⟩
        have u5 := u4.trans t5 (by simp)
        clear G4 T4 u4 t5 x0 x1
        go_wp2_with fail
        refine (awake_ok _).mono ?_
        rintro e w6 ⟨rfl, t6⟩
        go_wp2_with fail
        go_ret
        exact ⟨rfl, u5.trans t6 (by simp)⟩
    · cases full
      · go_enter Try.func3, Try.ntmps3
        go_wp2_with fail
        refine (new_ex 1 1 _ rfl (by omega) (by omega)).mono ?_
        rintro _ w1 ⟨t, m, u, rfl, T1, ⟨zt, zm, zu⟩, t1⟩
        have G1 := t1.at gA (by simp)
        have l1 := (Array.getElem?_eq_some_iff.1 G1).1
        have T2 := T1.touch ((Touch.refl [] w1).alloc (.cells #[.int .i64 5, .int .i64 5] 23)) (by simp)
        have t2 := (tA.trans t1 (by simp)).alloc (.cells #[.int .i64 5, .int .i64 5] 23)
        have G2 := ((Touch.refl [] w1).alloc (.cells #[.int .i64 5, .int .i64 5] 23)).at G1 (by simp)
        have H2 := heap_alloc_new w1 (.cells #[.int .i64 5, .int .i64 5] 23)
        have sz : (w1.alloc (.cells #[.int .i64 5, .int .i64 5] 23)).heap.size = w1.heap.size + 1 := by simp
        obtain ⟨x0, x1⟩ := cells_two G1
        have ll := T1.lt
        have q1 := ll t (by simp [Tab.foot])
        have q2 := ll m (by simp [Tab.foot])
        have q3 := ll u (by simp [Tab.foot])
        rw [World.size_alloc] at zt zm zu
        clear t1 T1 tA gA G1 ll
        go_wp2_with (refine wpList_eql_agg rfl 23 _ _ _ rfl #[.int .i64 c, .int .i64 a] #[.int .i64 5, .int .i64 5] rfl rfl (by kernel_rfl) false (by have := eq23 c a 5 5 hk k5; rw [this]; simp [hx]) ?_)
        generalize w1.alloc (.cells #[.int .i64 5, .int .i64 5] 23) = W at *
        have T3 := T2
        have G3 := G2
        have u3 := t2
        clear T2 G2 t2 x0 x1
        obtain ⟨x0, x1⟩ := cells_two G3
        go_wp2_with fail
        refine (vend_any c a _).mono ?_
        rintro e w4 ⟨he, t4⟩
        obtain rfl : e = .returned (.bool true) := by rw [he, hv]
        have T4 := T3.touch t4 (by simp)
        have G4 := t4.at G3 (by simp)
        have u4 := u3.trans t4 (by simp)
        clear T3 G3 u3 t4 x0 x1
        obtain ⟨x0, x1⟩ := cells_two G4
        go_wp2_with fail
        refine (open_ok t m u [] _ 0 c a pending _ T4 hk hv rfl (by decide) (by omega)).mono ?_
        rintro e w5 ⟨he, g1, hg1, T5, t5⟩
        obtain rfl : e = .returned (.tuple #[.int .i64 0, .int .i64 0]) := he
        change Tab w5 t m u [⟨(c, a), g1, 0, if pending then 1 else 2⟩] [true] 1 at T5
        have u5 : Touch [] w w5 := u4.trans t5 (by simp; omega)
        have G5 : w5.heap[w.heap.size]? = _ := t5.at G4 (by simp; omega)
        clear G4 T4 u4 t5 x0 x1
        go_wp2_with fail
        refine (awake_ok _).mono ?_
        rintro e w6 ⟨rfl, t6⟩
        have T6 := T5.touch t6 (by simp)
        have G6 := t6.at G5 (by simp)
        obtain ⟨x0, x1⟩ := cells_two G6
        go_wp2_with fail
        refine (state_any t m u _ _ _ c a _ T6 hk).mono ?_
        rintro e w7 ⟨he, t7⟩
        cases pending
        · obtain rfl : e = .returned (.int .i64 2) := by rw [he]; simp [stOf, fdAt]
          go_wp2_with fail
          go_ret
          exact ⟨rfl, (u5.trans t6 (by simp)).trans t7 (by simp)⟩
        · obtain rfl : e = .returned (.int .i64 1) := by rw [he]; simp [stOf, fdAt]
          go_wp2_with fail
          go_ret
          exact ⟨rfl, (u5.trans t6 (by simp)).trans t7 (by simp)⟩
      · go_enter Try.func3, Try.ntmps3
        go_wp2_with fail
        refine (new_ex 1 1 _ rfl (by omega) (by omega)).mono ?_
        rintro _ w1 ⟨t, m, u, rfl, T1, ⟨zt, zm, zu⟩, t1⟩
        have G1 := t1.at gA (by simp)
        have l1 := (Array.getElem?_eq_some_iff.1 G1).1
        have T2 := T1.touch ((Touch.refl [] w1).alloc (.cells #[.int .i64 5, .int .i64 5] 23)) (by simp)
        have t2 := (tA.trans t1 (by simp)).alloc (.cells #[.int .i64 5, .int .i64 5] 23)
        have G2 := ((Touch.refl [] w1).alloc (.cells #[.int .i64 5, .int .i64 5] 23)).at G1 (by simp)
        have H2 := heap_alloc_new w1 (.cells #[.int .i64 5, .int .i64 5] 23)
        have sz : (w1.alloc (.cells #[.int .i64 5, .int .i64 5] 23)).heap.size = w1.heap.size + 1 := by simp
        obtain ⟨x0, x1⟩ := cells_two G1
        have ll := T1.lt
        have q1 := ll t (by simp [Tab.foot])
        have q2 := ll m (by simp [Tab.foot])
        have q3 := ll u (by simp [Tab.foot])
        rw [World.size_alloc] at zt zm zu
        clear t1 T1 tA gA G1 ll
        go_wp2_with (refine wpList_eql_agg rfl 23 _ _ _ rfl #[.int .i64 c, .int .i64 a] #[.int .i64 5, .int .i64 5] rfl rfl (by kernel_rfl) false (by have := eq23 c a 5 5 hk k5; rw [this]; simp [hx]) ?_)
        generalize w1.alloc (.cells #[.int .i64 5, .int .i64 5] 23) = W at *
        refine (open_ok t m u [] _ 0 5 5 false _ T2 k5 rfl rfl (by decide) (by omega)).mono ?_
        rintro e w3 ⟨he, g1, hg1, T3, t3⟩
        obtain rfl : e = .returned (.tuple #[.int .i64 0, .int .i64 0]) := he
        change Tab w3 t m u [⟨(5, 5), g1, 0, 2⟩] [true] 1 at T3
        have G3 : w3.heap[w.heap.size]? = _ := t3.at G2 (by simp; omega)
        have u3 : Touch [] w w3 := t2.trans t3 (by simp; omega)
        clear G2 H2 T2 t2 t3 x0 x1
        obtain ⟨x0, x1⟩ := cells_two G3
        go_wp2_with fail
        refine (vend_any c a _).mono ?_
        rintro e w4 ⟨he, t4⟩
        obtain rfl : e = .returned (.bool true) := by rw [he, hv]
        have T4 := T3.touch t4 (by simp)
        have G4 := t4.at G3 (by simp)
        have u4 := u3.trans t4 (by simp)
        clear T3 G3 u3 t4 x0 x1
        obtain ⟨x0, x1⟩ := cells_two G4
        go_wp2_with fail
        refine (open_full t m u _ _ _ c a pending _ T4 hk hv (by simp [fdAt]; intro e1 e2; exact hx ⟨e1.symm, e2.symm⟩) (by decide)).mono ?_
        rintro e w5 ⟨rfl, t5⟩
        have u5 := u4.trans t5 (by simp)
        clear G4 T4 u4 t5 x0 x1
        go_wp2_with fail
        refine (awake_ok _).mono ?_
        rintro e w6 ⟨rfl, t6⟩
        go_wp2_with fail
        go_ret
        exact ⟨rfl, u5.trans t6 (by simp)⟩
end Go.Proofs.Ytnglkdpmkgehoaa

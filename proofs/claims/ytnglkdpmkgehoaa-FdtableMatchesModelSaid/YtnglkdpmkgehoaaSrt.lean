/-
  The comparison of endpoints that sorts them: cmp.Compare, cmp.Or, the closure of Endpoints.
-/
import Derived.Test.YtnglkdpmkgehoaaW4
import Derived.Shelf.SlSortCmp.NoneTotal
namespace Go.Proofs.Ytnglkdpmkgehoaa
open Go.RowKit Go.Sort Go.Shelf Go.Lib
set_option linter.unusedVariables false
set_option linter.unusedSimpArgs false

def cmpI (x y : Int) : Int := if x < y then -1 else if y < x then 1 else 0
def cmpK (p q : Key) : Int := if cmpI p.1 q.1 = 0 then cmpI p.2 q.2 else cmpI p.1 q.1
theorem nan_any (x : Int) (w : World) : Calls Try.prog 52 #[.int .i64 x] w fun e w' => e = .returned (.bool false) ∧ w = w' := by
  go_enter Try.func52, Try.ntmps52
  go_wp2_with fail
  go_ret
  exact ⟨rfl, rfl⟩
theorem compare_any (x y : Int) (w : World) : Calls Try.prog 40 #[.int .i64 x, .int .i64 y] w fun e w' => e = .returned (.int .i64 (cmpI x y)) ∧ w = w' := by
  by_cases h1 : x < y
  · have e : cmpI x y = -1 := by simp [cmpI, h1]
    rw [e]
    go_enter Try.func40, Try.ntmps40
    go_wp2_with fail
    refine (nan_any x _).mono ?_
    rintro e w' ⟨rfl, rfl⟩
    go_wp2_with fail
    refine (nan_any y _).mono ?_
    rintro e w' ⟨rfl, rfl⟩
    go_wp2_with fail
    go_ret
    exact ⟨rfl, rfl⟩
  · by_cases h2 : y < x
    · have e : cmpI x y = 1 := by simp [cmpI, h1, h2]
      rw [e]
      go_enter Try.func40, Try.ntmps40
      go_wp2_with fail
      refine (nan_any x _).mono ?_
      rintro e w' ⟨rfl, rfl⟩
      go_wp2_with fail
      refine (nan_any y _).mono ?_
      rintro e w' ⟨rfl, rfl⟩
      go_wp2_with fail
      go_ret
      exact ⟨rfl, rfl⟩
    · have e : cmpI x y = 0 := by simp [cmpI, h1, h2]
      rw [e]
      go_enter Try.func40, Try.ntmps40
      go_wp2_with fail
      refine (nan_any x _).mono ?_
      rintro e w' ⟨rfl, rfl⟩
      go_wp2_with fail
      refine (nan_any y _).mono ?_
      rintro e w' ⟨rfl, rfl⟩
      go_wp2_with fail
      go_ret
      exact ⟨rfl, rfl⟩
/-- cmp.Or of two. -/
theorem or_two (b : Nat) (x y : Int) (w : World) (h : w.heap[b]? = some (.cells #[.int .i64 x, .int .i64 y] 3 (0, 0))) :
    Calls Try.prog 39 #[.slice (some ⟨b, 0, none⟩) 2 2] w fun e w' => e = .returned (.int .i64 (if x = 0 then y else x)) ∧ w = w' := by
  obtain ⟨c0, c1⟩ := cells_two h
  clear h
  by_cases hx : x = 0
  · subst hx
    rw [if_pos rfl]
    by_cases hy : y = 0
    · subst hy
      go_enter Try.func39, Try.ntmps39
      go_wp2_with fail
      refine wp_loop_rounds 3 ?_
      rw [rounds_succ]
      go_wp2_with fail
      rw [rounds_succ]
      go_wp2_with fail
      rw [rounds_succ]
      go_wp2_with fail
      go_ret
      exact ⟨rfl, rfl⟩
    · have hb : (y == 0) = false := by simpa using hy
      have hb2 : (y != 0) = true := by simpa using hy
      go_enter Try.func39, Try.ntmps39
      go_wp2_with fail
      refine wp_loop_rounds 3 ?_
      rw [rounds_succ]
      go_wp2_with fail
      rw [rounds_succ]
      go_wp2_with fail
      go_ret
      exact ⟨rfl, rfl⟩
  · rw [if_neg hx]
    have hb : (x == 0) = false := by simpa using hx
    have hb2 : (x != 0) = true := by simpa using hx
    go_enter Try.func39, Try.ntmps39
    go_wp2_with fail
    refine wp_loop_rounds 3 ?_
    rw [rounds_succ]
    go_wp2_with fail
    go_ret
    exact ⟨rfl, rfl⟩

def encL (p : Key) : List Value := [.int .i64 p.1, .int .i64 p.2]
set_option maxRecDepth 100000 in
set_option maxHeartbeats 1000000 in
theorem clos_38 (x y : Key) (w : World) : Calls Try.prog 38 #[.agg #[.int .i64 x.1, .int .i64 x.2], .agg #[.int .i64 y.1, .int .i64 y.2]] w fun e w' => e = .returned (.int .i64 (cmpK x y)) ∧ ∃ q os', w' = grow (w.drewN q) os' := by
  have gA := ((Touch.refl [] (w.alloc (.cells #[.int .i64 x.1, .int .i64 x.2] 23))).alloc (.cells #[.int .i64 y.1, .int .i64 y.2] 23)).at (heap_alloc_new w (.cells #[.int .i64 x.1, .int .i64 x.2] 23)) (by simp)
  have gB := heap_alloc_new (w.alloc (.cells #[.int .i64 x.1, .int .i64 x.2] 23)) (.cells #[.int .i64 y.1, .int .i64 y.2] 23)
  rw [World.size_alloc] at gB
  have hfin : ∃ q os', ((w.alloc (.cells #[.int .i64 x.1, .int .i64 x.2] 23)).alloc (.cells #[.int .i64 y.1, .int .i64 y.2] 23)).drew.alloc (.cells #[.int .i64 (cmpI x.1 y.1), .int .i64 (cmpI x.2 y.2)] 3) = grow (w.drewN q) os' :=
    ⟨1, _, by simp only [alloc_eq_grow, drew_grow, grow_grow]; rfl⟩
  go_enter Try.func38, Try.ntmps38
  go_wp2_with fail
  have gA' := ((Touch.refl [] ((w.alloc (.cells #[.int .i64 x.1, .int .i64 x.2] 23)).alloc (.cells #[.int .i64 y.1, .int .i64 y.2] 23))).drew).at gA (by simp)
  have gB' := ((Touch.refl [] ((w.alloc (.cells #[.int .i64 x.1, .int .i64 x.2] 23)).alloc (.cells #[.int .i64 y.1, .int .i64 y.2] 23))).drew).at gB (by simp)
  obtain ⟨a0, a1⟩ := cells_two gA'
  obtain ⟨b0, b1⟩ := cells_two gB'
  clear gA gB gA' gB'
  obtain ⟨W, hW⟩ : ∃ W, W = (((w.alloc (.cells #[.int .i64 x.1, .int .i64 x.2] 23)).alloc (.cells #[.int .i64 y.1, .int .i64 y.2] 23)).drew) := ⟨_, rfl⟩
  rw [← hW] at a0 a1 b0 b1 hfin
  have HW := Lib.hid hW
  clear hW
  apply once
  · intro REST
    refine wp_region_held (S := Touch [] W) (by kernel_rfl) ?_
    change wpAnyH _ _ _ _ _ _ _ _ (((w.alloc (.cells #[.int .i64 x.1, .int .i64 x.2] 23)).alloc (.cells #[.int .i64 y.1, .int .i64 y.2] 23)).drew)
    rw [← HW.out]
    have hS := Touch.refl [] W
    refine wpAnyH_take (i := 0) (oi := { dst := some 5, op := Op.fieldAddr 23 (Operand.tmp 2) 0, type := 0, pos := "fdtable.go:147", after := #[], guard := none }) (v := .pointer (some ⟨w.heap.size, 0, none⟩)) rfl (by kernel_rfl) (by kernel_rfl) (by kernel_rfl) (fun _ _ _ h => h) (Or.inl ⟨by rfl, fun w' hw => by go_simp⟩) hS ?_
    try simp only [Act.put, List.setIfInBounds_toArray, List.set_cons_zero, List.set_cons_succ]
    refine wpAnyH_take (i := 1) (oi := { dst := some 6, op := Op.load 3 (Operand.tmp 5), type := 3, pos := "fdtable.go:147", after := #[{ on := 0, ground := Ground.data }], guard := none }) (v := .int .i64 x.1) rfl (by kernel_rfl) (by kernel_rfl) (by kernel_rfl) (fun _ _ _ h => h) (Or.inl ⟨by rfl, fun w' hw => by (have q := hw.cell a0 (by simp); go_simp)⟩) hS ?_
    try simp only [Act.put, List.setIfInBounds_toArray, List.set_cons_zero, List.set_cons_succ]
    refine wpAnyH_take (i := 2) (oi := { dst := some 7, op := Op.fieldAddr 23 (Operand.tmp 3) 0, type := 0, pos := "fdtable.go:147", after := #[], guard := none }) (v := .pointer (some ⟨w.heap.size + 1, 0, none⟩)) rfl (by kernel_rfl) (by kernel_rfl) (by kernel_rfl) (fun _ _ _ h => h) (Or.inl ⟨by rfl, fun w' hw => by go_simp⟩) hS ?_
    try simp only [Act.put, List.setIfInBounds_toArray, List.set_cons_zero, List.set_cons_succ]
    refine wpAnyH_take (i := 3) (oi := { dst := some 8, op := Op.load 3 (Operand.tmp 7), type := 3, pos := "fdtable.go:147", after := #[{ on := 2, ground := Ground.data }], guard := none }) (v := .int .i64 y.1) rfl (by kernel_rfl) (by kernel_rfl) (by kernel_rfl) (fun _ _ _ h => h) (Or.inl ⟨by rfl, fun w' hw => by (have q := hw.cell b0 (by simp); go_simp)⟩) hS ?_
    try simp only [Act.put, List.setIfInBounds_toArray, List.set_cons_zero, List.set_cons_succ]
    refine wpAnyH_take (i := 5) (oi := { dst := some 10, op := Op.fieldAddr 23 (Operand.tmp 2) 1, type := 0, pos := "fdtable.go:147", after := #[], guard := none }) (v := .pointer (some ⟨w.heap.size, 1, none⟩)) rfl (by kernel_rfl) (by kernel_rfl) (by kernel_rfl) (fun _ _ _ h => h) (Or.inl ⟨by rfl, fun w' hw => by go_simp⟩) hS ?_
    try simp only [Act.put, List.setIfInBounds_toArray, List.set_cons_zero, List.set_cons_succ]
    refine wpAnyH_take (i := 6) (oi := { dst := some 11, op := Op.load 3 (Operand.tmp 10), type := 3, pos := "fdtable.go:147", after := #[{ on := 5, ground := Ground.data }], guard := none }) (v := .int .i64 x.2) rfl (by kernel_rfl) (by kernel_rfl) (by kernel_rfl) (fun _ _ _ h => h) (Or.inl ⟨by rfl, fun w' hw => by (have q := hw.cell a1 (by simp); go_simp)⟩) hS ?_
    try simp only [Act.put, List.setIfInBounds_toArray, List.set_cons_zero, List.set_cons_succ]
    refine wpAnyH_take (i := 7) (oi := { dst := some 12, op := Op.fieldAddr 23 (Operand.tmp 3) 1, type := 0, pos := "fdtable.go:147", after := #[], guard := none }) (v := .pointer (some ⟨w.heap.size + 1, 1, none⟩)) rfl (by kernel_rfl) (by kernel_rfl) (by kernel_rfl) (fun _ _ _ h => h) (Or.inl ⟨by rfl, fun w' hw => by go_simp⟩) hS ?_
    try simp only [Act.put, List.setIfInBounds_toArray, List.set_cons_zero, List.set_cons_succ]
    refine wpAnyH_take (i := 8) (oi := { dst := some 13, op := Op.load 3 (Operand.tmp 12), type := 3, pos := "fdtable.go:147", after := #[{ on := 7, ground := Ground.data }], guard := none }) (v := .int .i64 y.2) rfl (by kernel_rfl) (by kernel_rfl) (by kernel_rfl) (fun _ _ _ h => h) (Or.inl ⟨by rfl, fun w' hw => by (have q := hw.cell b1 (by simp); go_simp)⟩) hS ?_
    try simp only [Act.put, List.setIfInBounds_toArray, List.set_cons_zero, List.set_cons_succ]
    refine wpAnyH_ready (rs := [4]) (by kernel_rfl) (by simp) ?_
    refine AllReadyH.cons (o := { dst := some 9, op := Op.call { callee := Callee.value (Operand.func 40), args := #[Operand.tmp 6, Operand.tmp 8], argTypes := #[3, 3] }, type := 3, pos := "fdtable.go:147", after := #[{ on := 1, ground := Ground.data }, { on := 3, ground := Ground.data }], guard := none }) rfl (fun K hK => ?_) AllReadyH.nil
    go_simp
    refine (compare_any _ _ _).mono ?_
    rintro e w' ⟨rfl, rfl⟩
    refine hK.out _ _ hS (fun _ => ?_)
    clear hK K
    try simp only [Act.put, List.setIfInBounds_toArray, List.set_cons_zero, List.set_cons_succ]
    refine wpAnyH_ready (rs := [9]) (by kernel_rfl) (by simp) ?_
    refine AllReadyH.cons (o := { dst := some 14, op := Op.call { callee := Callee.value (Operand.func 40), args := #[Operand.tmp 11, Operand.tmp 13], argTypes := #[3, 3] }, type := 3, pos := "fdtable.go:147", after := #[{ on := 6, ground := Ground.data }, { on := 8, ground := Ground.data }, { on := 4, ground := Ground.chain }], guard := none }) rfl (fun K hK => ?_) AllReadyH.nil
    go_simp
    refine (compare_any _ _ _).mono ?_
    rintro e w' ⟨rfl, rfl⟩
    refine hK.out _ _ hS (fun _ => ?_)
    clear hK K
    try simp only [Act.put, List.setIfInBounds_toArray, List.set_cons_zero, List.set_cons_succ]
    refine wpAnyH_ready (rs := [10]) (by kernel_rfl) (by simp) ?_
    refine AllReadyH.cons (o := { dst := some 15, op := Op.buildSlice 76 2 #[(0, Operand.tmp 9), (1, Operand.tmp 14)], type := 76, pos := "fdtable.go:147", after := #[{ on := 4, ground := Ground.data }, { on := 9, ground := Ground.data }], guard := none }) rfl (fun K hK => ?_) AllReadyH.nil
    go_simp
    have hS2 := hS.alloc (.cells #[.int .i64 (cmpI x.1 y.1), .int .i64 (cmpI x.2 y.2)] 3)
    have gC := heap_alloc_new W (.cells #[.int .i64 (cmpI x.1 y.1), .int .i64 (cmpI x.2 y.2)] 3)
    refine hK.out _ (W.alloc (.cells #[.int .i64 (cmpI x.1 y.1), .int .i64 (cmpI x.2 y.2)] 3)) hS2 (fun _ => ?_)
    clear hK K hS
    have hS := hS2
    clear hS2
    try simp only [Act.put, List.setIfInBounds_toArray, List.set_cons_zero, List.set_cons_succ]
    refine wpAnyH_ready (rs := [11]) (by kernel_rfl) (by simp) ?_
    refine AllReadyH.cons (o := { dst := some 16, op := Op.call { callee := Callee.value (Operand.func 39), args := #[Operand.tmp 15], argTypes := #[76] }, type := 3, pos := "fdtable.go:147", after := #[{ on := 10, ground := Ground.data }, { on := 9, ground := Ground.chain }], guard := none }) rfl (fun K hK => ?_) AllReadyH.nil
    go_simp
    refine (or_two W.heap.size _ _ _ gC).mono ?_
    rintro e w' ⟨rfl, rfl⟩
    rw [show (if cmpI x.1 y.1 = 0 then cmpI x.2 y.2 else cmpI x.1 y.1) = cmpK x y from rfl]
    refine hK.out _ (W.alloc (.cells #[.int .i64 (cmpI x.1 y.1), .int .i64 (cmpI x.2 y.2)] 3)) hS (fun _ => ?_)
    clear hK K
    try simp only [Act.put, List.setIfInBounds_toArray, List.set_cons_zero, List.set_cons_succ]
    refine wpAnyH_take (i := 12) (oi := { dst := some 4, op := Op.assign (Operand.tmp 16), type := 3, pos := "fdtable.go:147", after := #[{ on := 11, ground := Ground.data }, { on := 11, ground := Ground.chain }, { on := 0, ground := Ground.phase }, { on := 1, ground := Ground.phase }, { on := 2, ground := Ground.phase }, { on := 3, ground := Ground.phase }, { on := 4, ground := Ground.phase }, { on := 5, ground := Ground.phase }, { on := 6, ground := Ground.phase }, { on := 7, ground := Ground.phase }, { on := 8, ground := Ground.phase }, { on := 9, ground := Ground.phase }, { on := 10, ground := Ground.phase }, { on := 11, ground := Ground.phase }], guard := none }) (v := .int .i64 (cmpK x y)) rfl (by kernel_rfl) (by kernel_rfl) (by kernel_rfl) (fun _ _ _ h => h) (Or.inl ⟨by rfl, fun w' hw => by go_simp⟩) hS ?_
    try simp only [Act.put, List.setIfInBounds_toArray, List.set_cons_zero, List.set_cons_succ]
    refine wpAnyH_done (by kernel_rfl) ?_ _
    exact REST.out
  · go_wp2_with fail
    go_ret
    exact ⟨rfl, hfin⟩
end Go.Proofs.Ytnglkdpmkgehoaa

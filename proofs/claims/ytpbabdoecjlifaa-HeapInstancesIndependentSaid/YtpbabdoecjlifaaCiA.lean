/-
  The comparison of the Addr heap's items.
-/
import Derived.Test.YtpbabdoecjlifaaCm
import Derived.Test.YtpbabdoecjlifaaStA
import Derived.Shelf.SlSortCmp.InsertionK
namespace Go.Proofs.Ytpbabdoecjlifaa.A
open Go.RowKit Go.Sort Go.Shelf Go.Lib
set_option linter.unusedVariables false
set_option linter.unusedSimpArgs false

set_option maxRecDepth 100000 in
set_option maxHeartbeats 1000000 in
theorem cmp_any (x y : Itm) (w : World) : Calls Try.prog 56 #[.agg (encA x).toArray, .agg (encA y).toArray] w fun e w' => e = .returned (.int .i64 (cmpT x.key y.key)) ∧ ∃ q os', w' = grow (w.drewN q) os' := by
  have gA := ((Touch.refl [] (w.alloc (.cells (encA x).toArray 95))).alloc (.cells (encA y).toArray 95)).at (heap_alloc_new w (.cells (encA x).toArray 95)) (by simp)
  have gB := heap_alloc_new (w.alloc (.cells (encA x).toArray 95)) (.cells (encA y).toArray 95)
  rw [World.size_alloc] at gB
  have hfin : ∃ q os', ((w.alloc (.cells (encA x).toArray 95)).alloc (.cells (encA y).toArray 95)).drew.alloc (.cells #[.int .i64 (cmpI x.due y.due), .int .i64 (cmpI x.id y.id)] 3) = grow (w.drewN q) os' :=
    ⟨1, _, by simp only [alloc_eq_grow, drew_grow, grow_grow]; rfl⟩
  go_enter Try.func56, Try.ntmps56
  go_wp2_with fail
  have gA' := ((Touch.refl [] ((w.alloc (.cells (encA x).toArray 95)).alloc (.cells (encA y).toArray 95))).drew).at gA (by simp)
  have gB' := ((Touch.refl [] ((w.alloc (.cells (encA x).toArray 95)).alloc (.cells (encA y).toArray 95))).drew).at gB (by simp)
  obtain ⟨W, hW⟩ : ∃ W, W = (((w.alloc (.cells (encA x).toArray 95)).alloc (.cells (encA y).toArray 95)).drew) := ⟨_, rfl⟩
  rw [← hW] at gA' gB' hfin
  have a0 : W.cell? ⟨w.heap.size, 0, none⟩ = some (.int .i64 x.id) := cellAt gA' rfl
  have a1 : W.cell? ⟨w.heap.size, 1, none⟩ = some (.int .u64 x.due) := cellAt gA' rfl
  have b0 : W.cell? ⟨w.heap.size + 1, 0, none⟩ = some (.int .i64 y.id) := cellAt gB' rfl
  have b1 : W.cell? ⟨w.heap.size + 1, 1, none⟩ = some (.int .u64 y.due) := cellAt gB' rfl
  have HW := Lib.hid hW
  clear hW gA gB gA' gB'
  apply once
  · intro REST
    refine wp_region_held (S := Touch [] W) (by kernel_rfl) ?_
    change wpAnyH _ _ _ _ _ _ _ _ (((w.alloc (.cells (encA x).toArray 95)).alloc (.cells (encA y).toArray 95)).drew)
    rw [← HW.out]
    have hS := Touch.refl [] W
    refine wpAnyH_take (i := 0) (oi := { dst := some 5, op := Op.fieldAddr 95 (Operand.tmp 2) 1, type := 0, pos := "heap.go:18", after := #[], guard := none }) (v := .pointer (some ⟨w.heap.size, 1, none⟩)) rfl (by kernel_rfl) (by kernel_rfl) (by kernel_rfl) (fun _ _ _ h => h) (Or.inl ⟨by rfl, fun w' hw => by go_simp⟩) hS ?_
    try simp only [Act.put, List.setIfInBounds_toArray, List.set_cons_zero, List.set_cons_succ]
    refine wpAnyH_take (i := 1) (oi := { dst := some 6, op := Op.load 29 (Operand.tmp 5), type := 29, pos := "heap.go:18", after := #[{ on := 0, ground := Ground.data }], guard := none }) (v := .int .u64 x.due) rfl (by kernel_rfl) (by kernel_rfl) (by kernel_rfl) (fun _ _ _ h => h) (Or.inl ⟨by rfl, fun w' hw => by (have q := hw.cell a1 (by simp); go_simp)⟩) hS ?_
    try simp only [Act.put, List.setIfInBounds_toArray, List.set_cons_zero, List.set_cons_succ]
    refine wpAnyH_take (i := 2) (oi := { dst := some 7, op := Op.fieldAddr 95 (Operand.tmp 3) 1, type := 0, pos := "heap.go:18", after := #[], guard := none }) (v := .pointer (some ⟨w.heap.size + 1, 1, none⟩)) rfl (by kernel_rfl) (by kernel_rfl) (by kernel_rfl) (fun _ _ _ h => h) (Or.inl ⟨by rfl, fun w' hw => by go_simp⟩) hS ?_
    try simp only [Act.put, List.setIfInBounds_toArray, List.set_cons_zero, List.set_cons_succ]
    refine wpAnyH_take (i := 3) (oi := { dst := some 8, op := Op.load 29 (Operand.tmp 7), type := 29, pos := "heap.go:18", after := #[{ on := 2, ground := Ground.data }], guard := none }) (v := .int .u64 y.due) rfl (by kernel_rfl) (by kernel_rfl) (by kernel_rfl) (fun _ _ _ h => h) (Or.inl ⟨by rfl, fun w' hw => by (have q := hw.cell b1 (by simp); go_simp)⟩) hS ?_
    try simp only [Act.put, List.setIfInBounds_toArray, List.set_cons_zero, List.set_cons_succ]
    refine wpAnyH_take (i := 5) (oi := { dst := some 10, op := Op.fieldAddr 95 (Operand.tmp 2) 0, type := 0, pos := "heap.go:18", after := #[], guard := none }) (v := .pointer (some ⟨w.heap.size, 0, none⟩)) rfl (by kernel_rfl) (by kernel_rfl) (by kernel_rfl) (fun _ _ _ h => h) (Or.inl ⟨by rfl, fun w' hw => by go_simp⟩) hS ?_
    try simp only [Act.put, List.setIfInBounds_toArray, List.set_cons_zero, List.set_cons_succ]
    refine wpAnyH_take (i := 6) (oi := { dst := some 11, op := Op.load 3 (Operand.tmp 10), type := 3, pos := "heap.go:18", after := #[{ on := 5, ground := Ground.data }], guard := none }) (v := .int .i64 x.id) rfl (by kernel_rfl) (by kernel_rfl) (by kernel_rfl) (fun _ _ _ h => h) (Or.inl ⟨by rfl, fun w' hw => by (have q := hw.cell a0 (by simp); go_simp)⟩) hS ?_
    try simp only [Act.put, List.setIfInBounds_toArray, List.set_cons_zero, List.set_cons_succ]
    refine wpAnyH_take (i := 7) (oi := { dst := some 12, op := Op.fieldAddr 95 (Operand.tmp 3) 0, type := 0, pos := "heap.go:18", after := #[], guard := none }) (v := .pointer (some ⟨w.heap.size + 1, 0, none⟩)) rfl (by kernel_rfl) (by kernel_rfl) (by kernel_rfl) (fun _ _ _ h => h) (Or.inl ⟨by rfl, fun w' hw => by go_simp⟩) hS ?_
    try simp only [Act.put, List.setIfInBounds_toArray, List.set_cons_zero, List.set_cons_succ]
    refine wpAnyH_take (i := 8) (oi := { dst := some 13, op := Op.load 3 (Operand.tmp 12), type := 3, pos := "heap.go:18", after := #[{ on := 7, ground := Ground.data }], guard := none }) (v := .int .i64 y.id) rfl (by kernel_rfl) (by kernel_rfl) (by kernel_rfl) (fun _ _ _ h => h) (Or.inl ⟨by rfl, fun w' hw => by (have q := hw.cell b0 (by simp); go_simp)⟩) hS ?_
    try simp only [Act.put, List.setIfInBounds_toArray, List.set_cons_zero, List.set_cons_succ]
    refine wpAnyH_ready (rs := [4]) (by kernel_rfl) (by simp) ?_
    refine AllReadyH.cons (o := { dst := some 9, op := Op.call { callee := Callee.value (Operand.func 70), args := #[Operand.tmp 6, Operand.tmp 8], argTypes := #[29, 29] }, type := 3, pos := "heap.go:18", after := #[{ on := 1, ground := Ground.data }, { on := 3, ground := Ground.data }], guard := none }) rfl (fun K hK => ?_) AllReadyH.nil
    go_simp
    refine (compare_U _ _ _).mono ?_
    rintro e w' ⟨rfl, rfl⟩
    refine hK.out _ _ hS (fun _ => ?_)
    clear hK K
    try simp only [Act.put, List.setIfInBounds_toArray, List.set_cons_zero, List.set_cons_succ]
    refine wpAnyH_ready (rs := [9]) (by kernel_rfl) (by simp) ?_
    refine AllReadyH.cons (o := { dst := some 14, op := Op.call { callee := Callee.value (Operand.func 71), args := #[Operand.tmp 11, Operand.tmp 13], argTypes := #[3, 3] }, type := 3, pos := "heap.go:18", after := #[{ on := 6, ground := Ground.data }, { on := 8, ground := Ground.data }, { on := 4, ground := Ground.chain }], guard := none }) rfl (fun K hK => ?_) AllReadyH.nil
    go_simp
    refine (compare_I _ _ _).mono ?_
    rintro e w' ⟨rfl, rfl⟩
    refine hK.out _ _ hS (fun _ => ?_)
    clear hK K
    try simp only [Act.put, List.setIfInBounds_toArray, List.set_cons_zero, List.set_cons_succ]
    refine wpAnyH_ready (rs := [10]) (by kernel_rfl) (by simp) ?_
    refine AllReadyH.cons (o := { dst := some 15, op := Op.buildSlice 46 2 #[(0, Operand.tmp 9), (1, Operand.tmp 14)], type := 46, pos := "heap.go:18", after := #[{ on := 4, ground := Ground.data }, { on := 9, ground := Ground.data }], guard := none }) rfl (fun K hK => ?_) AllReadyH.nil
    go_simp
    have hS2 := hS.alloc (.cells #[.int .i64 (cmpI x.due y.due), .int .i64 (cmpI x.id y.id)] 3)
    have gC := heap_alloc_new W (.cells #[.int .i64 (cmpI x.due y.due), .int .i64 (cmpI x.id y.id)] 3)
    refine hK.out _ (W.alloc (.cells #[.int .i64 (cmpI x.due y.due), .int .i64 (cmpI x.id y.id)] 3)) hS2 (fun _ => ?_)
    clear hK K hS
    have hS := hS2
    clear hS2
    try simp only [Act.put, List.setIfInBounds_toArray, List.set_cons_zero, List.set_cons_succ]
    refine wpAnyH_ready (rs := [11]) (by kernel_rfl) (by simp) ?_
    refine AllReadyH.cons (o := { dst := some 16, op := Op.call { callee := Callee.value (Operand.func 69), args := #[Operand.tmp 15], argTypes := #[46] }, type := 3, pos := "heap.go:18", after := #[{ on := 10, ground := Ground.data }, { on := 9, ground := Ground.chain }], guard := none }) rfl (fun K hK => ?_) AllReadyH.nil
    go_simp
    refine (or_two W.heap.size _ _ _ gC).mono ?_
    rintro e w' ⟨rfl, rfl⟩
    rw [show (if cmpI x.due y.due = 0 then cmpI x.id y.id else cmpI x.due y.due) = cmpT x.key y.key from rfl]
    refine hK.out _ (W.alloc (.cells #[.int .i64 (cmpI x.due y.due), .int .i64 (cmpI x.id y.id)] 3)) hS (fun _ => ?_)
    clear hK K
    try simp only [Act.put, List.setIfInBounds_toArray, List.set_cons_zero, List.set_cons_succ]
    refine wpAnyH_take (i := 12) (oi := { dst := some 4, op := Op.assign (Operand.tmp 16), type := 3, pos := "heap.go:18", after := #[{ on := 11, ground := Ground.data }, { on := 11, ground := Ground.chain }, { on := 0, ground := Ground.phase }, { on := 1, ground := Ground.phase }, { on := 2, ground := Ground.phase }, { on := 3, ground := Ground.phase }, { on := 4, ground := Ground.phase }, { on := 5, ground := Ground.phase }, { on := 6, ground := Ground.phase }, { on := 7, ground := Ground.phase }, { on := 8, ground := Ground.phase }, { on := 9, ground := Ground.phase }, { on := 10, ground := Ground.phase }, { on := 11, ground := Ground.phase }], guard := none }) (v := .int .i64 (cmpT x.key y.key)) rfl (by kernel_rfl) (by kernel_rfl) (by kernel_rfl) (fun _ _ _ h => h) (Or.inl ⟨by rfl, fun w' hw => by go_simp⟩) hS ?_
    try simp only [Act.put, List.setIfInBounds_toArray, List.set_cons_zero, List.set_cons_succ]
    refine wpAnyH_done (by kernel_rfl) ?_ _
    exact REST.out
  · go_wp2_with fail
    go_ret
    exact ⟨rfl, hfin⟩
theorem cmp_quiet (x y : Itm) (w : World) : Calls Try.prog 56 #[.agg (encA x).toArray, .agg (encA y).toArray] w fun e w' => e = .returned (.int .i64 (cmpT x.key y.key)) ∧ Touch [] w w' :=
  (cmp_any x y w).mono fun e w' ⟨h1, q, os', h2⟩ => ⟨h1, by
    subst h2
    exact ⟨rfl, rfl, rfl, by simp [grow], fun i hi hn => by rw [heap_grow_old _ _ (by simpa using hi)]; rfl⟩⟩
end Go.Proofs.Ytpbabdoecjlifaa.A

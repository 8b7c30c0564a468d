/-
  Merged texts: Rl, Rec5, As, Ar, Hq, Rec4, HeldF.
-/
import Derived.Test.YtecaakgpogabjaaDoorKB8
import Derived.StillTailTactics
import Derived.Deep.RegionHeld3

/-
  The contract of the reference's Less.
-/
namespace Go.Proofs.YtecaakgpogabjaaDoor
open Go.RowKit
set_option linter.unusedVariables false
set_option linter.unusedSimpArgs false

theorem lessP_eq (b : Bool) (xs : List Int) (b2 : Bool) (ys : List Int) : lessP b xs b2 ys = (decide (precP b2 ys < precP b xs) || (decide (precP b xs = precP b2 ys) && decide (scopeP b xs < scopeP b2 ys))) := by
  unfold lessP compP orP
  rcases Int.lt_trichotomy (precP b2 ys) (precP b xs) with h | h | h
  · have e : cmpP (precP b2 ys) (precP b xs) = -1 := by simp [cmpP, h]
    rw [e]
    simp [h]
  · have e : cmpP (precP b2 ys) (precP b xs) = 0 := by simp [cmpP, h]
    rw [e]
    unfold cmpP
    simp [h]
    split
    · rename_i h2
      simp [h2]
    · rename_i h2
      split <;> simp [h2]
  · have hn : ¬ precP b2 ys < precP b xs := by omega
    have e : cmpP (precP b2 ys) (precP b xs) = 1 := by simp [cmpP, h, hn]
    have he : ¬ precP b xs = precP b2 ys := by omega
    rw [e]
    simp [hn, he]
set_option maxRecDepth 100000 in
set_option maxHeartbeats 4000000 in
theorem rless_a (b : Bool) (xs : List Int) (b2 : Bool) (ys : List Int) (h : okB xs) (h2 : okB ys) (hgt : precP b2 ys < precP b xs) (w : World) :
    Calls Tryd.prog 16 #[.agg (adr b xs).toArray, .agg (adr b2 ys).toArray] w fun e w' => e = .returned (.bool true) ∧ Touch [] w w' := by
  have R0 := World.rangeAt_alloc (range_new w (adr b xs) 28) (.cells (adr b2 ys).toArray 28)
  have R1 := range_block (heap_alloc2_new w (.cells (adr b xs).toArray 28) (.cells (adr b2 ys).toArray 28))
  have t0 := (((Touch.refl [] w).alloc (.cells (adr b xs).toArray 28)).alloc (.cells (adr b2 ys).toArray 28)).drew
  have HLA := Lib.hid (show (adr b xs).length = 17 by simp [adr, h.1])
  have HLB := Lib.hid (show (adr b2 ys).length = 17 by simp [adr, h2.1])
  have HPA := Lib.hid (rprec_any b xs h)
  have HPB := Lib.hid (rprec_any b2 ys h2)
  have HSA := Lib.hid (rscope_any b xs h)
  have HSB := Lib.hid (rscope_any b2 ys h2)
  generalize precP b xs = p at *
  generalize precP b2 ys = q at *
  generalize scopeP b xs = sa at *
  generalize scopeP b2 ys = sb at *
  have HG := Lib.hid hgt
  clear h h2
  go_enter Tryd.func16, Tryd.ntmps16
  go_wp2_with fail
  obtain ⟨W, hW⟩ : ∃ W, W = ((w.alloc (.cells (adr b xs).toArray 28)).alloc (.cells (adr b2 ys).toArray 28)).drew := ⟨_, rfl⟩
  have rA : W.rangeAt w.heap.size 0 (adr b xs) := by rw [hW]; exact R0
  have rB : W.rangeAt (w.heap.size + 1) 0 (adr b2 ys) := by rw [hW]; exact R1
  refine wp_region_held (S := Touch [] W) (by kernel_rfl) ?_
  change wpAnyH _ _ _ _ _ _ _ _ ((w.alloc (.cells (adr b xs).toArray 28)).alloc (.cells (adr b2 ys).toArray 28)).drew
  rw [← hW] at t0 ⊢
  clear hW R0 R1
  have T0 := Lib.hid t0
  clear t0
  have hS := Touch.refl [] W
  refine wpAnyH_take (i := 0) (oi := { dst := some 7, op := Op.load 28 (Operand.tmp 2), type := 28, pos := "ref.go:82", after := #[], guard := none }) (v := .agg (adr b xs).toArray) rfl (by kernel_rfl) (by kernel_rfl) (by kernel_rfl) (fun _ _ _ h => h) (Or.inl ⟨by rfl, fun w' hw => exec_load_agg _ 28 _ rfl _ _ rfl (adr b xs) _ (hw.range rA (by simp)) Tryd.underlying28 rfl (by rw [size31, HLA.out])⟩) hS ?_
  try simp only [Act.put, List.setIfInBounds_toArray, List.set_cons_zero, List.set_cons_succ]
  refine wpAnyH_take (i := 2) (oi := { dst := some 9, op := Op.load 28 (Operand.tmp 3), type := 28, pos := "ref.go:82", after := #[], guard := none }) (v := .agg (adr b2 ys).toArray) rfl (by kernel_rfl) (by kernel_rfl) (by kernel_rfl) (fun _ _ _ h => h) (Or.inl ⟨by rfl, fun w' hw => exec_load_agg _ 28 _ rfl _ _ rfl (adr b2 ys) _ (hw.range rB (by simp)) Tryd.underlying28 rfl (by rw [size31, HLB.out])⟩) hS ?_
  try simp only [Act.put, List.setIfInBounds_toArray, List.set_cons_zero, List.set_cons_succ]
  refine wpAnyH_ready (rs := [1]) (by kernel_rfl) (by simp) ?_
  refine AllReadyH.cons (o := { dst := some 8, op := Op.call { callee := Callee.value (Operand.func 29), args := #[Operand.tmp 7], argTypes := #[28] }, type := 3, pos := "ref.go:82", after := #[{ on := 0, ground := Ground.data }], guard := none }) rfl (fun K hK => ?_) AllReadyH.nil
  go_simp
  refine (HPA.out _).mono ?_
  rintro e w1 ⟨rfl, t1⟩
  have hS2 := hS.trans t1 (by simp)
  refine hK.out _ _ hS2 (fun _ => ?_)
  clear hK K hS t1
  have hS := hS2
  clear hS2
  try simp only [Act.put, List.setIfInBounds_toArray, List.set_cons_zero, List.set_cons_succ]
  refine wpAnyH_ready (rs := [3]) (by kernel_rfl) (by simp) ?_
  refine AllReadyH.cons (o := { dst := some 10, op := Op.call { callee := Callee.value (Operand.func 29), args := #[Operand.tmp 9], argTypes := #[28] }, type := 3, pos := "ref.go:82", after := #[{ on := 2, ground := Ground.data }, { on := 1, ground := Ground.chain }], guard := none }) rfl (fun K hK => ?_) AllReadyH.nil
  go_simp
  refine (HPB.out _).mono ?_
  rintro e w3 ⟨rfl, t3⟩
  have hS2 := hS.trans t3 (by simp)
  refine hK.out _ _ hS2 (fun _ => ?_)
  clear hK K hS t3
  have hS := hS2
  clear hS2
  try simp only [Act.put, List.setIfInBounds_toArray, List.set_cons_zero, List.set_cons_succ]
  refine wpAnyH_take (i := 4) (oi := { dst := some 5, op := Op.assign (Operand.tmp 8), type := 3, pos := "ref.go:82", after := #[{ on := 1, ground := Ground.data }, { on := 3, ground := Ground.chain }, { on := 0, ground := Ground.phase }, { on := 1, ground := Ground.phase }, { on := 2, ground := Ground.textOnly Departure.lateStores }, { on := 3, ground := Ground.textOnly Departure.lateStoresUnsure }], guard := none }) (v := .int .i64 p) rfl (by kernel_rfl) (by kernel_rfl) (by kernel_rfl) (fun _ _ _ h => h) (Or.inl ⟨by rfl, fun w' hw => by go_simp⟩) hS ?_
  try simp only [Act.put, List.setIfInBounds_toArray, List.set_cons_zero, List.set_cons_succ]
  refine wpAnyH_take (i := 5) (oi := { dst := some 6, op := Op.assign (Operand.tmp 10), type := 3, pos := "ref.go:82", after := #[{ on := 3, ground := Ground.data }, { on := 4, ground := Ground.chain }, { on := 0, ground := Ground.phase }, { on := 1, ground := Ground.phase }, { on := 2, ground := Ground.phase }, { on := 3, ground := Ground.phase }, { on := 4, ground := Ground.phase }], guard := none }) (v := .int .i64 q) rfl (by kernel_rfl) (by kernel_rfl) (by kernel_rfl) (fun _ _ _ h => h) (Or.inl ⟨by rfl, fun w' hw => by go_simp⟩) hS ?_
  try simp only [Act.put, List.setIfInBounds_toArray, List.set_cons_zero, List.set_cons_succ]
  refine wpAnyH_done (by kernel_rfl) ?_ _
  try simp only [Act.put, List.setIfInBounds_toArray, List.set_cons_zero, List.set_cons_succ]
  go_wp2_with fail
  have rA2 := hS.range rA (by simp)
  have rB2 := hS.range rB (by simp)
  refine wp_region_held (S := Touch [] w3.drew) (by kernel_rfl) ?_
  change wpAnyH _ _ _ _ _ _ _ _ w3.drew
  have rA : w3.drew.rangeAt w.heap.size 0 (adr b xs) := rA2
  have rB : w3.drew.rangeAt (w.heap.size + 1) 0 (adr b2 ys) := rB2
  have T1 := Lib.hid (show Touch [] w w3.drew from (T0.out.trans hS (by simp)).drew)
  clear rA2 rB2 T0 hS
  generalize w3.drew = W at *
  have hS := Touch.refl [] W
  refine wpAnyH_take (i := 0) (oi := { dst := some 11, op := Op.move (Operand.tmp 5), type := 3, pos := "ref.go:83", after := #[], guard := none }) (v := .int .i64 p) rfl (by kernel_rfl) (by kernel_rfl) (by kernel_rfl) (fun _ _ _ h => h) (Or.inl ⟨by rfl, fun w' hw => by go_simp⟩) hS ?_
  try simp only [Act.put, List.setIfInBounds_toArray, List.set_cons_zero, List.set_cons_succ]
  refine wpAnyH_take (i := 1) (oi := { dst := some 12, op := Op.move (Operand.tmp 6), type := 3, pos := "ref.go:83", after := #[], guard := none }) (v := .int .i64 q) rfl (by kernel_rfl) (by kernel_rfl) (by kernel_rfl) (fun _ _ _ h => h) (Or.inl ⟨by rfl, fun w' hw => by go_simp⟩) hS ?_
  try simp only [Act.put, List.setIfInBounds_toArray, List.set_cons_zero, List.set_cons_succ]
  refine wpAnyH_take (i := 2) (oi := { dst := some 13, op := Op.binOp BinOp.gtr 3 (Operand.tmp 11) (Operand.tmp 12) 3, type := 4, pos := "ref.go:83", after := #[{ on := 0, ground := Ground.data }, { on := 1, ground := Ground.data }], guard := none }) (v := .bool true) rfl (by kernel_rfl) (by kernel_rfl) (by kernel_rfl) (fun _ _ _ h => h) (Or.inl ⟨by rfl, fun w' hw => by (have q := hgt; go_simp)⟩) hS ?_
  try simp only [Act.put, List.setIfInBounds_toArray, List.set_cons_zero, List.set_cons_succ]
  refine wpAnyH_take (i := 3) (oi := { dst := some 14, op := Op.move (Operand.tmp 13), type := 4, pos := "ref.go:83", after := #[{ on := 2, ground := Ground.data }], guard := none }) (v := .bool true) rfl (by kernel_rfl) (by kernel_rfl) (by kernel_rfl) (fun _ _ _ h => h) (Or.inl ⟨by rfl, fun w' hw => by go_simp⟩) hS ?_
  try simp only [Act.put, List.setIfInBounds_toArray, List.set_cons_zero, List.set_cons_succ]
  refine wpAnyH_take (i := 4) (oi := { dst := some 15, op := Op.move (Operand.tmp 5), type := 3, pos := "ref.go:83", after := #[{ on := 3, ground := Ground.guard }], guard := some (3, false) }) (v := undef) rfl (by kernel_rfl) (by kernel_rfl) (by kernel_rfl) (fun _ _ _ h => h) (Or.inr ⟨by rfl, rfl⟩) hS ?_
  try simp only [Act.put, List.setIfInBounds_toArray, List.set_cons_zero, List.set_cons_succ]
  refine wpAnyH_take (i := 5) (oi := { dst := some 16, op := Op.move (Operand.tmp 6), type := 3, pos := "ref.go:83", after := #[{ on := 3, ground := Ground.guard }], guard := some (3, false) }) (v := undef) rfl (by kernel_rfl) (by kernel_rfl) (by kernel_rfl) (fun _ _ _ h => h) (Or.inr ⟨by rfl, rfl⟩) hS ?_
  try simp only [Act.put, List.setIfInBounds_toArray, List.set_cons_zero, List.set_cons_succ]
  refine wpAnyH_take (i := 6) (oi := { dst := some 17, op := Op.binOp BinOp.eql 3 (Operand.tmp 15) (Operand.tmp 16) 3, type := 4, pos := "ref.go:83", after := #[{ on := 4, ground := Ground.data }, { on := 5, ground := Ground.data }, { on := 3, ground := Ground.guard }], guard := some (3, false) }) (v := undef) rfl (by kernel_rfl) (by kernel_rfl) (by kernel_rfl) (fun _ _ _ h => h) (Or.inr ⟨by rfl, rfl⟩) hS ?_
  try simp only [Act.put, List.setIfInBounds_toArray, List.set_cons_zero, List.set_cons_succ]
  refine wpAnyH_take (i := 7) (oi := { dst := some 18, op := Op.move (Operand.tmp 17), type := 4, pos := "ref.go:83", after := #[{ on := 6, ground := Ground.data }, { on := 3, ground := Ground.chain }, { on := 3, ground := Ground.guard }], guard := some (3, false) }) (v := undef) rfl (by kernel_rfl) (by kernel_rfl) (by kernel_rfl) (fun _ _ _ h => h) (Or.inr ⟨by rfl, rfl⟩) hS ?_
  try simp only [Act.put, List.setIfInBounds_toArray, List.set_cons_zero, List.set_cons_succ]
  refine wpAnyH_take (i := 8) (oi := { dst := some 19, op := Op.load 28 (Operand.tmp 2), type := 28, pos := "ref.go:83", after := #[{ on := 7, ground := Ground.guard }], guard := some (7, true) }) (v := undef) rfl (by kernel_rfl) (by kernel_rfl) (by kernel_rfl) (fun _ _ _ h => h) (Or.inr ⟨by rfl, rfl⟩) hS ?_
  try simp only [Act.put, List.setIfInBounds_toArray, List.set_cons_zero, List.set_cons_succ]
  refine wpAnyH_take (i := 9) (oi := { dst := some 20, op := Op.call { callee := Callee.value (Operand.func 30), args := #[Operand.tmp 19], argTypes := #[28] }, type := 3, pos := "ref.go:83", after := #[{ on := 8, ground := Ground.data }, { on := 7, ground := Ground.chain }, { on := 7, ground := Ground.guard }], guard := some (7, true) }) (v := undef) rfl (by kernel_rfl) (by kernel_rfl) (by kernel_rfl) (fun _ _ _ h => h) (Or.inr ⟨by rfl, rfl⟩) hS ?_
  try simp only [Act.put, List.setIfInBounds_toArray, List.set_cons_zero, List.set_cons_succ]
  refine wpAnyH_take (i := 10) (oi := { dst := some 21, op := Op.load 28 (Operand.tmp 3), type := 28, pos := "ref.go:83", after := #[{ on := 7, ground := Ground.guard }], guard := some (7, true) }) (v := undef) rfl (by kernel_rfl) (by kernel_rfl) (by kernel_rfl) (fun _ _ _ h => h) (Or.inr ⟨by rfl, rfl⟩) hS ?_
  try simp only [Act.put, List.setIfInBounds_toArray, List.set_cons_zero, List.set_cons_succ]
  refine wpAnyH_take (i := 11) (oi := { dst := some 22, op := Op.call { callee := Callee.value (Operand.func 30), args := #[Operand.tmp 21], argTypes := #[28] }, type := 3, pos := "ref.go:83", after := #[{ on := 10, ground := Ground.data }, { on := 9, ground := Ground.chain }, { on := 7, ground := Ground.guard }], guard := some (7, true) }) (v := undef) rfl (by kernel_rfl) (by kernel_rfl) (by kernel_rfl) (fun _ _ _ h => h) (Or.inr ⟨by rfl, rfl⟩) hS ?_
  try simp only [Act.put, List.setIfInBounds_toArray, List.set_cons_zero, List.set_cons_succ]
  refine wpAnyH_take (i := 12) (oi := { dst := some 23, op := Op.binOp BinOp.lss 3 (Operand.tmp 20) (Operand.tmp 22) 3, type := 4, pos := "ref.go:83", after := #[{ on := 9, ground := Ground.data }, { on := 11, ground := Ground.data }, { on := 7, ground := Ground.guard }], guard := some (7, true) }) (v := undef) rfl (by kernel_rfl) (by kernel_rfl) (by kernel_rfl) (fun _ _ _ h => h) (Or.inr ⟨by rfl, rfl⟩) hS ?_
  try simp only [Act.put, List.setIfInBounds_toArray, List.set_cons_zero, List.set_cons_succ]
  refine wpAnyH_take (i := 13) (oi := { dst := some 24, op := Op.pick (Operand.tmp 18) (Operand.tmp 23) (Operand.const (Value.bool false)), type := 4, pos := "ref.go:83", after := #[{ on := 7, ground := Ground.data }, { on := 12, ground := Ground.data }, { on := 3, ground := Ground.guard }], guard := some (3, false) }) (v := undef) rfl (by kernel_rfl) (by kernel_rfl) (by kernel_rfl) (fun _ _ _ h => h) (Or.inr ⟨by rfl, rfl⟩) hS ?_
  try simp only [Act.put, List.setIfInBounds_toArray, List.set_cons_zero, List.set_cons_succ]
  refine wpAnyH_take (i := 14) (oi := { dst := some 25, op := Op.pick (Operand.tmp 14) (Operand.const (Value.bool true)) (Operand.tmp 24), type := 4, pos := "ref.go:83", after := #[{ on := 3, ground := Ground.data }, { on := 13, ground := Ground.data }], guard := none }) (v := .bool true) rfl (by kernel_rfl) (by kernel_rfl) (by kernel_rfl) (fun _ _ _ h => h) (Or.inl ⟨by rfl, fun w' hw => by go_simp⟩) hS ?_
  try simp only [Act.put, List.setIfInBounds_toArray, List.set_cons_zero, List.set_cons_succ]
  refine wpAnyH_take (i := 15) (oi := { dst := some 4, op := Op.assign (Operand.tmp 25), type := 4, pos := "ref.go:83", after := #[{ on := 14, ground := Ground.data }, { on := 11, ground := Ground.chain }, { on := 0, ground := Ground.phase }, { on := 1, ground := Ground.phase }, { on := 2, ground := Ground.phase }, { on := 3, ground := Ground.phase }, { on := 4, ground := Ground.phase }, { on := 5, ground := Ground.phase }, { on := 6, ground := Ground.phase }, { on := 7, ground := Ground.phase }, { on := 8, ground := Ground.phase }, { on := 9, ground := Ground.phase }, { on := 10, ground := Ground.phase }, { on := 11, ground := Ground.phase }, { on := 12, ground := Ground.phase }, { on := 13, ground := Ground.phase }, { on := 14, ground := Ground.phase }], guard := none }) (v := .bool true) rfl (by kernel_rfl) (by kernel_rfl) (by kernel_rfl) (fun _ _ _ h => h) (Or.inl ⟨by rfl, fun w' hw => by go_simp⟩) hS ?_
  try simp only [Act.put, List.setIfInBounds_toArray, List.set_cons_zero, List.set_cons_succ]
  refine wpAnyH_done (by kernel_rfl) ?_ _
  try simp only [Act.put, List.setIfInBounds_toArray, List.set_cons_zero, List.set_cons_succ]
  go_wp2_with fail
  go_ret
  exact ⟨by rfl, T1.out.trans hS (by simp)⟩
set_option maxRecDepth 100000 in
set_option maxHeartbeats 4000000 in
theorem rless_b (b : Bool) (xs : List Int) (b2 : Bool) (ys : List Int) (h : okB xs) (h2 : okB ys) (hgt : ¬ precP b2 ys < precP b xs) (heq : ¬ precP b xs = precP b2 ys) (w : World) :
    Calls Tryd.prog 16 #[.agg (adr b xs).toArray, .agg (adr b2 ys).toArray] w fun e w' => e = .returned (.bool false) ∧ Touch [] w w' := by
  have R0 := World.rangeAt_alloc (range_new w (adr b xs) 28) (.cells (adr b2 ys).toArray 28)
  have R1 := range_block (heap_alloc2_new w (.cells (adr b xs).toArray 28) (.cells (adr b2 ys).toArray 28))
  have t0 := (((Touch.refl [] w).alloc (.cells (adr b xs).toArray 28)).alloc (.cells (adr b2 ys).toArray 28)).drew
  have HLA := Lib.hid (show (adr b xs).length = 17 by simp [adr, h.1])
  have HLB := Lib.hid (show (adr b2 ys).length = 17 by simp [adr, h2.1])
  have HPA := Lib.hid (rprec_any b xs h)
  have HPB := Lib.hid (rprec_any b2 ys h2)
  have HSA := Lib.hid (rscope_any b xs h)
  have HSB := Lib.hid (rscope_any b2 ys h2)
  generalize precP b xs = p at *
  generalize precP b2 ys = q at *
  generalize scopeP b xs = sa at *
  generalize scopeP b2 ys = sb at *
  have HG := Lib.hid hgt
  clear h h2
  go_enter Tryd.func16, Tryd.ntmps16
  go_wp2_with fail
  obtain ⟨W, hW⟩ : ∃ W, W = ((w.alloc (.cells (adr b xs).toArray 28)).alloc (.cells (adr b2 ys).toArray 28)).drew := ⟨_, rfl⟩
  have rA : W.rangeAt w.heap.size 0 (adr b xs) := by rw [hW]; exact R0
  have rB : W.rangeAt (w.heap.size + 1) 0 (adr b2 ys) := by rw [hW]; exact R1
  refine wp_region_held (S := Touch [] W) (by kernel_rfl) ?_
  change wpAnyH _ _ _ _ _ _ _ _ ((w.alloc (.cells (adr b xs).toArray 28)).alloc (.cells (adr b2 ys).toArray 28)).drew
  rw [← hW] at t0 ⊢
  clear hW R0 R1
  have T0 := Lib.hid t0
  clear t0
  have hS := Touch.refl [] W
  refine wpAnyH_take (i := 0) (oi := { dst := some 7, op := Op.load 28 (Operand.tmp 2), type := 28, pos := "ref.go:82", after := #[], guard := none }) (v := .agg (adr b xs).toArray) rfl (by kernel_rfl) (by kernel_rfl) (by kernel_rfl) (fun _ _ _ h => h) (Or.inl ⟨by rfl, fun w' hw => exec_load_agg _ 28 _ rfl _ _ rfl (adr b xs) _ (hw.range rA (by simp)) Tryd.underlying28 rfl (by rw [size31, HLA.out])⟩) hS ?_
  try simp only [Act.put, List.setIfInBounds_toArray, List.set_cons_zero, List.set_cons_succ]
  refine wpAnyH_take (i := 2) (oi := { dst := some 9, op := Op.load 28 (Operand.tmp 3), type := 28, pos := "ref.go:82", after := #[], guard := none }) (v := .agg (adr b2 ys).toArray) rfl (by kernel_rfl) (by kernel_rfl) (by kernel_rfl) (fun _ _ _ h => h) (Or.inl ⟨by rfl, fun w' hw => exec_load_agg _ 28 _ rfl _ _ rfl (adr b2 ys) _ (hw.range rB (by simp)) Tryd.underlying28 rfl (by rw [size31, HLB.out])⟩) hS ?_
  try simp only [Act.put, List.setIfInBounds_toArray, List.set_cons_zero, List.set_cons_succ]
  refine wpAnyH_ready (rs := [1]) (by kernel_rfl) (by simp) ?_
  refine AllReadyH.cons (o := { dst := some 8, op := Op.call { callee := Callee.value (Operand.func 29), args := #[Operand.tmp 7], argTypes := #[28] }, type := 3, pos := "ref.go:82", after := #[{ on := 0, ground := Ground.data }], guard := none }) rfl (fun K hK => ?_) AllReadyH.nil
  go_simp
  refine (HPA.out _).mono ?_
  rintro e w1 ⟨rfl, t1⟩
  have hS2 := hS.trans t1 (by simp)
  refine hK.out _ _ hS2 (fun _ => ?_)
  clear hK K hS t1
  have hS := hS2
  clear hS2
  try simp only [Act.put, List.setIfInBounds_toArray, List.set_cons_zero, List.set_cons_succ]
  refine wpAnyH_ready (rs := [3]) (by kernel_rfl) (by simp) ?_
  refine AllReadyH.cons (o := { dst := some 10, op := Op.call { callee := Callee.value (Operand.func 29), args := #[Operand.tmp 9], argTypes := #[28] }, type := 3, pos := "ref.go:82", after := #[{ on := 2, ground := Ground.data }, { on := 1, ground := Ground.chain }], guard := none }) rfl (fun K hK => ?_) AllReadyH.nil
  go_simp
  refine (HPB.out _).mono ?_
  rintro e w3 ⟨rfl, t3⟩
  have hS2 := hS.trans t3 (by simp)
  refine hK.out _ _ hS2 (fun _ => ?_)
  clear hK K hS t3
  have hS := hS2
  clear hS2
  try simp only [Act.put, List.setIfInBounds_toArray, List.set_cons_zero, List.set_cons_succ]
  refine wpAnyH_take (i := 4) (oi := { dst := some 5, op := Op.assign (Operand.tmp 8), type := 3, pos := "ref.go:82", after := #[{ on := 1, ground := Ground.data }, { on := 3, ground := Ground.chain }, { on := 0, ground := Ground.phase }, { on := 1, ground := Ground.phase }, { on := 2, ground := Ground.textOnly Departure.lateStores }, { on := 3, ground := Ground.textOnly Departure.lateStoresUnsure }], guard := none }) (v := .int .i64 p) rfl (by kernel_rfl) (by kernel_rfl) (by kernel_rfl) (fun _ _ _ h => h) (Or.inl ⟨by rfl, fun w' hw => by go_simp⟩) hS ?_
  try simp only [Act.put, List.setIfInBounds_toArray, List.set_cons_zero, List.set_cons_succ]
  refine wpAnyH_take (i := 5) (oi := { dst := some 6, op := Op.assign (Operand.tmp 10), type := 3, pos := "ref.go:82", after := #[{ on := 3, ground := Ground.data }, { on := 4, ground := Ground.chain }, { on := 0, ground := Ground.phase }, { on := 1, ground := Ground.phase }, { on := 2, ground := Ground.phase }, { on := 3, ground := Ground.phase }, { on := 4, ground := Ground.phase }], guard := none }) (v := .int .i64 q) rfl (by kernel_rfl) (by kernel_rfl) (by kernel_rfl) (fun _ _ _ h => h) (Or.inl ⟨by rfl, fun w' hw => by go_simp⟩) hS ?_
  try simp only [Act.put, List.setIfInBounds_toArray, List.set_cons_zero, List.set_cons_succ]
  refine wpAnyH_done (by kernel_rfl) ?_ _
  try simp only [Act.put, List.setIfInBounds_toArray, List.set_cons_zero, List.set_cons_succ]
  go_wp2_with fail
  have rA2 := hS.range rA (by simp)
  have rB2 := hS.range rB (by simp)
  refine wp_region_held (S := Touch [] w3.drew) (by kernel_rfl) ?_
  change wpAnyH _ _ _ _ _ _ _ _ w3.drew
  have rA : w3.drew.rangeAt w.heap.size 0 (adr b xs) := rA2
  have rB : w3.drew.rangeAt (w.heap.size + 1) 0 (adr b2 ys) := rB2
  have T1 := Lib.hid (show Touch [] w w3.drew from (T0.out.trans hS (by simp)).drew)
  clear rA2 rB2 T0 hS
  generalize w3.drew = W at *
  have hS := Touch.refl [] W
  refine wpAnyH_take (i := 0) (oi := { dst := some 11, op := Op.move (Operand.tmp 5), type := 3, pos := "ref.go:83", after := #[], guard := none }) (v := .int .i64 p) rfl (by kernel_rfl) (by kernel_rfl) (by kernel_rfl) (fun _ _ _ h => h) (Or.inl ⟨by rfl, fun w' hw => by go_simp⟩) hS ?_
  try simp only [Act.put, List.setIfInBounds_toArray, List.set_cons_zero, List.set_cons_succ]
  refine wpAnyH_take (i := 1) (oi := { dst := some 12, op := Op.move (Operand.tmp 6), type := 3, pos := "ref.go:83", after := #[], guard := none }) (v := .int .i64 q) rfl (by kernel_rfl) (by kernel_rfl) (by kernel_rfl) (fun _ _ _ h => h) (Or.inl ⟨by rfl, fun w' hw => by go_simp⟩) hS ?_
  try simp only [Act.put, List.setIfInBounds_toArray, List.set_cons_zero, List.set_cons_succ]
  refine wpAnyH_take (i := 2) (oi := { dst := some 13, op := Op.binOp BinOp.gtr 3 (Operand.tmp 11) (Operand.tmp 12) 3, type := 4, pos := "ref.go:83", after := #[{ on := 0, ground := Ground.data }, { on := 1, ground := Ground.data }], guard := none }) (v := .bool false) rfl (by kernel_rfl) (by kernel_rfl) (by kernel_rfl) (fun _ _ _ h => h) (Or.inl ⟨by rfl, fun w' hw => by (have q := hgt; go_simp)⟩) hS ?_
  try simp only [Act.put, List.setIfInBounds_toArray, List.set_cons_zero, List.set_cons_succ]
  refine wpAnyH_take (i := 3) (oi := { dst := some 14, op := Op.move (Operand.tmp 13), type := 4, pos := "ref.go:83", after := #[{ on := 2, ground := Ground.data }], guard := none }) (v := .bool false) rfl (by kernel_rfl) (by kernel_rfl) (by kernel_rfl) (fun _ _ _ h => h) (Or.inl ⟨by rfl, fun w' hw => by go_simp⟩) hS ?_
  try simp only [Act.put, List.setIfInBounds_toArray, List.set_cons_zero, List.set_cons_succ]
  refine wpAnyH_take (i := 4) (oi := { dst := some 15, op := Op.move (Operand.tmp 5), type := 3, pos := "ref.go:83", after := #[{ on := 3, ground := Ground.guard }], guard := some (3, false) }) (v := .int .i64 p) rfl (by kernel_rfl) (by kernel_rfl) (by kernel_rfl) (fun _ _ _ h => h) (Or.inl ⟨by rfl, fun w' hw => by go_simp⟩) hS ?_
  try simp only [Act.put, List.setIfInBounds_toArray, List.set_cons_zero, List.set_cons_succ]
  refine wpAnyH_take (i := 5) (oi := { dst := some 16, op := Op.move (Operand.tmp 6), type := 3, pos := "ref.go:83", after := #[{ on := 3, ground := Ground.guard }], guard := some (3, false) }) (v := .int .i64 q) rfl (by kernel_rfl) (by kernel_rfl) (by kernel_rfl) (fun _ _ _ h => h) (Or.inl ⟨by rfl, fun w' hw => by go_simp⟩) hS ?_
  try simp only [Act.put, List.setIfInBounds_toArray, List.set_cons_zero, List.set_cons_succ]
  refine wpAnyH_take (i := 6) (oi := { dst := some 17, op := Op.binOp BinOp.eql 3 (Operand.tmp 15) (Operand.tmp 16) 3, type := 4, pos := "ref.go:83", after := #[{ on := 4, ground := Ground.data }, { on := 5, ground := Ground.data }, { on := 3, ground := Ground.guard }], guard := some (3, false) }) (v := .bool false) rfl (by kernel_rfl) (by kernel_rfl) (by kernel_rfl) (fun _ _ _ h => h) (Or.inl ⟨by rfl, fun w' hw => by (have q := heq; go_simp)⟩) hS ?_
  try simp only [Act.put, List.setIfInBounds_toArray, List.set_cons_zero, List.set_cons_succ]
  refine wpAnyH_take (i := 7) (oi := { dst := some 18, op := Op.move (Operand.tmp 17), type := 4, pos := "ref.go:83", after := #[{ on := 6, ground := Ground.data }, { on := 3, ground := Ground.chain }, { on := 3, ground := Ground.guard }], guard := some (3, false) }) (v := .bool false) rfl (by kernel_rfl) (by kernel_rfl) (by kernel_rfl) (fun _ _ _ h => h) (Or.inl ⟨by rfl, fun w' hw => by go_simp⟩) hS ?_
  try simp only [Act.put, List.setIfInBounds_toArray, List.set_cons_zero, List.set_cons_succ]
  refine wpAnyH_take (i := 8) (oi := { dst := some 19, op := Op.load 28 (Operand.tmp 2), type := 28, pos := "ref.go:83", after := #[{ on := 7, ground := Ground.guard }], guard := some (7, true) }) (v := undef) rfl (by kernel_rfl) (by kernel_rfl) (by kernel_rfl) (fun _ _ _ h => h) (Or.inr ⟨by rfl, rfl⟩) hS ?_
  try simp only [Act.put, List.setIfInBounds_toArray, List.set_cons_zero, List.set_cons_succ]
  refine wpAnyH_take (i := 9) (oi := { dst := some 20, op := Op.call { callee := Callee.value (Operand.func 30), args := #[Operand.tmp 19], argTypes := #[28] }, type := 3, pos := "ref.go:83", after := #[{ on := 8, ground := Ground.data }, { on := 7, ground := Ground.chain }, { on := 7, ground := Ground.guard }], guard := some (7, true) }) (v := undef) rfl (by kernel_rfl) (by kernel_rfl) (by kernel_rfl) (fun _ _ _ h => h) (Or.inr ⟨by rfl, rfl⟩) hS ?_
  try simp only [Act.put, List.setIfInBounds_toArray, List.set_cons_zero, List.set_cons_succ]
  refine wpAnyH_take (i := 10) (oi := { dst := some 21, op := Op.load 28 (Operand.tmp 3), type := 28, pos := "ref.go:83", after := #[{ on := 7, ground := Ground.guard }], guard := some (7, true) }) (v := undef) rfl (by kernel_rfl) (by kernel_rfl) (by kernel_rfl) (fun _ _ _ h => h) (Or.inr ⟨by rfl, rfl⟩) hS ?_
  try simp only [Act.put, List.setIfInBounds_toArray, List.set_cons_zero, List.set_cons_succ]
  refine wpAnyH_take (i := 11) (oi := { dst := some 22, op := Op.call { callee := Callee.value (Operand.func 30), args := #[Operand.tmp 21], argTypes := #[28] }, type := 3, pos := "ref.go:83", after := #[{ on := 10, ground := Ground.data }, { on := 9, ground := Ground.chain }, { on := 7, ground := Ground.guard }], guard := some (7, true) }) (v := undef) rfl (by kernel_rfl) (by kernel_rfl) (by kernel_rfl) (fun _ _ _ h => h) (Or.inr ⟨by rfl, rfl⟩) hS ?_
  try simp only [Act.put, List.setIfInBounds_toArray, List.set_cons_zero, List.set_cons_succ]
  refine wpAnyH_take (i := 12) (oi := { dst := some 23, op := Op.binOp BinOp.lss 3 (Operand.tmp 20) (Operand.tmp 22) 3, type := 4, pos := "ref.go:83", after := #[{ on := 9, ground := Ground.data }, { on := 11, ground := Ground.data }, { on := 7, ground := Ground.guard }], guard := some (7, true) }) (v := undef) rfl (by kernel_rfl) (by kernel_rfl) (by kernel_rfl) (fun _ _ _ h => h) (Or.inr ⟨by rfl, rfl⟩) hS ?_
  try simp only [Act.put, List.setIfInBounds_toArray, List.set_cons_zero, List.set_cons_succ]
  refine wpAnyH_take (i := 13) (oi := { dst := some 24, op := Op.pick (Operand.tmp 18) (Operand.tmp 23) (Operand.const (Value.bool false)), type := 4, pos := "ref.go:83", after := #[{ on := 7, ground := Ground.data }, { on := 12, ground := Ground.data }, { on := 3, ground := Ground.guard }], guard := some (3, false) }) (v := .bool false) rfl (by kernel_rfl) (by kernel_rfl) (by kernel_rfl) (fun _ _ _ h => h) (Or.inl ⟨by rfl, fun w' hw => by go_simp⟩) hS ?_
  try simp only [Act.put, List.setIfInBounds_toArray, List.set_cons_zero, List.set_cons_succ]
  refine wpAnyH_take (i := 14) (oi := { dst := some 25, op := Op.pick (Operand.tmp 14) (Operand.const (Value.bool true)) (Operand.tmp 24), type := 4, pos := "ref.go:83", after := #[{ on := 3, ground := Ground.data }, { on := 13, ground := Ground.data }], guard := none }) (v := .bool false) rfl (by kernel_rfl) (by kernel_rfl) (by kernel_rfl) (fun _ _ _ h => h) (Or.inl ⟨by rfl, fun w' hw => by go_simp⟩) hS ?_
  try simp only [Act.put, List.setIfInBounds_toArray, List.set_cons_zero, List.set_cons_succ]
  refine wpAnyH_take (i := 15) (oi := { dst := some 4, op := Op.assign (Operand.tmp 25), type := 4, pos := "ref.go:83", after := #[{ on := 14, ground := Ground.data }, { on := 11, ground := Ground.chain }, { on := 0, ground := Ground.phase }, { on := 1, ground := Ground.phase }, { on := 2, ground := Ground.phase }, { on := 3, ground := Ground.phase }, { on := 4, ground := Ground.phase }, { on := 5, ground := Ground.phase }, { on := 6, ground := Ground.phase }, { on := 7, ground := Ground.phase }, { on := 8, ground := Ground.phase }, { on := 9, ground := Ground.phase }, { on := 10, ground := Ground.phase }, { on := 11, ground := Ground.phase }, { on := 12, ground := Ground.phase }, { on := 13, ground := Ground.phase }, { on := 14, ground := Ground.phase }], guard := none }) (v := .bool false) rfl (by kernel_rfl) (by kernel_rfl) (by kernel_rfl) (fun _ _ _ h => h) (Or.inl ⟨by rfl, fun w' hw => by go_simp⟩) hS ?_
  try simp only [Act.put, List.setIfInBounds_toArray, List.set_cons_zero, List.set_cons_succ]
  refine wpAnyH_done (by kernel_rfl) ?_ _
  try simp only [Act.put, List.setIfInBounds_toArray, List.set_cons_zero, List.set_cons_succ]
  go_wp2_with fail
  go_ret
  exact ⟨by rfl, T1.out.trans hS (by simp)⟩
set_option maxRecDepth 100000 in
set_option maxHeartbeats 4000000 in
theorem rless_c (b : Bool) (xs : List Int) (b2 : Bool) (ys : List Int) (h : okB xs) (h2 : okB ys) (hgt : ¬ precP b2 ys < precP b xs) (heq : precP b xs = precP b2 ys) (w : World) :
    Calls Tryd.prog 16 #[.agg (adr b xs).toArray, .agg (adr b2 ys).toArray] w fun e w' => e = .returned (.bool (decide (scopeP b xs < scopeP b2 ys))) ∧ Touch [] w w' := by
  have R0 := World.rangeAt_alloc (range_new w (adr b xs) 28) (.cells (adr b2 ys).toArray 28)
  have R1 := range_block (heap_alloc2_new w (.cells (adr b xs).toArray 28) (.cells (adr b2 ys).toArray 28))
  have t0 := (((Touch.refl [] w).alloc (.cells (adr b xs).toArray 28)).alloc (.cells (adr b2 ys).toArray 28)).drew
  have HLA := Lib.hid (show (adr b xs).length = 17 by simp [adr, h.1])
  have HLB := Lib.hid (show (adr b2 ys).length = 17 by simp [adr, h2.1])
  have HPA := Lib.hid (rprec_any b xs h)
  have HPB := Lib.hid (rprec_any b2 ys h2)
  have HSA := Lib.hid (rscope_any b xs h)
  have HSB := Lib.hid (rscope_any b2 ys h2)
  generalize precP b xs = p at *
  generalize precP b2 ys = q at *
  generalize scopeP b xs = sa at *
  generalize scopeP b2 ys = sb at *
  have HG := Lib.hid hgt
  clear h h2
  go_enter Tryd.func16, Tryd.ntmps16
  go_wp2_with fail
  obtain ⟨W, hW⟩ : ∃ W, W = ((w.alloc (.cells (adr b xs).toArray 28)).alloc (.cells (adr b2 ys).toArray 28)).drew := ⟨_, rfl⟩
  have rA : W.rangeAt w.heap.size 0 (adr b xs) := by rw [hW]; exact R0
  have rB : W.rangeAt (w.heap.size + 1) 0 (adr b2 ys) := by rw [hW]; exact R1
  refine wp_region_held (S := Touch [] W) (by kernel_rfl) ?_
  change wpAnyH _ _ _ _ _ _ _ _ ((w.alloc (.cells (adr b xs).toArray 28)).alloc (.cells (adr b2 ys).toArray 28)).drew
  rw [← hW] at t0 ⊢
  clear hW R0 R1
  have T0 := Lib.hid t0
  clear t0
  have hS := Touch.refl [] W
  refine wpAnyH_take (i := 0) (oi := { dst := some 7, op := Op.load 28 (Operand.tmp 2), type := 28, pos := "ref.go:82", after := #[], guard := none }) (v := .agg (adr b xs).toArray) rfl (by kernel_rfl) (by kernel_rfl) (by kernel_rfl) (fun _ _ _ h => h) (Or.inl ⟨by rfl, fun w' hw => exec_load_agg _ 28 _ rfl _ _ rfl (adr b xs) _ (hw.range rA (by simp)) Tryd.underlying28 rfl (by rw [size31, HLA.out])⟩) hS ?_
  try simp only [Act.put, List.setIfInBounds_toArray, List.set_cons_zero, List.set_cons_succ]
  refine wpAnyH_take (i := 2) (oi := { dst := some 9, op := Op.load 28 (Operand.tmp 3), type := 28, pos := "ref.go:82", after := #[], guard := none }) (v := .agg (adr b2 ys).toArray) rfl (by kernel_rfl) (by kernel_rfl) (by kernel_rfl) (fun _ _ _ h => h) (Or.inl ⟨by rfl, fun w' hw => exec_load_agg _ 28 _ rfl _ _ rfl (adr b2 ys) _ (hw.range rB (by simp)) Tryd.underlying28 rfl (by rw [size31, HLB.out])⟩) hS ?_
  try simp only [Act.put, List.setIfInBounds_toArray, List.set_cons_zero, List.set_cons_succ]
  refine wpAnyH_ready (rs := [1]) (by kernel_rfl) (by simp) ?_
  refine AllReadyH.cons (o := { dst := some 8, op := Op.call { callee := Callee.value (Operand.func 29), args := #[Operand.tmp 7], argTypes := #[28] }, type := 3, pos := "ref.go:82", after := #[{ on := 0, ground := Ground.data }], guard := none }) rfl (fun K hK => ?_) AllReadyH.nil
  go_simp
  refine (HPA.out _).mono ?_
  rintro e w1 ⟨rfl, t1⟩
  have hS2 := hS.trans t1 (by simp)
  refine hK.out _ _ hS2 (fun _ => ?_)
  clear hK K hS t1
  have hS := hS2
  clear hS2
  try simp only [Act.put, List.setIfInBounds_toArray, List.set_cons_zero, List.set_cons_succ]
  refine wpAnyH_ready (rs := [3]) (by kernel_rfl) (by simp) ?_
  refine AllReadyH.cons (o := { dst := some 10, op := Op.call { callee := Callee.value (Operand.func 29), args := #[Operand.tmp 9], argTypes := #[28] }, type := 3, pos := "ref.go:82", after := #[{ on := 2, ground := Ground.data }, { on := 1, ground := Ground.chain }], guard := none }) rfl (fun K hK => ?_) AllReadyH.nil
  go_simp
  refine (HPB.out _).mono ?_
  rintro e w3 ⟨rfl, t3⟩
  have hS2 := hS.trans t3 (by simp)
  refine hK.out _ _ hS2 (fun _ => ?_)
  clear hK K hS t3
  have hS := hS2
  clear hS2
  try simp only [Act.put, List.setIfInBounds_toArray, List.set_cons_zero, List.set_cons_succ]
  refine wpAnyH_take (i := 4) (oi := { dst := some 5, op := Op.assign (Operand.tmp 8), type := 3, pos := "ref.go:82", after := #[{ on := 1, ground := Ground.data }, { on := 3, ground := Ground.chain }, { on := 0, ground := Ground.phase }, { on := 1, ground := Ground.phase }, { on := 2, ground := Ground.textOnly Departure.lateStores }, { on := 3, ground := Ground.textOnly Departure.lateStoresUnsure }], guard := none }) (v := .int .i64 p) rfl (by kernel_rfl) (by kernel_rfl) (by kernel_rfl) (fun _ _ _ h => h) (Or.inl ⟨by rfl, fun w' hw => by go_simp⟩) hS ?_
  try simp only [Act.put, List.setIfInBounds_toArray, List.set_cons_zero, List.set_cons_succ]
  refine wpAnyH_take (i := 5) (oi := { dst := some 6, op := Op.assign (Operand.tmp 10), type := 3, pos := "ref.go:82", after := #[{ on := 3, ground := Ground.data }, { on := 4, ground := Ground.chain }, { on := 0, ground := Ground.phase }, { on := 1, ground := Ground.phase }, { on := 2, ground := Ground.phase }, { on := 3, ground := Ground.phase }, { on := 4, ground := Ground.phase }], guard := none }) (v := .int .i64 q) rfl (by kernel_rfl) (by kernel_rfl) (by kernel_rfl) (fun _ _ _ h => h) (Or.inl ⟨by rfl, fun w' hw => by go_simp⟩) hS ?_
  try simp only [Act.put, List.setIfInBounds_toArray, List.set_cons_zero, List.set_cons_succ]
  refine wpAnyH_done (by kernel_rfl) ?_ _
  try simp only [Act.put, List.setIfInBounds_toArray, List.set_cons_zero, List.set_cons_succ]
  go_wp2_with fail
  have rA2 := hS.range rA (by simp)
  have rB2 := hS.range rB (by simp)
  refine wp_region_held (S := Touch [] w3.drew) (by kernel_rfl) ?_
  change wpAnyH _ _ _ _ _ _ _ _ w3.drew
  have rA : w3.drew.rangeAt w.heap.size 0 (adr b xs) := rA2
  have rB : w3.drew.rangeAt (w.heap.size + 1) 0 (adr b2 ys) := rB2
  have T1 := Lib.hid (show Touch [] w w3.drew from (T0.out.trans hS (by simp)).drew)
  clear rA2 rB2 T0 hS
  generalize w3.drew = W at *
  have hS := Touch.refl [] W
  refine wpAnyH_take (i := 0) (oi := { dst := some 11, op := Op.move (Operand.tmp 5), type := 3, pos := "ref.go:83", after := #[], guard := none }) (v := .int .i64 p) rfl (by kernel_rfl) (by kernel_rfl) (by kernel_rfl) (fun _ _ _ h => h) (Or.inl ⟨by rfl, fun w' hw => by go_simp⟩) hS ?_
  try simp only [Act.put, List.setIfInBounds_toArray, List.set_cons_zero, List.set_cons_succ]
  refine wpAnyH_take (i := 1) (oi := { dst := some 12, op := Op.move (Operand.tmp 6), type := 3, pos := "ref.go:83", after := #[], guard := none }) (v := .int .i64 q) rfl (by kernel_rfl) (by kernel_rfl) (by kernel_rfl) (fun _ _ _ h => h) (Or.inl ⟨by rfl, fun w' hw => by go_simp⟩) hS ?_
  try simp only [Act.put, List.setIfInBounds_toArray, List.set_cons_zero, List.set_cons_succ]
  refine wpAnyH_take (i := 2) (oi := { dst := some 13, op := Op.binOp BinOp.gtr 3 (Operand.tmp 11) (Operand.tmp 12) 3, type := 4, pos := "ref.go:83", after := #[{ on := 0, ground := Ground.data }, { on := 1, ground := Ground.data }], guard := none }) (v := .bool false) rfl (by kernel_rfl) (by kernel_rfl) (by kernel_rfl) (fun _ _ _ h => h) (Or.inl ⟨by rfl, fun w' hw => by (have q := hgt; go_simp)⟩) hS ?_
  try simp only [Act.put, List.setIfInBounds_toArray, List.set_cons_zero, List.set_cons_succ]
  refine wpAnyH_take (i := 3) (oi := { dst := some 14, op := Op.move (Operand.tmp 13), type := 4, pos := "ref.go:83", after := #[{ on := 2, ground := Ground.data }], guard := none }) (v := .bool false) rfl (by kernel_rfl) (by kernel_rfl) (by kernel_rfl) (fun _ _ _ h => h) (Or.inl ⟨by rfl, fun w' hw => by go_simp⟩) hS ?_
  try simp only [Act.put, List.setIfInBounds_toArray, List.set_cons_zero, List.set_cons_succ]
  refine wpAnyH_take (i := 4) (oi := { dst := some 15, op := Op.move (Operand.tmp 5), type := 3, pos := "ref.go:83", after := #[{ on := 3, ground := Ground.guard }], guard := some (3, false) }) (v := .int .i64 p) rfl (by kernel_rfl) (by kernel_rfl) (by kernel_rfl) (fun _ _ _ h => h) (Or.inl ⟨by rfl, fun w' hw => by go_simp⟩) hS ?_
  try simp only [Act.put, List.setIfInBounds_toArray, List.set_cons_zero, List.set_cons_succ]
  refine wpAnyH_take (i := 5) (oi := { dst := some 16, op := Op.move (Operand.tmp 6), type := 3, pos := "ref.go:83", after := #[{ on := 3, ground := Ground.guard }], guard := some (3, false) }) (v := .int .i64 q) rfl (by kernel_rfl) (by kernel_rfl) (by kernel_rfl) (fun _ _ _ h => h) (Or.inl ⟨by rfl, fun w' hw => by go_simp⟩) hS ?_
  try simp only [Act.put, List.setIfInBounds_toArray, List.set_cons_zero, List.set_cons_succ]
  refine wpAnyH_take (i := 6) (oi := { dst := some 17, op := Op.binOp BinOp.eql 3 (Operand.tmp 15) (Operand.tmp 16) 3, type := 4, pos := "ref.go:83", after := #[{ on := 4, ground := Ground.data }, { on := 5, ground := Ground.data }, { on := 3, ground := Ground.guard }], guard := some (3, false) }) (v := .bool true) rfl (by kernel_rfl) (by kernel_rfl) (by kernel_rfl) (fun _ _ _ h => h) (Or.inl ⟨by rfl, fun w' hw => by (have q := heq; go_simp)⟩) hS ?_
  try simp only [Act.put, List.setIfInBounds_toArray, List.set_cons_zero, List.set_cons_succ]
  refine wpAnyH_take (i := 7) (oi := { dst := some 18, op := Op.move (Operand.tmp 17), type := 4, pos := "ref.go:83", after := #[{ on := 6, ground := Ground.data }, { on := 3, ground := Ground.chain }, { on := 3, ground := Ground.guard }], guard := some (3, false) }) (v := .bool true) rfl (by kernel_rfl) (by kernel_rfl) (by kernel_rfl) (fun _ _ _ h => h) (Or.inl ⟨by rfl, fun w' hw => by go_simp⟩) hS ?_
  try simp only [Act.put, List.setIfInBounds_toArray, List.set_cons_zero, List.set_cons_succ]
  refine wpAnyH_take (i := 8) (oi := { dst := some 19, op := Op.load 28 (Operand.tmp 2), type := 28, pos := "ref.go:83", after := #[{ on := 7, ground := Ground.guard }], guard := some (7, true) }) (v := .agg (adr b xs).toArray) rfl (by kernel_rfl) (by kernel_rfl) (by kernel_rfl) (fun _ _ _ h => h) (Or.inl ⟨by rfl, fun w' hw => exec_load_agg _ 28 _ rfl _ _ rfl (adr b xs) _ (hw.range rA (by simp)) Tryd.underlying28 rfl (by rw [size31, HLA.out])⟩) hS ?_
  try simp only [Act.put, List.setIfInBounds_toArray, List.set_cons_zero, List.set_cons_succ]
  refine wpAnyH_take (i := 10) (oi := { dst := some 21, op := Op.load 28 (Operand.tmp 3), type := 28, pos := "ref.go:83", after := #[{ on := 7, ground := Ground.guard }], guard := some (7, true) }) (v := .agg (adr b2 ys).toArray) rfl (by kernel_rfl) (by kernel_rfl) (by kernel_rfl) (fun _ _ _ h => h) (Or.inl ⟨by rfl, fun w' hw => exec_load_agg _ 28 _ rfl _ _ rfl (adr b2 ys) _ (hw.range rB (by simp)) Tryd.underlying28 rfl (by rw [size31, HLB.out])⟩) hS ?_
  try simp only [Act.put, List.setIfInBounds_toArray, List.set_cons_zero, List.set_cons_succ]
  refine wpAnyH_ready (rs := [9]) (by kernel_rfl) (by simp) ?_
  refine AllReadyH.cons (o := { dst := some 20, op := Op.call { callee := Callee.value (Operand.func 30), args := #[Operand.tmp 19], argTypes := #[28] }, type := 3, pos := "ref.go:83", after := #[{ on := 8, ground := Ground.data }, { on := 7, ground := Ground.chain }, { on := 7, ground := Ground.guard }], guard := some (7, true) }) rfl (fun K hK => ?_) AllReadyH.nil
  go_simp
  refine (HSA.out _).mono ?_
  rintro e w9 ⟨rfl, t9⟩
  have hS2 := hS.trans t9 (by simp)
  refine hK.out _ _ hS2 (fun _ => ?_)
  clear hK K hS t9
  have hS := hS2
  clear hS2
  try simp only [Act.put, List.setIfInBounds_toArray, List.set_cons_zero, List.set_cons_succ]
  refine wpAnyH_ready (rs := [11]) (by kernel_rfl) (by simp) ?_
  refine AllReadyH.cons (o := { dst := some 22, op := Op.call { callee := Callee.value (Operand.func 30), args := #[Operand.tmp 21], argTypes := #[28] }, type := 3, pos := "ref.go:83", after := #[{ on := 10, ground := Ground.data }, { on := 9, ground := Ground.chain }, { on := 7, ground := Ground.guard }], guard := some (7, true) }) rfl (fun K hK => ?_) AllReadyH.nil
  go_simp
  refine (HSB.out _).mono ?_
  rintro e w11 ⟨rfl, t11⟩
  have hS2 := hS.trans t11 (by simp)
  refine hK.out _ _ hS2 (fun _ => ?_)
  clear hK K hS t11
  have hS := hS2
  clear hS2
  try simp only [Act.put, List.setIfInBounds_toArray, List.set_cons_zero, List.set_cons_succ]
  refine wpAnyH_take (i := 12) (oi := { dst := some 23, op := Op.binOp BinOp.lss 3 (Operand.tmp 20) (Operand.tmp 22) 3, type := 4, pos := "ref.go:83", after := #[{ on := 9, ground := Ground.data }, { on := 11, ground := Ground.data }, { on := 7, ground := Ground.guard }], guard := some (7, true) }) (v := .bool (decide (sa < sb))) rfl (by kernel_rfl) (by kernel_rfl) (by kernel_rfl) (fun _ _ _ h => h) (Or.inl ⟨by rfl, fun w' hw => by go_simp⟩) hS ?_
  try simp only [Act.put, List.setIfInBounds_toArray, List.set_cons_zero, List.set_cons_succ]
  refine wpAnyH_take (i := 13) (oi := { dst := some 24, op := Op.pick (Operand.tmp 18) (Operand.tmp 23) (Operand.const (Value.bool false)), type := 4, pos := "ref.go:83", after := #[{ on := 7, ground := Ground.data }, { on := 12, ground := Ground.data }, { on := 3, ground := Ground.guard }], guard := some (3, false) }) (v := .bool (decide (sa < sb))) rfl (by kernel_rfl) (by kernel_rfl) (by kernel_rfl) (fun _ _ _ h => h) (Or.inl ⟨by rfl, fun w' hw => by go_simp⟩) hS ?_
  try simp only [Act.put, List.setIfInBounds_toArray, List.set_cons_zero, List.set_cons_succ]
  refine wpAnyH_take (i := 14) (oi := { dst := some 25, op := Op.pick (Operand.tmp 14) (Operand.const (Value.bool true)) (Operand.tmp 24), type := 4, pos := "ref.go:83", after := #[{ on := 3, ground := Ground.data }, { on := 13, ground := Ground.data }], guard := none }) (v := .bool (decide (sa < sb))) rfl (by kernel_rfl) (by kernel_rfl) (by kernel_rfl) (fun _ _ _ h => h) (Or.inl ⟨by rfl, fun w' hw => by go_simp⟩) hS ?_
  try simp only [Act.put, List.setIfInBounds_toArray, List.set_cons_zero, List.set_cons_succ]
  refine wpAnyH_take (i := 15) (oi := { dst := some 4, op := Op.assign (Operand.tmp 25), type := 4, pos := "ref.go:83", after := #[{ on := 14, ground := Ground.data }, { on := 11, ground := Ground.chain }, { on := 0, ground := Ground.phase }, { on := 1, ground := Ground.phase }, { on := 2, ground := Ground.phase }, { on := 3, ground := Ground.phase }, { on := 4, ground := Ground.phase }, { on := 5, ground := Ground.phase }, { on := 6, ground := Ground.phase }, { on := 7, ground := Ground.phase }, { on := 8, ground := Ground.phase }, { on := 9, ground := Ground.phase }, { on := 10, ground := Ground.phase }, { on := 11, ground := Ground.phase }, { on := 12, ground := Ground.phase }, { on := 13, ground := Ground.phase }, { on := 14, ground := Ground.phase }], guard := none }) (v := .bool (decide (sa < sb))) rfl (by kernel_rfl) (by kernel_rfl) (by kernel_rfl) (fun _ _ _ h => h) (Or.inl ⟨by rfl, fun w' hw => by go_simp⟩) hS ?_
  try simp only [Act.put, List.setIfInBounds_toArray, List.set_cons_zero, List.set_cons_succ]
  refine wpAnyH_done (by kernel_rfl) ?_ _
  try simp only [Act.put, List.setIfInBounds_toArray, List.set_cons_zero, List.set_cons_succ]
  go_wp2_with fail
  go_ret
  exact ⟨by rfl, T1.out.trans hS (by simp)⟩
theorem rless_any (b : Bool) (xs : List Int) (b2 : Bool) (ys : List Int) (h : okB xs) (h2 : okB ys) (w : World) :
    Calls Tryd.prog 16 #[.agg (adr b xs).toArray, .agg (adr b2 ys).toArray] w fun e w' => e = .returned (.bool (lessP b xs b2 ys)) ∧ Touch [] w w' := by
  rw [lessP_eq]
  by_cases hgt : precP b2 ys < precP b xs
  · have := rless_a b xs b2 ys h h2 hgt w
    simpa [hgt] using this
  · by_cases heq : precP b xs = precP b2 ys
    · have := rless_c b xs b2 ys h h2 hgt heq w
      simpa [hgt, heq] using this
    · have := rless_b b xs b2 ys h h2 hgt heq w
      simpa [hgt, heq] using this
end Go.Proofs.YtecaakgpogabjaaDoor

/-
  A struct is stored into an element of an owned row. Plain lemma over any program.
-/
namespace Go.Proofs.YtecaakgpogabjaaDoor
open Go.RowKit
set_option linter.unusedVariables false
set_option linter.unusedSimpArgs false
theorem wpList_store_own {P : Program} {ops : Array Oper} {rest : List Oper} {op : Oper} {a : Act} {w : World} {Q : Exit → Act → World → Prop} (hgd : op.guard = none) (ty : TypeId) (x y : Operand) (ho : op.op = .store ty x y)
    (g o n c e k : Nat) (xs cs : List Value) (row : w.ownsRow 0 e k (.slice (some ⟨g, 0, none⟩) n c) n xs) (hx : a.eval x = .pointer (some ⟨g, o, none⟩)) (hy : a.eval y = .agg cs.toArray)
    (hz : o + cs.length ≤ xs.length) (hi : (P.info? ty).map (·.size) = some cs.length) (h1 : ∀ v ∈ cs, v.oneCell' = true)
    (h : ∀ w', w'.ownsRow 0 e k (.slice (some ⟨g, 0, none⟩) n c) n (xs.take o ++ cs ++ xs.drop (o + cs.length)) → Touch [g] w w' → w'.heap.size = w.heap.size → wpList P ops Q rest (a.put op.dst undef) w') : wpList P ops Q (op :: rest) a w := by
  obtain ⟨r1, r2⟩ := row
  rcases r2 with ⟨h2, _⟩ | ⟨g', cap, cur, hv, hb, hh, hn, hm, hs, ht⟩
  · simp at h2
  · simp at hv
    obtain ⟨rfl, rfl⟩ := hv
    have hxl : xs.length ≤ cur.toList.length := by rw [← ht]; exact List.length_take_le' _ _
    refine wpList_store_part hgd ty x y ho g o e cur.toList cs hx hy (by simpa using hh) (by omega) hi h1 (fun w' hw' t z => h w' ⟨?_, .inr ⟨g, c, _, rfl, hb, hw', hn, hm, ?_, ?_⟩⟩ t z)
    · simp only [List.length_append, List.length_take, List.length_drop]
      omega
    · have : cur.toList.length = cur.size := by simp
      simp only [List.size_toArray, List.length_append, List.length_take, List.length_drop]
      omega
    · have hlen : (cur.toList.take o ++ cs).length = o + cs.length := by
        simp only [List.length_append, List.length_take]
        omega
      have e1 : xs.take o = cur.toList.take o := by
        rw [← ht, List.take_take]
        congr 1
        omega
      have e2 : xs.drop (o + cs.length) = (cur.toList.drop (o + cs.length)).take (n * k - (o + cs.length)) := by
        rw [← ht, List.drop_take]
      rw [e1, e2]
      show List.take (n * k) (cur.toList.take o ++ cs ++ cur.toList.drop (o + cs.length)) = _
      rw [List.take_append, hlen, List.take_of_length_le (by rw [hlen]; omega)]
end Go.Proofs.YtecaakgpogabjaaDoor

/-
  Addresses as a type; slices of addresses of the call's own.
-/
namespace Go.Proofs.YtecaakgpogabjaaDoor
open Go.RowKit
set_option linter.unusedVariables false
set_option linter.unusedSimpArgs false

structure Ad where
  b : Bool
  xs : List Int
  ok : okB xs
def Ad.cells (a : Ad) : List Value := adr a.b a.xs
def Ad.comp (a c : Ad) : Int := compP a.b a.xs c.b c.xs
def Ad.less (a c : Ad) : Bool := lessP a.b a.xs c.b c.xs
theorem Ad.less_eq (a c : Ad) : a.less c = decide (a.comp c < 0) := rfl
theorem Ad.len (a : Ad) : a.cells.length = 17 := by simp [Ad.cells, adr, a.ok.1]
theorem Ad.one (a : Ad) : ∀ v ∈ a.cells, v.oneCell' = true := adr_one _ _
theorem Ad.is (a : Ad) : IsAd a.cells := ⟨a.b, a.xs, rfl, a.ok.1, a.ok.2⟩
theorem ad_of {cs : List Value} (h : IsAd cs) : ∃ a : Ad, cs = a.cells := by
  obtain ⟨b, xs, rfl, hl, hr⟩ := h
  exact ⟨⟨b, xs, ⟨hl, hr⟩⟩, rfl⟩
theorem ads_of : ∀ {xs : List (List Value)}, (∀ x ∈ xs, IsAd x) → ∃ l : List Ad, xs = l.map Ad.cells
  | [], _ => ⟨[], rfl⟩
  | x :: xs, h => by
    obtain ⟨a, rfl⟩ := ad_of (h x (by simp))
    obtain ⟨l, rfl⟩ := ads_of (xs := xs) (fun y hy => h y (by simp [hy]))
    exact ⟨a :: l, rfl⟩
theorem ads_len17 (l : List Ad) : ∀ x ∈ l.map Ad.cells, x.length = 17 := by
  intro x hx
  obtain ⟨a, _, rfl⟩ := List.mem_map.1 hx
  exact a.len
theorem ads_flat (l : List Ad) : (l.map Ad.cells).flatten.length = l.length * 17 := by rw [flat_len (ads_len17 l), List.length_map]
theorem ads_set : ∀ (l : List Ad) (j : Nat) (a : Ad), j < l.length → (l.map Ad.cells).flatten.take (j * 17) ++ a.cells ++ (l.map Ad.cells).flatten.drop (j * 17 + 17) = ((l.set j a).map Ad.cells).flatten
  | [], j, a, h => by simp at h
  | x :: l, 0, a, h => by
    have hx := x.len
    simp only [List.map_cons, List.flatten_cons, Nat.zero_mul, List.take_zero, List.nil_append, Nat.zero_add, List.set_cons_zero]
    rw [List.drop_append, List.drop_eq_nil_of_le (by omega)]
    simp [hx]
  | x :: l, j + 1, a, h => by
    have hx := x.len
    have ih := ads_set l j a (by simpa using h)
    simp only [List.map_cons, List.flatten_cons, List.set_cons_succ]
    rw [List.take_append, List.drop_append, List.take_of_length_le (l := x.cells) (by omega), List.drop_eq_nil_of_le (show x.cells.length ≤ (j + 1) * 17 + 17 by omega)]
    rw [show (j + 1) * 17 - x.cells.length = j * 17 by omega, show (j + 1) * 17 + 17 - x.cells.length = j * 17 + 17 by omega]
    rw [← ih]
    simp [List.append_assoc]
/-- A slice of addresses of the call's own, made since w0. -/
def OwnA (w0 w : World) (v : Value) (l : List Ad) : Prop := Own w0 w v (l.map Ad.cells)
theorem OwnA.row' {w0 w : World} {v : Value} {l : List Ad} (h : OwnA w0 w v l) : w.ownsRow 0 28 17 v l.length (l.map Ad.cells).flatten := by
  have := h.row
  rw [List.length_map] at this
  exact this
theorem own_at {w : World} {g n c : Nat} {l : List Ad} (hrow : w.ownsRow 0 28 17 (.slice (some ⟨g, 0, none⟩) n c) n (l.map Ad.cells).flatten) {i : Nat} {a : Ad} (h : l[i]? = some a) : w.rangeAt g (i * 17) a.cells := by
  obtain ⟨hlen, hr⟩ := hrow
  rcases hr with ⟨hv, hn⟩ | ⟨g', cap, cur, hv, hb, hg, hnc, hcm, hcs, htk⟩
  · simp at hv
  · simp only [Value.slice.injEq, Option.some.injEq, Addr.mk.injEq] at hv
    obtain ⟨⟨rfl, _⟩, _, rfl⟩ := hv
    intro j u hu
    have hf := flat_get (ads_len17 l) (i := i) (x := a.cells) (by simp [h]) hu
    rw [cell_of_row _ _ _ _ _ _ hg]
    rw [← htk, List.getElem?_take] at hf
    split at hf
    · simpa using hf
    · cases hf
theorem OwnA.form {w0 w : World} {v : Value} {l : List Ad} (h : OwnA w0 w v l) : ∃ a c, v = .slice a l.length c ∧ l.length ≤ c ∧ c ≤ maxLen ∧ (0 < l.length → ∃ g, a = some ⟨g, 0, none⟩) := owns_form h.row'
/-! ### sorting in place -/
def swp (L : List Ad) (k : Nat) (x y : Ad) : List Ad := (L.set (k + 1) y).set k x
def bubble (a : Nat) : Nat → List Ad → List Ad
  | 0, L => L
  | k + 1, L => match L[k + 1]?, L[k]? with
    | some x, some y => if a < k + 1 ∧ x.less y = true then bubble a k (swp L k x y) else L
    | _, _ => L
def isortN (l : List Ad) (a : Nat) : Nat → List Ad
  | 0 => l
  | k + 1 => bubble a (a + 1 + k) (isortN l a k)
theorem swp_len (L : List Ad) (k : Nat) (x y : Ad) : (swp L k x y).length = L.length := by simp [swp]
theorem bubble_len (a : Nat) : ∀ (j : Nat) (L : List Ad), (bubble a j L).length = L.length
  | 0, L => rfl
  | k + 1, L => by
    unfold bubble
    split
    · split
      · rw [bubble_len a k, swp_len]
      · rfl
    · rfl
theorem isortN_len (l : List Ad) (a k : Nat) : (isortN l a k).length = l.length := by
  induction k with
  | zero => rfl
  | succ k ih => rw [isortN, bubble_len, ih]
end Go.Proofs.YtecaakgpogabjaaDoor

/-
  The cells of an address that came in.
-/
namespace Go.Proofs.YtecaakgpogabjaaDoor
open Go.ChangeShapes Go.WideShapes Go.Deep
set_option linter.unusedVariables false
set_option linter.unusedSimpArgs false

theorem isAd_cells {H : Type} {enc : TypeId × Value → H} {w : World} {base : Nat} {spare : Nat → Bool} {held : Bool} {x : List Value}
    (h : CellsOk enc Tryd.prog w base spare held [4, 5, 5, 5, 5, 5, 5, 5, 5, 5, 5, 5, 5, 5, 5, 5, 5] x) : IsAd x := by
  obtain ⟨hl, hc⟩ := h
  cases x with
  | nil => simp at hl
  | cons u r =>
    obtain ⟨v, hv, l0⟩ := hc 0 4 rfl
    simp at hv
    subst hv
    obtain ⟨b, rfl⟩ := l0.bool Tryd.underlying4
    have hr : r.length = 16 := by simpa using hl
    have key : ∀ j, j < 16 → ∃ n : Int, r[j]? = some (.int .u8 n) ∧ 0 ≤ n ∧ n ≤ 255 := by
      intro j hj
      have : [4, 5, 5, 5, 5, 5, 5, 5, 5, 5, 5, 5, 5, 5, 5, 5, 5][j + 1]? = some 5 := by
        have : ∀ j : Fin 16, [4, 5, 5, 5, 5, 5, 5, 5, 5, 5, 5, 5, 5, 5, 5, 5, 5][j.val + 1]? = some 5 := by decide
        exact this ⟨j, hj⟩
      obtain ⟨v, hv, l⟩ := hc (j + 1) 5 this
      obtain ⟨n, rfl, hw⟩ := l.int Tryd.underlying5
      refine ⟨n, by simpa using hv, ?_⟩
      simp [Lit.wf, IntKind.min, IntKind.max, IntKind.signed, IntKind.bits] at hw
      omega
    refine ⟨b, r.map fun v => match v with | .int _ n => n | _ => 0, ?_, by simpa using hr, ?_⟩
    · unfold adr
      congr 1
      apply List.ext_getElem?
      intro j
      by_cases hj : j < 16
      · obtain ⟨n, hn, _⟩ := key j hj
        simp [hn]
      · simp [List.getElem?_eq_none (show r.length ≤ j by omega)]
    · intro y hy
      obtain ⟨z, hz, rfl⟩ := List.mem_map.1 hy
      obtain ⟨j, hj, rfl⟩ := List.getElem_of_mem hz
      obtain ⟨n, hn, h1, h2⟩ := key j (by omega)
      rw [List.getElem?_eq_getElem hj] at hn
      simp at hn
      rw [hn]
      exact ⟨h1, h2⟩

end Go.Proofs.YtecaakgpogabjaaDoor

/-
  The contracts of WithSpare, Overwrite and Unchanged at slices of addresses.
-/
namespace Go.Proofs.YtecaakgpogabjaaDoor
open Go.RowKit Go.Deep
set_option linter.unusedVariables false
set_option linter.unusedSimpArgs false

theorem Own.rd {w0 w : World} {v : Value} {xs : List (List Value)} (h : Own w0 w v xs) (hx : ∀ x ∈ xs, IsAd x) : ∃ b, Rd w 17 b v xs ∧ (xs ≠ [] → v.ownBlock = some b) := by
  cases hb : v.ownBlock with
  | none => 
    refine ⟨0, Rd.of_owns (ads_len hx) h.row (by simp [hb]), fun hne => ?_⟩
    obtain ⟨a, c, rfl, _, _, h3⟩ := owns_form h.row
    obtain ⟨g, rfl⟩ := h3 (List.length_pos_iff.2 hne)
    simp [Value.ownBlock] at hb
  | some b => exact ⟨b, Rd.of_owns (ads_len hx) h.row (by simp [hb]), fun _ => rfl⟩

theorem Own.rdg {w0 w : World} {a : Option Addr} {n c : Nat} {xs : List (List Value)} (h : Own w0 w (.slice a n c) xs) (hx : ∀ x ∈ xs, IsAd x) (hne : xs ≠ []) : ∃ g, a = some ⟨g, 0, none⟩ ∧ w0.heap.size ≤ g ∧ Rd w 17 g (.slice a n c) xs := by
  obtain ⟨b, h1, h2⟩ := h.rd hx
  obtain ⟨a', c', hv, _, _, h3⟩ := owns_form h.row
  simp only [Value.slice.injEq] at hv
  obtain ⟨rfl, rfl, rfl⟩ := hv
  obtain ⟨g, rfl⟩ := h3 (List.length_pos_iff.2 hne)
  have := h2 hne
  simp [Value.ownBlock] at this
  subst this
  exact ⟨g, rfl, h.new g rfl, h1⟩

set_option maxRecDepth 100000 in
set_option maxHeartbeats 1000000 in
theorem spare_any (v : Value) (b : Nat) (xs : List (List Value)) (f : List Value) (w : World) (hl : xs.length ≤ 100) (hv : Rd w 17 b v xs) (hxs : ∀ x ∈ xs, IsAd x) (hf : IsAd f) :
    Calls Tryd.prog 17 #[v, .agg f.toArray] w fun e w' => ∃ g, e = .returned (.slice (some ⟨g, 0, none⟩) xs.length (xs.length + 3)) ∧ w.heap.size ≤ g ∧
      Rd w' 17 g (.slice (some ⟨g, 0, none⟩) (xs.length + 3) (xs.length + 3)) (xs ++ [f, f, f]) ∧ Touch [] w w' := by
  obtain ⟨i31, hi31, hz31, hs31, hb31⟩ := info_parts info28
  obtain ⟨a, cap, rfl, hlc, hcm⟩ := hv.form
  have hcm2 : cap ≤ 9223372036854775807 := by unfold maxLen at hcm; omega
  obtain ⟨hn1, hn2⟩ := (((hv.touch ((Touch.refl [] w).alloc (.cells f.toArray 28)) (by simp)).touch ((Touch.refl [] (w.alloc (.cells f.toArray 28))).alloc (.cells #[] 28)) (by simp))).news (by omega) (ads_len hxs)
  have HL := Lib.hid hf.len
  have HX := Lib.hid (flat_len (ads_len hxs))
  have hr := World.rangeAt_alloc (range_new w f 28) (.cells #[] 28)
  have hown0 := World.ownsRow_made (base := 0) (e := 28) (size := 17) (w.alloc (.cells f.toArray 28)) #[] 0 (Nat.zero_le _) (by simp [maxLen]) (by simp)
  simp only [World.size_alloc] at hown0
  have hall : ∀ x ∈ xs ++ [f, f, f], IsAd x := by
    intro x hx
    simp only [List.mem_append, List.mem_cons, List.not_mem_nil, or_false] at hx
    rcases hx with h | rfl | rfl | rfl
    · exact hxs x h
    all_goals assumption
  go_enter Tryd.func17, Tryd.ntmps17
  go_wp2_with (first
    | (refine wpList_buildSlice_rows rfl 22 0 _ rfl 28 17 i31 _ Tryd.underlying22 hi31 hz31 hs31 (by omega) [] rfl (by simp) (by omega) (by rfl) ?_)
    | (at_builtin; refine wpList_app _ (by rfl) _ _ 22 (by rfl) 28 i31 _ 17 17 Tryd.underlying22 hi31 hz31 hs31 hb31 rfl (by omega) _ 0 _ (by rfl) hown0 a xs.length cap xs.flatten (by rfl) (by rw [HX.out]) hn1 hn2 (ads_one hxs) (by unfold maxLen; omega) (by omega) ?_))
  intro v1 w1 o1 t1 hv1
  try simp only [Nat.zero_add, List.nil_append] at o1
  have tA : Touch [] w w1 := (((Touch.refl [] w).alloc (.cells f.toArray 28)).alloc (.cells #[] 28)).trans t1 (by simp [Value.ownBlock])
  have ho1 : Own w w1 v1 xs := by
    refine ⟨o1, fun g hg => ?_⟩
    rcases hv1 with e | e
    · rw [e] at hg; simp [Value.ownBlock] at hg; omega
    · rw [e] at hg; simp at hg; omega
  have hr1 := t1.range hr (by simp [Value.ownBlock])
  clear o1 t1 hv1 hn1 hn2 hv hown0 hr
  have ho1r := (ho1.touch ((Touch.refl [] w1).alloc (.cells [f, f, f].flatten.toArray 28)) (by simp)).row
  go_wp2_with (first
    | (refine wpList_load_mid rfl 28 _ rfl w.heap.size 0 rfl f _ hr1 Tryd.underlying28 rfl (by rw [size31, HL.out]) ?_)
    | (refine wpList_buildSlice_rows rfl 22 3 _ rfl 28 17 i31 _ Tryd.underlying22 hi31 hz31 hs31 (by omega) [f, f, f] rfl (by simp [HL.out]) (by omega) (by rfl) ?_)
    | (at_builtin; refine wpList_app _ (by rfl) _ _ 22 (by rfl) 28 i31 _ 17 17 Tryd.underlying22 hi31 hz31 hs31 hb31 rfl (by omega) v1 xs.length _ (by rfl) ho1r (some ⟨w1.heap.size, 0, none⟩) 3 3 [f, f, f].flatten (by rfl) (by simp [HL.out]) (by simp) (by intro ad h j u hu; cases h; rw [Addr.add_lit]; exact range_new w1 _ 28 j u hu) (ads_one (by intro x hx; simp only [List.mem_cons, List.not_mem_nil, or_false] at hx; rcases hx with rfl | rfl | rfl <;> exact hf)) (by unfold maxLen; omega) (by omega) ?_))
  intro v2 w2 o2 t2 hv2
  have e3 : f ++ (f ++ f) = [f, f, f].flatten := by simp
  rw [e3] at o2 t2
  have tB := (Touch.refl [] w1).alloc (.cells [f, f, f].flatten.toArray 28)
  have z1 := tA.size
  have ho2 : Own w w2 v2 (xs ++ [f, f, f]) := by
    refine ⟨by rw [List.flatten_append, List.length_append]; exact o2, fun g hg => ?_⟩
    rcases hv2 with e | e
    · rw [e] at hg; exact ho1.new g hg
    · rw [e] at hg; simp at hg; omega
  have tC : Touch [] w w2 := (tA.trans tB (by simp)).trans t2 (fun g hg => .inr (ho1.new g (by simpa using hg)))
  obtain ⟨a2, c2, rfl, hc1, hc2, _⟩ := owns_form o2
  have hc3 : c2 ≤ 9223372036854775807 := by unfold maxLen at hc2; omega
  obtain ⟨g, rfl, hg, hd⟩ := (show Own w w2 (.slice a2 (xs ++ [f, f, f]).length c2) (xs ++ [f, f, f]) by simpa using ho2).rdg hall (by simp)
  have hd2 : Rd w2 17 g (.slice (some ⟨g, 0, none⟩) (xs.length + 3) (xs.length + 3)) (xs ++ [f, f, f]) := by
    obtain ⟨off, h1, h2⟩ := hd.at (by simp)
    simp at h1
    obtain rfl := h1
    exact ⟨some ⟨g, 0, none⟩, xs.length + 3, by simp, by simp, by unfold maxLen; omega, by simp, fun _ => ⟨0, rfl, h2⟩⟩
  clear hd ho2 o2 t2 ho1 ho1r hv2 hr1
  go_wp2_with fail
  go_ret
  exact ⟨g, rfl, hg, hd2, tC⟩

set_option maxRecDepth 100000 in
set_option maxHeartbeats 1000000 in
theorem over_any (v : Value) (xs : List (List Value)) (w0 w : World) (hv : Own w0 w v xs) (hl : xs.length ≤ 100) :
    Calls Tryd.prog 18 #[v] w fun e w' => e = .returned (.tuple #[]) ∧ Touch v.ownBlock.toList w w' := by
  obtain ⟨a, c, rfl, hc1, hc2, _⟩ := owns_form hv.row
  go_enter Tryd.func18, Tryd.ntmps18
  go_wp2_with fail
  go_loopw [3] (fun vi wr => ∃ (k : Nat), k ≤ xs.length ∧ vi = .int .i64 k ∧ Touch ((Value.slice a xs.length c).ownBlock).toList w wr ∧ w.heap.size < wr.heap.size ∧ wr.rangeAt w.heap.size 0 (adr false [0, 0, 0, 0, 0, 0, 0, 0, 0, 0, 0, 0, 0, 0, 0, 0]) ∧
      (∀ g, a = some ⟨g, 0, none⟩ → 0 < xs.length → ∃ cur : List Value, wr.heap[g]? = some (.cells cur.toArray 28 (0, 0)) ∧ xs.length * 17 ≤ cur.length))
    (fun vi _ => xs.length - (intOf vi).toNat)
  case atStart =>
    refine ⟨0, by omega, rfl, (Touch.refl _ _).alloc _, by simp, range_new w (adr false [0, 0, 0, 0, 0, 0, 0, 0, 0, 0, 0, 0, 0, 0, 0, 0]) 28, fun g hg hx => ?_⟩
    subst hg
    rcases hv.row.2 with ⟨h1, _⟩ | ⟨g', cap, cur, h1, _, h2, h3, h4, h5, h6⟩
    · simp at h1
    · simp at h1
      obtain ⟨rfl, rfl⟩ := h1
      have hgl := (hv.lt g rfl)
      refine ⟨cur.toList, by rw [Below.heap_alloc _ _ _ hgl, h2], by simp [h5]; omega⟩
  case round =>
    obtain ⟨k, hk, rfl, ht, hz, hrz, hcur⟩ := hrel
    by_cases hlt : k < xs.length
    · obtain ⟨a', c', h1, _, _, h3⟩ := owns_form hv.row
      simp only [Value.slice.injEq] at h1
      obtain ⟨rfl, _, rfl⟩ := h1
      obtain ⟨g, rfl⟩ := h3 (by omega)
      obtain ⟨cur, hg, hcl⟩ := hcur g rfl (by omega)
      have hgw := hv.lt g rfl
      have hz17 := adr_one false [0, 0, 0, 0, 0, 0, 0, 0, 0, 0, 0, 0, 0, 0, 0, 0]
      have hzl : (adr false [0, 0, 0, 0, 0, 0, 0, 0, 0, 0, 0, 0, 0, 0, 0, 0]).length = 17 := rfl
      generalize adr false [0, 0, 0, 0, 0, 0, 0, 0, 0, 0, 0, 0, 0, 0, 0, 0] = z at *
      have HZ := Lib.hid hzl
      clear hzl hcur h3
      have hbd : k * 17 + 17 ≤ cur.length := by omega
      go_wp2_with (first
        | (refine wpList_load_mid rfl 28 _ rfl w.heap.size 0 rfl z _ hrz Tryd.underlying28 rfl (by rw [size31, HZ.out]) ?_)
        | (refine wpList_store_part rfl 28 _ _ rfl g (k * 17) 28 cur z rfl rfl hg (by rw [HZ.out]; exact hbd) (by rw [size31, HZ.out]) hz17 ?_))
      intro w2 hg2 t2 s2
      have HZ2 := HZ.out
      have hn : w.heap.size ∉ [g] := by simp; omega
      have rel2 : Touch ((Value.slice (some ⟨g, 0, none⟩) xs.length c).ownBlock).toList w w2 := ht.trans t2 (by intro x hx; left; simpa [Value.ownBlock] using hx)
      have rz2 := t2.range hrz hn
      go_wp2_with fail
      go_roundw
      case rel =>
        refine ⟨k + 1, by omega, by go_num, rel2, by omega, rz2, fun g' hg' _ => ?_⟩
        cases hg'
        refine ⟨_, hg2, ?_⟩
        simp [HZ2]
        omega
      case measure => simp [intOf]; omega
    · go_wp2_with fail
      go_end0
      exact ⟨rfl, ht⟩

set_option maxRecDepth 100000 in
set_option maxHeartbeats 1000000 in
theorem unchanged_any (g b2 : Nat) (v2 : Value) (xs : List (List Value)) (f : List Value) (w : World) (hl : xs.length ≤ 100) (hd : Rd w 17 g (.slice (some ⟨g, 0, none⟩) (xs.length + 3) (xs.length + 3)) (xs ++ [f, f, f])) (h2 : Rd w 17 b2 v2 xs)
    (hxs : ∀ x ∈ xs, IsAd x) (hf : IsAd f) :
    Calls Tryd.prog 19 #[.slice (some ⟨g, 0, none⟩) xs.length (xs.length + 3), v2, .agg f.toArray] w fun e w' => e = .returned (.bool true) ∧ Touch [] w w' := by
  obtain ⟨a, cap, rfl, hlc, hcm⟩ := h2.form
  have hcm2 : cap ≤ 9223372036854775807 := by unfold maxLen at hcm; omega
  have d1 : Rd w 17 g (.slice (some ⟨g, 0, none⟩) xs.length (xs.length + 3)) xs := by
    have := hd.take xs.length (by simp)
    rw [List.take_left' rfl] at this
    exact this
  have tA := (Touch.refl [] w).alloc (.cells f.toArray 28)
  have hr := range_new w f 28
  have HL := Lib.hid hf.len
  go_enter Tryd.func19, Tryd.ntmps19
  go_wp2_with fail
  refine (equal_self _ _ g b2 xs _ (by omega) (d1.touch tA (by simp)) (h2.touch tA (by simp)) hxs).mono ?_
  rintro e w1 ⟨rfl, t1⟩
  have tB := tA.trans t1 (by simp)
  have hr1 := t1.range hr (by simp)
  have hd1 := hd.touch tB (by simp)
  clear hr hd d1 h2 t1 tA
  obtain ⟨off, h1, hat⟩ := hd1.at (by simp)
  simp at h1
  obtain rfl := h1
  have HAT := Lib.hid hat
  clear hat hd1
  go_wp2_with fail
  go_loopw [8] (fun vi wr => ∃ (j : Nat), j ≤ 3 ∧ vi = .int .i64 (xs.length + j : Nat) ∧ Touch [] w1 wr) (fun vi _ => xs.length + 3 - (intOf vi).toNat)
  case atStart => exact ⟨0, by omega, by simp, Touch.refl _ _⟩
  case round =>
    obtain ⟨j, hj, rfl, ht⟩ := hrel
    by_cases hlt : j < 3
    · have hx : (xs ++ [f, f, f])[xs.length + j]? = some f := by
        rw [List.getElem?_append_right (by omega), Nat.add_sub_cancel_left]
        match j, hlt with
        | 0, _ | 1, _ | 2, _ => rfl
      have hq := ht.range (HAT.out _ f hx) (by simp)
      simp only [Nat.zero_add] at hq
      have hq2 := ht.range hr1 (by simp)
      clear hx
      generalize hN : xs.length + j = N at *
      have HN := Lib.hid hN
      have hN1 : N < xs.length + 3 := by omega
      have hN2 : N ≤ 103 := by omega
      clear hN
      go_wp2_with fail
      refine wp_region_still_tail 5 (by kernel_rfl) (by kernel_rfl) ?_
      simp only [List.take_succ_cons, List.take_zero, List.drop_succ_cons, List.drop_zero]
      iterate 3 still_step
      refine wpStill_load_mid rfl 28 _ rfl g (N * 17) rfl f _ hq Tryd.underlying28 rfl (by rw [size31, HL.out]) ?_
      refine wpStill_load_mid rfl 28 _ rfl w.heap.size 0 rfl f _ hq2 Tryd.underlying28 rfl (by rw [size31, HL.out]) ?_
      refine wpStill_nil ?_
      change wpList _ _ _ _ _ wr.drew
      go_wp2_with (refine wpList_neq_agg rfl 28 _ _ _ rfl f.toArray f.toArray rfl rfl (by kernel_rfl) true (eq_self f hf _) ?_)
      have hN3 := HN.out
      go_roundw
      case rel => exact ⟨j + 1, by omega, by rw [← Nat.add_assoc, hN3]; go_num, ht.drew⟩
      case measure => simp [intOf]; omega
    · go_wp2_with fail
      go_ret
      exact ⟨rfl, tB.trans ht (by simp)⟩
end Go.Proofs.YtecaakgpogabjaaDoor

/-
  A slice cut from an index on, taken first in a region that draws. Plain lemmas over any program.
-/
namespace Go.Proofs.YtecaakgpogabjaaDoor
open Go.RowKit
set_option linter.unusedVariables false
set_option linter.unusedSimpArgs false
theorem yieldsIf_from {P : Program} {ops : Array Oper} {S : World → Prop} {op : Oper} {a : Act} (hw : Region.wanted op (yielded ops a.tmps) = true) (t : TypeId) (x lo : Operand) (ho : op.op = .slice t x (some lo) none none)
    (e : TypeId) (s : Nat) (ht : P.underlying t = some (.slice e)) (hs : (P.info? e).map (·.size) = some s) (b : Option Addr) (k c n : Nat) (hx : a.eval x = .slice b k c) (hlo : a.eval lo = .int .i64 n) (hn : n ≤ k) : YieldsIf P ops S op (cutv b k c n s) a :=
  .inl ⟨hw, fun w _ => by
    unfold execOp
    simp only [ho, hx, hlo, Option.map_some, Option.map_none, Sem.run_bind, Sem.run_pure, Result.andThen_ok, run_from w t e s ht hs b k c n hn]⟩
end Go.Proofs.YtecaakgpogabjaaDoor

/-
  A region that draws its order and whose last operations write what its loads read: the set S of worlds is asked till one of the operations F has come, each of which waits for every load. Plain lemmas over any program.
-/
namespace Go.Proofs.YtecaakgpogabjaaDoor
open Go.RowKit
set_option linter.unusedVariables false
set_option linter.unusedSimpArgs false
section
variable {P : Program} {ops : Array Oper} {Q : Exit → Act → World → Prop} {md : Region.Mode} {S : World → Prop} {F : List Nat}

def wpAnyF (P : Program) (md : Region.Mode) (ops : Array Oper) (Q : Exit → Act → World → Prop) (S : World → Prop) (F : List Nat) : Nat → Array Bool → Act → World → Prop
  | 0, listed, a, w => Region.ready md ops listed = [] ∧ Q .normal a w
  | fuel + 1, listed, a, w =>
    (Region.ready md ops listed = [] → Q .normal a w) ∧
    ∀ i ∈ Region.ready md ops listed, wpOp P ops Q i (fun a' w' => (i ∉ F → S w') ∧ wpAnyF P md ops Q S F fuel (listed.setIfInBounds i true) a' w') a w
theorem wpAny_of_F : ∀ (fuel : Nat) (listed : Array Bool) (a : Act) (w : World), wpAnyF P md ops Q S F fuel listed a w → wpAny P md ops Q fuel listed a w
  | 0, _, _, _, h => h
  | fuel + 1, _, _, _, h => ⟨h.1, fun i hi => wpOp_mono (fun a' w' h' => wpAny_of_F fuel _ a' w' h'.2) (h.2 i hi)⟩
/-- Each operation that has come has been waited for. -/
def Closed (md : Region.Mode) (ops : Array Oper) (listed : Array Bool) : Prop :=
  ∀ k ok, ops[k]? = some ok → listed.getD k true = true → k < listed.size → ∀ e ∈ ok.after, Region.binds md e = true → listed.getD e.on false = true
theorem getD_set_true (l : Array Bool) (i j : Nat) (h : l.getD j false = true) : (l.setIfInBounds i true).getD j false = true := by
  simp only [Array.getD_eq_getD_getElem?, Array.getElem?_setIfInBounds] at *
  split
  · split <;> simp_all
  · exact h
theorem Closed.step {listed : Array Bool} (h : Closed md ops listed) {j : Nat} (hj : j ∈ Region.ready md ops listed) : Closed md ops (listed.setIfInBounds j true) := by
  intro k ok hk hl hs e he hb
  refine getD_set_true _ _ _ ?_
  by_cases hkj : j = k
  · subst hkj
    obtain ⟨_, oj, hoj, hall⟩ := mem_ready.1 hj
    rw [hk] at hoj
    cases hoj
    exact hall e he hb
  · refine h k ok hk ?_ (by simpa using hs) e he hb
    rw [getD_set_ne true hkj] at hl
    exact hl
theorem wpAnyF_first {i : Nat} {oi : Oper} {v : Value} (hi : ops[i]? = some oi) (hsel : ∀ (j : Nat) (o : Oper) cs b, ops[j]? = some o → o.op ≠ .select cs b)
    (hQ : ∀ c a w, Q (.panic c) (a.put oi.dst v) w → Q (.panic c) a w) (hF : ∀ j ∈ F, ∀ oj, ops[j]? = some oj → ∃ e ∈ oj.after, Region.binds md e = true ∧ (e.on = i ∨ ∃ o2, ops[e.on]? = some o2 ∧ ∃ e2 ∈ o2.after, Region.binds md e2 = true ∧ e2.on = i)) :
    ∀ (fuel : Nat) (listed : Array Bool) (a : Act) (w : World), Closed md ops listed → 
      (∀ j oj, ops[j]? = some oj → j ≠ i → listed.getD j true = false → (∀ e ∈ oj.after, Region.binds md e = true → e.on ≠ i) → oi.apart ops oj = true) →
      i ∈ Region.ready md ops listed → YieldsIf P ops S oi v a → S w →
      wpAnyF P md ops Q S F fuel (listed.setIfInBounds i true) (a.put oi.dst v) w → wpAnyF P md ops Q S F (fuel + 1) listed a w := by
  intro fuel
  induction fuel with
  | zero =>
    intro listed a w _ _ hr hy hS H
    refine ⟨fun h => (by rw [h] at hr; cases hr), fun j hj => ?_⟩
    by_cases hji : j = i
    · subst hji
      exact hy.wpOp hi hS ⟨fun _ => hS, H⟩
    · have := ready_mono hj hji
      rw [H.1] at this
      cases this
  | succ fuel ih =>
    intro listed a w hcl hfree hr hy hS H
    refine ⟨fun h => (by rw [h] at hr; cases hr), fun j hj => ?_⟩
    by_cases hji : j = i
    · subst hji
      exact hy.wpOp hi hS ⟨fun _ => hS, H⟩
    · have h1 := H.2 j (ready_mono hj hji)
      obtain ⟨hjun, oj, hoj, hall⟩ := mem_ready.1 hj
      have hnot : ∀ e ∈ oj.after, Region.binds md e = true → e.on ≠ i := fun e he hb heq => by
        have h1 := hall e he hb
        have h0 := (mem_ready.1 hr).1
        rw [heq] at h1
        rcases Nat.lt_or_ge i listed.size with h' | h'
        · simp [h'] at h0 h1
          rw [h0] at h1
          cases h1
        · simp [Array.getElem?_eq_none h'] at h1
      have hjF : j ∉ F := fun hm => by
        obtain ⟨e, he, hb, hon | ⟨o2, ho2, e2, he2, hb2, hon⟩⟩ := hF j hm oj hoj
        · exact hnot e he hb hon
        · have h1 := hall e he hb
          have hs : e.on < listed.size := by
            rcases Nat.lt_or_ge e.on listed.size with h' | h'
            · exact h'
            · simp [Array.getElem?_eq_none h'] at h1
          have h2 : listed.getD e.on true = true := by
            simp [hs] at h1 ⊢
            exact h1
          have h3 := hcl e.on o2 ho2 h2 hs e2 he2 hb2
          have h0 := (mem_ready.1 hr).1
          rw [hon] at h3
          rcases Nat.lt_or_ge i listed.size with h' | h'
          · simp [h'] at h0 h3
            rw [h0] at h3
            cases h3
          · simp [Array.getElem?_eq_none h'] at h3
      have h2 := wpOp_putIf hoj (hfree j oj hoj hji hjun hnot) (fun cs b => hsel i oi cs b hi) (fun cs b => hsel j oj cs b hoj) hQ hy h1
      have hfree' : ∀ k ok, ops[k]? = some ok → k ≠ i → (listed.setIfInBounds j true).getD k true = false →
          (∀ e ∈ ok.after, Region.binds md e = true → e.on ≠ i) → oi.apart ops ok = true := fun k ok hk hki hun hno => by
        refine hfree k ok hk hki ?_ hno
        by_cases hjk : j = k
        · subst hjk
          exact hjun
        · rw [getD_set_ne true hjk] at hun
          exact hun
      refine wpOp_mono (fun a' w' h3 => ⟨fun _ => h3.2.1 hjF, ih (listed.setIfInBounds j true) a' w' (hcl.step hj) hfree' (ready_mono hr (Ne.symm hji)) h3.1 (h3.2.1 hjF) ?_⟩) h2
      rw [Array.setIfInBounds_comm _ _ hji]
      exact h3.2.2
/-- Whether each of F waits for i. -/
def waits (md : Region.Mode) (ops : Array Oper) (F : List Nat) (i : Nat) : Bool :=
  F.all fun j => match ops[j]? with
    | some o => o.after.toList.any fun e => Region.binds md e && (e.on == i || match ops[e.on]? with
      | some o2 => o2.after.toList.any fun e2 => Region.binds md e2 && e2.on == i
      | none => false)
    | none => true
def closed (md : Region.Mode) (ops : Array Oper) (listed : Array Bool) : Bool :=
  (List.range listed.size).all fun k => !listed.getD k true || match ops[k]? with
    | some o => o.after.toList.all fun e => !Region.binds md e || listed.getD e.on false
    | none => true
theorem closed_spec {listed : Array Bool} (h : closed md ops listed = true) : Closed md ops listed := by
  intro k ok hk hl hs e he hb
  have := List.all_eq_true.1 h k (by simpa using hs)
  rw [hl, hk] at this
  simp only [Bool.not_true, Bool.false_or] at this
  have := List.all_eq_true.1 this e (by simpa using he)
  rw [hb] at this
  simpa using this
theorem wpAnyF_take {i : Nat} {oi : Oper} {v : Value} {fuel : Nat} {listed : Array Bool} {a : Act} {w : World} (hi : ops[i]? = some oi)
    (hs : Region.noSelect ops = true) (hf : Region.free md ops listed i = true) (hr : (Region.ready md ops listed).contains i = true) (hw : waits md ops F i = true) (hc : closed md ops listed = true)
    (hQ : ∀ c a w, Q (.panic c) (a.put oi.dst v) w → Q (.panic c) a w) (hy : YieldsIf P ops S oi v a) (hS : S w)
    (h : wpAnyF P md ops Q S F fuel (listed.setIfInBounds i true) (a.put oi.dst v) w) : wpAnyF P md ops Q S F (fuel + 1) listed a w := by
  refine wpAnyF_first hi (Region.noSelect_spec hs) hQ ?_ fuel listed a w (closed_spec hc) (Region.free_spec hi hf) (by simpa using hr) hy hS h
  intro j hj oj hoj
  have := List.all_eq_true.1 hw j hj
  rw [hoj] at this
  obtain ⟨e, he, h1⟩ := List.any_eq_true.1 this
  simp only [Bool.and_eq_true, Bool.or_eq_true, beq_iff_eq] at h1
  refine ⟨e, by simpa using he, h1.1, ?_⟩
  rcases h1.2 with h2 | h2
  · exact .inl h2
  · cases ho : ops[e.on]? with
    | none => rw [ho] at h2; cases h2
    | some o2 =>
      rw [ho] at h2
      obtain ⟨e2, he2, h3⟩ := List.any_eq_true.1 h2
      simp only [Bool.and_eq_true, beq_iff_eq] at h3
      exact .inr ⟨o2, rfl, e2, by simpa using he2, h3.1, h3.2⟩
theorem wpAnyF_done {listed : Array Bool} {a : Act} {w : World} (hr : Region.ready md ops listed = []) (h : Q .normal a w) :
    ∀ fuel, wpAnyF P md ops Q S F fuel listed a w
  | 0 => ⟨hr, h⟩
  | _ + 1 => ⟨fun _ => h, by rw [hr]; simp⟩
def AllReadyF (P : Program) (md : Region.Mode) (ops : Array Oper) (Q : Exit → Act → World → Prop) (S : World → Prop) (F : List Nat) (fuel : Nat) (listed : Array Bool) (a : Act) (w : World) (rs : List Nat) : Prop :=
  ∀ i ∈ rs, wpOp P ops Q i (fun a' w' => (i ∉ F → S w') ∧ wpAnyF P md ops Q S F fuel (listed.setIfInBounds i true) a' w') a w
theorem AllReadyF.nil {fuel : Nat} {listed : Array Bool} {a : Act} {w : World} : AllReadyF P md ops Q S F fuel listed a w [] := fun _ h => by cases h
theorem AllReadyF.cons {fuel : Nat} {listed : Array Bool} {a : Act} {w : World} {i : Nat} {o : Oper} {rs : List Nat} (ho : ops[i]? = some o)
    (h : ∀ K' : Act → World → Prop, Shut (∀ a w, S w → (S w → wpAnyF P md ops Q S F fuel (listed.setIfInBounds i true) a w) → K' a w) → if Region.wanted o (yielded ops a.tmps) = true then Oper.wp P o a w K' Q else K' (a.put o.dst undef) w)
    (hs : AllReadyF P md ops Q S F fuel listed a w rs) : AllReadyF P md ops Q S F fuel listed a w (i :: rs) := fun j hj => by
  rcases List.mem_cons.1 hj with rfl | hj
  · exact wpOp_step ho (fun K' hK => h K' (fun a w hS hW => hK a w ⟨fun _ => hS, hW hS⟩))
  · exact hs j hj
theorem AllReadyF.last {fuel : Nat} {listed : Array Bool} {a : Act} {w : World} {i : Nat} {o : Oper} {rs : List Nat} (ho : ops[i]? = some o) (hF : i ∈ F)
    (h : ∀ K' : Act → World → Prop, Shut (∀ a w, (wpAnyF P md ops Q S F fuel (listed.setIfInBounds i true) a w) → K' a w) → if Region.wanted o (yielded ops a.tmps) = true then Oper.wp P o a w K' Q else K' (a.put o.dst undef) w)
    (hs : AllReadyF P md ops Q S F fuel listed a w rs) : AllReadyF P md ops Q S F fuel listed a w (i :: rs) := fun j hj => by
  rcases List.mem_cons.1 hj with rfl | hj
  · exact wpOp_step ho (fun K' hK => h K' (fun a w hW => hK a w ⟨fun hn => absurd hF hn, hW⟩))
  · exact hs j hj
theorem wpAnyF_ready {rs : List Nat} {fuel : Nat} {listed : Array Bool} {a : Act} {w : World} (hr : Region.ready md ops listed = rs) (hne : rs ≠ [])
    (h : AllReadyF P md ops Q S F fuel listed a w rs) : wpAnyF P md ops Q S F (fuel + 1) listed a w :=
  ⟨fun h0 => absurd (hr ▸ h0) hne, hr ▸ h⟩
end
theorem wp_region_F {P : Program} {ops : Array Oper} {Q : Exit → Act → World → Prop} {S : World → Prop} (F : List Nat) {id : Nat} {a : Act} {w : World} (hm : P.follows .mixedOrders = true)
    (h : wpAnyF P .any ops Q S F ops.size (Array.replicate ops.size false) a { w with drawn := w.drawn + 1 }) : (Code.region id ops true).wp P Q a w :=
  wp_region_any hm (wpAny_of_F _ _ _ _ h)
end Go.Proofs.YtecaakgpogabjaaDoor

/-
  Merged texts: Aw.
-/
import Derived.Test.YtiklhaajhdephaaDoorGG
import Derived.Test.YtiklhaajhdephaaDoorGB

/-
  The laws' sanity check answers true.
-/
namespace Go.Proofs.YtiklhaajhdephaaDoor
open Go.RowKit
set_option linter.unusedVariables false
set_option linter.unusedSimpArgs false

theorem Rd.new (w : World) (xs : List (List Value)) (h : ∀ x ∈ xs, IsAd x) (hl : xs.length ≤ 1000) (T : TypeId) : Rd (w.alloc (.cells xs.flatten.toArray T)) 17 w.heap.size (.slice (some ⟨w.heap.size, 0, none⟩) xs.length xs.length) xs := by
  refine ⟨_, _, rfl, Nat.le_refl _, by unfold maxLen; omega, (fun e => by cases e), fun hne => ⟨0, rfl, fun i x hx j v hv => ?_⟩⟩
  have := range_new w xs.flatten T (i * 17 + j) v (flat_get (ads_len h) hx hv)
  simpa [Nat.add_assoc] using this
theorem step_guard {P : Program} {ops : Array Oper} {o : Oper} {a : Act} {w : World} {K : Act → World → Prop} {Q : Exit → Act → World → Prop} {E : Prop} (hw : Region.wanted o (yielded ops a.tmps) = true)
    (h : wpList P ops (fun e a w => e = .normal ∧ K a w) [{ o with guard := none }] a w) : if Region.wanted o (yielded ops a.tmps) = true then Oper.wp P o a w K Q else E := by
  rw [if_pos hw]
  have := step_of_list (Q := Q) (E := True) (o := { o with guard := none }) rfl h
  rw [if_pos (by simp [Region.wanted])] at this
  exact this

def adA : Ad := ⟨false, [1, 2, 3, 4, 0, 0, 0, 0, 0, 0, 0, 0, 0, 0, 0, 0], okB_dec (by decide)⟩
def adB : Ad := ⟨true, [32, 1, 13, 184, 0, 0, 0, 0, 0, 0, 0, 0, 0, 0, 0, 0], okB_dec (by decide)⟩
def adC : Ad := ⟨true, onev6, okB_dec (by decide)⟩
theorem ads_key_inj : ∀ {l m : List Ad}, l.map Ad.key = m.map Ad.key → l = m
  | [], [], _ => rfl
  | [], b :: m, h => by simp at h
  | a :: l, [], h => by simp at h
  | a :: l, b :: m, h => by
    simp only [List.map_cons, List.cons.injEq] at h
    rw [Ad.key_inj h.1, ads_key_inj h.2]
set_option maxRecDepth 100000 in
theorem srtABC : sortP [adA, adB, adC] = [adC, adB, adA] := ads_key_inj (by decide)
set_option maxRecDepth 100000 in
theorem dedABA : dedP [adA, adB, adA] = [adA, adB] := ads_key_inj (by decide)
set_option maxRecDepth 100000 in
theorem lessCA : lessP adC.b adC.xs adA.b adA.xs = true := by decide
set_option maxRecDepth 100000 in
theorem lessAB : lessP adA.b adA.xs adB.b adB.xs = false := by decide
set_option maxRecDepth 100000 in
set_option maxHeartbeats 1000000 in
theorem addr6 (w : World) : Calls Tryd.prog 51 #[.int .i64 6] w fun e w' => e = .returned (.agg adB.cells.toArray) ∧ Touch [] w w' := by
  go_enter Tryd.func51, Tryd.ntmps51
  go_wp2_with fail
  refine (mod_any _ _ _ (by omega) (by omega)).mono ?_
  rintro e w' ⟨rfl, rfl⟩
  rw [show gmod 6 14 = 6 by decide]
  go_wp2_with (refine wpList_store_new rfl 28 _ _ rfl _ _ _ rfl rfl rfl size31 (by simp [Value.oneCell']) ?_)
  exact ret_adr rfl (cs := adB.cells) rfl rfl (heap_alloc_new w _) ⟨rfl, (Touch.refl _ _).alloc _⟩
set_option maxRecDepth 100000 in
set_option maxHeartbeats 8000000 in
theorem awake_ok (w : World) : Calls Tryd.prog 13 #[] w fun e w' => e = .returned (.bool true) ∧ Touch [] w w' := by
  obtain ⟨iA, hiA, hzA, hsA, hbA⟩ := info_parts info28
  go_enter Tryd.func13, Tryd.ntmps13
  go_wp2_with fail
  refine (v4_any 1 2 3 4 _).mono ?_
  rintro e w1 ⟨rfl, t1⟩
  rw [show adr false [1, 2, 3, 4, 0, 0, 0, 0, 0, 0, 0, 0, 0, 0, 0, 0] = adA.cells from rfl]
  go_wp2_with fail
  refine (addr6 _).mono ?_
  rintro e w2 ⟨rfl, t2⟩
  have T2 := Lib.hid (t1.trans t2 (by simp))
  obtain ⟨q0, q1, q2, q3⟩ := three w2 (.cells (adr false (List.replicate 16 0)).toArray 28) (.cells (adr false (List.replicate 16 0)).toArray 28) (.cells (adr false (List.replicate 16 0)).toArray 28)
  have HQ0 := Lib.hid q0
  have HQ1 := Lib.hid q1
  have HQ2 := Lib.hid q2
  have HQ3 := Lib.hid q3
  have HA17 := Lib.hid adA.len
  have HB17 := Lib.hid adB.len
  have HC17 := Lib.hid adC.len
  obtain ⟨cA, hcA⟩ : ∃ c, c = adA.cells := ⟨_, rfl⟩
  obtain ⟨cB, hcB⟩ : ∃ c, c = adB.cells := ⟨_, rfl⟩
  have H1A := Lib.hid adA.one
  have H1B := Lib.hid adB.one
  have HBO := Lib.hid (show Tryd.prog.built 28 [(0, .bool true), (1, .agg #[.int .u8 0, .int .u8 0, .int .u8 0, .int .u8 0, .int .u8 0, .int .u8 0, .int .u8 0, .int .u8 0, .int .u8 0, .int .u8 0, .int .u8 0, .int .u8 0, .int .u8 0, .int .u8 0, .int .u8 0, .int .u8 1])] = some adC.cells.toArray from built_one)
  rw [← hcA] at HA17 H1A ⊢
  rw [← hcB] at HB17 H1B ⊢
  have HCA := Lib.hid hcA
  have HCB := Lib.hid hcB
  clear t1 t2 q0 q1 q2 q3 hcA hcB
  go_wp2_with (first
    | ((with_reducible refine at_build 28 ?_); refine wpList_built (by rfl) 28 _ (by rfl) _ _ (by rfl) HBO.out ?_)
    | ((with_reducible refine at_store 28 ?_); refine wpList_store_into rfl 28 _ _ rfl w2.heap.size 28 _ cA rfl rfl HQ1.out (by rw [HA17.out]; rfl) (by rw [size31, HA17.out]) H1A.out ?_))
  intro w3 h3 t3 z3
  have R2 := Lib.hid (t3.at HQ2.out (by simp))
  have R3 := Lib.hid (t3.at HQ3.out (by simp <;> omega))
  have R1 := Lib.hid h3
  have T3 := Lib.hid (HQ0.out.trans t3 (by intro y hy; right; simp at hy; omega))
  clear h3 t3 z3 HQ0 HQ1 HQ2 HQ3
  go_wp2_with ((with_reducible refine at_store 28 ?_); refine wpList_store_into rfl 28 _ _ rfl (w2.heap.size + 1) 28 _ cB rfl rfl R2.out (by rw [HB17.out]; rfl) (by rw [size31, HB17.out]) H1B.out ?_)
  intro w4 h4 t4 z4
  have S1 := Lib.hid (t4.at R1.out (by simp))
  have S3 := Lib.hid (t4.at R3.out (by simp <;> omega))
  have S2 := Lib.hid h4
  have T4 := Lib.hid (T3.out.trans t4 (by intro y hy; right; simp at hy; omega))
  clear h4 t4 z4 R1 R2 R3 T3
  go_wp2_with ((with_reducible refine at_store 28 ?_); refine wpList_store_into rfl 28 _ _ rfl (w2.heap.size + 1 + 1) 28 _ adC.cells rfl rfl S3.out (by rw [HC17.out]; rfl) (by rw [size31, HC17.out]) adC.one ?_)
  intro w5 h5 t5 z5
  have q1 := t5.at S1.out (by simp <;> omega)
  have q2 := t5.at S2.out (by simp <;> omega)
  have q3 := h5
  have HT := Lib.hid ((T2.out.trans (T4.out.trans t5 (by intro y hy; right; simp at hy; omega)) (by simp)).drew)
  clear h5 t5 z5 S1 S2 S3 T4 T2
  go_wp2_with fail
  refine wp_region_held (S := Touch [] w5.drew) (by kernel_rfl) ?_
  change wpAnyH _ _ _ _ _ _ _ _ w5.drew
  have rA : w5.drew.rangeAt w2.heap.size 0 adA.cells := by rw [HCA.out] at q1; exact range_block (w := w5) q1
  have rB : w5.drew.rangeAt (w2.heap.size + 1) 0 adB.cells := by rw [HCB.out] at q2; exact range_block (w := w5) q2
  have rC : w5.drew.rangeAt (w2.heap.size + 1 + 1) 0 adC.cells := range_block (w := w5) q3
  rw [HCA.out, HCB.out]
  clear q1 q2 q3
  generalize w5.drew = W at *
  obtain ⟨g1, hg1⟩ : ∃ g, g = w2.heap.size := ⟨_, rfl⟩
  obtain ⟨g2, hg2⟩ : ∃ g, g = w2.heap.size + 1 := ⟨_, rfl⟩
  obtain ⟨g3, hg3⟩ : ∃ g, g = w2.heap.size + 1 + 1 := ⟨_, rfl⟩
  rw [← hg3] at rC ⊢
  rw [← hg2] at rB ⊢
  rw [← hg1] at rA ⊢
  clear hg1 hg2 hg3
  have hS := Touch.refl [] W
  refine wpAnyH_take (i := 0) (oi := { dst := some 8, op := Op.load 28 (Operand.tmp 1), type := 28, pos := "law.go:16", after := #[], guard := none }) (v := .agg adA.cells.toArray) rfl (by kernel_rfl) (by kernel_rfl) (by kernel_rfl) (fun _ _ _ h => h) (Or.inl ⟨by rfl, fun w' hw => exec_load_agg _ 28 _ rfl _ _ rfl adA.cells _ (hw.range rA (by simp)) Tryd.underlying28 rfl (by rw [size31, adA.len])⟩) hS ?_
  try simp only [Act.put, List.setIfInBounds_toArray, List.set_cons_zero, List.set_cons_succ]
  refine wpAnyH_take (i := 1) (oi := { dst := some 9, op := Op.load 28 (Operand.tmp 2), type := 28, pos := "law.go:16", after := #[], guard := none }) (v := .agg adB.cells.toArray) rfl (by kernel_rfl) (by kernel_rfl) (by kernel_rfl) (fun _ _ _ h => h) (Or.inl ⟨by rfl, fun w' hw => exec_load_agg _ 28 _ rfl _ _ rfl adB.cells _ (hw.range rB (by simp)) Tryd.underlying28 rfl (by rw [size31, adB.len])⟩) hS ?_
  try simp only [Act.put, List.setIfInBounds_toArray, List.set_cons_zero, List.set_cons_succ]
  refine wpAnyH_take (i := 2) (oi := { dst := some 10, op := Op.load 28 (Operand.tmp 3), type := 28, pos := "law.go:16", after := #[], guard := none }) (v := .agg adC.cells.toArray) rfl (by kernel_rfl) (by kernel_rfl) (by kernel_rfl) (fun _ _ _ h => h) (Or.inl ⟨by rfl, fun w' hw => exec_load_agg _ 28 _ rfl _ _ rfl adC.cells _ (hw.range rC (by simp)) Tryd.underlying28 rfl (by rw [size31, adC.len])⟩) hS ?_
  try simp only [Act.put, List.setIfInBounds_toArray, List.set_cons_zero, List.set_cons_succ]
  refine wpAnyH_take (i := 5) (oi := { dst := some 13, op := Op.load 28 (Operand.tmp 3), type := 28, pos := "law.go:16", after := #[], guard := none }) (v := .agg adC.cells.toArray) rfl (by kernel_rfl) (by kernel_rfl) (by kernel_rfl) (fun _ _ _ h => h) (Or.inl ⟨by rfl, fun w' hw => exec_load_agg _ 28 _ rfl _ _ rfl adC.cells _ (hw.range rC (by simp)) Tryd.underlying28 rfl (by rw [size31, adC.len])⟩) hS ?_
  try simp only [Act.put, List.setIfInBounds_toArray, List.set_cons_zero, List.set_cons_succ]
  refine wpAnyH_take (i := 6) (oi := { dst := some 14, op := Op.load 28 (Operand.tmp 2), type := 28, pos := "law.go:16", after := #[], guard := none }) (v := .agg adB.cells.toArray) rfl (by kernel_rfl) (by kernel_rfl) (by kernel_rfl) (fun _ _ _ h => h) (Or.inl ⟨by rfl, fun w' hw => exec_load_agg _ 28 _ rfl _ _ rfl adB.cells _ (hw.range rB (by simp)) Tryd.underlying28 rfl (by rw [size31, adB.len])⟩) hS ?_
  try simp only [Act.put, List.setIfInBounds_toArray, List.set_cons_zero, List.set_cons_succ]
  refine wpAnyH_take (i := 7) (oi := { dst := some 15, op := Op.load 28 (Operand.tmp 1), type := 28, pos := "law.go:16", after := #[], guard := none }) (v := .agg adA.cells.toArray) rfl (by kernel_rfl) (by kernel_rfl) (by kernel_rfl) (fun _ _ _ h => h) (Or.inl ⟨by rfl, fun w' hw => exec_load_agg _ 28 _ rfl _ _ rfl adA.cells _ (hw.range rA (by simp)) Tryd.underlying28 rfl (by rw [size31, adA.len])⟩) hS ?_
  try simp only [Act.put, List.setIfInBounds_toArray, List.set_cons_zero, List.set_cons_succ]
  refine wpAnyH_ready (rs := [3, 8]) (by kernel_rfl) (by simp) ?_
  refine AllReadyH.cons (o := { dst := some 11, op := Op.buildSlice 22 3 #[(0, Operand.tmp 8), (1, Operand.tmp 9), (2, Operand.tmp 10)], type := 22, pos := "law.go:16", after := #[{ on := 0, ground := Ground.data }, { on := 1, ground := Ground.data }, { on := 2, ground := Ground.data }], guard := none }) rfl (fun K hK => ?_) (AllReadyH.cons (o := { dst := some 16, op := Op.buildSlice 22 3 #[(0, Operand.tmp 13), (1, Operand.tmp 14), (2, Operand.tmp 15)], type := 22, pos := "law.go:16", after := #[{ on := 5, ground := Ground.data }, { on := 6, ground := Ground.data }, { on := 7, ground := Ground.data }], guard := none }) rfl (fun K hK => ?_) AllReadyH.nil)
  · refine step_of_list rfl ?_
    refine wpList_buildSlice_rows rfl 22 3 _ rfl 28 17 iA _ Tryd.underlying22 hiA hzA hsA (by omega) [adA.cells, adB.cells, adC.cells] rfl (by intro x hx; simp at hx; rcases hx with rfl | rfl | rfl <;> exact Ad.len _) (by omega) (by rfl) ?_
    obtain ⟨w3, hw3⟩ : ∃ x, x = W.alloc (.cells [adA.cells, adB.cells, adC.cells].flatten.toArray 28) := ⟨_, rfl⟩
    have t3 : Touch [] W w3 := by rw [hw3]; exact (Touch.refl [] W).alloc _
    have h11 : Rd w3 17 W.heap.size (.slice (some ⟨W.heap.size, 0, none⟩) 3 3) ([adA, adB, adC].map Ad.cells) := by rw [hw3]; exact Rd.new W _ (by intro x hx; simp at hx; rcases hx with rfl | rfl | rfl <;> exact Ad.is _) (by simp) _
    rw [← hw3]
    clear hw3
    have hS2 := hS.trans t3 (by simp)
    refine ⟨rfl, hK.out _ _ hS2 (fun _ => ?_)⟩
    clear hK K hS t3
    have hS := hS2
    clear hS2
    try simp only [Act.put, List.setIfInBounds_toArray, List.set_cons_zero, List.set_cons_succ]
    refine wpAnyH_ready (rs := [4, 8]) (by kernel_rfl) (by simp) ?_
    refine AllReadyH.cons (o := { dst := some 12, op := Op.call { callee := Callee.value (Operand.func 15), args := #[Operand.tmp 11], argTypes := #[22] }, type := 22, pos := "law.go:16", after := #[{ on := 3, ground := Ground.data }], guard := none }) rfl (fun K hK => ?_) (AllReadyH.cons (o := { dst := some 16, op := Op.buildSlice 22 3 #[(0, Operand.tmp 13), (1, Operand.tmp 14), (2, Operand.tmp 15)], type := 22, pos := "law.go:16", after := #[{ on := 5, ground := Ground.data }, { on := 6, ground := Ground.data }, { on := 7, ground := Ground.data }], guard := none }) rfl (fun K hK => ?_) AllReadyH.nil)
    · go_simp
      refine (sort_any _ _ [adA, adB, adC] _ h11 (by simp)).mono ?_
      rintro e w4 ⟨v12, rfl, h12, t4⟩
      rw [srtABC] at h12
      obtain ⟨a12, c12, rfl, _, _, hg12⟩ := h12.form
      obtain ⟨g12, rfl⟩ := hg12 (by simp)
      have h12x : Rd w4 17 g12 (.slice (some ⟨g12, 0, none⟩) 3 c12) ([adC, adB, adA].map Ad.cells) := Rd.of_owns (ads_len17 _) h12.row (by intro b hb; simpa [Value.ownBlock] using hb.symm)
      clear h12
      have hS2 := hS.trans t4 (by simp)
      refine hK.out _ _ hS2 (fun _ => ?_)
      clear hK K hS t4
      have hS := hS2
      clear hS2
      try simp only [Act.put, List.setIfInBounds_toArray, List.set_cons_zero, List.set_cons_succ]
      refine wpAnyH_ready (rs := [8]) (by kernel_rfl) (by simp) ?_
      refine AllReadyH.cons (o := { dst := some 16, op := Op.buildSlice 22 3 #[(0, Operand.tmp 13), (1, Operand.tmp 14), (2, Operand.tmp 15)], type := 22, pos := "law.go:16", after := #[{ on := 5, ground := Ground.data }, { on := 6, ground := Ground.data }, { on := 7, ground := Ground.data }], guard := none }) rfl (fun K hK => ?_) AllReadyH.nil
      refine step_of_list rfl ?_
      refine wpList_buildSlice_rows rfl 22 3 _ rfl 28 17 iA _ Tryd.underlying22 hiA hzA hsA (by omega) [adC.cells, adB.cells, adA.cells] rfl (by intro x hx; simp at hx; rcases hx with rfl | rfl | rfl <;> exact Ad.len _) (by omega) (by rfl) ?_
      obtain ⟨w8, hw8⟩ : ∃ x, x = w4.alloc (.cells [adC.cells, adB.cells, adA.cells].flatten.toArray 28) := ⟨_, rfl⟩
      have t8 : Touch [] w4 w8 := by rw [hw8]; exact (Touch.refl [] w4).alloc _
      have h16 : Rd w8 17 w4.heap.size (.slice (some ⟨w4.heap.size, 0, none⟩) 3 3) ([adC, adB, adA].map Ad.cells) := by rw [hw8]; exact Rd.new w4 _ (by intro x hx; simp at hx; rcases hx with rfl | rfl | rfl <;> exact Ad.is _) (by simp) _
      rw [← hw8]
      clear hw8
      have h12x := Rd.touch t8 h12x (by simp)
      have hS2 := hS.trans t8 (by simp)
      refine ⟨rfl, hK.out _ _ hS2 (fun _ => ?_)⟩
      clear hK K hS t8
      have hS := hS2
      clear hS2
      try simp only [Act.put, List.setIfInBounds_toArray, List.set_cons_zero, List.set_cons_succ]
      refine wpAnyH_ready (rs := [9]) (by kernel_rfl) (by simp) ?_
      refine AllReadyH.cons (o := { dst := some 17, op := Op.call { callee := Callee.value (Operand.func 14), args := #[Operand.tmp 12, Operand.tmp 16], argTypes := #[22, 22] }, type := 4, pos := "law.go:16", after := #[{ on := 4, ground := Ground.data }, { on := 8, ground := Ground.data }, { on := 4, ground := Ground.chain }], guard := none }) rfl (fun K hK => ?_) AllReadyH.nil
      go_simp
      refine (equal_self _ _ _ _ ([adC, adB, adA].map Ad.cells) _ (by simp) h12x h16 (by intro x hx; simp at hx; rcases hx with rfl | rfl | rfl <;> exact Ad.is _)).mono ?_
      rintro e w9 ⟨rfl, t9⟩
      have hS2 := hS.trans t9 (by simp)
      refine hK.out _ _ hS2 (fun _ => ?_)
      clear hK K hS t9
      have hS := hS2
      clear hS2
      try simp only [Act.put, List.setIfInBounds_toArray, List.set_cons_zero, List.set_cons_succ]
      refine wpAnyH_take (i := 10) (oi := { dst := some 18, op := Op.move (Operand.tmp 17), type := 4, pos := "law.go:16", after := #[{ on := 9, ground := Ground.data }, { on := 9, ground := Ground.chain }], guard := none }) (v := .bool true) rfl (by kernel_rfl) (by kernel_rfl) (by kernel_rfl) (fun _ _ _ h => h) (Or.inl ⟨by rfl, fun w' hw => by go_simp⟩) hS ?_
      try simp only [Act.put, List.setIfInBounds_toArray, List.set_cons_zero, List.set_cons_succ]
      refine wpAnyH_take (i := 11) (oi := { dst := some 19, op := Op.load 28 (Operand.tmp 3), type := 28, pos := "law.go:16", after := #[{ on := 10, ground := Ground.guard }], guard := some (10, true) }) (v := .agg adC.cells.toArray) rfl (by kernel_rfl) (by kernel_rfl) (by kernel_rfl) (fun _ _ _ h => h) (Or.inl ⟨by rfl, fun w' hw => exec_load_agg _ 28 _ rfl _ _ rfl adC.cells _ (hw.range rC (by simp)) Tryd.underlying28 rfl (by rw [size31, adC.len])⟩) hS ?_
      try simp only [Act.put, List.setIfInBounds_toArray, List.set_cons_zero, List.set_cons_succ]
      refine wpAnyH_take (i := 12) (oi := { dst := some 20, op := Op.load 28 (Operand.tmp 1), type := 28, pos := "law.go:16", after := #[{ on := 10, ground := Ground.guard }], guard := some (10, true) }) (v := .agg adA.cells.toArray) rfl (by kernel_rfl) (by kernel_rfl) (by kernel_rfl) (fun _ _ _ h => h) (Or.inl ⟨by rfl, fun w' hw => exec_load_agg _ 28 _ rfl _ _ rfl adA.cells _ (hw.range rA (by simp)) Tryd.underlying28 rfl (by rw [size31, adA.len])⟩) hS ?_
      try simp only [Act.put, List.setIfInBounds_toArray, List.set_cons_zero, List.set_cons_succ]
      refine wpAnyH_ready (rs := [13]) (by kernel_rfl) (by simp) ?_
      refine AllReadyH.cons (o := { dst := some 21, op := Op.call { callee := Callee.value (Operand.func 19), args := #[Operand.tmp 19, Operand.tmp 20], argTypes := #[28, 28] }, type := 4, pos := "law.go:16", after := #[{ on := 11, ground := Ground.data }, { on := 12, ground := Ground.data }, { on := 10, ground := Ground.chain }, { on := 10, ground := Ground.guard }], guard := some (10, true) }) rfl (fun K hK => ?_) AllReadyH.nil
      go_simp
      refine (less_any _ _ _ _ adC.ok adA.ok _).mono ?_
      rintro e w13 ⟨he, t13⟩
      rw [lessCA] at he
      subst he
      have hS2 := hS.trans t13 (by simp)
      refine hK.out _ _ hS2 (fun _ => ?_)
      clear hK K hS t13
      have hS := hS2
      clear hS2
      try simp only [Act.put, List.setIfInBounds_toArray, List.set_cons_zero, List.set_cons_succ]
      refine wpAnyH_take (i := 14) (oi := { dst := some 22, op := Op.pick (Operand.tmp 18) (Operand.tmp 21) (Operand.const (Value.bool false)), type := 4, pos := "law.go:16", after := #[{ on := 10, ground := Ground.data }, { on := 13, ground := Ground.data }], guard := none }) (v := .bool true) rfl (by kernel_rfl) (by kernel_rfl) (by kernel_rfl) (fun _ _ _ h => h) (Or.inl ⟨by rfl, fun w' hw => by go_simp⟩) hS ?_
      try simp only [Act.put, List.setIfInBounds_toArray, List.set_cons_zero, List.set_cons_succ]
      refine wpAnyH_take (i := 15) (oi := { dst := some 23, op := Op.move (Operand.tmp 22), type := 4, pos := "law.go:16", after := #[{ on := 14, ground := Ground.data }, { on := 13, ground := Ground.chain }], guard := none }) (v := .bool true) rfl (by kernel_rfl) (by kernel_rfl) (by kernel_rfl) (fun _ _ _ h => h) (Or.inl ⟨by rfl, fun w' hw => by go_simp⟩) hS ?_
      try simp only [Act.put, List.setIfInBounds_toArray, List.set_cons_zero, List.set_cons_succ]
      refine wpAnyH_take (i := 16) (oi := { dst := some 24, op := Op.load 28 (Operand.tmp 1), type := 28, pos := "law.go:16", after := #[{ on := 15, ground := Ground.guard }], guard := some (15, true) }) (v := .agg adA.cells.toArray) rfl (by kernel_rfl) (by kernel_rfl) (by kernel_rfl) (fun _ _ _ h => h) (Or.inl ⟨by rfl, fun w' hw => exec_load_agg _ 28 _ rfl _ _ rfl adA.cells _ (hw.range rA (by simp)) Tryd.underlying28 rfl (by rw [size31, adA.len])⟩) hS ?_
      try simp only [Act.put, List.setIfInBounds_toArray, List.set_cons_zero, List.set_cons_succ]
      refine wpAnyH_take (i := 17) (oi := { dst := some 25, op := Op.load 28 (Operand.tmp 2), type := 28, pos := "law.go:16", after := #[{ on := 15, ground := Ground.guard }], guard := some (15, true) }) (v := .agg adB.cells.toArray) rfl (by kernel_rfl) (by kernel_rfl) (by kernel_rfl) (fun _ _ _ h => h) (Or.inl ⟨by rfl, fun w' hw => exec_load_agg _ 28 _ rfl _ _ rfl adB.cells _ (hw.range rB (by simp)) Tryd.underlying28 rfl (by rw [size31, adB.len])⟩) hS ?_
      try simp only [Act.put, List.setIfInBounds_toArray, List.set_cons_zero, List.set_cons_succ]
      refine wpAnyH_ready (rs := [18]) (by kernel_rfl) (by simp) ?_
      refine AllReadyH.cons (o := { dst := some 26, op := Op.call { callee := Callee.value (Operand.func 19), args := #[Operand.tmp 24, Operand.tmp 25], argTypes := #[28, 28] }, type := 4, pos := "law.go:16", after := #[{ on := 16, ground := Ground.data }, { on := 17, ground := Ground.data }, { on := 15, ground := Ground.chain }, { on := 15, ground := Ground.guard }], guard := some (15, true) }) rfl (fun K hK => ?_) AllReadyH.nil
      go_simp
      refine (less_any _ _ _ _ adA.ok adB.ok _).mono ?_
      rintro e w18 ⟨he, t18⟩
      rw [lessAB] at he
      subst he
      have hS2 := hS.trans t18 (by simp)
      refine hK.out _ _ hS2 (fun _ => ?_)
      clear hK K hS t18
      have hS := hS2
      clear hS2
      try simp only [Act.put, List.setIfInBounds_toArray, List.set_cons_zero, List.set_cons_succ]
      refine wpAnyH_take (i := 19) (oi := { dst := some 27, op := Op.unOp UnOp.not 4 (Operand.tmp 26), type := 4, pos := "law.go:16", after := #[{ on := 18, ground := Ground.data }, { on := 15, ground := Ground.guard }], guard := some (15, true) }) (v := .bool true) rfl (by kernel_rfl) (by kernel_rfl) (by kernel_rfl) (fun _ _ _ h => h) (Or.inl ⟨by rfl, fun w' hw => by go_simp⟩) hS ?_
      try simp only [Act.put, List.setIfInBounds_toArray, List.set_cons_zero, List.set_cons_succ]
      refine wpAnyH_take (i := 20) (oi := { dst := some 28, op := Op.pick (Operand.tmp 23) (Operand.tmp 27) (Operand.const (Value.bool false)), type := 4, pos := "law.go:16", after := #[{ on := 15, ground := Ground.data }, { on := 19, ground := Ground.data }], guard := none }) (v := .bool true) rfl (by kernel_rfl) (by kernel_rfl) (by kernel_rfl) (fun _ _ _ h => h) (Or.inl ⟨by rfl, fun w' hw => by go_simp⟩) hS ?_
      try simp only [Act.put, List.setIfInBounds_toArray, List.set_cons_zero, List.set_cons_succ]
      refine wpAnyH_take (i := 21) (oi := { dst := some 29, op := Op.move (Operand.tmp 28), type := 4, pos := "law.go:16", after := #[{ on := 20, ground := Ground.data }, { on := 18, ground := Ground.chain }], guard := none }) (v := .bool true) rfl (by kernel_rfl) (by kernel_rfl) (by kernel_rfl) (fun _ _ _ h => h) (Or.inl ⟨by rfl, fun w' hw => by go_simp⟩) hS ?_
      try simp only [Act.put, List.setIfInBounds_toArray, List.set_cons_zero, List.set_cons_succ]
      refine wpAnyH_take (i := 22) (oi := { dst := some 30, op := Op.load 28 (Operand.tmp 1), type := 28, pos := "law.go:16", after := #[{ on := 21, ground := Ground.guard }], guard := some (21, true) }) (v := .agg adA.cells.toArray) rfl (by kernel_rfl) (by kernel_rfl) (by kernel_rfl) (fun _ _ _ h => h) (Or.inl ⟨by rfl, fun w' hw => exec_load_agg _ 28 _ rfl _ _ rfl adA.cells _ (hw.range rA (by simp)) Tryd.underlying28 rfl (by rw [size31, adA.len])⟩) hS ?_
      try simp only [Act.put, List.setIfInBounds_toArray, List.set_cons_zero, List.set_cons_succ]
      refine wpAnyH_take (i := 23) (oi := { dst := some 31, op := Op.load 28 (Operand.tmp 2), type := 28, pos := "law.go:16", after := #[{ on := 21, ground := Ground.guard }], guard := some (21, true) }) (v := .agg adB.cells.toArray) rfl (by kernel_rfl) (by kernel_rfl) (by kernel_rfl) (fun _ _ _ h => h) (Or.inl ⟨by rfl, fun w' hw => exec_load_agg _ 28 _ rfl _ _ rfl adB.cells _ (hw.range rB (by simp)) Tryd.underlying28 rfl (by rw [size31, adB.len])⟩) hS ?_
      try simp only [Act.put, List.setIfInBounds_toArray, List.set_cons_zero, List.set_cons_succ]
      refine wpAnyH_take (i := 24) (oi := { dst := some 32, op := Op.load 28 (Operand.tmp 1), type := 28, pos := "law.go:16", after := #[{ on := 21, ground := Ground.guard }], guard := some (21, true) }) (v := .agg adA.cells.toArray) rfl (by kernel_rfl) (by kernel_rfl) (by kernel_rfl) (fun _ _ _ h => h) (Or.inl ⟨by rfl, fun w' hw => exec_load_agg _ 28 _ rfl _ _ rfl adA.cells _ (hw.range rA (by simp)) Tryd.underlying28 rfl (by rw [size31, adA.len])⟩) hS ?_
      try simp only [Act.put, List.setIfInBounds_toArray, List.set_cons_zero, List.set_cons_succ]
      refine wpAnyH_take (i := 27) (oi := { dst := some 35, op := Op.load 28 (Operand.tmp 1), type := 28, pos := "law.go:16", after := #[{ on := 21, ground := Ground.guard }], guard := some (21, true) }) (v := .agg adA.cells.toArray) rfl (by kernel_rfl) (by kernel_rfl) (by kernel_rfl) (fun _ _ _ h => h) (Or.inl ⟨by rfl, fun w' hw => exec_load_agg _ 28 _ rfl _ _ rfl adA.cells _ (hw.range rA (by simp)) Tryd.underlying28 rfl (by rw [size31, adA.len])⟩) hS ?_
      try simp only [Act.put, List.setIfInBounds_toArray, List.set_cons_zero, List.set_cons_succ]
      refine wpAnyH_take (i := 28) (oi := { dst := some 36, op := Op.load 28 (Operand.tmp 2), type := 28, pos := "law.go:16", after := #[{ on := 21, ground := Ground.guard }], guard := some (21, true) }) (v := .agg adB.cells.toArray) rfl (by kernel_rfl) (by kernel_rfl) (by kernel_rfl) (fun _ _ _ h => h) (Or.inl ⟨by rfl, fun w' hw => exec_load_agg _ 28 _ rfl _ _ rfl adB.cells _ (hw.range rB (by simp)) Tryd.underlying28 rfl (by rw [size31, adB.len])⟩) hS ?_
      try simp only [Act.put, List.setIfInBounds_toArray, List.set_cons_zero, List.set_cons_succ]
      refine wpAnyH_ready (rs := [25, 29]) (by kernel_rfl) (by simp) ?_
      refine AllReadyH.cons (o := { dst := some 33, op := Op.buildSlice 22 3 #[(0, Operand.tmp 30), (1, Operand.tmp 31), (2, Operand.tmp 32)], type := 22, pos := "law.go:16", after := #[{ on := 22, ground := Ground.data }, { on := 23, ground := Ground.data }, { on := 24, ground := Ground.data }, { on := 21, ground := Ground.guard }], guard := some (21, true) }) rfl (fun K hK => ?_) (AllReadyH.cons (o := { dst := some 37, op := Op.buildSlice 22 2 #[(0, Operand.tmp 35), (1, Operand.tmp 36)], type := 22, pos := "law.go:16", after := #[{ on := 27, ground := Ground.data }, { on := 28, ground := Ground.data }, { on := 21, ground := Ground.guard }], guard := some (21, true) }) rfl (fun K hK => ?_) AllReadyH.nil)
      · refine step_guard (by rfl) ?_
        refine wpList_buildSlice_rows rfl 22 3 _ rfl 28 17 iA _ Tryd.underlying22 hiA hzA hsA (by omega) [adA.cells, adB.cells, adA.cells] rfl (by intro x hx; simp at hx; rcases hx with rfl | rfl | rfl <;> exact Ad.len _) (by omega) (by rfl) ?_
        obtain ⟨w25, hw25⟩ : ∃ x, x = w18.alloc (.cells [adA.cells, adB.cells, adA.cells].flatten.toArray 28) := ⟨_, rfl⟩
        have t25 : Touch [] w18 w25 := by rw [hw25]; exact (Touch.refl [] w18).alloc _
        have h33 : Rd w25 17 w18.heap.size (.slice (some ⟨w18.heap.size, 0, none⟩) 3 3) ([adA, adB, adA].map Ad.cells) := by rw [hw25]; exact Rd.new w18 _ (by intro x hx; simp at hx; rcases hx with rfl | rfl | rfl <;> exact Ad.is _) (by simp) _
        rw [← hw25]
        clear hw25
        have hS2 := hS.trans t25 (by simp)
        refine ⟨rfl, hK.out _ _ hS2 (fun _ => ?_)⟩
        clear hK K hS t25
        have hS := hS2
        clear hS2
        try simp only [Act.put, List.setIfInBounds_toArray, List.set_cons_zero, List.set_cons_succ]
        refine wpAnyH_ready (rs := [26, 29]) (by kernel_rfl) (by simp) ?_
        refine AllReadyH.cons (o := { dst := some 34, op := Op.call { callee := Callee.value (Operand.func 17), args := #[Operand.tmp 33], argTypes := #[22] }, type := 22, pos := "law.go:16", after := #[{ on := 25, ground := Ground.data }, { on := 21, ground := Ground.chain }, { on := 21, ground := Ground.guard }], guard := some (21, true) }) rfl (fun K hK => ?_) (AllReadyH.cons (o := { dst := some 37, op := Op.buildSlice 22 2 #[(0, Operand.tmp 35), (1, Operand.tmp 36)], type := 22, pos := "law.go:16", after := #[{ on := 27, ground := Ground.data }, { on := 28, ground := Ground.data }, { on := 21, ground := Ground.guard }], guard := some (21, true) }) rfl (fun K hK => ?_) AllReadyH.nil)
        · go_simp
          refine (dedup_any _ _ [adA, adB, adA] _ h33 (by simp)).mono ?_
          rintro e w26 ⟨v34, rfl, h34, t26⟩
          rw [dedABA] at h34
          obtain ⟨a34, c34, rfl, _, _, hg34⟩ := h34.form
          obtain ⟨g34, rfl⟩ := hg34 (by simp)
          have h34x : Rd w26 17 g34 (.slice (some ⟨g34, 0, none⟩) 2 c34) ([adA, adB].map Ad.cells) := Rd.of_owns (ads_len17 _) h34.row (by intro b hb; simpa [Value.ownBlock] using hb.symm)
          clear h34
          have hS2 := hS.trans t26 (by simp)
          refine hK.out _ _ hS2 (fun _ => ?_)
          clear hK K hS t26
          have hS := hS2
          clear hS2
          try simp only [Act.put, List.setIfInBounds_toArray, List.set_cons_zero, List.set_cons_succ]
          refine wpAnyH_ready (rs := [29]) (by kernel_rfl) (by simp) ?_
          refine AllReadyH.cons (o := { dst := some 37, op := Op.buildSlice 22 2 #[(0, Operand.tmp 35), (1, Operand.tmp 36)], type := 22, pos := "law.go:16", after := #[{ on := 27, ground := Ground.data }, { on := 28, ground := Ground.data }, { on := 21, ground := Ground.guard }], guard := some (21, true) }) rfl (fun K hK => ?_) AllReadyH.nil
          refine step_guard (by rfl) ?_
          refine wpList_buildSlice_rows rfl 22 2 _ rfl 28 17 iA _ Tryd.underlying22 hiA hzA hsA (by omega) [adA.cells, adB.cells] rfl (by intro x hx; simp at hx; rcases hx with rfl | rfl <;> exact Ad.len _) (by omega) (by rfl) ?_
          obtain ⟨w29, hw29⟩ : ∃ x, x = w26.alloc (.cells [adA.cells, adB.cells].flatten.toArray 28) := ⟨_, rfl⟩
          have t29 : Touch [] w26 w29 := by rw [hw29]; exact (Touch.refl [] w26).alloc _
          have h37 : Rd w29 17 w26.heap.size (.slice (some ⟨w26.heap.size, 0, none⟩) 2 2) ([adA, adB].map Ad.cells) := by rw [hw29]; exact Rd.new w26 _ (by intro x hx; simp at hx; rcases hx with rfl | rfl <;> exact Ad.is _) (by simp) _
          rw [← hw29]
          clear hw29
          have h34x := Rd.touch t29 h34x (by simp)
          have hS2 := hS.trans t29 (by simp)
          refine ⟨rfl, hK.out _ _ hS2 (fun _ => ?_)⟩
          clear hK K hS t29
          have hS := hS2
          clear hS2
          try simp only [Act.put, List.setIfInBounds_toArray, List.set_cons_zero, List.set_cons_succ]
          refine wpAnyH_ready (rs := [30]) (by kernel_rfl) (by simp) ?_
          refine AllReadyH.cons (o := { dst := some 38, op := Op.call { callee := Callee.value (Operand.func 14), args := #[Operand.tmp 34, Operand.tmp 37], argTypes := #[22, 22] }, type := 4, pos := "law.go:16", after := #[{ on := 26, ground := Ground.data }, { on := 29, ground := Ground.data }, { on := 26, ground := Ground.chain }, { on := 21, ground := Ground.guard }], guard := some (21, true) }) rfl (fun K hK => ?_) AllReadyH.nil
          go_simp
          refine (equal_self _ _ _ _ ([adA, adB].map Ad.cells) _ (by simp) h34x h37 (by intro x hx; simp at hx; rcases hx with rfl | rfl <;> exact Ad.is _)).mono ?_
          rintro e w30 ⟨rfl, t30⟩
          have hS2 := hS.trans t30 (by simp)
          refine hK.out _ _ hS2 (fun _ => ?_)
          clear hK K hS t30
          have hS := hS2
          clear hS2
          try simp only [Act.put, List.setIfInBounds_toArray, List.set_cons_zero, List.set_cons_succ]
          refine wpAnyH_take (i := 31) (oi := { dst := some 39, op := Op.pick (Operand.tmp 29) (Operand.tmp 38) (Operand.const (Value.bool false)), type := 4, pos := "law.go:16", after := #[{ on := 21, ground := Ground.data }, { on := 30, ground := Ground.data }], guard := none }) (v := .bool true) rfl (by kernel_rfl) (by kernel_rfl) (by kernel_rfl) (fun _ _ _ h => h) (Or.inl ⟨by rfl, fun w' hw => by go_simp⟩) hS ?_
          try simp only [Act.put, List.setIfInBounds_toArray, List.set_cons_zero, List.set_cons_succ]
          refine wpAnyH_take (i := 32) (oi := { dst := some 0, op := Op.assign (Operand.tmp 39), type := 4, pos := "law.go:16", after := #[{ on := 31, ground := Ground.data }, { on := 30, ground := Ground.chain }, { on := 0, ground := Ground.phase }, { on := 1, ground := Ground.phase }, { on := 2, ground := Ground.phase }, { on := 3, ground := Ground.phase }, { on := 4, ground := Ground.phase }, { on := 5, ground := Ground.phase }, { on := 6, ground := Ground.phase }, { on := 7, ground := Ground.phase }, { on := 8, ground := Ground.phase }, { on := 9, ground := Ground.phase }, { on := 10, ground := Ground.phase }, { on := 11, ground := Ground.phase }, { on := 12, ground := Ground.phase }, { on := 13, ground := Ground.phase }, { on := 14, ground := Ground.phase }, { on := 15, ground := Ground.phase }, { on := 16, ground := Ground.phase }, { on := 17, ground := Ground.phase }, { on := 18, ground := Ground.phase }, { on := 19, ground := Ground.phase }, { on := 20, ground := Ground.phase }, { on := 21, ground := Ground.phase }, { on := 22, ground := Ground.phase }, { on := 23, ground := Ground.phase }, { on := 24, ground := Ground.phase }, { on := 25, ground := Ground.phase }, { on := 26, ground := Ground.phase }, { on := 27, ground := Ground.phase }, { on := 28, ground := Ground.phase }, { on := 29, ground := Ground.phase }, { on := 30, ground := Ground.phase }, { on := 31, ground := Ground.phase }], guard := none }) (v := .bool true) rfl (by kernel_rfl) (by kernel_rfl) (by kernel_rfl) (fun _ _ _ h => h) (Or.inl ⟨by rfl, fun w' hw => by go_simp⟩) hS ?_
          try simp only [Act.put, List.setIfInBounds_toArray, List.set_cons_zero, List.set_cons_succ]
          refine wpAnyH_done (by kernel_rfl) ?_ _
          try simp only [Act.put, List.setIfInBounds_toArray, List.set_cons_zero, List.set_cons_succ]
          go_wp2_with fail
          go_ret
          exact ⟨rfl, HT.out.trans hS (by simp)⟩
        · refine step_guard (by rfl) ?_
          refine wpList_buildSlice_rows rfl 22 2 _ rfl 28 17 iA _ Tryd.underlying22 hiA hzA hsA (by omega) [adA.cells, adB.cells] rfl (by intro x hx; simp at hx; rcases hx with rfl | rfl <;> exact Ad.len _) (by omega) (by rfl) ?_
          obtain ⟨w29, hw29⟩ : ∃ x, x = w25.alloc (.cells [adA.cells, adB.cells].flatten.toArray 28) := ⟨_, rfl⟩
          have t29 : Touch [] w25 w29 := by rw [hw29]; exact (Touch.refl [] w25).alloc _
          have h37 : Rd w29 17 w25.heap.size (.slice (some ⟨w25.heap.size, 0, none⟩) 2 2) ([adA, adB].map Ad.cells) := by rw [hw29]; exact Rd.new w25 _ (by intro x hx; simp at hx; rcases hx with rfl | rfl <;> exact Ad.is _) (by simp) _
          rw [← hw29]
          clear hw29
          have h33 := Rd.touch t29 h33 (by simp)
          have hS2 := hS.trans t29 (by simp)
          refine ⟨rfl, hK.out _ _ hS2 (fun _ => ?_)⟩
          clear hK K hS t29
          have hS := hS2
          clear hS2
          try simp only [Act.put, List.setIfInBounds_toArray, List.set_cons_zero, List.set_cons_succ]
          refine wpAnyH_ready (rs := [26]) (by kernel_rfl) (by simp) ?_
          refine AllReadyH.cons (o := { dst := some 34, op := Op.call { callee := Callee.value (Operand.func 17), args := #[Operand.tmp 33], argTypes := #[22] }, type := 22, pos := "law.go:16", after := #[{ on := 25, ground := Ground.data }, { on := 21, ground := Ground.chain }, { on := 21, ground := Ground.guard }], guard := some (21, true) }) rfl (fun K hK => ?_) AllReadyH.nil
          go_simp
          refine (dedup_any _ _ [adA, adB, adA] _ h33 (by simp)).mono ?_
          rintro e w26 ⟨v34, rfl, h34, t26⟩
          have h37 := Rd.touch t26 h37 (by simp)
          rw [dedABA] at h34
          obtain ⟨a34, c34, rfl, _, _, hg34⟩ := h34.form
          obtain ⟨g34, rfl⟩ := hg34 (by simp)
          have h34x : Rd w26 17 g34 (.slice (some ⟨g34, 0, none⟩) 2 c34) ([adA, adB].map Ad.cells) := Rd.of_owns (ads_len17 _) h34.row (by intro b hb; simpa [Value.ownBlock] using hb.symm)
          clear h34
          have hS2 := hS.trans t26 (by simp)
          refine hK.out _ _ hS2 (fun _ => ?_)
          clear hK K hS t26
          have hS := hS2
          clear hS2
          try simp only [Act.put, List.setIfInBounds_toArray, List.set_cons_zero, List.set_cons_succ]
          refine wpAnyH_ready (rs := [30]) (by kernel_rfl) (by simp) ?_
          refine AllReadyH.cons (o := { dst := some 38, op := Op.call { callee := Callee.value (Operand.func 14), args := #[Operand.tmp 34, Operand.tmp 37], argTypes := #[22, 22] }, type := 4, pos := "law.go:16", after := #[{ on := 26, ground := Ground.data }, { on := 29, ground := Ground.data }, { on := 26, ground := Ground.chain }, { on := 21, ground := Ground.guard }], guard := some (21, true) }) rfl (fun K hK => ?_) AllReadyH.nil
          go_simp
          refine (equal_self _ _ _ _ ([adA, adB].map Ad.cells) _ (by simp) h34x h37 (by intro x hx; simp at hx; rcases hx with rfl | rfl <;> exact Ad.is _)).mono ?_
          rintro e w30 ⟨rfl, t30⟩
          have hS2 := hS.trans t30 (by simp)
          refine hK.out _ _ hS2 (fun _ => ?_)
          clear hK K hS t30
          have hS := hS2
          clear hS2
          try simp only [Act.put, List.setIfInBounds_toArray, List.set_cons_zero, List.set_cons_succ]
          refine wpAnyH_take (i := 31) (oi := { dst := some 39, op := Op.pick (Operand.tmp 29) (Operand.tmp 38) (Operand.const (Value.bool false)), type := 4, pos := "law.go:16", after := #[{ on := 21, ground := Ground.data }, { on := 30, ground := Ground.data }], guard := none }) (v := .bool true) rfl (by kernel_rfl) (by kernel_rfl) (by kernel_rfl) (fun _ _ _ h => h) (Or.inl ⟨by rfl, fun w' hw => by go_simp⟩) hS ?_
          try simp only [Act.put, List.setIfInBounds_toArray, List.set_cons_zero, List.set_cons_succ]
          refine wpAnyH_take (i := 32) (oi := { dst := some 0, op := Op.assign (Operand.tmp 39), type := 4, pos := "law.go:16", after := #[{ on := 31, ground := Ground.data }, { on := 30, ground := Ground.chain }, { on := 0, ground := Ground.phase }, { on := 1, ground := Ground.phase }, { on := 2, ground := Ground.phase }, { on := 3, ground := Ground.phase }, { on := 4, ground := Ground.phase }, { on := 5, ground := Ground.phase }, { on := 6, ground := Ground.phase }, { on := 7, ground := Ground.phase }, { on := 8, ground := Ground.phase }, { on := 9, ground := Ground.phase }, { on := 10, ground := Ground.phase }, { on := 11, ground := Ground.phase }, { on := 12, ground := Ground.phase }, { on := 13, ground := Ground.phase }, { on := 14, ground := Ground.phase }, { on := 15, ground := Ground.phase }, { on := 16, ground := Ground.phase }, { on := 17, ground := Ground.phase }, { on := 18, ground := Ground.phase }, { on := 19, ground := Ground.phase }, { on := 20, ground := Ground.phase }, { on := 21, ground := Ground.phase }, { on := 22, ground := Ground.phase }, { on := 23, ground := Ground.phase }, { on := 24, ground := Ground.phase }, { on := 25, ground := Ground.phase }, { on := 26, ground := Ground.phase }, { on := 27, ground := Ground.phase }, { on := 28, ground := Ground.phase }, { on := 29, ground := Ground.phase }, { on := 30, ground := Ground.phase }, { on := 31, ground := Ground.phase }], guard := none }) (v := .bool true) rfl (by kernel_rfl) (by kernel_rfl) (by kernel_rfl) (fun _ _ _ h => h) (Or.inl ⟨by rfl, fun w' hw => by go_simp⟩) hS ?_
          try simp only [Act.put, List.setIfInBounds_toArray, List.set_cons_zero, List.set_cons_succ]
          refine wpAnyH_done (by kernel_rfl) ?_ _
          try simp only [Act.put, List.setIfInBounds_toArray, List.set_cons_zero, List.set_cons_succ]
          go_wp2_with fail
          go_ret
          exact ⟨rfl, HT.out.trans hS (by simp)⟩
      · refine step_guard (by rfl) ?_
        refine wpList_buildSlice_rows rfl 22 2 _ rfl 28 17 iA _ Tryd.underlying22 hiA hzA hsA (by omega) [adA.cells, adB.cells] rfl (by intro x hx; simp at hx; rcases hx with rfl | rfl <;> exact Ad.len _) (by omega) (by rfl) ?_
        obtain ⟨w29, hw29⟩ : ∃ x, x = w18.alloc (.cells [adA.cells, adB.cells].flatten.toArray 28) := ⟨_, rfl⟩
        have t29 : Touch [] w18 w29 := by rw [hw29]; exact (Touch.refl [] w18).alloc _
        have h37 : Rd w29 17 w18.heap.size (.slice (some ⟨w18.heap.size, 0, none⟩) 2 2) ([adA, adB].map Ad.cells) := by rw [hw29]; exact Rd.new w18 _ (by intro x hx; simp at hx; rcases hx with rfl | rfl <;> exact Ad.is _) (by simp) _
        rw [← hw29]
        clear hw29
        have hS2 := hS.trans t29 (by simp)
        refine ⟨rfl, hK.out _ _ hS2 (fun _ => ?_)⟩
        clear hK K hS t29
        have hS := hS2
        clear hS2
        try simp only [Act.put, List.setIfInBounds_toArray, List.set_cons_zero, List.set_cons_succ]
        refine wpAnyH_ready (rs := [25]) (by kernel_rfl) (by simp) ?_
        refine AllReadyH.cons (o := { dst := some 33, op := Op.buildSlice 22 3 #[(0, Operand.tmp 30), (1, Operand.tmp 31), (2, Operand.tmp 32)], type := 22, pos := "law.go:16", after := #[{ on := 22, ground := Ground.data }, { on := 23, ground := Ground.data }, { on := 24, ground := Ground.data }, { on := 21, ground := Ground.guard }], guard := some (21, true) }) rfl (fun K hK => ?_) AllReadyH.nil
        refine step_guard (by rfl) ?_
        refine wpList_buildSlice_rows rfl 22 3 _ rfl 28 17 iA _ Tryd.underlying22 hiA hzA hsA (by omega) [adA.cells, adB.cells, adA.cells] rfl (by intro x hx; simp at hx; rcases hx with rfl | rfl | rfl <;> exact Ad.len _) (by omega) (by rfl) ?_
        obtain ⟨w25, hw25⟩ : ∃ x, x = w29.alloc (.cells [adA.cells, adB.cells, adA.cells].flatten.toArray 28) := ⟨_, rfl⟩
        have t25 : Touch [] w29 w25 := by rw [hw25]; exact (Touch.refl [] w29).alloc _
        have h33 : Rd w25 17 w29.heap.size (.slice (some ⟨w29.heap.size, 0, none⟩) 3 3) ([adA, adB, adA].map Ad.cells) := by rw [hw25]; exact Rd.new w29 _ (by intro x hx; simp at hx; rcases hx with rfl | rfl | rfl <;> exact Ad.is _) (by simp) _
        rw [← hw25]
        clear hw25
        have h37 := Rd.touch t25 h37 (by simp)
        have hS2 := hS.trans t25 (by simp)
        refine ⟨rfl, hK.out _ _ hS2 (fun _ => ?_)⟩
        clear hK K hS t25
        have hS := hS2
        clear hS2
        try simp only [Act.put, List.setIfInBounds_toArray, List.set_cons_zero, List.set_cons_succ]
        refine wpAnyH_ready (rs := [26]) (by kernel_rfl) (by simp) ?_
        refine AllReadyH.cons (o := { dst := some 34, op := Op.call { callee := Callee.value (Operand.func 17), args := #[Operand.tmp 33], argTypes := #[22] }, type := 22, pos := "law.go:16", after := #[{ on := 25, ground := Ground.data }, { on := 21, ground := Ground.chain }, { on := 21, ground := Ground.guard }], guard := some (21, true) }) rfl (fun K hK => ?_) AllReadyH.nil
        go_simp
        refine (dedup_any _ _ [adA, adB, adA] _ h33 (by simp)).mono ?_
        rintro e w26 ⟨v34, rfl, h34, t26⟩
        have h37 := Rd.touch t26 h37 (by simp)
        rw [dedABA] at h34
        obtain ⟨a34, c34, rfl, _, _, hg34⟩ := h34.form
        obtain ⟨g34, rfl⟩ := hg34 (by simp)
        have h34x : Rd w26 17 g34 (.slice (some ⟨g34, 0, none⟩) 2 c34) ([adA, adB].map Ad.cells) := Rd.of_owns (ads_len17 _) h34.row (by intro b hb; simpa [Value.ownBlock] using hb.symm)
        clear h34
        have hS2 := hS.trans t26 (by simp)
        refine hK.out _ _ hS2 (fun _ => ?_)
        clear hK K hS t26
        have hS := hS2
        clear hS2
        try simp only [Act.put, List.setIfInBounds_toArray, List.set_cons_zero, List.set_cons_succ]
        refine wpAnyH_ready (rs := [30]) (by kernel_rfl) (by simp) ?_
        refine AllReadyH.cons (o := { dst := some 38, op := Op.call { callee := Callee.value (Operand.func 14), args := #[Operand.tmp 34, Operand.tmp 37], argTypes := #[22, 22] }, type := 4, pos := "law.go:16", after := #[{ on := 26, ground := Ground.data }, { on := 29, ground := Ground.data }, { on := 26, ground := Ground.chain }, { on := 21, ground := Ground.guard }], guard := some (21, true) }) rfl (fun K hK => ?_) AllReadyH.nil
        go_simp
        refine (equal_self _ _ _ _ ([adA, adB].map Ad.cells) _ (by simp) h34x h37 (by intro x hx; simp at hx; rcases hx with rfl | rfl <;> exact Ad.is _)).mono ?_
        rintro e w30 ⟨rfl, t30⟩
        have hS2 := hS.trans t30 (by simp)
        refine hK.out _ _ hS2 (fun _ => ?_)
        clear hK K hS t30
        have hS := hS2
        clear hS2
        try simp only [Act.put, List.setIfInBounds_toArray, List.set_cons_zero, List.set_cons_succ]
        refine wpAnyH_take (i := 31) (oi := { dst := some 39, op := Op.pick (Operand.tmp 29) (Operand.tmp 38) (Operand.const (Value.bool false)), type := 4, pos := "law.go:16", after := #[{ on := 21, ground := Ground.data }, { on := 30, ground := Ground.data }], guard := none }) (v := .bool true) rfl (by kernel_rfl) (by kernel_rfl) (by kernel_rfl) (fun _ _ _ h => h) (Or.inl ⟨by rfl, fun w' hw => by go_simp⟩) hS ?_
        try simp only [Act.put, List.setIfInBounds_toArray, List.set_cons_zero, List.set_cons_succ]
        refine wpAnyH_take (i := 32) (oi := { dst := some 0, op := Op.assign (Operand.tmp 39), type := 4, pos := "law.go:16", after := #[{ on := 31, ground := Ground.data }, { on := 30, ground := Ground.chain }, { on := 0, ground := Ground.phase }, { on := 1, ground := Ground.phase }, { on := 2, ground := Ground.phase }, { on := 3, ground := Ground.phase }, { on := 4, ground := Ground.phase }, { on := 5, ground := Ground.phase }, { on := 6, ground := Ground.phase }, { on := 7, ground := Ground.phase }, { on := 8, ground := Ground.phase }, { on := 9, ground := Ground.phase }, { on := 10, ground := Ground.phase }, { on := 11, ground := Ground.phase }, { on := 12, ground := Ground.phase }, { on := 13, ground := Ground.phase }, { on := 14, ground := Ground.phase }, { on := 15, ground := Ground.phase }, { on := 16, ground := Ground.phase }, { on := 17, ground := Ground.phase }, { on := 18, ground := Ground.phase }, { on := 19, ground := Ground.phase }, { on := 20, ground := Ground.phase }, { on := 21, ground := Ground.phase }, { on := 22, ground := Ground.phase }, { on := 23, ground := Ground.phase }, { on := 24, ground := Ground.phase }, { on := 25, ground := Ground.phase }, { on := 26, ground := Ground.phase }, { on := 27, ground := Ground.phase }, { on := 28, ground := Ground.phase }, { on := 29, ground := Ground.phase }, { on := 30, ground := Ground.phase }, { on := 31, ground := Ground.phase }], guard := none }) (v := .bool true) rfl (by kernel_rfl) (by kernel_rfl) (by kernel_rfl) (fun _ _ _ h => h) (Or.inl ⟨by rfl, fun w' hw => by go_simp⟩) hS ?_
        try simp only [Act.put, List.setIfInBounds_toArray, List.set_cons_zero, List.set_cons_succ]
        refine wpAnyH_done (by kernel_rfl) ?_ _
        try simp only [Act.put, List.setIfInBounds_toArray, List.set_cons_zero, List.set_cons_succ]
        go_wp2_with fail
        go_ret
        exact ⟨rfl, HT.out.trans hS (by simp)⟩
    · refine step_of_list rfl ?_
      refine wpList_buildSlice_rows rfl 22 3 _ rfl 28 17 iA _ Tryd.underlying22 hiA hzA hsA (by omega) [adC.cells, adB.cells, adA.cells] rfl (by intro x hx; simp at hx; rcases hx with rfl | rfl | rfl <;> exact Ad.len _) (by omega) (by rfl) ?_
      obtain ⟨w8, hw8⟩ : ∃ x, x = w3.alloc (.cells [adC.cells, adB.cells, adA.cells].flatten.toArray 28) := ⟨_, rfl⟩
      have t8 : Touch [] w3 w8 := by rw [hw8]; exact (Touch.refl [] w3).alloc _
      have h16 : Rd w8 17 w3.heap.size (.slice (some ⟨w3.heap.size, 0, none⟩) 3 3) ([adC, adB, adA].map Ad.cells) := by rw [hw8]; exact Rd.new w3 _ (by intro x hx; simp at hx; rcases hx with rfl | rfl | rfl <;> exact Ad.is _) (by simp) _
      rw [← hw8]
      clear hw8
      have h11 := Rd.touch t8 h11 (by simp)
      have hS2 := hS.trans t8 (by simp)
      refine ⟨rfl, hK.out _ _ hS2 (fun _ => ?_)⟩
      clear hK K hS t8
      have hS := hS2
      clear hS2
      try simp only [Act.put, List.setIfInBounds_toArray, List.set_cons_zero, List.set_cons_succ]
      refine wpAnyH_ready (rs := [4]) (by kernel_rfl) (by simp) ?_
      refine AllReadyH.cons (o := { dst := some 12, op := Op.call { callee := Callee.value (Operand.func 15), args := #[Operand.tmp 11], argTypes := #[22] }, type := 22, pos := "law.go:16", after := #[{ on := 3, ground := Ground.data }], guard := none }) rfl (fun K hK => ?_) AllReadyH.nil
      go_simp
      refine (sort_any _ _ [adA, adB, adC] _ h11 (by simp)).mono ?_
      rintro e w4 ⟨v12, rfl, h12, t4⟩
      have h16 := Rd.touch t4 h16 (by simp)
      rw [srtABC] at h12
      obtain ⟨a12, c12, rfl, _, _, hg12⟩ := h12.form
      obtain ⟨g12, rfl⟩ := hg12 (by simp)
      have h12x : Rd w4 17 g12 (.slice (some ⟨g12, 0, none⟩) 3 c12) ([adC, adB, adA].map Ad.cells) := Rd.of_owns (ads_len17 _) h12.row (by intro b hb; simpa [Value.ownBlock] using hb.symm)
      clear h12
      have hS2 := hS.trans t4 (by simp)
      refine hK.out _ _ hS2 (fun _ => ?_)
      clear hK K hS t4
      have hS := hS2
      clear hS2
      try simp only [Act.put, List.setIfInBounds_toArray, List.set_cons_zero, List.set_cons_succ]
      refine wpAnyH_ready (rs := [9]) (by kernel_rfl) (by simp) ?_
      refine AllReadyH.cons (o := { dst := some 17, op := Op.call { callee := Callee.value (Operand.func 14), args := #[Operand.tmp 12, Operand.tmp 16], argTypes := #[22, 22] }, type := 4, pos := "law.go:16", after := #[{ on := 4, ground := Ground.data }, { on := 8, ground := Ground.data }, { on := 4, ground := Ground.chain }], guard := none }) rfl (fun K hK => ?_) AllReadyH.nil
      go_simp
      refine (equal_self _ _ _ _ ([adC, adB, adA].map Ad.cells) _ (by simp) h12x h16 (by intro x hx; simp at hx; rcases hx with rfl | rfl | rfl <;> exact Ad.is _)).mono ?_
      rintro e w9 ⟨rfl, t9⟩
      have hS2 := hS.trans t9 (by simp)
      refine hK.out _ _ hS2 (fun _ => ?_)
      clear hK K hS t9
      have hS := hS2
      clear hS2
      try simp only [Act.put, List.setIfInBounds_toArray, List.set_cons_zero, List.set_cons_succ]
      refine wpAnyH_take (i := 10) (oi := { dst := some 18, op := Op.move (Operand.tmp 17), type := 4, pos := "law.go:16", after := #[{ on := 9, ground := Ground.data }, { on := 9, ground := Ground.chain }], guard := none }) (v := .bool true) rfl (by kernel_rfl) (by kernel_rfl) (by kernel_rfl) (fun _ _ _ h => h) (Or.inl ⟨by rfl, fun w' hw => by go_simp⟩) hS ?_
      try simp only [Act.put, List.setIfInBounds_toArray, List.set_cons_zero, List.set_cons_succ]
      refine wpAnyH_take (i := 11) (oi := { dst := some 19, op := Op.load 28 (Operand.tmp 3), type := 28, pos := "law.go:16", after := #[{ on := 10, ground := Ground.guard }], guard := some (10, true) }) (v := .agg adC.cells.toArray) rfl (by kernel_rfl) (by kernel_rfl) (by kernel_rfl) (fun _ _ _ h => h) (Or.inl ⟨by rfl, fun w' hw => exec_load_agg _ 28 _ rfl _ _ rfl adC.cells _ (hw.range rC (by simp)) Tryd.underlying28 rfl (by rw [size31, adC.len])⟩) hS ?_
      try simp only [Act.put, List.setIfInBounds_toArray, List.set_cons_zero, List.set_cons_succ]
      refine wpAnyH_take (i := 12) (oi := { dst := some 20, op := Op.load 28 (Operand.tmp 1), type := 28, pos := "law.go:16", after := #[{ on := 10, ground := Ground.guard }], guard := some (10, true) }) (v := .agg adA.cells.toArray) rfl (by kernel_rfl) (by kernel_rfl) (by kernel_rfl) (fun _ _ _ h => h) (Or.inl ⟨by rfl, fun w' hw => exec_load_agg _ 28 _ rfl _ _ rfl adA.cells _ (hw.range rA (by simp)) Tryd.underlying28 rfl (by rw [size31, adA.len])⟩) hS ?_
      try simp only [Act.put, List.setIfInBounds_toArray, List.set_cons_zero, List.set_cons_succ]
      refine wpAnyH_ready (rs := [13]) (by kernel_rfl) (by simp) ?_
      refine AllReadyH.cons (o := { dst := some 21, op := Op.call { callee := Callee.value (Operand.func 19), args := #[Operand.tmp 19, Operand.tmp 20], argTypes := #[28, 28] }, type := 4, pos := "law.go:16", after := #[{ on := 11, ground := Ground.data }, { on := 12, ground := Ground.data }, { on := 10, ground := Ground.chain }, { on := 10, ground := Ground.guard }], guard := some (10, true) }) rfl (fun K hK => ?_) AllReadyH.nil
      go_simp
      refine (less_any _ _ _ _ adC.ok adA.ok _).mono ?_
      rintro e w13 ⟨he, t13⟩
      rw [lessCA] at he
      subst he
      have hS2 := hS.trans t13 (by simp)
      refine hK.out _ _ hS2 (fun _ => ?_)
      clear hK K hS t13
      have hS := hS2
      clear hS2
      try simp only [Act.put, List.setIfInBounds_toArray, List.set_cons_zero, List.set_cons_succ]
      refine wpAnyH_take (i := 14) (oi := { dst := some 22, op := Op.pick (Operand.tmp 18) (Operand.tmp 21) (Operand.const (Value.bool false)), type := 4, pos := "law.go:16", after := #[{ on := 10, ground := Ground.data }, { on := 13, ground := Ground.data }], guard := none }) (v := .bool true) rfl (by kernel_rfl) (by kernel_rfl) (by kernel_rfl) (fun _ _ _ h => h) (Or.inl ⟨by rfl, fun w' hw => by go_simp⟩) hS ?_
      try simp only [Act.put, List.setIfInBounds_toArray, List.set_cons_zero, List.set_cons_succ]
      refine wpAnyH_take (i := 15) (oi := { dst := some 23, op := Op.move (Operand.tmp 22), type := 4, pos := "law.go:16", after := #[{ on := 14, ground := Ground.data }, { on := 13, ground := Ground.chain }], guard := none }) (v := .bool true) rfl (by kernel_rfl) (by kernel_rfl) (by kernel_rfl) (fun _ _ _ h => h) (Or.inl ⟨by rfl, fun w' hw => by go_simp⟩) hS ?_
      try simp only [Act.put, List.setIfInBounds_toArray, List.set_cons_zero, List.set_cons_succ]
      refine wpAnyH_take (i := 16) (oi := { dst := some 24, op := Op.load 28 (Operand.tmp 1), type := 28, pos := "law.go:16", after := #[{ on := 15, ground := Ground.guard }], guard := some (15, true) }) (v := .agg adA.cells.toArray) rfl (by kernel_rfl) (by kernel_rfl) (by kernel_rfl) (fun _ _ _ h => h) (Or.inl ⟨by rfl, fun w' hw => exec_load_agg _ 28 _ rfl _ _ rfl adA.cells _ (hw.range rA (by simp)) Tryd.underlying28 rfl (by rw [size31, adA.len])⟩) hS ?_
      try simp only [Act.put, List.setIfInBounds_toArray, List.set_cons_zero, List.set_cons_succ]
      refine wpAnyH_take (i := 17) (oi := { dst := some 25, op := Op.load 28 (Operand.tmp 2), type := 28, pos := "law.go:16", after := #[{ on := 15, ground := Ground.guard }], guard := some (15, true) }) (v := .agg adB.cells.toArray) rfl (by kernel_rfl) (by kernel_rfl) (by kernel_rfl) (fun _ _ _ h => h) (Or.inl ⟨by rfl, fun w' hw => exec_load_agg _ 28 _ rfl _ _ rfl adB.cells _ (hw.range rB (by simp)) Tryd.underlying28 rfl (by rw [size31, adB.len])⟩) hS ?_
      try simp only [Act.put, List.setIfInBounds_toArray, List.set_cons_zero, List.set_cons_succ]
      refine wpAnyH_ready (rs := [18]) (by kernel_rfl) (by simp) ?_
      refine AllReadyH.cons (o := { dst := some 26, op := Op.call { callee := Callee.value (Operand.func 19), args := #[Operand.tmp 24, Operand.tmp 25], argTypes := #[28, 28] }, type := 4, pos := "law.go:16", after := #[{ on := 16, ground := Ground.data }, { on := 17, ground := Ground.data }, { on := 15, ground := Ground.chain }, { on := 15, ground := Ground.guard }], guard := some (15, true) }) rfl (fun K hK => ?_) AllReadyH.nil
      go_simp
      refine (less_any _ _ _ _ adA.ok adB.ok _).mono ?_
      rintro e w18 ⟨he, t18⟩
      rw [lessAB] at he
      subst he
      have hS2 := hS.trans t18 (by simp)
      refine hK.out _ _ hS2 (fun _ => ?_)
      clear hK K hS t18
      have hS := hS2
      clear hS2
      try simp only [Act.put, List.setIfInBounds_toArray, List.set_cons_zero, List.set_cons_succ]
      refine wpAnyH_take (i := 19) (oi := { dst := some 27, op := Op.unOp UnOp.not 4 (Operand.tmp 26), type := 4, pos := "law.go:16", after := #[{ on := 18, ground := Ground.data }, { on := 15, ground := Ground.guard }], guard := some (15, true) }) (v := .bool true) rfl (by kernel_rfl) (by kernel_rfl) (by kernel_rfl) (fun _ _ _ h => h) (Or.inl ⟨by rfl, fun w' hw => by go_simp⟩) hS ?_
      try simp only [Act.put, List.setIfInBounds_toArray, List.set_cons_zero, List.set_cons_succ]
      refine wpAnyH_take (i := 20) (oi := { dst := some 28, op := Op.pick (Operand.tmp 23) (Operand.tmp 27) (Operand.const (Value.bool false)), type := 4, pos := "law.go:16", after := #[{ on := 15, ground := Ground.data }, { on := 19, ground := Ground.data }], guard := none }) (v := .bool true) rfl (by kernel_rfl) (by kernel_rfl) (by kernel_rfl) (fun _ _ _ h => h) (Or.inl ⟨by rfl, fun w' hw => by go_simp⟩) hS ?_
      try simp only [Act.put, List.setIfInBounds_toArray, List.set_cons_zero, List.set_cons_succ]
      refine wpAnyH_take (i := 21) (oi := { dst := some 29, op := Op.move (Operand.tmp 28), type := 4, pos := "law.go:16", after := #[{ on := 20, ground := Ground.data }, { on := 18, ground := Ground.chain }], guard := none }) (v := .bool true) rfl (by kernel_rfl) (by kernel_rfl) (by kernel_rfl) (fun _ _ _ h => h) (Or.inl ⟨by rfl, fun w' hw => by go_simp⟩) hS ?_
      try simp only [Act.put, List.setIfInBounds_toArray, List.set_cons_zero, List.set_cons_succ]
      refine wpAnyH_take (i := 22) (oi := { dst := some 30, op := Op.load 28 (Operand.tmp 1), type := 28, pos := "law.go:16", after := #[{ on := 21, ground := Ground.guard }], guard := some (21, true) }) (v := .agg adA.cells.toArray) rfl (by kernel_rfl) (by kernel_rfl) (by kernel_rfl) (fun _ _ _ h => h) (Or.inl ⟨by rfl, fun w' hw => exec_load_agg _ 28 _ rfl _ _ rfl adA.cells _ (hw.range rA (by simp)) Tryd.underlying28 rfl (by rw [size31, adA.len])⟩) hS ?_
      try simp only [Act.put, List.setIfInBounds_toArray, List.set_cons_zero, List.set_cons_succ]
      refine wpAnyH_take (i := 23) (oi := { dst := some 31, op := Op.load 28 (Operand.tmp 2), type := 28, pos := "law.go:16", after := #[{ on := 21, ground := Ground.guard }], guard := some (21, true) }) (v := .agg adB.cells.toArray) rfl (by kernel_rfl) (by kernel_rfl) (by kernel_rfl) (fun _ _ _ h => h) (Or.inl ⟨by rfl, fun w' hw => exec_load_agg _ 28 _ rfl _ _ rfl adB.cells _ (hw.range rB (by simp)) Tryd.underlying28 rfl (by rw [size31, adB.len])⟩) hS ?_
      try simp only [Act.put, List.setIfInBounds_toArray, List.set_cons_zero, List.set_cons_succ]
      refine wpAnyH_take (i := 24) (oi := { dst := some 32, op := Op.load 28 (Operand.tmp 1), type := 28, pos := "law.go:16", after := #[{ on := 21, ground := Ground.guard }], guard := some (21, true) }) (v := .agg adA.cells.toArray) rfl (by kernel_rfl) (by kernel_rfl) (by kernel_rfl) (fun _ _ _ h => h) (Or.inl ⟨by rfl, fun w' hw => exec_load_agg _ 28 _ rfl _ _ rfl adA.cells _ (hw.range rA (by simp)) Tryd.underlying28 rfl (by rw [size31, adA.len])⟩) hS ?_
      try simp only [Act.put, List.setIfInBounds_toArray, List.set_cons_zero, List.set_cons_succ]
      refine wpAnyH_take (i := 27) (oi := { dst := some 35, op := Op.load 28 (Operand.tmp 1), type := 28, pos := "law.go:16", after := #[{ on := 21, ground := Ground.guard }], guard := some (21, true) }) (v := .agg adA.cells.toArray) rfl (by kernel_rfl) (by kernel_rfl) (by kernel_rfl) (fun _ _ _ h => h) (Or.inl ⟨by rfl, fun w' hw => exec_load_agg _ 28 _ rfl _ _ rfl adA.cells _ (hw.range rA (by simp)) Tryd.underlying28 rfl (by rw [size31, adA.len])⟩) hS ?_
      try simp only [Act.put, List.setIfInBounds_toArray, List.set_cons_zero, List.set_cons_succ]
      refine wpAnyH_take (i := 28) (oi := { dst := some 36, op := Op.load 28 (Operand.tmp 2), type := 28, pos := "law.go:16", after := #[{ on := 21, ground := Ground.guard }], guard := some (21, true) }) (v := .agg adB.cells.toArray) rfl (by kernel_rfl) (by kernel_rfl) (by kernel_rfl) (fun _ _ _ h => h) (Or.inl ⟨by rfl, fun w' hw => exec_load_agg _ 28 _ rfl _ _ rfl adB.cells _ (hw.range rB (by simp)) Tryd.underlying28 rfl (by rw [size31, adB.len])⟩) hS ?_
      try simp only [Act.put, List.setIfInBounds_toArray, List.set_cons_zero, List.set_cons_succ]
      refine wpAnyH_ready (rs := [25, 29]) (by kernel_rfl) (by simp) ?_
      refine AllReadyH.cons (o := { dst := some 33, op := Op.buildSlice 22 3 #[(0, Operand.tmp 30), (1, Operand.tmp 31), (2, Operand.tmp 32)], type := 22, pos := "law.go:16", after := #[{ on := 22, ground := Ground.data }, { on := 23, ground := Ground.data }, { on := 24, ground := Ground.data }, { on := 21, ground := Ground.guard }], guard := some (21, true) }) rfl (fun K hK => ?_) (AllReadyH.cons (o := { dst := some 37, op := Op.buildSlice 22 2 #[(0, Operand.tmp 35), (1, Operand.tmp 36)], type := 22, pos := "law.go:16", after := #[{ on := 27, ground := Ground.data }, { on := 28, ground := Ground.data }, { on := 21, ground := Ground.guard }], guard := some (21, true) }) rfl (fun K hK => ?_) AllReadyH.nil)
      · refine step_guard (by rfl) ?_
        refine wpList_buildSlice_rows rfl 22 3 _ rfl 28 17 iA _ Tryd.underlying22 hiA hzA hsA (by omega) [adA.cells, adB.cells, adA.cells] rfl (by intro x hx; simp at hx; rcases hx with rfl | rfl | rfl <;> exact Ad.len _) (by omega) (by rfl) ?_
        obtain ⟨w25, hw25⟩ : ∃ x, x = w18.alloc (.cells [adA.cells, adB.cells, adA.cells].flatten.toArray 28) := ⟨_, rfl⟩
        have t25 : Touch [] w18 w25 := by rw [hw25]; exact (Touch.refl [] w18).alloc _
        have h33 : Rd w25 17 w18.heap.size (.slice (some ⟨w18.heap.size, 0, none⟩) 3 3) ([adA, adB, adA].map Ad.cells) := by rw [hw25]; exact Rd.new w18 _ (by intro x hx; simp at hx; rcases hx with rfl | rfl | rfl <;> exact Ad.is _) (by simp) _
        rw [← hw25]
        clear hw25
        have hS2 := hS.trans t25 (by simp)
        refine ⟨rfl, hK.out _ _ hS2 (fun _ => ?_)⟩
        clear hK K hS t25
        have hS := hS2
        clear hS2
        try simp only [Act.put, List.setIfInBounds_toArray, List.set_cons_zero, List.set_cons_succ]
        refine wpAnyH_ready (rs := [26, 29]) (by kernel_rfl) (by simp) ?_
        refine AllReadyH.cons (o := { dst := some 34, op := Op.call { callee := Callee.value (Operand.func 17), args := #[Operand.tmp 33], argTypes := #[22] }, type := 22, pos := "law.go:16", after := #[{ on := 25, ground := Ground.data }, { on := 21, ground := Ground.chain }, { on := 21, ground := Ground.guard }], guard := some (21, true) }) rfl (fun K hK => ?_) (AllReadyH.cons (o := { dst := some 37, op := Op.buildSlice 22 2 #[(0, Operand.tmp 35), (1, Operand.tmp 36)], type := 22, pos := "law.go:16", after := #[{ on := 27, ground := Ground.data }, { on := 28, ground := Ground.data }, { on := 21, ground := Ground.guard }], guard := some (21, true) }) rfl (fun K hK => ?_) AllReadyH.nil)
        · go_simp
          refine (dedup_any _ _ [adA, adB, adA] _ h33 (by simp)).mono ?_
          rintro e w26 ⟨v34, rfl, h34, t26⟩
          rw [dedABA] at h34
          obtain ⟨a34, c34, rfl, _, _, hg34⟩ := h34.form
          obtain ⟨g34, rfl⟩ := hg34 (by simp)
          have h34x : Rd w26 17 g34 (.slice (some ⟨g34, 0, none⟩) 2 c34) ([adA, adB].map Ad.cells) := Rd.of_owns (ads_len17 _) h34.row (by intro b hb; simpa [Value.ownBlock] using hb.symm)
          clear h34
          have hS2 := hS.trans t26 (by simp)
          refine hK.out _ _ hS2 (fun _ => ?_)
          clear hK K hS t26
          have hS := hS2
          clear hS2
          try simp only [Act.put, List.setIfInBounds_toArray, List.set_cons_zero, List.set_cons_succ]
          refine wpAnyH_ready (rs := [29]) (by kernel_rfl) (by simp) ?_
          refine AllReadyH.cons (o := { dst := some 37, op := Op.buildSlice 22 2 #[(0, Operand.tmp 35), (1, Operand.tmp 36)], type := 22, pos := "law.go:16", after := #[{ on := 27, ground := Ground.data }, { on := 28, ground := Ground.data }, { on := 21, ground := Ground.guard }], guard := some (21, true) }) rfl (fun K hK => ?_) AllReadyH.nil
          refine step_guard (by rfl) ?_
          refine wpList_buildSlice_rows rfl 22 2 _ rfl 28 17 iA _ Tryd.underlying22 hiA hzA hsA (by omega) [adA.cells, adB.cells] rfl (by intro x hx; simp at hx; rcases hx with rfl | rfl <;> exact Ad.len _) (by omega) (by rfl) ?_
          obtain ⟨w29, hw29⟩ : ∃ x, x = w26.alloc (.cells [adA.cells, adB.cells].flatten.toArray 28) := ⟨_, rfl⟩
          have t29 : Touch [] w26 w29 := by rw [hw29]; exact (Touch.refl [] w26).alloc _
          have h37 : Rd w29 17 w26.heap.size (.slice (some ⟨w26.heap.size, 0, none⟩) 2 2) ([adA, adB].map Ad.cells) := by rw [hw29]; exact Rd.new w26 _ (by intro x hx; simp at hx; rcases hx with rfl | rfl <;> exact Ad.is _) (by simp) _
          rw [← hw29]
          clear hw29
          have h34x := Rd.touch t29 h34x (by simp)
          have hS2 := hS.trans t29 (by simp)
          refine ⟨rfl, hK.out _ _ hS2 (fun _ => ?_)⟩
          clear hK K hS t29
          have hS := hS2
          clear hS2
          try simp only [Act.put, List.setIfInBounds_toArray, List.set_cons_zero, List.set_cons_succ]
          refine wpAnyH_ready (rs := [30]) (by kernel_rfl) (by simp) ?_
          refine AllReadyH.cons (o := { dst := some 38, op := Op.call { callee := Callee.value (Operand.func 14), args := #[Operand.tmp 34, Operand.tmp 37], argTypes := #[22, 22] }, type := 4, pos := "law.go:16", after := #[{ on := 26, ground := Ground.data }, { on := 29, ground := Ground.data }, { on := 26, ground := Ground.chain }, { on := 21, ground := Ground.guard }], guard := some (21, true) }) rfl (fun K hK => ?_) AllReadyH.nil
          go_simp
          refine (equal_self _ _ _ _ ([adA, adB].map Ad.cells) _ (by simp) h34x h37 (by intro x hx; simp at hx; rcases hx with rfl | rfl <;> exact Ad.is _)).mono ?_
          rintro e w30 ⟨rfl, t30⟩
          have hS2 := hS.trans t30 (by simp)
          refine hK.out _ _ hS2 (fun _ => ?_)
          clear hK K hS t30
          have hS := hS2
          clear hS2
          try simp only [Act.put, List.setIfInBounds_toArray, List.set_cons_zero, List.set_cons_succ]
          refine wpAnyH_take (i := 31) (oi := { dst := some 39, op := Op.pick (Operand.tmp 29) (Operand.tmp 38) (Operand.const (Value.bool false)), type := 4, pos := "law.go:16", after := #[{ on := 21, ground := Ground.data }, { on := 30, ground := Ground.data }], guard := none }) (v := .bool true) rfl (by kernel_rfl) (by kernel_rfl) (by kernel_rfl) (fun _ _ _ h => h) (Or.inl ⟨by rfl, fun w' hw => by go_simp⟩) hS ?_
          try simp only [Act.put, List.setIfInBounds_toArray, List.set_cons_zero, List.set_cons_succ]
          refine wpAnyH_take (i := 32) (oi := { dst := some 0, op := Op.assign (Operand.tmp 39), type := 4, pos := "law.go:16", after := #[{ on := 31, ground := Ground.data }, { on := 30, ground := Ground.chain }, { on := 0, ground := Ground.phase }, { on := 1, ground := Ground.phase }, { on := 2, ground := Ground.phase }, { on := 3, ground := Ground.phase }, { on := 4, ground := Ground.phase }, { on := 5, ground := Ground.phase }, { on := 6, ground := Ground.phase }, { on := 7, ground := Ground.phase }, { on := 8, ground := Ground.phase }, { on := 9, ground := Ground.phase }, { on := 10, ground := Ground.phase }, { on := 11, ground := Ground.phase }, { on := 12, ground := Ground.phase }, { on := 13, ground := Ground.phase }, { on := 14, ground := Ground.phase }, { on := 15, ground := Ground.phase }, { on := 16, ground := Ground.phase }, { on := 17, ground := Ground.phase }, { on := 18, ground := Ground.phase }, { on := 19, ground := Ground.phase }, { on := 20, ground := Ground.phase }, { on := 21, ground := Ground.phase }, { on := 22, ground := Ground.phase }, { on := 23, ground := Ground.phase }, { on := 24, ground := Ground.phase }, { on := 25, ground := Ground.phase }, { on := 26, ground := Ground.phase }, { on := 27, ground := Ground.phase }, { on := 28, ground := Ground.phase }, { on := 29, ground := Ground.phase }, { on := 30, ground := Ground.phase }, { on := 31, ground := Ground.phase }], guard := none }) (v := .bool true) rfl (by kernel_rfl) (by kernel_rfl) (by kernel_rfl) (fun _ _ _ h => h) (Or.inl ⟨by rfl, fun w' hw => by go_simp⟩) hS ?_
          try simp only [Act.put, List.setIfInBounds_toArray, List.set_cons_zero, List.set_cons_succ]
          refine wpAnyH_done (by kernel_rfl) ?_ _
          try simp only [Act.put, List.setIfInBounds_toArray, List.set_cons_zero, List.set_cons_succ]
          go_wp2_with fail
          go_ret
          exact ⟨rfl, HT.out.trans hS (by simp)⟩
        · refine step_guard (by rfl) ?_
          refine wpList_buildSlice_rows rfl 22 2 _ rfl 28 17 iA _ Tryd.underlying22 hiA hzA hsA (by omega) [adA.cells, adB.cells] rfl (by intro x hx; simp at hx; rcases hx with rfl | rfl <;> exact Ad.len _) (by omega) (by rfl) ?_
          obtain ⟨w29, hw29⟩ : ∃ x, x = w25.alloc (.cells [adA.cells, adB.cells].flatten.toArray 28) := ⟨_, rfl⟩
          have t29 : Touch [] w25 w29 := by rw [hw29]; exact (Touch.refl [] w25).alloc _
          have h37 : Rd w29 17 w25.heap.size (.slice (some ⟨w25.heap.size, 0, none⟩) 2 2) ([adA, adB].map Ad.cells) := by rw [hw29]; exact Rd.new w25 _ (by intro x hx; simp at hx; rcases hx with rfl | rfl <;> exact Ad.is _) (by simp) _
          rw [← hw29]
          clear hw29
          have h33 := Rd.touch t29 h33 (by simp)
          have hS2 := hS.trans t29 (by simp)
          refine ⟨rfl, hK.out _ _ hS2 (fun _ => ?_)⟩
          clear hK K hS t29
          have hS := hS2
          clear hS2
          try simp only [Act.put, List.setIfInBounds_toArray, List.set_cons_zero, List.set_cons_succ]
          refine wpAnyH_ready (rs := [26]) (by kernel_rfl) (by simp) ?_
          refine AllReadyH.cons (o := { dst := some 34, op := Op.call { callee := Callee.value (Operand.func 17), args := #[Operand.tmp 33], argTypes := #[22] }, type := 22, pos := "law.go:16", after := #[{ on := 25, ground := Ground.data }, { on := 21, ground := Ground.chain }, { on := 21, ground := Ground.guard }], guard := some (21, true) }) rfl (fun K hK => ?_) AllReadyH.nil
          go_simp
          refine (dedup_any _ _ [adA, adB, adA] _ h33 (by simp)).mono ?_
          rintro e w26 ⟨v34, rfl, h34, t26⟩
          have h37 := Rd.touch t26 h37 (by simp)
          rw [dedABA] at h34
          obtain ⟨a34, c34, rfl, _, _, hg34⟩ := h34.form
          obtain ⟨g34, rfl⟩ := hg34 (by simp)
          have h34x : Rd w26 17 g34 (.slice (some ⟨g34, 0, none⟩) 2 c34) ([adA, adB].map Ad.cells) := Rd.of_owns (ads_len17 _) h34.row (by intro b hb; simpa [Value.ownBlock] using hb.symm)
          clear h34
          have hS2 := hS.trans t26 (by simp)
          refine hK.out _ _ hS2 (fun _ => ?_)
          clear hK K hS t26
          have hS := hS2
          clear hS2
          try simp only [Act.put, List.setIfInBounds_toArray, List.set_cons_zero, List.set_cons_succ]
          refine wpAnyH_ready (rs := [30]) (by kernel_rfl) (by simp) ?_
          refine AllReadyH.cons (o := { dst := some 38, op := Op.call { callee := Callee.value (Operand.func 14), args := #[Operand.tmp 34, Operand.tmp 37], argTypes := #[22, 22] }, type := 4, pos := "law.go:16", after := #[{ on := 26, ground := Ground.data }, { on := 29, ground := Ground.data }, { on := 26, ground := Ground.chain }, { on := 21, ground := Ground.guard }], guard := some (21, true) }) rfl (fun K hK => ?_) AllReadyH.nil
          go_simp
          refine (equal_self _ _ _ _ ([adA, adB].map Ad.cells) _ (by simp) h34x h37 (by intro x hx; simp at hx; rcases hx with rfl | rfl <;> exact Ad.is _)).mono ?_
          rintro e w30 ⟨rfl, t30⟩
          have hS2 := hS.trans t30 (by simp)
          refine hK.out _ _ hS2 (fun _ => ?_)
          clear hK K hS t30
          have hS := hS2
          clear hS2
          try simp only [Act.put, List.setIfInBounds_toArray, List.set_cons_zero, List.set_cons_succ]
          refine wpAnyH_take (i := 31) (oi := { dst := some 39, op := Op.pick (Operand.tmp 29) (Operand.tmp 38) (Operand.const (Value.bool false)), type := 4, pos := "law.go:16", after := #[{ on := 21, ground := Ground.data }, { on := 30, ground := Ground.data }], guard := none }) (v := .bool true) rfl (by kernel_rfl) (by kernel_rfl) (by kernel_rfl) (fun _ _ _ h => h) (Or.inl ⟨by rfl, fun w' hw => by go_simp⟩) hS ?_
          try simp only [Act.put, List.setIfInBounds_toArray, List.set_cons_zero, List.set_cons_succ]
          refine wpAnyH_take (i := 32) (oi := { dst := some 0, op := Op.assign (Operand.tmp 39), type := 4, pos := "law.go:16", after := #[{ on := 31, ground := Ground.data }, { on := 30, ground := Ground.chain }, { on := 0, ground := Ground.phase }, { on := 1, ground := Ground.phase }, { on := 2, ground := Ground.phase }, { on := 3, ground := Ground.phase }, { on := 4, ground := Ground.phase }, { on := 5, ground := Ground.phase }, { on := 6, ground := Ground.phase }, { on := 7, ground := Ground.phase }, { on := 8, ground := Ground.phase }, { on := 9, ground := Ground.phase }, { on := 10, ground := Ground.phase }, { on := 11, ground := Ground.phase }, { on := 12, ground := Ground.phase }, { on := 13, ground := Ground.phase }, { on := 14, ground := Ground.phase }, { on := 15, ground := Ground.phase }, { on := 16, ground := Ground.phase }, { on := 17, ground := Ground.phase }, { on := 18, ground := Ground.phase }, { on := 19, ground := Ground.phase }, { on := 20, ground := Ground.phase }, { on := 21, ground := Ground.phase }, { on := 22, ground := Ground.phase }, { on := 23, ground := Ground.phase }, { on := 24, ground := Ground.phase }, { on := 25, ground := Ground.phase }, { on := 26, ground := Ground.phase }, { on := 27, ground := Ground.phase }, { on := 28, ground := Ground.phase }, { on := 29, ground := Ground.phase }, { on := 30, ground := Ground.phase }, { on := 31, ground := Ground.phase }], guard := none }) (v := .bool true) rfl (by kernel_rfl) (by kernel_rfl) (by kernel_rfl) (fun _ _ _ h => h) (Or.inl ⟨by rfl, fun w' hw => by go_simp⟩) hS ?_
          try simp only [Act.put, List.setIfInBounds_toArray, List.set_cons_zero, List.set_cons_succ]
          refine wpAnyH_done (by kernel_rfl) ?_ _
          try simp only [Act.put, List.setIfInBounds_toArray, List.set_cons_zero, List.set_cons_succ]
          go_wp2_with fail
          go_ret
          exact ⟨rfl, HT.out.trans hS (by simp)⟩
      · refine step_guard (by rfl) ?_
        refine wpList_buildSlice_rows rfl 22 2 _ rfl 28 17 iA _ Tryd.underlying22 hiA hzA hsA (by omega) [adA.cells, adB.cells] rfl (by intro x hx; simp at hx; rcases hx with rfl | rfl <;> exact Ad.len _) (by omega) (by rfl) ?_
        obtain ⟨w29, hw29⟩ : ∃ x, x = w18.alloc (.cells [adA.cells, adB.cells].flatten.toArray 28) := ⟨_, rfl⟩
        have t29 : Touch [] w18 w29 := by rw [hw29]; exact (Touch.refl [] w18).alloc _
        have h37 : Rd w29 17 w18.heap.size (.slice (some ⟨w18.heap.size, 0, none⟩) 2 2) ([adA, adB].map Ad.cells) := by rw [hw29]; exact Rd.new w18 _ (by intro x hx; simp at hx; rcases hx with rfl | rfl <;> exact Ad.is _) (by simp) _
        rw [← hw29]
        clear hw29
        have hS2 := hS.trans t29 (by simp)
        refine ⟨rfl, hK.out _ _ hS2 (fun _ => ?_)⟩
        clear hK K hS t29
        have hS := hS2
        clear hS2
        try simp only [Act.put, List.setIfInBounds_toArray, List.set_cons_zero, List.set_cons_succ]
        refine wpAnyH_ready (rs := [25]) (by kernel_rfl) (by simp) ?_
        refine AllReadyH.cons (o := { dst := some 33, op := Op.buildSlice 22 3 #[(0, Operand.tmp 30), (1, Operand.tmp 31), (2, Operand.tmp 32)], type := 22, pos := "law.go:16", after := #[{ on := 22, ground := Ground.data }, { on := 23, ground := Ground.data }, { on := 24, ground := Ground.data }, { on := 21, ground := Ground.guard }], guard := some (21, true) }) rfl (fun K hK => ?_) AllReadyH.nil
        refine step_guard (by rfl) ?_
        refine wpList_buildSlice_rows rfl 22 3 _ rfl 28 17 iA _ Tryd.underlying22 hiA hzA hsA (by omega) [adA.cells, adB.cells, adA.cells] rfl (by intro x hx; simp at hx; rcases hx with rfl | rfl | rfl <;> exact Ad.len _) (by omega) (by rfl) ?_
        obtain ⟨w25, hw25⟩ : ∃ x, x = w29.alloc (.cells [adA.cells, adB.cells, adA.cells].flatten.toArray 28) := ⟨_, rfl⟩
        have t25 : Touch [] w29 w25 := by rw [hw25]; exact (Touch.refl [] w29).alloc _
        have h33 : Rd w25 17 w29.heap.size (.slice (some ⟨w29.heap.size, 0, none⟩) 3 3) ([adA, adB, adA].map Ad.cells) := by rw [hw25]; exact Rd.new w29 _ (by intro x hx; simp at hx; rcases hx with rfl | rfl | rfl <;> exact Ad.is _) (by simp) _
        rw [← hw25]
        clear hw25
        have h37 := Rd.touch t25 h37 (by simp)
        have hS2 := hS.trans t25 (by simp)
        refine ⟨rfl, hK.out _ _ hS2 (fun _ => ?_)⟩
        clear hK K hS t25
        have hS := hS2
        clear hS2
        try simp only [Act.put, List.setIfInBounds_toArray, List.set_cons_zero, List.set_cons_succ]
        refine wpAnyH_ready (rs := [26]) (by kernel_rfl) (by simp) ?_
        refine AllReadyH.cons (o := { dst := some 34, op := Op.call { callee := Callee.value (Operand.func 17), args := #[Operand.tmp 33], argTypes := #[22] }, type := 22, pos := "law.go:16", after := #[{ on := 25, ground := Ground.data }, { on := 21, ground := Ground.chain }, { on := 21, ground := Ground.guard }], guard := some (21, true) }) rfl (fun K hK => ?_) AllReadyH.nil
        go_simp
        refine (dedup_any _ _ [adA, adB, adA] _ h33 (by simp)).mono ?_
        rintro e w26 ⟨v34, rfl, h34, t26⟩
        have h37 := Rd.touch t26 h37 (by simp)
        rw [dedABA] at h34
        obtain ⟨a34, c34, rfl, _, _, hg34⟩ := h34.form
        obtain ⟨g34, rfl⟩ := hg34 (by simp)
        have h34x : Rd w26 17 g34 (.slice (some ⟨g34, 0, none⟩) 2 c34) ([adA, adB].map Ad.cells) := Rd.of_owns (ads_len17 _) h34.row (by intro b hb; simpa [Value.ownBlock] using hb.symm)
        clear h34
        have hS2 := hS.trans t26 (by simp)
        refine hK.out _ _ hS2 (fun _ => ?_)
        clear hK K hS t26
        have hS := hS2
        clear hS2
        try simp only [Act.put, List.setIfInBounds_toArray, List.set_cons_zero, List.set_cons_succ]
        refine wpAnyH_ready (rs := [30]) (by kernel_rfl) (by simp) ?_
        refine AllReadyH.cons (o := { dst := some 38, op := Op.call { callee := Callee.value (Operand.func 14), args := #[Operand.tmp 34, Operand.tmp 37], argTypes := #[22, 22] }, type := 4, pos := "law.go:16", after := #[{ on := 26, ground := Ground.data }, { on := 29, ground := Ground.data }, { on := 26, ground := Ground.chain }, { on := 21, ground := Ground.guard }], guard := some (21, true) }) rfl (fun K hK => ?_) AllReadyH.nil
        go_simp
        refine (equal_self _ _ _ _ ([adA, adB].map Ad.cells) _ (by simp) h34x h37 (by intro x hx; simp at hx; rcases hx with rfl | rfl <;> exact Ad.is _)).mono ?_
        rintro e w30 ⟨rfl, t30⟩
        have hS2 := hS.trans t30 (by simp)
        refine hK.out _ _ hS2 (fun _ => ?_)
        clear hK K hS t30
        have hS := hS2
        clear hS2
        try simp only [Act.put, List.setIfInBounds_toArray, List.set_cons_zero, List.set_cons_succ]
        refine wpAnyH_take (i := 31) (oi := { dst := some 39, op := Op.pick (Operand.tmp 29) (Operand.tmp 38) (Operand.const (Value.bool false)), type := 4, pos := "law.go:16", after := #[{ on := 21, ground := Ground.data }, { on := 30, ground := Ground.data }], guard := none }) (v := .bool true) rfl (by kernel_rfl) (by kernel_rfl) (by kernel_rfl) (fun _ _ _ h => h) (Or.inl ⟨by rfl, fun w' hw => by go_simp⟩) hS ?_
        try simp only [Act.put, List.setIfInBounds_toArray, List.set_cons_zero, List.set_cons_succ]
        refine wpAnyH_take (i := 32) (oi := { dst := some 0, op := Op.assign (Operand.tmp 39), type := 4, pos := "law.go:16", after := #[{ on := 31, ground := Ground.data }, { on := 30, ground := Ground.chain }, { on := 0, ground := Ground.phase }, { on := 1, ground := Ground.phase }, { on := 2, ground := Ground.phase }, { on := 3, ground := Ground.phase }, { on := 4, ground := Ground.phase }, { on := 5, ground := Ground.phase }, { on := 6, ground := Ground.phase }, { on := 7, ground := Ground.phase }, { on := 8, ground := Ground.phase }, { on := 9, ground := Ground.phase }, { on := 10, ground := Ground.phase }, { on := 11, ground := Ground.phase }, { on := 12, ground := Ground.phase }, { on := 13, ground := Ground.phase }, { on := 14, ground := Ground.phase }, { on := 15, ground := Ground.phase }, { on := 16, ground := Ground.phase }, { on := 17, ground := Ground.phase }, { on := 18, ground := Ground.phase }, { on := 19, ground := Ground.phase }, { on := 20, ground := Ground.phase }, { on := 21, ground := Ground.phase }, { on := 22, ground := Ground.phase }, { on := 23, ground := Ground.phase }, { on := 24, ground := Ground.phase }, { on := 25, ground := Ground.phase }, { on := 26, ground := Ground.phase }, { on := 27, ground := Ground.phase }, { on := 28, ground := Ground.phase }, { on := 29, ground := Ground.phase }, { on := 30, ground := Ground.phase }, { on := 31, ground := Ground.phase }], guard := none }) (v := .bool true) rfl (by kernel_rfl) (by kernel_rfl) (by kernel_rfl) (fun _ _ _ h => h) (Or.inl ⟨by rfl, fun w' hw => by go_simp⟩) hS ?_
        try simp only [Act.put, List.setIfInBounds_toArray, List.set_cons_zero, List.set_cons_succ]
        refine wpAnyH_done (by kernel_rfl) ?_ _
        try simp only [Act.put, List.setIfInBounds_toArray, List.set_cons_zero, List.set_cons_succ]
        go_wp2_with fail
        go_ret
        exact ⟨rfl, HT.out.trans hS (by simp)⟩
  · refine step_of_list rfl ?_
    refine wpList_buildSlice_rows rfl 22 3 _ rfl 28 17 iA _ Tryd.underlying22 hiA hzA hsA (by omega) [adC.cells, adB.cells, adA.cells] rfl (by intro x hx; simp at hx; rcases hx with rfl | rfl | rfl <;> exact Ad.len _) (by omega) (by rfl) ?_
    obtain ⟨w8, hw8⟩ : ∃ x, x = W.alloc (.cells [adC.cells, adB.cells, adA.cells].flatten.toArray 28) := ⟨_, rfl⟩
    have t8 : Touch [] W w8 := by rw [hw8]; exact (Touch.refl [] W).alloc _
    have h16 : Rd w8 17 W.heap.size (.slice (some ⟨W.heap.size, 0, none⟩) 3 3) ([adC, adB, adA].map Ad.cells) := by rw [hw8]; exact Rd.new W _ (by intro x hx; simp at hx; rcases hx with rfl | rfl | rfl <;> exact Ad.is _) (by simp) _
    rw [← hw8]
    clear hw8
    have hS2 := hS.trans t8 (by simp)
    refine ⟨rfl, hK.out _ _ hS2 (fun _ => ?_)⟩
    clear hK K hS t8
    have hS := hS2
    clear hS2
    try simp only [Act.put, List.setIfInBounds_toArray, List.set_cons_zero, List.set_cons_succ]
    refine wpAnyH_ready (rs := [3]) (by kernel_rfl) (by simp) ?_
    refine AllReadyH.cons (o := { dst := some 11, op := Op.buildSlice 22 3 #[(0, Operand.tmp 8), (1, Operand.tmp 9), (2, Operand.tmp 10)], type := 22, pos := "law.go:16", after := #[{ on := 0, ground := Ground.data }, { on := 1, ground := Ground.data }, { on := 2, ground := Ground.data }], guard := none }) rfl (fun K hK => ?_) AllReadyH.nil
    refine step_of_list rfl ?_
    refine wpList_buildSlice_rows rfl 22 3 _ rfl 28 17 iA _ Tryd.underlying22 hiA hzA hsA (by omega) [adA.cells, adB.cells, adC.cells] rfl (by intro x hx; simp at hx; rcases hx with rfl | rfl | rfl <;> exact Ad.len _) (by omega) (by rfl) ?_
    obtain ⟨w3, hw3⟩ : ∃ x, x = w8.alloc (.cells [adA.cells, adB.cells, adC.cells].flatten.toArray 28) := ⟨_, rfl⟩
    have t3 : Touch [] w8 w3 := by rw [hw3]; exact (Touch.refl [] w8).alloc _
    have h11 : Rd w3 17 w8.heap.size (.slice (some ⟨w8.heap.size, 0, none⟩) 3 3) ([adA, adB, adC].map Ad.cells) := by rw [hw3]; exact Rd.new w8 _ (by intro x hx; simp at hx; rcases hx with rfl | rfl | rfl <;> exact Ad.is _) (by simp) _
    rw [← hw3]
    clear hw3
    have h16 := Rd.touch t3 h16 (by simp)
    have hS2 := hS.trans t3 (by simp)
    refine ⟨rfl, hK.out _ _ hS2 (fun _ => ?_)⟩
    clear hK K hS t3
    have hS := hS2
    clear hS2
    try simp only [Act.put, List.setIfInBounds_toArray, List.set_cons_zero, List.set_cons_succ]
    refine wpAnyH_ready (rs := [4]) (by kernel_rfl) (by simp) ?_
    refine AllReadyH.cons (o := { dst := some 12, op := Op.call { callee := Callee.value (Operand.func 15), args := #[Operand.tmp 11], argTypes := #[22] }, type := 22, pos := "law.go:16", after := #[{ on := 3, ground := Ground.data }], guard := none }) rfl (fun K hK => ?_) AllReadyH.nil
    go_simp
    refine (sort_any _ _ [adA, adB, adC] _ h11 (by simp)).mono ?_
    rintro e w4 ⟨v12, rfl, h12, t4⟩
    have h16 := Rd.touch t4 h16 (by simp)
    rw [srtABC] at h12
    obtain ⟨a12, c12, rfl, _, _, hg12⟩ := h12.form
    obtain ⟨g12, rfl⟩ := hg12 (by simp)
    have h12x : Rd w4 17 g12 (.slice (some ⟨g12, 0, none⟩) 3 c12) ([adC, adB, adA].map Ad.cells) := Rd.of_owns (ads_len17 _) h12.row (by intro b hb; simpa [Value.ownBlock] using hb.symm)
    clear h12
    have hS2 := hS.trans t4 (by simp)
    refine hK.out _ _ hS2 (fun _ => ?_)
    clear hK K hS t4
    have hS := hS2
    clear hS2
    try simp only [Act.put, List.setIfInBounds_toArray, List.set_cons_zero, List.set_cons_succ]
    refine wpAnyH_ready (rs := [9]) (by kernel_rfl) (by simp) ?_
    refine AllReadyH.cons (o := { dst := some 17, op := Op.call { callee := Callee.value (Operand.func 14), args := #[Operand.tmp 12, Operand.tmp 16], argTypes := #[22, 22] }, type := 4, pos := "law.go:16", after := #[{ on := 4, ground := Ground.data }, { on := 8, ground := Ground.data }, { on := 4, ground := Ground.chain }], guard := none }) rfl (fun K hK => ?_) AllReadyH.nil
    go_simp
    refine (equal_self _ _ _ _ ([adC, adB, adA].map Ad.cells) _ (by simp) h12x h16 (by intro x hx; simp at hx; rcases hx with rfl | rfl | rfl <;> exact Ad.is _)).mono ?_
    rintro e w9 ⟨rfl, t9⟩
    have hS2 := hS.trans t9 (by simp)
    refine hK.out _ _ hS2 (fun _ => ?_)
    clear hK K hS t9
    have hS := hS2
    clear hS2
    try simp only [Act.put, List.setIfInBounds_toArray, List.set_cons_zero, List.set_cons_succ]
    refine wpAnyH_take (i := 10) (oi := { dst := some 18, op := Op.move (Operand.tmp 17), type := 4, pos := "law.go:16", after := #[{ on := 9, ground := Ground.data }, { on := 9, ground := Ground.chain }], guard := none }) (v := .bool true) rfl (by kernel_rfl) (by kernel_rfl) (by kernel_rfl) (fun _ _ _ h => h) (Or.inl ⟨by rfl, fun w' hw => by go_simp⟩) hS ?_
    try simp only [Act.put, List.setIfInBounds_toArray, List.set_cons_zero, List.set_cons_succ]
    refine wpAnyH_take (i := 11) (oi := { dst := some 19, op := Op.load 28 (Operand.tmp 3), type := 28, pos := "law.go:16", after := #[{ on := 10, ground := Ground.guard }], guard := some (10, true) }) (v := .agg adC.cells.toArray) rfl (by kernel_rfl) (by kernel_rfl) (by kernel_rfl) (fun _ _ _ h => h) (Or.inl ⟨by rfl, fun w' hw => exec_load_agg _ 28 _ rfl _ _ rfl adC.cells _ (hw.range rC (by simp)) Tryd.underlying28 rfl (by rw [size31, adC.len])⟩) hS ?_
    try simp only [Act.put, List.setIfInBounds_toArray, List.set_cons_zero, List.set_cons_succ]
    refine wpAnyH_take (i := 12) (oi := { dst := some 20, op := Op.load 28 (Operand.tmp 1), type := 28, pos := "law.go:16", after := #[{ on := 10, ground := Ground.guard }], guard := some (10, true) }) (v := .agg adA.cells.toArray) rfl (by kernel_rfl) (by kernel_rfl) (by kernel_rfl) (fun _ _ _ h => h) (Or.inl ⟨by rfl, fun w' hw => exec_load_agg _ 28 _ rfl _ _ rfl adA.cells _ (hw.range rA (by simp)) Tryd.underlying28 rfl (by rw [size31, adA.len])⟩) hS ?_
    try simp only [Act.put, List.setIfInBounds_toArray, List.set_cons_zero, List.set_cons_succ]
    refine wpAnyH_ready (rs := [13]) (by kernel_rfl) (by simp) ?_
    refine AllReadyH.cons (o := { dst := some 21, op := Op.call { callee := Callee.value (Operand.func 19), args := #[Operand.tmp 19, Operand.tmp 20], argTypes := #[28, 28] }, type := 4, pos := "law.go:16", after := #[{ on := 11, ground := Ground.data }, { on := 12, ground := Ground.data }, { on := 10, ground := Ground.chain }, { on := 10, ground := Ground.guard }], guard := some (10, true) }) rfl (fun K hK => ?_) AllReadyH.nil
    go_simp
    refine (less_any _ _ _ _ adC.ok adA.ok _).mono ?_
    rintro e w13 ⟨he, t13⟩
    rw [lessCA] at he
    subst he
    have hS2 := hS.trans t13 (by simp)
    refine hK.out _ _ hS2 (fun _ => ?_)
    clear hK K hS t13
    have hS := hS2
    clear hS2
    try simp only [Act.put, List.setIfInBounds_toArray, List.set_cons_zero, List.set_cons_succ]
    refine wpAnyH_take (i := 14) (oi := { dst := some 22, op := Op.pick (Operand.tmp 18) (Operand.tmp 21) (Operand.const (Value.bool false)), type := 4, pos := "law.go:16", after := #[{ on := 10, ground := Ground.data }, { on := 13, ground := Ground.data }], guard := none }) (v := .bool true) rfl (by kernel_rfl) (by kernel_rfl) (by kernel_rfl) (fun _ _ _ h => h) (Or.inl ⟨by rfl, fun w' hw => by go_simp⟩) hS ?_
    try simp only [Act.put, List.setIfInBounds_toArray, List.set_cons_zero, List.set_cons_succ]
    refine wpAnyH_take (i := 15) (oi := { dst := some 23, op := Op.move (Operand.tmp 22), type := 4, pos := "law.go:16", after := #[{ on := 14, ground := Ground.data }, { on := 13, ground := Ground.chain }], guard := none }) (v := .bool true) rfl (by kernel_rfl) (by kernel_rfl) (by kernel_rfl) (fun _ _ _ h => h) (Or.inl ⟨by rfl, fun w' hw => by go_simp⟩) hS ?_
    try simp only [Act.put, List.setIfInBounds_toArray, List.set_cons_zero, List.set_cons_succ]
    refine wpAnyH_take (i := 16) (oi := { dst := some 24, op := Op.load 28 (Operand.tmp 1), type := 28, pos := "law.go:16", after := #[{ on := 15, ground := Ground.guard }], guard := some (15, true) }) (v := .agg adA.cells.toArray) rfl (by kernel_rfl) (by kernel_rfl) (by kernel_rfl) (fun _ _ _ h => h) (Or.inl ⟨by rfl, fun w' hw => exec_load_agg _ 28 _ rfl _ _ rfl adA.cells _ (hw.range rA (by simp)) Tryd.underlying28 rfl (by rw [size31, adA.len])⟩) hS ?_
    try simp only [Act.put, List.setIfInBounds_toArray, List.set_cons_zero, List.set_cons_succ]
    refine wpAnyH_take (i := 17) (oi := { dst := some 25, op := Op.load 28 (Operand.tmp 2), type := 28, pos := "law.go:16", after := #[{ on := 15, ground := Ground.guard }], guard := some (15, true) }) (v := .agg adB.cells.toArray) rfl (by kernel_rfl) (by kernel_rfl) (by kernel_rfl) (fun _ _ _ h => h) (Or.inl ⟨by rfl, fun w' hw => exec_load_agg _ 28 _ rfl _ _ rfl adB.cells _ (hw.range rB (by simp)) Tryd.underlying28 rfl (by rw [size31, adB.len])⟩) hS ?_
    try simp only [Act.put, List.setIfInBounds_toArray, List.set_cons_zero, List.set_cons_succ]
    refine wpAnyH_ready (rs := [18]) (by kernel_rfl) (by simp) ?_
    refine AllReadyH.cons (o := { dst := some 26, op := Op.call { callee := Callee.value (Operand.func 19), args := #[Operand.tmp 24, Operand.tmp 25], argTypes := #[28, 28] }, type := 4, pos := "law.go:16", after := #[{ on := 16, ground := Ground.data }, { on := 17, ground := Ground.data }, { on := 15, ground := Ground.chain }, { on := 15, ground := Ground.guard }], guard := some (15, true) }) rfl (fun K hK => ?_) AllReadyH.nil
    go_simp
    refine (less_any _ _ _ _ adA.ok adB.ok _).mono ?_
    rintro e w18 ⟨he, t18⟩
    rw [lessAB] at he
    subst he
    have hS2 := hS.trans t18 (by simp)
    refine hK.out _ _ hS2 (fun _ => ?_)
    clear hK K hS t18
    have hS := hS2
    clear hS2
    try simp only [Act.put, List.setIfInBounds_toArray, List.set_cons_zero, List.set_cons_succ]
    refine wpAnyH_take (i := 19) (oi := { dst := some 27, op := Op.unOp UnOp.not 4 (Operand.tmp 26), type := 4, pos := "law.go:16", after := #[{ on := 18, ground := Ground.data }, { on := 15, ground := Ground.guard }], guard := some (15, true) }) (v := .bool true) rfl (by kernel_rfl) (by kernel_rfl) (by kernel_rfl) (fun _ _ _ h => h) (Or.inl ⟨by rfl, fun w' hw => by go_simp⟩) hS ?_
    try simp only [Act.put, List.setIfInBounds_toArray, List.set_cons_zero, List.set_cons_succ]
    refine wpAnyH_take (i := 20) (oi := { dst := some 28, op := Op.pick (Operand.tmp 23) (Operand.tmp 27) (Operand.const (Value.bool false)), type := 4, pos := "law.go:16", after := #[{ on := 15, ground := Ground.data }, { on := 19, ground := Ground.data }], guard := none }) (v := .bool true) rfl (by kernel_rfl) (by kernel_rfl) (by kernel_rfl) (fun _ _ _ h => h) (Or.inl ⟨by rfl, fun w' hw => by go_simp⟩) hS ?_
    try simp only [Act.put, List.setIfInBounds_toArray, List.set_cons_zero, List.set_cons_succ]
    refine wpAnyH_take (i := 21) (oi := { dst := some 29, op := Op.move (Operand.tmp 28), type := 4, pos := "law.go:16", after := #[{ on := 20, ground := Ground.data }, { on := 18, ground := Ground.chain }], guard := none }) (v := .bool true) rfl (by kernel_rfl) (by kernel_rfl) (by kernel_rfl) (fun _ _ _ h => h) (Or.inl ⟨by rfl, fun w' hw => by go_simp⟩) hS ?_
    try simp only [Act.put, List.setIfInBounds_toArray, List.set_cons_zero, List.set_cons_succ]
    refine wpAnyH_take (i := 22) (oi := { dst := some 30, op := Op.load 28 (Operand.tmp 1), type := 28, pos := "law.go:16", after := #[{ on := 21, ground := Ground.guard }], guard := some (21, true) }) (v := .agg adA.cells.toArray) rfl (by kernel_rfl) (by kernel_rfl) (by kernel_rfl) (fun _ _ _ h => h) (Or.inl ⟨by rfl, fun w' hw => exec_load_agg _ 28 _ rfl _ _ rfl adA.cells _ (hw.range rA (by simp)) Tryd.underlying28 rfl (by rw [size31, adA.len])⟩) hS ?_
    try simp only [Act.put, List.setIfInBounds_toArray, List.set_cons_zero, List.set_cons_succ]
    refine wpAnyH_take (i := 23) (oi := { dst := some 31, op := Op.load 28 (Operand.tmp 2), type := 28, pos := "law.go:16", after := #[{ on := 21, ground := Ground.guard }], guard := some (21, true) }) (v := .agg adB.cells.toArray) rfl (by kernel_rfl) (by kernel_rfl) (by kernel_rfl) (fun _ _ _ h => h) (Or.inl ⟨by rfl, fun w' hw => exec_load_agg _ 28 _ rfl _ _ rfl adB.cells _ (hw.range rB (by simp)) Tryd.underlying28 rfl (by rw [size31, adB.len])⟩) hS ?_
    try simp only [Act.put, List.setIfInBounds_toArray, List.set_cons_zero, List.set_cons_succ]
    refine wpAnyH_take (i := 24) (oi := { dst := some 32, op := Op.load 28 (Operand.tmp 1), type := 28, pos := "law.go:16", after := #[{ on := 21, ground := Ground.guard }], guard := some (21, true) }) (v := .agg adA.cells.toArray) rfl (by kernel_rfl) (by kernel_rfl) (by kernel_rfl) (fun _ _ _ h => h) (Or.inl ⟨by rfl, fun w' hw => exec_load_agg _ 28 _ rfl _ _ rfl adA.cells _ (hw.range rA (by simp)) Tryd.underlying28 rfl (by rw [size31, adA.len])⟩) hS ?_
    try simp only [Act.put, List.setIfInBounds_toArray, List.set_cons_zero, List.set_cons_succ]
    refine wpAnyH_take (i := 27) (oi := { dst := some 35, op := Op.load 28 (Operand.tmp 1), type := 28, pos := "law.go:16", after := #[{ on := 21, ground := Ground.guard }], guard := some (21, true) }) (v := .agg adA.cells.toArray) rfl (by kernel_rfl) (by kernel_rfl) (by kernel_rfl) (fun _ _ _ h => h) (Or.inl ⟨by rfl, fun w' hw => exec_load_agg _ 28 _ rfl _ _ rfl adA.cells _ (hw.range rA (by simp)) Tryd.underlying28 rfl (by rw [size31, adA.len])⟩) hS ?_
    try simp only [Act.put, List.setIfInBounds_toArray, List.set_cons_zero, List.set_cons_succ]
    refine wpAnyH_take (i := 28) (oi := { dst := some 36, op := Op.load 28 (Operand.tmp 2), type := 28, pos := "law.go:16", after := #[{ on := 21, ground := Ground.guard }], guard := some (21, true) }) (v := .agg adB.cells.toArray) rfl (by kernel_rfl) (by kernel_rfl) (by kernel_rfl) (fun _ _ _ h => h) (Or.inl ⟨by rfl, fun w' hw => exec_load_agg _ 28 _ rfl _ _ rfl adB.cells _ (hw.range rB (by simp)) Tryd.underlying28 rfl (by rw [size31, adB.len])⟩) hS ?_
    try simp only [Act.put, List.setIfInBounds_toArray, List.set_cons_zero, List.set_cons_succ]
    refine wpAnyH_ready (rs := [25, 29]) (by kernel_rfl) (by simp) ?_
    refine AllReadyH.cons (o := { dst := some 33, op := Op.buildSlice 22 3 #[(0, Operand.tmp 30), (1, Operand.tmp 31), (2, Operand.tmp 32)], type := 22, pos := "law.go:16", after := #[{ on := 22, ground := Ground.data }, { on := 23, ground := Ground.data }, { on := 24, ground := Ground.data }, { on := 21, ground := Ground.guard }], guard := some (21, true) }) rfl (fun K hK => ?_) (AllReadyH.cons (o := { dst := some 37, op := Op.buildSlice 22 2 #[(0, Operand.tmp 35), (1, Operand.tmp 36)], type := 22, pos := "law.go:16", after := #[{ on := 27, ground := Ground.data }, { on := 28, ground := Ground.data }, { on := 21, ground := Ground.guard }], guard := some (21, true) }) rfl (fun K hK => ?_) AllReadyH.nil)
    · refine step_guard (by rfl) ?_
      refine wpList_buildSlice_rows rfl 22 3 _ rfl 28 17 iA _ Tryd.underlying22 hiA hzA hsA (by omega) [adA.cells, adB.cells, adA.cells] rfl (by intro x hx; simp at hx; rcases hx with rfl | rfl | rfl <;> exact Ad.len _) (by omega) (by rfl) ?_
      obtain ⟨w25, hw25⟩ : ∃ x, x = w18.alloc (.cells [adA.cells, adB.cells, adA.cells].flatten.toArray 28) := ⟨_, rfl⟩
      have t25 : Touch [] w18 w25 := by rw [hw25]; exact (Touch.refl [] w18).alloc _
      have h33 : Rd w25 17 w18.heap.size (.slice (some ⟨w18.heap.size, 0, none⟩) 3 3) ([adA, adB, adA].map Ad.cells) := by rw [hw25]; exact Rd.new w18 _ (by intro x hx; simp at hx; rcases hx with rfl | rfl | rfl <;> exact Ad.is _) (by simp) _
      rw [← hw25]
      clear hw25
      have hS2 := hS.trans t25 (by simp)
      refine ⟨rfl, hK.out _ _ hS2 (fun _ => ?_)⟩
      clear hK K hS t25
      have hS := hS2
      clear hS2
      try simp only [Act.put, List.setIfInBounds_toArray, List.set_cons_zero, List.set_cons_succ]
      refine wpAnyH_ready (rs := [26, 29]) (by kernel_rfl) (by simp) ?_
      refine AllReadyH.cons (o := { dst := some 34, op := Op.call { callee := Callee.value (Operand.func 17), args := #[Operand.tmp 33], argTypes := #[22] }, type := 22, pos := "law.go:16", after := #[{ on := 25, ground := Ground.data }, { on := 21, ground := Ground.chain }, { on := 21, ground := Ground.guard }], guard := some (21, true) }) rfl (fun K hK => ?_) (AllReadyH.cons (o := { dst := some 37, op := Op.buildSlice 22 2 #[(0, Operand.tmp 35), (1, Operand.tmp 36)], type := 22, pos := "law.go:16", after := #[{ on := 27, ground := Ground.data }, { on := 28, ground := Ground.data }, { on := 21, ground := Ground.guard }], guard := some (21, true) }) rfl (fun K hK => ?_) AllReadyH.nil)
      · go_simp
        refine (dedup_any _ _ [adA, adB, adA] _ h33 (by simp)).mono ?_
        rintro e w26 ⟨v34, rfl, h34, t26⟩
        rw [dedABA] at h34
        obtain ⟨a34, c34, rfl, _, _, hg34⟩ := h34.form
        obtain ⟨g34, rfl⟩ := hg34 (by simp)
        have h34x : Rd w26 17 g34 (.slice (some ⟨g34, 0, none⟩) 2 c34) ([adA, adB].map Ad.cells) := Rd.of_owns (ads_len17 _) h34.row (by intro b hb; simpa [Value.ownBlock] using hb.symm)
        clear h34
        have hS2 := hS.trans t26 (by simp)
        refine hK.out _ _ hS2 (fun _ => ?_)
        clear hK K hS t26
        have hS := hS2
        clear hS2
        try simp only [Act.put, List.setIfInBounds_toArray, List.set_cons_zero, List.set_cons_succ]
        refine wpAnyH_ready (rs := [29]) (by kernel_rfl) (by simp) ?_
        refine AllReadyH.cons (o := { dst := some 37, op := Op.buildSlice 22 2 #[(0, Operand.tmp 35), (1, Operand.tmp 36)], type := 22, pos := "law.go:16", after := #[{ on := 27, ground := Ground.data }, { on := 28, ground := Ground.data }, { on := 21, ground := Ground.guard }], guard := some (21, true) }) rfl (fun K hK => ?_) AllReadyH.nil
        refine step_guard (by rfl) ?_
        refine wpList_buildSlice_rows rfl 22 2 _ rfl 28 17 iA _ Tryd.underlying22 hiA hzA hsA (by omega) [adA.cells, adB.cells] rfl (by intro x hx; simp at hx; rcases hx with rfl | rfl <;> exact Ad.len _) (by omega) (by rfl) ?_
        obtain ⟨w29, hw29⟩ : ∃ x, x = w26.alloc (.cells [adA.cells, adB.cells].flatten.toArray 28) := ⟨_, rfl⟩
        have t29 : Touch [] w26 w29 := by rw [hw29]; exact (Touch.refl [] w26).alloc _
        have h37 : Rd w29 17 w26.heap.size (.slice (some ⟨w26.heap.size, 0, none⟩) 2 2) ([adA, adB].map Ad.cells) := by rw [hw29]; exact Rd.new w26 _ (by intro x hx; simp at hx; rcases hx with rfl | rfl <;> exact Ad.is _) (by simp) _
        rw [← hw29]
        clear hw29
        have h34x := Rd.touch t29 h34x (by simp)
        have hS2 := hS.trans t29 (by simp)
        refine ⟨rfl, hK.out _ _ hS2 (fun _ => ?_)⟩
        clear hK K hS t29
        have hS := hS2
        clear hS2
        try simp only [Act.put, List.setIfInBounds_toArray, List.set_cons_zero, List.set_cons_succ]
        refine wpAnyH_ready (rs := [30]) (by kernel_rfl) (by simp) ?_
        refine AllReadyH.cons (o := { dst := some 38, op := Op.call { callee := Callee.value (Operand.func 14), args := #[Operand.tmp 34, Operand.tmp 37], argTypes := #[22, 22] }, type := 4, pos := "law.go:16", after := #[{ on := 26, ground := Ground.data }, { on := 29, ground := Ground.data }, { on := 26, ground := Ground.chain }, { on := 21, ground := Ground.guard }], guard := some (21, true) }) rfl (fun K hK => ?_) AllReadyH.nil
        go_simp
        refine (equal_self _ _ _ _ ([adA, adB].map Ad.cells) _ (by simp) h34x h37 (by intro x hx; simp at hx; rcases hx with rfl | rfl <;> exact Ad.is _)).mono ?_
        rintro e w30 ⟨rfl, t30⟩
        have hS2 := hS.trans t30 (by simp)
        refine hK.out _ _ hS2 (fun _ => ?_)
        clear hK K hS t30
        have hS := hS2
        clear hS2
        try simp only [Act.put, List.setIfInBounds_toArray, List.set_cons_zero, List.set_cons_succ]
        refine wpAnyH_take (i := 31) (oi := { dst := some 39, op := Op.pick (Operand.tmp 29) (Operand.tmp 38) (Operand.const (Value.bool false)), type := 4, pos := "law.go:16", after := #[{ on := 21, ground := Ground.data }, { on := 30, ground := Ground.data }], guard := none }) (v := .bool true) rfl (by kernel_rfl) (by kernel_rfl) (by kernel_rfl) (fun _ _ _ h => h) (Or.inl ⟨by rfl, fun w' hw => by go_simp⟩) hS ?_
        try simp only [Act.put, List.setIfInBounds_toArray, List.set_cons_zero, List.set_cons_succ]
        refine wpAnyH_take (i := 32) (oi := { dst := some 0, op := Op.assign (Operand.tmp 39), type := 4, pos := "law.go:16", after := #[{ on := 31, ground := Ground.data }, { on := 30, ground := Ground.chain }, { on := 0, ground := Ground.phase }, { on := 1, ground := Ground.phase }, { on := 2, ground := Ground.phase }, { on := 3, ground := Ground.phase }, { on := 4, ground := Ground.phase }, { on := 5, ground := Ground.phase }, { on := 6, ground := Ground.phase }, { on := 7, ground := Ground.phase }, { on := 8, ground := Ground.phase }, { on := 9, ground := Ground.phase }, { on := 10, ground := Ground.phase }, { on := 11, ground := Ground.phase }, { on := 12, ground := Ground.phase }, { on := 13, ground := Ground.phase }, { on := 14, ground := Ground.phase }, { on := 15, ground := Ground.phase }, { on := 16, ground := Ground.phase }, { on := 17, ground := Ground.phase }, { on := 18, ground := Ground.phase }, { on := 19, ground := Ground.phase }, { on := 20, ground := Ground.phase }, { on := 21, ground := Ground.phase }, { on := 22, ground := Ground.phase }, { on := 23, ground := Ground.phase }, { on := 24, ground := Ground.phase }, { on := 25, ground := Ground.phase }, { on := 26, ground := Ground.phase }, { on := 27, ground := Ground.phase }, { on := 28, ground := Ground.phase }, { on := 29, ground := Ground.phase }, { on := 30, ground := Ground.phase }, { on := 31, ground := Ground.phase }], guard := none }) (v := .bool true) rfl (by kernel_rfl) (by kernel_rfl) (by kernel_rfl) (fun _ _ _ h => h) (Or.inl ⟨by rfl, fun w' hw => by go_simp⟩) hS ?_
        try simp only [Act.put, List.setIfInBounds_toArray, List.set_cons_zero, List.set_cons_succ]
        refine wpAnyH_done (by kernel_rfl) ?_ _
        try simp only [Act.put, List.setIfInBounds_toArray, List.set_cons_zero, List.set_cons_succ]
        go_wp2_with fail
        go_ret
        exact ⟨rfl, HT.out.trans hS (by simp)⟩
      · refine step_guard (by rfl) ?_
        refine wpList_buildSlice_rows rfl 22 2 _ rfl 28 17 iA _ Tryd.underlying22 hiA hzA hsA (by omega) [adA.cells, adB.cells] rfl (by intro x hx; simp at hx; rcases hx with rfl | rfl <;> exact Ad.len _) (by omega) (by rfl) ?_
        obtain ⟨w29, hw29⟩ : ∃ x, x = w25.alloc (.cells [adA.cells, adB.cells].flatten.toArray 28) := ⟨_, rfl⟩
        have t29 : Touch [] w25 w29 := by rw [hw29]; exact (Touch.refl [] w25).alloc _
        have h37 : Rd w29 17 w25.heap.size (.slice (some ⟨w25.heap.size, 0, none⟩) 2 2) ([adA, adB].map Ad.cells) := by rw [hw29]; exact Rd.new w25 _ (by intro x hx; simp at hx; rcases hx with rfl | rfl <;> exact Ad.is _) (by simp) _
        rw [← hw29]
        clear hw29
        have h33 := Rd.touch t29 h33 (by simp)
        have hS2 := hS.trans t29 (by simp)
        refine ⟨rfl, hK.out _ _ hS2 (fun _ => ?_)⟩
        clear hK K hS t29
        have hS := hS2
        clear hS2
        try simp only [Act.put, List.setIfInBounds_toArray, List.set_cons_zero, List.set_cons_succ]
        refine wpAnyH_ready (rs := [26]) (by kernel_rfl) (by simp) ?_
        refine AllReadyH.cons (o := { dst := some 34, op := Op.call { callee := Callee.value (Operand.func 17), args := #[Operand.tmp 33], argTypes := #[22] }, type := 22, pos := "law.go:16", after := #[{ on := 25, ground := Ground.data }, { on := 21, ground := Ground.chain }, { on := 21, ground := Ground.guard }], guard := some (21, true) }) rfl (fun K hK => ?_) AllReadyH.nil
        go_simp
        refine (dedup_any _ _ [adA, adB, adA] _ h33 (by simp)).mono ?_
        rintro e w26 ⟨v34, rfl, h34, t26⟩
        have h37 := Rd.touch t26 h37 (by simp)
        rw [dedABA] at h34
        obtain ⟨a34, c34, rfl, _, _, hg34⟩ := h34.form
        obtain ⟨g34, rfl⟩ := hg34 (by simp)
        have h34x : Rd w26 17 g34 (.slice (some ⟨g34, 0, none⟩) 2 c34) ([adA, adB].map Ad.cells) := Rd.of_owns (ads_len17 _) h34.row (by intro b hb; simpa [Value.ownBlock] using hb.symm)
        clear h34
        have hS2 := hS.trans t26 (by simp)
        refine hK.out _ _ hS2 (fun _ => ?_)
        clear hK K hS t26
        have hS := hS2
        clear hS2
        try simp only [Act.put, List.setIfInBounds_toArray, List.set_cons_zero, List.set_cons_succ]
        refine wpAnyH_ready (rs := [30]) (by kernel_rfl) (by simp) ?_
        refine AllReadyH.cons (o := { dst := some 38, op := Op.call { callee := Callee.value (Operand.func 14), args := #[Operand.tmp 34, Operand.tmp 37], argTypes := #[22, 22] }, type := 4, pos := "law.go:16", after := #[{ on := 26, ground := Ground.data }, { on := 29, ground := Ground.data }, { on := 26, ground := Ground.chain }, { on := 21, ground := Ground.guard }], guard := some (21, true) }) rfl (fun K hK => ?_) AllReadyH.nil
        go_simp
        refine (equal_self _ _ _ _ ([adA, adB].map Ad.cells) _ (by simp) h34x h37 (by intro x hx; simp at hx; rcases hx with rfl | rfl <;> exact Ad.is _)).mono ?_
        rintro e w30 ⟨rfl, t30⟩
        have hS2 := hS.trans t30 (by simp)
        refine hK.out _ _ hS2 (fun _ => ?_)
        clear hK K hS t30
        have hS := hS2
        clear hS2
        try simp only [Act.put, List.setIfInBounds_toArray, List.set_cons_zero, List.set_cons_succ]
        refine wpAnyH_take (i := 31) (oi := { dst := some 39, op := Op.pick (Operand.tmp 29) (Operand.tmp 38) (Operand.const (Value.bool false)), type := 4, pos := "law.go:16", after := #[{ on := 21, ground := Ground.data }, { on := 30, ground := Ground.data }], guard := none }) (v := .bool true) rfl (by kernel_rfl) (by kernel_rfl) (by kernel_rfl) (fun _ _ _ h => h) (Or.inl ⟨by rfl, fun w' hw => by go_simp⟩) hS ?_
        try simp only [Act.put, List.setIfInBounds_toArray, List.set_cons_zero, List.set_cons_succ]
        refine wpAnyH_take (i := 32) (oi := { dst := some 0, op := Op.assign (Operand.tmp 39), type := 4, pos := "law.go:16", after := #[{ on := 31, ground := Ground.data }, { on := 30, ground := Ground.chain }, { on := 0, ground := Ground.phase }, { on := 1, ground := Ground.phase }, { on := 2, ground := Ground.phase }, { on := 3, ground := Ground.phase }, { on := 4, ground := Ground.phase }, { on := 5, ground := Ground.phase }, { on := 6, ground := Ground.phase }, { on := 7, ground := Ground.phase }, { on := 8, ground := Ground.phase }, { on := 9, ground := Ground.phase }, { on := 10, ground := Ground.phase }, { on := 11, ground := Ground.phase }, { on := 12, ground := Ground.phase }, { on := 13, ground := Ground.phase }, { on := 14, ground := Ground.phase }, { on := 15, ground := Ground.phase }, { on := 16, ground := Ground.phase }, { on := 17, ground := Ground.phase }, { on := 18, ground := Ground.phase }, { on := 19, ground := Ground.phase }, { on := 20, ground := Ground.phase }, { on := 21, ground := Ground.phase }, { on := 22, ground := Ground.phase }, { on := 23, ground := Ground.phase }, { on := 24, ground := Ground.phase }, { on := 25, ground := Ground.phase }, { on := 26, ground := Ground.phase }, { on := 27, ground := Ground.phase }, { on := 28, ground := Ground.phase }, { on := 29, ground := Ground.phase }, { on := 30, ground := Ground.phase }, { on := 31, ground := Ground.phase }], guard := none }) (v := .bool true) rfl (by kernel_rfl) (by kernel_rfl) (by kernel_rfl) (fun _ _ _ h => h) (Or.inl ⟨by rfl, fun w' hw => by go_simp⟩) hS ?_
        try simp only [Act.put, List.setIfInBounds_toArray, List.set_cons_zero, List.set_cons_succ]
        refine wpAnyH_done (by kernel_rfl) ?_ _
        try simp only [Act.put, List.setIfInBounds_toArray, List.set_cons_zero, List.set_cons_succ]
        go_wp2_with fail
        go_ret
        exact ⟨rfl, HT.out.trans hS (by simp)⟩
    · refine step_guard (by rfl) ?_
      refine wpList_buildSlice_rows rfl 22 2 _ rfl 28 17 iA _ Tryd.underlying22 hiA hzA hsA (by omega) [adA.cells, adB.cells] rfl (by intro x hx; simp at hx; rcases hx with rfl | rfl <;> exact Ad.len _) (by omega) (by rfl) ?_
      obtain ⟨w29, hw29⟩ : ∃ x, x = w18.alloc (.cells [adA.cells, adB.cells].flatten.toArray 28) := ⟨_, rfl⟩
      have t29 : Touch [] w18 w29 := by rw [hw29]; exact (Touch.refl [] w18).alloc _
      have h37 : Rd w29 17 w18.heap.size (.slice (some ⟨w18.heap.size, 0, none⟩) 2 2) ([adA, adB].map Ad.cells) := by rw [hw29]; exact Rd.new w18 _ (by intro x hx; simp at hx; rcases hx with rfl | rfl <;> exact Ad.is _) (by simp) _
      rw [← hw29]
      clear hw29
      have hS2 := hS.trans t29 (by simp)
      refine ⟨rfl, hK.out _ _ hS2 (fun _ => ?_)⟩
      clear hK K hS t29
      have hS := hS2
      clear hS2
      try simp only [Act.put, List.setIfInBounds_toArray, List.set_cons_zero, List.set_cons_succ]
      refine wpAnyH_ready (rs := [25]) (by kernel_rfl) (by simp) ?_
      refine AllReadyH.cons (o := { dst := some 33, op := Op.buildSlice 22 3 #[(0, Operand.tmp 30), (1, Operand.tmp 31), (2, Operand.tmp 32)], type := 22, pos := "law.go:16", after := #[{ on := 22, ground := Ground.data }, { on := 23, ground := Ground.data }, { on := 24, ground := Ground.data }, { on := 21, ground := Ground.guard }], guard := some (21, true) }) rfl (fun K hK => ?_) AllReadyH.nil
      refine step_guard (by rfl) ?_
      refine wpList_buildSlice_rows rfl 22 3 _ rfl 28 17 iA _ Tryd.underlying22 hiA hzA hsA (by omega) [adA.cells, adB.cells, adA.cells] rfl (by intro x hx; simp at hx; rcases hx with rfl | rfl | rfl <;> exact Ad.len _) (by omega) (by rfl) ?_
      obtain ⟨w25, hw25⟩ : ∃ x, x = w29.alloc (.cells [adA.cells, adB.cells, adA.cells].flatten.toArray 28) := ⟨_, rfl⟩
      have t25 : Touch [] w29 w25 := by rw [hw25]; exact (Touch.refl [] w29).alloc _
      have h33 : Rd w25 17 w29.heap.size (.slice (some ⟨w29.heap.size, 0, none⟩) 3 3) ([adA, adB, adA].map Ad.cells) := by rw [hw25]; exact Rd.new w29 _ (by intro x hx; simp at hx; rcases hx with rfl | rfl | rfl <;> exact Ad.is _) (by simp) _
      rw [← hw25]
      clear hw25
      have h37 := Rd.touch t25 h37 (by simp)
      have hS2 := hS.trans t25 (by simp)
      refine ⟨rfl, hK.out _ _ hS2 (fun _ => ?_)⟩
      clear hK K hS t25
      have hS := hS2
      clear hS2
      try simp only [Act.put, List.setIfInBounds_toArray, List.set_cons_zero, List.set_cons_succ]
      refine wpAnyH_ready (rs := [26]) (by kernel_rfl) (by simp) ?_
      refine AllReadyH.cons (o := { dst := some 34, op := Op.call { callee := Callee.value (Operand.func 17), args := #[Operand.tmp 33], argTypes := #[22] }, type := 22, pos := "law.go:16", after := #[{ on := 25, ground := Ground.data }, { on := 21, ground := Ground.chain }, { on := 21, ground := Ground.guard }], guard := some (21, true) }) rfl (fun K hK => ?_) AllReadyH.nil
      go_simp
      refine (dedup_any _ _ [adA, adB, adA] _ h33 (by simp)).mono ?_
      rintro e w26 ⟨v34, rfl, h34, t26⟩
      have h37 := Rd.touch t26 h37 (by simp)
      rw [dedABA] at h34
      obtain ⟨a34, c34, rfl, _, _, hg34⟩ := h34.form
      obtain ⟨g34, rfl⟩ := hg34 (by simp)
      have h34x : Rd w26 17 g34 (.slice (some ⟨g34, 0, none⟩) 2 c34) ([adA, adB].map Ad.cells) := Rd.of_owns (ads_len17 _) h34.row (by intro b hb; simpa [Value.ownBlock] using hb.symm)
      clear h34
      have hS2 := hS.trans t26 (by simp)
      refine hK.out _ _ hS2 (fun _ => ?_)
      clear hK K hS t26
      have hS := hS2
      clear hS2
      try simp only [Act.put, List.setIfInBounds_toArray, List.set_cons_zero, List.set_cons_succ]
      refine wpAnyH_ready (rs := [30]) (by kernel_rfl) (by simp) ?_
      refine AllReadyH.cons (o := { dst := some 38, op := Op.call { callee := Callee.value (Operand.func 14), args := #[Operand.tmp 34, Operand.tmp 37], argTypes := #[22, 22] }, type := 4, pos := "law.go:16", after := #[{ on := 26, ground := Ground.data }, { on := 29, ground := Ground.data }, { on := 26, ground := Ground.chain }, { on := 21, ground := Ground.guard }], guard := some (21, true) }) rfl (fun K hK => ?_) AllReadyH.nil
      go_simp
      refine (equal_self _ _ _ _ ([adA, adB].map Ad.cells) _ (by simp) h34x h37 (by intro x hx; simp at hx; rcases hx with rfl | rfl <;> exact Ad.is _)).mono ?_
      rintro e w30 ⟨rfl, t30⟩
      have hS2 := hS.trans t30 (by simp)
      refine hK.out _ _ hS2 (fun _ => ?_)
      clear hK K hS t30
      have hS := hS2
      clear hS2
      try simp only [Act.put, List.setIfInBounds_toArray, List.set_cons_zero, List.set_cons_succ]
      refine wpAnyH_take (i := 31) (oi := { dst := some 39, op := Op.pick (Operand.tmp 29) (Operand.tmp 38) (Operand.const (Value.bool false)), type := 4, pos := "law.go:16", after := #[{ on := 21, ground := Ground.data }, { on := 30, ground := Ground.data }], guard := none }) (v := .bool true) rfl (by kernel_rfl) (by kernel_rfl) (by kernel_rfl) (fun _ _ _ h => h) (Or.inl ⟨by rfl, fun w' hw => by go_simp⟩) hS ?_
      try simp only [Act.put, List.setIfInBounds_toArray, List.set_cons_zero, List.set_cons_succ]
      refine wpAnyH_take (i := 32) (oi := { dst := some 0, op := Op.assign (Operand.tmp 39), type := 4, pos := "law.go:16", after := #[{ on := 31, ground := Ground.data }, { on := 30, ground := Ground.chain }, { on := 0, ground := Ground.phase }, { on := 1, ground := Ground.phase }, { on := 2, ground := Ground.phase }, { on := 3, ground := Ground.phase }, { on := 4, ground := Ground.phase }, { on := 5, ground := Ground.phase }, { on := 6, ground := Ground.phase }, { on := 7, ground := Ground.phase }, { on := 8, ground := Ground.phase }, { on := 9, ground := Ground.phase }, { on := 10, ground := Ground.phase }, { on := 11, ground := Ground.phase }, { on := 12, ground := Ground.phase }, { on := 13, ground := Ground.phase }, { on := 14, ground := Ground.phase }, { on := 15, ground := Ground.phase }, { on := 16, ground := Ground.phase }, { on := 17, ground := Ground.phase }, { on := 18, ground := Ground.phase }, { on := 19, ground := Ground.phase }, { on := 20, ground := Ground.phase }, { on := 21, ground := Ground.phase }, { on := 22, ground := Ground.phase }, { on := 23, ground := Ground.phase }, { on := 24, ground := Ground.phase }, { on := 25, ground := Ground.phase }, { on := 26, ground := Ground.phase }, { on := 27, ground := Ground.phase }, { on := 28, ground := Ground.phase }, { on := 29, ground := Ground.phase }, { on := 30, ground := Ground.phase }, { on := 31, ground := Ground.phase }], guard := none }) (v := .bool true) rfl (by kernel_rfl) (by kernel_rfl) (by kernel_rfl) (fun _ _ _ h => h) (Or.inl ⟨by rfl, fun w' hw => by go_simp⟩) hS ?_
      try simp only [Act.put, List.setIfInBounds_toArray, List.set_cons_zero, List.set_cons_succ]
      refine wpAnyH_done (by kernel_rfl) ?_ _
      try simp only [Act.put, List.setIfInBounds_toArray, List.set_cons_zero, List.set_cons_succ]
      go_wp2_with fail
      go_ret
      exact ⟨rfl, HT.out.trans hS (by simp)⟩
end Go.Proofs.YtiklhaajhdephaaDoor

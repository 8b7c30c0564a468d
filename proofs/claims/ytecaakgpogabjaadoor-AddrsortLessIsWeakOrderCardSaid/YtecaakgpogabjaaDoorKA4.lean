/-
  Merged texts: Vr, Pp, Hp, Rv, Bt.
-/
import Derived.Test.YtecaakgpogabjaaDoorKA3
import Derived.Laws.BitsAllLaws

/-
  The contract of the reference's V6 at eight groups.
-/
namespace Go.Proofs.YtecaakgpogabjaaDoor
open Go.RowKit
set_option linter.unusedVariables false
set_option linter.unusedSimpArgs false

set_option maxRecDepth 100000 in
set_option maxHeartbeats 4000000 in
theorem v6r_any (l : List Int) (hl : l.length = 8) (hr : ∀ x ∈ l, 0 ≤ x ∧ x ≤ 65535) (g c : Nat) (w : World) (hc : ∀ j x, l[j]? = some x → w.cell? ⟨g, j, none⟩ = some (.int .u16 x)) :
    Calls Tryd.prog 78 #[.slice (some ⟨g, 0, none⟩) 8 c] w fun e w' => e = .returned (.tuple #[.agg (adr true (v6b l 8)).toArray, .bool true]) ∧ Touch [] w w' := by
  have hgw : g < w.heap.size := by
    obtain ⟨x, hx⟩ : ∃ x, l[0]? = some x := ⟨_, List.getElem?_eq_getElem (by omega)⟩
    exact World.block_lt_of_cell? w _ (hc 0 x hx)
  go_enter Tryd.func78, Tryd.ntmps78
  go_wp2_with (refine wpList_store_new rfl 28 _ _ rfl _ _ (adr true (List.replicate 16 0)) rfl rfl rfl size31 (adr_one _ _) ?_)
  have t0 := ((Touch.refl [] w).alloc (.cells (adr false (List.replicate 16 0)).toArray 28)).alloc (.cells (adr true (List.replicate 16 0)).toArray 28)
  have g0 := heap_alloc2_new w (.cells (adr false (List.replicate 16 0)).toArray 28) (.cells (adr true (List.replicate 16 0)).toArray 28)
  have g1 := ((Touch.refl [] (w.alloc (.cells (adr false (List.replicate 16 0)).toArray 28))).alloc (.cells (adr true (List.replicate 16 0)).toArray 28)).at (heap_alloc_new w (.cells (adr false (List.replicate 16 0)).toArray 28)) (by simp)
  have HL := Lib.hid hl
  have HR := Lib.hid hr
  have H0 := Lib.hid (show ∃ (i : Nat), Value.int .i64 0 = .int .i64 i ∧ i ≤ 8 ∧ Touch [] w ((w.alloc (.cells (adr false (List.replicate 16 0)).toArray 28)).alloc (.cells (adr true (List.replicate 16 0)).toArray 28)) ∧ ((w.alloc (.cells (adr false (List.replicate 16 0)).toArray 28)).alloc (.cells (adr true (List.replicate 16 0)).toArray 28)).heap[w.heap.size + 1]? = some (.cells (adr true (v6b l i)).toArray 28 (0, 0)) ∧ ((w.alloc (.cells (adr false (List.replicate 16 0)).toArray 28)).alloc (.cells (adr true (List.replicate 16 0)).toArray 28)).heap[w.heap.size]? = some (.cells (adr false (List.replicate 16 0)).toArray 28 (0, 0)) from ⟨0, rfl, by omega, t0, g0, g1⟩)
  clear t0 g0 g1
  go_wp2_with fail
  go_loopw [5] (fun vi wr => ∃ (i : Nat), vi = .int .i64 i ∧ i ≤ 8 ∧ Touch [] w wr ∧ wr.heap[w.heap.size + 1]? = some (.cells (adr true (v6b l i)).toArray 28 (0, 0)) ∧ wr.heap[w.heap.size]? = some (.cells (adr false (List.replicate 16 0)).toArray 28 (0, 0))) (fun vi _ => 8 - (intOf vi).toNat)
  case atStart => exact H0.out
  case round =>
    obtain ⟨i, rfl, hi, ht, hg, hz⟩ := hrel
    have HT := Lib.hid ht
    have HG := Lib.hid hg
    have HZ := Lib.hid hz
    clear ht hg hz
    by_cases hi2 : i < 8
    · have hx : l[i]? = some l[i] := List.getElem?_eq_getElem (by omega)
      have hxr := hr l[i] (List.getElem_mem _)
      have c0 := HT.out.cell (hc i l[i] hx) (by simp)
      have hvl := v6b_len l hl i (by omega)
      have hst := v6b_step l hl i l[i] hx
      have s1 := set_adr wr (w.heap.size + 1) (2 * i) 28 true (v6b l i) (hi8 l[i]) HG.out
      have s2 := set_adr _ (w.heap.size + 1) (2 * i + 1) 28 true _ (lo8 l[i]) s1
      obtain ⟨y1, hy1⟩ : ∃ y, (v6b l i)[2 * i]? = some y := ⟨_, List.getElem?_eq_getElem (by omega)⟩
      have hlt2 : 2 * i + 1 < ((v6b l i).set (2 * i) (hi8 l[i])).length := by simp only [List.length_set]; omega
      obtain ⟨y2, hy2⟩ : ∃ y, ((v6b l i).set (2 * i) (hi8 l[i]))[2 * i + 1]? = some y := ⟨_, List.getElem?_eq_getElem hlt2⟩
      have c1 := (adr_cell HG.out).2 (2 * i) y1 hy1
      have c2 := (adr_cell s1).2 (2 * i + 1) y2 hy2
      have f1 : wr.frozen? ⟨w.heap.size + 1, 1 + 2 * i, none⟩ = false := by simp [World.frozen?, HG.out]
      have f3 : (wr.setCell ⟨w.heap.size + 1, 1 + 2 * i, none⟩ (.int .u8 (hi8 l[i]))).frozen? ⟨w.heap.size + 1, 1 + (2 * i + 1), none⟩ = false := by simp only [World.frozen?, s1]; rfl
      rw [← hst] at s2
      have HS := Lib.hid s2
      generalize l[i] = x at *
      clear hy1 hy2 hlt2
      have hw1 : IntKind.i64.wrap (2 * (i : Int)) = 2 * (i : Int) := by rw [IntKind.wrap_i64] <;> omega
      have hw2 : IntKind.i64.wrap (2 * (i : Int) + 1) = 2 * (i : Int) + 1 := by rw [IntKind.wrap_i64] <;> omega
      obtain ⟨W, hW⟩ : ∃ W, W = wr.drew := ⟨_, rfl⟩
      have HST := Lib.hid hst
      have hh1 : IntKind.u8.wrap (x / 256) = hi8 x := by simp [IntKind.wrap, IntKind.signed, IntKind.bits, hi8]; omega
      have hh2 : IntKind.u8.wrap x = lo8 x := by simp [IntKind.wrap, IntKind.signed, IntKind.bits, lo8]
      clear hx s1 s2 hst
      go_wp2_with fail
      refine wp_region_held (S := Touch [w.heap.size + 1] W) (by kernel_rfl) ?_
      change wpAnyH _ _ _ _ _ _ _ _ wr.drew
      have c0 : W.cell? ⟨g, i, none⟩ = some (.int .u16 x) := by rw [hW]; exact c0
      have c1 : W.cell? ⟨w.heap.size + 1, 1 + 2 * i, none⟩ = some (.int .u8 y1) := by rw [hW]; exact c1
      have f1 : W.frozen? ⟨w.heap.size + 1, 1 + 2 * i, none⟩ = false := by rw [hW]; exact f1
      have F3 := Lib.hid (show (W.setCell ⟨w.heap.size + 1, 1 + 2 * i, none⟩ (.int .u8 (hi8 x))).frozen? ⟨w.heap.size + 1, 1 + (2 * i + 1), none⟩ = false by rw [hW]; exact f3)
      have C2 := Lib.hid (show (W.setCell ⟨w.heap.size + 1, 1 + 2 * i, none⟩ (.int .u8 (hi8 x))).cell? ⟨w.heap.size + 1, 1 + (2 * i + 1), none⟩ = some (.int .u8 y2) by rw [hW]; exact c2)
      have HSW := Lib.hid (show ((W.setCell ⟨w.heap.size + 1, 1 + 2 * i, none⟩ (.int .u8 (hi8 x))).setCell ⟨w.heap.size + 1, 1 + (2 * i + 1), none⟩ (.int .u8 (lo8 x))).heap[w.heap.size + 1]? = some (.cells (adr true (v6b l (i + 1))).toArray 28 (0, 0)) by rw [hW]; exact HS.out)
      have TW := Lib.hid (show Touch [] w W by rw [hW]; exact HT.out.drew)
      have ZW := Lib.hid (show W.heap[w.heap.size]? = some (.cells (adr false (List.replicate 16 0)).toArray 28 (0, 0)) by rw [hW]; exact HZ.out)
      rw [← hW]
      clear hW HS HT HZ
      have hS := Touch.refl [w.heap.size + 1] W
      refine wpAnyH_take (i := 0) (oi := { dst := some 15, op := Op.move (Operand.tmp 5), type := 3, pos := "ref.go:45", after := #[], guard := none }) (v := .int .i64 (i : Nat)) rfl (by kernel_rfl) (by kernel_rfl) (by kernel_rfl) (fun _ _ _ h => h) (Or.inl ⟨by rfl, fun w' hw => by go_simp⟩) hS ?_
      try simp only [Act.put, List.setIfInBounds_toArray, List.set_cons_zero, List.set_cons_succ]
      refine wpAnyH_take (i := 1) (oi := { dst := some 16, op := Op.binOp BinOp.mul 3 (Operand.const (Value.int IntKind.i64 2)) (Operand.tmp 15) 3, type := 3, pos := "ref.go:45", after := #[{ on := 0, ground := Ground.data }], guard := none }) (v := .int .i64 (2 * (i : Int))) rfl (by kernel_rfl) (by kernel_rfl) (by kernel_rfl) (fun _ _ _ h => h) (Or.inl ⟨by rfl, fun w' hw => by go_simp⟩) hS ?_
      try simp only [Act.put, List.setIfInBounds_toArray, List.set_cons_zero, List.set_cons_succ]
      refine wpAnyH_take (i := 2) (oi := { dst := some 17, op := Op.move (Operand.tmp 5), type := 3, pos := "ref.go:45", after := #[{ on := 18, ground := Ground.gcOnly Departure.lateStores }], guard := none }) (v := .int .i64 (i : Nat)) rfl (by kernel_rfl) (by kernel_rfl) (by kernel_rfl) (fun _ _ _ h => h) (Or.inl ⟨by rfl, fun w' hw => by go_simp⟩) hS ?_
      try simp only [Act.put, List.setIfInBounds_toArray, List.set_cons_zero, List.set_cons_succ]
      refine wpAnyH_take (i := 3) (oi := { dst := some 18, op := Op.binOp BinOp.mul 3 (Operand.const (Value.int IntKind.i64 2)) (Operand.tmp 17) 3, type := 3, pos := "ref.go:45", after := #[{ on := 2, ground := Ground.data }, { on := 18, ground := Ground.gcOnly Departure.lateStores }], guard := none }) (v := .int .i64 (2 * (i : Int))) rfl (by kernel_rfl) (by kernel_rfl) (by kernel_rfl) (fun _ _ _ h => h) (Or.inl ⟨by rfl, fun w' hw => by go_simp⟩) hS ?_
      try simp only [Act.put, List.setIfInBounds_toArray, List.set_cons_zero, List.set_cons_succ]
      refine wpAnyH_take (i := 4) (oi := { dst := some 19, op := Op.binOp BinOp.add 3 (Operand.tmp 18) (Operand.const (Value.int IntKind.i64 1)) 3, type := 3, pos := "ref.go:45", after := #[{ on := 3, ground := Ground.data }, { on := 18, ground := Ground.gcOnly Departure.lateStores }], guard := none }) (v := .int .i64 (2 * (i : Int) + 1)) rfl (by kernel_rfl) (by kernel_rfl) (by kernel_rfl) (fun _ _ _ h => h) (Or.inl ⟨by rfl, fun w' hw => by go_simp⟩) hS ?_
      try simp only [Act.put, List.setIfInBounds_toArray, List.set_cons_zero, List.set_cons_succ]
      refine wpAnyH_take (i := 5) (oi := { dst := some 20, op := Op.move (Operand.tmp 0), type := 88, pos := "ref.go:45", after := #[], guard := none }) (v := .slice (some ⟨g, 0, none⟩) 8 c) rfl (by kernel_rfl) (by kernel_rfl) (by kernel_rfl) (fun _ _ _ h => h) (Or.inl ⟨by rfl, fun w' hw => by go_simp⟩) hS ?_
      try simp only [Act.put, List.setIfInBounds_toArray, List.set_cons_zero, List.set_cons_succ]
      refine wpAnyH_take (i := 6) (oi := { dst := some 21, op := Op.move (Operand.tmp 5), type := 3, pos := "ref.go:45", after := #[], guard := none }) (v := .int .i64 (i : Nat)) rfl (by kernel_rfl) (by kernel_rfl) (by kernel_rfl) (fun _ _ _ h => h) (Or.inl ⟨by rfl, fun w' hw => by go_simp⟩) hS ?_
      try simp only [Act.put, List.setIfInBounds_toArray, List.set_cons_zero, List.set_cons_succ]
      refine wpAnyH_take (i := 7) (oi := { dst := some 22, op := Op.indexAddr 88 (Operand.tmp 20) (Operand.tmp 21), type := 0, pos := "ref.go:45", after := #[{ on := 5, ground := Ground.data }, { on := 6, ground := Ground.data }], guard := none }) (v := .pointer (some ⟨g, i, none⟩)) rfl (by kernel_rfl) (by kernel_rfl) (by kernel_rfl) (fun _ _ _ h => h) (Or.inl ⟨by rfl, fun w' hw => by go_simp⟩) hS ?_
      try simp only [Act.put, List.setIfInBounds_toArray, List.set_cons_zero, List.set_cons_succ]
      refine wpAnyH_take (i := 8) (oi := { dst := some 23, op := Op.load 75 (Operand.tmp 22), type := 75, pos := "ref.go:45", after := #[{ on := 7, ground := Ground.data }], guard := none }) (v := .int .u16 x) rfl (by kernel_rfl) (by kernel_rfl) (by kernel_rfl) (fun _ _ _ h => h) (Or.inl ⟨by rfl, fun w' hw => by (have q := hw.cell c0 (by simp; omega); go_simp)⟩) hS ?_
      try simp only [Act.put, List.setIfInBounds_toArray, List.set_cons_zero, List.set_cons_succ]
      refine wpAnyH_take (i := 9) (oi := { dst := some 24, op := Op.binOp BinOp.shr 75 (Operand.tmp 23) (Operand.const (Value.int IntKind.u64 8)) 46, type := 75, pos := "ref.go:45", after := #[{ on := 8, ground := Ground.data }], guard := none }) (v := .int .u16 (x / 256)) rfl (by kernel_rfl) (by kernel_rfl) (by kernel_rfl) (fun _ _ _ h => h) (Or.inl ⟨by rfl, fun w' hw => by go_simp⟩) hS ?_
      try simp only [Act.put, List.setIfInBounds_toArray, List.set_cons_zero, List.set_cons_succ]
      refine wpAnyH_take (i := 10) (oi := { dst := some 25, op := Op.convert 75 5 (Operand.tmp 24), type := 5, pos := "ref.go:45", after := #[{ on := 9, ground := Ground.data }], guard := none }) (v := .int .u8 (hi8 x)) rfl (by kernel_rfl) (by kernel_rfl) (by kernel_rfl) (fun _ _ _ h => h) (Or.inl ⟨by rfl, fun w' hw => by go_simp⟩) hS ?_
      try simp only [Act.put, List.setIfInBounds_toArray, List.set_cons_zero, List.set_cons_succ]
      refine wpAnyH_take (i := 11) (oi := { dst := some 26, op := Op.move (Operand.tmp 0), type := 88, pos := "ref.go:45", after := #[{ on := 18, ground := Ground.gcOnly Departure.lateStores }], guard := none }) (v := .slice (some ⟨g, 0, none⟩) 8 c) rfl (by kernel_rfl) (by kernel_rfl) (by kernel_rfl) (fun _ _ _ h => h) (Or.inl ⟨by rfl, fun w' hw => by go_simp⟩) hS ?_
      try simp only [Act.put, List.setIfInBounds_toArray, List.set_cons_zero, List.set_cons_succ]
      refine wpAnyH_take (i := 12) (oi := { dst := some 27, op := Op.move (Operand.tmp 5), type := 3, pos := "ref.go:45", after := #[{ on := 18, ground := Ground.gcOnly Departure.lateStores }], guard := none }) (v := .int .i64 (i : Nat)) rfl (by kernel_rfl) (by kernel_rfl) (by kernel_rfl) (fun _ _ _ h => h) (Or.inl ⟨by rfl, fun w' hw => by go_simp⟩) hS ?_
      try simp only [Act.put, List.setIfInBounds_toArray, List.set_cons_zero, List.set_cons_succ]
      refine wpAnyH_take (i := 13) (oi := { dst := some 28, op := Op.indexAddr 88 (Operand.tmp 26) (Operand.tmp 27), type := 0, pos := "ref.go:45", after := #[{ on := 11, ground := Ground.data }, { on := 12, ground := Ground.data }, { on := 18, ground := Ground.gcOnly Departure.lateStores }], guard := none }) (v := .pointer (some ⟨g, i, none⟩)) rfl (by kernel_rfl) (by kernel_rfl) (by kernel_rfl) (fun _ _ _ h => h) (Or.inl ⟨by rfl, fun w' hw => by go_simp⟩) hS ?_
      try simp only [Act.put, List.setIfInBounds_toArray, List.set_cons_zero, List.set_cons_succ]
      refine wpAnyH_take (i := 14) (oi := { dst := some 29, op := Op.load 75 (Operand.tmp 28), type := 75, pos := "ref.go:45", after := #[{ on := 13, ground := Ground.data }, { on := 18, ground := Ground.gcOnly Departure.lateStores }], guard := none }) (v := .int .u16 x) rfl (by kernel_rfl) (by kernel_rfl) (by kernel_rfl) (fun _ _ _ h => h) (Or.inl ⟨by rfl, fun w' hw => by (have q := hw.cell c0 (by simp; omega); go_simp)⟩) hS ?_
      try simp only [Act.put, List.setIfInBounds_toArray, List.set_cons_zero, List.set_cons_succ]
      refine wpAnyH_take (i := 15) (oi := { dst := some 30, op := Op.convert 75 5 (Operand.tmp 29), type := 5, pos := "ref.go:45", after := #[{ on := 14, ground := Ground.data }, { on := 18, ground := Ground.gcOnly Departure.lateStores }], guard := none }) (v := .int .u8 (lo8 x)) rfl (by kernel_rfl) (by kernel_rfl) (by kernel_rfl) (fun _ _ _ h => h) (Or.inl ⟨by rfl, fun w' hw => by go_simp⟩) hS ?_
      try simp only [Act.put, List.setIfInBounds_toArray, List.set_cons_zero, List.set_cons_succ]
      refine wpAnyH_take (i := 16) (oi := { dst := some 31, op := Op.fieldAddr 28 (Operand.tmp 4) 1, type := 0, pos := "ref.go:45", after := #[], guard := none }) (v := .pointer (some ⟨(w.heap.size + 1), 1, none⟩)) rfl (by kernel_rfl) (by kernel_rfl) (by kernel_rfl) (fun _ _ _ h => h) (Or.inl ⟨by rfl, fun w' hw => by go_simp⟩) hS ?_
      try simp only [Act.put, List.setIfInBounds_toArray, List.set_cons_zero, List.set_cons_succ]
      refine wpAnyH_take (i := 17) (oi := { dst := some 32, op := Op.indexAddr 26 (Operand.tmp 31) (Operand.tmp 16), type := 0, pos := "ref.go:45", after := #[{ on := 16, ground := Ground.data }, { on := 1, ground := Ground.data }, { on := 0, ground := Ground.phase }, { on := 1, ground := Ground.phase }, { on := 2, ground := Ground.textOnly Departure.lateStores }, { on := 3, ground := Ground.textOnly Departure.lateStores }, { on := 4, ground := Ground.textOnly Departure.lateStores }, { on := 5, ground := Ground.phase }, { on := 6, ground := Ground.phase }, { on := 7, ground := Ground.phase }, { on := 8, ground := Ground.phase }, { on := 9, ground := Ground.phase }, { on := 10, ground := Ground.phase }, { on := 11, ground := Ground.textOnly Departure.lateStores }, { on := 12, ground := Ground.textOnly Departure.lateStores }, { on := 13, ground := Ground.textOnly Departure.lateStores }, { on := 14, ground := Ground.textOnly Departure.lateStores }, { on := 15, ground := Ground.textOnly Departure.lateStores }], guard := none }) (v := .pointer (some ⟨(w.heap.size + 1), 1 + 2 * i, none⟩)) rfl (by kernel_rfl) (by kernel_rfl) (by kernel_rfl) (fun _ _ _ h => h) (Or.inl ⟨by rfl, fun w' hw => by (have hb : 0 ≤ 2 * (i : Int) ∧ 2 * (i : Int) < 16 := (by omega); have ht : (2 * (i : Int)).toNat = 2 * i := (by omega); go_simp)⟩) hS ?_
      try simp only [Act.put, List.setIfInBounds_toArray, List.set_cons_zero, List.set_cons_succ]
      refine wpAnyH_take (i := 19) (oi := { dst := some 33, op := Op.fieldAddr 28 (Operand.tmp 4) 1, type := 0, pos := "ref.go:45", after := #[], guard := none }) (v := .pointer (some ⟨(w.heap.size + 1), 1, none⟩)) rfl (by kernel_rfl) (by kernel_rfl) (by kernel_rfl) (fun _ _ _ h => h) (Or.inl ⟨by rfl, fun w' hw => by go_simp⟩) hS ?_
      try simp only [Act.put, List.setIfInBounds_toArray, List.set_cons_zero, List.set_cons_succ]
      refine wpAnyH_ready (rs := [18]) (by kernel_rfl) (by simp) ?_
      refine AllReadyH.cons (o := { dst := none, op := Op.store 5 (Operand.tmp 32) (Operand.tmp 25), type := 0, pos := "ref.go:45", after := #[{ on := 17, ground := Ground.data }, { on := 10, ground := Ground.data }, { on := 0, ground := Ground.phase }, { on := 1, ground := Ground.phase }, { on := 2, ground := Ground.textOnly Departure.lateStores }, { on := 3, ground := Ground.textOnly Departure.lateStores }, { on := 4, ground := Ground.textOnly Departure.lateStores }, { on := 5, ground := Ground.phase }, { on := 6, ground := Ground.phase }, { on := 7, ground := Ground.phase }, { on := 8, ground := Ground.phase }, { on := 9, ground := Ground.phase }, { on := 10, ground := Ground.phase }, { on := 11, ground := Ground.textOnly Departure.lateStores }, { on := 12, ground := Ground.textOnly Departure.lateStores }, { on := 13, ground := Ground.textOnly Departure.lateStores }, { on := 14, ground := Ground.textOnly Departure.lateStores }, { on := 15, ground := Ground.textOnly Departure.lateStores }], guard := none }) rfl (fun K hK => ?_) AllReadyH.nil
      go_simp
      refine hK.out _ _ (hS.setCell (p := ⟨w.heap.size + 1, 1 + 2 * i, none⟩) (by simp) _) (fun _ => ?_)
      clear hK K
      have hS := hS.setCell (p := ⟨w.heap.size + 1, 1 + 2 * i, none⟩) (by simp) (.int .u8 (hi8 x))
      have f3 := F3.out
      have c2 := C2.out
      try simp only [Act.put, List.setIfInBounds_toArray, List.set_cons_zero, List.set_cons_succ]
      refine wpAnyH_take (i := 20) (oi := { dst := some 34, op := Op.indexAddr 26 (Operand.tmp 33) (Operand.tmp 19), type := 0, pos := "ref.go:45", after := #[{ on := 19, ground := Ground.data }, { on := 4, ground := Ground.data }, { on := 0, ground := Ground.phase }, { on := 1, ground := Ground.phase }, { on := 2, ground := Ground.phase }, { on := 3, ground := Ground.phase }, { on := 4, ground := Ground.phase }, { on := 5, ground := Ground.phase }, { on := 6, ground := Ground.phase }, { on := 7, ground := Ground.phase }, { on := 8, ground := Ground.phase }, { on := 9, ground := Ground.phase }, { on := 10, ground := Ground.phase }, { on := 11, ground := Ground.phase }, { on := 12, ground := Ground.phase }, { on := 13, ground := Ground.phase }, { on := 14, ground := Ground.phase }, { on := 15, ground := Ground.phase }, { on := 16, ground := Ground.phase }, { on := 17, ground := Ground.phase }, { on := 18, ground := Ground.phase }], guard := none }) (v := .pointer (some ⟨(w.heap.size + 1), 1 + (2 * i + 1), none⟩)) rfl (by kernel_rfl) (by kernel_rfl) (by kernel_rfl) (fun _ _ _ h => h) (Or.inl ⟨by rfl, fun w' hw => by (have hb : 0 ≤ 2 * (i : Int) + 1 ∧ 2 * (i : Int) + 1 < 16 := (by omega); have ht : (2 * (i : Int) + 1).toNat = 2 * i + 1 := (by omega); go_simp)⟩) hS ?_
      try simp only [Act.put, List.setIfInBounds_toArray, List.set_cons_zero, List.set_cons_succ]
      refine wpAnyH_ready (rs := [21]) (by kernel_rfl) (by simp) ?_
      refine AllReadyH.cons (o := { dst := none, op := Op.store 5 (Operand.tmp 34) (Operand.tmp 30), type := 0, pos := "ref.go:45", after := #[{ on := 20, ground := Ground.data }, { on := 15, ground := Ground.data }, { on := 18, ground := Ground.chain }, { on := 0, ground := Ground.phase }, { on := 1, ground := Ground.phase }, { on := 2, ground := Ground.phase }, { on := 3, ground := Ground.phase }, { on := 4, ground := Ground.phase }, { on := 5, ground := Ground.phase }, { on := 6, ground := Ground.phase }, { on := 7, ground := Ground.phase }, { on := 8, ground := Ground.phase }, { on := 9, ground := Ground.phase }, { on := 10, ground := Ground.phase }, { on := 11, ground := Ground.phase }, { on := 12, ground := Ground.phase }, { on := 13, ground := Ground.phase }, { on := 14, ground := Ground.phase }, { on := 15, ground := Ground.phase }, { on := 16, ground := Ground.phase }, { on := 17, ground := Ground.phase }, { on := 18, ground := Ground.phase }], guard := none }) rfl (fun K hK => ?_) AllReadyH.nil
      go_simp
      refine hK.out _ _ (hS.setCell (p := ⟨w.heap.size + 1, 1 + (2 * i + 1), none⟩) (by simp) _) (fun _ => ?_)
      clear hK K
      try simp only [Act.put, List.setIfInBounds_toArray, List.set_cons_zero, List.set_cons_succ]
      refine wpAnyH_done (by kernel_rfl) ?_ _
      try simp only [Act.put, List.setIfInBounds_toArray, List.set_cons_zero, List.set_cons_succ]
      go_wp2_with fail
      go_roundw
      case rel =>
        refine ⟨i + 1, by simp, by omega, ?_, HSW.out, ?_⟩
        · exact (TW.out.setCell (p := ⟨w.heap.size + 1, _, none⟩) (by right; simp) _).setCell (p := ⟨w.heap.size + 1, _, none⟩) (by right; simp) _
        · exact (((Touch.refl [w.heap.size + 1] W).setCell (p := ⟨w.heap.size + 1, 1 + 2 * i, none⟩) (by simp) (.int .u8 (hi8 x))).setCell (p := ⟨w.heap.size + 1, 1 + (2 * i + 1), none⟩) (by simp) (.int .u8 (lo8 x))).at ZW.out (by simp)
      case measure => simp [intOf]; omega
    · have hie : i = 8 := by omega
      subst hie
      have hvl := v6b_len l hl 8 (by omega)
      generalize hys : v6b l 8 = ys at *
      have HYS := Lib.hid hys
      have r1 := range_block HG.out
      have hl17 : (adr true ys).length = 17 := by simp [adr, hvl]
      have HL17 := Lib.hid hl17
      clear hl17 hys
      go_wp2_with (first
        | ((with_reducible refine at_load 28 ?_); refine wpList_load_mid rfl 28 _ rfl (w.heap.size + 1) 0 rfl (adr true ys) _ r1 Tryd.underlying28 rfl (by rw [size31, HL17.out]) ?_)
        | ((with_reducible refine at_store 28 ?_); refine wpList_store_into rfl 28 _ _ rfl w.heap.size 28 _ (adr true ys) rfl rfl HZ.out (by rw [HL17.out]; rfl) (by rw [size31, HL17.out]) (adr_one _ _) ?_))
      intro w3 hg3 t3 hz3
      go_wp2_with fail
      exact ret_row_tmp rfl size31 Tryd.underlying28 rfl HL17.out rfl rfl hg3 ⟨by rw [HYS.out]; rfl, HT.out.trans t3 (by simp)⟩
end Go.Proofs.YtecaakgpogabjaaDoor

/-
  The contract of the reference's Parse at compressed addresses.
-/
namespace Go.Proofs.YtecaakgpogabjaaDoor
open Go.RowKit
set_option linter.unusedVariables false
set_option linter.unusedSimpArgs false

theorem OwnU.form {w0 w : World} {v : Value} {xs : List Int} (h : OwnU w0 w v xs) : ∃ a cap, v = .slice a xs.length cap ∧ xs.length ≤ cap ∧ cap ≤ maxLen ∧ (a = none → xs.length = 0 ∧ cap = 0) ∧ (∀ ad, a = some ad → ∀ j u, (xs.map (Value.int .u16))[j]? = some u → w.cell? (ad.add j) = some u) ∧ ∀ i x, xs[i]? = some x → ∃ g, a = some ⟨g, 0, none⟩ ∧ w.cell? ⟨g, i, none⟩ = some (.int .u16 x) := by
  obtain ⟨hl, hr⟩ := h.row
  rcases hr with ⟨rfl, hn⟩ | ⟨g, cap, cur, rfl, hb, hg, hnc, hcm, hcs, htk⟩
  · have hx : xs = [] := List.eq_nil_of_length_eq_zero hn
    subst hx
    refine ⟨none, 0, rfl, by simp, by simp [maxLen], fun _ => ⟨rfl, rfl⟩, ?_, ?_⟩
    · intro ad had
      cases had
    · intro i x hx
      simp at hx
  · have key : ∀ i u, (xs.map (Value.int .u16))[i]? = some u → w.cell? ⟨g, i, none⟩ = some u := by
      intro i u hu
      rw [cell_of_row _ _ _ _ _ _ hg]
      rw [← htk, List.getElem?_take] at hu
      split at hu
      · simpa using hu
      · cases hu
    refine ⟨some ⟨g, 0, none⟩, cap, rfl, hnc, hcm, fun h => (by cases h), ?_, ?_⟩
    · intro ad had j u hu
      cases had
      rw [Addr.add_lit, Nat.zero_add]
      exact key j u hu
    · intro i x hx
      exact ⟨g, rfl, key i _ (by simp [hx])⟩
/-- What is between head and tail. -/
def fill8 (hs ts : List Int) : List Int := hs ++ List.replicate (8 - hs.length - ts.length) 0 ++ ts
structure GoodA (l : List UInt8) (at_ : Nat) (hs ts : List Int) : Prop where
  len : l.length ≤ 1000
  dot : (splitP l 46).length ≠ 4
  lt : at_ + 1 < l.length
  c0 : l[at_]? = some 58
  c1 : l[at_ + 1]? = some 58
  first : ∀ i < at_, ¬ (l[i]? = some 58 ∧ l[i + 1]? = some 58)
  head : GoodG (l.take at_) hs
  tail : GoodG (l.drop (at_ + 2)) ts
  seven : hs.length + ts.length ≤ 7
  rh : ∀ x ∈ hs, 0 ≤ x ∧ x ≤ 65535
  rt : ∀ x ∈ ts, 0 ≤ x ∧ x ≤ 65535
set_option maxRecDepth 100000 in
set_option maxHeartbeats 1000000 in
theorem parse_any (l : List UInt8) (k : Nat) (hs ts : List Int) (hG : GoodA l k hs ts) (w : World) :
    Calls Tryd.prog 67 #[str l] w fun e w' => e = .returned (.tuple #[.agg (adr true (v6b (fill8 hs ts) 8)).toArray, .bool true]) ∧ Touch [] w w' := by
  obtain ⟨hl, hdot, hlt, hc0, hc1, hfirst, hhead, htail, h7, hrh, hrt⟩ := hG
  obtain ⟨iU, hiU, hzU, hsU, hbU⟩ := info_parts infoU16
  obtain ⟨s, hs'⟩ : ∃ s : ByteArray, s = ⟨l.toArray⟩ := ⟨_, rfl⟩
  have hsz : s.size = l.length := by rw [hs']; exact str_size l
  have HIP := Lib.hid (ip4_bad l hl hdot)
  have HGH := Lib.hid (groups_any (l.take k) false hs hhead)
  have HGT := Lib.hid (groups_any (l.drop (k + 2)) true ts htail)
  have HX := Lib.hid (show Value.string s = str l by rw [hs']; rfl)
  rw [show str l = .string s by rw [hs']; rfl] at HIP ⊢
  clear hs' hhead htail hdot
  obtain ⟨zs, hzs⟩ : ∃ zs : List Int, zs = List.replicate 16 0 := ⟨_, rfl⟩
  have HZL := Lib.hid (show (adr false zs).length = 17 by rw [hzs]; rfl)
  rw [← hzs] at HIP
  have HT0 := Lib.hid ((Touch.refl [] w).alloc (.cells (adr false (List.replicate 16 0)).toArray 28))
  have HG0 := Lib.hid (heap_alloc_new w (.cells (adr false (List.replicate 16 0)).toArray 28))
  clear hzs
  go_enter Tryd.func67, Tryd.ntmps67
  go_wp2_with fail
  refine (HIP.out _).mono ?_
  rintro e w1 ⟨rfl, t1⟩
  have HT1 := Lib.hid (HT0.out.trans t1 (by simp))
  have HG1 := Lib.hid (t1.at HG0.out (by simp))
  have HT2 := Lib.hid ((Touch.refl [] w1).alloc (.cells (adr false (List.replicate 16 0)).toArray 28))
  have HN2 := Lib.hid (heap_alloc_new w1 (.cells (adr false (List.replicate 16 0)).toArray 28))
  clear t1 HT0 HG0 HIP
  go_wp2_with ((with_reducible refine at_store 28 ?_); refine wpList_store_into rfl 28 _ _ rfl w1.heap.size 28 _ (adr false zs) rfl rfl HN2.out (by rw [HZL.out]; rfl) (by rw [size31, HZL.out]) (adr_one _ _) ?_)
  intro w3 h3 t3 z3
  have HT13 := Lib.hid (HT2.out.trans t3 (by intro y hy; right; simp at hy; omega))
  have HT3 := Lib.hid (HT1.out.trans HT13.out (by simp))
  have HG3 := Lib.hid (HT13.out.at HG1.out (by simp))
  have z13 : w1.heap.size ≤ w3.heap.size := HT13.out.size
  have zw1 : w.heap.size < w1.heap.size := (Array.getElem?_eq_some_iff.1 HG1.out).1
  clear h3 t3 z3 HT2 HN2 HT1 HG1 HT13
  go_wp2_with fail
  go_loopw [7] (fun vi wr => wr = w3 ∧ ∃ i : Nat, i ≤ k ∧ vi = .int .i64 i) (fun vi _ => k + 1 - (intOf vi).toNat)
  case atStart => exact ⟨rfl, 0, by omega, rfl⟩
  case round =>
    obtain ⟨hwr, i, hi, rfl⟩ := hrel
    subst hwr
    obtain ⟨x, hx⟩ : ∃ x, l[i]? = some x := ⟨_, List.getElem?_eq_getElem (by omega)⟩
    obtain ⟨y, hy⟩ : ∃ y, l[i + 1]? = some y := ⟨_, List.getElem?_eq_getElem (by omega)⟩
    have wi : IntKind.i64.wrap ((i : Int) + 1) = (i : Int) + 1 := by rw [IntKind.wrap_i64] <;> omega
    have hli : (i : Int) + 1 < (l.length : Int) := by omega
    by_cases hik : i = k
    · subst hik
      rw [hx] at hc0
      rw [hy] at hc1
      simp only [Option.some.injEq] at hc0 hc1
      subst hc0 hc1
      have e58 : ((58 : UInt8).toNat : Int) = 58 := rfl
      go_wp2_with (first
        | ((with_reducible refine at_index 9 ?_); refine wpList_strix (by rfl) 9 _ _ rfl Tryd.underlying9 l i 58 HX.out rfl hx ?_)
        | ((with_reducible refine at_index 9 ?_); refine wpList_strix (by rfl) 9 _ _ rfl Tryd.underlying9 l (i + 1) 58 HX.out rfl hy ?_)
        | ((with_reducible refine at_slice 9 ?_); refine wpList_strto (by rfl) 9 _ _ rfl Tryd.underlying9 l i HX.out rfl (by omega) ?_))
      refine (HGH.out _).mono ?_
      rintro e w4 ⟨v4, rfl, ho4, t4⟩
      have HT4 := Lib.hid (HT3.out.trans t4 (by simp))
      have z34 := t4.size
      have HG4 := Lib.hid (t4.at HG3.out (by simp))
      have wk : IntKind.i64.wrap ((i : Int) + 2) = (i : Int) + 2 := by rw [IntKind.wrap_i64] <;> omega
      clear t4 HT3 HG3 HGH hx hy e58
      go_wp2_with ((with_reducible refine at_slice 9 ?_); refine wpList_strfrom (by rfl) 9 _ _ rfl Tryd.underlying9 l (i + 2) HX.out rfl (by omega) ?_)
      refine (HGT.out _).mono ?_
      rintro e w5 ⟨v5, rfl, ho5, t5⟩
      have HT5 := Lib.hid (HT4.out.trans t5 (by simp))
      have HG5 := Lib.hid (t5.at HG4.out (by simp))
      have HO4 := Lib.hid ((ho4.older z13).touch t5 (by simp))
      have hdis : ∀ g, v4.ownBlock = some g → v5.ownBlock ≠ some g := by
        intro g h1 h2
        have a1 := ho4.lt g h1
        have a2 := ho5.new g h2
        omega
      have HO5 := Lib.hid (ho5.older (w0 := w1) (by have := ho4.row; have z := HT4.out.size; exact Nat.le_trans z13 (by have := t5.size; exact z34)))
      obtain ⟨a4, cap4, hv4, q1, q2, _⟩ := ho4.form
      obtain ⟨a5, cap5, hv5, p1, p2, _⟩ := ho5.form
      subst hv4 hv5
      have z15 : w1.heap.size ≤ w5.heap.size := by have := t5.size; omega
      clear t5 HT4 HG4 HGT ho4 ho5
      have w7 : ¬ ((7 : Int) < (hs.length : Int) + (ts.length : Int)) := by omega
      have w8 : IntKind.i64.wrap ((hs.length : Int) + (ts.length : Int)) = (hs.length : Int) + (ts.length : Int) := by rw [IntKind.wrap_i64] <;> omega
      go_wp2_with fail
      go_loopw [10] (fun vo wq => ∃ j : Nat, hs.length + j + ts.length ≤ 8 ∧ (∃ a c, vo = .slice a (hs.length + j) c) ∧ OwnU w1 wq vo (hs ++ List.replicate j 0) ∧ OwnU w1 wq (.slice a5 ts.length cap5) ts ∧ (∀ g, vo.ownBlock = some g → (Value.slice a5 ts.length cap5).ownBlock ≠ some g) ∧ Touch [] w wq ∧ w1.heap.size ≤ wq.heap.size ∧ wq.heap[w.heap.size]? = some (.cells (adr false (List.replicate 16 0)).toArray 28 (0, 0))) (fun vo _ => match vo with | .slice _ n _ => 8 - n | _ => 0)
      case atStart => exact ⟨0, by omega, ⟨_, _, rfl⟩, by simpa using HO4.out, HO5.out, hdis, HT5.out, z15, HG5.out⟩
      case round =>
        obtain ⟨j, hj, ⟨a, c, rfl⟩, ho, hm, hd, ht, hz, hg⟩ := hrel
        obtain ⟨ys, hys⟩ : ∃ ys, ys = hs ++ List.replicate j 0 := ⟨_, rfl⟩
        have hyl : ys.length = hs.length + j := by rw [hys]; simp
        rw [← hys] at ho
        have hrow := ho.row
        rw [hyl] at hrow
        have w9 : IntKind.i64.wrap ((hs.length : Int) + (j : Int) + (ts.length : Int)) = (hs.length : Int) + (j : Int) + (ts.length : Int) := by rw [IntKind.wrap_i64] <;> omega
        have HG := Lib.hid hg
        have HYS := Lib.hid hys
        have HT := Lib.hid ht
        clear hg hys ht HT5 HG5 HO4 HO5 hdis
        by_cases h8 : hs.length + j + ts.length < 8
        · have h8c : (hs.length : Int) + (j : Int) + (ts.length : Int) < 8 := by omega
          go_wp2_with (at_builtin; refine wpList_app1 _ (by rfl) _ _ 88 (by rfl) 75 iU _ 2 Tryd.underlying88 hiU hzU hsU hbU rfl _ (hs.length + j) _ (by rfl) hrow (.int .u16 0) 75 (by rfl) rfl (by unfold maxLen; omega) (by omega) ?_)
          intro vo w6 ho6 t6 hv6
          have hown6 : OwnU w1 w6 vo (ys ++ [0]) := ho.snoc hz (by rw [hyl]; exact ho6) hv6
          have hm6 := hm.touch t6 (by
            intro g h1 h2
            exact hd g (by simpa using h2) h1)
          have hd6 : ∀ g, vo.ownBlock = some g → (Value.slice a5 ts.length cap5).ownBlock ≠ some g := by
            intro g h1 h2
            rcases hv6 with e | e
            · exact hd g (by rw [← e]; exact h1) h2
            · rw [e] at h1
              have := hm.lt g h2
              simp at h1
              omega
          have HT6 := Lib.hid (HT.out.trans t6 (fun y hy => .inr (by have := ho.new y (by simpa using hy); omega)))
          have HG6 := Lib.hid (t6.at HG.out (by intro hy; have := ho.new _ (by simpa using hy); omega))
          have z6 : w1.heap.size ≤ w6.heap.size := Nat.le_trans hz t6.size
          obtain ⟨a6, c6, hv, _⟩ := hown6.form
          subst hv
          simp only [List.length_append, List.length_cons, List.length_nil, hyl] at *
          go_wp2_with fail
          go_roundw
          case rel => exact ⟨j + 1, by omega, ⟨a6, c6, by rw [Nat.add_assoc]⟩, by rw [List.replicate_succ', ← List.append_assoc, ← HYS.out]; exact hown6, hm6, hd6, HT6.out, z6, HG6.out⟩
          case measure => simp; omega
        · have h8c : ¬ ((hs.length : Int) + (j : Int) + (ts.length : Int) < 8) := by omega
          have hfil : ys ++ ts = fill8 hs ts := by rw [HYS.out, show j = 8 - hs.length - ts.length by omega]; rfl
          have hf8 : (fill8 hs ts).length = 8 := by rw [← hfil]; simp [hyl]; omega
          have hfr : ∀ x ∈ fill8 hs ts, 0 ≤ x ∧ x ≤ 65535 := by
            intro x hx
            rw [← hfil, HYS.out] at hx
            rcases List.mem_append.1 hx with hx | hx
            · rcases List.mem_append.1 hx with hx | hx
              · exact hrh x hx
              · have := List.eq_of_mem_replicate hx
                omega
            · exact hrt x hx
          obtain ⟨a9, c9, e9, _, _, hnone9, hnews9, _⟩ := hm.form
          simp only [Value.slice.injEq] at e9
          obtain ⟨rfl, _, rfl⟩ := e9
          go_wp2_with (at_builtin; refine wpList_app _ (by rfl) _ _ 88 (by rfl) 75 iU _ 1 2 Tryd.underlying88 hiU hzU hsU hbU rfl (by omega) _ (hs.length + j) _ (by rfl) hrow a5 ts.length cap5 (ts.map (Value.int .u16)) (by rfl) (by simp) hnone9 hnews9 (by intro u hu; obtain ⟨x, _, rfl⟩ := List.mem_map.1 hu; rfl) (by unfold maxLen; omega) (by omega) ?_)
          intro vo w6 ho6 t6 hv6
          have hown6 : OwnU w1 w6 vo (fill8 hs ts) := by
            refine ⟨?_, ?_⟩
            · rw [← hfil, List.map_append, List.length_append, hyl]
              exact ho6
            · intro g hg
              rcases hv6 with e | e
              · rw [e] at hg; exact ho.new g hg
              · rw [e] at hg; simp at hg; omega
          have HT6 := Lib.hid (HT.out.trans t6 (fun y hy => .inr (by have := ho.new y (by simpa using hy); omega)))
          have HG6 := Lib.hid (t6.at HG.out (by intro hy; have := ho.new _ (by simpa using hy); omega))
          obtain ⟨a6, c6, hv, _, _, _, _, hat⟩ := hown6.form
          rw [hf8] at hv
          obtain ⟨x0, hx0⟩ : ∃ x, (fill8 hs ts)[0]? = some x := ⟨_, List.getElem?_eq_getElem (by omega)⟩
          obtain ⟨g6, rfl, _⟩ := hat 0 x0 hx0
          subst hv
          have HV := Lib.hid (v6r_any (fill8 hs ts) hf8 hfr g6 c6 w6 (by
            intro k x hx
            obtain ⟨g', e, hc⟩ := hat k x hx
            simp only [Option.some.injEq, Addr.mk.injEq] at e
            obtain ⟨rfl, _⟩ := e
            exact hc))
          have hyl8 := v6b_len (fill8 hs ts) hf8 8 (by omega)
          have HL17 := Lib.hid (show (adr true (v6b (fill8 hs ts) 8)).length = 17 by simp [adr, hyl8])
          generalize hzz : v6b (fill8 hs ts) 8 = zz at *
          have HZZ := Lib.hid hzz
          clear hzz
          clear hat hx0 hown6 ho6 hfil hf8 hfr hnone9 hnews9 hyl8 hrow
          go_wp2_with fail
          refine HV.out.mono ?_
          rintro e w7 ⟨rfl, t7⟩
          have HT7 := Lib.hid (HT6.out.trans t7 (by simp))
          have HG7 := Lib.hid (t7.at HG6.out (by simp))
          clear t7 HV
          go_wp2_with ((with_reducible refine at_store 28 ?_); refine wpList_store_into rfl 28 _ _ rfl w.heap.size 28 _ (adr true zz) rfl rfl HG7.out (by rw [HL17.out]; rfl) (by rw [size31, HL17.out]) (adr_one _ _) ?_)
          intro w8 h8 t8 z8
          go_wp2_with fail
          exact ret_row_tmp rfl size31 Tryd.underlying28 rfl HL17.out rfl rfl h8 ⟨by rw [HZZ.out]; rfl, HT7.out.trans t8 (by simp)⟩
    · have hne := hfirst i (by omega)
      rw [hx, hy] at hne
      simp only [Option.some.injEq] at hne
      have hli2 : (i : Int) + 1 < (l.length : Int) := hli
      by_cases hx58 : x = 58
      · have e1 := (u8_inj x 58).2 hx58
        have e2 := (not_congr (u8_inj y 58)).2 (fun e => hne ⟨hx58, e⟩)
        rw [show ((58 : UInt8).toNat : Int) = 58 from rfl] at e1 e2
        go_wp2_with (first
          | ((with_reducible refine at_index 9 ?_); refine wpList_strix (by rfl) 9 _ _ rfl Tryd.underlying9 l i x HX.out rfl hx ?_)
          | ((with_reducible refine at_index 9 ?_); refine wpList_strix (by rfl) 9 _ _ rfl Tryd.underlying9 l (i + 1) y HX.out rfl hy ?_))
        go_roundw
        case rel => exact ⟨by trivial, i + 1, by omega, by go_num⟩
        case measure => simp [intOf]; omega
      · have e1 := (not_congr (u8_inj x 58)).2 hx58
        rw [show ((58 : UInt8).toNat : Int) = 58 from rfl] at e1
        go_wp2_with (first
          | ((with_reducible refine at_index 9 ?_); refine wpList_strix (by rfl) 9 _ _ rfl Tryd.underlying9 l i x HX.out rfl hx ?_))
        go_roundw
        case rel => exact ⟨by trivial, i + 1, by omega, by go_num⟩
        case measure => simp [intOf]; omega
end Go.Proofs.YtecaakgpogabjaaDoor

/-
  The contract of hasPrefix.
-/
namespace Go.Proofs.YtecaakgpogabjaaDoor
open Go.RowKit
set_option linter.unusedVariables false
set_option linter.unusedSimpArgs false

theorem set_gen (W : World) (g o : Nat) (T : TypeId) (old : List Value) (cs : List Int) (hg : W.heap[g]? = some (.cells old.toArray T (0, 0))) (hl : o + cs.length ≤ old.length) :
    ∃ W', (storeCells ⟨g, o, none⟩ (cs.map (Value.int .u8)) 0).run Tryd.prog W = .ok () W' ∧ W'.heap[g]? = some (.cells (old.take o ++ cs.map (Value.int .u8) ++ old.drop (o + cs.length)).toArray T (0, 0)) ∧ Touch [g] W W' := by
  have hst := run_storeCells_at Tryd.prog g o T (cs.map (Value.int .u8)) 0 old.toArray W hg (by simp; omega) (by intro v hv; obtain ⟨x, _, rfl⟩ := List.mem_map.1 hv; rfl)
  refine ⟨_, hst, ?_, ⟨rfl, rfl, rfl, by simp, fun i hi hn => setRow_other W g i _ (by simpa using hn)⟩⟩
  rw [setRow_heap W g old.toArray _ T _ hg]
  simp
/-- Bytes copied into the midst of a block. -/
theorem copy_gen (W : World) (g o n c g2 m c2 : Nat) (T : TypeId) (old : List Value) (cs : List Int) (hg : W.heap[g]? = some (.cells old.toArray T (0, 0))) (hm : cs.length = m) (hn : m ≤ n) (hl : o + m ≤ old.length) (hc : ∀ j x, cs[j]? = some x → W.cell? ⟨g2, j, none⟩ = some (.int .u8 x)) :
    ∃ W', (Builtin.copy_ #[68, 68] 3 #[.slice (some ⟨g, o, none⟩) n c, .slice (some ⟨g2, 0, none⟩) m c2]).run Tryd.prog W = .ok (goInt m) W' ∧ W'.heap[g]? = some (.cells (old.take o ++ cs.map (Value.int .u8) ++ old.drop (o + m)).toArray T (0, 0)) ∧ Touch [g] W W' := by
  obtain ⟨i, hi, hs⟩ := infoB
  subst hm
  obtain ⟨W', hst, h2, h3⟩ := set_gen W g o T old cs hg hl
  refine ⟨W', ?_, h2, h3⟩
  have hmin : Nat.min cs.length n = cs.length := Nat.min_eq_left hn
  have hld := run_loadCells_list (P := Tryd.prog) W ⟨g2, 0, none⟩ (cs.map (Value.int .u8)) (by
    intro j v hj
    rw [Addr.add_lit, Nat.zero_add]
    rw [List.getElem?_map, Option.map_eq_some_iff] at hj
    obtain ⟨x, hx, rfl⟩ := hj
    exact hc j x hx)
  simp only [List.length_map] at hld
  simp [Builtin.copy_, run_underlying Tryd.underlying68, Builtin.lenOf, Builtin.firstCells, sizeOf, typeInfo, hi, hs, hmin, hld, hst]
theorem wpList_copy_gen {ops : Array Oper} {rest : List Oper} {op : Oper} {a : Act} {Q : Exit → Act → World → Prop} (hgd : op.guard = none) (d x : Operand)
    (ho : op.op = .call { callee := .builtin .copy, args := #[d, x], argTypes := #[68, 68] }) (hty : op.type = 3) (W : World) (g o n c g2 m c2 : Nat) (T : TypeId) (old : List Value) (cs : List Int) (hd : a.eval d = .slice (some ⟨g, o, none⟩) n c) (hx : a.eval x = .slice (some ⟨g2, 0, none⟩) m c2)
    (hg : W.heap[g]? = some (.cells old.toArray T (0, 0))) (hm : cs.length = m) (hn : m ≤ n) (hl : o + m ≤ old.length) (hc : ∀ j x, cs[j]? = some x → W.cell? ⟨g2, j, none⟩ = some (.int .u8 x))
    (h : ∀ W', W'.heap[g]? = some (.cells (old.take o ++ cs.map (Value.int .u8) ++ old.drop (o + m)).toArray T (0, 0)) → Touch [g] W W' → wpList Tryd.prog ops Q rest (a.put op.dst (goInt m)) W') : wpList Tryd.prog ops Q (op :: rest) a W := by
  refine wpList_plain hgd fun K hK => ?_
  obtain ⟨W', hr, h2, h3⟩ := copy_gen W g o n c g2 m c2 T old cs hg hm hn hl hc
  unfold Oper.wp execOp
  simp only [ho, hty, resolve, invoke, builtin, Sem.run_bind, Sem.run_pure, Result.andThen_ok, List.map_toArray, List.map_cons, List.map_nil, hd, hx, hr]
  exact hK _ _ (h W' h2 h3)
/-- The bytes of a prefix. -/
def lead (cs : List Int) : List Int := cs ++ List.replicate (16 - cs.length) 0
theorem pfx_copied (b : Bool) (bits : Int) (cs : List Int) (hl : cs.length ≤ 16) : (pfx b (List.replicate 16 0) bits).take 1 ++ cs.map (Value.int .u8) ++ (pfx b (List.replicate 16 0) bits).drop (1 + cs.length) = pfx b (lead cs) bits := by
  have e1 : pfx b (List.replicate 16 0) bits = .bool b :: ((List.replicate 16 (Value.int .u8 0)) ++ [.int .i64 bits]) := by simp [pfx, adr]
  rw [e1, Nat.add_comm 1, List.drop_succ_cons, List.take_succ_cons, List.take_zero, List.drop_append_of_le_length (by simpa using hl), List.drop_replicate]
  simp [pfx, adr, lead]
set_option maxRecDepth 100000 in
theorem built_flag (b : Bool) : Tryd.prog.built 28 [(0, .bool b)] = some (adr b (List.replicate 16 0)).toArray := by kernel_rfl
set_option maxRecDepth 100000 in
set_option maxHeartbeats 4000000 in
theorem hp_any (b : Bool) (xs : List Int) (bits : Int) (cs : List Int) (g m c : Nat) (h : okB xs) (hv : vld b xs = true) (hm : cs.length = m) (hm16 : m ≤ 16) (hp : okB (lead cs)) (hpv : vld b (lead cs) = true) (hb0 : 0 ≤ bits) (hb1 : bits ≤ blen b) (ht : trunc bits (lead cs) = lead cs) (w : World) (hc : ∀ j x, cs[j]? = some x → w.cell? ⟨g, j, none⟩ = some (.int .u8 x)) :
    Calls Tryd.prog 44 #[.agg (adr b xs).toArray, .int .i64 bits, .slice (some ⟨g, 0, none⟩) m c] w fun e w' => e = .returned (.bool (decide (trunc bits xs = lead cs))) ∧ Touch [] w w' := by
  have HCO := Lib.hid (fun w => cont_any b (lead cs) bits xs hp hpv hb0 hb1 ht h hv w)
  obtain ⟨zs, hzs⟩ : ∃ zs : List Int, zs = List.replicate 16 0 := ⟨_, rfl⟩
  have hzl : zs.length = 16 := by rw [hzs]; rfl
  have hcp := pfx_copied b bits cs (by omega)
  have hbf := built_flag b
  rw [← hzs] at hcp hbf
  obtain ⟨A, hA⟩ : ∃ A, A = Obj.cells (adr b xs).toArray 28 := ⟨_, rfl⟩
  obtain ⟨B, hB⟩ : ∃ B, B = Obj.cells (pfx false (List.replicate 16 0) 0).toArray 52 := ⟨_, rfl⟩
  have t0 := ((Touch.refl [] w).alloc A).alloc B
  have g1 := ((Touch.refl [] (w.alloc A)).alloc B).at (heap_alloc_new w A) (by simp)
  have g2 := heap_alloc2_new w A B
  subst hA hB
  have a0 : (adr b xs)[0]? = some (.bool b) := rfl
  have HT := Lib.hid t0
  have HG1 := Lib.hid g1
  have HG2 := Lib.hid g2
  have HL17 := Lib.hid (show (adr b xs).length = 17 by simp [adr, h.1])
  have HP18 := Lib.hid (show (pfx b zs bits).length = 18 by simp [pfx, adr, hzl])
  have HQ18 := Lib.hid (show (pfx b (lead cs) bits).length = 18 by simp [pfx, adr, hp.1])
  have HCP := Lib.hid hcp
  have HBF := Lib.hid hbf
  have HZL := Lib.hid hzl
  have HM := Lib.hid hm
  have HC := Lib.hid hc
  clear h hv hp hpv ht hb0 hb1 t0 g1 g2 hcp hbf hzs hzl hm hc
  go_enter Tryd.func44, Tryd.ntmps44
  go_wp2_with (first
    | (refine wpList_built (by rfl) 28 _ (by rfl) _ _ (by rfl) HBF.out ?_)
    | (refine wpList_built (by rfl) 52 _ (by rfl) _ _ (by rfl) (built_pfx b zs bits HZL.out) ?_)
    | (refine wpList_store_into rfl 52 _ _ rfl (w.heap.size + 1) 52 _ (pfx b zs bits) rfl rfl HG2.out (by rw [HP18.out]; rfl) (by rw [sizeP, HP18.out]) (by intro v hv; exact prw_one b zs bits 0 0 v (List.mem_append_left _ hv)) ?_))
  intro W1 h1 t1 z1
  have HT1 := Lib.hid (HT.out.trans t1 (by intro y hy; right; simp at hy; omega))
  have HG11 := Lib.hid (t1.at HG1.out (by simp))
  have HG21 := Lib.hid h1
  have HC1 := Lib.hid (fun j x hx => t1.cell ((HT.out.mono (S' := []) (by simp)).cell (HC.out j x hx) (by simp)) (by simp; intro e; have := World.block_lt_of_cell? w _ (HC.out j x hx); simp at this; omega))
  clear h1 t1 z1 HT HG1 HG2
  go_wp2_with (refine wpList_copy_gen (by rfl) _ _ (by rfl) (by rfl) _ (w.heap.size + 1) 1 16 16 g m c 52 (pfx b zs bits) cs (by rfl) (by rfl) (by exact HG21.out) HM.out hm16 (by rw [HP18.out]; omega) (by exact HC1.out) ?_)
  intro W2 h2 t2
  rw [← List.append_assoc, ← HM.out, HCP.out] at h2
  have HT2 := Lib.hid (HT1.out.trans t2 (by intro y hy; right; simp at hy; omega))
  have R1 := range_block (t2.at HG11.out (by simp))
  have R2 := range_block h2
  try simp only [Act.put]
  clear h2 t2 HG11 HG21 HC1 HT1
  go_wp2_with (first
    | (refine wpList_load_mid rfl 52 _ rfl (w.heap.size + 1) 0 rfl (pfx b (lead cs) bits) _ R2 Tryd.underlying52 rfl (by rw [sizeP, HQ18.out]) ?_)
    | (refine wpList_load_mid rfl 28 _ rfl w.heap.size 0 rfl (adr b xs) _ R1 Tryd.underlying28 rfl (by rw [size31, HL17.out]) ?_))
  refine (HCO.out _).mono ?_
  rintro e w4 ⟨rfl, t4⟩
  have HT4 := Lib.hid (HT2.out.trans t4 (by simp))
  clear t4 R1 R2
  go_wp2_with fail
  go_ret
  exact ⟨rfl, HT4.out⟩
end Go.Proofs.YtecaakgpogabjaaDoor

/-
  The contracts of the reference's Valid, BitLen, Bit.
-/
namespace Go.Proofs.YtecaakgpogabjaaDoor
open Go.RowKit
set_option linter.unusedVariables false
set_option linter.unusedSimpArgs false

theorem vld_false {xs : List Int} (h : okB xs) : vld false xs = true ↔ ∀ j, 4 ≤ j → j < 16 → xs[j]? = some 0 := by
  unfold vld
  simp only [Bool.false_or, List.all_eq_true]
  constructor
  · intro hz j hj hj2
    have hlt : j < xs.length := by rw [h.1]; omega
    have := hz (xs[j]) (by
      rw [List.mem_iff_getElem]
      exact ⟨j - 4, by simp; omega, by simp [show 4 + (j - 4) = j by omega]⟩)
    rw [List.getElem?_eq_getElem hlt]
    simpa using this
  · intro hz x hx
    obtain ⟨k, hk⟩ := List.getElem?_of_mem hx
    rw [List.getElem?_drop] at hk
    have hlt := (List.getElem?_eq_some_iff.1 hk).1
    rw [h.1] at hlt
    rw [hz (4 + k) (by omega) hlt] at hk
    simp at hk
    simp [← hk]
set_option maxRecDepth 100000 in
theorem rvalid_any (b : Bool) (xs : List Int) (h : okB xs) (w : World) :
    Calls Tryd.prog 38 #[.agg (adr b xs).toArray] w fun e w' => e = .returned (.bool (vld b xs)) ∧ Touch [] w w' := by
  have t0 := (Touch.refl [] w).alloc (.cells (adr b xs).toArray 28)
  have HG := Lib.hid (adr_cell (heap_alloc_new w (.cells (adr b xs).toArray 28)))
  have HT := Lib.hid t0
  have a0 : (adr b xs)[0]? = some (.bool b) := rfl
  clear t0
  cases b
  · have HV := Lib.hid (vld_false h)
    have hlen := h.1
    clear h
    go_enter Tryd.func38, Tryd.ntmps38
    go_wp2_with fail
    obtain ⟨W, hW⟩ : ∃ W, W = w.alloc (.cells (adr false xs).toArray 28) := ⟨_, rfl⟩
    rw [← hW] at HG HT
    simp only [← hW]
    obtain ⟨c0, cj⟩ := HG.out
    clear hW HG
    go_loopw [3] (fun vi wr => wr = W ∧ ∃ i : Nat, 4 ≤ i ∧ i ≤ 16 ∧ vi = .int .i64 i ∧ ∀ j, 4 ≤ j → j < i → xs[j]? = some 0) (fun vi _ => 16 - (intOf vi).toNat)
    case atStart => exact ⟨rfl, 4, by omega, by omega, rfl, by intro j h1 h2; omega⟩
    case round =>
      obtain ⟨hwr, i, hi4, hi, rfl, hz⟩ := hrel
      subst hwr
      by_cases hlt : i < 16
      · obtain ⟨x, hx⟩ : ∃ x, xs[i]? = some x := ⟨_, List.getElem?_eq_getElem (by omega)⟩
        have c1 := cj i x hx
        clear cj
        by_cases hx0 : x = 0
        · have HZ := Lib.hid (show ∀ j, 4 ≤ j → j < i + 1 → xs[j]? = some 0 by
            intro j h1 h2
            by_cases e : j = i
            · subst e; rw [hx, hx0]
            · exact hz j h1 (by omega))
          clear hz hx
          go_wp2_with fail
          go_roundw
          case rel => exact ⟨by trivial, i + 1, by omega, by omega, by go_num, HZ.out⟩
          case measure => simp [intOf]; omega
        · have HS := Lib.hid (show vld false xs = false by
            cases hv : vld false xs
            · rfl
            · have := HV.out.1 hv i hi4 hlt
              rw [hx] at this
              simp at this
              exact absurd this hx0)
          clear hz hx
          go_wp2_with fail
          go_ret
          exact ⟨by rw [HS.out]; rfl, HT.out⟩
      · have hie : i = 16 := by omega
        subst hie
        have HS := Lib.hid (HV.out.2 hz)
        clear hz cj
        go_wp2_with fail
        go_ret
        exact ⟨by rw [HS.out]; rfl, HT.out⟩
  · have HS := Lib.hid (show vld true xs = true from rfl)
    clear h
    go_enter Tryd.func38, Tryd.ntmps38
    go_wp2_with fail
    obtain ⟨W, hW⟩ : ∃ W, W = w.alloc (.cells (adr true xs).toArray 28) := ⟨_, rfl⟩
    rw [← hW] at HG HT
    simp only [← hW]
    obtain ⟨c0, _⟩ := HG.out
    clear hW HG
    go_loopw [3] (fun vi wr => wr = W ∧ vi = .int .i64 4) (fun vi _ => 0)
    case atStart => exact ⟨rfl, rfl⟩
    case round =>
      obtain ⟨hwr, rfl⟩ := hrel
      subst hwr
      go_wp2_with fail
      go_ret
      exact ⟨by rw [HS.out]; rfl, HT.out⟩
set_option maxRecDepth 100000 in
theorem rbitlen_any (b : Bool) (xs : List Int) (w : World) :
    Calls Tryd.prog 69 #[.agg (adr b xs).toArray] w fun e w' => e = .returned (.int .i64 (blen b)) ∧ Touch [] w w' := by
  have tA := (Touch.refl [] w).alloc (.cells (adr b xs).toArray 28)
  have a0 : (adr b xs)[0]? = some (.bool b) := rfl
  cases b
  · go_enter Tryd.func69, Tryd.ntmps69
    go_wp2_with fail
    go_ret
    exact ⟨rfl, tA⟩
  · go_enter Tryd.func69, Tryd.ntmps69
    go_wp2_with fail
    go_ret
    exact ⟨rfl, tA⟩
theorem and_one (y : Int) (h0 : 0 ≤ y) (h1 : y ≤ 255) : wrap64 (Go.bits .and .u8 y 1) = y % 2 := by
  have h := u8_and y 1 h0 (by omega) (by omega) (by omega)
  rw [h]
  have e : (1 : Int).toNat = 1 := rfl
  rw [e, Nat.and_one_is_mod]
  unfold wrap64
  omega
theorem div_le (x : Int) (k : Nat) (h0 : 0 ≤ x) (h1 : x ≤ 255) : 0 ≤ x / 2 ^ k ∧ x / 2 ^ k ≤ 255 := by
  have hp : (0 : Int) < 2 ^ k := Int.pow_pos (by omega)
  have a1 : 0 ≤ x / 2 ^ k := Int.ediv_nonneg h0 (by omega)
  have a2 : x / 2 ^ k ≤ x := Int.ediv_le_self _ h0
  omega
/-- Bit i, counted from the left. -/
def bitP (xs : List Int) (i : Nat) : Int := xs.getD (i / 8) 0 / 2 ^ (7 - i % 8) % 2
set_option maxRecDepth 100000 in
set_option maxHeartbeats 1000000 in
theorem rbit_any (b : Bool) (xs : List Int) (h : okB xs) (i : Nat) (hi : (i : Int) < blen b) (w : World) :
    Calls Tryd.prog 54 #[.agg (adr b xs).toArray, .int .i64 i] w fun e w' => e = .returned (.int .i64 (bitP xs i)) ∧ Touch [] w w' := by
  have hi128 : i < 128 := by unfold blen at hi; split at hi <;> omega
  have t0 := (Touch.refl [] w).alloc (.cells (adr b xs).toArray 28)
  have g0 := heap_alloc_new w (.cells (adr b xs).toArray 28)
  obtain ⟨x, hx⟩ : ∃ x, xs[i / 8]? = some x := ⟨_, List.getElem?_eq_getElem (by rw [h.1]; omega)⟩
  have hxr := h.2 x (List.mem_of_getElem? hx)
  have HL17 := Lib.hid (show (adr b xs).length = 17 by simp [adr, h.1])
  have R0 := range_block g0
  have HG := Lib.hid g0
  have HT := Lib.hid t0
  have HBL := Lib.hid (rbitlen_any b xs)
  have HE := Lib.hid (show bitP xs i = x / 2 ^ (7 - i % 8) % 2 by simp [bitP, hx])
  have hnb : ¬ (blen b ≤ (i : Int)) := by omega
  generalize blen b = bl at *
  have HX := Lib.hid hx
  clear h t0 g0 hx
  go_enter Tryd.func54, Tryd.ntmps54
  go_wp2_with ((with_reducible refine at_load_g 28 2 false ?_); refine wpList_load_gg 2 false rfl (by rfl) 28 _ rfl w.heap.size 0 rfl (adr b xs) _ R0 Tryd.underlying28 rfl (by rw [size31, HL17.out]) ?_)
  refine (HBL.out _).mono ?_
  rintro e w1 ⟨rfl, t1⟩
  have HT1 := Lib.hid (HT.out.trans t1 (by simp))
  have c1 := (adr_cell (t1.at HG.out (by simp))).2 (i / 8) x HX.out
  clear t1 R0 HT HG
  have HW := Lib.hid (and_one (x / 2 ^ (7 - i % 8)) (div_le x _ hxr.1 hxr.2).1 (div_le x _ hxr.1 hxr.2).2)
  go_wp2_with fail
  go_ret
  exact ⟨by rw [HE.out, ← HW.out]; rfl, HT1.out⟩
end Go.Proofs.YtecaakgpogabjaaDoor

/-
  Bits of addresses: what truncate leaves, told bit by bit.
-/
namespace Go.Proofs.YtecaakgpogabjaaDoor
open Go.RowKit
set_option linter.unusedVariables false
set_option linter.unusedSimpArgs false

theorem nat_bit (y m : Nat) : ((y : Int) / 2 ^ m % 2) = if y.testBit m then 1 else 0 := by
  rw [Nat.testBit_eq_decide_div_mod_eq]
  have : ((y : Int) / 2 ^ m % 2) = ((y / 2 ^ m % 2 : Nat) : Int) := by push_cast; rfl
  rw [this]
  have h := Nat.mod_two_eq_zero_or_one (y / 2 ^ m)
  rcases h with h | h <;> simp [h]
theorem mask_bit : ∀ k, k ≤ 8 → ∀ j, j < 8 → (255 * 2 ^ (8 - k) % 256 : Nat).testBit (7 - j) = decide (j < k) := by decide
theorem mask_cast (m : Nat) : (255 * 2 ^ m % 256 : Int) = ((255 * 2 ^ m % 256 : Nat) : Int) := by
  rw [Int.natCast_emod, Int.natCast_mul, Int.natCast_pow]
  rfl
theorem cutB_nat (bits : Int) (i : Nat) (x : Nat) (hx : x < 256) : cutB bits i x = ((x &&& (255 * 2 ^ (8 - (keep bits i).toNat) % 256) : Nat) : Int) := by
  have hk0 : 0 ≤ keep bits i := by unfold keep; omega
  have hk8 : keep bits i ≤ 8 := by unfold keep; omega
  unfold cutB
  have e : (8 - keep bits i).toNat = 8 - (keep bits i).toNat := by omega
  rw [e]
  rw [mask_cast, u8_and_nat x _ hx (Nat.mod_lt _ (by omega))]
theorem cutB_bit (bits : Int) (i : Nat) (x : Int) (h : 0 ≤ x ∧ x ≤ 255) (j : Nat) (hj : j < 8) : cutB bits i x / 2 ^ (7 - j) % 2 = if (8 * i + j : Int) < bits then x / 2 ^ (7 - j) % 2 else 0 := by
  obtain ⟨n, rfl⟩ := Int.eq_ofNat_of_zero_le h.1
  rw [cutB_nat bits i n (by omega), nat_bit, nat_bit, Nat.testBit_and]
  have hk0 : 0 ≤ keep bits i := by unfold keep; omega
  have hk8 : keep bits i ≤ 8 := by unfold keep; omega
  rw [mask_bit (keep bits i).toNat (by omega) j hj]
  have e : j < (keep bits i).toNat ↔ (8 * (i : Int) + j) < bits := by unfold keep; omega
  by_cases hb : (8 * (i : Int) + j) < bits
  · simp [hb, e.2 hb]
  · have : ¬ j < (keep bits i).toNat := fun q => hb (e.1 q)
    simp [hb, this]
theorem byte_ext (x y : Int) (hx : 0 ≤ x ∧ x ≤ 255) (hy : 0 ≤ y ∧ y ≤ 255) (h : ∀ j, j < 8 → x / 2 ^ (7 - j) % 2 = y / 2 ^ (7 - j) % 2) : x = y := by
  obtain ⟨a, rfl⟩ := Int.eq_ofNat_of_zero_le hx.1
  obtain ⟨b, rfl⟩ := Int.eq_ofNat_of_zero_le hy.1
  have : a = b := by
    apply Nat.eq_of_testBit_eq
    intro m
    by_cases hm : m < 8
    · have := h (7 - m) (by omega)
      rw [show 7 - (7 - m) = m by omega, nat_bit, nat_bit] at this
      cases ha : a.testBit m <;> cases hb : b.testBit m <;> simp [ha, hb] at this ⊢
    · rw [Nat.testBit_lt_two_pow (x := a), Nat.testBit_lt_two_pow (x := b)]
      · have : 2 ^ 8 ≤ 2 ^ m := Nat.pow_le_pow_right (by omega) (by omega)
        omega
      · have : 2 ^ 8 ≤ 2 ^ m := Nat.pow_le_pow_right (by omega) (by omega)
        omega
  rw [this]
theorem bit_trunc (bits : Int) (xs : List Int) (h : okB xs) (i : Nat) (hi : i < 128) : bitP (trunc bits xs) i = if (i : Int) < bits then bitP xs i else 0 := by
  obtain ⟨x, hx⟩ : ∃ x, xs[i / 8]? = some x := ⟨_, List.getElem?_eq_getElem (by rw [h.1]; omega)⟩
  have hr := h.2 x (List.mem_of_getElem? hx)
  have e1 : bitP (trunc bits xs) i = cutB bits (i / 8) x / 2 ^ (7 - i % 8) % 2 := by
    simp [bitP, trunc, List.getElem?_mapIdx, hx]
  have e2 : bitP xs i = x / 2 ^ (7 - i % 8) % 2 := by simp [bitP, hx]
  rw [e1, e2, cutB_bit bits (i / 8) x hr (i % 8) (Nat.mod_lt _ (by omega))]
  have : (8 * ((i / 8 : Nat) : Int) + ((i % 8 : Nat) : Int)) = (i : Int) := by omega
  rw [this]
theorem bits_ext (xs ys : List Int) (h : okB xs) (h' : okB ys) (hb : ∀ i, i < 128 → bitP xs i = bitP ys i) : xs = ys := by
  apply List.ext_getElem?
  intro k
  by_cases hk : k < 16
  · obtain ⟨x, hx⟩ : ∃ x, xs[k]? = some x := ⟨_, List.getElem?_eq_getElem (by rw [h.1]; omega)⟩
    obtain ⟨y, hy⟩ : ∃ y, ys[k]? = some y := ⟨_, List.getElem?_eq_getElem (by rw [h'.1]; omega)⟩
    rw [hx, hy]
    congr 1
    refine byte_ext x y (h.2 x (List.mem_of_getElem? hx)) (h'.2 y (List.mem_of_getElem? hy)) ?_
    intro j hj
    have := hb (8 * k + j) (by omega)
    have e1 : (8 * k + j) / 8 = k := by omega
    have e2 : (8 * k + j) % 8 = j := by omega
    simpa [bitP, e1, e2, hx, hy] using this
  · rw [List.getElem?_eq_none (by rw [h.1]; omega), List.getElem?_eq_none (by rw [h'.1]; omega)]
/-- A prefix that truncate leaves as it is has no bit behind its length. -/
theorem trunc_zero (bits : Int) (px : List Int) (h : okB px) (ht : trunc bits px = px) (i : Nat) (hi : i < 128) (hb : bits ≤ (i : Int)) : bitP px i = 0 := by
  have := bit_trunc bits px h i hi
  rw [ht, if_neg (by omega)] at this
  exact this
/-- The prefix contains the address, bit by bit. -/
theorem trunc_iff (bits : Int) (px xs : List Int) (hp : okB px) (hx : okB xs) (ht : trunc bits px = px) (hb : bits ≤ 128) : trunc bits xs = px ↔ ∀ i : Nat, (i : Int) < bits → bitP px i = bitP xs i := by
  constructor
  · intro h i hi
    have := bit_trunc bits xs hx i (by omega)
    rw [h, if_pos hi] at this
    exact this
  · intro h
    refine bits_ext _ _ (trunc_ok hx) hp ?_
    intro i hi
    rw [bit_trunc bits xs hx i hi]
    by_cases hlt : (i : Int) < bits
    · rw [if_pos hlt, h i hlt]
    · rw [if_neg hlt, trunc_zero bits px hp ht i hi (by omega)]
end Go.Proofs.YtecaakgpogabjaaDoor

/-
  The contracts of the Addr heap's siftDown and fix.
-/
import Derived.Test.YtpbabdoecjlifaaSuA
namespace Go.Proofs.Ytpbabdoecjlifaa.A
open Go.RowKit
set_option linter.unusedVariables false
set_option linter.unusedSimpArgs false

set_option maxRecDepth 100000 in
set_option maxHeartbeats 4000000 in
theorem down_any (h m : Nat) (v : Value) (its : List Itm) (kv : List (Int × Value)) (last : Int) (i : Nat) (x : Itm) (w : World) (k : Hp w h m v its kv last) (hx : its[i]? = some x) (hn : (its.map Itm.id).Nodup) (hix : IxB kv its i) (hu : Down Itm.key its i) :
    Calls Try.prog 101 #[.pointer (some ⟨h, 0, none⟩), .int .i64 i] w fun e w' => ∃ (its' : List Itm) (kv' : List (Int × Value)), e = .returned (.tuple #[]) ∧ Hp w' h m v its' kv' last ∧ its'.Perm its ∧ Heap Itm.key its' ∧
      (∀ (j : Nat) y, its'[j]? = some y → look kv' y.id = some (.int .i64 j)) ∧ (∀ id, (∀ y ∈ its, y.id ≠ id) → look kv' id = look kv id) ∧ Touch (m :: v.ownBlock.toList) w w' := by
  have hil := (List.getElem?_eq_some_iff.1 hx).1
  obtain ⟨av, cv, rfl, hv1, hv2, hv3⟩ := k.form
  obtain ⟨g, rfl, hgh, hgm⟩ := hv3 (by omega)
  obtain ⟨c0, c1, c2⟩ := k.cells
  have e0 := k.elem hx
  have HTB := Lib.hid ((Touch.refl [] w).alloc (.cells (encA x).toArray 95))
  have HGB := Lib.hid (heap_alloc_new w (.cells (encA x).toArray 95))
  have kB := Lib.hid (k.touch HTB.out (by simp))
  have hfew := k.few
  have HBg := Lib.hid (show w.heap.size ≠ g from fun e => by have := (k.row.lt g rfl).2; omega)
  have HBm := Lib.hid (show w.heap.size ≠ m from fun e => by have := k.mp.lt; omega)
  have HBn := Lib.hid (Nat.le_refl w.heap.size)
  have HST := Lib.hid (Hole.start hx hix)
  have HU := Lib.hid hu
  have H1x := Lib.hid (k.one x (List.mem_of_getElem? hx))
  have okx := k.oks x (List.mem_of_getElem? hx)
  have HN := Lib.hid hn
  have hii : (i : Int) < (its.length : Int) := by omega
  clear hu hix k hn hx
  go_enter Try.func101, Try.ntmps101
  go_wp2_with (first | ((with_reducible refine at_load 95 ?_); refine wpList_load_mid rfl 95 _ rfl g (i * 19) rfl (encA x) _ e0 Try.underlying95 rfl (by rw [infoA, H1x.out.enc]) ?_) | ((with_reducible refine at_store 95 ?_); refine wpList_store_new rfl 95 _ _ rfl _ _ (encA x) (by rfl) (by rfl) (by rw [H1x.out.enc]; rfl) (by rw [infoA, H1x.out.enc]) H1x.out.cells ?_))
  generalize w.alloc (.cells (encA x).toArray 95) = W at *
  generalize hB : w.heap.size = B at *
  clear c0 c1 c2 e0 hB HBn
  simp only [Act.put]
  go_loopw [1] (fun vi wr => ∃ (q : Nat) (A C : List Itm) (kv' : List (Int × Value)), vi = .int .i64 q ∧ Hp wr h m (.slice (some ⟨g, 0, none⟩) its.length cv) A kv' last ∧ Hole its A C kv kv' q x ∧ Down Itm.key C q ∧ Touch [m, g] W wr) (fun vi _ => its.length - (intOf vi).toNat)
  case atStart => exact ⟨i, its, its, kv, rfl, kB.out, HST.out, HU.out, Touch.refl _ _⟩
  case round =>
    obtain ⟨q, A, C, kv', rfl, hp, hh, hup, ht⟩ := hrel
    have HP := Lib.hid hp
    have HH := Lib.hid hh
    have HUP := Lib.hid hup
    have HTR := Lib.hid ht
    have hAl := hh.len
    have hql := hh.il
    have HBX := Lib.hid (show B ∉ [m, g] by simp; exact ⟨HBm.out, HBg.out⟩)
    clear hp hh hup ht
    obtain ⟨c, hc⟩ : ∃ c, c = 2 * q + 1 := ⟨_, rfl⟩
    obtain ⟨d, hd⟩ : ∃ d, d = c + 1 := ⟨_, rfl⟩
    have hdI : IntKind.i64.wrap ((c : Int) + 1) = (d : Int) := by rw [IntKind.wrap_i64] <;> omega
    have hcw : IntKind.i64.wrap (2 * (q : Int) + 1) = (c : Int) := by rw [IntKind.wrap_i64] <;> omega
    have hq2 : IntKind.i64.wrap (2 * (q : Int)) = 2 * (q : Int) := by rw [IntKind.wrap_i64] <;> omega
    have HC := Lib.hid hc
    have HD := Lib.hid hd
    clear hc hd
    go_wp2_with fail
    by_cases h1 : d < its.length
    · have hcl : c < its.length := by have := HD.out; omega
      obtain ⟨y, hy⟩ : ∃ y, A[c]? = some y := ⟨_, List.getElem?_eq_getElem (by omega)⟩
      obtain ⟨z, hz⟩ : ∃ z, A[d]? = some z := ⟨_, List.getElem?_eq_getElem (by omega)⟩
      have HY := Lib.hid hy
      have HZ := Lib.hid hz
      have HOY := Lib.hid (HP.out.one y (List.mem_of_getElem? hy))
      have HOZ := Lib.hid (HP.out.one z (List.mem_of_getElem? hz))
      have hd2 : (d : Int) < (its.length : Int) := by omega
      have hc2 : (c : Int) < (its.length : Int) := by omega
      clear hy hz
      refine wp_region_held (S := Touch [] wr.drew) (by kernel_rfl) ?_
      change wpAnyH _ _ _ _ _ _ _ _ wr.drew
      have tD := (Touch.refl [] wr).drew
      have HPX := Lib.hid (HP.out.touch tD (by simp))
      have HTX := Lib.hid (HTR.out.trans tD (by simp))
      generalize wr.drew = X at *
      clear tD
      have hS := Touch.refl [] X
      obtain ⟨c0, _, _⟩ := HPX.out.cells
      have ra := HPX.out.elem HZ.out
      have rb := HPX.out.elem HY.out
      refine wpAnyH_take (i := 0) (oi := { dst := some 16, op := Op.move (Operand.tmp 5), type := 3, pos := "heap.go:57", after := #[], guard := none }) (v := .int .i64 (c : Nat)) rfl (by kernel_rfl) (by kernel_rfl) (by kernel_rfl) (fun _ _ _ h => h) (Or.inl ⟨by rfl, fun w' hw => by go_simp⟩) hS ?_
      try simp only [Act.put, List.setIfInBounds_toArray, List.set_cons_zero, List.set_cons_succ]
      refine wpAnyH_take (i := 1) (oi := { dst := some 17, op := Op.binOp BinOp.add 3 (Operand.tmp 16) (Operand.const (Value.int IntKind.i64 1)) 3, type := 3, pos := "heap.go:57", after := #[{ on := 0, ground := Ground.data }], guard := none }) (v := .int .i64 (d : Nat)) rfl (by kernel_rfl) (by kernel_rfl) (by kernel_rfl) (fun _ _ _ h => h) (Or.inl ⟨by rfl, fun w' hw => by (have q0 := hdI; go_simp)⟩) hS ?_
      try simp only [Act.put, List.setIfInBounds_toArray, List.set_cons_zero, List.set_cons_succ]
      refine wpAnyH_take (i := 2) (oi := { dst := some 18, op := Op.move (Operand.tmp 0), type := 55, pos := "heap.go:57", after := #[], guard := none }) (v := .pointer (some ⟨h, 0, none⟩)) rfl (by kernel_rfl) (by kernel_rfl) (by kernel_rfl) (fun _ _ _ h => h) (Or.inl ⟨by rfl, fun w' hw => by go_simp⟩) hS ?_
      try simp only [Act.put, List.setIfInBounds_toArray, List.set_cons_zero, List.set_cons_succ]
      refine wpAnyH_take (i := 3) (oi := { dst := some 19, op := Op.nilCheck (Operand.tmp 18), type := 0, pos := "heap.go:57", after := #[{ on := 2, ground := Ground.data }], guard := none }) (v := .pointer (some ⟨h, 0, none⟩)) rfl (by kernel_rfl) (by kernel_rfl) (by kernel_rfl) (fun _ _ _ h => h) (Or.inl ⟨by rfl, fun w' hw => by go_simp⟩) hS ?_
      try simp only [Act.put, List.setIfInBounds_toArray, List.set_cons_zero, List.set_cons_succ]
      refine wpAnyH_take (i := 4) (oi := { dst := some 20, op := Op.fieldAddr 90 (Operand.tmp 19) 0, type := 0, pos := "heap.go:57", after := #[{ on := 3, ground := Ground.data }], guard := none }) (v := .pointer (some ⟨h, 0, none⟩)) rfl (by kernel_rfl) (by kernel_rfl) (by kernel_rfl) (fun _ _ _ h => h) (Or.inl ⟨by rfl, fun w' hw => by go_simp⟩) hS ?_
      try simp only [Act.put, List.setIfInBounds_toArray, List.set_cons_zero, List.set_cons_succ]
      refine wpAnyH_take (i := 5) (oi := { dst := some 21, op := Op.load 88 (Operand.tmp 20), type := 88, pos := "heap.go:57", after := #[{ on := 4, ground := Ground.data }], guard := none }) (v := .slice (some ⟨g, 0, none⟩) its.length cv) rfl (by kernel_rfl) (by kernel_rfl) (by kernel_rfl) (fun _ _ _ h => h) (Or.inl ⟨by rfl, fun w' hw => by (have q := hw.cell c0 (by simp); go_simp)⟩) hS ?_
      try simp only [Act.put, List.setIfInBounds_toArray, List.set_cons_zero, List.set_cons_succ]
      refine wpAnyH_take (i := 6) (oi := { dst := some 22, op := Op.call { callee := Callee.builtin Builtin.len, args := #[Operand.tmp 21], argTypes := #[88] }, type := 3, pos := "heap.go:57", after := #[{ on := 5, ground := Ground.data }], guard := none }) (v := .int .i64 (its.length : Nat)) rfl (by kernel_rfl) (by kernel_rfl) (by kernel_rfl) (fun _ _ _ h => h) (Or.inl ⟨by rfl, fun w' hw => by go_simp⟩) hS ?_
      try simp only [Act.put, List.setIfInBounds_toArray, List.set_cons_zero, List.set_cons_succ]
      refine wpAnyH_take (i := 7) (oi := { dst := some 23, op := Op.binOp BinOp.lss 3 (Operand.tmp 17) (Operand.tmp 22) 3, type := 4, pos := "heap.go:57", after := #[{ on := 1, ground := Ground.data }, { on := 6, ground := Ground.data }], guard := none }) (v := .bool true) rfl (by kernel_rfl) (by kernel_rfl) (by kernel_rfl) (fun _ _ _ h => h) (Or.inl ⟨by rfl, fun w' hw => by (have q0 := hd2; go_simp)⟩) hS ?_
      try simp only [Act.put, List.setIfInBounds_toArray, List.set_cons_zero, List.set_cons_succ]
      refine wpAnyH_take (i := 8) (oi := { dst := some 24, op := Op.move (Operand.tmp 23), type := 4, pos := "heap.go:57", after := #[{ on := 7, ground := Ground.data }], guard := none }) (v := .bool true) rfl (by kernel_rfl) (by kernel_rfl) (by kernel_rfl) (fun _ _ _ h => h) (Or.inl ⟨by rfl, fun w' hw => by go_simp⟩) hS ?_
      try simp only [Act.put, List.setIfInBounds_toArray, List.set_cons_zero, List.set_cons_succ]
      refine wpAnyH_take (i := 9) (oi := { dst := some 25, op := Op.move (Operand.tmp 0), type := 55, pos := "heap.go:57", after := #[{ on := 8, ground := Ground.guard }], guard := some (8, true) }) (v := .pointer (some ⟨h, 0, none⟩)) rfl (by kernel_rfl) (by kernel_rfl) (by kernel_rfl) (fun _ _ _ h => h) (Or.inl ⟨by rfl, fun w' hw => by go_simp⟩) hS ?_
      try simp only [Act.put, List.setIfInBounds_toArray, List.set_cons_zero, List.set_cons_succ]
      refine wpAnyH_take (i := 10) (oi := { dst := some 26, op := Op.nilCheck (Operand.tmp 25), type := 0, pos := "heap.go:57", after := #[{ on := 9, ground := Ground.data }, { on := 8, ground := Ground.guard }], guard := some (8, true) }) (v := .pointer (some ⟨h, 0, none⟩)) rfl (by kernel_rfl) (by kernel_rfl) (by kernel_rfl) (fun _ _ _ h => h) (Or.inl ⟨by rfl, fun w' hw => by go_simp⟩) hS ?_
      try simp only [Act.put, List.setIfInBounds_toArray, List.set_cons_zero, List.set_cons_succ]
      refine wpAnyH_take (i := 11) (oi := { dst := some 27, op := Op.fieldAddr 90 (Operand.tmp 26) 0, type := 0, pos := "heap.go:57", after := #[{ on := 10, ground := Ground.data }, { on := 8, ground := Ground.guard }], guard := some (8, true) }) (v := .pointer (some ⟨h, 0, none⟩)) rfl (by kernel_rfl) (by kernel_rfl) (by kernel_rfl) (fun _ _ _ h => h) (Or.inl ⟨by rfl, fun w' hw => by go_simp⟩) hS ?_
      try simp only [Act.put, List.setIfInBounds_toArray, List.set_cons_zero, List.set_cons_succ]
      refine wpAnyH_take (i := 12) (oi := { dst := some 28, op := Op.load 88 (Operand.tmp 27), type := 88, pos := "heap.go:57", after := #[{ on := 11, ground := Ground.data }, { on := 8, ground := Ground.guard }], guard := some (8, true) }) (v := .slice (some ⟨g, 0, none⟩) its.length cv) rfl (by kernel_rfl) (by kernel_rfl) (by kernel_rfl) (fun _ _ _ h => h) (Or.inl ⟨by rfl, fun w' hw => by (have q := hw.cell c0 (by simp); go_simp)⟩) hS ?_
      try simp only [Act.put, List.setIfInBounds_toArray, List.set_cons_zero, List.set_cons_succ]
      refine wpAnyH_take (i := 13) (oi := { dst := some 29, op := Op.move (Operand.tmp 5), type := 3, pos := "heap.go:57", after := #[{ on := 8, ground := Ground.guard }], guard := some (8, true) }) (v := .int .i64 (c : Nat)) rfl (by kernel_rfl) (by kernel_rfl) (by kernel_rfl) (fun _ _ _ h => h) (Or.inl ⟨by rfl, fun w' hw => by go_simp⟩) hS ?_
      try simp only [Act.put, List.setIfInBounds_toArray, List.set_cons_zero, List.set_cons_succ]
      refine wpAnyH_take (i := 14) (oi := { dst := some 30, op := Op.binOp BinOp.add 3 (Operand.tmp 29) (Operand.const (Value.int IntKind.i64 1)) 3, type := 3, pos := "heap.go:57", after := #[{ on := 13, ground := Ground.data }, { on := 8, ground := Ground.guard }], guard := some (8, true) }) (v := .int .i64 (d : Nat)) rfl (by kernel_rfl) (by kernel_rfl) (by kernel_rfl) (fun _ _ _ h => h) (Or.inl ⟨by rfl, fun w' hw => by (have q0 := hdI; go_simp)⟩) hS ?_
      try simp only [Act.put, List.setIfInBounds_toArray, List.set_cons_zero, List.set_cons_succ]
      refine wpAnyH_take (i := 15) (oi := { dst := some 31, op := Op.indexAddr 88 (Operand.tmp 28) (Operand.tmp 30), type := 0, pos := "heap.go:57", after := #[{ on := 12, ground := Ground.data }, { on := 14, ground := Ground.data }, { on := 8, ground := Ground.guard }], guard := some (8, true) }) (v := .pointer (some ⟨g, d * 19, none⟩)) rfl (by kernel_rfl) (by kernel_rfl) (by kernel_rfl) (fun _ _ _ h => h) (Or.inl ⟨by rfl, fun w' hw => by (have q0 := hd2; have q1 := h1; go_simp)⟩) hS ?_
      try simp only [Act.put, List.setIfInBounds_toArray, List.set_cons_zero, List.set_cons_succ]
      refine wpAnyH_take (i := 16) (oi := { dst := some 32, op := Op.load 95 (Operand.tmp 31), type := 95, pos := "heap.go:57", after := #[{ on := 15, ground := Ground.data }, { on := 8, ground := Ground.guard }], guard := some (8, true) }) (v := .agg (encA z).toArray) rfl (by kernel_rfl) (by kernel_rfl) (by kernel_rfl) (fun _ _ _ h => h) (Or.inl ⟨by rfl, fun w' hw => exec_load_agg _ 95 _ rfl _ _ rfl (encA z) _ (hw.range ra (by simp)) Try.underlying95 rfl (by rw [infoA, HOZ.out.enc])⟩) hS ?_
      try simp only [Act.put, List.setIfInBounds_toArray, List.set_cons_zero, List.set_cons_succ]
      refine wpAnyH_take (i := 17) (oi := { dst := some 33, op := Op.move (Operand.tmp 0), type := 55, pos := "heap.go:57", after := #[{ on := 8, ground := Ground.guard }], guard := some (8, true) }) (v := .pointer (some ⟨h, 0, none⟩)) rfl (by kernel_rfl) (by kernel_rfl) (by kernel_rfl) (fun _ _ _ h => h) (Or.inl ⟨by rfl, fun w' hw => by go_simp⟩) hS ?_
      try simp only [Act.put, List.setIfInBounds_toArray, List.set_cons_zero, List.set_cons_succ]
      refine wpAnyH_take (i := 18) (oi := { dst := some 34, op := Op.nilCheck (Operand.tmp 33), type := 0, pos := "heap.go:57", after := #[{ on := 17, ground := Ground.data }, { on := 8, ground := Ground.guard }], guard := some (8, true) }) (v := .pointer (some ⟨h, 0, none⟩)) rfl (by kernel_rfl) (by kernel_rfl) (by kernel_rfl) (fun _ _ _ h => h) (Or.inl ⟨by rfl, fun w' hw => by go_simp⟩) hS ?_
      try simp only [Act.put, List.setIfInBounds_toArray, List.set_cons_zero, List.set_cons_succ]
      refine wpAnyH_take (i := 19) (oi := { dst := some 35, op := Op.fieldAddr 90 (Operand.tmp 34) 0, type := 0, pos := "heap.go:57", after := #[{ on := 18, ground := Ground.data }, { on := 8, ground := Ground.guard }], guard := some (8, true) }) (v := .pointer (some ⟨h, 0, none⟩)) rfl (by kernel_rfl) (by kernel_rfl) (by kernel_rfl) (fun _ _ _ h => h) (Or.inl ⟨by rfl, fun w' hw => by go_simp⟩) hS ?_
      try simp only [Act.put, List.setIfInBounds_toArray, List.set_cons_zero, List.set_cons_succ]
      refine wpAnyH_take (i := 20) (oi := { dst := some 36, op := Op.load 88 (Operand.tmp 35), type := 88, pos := "heap.go:57", after := #[{ on := 19, ground := Ground.data }, { on := 8, ground := Ground.guard }], guard := some (8, true) }) (v := .slice (some ⟨g, 0, none⟩) its.length cv) rfl (by kernel_rfl) (by kernel_rfl) (by kernel_rfl) (fun _ _ _ h => h) (Or.inl ⟨by rfl, fun w' hw => by (have q := hw.cell c0 (by simp); go_simp)⟩) hS ?_
      try simp only [Act.put, List.setIfInBounds_toArray, List.set_cons_zero, List.set_cons_succ]
      refine wpAnyH_take (i := 21) (oi := { dst := some 37, op := Op.move (Operand.tmp 5), type := 3, pos := "heap.go:57", after := #[{ on := 8, ground := Ground.guard }], guard := some (8, true) }) (v := .int .i64 (c : Nat)) rfl (by kernel_rfl) (by kernel_rfl) (by kernel_rfl) (fun _ _ _ h => h) (Or.inl ⟨by rfl, fun w' hw => by go_simp⟩) hS ?_
      try simp only [Act.put, List.setIfInBounds_toArray, List.set_cons_zero, List.set_cons_succ]
      refine wpAnyH_take (i := 22) (oi := { dst := some 38, op := Op.indexAddr 88 (Operand.tmp 36) (Operand.tmp 37), type := 0, pos := "heap.go:57", after := #[{ on := 20, ground := Ground.data }, { on := 21, ground := Ground.data }, { on := 8, ground := Ground.guard }], guard := some (8, true) }) (v := .pointer (some ⟨g, c * 19, none⟩)) rfl (by kernel_rfl) (by kernel_rfl) (by kernel_rfl) (fun _ _ _ h => h) (Or.inl ⟨by rfl, fun w' hw => by (have q0 := hc2; have q1 := hcl; go_simp)⟩) hS ?_
      try simp only [Act.put, List.setIfInBounds_toArray, List.set_cons_zero, List.set_cons_succ]
      refine wpAnyH_take (i := 23) (oi := { dst := some 39, op := Op.load 95 (Operand.tmp 38), type := 95, pos := "heap.go:57", after := #[{ on := 22, ground := Ground.data }, { on := 8, ground := Ground.guard }], guard := some (8, true) }) (v := .agg (encA y).toArray) rfl (by kernel_rfl) (by kernel_rfl) (by kernel_rfl) (fun _ _ _ h => h) (Or.inl ⟨by rfl, fun w' hw => exec_load_agg _ 95 _ rfl _ _ rfl (encA y) _ (hw.range rb (by simp)) Try.underlying95 rfl (by rw [infoA, HOY.out.enc])⟩) hS ?_
      try simp only [Act.put, List.setIfInBounds_toArray, List.set_cons_zero, List.set_cons_succ]
      refine wpAnyH_ready (rs := [24]) (by kernel_rfl) (by simp) ?_
      refine AllReadyH.cons (o := { dst := some 40, op := Op.call { callee := Callee.value (Operand.func 56), args := #[Operand.tmp 32, Operand.tmp 39], argTypes := #[95, 95] }, type := 3, pos := "heap.go:57", after := #[{ on := 16, ground := Ground.data }, { on := 23, ground := Ground.data }, { on := 8, ground := Ground.chain }, { on := 8, ground := Ground.guard }], guard := some (8, true) }) rfl (fun K hK => ?_) AllReadyH.nil
      go_simp
      refine (cmp_quiet z y _).mono ?_
      rintro e w5 ⟨rfl, t5⟩
      have hS2 := hS.trans t5 (by simp)
      refine hK.out _ _ hS2 (fun _ => ?_)
      clear hK K hS t5
      have hS := hS2
      clear hS2
      try simp only [Act.put, List.setIfInBounds_toArray, List.set_cons_zero, List.set_cons_succ]
      refine wpAnyH_take (i := 25) (oi := { dst := some 41, op := Op.binOp BinOp.lss 3 (Operand.tmp 40) (Operand.const (Value.int IntKind.i64 0)) 3, type := 4, pos := "heap.go:57", after := #[{ on := 24, ground := Ground.data }, { on := 8, ground := Ground.guard }], guard := some (8, true) }) (v := .bool (decide (cmpT z.key y.key < 0))) rfl (by kernel_rfl) (by kernel_rfl) (by kernel_rfl) (fun _ _ _ h => h) (Or.inl ⟨by rfl, fun w' hw => by go_simp⟩) hS ?_
      try simp only [Act.put, List.setIfInBounds_toArray, List.set_cons_zero, List.set_cons_succ]
      refine wpAnyH_take (i := 26) (oi := { dst := some 42, op := Op.pick (Operand.tmp 24) (Operand.tmp 41) (Operand.const (Value.bool false)), type := 4, pos := "heap.go:57", after := #[{ on := 8, ground := Ground.data }, { on := 25, ground := Ground.data }], guard := none }) (v := .bool (decide (cmpT z.key y.key < 0))) rfl (by kernel_rfl) (by kernel_rfl) (by kernel_rfl) (fun _ _ _ h => h) (Or.inl ⟨by rfl, fun w' hw => by go_simp⟩) hS ?_
      try simp only [Act.put, List.setIfInBounds_toArray, List.set_cons_zero, List.set_cons_succ]
      refine wpAnyH_done (by kernel_rfl) ?_ _
      try simp only [Act.put, List.setIfInBounds_toArray, List.set_cons_zero, List.set_cons_succ]
      have HP5 := Lib.hid (HPX.out.touch hS (by simp))
      have HT5 := Lib.hid (HTX.out.trans hS (by simp))
      clear hS c0 HPX HTX ra rb
      by_cases hlz : cmpT z.key y.key < 0
      · have HMIN := Lib.hid (show ∀ (b : Nat) (u : Itm), 1 ≤ b → par b = q → C[b]? = some u → le z.key u.key by
          intro b u hb hpb hu
          have e1 : b = c ∨ b = d := by (have := HC.out; have := HD.out; unfold par at hpb; omega)
          rcases e1 with rfl | rfl
          · rw [HH.out.other (by have := HC.out; omega), HY.out] at hu
            cases hu
            exact lt_le ((cmpT_lt _ _).1 hlz)
          · rw [HH.out.other (by have := HC.out; have := HD.out; omega), HZ.out] at hu
            cases hu
            exact le_refl _)
        have HX := Lib.hid (show d = 2 * q + 1 ∨ d = 2 * q + 2 by (have := HC.out; have := HD.out; omega))
        go_wp2_with fail
        have hei : (d : Int) < (its.length : Int) := by omega
        have hge : ¬ (its.length : Int) ≤ (d : Int) := by omega
        have hel : d < its.length := by omega
        refine wp_region_held (S := Touch [] w5.drew) (by kernel_rfl) ?_
        change wpAnyH _ _ _ _ _ _ _ _ w5.drew
        have tD := (Touch.refl [] w5).drew
        have HPX := Lib.hid (HP5.out.touch tD (by simp))
        have HTX := Lib.hid (HT5.out.trans tD (by simp))
        generalize w5.drew = X at *
        clear tD
        have hS := Touch.refl [] X
        obtain ⟨c0, _, _⟩ := HPX.out.cells
        have ra := range_block (HTX.out.at HGB.out HBX.out)
        have rb := HPX.out.elem HZ.out
        refine wpAnyH_take (i := 0) (oi := { dst := some 45, op := Op.move (Operand.tmp 5), type := 3, pos := "heap.go:60", after := #[], guard := none }) (v := .int .i64 (d : Nat)) rfl (by kernel_rfl) (by kernel_rfl) (by kernel_rfl) (fun _ _ _ h => h) (Or.inl ⟨by rfl, fun w' hw => by go_simp⟩) hS ?_
        try simp only [Act.put, List.setIfInBounds_toArray, List.set_cons_zero, List.set_cons_succ]
        refine wpAnyH_take (i := 1) (oi := { dst := some 46, op := Op.move (Operand.tmp 0), type := 55, pos := "heap.go:60", after := #[], guard := none }) (v := .pointer (some ⟨h, 0, none⟩)) rfl (by kernel_rfl) (by kernel_rfl) (by kernel_rfl) (fun _ _ _ h => h) (Or.inl ⟨by rfl, fun w' hw => by go_simp⟩) hS ?_
        try simp only [Act.put, List.setIfInBounds_toArray, List.set_cons_zero, List.set_cons_succ]
        refine wpAnyH_take (i := 2) (oi := { dst := some 47, op := Op.nilCheck (Operand.tmp 46), type := 0, pos := "heap.go:60", after := #[{ on := 1, ground := Ground.data }], guard := none }) (v := .pointer (some ⟨h, 0, none⟩)) rfl (by kernel_rfl) (by kernel_rfl) (by kernel_rfl) (fun _ _ _ h => h) (Or.inl ⟨by rfl, fun w' hw => by go_simp⟩) hS ?_
        try simp only [Act.put, List.setIfInBounds_toArray, List.set_cons_zero, List.set_cons_succ]
        refine wpAnyH_take (i := 3) (oi := { dst := some 48, op := Op.fieldAddr 90 (Operand.tmp 47) 0, type := 0, pos := "heap.go:60", after := #[{ on := 2, ground := Ground.data }], guard := none }) (v := .pointer (some ⟨h, 0, none⟩)) rfl (by kernel_rfl) (by kernel_rfl) (by kernel_rfl) (fun _ _ _ h => h) (Or.inl ⟨by rfl, fun w' hw => by go_simp⟩) hS ?_
        try simp only [Act.put, List.setIfInBounds_toArray, List.set_cons_zero, List.set_cons_succ]
        refine wpAnyH_take (i := 4) (oi := { dst := some 49, op := Op.load 88 (Operand.tmp 48), type := 88, pos := "heap.go:60", after := #[{ on := 3, ground := Ground.data }], guard := none }) (v := .slice (some ⟨g, 0, none⟩) its.length cv) rfl (by kernel_rfl) (by kernel_rfl) (by kernel_rfl) (fun _ _ _ h => h) (Or.inl ⟨by rfl, fun w' hw => by (have q := hw.cell c0 (by simp); go_simp)⟩) hS ?_
        try simp only [Act.put, List.setIfInBounds_toArray, List.set_cons_zero, List.set_cons_succ]
        refine wpAnyH_take (i := 5) (oi := { dst := some 50, op := Op.call { callee := Callee.builtin Builtin.len, args := #[Operand.tmp 49], argTypes := #[88] }, type := 3, pos := "heap.go:60", after := #[{ on := 4, ground := Ground.data }], guard := none }) (v := .int .i64 (its.length : Nat)) rfl (by kernel_rfl) (by kernel_rfl) (by kernel_rfl) (fun _ _ _ h => h) (Or.inl ⟨by rfl, fun w' hw => by go_simp⟩) hS ?_
        try simp only [Act.put, List.setIfInBounds_toArray, List.set_cons_zero, List.set_cons_succ]
        refine wpAnyH_take (i := 6) (oi := { dst := some 51, op := Op.binOp BinOp.geq 3 (Operand.tmp 45) (Operand.tmp 50) 3, type := 4, pos := "heap.go:60", after := #[{ on := 0, ground := Ground.data }, { on := 5, ground := Ground.data }], guard := none }) (v := .bool false) rfl (by kernel_rfl) (by kernel_rfl) (by kernel_rfl) (fun _ _ _ h => h) (Or.inl ⟨by rfl, fun w' hw => by (have q0 := hge; go_simp)⟩) hS ?_
        try simp only [Act.put, List.setIfInBounds_toArray, List.set_cons_zero, List.set_cons_succ]
        refine wpAnyH_take (i := 7) (oi := { dst := some 52, op := Op.move (Operand.tmp 51), type := 4, pos := "heap.go:60", after := #[{ on := 6, ground := Ground.data }], guard := none }) (v := .bool false) rfl (by kernel_rfl) (by kernel_rfl) (by kernel_rfl) (fun _ _ _ h => h) (Or.inl ⟨by rfl, fun w' hw => by go_simp⟩) hS ?_
        try simp only [Act.put, List.setIfInBounds_toArray, List.set_cons_zero, List.set_cons_succ]
        refine wpAnyH_take (i := 8) (oi := { dst := some 53, op := Op.load 95 (Operand.tmp 4), type := 95, pos := "heap.go:60", after := #[{ on := 7, ground := Ground.guard }], guard := some (7, false) }) (v := .agg (encA x).toArray) rfl (by kernel_rfl) (by kernel_rfl) (by kernel_rfl) (fun _ _ _ h => h) (Or.inl ⟨by rfl, fun w' hw => exec_load_agg _ 95 _ rfl _ _ rfl (encA x) _ (hw.range ra (by simp)) Try.underlying95 rfl (by rw [infoA, H1x.out.enc])⟩) hS ?_
        try simp only [Act.put, List.setIfInBounds_toArray, List.set_cons_zero, List.set_cons_succ]
        refine wpAnyH_take (i := 9) (oi := { dst := some 54, op := Op.move (Operand.tmp 0), type := 55, pos := "heap.go:60", after := #[{ on := 7, ground := Ground.guard }], guard := some (7, false) }) (v := .pointer (some ⟨h, 0, none⟩)) rfl (by kernel_rfl) (by kernel_rfl) (by kernel_rfl) (fun _ _ _ h => h) (Or.inl ⟨by rfl, fun w' hw => by go_simp⟩) hS ?_
        try simp only [Act.put, List.setIfInBounds_toArray, List.set_cons_zero, List.set_cons_succ]
        refine wpAnyH_take (i := 10) (oi := { dst := some 55, op := Op.nilCheck (Operand.tmp 54), type := 0, pos := "heap.go:60", after := #[{ on := 9, ground := Ground.data }, { on := 7, ground := Ground.guard }], guard := some (7, false) }) (v := .pointer (some ⟨h, 0, none⟩)) rfl (by kernel_rfl) (by kernel_rfl) (by kernel_rfl) (fun _ _ _ h => h) (Or.inl ⟨by rfl, fun w' hw => by go_simp⟩) hS ?_
        try simp only [Act.put, List.setIfInBounds_toArray, List.set_cons_zero, List.set_cons_succ]
        refine wpAnyH_take (i := 11) (oi := { dst := some 56, op := Op.fieldAddr 90 (Operand.tmp 55) 0, type := 0, pos := "heap.go:60", after := #[{ on := 10, ground := Ground.data }, { on := 7, ground := Ground.guard }], guard := some (7, false) }) (v := .pointer (some ⟨h, 0, none⟩)) rfl (by kernel_rfl) (by kernel_rfl) (by kernel_rfl) (fun _ _ _ h => h) (Or.inl ⟨by rfl, fun w' hw => by go_simp⟩) hS ?_
        try simp only [Act.put, List.setIfInBounds_toArray, List.set_cons_zero, List.set_cons_succ]
        refine wpAnyH_take (i := 12) (oi := { dst := some 57, op := Op.load 88 (Operand.tmp 56), type := 88, pos := "heap.go:60", after := #[{ on := 11, ground := Ground.data }, { on := 7, ground := Ground.guard }], guard := some (7, false) }) (v := .slice (some ⟨g, 0, none⟩) its.length cv) rfl (by kernel_rfl) (by kernel_rfl) (by kernel_rfl) (fun _ _ _ h => h) (Or.inl ⟨by rfl, fun w' hw => by (have q := hw.cell c0 (by simp); go_simp)⟩) hS ?_
        try simp only [Act.put, List.setIfInBounds_toArray, List.set_cons_zero, List.set_cons_succ]
        refine wpAnyH_take (i := 13) (oi := { dst := some 58, op := Op.move (Operand.tmp 5), type := 3, pos := "heap.go:60", after := #[{ on := 7, ground := Ground.guard }], guard := some (7, false) }) (v := .int .i64 (d : Nat)) rfl (by kernel_rfl) (by kernel_rfl) (by kernel_rfl) (fun _ _ _ h => h) (Or.inl ⟨by rfl, fun w' hw => by go_simp⟩) hS ?_
        try simp only [Act.put, List.setIfInBounds_toArray, List.set_cons_zero, List.set_cons_succ]
        refine wpAnyH_take (i := 14) (oi := { dst := some 59, op := Op.indexAddr 88 (Operand.tmp 57) (Operand.tmp 58), type := 0, pos := "heap.go:60", after := #[{ on := 12, ground := Ground.data }, { on := 13, ground := Ground.data }, { on := 7, ground := Ground.guard }], guard := some (7, false) }) (v := .pointer (some ⟨g, d * 19, none⟩)) rfl (by kernel_rfl) (by kernel_rfl) (by kernel_rfl) (fun _ _ _ h => h) (Or.inl ⟨by rfl, fun w' hw => by (have q0 := hei; have q1 := hel; go_simp)⟩) hS ?_
        try simp only [Act.put, List.setIfInBounds_toArray, List.set_cons_zero, List.set_cons_succ]
        refine wpAnyH_take (i := 15) (oi := { dst := some 60, op := Op.load 95 (Operand.tmp 59), type := 95, pos := "heap.go:60", after := #[{ on := 14, ground := Ground.data }, { on := 7, ground := Ground.guard }], guard := some (7, false) }) (v := .agg (encA z).toArray) rfl (by kernel_rfl) (by kernel_rfl) (by kernel_rfl) (fun _ _ _ h => h) (Or.inl ⟨by rfl, fun w' hw => exec_load_agg _ 95 _ rfl _ _ rfl (encA z) _ (hw.range rb (by simp)) Try.underlying95 rfl (by rw [infoA, HOZ.out.enc])⟩) hS ?_
        try simp only [Act.put, List.setIfInBounds_toArray, List.set_cons_zero, List.set_cons_succ]
        refine wpAnyH_ready (rs := [16]) (by kernel_rfl) (by simp) ?_
        refine AllReadyH.cons (o := { dst := some 61, op := Op.call { callee := Callee.value (Operand.func 56), args := #[Operand.tmp 53, Operand.tmp 60], argTypes := #[95, 95] }, type := 3, pos := "heap.go:60", after := #[{ on := 8, ground := Ground.data }, { on := 15, ground := Ground.data }, { on := 7, ground := Ground.chain }, { on := 7, ground := Ground.guard }], guard := some (7, false) }) rfl (fun K hK => ?_) AllReadyH.nil
        go_simp
        refine (cmp_quiet x z _).mono ?_
        rintro e w6 ⟨rfl, t5⟩
        have hS2 := hS.trans t5 (by simp)
        refine hK.out _ _ hS2 (fun _ => ?_)
        clear hK K hS t5
        have hS := hS2
        clear hS2
        try simp only [Act.put, List.setIfInBounds_toArray, List.set_cons_zero, List.set_cons_succ]
        refine wpAnyH_take (i := 17) (oi := { dst := some 62, op := Op.binOp BinOp.leq 3 (Operand.tmp 61) (Operand.const (Value.int IntKind.i64 0)) 3, type := 4, pos := "heap.go:60", after := #[{ on := 16, ground := Ground.data }, { on := 7, ground := Ground.guard }], guard := some (7, false) }) (v := .bool (decide (cmpT x.key z.key ≤ 0))) rfl (by kernel_rfl) (by kernel_rfl) (by kernel_rfl) (fun _ _ _ h => h) (Or.inl ⟨by rfl, fun w' hw => by go_simp⟩) hS ?_
        try simp only [Act.put, List.setIfInBounds_toArray, List.set_cons_zero, List.set_cons_succ]
        refine wpAnyH_take (i := 18) (oi := { dst := some 63, op := Op.pick (Operand.tmp 52) (Operand.const (Value.bool true)) (Operand.tmp 62), type := 4, pos := "heap.go:60", after := #[{ on := 7, ground := Ground.data }, { on := 17, ground := Ground.data }], guard := none }) (v := .bool (decide (cmpT x.key z.key ≤ 0))) rfl (by kernel_rfl) (by kernel_rfl) (by kernel_rfl) (fun _ _ _ h => h) (Or.inl ⟨by rfl, fun w' hw => by go_simp⟩) hS ?_
        try simp only [Act.put, List.setIfInBounds_toArray, List.set_cons_zero, List.set_cons_succ]
        refine wpAnyH_done (by kernel_rfl) ?_ _
        try simp only [Act.put, List.setIfInBounds_toArray, List.set_cons_zero, List.set_cons_succ]
        have HP6 := Lib.hid (HPX.out.touch hS (by simp))
        have HT6 := Lib.hid (HTX.out.trans hS (by simp))
        clear hS c0 HPX HTX ra rb
        have HPC := Lib.hid (show par d = q ∧ 1 ≤ d ∧ q < d by (have := HX.out; unfold par; omega))
        by_cases hle : cmpT x.key z.key ≤ 0
        · have rb := range_block (HT6.out.at HGB.out HBX.out)
          have HE := Lib.hid (HUP.out.stop (by
            intro b hb hpb a u ha hu
            rw [hpb, HH.out.at_i] at ha
            cases ha
            exact le_trans ((cmpT_le _ _).1 hle) (HMIN.out b u hb hpb hu)))
          go_wp2_with ((with_reducible refine at_load 95 ?_); refine wpList_load_mid rfl 95 _ rfl B (0) rfl (encA x) _ rb Try.underlying95 rfl (by rw [infoA, H1x.out.enc]) ?_)
          refine (set_any h m _ A kv' last q x w6 HP6.out (by omega) H1x.out okx).mono ?_
          rintro e w2 ⟨rfl, hp2, t2⟩
          have T2 : Touch [m, g] w w2 := ((HTB.out.mono (S' := [m, g]) (by simp)).trans HT6.out (fun y hy => .inl hy)).trans t2 (by intro y hy; simp [Value.ownBlock] at hy; rcases hy with rfl | rfl <;> simp)
          have HP2 := Lib.hid hp2
          clear hp2 t2 rb
          go_wp2_with fail
          exact end0 rfl rfl ⟨C, _, rfl, by rw [HH.out.c]; exact HP2.out, HH.out.perm, HE.out, (HH.out.fin HN.out).1, (HH.out.fin HN.out).2, T2⟩
        · obtain ⟨c0, c1, c2⟩ := HP6.out.cells
          have rz := HP6.out.elem HZ.out
          have hzm := List.mem_of_getElem? HZ.out
          have HL := Lib.hid (show lt z.key x.key by
            rcases le_total x.key z.key with h1 | h1
            · exact absurd ((cmpT_le _ _).2 h1) hle
            · exact h1)
          go_wp2_with ((with_reducible refine at_load 95 ?_); refine wpList_load_mid rfl 95 _ rfl g (d * 19) rfl (encA z) _ rz Try.underlying95 rfl (by rw [infoA, HOZ.out.enc]) ?_)
          refine (set_any h m _ A kv' last q z w6 HP6.out (by omega) HOZ.out (HP6.out.oks z hzm)).mono ?_
          rintro e w2 ⟨rfl, hp2, t2⟩
          have T2 : Touch [m, g] W w2 := HT6.out.trans t2 (by intro y hy; simp [Value.ownBlock] at hy; rcases hy with rfl | rfl <;> simp)
          have HP2 := Lib.hid hp2
          have HM := Lib.hid (HH.out.move HN.out (p := d) (by have := HPC.out; omega) HZ.out)
          have HS := Lib.hid (HUP.out.step HPC.out.2.1 HPC.out.1 HH.out.at_i (by rw [HH.out.other (by have := HPC.out; omega)]; exact HZ.out) HL.out HMIN.out)
          clear hp2 t2 c0 c1 c2 rz
          go_wp2_with fail
          go_roundw
          case rel => exact ⟨d, _, _, _, rfl, HP2.out, HM.out, HS.out, T2⟩
          case measure => (have := HPC.out; simp [intOf]; omega)
      · have HMIN := Lib.hid (show ∀ (b : Nat) (u : Itm), 1 ≤ b → par b = q → C[b]? = some u → le y.key u.key by
          intro b u hb hpb hu
          have e1 : b = c ∨ b = d := by (have := HC.out; have := HD.out; unfold par at hpb; omega)
          rcases e1 with rfl | rfl
          · rw [HH.out.other (by have := HC.out; omega), HY.out] at hu
            cases hu
            exact le_refl _
          · rw [HH.out.other (by have := HC.out; have := HD.out; omega), HZ.out] at hu
            cases hu
            rcases le_total y.key z.key with h1 | h1
            · exact h1
            · exact absurd ((cmpT_lt _ _).2 h1) hlz)
        have HX := Lib.hid (show c = 2 * q + 1 ∨ c = 2 * q + 2 by (have := HC.out; have := HD.out; omega))
        go_wp2_with fail
        have hei : (c : Int) < (its.length : Int) := by omega
        have hge : ¬ (its.length : Int) ≤ (c : Int) := by omega
        have hel : c < its.length := by omega
        refine wp_region_held (S := Touch [] w5.drew) (by kernel_rfl) ?_
        change wpAnyH _ _ _ _ _ _ _ _ w5.drew
        have tD := (Touch.refl [] w5).drew
        have HPX := Lib.hid (HP5.out.touch tD (by simp))
        have HTX := Lib.hid (HT5.out.trans tD (by simp))
        generalize w5.drew = X at *
        clear tD
        have hS := Touch.refl [] X
        obtain ⟨c0, _, _⟩ := HPX.out.cells
        have ra := range_block (HTX.out.at HGB.out HBX.out)
        have rb := HPX.out.elem HY.out
        refine wpAnyH_take (i := 0) (oi := { dst := some 45, op := Op.move (Operand.tmp 5), type := 3, pos := "heap.go:60", after := #[], guard := none }) (v := .int .i64 (c : Nat)) rfl (by kernel_rfl) (by kernel_rfl) (by kernel_rfl) (fun _ _ _ h => h) (Or.inl ⟨by rfl, fun w' hw => by go_simp⟩) hS ?_
        try simp only [Act.put, List.setIfInBounds_toArray, List.set_cons_zero, List.set_cons_succ]
        refine wpAnyH_take (i := 1) (oi := { dst := some 46, op := Op.move (Operand.tmp 0), type := 55, pos := "heap.go:60", after := #[], guard := none }) (v := .pointer (some ⟨h, 0, none⟩)) rfl (by kernel_rfl) (by kernel_rfl) (by kernel_rfl) (fun _ _ _ h => h) (Or.inl ⟨by rfl, fun w' hw => by go_simp⟩) hS ?_
        try simp only [Act.put, List.setIfInBounds_toArray, List.set_cons_zero, List.set_cons_succ]
        refine wpAnyH_take (i := 2) (oi := { dst := some 47, op := Op.nilCheck (Operand.tmp 46), type := 0, pos := "heap.go:60", after := #[{ on := 1, ground := Ground.data }], guard := none }) (v := .pointer (some ⟨h, 0, none⟩)) rfl (by kernel_rfl) (by kernel_rfl) (by kernel_rfl) (fun _ _ _ h => h) (Or.inl ⟨by rfl, fun w' hw => by go_simp⟩) hS ?_
        try simp only [Act.put, List.setIfInBounds_toArray, List.set_cons_zero, List.set_cons_succ]
        refine wpAnyH_take (i := 3) (oi := { dst := some 48, op := Op.fieldAddr 90 (Operand.tmp 47) 0, type := 0, pos := "heap.go:60", after := #[{ on := 2, ground := Ground.data }], guard := none }) (v := .pointer (some ⟨h, 0, none⟩)) rfl (by kernel_rfl) (by kernel_rfl) (by kernel_rfl) (fun _ _ _ h => h) (Or.inl ⟨by rfl, fun w' hw => by go_simp⟩) hS ?_
        try simp only [Act.put, List.setIfInBounds_toArray, List.set_cons_zero, List.set_cons_succ]
        refine wpAnyH_take (i := 4) (oi := { dst := some 49, op := Op.load 88 (Operand.tmp 48), type := 88, pos := "heap.go:60", after := #[{ on := 3, ground := Ground.data }], guard := none }) (v := .slice (some ⟨g, 0, none⟩) its.length cv) rfl (by kernel_rfl) (by kernel_rfl) (by kernel_rfl) (fun _ _ _ h => h) (Or.inl ⟨by rfl, fun w' hw => by (have q := hw.cell c0 (by simp); go_simp)⟩) hS ?_
        try simp only [Act.put, List.setIfInBounds_toArray, List.set_cons_zero, List.set_cons_succ]
        refine wpAnyH_take (i := 5) (oi := { dst := some 50, op := Op.call { callee := Callee.builtin Builtin.len, args := #[Operand.tmp 49], argTypes := #[88] }, type := 3, pos := "heap.go:60", after := #[{ on := 4, ground := Ground.data }], guard := none }) (v := .int .i64 (its.length : Nat)) rfl (by kernel_rfl) (by kernel_rfl) (by kernel_rfl) (fun _ _ _ h => h) (Or.inl ⟨by rfl, fun w' hw => by go_simp⟩) hS ?_
        try simp only [Act.put, List.setIfInBounds_toArray, List.set_cons_zero, List.set_cons_succ]
        refine wpAnyH_take (i := 6) (oi := { dst := some 51, op := Op.binOp BinOp.geq 3 (Operand.tmp 45) (Operand.tmp 50) 3, type := 4, pos := "heap.go:60", after := #[{ on := 0, ground := Ground.data }, { on := 5, ground := Ground.data }], guard := none }) (v := .bool false) rfl (by kernel_rfl) (by kernel_rfl) (by kernel_rfl) (fun _ _ _ h => h) (Or.inl ⟨by rfl, fun w' hw => by (have q0 := hge; go_simp)⟩) hS ?_
        try simp only [Act.put, List.setIfInBounds_toArray, List.set_cons_zero, List.set_cons_succ]
        refine wpAnyH_take (i := 7) (oi := { dst := some 52, op := Op.move (Operand.tmp 51), type := 4, pos := "heap.go:60", after := #[{ on := 6, ground := Ground.data }], guard := none }) (v := .bool false) rfl (by kernel_rfl) (by kernel_rfl) (by kernel_rfl) (fun _ _ _ h => h) (Or.inl ⟨by rfl, fun w' hw => by go_simp⟩) hS ?_
        try simp only [Act.put, List.setIfInBounds_toArray, List.set_cons_zero, List.set_cons_succ]
        refine wpAnyH_take (i := 8) (oi := { dst := some 53, op := Op.load 95 (Operand.tmp 4), type := 95, pos := "heap.go:60", after := #[{ on := 7, ground := Ground.guard }], guard := some (7, false) }) (v := .agg (encA x).toArray) rfl (by kernel_rfl) (by kernel_rfl) (by kernel_rfl) (fun _ _ _ h => h) (Or.inl ⟨by rfl, fun w' hw => exec_load_agg _ 95 _ rfl _ _ rfl (encA x) _ (hw.range ra (by simp)) Try.underlying95 rfl (by rw [infoA, H1x.out.enc])⟩) hS ?_
        try simp only [Act.put, List.setIfInBounds_toArray, List.set_cons_zero, List.set_cons_succ]
        refine wpAnyH_take (i := 9) (oi := { dst := some 54, op := Op.move (Operand.tmp 0), type := 55, pos := "heap.go:60", after := #[{ on := 7, ground := Ground.guard }], guard := some (7, false) }) (v := .pointer (some ⟨h, 0, none⟩)) rfl (by kernel_rfl) (by kernel_rfl) (by kernel_rfl) (fun _ _ _ h => h) (Or.inl ⟨by rfl, fun w' hw => by go_simp⟩) hS ?_
        try simp only [Act.put, List.setIfInBounds_toArray, List.set_cons_zero, List.set_cons_succ]
        refine wpAnyH_take (i := 10) (oi := { dst := some 55, op := Op.nilCheck (Operand.tmp 54), type := 0, pos := "heap.go:60", after := #[{ on := 9, ground := Ground.data }, { on := 7, ground := Ground.guard }], guard := some (7, false) }) (v := .pointer (some ⟨h, 0, none⟩)) rfl (by kernel_rfl) (by kernel_rfl) (by kernel_rfl) (fun _ _ _ h => h) (Or.inl ⟨by rfl, fun w' hw => by go_simp⟩) hS ?_
        try simp only [Act.put, List.setIfInBounds_toArray, List.set_cons_zero, List.set_cons_succ]
        refine wpAnyH_take (i := 11) (oi := { dst := some 56, op := Op.fieldAddr 90 (Operand.tmp 55) 0, type := 0, pos := "heap.go:60", after := #[{ on := 10, ground := Ground.data }, { on := 7, ground := Ground.guard }], guard := some (7, false) }) (v := .pointer (some ⟨h, 0, none⟩)) rfl (by kernel_rfl) (by kernel_rfl) (by kernel_rfl) (fun _ _ _ h => h) (Or.inl ⟨by rfl, fun w' hw => by go_simp⟩) hS ?_
        try simp only [Act.put, List.setIfInBounds_toArray, List.set_cons_zero, List.set_cons_succ]
        refine wpAnyH_take (i := 12) (oi := { dst := some 57, op := Op.load 88 (Operand.tmp 56), type := 88, pos := "heap.go:60", after := #[{ on := 11, ground := Ground.data }, { on := 7, ground := Ground.guard }], guard := some (7, false) }) (v := .slice (some ⟨g, 0, none⟩) its.length cv) rfl (by kernel_rfl) (by kernel_rfl) (by kernel_rfl) (fun _ _ _ h => h) (Or.inl ⟨by rfl, fun w' hw => by (have q := hw.cell c0 (by simp); go_simp)⟩) hS ?_
        try simp only [Act.put, List.setIfInBounds_toArray, List.set_cons_zero, List.set_cons_succ]
        refine wpAnyH_take (i := 13) (oi := { dst := some 58, op := Op.move (Operand.tmp 5), type := 3, pos := "heap.go:60", after := #[{ on := 7, ground := Ground.guard }], guard := some (7, false) }) (v := .int .i64 (c : Nat)) rfl (by kernel_rfl) (by kernel_rfl) (by kernel_rfl) (fun _ _ _ h => h) (Or.inl ⟨by rfl, fun w' hw => by go_simp⟩) hS ?_
        try simp only [Act.put, List.setIfInBounds_toArray, List.set_cons_zero, List.set_cons_succ]
        refine wpAnyH_take (i := 14) (oi := { dst := some 59, op := Op.indexAddr 88 (Operand.tmp 57) (Operand.tmp 58), type := 0, pos := "heap.go:60", after := #[{ on := 12, ground := Ground.data }, { on := 13, ground := Ground.data }, { on := 7, ground := Ground.guard }], guard := some (7, false) }) (v := .pointer (some ⟨g, c * 19, none⟩)) rfl (by kernel_rfl) (by kernel_rfl) (by kernel_rfl) (fun _ _ _ h => h) (Or.inl ⟨by rfl, fun w' hw => by (have q0 := hei; have q1 := hel; go_simp)⟩) hS ?_
        try simp only [Act.put, List.setIfInBounds_toArray, List.set_cons_zero, List.set_cons_succ]
        refine wpAnyH_take (i := 15) (oi := { dst := some 60, op := Op.load 95 (Operand.tmp 59), type := 95, pos := "heap.go:60", after := #[{ on := 14, ground := Ground.data }, { on := 7, ground := Ground.guard }], guard := some (7, false) }) (v := .agg (encA y).toArray) rfl (by kernel_rfl) (by kernel_rfl) (by kernel_rfl) (fun _ _ _ h => h) (Or.inl ⟨by rfl, fun w' hw => exec_load_agg _ 95 _ rfl _ _ rfl (encA y) _ (hw.range rb (by simp)) Try.underlying95 rfl (by rw [infoA, HOY.out.enc])⟩) hS ?_
        try simp only [Act.put, List.setIfInBounds_toArray, List.set_cons_zero, List.set_cons_succ]
        refine wpAnyH_ready (rs := [16]) (by kernel_rfl) (by simp) ?_
        refine AllReadyH.cons (o := { dst := some 61, op := Op.call { callee := Callee.value (Operand.func 56), args := #[Operand.tmp 53, Operand.tmp 60], argTypes := #[95, 95] }, type := 3, pos := "heap.go:60", after := #[{ on := 8, ground := Ground.data }, { on := 15, ground := Ground.data }, { on := 7, ground := Ground.chain }, { on := 7, ground := Ground.guard }], guard := some (7, false) }) rfl (fun K hK => ?_) AllReadyH.nil
        go_simp
        refine (cmp_quiet x y _).mono ?_
        rintro e w6 ⟨rfl, t5⟩
        have hS2 := hS.trans t5 (by simp)
        refine hK.out _ _ hS2 (fun _ => ?_)
        clear hK K hS t5
        have hS := hS2
        clear hS2
        try simp only [Act.put, List.setIfInBounds_toArray, List.set_cons_zero, List.set_cons_succ]
        refine wpAnyH_take (i := 17) (oi := { dst := some 62, op := Op.binOp BinOp.leq 3 (Operand.tmp 61) (Operand.const (Value.int IntKind.i64 0)) 3, type := 4, pos := "heap.go:60", after := #[{ on := 16, ground := Ground.data }, { on := 7, ground := Ground.guard }], guard := some (7, false) }) (v := .bool (decide (cmpT x.key y.key ≤ 0))) rfl (by kernel_rfl) (by kernel_rfl) (by kernel_rfl) (fun _ _ _ h => h) (Or.inl ⟨by rfl, fun w' hw => by go_simp⟩) hS ?_
        try simp only [Act.put, List.setIfInBounds_toArray, List.set_cons_zero, List.set_cons_succ]
        refine wpAnyH_take (i := 18) (oi := { dst := some 63, op := Op.pick (Operand.tmp 52) (Operand.const (Value.bool true)) (Operand.tmp 62), type := 4, pos := "heap.go:60", after := #[{ on := 7, ground := Ground.data }, { on := 17, ground := Ground.data }], guard := none }) (v := .bool (decide (cmpT x.key y.key ≤ 0))) rfl (by kernel_rfl) (by kernel_rfl) (by kernel_rfl) (fun _ _ _ h => h) (Or.inl ⟨by rfl, fun w' hw => by go_simp⟩) hS ?_
        try simp only [Act.put, List.setIfInBounds_toArray, List.set_cons_zero, List.set_cons_succ]
        refine wpAnyH_done (by kernel_rfl) ?_ _
        try simp only [Act.put, List.setIfInBounds_toArray, List.set_cons_zero, List.set_cons_succ]
        have HP6 := Lib.hid (HPX.out.touch hS (by simp))
        have HT6 := Lib.hid (HTX.out.trans hS (by simp))
        clear hS c0 HPX HTX ra rb
        have HPC := Lib.hid (show par c = q ∧ 1 ≤ c ∧ q < c by (have := HX.out; unfold par; omega))
        by_cases hle : cmpT x.key y.key ≤ 0
        · have rb := range_block (HT6.out.at HGB.out HBX.out)
          have HE := Lib.hid (HUP.out.stop (by
            intro b hb hpb a u ha hu
            rw [hpb, HH.out.at_i] at ha
            cases ha
            exact le_trans ((cmpT_le _ _).1 hle) (HMIN.out b u hb hpb hu)))
          go_wp2_with ((with_reducible refine at_load 95 ?_); refine wpList_load_mid rfl 95 _ rfl B (0) rfl (encA x) _ rb Try.underlying95 rfl (by rw [infoA, H1x.out.enc]) ?_)
          refine (set_any h m _ A kv' last q x w6 HP6.out (by omega) H1x.out okx).mono ?_
          rintro e w2 ⟨rfl, hp2, t2⟩
          have T2 : Touch [m, g] w w2 := ((HTB.out.mono (S' := [m, g]) (by simp)).trans HT6.out (fun y hy => .inl hy)).trans t2 (by intro y hy; simp [Value.ownBlock] at hy; rcases hy with rfl | rfl <;> simp)
          have HP2 := Lib.hid hp2
          clear hp2 t2 rb
          go_wp2_with fail
          exact end0 rfl rfl ⟨C, _, rfl, by rw [HH.out.c]; exact HP2.out, HH.out.perm, HE.out, (HH.out.fin HN.out).1, (HH.out.fin HN.out).2, T2⟩
        · obtain ⟨c0, c1, c2⟩ := HP6.out.cells
          have rz := HP6.out.elem HY.out
          have hzm := List.mem_of_getElem? HY.out
          have HL := Lib.hid (show lt y.key x.key by
            rcases le_total x.key y.key with h1 | h1
            · exact absurd ((cmpT_le _ _).2 h1) hle
            · exact h1)
          go_wp2_with ((with_reducible refine at_load 95 ?_); refine wpList_load_mid rfl 95 _ rfl g (c * 19) rfl (encA y) _ rz Try.underlying95 rfl (by rw [infoA, HOY.out.enc]) ?_)
          refine (set_any h m _ A kv' last q y w6 HP6.out (by omega) HOY.out (HP6.out.oks y hzm)).mono ?_
          rintro e w2 ⟨rfl, hp2, t2⟩
          have T2 : Touch [m, g] W w2 := HT6.out.trans t2 (by intro y hy; simp [Value.ownBlock] at hy; rcases hy with rfl | rfl <;> simp)
          have HP2 := Lib.hid hp2
          have HM := Lib.hid (HH.out.move HN.out (p := c) (by have := HPC.out; omega) HY.out)
          have HS := Lib.hid (HUP.out.step HPC.out.2.1 HPC.out.1 HH.out.at_i (by rw [HH.out.other (by have := HPC.out; omega)]; exact HY.out) HL.out HMIN.out)
          clear hp2 t2 c0 c1 c2 rz
          go_wp2_with fail
          go_roundw
          case rel => exact ⟨c, _, _, _, rfl, HP2.out, HM.out, HS.out, T2⟩
          case measure => (have := HPC.out; simp [intOf]; omega)
    · have hd2 : ¬ (d : Int) < (its.length : Int) := by omega
      have HD1 := Lib.hid h1
      refine wp_region_held (S := Touch [] wr.drew) (by kernel_rfl) ?_
      change wpAnyH _ _ _ _ _ _ _ _ wr.drew
      have tD := (Touch.refl [] wr).drew
      have HPX := Lib.hid (HP.out.touch tD (by simp))
      have HTX := Lib.hid (HTR.out.trans tD (by simp))
      generalize wr.drew = X at *
      clear tD
      have hS := Touch.refl [] X
      obtain ⟨c0, _, _⟩ := HPX.out.cells
      refine wpAnyH_take (i := 0) (oi := { dst := some 16, op := Op.move (Operand.tmp 5), type := 3, pos := "heap.go:57", after := #[], guard := none }) (v := .int .i64 (c : Nat)) rfl (by kernel_rfl) (by kernel_rfl) (by kernel_rfl) (fun _ _ _ h => h) (Or.inl ⟨by rfl, fun w' hw => by go_simp⟩) hS ?_
      try simp only [Act.put, List.setIfInBounds_toArray, List.set_cons_zero, List.set_cons_succ]
      refine wpAnyH_take (i := 1) (oi := { dst := some 17, op := Op.binOp BinOp.add 3 (Operand.tmp 16) (Operand.const (Value.int IntKind.i64 1)) 3, type := 3, pos := "heap.go:57", after := #[{ on := 0, ground := Ground.data }], guard := none }) (v := .int .i64 (d : Nat)) rfl (by kernel_rfl) (by kernel_rfl) (by kernel_rfl) (fun _ _ _ h => h) (Or.inl ⟨by rfl, fun w' hw => by (have q0 := hdI; go_simp)⟩) hS ?_
      try simp only [Act.put, List.setIfInBounds_toArray, List.set_cons_zero, List.set_cons_succ]
      refine wpAnyH_take (i := 2) (oi := { dst := some 18, op := Op.move (Operand.tmp 0), type := 55, pos := "heap.go:57", after := #[], guard := none }) (v := .pointer (some ⟨h, 0, none⟩)) rfl (by kernel_rfl) (by kernel_rfl) (by kernel_rfl) (fun _ _ _ h => h) (Or.inl ⟨by rfl, fun w' hw => by go_simp⟩) hS ?_
      try simp only [Act.put, List.setIfInBounds_toArray, List.set_cons_zero, List.set_cons_succ]
      refine wpAnyH_take (i := 3) (oi := { dst := some 19, op := Op.nilCheck (Operand.tmp 18), type := 0, pos := "heap.go:57", after := #[{ on := 2, ground := Ground.data }], guard := none }) (v := .pointer (some ⟨h, 0, none⟩)) rfl (by kernel_rfl) (by kernel_rfl) (by kernel_rfl) (fun _ _ _ h => h) (Or.inl ⟨by rfl, fun w' hw => by go_simp⟩) hS ?_
      try simp only [Act.put, List.setIfInBounds_toArray, List.set_cons_zero, List.set_cons_succ]
      refine wpAnyH_take (i := 4) (oi := { dst := some 20, op := Op.fieldAddr 90 (Operand.tmp 19) 0, type := 0, pos := "heap.go:57", after := #[{ on := 3, ground := Ground.data }], guard := none }) (v := .pointer (some ⟨h, 0, none⟩)) rfl (by kernel_rfl) (by kernel_rfl) (by kernel_rfl) (fun _ _ _ h => h) (Or.inl ⟨by rfl, fun w' hw => by go_simp⟩) hS ?_
      try simp only [Act.put, List.setIfInBounds_toArray, List.set_cons_zero, List.set_cons_succ]
      refine wpAnyH_take (i := 5) (oi := { dst := some 21, op := Op.load 88 (Operand.tmp 20), type := 88, pos := "heap.go:57", after := #[{ on := 4, ground := Ground.data }], guard := none }) (v := .slice (some ⟨g, 0, none⟩) its.length cv) rfl (by kernel_rfl) (by kernel_rfl) (by kernel_rfl) (fun _ _ _ h => h) (Or.inl ⟨by rfl, fun w' hw => by (have q := hw.cell c0 (by simp); go_simp)⟩) hS ?_
      try simp only [Act.put, List.setIfInBounds_toArray, List.set_cons_zero, List.set_cons_succ]
      refine wpAnyH_take (i := 6) (oi := { dst := some 22, op := Op.call { callee := Callee.builtin Builtin.len, args := #[Operand.tmp 21], argTypes := #[88] }, type := 3, pos := "heap.go:57", after := #[{ on := 5, ground := Ground.data }], guard := none }) (v := .int .i64 (its.length : Nat)) rfl (by kernel_rfl) (by kernel_rfl) (by kernel_rfl) (fun _ _ _ h => h) (Or.inl ⟨by rfl, fun w' hw => by go_simp⟩) hS ?_
      try simp only [Act.put, List.setIfInBounds_toArray, List.set_cons_zero, List.set_cons_succ]
      refine wpAnyH_take (i := 7) (oi := { dst := some 23, op := Op.binOp BinOp.lss 3 (Operand.tmp 17) (Operand.tmp 22) 3, type := 4, pos := "heap.go:57", after := #[{ on := 1, ground := Ground.data }, { on := 6, ground := Ground.data }], guard := none }) (v := .bool false) rfl (by kernel_rfl) (by kernel_rfl) (by kernel_rfl) (fun _ _ _ h => h) (Or.inl ⟨by rfl, fun w' hw => by (have q0 := hd2; go_simp)⟩) hS ?_
      try simp only [Act.put, List.setIfInBounds_toArray, List.set_cons_zero, List.set_cons_succ]
      refine wpAnyH_take (i := 8) (oi := { dst := some 24, op := Op.move (Operand.tmp 23), type := 4, pos := "heap.go:57", after := #[{ on := 7, ground := Ground.data }], guard := none }) (v := .bool false) rfl (by kernel_rfl) (by kernel_rfl) (by kernel_rfl) (fun _ _ _ h => h) (Or.inl ⟨by rfl, fun w' hw => by go_simp⟩) hS ?_
      try simp only [Act.put, List.setIfInBounds_toArray, List.set_cons_zero, List.set_cons_succ]
      refine wpAnyH_take (i := 9) (oi := { dst := some 25, op := Op.move (Operand.tmp 0), type := 55, pos := "heap.go:57", after := #[{ on := 8, ground := Ground.guard }], guard := some (8, true) }) (v := undef) rfl (by kernel_rfl) (by kernel_rfl) (by kernel_rfl) (fun _ _ _ h => h) (Or.inr ⟨by rfl, rfl⟩) hS ?_
      try simp only [Act.put, List.setIfInBounds_toArray, List.set_cons_zero, List.set_cons_succ]
      refine wpAnyH_take (i := 10) (oi := { dst := some 26, op := Op.nilCheck (Operand.tmp 25), type := 0, pos := "heap.go:57", after := #[{ on := 9, ground := Ground.data }, { on := 8, ground := Ground.guard }], guard := some (8, true) }) (v := undef) rfl (by kernel_rfl) (by kernel_rfl) (by kernel_rfl) (fun _ _ _ h => h) (Or.inr ⟨by rfl, rfl⟩) hS ?_
      try simp only [Act.put, List.setIfInBounds_toArray, List.set_cons_zero, List.set_cons_succ]
      refine wpAnyH_take (i := 11) (oi := { dst := some 27, op := Op.fieldAddr 90 (Operand.tmp 26) 0, type := 0, pos := "heap.go:57", after := #[{ on := 10, ground := Ground.data }, { on := 8, ground := Ground.guard }], guard := some (8, true) }) (v := undef) rfl (by kernel_rfl) (by kernel_rfl) (by kernel_rfl) (fun _ _ _ h => h) (Or.inr ⟨by rfl, rfl⟩) hS ?_
      try simp only [Act.put, List.setIfInBounds_toArray, List.set_cons_zero, List.set_cons_succ]
      refine wpAnyH_take (i := 12) (oi := { dst := some 28, op := Op.load 88 (Operand.tmp 27), type := 88, pos := "heap.go:57", after := #[{ on := 11, ground := Ground.data }, { on := 8, ground := Ground.guard }], guard := some (8, true) }) (v := undef) rfl (by kernel_rfl) (by kernel_rfl) (by kernel_rfl) (fun _ _ _ h => h) (Or.inr ⟨by rfl, rfl⟩) hS ?_
      try simp only [Act.put, List.setIfInBounds_toArray, List.set_cons_zero, List.set_cons_succ]
      refine wpAnyH_take (i := 13) (oi := { dst := some 29, op := Op.move (Operand.tmp 5), type := 3, pos := "heap.go:57", after := #[{ on := 8, ground := Ground.guard }], guard := some (8, true) }) (v := undef) rfl (by kernel_rfl) (by kernel_rfl) (by kernel_rfl) (fun _ _ _ h => h) (Or.inr ⟨by rfl, rfl⟩) hS ?_
      try simp only [Act.put, List.setIfInBounds_toArray, List.set_cons_zero, List.set_cons_succ]
      refine wpAnyH_take (i := 14) (oi := { dst := some 30, op := Op.binOp BinOp.add 3 (Operand.tmp 29) (Operand.const (Value.int IntKind.i64 1)) 3, type := 3, pos := "heap.go:57", after := #[{ on := 13, ground := Ground.data }, { on := 8, ground := Ground.guard }], guard := some (8, true) }) (v := undef) rfl (by kernel_rfl) (by kernel_rfl) (by kernel_rfl) (fun _ _ _ h => h) (Or.inr ⟨by rfl, rfl⟩) hS ?_
      try simp only [Act.put, List.setIfInBounds_toArray, List.set_cons_zero, List.set_cons_succ]
      refine wpAnyH_take (i := 15) (oi := { dst := some 31, op := Op.indexAddr 88 (Operand.tmp 28) (Operand.tmp 30), type := 0, pos := "heap.go:57", after := #[{ on := 12, ground := Ground.data }, { on := 14, ground := Ground.data }, { on := 8, ground := Ground.guard }], guard := some (8, true) }) (v := undef) rfl (by kernel_rfl) (by kernel_rfl) (by kernel_rfl) (fun _ _ _ h => h) (Or.inr ⟨by rfl, rfl⟩) hS ?_
      try simp only [Act.put, List.setIfInBounds_toArray, List.set_cons_zero, List.set_cons_succ]
      refine wpAnyH_take (i := 16) (oi := { dst := some 32, op := Op.load 95 (Operand.tmp 31), type := 95, pos := "heap.go:57", after := #[{ on := 15, ground := Ground.data }, { on := 8, ground := Ground.guard }], guard := some (8, true) }) (v := undef) rfl (by kernel_rfl) (by kernel_rfl) (by kernel_rfl) (fun _ _ _ h => h) (Or.inr ⟨by rfl, rfl⟩) hS ?_
      try simp only [Act.put, List.setIfInBounds_toArray, List.set_cons_zero, List.set_cons_succ]
      refine wpAnyH_take (i := 17) (oi := { dst := some 33, op := Op.move (Operand.tmp 0), type := 55, pos := "heap.go:57", after := #[{ on := 8, ground := Ground.guard }], guard := some (8, true) }) (v := undef) rfl (by kernel_rfl) (by kernel_rfl) (by kernel_rfl) (fun _ _ _ h => h) (Or.inr ⟨by rfl, rfl⟩) hS ?_
      try simp only [Act.put, List.setIfInBounds_toArray, List.set_cons_zero, List.set_cons_succ]
      refine wpAnyH_take (i := 18) (oi := { dst := some 34, op := Op.nilCheck (Operand.tmp 33), type := 0, pos := "heap.go:57", after := #[{ on := 17, ground := Ground.data }, { on := 8, ground := Ground.guard }], guard := some (8, true) }) (v := undef) rfl (by kernel_rfl) (by kernel_rfl) (by kernel_rfl) (fun _ _ _ h => h) (Or.inr ⟨by rfl, rfl⟩) hS ?_
      try simp only [Act.put, List.setIfInBounds_toArray, List.set_cons_zero, List.set_cons_succ]
      refine wpAnyH_take (i := 19) (oi := { dst := some 35, op := Op.fieldAddr 90 (Operand.tmp 34) 0, type := 0, pos := "heap.go:57", after := #[{ on := 18, ground := Ground.data }, { on := 8, ground := Ground.guard }], guard := some (8, true) }) (v := undef) rfl (by kernel_rfl) (by kernel_rfl) (by kernel_rfl) (fun _ _ _ h => h) (Or.inr ⟨by rfl, rfl⟩) hS ?_
      try simp only [Act.put, List.setIfInBounds_toArray, List.set_cons_zero, List.set_cons_succ]
      refine wpAnyH_take (i := 20) (oi := { dst := some 36, op := Op.load 88 (Operand.tmp 35), type := 88, pos := "heap.go:57", after := #[{ on := 19, ground := Ground.data }, { on := 8, ground := Ground.guard }], guard := some (8, true) }) (v := undef) rfl (by kernel_rfl) (by kernel_rfl) (by kernel_rfl) (fun _ _ _ h => h) (Or.inr ⟨by rfl, rfl⟩) hS ?_
      try simp only [Act.put, List.setIfInBounds_toArray, List.set_cons_zero, List.set_cons_succ]
      refine wpAnyH_take (i := 21) (oi := { dst := some 37, op := Op.move (Operand.tmp 5), type := 3, pos := "heap.go:57", after := #[{ on := 8, ground := Ground.guard }], guard := some (8, true) }) (v := undef) rfl (by kernel_rfl) (by kernel_rfl) (by kernel_rfl) (fun _ _ _ h => h) (Or.inr ⟨by rfl, rfl⟩) hS ?_
      try simp only [Act.put, List.setIfInBounds_toArray, List.set_cons_zero, List.set_cons_succ]
      refine wpAnyH_take (i := 22) (oi := { dst := some 38, op := Op.indexAddr 88 (Operand.tmp 36) (Operand.tmp 37), type := 0, pos := "heap.go:57", after := #[{ on := 20, ground := Ground.data }, { on := 21, ground := Ground.data }, { on := 8, ground := Ground.guard }], guard := some (8, true) }) (v := undef) rfl (by kernel_rfl) (by kernel_rfl) (by kernel_rfl) (fun _ _ _ h => h) (Or.inr ⟨by rfl, rfl⟩) hS ?_
      try simp only [Act.put, List.setIfInBounds_toArray, List.set_cons_zero, List.set_cons_succ]
      refine wpAnyH_take (i := 23) (oi := { dst := some 39, op := Op.load 95 (Operand.tmp 38), type := 95, pos := "heap.go:57", after := #[{ on := 22, ground := Ground.data }, { on := 8, ground := Ground.guard }], guard := some (8, true) }) (v := undef) rfl (by kernel_rfl) (by kernel_rfl) (by kernel_rfl) (fun _ _ _ h => h) (Or.inr ⟨by rfl, rfl⟩) hS ?_
      try simp only [Act.put, List.setIfInBounds_toArray, List.set_cons_zero, List.set_cons_succ]
      refine wpAnyH_take (i := 24) (oi := { dst := some 40, op := Op.call { callee := Callee.value (Operand.func 56), args := #[Operand.tmp 32, Operand.tmp 39], argTypes := #[95, 95] }, type := 3, pos := "heap.go:57", after := #[{ on := 16, ground := Ground.data }, { on := 23, ground := Ground.data }, { on := 8, ground := Ground.chain }, { on := 8, ground := Ground.guard }], guard := some (8, true) }) (v := undef) rfl (by kernel_rfl) (by kernel_rfl) (by kernel_rfl) (fun _ _ _ h => h) (Or.inr ⟨by rfl, rfl⟩) hS ?_
      try simp only [Act.put, List.setIfInBounds_toArray, List.set_cons_zero, List.set_cons_succ]
      refine wpAnyH_take (i := 25) (oi := { dst := some 41, op := Op.binOp BinOp.lss 3 (Operand.tmp 40) (Operand.const (Value.int IntKind.i64 0)) 3, type := 4, pos := "heap.go:57", after := #[{ on := 24, ground := Ground.data }, { on := 8, ground := Ground.guard }], guard := some (8, true) }) (v := undef) rfl (by kernel_rfl) (by kernel_rfl) (by kernel_rfl) (fun _ _ _ h => h) (Or.inr ⟨by rfl, rfl⟩) hS ?_
      try simp only [Act.put, List.setIfInBounds_toArray, List.set_cons_zero, List.set_cons_succ]
      refine wpAnyH_take (i := 26) (oi := { dst := some 42, op := Op.pick (Operand.tmp 24) (Operand.tmp 41) (Operand.const (Value.bool false)), type := 4, pos := "heap.go:57", after := #[{ on := 8, ground := Ground.data }, { on := 25, ground := Ground.data }], guard := none }) (v := .bool false) rfl (by kernel_rfl) (by kernel_rfl) (by kernel_rfl) (fun _ _ _ h => h) (Or.inl ⟨by rfl, fun w' hw => by go_simp⟩) hS ?_
      try simp only [Act.put, List.setIfInBounds_toArray, List.set_cons_zero, List.set_cons_succ]
      refine wpAnyH_done (by kernel_rfl) ?_ _
      try simp only [Act.put, List.setIfInBounds_toArray, List.set_cons_zero, List.set_cons_succ]
      have HP5 := Lib.hid (HPX.out.touch hS (by simp))
      have HT5 := Lib.hid (HTX.out.trans hS (by simp))
      clear hS c0 HPX HTX 
      rename World => X5
      by_cases h2 : c < its.length
      · obtain ⟨y, hy⟩ : ∃ y, A[c]? = some y := ⟨_, List.getElem?_eq_getElem (by omega)⟩
        have HY := Lib.hid hy
        have HOY := Lib.hid (HP5.out.one y (List.mem_of_getElem? hy))
        have hcl : c < its.length := h2
        have hc2 : (c : Int) < (its.length : Int) := by omega
        have HMIN := Lib.hid (show ∀ (b : Nat) (u : Itm), 1 ≤ b → par b = q → C[b]? = some u → le y.key u.key by
          intro b u hb hpb hu
          have hbl := (List.getElem?_eq_some_iff.1 hu).1
          have e1 : b = c := by (have := HC.out; have := HD.out; have := HD1.out; have e2 : C.length = its.length := HH.out.perm.length_eq; unfold par at hpb; omega)
          subst e1
          rw [HH.out.other (by have := HC.out; omega), HY.out] at hu
          cases hu
          exact le_refl _)
        have HX := Lib.hid (show c = 2 * q + 1 ∨ c = 2 * q + 2 by (have := HC.out; have := HD.out; omega))
        clear hy h2
        go_wp2_with fail
        have hei : (c : Int) < (its.length : Int) := by omega
        have hge : ¬ (its.length : Int) ≤ (c : Int) := by omega
        have hel : c < its.length := by omega
        refine wp_region_held (S := Touch [] X5.drew) (by kernel_rfl) ?_
        change wpAnyH _ _ _ _ _ _ _ _ X5.drew
        have tD := (Touch.refl [] X5).drew
        have HPX := Lib.hid (HP5.out.touch tD (by simp))
        have HTX := Lib.hid (HT5.out.trans tD (by simp))
        generalize X5.drew = X at *
        clear tD
        have hS := Touch.refl [] X
        obtain ⟨c0, _, _⟩ := HPX.out.cells
        have ra := range_block (HTX.out.at HGB.out HBX.out)
        have rb := HPX.out.elem HY.out
        refine wpAnyH_take (i := 0) (oi := { dst := some 45, op := Op.move (Operand.tmp 5), type := 3, pos := "heap.go:60", after := #[], guard := none }) (v := .int .i64 (c : Nat)) rfl (by kernel_rfl) (by kernel_rfl) (by kernel_rfl) (fun _ _ _ h => h) (Or.inl ⟨by rfl, fun w' hw => by go_simp⟩) hS ?_
        try simp only [Act.put, List.setIfInBounds_toArray, List.set_cons_zero, List.set_cons_succ]
        refine wpAnyH_take (i := 1) (oi := { dst := some 46, op := Op.move (Operand.tmp 0), type := 55, pos := "heap.go:60", after := #[], guard := none }) (v := .pointer (some ⟨h, 0, none⟩)) rfl (by kernel_rfl) (by kernel_rfl) (by kernel_rfl) (fun _ _ _ h => h) (Or.inl ⟨by rfl, fun w' hw => by go_simp⟩) hS ?_
        try simp only [Act.put, List.setIfInBounds_toArray, List.set_cons_zero, List.set_cons_succ]
        refine wpAnyH_take (i := 2) (oi := { dst := some 47, op := Op.nilCheck (Operand.tmp 46), type := 0, pos := "heap.go:60", after := #[{ on := 1, ground := Ground.data }], guard := none }) (v := .pointer (some ⟨h, 0, none⟩)) rfl (by kernel_rfl) (by kernel_rfl) (by kernel_rfl) (fun _ _ _ h => h) (Or.inl ⟨by rfl, fun w' hw => by go_simp⟩) hS ?_
        try simp only [Act.put, List.setIfInBounds_toArray, List.set_cons_zero, List.set_cons_succ]
        refine wpAnyH_take (i := 3) (oi := { dst := some 48, op := Op.fieldAddr 90 (Operand.tmp 47) 0, type := 0, pos := "heap.go:60", after := #[{ on := 2, ground := Ground.data }], guard := none }) (v := .pointer (some ⟨h, 0, none⟩)) rfl (by kernel_rfl) (by kernel_rfl) (by kernel_rfl) (fun _ _ _ h => h) (Or.inl ⟨by rfl, fun w' hw => by go_simp⟩) hS ?_
        try simp only [Act.put, List.setIfInBounds_toArray, List.set_cons_zero, List.set_cons_succ]
        refine wpAnyH_take (i := 4) (oi := { dst := some 49, op := Op.load 88 (Operand.tmp 48), type := 88, pos := "heap.go:60", after := #[{ on := 3, ground := Ground.data }], guard := none }) (v := .slice (some ⟨g, 0, none⟩) its.length cv) rfl (by kernel_rfl) (by kernel_rfl) (by kernel_rfl) (fun _ _ _ h => h) (Or.inl ⟨by rfl, fun w' hw => by (have q := hw.cell c0 (by simp); go_simp)⟩) hS ?_
        try simp only [Act.put, List.setIfInBounds_toArray, List.set_cons_zero, List.set_cons_succ]
        refine wpAnyH_take (i := 5) (oi := { dst := some 50, op := Op.call { callee := Callee.builtin Builtin.len, args := #[Operand.tmp 49], argTypes := #[88] }, type := 3, pos := "heap.go:60", after := #[{ on := 4, ground := Ground.data }], guard := none }) (v := .int .i64 (its.length : Nat)) rfl (by kernel_rfl) (by kernel_rfl) (by kernel_rfl) (fun _ _ _ h => h) (Or.inl ⟨by rfl, fun w' hw => by go_simp⟩) hS ?_
        try simp only [Act.put, List.setIfInBounds_toArray, List.set_cons_zero, List.set_cons_succ]
        refine wpAnyH_take (i := 6) (oi := { dst := some 51, op := Op.binOp BinOp.geq 3 (Operand.tmp 45) (Operand.tmp 50) 3, type := 4, pos := "heap.go:60", after := #[{ on := 0, ground := Ground.data }, { on := 5, ground := Ground.data }], guard := none }) (v := .bool false) rfl (by kernel_rfl) (by kernel_rfl) (by kernel_rfl) (fun _ _ _ h => h) (Or.inl ⟨by rfl, fun w' hw => by (have q0 := hge; go_simp)⟩) hS ?_
        try simp only [Act.put, List.setIfInBounds_toArray, List.set_cons_zero, List.set_cons_succ]
        refine wpAnyH_take (i := 7) (oi := { dst := some 52, op := Op.move (Operand.tmp 51), type := 4, pos := "heap.go:60", after := #[{ on := 6, ground := Ground.data }], guard := none }) (v := .bool false) rfl (by kernel_rfl) (by kernel_rfl) (by kernel_rfl) (fun _ _ _ h => h) (Or.inl ⟨by rfl, fun w' hw => by go_simp⟩) hS ?_
        try simp only [Act.put, List.setIfInBounds_toArray, List.set_cons_zero, List.set_cons_succ]
        refine wpAnyH_take (i := 8) (oi := { dst := some 53, op := Op.load 95 (Operand.tmp 4), type := 95, pos := "heap.go:60", after := #[{ on := 7, ground := Ground.guard }], guard := some (7, false) }) (v := .agg (encA x).toArray) rfl (by kernel_rfl) (by kernel_rfl) (by kernel_rfl) (fun _ _ _ h => h) (Or.inl ⟨by rfl, fun w' hw => exec_load_agg _ 95 _ rfl _ _ rfl (encA x) _ (hw.range ra (by simp)) Try.underlying95 rfl (by rw [infoA, H1x.out.enc])⟩) hS ?_
        try simp only [Act.put, List.setIfInBounds_toArray, List.set_cons_zero, List.set_cons_succ]
        refine wpAnyH_take (i := 9) (oi := { dst := some 54, op := Op.move (Operand.tmp 0), type := 55, pos := "heap.go:60", after := #[{ on := 7, ground := Ground.guard }], guard := some (7, false) }) (v := .pointer (some ⟨h, 0, none⟩)) rfl (by kernel_rfl) (by kernel_rfl) (by kernel_rfl) (fun _ _ _ h => h) (Or.inl ⟨by rfl, fun w' hw => by go_simp⟩) hS ?_
        try simp only [Act.put, List.setIfInBounds_toArray, List.set_cons_zero, List.set_cons_succ]
        refine wpAnyH_take (i := 10) (oi := { dst := some 55, op := Op.nilCheck (Operand.tmp 54), type := 0, pos := "heap.go:60", after := #[{ on := 9, ground := Ground.data }, { on := 7, ground := Ground.guard }], guard := some (7, false) }) (v := .pointer (some ⟨h, 0, none⟩)) rfl (by kernel_rfl) (by kernel_rfl) (by kernel_rfl) (fun _ _ _ h => h) (Or.inl ⟨by rfl, fun w' hw => by go_simp⟩) hS ?_
        try simp only [Act.put, List.setIfInBounds_toArray, List.set_cons_zero, List.set_cons_succ]
        refine wpAnyH_take (i := 11) (oi := { dst := some 56, op := Op.fieldAddr 90 (Operand.tmp 55) 0, type := 0, pos := "heap.go:60", after := #[{ on := 10, ground := Ground.data }, { on := 7, ground := Ground.guard }], guard := some (7, false) }) (v := .pointer (some ⟨h, 0, none⟩)) rfl (by kernel_rfl) (by kernel_rfl) (by kernel_rfl) (fun _ _ _ h => h) (Or.inl ⟨by rfl, fun w' hw => by go_simp⟩) hS ?_
        try simp only [Act.put, List.setIfInBounds_toArray, List.set_cons_zero, List.set_cons_succ]
        refine wpAnyH_take (i := 12) (oi := { dst := some 57, op := Op.load 88 (Operand.tmp 56), type := 88, pos := "heap.go:60", after := #[{ on := 11, ground := Ground.data }, { on := 7, ground := Ground.guard }], guard := some (7, false) }) (v := .slice (some ⟨g, 0, none⟩) its.length cv) rfl (by kernel_rfl) (by kernel_rfl) (by kernel_rfl) (fun _ _ _ h => h) (Or.inl ⟨by rfl, fun w' hw => by (have q := hw.cell c0 (by simp); go_simp)⟩) hS ?_
        try simp only [Act.put, List.setIfInBounds_toArray, List.set_cons_zero, List.set_cons_succ]
        refine wpAnyH_take (i := 13) (oi := { dst := some 58, op := Op.move (Operand.tmp 5), type := 3, pos := "heap.go:60", after := #[{ on := 7, ground := Ground.guard }], guard := some (7, false) }) (v := .int .i64 (c : Nat)) rfl (by kernel_rfl) (by kernel_rfl) (by kernel_rfl) (fun _ _ _ h => h) (Or.inl ⟨by rfl, fun w' hw => by go_simp⟩) hS ?_
        try simp only [Act.put, List.setIfInBounds_toArray, List.set_cons_zero, List.set_cons_succ]
        refine wpAnyH_take (i := 14) (oi := { dst := some 59, op := Op.indexAddr 88 (Operand.tmp 57) (Operand.tmp 58), type := 0, pos := "heap.go:60", after := #[{ on := 12, ground := Ground.data }, { on := 13, ground := Ground.data }, { on := 7, ground := Ground.guard }], guard := some (7, false) }) (v := .pointer (some ⟨g, c * 19, none⟩)) rfl (by kernel_rfl) (by kernel_rfl) (by kernel_rfl) (fun _ _ _ h => h) (Or.inl ⟨by rfl, fun w' hw => by (have q0 := hei; have q1 := hel; go_simp)⟩) hS ?_
        try simp only [Act.put, List.setIfInBounds_toArray, List.set_cons_zero, List.set_cons_succ]
        refine wpAnyH_take (i := 15) (oi := { dst := some 60, op := Op.load 95 (Operand.tmp 59), type := 95, pos := "heap.go:60", after := #[{ on := 14, ground := Ground.data }, { on := 7, ground := Ground.guard }], guard := some (7, false) }) (v := .agg (encA y).toArray) rfl (by kernel_rfl) (by kernel_rfl) (by kernel_rfl) (fun _ _ _ h => h) (Or.inl ⟨by rfl, fun w' hw => exec_load_agg _ 95 _ rfl _ _ rfl (encA y) _ (hw.range rb (by simp)) Try.underlying95 rfl (by rw [infoA, HOY.out.enc])⟩) hS ?_
        try simp only [Act.put, List.setIfInBounds_toArray, List.set_cons_zero, List.set_cons_succ]
        refine wpAnyH_ready (rs := [16]) (by kernel_rfl) (by simp) ?_
        refine AllReadyH.cons (o := { dst := some 61, op := Op.call { callee := Callee.value (Operand.func 56), args := #[Operand.tmp 53, Operand.tmp 60], argTypes := #[95, 95] }, type := 3, pos := "heap.go:60", after := #[{ on := 8, ground := Ground.data }, { on := 15, ground := Ground.data }, { on := 7, ground := Ground.chain }, { on := 7, ground := Ground.guard }], guard := some (7, false) }) rfl (fun K hK => ?_) AllReadyH.nil
        go_simp
        refine (cmp_quiet x y _).mono ?_
        rintro e w6 ⟨rfl, t5⟩
        have hS2 := hS.trans t5 (by simp)
        refine hK.out _ _ hS2 (fun _ => ?_)
        clear hK K hS t5
        have hS := hS2
        clear hS2
        try simp only [Act.put, List.setIfInBounds_toArray, List.set_cons_zero, List.set_cons_succ]
        refine wpAnyH_take (i := 17) (oi := { dst := some 62, op := Op.binOp BinOp.leq 3 (Operand.tmp 61) (Operand.const (Value.int IntKind.i64 0)) 3, type := 4, pos := "heap.go:60", after := #[{ on := 16, ground := Ground.data }, { on := 7, ground := Ground.guard }], guard := some (7, false) }) (v := .bool (decide (cmpT x.key y.key ≤ 0))) rfl (by kernel_rfl) (by kernel_rfl) (by kernel_rfl) (fun _ _ _ h => h) (Or.inl ⟨by rfl, fun w' hw => by go_simp⟩) hS ?_
        try simp only [Act.put, List.setIfInBounds_toArray, List.set_cons_zero, List.set_cons_succ]
        refine wpAnyH_take (i := 18) (oi := { dst := some 63, op := Op.pick (Operand.tmp 52) (Operand.const (Value.bool true)) (Operand.tmp 62), type := 4, pos := "heap.go:60", after := #[{ on := 7, ground := Ground.data }, { on := 17, ground := Ground.data }], guard := none }) (v := .bool (decide (cmpT x.key y.key ≤ 0))) rfl (by kernel_rfl) (by kernel_rfl) (by kernel_rfl) (fun _ _ _ h => h) (Or.inl ⟨by rfl, fun w' hw => by go_simp⟩) hS ?_
        try simp only [Act.put, List.setIfInBounds_toArray, List.set_cons_zero, List.set_cons_succ]
        refine wpAnyH_done (by kernel_rfl) ?_ _
        try simp only [Act.put, List.setIfInBounds_toArray, List.set_cons_zero, List.set_cons_succ]
        have HP6 := Lib.hid (HPX.out.touch hS (by simp))
        have HT6 := Lib.hid (HTX.out.trans hS (by simp))
        clear hS c0 HPX HTX ra rb
        have HPC := Lib.hid (show par c = q ∧ 1 ≤ c ∧ q < c by (have := HX.out; unfold par; omega))
        by_cases hle : cmpT x.key y.key ≤ 0
        · have rb := range_block (HT6.out.at HGB.out HBX.out)
          have HE := Lib.hid (HUP.out.stop (by
            intro b hb hpb a u ha hu
            rw [hpb, HH.out.at_i] at ha
            cases ha
            exact le_trans ((cmpT_le _ _).1 hle) (HMIN.out b u hb hpb hu)))
          go_wp2_with ((with_reducible refine at_load 95 ?_); refine wpList_load_mid rfl 95 _ rfl B (0) rfl (encA x) _ rb Try.underlying95 rfl (by rw [infoA, H1x.out.enc]) ?_)
          refine (set_any h m _ A kv' last q x w6 HP6.out (by omega) H1x.out okx).mono ?_
          rintro e w2 ⟨rfl, hp2, t2⟩
          have T2 : Touch [m, g] w w2 := ((HTB.out.mono (S' := [m, g]) (by simp)).trans HT6.out (fun y hy => .inl hy)).trans t2 (by intro y hy; simp [Value.ownBlock] at hy; rcases hy with rfl | rfl <;> simp)
          have HP2 := Lib.hid hp2
          clear hp2 t2 rb
          go_wp2_with fail
          exact end0 rfl rfl ⟨C, _, rfl, by rw [HH.out.c]; exact HP2.out, HH.out.perm, HE.out, (HH.out.fin HN.out).1, (HH.out.fin HN.out).2, T2⟩
        · obtain ⟨c0, c1, c2⟩ := HP6.out.cells
          have rz := HP6.out.elem HY.out
          have hzm := List.mem_of_getElem? HY.out
          have HL := Lib.hid (show lt y.key x.key by
            rcases le_total x.key y.key with h1 | h1
            · exact absurd ((cmpT_le _ _).2 h1) hle
            · exact h1)
          go_wp2_with ((with_reducible refine at_load 95 ?_); refine wpList_load_mid rfl 95 _ rfl g (c * 19) rfl (encA y) _ rz Try.underlying95 rfl (by rw [infoA, HOY.out.enc]) ?_)
          refine (set_any h m _ A kv' last q y w6 HP6.out (by omega) HOY.out (HP6.out.oks y hzm)).mono ?_
          rintro e w2 ⟨rfl, hp2, t2⟩
          have T2 : Touch [m, g] W w2 := HT6.out.trans t2 (by intro y hy; simp [Value.ownBlock] at hy; rcases hy with rfl | rfl <;> simp)
          have HP2 := Lib.hid hp2
          have HM := Lib.hid (HH.out.move HN.out (p := c) (by have := HPC.out; omega) HY.out)
          have HS := Lib.hid (HUP.out.step HPC.out.2.1 HPC.out.1 HH.out.at_i (by rw [HH.out.other (by have := HPC.out; omega)]; exact HY.out) HL.out HMIN.out)
          clear hp2 t2 c0 c1 c2 rz
          go_wp2_with fail
          go_roundw
          case rel => exact ⟨c, _, _, _, rfl, HP2.out, HM.out, HS.out, T2⟩
          case measure => (have := HPC.out; simp [intOf]; omega)
      · have hc3 : (its.length : Int) ≤ (c : Int) := by omega
        have HE := Lib.hid (HUP.out.stop (by
          intro b hb hpb a u ha hu
          have hbl := (List.getElem?_eq_some_iff.1 hu).1
          have e2 : C.length = its.length := HH.out.perm.length_eq
          have := HC.out
          unfold par at hpb
          omega))
        go_wp2_with fail
        refine wp_region_held (S := Touch [] X5.drew) (by kernel_rfl) ?_
        change wpAnyH _ _ _ _ _ _ _ _ X5.drew
        have tD := (Touch.refl [] X5).drew
        have HPX := Lib.hid (HP5.out.touch tD (by simp))
        have HTX := Lib.hid (HT5.out.trans tD (by simp))
        generalize X5.drew = X at *
        clear tD
        have hS := Touch.refl [] X
        obtain ⟨c0, _, _⟩ := HPX.out.cells
        refine wpAnyH_take (i := 0) (oi := { dst := some 45, op := Op.move (Operand.tmp 5), type := 3, pos := "heap.go:60", after := #[], guard := none }) (v := .int .i64 (c : Nat)) rfl (by kernel_rfl) (by kernel_rfl) (by kernel_rfl) (fun _ _ _ h => h) (Or.inl ⟨by rfl, fun w' hw => by go_simp⟩) hS ?_
        try simp only [Act.put, List.setIfInBounds_toArray, List.set_cons_zero, List.set_cons_succ]
        refine wpAnyH_take (i := 1) (oi := { dst := some 46, op := Op.move (Operand.tmp 0), type := 55, pos := "heap.go:60", after := #[], guard := none }) (v := .pointer (some ⟨h, 0, none⟩)) rfl (by kernel_rfl) (by kernel_rfl) (by kernel_rfl) (fun _ _ _ h => h) (Or.inl ⟨by rfl, fun w' hw => by go_simp⟩) hS ?_
        try simp only [Act.put, List.setIfInBounds_toArray, List.set_cons_zero, List.set_cons_succ]
        refine wpAnyH_take (i := 2) (oi := { dst := some 47, op := Op.nilCheck (Operand.tmp 46), type := 0, pos := "heap.go:60", after := #[{ on := 1, ground := Ground.data }], guard := none }) (v := .pointer (some ⟨h, 0, none⟩)) rfl (by kernel_rfl) (by kernel_rfl) (by kernel_rfl) (fun _ _ _ h => h) (Or.inl ⟨by rfl, fun w' hw => by go_simp⟩) hS ?_
        try simp only [Act.put, List.setIfInBounds_toArray, List.set_cons_zero, List.set_cons_succ]
        refine wpAnyH_take (i := 3) (oi := { dst := some 48, op := Op.fieldAddr 90 (Operand.tmp 47) 0, type := 0, pos := "heap.go:60", after := #[{ on := 2, ground := Ground.data }], guard := none }) (v := .pointer (some ⟨h, 0, none⟩)) rfl (by kernel_rfl) (by kernel_rfl) (by kernel_rfl) (fun _ _ _ h => h) (Or.inl ⟨by rfl, fun w' hw => by go_simp⟩) hS ?_
        try simp only [Act.put, List.setIfInBounds_toArray, List.set_cons_zero, List.set_cons_succ]
        refine wpAnyH_take (i := 4) (oi := { dst := some 49, op := Op.load 88 (Operand.tmp 48), type := 88, pos := "heap.go:60", after := #[{ on := 3, ground := Ground.data }], guard := none }) (v := .slice (some ⟨g, 0, none⟩) its.length cv) rfl (by kernel_rfl) (by kernel_rfl) (by kernel_rfl) (fun _ _ _ h => h) (Or.inl ⟨by rfl, fun w' hw => by (have q := hw.cell c0 (by simp); go_simp)⟩) hS ?_
        try simp only [Act.put, List.setIfInBounds_toArray, List.set_cons_zero, List.set_cons_succ]
        refine wpAnyH_take (i := 5) (oi := { dst := some 50, op := Op.call { callee := Callee.builtin Builtin.len, args := #[Operand.tmp 49], argTypes := #[88] }, type := 3, pos := "heap.go:60", after := #[{ on := 4, ground := Ground.data }], guard := none }) (v := .int .i64 (its.length : Nat)) rfl (by kernel_rfl) (by kernel_rfl) (by kernel_rfl) (fun _ _ _ h => h) (Or.inl ⟨by rfl, fun w' hw => by go_simp⟩) hS ?_
        try simp only [Act.put, List.setIfInBounds_toArray, List.set_cons_zero, List.set_cons_succ]
        refine wpAnyH_take (i := 6) (oi := { dst := some 51, op := Op.binOp BinOp.geq 3 (Operand.tmp 45) (Operand.tmp 50) 3, type := 4, pos := "heap.go:60", after := #[{ on := 0, ground := Ground.data }, { on := 5, ground := Ground.data }], guard := none }) (v := .bool true) rfl (by kernel_rfl) (by kernel_rfl) (by kernel_rfl) (fun _ _ _ h => h) (Or.inl ⟨by rfl, fun w' hw => by (have q0 := hc3; go_simp)⟩) hS ?_
        try simp only [Act.put, List.setIfInBounds_toArray, List.set_cons_zero, List.set_cons_succ]
        refine wpAnyH_take (i := 7) (oi := { dst := some 52, op := Op.move (Operand.tmp 51), type := 4, pos := "heap.go:60", after := #[{ on := 6, ground := Ground.data }], guard := none }) (v := .bool true) rfl (by kernel_rfl) (by kernel_rfl) (by kernel_rfl) (fun _ _ _ h => h) (Or.inl ⟨by rfl, fun w' hw => by go_simp⟩) hS ?_
        try simp only [Act.put, List.setIfInBounds_toArray, List.set_cons_zero, List.set_cons_succ]
        refine wpAnyH_take (i := 8) (oi := { dst := some 53, op := Op.load 95 (Operand.tmp 4), type := 95, pos := "heap.go:60", after := #[{ on := 7, ground := Ground.guard }], guard := some (7, false) }) (v := undef) rfl (by kernel_rfl) (by kernel_rfl) (by kernel_rfl) (fun _ _ _ h => h) (Or.inr ⟨by rfl, rfl⟩) hS ?_
        try simp only [Act.put, List.setIfInBounds_toArray, List.set_cons_zero, List.set_cons_succ]
        refine wpAnyH_take (i := 9) (oi := { dst := some 54, op := Op.move (Operand.tmp 0), type := 55, pos := "heap.go:60", after := #[{ on := 7, ground := Ground.guard }], guard := some (7, false) }) (v := undef) rfl (by kernel_rfl) (by kernel_rfl) (by kernel_rfl) (fun _ _ _ h => h) (Or.inr ⟨by rfl, rfl⟩) hS ?_
        try simp only [Act.put, List.setIfInBounds_toArray, List.set_cons_zero, List.set_cons_succ]
        refine wpAnyH_take (i := 10) (oi := { dst := some 55, op := Op.nilCheck (Operand.tmp 54), type := 0, pos := "heap.go:60", after := #[{ on := 9, ground := Ground.data }, { on := 7, ground := Ground.guard }], guard := some (7, false) }) (v := undef) rfl (by kernel_rfl) (by kernel_rfl) (by kernel_rfl) (fun _ _ _ h => h) (Or.inr ⟨by rfl, rfl⟩) hS ?_
        try simp only [Act.put, List.setIfInBounds_toArray, List.set_cons_zero, List.set_cons_succ]
        refine wpAnyH_take (i := 11) (oi := { dst := some 56, op := Op.fieldAddr 90 (Operand.tmp 55) 0, type := 0, pos := "heap.go:60", after := #[{ on := 10, ground := Ground.data }, { on := 7, ground := Ground.guard }], guard := some (7, false) }) (v := undef) rfl (by kernel_rfl) (by kernel_rfl) (by kernel_rfl) (fun _ _ _ h => h) (Or.inr ⟨by rfl, rfl⟩) hS ?_
        try simp only [Act.put, List.setIfInBounds_toArray, List.set_cons_zero, List.set_cons_succ]
        refine wpAnyH_take (i := 12) (oi := { dst := some 57, op := Op.load 88 (Operand.tmp 56), type := 88, pos := "heap.go:60", after := #[{ on := 11, ground := Ground.data }, { on := 7, ground := Ground.guard }], guard := some (7, false) }) (v := undef) rfl (by kernel_rfl) (by kernel_rfl) (by kernel_rfl) (fun _ _ _ h => h) (Or.inr ⟨by rfl, rfl⟩) hS ?_
        try simp only [Act.put, List.setIfInBounds_toArray, List.set_cons_zero, List.set_cons_succ]
        refine wpAnyH_take (i := 13) (oi := { dst := some 58, op := Op.move (Operand.tmp 5), type := 3, pos := "heap.go:60", after := #[{ on := 7, ground := Ground.guard }], guard := some (7, false) }) (v := undef) rfl (by kernel_rfl) (by kernel_rfl) (by kernel_rfl) (fun _ _ _ h => h) (Or.inr ⟨by rfl, rfl⟩) hS ?_
        try simp only [Act.put, List.setIfInBounds_toArray, List.set_cons_zero, List.set_cons_succ]
        refine wpAnyH_take (i := 14) (oi := { dst := some 59, op := Op.indexAddr 88 (Operand.tmp 57) (Operand.tmp 58), type := 0, pos := "heap.go:60", after := #[{ on := 12, ground := Ground.data }, { on := 13, ground := Ground.data }, { on := 7, ground := Ground.guard }], guard := some (7, false) }) (v := undef) rfl (by kernel_rfl) (by kernel_rfl) (by kernel_rfl) (fun _ _ _ h => h) (Or.inr ⟨by rfl, rfl⟩) hS ?_
        try simp only [Act.put, List.setIfInBounds_toArray, List.set_cons_zero, List.set_cons_succ]
        refine wpAnyH_take (i := 15) (oi := { dst := some 60, op := Op.load 95 (Operand.tmp 59), type := 95, pos := "heap.go:60", after := #[{ on := 14, ground := Ground.data }, { on := 7, ground := Ground.guard }], guard := some (7, false) }) (v := undef) rfl (by kernel_rfl) (by kernel_rfl) (by kernel_rfl) (fun _ _ _ h => h) (Or.inr ⟨by rfl, rfl⟩) hS ?_
        try simp only [Act.put, List.setIfInBounds_toArray, List.set_cons_zero, List.set_cons_succ]
        refine wpAnyH_take (i := 16) (oi := { dst := some 61, op := Op.call { callee := Callee.value (Operand.func 56), args := #[Operand.tmp 53, Operand.tmp 60], argTypes := #[95, 95] }, type := 3, pos := "heap.go:60", after := #[{ on := 8, ground := Ground.data }, { on := 15, ground := Ground.data }, { on := 7, ground := Ground.chain }, { on := 7, ground := Ground.guard }], guard := some (7, false) }) (v := undef) rfl (by kernel_rfl) (by kernel_rfl) (by kernel_rfl) (fun _ _ _ h => h) (Or.inr ⟨by rfl, rfl⟩) hS ?_
        try simp only [Act.put, List.setIfInBounds_toArray, List.set_cons_zero, List.set_cons_succ]
        refine wpAnyH_take (i := 17) (oi := { dst := some 62, op := Op.binOp BinOp.leq 3 (Operand.tmp 61) (Operand.const (Value.int IntKind.i64 0)) 3, type := 4, pos := "heap.go:60", after := #[{ on := 16, ground := Ground.data }, { on := 7, ground := Ground.guard }], guard := some (7, false) }) (v := undef) rfl (by kernel_rfl) (by kernel_rfl) (by kernel_rfl) (fun _ _ _ h => h) (Or.inr ⟨by rfl, rfl⟩) hS ?_
        try simp only [Act.put, List.setIfInBounds_toArray, List.set_cons_zero, List.set_cons_succ]
        refine wpAnyH_take (i := 18) (oi := { dst := some 63, op := Op.pick (Operand.tmp 52) (Operand.const (Value.bool true)) (Operand.tmp 62), type := 4, pos := "heap.go:60", after := #[{ on := 7, ground := Ground.data }, { on := 17, ground := Ground.data }], guard := none }) (v := .bool true) rfl (by kernel_rfl) (by kernel_rfl) (by kernel_rfl) (fun _ _ _ h => h) (Or.inl ⟨by rfl, fun w' hw => by go_simp⟩) hS ?_
        try simp only [Act.put, List.setIfInBounds_toArray, List.set_cons_zero, List.set_cons_succ]
        refine wpAnyH_done (by kernel_rfl) ?_ _
        try simp only [Act.put, List.setIfInBounds_toArray, List.set_cons_zero, List.set_cons_succ]
        have HP6 := Lib.hid (HPX.out.touch hS (by simp))
        have HT6 := Lib.hid (HTX.out.trans hS (by simp))
        clear hS c0 HPX HTX 
        rename World => w6
        have rb := range_block (HT6.out.at HGB.out HBX.out)
        go_wp2_with ((with_reducible refine at_load 95 ?_); refine wpList_load_mid rfl 95 _ rfl B (0) rfl (encA x) _ rb Try.underlying95 rfl (by rw [infoA, H1x.out.enc]) ?_)
        refine (set_any h m _ A kv' last q x w6 HP6.out (by omega) H1x.out okx).mono ?_
        rintro e w2 ⟨rfl, hp2, t2⟩
        have T2 : Touch [m, g] w w2 := ((HTB.out.mono (S' := [m, g]) (by simp)).trans HT6.out (fun y hy => .inl hy)).trans t2 (by intro y hy; simp [Value.ownBlock] at hy; rcases hy with rfl | rfl <;> simp)
        have HP2 := Lib.hid hp2
        clear hp2 t2 rb
        go_wp2_with fail
        exact end0 rfl rfl ⟨C, _, rfl, by rw [HH.out.c]; exact HP2.out, HH.out.perm, HE.out, (HH.out.fin HN.out).1, (HH.out.fin HN.out).2, T2⟩
set_option maxRecDepth 100000 in
set_option maxHeartbeats 1000000 in
theorem fix_any (h m : Nat) (v : Value) (its : List Itm) (kv : List (Int × Value)) (last : Int) (i : Nat) (x : Itm) (w : World) (k : Hp w h m v its kv last) (hx : its[i]? = some x) (hn : (its.map Itm.id).Nodup) (hix : IxB kv its i) (hu : Up Itm.key its i) :
    Calls Try.prog 76 #[.pointer (some ⟨h, 0, none⟩), .int .i64 i] w fun e w' => ∃ (its' : List Itm) (kv' : List (Int × Value)), e = .returned (.tuple #[]) ∧ Hp w' h m v its' kv' last ∧ its'.Perm its ∧ Heap Itm.key its' ∧
      (∀ (j : Nat) y, its'[j]? = some y → look kv' y.id = some (.int .i64 j)) ∧ (∀ id, (∀ y ∈ its, y.id ≠ id) → look kv' id = look kv id) ∧ Touch (m :: v.ownBlock.toList) w w' := by
  have HU := Lib.hid (up_any h m v its kv last i x w k hx hn hix hu)
  have HN := Lib.hid hn
  clear k hx hn hix hu
  go_enter Try.func76, Try.ntmps76
  go_wp2_with fail
  refine HU.out.mono ?_
  rintro e w1 ⟨j, its1, kv1, rfl, hj, hp1, hperm1, hd1, _, ha1, ho1, t1⟩
  have hjl : j < its1.length := by rw [hperm1.length_eq]; exact hj
  have hx1 := List.getElem?_eq_getElem hjl
  have HD := Lib.hid (down_any h m v its1 kv1 last j _ w1 hp1 hx1 ((hperm1.map Itm.id).nodup_iff.2 HN.out) (fun j' y _ hy => ha1 j' y hy) hd1)
  have HP := Lib.hid (⟨hperm1, ho1, t1⟩ : _ ∧ _ ∧ _)
  clear hp1 hd1 ha1 hx1 hjl t1 ho1 hperm1
  go_wp2_with fail
  refine HD.out.mono ?_
  rintro e w2 ⟨its2, kv2, rfl, hp2, hperm2, hh2, ha2, ho2, t2⟩
  obtain ⟨p1, p2, p3⟩ := HP.out
  have FIN := Lib.hid (show Hp w2 h m v its2 kv2 last ∧ its2.Perm its ∧ Heap Itm.key its2 ∧ (∀ (j : Nat) y, its2[j]? = some y → look kv2 y.id = some (.int .i64 j)) ∧ (∀ id, (∀ y ∈ its, y.id ≠ id) → look kv2 id = look kv id) ∧ Touch (m :: v.ownBlock.toList) w w2 from
    ⟨hp2, hperm2.trans p1, hh2, ha2, fun id hid => by rw [ho2 id (fun y hy => hid y (p1.mem_iff.1 hy)), p2 id hid], p3.trans t2 (fun y hy => .inl hy)⟩)
  clear hp2 hperm2 hh2 ha2 ho2 t2 p1 p2 p3 HP
  go_wp2_with fail
  exact end0 rfl rfl ⟨its2, kv2, rfl, FIN.out⟩
end Go.Proofs.Ytpbabdoecjlifaa.A

/-
  The walk of FdtableMatchesModel: true at every number and slice of operations. No condition.
-/
import Derived.Test.YtnglkdpmkgehoaaW6
import Derived.Test.YtnglkdpmkgehoaaRo2
import Derived.Test.YtnglkdpmkgehoaaOc
namespace Go.Proofs.Ytnglkdpmkgehoaa
open Go.ChangeShapes Go.WideShapes Go.Deep Go.RowKit
set_option linter.unusedVariables false
set_option linter.unusedSimpArgs false

set_option maxRecDepth 100000 in
set_option maxHeartbeats 8000000 in
theorem walk7 (n : Int) (v : Value) (b : Nat) (xs : List (List Value)) (w : World) (hr : Rd w 4 b v xs) (hx : ∀ x ∈ xs, IsOp x) :
    Calls Try.prog 7 #[.int .i64 n, v] w fun e w' => e = .returned (.bool true) ∧ Touch [] w w' := by
  have g1 := gmod_lo n 8 (by omega)
  have g2 := gmod_hi n 8 (by omega)
  have hfm := hr.form
  obtain ⟨av, cv, rfl, hc1, hc2⟩ := hfm
  have hc3 : cv ≤ 9223372036854775807 := by unfold maxLen at hc2; omega
  have hrO : ∀ wr, Touch [] w wr → Rd wr 4 b (.slice av xs.length cv) xs := fun wr ht => Rd.touch ht hr (by simp)
  have HR := Lib.hid hrO
  have HX := Lib.hid hx
  clear hrO hr hx
  go_enter Try.func7, Try.ntmps7
  go_wp2_with fail
  refine (mod_any _ _ _ (by omega) (by omega)).mono ?_
  rintro e w' ⟨rfl, rfl⟩
  generalize gmod n 8 = g at *
  obtain ⟨k0, rfl⟩ := Int.eq_ofNat_of_zero_le g1
  obtain ⟨k, hk⟩ : ∃ k, k = 1 + k0 := ⟨_, rfl⟩
  have l1 : 1 ≤ k := by omega
  have l2 : k ≤ 10 := by omega
  have hk' : (1 : Int) + (k0 : Int) = (k : Int) := by omega
  have HK := Lib.hid hk'
  clear hk hk'
  go_wp2_with fail
  rw [HK.out]
  refine (new_ex (k : Int) k _ rfl l1 (by omega)).mono ?_
  rintro _ w1 ⟨t, m, u, rfl, T1, ⟨zt, zm, zu⟩, t1⟩
  have tX := (Touch.refl [] w1).alloc (.cells #[.int .i64 k, .slice none 0 0, .int .i64 0] 46)
  have gX := heap_alloc_new w1 (.cells #[.int .i64 k, .slice none 0 0, .int .i64 0] 46)
  have hB : Both w (w1.alloc (.cells #[.int .i64 k, .slice none 0 0, .int .i64 0] 46)) t m u w1.heap.size k (.slice none 0 0) [] (List.replicate k false) 0 := by
    have hl := T1.lt
    refine ⟨T1.touch tX (by simp), ⟨gX, World.ownsRow_nil _ _ _ _, by simp [Value.ownBlock], by simp⟩, by simp, ?_, ⟨?_, ?_⟩, t1.trans tX (by simp)⟩
    · intro y hy
      have := hl y hy
      exact ⟨by omega, by simp [Value.ownBlock]⟩
    · intro y hy
      simp only [Tab.foot, List.map_nil, List.mem_cons, List.not_mem_nil, or_false] at hy
      rcases hy with rfl | rfl | rfl <;> assumption
    · intro y hy
      simp only [Rf.foot, Value.ownBlock, List.mem_cons, Option.toList, List.not_mem_nil, or_false] at hy
      have := t1.size
      omega
  clear T1 zt zm zu t1 tX gX
  have HB := Lib.hid hB
  clear hB
  go_wp2_with fail
  generalize w1.heap.size = x at *
  go_loopw [9] (fun vi wr => ∃ (i : Nat) (vr : Value) (live : List Fd) (used : List Bool) (total : Int), i ≤ xs.length ∧ i ≤ 80 ∧ vi = .int .i64 i ∧ Both w wr t m u x k vr live used total ∧ 0 ≤ total ∧ total ≤ i) (fun vi _ => xs.length - (intOf vi).toNat)
  case atStart => exact ⟨0, _, _, _, _, by omega, by omega, rfl, HB.out, by omega, by omega⟩
  case round =>
    clear HB
    obtain ⟨i, vr, live, used, total, hi, hi8, rfl, hB, tt1, tt2⟩ := hrel
    have HB := Lib.hid hB
    clear hB
    by_cases hlt : i < xs.length
    · by_cases h80 : i < 80
      · have hx0 := List.getElem?_eq_getElem hlt
        obtain ⟨kind, c, a, p, hxe, hok⟩ := HX.out _ (List.getElem_mem hlt)
        rw [hxe] at hx0
        have hR := HR.out wr HB.out.t0
        obtain ⟨off, rfl, hat⟩ := hR.at (by intro e; rw [e] at hlt; simp at hlt)
        have hc := hat i _ hx0
        have q0 := hc 0 _ rfl
        have q1 := hc 1 _ rfl
        have q2 := hc 2 _ rfl
        have q3 := hc 3 _ rfl
        simp only [Nat.add_zero] at q0
        clear hc hat hR hx0 hxe
        go_wp2_with fail
        refine (some_any c a _).mono ?_
        rintro e w2 ⟨rfl, t2⟩
        have hko := someK_ok hok
        generalize someK c a = K at *
        obtain ⟨oc, oa⟩ := K
        have tO := (Touch.refl [] w2).alloc (.cells #[.int .i64 oc, .int .i64 oa] 23)
        have gO := heap_alloc_new w2 (.cells #[.int .i64 oc, .int .i64 oa] 23)
        have tV := (t2.trans tO (by simp)).drew
        have hfpl := HB.out.lt
        have z2 := t2.size
        go_wp2_with (refine wpList_store_new rfl 23 _ _ rfl _ _ [.int .i64 oc, .int .i64 oa] (by rfl) (by rfl) rfl size23 (by simp [Value.oneCell']) ?_)
        refine wp_region_any (by kernel_rfl) ?_
        change wpAny _ _ _ _ _ _ _ (w2.alloc (.cells #[.int .i64 oc, .int .i64 oa] 23)).drew
        obtain ⟨o0, o1⟩ := cells_two (show (w2.alloc (.cells #[.int .i64 oc, .int .i64 oa] 23)).drew.heap[w2.heap.size]? = _ from gO)
        have hDn : ∀ y ∈ fpB t m u x vr live, y < w2.heap.size := fun y hy => by have := hfpl y hy; omega
        have HBV := Lib.hid (HB.out.quiet tV)
        have q0 := tV.cell q0 (by simp)
        have q1 := tV.cell q1 (by simp)
        have q2 := tV.cell q2 (by simp)
        have q3 := tV.cell q3 (by simp)
        clear hfpl z2 tO gO t2 HB tV
        generalize (w2.alloc (.cells #[.int .i64 oc, .int .i64 oa] 23)).drew = V at *
        generalize w2.heap.size = D at *
        refine wpAny_take (i := 0) (oi := { dst := some 47, op := Op.move (Operand.tmp 6), type := 24, pos := "law.go:79", after := #[], guard := none }) (v := .pointer (some ⟨t, 0, none⟩)) rfl (by kernel_rfl) (by kernel_rfl) (by kernel_rfl) (fun _ _ _ h => h) (Or.inl ⟨by rfl, fun w' => by go_simp⟩) ?_
        try simp only [Act.put, List.setIfInBounds_toArray, List.set_cons_zero, List.set_cons_succ]
        refine wpAny_take (i := 1) (oi := { dst := some 48, op := Op.move (Operand.tmp 8), type := 43, pos := "law.go:79", after := #[], guard := none }) (v := .pointer (some ⟨x, 0, none⟩)) rfl (by kernel_rfl) (by kernel_rfl) (by kernel_rfl) (fun _ _ _ h => h) (Or.inl ⟨by rfl, fun w' => by go_simp⟩) ?_
        try simp only [Act.put, List.setIfInBounds_toArray, List.set_cons_zero, List.set_cons_succ]
        refine wpAny_take (i := 2) (oi := { dst := some 49, op := Op.move (Operand.tmp 1), type := 42, pos := "law.go:79", after := #[], guard := none }) (v := .slice (some ⟨b, off, none⟩) xs.length cv) rfl (by kernel_rfl) (by kernel_rfl) (by kernel_rfl) (fun _ _ _ h => h) (Or.inl ⟨by rfl, fun w' => by go_simp⟩) ?_
        try simp only [Act.put, List.setIfInBounds_toArray, List.set_cons_zero, List.set_cons_succ]
        refine wpAny_take (i := 3) (oi := { dst := some 50, op := Op.move (Operand.tmp 9), type := 3, pos := "law.go:79", after := #[], guard := none }) (v := .int .i64 i) rfl (by kernel_rfl) (by kernel_rfl) (by kernel_rfl) (fun _ _ _ h => h) (Or.inl ⟨by rfl, fun w' => by go_simp⟩) ?_
        try simp only [Act.put, List.setIfInBounds_toArray, List.set_cons_zero, List.set_cons_succ]
        refine wpAny_take (i := 4) (oi := { dst := some 51, op := Op.indexAddr 42 (Operand.tmp 49) (Operand.tmp 50), type := 0, pos := "law.go:79", after := #[{ on := 2, ground := Ground.data }, { on := 3, ground := Ground.data }], guard := none }) (v := .pointer (some ⟨b, off + i * 4, none⟩)) rfl (by kernel_rfl) (by kernel_rfl) (by kernel_rfl) (fun _ _ _ h => h) (Or.inl ⟨by rfl, fun w' => by go_simp⟩) ?_
        try simp only [Act.put, List.setIfInBounds_toArray, List.set_cons_zero, List.set_cons_succ]
        refine wpAny_ready (rs := [5]) (by kernel_rfl) (by simp) ?_
        refine AllReady.cons (o := { dst := some 52, op := Op.load 49 (Operand.tmp 51), type := 49, pos := "law.go:79", after := #[{ on := 4, ground := Ground.data }], guard := none }) rfl (fun K hK0 => ?_) AllReady.nil
        have hK := Lib.hid hK0
        clear hK0
        go_simp
        refine hK.out _ _ ?_
        clear hK K
        try simp only [Act.put, List.setIfInBounds_toArray, List.set_cons_zero, List.set_cons_succ]
        refine wpAny_ready (rs := [6]) (by kernel_rfl) (by simp) ?_
        refine AllReady.cons (o := { dst := some 53, op := Op.call { callee := Callee.value (Operand.func 23), args := #[Operand.tmp 47, Operand.tmp 48, Operand.tmp 52], argTypes := #[24, 43, 49] }, type := 4, pos := "law.go:79", after := #[{ on := 0, ground := Ground.data }, { on := 1, ground := Ground.data }, { on := 5, ground := Ground.data }], guard := none }) rfl (fun K hK0 => ?_) AllReady.nil
        have hK := Lib.hid hK0
        clear hK0
        go_simp
        refine (apply_any w t m u x k vr live used total kind c a p V HBV.out hok ⟨tt1, by omega⟩).mono ?_
        rintro e V1 ⟨rfl, vr2, live2, used2, total2, B2, ⟨tb1, tb2⟩, tf, _⟩
        refine hK.out _ _ ?_
        clear hK K
        try simp only [Act.put, List.setIfInBounds_toArray, List.set_cons_zero, List.set_cons_succ]
        have o0 := tf.cell o0 (fun hm => by have := hDn D hm; omega)
        have o1 := tf.cell o1 (fun hm => by have := hDn D hm; omega)
        have tf1 := Lib.hid o1
        clear o1
        have HB1 := Lib.hid B2
        clear B2 tf q0 q1 q2 q3
        have hul : used2.length = k := HB1.out.len
        have HUL := Lib.hid hul
        have hfew := HB1.out.tab.few
        have HSL := Lib.hid (show (sortK (live2.map (·.key))).length ≤ 1000 by rw [(sortK_perm _).length_eq]; simpa using hfew)
        have HSK := Lib.hid (show ∀ y ∈ sortK (live2.map (·.key)), okK y from fun y hy => by
          obtain ⟨f, hf, rfl⟩ := List.mem_map.1 ((sortK_perm _).mem_iff.1 hy)
          exact HB1.out.tab.oks f hf)
        have HFL := Lib.hid (show ((sortK (live2.map (·.key))).filter (isC oc)).length ≤ 1000 from Nat.le_trans (List.length_filter_le _ _) HSL.out)
        have HFK := Lib.hid (show ∀ y ∈ (sortK (live2.map (·.key))).filter (isC oc), okK y from fun y hy => HSK.out y (List.mem_filter.1 hy).1)
        obtain ⟨x0, x1, x2⟩ := HB1.out.rf.cells
        obtain ⟨la, lc, rfl, hl1, hl2, hl3⟩ := HB1.out.rf.form
        have hll : live2.length ≤ k := by
          have h1 := HB1.out.tab.cnt
          have h2 : used2.count true ≤ used2.length := List.count_le_length
          omega
        clear hul
        refine wpAny_of_held (S := Touch [] V1) _ _ _ _ ?_
        have hS := Touch.refl [] V1
        refine wpAnyH_take (i := 7) (oi := { dst := some 54, op := Op.unOp UnOp.not 4 (Operand.tmp 53), type := 4, pos := "law.go:79", after := #[{ on := 6, ground := Ground.data }], guard := none }) (v := .bool false) rfl (by kernel_rfl) (by kernel_rfl) (by kernel_rfl) (fun _ _ _ h => h) (Or.inl ⟨by rfl, fun w' hw => by go_simp⟩) hS ?_
        try simp only [Act.put, List.setIfInBounds_toArray, List.set_cons_zero, List.set_cons_succ]
        refine wpAnyH_take (i := 8) (oi := { dst := some 55, op := Op.move (Operand.tmp 54), type := 4, pos := "law.go:79", after := #[{ on := 7, ground := Ground.data }, { on := 6, ground := Ground.chain }], guard := none }) (v := .bool false) rfl (by kernel_rfl) (by kernel_rfl) (by kernel_rfl) (fun _ _ _ h => h) (Or.inl ⟨by rfl, fun w' hw => by go_simp⟩) hS ?_
        try simp only [Act.put, List.setIfInBounds_toArray, List.set_cons_zero, List.set_cons_succ]
        refine wpAnyH_take (i := 9) (oi := { dst := some 56, op := Op.move (Operand.tmp 6), type := 24, pos := "law.go:79", after := #[{ on := 8, ground := Ground.guard }], guard := some (8, false) }) (v := .pointer (some ⟨t, 0, none⟩)) rfl (by kernel_rfl) (by kernel_rfl) (by kernel_rfl) (fun _ _ _ h => h) (Or.inl ⟨by rfl, fun w' hw => by go_simp⟩) hS ?_
        try simp only [Act.put, List.setIfInBounds_toArray, List.set_cons_zero, List.set_cons_succ]
        refine wpAnyH_take (i := 11) (oi := { dst := some 58, op := Op.move (Operand.tmp 8), type := 43, pos := "law.go:79", after := #[{ on := 8, ground := Ground.guard }], guard := some (8, false) }) (v := .pointer (some ⟨x, 0, none⟩)) rfl (by kernel_rfl) (by kernel_rfl) (by kernel_rfl) (fun _ _ _ h => h) (Or.inl ⟨by rfl, fun w' hw => by go_simp⟩) hS ?_
        try simp only [Act.put, List.setIfInBounds_toArray, List.set_cons_zero, List.set_cons_succ]
        refine wpAnyH_ready (rs := [10]) (by kernel_rfl) (by simp) ?_
        refine AllReadyH.cons (o := { dst := some 57, op := Op.call { callee := Callee.value (Operand.func 22), args := #[Operand.tmp 56], argTypes := #[24] }, type := 39, pos := "law.go:79", after := #[{ on := 9, ground := Ground.data }, { on := 8, ground := Ground.chain }, { on := 8, ground := Ground.guard }], guard := some (8, false) }) rfl (fun K hK => ?_) AllReadyH.nil
        go_simp
        refine (endpoints_any t m u live2 used2 total2 _ (HB1.out.quiet hS).tab).mono ?_
        rintro e W9 ⟨v1, rfl, oo, tt⟩
        have hS2 := hS.trans tt (by simp)
        obtain ⟨b1, r1⟩ := oo.rd
        clear oo
        refine hK.out _ _ hS2 (fun _ => ?_)
        clear hK K hS
        have hS := hS2
        clear hS2
        clear tt
        try simp only [Act.put, List.setIfInBounds_toArray, List.set_cons_zero, List.set_cons_succ]
        refine wpAnyH_ready (rs := [12]) (by kernel_rfl) (by simp) ?_
        refine AllReadyH.cons (o := { dst := some 59, op := Op.call { callee := Callee.value (Operand.func 27), args := #[Operand.tmp 58], argTypes := #[43] }, type := 39, pos := "law.go:79", after := #[{ on := 11, ground := Ground.data }, { on := 10, ground := Ground.chain }, { on := 8, ground := Ground.guard }], guard := some (8, false) }) rfl (fun K hK => ?_) AllReadyH.nil
        go_simp
        refine (rend_any x k _ live2 total2 _ (HB1.out.quiet hS).rf).mono ?_
        rintro e W9 ⟨v2, rfl, oo, tt⟩
        have hS2 := hS.trans tt (by simp)
        obtain ⟨b2, r2⟩ := oo.rd
        clear oo
        have r1 := r1.touch tt (by simp)
        refine hK.out _ _ hS2 (fun _ => ?_)
        clear hK K hS
        have hS := hS2
        clear hS2
        clear tt
        try simp only [Act.put, List.setIfInBounds_toArray, List.set_cons_zero, List.set_cons_succ]
        refine wpAnyH_ready (rs := [13]) (by kernel_rfl) (by simp) ?_
        refine AllReadyH.cons (o := { dst := some 60, op := Op.call { callee := Callee.value (Operand.func 26), args := #[Operand.tmp 57, Operand.tmp 59], argTypes := #[39, 39] }, type := 4, pos := "law.go:79", after := #[{ on := 10, ground := Ground.data }, { on := 12, ground := Ground.data }, { on := 12, ground := Ground.chain }, { on := 8, ground := Ground.guard }], guard := some (8, false) }) rfl (fun K hK => ?_) AllReadyH.nil
        go_simp
        refine (equal_self v1 v2 b1 b2 _ _ HSL.out r1 r2 HSK.out).mono ?_
        rintro e W9 ⟨rfl, tt⟩
        have hS2 := hS.trans tt (by simp)
        clear r1 r2
        refine hK.out _ _ hS2 (fun _ => ?_)
        clear hK K hS
        have hS := hS2
        clear hS2
        clear tt
        try simp only [Act.put, List.setIfInBounds_toArray, List.set_cons_zero, List.set_cons_succ]
        refine wpAnyH_take (i := 14) (oi := { dst := some 61, op := Op.unOp UnOp.not 4 (Operand.tmp 60), type := 4, pos := "law.go:79", after := #[{ on := 13, ground := Ground.data }, { on := 8, ground := Ground.guard }], guard := some (8, false) }) (v := .bool false) rfl (by kernel_rfl) (by kernel_rfl) (by kernel_rfl) (fun _ _ _ h => h) (Or.inl ⟨by rfl, fun w' hw => by go_simp⟩) hS ?_
        try simp only [Act.put, List.setIfInBounds_toArray, List.set_cons_zero, List.set_cons_succ]
        refine wpAnyH_take (i := 15) (oi := { dst := some 62, op := Op.pick (Operand.tmp 55) (Operand.const (Value.bool true)) (Operand.tmp 61), type := 4, pos := "law.go:79", after := #[{ on := 8, ground := Ground.data }, { on := 14, ground := Ground.data }], guard := none }) (v := .bool false) rfl (by kernel_rfl) (by kernel_rfl) (by kernel_rfl) (fun _ _ _ h => h) (Or.inl ⟨by rfl, fun w' hw => by go_simp⟩) hS ?_
        try simp only [Act.put, List.setIfInBounds_toArray, List.set_cons_zero, List.set_cons_succ]
        refine wpAnyH_take (i := 16) (oi := { dst := some 63, op := Op.move (Operand.tmp 62), type := 4, pos := "law.go:79", after := #[{ on := 15, ground := Ground.data }, { on := 13, ground := Ground.chain }], guard := none }) (v := .bool false) rfl (by kernel_rfl) (by kernel_rfl) (by kernel_rfl) (fun _ _ _ h => h) (Or.inl ⟨by rfl, fun w' hw => by go_simp⟩) hS ?_
        try simp only [Act.put, List.setIfInBounds_toArray, List.set_cons_zero, List.set_cons_succ]
        refine wpAnyH_take (i := 17) (oi := { dst := some 64, op := Op.move (Operand.tmp 6), type := 24, pos := "law.go:79", after := #[{ on := 16, ground := Ground.guard }], guard := some (16, false) }) (v := .pointer (some ⟨t, 0, none⟩)) rfl (by kernel_rfl) (by kernel_rfl) (by kernel_rfl) (fun _ _ _ h => h) (Or.inl ⟨by rfl, fun w' hw => by go_simp⟩) hS ?_
        try simp only [Act.put, List.setIfInBounds_toArray, List.set_cons_zero, List.set_cons_succ]
        refine wpAnyH_take (i := 18) (oi := { dst := some 65, op := Op.fieldAddr 23 (Operand.tmp 10) 0, type := 0, pos := "law.go:79", after := #[{ on := 16, ground := Ground.guard }], guard := some (16, false) }) (v := .pointer (some ⟨D, 0, none⟩)) rfl (by kernel_rfl) (by kernel_rfl) (by kernel_rfl) (fun _ _ _ h => h) (Or.inl ⟨by rfl, fun w' hw => by go_simp⟩) hS ?_
        try simp only [Act.put, List.setIfInBounds_toArray, List.set_cons_zero, List.set_cons_succ]
        refine wpAnyH_take (i := 19) (oi := { dst := some 66, op := Op.load 3 (Operand.tmp 65), type := 3, pos := "law.go:79", after := #[{ on := 18, ground := Ground.data }, { on := 16, ground := Ground.guard }], guard := some (16, false) }) (v := .int .i64 oc) rfl (by kernel_rfl) (by kernel_rfl) (by kernel_rfl) (fun _ _ _ h => h) (Or.inl ⟨by rfl, fun w' hw => by (have q0 := hw.cell o0 (by simp); go_simp)⟩) hS ?_
        try simp only [Act.put, List.setIfInBounds_toArray, List.set_cons_zero, List.set_cons_succ]
        refine wpAnyH_take (i := 21) (oi := { dst := some 68, op := Op.move (Operand.tmp 8), type := 43, pos := "law.go:79", after := #[{ on := 16, ground := Ground.guard }], guard := some (16, false) }) (v := .pointer (some ⟨x, 0, none⟩)) rfl (by kernel_rfl) (by kernel_rfl) (by kernel_rfl) (fun _ _ _ h => h) (Or.inl ⟨by rfl, fun w' hw => by go_simp⟩) hS ?_
        try simp only [Act.put, List.setIfInBounds_toArray, List.set_cons_zero, List.set_cons_succ]
        refine wpAnyH_take (i := 22) (oi := { dst := some 69, op := Op.fieldAddr 23 (Operand.tmp 10) 0, type := 0, pos := "law.go:79", after := #[{ on := 16, ground := Ground.guard }], guard := some (16, false) }) (v := .pointer (some ⟨D, 0, none⟩)) rfl (by kernel_rfl) (by kernel_rfl) (by kernel_rfl) (fun _ _ _ h => h) (Or.inl ⟨by rfl, fun w' hw => by go_simp⟩) hS ?_
        try simp only [Act.put, List.setIfInBounds_toArray, List.set_cons_zero, List.set_cons_succ]
        refine wpAnyH_take (i := 23) (oi := { dst := some 70, op := Op.load 3 (Operand.tmp 69), type := 3, pos := "law.go:79", after := #[{ on := 22, ground := Ground.data }, { on := 16, ground := Ground.guard }], guard := some (16, false) }) (v := .int .i64 oc) rfl (by kernel_rfl) (by kernel_rfl) (by kernel_rfl) (fun _ _ _ h => h) (Or.inl ⟨by rfl, fun w' hw => by (have q0 := hw.cell o0 (by simp); go_simp)⟩) hS ?_
        try simp only [Act.put, List.setIfInBounds_toArray, List.set_cons_zero, List.set_cons_succ]
        refine wpAnyH_ready (rs := [20]) (by kernel_rfl) (by simp) ?_
        refine AllReadyH.cons (o := { dst := some 67, op := Op.call { callee := Callee.value (Operand.func 28), args := #[Operand.tmp 64, Operand.tmp 66], argTypes := #[24, 3] }, type := 39, pos := "law.go:79", after := #[{ on := 17, ground := Ground.data }, { on := 19, ground := Ground.data }, { on := 16, ground := Ground.chain }, { on := 16, ground := Ground.guard }], guard := some (16, false) }) rfl (fun K hK => ?_) AllReadyH.nil
        go_simp
        refine (ofconn_any t m u live2 used2 total2 oc _ (HB1.out.quiet hS).tab).mono ?_
        rintro e W9 ⟨v3, b3, rfl, r1, tt⟩
        have hS2 := hS.trans tt (by simp)
        refine hK.out _ _ hS2 (fun _ => ?_)
        clear hK K hS
        have hS := hS2
        clear hS2
        clear tt
        try simp only [Act.put, List.setIfInBounds_toArray, List.set_cons_zero, List.set_cons_succ]
        refine wpAnyH_ready (rs := [24]) (by kernel_rfl) (by simp) ?_
        refine AllReadyH.cons (o := { dst := some 71, op := Op.call { callee := Callee.value (Operand.func 29), args := #[Operand.tmp 68, Operand.tmp 70], argTypes := #[43, 3] }, type := 39, pos := "law.go:79", after := #[{ on := 21, ground := Ground.data }, { on := 23, ground := Ground.data }, { on := 20, ground := Ground.chain }, { on := 16, ground := Ground.guard }], guard := some (16, false) }) rfl (fun K hK => ?_) AllReadyH.nil
        go_simp
        refine (rofconn_any x k _ live2 total2 oc _ (HB1.out.quiet hS).rf).mono ?_
        rintro e W9 ⟨v4, b4, rfl, r2, tt⟩
        have hS2 := hS.trans tt (by simp)
        have r1 := r1.touch tt (by simp)
        refine hK.out _ _ hS2 (fun _ => ?_)
        clear hK K hS
        have hS := hS2
        clear hS2
        clear tt
        try simp only [Act.put, List.setIfInBounds_toArray, List.set_cons_zero, List.set_cons_succ]
        refine wpAnyH_ready (rs := [25]) (by kernel_rfl) (by simp) ?_
        refine AllReadyH.cons (o := { dst := some 72, op := Op.call { callee := Callee.value (Operand.func 26), args := #[Operand.tmp 67, Operand.tmp 71], argTypes := #[39, 39] }, type := 4, pos := "law.go:79", after := #[{ on := 20, ground := Ground.data }, { on := 24, ground := Ground.data }, { on := 24, ground := Ground.chain }, { on := 16, ground := Ground.guard }], guard := some (16, false) }) rfl (fun K hK => ?_) AllReadyH.nil
        go_simp
        refine (equal_self v3 v4 b3 b4 _ _ HFL.out r1 r2 HFK.out).mono ?_
        rintro e W9 ⟨rfl, tt⟩
        have hS2 := hS.trans tt (by simp)
        clear r1 r2
        refine hK.out _ _ hS2 (fun _ => ?_)
        clear hK K hS
        have hS := hS2
        clear hS2
        clear tt
        try simp only [Act.put, List.setIfInBounds_toArray, List.set_cons_zero, List.set_cons_succ]
        refine wpAnyH_take (i := 26) (oi := { dst := some 73, op := Op.unOp UnOp.not 4 (Operand.tmp 72), type := 4, pos := "law.go:79", after := #[{ on := 25, ground := Ground.data }, { on := 16, ground := Ground.guard }], guard := some (16, false) }) (v := .bool false) rfl (by kernel_rfl) (by kernel_rfl) (by kernel_rfl) (fun _ _ _ h => h) (Or.inl ⟨by rfl, fun w' hw => by go_simp⟩) hS ?_
        try simp only [Act.put, List.setIfInBounds_toArray, List.set_cons_zero, List.set_cons_succ]
        refine wpAnyH_take (i := 27) (oi := { dst := some 74, op := Op.pick (Operand.tmp 63) (Operand.const (Value.bool true)) (Operand.tmp 73), type := 4, pos := "law.go:79", after := #[{ on := 16, ground := Ground.data }, { on := 26, ground := Ground.data }], guard := none }) (v := .bool false) rfl (by kernel_rfl) (by kernel_rfl) (by kernel_rfl) (fun _ _ _ h => h) (Or.inl ⟨by rfl, fun w' hw => by go_simp⟩) hS ?_
        try simp only [Act.put, List.setIfInBounds_toArray, List.set_cons_zero, List.set_cons_succ]
        refine wpAnyH_take (i := 28) (oi := { dst := some 75, op := Op.move (Operand.tmp 74), type := 4, pos := "law.go:79", after := #[{ on := 27, ground := Ground.data }, { on := 25, ground := Ground.chain }], guard := none }) (v := .bool false) rfl (by kernel_rfl) (by kernel_rfl) (by kernel_rfl) (fun _ _ _ h => h) (Or.inl ⟨by rfl, fun w' hw => by go_simp⟩) hS ?_
        try simp only [Act.put, List.setIfInBounds_toArray, List.set_cons_zero, List.set_cons_succ]
        refine wpAnyH_take (i := 29) (oi := { dst := some 76, op := Op.move (Operand.tmp 6), type := 24, pos := "law.go:79", after := #[{ on := 28, ground := Ground.guard }], guard := some (28, false) }) (v := .pointer (some ⟨t, 0, none⟩)) rfl (by kernel_rfl) (by kernel_rfl) (by kernel_rfl) (fun _ _ _ h => h) (Or.inl ⟨by rfl, fun w' hw => by go_simp⟩) hS ?_
        try simp only [Act.put, List.setIfInBounds_toArray, List.set_cons_zero, List.set_cons_succ]
        refine wpAnyH_take (i := 31) (oi := { dst := some 78, op := Op.move (Operand.tmp 8), type := 43, pos := "law.go:79", after := #[{ on := 28, ground := Ground.guard }], guard := some (28, false) }) (v := .pointer (some ⟨x, 0, none⟩)) rfl (by kernel_rfl) (by kernel_rfl) (by kernel_rfl) (fun _ _ _ h => h) (Or.inl ⟨by rfl, fun w' hw => by go_simp⟩) hS ?_
        try simp only [Act.put, List.setIfInBounds_toArray, List.set_cons_zero, List.set_cons_succ]
        refine wpAnyH_take (i := 32) (oi := { dst := some 79, op := Op.nilCheck (Operand.tmp 78), type := 0, pos := "law.go:79", after := #[{ on := 31, ground := Ground.data }, { on := 28, ground := Ground.guard }], guard := some (28, false) }) (v := .pointer (some ⟨x, 0, none⟩)) rfl (by kernel_rfl) (by kernel_rfl) (by kernel_rfl) (fun _ _ _ h => h) (Or.inl ⟨by rfl, fun w' hw => by go_simp⟩) hS ?_
        try simp only [Act.put, List.setIfInBounds_toArray, List.set_cons_zero, List.set_cons_succ]
        refine wpAnyH_take (i := 33) (oi := { dst := some 80, op := Op.fieldAddr 46 (Operand.tmp 79) 1, type := 0, pos := "law.go:79", after := #[{ on := 32, ground := Ground.data }, { on := 28, ground := Ground.guard }], guard := some (28, false) }) (v := .pointer (some ⟨x, 1, none⟩)) rfl (by kernel_rfl) (by kernel_rfl) (by kernel_rfl) (fun _ _ _ h => h) (Or.inl ⟨by rfl, fun w' hw => by go_simp⟩) hS ?_
        try simp only [Act.put, List.setIfInBounds_toArray, List.set_cons_zero, List.set_cons_succ]
        refine wpAnyH_take (i := 34) (oi := { dst := some 81, op := Op.load 44 (Operand.tmp 80), type := 44, pos := "law.go:79", after := #[{ on := 33, ground := Ground.data }, { on := 28, ground := Ground.guard }], guard := some (28, false) }) (v := .slice la live2.length lc) rfl (by kernel_rfl) (by kernel_rfl) (by kernel_rfl) (fun _ _ _ h => h) (Or.inl ⟨by rfl, fun w' hw => by (have q0 := hw.cell x1 (by simp); go_simp)⟩) hS ?_
        try simp only [Act.put, List.setIfInBounds_toArray, List.set_cons_zero, List.set_cons_succ]
        refine wpAnyH_take (i := 35) (oi := { dst := some 82, op := Op.call { callee := Callee.builtin Builtin.len, args := #[Operand.tmp 81], argTypes := #[44] }, type := 3, pos := "law.go:79", after := #[{ on := 34, ground := Ground.data }, { on := 28, ground := Ground.guard }], guard := some (28, false) }) (v := .int .i64 live2.length) rfl (by kernel_rfl) (by kernel_rfl) (by kernel_rfl) (fun _ _ _ h => h) (Or.inl ⟨by rfl, fun w' hw => by go_simp⟩) hS ?_
        try simp only [Act.put, List.setIfInBounds_toArray, List.set_cons_zero, List.set_cons_succ]
        refine wpAnyH_ready (rs := [30]) (by kernel_rfl) (by simp) ?_
        refine AllReadyH.cons (o := { dst := some 77, op := Op.call { callee := Callee.value (Operand.func 20), args := #[Operand.tmp 76], argTypes := #[24] }, type := 3, pos := "law.go:79", after := #[{ on := 29, ground := Ground.data }, { on := 28, ground := Ground.chain }, { on := 28, ground := Ground.guard }], guard := some (28, false) }) rfl (fun K hK => ?_) AllReadyH.nil
        go_simp
        refine (len_any t m u live2 used2 total2 _ (HB1.out.quiet hS).tab).mono ?_
        rintro e W9 ⟨rfl, rfl⟩
        refine hK.out _ _ hS (fun _ => ?_)
        clear hK K
        try simp only [Act.put, List.setIfInBounds_toArray, List.set_cons_zero, List.set_cons_succ]
        refine wpAnyH_take (i := 36) (oi := { dst := some 83, op := Op.binOp BinOp.neq 3 (Operand.tmp 77) (Operand.tmp 82) 3, type := 4, pos := "law.go:79", after := #[{ on := 30, ground := Ground.data }, { on := 35, ground := Ground.data }, { on := 28, ground := Ground.guard }], guard := some (28, false) }) (v := .bool false) rfl (by kernel_rfl) (by kernel_rfl) (by kernel_rfl) (fun _ _ _ h => h) (Or.inl ⟨by rfl, fun w' hw => by go_simp⟩) hS ?_
        try simp only [Act.put, List.setIfInBounds_toArray, List.set_cons_zero, List.set_cons_succ]
        refine wpAnyH_take (i := 37) (oi := { dst := some 84, op := Op.pick (Operand.tmp 75) (Operand.const (Value.bool true)) (Operand.tmp 83), type := 4, pos := "law.go:79", after := #[{ on := 28, ground := Ground.data }, { on := 36, ground := Ground.data }], guard := none }) (v := .bool false) rfl (by kernel_rfl) (by kernel_rfl) (by kernel_rfl) (fun _ _ _ h => h) (Or.inl ⟨by rfl, fun w' hw => by go_simp⟩) hS ?_
        try simp only [Act.put, List.setIfInBounds_toArray, List.set_cons_zero, List.set_cons_succ]
        refine wpAnyH_take (i := 38) (oi := { dst := some 85, op := Op.move (Operand.tmp 84), type := 4, pos := "law.go:79", after := #[{ on := 37, ground := Ground.data }, { on := 30, ground := Ground.chain }], guard := none }) (v := .bool false) rfl (by kernel_rfl) (by kernel_rfl) (by kernel_rfl) (fun _ _ _ h => h) (Or.inl ⟨by rfl, fun w' hw => by go_simp⟩) hS ?_
        try simp only [Act.put, List.setIfInBounds_toArray, List.set_cons_zero, List.set_cons_succ]
        refine wpAnyH_take (i := 39) (oi := { dst := some 86, op := Op.move (Operand.tmp 6), type := 24, pos := "law.go:79", after := #[{ on := 38, ground := Ground.guard }], guard := some (38, false) }) (v := .pointer (some ⟨t, 0, none⟩)) rfl (by kernel_rfl) (by kernel_rfl) (by kernel_rfl) (fun _ _ _ h => h) (Or.inl ⟨by rfl, fun w' hw => by go_simp⟩) hS ?_
        try simp only [Act.put, List.setIfInBounds_toArray, List.set_cons_zero, List.set_cons_succ]
        refine wpAnyH_take (i := 41) (oi := { dst := some 88, op := Op.move (Operand.tmp 5), type := 3, pos := "law.go:79", after := #[{ on := 38, ground := Ground.guard }], guard := some (38, false) }) (v := .int .i64 k) rfl (by kernel_rfl) (by kernel_rfl) (by kernel_rfl) (fun _ _ _ h => h) (Or.inl ⟨by rfl, fun w' hw => by go_simp⟩) hS ?_
        try simp only [Act.put, List.setIfInBounds_toArray, List.set_cons_zero, List.set_cons_succ]
        refine wpAnyH_take (i := 42) (oi := { dst := some 89, op := Op.move (Operand.tmp 8), type := 43, pos := "law.go:79", after := #[{ on := 38, ground := Ground.guard }], guard := some (38, false) }) (v := .pointer (some ⟨x, 0, none⟩)) rfl (by kernel_rfl) (by kernel_rfl) (by kernel_rfl) (fun _ _ _ h => h) (Or.inl ⟨by rfl, fun w' hw => by go_simp⟩) hS ?_
        try simp only [Act.put, List.setIfInBounds_toArray, List.set_cons_zero, List.set_cons_succ]
        refine wpAnyH_take (i := 43) (oi := { dst := some 90, op := Op.nilCheck (Operand.tmp 89), type := 0, pos := "law.go:79", after := #[{ on := 42, ground := Ground.data }, { on := 38, ground := Ground.guard }], guard := some (38, false) }) (v := .pointer (some ⟨x, 0, none⟩)) rfl (by kernel_rfl) (by kernel_rfl) (by kernel_rfl) (fun _ _ _ h => h) (Or.inl ⟨by rfl, fun w' hw => by go_simp⟩) hS ?_
        try simp only [Act.put, List.setIfInBounds_toArray, List.set_cons_zero, List.set_cons_succ]
        refine wpAnyH_take (i := 44) (oi := { dst := some 91, op := Op.fieldAddr 46 (Operand.tmp 90) 1, type := 0, pos := "law.go:79", after := #[{ on := 43, ground := Ground.data }, { on := 38, ground := Ground.guard }], guard := some (38, false) }) (v := .pointer (some ⟨x, 1, none⟩)) rfl (by kernel_rfl) (by kernel_rfl) (by kernel_rfl) (fun _ _ _ h => h) (Or.inl ⟨by rfl, fun w' hw => by go_simp⟩) hS ?_
        try simp only [Act.put, List.setIfInBounds_toArray, List.set_cons_zero, List.set_cons_succ]
        refine wpAnyH_take (i := 45) (oi := { dst := some 92, op := Op.load 44 (Operand.tmp 91), type := 44, pos := "law.go:79", after := #[{ on := 44, ground := Ground.data }, { on := 38, ground := Ground.guard }], guard := some (38, false) }) (v := .slice la live2.length lc) rfl (by kernel_rfl) (by kernel_rfl) (by kernel_rfl) (fun _ _ _ h => h) (Or.inl ⟨by rfl, fun w' hw => by (have q0 := hw.cell x1 (by simp); go_simp)⟩) hS ?_
        try simp only [Act.put, List.setIfInBounds_toArray, List.set_cons_zero, List.set_cons_succ]
        refine wpAnyH_take (i := 46) (oi := { dst := some 93, op := Op.call { callee := Callee.builtin Builtin.len, args := #[Operand.tmp 92], argTypes := #[44] }, type := 3, pos := "law.go:79", after := #[{ on := 45, ground := Ground.data }, { on := 38, ground := Ground.guard }], guard := some (38, false) }) (v := .int .i64 live2.length) rfl (by kernel_rfl) (by kernel_rfl) (by kernel_rfl) (fun _ _ _ h => h) (Or.inl ⟨by rfl, fun w' hw => by go_simp⟩) hS ?_
        try simp only [Act.put, List.setIfInBounds_toArray, List.set_cons_zero, List.set_cons_succ]
        refine wpAnyH_take (i := 47) (oi := { dst := some 94, op := Op.binOp BinOp.sub 3 (Operand.tmp 88) (Operand.tmp 93) 3, type := 3, pos := "law.go:79", after := #[{ on := 41, ground := Ground.data }, { on := 46, ground := Ground.data }, { on := 38, ground := Ground.guard }], guard := some (38, false) }) (v := .int .i64 ((k : Int) - (live2.length : Int))) rfl (by kernel_rfl) (by kernel_rfl) (by kernel_rfl) (fun _ _ _ h => h) (Or.inl ⟨by rfl, fun w' hw => by (go_simp <;> (rw [IntKind.wrap_i64]; omega))⟩) hS ?_
        try simp only [Act.put, List.setIfInBounds_toArray, List.set_cons_zero, List.set_cons_succ]
        refine wpAnyH_ready (rs := [40]) (by kernel_rfl) (by simp) ?_
        refine AllReadyH.cons (o := { dst := some 87, op := Op.call { callee := Callee.value (Operand.func 19), args := #[Operand.tmp 86], argTypes := #[24] }, type := 3, pos := "law.go:79", after := #[{ on := 39, ground := Ground.data }, { on := 38, ground := Ground.chain }, { on := 38, ground := Ground.guard }], guard := some (38, false) }) rfl (fun K hK => ?_) AllReadyH.nil
        go_simp
        refine (free_any t m u live2 used2 total2 _ (HB1.out.quiet hS).tab).mono ?_
        rintro e W9 ⟨he, tt⟩
        have hS2 := hS.trans tt (by simp)
        obtain rfl : e = .returned (.int .i64 ((k : Int) - (live2.length : Int))) := by rw [he, HUL.out]
        refine hK.out _ _ hS2 (fun _ => ?_)
        clear hK K hS
        have hS := hS2
        clear hS2
        clear tt
        try simp only [Act.put, List.setIfInBounds_toArray, List.set_cons_zero, List.set_cons_succ]
        refine wpAnyH_take (i := 48) (oi := { dst := some 95, op := Op.binOp BinOp.neq 3 (Operand.tmp 87) (Operand.tmp 94) 3, type := 4, pos := "law.go:79", after := #[{ on := 40, ground := Ground.data }, { on := 47, ground := Ground.data }, { on := 38, ground := Ground.guard }], guard := some (38, false) }) (v := .bool false) rfl (by kernel_rfl) (by kernel_rfl) (by kernel_rfl) (fun _ _ _ h => h) (Or.inl ⟨by rfl, fun w' hw => by go_simp⟩) hS ?_
        try simp only [Act.put, List.setIfInBounds_toArray, List.set_cons_zero, List.set_cons_succ]
        refine wpAnyH_take (i := 49) (oi := { dst := some 96, op := Op.pick (Operand.tmp 85) (Operand.const (Value.bool true)) (Operand.tmp 95), type := 4, pos := "law.go:79", after := #[{ on := 38, ground := Ground.data }, { on := 48, ground := Ground.data }], guard := none }) (v := .bool false) rfl (by kernel_rfl) (by kernel_rfl) (by kernel_rfl) (fun _ _ _ h => h) (Or.inl ⟨by rfl, fun w' hw => by go_simp⟩) hS ?_
        try simp only [Act.put, List.setIfInBounds_toArray, List.set_cons_zero, List.set_cons_succ]
        refine wpAnyH_take (i := 50) (oi := { dst := some 97, op := Op.move (Operand.tmp 96), type := 4, pos := "law.go:79", after := #[{ on := 49, ground := Ground.data }, { on := 40, ground := Ground.chain }], guard := none }) (v := .bool false) rfl (by kernel_rfl) (by kernel_rfl) (by kernel_rfl) (fun _ _ _ h => h) (Or.inl ⟨by rfl, fun w' hw => by go_simp⟩) hS ?_
        try simp only [Act.put, List.setIfInBounds_toArray, List.set_cons_zero, List.set_cons_succ]
        refine wpAnyH_take (i := 51) (oi := { dst := some 98, op := Op.move (Operand.tmp 6), type := 24, pos := "law.go:79", after := #[{ on := 50, ground := Ground.guard }], guard := some (50, false) }) (v := .pointer (some ⟨t, 0, none⟩)) rfl (by kernel_rfl) (by kernel_rfl) (by kernel_rfl) (fun _ _ _ h => h) (Or.inl ⟨by rfl, fun w' hw => by go_simp⟩) hS ?_
        try simp only [Act.put, List.setIfInBounds_toArray, List.set_cons_zero, List.set_cons_succ]
        refine wpAnyH_take (i := 53) (oi := { dst := some 100, op := Op.move (Operand.tmp 8), type := 43, pos := "law.go:79", after := #[{ on := 50, ground := Ground.guard }], guard := some (50, false) }) (v := .pointer (some ⟨x, 0, none⟩)) rfl (by kernel_rfl) (by kernel_rfl) (by kernel_rfl) (fun _ _ _ h => h) (Or.inl ⟨by rfl, fun w' hw => by go_simp⟩) hS ?_
        try simp only [Act.put, List.setIfInBounds_toArray, List.set_cons_zero, List.set_cons_succ]
        refine wpAnyH_take (i := 54) (oi := { dst := some 101, op := Op.nilCheck (Operand.tmp 100), type := 0, pos := "law.go:79", after := #[{ on := 53, ground := Ground.data }, { on := 50, ground := Ground.guard }], guard := some (50, false) }) (v := .pointer (some ⟨x, 0, none⟩)) rfl (by kernel_rfl) (by kernel_rfl) (by kernel_rfl) (fun _ _ _ h => h) (Or.inl ⟨by rfl, fun w' hw => by go_simp⟩) hS ?_
        try simp only [Act.put, List.setIfInBounds_toArray, List.set_cons_zero, List.set_cons_succ]
        refine wpAnyH_take (i := 55) (oi := { dst := some 102, op := Op.fieldAddr 46 (Operand.tmp 101) 2, type := 0, pos := "law.go:79", after := #[{ on := 54, ground := Ground.data }, { on := 50, ground := Ground.guard }], guard := some (50, false) }) (v := .pointer (some ⟨x, 2, none⟩)) rfl (by kernel_rfl) (by kernel_rfl) (by kernel_rfl) (fun _ _ _ h => h) (Or.inl ⟨by rfl, fun w' hw => by go_simp⟩) hS ?_
        try simp only [Act.put, List.setIfInBounds_toArray, List.set_cons_zero, List.set_cons_succ]
        refine wpAnyH_take (i := 56) (oi := { dst := some 103, op := Op.load 3 (Operand.tmp 102), type := 3, pos := "law.go:79", after := #[{ on := 55, ground := Ground.data }, { on := 50, ground := Ground.guard }], guard := some (50, false) }) (v := .int .i64 total2) rfl (by kernel_rfl) (by kernel_rfl) (by kernel_rfl) (fun _ _ _ h => h) (Or.inl ⟨by rfl, fun w' hw => by (have q0 := hw.cell x2 (by simp); go_simp)⟩) hS ?_
        try simp only [Act.put, List.setIfInBounds_toArray, List.set_cons_zero, List.set_cons_succ]
        refine wpAnyH_ready (rs := [52]) (by kernel_rfl) (by simp) ?_
        refine AllReadyH.cons (o := { dst := some 99, op := Op.call { callee := Callee.value (Operand.func 21), args := #[Operand.tmp 98], argTypes := #[24] }, type := 3, pos := "law.go:79", after := #[{ on := 51, ground := Ground.data }, { on := 50, ground := Ground.chain }, { on := 50, ground := Ground.guard }], guard := some (50, false) }) rfl (fun K hK => ?_) AllReadyH.nil
        go_simp
        refine (total_any t m u live2 used2 total2 _ (HB1.out.quiet hS).tab).mono ?_
        rintro e W9 ⟨rfl, rfl⟩
        refine hK.out _ _ hS (fun _ => ?_)
        clear hK K
        try simp only [Act.put, List.setIfInBounds_toArray, List.set_cons_zero, List.set_cons_succ]
        refine wpAnyH_take (i := 57) (oi := { dst := some 104, op := Op.binOp BinOp.neq 3 (Operand.tmp 99) (Operand.tmp 103) 3, type := 4, pos := "law.go:79", after := #[{ on := 52, ground := Ground.data }, { on := 56, ground := Ground.data }, { on := 50, ground := Ground.guard }], guard := some (50, false) }) (v := .bool false) rfl (by kernel_rfl) (by kernel_rfl) (by kernel_rfl) (fun _ _ _ h => h) (Or.inl ⟨by rfl, fun w' hw => by go_simp⟩) hS ?_
        try simp only [Act.put, List.setIfInBounds_toArray, List.set_cons_zero, List.set_cons_succ]
        refine wpAnyH_take (i := 58) (oi := { dst := some 105, op := Op.pick (Operand.tmp 97) (Operand.const (Value.bool true)) (Operand.tmp 104), type := 4, pos := "law.go:79", after := #[{ on := 50, ground := Ground.data }, { on := 57, ground := Ground.data }], guard := none }) (v := .bool false) rfl (by kernel_rfl) (by kernel_rfl) (by kernel_rfl) (fun _ _ _ h => h) (Or.inl ⟨by rfl, fun w' hw => by go_simp⟩) hS ?_
        try simp only [Act.put, List.setIfInBounds_toArray, List.set_cons_zero, List.set_cons_succ]
        refine wpAnyH_done (by kernel_rfl) ?_ _
        have HBc := Lib.hid (HB1.out.quiet hS)
        have o0 := hS.cell o0 (by simp)
        have o1 := hS.cell (tf1.out) (by simp)
        clear x0 x1 x2 HB1 hS HSL HSK HFL HFK HBV
        go_wp2_with fail
        refine (find_any x k _ live2 total2 oc oa _ HBc.out.rf hko HBc.out.tab.oks).mono ?_
        rintro e Wf ⟨he, tf⟩
        have HBf := Lib.hid (HBc.out.quiet tf)
        have o0 := tf.cell o0 (by simp)
        have o1 := tf.cell o1 (by simp)
        cases hfa : fdAt live2 (oc, oa) with
        | none =>
          obtain rfl : e = .returned (.int .i64 (-1)) := by rw [he, fdAt_not hfa, if_neg (by omega)]
          have HS := Lib.hid (show stOf live2 (oc, oa) = 0 by simp [stOf, hfa])
          have HNO := Lib.hid (show noOf live2 (oc, oa) = -1 by simp [noOf, hfa])
          clear hfa HBc tf
          go_wp2_with fail
          refine (state_any t m u live2 used2 total2 oc oa _ HBf.out.tab hko).mono ?_
          rintro e Ws ⟨he2, ts⟩
          obtain rfl : e = .returned (.int .i64 0) := by rw [he2, HS.out]
          have HBs := Lib.hid (HBf.out.quiet ts)
          have o0 := ts.cell o0 (by simp)
          have o1 := ts.cell o1 (by simp)
          clear HBf ts
          go_wp2_with fail
          refine (number_any t m u live2 used2 total2 oc oa _ HBs.out.tab hko).mono ?_
          rintro e Wn ⟨he3, tn⟩
          obtain rfl : e = .returned (.int .i64 (-1)) := by rw [he3, HNO.out]
          have HBn := Lib.hid (HBs.out.quiet tn)
          clear HBs tn o0 o1
          go_wp2_with fail
          go_roundw
          case rel => exact ⟨i + 1, _, live2, used2, total2, by omega, by omega, by go_num, HBn.out, by omega, by omega⟩
          case measure => simp [intOf]; omega
        | some f =>
          have hix := fdAt_lt hfa
          obtain rfl : e = .returned (.int .i64 (fdIx live2 (oc, oa))) := by rw [he, if_pos hix]
          have hfx : live2[fdIx live2 (oc, oa)]? = some f := by rw [← fdAt_ix]; exact hfa
          have HS := Lib.hid (show stOf live2 (oc, oa) = f.st by simp [stOf, hfa])
          have HNO := Lib.hid (show noOf live2 (oc, oa) = f.no by simp [noOf, hfa])
          obtain ⟨gl, rfl, _⟩ := hl3 (by omega)
          obtain ⟨y0, y1, y2, y3⟩ := HBf.out.rf.elems hfx
          obtain ⟨x0, x1, x2⟩ := HBf.out.rf.cells
          clear hfa HBc tf hfx y0 y1 x0 x2
          generalize fdIx live2 (oc, oa) = ix at *
          have i0 : (0 : Int) ≤ (ix : Int) := by omega
          go_wp2_with fail
          go_quiet (fail)
          go_wp2_with fail
          have tq := (Touch.refl [] Wf).drews nq
          have HBq := Lib.hid (HBf.out.quiet tq)
          have o0 := tq.cell o0 (by simp)
          have o1 := tq.cell o1 (by simp)
          clear HBf y2 y3 x1
          refine (state_any t m u live2 used2 total2 oc oa _ HBq.out.tab hko).mono ?_
          rintro e Ws ⟨he2, ts⟩
          obtain rfl : e = .returned (.int .i64 f.st) := by rw [he2, HS.out]
          have HBs := Lib.hid (HBq.out.quiet ts)
          have o0 := ts.cell o0 (by simp)
          have o1 := ts.cell o1 (by simp)
          clear HBq ts
          go_wp2_with fail
          refine (number_any t m u live2 used2 total2 oc oa _ HBs.out.tab hko).mono ?_
          rintro e Wn ⟨he3, tn⟩
          obtain rfl : e = .returned (.int .i64 f.no) := by rw [he3, HNO.out]
          have HBn := Lib.hid (HBs.out.quiet tn)
          clear HBs tn o0 o1
          go_wp2_with fail
          go_roundw
          case rel => exact ⟨i + 1, _, live2, used2, total2, by omega, by omega, by go_num, HBn.out, by omega, by omega⟩
          case measure => simp [intOf]; omega
      · obtain rfl : i = 80 := by omega
        go_wp2_with fail
        refine (awake_ok _).mono ?_
        rintro e w2 ⟨rfl, t2⟩
        go_wp2_with fail
        go_ret
        exact ⟨rfl, HB.out.t0.trans t2 (by simp)⟩
    · obtain rfl : i = xs.length := by omega
      go_wp2_with fail
      refine (awake_ok _).mono ?_
      rintro e w2 ⟨rfl, t2⟩
      go_wp2_with fail
      go_ret
      exact ⟨rfl, HB.out.t0.trans t2 (by simp)⟩
namespace fdtableMatchesModel
theorem walk {H : Type} {enc : TypeId × Value → H} {w : World} (n : Int) (hn : (Lit.int .i64 n).wf = true) (v : Value) (hv : IsSlice enc Try.prog w 0 (fun _ => true) true [3, 3, 3, 4] v) :
    Calls Try.prog 7 #[.int .i64 n, v] w fun e w' => e = .returned (.bool true) ∧ Below w.heap.size w w' := by
  obtain ⟨b, xs, hr, hx⟩ := slice_rows (by simp) hv
  exact (walk7 n v b xs w hr (fun x h => isOp_cells (hx x h))).mono fun e w' ⟨h1, h2⟩ => ⟨h1, h2.below (by simp) (Nat.le_refl _)⟩
end fdtableMatchesModel
end Go.Proofs.Ytnglkdpmkgehoaa

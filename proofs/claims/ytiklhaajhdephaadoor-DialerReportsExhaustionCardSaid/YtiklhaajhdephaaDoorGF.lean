/-
  Merged texts: Sz, Sm, Sb, Ss.
-/
import Derived.Test.YtiklhaajhdephaaDoorGE
import Derived.Deep.CutRange
import Derived.Test.YtiklhaajhdephaaDoorGD

/-
  The contract of slices.symMergeCmpFunc at addresses, where the second part has one element.
-/
namespace Go.Proofs.YtiklhaajhdephaaDoor
open Go.RowKit
set_option linter.unusedVariables false
set_option linter.unusedSimpArgs false

theorem slide_back (P A2 R : List TA) (y z : TA) (s k k0 : Nat) (hz : A2[s]? = some z) (hk0 : k0 = P.length + s) (hk : k = k0 + 1) :
    ((P ++ A2.take (s + 1) ++ y :: (A2.drop (s + 1) ++ R)).map Prod.fst)[k]? = some y.1 ∧ ((P ++ A2.take (s + 1) ++ y :: (A2.drop (s + 1) ++ R)).map Prod.fst)[k0]? = some z.1 ∧
      ((((P ++ A2.take (s + 1) ++ y :: (A2.drop (s + 1) ++ R)).map Prod.fst).set k z.1).set k0 y.1) = (P ++ A2.take s ++ y :: (A2.drop s ++ R)).map Prod.fst := by
  have ht : s < A2.length := by
    rcases Nat.lt_or_ge s A2.length with h | h
    · exact h
    · rw [List.getElem?_eq_none h] at hz; cases hz
  have gz : A2[s] = z := by rw [List.getElem?_eq_getElem ht] at hz; cases hz; rfl
  have d : A2.drop s = z :: A2.drop (s + 1) := by rw [List.drop_eq_getElem_cons ht, gz]
  have e : A2.take (s + 1) = A2.take s ++ [z] := by rw [List.take_succ_eq_append_getElem ht, gz]
  have l : k0 = ((P ++ A2.take s).map Prod.fst).length := by simp; omega
  have e0 : (P ++ A2.take (s + 1) ++ y :: (A2.drop (s + 1) ++ R)).map Prod.fst = (P ++ A2.take s).map Prod.fst ++ z.1 :: ([] ++ y.1 :: (A2.drop (s + 1) ++ R).map Prod.fst) := by rw [e]; simp
  refine ⟨?_, ?_, ?_⟩
  · rw [e0, hk, l, List.getElem?_append_right (by omega), Nat.add_sub_cancel_left]; simp
  · rw [e0, l]; simp
  · rw [e0, set_swap' _ _ _ _ _ _ _ l (by rw [hk, l]; simp), d]; simp
set_option maxRecDepth 100000 in
set_option maxHeartbeats 4000000 in
theorem sym_right (g n c : Nat) (y : TA) (P A S : List TA) (a m b : Nat) (ha : a = P.length) (hm : m = a + A.length) (hb : b = m + 1) (hA : Srt Ad.less A) (hA0 : 1 < A.length) (ht : TagLt A [y]) (hW : Weak Ad.less) (hn : n ≤ 1000000000) (w : World) (hrow : RowT w g n c (P ++ A ++ [y] ++ S)) :
    Calls Tryd.prog 92 #[.slice (some ⟨g, 0, none⟩) n c, .int .i64 a, .int .i64 m, .int .i64 b, .func (.func 56) #[] #[]] w fun e w' => e = .returned (.tuple #[]) ∧ MergedT w' g n c P (A ++ [y]) S ∧ Touch [g] w w' := by
  obtain ⟨L, hL⟩ : ∃ L, L = (P ++ A ++ [y] ++ S).map Prod.fst := ⟨_, rfl⟩
  have hrow : RowL w g n c L := by rw [hL]; exact hrow
  have hlen : L.length = n := hrow.1
  have hbn : b ≤ n := by rw [← hlen, hL]; simp; omega
  have hLm : L[m]? = some y.1 := by
    rw [hL, List.getElem?_map, show P ++ A ++ [y] ++ S = (P ++ A) ++ (y :: S) by simp, List.getElem?_append_right (by simp; omega), show m - (P ++ A).length = 0 by simp; omega]
    simp
  have HLM := Lib.hid hLm
  have HLA := Lib.hid (show ∀ h, h < A.length → L[a + h]? = (A[h]?).map Prod.fst from fun h hh => by
    rw [hL, List.getElem?_map, show P ++ A ++ [y] ++ S = P ++ (A ++ ([y] ++ S)) by simp, List.getElem?_append_right (by omega), show a + h - P.length = h by omega, List.getElem?_append_left hh])
  have HL := Lib.hid hL
  have HB := Lib.hid hb
  have HA := Lib.hid ha
  have HM := Lib.hid hm
  have HSA := Lib.hid hA
  have HTG := Lib.hid ht
  have HR0 := Lib.hid hrow
  obtain ⟨d, hd⟩ : ∃ d : Nat, d = A.length := ⟨_, rfl⟩
  have hwma : IntKind.i64.wrap ((m : Int) - (a : Int)) = (d : Int) := by rw [IntKind.wrap_i64] <;> omega
  have hd1 : ((d : Int) == 1) = false := by simp only [beq_eq_false_iff_ne, ne_eq]; omega
  have hwbm : IntKind.i64.wrap ((b : Int) - (m : Int)) = 1 := by rw [IntKind.wrap_i64] <;> omega
  have ham : a ≤ m := by omega
  have hmn : m < n := by omega
  have HLEN := Lib.hid hlen
  clear hL hb ha hm hA ht hrow hLm hlen hA0 hd
  go_enter Tryd.func92, Tryd.ntmps92
  go_wp2_with fail
  clear hwma hd1 hwbm
  go_loopw [14, 15] (fun vi vj wr => ∃ i j : Nat, a ≤ i ∧ i ≤ j ∧ j ≤ m ∧ vi = .int .i64 i ∧ vj = .int .i64 j ∧ (∀ z, a < i → L[i - 1]? = some z → y.1.less z = false) ∧ (∀ z, j < m → L[j]? = some z → y.1.less z = true) ∧ RowL wr g n c L ∧ Touch [g] w wr) (fun vi vj _ => (intOf vj).toNat - (intOf vi).toNat)
  case atStart => exact ⟨a, m, by omega, by omega, by omega, rfl, rfl, fun _ h => by omega, fun _ h => by omega, HR0.out, Touch.refl _ _⟩
  case round =>
    obtain ⟨i, j, hai, hij, hjm, rfl, rfl, hi1, hj1, hrow, ht⟩ := hrel
    have HT := Lib.hid ht
    have HROW := Lib.hid hrow
    have HI1 := Lib.hid hi1
    have HJ1 := Lib.hid hj1
    clear ht hrow hi1 hj1 HR0
    by_cases hlt : i < j
    · obtain ⟨h, hh⟩ : ∃ h : Nat, h = (i + j) / 2 := ⟨_, rfl⟩
      have hh0 : i ≤ h ∧ h < j := by omega
      have hwij : IntKind.i64.wrap ((i : Int) + (j : Int)) = (i : Int) + (j : Int) := by rw [IntKind.wrap_i64] <;> omega
      have hwh : ((i : Int) + (j : Int)) / 2 = (h : Int) := by omega
      have hwh1 : IntKind.i64.wrap ((h : Int) + 1) = (h : Int) + 1 := by rw [IntKind.wrap_i64] <;> omega
      have hhn : (h : Int) < (n : Int) := by omega
      have hmn2 : (m : Int) < (n : Int) := by omega
      obtain ⟨z, hz⟩ : ∃ z, L[h]? = some z := ⟨_, List.getElem?_eq_getElem (by rw [HLEN.out]; omega)⟩
      have HZ := Lib.hid hz
      have HCO := Lib.hid (comp_ad y.1 z)
      have hle := y.1.less_eq z
      have HLY := Lib.hid y.1.len
      have HLZ := Lib.hid z.len
      generalize y.1.comp z = cv at *
      have HHH := Lib.hid hh0
      clear hh hz hh0
      by_cases hls : cv < 0
      · have HLESS := Lib.hid (show y.1.less z = true by rw [hle]; simpa using hls)
        clear hle
        go_wp2_with fail
        refine wp_region_held (S := Touch [] wr.drew) (by kernel_rfl) ?_
        change wpAnyH _ _ _ _ _ _ _ _ wr.drew
        have rh : wr.drew.rangeAt g (h * 17) z.cells := HROW.out.at HZ.out
        have rm : wr.drew.rangeAt g (m * 17) y.1.cells := HROW.out.at HLM.out
        have HTd := Lib.hid (HT.out.drew)
        have HROWd := Lib.hid (HROW.out.drew)
        clear HT HROW
        generalize wr.drew = W at *
        have hS := Touch.refl [] W
        refine wpAnyH_take (i := 0) (oi := { dst := some 92, op := Op.move (Operand.tmp 4), type := 84, pos := "zsortanyfunc.go:414", after := #[], guard := none }) (v := .func (.func 56) #[] #[]) rfl (by kernel_rfl) (by kernel_rfl) (by kernel_rfl) (fun _ _ _ h => h) (Or.inl ⟨by rfl, fun w' hw => by go_simp⟩) hS ?_
        try simp only [Act.put, List.setIfInBounds_toArray, List.set_cons_zero, List.set_cons_succ]
        refine wpAnyH_take (i := 1) (oi := { dst := some 93, op := Op.move (Operand.tmp 0), type := 22, pos := "zsortanyfunc.go:414", after := #[], guard := none }) (v := .slice (some ⟨g, 0, none⟩) n c) rfl (by kernel_rfl) (by kernel_rfl) (by kernel_rfl) (fun _ _ _ h => h) (Or.inl ⟨by rfl, fun w' hw => by go_simp⟩) hS ?_
        try simp only [Act.put, List.setIfInBounds_toArray, List.set_cons_zero, List.set_cons_succ]
        refine wpAnyH_take (i := 2) (oi := { dst := some 94, op := Op.move (Operand.tmp 2), type := 3, pos := "zsortanyfunc.go:414", after := #[], guard := none }) (v := .int .i64 (m : Nat)) rfl (by kernel_rfl) (by kernel_rfl) (by kernel_rfl) (fun _ _ _ h => h) (Or.inl ⟨by rfl, fun w' hw => by go_simp⟩) hS ?_
        try simp only [Act.put, List.setIfInBounds_toArray, List.set_cons_zero, List.set_cons_succ]
        refine wpAnyH_take (i := 3) (oi := { dst := some 95, op := Op.indexAddr 22 (Operand.tmp 93) (Operand.tmp 94), type := 0, pos := "zsortanyfunc.go:414", after := #[{ on := 1, ground := Ground.data }, { on := 2, ground := Ground.data }], guard := none }) (v := .pointer (some ⟨g, m * 17, none⟩)) rfl (by kernel_rfl) (by kernel_rfl) (by kernel_rfl) (fun _ _ _ h => h) (Or.inl ⟨by rfl, fun w' hw => by go_simp⟩) hS ?_
        try simp only [Act.put, List.setIfInBounds_toArray, List.set_cons_zero, List.set_cons_succ]
        refine wpAnyH_take (i := 4) (oi := { dst := some 96, op := Op.load 28 (Operand.tmp 95), type := 28, pos := "zsortanyfunc.go:414", after := #[{ on := 3, ground := Ground.data }], guard := none }) (v := .agg y.1.cells.toArray) rfl (by kernel_rfl) (by kernel_rfl) (by kernel_rfl) (fun _ _ _ h => h) (Or.inl ⟨by rfl, fun w' hw => exec_load_agg _ 28 _ rfl _ _ rfl y.1.cells _ (hw.range rm (by simp)) Tryd.underlying28 rfl (by rw [size31, HLY.out])⟩) hS ?_
        try simp only [Act.put, List.setIfInBounds_toArray, List.set_cons_zero, List.set_cons_succ]
        refine wpAnyH_take (i := 5) (oi := { dst := some 97, op := Op.move (Operand.tmp 0), type := 22, pos := "zsortanyfunc.go:414", after := #[], guard := none }) (v := .slice (some ⟨g, 0, none⟩) n c) rfl (by kernel_rfl) (by kernel_rfl) (by kernel_rfl) (fun _ _ _ h => h) (Or.inl ⟨by rfl, fun w' hw => by go_simp⟩) hS ?_
        try simp only [Act.put, List.setIfInBounds_toArray, List.set_cons_zero, List.set_cons_succ]
        refine wpAnyH_take (i := 6) (oi := { dst := some 98, op := Op.move (Operand.tmp 16), type := 3, pos := "zsortanyfunc.go:414", after := #[], guard := none }) (v := .int .i64 (h : Nat)) rfl (by kernel_rfl) (by kernel_rfl) (by kernel_rfl) (fun _ _ _ h => h) (Or.inl ⟨by rfl, fun w' hw => by go_simp⟩) hS ?_
        try simp only [Act.put, List.setIfInBounds_toArray, List.set_cons_zero, List.set_cons_succ]
        refine wpAnyH_take (i := 7) (oi := { dst := some 99, op := Op.indexAddr 22 (Operand.tmp 97) (Operand.tmp 98), type := 0, pos := "zsortanyfunc.go:414", after := #[{ on := 5, ground := Ground.data }, { on := 6, ground := Ground.data }], guard := none }) (v := .pointer (some ⟨g, h * 17, none⟩)) rfl (by kernel_rfl) (by kernel_rfl) (by kernel_rfl) (fun _ _ _ h => h) (Or.inl ⟨by rfl, fun w' hw => by go_simp⟩) hS ?_
        try simp only [Act.put, List.setIfInBounds_toArray, List.set_cons_zero, List.set_cons_succ]
        refine wpAnyH_take (i := 8) (oi := { dst := some 100, op := Op.load 28 (Operand.tmp 99), type := 28, pos := "zsortanyfunc.go:414", after := #[{ on := 7, ground := Ground.data }], guard := none }) (v := .agg z.cells.toArray) rfl (by kernel_rfl) (by kernel_rfl) (by kernel_rfl) (fun _ _ _ h => h) (Or.inl ⟨by rfl, fun w' hw => exec_load_agg _ 28 _ rfl _ _ rfl z.cells _ (hw.range rh (by simp)) Tryd.underlying28 rfl (by rw [size31, HLZ.out])⟩) hS ?_
        try simp only [Act.put, List.setIfInBounds_toArray, List.set_cons_zero, List.set_cons_succ]
        refine wpAnyH_ready (rs := [9]) (by kernel_rfl) (by simp) ?_
        refine AllReadyH.cons (o := { dst := some 101, op := Op.call { callee := Callee.value (Operand.tmp 92), args := #[Operand.tmp 96, Operand.tmp 100], argTypes := #[28, 28] }, type := 3, pos := "zsortanyfunc.go:414", after := #[{ on := 0, ground := Ground.data }, { on := 4, ground := Ground.data }, { on := 8, ground := Ground.data }], guard := none }) rfl (fun K hK => ?_) AllReadyH.nil
        go_simp
        refine (HCO.out _).mono ?_
        rintro e w9 ⟨rfl, t9⟩
        have hS2 := hS.trans t9 (by simp)
        refine hK.out _ _ hS2 (fun _ => ?_)
        clear hK K hS t9
        have hS := hS2
        clear hS2
        try simp only [Act.put, List.setIfInBounds_toArray, List.set_cons_zero, List.set_cons_succ]
        refine wpAnyH_take (i := 10) (oi := { dst := some 102, op := Op.binOp BinOp.lss 3 (Operand.tmp 101) (Operand.const (Value.int IntKind.i64 0)) 3, type := 4, pos := "zsortanyfunc.go:414", after := #[{ on := 9, ground := Ground.data }], guard := none }) (v := .bool true) rfl (by kernel_rfl) (by kernel_rfl) (by kernel_rfl) (fun _ _ _ h => h) (Or.inl ⟨by rfl, fun w' hw => by (have q := hls; go_simp)⟩) hS ?_
        try simp only [Act.put, List.setIfInBounds_toArray, List.set_cons_zero, List.set_cons_succ]
        refine wpAnyH_take (i := 11) (oi := { dst := some 103, op := Op.unOp UnOp.not 4 (Operand.tmp 102), type := 4, pos := "zsortanyfunc.go:414", after := #[{ on := 10, ground := Ground.data }], guard := none }) (v := .bool false) rfl (by kernel_rfl) (by kernel_rfl) (by kernel_rfl) (fun _ _ _ h => h) (Or.inl ⟨by rfl, fun w' hw => by go_simp⟩) hS ?_
        try simp only [Act.put, List.setIfInBounds_toArray, List.set_cons_zero, List.set_cons_succ]
        refine wpAnyH_done (by kernel_rfl) ?_ _
        try simp only [Act.put, List.setIfInBounds_toArray, List.set_cons_zero, List.set_cons_succ]
        have HT2 := Lib.hid (HTd.out.trans hS (by simp))
        have HR2 := Lib.hid (HROWd.out.touch hS (by simp))
        clear hS HTd HROWd rh rm
        go_wp2_with fail
        go_roundw
        case rel => exact ⟨i, h, hai, by have := HHH.out; omega, by have := HHH.out; omega, rfl, rfl, HI1.out, (by intro u _ hu; rw [HZ.out] at hu; cases hu; exact HLESS.out), HR2.out, HT2.out⟩
        case measure => simp [intOf]; have := HHH.out; omega
      · have HLESS := Lib.hid (show y.1.less z = false by rw [hle]; simpa using hls)
        clear hle
        go_wp2_with fail
        refine wp_region_held (S := Touch [] wr.drew) (by kernel_rfl) ?_
        change wpAnyH _ _ _ _ _ _ _ _ wr.drew
        have rh : wr.drew.rangeAt g (h * 17) z.cells := HROW.out.at HZ.out
        have rm : wr.drew.rangeAt g (m * 17) y.1.cells := HROW.out.at HLM.out
        have HTd := Lib.hid (HT.out.drew)
        have HROWd := Lib.hid (HROW.out.drew)
        clear HT HROW
        generalize wr.drew = W at *
        have hS := Touch.refl [] W
        refine wpAnyH_take (i := 0) (oi := { dst := some 92, op := Op.move (Operand.tmp 4), type := 84, pos := "zsortanyfunc.go:414", after := #[], guard := none }) (v := .func (.func 56) #[] #[]) rfl (by kernel_rfl) (by kernel_rfl) (by kernel_rfl) (fun _ _ _ h => h) (Or.inl ⟨by rfl, fun w' hw => by go_simp⟩) hS ?_
        try simp only [Act.put, List.setIfInBounds_toArray, List.set_cons_zero, List.set_cons_succ]
        refine wpAnyH_take (i := 1) (oi := { dst := some 93, op := Op.move (Operand.tmp 0), type := 22, pos := "zsortanyfunc.go:414", after := #[], guard := none }) (v := .slice (some ⟨g, 0, none⟩) n c) rfl (by kernel_rfl) (by kernel_rfl) (by kernel_rfl) (fun _ _ _ h => h) (Or.inl ⟨by rfl, fun w' hw => by go_simp⟩) hS ?_
        try simp only [Act.put, List.setIfInBounds_toArray, List.set_cons_zero, List.set_cons_succ]
        refine wpAnyH_take (i := 2) (oi := { dst := some 94, op := Op.move (Operand.tmp 2), type := 3, pos := "zsortanyfunc.go:414", after := #[], guard := none }) (v := .int .i64 (m : Nat)) rfl (by kernel_rfl) (by kernel_rfl) (by kernel_rfl) (fun _ _ _ h => h) (Or.inl ⟨by rfl, fun w' hw => by go_simp⟩) hS ?_
        try simp only [Act.put, List.setIfInBounds_toArray, List.set_cons_zero, List.set_cons_succ]
        refine wpAnyH_take (i := 3) (oi := { dst := some 95, op := Op.indexAddr 22 (Operand.tmp 93) (Operand.tmp 94), type := 0, pos := "zsortanyfunc.go:414", after := #[{ on := 1, ground := Ground.data }, { on := 2, ground := Ground.data }], guard := none }) (v := .pointer (some ⟨g, m * 17, none⟩)) rfl (by kernel_rfl) (by kernel_rfl) (by kernel_rfl) (fun _ _ _ h => h) (Or.inl ⟨by rfl, fun w' hw => by go_simp⟩) hS ?_
        try simp only [Act.put, List.setIfInBounds_toArray, List.set_cons_zero, List.set_cons_succ]
        refine wpAnyH_take (i := 4) (oi := { dst := some 96, op := Op.load 28 (Operand.tmp 95), type := 28, pos := "zsortanyfunc.go:414", after := #[{ on := 3, ground := Ground.data }], guard := none }) (v := .agg y.1.cells.toArray) rfl (by kernel_rfl) (by kernel_rfl) (by kernel_rfl) (fun _ _ _ h => h) (Or.inl ⟨by rfl, fun w' hw => exec_load_agg _ 28 _ rfl _ _ rfl y.1.cells _ (hw.range rm (by simp)) Tryd.underlying28 rfl (by rw [size31, HLY.out])⟩) hS ?_
        try simp only [Act.put, List.setIfInBounds_toArray, List.set_cons_zero, List.set_cons_succ]
        refine wpAnyH_take (i := 5) (oi := { dst := some 97, op := Op.move (Operand.tmp 0), type := 22, pos := "zsortanyfunc.go:414", after := #[], guard := none }) (v := .slice (some ⟨g, 0, none⟩) n c) rfl (by kernel_rfl) (by kernel_rfl) (by kernel_rfl) (fun _ _ _ h => h) (Or.inl ⟨by rfl, fun w' hw => by go_simp⟩) hS ?_
        try simp only [Act.put, List.setIfInBounds_toArray, List.set_cons_zero, List.set_cons_succ]
        refine wpAnyH_take (i := 6) (oi := { dst := some 98, op := Op.move (Operand.tmp 16), type := 3, pos := "zsortanyfunc.go:414", after := #[], guard := none }) (v := .int .i64 (h : Nat)) rfl (by kernel_rfl) (by kernel_rfl) (by kernel_rfl) (fun _ _ _ h => h) (Or.inl ⟨by rfl, fun w' hw => by go_simp⟩) hS ?_
        try simp only [Act.put, List.setIfInBounds_toArray, List.set_cons_zero, List.set_cons_succ]
        refine wpAnyH_take (i := 7) (oi := { dst := some 99, op := Op.indexAddr 22 (Operand.tmp 97) (Operand.tmp 98), type := 0, pos := "zsortanyfunc.go:414", after := #[{ on := 5, ground := Ground.data }, { on := 6, ground := Ground.data }], guard := none }) (v := .pointer (some ⟨g, h * 17, none⟩)) rfl (by kernel_rfl) (by kernel_rfl) (by kernel_rfl) (fun _ _ _ h => h) (Or.inl ⟨by rfl, fun w' hw => by go_simp⟩) hS ?_
        try simp only [Act.put, List.setIfInBounds_toArray, List.set_cons_zero, List.set_cons_succ]
        refine wpAnyH_take (i := 8) (oi := { dst := some 100, op := Op.load 28 (Operand.tmp 99), type := 28, pos := "zsortanyfunc.go:414", after := #[{ on := 7, ground := Ground.data }], guard := none }) (v := .agg z.cells.toArray) rfl (by kernel_rfl) (by kernel_rfl) (by kernel_rfl) (fun _ _ _ h => h) (Or.inl ⟨by rfl, fun w' hw => exec_load_agg _ 28 _ rfl _ _ rfl z.cells _ (hw.range rh (by simp)) Tryd.underlying28 rfl (by rw [size31, HLZ.out])⟩) hS ?_
        try simp only [Act.put, List.setIfInBounds_toArray, List.set_cons_zero, List.set_cons_succ]
        refine wpAnyH_ready (rs := [9]) (by kernel_rfl) (by simp) ?_
        refine AllReadyH.cons (o := { dst := some 101, op := Op.call { callee := Callee.value (Operand.tmp 92), args := #[Operand.tmp 96, Operand.tmp 100], argTypes := #[28, 28] }, type := 3, pos := "zsortanyfunc.go:414", after := #[{ on := 0, ground := Ground.data }, { on := 4, ground := Ground.data }, { on := 8, ground := Ground.data }], guard := none }) rfl (fun K hK => ?_) AllReadyH.nil
        go_simp
        refine (HCO.out _).mono ?_
        rintro e w9 ⟨rfl, t9⟩
        have hS2 := hS.trans t9 (by simp)
        refine hK.out _ _ hS2 (fun _ => ?_)
        clear hK K hS t9
        have hS := hS2
        clear hS2
        try simp only [Act.put, List.setIfInBounds_toArray, List.set_cons_zero, List.set_cons_succ]
        refine wpAnyH_take (i := 10) (oi := { dst := some 102, op := Op.binOp BinOp.lss 3 (Operand.tmp 101) (Operand.const (Value.int IntKind.i64 0)) 3, type := 4, pos := "zsortanyfunc.go:414", after := #[{ on := 9, ground := Ground.data }], guard := none }) (v := .bool false) rfl (by kernel_rfl) (by kernel_rfl) (by kernel_rfl) (fun _ _ _ h => h) (Or.inl ⟨by rfl, fun w' hw => by (have q := hls; go_simp)⟩) hS ?_
        try simp only [Act.put, List.setIfInBounds_toArray, List.set_cons_zero, List.set_cons_succ]
        refine wpAnyH_take (i := 11) (oi := { dst := some 103, op := Op.unOp UnOp.not 4 (Operand.tmp 102), type := 4, pos := "zsortanyfunc.go:414", after := #[{ on := 10, ground := Ground.data }], guard := none }) (v := .bool true) rfl (by kernel_rfl) (by kernel_rfl) (by kernel_rfl) (fun _ _ _ h => h) (Or.inl ⟨by rfl, fun w' hw => by go_simp⟩) hS ?_
        try simp only [Act.put, List.setIfInBounds_toArray, List.set_cons_zero, List.set_cons_succ]
        refine wpAnyH_done (by kernel_rfl) ?_ _
        try simp only [Act.put, List.setIfInBounds_toArray, List.set_cons_zero, List.set_cons_succ]
        have HT2 := Lib.hid (HTd.out.trans hS (by simp))
        have HR2 := Lib.hid (HROWd.out.touch hS (by simp))
        clear hS HTd HROWd rh rm
        go_wp2_with fail
        go_roundw
        case rel => exact ⟨h + 1, j, by have := HHH.out; omega, by have := HHH.out; omega, hjm, by go_num, rfl, (by intro u _ hu; rw [Nat.add_sub_cancel, HZ.out] at hu; cases hu; exact HLESS.out), HJ1.out, HR2.out, HT2.out⟩
        case measure => simp [intOf]; have := HHH.out; omega
    · have hij2 : i = j := by omega
      subst hij2
      obtain ⟨q, hq⟩ : ∃ q : Nat, i = a + q := ⟨i - a, by omega⟩
      have hqb : q ≤ A.length := by have := HM.out; omega
      have hAs : A.take q ++ A.drop q = A := List.take_append_drop _ _
      have h1 : ∀ x, (A.take q).getLast? = some x → y.1.less x.1 = false := by
        intro x hx
        rw [List.getLast?_eq_getElem?, List.length_take, Nat.min_eq_left hqb] at hx
        have hq0 : 0 < q := by
          rcases Nat.eq_zero_or_pos q with e | e
          · subst e; simp at hx
          · exact e
        rw [List.getElem?_take, if_pos (by omega)] at hx
        refine HI1.out x.1 (by omega) ?_
        rw [show i - 1 = a + (q - 1) by omega, HLA.out (q - 1) (by omega), hx]
        rfl
      have h2 : ∀ x, (A.drop q).head? = some x → y.1.less x.1 = true := by
        intro x hx
        rw [List.head?_drop] at hx
        have hlt : q < A.length := by
          rcases Nat.lt_or_ge q A.length with e | e
          · exact e
          · rw [List.getElem?_eq_none e] at hx; cases hx
        refine HJ1.out x.1 (by have := HM.out; omega) ?_
        rw [hq, HLA.out q hlt, hx]
        rfl
      have HONE := Lib.hid (sym_one_right hW (y := y) (A1 := A.take q) (A2 := A.drop q) (by rw [hAs]; exact HSA.out) (by rw [hAs]; exact HTG.out) h1 h2)
      have HQ := Lib.hid (show (A.take q).length = q by rw [List.length_take]; omega)
      obtain ⟨r, hr⟩ : ∃ r : Nat, r = (A.drop q).length := ⟨_, rfl⟩
      have hir : m = i + r := by rw [hr, List.length_drop]; have := HM.out; omega
      have HR := Lib.hid hr.symm
      have HAS := Lib.hid hAs
      generalize A.take q = A1 at *
      generalize A.drop q = A2 at *
      have HI := Lib.hid hir
      have HP1 := Lib.hid (show (P ++ A1).length = i by rw [List.length_append, HQ.out, ← HA.out]; omega)
      have HR1 := Lib.hid (show RowL wr g n c (((P ++ A1) ++ A2.take r ++ y :: (A2.drop r ++ S)).map Prod.fst) by
        have h := HROW.out
        rw [HL.out, ← HAS.out] at h
        rw [List.take_of_length_le (by rw [HR.out]; omega), List.drop_eq_nil_of_le (by rw [HR.out]; omega)]
        simpa using h)
      clear hAs h1 h2 hq hlt hqb hr hir
      go_wp2_with fail
      go_loopw [17] (fun vk wr2 => ∃ s : Nat, s ≤ r ∧ vk = .int .i64 ((i + s : Nat) : Int) ∧ RowL wr2 g n c (((P ++ A1) ++ A2.take s ++ y :: (A2.drop s ++ S)).map Prod.fst) ∧ Touch [g] w wr2) (fun vk _ => (intOf vk).toNat)
      case atStart => exact ⟨r, by omega, by have := HI.out; simp; omega, HR1.out, HT.out⟩
      case round =>
        obtain ⟨s, hsr, rfl, hrow, ht⟩ := hrel
        have HT2 := Lib.hid ht
        have HROW2 := Lib.hid hrow
        obtain ⟨k, hk⟩ : ∃ k : Nat, k = i + s := ⟨_, rfl⟩
        rw [← hk]
        have HK := Lib.hid hk
        have hkm : k ≤ m := by have := HI.out; omega
        clear ht hrow HT HROW HR1
        by_cases hke : i < k
        · obtain ⟨s0, rfl⟩ : ∃ s0, s = s0 + 1 := ⟨s - 1, by omega⟩
          obtain ⟨z, hz⟩ : ∃ z, A2[s0]? = some z := ⟨_, List.getElem?_eq_getElem (by rw [HR.out]; omega)⟩
          obtain ⟨k0, hk0⟩ : ∃ k0 : Nat, k0 = i + s0 := ⟨_, rfl⟩
          have hkk : k = k0 + 1 := by omega
          have hst := slide_back (P ++ A1) A2 S y z s0 k k0 hz (by rw [HP1.out]; exact hk0) hkk
          have Hk := Lib.hid hst.1
          have Hk0 := Lib.hid hst.2.1
          have HN := Lib.hid hst.2.2
          have hwk0 : IntKind.i64.wrap ((k : Int) - 1) = (k0 : Int) := by rw [IntKind.wrap_i64] <;> omega
          have hkn : (k : Int) < (n : Int) := by omega
          have hk0n : (k0 : Int) < (n : Int) := by omega
          have HkL := Lib.hid (show k < (((P ++ A1) ++ A2.take (s0 + 1) ++ y :: (A2.drop (s0 + 1) ++ S)).map Prod.fst).length by rw [HROW2.out.1]; omega)
          have Hk0L := Lib.hid (show k0 < ((((P ++ A1) ++ A2.take (s0 + 1) ++ y :: (A2.drop (s0 + 1) ++ S)).map Prod.fst).set k z.1).length by rw [List.length_set, HROW2.out.1]; omega)
          have HK0 := Lib.hid hk0
          have HKK := Lib.hid hkk
          clear hst hz hk hk0 hkk
          generalize ((P ++ A1) ++ A2.take (s0 + 1) ++ y :: (A2.drop (s0 + 1) ++ S)).map Prod.fst = L2 at *
          generalize hyv : y.1 = yv at *
          generalize hzv : z.1 = zv at *
          clear hyv hzv
          have HLYV := Lib.hid yv.len
          have HLZV := Lib.hid zv.len
          go_wp2_with fail
          refine wp_region_any (by kernel_rfl) ?_
          change wpAny _ _ _ _ _ _ _ wr.drew
          have rk := HROW2.out.drew.at Hk.out
          have rk0 := HROW2.out.drew.at Hk0.out
          have HROW := Lib.hid HROW2.out.drew
          have HT := Lib.hid HT2.out.drew
          generalize wr.drew = W at *
          refine wpAny_take (i := 0) (oi := { dst := some 113, op := Op.move (Operand.tmp 0), type := 22, pos := "zsortanyfunc.go:422", after := #[], guard := none }) (v := .slice (some ⟨g, 0, none⟩) n c) rfl (by kernel_rfl) (by kernel_rfl) (by kernel_rfl) (fun _ _ _ h => h) (Or.inl ⟨by rfl, fun w' => by go_simp⟩) ?_
          try simp only [Act.put, List.setIfInBounds_toArray, List.set_cons_zero, List.set_cons_succ]
          refine wpAny_take (i := 1) (oi := { dst := some 114, op := Op.move (Operand.tmp 17), type := 3, pos := "zsortanyfunc.go:422", after := #[], guard := none }) (v := .int .i64 (k : Nat)) rfl (by kernel_rfl) (by kernel_rfl) (by kernel_rfl) (fun _ _ _ h => h) (Or.inl ⟨by rfl, fun w' => by go_simp⟩) ?_
          try simp only [Act.put, List.setIfInBounds_toArray, List.set_cons_zero, List.set_cons_succ]
          refine wpAny_take (i := 2) (oi := { dst := some 115, op := Op.move (Operand.tmp 0), type := 22, pos := "zsortanyfunc.go:422", after := #[{ on := 15, ground := Ground.gcOnly Departure.lateStores }], guard := none }) (v := .slice (some ⟨g, 0, none⟩) n c) rfl (by kernel_rfl) (by kernel_rfl) (by kernel_rfl) (fun _ _ _ h => h) (Or.inl ⟨by rfl, fun w' => by go_simp⟩) ?_
          try simp only [Act.put, List.setIfInBounds_toArray, List.set_cons_zero, List.set_cons_succ]
          refine wpAny_take (i := 3) (oi := { dst := some 116, op := Op.move (Operand.tmp 17), type := 3, pos := "zsortanyfunc.go:422", after := #[{ on := 15, ground := Ground.gcOnly Departure.lateStores }], guard := none }) (v := .int .i64 (k : Nat)) rfl (by kernel_rfl) (by kernel_rfl) (by kernel_rfl) (fun _ _ _ h => h) (Or.inl ⟨by rfl, fun w' => by go_simp⟩) ?_
          try simp only [Act.put, List.setIfInBounds_toArray, List.set_cons_zero, List.set_cons_succ]
          refine wpAny_take (i := 4) (oi := { dst := some 117, op := Op.binOp BinOp.sub 3 (Operand.tmp 116) (Operand.const (Value.int IntKind.i64 1)) 3, type := 3, pos := "zsortanyfunc.go:422", after := #[{ on := 3, ground := Ground.data }, { on := 15, ground := Ground.gcOnly Departure.lateStores }], guard := none }) (v := .int .i64 (k0 : Nat)) rfl (by kernel_rfl) (by kernel_rfl) (by kernel_rfl) (fun _ _ _ h => h) (Or.inl ⟨by rfl, fun w' => by go_simp⟩) ?_
          try simp only [Act.put, List.setIfInBounds_toArray, List.set_cons_zero, List.set_cons_succ]
          refine wpAny_take (i := 5) (oi := { dst := some 118, op := Op.move (Operand.tmp 0), type := 22, pos := "zsortanyfunc.go:422", after := #[], guard := none }) (v := .slice (some ⟨g, 0, none⟩) n c) rfl (by kernel_rfl) (by kernel_rfl) (by kernel_rfl) (fun _ _ _ h => h) (Or.inl ⟨by rfl, fun w' => by go_simp⟩) ?_
          try simp only [Act.put, List.setIfInBounds_toArray, List.set_cons_zero, List.set_cons_succ]
          refine wpAny_take (i := 6) (oi := { dst := some 119, op := Op.move (Operand.tmp 17), type := 3, pos := "zsortanyfunc.go:422", after := #[], guard := none }) (v := .int .i64 (k : Nat)) rfl (by kernel_rfl) (by kernel_rfl) (by kernel_rfl) (fun _ _ _ h => h) (Or.inl ⟨by rfl, fun w' => by go_simp⟩) ?_
          try simp only [Act.put, List.setIfInBounds_toArray, List.set_cons_zero, List.set_cons_succ]
          refine wpAny_take (i := 7) (oi := { dst := some 120, op := Op.binOp BinOp.sub 3 (Operand.tmp 119) (Operand.const (Value.int IntKind.i64 1)) 3, type := 3, pos := "zsortanyfunc.go:422", after := #[{ on := 6, ground := Ground.data }], guard := none }) (v := .int .i64 (k0 : Nat)) rfl (by kernel_rfl) (by kernel_rfl) (by kernel_rfl) (fun _ _ _ h => h) (Or.inl ⟨by rfl, fun w' => by go_simp⟩) ?_
          try simp only [Act.put, List.setIfInBounds_toArray, List.set_cons_zero, List.set_cons_succ]
          refine wpAny_take (i := 8) (oi := { dst := some 121, op := Op.indexAddr 22 (Operand.tmp 118) (Operand.tmp 120), type := 0, pos := "zsortanyfunc.go:422", after := #[{ on := 5, ground := Ground.data }, { on := 7, ground := Ground.data }], guard := none }) (v := .pointer (some ⟨g, k0 * 17, none⟩)) rfl (by kernel_rfl) (by kernel_rfl) (by kernel_rfl) (fun _ _ _ h => h) (Or.inl ⟨by rfl, fun w' => by go_simp⟩) ?_
          try simp only [Act.put, List.setIfInBounds_toArray, List.set_cons_zero, List.set_cons_succ]
          refine wpAny_take (i := 10) (oi := { dst := some 123, op := Op.move (Operand.tmp 0), type := 22, pos := "zsortanyfunc.go:422", after := #[], guard := none }) (v := .slice (some ⟨g, 0, none⟩) n c) rfl (by kernel_rfl) (by kernel_rfl) (by kernel_rfl) (fun _ _ _ h => h) (Or.inl ⟨by rfl, fun w' => by go_simp⟩) ?_
          try simp only [Act.put, List.setIfInBounds_toArray, List.set_cons_zero, List.set_cons_succ]
          refine wpAny_take (i := 11) (oi := { dst := some 124, op := Op.move (Operand.tmp 17), type := 3, pos := "zsortanyfunc.go:422", after := #[], guard := none }) (v := .int .i64 (k : Nat)) rfl (by kernel_rfl) (by kernel_rfl) (by kernel_rfl) (fun _ _ _ h => h) (Or.inl ⟨by rfl, fun w' => by go_simp⟩) ?_
          try simp only [Act.put, List.setIfInBounds_toArray, List.set_cons_zero, List.set_cons_succ]
          refine wpAny_take (i := 12) (oi := { dst := some 125, op := Op.indexAddr 22 (Operand.tmp 123) (Operand.tmp 124), type := 0, pos := "zsortanyfunc.go:422", after := #[{ on := 10, ground := Ground.data }, { on := 11, ground := Ground.data }], guard := none }) (v := .pointer (some ⟨g, k * 17, none⟩)) rfl (by kernel_rfl) (by kernel_rfl) (by kernel_rfl) (fun _ _ _ h => h) (Or.inl ⟨by rfl, fun w' => by go_simp⟩) ?_
          try simp only [Act.put, List.setIfInBounds_toArray, List.set_cons_zero, List.set_cons_succ]
          refine wpAny_ready (rs := [9, 13]) (by kernel_rfl) (by simp) ?_
          refine AllReady.cons (o := { dst := some 122, op := Op.load 28 (Operand.tmp 121), type := 28, pos := "zsortanyfunc.go:422", after := #[{ on := 8, ground := Ground.data }], guard := none }) rfl (fun K hK0 => ?_) (AllReady.cons (o := { dst := some 126, op := Op.load 28 (Operand.tmp 125), type := 28, pos := "zsortanyfunc.go:422", after := #[{ on := 12, ground := Ground.data }], guard := none }) rfl (fun K hK0 => ?_) AllReady.nil)
          · have hK := Lib.hid hK0
            clear hK0
            refine step_of_list rfl ?_
            refine wpList_load_mid rfl 28 _ rfl g (k0 * 17) rfl zv.cells _ rk0 Tryd.underlying28 rfl (by rw [size31, HLZV.out]) ?_
            refine ⟨rfl, hK.out _ _ ?_⟩
            clear hK K
            try simp only [Act.put, List.setIfInBounds_toArray, List.set_cons_zero, List.set_cons_succ]
            refine wpAny_ready (rs := [13]) (by kernel_rfl) (by simp) ?_
            refine AllReady.cons (o := { dst := some 126, op := Op.load 28 (Operand.tmp 125), type := 28, pos := "zsortanyfunc.go:422", after := #[{ on := 12, ground := Ground.data }], guard := none }) rfl (fun K hK0 => ?_) AllReady.nil
            have hK := Lib.hid hK0
            clear hK0
            refine step_of_list rfl ?_
            refine wpList_load_mid rfl 28 _ rfl g (k * 17) rfl yv.cells _ rk Tryd.underlying28 rfl (by rw [size31, HLYV.out]) ?_
            refine ⟨rfl, hK.out _ _ ?_⟩
            clear hK K
            try simp only [Act.put, List.setIfInBounds_toArray, List.set_cons_zero, List.set_cons_succ]
            refine wpAny_take (i := 14) (oi := { dst := some 127, op := Op.indexAddr 22 (Operand.tmp 113) (Operand.tmp 114), type := 0, pos := "zsortanyfunc.go:422", after := #[{ on := 0, ground := Ground.data }, { on := 1, ground := Ground.data }, { on := 0, ground := Ground.phase }, { on := 1, ground := Ground.phase }, { on := 2, ground := Ground.textOnly Departure.lateStores }, { on := 3, ground := Ground.textOnly Departure.lateStores }, { on := 4, ground := Ground.textOnly Departure.lateStores }, { on := 5, ground := Ground.phase }, { on := 6, ground := Ground.phase }, { on := 7, ground := Ground.phase }, { on := 8, ground := Ground.phase }, { on := 9, ground := Ground.phase }, { on := 10, ground := Ground.textOnly Departure.lateStores }, { on := 11, ground := Ground.textOnly Departure.lateStores }, { on := 12, ground := Ground.textOnly Departure.lateStoresUnsure }, { on := 13, ground := Ground.phase }], guard := none }) (v := .pointer (some ⟨g, k * 17, none⟩)) rfl (by kernel_rfl) (by kernel_rfl) (by kernel_rfl) (fun _ _ _ h => h) (Or.inl ⟨by rfl, fun w' => by go_simp⟩) ?_
            try simp only [Act.put, List.setIfInBounds_toArray, List.set_cons_zero, List.set_cons_succ]
            refine wpAny_ready (rs := [15]) (by kernel_rfl) (by simp) ?_
            refine AllReady.cons (o := { dst := none, op := Op.store 28 (Operand.tmp 127) (Operand.tmp 122), type := 0, pos := "zsortanyfunc.go:422", after := #[{ on := 14, ground := Ground.data }, { on := 9, ground := Ground.data }, { on := 0, ground := Ground.phase }, { on := 1, ground := Ground.phase }, { on := 2, ground := Ground.textOnly Departure.lateStores }, { on := 3, ground := Ground.textOnly Departure.lateStores }, { on := 4, ground := Ground.textOnly Departure.lateStores }, { on := 5, ground := Ground.phase }, { on := 6, ground := Ground.phase }, { on := 7, ground := Ground.phase }, { on := 8, ground := Ground.phase }, { on := 9, ground := Ground.phase }, { on := 10, ground := Ground.textOnly Departure.lateStores }, { on := 11, ground := Ground.textOnly Departure.lateStores }, { on := 12, ground := Ground.textOnly Departure.lateStoresUnsure }, { on := 13, ground := Ground.phase }], guard := none }) rfl (fun K hK0 => ?_) AllReady.nil
            have hK := Lib.hid hK0
            clear hK0
            refine step_of_list rfl ?_
            refine wpList_store_L rfl _ _ rfl g n c L2 HROW.out k zv HkL.out rfl rfl ?_
            intro ws1 row1 t1 z1
            refine ⟨rfl, hK.out _ _ ?_⟩
            clear hK K
            try simp only [Act.put, List.setIfInBounds_toArray, List.set_cons_zero, List.set_cons_succ]
            refine wpAny_take (i := 16) (oi := { dst := some 128, op := Op.indexAddr 22 (Operand.tmp 115) (Operand.tmp 117), type := 0, pos := "zsortanyfunc.go:422", after := #[{ on := 2, ground := Ground.data }, { on := 4, ground := Ground.data }, { on := 0, ground := Ground.phase }, { on := 1, ground := Ground.phase }, { on := 2, ground := Ground.phase }, { on := 3, ground := Ground.phase }, { on := 4, ground := Ground.phase }, { on := 5, ground := Ground.phase }, { on := 6, ground := Ground.phase }, { on := 7, ground := Ground.phase }, { on := 8, ground := Ground.phase }, { on := 9, ground := Ground.phase }, { on := 10, ground := Ground.phase }, { on := 11, ground := Ground.phase }, { on := 12, ground := Ground.phase }, { on := 13, ground := Ground.phase }, { on := 14, ground := Ground.phase }, { on := 15, ground := Ground.phase }], guard := none }) (v := .pointer (some ⟨g, k0 * 17, none⟩)) rfl (by kernel_rfl) (by kernel_rfl) (by kernel_rfl) (fun _ _ _ h => h) (Or.inl ⟨by rfl, fun w' => by go_simp⟩) ?_
            try simp only [Act.put, List.setIfInBounds_toArray, List.set_cons_zero, List.set_cons_succ]
            refine wpAny_ready (rs := [17]) (by kernel_rfl) (by simp) ?_
            refine AllReady.cons (o := { dst := none, op := Op.store 28 (Operand.tmp 128) (Operand.tmp 126), type := 0, pos := "zsortanyfunc.go:422", after := #[{ on := 16, ground := Ground.data }, { on := 13, ground := Ground.data }, { on := 15, ground := Ground.chain }, { on := 0, ground := Ground.phase }, { on := 1, ground := Ground.phase }, { on := 2, ground := Ground.phase }, { on := 3, ground := Ground.phase }, { on := 4, ground := Ground.phase }, { on := 5, ground := Ground.phase }, { on := 6, ground := Ground.phase }, { on := 7, ground := Ground.phase }, { on := 8, ground := Ground.phase }, { on := 9, ground := Ground.phase }, { on := 10, ground := Ground.phase }, { on := 11, ground := Ground.phase }, { on := 12, ground := Ground.phase }, { on := 13, ground := Ground.phase }, { on := 14, ground := Ground.phase }, { on := 15, ground := Ground.phase }], guard := none }) rfl (fun K hK0 => ?_) AllReady.nil
            have hK := Lib.hid hK0
            clear hK0
            refine step_of_list rfl ?_
            refine wpList_store_L rfl _ _ rfl g n c _ row1 k0 yv Hk0L.out rfl rfl ?_
            intro ws2 row2 t2 z2
            refine ⟨rfl, hK.out _ _ ?_⟩
            clear hK K
            try simp only [Act.put, List.setIfInBounds_toArray, List.set_cons_zero, List.set_cons_succ]
            refine wpAny_done (by kernel_rfl) ?_ _
            try simp only [Act.put, List.setIfInBounds_toArray, List.set_cons_zero, List.set_cons_succ]
            rw [HN.out] at row2
            go_wp2_with fail
            go_roundw
            case rel => exact ⟨s0, by omega, by have := HK0.out; have := HKK.out; go_num, row2, HT.out.trans (t1.trans t2 (by simp)) (by simp)⟩
            case measure => simp [intOf]; have := HKK.out; omega
          · have hK := Lib.hid hK0
            clear hK0
            refine step_of_list rfl ?_
            refine wpList_load_mid rfl 28 _ rfl g (k * 17) rfl yv.cells _ rk Tryd.underlying28 rfl (by rw [size31, HLYV.out]) ?_
            refine ⟨rfl, hK.out _ _ ?_⟩
            clear hK K
            try simp only [Act.put, List.setIfInBounds_toArray, List.set_cons_zero, List.set_cons_succ]
            refine wpAny_ready (rs := [9]) (by kernel_rfl) (by simp) ?_
            refine AllReady.cons (o := { dst := some 122, op := Op.load 28 (Operand.tmp 121), type := 28, pos := "zsortanyfunc.go:422", after := #[{ on := 8, ground := Ground.data }], guard := none }) rfl (fun K hK0 => ?_) AllReady.nil
            have hK := Lib.hid hK0
            clear hK0
            refine step_of_list rfl ?_
            refine wpList_load_mid rfl 28 _ rfl g (k0 * 17) rfl zv.cells _ rk0 Tryd.underlying28 rfl (by rw [size31, HLZV.out]) ?_
            refine ⟨rfl, hK.out _ _ ?_⟩
            clear hK K
            try simp only [Act.put, List.setIfInBounds_toArray, List.set_cons_zero, List.set_cons_succ]
            refine wpAny_take (i := 14) (oi := { dst := some 127, op := Op.indexAddr 22 (Operand.tmp 113) (Operand.tmp 114), type := 0, pos := "zsortanyfunc.go:422", after := #[{ on := 0, ground := Ground.data }, { on := 1, ground := Ground.data }, { on := 0, ground := Ground.phase }, { on := 1, ground := Ground.phase }, { on := 2, ground := Ground.textOnly Departure.lateStores }, { on := 3, ground := Ground.textOnly Departure.lateStores }, { on := 4, ground := Ground.textOnly Departure.lateStores }, { on := 5, ground := Ground.phase }, { on := 6, ground := Ground.phase }, { on := 7, ground := Ground.phase }, { on := 8, ground := Ground.phase }, { on := 9, ground := Ground.phase }, { on := 10, ground := Ground.textOnly Departure.lateStores }, { on := 11, ground := Ground.textOnly Departure.lateStores }, { on := 12, ground := Ground.textOnly Departure.lateStoresUnsure }, { on := 13, ground := Ground.phase }], guard := none }) (v := .pointer (some ⟨g, k * 17, none⟩)) rfl (by kernel_rfl) (by kernel_rfl) (by kernel_rfl) (fun _ _ _ h => h) (Or.inl ⟨by rfl, fun w' => by go_simp⟩) ?_
            try simp only [Act.put, List.setIfInBounds_toArray, List.set_cons_zero, List.set_cons_succ]
            refine wpAny_ready (rs := [15]) (by kernel_rfl) (by simp) ?_
            refine AllReady.cons (o := { dst := none, op := Op.store 28 (Operand.tmp 127) (Operand.tmp 122), type := 0, pos := "zsortanyfunc.go:422", after := #[{ on := 14, ground := Ground.data }, { on := 9, ground := Ground.data }, { on := 0, ground := Ground.phase }, { on := 1, ground := Ground.phase }, { on := 2, ground := Ground.textOnly Departure.lateStores }, { on := 3, ground := Ground.textOnly Departure.lateStores }, { on := 4, ground := Ground.textOnly Departure.lateStores }, { on := 5, ground := Ground.phase }, { on := 6, ground := Ground.phase }, { on := 7, ground := Ground.phase }, { on := 8, ground := Ground.phase }, { on := 9, ground := Ground.phase }, { on := 10, ground := Ground.textOnly Departure.lateStores }, { on := 11, ground := Ground.textOnly Departure.lateStores }, { on := 12, ground := Ground.textOnly Departure.lateStoresUnsure }, { on := 13, ground := Ground.phase }], guard := none }) rfl (fun K hK0 => ?_) AllReady.nil
            have hK := Lib.hid hK0
            clear hK0
            refine step_of_list rfl ?_
            refine wpList_store_L rfl _ _ rfl g n c L2 HROW.out k zv HkL.out rfl rfl ?_
            intro ws1 row1 t1 z1
            refine ⟨rfl, hK.out _ _ ?_⟩
            clear hK K
            try simp only [Act.put, List.setIfInBounds_toArray, List.set_cons_zero, List.set_cons_succ]
            refine wpAny_take (i := 16) (oi := { dst := some 128, op := Op.indexAddr 22 (Operand.tmp 115) (Operand.tmp 117), type := 0, pos := "zsortanyfunc.go:422", after := #[{ on := 2, ground := Ground.data }, { on := 4, ground := Ground.data }, { on := 0, ground := Ground.phase }, { on := 1, ground := Ground.phase }, { on := 2, ground := Ground.phase }, { on := 3, ground := Ground.phase }, { on := 4, ground := Ground.phase }, { on := 5, ground := Ground.phase }, { on := 6, ground := Ground.phase }, { on := 7, ground := Ground.phase }, { on := 8, ground := Ground.phase }, { on := 9, ground := Ground.phase }, { on := 10, ground := Ground.phase }, { on := 11, ground := Ground.phase }, { on := 12, ground := Ground.phase }, { on := 13, ground := Ground.phase }, { on := 14, ground := Ground.phase }, { on := 15, ground := Ground.phase }], guard := none }) (v := .pointer (some ⟨g, k0 * 17, none⟩)) rfl (by kernel_rfl) (by kernel_rfl) (by kernel_rfl) (fun _ _ _ h => h) (Or.inl ⟨by rfl, fun w' => by go_simp⟩) ?_
            try simp only [Act.put, List.setIfInBounds_toArray, List.set_cons_zero, List.set_cons_succ]
            refine wpAny_ready (rs := [17]) (by kernel_rfl) (by simp) ?_
            refine AllReady.cons (o := { dst := none, op := Op.store 28 (Operand.tmp 128) (Operand.tmp 126), type := 0, pos := "zsortanyfunc.go:422", after := #[{ on := 16, ground := Ground.data }, { on := 13, ground := Ground.data }, { on := 15, ground := Ground.chain }, { on := 0, ground := Ground.phase }, { on := 1, ground := Ground.phase }, { on := 2, ground := Ground.phase }, { on := 3, ground := Ground.phase }, { on := 4, ground := Ground.phase }, { on := 5, ground := Ground.phase }, { on := 6, ground := Ground.phase }, { on := 7, ground := Ground.phase }, { on := 8, ground := Ground.phase }, { on := 9, ground := Ground.phase }, { on := 10, ground := Ground.phase }, { on := 11, ground := Ground.phase }, { on := 12, ground := Ground.phase }, { on := 13, ground := Ground.phase }, { on := 14, ground := Ground.phase }, { on := 15, ground := Ground.phase }], guard := none }) rfl (fun K hK0 => ?_) AllReady.nil
            have hK := Lib.hid hK0
            clear hK0
            refine step_of_list rfl ?_
            refine wpList_store_L rfl _ _ rfl g n c _ row1 k0 yv Hk0L.out rfl rfl ?_
            intro ws2 row2 t2 z2
            refine ⟨rfl, hK.out _ _ ?_⟩
            clear hK K
            try simp only [Act.put, List.setIfInBounds_toArray, List.set_cons_zero, List.set_cons_succ]
            refine wpAny_done (by kernel_rfl) ?_ _
            try simp only [Act.put, List.setIfInBounds_toArray, List.set_cons_zero, List.set_cons_succ]
            rw [HN.out] at row2
            go_wp2_with fail
            go_roundw
            case rel => exact ⟨s0, by omega, by have := HK0.out; have := HKK.out; go_num, row2, HT.out.trans (t1.trans t2 (by simp)) (by simp)⟩
            case measure => simp [intOf]; have := HKK.out; omega
        · have hs0 : s = 0 := by omega
          have HS0 := Lib.hid hs0
          clear hs0 hk
          go_wp2_with fail
          exact ret0 rfl rfl ⟨rfl, ⟨A1 ++ y :: A2, by rw [← HAS.out]; exact HONE.out.1, HONE.out.2, by
            have h := HROW2.out
            rw [HS0.out] at h
            unfold RowT
            simpa using h⟩, HT2.out⟩
end Go.Proofs.YtiklhaajhdephaaDoor

/-
  The contract of slices.symMergeCmpFunc at addresses, whole.
-/
namespace Go.Proofs.YtiklhaajhdephaaDoor
open Go.RowKit Go.Deep
set_option linter.unusedVariables false
set_option linter.unusedSimpArgs false

def SymAt (N : Nat) : Prop := ∀ (g n c : Nat) (P A B S : List TA) (a m b : Nat), A.length + B.length ≤ N → a = P.length → m = a + A.length → b = m + B.length → 0 < A.length → 0 < B.length → Srt Ad.less A → Srt Ad.less B → TagLt A B → n ≤ 1000000000 → ∀ w : World, RowT w g n c (P ++ A ++ B ++ S) →
  Calls Tryd.prog 92 #[.slice (some ⟨g, 0, none⟩) n c, .int .i64 a, .int .i64 m, .int .i64 b, .func (.func 56) #[] #[]] w fun e w' => e = .returned (.tuple #[]) ∧ MergedT w' g n c P (A ++ B) S ∧ Touch [g] w w'
def CutOk (a m b mid N1 lo r : Nat) : Prop := a ≤ lo ∧ lo ≤ r ∧ r ≤ m ∧ r ≤ mid ∧ N1 ≤ lo + b ∧ (lo = a ∨ lo + b = N1) ∧ (r = m ∨ r = mid)
/-- A truth value known by what it says. -/
def BoolIs (b : Bool) (p : Prop) : Prop := b = true ↔ p
def Half0 (w w' : World) (g n c : Nat) (P A1 B1 A2 R : List TA) : Prop := RowL w' g n c ((P ++ A1 ++ B1 ++ A2 ++ R).map Prod.fst) ∧ Touch [g] w w'
def Half1 (w w' : World) (g n c : Nat) (P A1 B1 R : List TA) : Prop := ∃ X, X.Perm (A1 ++ B1) ∧ Srt Ad.less X ∧ RowT w' g n c (P ++ X ++ R) ∧ Touch [g] w w'
theorem get_A {P A R : List TA} {L : List Ad} {a : Nat} (hL : L = (P ++ A ++ R).map Prod.fst) (ha : a = P.length) (h : Nat) (hh : h < A.length) : L[a + h]? = (A[h]?).map Prod.fst := by
  rw [hL, List.getElem?_map, List.append_assoc, List.getElem?_append_right (by omega), show a + h - P.length = h by omega, List.getElem?_append_left hh]
set_option maxRecDepth 100000 in
set_option maxHeartbeats 8000000 in
theorem sym_gen (hW : Weak Ad.less) (N : Nat) (IH : SymAt N) (g n c : Nat) (P A B S : List TA) (a m b : Nat) (hN : A.length + B.length ≤ N + 1) (ha : a = P.length) (hm : m = a + A.length) (hb : b = m + B.length) (hA0 : 1 < A.length) (hB0 : 1 < B.length) (hA : Srt Ad.less A) (hB : Srt Ad.less B) (ht : TagLt A B) (hn : n ≤ 1000000000) (w : World) (hrow : RowT w g n c (P ++ A ++ B ++ S)) :
    Calls Tryd.prog 92 #[.slice (some ⟨g, 0, none⟩) n c, .int .i64 a, .int .i64 m, .int .i64 b, .func (.func 56) #[] #[]] w fun e w' => e = .returned (.tuple #[]) ∧ MergedT w' g n c P (A ++ B) S ∧ Touch [g] w w' := by
  obtain ⟨L, hL⟩ : ∃ L, L = (P ++ A ++ B ++ S).map Prod.fst := ⟨_, rfl⟩
  have hrow : RowL w g n c L := by rw [hL]; exact hrow
  have hlen : L.length = n := hrow.1
  have hbn : b ≤ n := by rw [← hlen, hL]; simp; omega
  have HLA := Lib.hid (get_A (P := P) (A := A) (R := B ++ S) (L := L) (by rw [hL]; simp) ha)
  have HLB := Lib.hid (get_A (P := P ++ A) (A := B) (R := S) (L := L) (a := m) hL (by simp; omega))
  have HIH := Lib.hid IH
  have HL := Lib.hid hL
  have HB := Lib.hid hb
  have HA := Lib.hid ha
  have HM := Lib.hid hm
  have HSA := Lib.hid hA
  have HSB := Lib.hid hB
  have HTG := Lib.hid ht
  have HR0 := Lib.hid hrow
  obtain ⟨d1, hd1⟩ : ∃ d : Nat, d = A.length := ⟨_, rfl⟩
  obtain ⟨d2, hd2⟩ : ∃ d : Nat, d = B.length := ⟨_, rfl⟩
  obtain ⟨mid, hmid⟩ : ∃ mid : Nat, mid = (a + b) / 2 := ⟨_, rfl⟩
  obtain ⟨N1, hN1⟩ : ∃ N1 : Nat, N1 = mid + m := ⟨_, rfl⟩
  obtain ⟨p, hp⟩ : ∃ p : Nat, p = N1 - 1 := ⟨_, rfl⟩
  have hwma : IntKind.i64.wrap ((m : Int) - (a : Int)) = (d1 : Int) := by rw [IntKind.wrap_i64] <;> omega
  have he1 : ((d1 : Int) == 1) = false := by simp only [beq_eq_false_iff_ne, ne_eq]; omega
  have hwbm : IntKind.i64.wrap ((b : Int) - (m : Int)) = (d2 : Int) := by rw [IntKind.wrap_i64] <;> omega
  have he2 : ((d2 : Int) == 1) = false := by simp only [beq_eq_false_iff_ne, ne_eq]; omega
  have hwab : IntKind.i64.wrap ((a : Int) + (b : Int)) = (a : Int) + (b : Int) := by rw [IntKind.wrap_i64] <;> omega
  have hwmid : ((a : Int) + (b : Int)) / 2 = (mid : Int) := by omega
  have hwN : IntKind.i64.wrap ((mid : Int) + (m : Int)) = (N1 : Int) := by rw [IntKind.wrap_i64] <;> omega
  have hwp : IntKind.i64.wrap ((N1 : Int) - 1) = (p : Int) := by rw [IntKind.wrap_i64] <;> omega
  have hmn : m < n := by omega
  have ham : a < m ∧ m < b ∧ a < mid ∧ mid < b ∧ mid ≤ n := by omega
  have hmm : 2 * mid ≤ a + b ∧ a + b ≤ 2 * mid + 1 := by omega
  have HLEN := Lib.hid hlen
  have HMM := Lib.hid hmm
  have HNN := Lib.hid hN1
  have HP := Lib.hid hp
  have HAM := Lib.hid ham
  have HBN := Lib.hid hbn
  have HN := Lib.hid hN
  clear hL hb ha hm hA hB ht hrow hlen hA0 hB0 hd1 hd2 hmid hN1 hp hmm IH hN
  obtain ⟨ham1, ham2, ham3, ham4, ham5⟩ := ham
  go_enter Tryd.func92, Tryd.ntmps92
  go_upto_if 140 with (fail)
  clear hwma he1 hwbm he2 hwab hwmid hwN
  go_cut [20, 21] from 25 to 219 (fun s20 s21 wx => ∃ lo r : Nat, s20 = .int .i64 lo ∧ s21 = .int .i64 r ∧ CutOk a m b mid N1 lo r ∧ w = wx)
  case first => as_aux_lemma =>
    have h1 := HMM.out
    have h2 := HNN.out
    by_cases hc : mid < m
    · obtain ⟨lo, hlo⟩ : ∃ lo : Nat, lo + b = N1 := ⟨N1 - b, by omega⟩
      have hwlo : IntKind.i64.wrap ((N1 : Int) - (b : Int)) = (lo : Int) := by rw [IntKind.wrap_i64] <;> omega
      have HC := Lib.hid (show CutOk a m b mid N1 lo mid from ⟨by omega, by omega, by omega, by omega, by omega, .inr hlo, .inr rfl⟩)
      clear h1 h2 hlo hwp
      go_wp2_with fail
      go_meet
      exact ⟨lo, mid, rfl, rfl, HC.out, rfl⟩
    · have HC := Lib.hid (show CutOk a m b mid N1 a m from ⟨by omega, by omega, by omega, by omega, by omega, .inl rfl, .inl rfl⟩)
      clear h1 h2 hwp
      go_wp2_with fail
      go_meet
      exact ⟨a, m, rfl, rfl, HC.out, rfl⟩
  case rest => as_aux_lemma =>
    obtain ⟨lo, r0, rfl, rfl, hco, rfl⟩ := hcut
    have HCO := Lib.hid hco
    have hco1 := hco.1
    have hco2 := hco.2.1
    have hco3 := hco.2.2.1
    have hco4 := hco.2.2.2.1
    have hco5 := hco.2.2.2.2.1
    have hpb : p + 1 = N1 := by have := HP.out; have := HNN.out; omega
    have HPB := Lib.hid hpb
    clear hco hpb
    go_wp2_with fail
    clear hwp
    go_loopw [20, 21] (fun vi vj wr => ∃ s r : Nat, lo ≤ s ∧ s ≤ r ∧ r ≤ r0 ∧ vi = .int .i64 s ∧ vj = .int .i64 r ∧ (∀ x y, lo < s → L[s - 1]? = some x → L[N1 - s]? = some y → y.less x = false) ∧ (∀ x y, r < r0 → L[r]? = some x → L[N1 - 1 - r]? = some y → y.less x = true) ∧ RowL wr g n c L ∧ Touch [g] w wr) (fun vi vj _ => (intOf vj).toNat - (intOf vi).toNat)
    case atStart => exact ⟨lo, r0, by omega, by omega, by omega, rfl, rfl, fun _ _ h => by omega, fun _ _ h => by omega, HR0.out, Touch.refl _ _⟩
    case round =>
      obtain ⟨s, r, hls, hsr, hrr, rfl, rfl, hi1, hj1, hrow, ht⟩ := hrel
      have HT := Lib.hid ht
      have HROW := Lib.hid hrow
      have HI1 := Lib.hid hi1
      have HJ1 := Lib.hid hj1
      clear ht hrow hi1 hj1 HR0
      by_cases hlt : s < r
      · obtain ⟨h, hh⟩ : ∃ h : Nat, h = (s + r) / 2 := ⟨_, rfl⟩
        have hh0 : s ≤ h ∧ h < r := by omega
        obtain ⟨u, hu⟩ : ∃ u : Nat, u = p - h := ⟨_, rfl⟩
        have hub : u < n ∧ u + h = p := by have := HPB.out; have := HNN.out; have := HBN.out; omega
        have hwij : IntKind.i64.wrap ((s : Int) + (r : Int)) = (s : Int) + (r : Int) := by rw [IntKind.wrap_i64] <;> omega
        have hwh : ((s : Int) + (r : Int)) / 2 = (h : Int) := by omega
        have hwh1 : IntKind.i64.wrap ((h : Int) + 1) = (h : Int) + 1 := by rw [IntKind.wrap_i64] <;> omega
        have hwu : IntKind.i64.wrap ((p : Int) - (h : Int)) = (u : Int) := by rw [IntKind.wrap_i64] <;> omega
        have hhn : (h : Int) < (n : Int) := by omega
        have hun : (u : Int) < (n : Int) := by omega
        obtain ⟨x, hx⟩ : ∃ x, L[h]? = some x := ⟨_, List.getElem?_eq_getElem (by rw [HLEN.out]; omega)⟩
        obtain ⟨y, hy⟩ : ∃ y, L[u]? = some y := ⟨_, List.getElem?_eq_getElem (by rw [HLEN.out]; omega)⟩
        have HX := Lib.hid hx
        have HY := Lib.hid hy
        have HCV := Lib.hid (comp_ad y x)
        have hle := y.less_eq x
        have HLX := Lib.hid x.len
        have HLY := Lib.hid y.len
        generalize y.comp x = cv at *
        have HHH := Lib.hid hh0
        have HU := Lib.hid hub.2
        clear hh hx hy hh0 hu hub
        by_cases hls : cv < 0
        · as_aux_lemma =>
          have HLESS := Lib.hid (show y.less x = true by rw [hle]; simpa using hls)
          clear hle
          go_wp2_with fail
          refine wp_region_held (S := Touch [] wr.drew) (by kernel_rfl) ?_
          change wpAnyH _ _ _ _ _ _ _ _ wr.drew
          have rh : wr.drew.rangeAt g (h * 17) x.cells := HROW.out.at HX.out
          have ru : wr.drew.rangeAt g (u * 17) y.cells := HROW.out.at HY.out
          have HTd := Lib.hid (HT.out.drew)
          have HROWd := Lib.hid (HROW.out.drew)
          clear HT HROW
          generalize wr.drew = W at *
          have hS := Touch.refl [] W
          refine wpAnyH_take (i := 0) (oi := { dst := some 158, op := Op.move (Operand.tmp 4), type := 84, pos := "zsortanyfunc.go:441", after := #[], guard := none }) (v := .func (.func 56) #[] #[]) rfl (by kernel_rfl) (by kernel_rfl) (by kernel_rfl) (fun _ _ _ h => h) (Or.inl ⟨by rfl, fun w' hw => by go_simp⟩) hS ?_
          try simp only [Act.put, List.setIfInBounds_toArray, List.set_cons_zero, List.set_cons_succ]
          refine wpAnyH_take (i := 1) (oi := { dst := some 159, op := Op.move (Operand.tmp 0), type := 22, pos := "zsortanyfunc.go:441", after := #[], guard := none }) (v := .slice (some ⟨g, 0, none⟩) n c) rfl (by kernel_rfl) (by kernel_rfl) (by kernel_rfl) (fun _ _ _ h => h) (Or.inl ⟨by rfl, fun w' hw => by go_simp⟩) hS ?_
          try simp only [Act.put, List.setIfInBounds_toArray, List.set_cons_zero, List.set_cons_succ]
          refine wpAnyH_take (i := 2) (oi := { dst := some 160, op := Op.move (Operand.tmp 22), type := 3, pos := "zsortanyfunc.go:441", after := #[], guard := none }) (v := .int .i64 (p : Nat)) rfl (by kernel_rfl) (by kernel_rfl) (by kernel_rfl) (fun _ _ _ h => h) (Or.inl ⟨by rfl, fun w' hw => by go_simp⟩) hS ?_
          try simp only [Act.put, List.setIfInBounds_toArray, List.set_cons_zero, List.set_cons_succ]
          refine wpAnyH_take (i := 3) (oi := { dst := some 161, op := Op.move (Operand.tmp 23), type := 3, pos := "zsortanyfunc.go:441", after := #[], guard := none }) (v := .int .i64 (h : Nat)) rfl (by kernel_rfl) (by kernel_rfl) (by kernel_rfl) (fun _ _ _ h => h) (Or.inl ⟨by rfl, fun w' hw => by go_simp⟩) hS ?_
          try simp only [Act.put, List.setIfInBounds_toArray, List.set_cons_zero, List.set_cons_succ]
          refine wpAnyH_take (i := 4) (oi := { dst := some 162, op := Op.binOp BinOp.sub 3 (Operand.tmp 160) (Operand.tmp 161) 3, type := 3, pos := "zsortanyfunc.go:441", after := #[{ on := 2, ground := Ground.data }, { on := 3, ground := Ground.data }], guard := none }) (v := .int .i64 (u : Nat)) rfl (by kernel_rfl) (by kernel_rfl) (by kernel_rfl) (fun _ _ _ h => h) (Or.inl ⟨by rfl, fun w' hw => by go_simp⟩) hS ?_
          try simp only [Act.put, List.setIfInBounds_toArray, List.set_cons_zero, List.set_cons_succ]
          refine wpAnyH_take (i := 5) (oi := { dst := some 163, op := Op.indexAddr 22 (Operand.tmp 159) (Operand.tmp 162), type := 0, pos := "zsortanyfunc.go:441", after := #[{ on := 1, ground := Ground.data }, { on := 4, ground := Ground.data }], guard := none }) (v := .pointer (some ⟨g, u * 17, none⟩)) rfl (by kernel_rfl) (by kernel_rfl) (by kernel_rfl) (fun _ _ _ h => h) (Or.inl ⟨by rfl, fun w' hw => by go_simp⟩) hS ?_
          try simp only [Act.put, List.setIfInBounds_toArray, List.set_cons_zero, List.set_cons_succ]
          refine wpAnyH_take (i := 6) (oi := { dst := some 164, op := Op.load 28 (Operand.tmp 163), type := 28, pos := "zsortanyfunc.go:441", after := #[{ on := 5, ground := Ground.data }], guard := none }) (v := .agg y.cells.toArray) rfl (by kernel_rfl) (by kernel_rfl) (by kernel_rfl) (fun _ _ _ h => h) (Or.inl ⟨by rfl, fun w' hw => exec_load_agg _ 28 _ rfl _ _ rfl y.cells _ (hw.range ru (by simp)) Tryd.underlying28 rfl (by rw [size31, HLY.out])⟩) hS ?_
          try simp only [Act.put, List.setIfInBounds_toArray, List.set_cons_zero, List.set_cons_succ]
          refine wpAnyH_take (i := 7) (oi := { dst := some 165, op := Op.move (Operand.tmp 0), type := 22, pos := "zsortanyfunc.go:441", after := #[], guard := none }) (v := .slice (some ⟨g, 0, none⟩) n c) rfl (by kernel_rfl) (by kernel_rfl) (by kernel_rfl) (fun _ _ _ h => h) (Or.inl ⟨by rfl, fun w' hw => by go_simp⟩) hS ?_
          try simp only [Act.put, List.setIfInBounds_toArray, List.set_cons_zero, List.set_cons_succ]
          refine wpAnyH_take (i := 8) (oi := { dst := some 166, op := Op.move (Operand.tmp 23), type := 3, pos := "zsortanyfunc.go:441", after := #[], guard := none }) (v := .int .i64 (h : Nat)) rfl (by kernel_rfl) (by kernel_rfl) (by kernel_rfl) (fun _ _ _ h => h) (Or.inl ⟨by rfl, fun w' hw => by go_simp⟩) hS ?_
          try simp only [Act.put, List.setIfInBounds_toArray, List.set_cons_zero, List.set_cons_succ]
          refine wpAnyH_take (i := 9) (oi := { dst := some 167, op := Op.indexAddr 22 (Operand.tmp 165) (Operand.tmp 166), type := 0, pos := "zsortanyfunc.go:441", after := #[{ on := 7, ground := Ground.data }, { on := 8, ground := Ground.data }], guard := none }) (v := .pointer (some ⟨g, h * 17, none⟩)) rfl (by kernel_rfl) (by kernel_rfl) (by kernel_rfl) (fun _ _ _ h => h) (Or.inl ⟨by rfl, fun w' hw => by go_simp⟩) hS ?_
          try simp only [Act.put, List.setIfInBounds_toArray, List.set_cons_zero, List.set_cons_succ]
          refine wpAnyH_take (i := 10) (oi := { dst := some 168, op := Op.load 28 (Operand.tmp 167), type := 28, pos := "zsortanyfunc.go:441", after := #[{ on := 9, ground := Ground.data }], guard := none }) (v := .agg x.cells.toArray) rfl (by kernel_rfl) (by kernel_rfl) (by kernel_rfl) (fun _ _ _ h => h) (Or.inl ⟨by rfl, fun w' hw => exec_load_agg _ 28 _ rfl _ _ rfl x.cells _ (hw.range rh (by simp)) Tryd.underlying28 rfl (by rw [size31, HLX.out])⟩) hS ?_
          try simp only [Act.put, List.setIfInBounds_toArray, List.set_cons_zero, List.set_cons_succ]
          refine wpAnyH_ready (rs := [11]) (by kernel_rfl) (by simp) ?_
          refine AllReadyH.cons (o := { dst := some 169, op := Op.call { callee := Callee.value (Operand.tmp 158), args := #[Operand.tmp 164, Operand.tmp 168], argTypes := #[28, 28] }, type := 3, pos := "zsortanyfunc.go:441", after := #[{ on := 0, ground := Ground.data }, { on := 6, ground := Ground.data }, { on := 10, ground := Ground.data }], guard := none }) rfl (fun K hK => ?_) AllReadyH.nil
          go_simp
          refine (HCV.out _).mono ?_
          rintro e w11 ⟨rfl, t11⟩
          have hS2 := hS.trans t11 (by simp)
          refine hK.out _ _ hS2 (fun _ => ?_)
          clear hK K hS t11
          have hS := hS2
          clear hS2
          try simp only [Act.put, List.setIfInBounds_toArray, List.set_cons_zero, List.set_cons_succ]
          refine wpAnyH_take (i := 12) (oi := { dst := some 170, op := Op.binOp BinOp.lss 3 (Operand.tmp 169) (Operand.const (Value.int IntKind.i64 0)) 3, type := 4, pos := "zsortanyfunc.go:441", after := #[{ on := 11, ground := Ground.data }], guard := none }) (v := .bool true) rfl (by kernel_rfl) (by kernel_rfl) (by kernel_rfl) (fun _ _ _ h => h) (Or.inl ⟨by rfl, fun w' hw => by (have q := hls; go_simp)⟩) hS ?_
          try simp only [Act.put, List.setIfInBounds_toArray, List.set_cons_zero, List.set_cons_succ]
          refine wpAnyH_take (i := 13) (oi := { dst := some 171, op := Op.unOp UnOp.not 4 (Operand.tmp 170), type := 4, pos := "zsortanyfunc.go:441", after := #[{ on := 12, ground := Ground.data }], guard := none }) (v := .bool false) rfl (by kernel_rfl) (by kernel_rfl) (by kernel_rfl) (fun _ _ _ h => h) (Or.inl ⟨by rfl, fun w' hw => by go_simp⟩) hS ?_
          try simp only [Act.put, List.setIfInBounds_toArray, List.set_cons_zero, List.set_cons_succ]
          refine wpAnyH_done (by kernel_rfl) ?_ _
          try simp only [Act.put, List.setIfInBounds_toArray, List.set_cons_zero, List.set_cons_succ]
          have HT2 := Lib.hid (HTd.out.trans hS (by simp))
          have HR2 := Lib.hid (HROWd.out.touch hS (by simp))
          clear hS HTd HROWd rh ru
          go_wp2_with fail
          go_roundw
          case rel => exact ⟨s, h, by assumption, by have := HHH.out; omega, by have := HHH.out; omega, rfl, rfl, HI1.out, (by intro x' y' _ hx' hy'; rw [HX.out] at hx'; cases hx'; rw [show N1 - 1 - h = u by have := HU.out; have := HPB.out; omega, HY.out] at hy'; cases hy'; exact HLESS.out), HR2.out, HT2.out⟩
          case measure => simp [intOf]; have := HHH.out; omega
        · as_aux_lemma =>
          have HLESS := Lib.hid (show y.less x = false by rw [hle]; simpa using hls)
          clear hle
          go_wp2_with fail
          refine wp_region_held (S := Touch [] wr.drew) (by kernel_rfl) ?_
          change wpAnyH _ _ _ _ _ _ _ _ wr.drew
          have rh : wr.drew.rangeAt g (h * 17) x.cells := HROW.out.at HX.out
          have ru : wr.drew.rangeAt g (u * 17) y.cells := HROW.out.at HY.out
          have HTd := Lib.hid (HT.out.drew)
          have HROWd := Lib.hid (HROW.out.drew)
          clear HT HROW
          generalize wr.drew = W at *
          have hS := Touch.refl [] W
          refine wpAnyH_take (i := 0) (oi := { dst := some 158, op := Op.move (Operand.tmp 4), type := 84, pos := "zsortanyfunc.go:441", after := #[], guard := none }) (v := .func (.func 56) #[] #[]) rfl (by kernel_rfl) (by kernel_rfl) (by kernel_rfl) (fun _ _ _ h => h) (Or.inl ⟨by rfl, fun w' hw => by go_simp⟩) hS ?_
          try simp only [Act.put, List.setIfInBounds_toArray, List.set_cons_zero, List.set_cons_succ]
          refine wpAnyH_take (i := 1) (oi := { dst := some 159, op := Op.move (Operand.tmp 0), type := 22, pos := "zsortanyfunc.go:441", after := #[], guard := none }) (v := .slice (some ⟨g, 0, none⟩) n c) rfl (by kernel_rfl) (by kernel_rfl) (by kernel_rfl) (fun _ _ _ h => h) (Or.inl ⟨by rfl, fun w' hw => by go_simp⟩) hS ?_
          try simp only [Act.put, List.setIfInBounds_toArray, List.set_cons_zero, List.set_cons_succ]
          refine wpAnyH_take (i := 2) (oi := { dst := some 160, op := Op.move (Operand.tmp 22), type := 3, pos := "zsortanyfunc.go:441", after := #[], guard := none }) (v := .int .i64 (p : Nat)) rfl (by kernel_rfl) (by kernel_rfl) (by kernel_rfl) (fun _ _ _ h => h) (Or.inl ⟨by rfl, fun w' hw => by go_simp⟩) hS ?_
          try simp only [Act.put, List.setIfInBounds_toArray, List.set_cons_zero, List.set_cons_succ]
          refine wpAnyH_take (i := 3) (oi := { dst := some 161, op := Op.move (Operand.tmp 23), type := 3, pos := "zsortanyfunc.go:441", after := #[], guard := none }) (v := .int .i64 (h : Nat)) rfl (by kernel_rfl) (by kernel_rfl) (by kernel_rfl) (fun _ _ _ h => h) (Or.inl ⟨by rfl, fun w' hw => by go_simp⟩) hS ?_
          try simp only [Act.put, List.setIfInBounds_toArray, List.set_cons_zero, List.set_cons_succ]
          refine wpAnyH_take (i := 4) (oi := { dst := some 162, op := Op.binOp BinOp.sub 3 (Operand.tmp 160) (Operand.tmp 161) 3, type := 3, pos := "zsortanyfunc.go:441", after := #[{ on := 2, ground := Ground.data }, { on := 3, ground := Ground.data }], guard := none }) (v := .int .i64 (u : Nat)) rfl (by kernel_rfl) (by kernel_rfl) (by kernel_rfl) (fun _ _ _ h => h) (Or.inl ⟨by rfl, fun w' hw => by go_simp⟩) hS ?_
          try simp only [Act.put, List.setIfInBounds_toArray, List.set_cons_zero, List.set_cons_succ]
          refine wpAnyH_take (i := 5) (oi := { dst := some 163, op := Op.indexAddr 22 (Operand.tmp 159) (Operand.tmp 162), type := 0, pos := "zsortanyfunc.go:441", after := #[{ on := 1, ground := Ground.data }, { on := 4, ground := Ground.data }], guard := none }) (v := .pointer (some ⟨g, u * 17, none⟩)) rfl (by kernel_rfl) (by kernel_rfl) (by kernel_rfl) (fun _ _ _ h => h) (Or.inl ⟨by rfl, fun w' hw => by go_simp⟩) hS ?_
          try simp only [Act.put, List.setIfInBounds_toArray, List.set_cons_zero, List.set_cons_succ]
          refine wpAnyH_take (i := 6) (oi := { dst := some 164, op := Op.load 28 (Operand.tmp 163), type := 28, pos := "zsortanyfunc.go:441", after := #[{ on := 5, ground := Ground.data }], guard := none }) (v := .agg y.cells.toArray) rfl (by kernel_rfl) (by kernel_rfl) (by kernel_rfl) (fun _ _ _ h => h) (Or.inl ⟨by rfl, fun w' hw => exec_load_agg _ 28 _ rfl _ _ rfl y.cells _ (hw.range ru (by simp)) Tryd.underlying28 rfl (by rw [size31, HLY.out])⟩) hS ?_
          try simp only [Act.put, List.setIfInBounds_toArray, List.set_cons_zero, List.set_cons_succ]
          refine wpAnyH_take (i := 7) (oi := { dst := some 165, op := Op.move (Operand.tmp 0), type := 22, pos := "zsortanyfunc.go:441", after := #[], guard := none }) (v := .slice (some ⟨g, 0, none⟩) n c) rfl (by kernel_rfl) (by kernel_rfl) (by kernel_rfl) (fun _ _ _ h => h) (Or.inl ⟨by rfl, fun w' hw => by go_simp⟩) hS ?_
          try simp only [Act.put, List.setIfInBounds_toArray, List.set_cons_zero, List.set_cons_succ]
          refine wpAnyH_take (i := 8) (oi := { dst := some 166, op := Op.move (Operand.tmp 23), type := 3, pos := "zsortanyfunc.go:441", after := #[], guard := none }) (v := .int .i64 (h : Nat)) rfl (by kernel_rfl) (by kernel_rfl) (by kernel_rfl) (fun _ _ _ h => h) (Or.inl ⟨by rfl, fun w' hw => by go_simp⟩) hS ?_
          try simp only [Act.put, List.setIfInBounds_toArray, List.set_cons_zero, List.set_cons_succ]
          refine wpAnyH_take (i := 9) (oi := { dst := some 167, op := Op.indexAddr 22 (Operand.tmp 165) (Operand.tmp 166), type := 0, pos := "zsortanyfunc.go:441", after := #[{ on := 7, ground := Ground.data }, { on := 8, ground := Ground.data }], guard := none }) (v := .pointer (some ⟨g, h * 17, none⟩)) rfl (by kernel_rfl) (by kernel_rfl) (by kernel_rfl) (fun _ _ _ h => h) (Or.inl ⟨by rfl, fun w' hw => by go_simp⟩) hS ?_
          try simp only [Act.put, List.setIfInBounds_toArray, List.set_cons_zero, List.set_cons_succ]
          refine wpAnyH_take (i := 10) (oi := { dst := some 168, op := Op.load 28 (Operand.tmp 167), type := 28, pos := "zsortanyfunc.go:441", after := #[{ on := 9, ground := Ground.data }], guard := none }) (v := .agg x.cells.toArray) rfl (by kernel_rfl) (by kernel_rfl) (by kernel_rfl) (fun _ _ _ h => h) (Or.inl ⟨by rfl, fun w' hw => exec_load_agg _ 28 _ rfl _ _ rfl x.cells _ (hw.range rh (by simp)) Tryd.underlying28 rfl (by rw [size31, HLX.out])⟩) hS ?_
          try simp only [Act.put, List.setIfInBounds_toArray, List.set_cons_zero, List.set_cons_succ]
          refine wpAnyH_ready (rs := [11]) (by kernel_rfl) (by simp) ?_
          refine AllReadyH.cons (o := { dst := some 169, op := Op.call { callee := Callee.value (Operand.tmp 158), args := #[Operand.tmp 164, Operand.tmp 168], argTypes := #[28, 28] }, type := 3, pos := "zsortanyfunc.go:441", after := #[{ on := 0, ground := Ground.data }, { on := 6, ground := Ground.data }, { on := 10, ground := Ground.data }], guard := none }) rfl (fun K hK => ?_) AllReadyH.nil
          go_simp
          refine (HCV.out _).mono ?_
          rintro e w11 ⟨rfl, t11⟩
          have hS2 := hS.trans t11 (by simp)
          refine hK.out _ _ hS2 (fun _ => ?_)
          clear hK K hS t11
          have hS := hS2
          clear hS2
          try simp only [Act.put, List.setIfInBounds_toArray, List.set_cons_zero, List.set_cons_succ]
          refine wpAnyH_take (i := 12) (oi := { dst := some 170, op := Op.binOp BinOp.lss 3 (Operand.tmp 169) (Operand.const (Value.int IntKind.i64 0)) 3, type := 4, pos := "zsortanyfunc.go:441", after := #[{ on := 11, ground := Ground.data }], guard := none }) (v := .bool false) rfl (by kernel_rfl) (by kernel_rfl) (by kernel_rfl) (fun _ _ _ h => h) (Or.inl ⟨by rfl, fun w' hw => by (have q := hls; go_simp)⟩) hS ?_
          try simp only [Act.put, List.setIfInBounds_toArray, List.set_cons_zero, List.set_cons_succ]
          refine wpAnyH_take (i := 13) (oi := { dst := some 171, op := Op.unOp UnOp.not 4 (Operand.tmp 170), type := 4, pos := "zsortanyfunc.go:441", after := #[{ on := 12, ground := Ground.data }], guard := none }) (v := .bool true) rfl (by kernel_rfl) (by kernel_rfl) (by kernel_rfl) (fun _ _ _ h => h) (Or.inl ⟨by rfl, fun w' hw => by go_simp⟩) hS ?_
          try simp only [Act.put, List.setIfInBounds_toArray, List.set_cons_zero, List.set_cons_succ]
          refine wpAnyH_done (by kernel_rfl) ?_ _
          try simp only [Act.put, List.setIfInBounds_toArray, List.set_cons_zero, List.set_cons_succ]
          have HT2 := Lib.hid (HTd.out.trans hS (by simp))
          have HR2 := Lib.hid (HROWd.out.touch hS (by simp))
          clear hS HTd HROWd rh ru
          go_wp2_with fail
          go_roundw
          case rel => exact ⟨h + 1, r, by have := HHH.out; omega, by have := HHH.out; omega, hrr, by go_num, rfl, (by intro x' y' _ hx' hy'; rw [Nat.add_sub_cancel, HX.out] at hx'; cases hx'; rw [show N1 - (h + 1) = u by have := HU.out; have := HPB.out; omega, HY.out] at hy'; cases hy'; exact HLESS.out), HJ1.out, HR2.out, HT2.out⟩
          case measure => simp [intOf]; have := HHH.out; omega
      · as_aux_lemma =>
        have hsr2 : s = r := by omega
        subst hsr2
        have hco := HCO.out
        unfold CutOk at hco
        have hN1 := HNN.out
        have hM := HM.out
        have hBB := HB.out
        obtain ⟨e, he⟩ : ∃ e : Nat, e + s = N1 := ⟨N1 - s, by omega⟩
        have heb : m ≤ e ∧ e ≤ b := by omega
        obtain ⟨q, hq⟩ : ∃ q : Nat, s = a + q := ⟨s - a, by omega⟩
        obtain ⟨f, hf⟩ : ∃ f : Nat, e = m + f := ⟨e - m, by omega⟩
        have hqb : q ≤ A.length := by omega
        have hfb : f ≤ B.length := by omega
        have hAs : A.take q ++ A.drop q = A := List.take_append_drop _ _
        have hBs : B.take f ++ B.drop f = B := List.take_append_drop _ _
        have h1 : ∀ x y, (A.take q).getLast? = some x → (B.drop f).head? = some y → y.1.less x.1 = false := by
          intro x y hx hy
          rw [List.getLast?_eq_getElem?, List.length_take, Nat.min_eq_left hqb] at hx
          rw [List.head?_drop] at hy
          have hq0 : 0 < q := by
            rcases Nat.eq_zero_or_pos q with e | e
            · subst e; simp at hx
            · exact e
          have hf0 : f < B.length := by
            rcases Nat.lt_or_ge f B.length with e | e
            · exact e
            · rw [List.getElem?_eq_none e] at hy; cases hy
          rw [List.getElem?_take, if_pos (by omega)] at hx
          refine HI1.out x.1 y.1 (by omega) ?_ ?_
          · rw [show s - 1 = a + (q - 1) by omega, HLA.out (q - 1) (by omega), hx]; rfl
          · rw [show N1 - s = m + f by omega, HLB.out f hf0, hy]; rfl
        have h2 : ∀ x y, (B.take f).getLast? = some x → (A.drop q).head? = some y → x.1.less y.1 = true := by
          intro x y hx hy
          rw [List.getLast?_eq_getElem?, List.length_take, Nat.min_eq_left hfb] at hx
          rw [List.head?_drop] at hy
          have hf0 : 0 < f := by
            rcases Nat.eq_zero_or_pos f with e | e
            · subst e; simp at hx
            · exact e
          have hq0 : q < A.length := by
            rcases Nat.lt_or_ge q A.length with e | e
            · exact e
            · rw [List.getElem?_eq_none e] at hy; cases hy
          rw [List.getElem?_take, if_pos (by omega)] at hx
          refine HJ1.out y.1 x.1 (by omega) ?_ ?_
          · rw [hq, HLA.out q hq0, hy]; rfl
          · rw [show N1 - 1 - s = m + (f - 1) by omega, HLB.out (f - 1) (by omega), hx]; rfl
        have HCR := Lib.hid (sym_cross hW (A1 := A.take q) (A2 := A.drop q) (B1 := B.take f) (B2 := B.drop f) (by rw [hAs]; exact HSA.out) (by rw [hBs]; exact HSB.out) (by rw [hAs, hBs]; exact HTG.out) h1 h2)
        have lA1 : (A.take q).length = q := by rw [List.length_take]; omega
        have lB1 : (B.take f).length = f := by rw [List.length_take]; omega
        have lA2 : (A.drop q).length + s = m := by rw [List.length_drop]; omega
        have lB2 : (B.drop f).length + e = b := by rw [List.length_drop]; omega
        have HSA' := Lib.hid (List.pairwise_append.1 (show Srt Ad.less (A.take q ++ A.drop q) by rw [hAs]; exact HSA.out))
        have HSB' := Lib.hid (List.pairwise_append.1 (show Srt Ad.less (B.take f ++ B.drop f) by rw [hBs]; exact HSB.out))
        have HTG' := Lib.hid (show TagLt (A.take q ++ A.drop q) (B.take f ++ B.drop f) by rw [hAs, hBs]; exact HTG.out)
        have HAS := Lib.hid hAs
        have HBS := Lib.hid hBs
        have HR1 := Lib.hid (show RowL wr g n c ((P ++ A.take q ++ A.drop q ++ B.take f ++ (B.drop f ++ S)).map Prod.fst) by
          have h := HROW.out
          have e : P ++ A ++ B ++ S = P ++ A.take q ++ A.drop q ++ B.take f ++ (B.drop f ++ S) := by
            conv => lhs; rw [← hAs, ← hBs]
            simp only [List.append_assoc]
          rw [HL.out, e] at h
          exact h)
        have LP := Lib.hid (show s = P.length + q by rw [← HA.out]; omega)
        have hwe : IntKind.i64.wrap ((N1 : Int) - (s : Int)) = (e : Int) := by rw [IntKind.wrap_i64] <;> omega
        have hms : mid = s + f := by omega
        have HMS := Lib.hid hms
        have hes : e + s = mid + m := by omega
        have HES := Lib.hid hes
        generalize A.take q = A1 at *
        generalize A.drop q = A2 at *
        generalize B.take f = B1 at *
        generalize B.drop f = B2 at *
        have LA1 := Lib.hid lA1
        have LB1 := Lib.hid lB1
        have LA2 := Lib.hid lA2
        have LB2 := Lib.hid lB2
        have HF := Lib.hid hf
        have HQ := Lib.hid hq
        have hsm : s ≤ m ∧ s ≤ mid ∧ m ≤ e ∧ e ≤ b ∧ a ≤ s ∧ mid ≤ e := by omega
        obtain ⟨hsm1, hsm2, hsm3, hsm4, hsm5, hsm6⟩ := hsm
        clear h1 h2 hAs hBs hqb hfb lA1 lB1 lA2 lB2 hco hN1 hM hBB he heb hq hf hlt HROW HI1 HJ1 hms hes hls hrr hsr hco1 hco2 hco3 hco4 hco5
        clear HLA HLB
        go_upto_region 39 with (fail)
        clear hwe
        go_cut [185] from 25 to 219 (fun sv wx => ∃ bv : Bool, sv = .bool bv ∧ BoolIs bv (s < m ∧ m < e) ∧ wr = wx)
        case first => as_aux_lemma =>
          by_cases hc1 : s < m
          · by_cases hc2 : m < e
            · go_wp2_with fail
              go_meet
              exact ⟨true, rfl, ⟨fun _ => ⟨hc1, hc2⟩, fun _ => rfl⟩, rfl⟩
            · go_wp2_with fail
              go_meet
              exact ⟨false, rfl, ⟨(fun h => by cases h), (fun h => by omega)⟩, rfl⟩
          · go_wp2_with fail
            go_meet
            exact ⟨false, rfl, ⟨(fun h => by cases h), (fun h => by omega)⟩, rfl⟩
        case rest => as_aux_lemma =>
          obtain ⟨bv, rfl, hbv, rfl⟩ := hcut
          have HBV := Lib.hid hbv
          clear hbv
          go_upto_if 185 with (fail)
          go_cut [] from 25 to 219 (fun wx => Half0 w wx g n c P A1 B1 A2 (B2 ++ S))
          case first => as_aux_lemma =>
            cases bv
            case true => as_aux_lemma =>
                obtain ⟨hc1, hc2⟩ := HBV.out.1 rfl
                go_wp2_with fail
                refine (rot_any g n c ((P ++ A1).map Prod.fst) (A2.map Prod.fst) (B1.map Prod.fst) ((B2 ++ S).map Prod.fst) s m e _ (by rw [List.length_map, List.length_append, LA1.out]; exact LP.out) (by rw [List.length_map]; have := LA2.out; omega) (by rw [List.length_map, LB1.out]; exact HF.out) (by rw [List.length_map]; have := LA2.out; omega) (by rw [List.length_map, LB1.out]; have := HF.out; omega) hn _ (by have h := HR1.out; simpa using h)).mono ?_
                rintro ev w2 ⟨rfl, row2, t2⟩
                have HR2 := Lib.hid row2
                have HT2 := Lib.hid (HT.out.trans t2 (by simp))
                clear row2 t2
                go_wp2_with fail
                go_meet
                exact ⟨by simpa using HR2.out, HT2.out⟩
            case false => as_aux_lemma =>
              have HN0 := Lib.hid (show B1 = [] ∨ A2 = [] from by
                by_cases hc1 : s < m
                · by_cases hc2 : m < e
                  · exact absurd (HBV.out.2 ⟨hc1, hc2⟩) (by simp)
                  · exact .inl (List.eq_nil_of_length_eq_zero (by rw [LB1.out]; have := HF.out; omega))
                · exact .inr (List.eq_nil_of_length_eq_zero (by have := LA2.out; omega)))
              go_wp2_with fail
              go_meet
              exact ⟨by have h := HR1.out; rcases HN0.out with e | e <;> rw [e] at h ⊢ <;> simpa using h, HT.out⟩
          case rest => as_aux_lemma =>
            obtain ⟨hrow3, ht3⟩ := hcut
            have HR3 := Lib.hid hrow3
            have HT3 := Lib.hid ht3
            clear hrow3 ht3 HR1 HT
            go_upto_region 41 with (fail)
            go_cut [199] from 25 to 219 (fun sv wx => ∃ bv : Bool, sv = .bool bv ∧ BoolIs bv (a < s ∧ s < mid) ∧ wc = wx)
            case first => as_aux_lemma =>
              by_cases hc1 : a < s
              · by_cases hc2 : s < mid
                · go_wp2_with fail
                  go_meet
                  exact ⟨true, rfl, ⟨fun _ => ⟨hc1, hc2⟩, fun _ => rfl⟩, rfl⟩
                · go_wp2_with fail
                  go_meet
                  exact ⟨false, rfl, ⟨(fun h => by cases h), (fun h => by omega)⟩, rfl⟩
              · go_wp2_with fail
                go_meet
                exact ⟨false, rfl, ⟨(fun h => by cases h), (fun h => by omega)⟩, rfl⟩
            case rest => as_aux_lemma =>
              obtain ⟨bv, rfl, hbv, rfl⟩ := hcut
              have HBV := Lib.hid hbv
              clear hbv
              go_upto_if 199 with (fail)
              go_cut [] from 25 to 219 (fun wx => Half1 w wx g n c P A1 B1 (A2 ++ B2 ++ S))
              case first => as_aux_lemma =>
                cases bv
                case true => as_aux_lemma =>
                    obtain ⟨hc1, hc2⟩ := HBV.out.1 rfl
                    have HI := Lib.hid (HIH.out g n c P A1 B1 (A2 ++ B2 ++ S) a s mid (by rw [LA1.out, LB1.out]; have := HMS.out; have := HQ.out; have := HN.out; have := HM.out; have := HB.out; omega) HA.out (by rw [LA1.out]; exact HQ.out) (by rw [LB1.out]; exact HMS.out) (by rw [LA1.out]; have := HQ.out; omega) (by rw [LB1.out]; have := HMS.out; omega) HSA'.out.1 HSB'.out.1 (fun p hp q hq => HTG'.out p (by simp [hp]) q (by simp [hq])) hn)
                    go_wp2_with fail
                    refine (HI.out _ (by have h := HR3.out; unfold RowT; simpa using h)).mono ?_
                    rintro ev w2 ⟨rfl, ⟨X, x1, x2, x3⟩, t2⟩
                    have HX := Lib.hid (And.intro x1 (And.intro x2 (And.intro x3 (HT3.out.trans t2 (by simp)))))
                    clear x1 x2 x3 t2
                    go_wp2_with fail
                    go_meet
                    exact ⟨X, HX.out⟩
                case false => as_aux_lemma =>
                  by_cases hc1 : a < s
                  · have HB1N := Lib.hid (show B1 = [] from List.eq_nil_of_length_eq_zero (by
                      rw [LB1.out]
                      by_cases hc2 : s < mid
                      · exact absurd (HBV.out.2 ⟨hc1, hc2⟩) (by simp)
                      · have := HMS.out; omega))
                    go_wp2_with fail
                    go_meet
                    exact ⟨A1, by rw [HB1N.out, List.append_nil], HSA'.out.1, by have h := HR3.out; rw [HB1N.out] at h; unfold RowT; simpa using h, HT3.out⟩
                  · have HA1N := Lib.hid (show A1 = [] from List.eq_nil_of_length_eq_zero (by rw [LA1.out]; have := HQ.out; omega))
                    go_wp2_with fail
                    go_meet
                    exact ⟨B1, by rw [HA1N.out, List.nil_append], HSB'.out.1, by have h := HR3.out; rw [HA1N.out] at h; unfold RowT; simpa using h, HT3.out⟩
              case rest => as_aux_lemma =>
                obtain ⟨X1, x1, x2, x3, ht4⟩ := hcut
                have HX1 := Lib.hid x1
                have HX2 := Lib.hid x2
                have HX3 := Lib.hid x3
                have HT4 := Lib.hid ht4
                have lX : X1.length = q + f := by rw [x1.length_eq, List.length_append, LA1.out, LB1.out]
                have HLX := Lib.hid (show mid = (P ++ X1).length by rw [List.length_append, lX, HMS.out, LP.out]; omega)
                clear x1 x2 x3 ht4 HR3 HT3 lX
                have FIN := fun (X2 : List TA) (wf : World) (p2 : X2.Perm (A2 ++ B2)) (s2 : Srt Ad.less X2) (rowf : RowT wf g n c (P ++ X1 ++ X2 ++ S)) => (show MergedT wf g n c P (A ++ B) S by
                  obtain ⟨j1, j2⟩ := sym_join HCR.out HX1.out HX2.out p2 s2
                  exact ⟨X1 ++ X2, by rw [← HAS.out, ← HBS.out]; exact j1, j2, by rw [← List.append_assoc]; exact rowf⟩)
                have HFIN := Lib.hid FIN
                clear FIN
                by_cases hc1 : mid < e
                · by_cases hc2 : e < b
                  · have HI := Lib.hid (HIH.out g n c (P ++ X1) A2 B2 S mid e b (by have := LA2.out; have := LB2.out; have := HN.out; have := HM.out; have := HB.out; have := HES.out; have := HAM.out; omega) HLX.out (by have := LA2.out; have := HES.out; omega) (by have := LB2.out; omega) (by have := LA2.out; have := HES.out; omega) (by have := LB2.out; omega) HSA'.out.2.1 HSB'.out.2.1 (fun p hp q hq => HTG'.out p (by simp [hp]) q (by simp [hq])) hn)
                    go_wp2_with fail
                    refine (HI.out _ (by have h := HX3.out; simpa [RowT] using h)).mono ?_
                    rintro ev w2 ⟨rfl, ⟨X2, y1, y2, y3⟩, t2⟩
                    have HF2 := Lib.hid (HFIN.out X2 w2 y1 y2 y3)
                    have HT5 := Lib.hid (HT4.out.trans t2 (by simp))
                    clear y1 y2 y3 t2
                    go_wp2_with fail
                    exact end0 rfl rfl ⟨rfl, HF2.out, HT5.out⟩
                  · have HB2N := Lib.hid (show B2 = [] from List.eq_nil_of_length_eq_zero (by have := LB2.out; omega))
                    go_wp2_with fail
                    exact end0 rfl rfl ⟨rfl, HFIN.out A2 _ (by rw [HB2N.out, List.append_nil]) HSA'.out.2.1 (by have h := HX3.out; rw [HB2N.out] at h; simpa [RowT] using h), HT4.out⟩
                · have HA2N := Lib.hid (show A2 = [] from List.eq_nil_of_length_eq_zero (by have := LA2.out; have := HES.out; omega))
                  go_wp2_with fail
                  exact end0 rfl rfl ⟨rfl, HFIN.out B2 _ (by rw [HA2N.out, List.nil_append]) HSB'.out.2.1 (by have h := HX3.out; rw [HA2N.out] at h; simpa [RowT] using h), HT4.out⟩
theorem sym_at (hW : Weak Ad.less) : ∀ N, SymAt N
  | 0 => fun g n c P A B S a m b hN _ _ _ h0 => by omega
  | N + 1 => fun g n c P A B S a m b hN ha hm hb hA0 hB0 hA hB ht hn w hrow => by
    by_cases h1 : A.length = 1
    · obtain ⟨x, rfl⟩ := List.length_eq_one_iff.1 h1
      exact sym_left g n c x P B S a m b ha hm hb hB hB0 ht hW hn w hrow
    · by_cases h2 : B.length = 1
      · obtain ⟨y, rfl⟩ := List.length_eq_one_iff.1 h2
        exact sym_right g n c y P A S a m b ha hm hb hA (by omega) ht hW hn w hrow
      · exact sym_gen hW N (sym_at hW N) g n c P A B S a m b hN ha hm hb (by omega) (by omega) hA hB ht hn w hrow
end Go.Proofs.YtiklhaajhdephaaDoor

/-
  Blocks of sorted tagged elements: what the passes of the stable sort keep. Less is a weak order. No program in sight.
-/
namespace Go.Proofs.YtiklhaajhdephaaDoor
open Go.RowKit
set_option linter.unusedVariables false
set_option linter.unusedSimpArgs false

theorem cmpP_neg (x y : Int) : cmpP x y < 0 ↔ x < y := by unfold cmpP; split <;> (try split) <;> omega
theorem cmpP_zero (x y : Int) : cmpP x y = 0 ↔ x = y := by unfold cmpP; split <;> (try split) <;> omega
theorem less_iff (x y : Ad) : x.less y = true ↔ precP y.b y.xs < precP x.b x.xs ∨ (precP y.b y.xs = precP x.b x.xs ∧ scopeP x.b x.xs < scopeP y.b y.xs) := by
  rw [Ad.less_eq, decide_eq_true_eq]
  unfold Ad.comp compP orP
  split
  · rename_i h
    rw [cmpP_zero] at h
    rw [cmpP_neg]; omega
  · rename_i h
    rw [cmpP_zero] at h
    rw [cmpP_neg]; omega
theorem less_not (x y : Ad) : x.less y = false ↔ ¬ (precP y.b y.xs < precP x.b x.xs ∨ (precP y.b y.xs = precP x.b x.xs ∧ scopeP x.b x.xs < scopeP y.b y.xs)) := by
  rw [← less_iff, Bool.not_eq_true]
theorem Ad.weak : Weak Ad.less where
  asymm := fun a b h => by rw [less_iff] at h; rw [less_not]; omega
  neg := fun a b c h k => by rw [less_not] at h k ⊢; omega

def Rng (lo hi : Nat) (X : List TA) : Prop := ∀ q ∈ X, lo ≤ q.2 ∧ q.2 < hi
inductive Blk (bs : Nat) : Nat → List TA → Prop where
  | last (o : Nat) (X : List TA) (hl : X.length ≤ bs) (hs : Srt Ad.less X) (hr : Rng o (o + X.length) X) : Blk bs o X
  | cons (o : Nat) (X R : List TA) (hl : X.length = bs) (hs : Srt Ad.less X) (hr : Rng o (o + bs) X) (h : Blk bs (o + bs) R) : Blk bs o (X ++ R)
theorem Blk.rng {bs o : Nat} {T : List TA} (h : Blk bs o T) : Rng o (o + T.length) T := by
  induction h with
  | last o X hl hs hr => exact hr
  | cons o X R hl hs hr h ih =>
    intro q hq
    rw [List.mem_append] at hq
    rw [List.length_append, hl]
    rcases hq with hq | hq
    · have := hr q hq; omega
    · have := ih q hq; omega
theorem Rng.tagLt {lo mid hi : Nat} {X Y : List TA} (h : Rng lo mid X) (k : Rng mid hi Y) : TagLt X Y := fun p hp q hq => by
  have := h p hp; have := k q hq; omega
theorem Rng.perm {lo hi : Nat} {X Y : List TA} (h : Rng lo hi X) (p : Y.Perm X) : Rng lo hi Y := fun q hq => h q (p.mem_iff.1 hq)
theorem Rng.append {lo mid hi : Nat} {X Y : List TA} (h : Rng lo mid X) (k : Rng mid hi Y) (h1 : lo ≤ mid) (h2 : mid ≤ hi) : Rng lo hi (X ++ Y) := fun q hq => by
  rw [List.mem_append] at hq
  rcases hq with hq | hq
  · have := h q hq; omega
  · have := k q hq; omega
/-- A list of at most one block is sorted. -/
theorem Blk.one {bs o : Nat} {T : List TA} (h : Blk bs o T) (hl : T.length ≤ bs) : Srt Ad.less T := by
  cases h with
  | last _ _ _ hs _ => exact hs
  | cons _ X R hx hs hr h =>
    rw [List.length_append] at hl
    have : R = [] := List.eq_nil_of_length_eq_zero (by omega)
    subst this
    simpa using hs
theorem Blk.split {bs o : Nat} {T : List TA} (h : Blk bs o T) (hl : bs < T.length) : ∃ X R, T = X ++ R ∧ X.length = bs ∧ Srt Ad.less X ∧ Rng o (o + bs) X ∧ Blk bs (o + bs) R := by
  cases h with
  | last _ _ hl2 _ _ => omega
  | cons _ X R hx hs hr h => exact ⟨X, R, rfl, hx, hs, hr, h⟩
theorem Blk.split1 {bs o : Nat} {T : List TA} (h : Blk bs o T) (hl : bs ≤ T.length) : ∃ X R, T = X ++ R ∧ X.length = bs ∧ Srt Ad.less X ∧ Rng o (o + bs) X ∧ Blk bs (o + bs) R := by
  cases h with
  | last _ _ hl2 hs hr => exact ⟨T, [], by simp, by omega, hs, by rw [show bs = T.length by omega]; exact hr, .last _ _ (by simp) (by simp) (by intro q hq; simp at hq)⟩
  | cons _ X R hx hs hr h => exact ⟨X, R, rfl, hx, hs, hr, h⟩
def Pre (bs : Nat) (D : List TA) : Prop := ∀ R, Blk bs D.length R → Blk bs 0 (D ++ R)
theorem Pre.nil (bs : Nat) : Pre bs [] := fun R h => h
theorem Pre.snoc {bs : Nat} {D Z : List TA} (h : Pre bs D) (hl : Z.length = bs) (hs : Srt Ad.less Z) (hr : Rng D.length (D.length + bs) Z) : Pre bs (D ++ Z) := fun R hR => by
  rw [List.append_assoc]
  refine h _ (.cons _ Z R hl hs hr ?_)
  rw [List.length_append, hl] at hR
  exact hR
/-- The tagged list of l: its element at place i bears the tag i. -/
theorem zip_rng (l : List Ad) (a b : Nat) (hb : b ≤ l.length) : Rng a b ((l.zipIdx.take b).drop a) := by
  intro q hq
  obtain ⟨i, hi, rfl⟩ := List.mem_iff_getElem.1 hq
  simp at hi ⊢
  omega
theorem bubble_G (a : Nat) : ∀ (k : Nat) (L : List Ad), bubble a k L = bubbleG Ad.less a k L
  | 0, L => rfl
  | k + 1, L => by
    unfold bubble bubbleG
    cases L[k + 1]? with
    | none => rfl
    | some x =>
      cases L[k]? with
      | none => rfl
      | some y =>
        simp only
        split
        · exact bubble_G a k _
        · rfl
theorem isort_G (l : List Ad) (a : Nat) : ∀ k, isortN l a k = isortG Ad.less l a k
  | 0 => rfl
  | k + 1 => by rw [isortN, isortG, isort_G l a k, bubble_G]
theorem sorted_eq (l : List Ad) (Z : List TA) (hp : Z.Perm l.zipIdx) (hs : Srt Ad.less Z) : Z.map Prod.fst = sortS Ad.less l := by
  obtain ⟨t1, t2⟩ := tagged l
  rw [sortS_eq Ad.weak t2 hp hs, t1]
/-- At most twenty elements. -/
theorem sortP_eq (l : List Ad) : sortP l = sortS Ad.less l := by
  unfold sortP
  rcases Nat.eq_zero_or_pos l.length with h | h
  · have : l = [] := List.eq_nil_of_length_eq_zero h
    subst this; rfl
  · obtain ⟨t1, t2⟩ := tagged l
    obtain ⟨Z, z1, z2, z3⟩ := isortG_srt Ad.weak [] [] (l.length - 1) l.zipIdx [] (by simp; omega) (by simpa using t2)
    rw [isort_G]
    have e : (([] : List TA) ++ l.zipIdx ++ [] ++ []).map Prod.fst = l := by simp
    rw [e] at z3
    rw [List.length_nil] at z3
    rw [z3]
    have := sorted_eq l Z z1 z2
    simpa using this
end Go.Proofs.YtiklhaajhdephaaDoor

/-
  The contracts of the library's stable sort and of Sort at addresses, for lists of whatever length up to a million.
-/
namespace Go.Proofs.YtiklhaajhdephaaDoor
open Go.RowKit Go.Deep
set_option linter.unusedVariables false
set_option linter.unusedSimpArgs false

/-- One block of the insertion sort. -/
theorem ins_block (g n c : Nat) (l : List Ad) (D R : List TA) (a b : Nat) (ha : D.length = a) (hab : a ≤ b) (hb : b ≤ n) (hln : n = l.length) (hR : R = l.zipIdx.drop a) (hn : n ≤ 1000000) (w : World) (hrow : RowT w g n c (D ++ R)) :
    Calls Tryd.prog 91 #[.slice (some ⟨g, 0, none⟩) n c, .int .i64 a, .int .i64 b, .func (.func 56) #[] #[]] w fun e w' => e = .returned (.tuple #[]) ∧
      (∃ Z, Z.Perm (R.take (b - a)) ∧ Srt Ad.less Z ∧ Rng a b Z ∧ Z.length = b - a ∧ RowT w' g n c (D ++ Z ++ R.drop (b - a))) ∧ Touch [g] w w' := by
  have hlen : (D ++ R).length = n := by have := hrow.1; simpa using this
  refine (ins_any g n c ((D ++ R).map Prod.fst) a b (by rw [List.length_map]; exact hlen) hb (by omega) (by omega) w hrow.2).mono ?_
  rintro e w' ⟨rfl, h, t⟩
  refine ⟨rfl, ?_, t⟩
  have hrl : R.length = n - a := by rw [hR]; simp; omega
  have hrt : R.take (b - a) = (l.zipIdx.take b).drop a := by rw [hR, List.drop_take]
  have hrng : Rng a b (R.take (b - a)) := by rw [hrt]; exact zip_rng l a b (by omega)
  rcases Nat.eq_or_lt_of_le hab with e | hlt
  · subst e
    refine ⟨[], by simp, by simp, by intro q hq; simp at hq, by simp, ?_⟩
    rw [show a - (a + 1) = 0 by omega] at h
    refine ⟨by simpa using hlen, ?_⟩
    simpa [isortN] using h
  · have htags : (l.zipIdx).Pairwise (fun p q => p.2 < q.2) := (tagged l).2
    obtain ⟨Z, z1, z2, z3⟩ := isortG_srt Ad.weak D (R.drop (b - a)) (b - (a + 1)) (R.take (b - a)) [] (by rw [List.length_take, hrl]; omega) (by
      rw [List.append_nil, hrt]
      exact (htags.sublist (List.take_sublist _ _)).sublist (List.drop_sublist _ _))
    have hz : Z.length = b - a := by rw [z1.length_eq, List.length_take, hrl]; omega
    refine ⟨Z, z1, z2, hrng.perm z1, hz, ?_⟩
    have e0 : D ++ R.take (b - a) ++ [] ++ R.drop (b - a) = D ++ R := by rw [List.append_nil, List.append_assoc, List.take_append_drop]
    rw [e0, ha, List.append_nil, ← isort_G] at z3
    rw [z3] at h
    refine ⟨?_, h⟩
    simp only [List.length_map, List.length_append, hz, List.length_drop, hrl, ha]
    omega
/-- One merge. -/
theorem merge_block (g n c bs : Nat) (D X Y S : List TA) (a m b : Nat) (ha : a = D.length) (hm : m = a + X.length) (hb : b = m + Y.length) (hx : 0 < X.length) (hy : 0 < Y.length) (sx : Srt Ad.less X) (sy : Srt Ad.less Y) (rx : Rng a m X) (ry : Rng m b Y) (hn : n ≤ 1000000000) (w : World) (hrow : RowT w g n c (D ++ (X ++ (Y ++ S)))) :
    Calls Tryd.prog 92 #[.slice (some ⟨g, 0, none⟩) n c, .int .i64 a, .int .i64 m, .int .i64 b, .func (.func 56) #[] #[]] w fun e w' => e = .returned (.tuple #[]) ∧
      (∃ Z, Z.Perm (X ++ Y) ∧ Srt Ad.less Z ∧ Rng a b Z ∧ Z.length = X.length + Y.length ∧ RowT w' g n c (D ++ Z ++ S)) ∧ Touch [g] w w' := by
  refine (sym_at Ad.weak (X.length + Y.length) g n c D X Y S a m b (Nat.le_refl _) ha hm hb hx hy sx sy (rx.tagLt ry) hn w (by simpa using hrow)).mono ?_
  rintro e w' ⟨rfl, ⟨Z, z1, z2, z3⟩, t⟩
  exact ⟨rfl, ⟨Z, z1, z2, (rx.append ry (by omega) (by omega)).perm z1, by rw [z1.length_eq, List.length_append], z3⟩, t⟩
set_option maxRecDepth 100000 in
set_option maxHeartbeats 4000000 in
theorem stableG_any (g c : Nat) (l : List Ad) (n : Nat) (hln : n = l.length) (h20 : 20 < n) (hn : n ≤ 1000000) (w : World) (hrow : RowL w g n c l) :
    Calls Tryd.prog 76 #[.slice (some ⟨g, 0, none⟩) n c, .int .i64 n, .func (.func 56) #[] #[]] w fun e w' => e = .returned (.tuple #[]) ∧ RowL w' g n c (sortS Ad.less l) ∧ Touch [g] w w' := by
  obtain ⟨T0, hT0⟩ : ∃ T0 : List TA, T0 = l.zipIdx := ⟨_, rfl⟩
  have hrow : RowT w g n c T0 := by rw [hT0]; unfold RowT; rw [(tagged l).1]; exact hrow
  have hTl : T0.length = n := by rw [hT0, hln]; simp
  have HT0 := Lib.hid hT0
  have HR0 := Lib.hid hrow
  have HTL := Lib.hid hTl
  have HLN := Lib.hid hln
  clear hT0 hrow hTl hln
  go_enter Tryd.func76, Tryd.ntmps76
  go_wp2_with fail
  go_loopw [7, 8] (fun va vb wr => ∃ (a b : Nat) (D R : List TA), va = .int .i64 a ∧ vb = .int .i64 b ∧ b = a + 20 ∧ a ≤ n ∧ D.length = a ∧ Pre 20 D ∧ R = T0.drop a ∧ (D ++ R).Perm T0 ∧ RowT wr g n c (D ++ R) ∧ Touch [g] w wr) (fun va _ _ => n - (intOf va).toNat)
  case atStart => exact ⟨0, 20, [], T0, rfl, rfl, rfl, by omega, rfl, Pre.nil _, by simp, by simp, HR0.out, Touch.refl _ _⟩
  case round =>
    obtain ⟨a, b, D, R, rfl, rfl, hb, han, hD, hpre, hR, hperm, hrow, ht⟩ := hrel
    have HB := Lib.hid hb
    have HD := Lib.hid hD
    have HPRE := Lib.hid hpre
    have HR := Lib.hid hR
    have HPM := Lib.hid hperm
    have HROW := Lib.hid hrow
    have HT := Lib.hid ht
    clear hD hpre hR hperm hrow ht HR0
    by_cases hbn : b ≤ n
    · have hwb : IntKind.i64.wrap ((b : Int) + 20) = (b : Int) + 20 := by rw [IntKind.wrap_i64] <;> omega
      have HI := Lib.hid (ins_block g n c l D R a b HD.out (by omega) hbn HLN.out (by rw [HR.out, HT0.out]) hn wr HROW.out)
      clear hb
      go_wp2_with fail
      refine HI.out.mono ?_
      rintro e w2 ⟨rfl, ⟨Z, z1, z2, z3, z4, z5⟩, t2⟩
      have HZ := Lib.hid (And.intro z1 (And.intro z2 (And.intro z3 (And.intro z4 (And.intro z5 (HT.out.trans t2 (by simp)))))))
      clear z1 z2 z3 z4 z5 t2
      go_wp2_with fail
      go_roundw
      case rel =>
        obtain ⟨z1, z2, z3, z4, z5, t2⟩ := HZ.out
        have hba := HB.out
        have e20 : b - a = 20 := by omega
        rw [e20] at z1 z4 z5
        refine ⟨b, b + 20, D ++ Z, R.drop 20, rfl, by go_num, rfl, hbn, by rw [List.length_append, HD.out, z4, hba], HPRE.out.snoc z4 z2 (by rw [HD.out, ← hba]; exact z3), by rw [HR.out, List.drop_drop, hba], ?_, by simpa using z5, t2⟩
        refine List.Perm.trans ?_ HPM.out
        rw [List.append_assoc]
        refine List.Perm.append_left _ ?_
        have := z1.append_right (R.drop 20)
        rwa [List.take_append_drop] at this
      case measure => simp [intOf]; have := HB.out; omega
    · have HI := Lib.hid (ins_block g n c l D R a n HD.out han (Nat.le_refl _) HLN.out (by rw [HR.out, HT0.out]) hn wr HROW.out)
      clear hb
      go_wp2_with fail
      refine HI.out.mono ?_
      rintro e w2 ⟨rfl, ⟨Z, z1, z2, z3, z4, z5⟩, t2⟩
      have HZ := Lib.hid (show Blk 20 0 (D ++ Z) ∧ (D ++ Z).Perm T0 ∧ RowT w2 g n c (D ++ Z) from by
        have hrl : R.length = n - a := by rw [HR.out, List.length_drop, HTL.out]
        have e1 : R.take (n - a) = R := List.take_of_length_le (by omega)
        have e2 : R.drop (n - a) = [] := List.drop_eq_nil_of_le (by omega)
        rw [e1] at z1
        rw [e2, List.append_nil] at z5
        refine ⟨HPRE.out Z (.last _ Z (by rw [z4]; have := HB.out; omega) z2 (by rw [HD.out, z4, show a + (n - a) = n by omega]; exact z3)), ?_, z5⟩
        exact (List.Perm.append_left _ z1).trans HPM.out)
      have HT2 := Lib.hid (HT.out.trans t2 (by simp))
      generalize D ++ Z = T1 at *
      clear z1 z2 z3 z4 z5 t2 HI HPRE HD HR HPM HROW HT HB
      go_wp2_with fail
      go_loopw [6, 7, 8, 9] (fun vs va vb vm wr => ∃ (bs : Nat) (T : List TA), vs = .int .i64 bs ∧ 0 < bs ∧ bs < 2 * n ∧ Blk bs 0 T ∧ T.Perm T0 ∧ RowT wr g n c T ∧ Touch [g] w wr) (fun vs _ _ _ _ => 2 * n - (intOf vs).toNat)
      case atStart => exact ⟨20, T1, rfl, by omega, by omega, HZ.out.1, HZ.out.2.1, HZ.out.2.2, HT2.out⟩
      case round =>
        obtain ⟨bs, T, rfl, hbs0, hbs1, hblk, hperm, hrow, ht⟩ := hrel
        have HBL := Lib.hid hblk
        have HPM := Lib.hid hperm
        have HROW := Lib.hid hrow
        have HT := Lib.hid ht
        clear hblk hperm hrow ht HT2 HZ
        by_cases hlt : bs < n
        · obtain ⟨b2, hb2⟩ : ∃ b2 : Nat, b2 = 2 * bs := ⟨_, rfl⟩
          have hw2 : IntKind.i64.wrap (2 * (bs : Int)) = (b2 : Int) := by rw [IntKind.wrap_i64] <;> omega
          have hw2' : IntKind.i64.wrap ((bs : Int) * 2) = (b2 : Int) := by rw [IntKind.wrap_i64] <;> omega
          have hb2n : b2 < 2 * n := by omega
          have HB2 := Lib.hid hb2
          clear hb2
          go_wp2_with fail
          go_loopw [7, 8] (fun va vb wq => ∃ (a b : Nat) (D R : List TA), va = .int .i64 a ∧ vb = .int .i64 b ∧ b = a + b2 ∧ a ≤ n ∧ D.length = a ∧ Pre b2 D ∧ Blk bs a R ∧ (D ++ R).Perm T0 ∧ RowT wq g n c (D ++ R) ∧ Touch [g] w wq) (fun va _ _ => n - (intOf va).toNat)
          case atStart => exact ⟨0, b2, [], T, rfl, rfl, by omega, by omega, rfl, Pre.nil _, HBL.out, by simpa using HPM.out, HROW.out, HT.out⟩
          case round =>
            obtain ⟨a, b, D, R, rfl, rfl, hb, han, hD, hpre, hR, hperm, hrow, ht⟩ := hrel
            have HB := Lib.hid hb
            have HD := Lib.hid hD
            have HPRE := Lib.hid hpre
            have HR := Lib.hid hR
            have HPM := Lib.hid hperm
            have HT := Lib.hid ht
            have hlenR : a + R.length = n := by have := hrow.1; simp at this; omega
            have HLR := Lib.hid hlenR
            have HROW := Lib.hid hrow
            have hb2 := HB2.out
            obtain ⟨m, hm⟩ : ∃ m : Nat, m = a + bs := ⟨_, rfl⟩
            have hwm : IntKind.i64.wrap ((a : Int) + (bs : Int)) = (m : Int) := by rw [IntKind.wrap_i64] <;> omega
            have HM := Lib.hid hm
            clear hD hpre hR hperm hrow ht
            by_cases hbn : b ≤ n
            · obtain ⟨b3, hb3⟩ : ∃ b3 : Nat, b3 = b + b2 := ⟨_, rfl⟩
              have hwb : IntKind.i64.wrap ((b : Int) + (b2 : Int)) = (b3 : Int) := by rw [IntKind.wrap_i64] <;> omega
              have HB3 := Lib.hid hb3
              obtain ⟨X, R1, rfl, hx, sx, rx, h1⟩ := HR.out.split1 (by omega)
              obtain ⟨Y, R2, rfl, hy, sy, ry, h2⟩ := h1.split1 (by simp at hlenR; omega)
              have HI := Lib.hid (merge_block g n c bs D X Y R2 a m b HD.out.symm (by omega) (by omega) (by omega) (by omega) sx sy (by rw [hm]; exact rx) (by rw [show b = m + bs by omega, hm]; exact ry) (by omega) _ HROW.out)
              have HBR := Lib.hid h2
              have HXY := Lib.hid (show X.length + Y.length = b2 by omega)
              clear hb hb2 hm hb3 hx hy sx sy rx ry h1 h2 hlenR HLR
              go_wp2_with fail
              refine HI.out.mono ?_
              rintro e w3 ⟨rfl, ⟨Z, z1, z2, z3, z4, z5⟩, t3⟩
              have HZ := Lib.hid (And.intro z1 (And.intro z2 (And.intro z3 (And.intro z4 (And.intro z5 (HT.out.trans t3 (by simp)))))))
              clear z1 z2 z3 z4 z5 t3
              go_wp2_with fail
              go_roundw
              case rel =>
                obtain ⟨z1, z2, z3, z4, z5, t3⟩ := HZ.out
                have hzl : Z.length = b2 := by rw [z4, HXY.out]
                have hbb := HB.out
                refine ⟨b, b3, D ++ Z, R2, rfl, rfl, HB3.out, hbn, by rw [List.length_append, HD.out, hzl, hbb], HPRE.out.snoc hzl z2 (by rw [HD.out, ← hbb]; exact z3), by rw [hbb, HB2.out, show a + 2 * bs = a + bs + bs by omega]; exact HBR.out, ?_, z5, t3⟩
                refine List.Perm.trans ?_ HPM.out
                rw [List.append_assoc, ← List.append_assoc X]
                exact List.Perm.append_left _ (z1.append_right _)
              case measure => simp [intOf]; have := HB.out; have := HB2.out; omega
            · by_cases hmn : m < n
              · obtain ⟨X, Y, rfl, hx, sx, rx, h1⟩ := HR.out.split (by omega)
                have hyl : Y.length < bs := by simp at hlenR; omega
                have sy := h1.one (by omega)
                have ry := h1.rng
                have HI := Lib.hid (merge_block g n c bs D X Y [] a m n HD.out.symm (by omega) (by simp at hlenR; omega) (by omega) (by simp at hlenR; omega) sx sy (by rw [hm]; exact rx) (by rw [show n = a + bs + Y.length by simp at hlenR; omega, hm]; exact ry) (by omega) _ (by have h := HROW.out; simpa using h))
                have HXL := Lib.hid (show X.length + Y.length ≤ b2 ∧ a + (X.length + Y.length) = n by simp at hlenR; omega)
                clear hb hb2 hm hx hyl sx sy rx ry h1 hlenR HLR
                go_wp2_with fail
                refine HI.out.mono ?_
                rintro e w3 ⟨rfl, ⟨Z, z1, z2, z3, z4, z5⟩, t3⟩
                have HZ := Lib.hid (And.intro z1 (And.intro z2 (And.intro z3 (And.intro z4 (And.intro z5 (HT.out.trans t3 (by simp)))))))
                clear z1 z2 z3 z4 z5 t3
                go_wp2_with fail
                go_roundw
                case rel =>
                  obtain ⟨z1, z2, z3, z4, z5, t3⟩ := HZ.out
                  have hx2 := HXL.out
                  refine ⟨b2, D ++ Z, rfl, by have := HB2.out; omega, hb2n, HPRE.out Z (.last _ Z (by omega) z2 (by rw [HD.out, z4, hx2.2]; exact z3)), ?_, by simpa using z5, t3⟩
                  exact (List.Perm.append_left _ z1).trans HPM.out
                case measure => simp [intOf]; have := HB2.out; omega
              · have HFIN := Lib.hid (show Blk b2 0 (D ++ R) from HPRE.out R (.last _ R (by omega) (HR.out.one (by omega)) (by rw [HD.out]; exact HR.out.rng)))
                clear hb hb2 hm hlenR HLR
                go_wp2_with fail
                go_roundw
                case rel => exact ⟨b2, D ++ R, rfl, by have := HB2.out; omega, hb2n, HFIN.out, HPM.out, HROW.out, HT.out⟩
                case measure => simp [intOf]; have := HB2.out; omega
        · have HFIN := Lib.hid (show RowL wr g n c (sortS Ad.less l) from by
            have hs := HBL.out.one (by have := HROW.out.1; simp at this; omega)
            have h := HROW.out
            unfold RowT at h
            rw [sorted_eq l T (by rw [← HT0.out]; exact HPM.out) hs] at h
            exact h)
          go_wp2_with fail
          exact end0 rfl rfl ⟨rfl, HFIN.out, HT.out⟩
theorem stableA_any (w0 : World) (v : Value) (l : List Ad) (hl : l.length ≤ 1000000) (w : World) (hz0 : w0.heap.size ≤ w.heap.size) (ho : OwnA w0 w v l) :
    Calls Tryd.prog 76 #[v, .int .i64 l.length, .func (.func 56) #[] #[]] w fun e w' => e = .returned (.tuple #[]) ∧ OwnA w0 w' v (sortS Ad.less l) ∧ Touch v.ownBlock.toList w w' := by
  by_cases h20 : l.length ≤ 20
  · rw [← sortP_eq]
    exact stable_any w0 v l h20 w hz0 ho
  · obtain ⟨a, c, rfl, hlc, hcm, hat⟩ := ho.form
    obtain ⟨g, rfl⟩ := hat (by omega)
    refine (stableG_any g c l l.length rfl (by omega) hl w ⟨rfl, ho.row'⟩).mono ?_
    rintro e w' ⟨rfl, h, t⟩
    refine ⟨rfl, ⟨?_, ho.new⟩, by simpa [Value.ownBlock] using t⟩
    have := h.2
    rw [List.length_map, sortS_len]
    exact this
set_option maxRecDepth 100000 in
set_option maxHeartbeats 1000000 in
theorem ssfA_any (w0 : World) (v : Value) (l : List Ad) (hl : l.length ≤ 1000000) (w : World) (hz0 : w0.heap.size ≤ w.heap.size) (ho : OwnA w0 w v l) :
    Calls Tryd.prog 55 #[v, .func (.func 56) #[] #[]] w fun e w' => e = .returned (.tuple #[]) ∧ OwnA w0 w' v (sortS Ad.less l) ∧ Touch v.ownBlock.toList w w' := by
  have HST := Lib.hid (stableA_any w0 v l hl w hz0 ho)
  obtain ⟨a, c, rfl, _⟩ := ho.form
  clear ho
  go_enter Tryd.func55, Tryd.ntmps55
  go_wp2_with fail
  refine HST.out.mono ?_
  rintro e w2 ⟨rfl, h2, t2⟩
  go_wp2_with fail
  exact end0 rfl rfl ⟨rfl, h2, t2⟩
set_option maxRecDepth 100000 in
set_option maxHeartbeats 1000000 in
theorem sortA_any (v : Value) (b : Nat) (l : List Ad) (w : World) (hv : Rd w 17 b v (l.map Ad.cells)) (hl : l.length ≤ 1000000) :
    Calls Tryd.prog 15 #[v] w fun e w' => ∃ v', e = .returned v' ∧ OwnA w w' v' (sortS Ad.less l) ∧ Touch [] w w' := by
  have HCL := Lib.hid (clone_any v b l w hv (by omega))
  go_enter Tryd.func15, Tryd.ntmps15
  go_wp2_with fail
  refine HCL.out.mono ?_
  rintro e w2 ⟨v2, rfl, h2, t2⟩
  have HSS := Lib.hid (ssfA_any w v2 l hl w2 t2.size h2)
  go_wp2_with fail
  refine HSS.out.mono ?_
  rintro e w3 ⟨rfl, h3, t3⟩
  have ht3 : Touch [] w w3 := t2.trans t3 (fun y hy => .inr (h2.new y (by simpa using hy)))
  clear HSS HCL t2 t3 h2
  go_wp2_with fail
  go_ret
  exact ⟨_, rfl, h3, ht3⟩
end Go.Proofs.YtiklhaajhdephaaDoor

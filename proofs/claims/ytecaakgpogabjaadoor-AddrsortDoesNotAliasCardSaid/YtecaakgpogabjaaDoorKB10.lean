/-
  Merged texts: Is, So.
-/
import Derived.Test.YtecaakgpogabjaaDoorKB9
import Derived.Lib.BufferMore

/-
  The contract of the library's insertion sort at addresses.
-/
namespace Go.Proofs.YtecaakgpogabjaaDoor
open Go.RowKit
set_option linter.unusedVariables false
set_option linter.unusedSimpArgs false

theorem end0 {P : Program} {fn : Func} {R : Ending → World → Prop} {a : Act} {w : World} (hr : fn.results = #[]) (hd : a.defers = []) (hR : R (.returned (.tuple #[])) w) : bodyPost P fn R .normal a w :=
  bodyPost_end (v := .tuple #[]) (by simp [results, hr]) hd hR
theorem comp_ad (x y : Ad) (w : World) : Calls Tryd.prog 26 #[.agg x.cells.toArray, .agg y.cells.toArray] w fun e w' => e = .returned (.int .i64 (x.comp y)) ∧ Touch [] w w' := comp_any x.b x.xs y.b y.xs x.ok y.ok w
theorem bubble_stop (a j : Nat) (L : List Ad) (h : ¬ a < j) : bubble a j L = L := by
  cases j with
  | zero => rfl
  | succ k =>
    unfold bubble
    split
    · rw [if_neg (fun q => h q.1)]
    · rfl
theorem bubble_not (a k : Nat) (L : List Ad) (x y : Ad) (hx : L[k + 1]? = some x) (hy : L[k]? = some y) (h : x.less y = false) : bubble a (k + 1) L = L := by
  unfold bubble
  rw [hx, hy]
  simp [h]
theorem bubble_go (a k : Nat) (L : List Ad) (x y : Ad) (hx : L[k + 1]? = some x) (hy : L[k]? = some y) (ha : a < k + 1) (h : x.less y = true) : bubble a (k + 1) L = bubble a k (swp L k x y) := by
  conv => lhs; unfold bubble
  rw [hx, hy]
  simp [h, ha]
set_option maxRecDepth 100000 in
set_option maxHeartbeats 4000000 in
theorem ins_any (g n c : Nat) (l : List Ad) (a b : Nat) (hl : l.length = n) (hb : b ≤ n) (ha : a ≤ 1000000000) (hn : n ≤ 1000000000) (w : World) (hrow : w.ownsRow 0 28 17 (.slice (some ⟨g, 0, none⟩) n c) n (l.map Ad.cells).flatten) :
    Calls Tryd.prog 39 #[.slice (some ⟨g, 0, none⟩) n c, .int .i64 a, .int .i64 b, .func (.func 26) #[] #[]] w fun e w' => e = .returned (.tuple #[]) ∧ w'.ownsRow 0 28 17 (.slice (some ⟨g, 0, none⟩) n c) n ((isortN l a (b - (a + 1))).map Ad.cells).flatten ∧ Touch [g] w w' := by
  have hw1 : IntKind.i64.wrap ((a : Int) + 1) = (a : Int) + 1 := by rw [IntKind.wrap_i64] <;> omega
  have HR0 := Lib.hid hrow
  clear hrow
  go_enter Tryd.func39, Tryd.ntmps39
  go_wp2_with fail
  go_loopw [8] (fun vi wr => ∃ k0 : Nat, k0 ≤ b - (a + 1) ∧ vi = .int .i64 ((a + 1 + k0 : Nat) : Int) ∧ wr.ownsRow 0 28 17 (.slice (some ⟨g, 0, none⟩) n c) n ((isortN l a k0).map Ad.cells).flatten ∧ Touch [g] w wr) (fun vi _ => n + a + 1 - (intOf vi).toNat)
  case atStart => exact ⟨0, by omega, by simp, HR0.out, Touch.refl _ _⟩
  case round =>
    obtain ⟨k0, hk0, rfl, hrow, ht⟩ := hrel
    obtain ⟨I, hI⟩ : ∃ I : Nat, I = a + 1 + k0 := ⟨_, rfl⟩
    rw [← hI]
    have HI := Lib.hid hI
    have HT0 := Lib.hid ht
    have hIl : I ≤ n ∨ b ≤ a := by omega
    by_cases hlt : I < b
    · have htar : isortN l a (k0 + 1) = bubble a I (isortN l a k0) := by rw [isortN, HI.out]
      have hlen0 := isortN_len l a k0
      generalize htq : isortN l a (k0 + 1) = tar at *
      have HTQ := Lib.hid htq
      clear htq
      generalize isortN l a k0 = L0 at *
      have HTAR := Lib.hid htar
      have HROW0 := Lib.hid hrow
      have hwI : IntKind.i64.wrap ((I : Int) + 1) = (I : Int) + 1 := by rw [IntKind.wrap_i64] <;> omega
      have hIb : I < n := by omega
      clear htar hrow ht hI
      go_wp2_with fail
      go_loopw [9] (fun vj wq => ∃ (J : Nat) (L : List Ad), J ≤ I ∧ vj = .int .i64 J ∧ bubble a J L = tar ∧ L.length = n ∧ wq.ownsRow 0 28 17 (.slice (some ⟨g, 0, none⟩) n c) n (L.map Ad.cells).flatten ∧ Touch [g] w wq) (fun vj _ => (intOf vj).toNat)
      case atStart => exact ⟨I, L0, Nat.le_refl _, rfl, HTAR.out.symm, by rw [hlen0, hl], HROW0.out, HT0.out⟩
      case round =>
        obtain ⟨J, L, hJ, rfl, hbub, hLl, hrow, ht⟩ := hrel
        have HBUB := Lib.hid hbub
        have HROW := Lib.hid hrow
        have HT := Lib.hid ht
        clear hbub hrow ht HROW0 HT0 HTAR
        by_cases hga : (a : Int) < (J : Int)
        · obtain ⟨k, hk⟩ : ∃ k, J = k + 1 := ⟨J - 1, by omega⟩
          obtain ⟨x, hx⟩ : ∃ x, L[J]? = some x := ⟨_, List.getElem?_eq_getElem (by omega)⟩
          obtain ⟨y, hy⟩ : ∃ y, L[k]? = some y := ⟨_, List.getElem?_eq_getElem (by omega)⟩
          have rJ := own_at HROW.out hx
          have rK := own_at HROW.out hy
          have HLX := Lib.hid x.len
          have HLY := Lib.hid y.len
          have hwj : IntKind.i64.wrap ((J : Int) - 1) = (k : Int) := by rw [IntKind.wrap_i64] <;> omega
          have hJn : (J : Int) < (n : Int) := by omega
          have hkn : (k : Int) < (n : Int) := by omega
          have HKJ := Lib.hid hk
          have HCO := Lib.hid (comp_ad x y)
          have hle := x.less_eq y
          generalize x.comp y = cv at *
          have HX := Lib.hid hx
          have HY := Lib.hid hy
          have HJN := Lib.hid (show J < L.length by omega)
          have HKN := Lib.hid (show k < L.length by omega)
          clear hk hx hy
          by_cases hls : cv < 0
          · have HLESS := Lib.hid (show x.less y = true by rw [hle]; simpa using hls)
            clear hle
            go_wp2_with fail
            refine wp_region_held (S := Touch [] wr.drew) (by kernel_rfl) ?_
            change wpAnyH _ _ _ _ _ _ _ _ wr.drew
            have rJ : wr.drew.rangeAt g (J * 17) x.cells := rJ
            have rK : wr.drew.rangeAt g (k * 17) y.cells := rK
            have HTd := Lib.hid (HT.out.drew)
            have HROWd := Lib.hid (show wr.drew.ownsRow 0 28 17 (.slice (some ⟨g, 0, none⟩) n c) n (L.map Ad.cells).flatten from HROW.out)
            clear HT HROW
            generalize wr.drew = W at *
            have hS := Touch.refl [] W
            refine wpAnyH_take (i := 0) (oi := { dst := some 18, op := Op.move (Operand.tmp 9), type := 3, pos := "zsortanyfunc.go:12", after := #[], guard := none }) (v := .int .i64 (J : Nat)) rfl (by kernel_rfl) (by kernel_rfl) (by kernel_rfl) (fun _ _ _ h => h) (Or.inl ⟨by rfl, fun w' hw => by go_simp⟩) hS ?_
            try simp only [Act.put, List.setIfInBounds_toArray, List.set_cons_zero, List.set_cons_succ]
            refine wpAnyH_take (i := 1) (oi := { dst := some 19, op := Op.move (Operand.tmp 1), type := 3, pos := "zsortanyfunc.go:12", after := #[], guard := none }) (v := .int .i64 (a : Nat)) rfl (by kernel_rfl) (by kernel_rfl) (by kernel_rfl) (fun _ _ _ h => h) (Or.inl ⟨by rfl, fun w' hw => by go_simp⟩) hS ?_
            try simp only [Act.put, List.setIfInBounds_toArray, List.set_cons_zero, List.set_cons_succ]
            refine wpAnyH_take (i := 2) (oi := { dst := some 20, op := Op.binOp BinOp.gtr 3 (Operand.tmp 18) (Operand.tmp 19) 3, type := 4, pos := "zsortanyfunc.go:12", after := #[{ on := 0, ground := Ground.data }, { on := 1, ground := Ground.data }], guard := none }) (v := .bool true) rfl (by kernel_rfl) (by kernel_rfl) (by kernel_rfl) (fun _ _ _ h => h) (Or.inl ⟨by rfl, fun w' hw => by (have q := hga; go_simp)⟩) hS ?_
            try simp only [Act.put, List.setIfInBounds_toArray, List.set_cons_zero, List.set_cons_succ]
            refine wpAnyH_take (i := 3) (oi := { dst := some 21, op := Op.move (Operand.tmp 20), type := 4, pos := "zsortanyfunc.go:12", after := #[{ on := 2, ground := Ground.data }], guard := none }) (v := .bool true) rfl (by kernel_rfl) (by kernel_rfl) (by kernel_rfl) (fun _ _ _ h => h) (Or.inl ⟨by rfl, fun w' hw => by go_simp⟩) hS ?_
            try simp only [Act.put, List.setIfInBounds_toArray, List.set_cons_zero, List.set_cons_succ]
            refine wpAnyH_take (i := 4) (oi := { dst := some 22, op := Op.move (Operand.tmp 3), type := 43, pos := "zsortanyfunc.go:12", after := #[{ on := 3, ground := Ground.guard }], guard := some (3, true) }) (v := .func (.func 26) #[] #[]) rfl (by kernel_rfl) (by kernel_rfl) (by kernel_rfl) (fun _ _ _ h => h) (Or.inl ⟨by rfl, fun w' hw => by go_simp⟩) hS ?_
            try simp only [Act.put, List.setIfInBounds_toArray, List.set_cons_zero, List.set_cons_succ]
            refine wpAnyH_take (i := 5) (oi := { dst := some 23, op := Op.move (Operand.tmp 0), type := 22, pos := "zsortanyfunc.go:12", after := #[{ on := 3, ground := Ground.guard }], guard := some (3, true) }) (v := .slice (some ⟨g, 0, none⟩) n c) rfl (by kernel_rfl) (by kernel_rfl) (by kernel_rfl) (fun _ _ _ h => h) (Or.inl ⟨by rfl, fun w' hw => by go_simp⟩) hS ?_
            try simp only [Act.put, List.setIfInBounds_toArray, List.set_cons_zero, List.set_cons_succ]
            refine wpAnyH_take (i := 6) (oi := { dst := some 24, op := Op.move (Operand.tmp 9), type := 3, pos := "zsortanyfunc.go:12", after := #[{ on := 3, ground := Ground.guard }], guard := some (3, true) }) (v := .int .i64 (J : Nat)) rfl (by kernel_rfl) (by kernel_rfl) (by kernel_rfl) (fun _ _ _ h => h) (Or.inl ⟨by rfl, fun w' hw => by go_simp⟩) hS ?_
            try simp only [Act.put, List.setIfInBounds_toArray, List.set_cons_zero, List.set_cons_succ]
            refine wpAnyH_take (i := 7) (oi := { dst := some 25, op := Op.indexAddr 22 (Operand.tmp 23) (Operand.tmp 24), type := 0, pos := "zsortanyfunc.go:12", after := #[{ on := 5, ground := Ground.data }, { on := 6, ground := Ground.data }, { on := 3, ground := Ground.guard }], guard := some (3, true) }) (v := .pointer (some ⟨g, J * 17, none⟩)) rfl (by kernel_rfl) (by kernel_rfl) (by kernel_rfl) (fun _ _ _ h => h) (Or.inl ⟨by rfl, fun w' hw => by go_simp⟩) hS ?_
            try simp only [Act.put, List.setIfInBounds_toArray, List.set_cons_zero, List.set_cons_succ]
            refine wpAnyH_take (i := 8) (oi := { dst := some 26, op := Op.load 28 (Operand.tmp 25), type := 28, pos := "zsortanyfunc.go:12", after := #[{ on := 7, ground := Ground.data }, { on := 3, ground := Ground.guard }], guard := some (3, true) }) (v := .agg x.cells.toArray) rfl (by kernel_rfl) (by kernel_rfl) (by kernel_rfl) (fun _ _ _ h => h) (Or.inl ⟨by rfl, fun w' hw => exec_load_agg _ 28 _ rfl _ _ rfl x.cells _ (hw.range rJ (by simp)) Tryd.underlying28 rfl (by rw [size31, HLX.out])⟩) hS ?_
            try simp only [Act.put, List.setIfInBounds_toArray, List.set_cons_zero, List.set_cons_succ]
            refine wpAnyH_take (i := 9) (oi := { dst := some 27, op := Op.move (Operand.tmp 0), type := 22, pos := "zsortanyfunc.go:12", after := #[{ on := 3, ground := Ground.guard }], guard := some (3, true) }) (v := .slice (some ⟨g, 0, none⟩) n c) rfl (by kernel_rfl) (by kernel_rfl) (by kernel_rfl) (fun _ _ _ h => h) (Or.inl ⟨by rfl, fun w' hw => by go_simp⟩) hS ?_
            try simp only [Act.put, List.setIfInBounds_toArray, List.set_cons_zero, List.set_cons_succ]
            refine wpAnyH_take (i := 10) (oi := { dst := some 28, op := Op.move (Operand.tmp 9), type := 3, pos := "zsortanyfunc.go:12", after := #[{ on := 3, ground := Ground.guard }], guard := some (3, true) }) (v := .int .i64 (J : Nat)) rfl (by kernel_rfl) (by kernel_rfl) (by kernel_rfl) (fun _ _ _ h => h) (Or.inl ⟨by rfl, fun w' hw => by go_simp⟩) hS ?_
            try simp only [Act.put, List.setIfInBounds_toArray, List.set_cons_zero, List.set_cons_succ]
            refine wpAnyH_take (i := 11) (oi := { dst := some 29, op := Op.binOp BinOp.sub 3 (Operand.tmp 28) (Operand.const (Value.int IntKind.i64 1)) 3, type := 3, pos := "zsortanyfunc.go:12", after := #[{ on := 10, ground := Ground.data }, { on := 3, ground := Ground.guard }], guard := some (3, true) }) (v := .int .i64 (k : Nat)) rfl (by kernel_rfl) (by kernel_rfl) (by kernel_rfl) (fun _ _ _ h => h) (Or.inl ⟨by rfl, fun w' hw => by go_simp⟩) hS ?_
            try simp only [Act.put, List.setIfInBounds_toArray, List.set_cons_zero, List.set_cons_succ]
            refine wpAnyH_take (i := 12) (oi := { dst := some 30, op := Op.indexAddr 22 (Operand.tmp 27) (Operand.tmp 29), type := 0, pos := "zsortanyfunc.go:12", after := #[{ on := 9, ground := Ground.data }, { on := 11, ground := Ground.data }, { on := 3, ground := Ground.guard }], guard := some (3, true) }) (v := .pointer (some ⟨g, k * 17, none⟩)) rfl (by kernel_rfl) (by kernel_rfl) (by kernel_rfl) (fun _ _ _ h => h) (Or.inl ⟨by rfl, fun w' hw => by go_simp⟩) hS ?_
            try simp only [Act.put, List.setIfInBounds_toArray, List.set_cons_zero, List.set_cons_succ]
            refine wpAnyH_take (i := 13) (oi := { dst := some 31, op := Op.load 28 (Operand.tmp 30), type := 28, pos := "zsortanyfunc.go:12", after := #[{ on := 12, ground := Ground.data }, { on := 3, ground := Ground.guard }], guard := some (3, true) }) (v := .agg y.cells.toArray) rfl (by kernel_rfl) (by kernel_rfl) (by kernel_rfl) (fun _ _ _ h => h) (Or.inl ⟨by rfl, fun w' hw => exec_load_agg _ 28 _ rfl _ _ rfl y.cells _ (hw.range rK (by simp)) Tryd.underlying28 rfl (by rw [size31, HLY.out])⟩) hS ?_
            try simp only [Act.put, List.setIfInBounds_toArray, List.set_cons_zero, List.set_cons_succ]
            refine wpAnyH_ready (rs := [14]) (by kernel_rfl) (by simp) ?_
            refine AllReadyH.cons (o := { dst := some 32, op := Op.call { callee := Callee.value (Operand.tmp 22), args := #[Operand.tmp 26, Operand.tmp 31], argTypes := #[28, 28] }, type := 3, pos := "zsortanyfunc.go:12", after := #[{ on := 4, ground := Ground.data }, { on := 8, ground := Ground.data }, { on := 13, ground := Ground.data }, { on := 3, ground := Ground.chain }, { on := 3, ground := Ground.guard }], guard := some (3, true) }) rfl (fun K hK => ?_) AllReadyH.nil
            go_simp
            refine (HCO.out _).mono ?_
            rintro e w14 ⟨rfl, t14⟩
            have hS2 := hS.trans t14 (by simp)
            refine hK.out _ _ hS2 (fun _ => ?_)
            clear hK K hS t14
            have hS := hS2
            clear hS2
            try simp only [Act.put, List.setIfInBounds_toArray, List.set_cons_zero, List.set_cons_succ]
            refine wpAnyH_take (i := 15) (oi := { dst := some 33, op := Op.binOp BinOp.lss 3 (Operand.tmp 32) (Operand.const (Value.int IntKind.i64 0)) 3, type := 4, pos := "zsortanyfunc.go:12", after := #[{ on := 14, ground := Ground.data }, { on := 3, ground := Ground.guard }], guard := some (3, true) }) (v := .bool true) rfl (by kernel_rfl) (by kernel_rfl) (by kernel_rfl) (fun _ _ _ h => h) (Or.inl ⟨by rfl, fun w' hw => by (have q := hls; go_simp)⟩) hS ?_
            try simp only [Act.put, List.setIfInBounds_toArray, List.set_cons_zero, List.set_cons_succ]
            refine wpAnyH_take (i := 16) (oi := { dst := some 34, op := Op.pick (Operand.tmp 21) (Operand.tmp 33) (Operand.const (Value.bool false)), type := 4, pos := "zsortanyfunc.go:12", after := #[{ on := 3, ground := Ground.data }, { on := 15, ground := Ground.data }], guard := none }) (v := .bool true) rfl (by kernel_rfl) (by kernel_rfl) (by kernel_rfl) (fun _ _ _ h => h) (Or.inl ⟨by rfl, fun w' hw => by go_simp⟩) hS ?_
            try simp only [Act.put, List.setIfInBounds_toArray, List.set_cons_zero, List.set_cons_succ]
            refine wpAnyH_done (by kernel_rfl) ?_ _
            try simp only [Act.put, List.setIfInBounds_toArray, List.set_cons_zero, List.set_cons_succ]
            have HT2 := Lib.hid ((HTd.out.trans hS (by simp)).drew)
            have hrow2 := hS.owns HROWd.out (by simp)
            have HROW := Lib.hid (show w14.drew.ownsRow 0 28 17 (.slice (some ⟨g, 0, none⟩) n c) n (L.map Ad.cells).flatten from hrow2)
            clear hS HTd HROWd hrow2 rJ rK
            go_wp2_with fail
            refine wp_region_any (by kernel_rfl) ?_
            change wpAny _ _ _ _ _ _ _ w14.drew
            generalize w14.drew = W at *
            have rJ := own_at HROW.out HX.out
            have rK := own_at HROW.out HY.out
            have HNX := Lib.hid (show bubble a k ((L.set J y).set k x) = tar by
              have e := HKJ.out
              have h1 := bubble_go a k L x y (by rw [← e]; exact HX.out) HY.out (by omega) HLESS.out
              rw [← e, HBUB.out] at h1
              rw [h1, swp, ← e])
            have hkI : k ≤ I := by have := HKJ.out; omega
            refine wpAny_take (i := 0) (oi := { dst := some 37, op := Op.move (Operand.tmp 0), type := 22, pos := "zsortanyfunc.go:13", after := #[], guard := none }) (v := .slice (some ⟨g, 0, none⟩) n c) rfl (by kernel_rfl) (by kernel_rfl) (by kernel_rfl) (fun _ _ _ h => h) (Or.inl ⟨by rfl, fun w' => by go_simp⟩) ?_
            try simp only [Act.put, List.setIfInBounds_toArray, List.set_cons_zero, List.set_cons_succ]
            refine wpAny_take (i := 1) (oi := { dst := some 38, op := Op.move (Operand.tmp 9), type := 3, pos := "zsortanyfunc.go:13", after := #[], guard := none }) (v := .int .i64 (J : Nat)) rfl (by kernel_rfl) (by kernel_rfl) (by kernel_rfl) (fun _ _ _ h => h) (Or.inl ⟨by rfl, fun w' => by go_simp⟩) ?_
            try simp only [Act.put, List.setIfInBounds_toArray, List.set_cons_zero, List.set_cons_succ]
            refine wpAny_take (i := 2) (oi := { dst := some 39, op := Op.move (Operand.tmp 0), type := 22, pos := "zsortanyfunc.go:13", after := #[{ on := 15, ground := Ground.gcOnly Departure.lateStores }], guard := none }) (v := .slice (some ⟨g, 0, none⟩) n c) rfl (by kernel_rfl) (by kernel_rfl) (by kernel_rfl) (fun _ _ _ h => h) (Or.inl ⟨by rfl, fun w' => by go_simp⟩) ?_
            try simp only [Act.put, List.setIfInBounds_toArray, List.set_cons_zero, List.set_cons_succ]
            refine wpAny_take (i := 3) (oi := { dst := some 40, op := Op.move (Operand.tmp 9), type := 3, pos := "zsortanyfunc.go:13", after := #[{ on := 15, ground := Ground.gcOnly Departure.lateStores }], guard := none }) (v := .int .i64 (J : Nat)) rfl (by kernel_rfl) (by kernel_rfl) (by kernel_rfl) (fun _ _ _ h => h) (Or.inl ⟨by rfl, fun w' => by go_simp⟩) ?_
            try simp only [Act.put, List.setIfInBounds_toArray, List.set_cons_zero, List.set_cons_succ]
            refine wpAny_take (i := 4) (oi := { dst := some 41, op := Op.binOp BinOp.sub 3 (Operand.tmp 40) (Operand.const (Value.int IntKind.i64 1)) 3, type := 3, pos := "zsortanyfunc.go:13", after := #[{ on := 3, ground := Ground.data }, { on := 15, ground := Ground.gcOnly Departure.lateStores }], guard := none }) (v := .int .i64 (k : Nat)) rfl (by kernel_rfl) (by kernel_rfl) (by kernel_rfl) (fun _ _ _ h => h) (Or.inl ⟨by rfl, fun w' => by go_simp⟩) ?_
            try simp only [Act.put, List.setIfInBounds_toArray, List.set_cons_zero, List.set_cons_succ]
            refine wpAny_take (i := 5) (oi := { dst := some 42, op := Op.move (Operand.tmp 0), type := 22, pos := "zsortanyfunc.go:13", after := #[], guard := none }) (v := .slice (some ⟨g, 0, none⟩) n c) rfl (by kernel_rfl) (by kernel_rfl) (by kernel_rfl) (fun _ _ _ h => h) (Or.inl ⟨by rfl, fun w' => by go_simp⟩) ?_
            try simp only [Act.put, List.setIfInBounds_toArray, List.set_cons_zero, List.set_cons_succ]
            refine wpAny_take (i := 6) (oi := { dst := some 43, op := Op.move (Operand.tmp 9), type := 3, pos := "zsortanyfunc.go:13", after := #[], guard := none }) (v := .int .i64 (J : Nat)) rfl (by kernel_rfl) (by kernel_rfl) (by kernel_rfl) (fun _ _ _ h => h) (Or.inl ⟨by rfl, fun w' => by go_simp⟩) ?_
            try simp only [Act.put, List.setIfInBounds_toArray, List.set_cons_zero, List.set_cons_succ]
            refine wpAny_take (i := 7) (oi := { dst := some 44, op := Op.binOp BinOp.sub 3 (Operand.tmp 43) (Operand.const (Value.int IntKind.i64 1)) 3, type := 3, pos := "zsortanyfunc.go:13", after := #[{ on := 6, ground := Ground.data }], guard := none }) (v := .int .i64 (k : Nat)) rfl (by kernel_rfl) (by kernel_rfl) (by kernel_rfl) (fun _ _ _ h => h) (Or.inl ⟨by rfl, fun w' => by go_simp⟩) ?_
            try simp only [Act.put, List.setIfInBounds_toArray, List.set_cons_zero, List.set_cons_succ]
            refine wpAny_take (i := 8) (oi := { dst := some 45, op := Op.indexAddr 22 (Operand.tmp 42) (Operand.tmp 44), type := 0, pos := "zsortanyfunc.go:13", after := #[{ on := 5, ground := Ground.data }, { on := 7, ground := Ground.data }], guard := none }) (v := .pointer (some ⟨g, k * 17, none⟩)) rfl (by kernel_rfl) (by kernel_rfl) (by kernel_rfl) (fun _ _ _ h => h) (Or.inl ⟨by rfl, fun w' => by go_simp⟩) ?_
            try simp only [Act.put, List.setIfInBounds_toArray, List.set_cons_zero, List.set_cons_succ]
            refine wpAny_take (i := 10) (oi := { dst := some 47, op := Op.move (Operand.tmp 0), type := 22, pos := "zsortanyfunc.go:13", after := #[], guard := none }) (v := .slice (some ⟨g, 0, none⟩) n c) rfl (by kernel_rfl) (by kernel_rfl) (by kernel_rfl) (fun _ _ _ h => h) (Or.inl ⟨by rfl, fun w' => by go_simp⟩) ?_
            try simp only [Act.put, List.setIfInBounds_toArray, List.set_cons_zero, List.set_cons_succ]
            refine wpAny_take (i := 11) (oi := { dst := some 48, op := Op.move (Operand.tmp 9), type := 3, pos := "zsortanyfunc.go:13", after := #[], guard := none }) (v := .int .i64 (J : Nat)) rfl (by kernel_rfl) (by kernel_rfl) (by kernel_rfl) (fun _ _ _ h => h) (Or.inl ⟨by rfl, fun w' => by go_simp⟩) ?_
            try simp only [Act.put, List.setIfInBounds_toArray, List.set_cons_zero, List.set_cons_succ]
            refine wpAny_take (i := 12) (oi := { dst := some 49, op := Op.indexAddr 22 (Operand.tmp 47) (Operand.tmp 48), type := 0, pos := "zsortanyfunc.go:13", after := #[{ on := 10, ground := Ground.data }, { on := 11, ground := Ground.data }], guard := none }) (v := .pointer (some ⟨g, J * 17, none⟩)) rfl (by kernel_rfl) (by kernel_rfl) (by kernel_rfl) (fun _ _ _ h => h) (Or.inl ⟨by rfl, fun w' => by go_simp⟩) ?_
            try simp only [Act.put, List.setIfInBounds_toArray, List.set_cons_zero, List.set_cons_succ]
            refine wpAny_ready (rs := [9, 13]) (by kernel_rfl) (by simp) ?_
            refine AllReady.cons (o := { dst := some 46, op := Op.load 28 (Operand.tmp 45), type := 28, pos := "zsortanyfunc.go:13", after := #[{ on := 8, ground := Ground.data }], guard := none }) rfl (fun K hK0 => ?_) (AllReady.cons (o := { dst := some 50, op := Op.load 28 (Operand.tmp 49), type := 28, pos := "zsortanyfunc.go:13", after := #[{ on := 12, ground := Ground.data }], guard := none }) rfl (fun K hK0 => ?_) AllReady.nil)
            · have hK := Lib.hid hK0
              clear hK0
              refine step_of_list rfl ?_
              refine wpList_load_mid rfl 28 _ rfl g (k * 17) rfl y.cells _ rK Tryd.underlying28 rfl (by rw [size31, HLY.out]) ?_
              refine ⟨rfl, hK.out _ _ ?_⟩
              clear hK K
              try simp only [Act.put, List.setIfInBounds_toArray, List.set_cons_zero, List.set_cons_succ]
              refine wpAny_ready (rs := [13]) (by kernel_rfl) (by simp) ?_
              refine AllReady.cons (o := { dst := some 50, op := Op.load 28 (Operand.tmp 49), type := 28, pos := "zsortanyfunc.go:13", after := #[{ on := 12, ground := Ground.data }], guard := none }) rfl (fun K hK0 => ?_) AllReady.nil
              have hK := Lib.hid hK0
              clear hK0
              refine step_of_list rfl ?_
              refine wpList_load_mid rfl 28 _ rfl g (J * 17) rfl x.cells _ rJ Tryd.underlying28 rfl (by rw [size31, HLX.out]) ?_
              refine ⟨rfl, hK.out _ _ ?_⟩
              clear hK K
              try simp only [Act.put, List.setIfInBounds_toArray, List.set_cons_zero, List.set_cons_succ]
              refine wpAny_take (i := 14) (oi := { dst := some 51, op := Op.indexAddr 22 (Operand.tmp 37) (Operand.tmp 38), type := 0, pos := "zsortanyfunc.go:13", after := #[{ on := 0, ground := Ground.data }, { on := 1, ground := Ground.data }, { on := 0, ground := Ground.phase }, { on := 1, ground := Ground.phase }, { on := 2, ground := Ground.textOnly Departure.lateStores }, { on := 3, ground := Ground.textOnly Departure.lateStores }, { on := 4, ground := Ground.textOnly Departure.lateStores }, { on := 5, ground := Ground.phase }, { on := 6, ground := Ground.phase }, { on := 7, ground := Ground.phase }, { on := 8, ground := Ground.phase }, { on := 9, ground := Ground.phase }, { on := 10, ground := Ground.textOnly Departure.lateStores }, { on := 11, ground := Ground.textOnly Departure.lateStores }, { on := 12, ground := Ground.textOnly Departure.lateStoresUnsure }, { on := 13, ground := Ground.phase }], guard := none }) (v := .pointer (some ⟨g, J * 17, none⟩)) rfl (by kernel_rfl) (by kernel_rfl) (by kernel_rfl) (fun _ _ _ h => h) (Or.inl ⟨by rfl, fun w' => by go_simp⟩) ?_
              try simp only [Act.put, List.setIfInBounds_toArray, List.set_cons_zero, List.set_cons_succ]
              refine wpAny_ready (rs := [15]) (by kernel_rfl) (by simp) ?_
              refine AllReady.cons (o := { dst := none, op := Op.store 28 (Operand.tmp 51) (Operand.tmp 46), type := 0, pos := "zsortanyfunc.go:13", after := #[{ on := 14, ground := Ground.data }, { on := 9, ground := Ground.data }, { on := 0, ground := Ground.phase }, { on := 1, ground := Ground.phase }, { on := 2, ground := Ground.textOnly Departure.lateStores }, { on := 3, ground := Ground.textOnly Departure.lateStores }, { on := 4, ground := Ground.textOnly Departure.lateStores }, { on := 5, ground := Ground.phase }, { on := 6, ground := Ground.phase }, { on := 7, ground := Ground.phase }, { on := 8, ground := Ground.phase }, { on := 9, ground := Ground.phase }, { on := 10, ground := Ground.textOnly Departure.lateStores }, { on := 11, ground := Ground.textOnly Departure.lateStores }, { on := 12, ground := Ground.textOnly Departure.lateStoresUnsure }, { on := 13, ground := Ground.phase }], guard := none }) rfl (fun K hK0 => ?_) AllReady.nil
              have hK := Lib.hid hK0
              clear hK0
              refine step_of_list rfl ?_
              refine wpList_store_own rfl 28 _ _ rfl g (J * 17) n c 28 17 _ y.cells HROW.out rfl rfl (by rw [ads_flat, y.len]; have := HJN.out; omega) (by rw [size31, HLY.out]) y.one ?_
              intro w15 row15 t15 z15
              rw [HLY.out, ads_set L J y HJN.out] at row15
              refine ⟨rfl, hK.out _ _ ?_⟩
              clear hK K
              try simp only [Act.put, List.setIfInBounds_toArray, List.set_cons_zero, List.set_cons_succ]
              refine wpAny_take (i := 16) (oi := { dst := some 52, op := Op.indexAddr 22 (Operand.tmp 39) (Operand.tmp 41), type := 0, pos := "zsortanyfunc.go:13", after := #[{ on := 2, ground := Ground.data }, { on := 4, ground := Ground.data }, { on := 0, ground := Ground.phase }, { on := 1, ground := Ground.phase }, { on := 2, ground := Ground.phase }, { on := 3, ground := Ground.phase }, { on := 4, ground := Ground.phase }, { on := 5, ground := Ground.phase }, { on := 6, ground := Ground.phase }, { on := 7, ground := Ground.phase }, { on := 8, ground := Ground.phase }, { on := 9, ground := Ground.phase }, { on := 10, ground := Ground.phase }, { on := 11, ground := Ground.phase }, { on := 12, ground := Ground.phase }, { on := 13, ground := Ground.phase }, { on := 14, ground := Ground.phase }, { on := 15, ground := Ground.phase }], guard := none }) (v := .pointer (some ⟨g, k * 17, none⟩)) rfl (by kernel_rfl) (by kernel_rfl) (by kernel_rfl) (fun _ _ _ h => h) (Or.inl ⟨by rfl, fun w' => by go_simp⟩) ?_
              try simp only [Act.put, List.setIfInBounds_toArray, List.set_cons_zero, List.set_cons_succ]
              refine wpAny_ready (rs := [17]) (by kernel_rfl) (by simp) ?_
              refine AllReady.cons (o := { dst := none, op := Op.store 28 (Operand.tmp 52) (Operand.tmp 50), type := 0, pos := "zsortanyfunc.go:13", after := #[{ on := 16, ground := Ground.data }, { on := 13, ground := Ground.data }, { on := 15, ground := Ground.chain }, { on := 0, ground := Ground.phase }, { on := 1, ground := Ground.phase }, { on := 2, ground := Ground.phase }, { on := 3, ground := Ground.phase }, { on := 4, ground := Ground.phase }, { on := 5, ground := Ground.phase }, { on := 6, ground := Ground.phase }, { on := 7, ground := Ground.phase }, { on := 8, ground := Ground.phase }, { on := 9, ground := Ground.phase }, { on := 10, ground := Ground.phase }, { on := 11, ground := Ground.phase }, { on := 12, ground := Ground.phase }, { on := 13, ground := Ground.phase }, { on := 14, ground := Ground.phase }, { on := 15, ground := Ground.phase }], guard := none }) rfl (fun K hK0 => ?_) AllReady.nil
              have hK := Lib.hid hK0
              clear hK0
              refine step_of_list rfl ?_
              refine wpList_store_own rfl 28 _ _ rfl g (k * 17) n c 28 17 _ x.cells row15 rfl rfl (by rw [ads_flat, x.len, List.length_set]; have := HKN.out; omega) (by rw [size31, HLX.out]) x.one ?_
              intro w17 row17 t17 z17
              rw [HLX.out, ads_set (L.set J y) k x (by rw [List.length_set]; exact HKN.out)] at row17
              refine ⟨rfl, hK.out _ _ ?_⟩
              clear hK K
              try simp only [Act.put, List.setIfInBounds_toArray, List.set_cons_zero, List.set_cons_succ]
              refine wpAny_done (by kernel_rfl) ?_ _
              try simp only [Act.put, List.setIfInBounds_toArray, List.set_cons_zero, List.set_cons_succ]
              go_wp2_with fail
              go_roundw
              case rel => exact ⟨k, (L.set J y).set k x, hkI, by go_num, HNX.out, by rw [List.length_set, List.length_set, hLl], row17, HT2.out.trans (t15.trans t17 (by simp)) (by simp)⟩
              case measure => simp [intOf]; have := HKJ.out; omega
            · have hK := Lib.hid hK0
              clear hK0
              refine step_of_list rfl ?_
              refine wpList_load_mid rfl 28 _ rfl g (J * 17) rfl x.cells _ rJ Tryd.underlying28 rfl (by rw [size31, HLX.out]) ?_
              refine ⟨rfl, hK.out _ _ ?_⟩
              clear hK K
              try simp only [Act.put, List.setIfInBounds_toArray, List.set_cons_zero, List.set_cons_succ]
              refine wpAny_ready (rs := [9]) (by kernel_rfl) (by simp) ?_
              refine AllReady.cons (o := { dst := some 46, op := Op.load 28 (Operand.tmp 45), type := 28, pos := "zsortanyfunc.go:13", after := #[{ on := 8, ground := Ground.data }], guard := none }) rfl (fun K hK0 => ?_) AllReady.nil
              have hK := Lib.hid hK0
              clear hK0
              refine step_of_list rfl ?_
              refine wpList_load_mid rfl 28 _ rfl g (k * 17) rfl y.cells _ rK Tryd.underlying28 rfl (by rw [size31, HLY.out]) ?_
              refine ⟨rfl, hK.out _ _ ?_⟩
              clear hK K
              try simp only [Act.put, List.setIfInBounds_toArray, List.set_cons_zero, List.set_cons_succ]
              refine wpAny_take (i := 14) (oi := { dst := some 51, op := Op.indexAddr 22 (Operand.tmp 37) (Operand.tmp 38), type := 0, pos := "zsortanyfunc.go:13", after := #[{ on := 0, ground := Ground.data }, { on := 1, ground := Ground.data }, { on := 0, ground := Ground.phase }, { on := 1, ground := Ground.phase }, { on := 2, ground := Ground.textOnly Departure.lateStores }, { on := 3, ground := Ground.textOnly Departure.lateStores }, { on := 4, ground := Ground.textOnly Departure.lateStores }, { on := 5, ground := Ground.phase }, { on := 6, ground := Ground.phase }, { on := 7, ground := Ground.phase }, { on := 8, ground := Ground.phase }, { on := 9, ground := Ground.phase }, { on := 10, ground := Ground.textOnly Departure.lateStores }, { on := 11, ground := Ground.textOnly Departure.lateStores }, { on := 12, ground := Ground.textOnly Departure.lateStoresUnsure }, { on := 13, ground := Ground.phase }], guard := none }) (v := .pointer (some ⟨g, J * 17, none⟩)) rfl (by kernel_rfl) (by kernel_rfl) (by kernel_rfl) (fun _ _ _ h => h) (Or.inl ⟨by rfl, fun w' => by go_simp⟩) ?_
              try simp only [Act.put, List.setIfInBounds_toArray, List.set_cons_zero, List.set_cons_succ]
              refine wpAny_ready (rs := [15]) (by kernel_rfl) (by simp) ?_
              refine AllReady.cons (o := { dst := none, op := Op.store 28 (Operand.tmp 51) (Operand.tmp 46), type := 0, pos := "zsortanyfunc.go:13", after := #[{ on := 14, ground := Ground.data }, { on := 9, ground := Ground.data }, { on := 0, ground := Ground.phase }, { on := 1, ground := Ground.phase }, { on := 2, ground := Ground.textOnly Departure.lateStores }, { on := 3, ground := Ground.textOnly Departure.lateStores }, { on := 4, ground := Ground.textOnly Departure.lateStores }, { on := 5, ground := Ground.phase }, { on := 6, ground := Ground.phase }, { on := 7, ground := Ground.phase }, { on := 8, ground := Ground.phase }, { on := 9, ground := Ground.phase }, { on := 10, ground := Ground.textOnly Departure.lateStores }, { on := 11, ground := Ground.textOnly Departure.lateStores }, { on := 12, ground := Ground.textOnly Departure.lateStoresUnsure }, { on := 13, ground := Ground.phase }], guard := none }) rfl (fun K hK0 => ?_) AllReady.nil
              have hK := Lib.hid hK0
              clear hK0
              refine step_of_list rfl ?_
              refine wpList_store_own rfl 28 _ _ rfl g (J * 17) n c 28 17 _ y.cells HROW.out rfl rfl (by rw [ads_flat, y.len]; have := HJN.out; omega) (by rw [size31, HLY.out]) y.one ?_
              intro w15 row15 t15 z15
              rw [HLY.out, ads_set L J y HJN.out] at row15
              refine ⟨rfl, hK.out _ _ ?_⟩
              clear hK K
              try simp only [Act.put, List.setIfInBounds_toArray, List.set_cons_zero, List.set_cons_succ]
              refine wpAny_take (i := 16) (oi := { dst := some 52, op := Op.indexAddr 22 (Operand.tmp 39) (Operand.tmp 41), type := 0, pos := "zsortanyfunc.go:13", after := #[{ on := 2, ground := Ground.data }, { on := 4, ground := Ground.data }, { on := 0, ground := Ground.phase }, { on := 1, ground := Ground.phase }, { on := 2, ground := Ground.phase }, { on := 3, ground := Ground.phase }, { on := 4, ground := Ground.phase }, { on := 5, ground := Ground.phase }, { on := 6, ground := Ground.phase }, { on := 7, ground := Ground.phase }, { on := 8, ground := Ground.phase }, { on := 9, ground := Ground.phase }, { on := 10, ground := Ground.phase }, { on := 11, ground := Ground.phase }, { on := 12, ground := Ground.phase }, { on := 13, ground := Ground.phase }, { on := 14, ground := Ground.phase }, { on := 15, ground := Ground.phase }], guard := none }) (v := .pointer (some ⟨g, k * 17, none⟩)) rfl (by kernel_rfl) (by kernel_rfl) (by kernel_rfl) (fun _ _ _ h => h) (Or.inl ⟨by rfl, fun w' => by go_simp⟩) ?_
              try simp only [Act.put, List.setIfInBounds_toArray, List.set_cons_zero, List.set_cons_succ]
              refine wpAny_ready (rs := [17]) (by kernel_rfl) (by simp) ?_
              refine AllReady.cons (o := { dst := none, op := Op.store 28 (Operand.tmp 52) (Operand.tmp 50), type := 0, pos := "zsortanyfunc.go:13", after := #[{ on := 16, ground := Ground.data }, { on := 13, ground := Ground.data }, { on := 15, ground := Ground.chain }, { on := 0, ground := Ground.phase }, { on := 1, ground := Ground.phase }, { on := 2, ground := Ground.phase }, { on := 3, ground := Ground.phase }, { on := 4, ground := Ground.phase }, { on := 5, ground := Ground.phase }, { on := 6, ground := Ground.phase }, { on := 7, ground := Ground.phase }, { on := 8, ground := Ground.phase }, { on := 9, ground := Ground.phase }, { on := 10, ground := Ground.phase }, { on := 11, ground := Ground.phase }, { on := 12, ground := Ground.phase }, { on := 13, ground := Ground.phase }, { on := 14, ground := Ground.phase }, { on := 15, ground := Ground.phase }], guard := none }) rfl (fun K hK0 => ?_) AllReady.nil
              have hK := Lib.hid hK0
              clear hK0
              refine step_of_list rfl ?_
              refine wpList_store_own rfl 28 _ _ rfl g (k * 17) n c 28 17 _ x.cells row15 rfl rfl (by rw [ads_flat, x.len, List.length_set]; have := HKN.out; omega) (by rw [size31, HLX.out]) x.one ?_
              intro w17 row17 t17 z17
              rw [HLX.out, ads_set (L.set J y) k x (by rw [List.length_set]; exact HKN.out)] at row17
              refine ⟨rfl, hK.out _ _ ?_⟩
              clear hK K
              try simp only [Act.put, List.setIfInBounds_toArray, List.set_cons_zero, List.set_cons_succ]
              refine wpAny_done (by kernel_rfl) ?_ _
              try simp only [Act.put, List.setIfInBounds_toArray, List.set_cons_zero, List.set_cons_succ]
              go_wp2_with fail
              go_roundw
              case rel => exact ⟨k, (L.set J y).set k x, hkI, by go_num, HNX.out, by rw [List.length_set, List.length_set, hLl], row17, HT2.out.trans (t15.trans t17 (by simp)) (by simp)⟩
              case measure => simp [intOf]; have := HKJ.out; omega
          · have HLESS := Lib.hid (show x.less y = false by rw [hle]; simpa using hls)
            have HFIN := Lib.hid (show L = tar by rw [← HBUB.out, HKJ.out]; exact (bubble_not a k L x y (by rw [← HKJ.out]; exact HX.out) HY.out HLESS.out).symm)
            clear hle
            go_wp2_with fail
            refine wp_region_held (S := Touch [] wr.drew) (by kernel_rfl) ?_
            change wpAnyH _ _ _ _ _ _ _ _ wr.drew
            have rJ : wr.drew.rangeAt g (J * 17) x.cells := rJ
            have rK : wr.drew.rangeAt g (k * 17) y.cells := rK
            have HTd := Lib.hid (HT.out.drew)
            have HROWd := Lib.hid (show wr.drew.ownsRow 0 28 17 (.slice (some ⟨g, 0, none⟩) n c) n (L.map Ad.cells).flatten from HROW.out)
            clear HT HROW
            generalize wr.drew = W at *
            have hS := Touch.refl [] W
            refine wpAnyH_take (i := 0) (oi := { dst := some 18, op := Op.move (Operand.tmp 9), type := 3, pos := "zsortanyfunc.go:12", after := #[], guard := none }) (v := .int .i64 (J : Nat)) rfl (by kernel_rfl) (by kernel_rfl) (by kernel_rfl) (fun _ _ _ h => h) (Or.inl ⟨by rfl, fun w' hw => by go_simp⟩) hS ?_
            try simp only [Act.put, List.setIfInBounds_toArray, List.set_cons_zero, List.set_cons_succ]
            refine wpAnyH_take (i := 1) (oi := { dst := some 19, op := Op.move (Operand.tmp 1), type := 3, pos := "zsortanyfunc.go:12", after := #[], guard := none }) (v := .int .i64 (a : Nat)) rfl (by kernel_rfl) (by kernel_rfl) (by kernel_rfl) (fun _ _ _ h => h) (Or.inl ⟨by rfl, fun w' hw => by go_simp⟩) hS ?_
            try simp only [Act.put, List.setIfInBounds_toArray, List.set_cons_zero, List.set_cons_succ]
            refine wpAnyH_take (i := 2) (oi := { dst := some 20, op := Op.binOp BinOp.gtr 3 (Operand.tmp 18) (Operand.tmp 19) 3, type := 4, pos := "zsortanyfunc.go:12", after := #[{ on := 0, ground := Ground.data }, { on := 1, ground := Ground.data }], guard := none }) (v := .bool true) rfl (by kernel_rfl) (by kernel_rfl) (by kernel_rfl) (fun _ _ _ h => h) (Or.inl ⟨by rfl, fun w' hw => by (have q := hga; go_simp)⟩) hS ?_
            try simp only [Act.put, List.setIfInBounds_toArray, List.set_cons_zero, List.set_cons_succ]
            refine wpAnyH_take (i := 3) (oi := { dst := some 21, op := Op.move (Operand.tmp 20), type := 4, pos := "zsortanyfunc.go:12", after := #[{ on := 2, ground := Ground.data }], guard := none }) (v := .bool true) rfl (by kernel_rfl) (by kernel_rfl) (by kernel_rfl) (fun _ _ _ h => h) (Or.inl ⟨by rfl, fun w' hw => by go_simp⟩) hS ?_
            try simp only [Act.put, List.setIfInBounds_toArray, List.set_cons_zero, List.set_cons_succ]
            refine wpAnyH_take (i := 4) (oi := { dst := some 22, op := Op.move (Operand.tmp 3), type := 43, pos := "zsortanyfunc.go:12", after := #[{ on := 3, ground := Ground.guard }], guard := some (3, true) }) (v := .func (.func 26) #[] #[]) rfl (by kernel_rfl) (by kernel_rfl) (by kernel_rfl) (fun _ _ _ h => h) (Or.inl ⟨by rfl, fun w' hw => by go_simp⟩) hS ?_
            try simp only [Act.put, List.setIfInBounds_toArray, List.set_cons_zero, List.set_cons_succ]
            refine wpAnyH_take (i := 5) (oi := { dst := some 23, op := Op.move (Operand.tmp 0), type := 22, pos := "zsortanyfunc.go:12", after := #[{ on := 3, ground := Ground.guard }], guard := some (3, true) }) (v := .slice (some ⟨g, 0, none⟩) n c) rfl (by kernel_rfl) (by kernel_rfl) (by kernel_rfl) (fun _ _ _ h => h) (Or.inl ⟨by rfl, fun w' hw => by go_simp⟩) hS ?_
            try simp only [Act.put, List.setIfInBounds_toArray, List.set_cons_zero, List.set_cons_succ]
            refine wpAnyH_take (i := 6) (oi := { dst := some 24, op := Op.move (Operand.tmp 9), type := 3, pos := "zsortanyfunc.go:12", after := #[{ on := 3, ground := Ground.guard }], guard := some (3, true) }) (v := .int .i64 (J : Nat)) rfl (by kernel_rfl) (by kernel_rfl) (by kernel_rfl) (fun _ _ _ h => h) (Or.inl ⟨by rfl, fun w' hw => by go_simp⟩) hS ?_
            try simp only [Act.put, List.setIfInBounds_toArray, List.set_cons_zero, List.set_cons_succ]
            refine wpAnyH_take (i := 7) (oi := { dst := some 25, op := Op.indexAddr 22 (Operand.tmp 23) (Operand.tmp 24), type := 0, pos := "zsortanyfunc.go:12", after := #[{ on := 5, ground := Ground.data }, { on := 6, ground := Ground.data }, { on := 3, ground := Ground.guard }], guard := some (3, true) }) (v := .pointer (some ⟨g, J * 17, none⟩)) rfl (by kernel_rfl) (by kernel_rfl) (by kernel_rfl) (fun _ _ _ h => h) (Or.inl ⟨by rfl, fun w' hw => by go_simp⟩) hS ?_
            try simp only [Act.put, List.setIfInBounds_toArray, List.set_cons_zero, List.set_cons_succ]
            refine wpAnyH_take (i := 8) (oi := { dst := some 26, op := Op.load 28 (Operand.tmp 25), type := 28, pos := "zsortanyfunc.go:12", after := #[{ on := 7, ground := Ground.data }, { on := 3, ground := Ground.guard }], guard := some (3, true) }) (v := .agg x.cells.toArray) rfl (by kernel_rfl) (by kernel_rfl) (by kernel_rfl) (fun _ _ _ h => h) (Or.inl ⟨by rfl, fun w' hw => exec_load_agg _ 28 _ rfl _ _ rfl x.cells _ (hw.range rJ (by simp)) Tryd.underlying28 rfl (by rw [size31, HLX.out])⟩) hS ?_
            try simp only [Act.put, List.setIfInBounds_toArray, List.set_cons_zero, List.set_cons_succ]
            refine wpAnyH_take (i := 9) (oi := { dst := some 27, op := Op.move (Operand.tmp 0), type := 22, pos := "zsortanyfunc.go:12", after := #[{ on := 3, ground := Ground.guard }], guard := some (3, true) }) (v := .slice (some ⟨g, 0, none⟩) n c) rfl (by kernel_rfl) (by kernel_rfl) (by kernel_rfl) (fun _ _ _ h => h) (Or.inl ⟨by rfl, fun w' hw => by go_simp⟩) hS ?_
            try simp only [Act.put, List.setIfInBounds_toArray, List.set_cons_zero, List.set_cons_succ]
            refine wpAnyH_take (i := 10) (oi := { dst := some 28, op := Op.move (Operand.tmp 9), type := 3, pos := "zsortanyfunc.go:12", after := #[{ on := 3, ground := Ground.guard }], guard := some (3, true) }) (v := .int .i64 (J : Nat)) rfl (by kernel_rfl) (by kernel_rfl) (by kernel_rfl) (fun _ _ _ h => h) (Or.inl ⟨by rfl, fun w' hw => by go_simp⟩) hS ?_
            try simp only [Act.put, List.setIfInBounds_toArray, List.set_cons_zero, List.set_cons_succ]
            refine wpAnyH_take (i := 11) (oi := { dst := some 29, op := Op.binOp BinOp.sub 3 (Operand.tmp 28) (Operand.const (Value.int IntKind.i64 1)) 3, type := 3, pos := "zsortanyfunc.go:12", after := #[{ on := 10, ground := Ground.data }, { on := 3, ground := Ground.guard }], guard := some (3, true) }) (v := .int .i64 (k : Nat)) rfl (by kernel_rfl) (by kernel_rfl) (by kernel_rfl) (fun _ _ _ h => h) (Or.inl ⟨by rfl, fun w' hw => by go_simp⟩) hS ?_
            try simp only [Act.put, List.setIfInBounds_toArray, List.set_cons_zero, List.set_cons_succ]
            refine wpAnyH_take (i := 12) (oi := { dst := some 30, op := Op.indexAddr 22 (Operand.tmp 27) (Operand.tmp 29), type := 0, pos := "zsortanyfunc.go:12", after := #[{ on := 9, ground := Ground.data }, { on := 11, ground := Ground.data }, { on := 3, ground := Ground.guard }], guard := some (3, true) }) (v := .pointer (some ⟨g, k * 17, none⟩)) rfl (by kernel_rfl) (by kernel_rfl) (by kernel_rfl) (fun _ _ _ h => h) (Or.inl ⟨by rfl, fun w' hw => by go_simp⟩) hS ?_
            try simp only [Act.put, List.setIfInBounds_toArray, List.set_cons_zero, List.set_cons_succ]
            refine wpAnyH_take (i := 13) (oi := { dst := some 31, op := Op.load 28 (Operand.tmp 30), type := 28, pos := "zsortanyfunc.go:12", after := #[{ on := 12, ground := Ground.data }, { on := 3, ground := Ground.guard }], guard := some (3, true) }) (v := .agg y.cells.toArray) rfl (by kernel_rfl) (by kernel_rfl) (by kernel_rfl) (fun _ _ _ h => h) (Or.inl ⟨by rfl, fun w' hw => exec_load_agg _ 28 _ rfl _ _ rfl y.cells _ (hw.range rK (by simp)) Tryd.underlying28 rfl (by rw [size31, HLY.out])⟩) hS ?_
            try simp only [Act.put, List.setIfInBounds_toArray, List.set_cons_zero, List.set_cons_succ]
            refine wpAnyH_ready (rs := [14]) (by kernel_rfl) (by simp) ?_
            refine AllReadyH.cons (o := { dst := some 32, op := Op.call { callee := Callee.value (Operand.tmp 22), args := #[Operand.tmp 26, Operand.tmp 31], argTypes := #[28, 28] }, type := 3, pos := "zsortanyfunc.go:12", after := #[{ on := 4, ground := Ground.data }, { on := 8, ground := Ground.data }, { on := 13, ground := Ground.data }, { on := 3, ground := Ground.chain }, { on := 3, ground := Ground.guard }], guard := some (3, true) }) rfl (fun K hK => ?_) AllReadyH.nil
            go_simp
            refine (HCO.out _).mono ?_
            rintro e w14 ⟨rfl, t14⟩
            have hS2 := hS.trans t14 (by simp)
            refine hK.out _ _ hS2 (fun _ => ?_)
            clear hK K hS t14
            have hS := hS2
            clear hS2
            try simp only [Act.put, List.setIfInBounds_toArray, List.set_cons_zero, List.set_cons_succ]
            refine wpAnyH_take (i := 15) (oi := { dst := some 33, op := Op.binOp BinOp.lss 3 (Operand.tmp 32) (Operand.const (Value.int IntKind.i64 0)) 3, type := 4, pos := "zsortanyfunc.go:12", after := #[{ on := 14, ground := Ground.data }, { on := 3, ground := Ground.guard }], guard := some (3, true) }) (v := .bool false) rfl (by kernel_rfl) (by kernel_rfl) (by kernel_rfl) (fun _ _ _ h => h) (Or.inl ⟨by rfl, fun w' hw => by (have q := hls; go_simp)⟩) hS ?_
            try simp only [Act.put, List.setIfInBounds_toArray, List.set_cons_zero, List.set_cons_succ]
            refine wpAnyH_take (i := 16) (oi := { dst := some 34, op := Op.pick (Operand.tmp 21) (Operand.tmp 33) (Operand.const (Value.bool false)), type := 4, pos := "zsortanyfunc.go:12", after := #[{ on := 3, ground := Ground.data }, { on := 15, ground := Ground.data }], guard := none }) (v := .bool false) rfl (by kernel_rfl) (by kernel_rfl) (by kernel_rfl) (fun _ _ _ h => h) (Or.inl ⟨by rfl, fun w' hw => by go_simp⟩) hS ?_
            try simp only [Act.put, List.setIfInBounds_toArray, List.set_cons_zero, List.set_cons_succ]
            refine wpAnyH_done (by kernel_rfl) ?_ _
            try simp only [Act.put, List.setIfInBounds_toArray, List.set_cons_zero, List.set_cons_succ]
            have hrow2 := hS.owns HROWd.out (by simp)
            rw [HFIN.out] at hrow2
            go_wp2_with fail
            go_roundw
            case rel => exact ⟨k0 + 1, by have := HI.out; omega, by have := HI.out; simp; omega, by rw [HTQ.out]; exact hrow2, HTd.out.trans hS (by simp)⟩
            case measure => simp [intOf]; omega
        · have hgaN : J ≤ a := by omega
          have HFIN := Lib.hid (show L = tar by rw [← HBUB.out]; exact (bubble_stop a J L (by omega)).symm)
          go_wp2_with fail
          refine wp_region_held (S := Touch [] wr.drew) (by kernel_rfl) ?_
          change wpAnyH _ _ _ _ _ _ _ _ wr.drew
          have HTd := Lib.hid (HT.out.drew)
          have HROWd := Lib.hid (show wr.drew.ownsRow 0 28 17 (.slice (some ⟨g, 0, none⟩) n c) n (L.map Ad.cells).flatten from HROW.out)
          clear HT HROW
          generalize wr.drew = W at *
          have hS := Touch.refl [] W
          refine wpAnyH_take (i := 0) (oi := { dst := some 18, op := Op.move (Operand.tmp 9), type := 3, pos := "zsortanyfunc.go:12", after := #[], guard := none }) (v := .int .i64 (J : Nat)) rfl (by kernel_rfl) (by kernel_rfl) (by kernel_rfl) (fun _ _ _ h => h) (Or.inl ⟨by rfl, fun w' hw => by go_simp⟩) hS ?_
          try simp only [Act.put, List.setIfInBounds_toArray, List.set_cons_zero, List.set_cons_succ]
          refine wpAnyH_take (i := 1) (oi := { dst := some 19, op := Op.move (Operand.tmp 1), type := 3, pos := "zsortanyfunc.go:12", after := #[], guard := none }) (v := .int .i64 (a : Nat)) rfl (by kernel_rfl) (by kernel_rfl) (by kernel_rfl) (fun _ _ _ h => h) (Or.inl ⟨by rfl, fun w' hw => by go_simp⟩) hS ?_
          try simp only [Act.put, List.setIfInBounds_toArray, List.set_cons_zero, List.set_cons_succ]
          refine wpAnyH_take (i := 2) (oi := { dst := some 20, op := Op.binOp BinOp.gtr 3 (Operand.tmp 18) (Operand.tmp 19) 3, type := 4, pos := "zsortanyfunc.go:12", after := #[{ on := 0, ground := Ground.data }, { on := 1, ground := Ground.data }], guard := none }) (v := .bool false) rfl (by kernel_rfl) (by kernel_rfl) (by kernel_rfl) (fun _ _ _ h => h) (Or.inl ⟨by rfl, fun w' hw => by (have q := hgaN; go_simp)⟩) hS ?_
          try simp only [Act.put, List.setIfInBounds_toArray, List.set_cons_zero, List.set_cons_succ]
          refine wpAnyH_take (i := 3) (oi := { dst := some 21, op := Op.move (Operand.tmp 20), type := 4, pos := "zsortanyfunc.go:12", after := #[{ on := 2, ground := Ground.data }], guard := none }) (v := .bool false) rfl (by kernel_rfl) (by kernel_rfl) (by kernel_rfl) (fun _ _ _ h => h) (Or.inl ⟨by rfl, fun w' hw => by go_simp⟩) hS ?_
          try simp only [Act.put, List.setIfInBounds_toArray, List.set_cons_zero, List.set_cons_succ]
          refine wpAnyH_take (i := 4) (oi := { dst := some 22, op := Op.move (Operand.tmp 3), type := 43, pos := "zsortanyfunc.go:12", after := #[{ on := 3, ground := Ground.guard }], guard := some (3, true) }) (v := undef) rfl (by kernel_rfl) (by kernel_rfl) (by kernel_rfl) (fun _ _ _ h => h) (Or.inr ⟨by rfl, rfl⟩) hS ?_
          try simp only [Act.put, List.setIfInBounds_toArray, List.set_cons_zero, List.set_cons_succ]
          refine wpAnyH_take (i := 5) (oi := { dst := some 23, op := Op.move (Operand.tmp 0), type := 22, pos := "zsortanyfunc.go:12", after := #[{ on := 3, ground := Ground.guard }], guard := some (3, true) }) (v := undef) rfl (by kernel_rfl) (by kernel_rfl) (by kernel_rfl) (fun _ _ _ h => h) (Or.inr ⟨by rfl, rfl⟩) hS ?_
          try simp only [Act.put, List.setIfInBounds_toArray, List.set_cons_zero, List.set_cons_succ]
          refine wpAnyH_take (i := 6) (oi := { dst := some 24, op := Op.move (Operand.tmp 9), type := 3, pos := "zsortanyfunc.go:12", after := #[{ on := 3, ground := Ground.guard }], guard := some (3, true) }) (v := undef) rfl (by kernel_rfl) (by kernel_rfl) (by kernel_rfl) (fun _ _ _ h => h) (Or.inr ⟨by rfl, rfl⟩) hS ?_
          try simp only [Act.put, List.setIfInBounds_toArray, List.set_cons_zero, List.set_cons_succ]
          refine wpAnyH_take (i := 7) (oi := { dst := some 25, op := Op.indexAddr 22 (Operand.tmp 23) (Operand.tmp 24), type := 0, pos := "zsortanyfunc.go:12", after := #[{ on := 5, ground := Ground.data }, { on := 6, ground := Ground.data }, { on := 3, ground := Ground.guard }], guard := some (3, true) }) (v := undef) rfl (by kernel_rfl) (by kernel_rfl) (by kernel_rfl) (fun _ _ _ h => h) (Or.inr ⟨by rfl, rfl⟩) hS ?_
          try simp only [Act.put, List.setIfInBounds_toArray, List.set_cons_zero, List.set_cons_succ]
          refine wpAnyH_take (i := 8) (oi := { dst := some 26, op := Op.load 28 (Operand.tmp 25), type := 28, pos := "zsortanyfunc.go:12", after := #[{ on := 7, ground := Ground.data }, { on := 3, ground := Ground.guard }], guard := some (3, true) }) (v := undef) rfl (by kernel_rfl) (by kernel_rfl) (by kernel_rfl) (fun _ _ _ h => h) (Or.inr ⟨by rfl, rfl⟩) hS ?_
          try simp only [Act.put, List.setIfInBounds_toArray, List.set_cons_zero, List.set_cons_succ]
          refine wpAnyH_take (i := 9) (oi := { dst := some 27, op := Op.move (Operand.tmp 0), type := 22, pos := "zsortanyfunc.go:12", after := #[{ on := 3, ground := Ground.guard }], guard := some (3, true) }) (v := undef) rfl (by kernel_rfl) (by kernel_rfl) (by kernel_rfl) (fun _ _ _ h => h) (Or.inr ⟨by rfl, rfl⟩) hS ?_
          try simp only [Act.put, List.setIfInBounds_toArray, List.set_cons_zero, List.set_cons_succ]
          refine wpAnyH_take (i := 10) (oi := { dst := some 28, op := Op.move (Operand.tmp 9), type := 3, pos := "zsortanyfunc.go:12", after := #[{ on := 3, ground := Ground.guard }], guard := some (3, true) }) (v := undef) rfl (by kernel_rfl) (by kernel_rfl) (by kernel_rfl) (fun _ _ _ h => h) (Or.inr ⟨by rfl, rfl⟩) hS ?_
          try simp only [Act.put, List.setIfInBounds_toArray, List.set_cons_zero, List.set_cons_succ]
          refine wpAnyH_take (i := 11) (oi := { dst := some 29, op := Op.binOp BinOp.sub 3 (Operand.tmp 28) (Operand.const (Value.int IntKind.i64 1)) 3, type := 3, pos := "zsortanyfunc.go:12", after := #[{ on := 10, ground := Ground.data }, { on := 3, ground := Ground.guard }], guard := some (3, true) }) (v := undef) rfl (by kernel_rfl) (by kernel_rfl) (by kernel_rfl) (fun _ _ _ h => h) (Or.inr ⟨by rfl, rfl⟩) hS ?_
          try simp only [Act.put, List.setIfInBounds_toArray, List.set_cons_zero, List.set_cons_succ]
          refine wpAnyH_take (i := 12) (oi := { dst := some 30, op := Op.indexAddr 22 (Operand.tmp 27) (Operand.tmp 29), type := 0, pos := "zsortanyfunc.go:12", after := #[{ on := 9, ground := Ground.data }, { on := 11, ground := Ground.data }, { on := 3, ground := Ground.guard }], guard := some (3, true) }) (v := undef) rfl (by kernel_rfl) (by kernel_rfl) (by kernel_rfl) (fun _ _ _ h => h) (Or.inr ⟨by rfl, rfl⟩) hS ?_
          try simp only [Act.put, List.setIfInBounds_toArray, List.set_cons_zero, List.set_cons_succ]
          refine wpAnyH_take (i := 13) (oi := { dst := some 31, op := Op.load 28 (Operand.tmp 30), type := 28, pos := "zsortanyfunc.go:12", after := #[{ on := 12, ground := Ground.data }, { on := 3, ground := Ground.guard }], guard := some (3, true) }) (v := undef) rfl (by kernel_rfl) (by kernel_rfl) (by kernel_rfl) (fun _ _ _ h => h) (Or.inr ⟨by rfl, rfl⟩) hS ?_
          try simp only [Act.put, List.setIfInBounds_toArray, List.set_cons_zero, List.set_cons_succ]
          refine wpAnyH_take (i := 14) (oi := { dst := some 32, op := Op.call { callee := Callee.value (Operand.tmp 22), args := #[Operand.tmp 26, Operand.tmp 31], argTypes := #[28, 28] }, type := 3, pos := "zsortanyfunc.go:12", after := #[{ on := 4, ground := Ground.data }, { on := 8, ground := Ground.data }, { on := 13, ground := Ground.data }, { on := 3, ground := Ground.chain }, { on := 3, ground := Ground.guard }], guard := some (3, true) }) (v := undef) rfl (by kernel_rfl) (by kernel_rfl) (by kernel_rfl) (fun _ _ _ h => h) (Or.inr ⟨by rfl, rfl⟩) hS ?_
          try simp only [Act.put, List.setIfInBounds_toArray, List.set_cons_zero, List.set_cons_succ]
          refine wpAnyH_take (i := 15) (oi := { dst := some 33, op := Op.binOp BinOp.lss 3 (Operand.tmp 32) (Operand.const (Value.int IntKind.i64 0)) 3, type := 4, pos := "zsortanyfunc.go:12", after := #[{ on := 14, ground := Ground.data }, { on := 3, ground := Ground.guard }], guard := some (3, true) }) (v := undef) rfl (by kernel_rfl) (by kernel_rfl) (by kernel_rfl) (fun _ _ _ h => h) (Or.inr ⟨by rfl, rfl⟩) hS ?_
          try simp only [Act.put, List.setIfInBounds_toArray, List.set_cons_zero, List.set_cons_succ]
          refine wpAnyH_take (i := 16) (oi := { dst := some 34, op := Op.pick (Operand.tmp 21) (Operand.tmp 33) (Operand.const (Value.bool false)), type := 4, pos := "zsortanyfunc.go:12", after := #[{ on := 3, ground := Ground.data }, { on := 15, ground := Ground.data }], guard := none }) (v := .bool false) rfl (by kernel_rfl) (by kernel_rfl) (by kernel_rfl) (fun _ _ _ h => h) (Or.inl ⟨by rfl, fun w' hw => by go_simp⟩) hS ?_
          try simp only [Act.put, List.setIfInBounds_toArray, List.set_cons_zero, List.set_cons_succ]
          refine wpAnyH_done (by kernel_rfl) ?_ _
          try simp only [Act.put, List.setIfInBounds_toArray, List.set_cons_zero, List.set_cons_succ]
          have hrow2 := hS.owns HROWd.out (by simp)
          rw [HFIN.out] at hrow2
          go_wp2_with fail
          go_roundw
          case rel => exact ⟨k0 + 1, by have := HI.out; omega, by have := HI.out; simp; omega, by rw [HTQ.out]; exact hrow2, HTd.out.trans hS (by simp)⟩
          case measure => simp [intOf]; omega
    · have hke : b - (a + 1) = k0 := by omega
      rw [← hke] at hrow
      go_wp2_with fail
      exact end0 rfl rfl ⟨rfl, hrow, HT0.out⟩
end Go.Proofs.YtecaakgpogabjaaDoor

/-
  The contracts of Clone, SortStableFunc (at most twenty elements) and Sort.
-/
namespace Go.Proofs.YtecaakgpogabjaaDoor
open Go.RowKit
set_option linter.unusedVariables false
set_option linter.unusedSimpArgs false

set_option maxRecDepth 100000 in
set_option maxHeartbeats 1000000 in
theorem clone_any (v : Value) (b : Nat) (l : List Ad) (w : World) (hv : Rd w 17 b v (l.map Ad.cells)) (hl : l.length ≤ 1000000) :
    Calls Tryd.prog 24 #[v] w fun e w' => ∃ v', e = .returned v' ∧ OwnA w w' v' l ∧ Touch [] w w' := by
  obtain ⟨iA, hiA, hzA, hsA, hbA⟩ := info_parts info28
  obtain ⟨a, cap, rfl, hlc, hcm⟩ := hv.form
  rw [List.length_map] at hv hlc ⊢
  obtain ⟨hnone, hnews⟩ := hv.news (by omega) (ads_len17 l)
  cases a with
  | none =>
    have hq1 := fun w => Lib.run_eql_slice_nil_nil (P := Tryd.prog) w 0 0 Tryd.underlying22
    obtain ⟨h0, hc0⟩ := hnone rfl
    have hl0 : l = [] := List.eq_nil_of_length_eq_zero h0
    subst hl0 hc0
    go_enter Tryd.func24, Tryd.ntmps24
    go_wp2_with fail
    go_ret
    exact ⟨_, rfl, Own.nil _ _, Touch.refl _ _⟩
  | some ad =>
    have hq1 := fun w => Lib.run_eql_slice_some_nil (P := Tryd.prog) w ad l.length cap Tryd.underlying22
    have HN := Lib.hid (hnews ad rfl)
    have HA := Lib.hid ((Touch.refl [] w).alloc (.cells #[] 28))
    have HG := Lib.hid (heap_alloc_new w (.cells #[] 28))
    have hrow : (w.alloc (.cells #[] 28)).ownsRow 0 28 17 (.slice (some ⟨w.heap.size, 0, none⟩) 0 0) 0 [] := ⟨rfl, .inr ⟨w.heap.size, 0, #[], rfl, by omega, HG.out, by omega, by simp [maxLen], rfl, rfl⟩⟩
    have HNN := Lib.hid (show ∀ ad', some ad = some ad' → ∀ j u, (l.map Ad.cells).flatten[j]? = some u → (w.alloc (.cells #[] 28)).cell? (ad'.add j) = some u from fun ad' e j u hu => by cases e; exact HA.out.cell (HN.out j u hu) (by simp))
    have hflat := ads_flat l
    have HFL := Lib.hid hflat
    clear hnone hnews hv hflat
    go_enter Tryd.func24, Tryd.ntmps24
    go_wp2_with (at_builtin; refine wpList_app _ (by rfl) _ _ 22 (by rfl) 28 iA _ 17 17 Tryd.underlying22 hiA hzA hsA hbA rfl (by omega) _ 0 [] (by rfl) hrow (some ad) l.length cap ((l.map Ad.cells).flatten) (by rfl) HFL.out (by intro h; cases h) HNN.out (ads_one (by intro x hx; obtain ⟨y, _, rfl⟩ := List.mem_map.1 hx; exact y.is)) (by unfold maxLen; omega) (by omega) ?_)
    intro vo w2 ho t2 hv2
    have hown : OwnA w w2 vo l := by
      refine ⟨?_, ?_⟩
      · rw [List.length_map]
        simpa using ho
      · intro g hg
        rcases hv2 with e | e
        · rw [e] at hg
          simp [Value.ownBlock] at hg
          omega
        · rw [e] at hg
          simp at hg
          omega
    have ht2 : Touch [] w w2 := HA.out.trans t2 (by intro y hy; right; simp [Value.ownBlock] at hy; omega)
    go_wp2_with fail
    go_ret
    exact ⟨_, rfl, hown, ht2⟩
set_option maxRecDepth 100000 in
set_option maxHeartbeats 1000000 in
theorem ins_nil (v cv : Value) (w : World) : Calls Tryd.prog 39 #[v, .int .i64 0, .int .i64 0, cv] w fun e w' => e = .returned (.tuple #[]) ∧ w = w' := by
  go_enter Tryd.func39, Tryd.ntmps39
  go_wp2_with fail
  go_loopw [8] (fun vi wr => vi = .int .i64 1 ∧ w = wr) (fun _ _ => 0)
  case atStart => exact ⟨rfl, rfl⟩
  case round =>
    obtain ⟨rfl, hwr⟩ := hrel
    subst hwr
    go_wp2_with fail
    exact end0 rfl rfl ⟨rfl, rfl⟩
/-- The sorted list. -/
def sortP (l : List Ad) : List Ad := isortN l 0 (l.length - 1)
set_option maxRecDepth 100000 in
set_option maxHeartbeats 1000000 in
theorem stable_any (w0 : World) (v : Value) (l : List Ad) (hl : l.length ≤ 20) (w : World) (hz0 : w0.heap.size ≤ w.heap.size) (ho : OwnA w0 w v l) :
    Calls Tryd.prog 32 #[v, .int .i64 l.length, .func (.func 26) #[] #[]] w fun e w' => e = .returned (.tuple #[]) ∧ OwnA w0 w' v (sortP l) ∧ Touch v.ownBlock.toList w w' := by
  obtain ⟨a, c, rfl, hlc, hcm, hat⟩ := ho.form
  have hslen : (sortP l).length = l.length := isortN_len _ _ _
  by_cases h0 : l.length = 0
  · have hl0 : l = [] := List.eq_nil_of_length_eq_zero h0
    subst hl0
    have HO := Lib.hid ho
    clear ho hat hlc hslen h0 hl
    go_enter Tryd.func32, Tryd.ntmps32
    go_wp2_with fail
    go_loopw [7, 8] (fun va vi wr => va = .int .i64 0 ∧ vi = .int .i64 20 ∧ w = wr) (fun _ _ _ => 0)
    case atStart => exact ⟨rfl, rfl, rfl⟩
    case round =>
      obtain ⟨rfl, rfl, hwr⟩ := hrel
      subst hwr
      go_wp2_with fail
      refine (ins_nil _ _ _).mono ?_
      rintro e w2 ⟨rfl, rfl⟩
      go_wp2_with fail
      go_loopw [6] (fun vi wr => vi = .int .i64 20 ∧ w = wr) (fun _ _ => 0)
      case atStart => exact ⟨rfl, rfl⟩
      case round =>
        obtain ⟨rfl, hwr⟩ := hrel
        subst hwr
        go_wp2_with fail
        exact end0 rfl rfl ⟨rfl, HO.out, Touch.refl _ _⟩
  · obtain ⟨g, rfl⟩ := hat (by omega)
    have HNEW := Lib.hid ho.new
    have hn20 := hl
    have hrow := ho.row'
    obtain ⟨n, hn⟩ : ∃ n, l.length = n := ⟨_, rfl⟩
    have hss : sortP l = isortN l 0 (n - 1) := by rw [← hn]; rfl
    have HN := Lib.hid hn
    rw [hn] at hl hn20 hlc hslen hrow h0 ⊢
    have HS := Lib.hid hss
    have HROW := Lib.hid hrow
    have HSL := Lib.hid hslen
    clear ho hat hrow hss hn hslen
    go_enter Tryd.func32, Tryd.ntmps32
    go_wp2_with fail
    go_loopw [7, 8] (fun va vi wr => Touch [g] w wr ∧ ((va = .int .i64 0 ∧ vi = .int .i64 20 ∧ w = wr) ∨ (va = .int .i64 20 ∧ vi = .int .i64 40 ∧ n = 20 ∧ wr.ownsRow 0 28 17 (.slice (some ⟨g, 0, none⟩) n c) n ((sortP l).map Ad.cells).flatten))) (fun _ vi _ => 60 - (intOf vi).toNat)
    case atStart => exact ⟨Touch.refl _ _, .inl ⟨rfl, rfl, rfl⟩⟩
    case round =>
      obtain ⟨ht, ⟨rfl, rfl, hwr⟩ | ⟨rfl, rfl, h20, hrow2⟩⟩ := hrel
      · subst hwr
        have HINS := Lib.hid (ins_any g n c l 0 n HN.out (Nat.le_refl _) (by omega) (by omega) w HROW.out)
        by_cases h20 : n = 20
        · have hge : (20 : Int) ≤ (n : Int) := by omega
          have H20 := Lib.hid h20
          have HINS := Lib.hid (ins_any g n c l 0 20 HN.out (by omega) (by omega) (by omega) w HROW.out)
          clear h20
          go_wp2_with fail
          refine HINS.out.mono ?_
          rintro e w2 ⟨rfl, hrow2, t2⟩
          rw [show 20 - (0 + 1) = n - 1 by have := H20.out; omega] at hrow2
          have HR2 := Lib.hid hrow2
          go_wp2_with fail
          go_roundw
          case rel => exact ⟨t2, .inr ⟨rfl, rfl, H20.out, by rw [HS.out]; exact HR2.out⟩⟩
          case measure => simp [intOf]
        · have hnlt : (n : Int) < 20 := by omega
          go_wp2_with fail
          refine HINS.out.mono ?_
          rintro e w2 ⟨rfl, hrow2, t2⟩
          have HR2 := Lib.hid hrow2
          have HT2 := Lib.hid t2
          clear hrow2 t2
          go_wp2_with fail
          go_loopw [6] (fun vi wr => vi = .int .i64 20 ∧ w2 = wr) (fun _ _ => 0)
          case atStart => exact ⟨rfl, rfl⟩
          case round =>
            obtain ⟨rfl, hwr⟩ := hrel
            subst hwr
            go_wp2_with fail
            exact end0 rfl rfl ⟨rfl, ⟨by rw [List.length_map, HSL.out, HS.out]; exact HR2.out, HNEW.out⟩, by simpa [Value.ownBlock] using HT2.out⟩
      · have hge : ¬ (40 : Int) ≤ (n : Int) := by omega
        have hlt : ¬ (20 : Int) < (n : Int) := by omega
        have H20 := Lib.hid h20
        have HR2 := Lib.hid hrow2
        have HT2 := Lib.hid ht
        have HINS := Lib.hid (ins_any g n c (sortP l) 20 n HSL.out (Nat.le_refl _) (by omega) (by omega) wr HR2.out)
        clear hrow2 ht h20
        go_wp2_with fail
        refine HINS.out.mono ?_
        rintro e w2 ⟨rfl, hrow3, t3⟩
        rw [show n - (20 + 1) = 0 by have := H20.out; omega] at hrow3
        have HR3 := Lib.hid hrow3
        have HT3 := Lib.hid (HT2.out.trans t3 (by simp))
        clear hrow3 t3
        go_wp2_with fail
        go_loopw [6] (fun vi wr => vi = .int .i64 20 ∧ w2 = wr) (fun _ _ => 0)
        case atStart => exact ⟨rfl, rfl⟩
        case round =>
          obtain ⟨rfl, hwr⟩ := hrel
          subst hwr
          go_wp2_with fail
          exact end0 rfl rfl ⟨rfl, ⟨by rw [List.length_map, HSL.out]; exact HR3.out, HNEW.out⟩, by simpa [Value.ownBlock] using HT3.out⟩
set_option maxRecDepth 100000 in
set_option maxHeartbeats 1000000 in
theorem ssf_any (w0 : World) (v : Value) (l : List Ad) (hl : l.length ≤ 20) (w : World) (hz0 : w0.heap.size ≤ w.heap.size) (ho : OwnA w0 w v l) :
    Calls Tryd.prog 25 #[v, .func (.func 26) #[] #[]] w fun e w' => e = .returned (.tuple #[]) ∧ OwnA w0 w' v (sortP l) ∧ Touch v.ownBlock.toList w w' := by
  have HST := Lib.hid (stable_any w0 v l hl w hz0 ho)
  obtain ⟨a, c, rfl, _⟩ := ho.form
  clear ho
  go_enter Tryd.func25, Tryd.ntmps25
  go_wp2_with fail
  refine HST.out.mono ?_
  rintro e w2 ⟨rfl, h2, t2⟩
  go_wp2_with fail
  exact end0 rfl rfl ⟨rfl, h2, t2⟩
set_option maxRecDepth 100000 in
set_option maxHeartbeats 1000000 in
theorem sort_any (v : Value) (b : Nat) (l : List Ad) (w : World) (hv : Rd w 17 b v (l.map Ad.cells)) (hl : l.length ≤ 20) :
    Calls Tryd.prog 10 #[v] w fun e w' => ∃ v', e = .returned v' ∧ OwnA w w' v' (sortP l) ∧ Touch [] w w' := by
  have HCL := Lib.hid (clone_any v b l w hv (by omega))
  go_enter Tryd.func10, Tryd.ntmps10
  go_wp2_with fail
  refine HCL.out.mono ?_
  rintro e w2 ⟨v2, rfl, h2, t2⟩
  have HSS := Lib.hid (ssf_any w v2 l hl w2 t2.size h2)
  go_wp2_with fail
  refine HSS.out.mono ?_
  rintro e w3 ⟨rfl, h3, t3⟩
  have ht3 : Touch [] w w3 := t2.trans t3 (fun y hy => .inr (h2.new y (by simpa using hy)))
  clear HSS HCL t2 t3 h2
  go_wp2_with fail
  go_ret
  exact ⟨_, rfl, h3, ht3⟩
end Go.Proofs.YtecaakgpogabjaaDoor

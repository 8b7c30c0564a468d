/-
  The contract of heapOrdered.
-/
import Derived.Test.YtpbabdoecjlifaaBo
namespace Go.Proofs.Ytpbabdoecjlifaa
open Go.RowKit Go.Sort
set_option linter.unusedVariables false
set_option linter.unusedSimpArgs false

def OrdRel (w : World) (its : List Itm) (vids vi : Value) (wr : World) : Prop := ∃ (i : Nat), vi = .int .i64 i ∧ i ≤ its.length ∧ OwnN w wr vids ((its.take i).map Itm.id) ∧ Touch [] w wr
set_option maxRecDepth 100000 in
set_option maxHeartbeats 4000000 in
theorem ordered_any (h m : Nat) (v : Value) (its L : List Itm) (kv : List (Int × Value)) (last : Int) (x : Nat) (rv : Value) (w : World) (k : HB w h m v its kv last) (hp : its.Perm L) (r : Rh w x rv L last) (ha : Asc L) :
    Calls Try.prog 36 #[.pointer (some ⟨h, 0, none⟩), .pointer (some ⟨x, 0, none⟩)] w fun e w' => e = .returned (.bool true) ∧ Touch [] w w' := by
  obtain ⟨i3, z3, hi3, hz3, hs3, hb3, hc3⟩ := info_parts info3'
  obtain ⟨av, cv, rfl, hv1, hv2, hv3⟩ := r.form
  have hlen : its.length = L.length := hp.length_eq
  have hfew := r.few
  have HK := Lib.hid k
  have HP := Lib.hid hp
  have HRR := Lib.hid r
  have HA := Lib.hid ha
  clear k hp r ha
  go_enter Try.func36, Try.ntmps36
  go_wp2_with fail
  go_loopw [5, 6] (fun vids vi wr => OrdRel w its vids vi wr) (fun _ vi _ => its.length - (intOf vi).toNat)
  case atStart => exact ⟨0, rfl, by omega, ⟨World.ownsRow_nil _ _ _ _, by simp [Value.ownBlock]⟩, Touch.refl _ _⟩
  case round =>
    obtain ⟨i, rfl, hi, hon, ht⟩ := hrel
    have HT := Lib.hid ht
    have HON0 := Lib.hid hon
    have HR0 := Lib.hid (HRR.out.touch ht (by simp))
    have HB0 := Lib.hid (HK.out.touch ht (by simp))
    obtain ⟨c0, c1⟩ := HR0.out.cells
    clear hon ht
    by_cases hlt : i < its.length
    · have hy' := List.getElem?_eq_getElem hlt
      generalize its[i] = y at hy'
      obtain ⟨k, hk⟩ := mem_at (List.Perm.refl L) (HP.out.mem_iff.1 (List.mem_of_getElem? hy'))
      have hkl := (List.getElem?_eq_some_iff.1 hk).1
      have HIXY := Lib.hid (ixOf_ids HA.out.nodup hk rfl)
      have HY := Lib.hid hy'
      have HKY := Lib.hid hk
      have hb1 : (i : Int) < (L.length : Int) := by omega
      have hwi : IntKind.i64.wrap ((i : Int) + 1) = (i : Int) + 1 := by rw [IntKind.wrap_i64] <;> omega
      have hk0 : ¬ (k : Int) < 0 := by omega
      obtain ⟨ai, ci, rfl, hi1, hi2, hi3'⟩ := owns_form HON0.out.row
      have hli : ((its.take i).map Itm.id).length = i := by simp; omega
      simp only [hli] at hi1 hi3'
      have orow := HON0.out.row
      simp only [hli] at orow
      clear hy' hk
      simp only [hli] at *
      go_wp2_with fail
      refine (at_some h m v its kv last wr HB0.out i y HY.out).mono ?_
      rintro e w3 ⟨rfl, rfl⟩
      go_wp2_with fail
      refine (rfind_any x _ L last wr HR0.out y.id).mono ?_
      rintro e w3 ⟨rfl, rfl⟩
      rw [HIXY.out]
      go_wp2_with fail
      go_loopw [10] (fun vj wj => ∃ (j : Nat), vj = .int .i64 j ∧ j ≤ i ∧ wj = wr) (fun vj _ => i - (intOf vj).toNat)
      case atStart => exact ⟨0, rfl, by omega, rfl⟩
      case round =>
        obtain ⟨j, rfl, hj, rfl⟩ := hrel
        by_cases hjl : j < i
        · have hq := List.getElem?_eq_getElem (l := its) (i := j) (by omega)
          generalize its[j]'(by omega) = q at hq
          obtain ⟨gi, rfl⟩ := hi3' (by omega)
          have p0 := owns_cell orow j (.int .i64 q.id) (by simp [List.getElem?_take, hjl, hq])
          have hjb : (j : Int) < (i : Int) := by omega
          have hwj : IntKind.i64.wrap ((j : Int) + 1) = (j : Int) + 1 := by rw [IntKind.wrap_i64] <;> omega
          have hne : (q.id == y.id) = false := by
            have := ids_ne HB0.out.ids hq HY.out (by omega)
            simpa using this
          clear hq
          go_wp2_with fail
          go_roundw
          case rel => exact ⟨j + 1, by simp, by omega, by first | rfl | trivial⟩
          case measure => simp [intOf]; omega
        · have hjb : ¬ (j : Int) < (i : Int) := by omega
          have hji : j = i := by omega
          have tC := (Touch.refl [] wr).alloc (.cells #[.int .i64 y.id] 3)
          have hrow2 := orow.alloc (.cells #[.int .i64 y.id] 3)
          have hnew := one_new wr (.int .i64 y.id) 3
          have hnews : ∀ ad, (some ⟨wr.heap.size, 0, none⟩ : Option Addr) = some ad → ∀ j u, [Value.int .i64 y.id][j]? = some u → (wr.alloc (.cells #[.int .i64 y.id] 3)).cell? (ad.add j) = some u := by
            intro ad had
            cases had
            exact hnew
          clear hnew hi3' hji
          go_wp2_with (at_builtin; refine wpList_app _ (by rfl) _ _ 46 (by rfl) 3 i3 z3 1 8 Try.underlying46 hi3 hz3 hs3 hb3 hc3 (by omega) _ i _ (by rfl) hrow2 (some ⟨wr.heap.size, 0, none⟩) 1 1 [.int .i64 y.id] (by rfl) rfl (by intro h; cases h) hnews (by intro u hu; simp at hu; subst hu; rfl) (by unfold maxLen; omega) (by omega) ?_)
          intro vo w5 o5 t5 b5
          have hsz := HT.out.size
          have htk : (its.take (i + 1)).map Itm.id = (its.take i).map Itm.id ++ [y.id] := by
            rw [List.take_add_one, HY.out]
            simp
          have hlk : ((its.take (i + 1)).map Itm.id).length = i + 1 := by simp; omega
          have hon5 : OwnN w w5 vo ((its.take (i + 1)).map Itm.id) := ⟨by
            rw [hlk, htk, List.map_append]
            simpa [List.map_take] using o5, fun g' hg' => by
            rcases b5 with e | e
            · exact HON0.out.new g' (by rw [← e]; exact hg')
            · rw [e] at hg'
              simp at hg'
              omega⟩
          have T5 : Touch [] w w5 := (HT.out.trans tC (by simp)).trans t5 (by intro y hy; right; exact HON0.out.new y (by simpa using hy))
          obtain ⟨ao, ci2, rfl, _, _, hi5⟩ := owns_form o5
          have HON := Lib.hid hon5
          have HT5 := Lib.hid T5
          clear o5 t5 b5 hsz htk hlk hon5 T5 hrow2 hnews tC orow c0 c1
          try simp only [Act.put]
          by_cases hi0 : 0 < i
          · have hpi : par i < i := by unfold par; omega
            have hz' := List.getElem?_eq_getElem (l := its) (i := par i) (by omega)
            generalize its[par i]'(by omega) = z at hz'
            obtain ⟨k2, hk2⟩ := mem_at (List.Perm.refl L) (HP.out.mem_iff.1 (List.mem_of_getElem? hz'))
            have hk2l := (List.getElem?_eq_some_iff.1 hk2).1
            have HIXZ := Lib.hid (ixOf_ids HA.out.nodup hk2 rfl)
            have hle0 : le z.key y.key := HB0.out.heap i hi0 z y hz' HY.out
            have HLE := Lib.hid (show z.due < y.due ∨ (z.due = y.due ∧ z.id ≤ y.id) from hle0)
            obtain ⟨zy, hzy⟩ := HRR.out.one y (List.mem_of_getElem? HKY.out)
            obtain ⟨zz, hzz⟩ := HRR.out.one z (List.mem_of_getElem? hk2)
            have oy : y.x.oneCell' = true := by rw [hzy]; rfl
            have oz : z.x.oneCell' = true := by rw [hzz]; rfl
            obtain ⟨g, rfl, hgx⟩ := hv3 (by omega)
            obtain ⟨gi, rfl⟩ := hi5 (by omega)
            have hw1 : IntKind.i64.wrap ((i : Int) - 1) = (i : Int) - 1 := by rw [IntKind.wrap_i64] <;> omega
            have hpar : ((i : Int) - 1).tdiv 2 = ((par i : Nat) : Int) := by unfold par; rw [Int.tdiv_eq_ediv_of_nonneg (by omega)]; omega
            have hwp : IntKind.i64.wrap ((par i : Nat) : Int) = ((par i : Nat) : Int) := by rw [IntKind.wrap_i64] <;> omega
            have hi0' : (0 : Int) < (i : Int) := by omega
            have HZ := Lib.hid hz'
            have HK2 := Lib.hid hk2
            clear hz' hk2 hle0 hzy hzz hv3 hi5
            go_wp2_with fail
            have HR := Lib.hid ((HRR.out.touch HT5.out (by simp)).touch ((Touch.refl [] w5).drew) (by simp))
            have HOW := Lib.hid (HON.out.touch ((Touch.refl [] w5).drew) (by simp))
            have HTW := Lib.hid (HT5.out.trans ((Touch.refl [] w5).drew) (by simp))
            refine wp_region_held (S := Touch [] w5.drew) (by kernel_rfl) ?_
            change wpAnyH _ _ _ _ _ _ _ _ w5.drew
            have hS := Touch.refl [] w5.drew
            generalize w5.drew = W at *
            obtain ⟨c0, c1⟩ := HR.out.cells
            obtain ⟨y0, y1, y2⟩ := HR.out.elem HKY.out
            obtain ⟨z0, z1, z2⟩ := HR.out.elem HK2.out
            have orow : W.ownsRow 0 3 1 (.slice (some ⟨gi, 0, none⟩) (i + 1) ci2) (i + 1) (((its.take (i + 1)).map Itm.id).map (Value.int .i64)) := by
              have := HOW.out.row
              rwa [show ((its.take (i + 1)).map Itm.id).length = i + 1 by simp; omega] at this
            have p0 := owns_cell orow (par i) (.int .i64 z.id) (by simp [List.getElem?_take, show par i < i + 1 by omega, HZ.out])
            have hpb : ((par i : Nat) : Int) < (i : Int) + 1 := by omega
            have hp0 : (0 : Int) ≤ ((par i : Nat) : Int) := by omega
            have hkb : (k : Int) < (L.length : Int) := by omega
            have hk2b : (k2 : Int) < (L.length : Int) := by omega
            clear orow c1
            refine wpAnyH_take (i := 0) (oi := { dst := some 59, op := Op.move (Operand.tmp 1), type := 25, pos := "law.go:54", after := #[], guard := none }) (v := .pointer (some ⟨x, 0, none⟩)) rfl (by kernel_rfl) (by kernel_rfl) (by kernel_rfl) (fun _ _ _ h => h) (Or.inl ⟨by rfl, fun w' hw => by go_simp⟩) hS ?_
            try simp only [Act.put, List.setIfInBounds_toArray, List.set_cons_zero, List.set_cons_succ]
            refine wpAnyH_take (i := 1) (oi := { dst := some 60, op := Op.nilCheck (Operand.tmp 59), type := 0, pos := "law.go:54", after := #[{ on := 0, ground := Ground.data }], guard := none }) (v := .pointer (some ⟨x, 0, none⟩)) rfl (by kernel_rfl) (by kernel_rfl) (by kernel_rfl) (fun _ _ _ h => h) (Or.inl ⟨by rfl, fun w' hw => by go_simp⟩) hS ?_
            try simp only [Act.put, List.setIfInBounds_toArray, List.set_cons_zero, List.set_cons_succ]
            refine wpAnyH_take (i := 2) (oi := { dst := some 61, op := Op.fieldAddr 28 (Operand.tmp 60) 0, type := 0, pos := "law.go:54", after := #[{ on := 1, ground := Ground.data }], guard := none }) (v := .pointer (some ⟨x, 0, none⟩)) rfl (by kernel_rfl) (by kernel_rfl) (by kernel_rfl) (fun _ _ _ h => h) (Or.inl ⟨by rfl, fun w' hw => by go_simp⟩) hS ?_
            try simp only [Act.put, List.setIfInBounds_toArray, List.set_cons_zero, List.set_cons_succ]
            refine wpAnyH_take (i := 3) (oi := { dst := some 62, op := Op.load 26 (Operand.tmp 61), type := 26, pos := "law.go:54", after := #[{ on := 2, ground := Ground.data }], guard := none }) (v := .slice (some ⟨g, 0, none⟩) L.length cv) rfl (by kernel_rfl) (by kernel_rfl) (by kernel_rfl) (fun _ _ _ h => h) (Or.inl ⟨by rfl, fun w' hw => by (have q0 := hw.cell c0 (by simp); go_simp)⟩) hS ?_
            try simp only [Act.put, List.setIfInBounds_toArray, List.set_cons_zero, List.set_cons_succ]
            refine wpAnyH_take (i := 4) (oi := { dst := some 63, op := Op.move (Operand.tmp 9), type := 3, pos := "law.go:54", after := #[], guard := none }) (v := .int .i64 k) rfl (by kernel_rfl) (by kernel_rfl) (by kernel_rfl) (fun _ _ _ h => h) (Or.inl ⟨by rfl, fun w' hw => by go_simp⟩) hS ?_
            try simp only [Act.put, List.setIfInBounds_toArray, List.set_cons_zero, List.set_cons_succ]
            refine wpAnyH_take (i := 5) (oi := { dst := some 64, op := Op.indexAddr 26 (Operand.tmp 62) (Operand.tmp 63), type := 0, pos := "law.go:54", after := #[{ on := 3, ground := Ground.data }, { on := 4, ground := Ground.data }], guard := none }) (v := .pointer (some ⟨g, k * 3, none⟩)) rfl (by kernel_rfl) (by kernel_rfl) (by kernel_rfl) (fun _ _ _ h => h) (Or.inl ⟨by rfl, fun w' hw => by go_simp⟩) hS ?_
            try simp only [Act.put, List.setIfInBounds_toArray, List.set_cons_zero, List.set_cons_succ]
            refine wpAnyH_take (i := 6) (oi := { dst := some 65, op := Op.load 43 (Operand.tmp 64), type := 43, pos := "law.go:54", after := #[{ on := 5, ground := Ground.data }], guard := none }) (v := .agg #[.int .i64 y.id, .int .u64 y.due, y.x]) rfl (by kernel_rfl) (by kernel_rfl) (by kernel_rfl) (fun _ _ _ h => h) (Or.inl ⟨by rfl, fun w' hw => by (have q0 := hw.cell y0 (by simp); have q1 := hw.cell y1 (by simp); have q2 := hw.cell y2 (by simp); go_simp)⟩) hS ?_
            try simp only [Act.put, List.setIfInBounds_toArray, List.set_cons_zero, List.set_cons_succ]
            refine wpAnyH_take (i := 7) (oi := { dst := some 66, op := Op.move (Operand.tmp 1), type := 25, pos := "law.go:54", after := #[{ on := 23, ground := Ground.gcOnly Departure.lateStores }], guard := none }) (v := .pointer (some ⟨x, 0, none⟩)) rfl (by kernel_rfl) (by kernel_rfl) (by kernel_rfl) (fun _ _ _ h => h) (Or.inl ⟨by rfl, fun w' hw => by go_simp⟩) hS ?_
            try simp only [Act.put, List.setIfInBounds_toArray, List.set_cons_zero, List.set_cons_succ]
            refine wpAnyH_take (i := 8) (oi := { dst := some 67, op := Op.nilCheck (Operand.tmp 66), type := 0, pos := "law.go:54", after := #[{ on := 7, ground := Ground.data }, { on := 23, ground := Ground.gcOnly Departure.lateStores }], guard := none }) (v := .pointer (some ⟨x, 0, none⟩)) rfl (by kernel_rfl) (by kernel_rfl) (by kernel_rfl) (fun _ _ _ h => h) (Or.inl ⟨by rfl, fun w' hw => by go_simp⟩) hS ?_
            try simp only [Act.put, List.setIfInBounds_toArray, List.set_cons_zero, List.set_cons_succ]
            refine wpAnyH_take (i := 9) (oi := { dst := some 68, op := Op.fieldAddr 28 (Operand.tmp 67) 0, type := 0, pos := "law.go:54", after := #[{ on := 8, ground := Ground.data }, { on := 23, ground := Ground.gcOnly Departure.lateStores }], guard := none }) (v := .pointer (some ⟨x, 0, none⟩)) rfl (by kernel_rfl) (by kernel_rfl) (by kernel_rfl) (fun _ _ _ h => h) (Or.inl ⟨by rfl, fun w' hw => by go_simp⟩) hS ?_
            try simp only [Act.put, List.setIfInBounds_toArray, List.set_cons_zero, List.set_cons_succ]
            refine wpAnyH_take (i := 10) (oi := { dst := some 69, op := Op.load 26 (Operand.tmp 68), type := 26, pos := "law.go:54", after := #[{ on := 9, ground := Ground.data }, { on := 23, ground := Ground.gcOnly Departure.lateStores }], guard := none }) (v := .slice (some ⟨g, 0, none⟩) L.length cv) rfl (by kernel_rfl) (by kernel_rfl) (by kernel_rfl) (fun _ _ _ h => h) (Or.inl ⟨by rfl, fun w' hw => by (have q0 := hw.cell c0 (by simp); go_simp)⟩) hS ?_
            try simp only [Act.put, List.setIfInBounds_toArray, List.set_cons_zero, List.set_cons_succ]
            refine wpAnyH_take (i := 11) (oi := { dst := some 70, op := Op.move (Operand.tmp 1), type := 25, pos := "law.go:54", after := #[], guard := none }) (v := .pointer (some ⟨x, 0, none⟩)) rfl (by kernel_rfl) (by kernel_rfl) (by kernel_rfl) (fun _ _ _ h => h) (Or.inl ⟨by rfl, fun w' hw => by go_simp⟩) hS ?_
            try simp only [Act.put, List.setIfInBounds_toArray, List.set_cons_zero, List.set_cons_succ]
            refine wpAnyH_take (i := 12) (oi := { dst := some 71, op := Op.move (Operand.tmp 5), type := 46, pos := "law.go:54", after := #[], guard := none }) (v := .slice (some ⟨gi, 0, none⟩) (i + 1) ci2) rfl (by kernel_rfl) (by kernel_rfl) (by kernel_rfl) (fun _ _ _ h => h) (Or.inl ⟨by rfl, fun w' hw => by go_simp⟩) hS ?_
            try simp only [Act.put, List.setIfInBounds_toArray, List.set_cons_zero, List.set_cons_succ]
            refine wpAnyH_take (i := 13) (oi := { dst := some 72, op := Op.move (Operand.tmp 6), type := 3, pos := "law.go:54", after := #[], guard := none }) (v := .int .i64 i) rfl (by kernel_rfl) (by kernel_rfl) (by kernel_rfl) (fun _ _ _ h => h) (Or.inl ⟨by rfl, fun w' hw => by go_simp⟩) hS ?_
            try simp only [Act.put, List.setIfInBounds_toArray, List.set_cons_zero, List.set_cons_succ]
            refine wpAnyH_take (i := 14) (oi := { dst := some 73, op := Op.binOp BinOp.sub 3 (Operand.tmp 72) (Operand.const (Value.int IntKind.i64 1)) 3, type := 3, pos := "law.go:54", after := #[{ on := 13, ground := Ground.data }], guard := none }) (v := .int .i64 ((i : Int) - 1)) rfl (by kernel_rfl) (by kernel_rfl) (by kernel_rfl) (fun _ _ _ h => h) (Or.inl ⟨by rfl, fun w' hw => by go_simp⟩) hS ?_
            try simp only [Act.put, List.setIfInBounds_toArray, List.set_cons_zero, List.set_cons_succ]
            refine wpAnyH_take (i := 15) (oi := { dst := some 74, op := Op.binOp BinOp.quo 3 (Operand.tmp 73) (Operand.const (Value.int IntKind.i64 2)) 3, type := 3, pos := "law.go:54", after := #[{ on := 14, ground := Ground.data }], guard := none }) (v := .int .i64 (par i : Nat)) rfl (by kernel_rfl) (by kernel_rfl) (by kernel_rfl) (fun _ _ _ h => h) (Or.inl ⟨by rfl, fun w' hw => by go_simp⟩) hS ?_
            try simp only [Act.put, List.setIfInBounds_toArray, List.set_cons_zero, List.set_cons_succ]
            refine wpAnyH_take (i := 16) (oi := { dst := some 75, op := Op.indexAddr 46 (Operand.tmp 71) (Operand.tmp 74), type := 0, pos := "law.go:54", after := #[{ on := 12, ground := Ground.data }, { on := 15, ground := Ground.data }], guard := none }) (v := .pointer (some ⟨gi, par i, none⟩)) rfl (by kernel_rfl) (by kernel_rfl) (by kernel_rfl) (fun _ _ _ h => h) (Or.inl ⟨by rfl, fun w' hw => by go_simp⟩) hS ?_
            try simp only [Act.put, List.setIfInBounds_toArray, List.set_cons_zero, List.set_cons_succ]
            refine wpAnyH_take (i := 17) (oi := { dst := some 76, op := Op.load 3 (Operand.tmp 75), type := 3, pos := "law.go:54", after := #[{ on := 16, ground := Ground.data }], guard := none }) (v := .int .i64 z.id) rfl (by kernel_rfl) (by kernel_rfl) (by kernel_rfl) (fun _ _ _ h => h) (Or.inl ⟨by rfl, fun w' hw => by (have q0 := hw.cell p0 (by simp); go_simp)⟩) hS ?_
            try simp only [Act.put, List.setIfInBounds_toArray, List.set_cons_zero, List.set_cons_succ]
            refine wpAnyH_ready (rs := [18, 21, 22]) (by kernel_rfl) (by simp) ?_
            refine AllReadyH.cons (o := { dst := some 77, op := Op.call { callee := Callee.value (Operand.func 10), args := #[Operand.tmp 70, Operand.tmp 76], argTypes := #[25, 3] }, type := 3, pos := "law.go:54", after := #[{ on := 11, ground := Ground.data }, { on := 17, ground := Ground.data }], guard := none }) rfl (fun K hK => ?_) (AllReadyH.cons (o := { dst := some 11, op := Op.alloc 43, type := 0, pos := "law.go:54", after := #[], guard := none }) rfl (fun K hK => ?_) (AllReadyH.cons (o := { dst := some 12, op := Op.alloc 43, type := 0, pos := "law.go:54", after := #[], guard := none }) rfl (fun K hK => ?_) AllReadyH.nil))
            · go_simp
              refine (rfind_any x _ L last W (HR.out.touch hS (by simp)) z.id).mono ?_
              rintro e w' ⟨rfl, rfl⟩
              rw [HIXZ.out]
              refine hK.out _ _ hS (fun _ => ?_)
              clear hK K
              try simp only [Act.put, List.setIfInBounds_toArray, List.set_cons_zero, List.set_cons_succ]
              refine wpAnyH_take (i := 19) (oi := { dst := some 78, op := Op.indexAddr 26 (Operand.tmp 69) (Operand.tmp 77), type := 0, pos := "law.go:54", after := #[{ on := 10, ground := Ground.data }, { on := 18, ground := Ground.data }, { on := 23, ground := Ground.gcOnly Departure.lateStores }], guard := none }) (v := .pointer (some ⟨g, k2 * 3, none⟩)) rfl (by kernel_rfl) (by kernel_rfl) (by kernel_rfl) (fun _ _ _ h => h) (Or.inl ⟨by rfl, fun w' hw => by go_simp⟩) hS ?_
              try simp only [Act.put, List.setIfInBounds_toArray, List.set_cons_zero, List.set_cons_succ]
              refine wpAnyH_take (i := 20) (oi := { dst := some 79, op := Op.load 43 (Operand.tmp 78), type := 43, pos := "law.go:54", after := #[{ on := 19, ground := Ground.data }, { on := 23, ground := Ground.gcOnly Departure.lateStores }], guard := none }) (v := .agg #[.int .i64 z.id, .int .u64 z.due, z.x]) rfl (by kernel_rfl) (by kernel_rfl) (by kernel_rfl) (fun _ _ _ h => h) (Or.inl ⟨by rfl, fun w' hw => by (have q0 := hw.cell z0 (by simp); have q1 := hw.cell z1 (by simp); have q2 := hw.cell z2 (by simp); go_simp)⟩) hS ?_
              try simp only [Act.put, List.setIfInBounds_toArray, List.set_cons_zero, List.set_cons_succ]
              refine wpAnyH_ready (rs := [21, 22]) (by kernel_rfl) (by simp) ?_
              refine AllReadyH.cons (o := { dst := some 11, op := Op.alloc 43, type := 0, pos := "law.go:54", after := #[], guard := none }) rfl (fun K hK => ?_) (AllReadyH.cons (o := { dst := some 12, op := Op.alloc 43, type := 0, pos := "law.go:54", after := #[], guard := none }) rfl (fun K hK => ?_) AllReadyH.nil)
              · go_simp
                have tb := (Touch.refl [] W).alloc (.cells #[.int .i64 0, .int .u64 0, .int .i64 0] 43)
                have gA := heap_alloc_new W (.cells #[.int .i64 0, .int .u64 0, .int .i64 0] 43)
                have lA := hS.size
                have hS2 := hS.trans tb (by simp)
                refine hK.out _ _ hS2 (fun _ => ?_)
                clear hK K hS tb
                have hS := hS2
                clear hS2
                generalize W.alloc (.cells #[.int .i64 0, .int .u64 0, .int .i64 0] 43) = V1 at *
                generalize hqA : W.heap.size = A at *
                have HqA := Lib.hid hqA
                have HLA := Lib.hid lA
                clear hqA lA
                try simp only [Act.put, List.setIfInBounds_toArray, List.set_cons_zero, List.set_cons_succ]
                refine wpAnyH_ready (rs := [22]) (by kernel_rfl) (by simp) ?_
                refine AllReadyH.cons (o := { dst := some 12, op := Op.alloc 43, type := 0, pos := "law.go:54", after := #[], guard := none }) rfl (fun K hK => ?_) AllReadyH.nil
                go_simp
                have tb := (Touch.refl [] V1).alloc (.cells #[.int .i64 0, .int .u64 0, .int .i64 0] 43)
                have gC := heap_alloc_new V1 (.cells #[.int .i64 0, .int .u64 0, .int .i64 0] 43)
                have lC := hS.size
                have nCA : A < V1.heap.size := (Array.getElem?_eq_some_iff.1 gA).1
                replace gA := tb.at gA (by simp)
                have hS2 := hS.trans tb (by simp)
                refine hK.out _ _ hS2 (fun _ => ?_)
                clear hK K hS tb
                have hS := hS2
                clear hS2
                generalize V1.alloc (.cells #[.int .i64 0, .int .u64 0, .int .i64 0] 43) = V2 at *
                generalize hqC : V1.heap.size = C at *
                have HqC := Lib.hid hqC
                have HLC := Lib.hid lC
                clear hqC lC
                try simp only [Act.put, List.setIfInBounds_toArray, List.set_cons_zero, List.set_cons_succ]
                refine wpAnyH_ready (rs := [23]) (by kernel_rfl) (by simp) ?_
                refine AllReadyH.cons (o := { dst := none, op := Op.store 43 (Operand.tmp 11) (Operand.tmp 65), type := 0, pos := "law.go:54", after := #[{ on := 21, ground := Ground.data }, { on := 6, ground := Ground.data }, { on := 18, ground := Ground.chain }, { on := 0, ground := Ground.phase }, { on := 1, ground := Ground.phase }, { on := 2, ground := Ground.phase }, { on := 3, ground := Ground.phase }, { on := 4, ground := Ground.phase }, { on := 5, ground := Ground.phase }, { on := 6, ground := Ground.phase }, { on := 7, ground := Ground.textOnly Departure.lateStores }, { on := 8, ground := Ground.textOnly Departure.lateStores }, { on := 9, ground := Ground.textOnly Departure.lateStores }, { on := 10, ground := Ground.textOnly Departure.lateStores }, { on := 11, ground := Ground.textOnly Departure.lateStores }, { on := 12, ground := Ground.textOnly Departure.lateStores }, { on := 13, ground := Ground.textOnly Departure.lateStores }, { on := 14, ground := Ground.textOnly Departure.lateStores }, { on := 15, ground := Ground.textOnly Departure.lateStores }, { on := 16, ground := Ground.textOnly Departure.lateStores }, { on := 17, ground := Ground.textOnly Departure.lateStores }, { on := 18, ground := Ground.textOnly Departure.lateStoresUnsure }, { on := 19, ground := Ground.textOnly Departure.lateStores }, { on := 20, ground := Ground.textOnly Departure.lateStores }, { on := 21, ground := Ground.phase }, { on := 22, ground := Ground.phase }], guard := none }) rfl (fun K hK => ?_) AllReadyH.nil
                refine step_of_list rfl ?_
                refine wpList_store_into rfl 43 _ _ rfl A 43 _ [.int .i64 y.id, .int .u64 y.due, y.x] (by rfl) (by rfl) gA (by rfl) size43 (by intro u hu; simp at hu; rcases hu with rfl | rfl | rfl; rfl; rfl; exact oy) ?_
                intro V3 hA ts zs
                have hS2 := hS.trans ts (by intro q hq; right; simp at hq; subst hq; have e1 := HqA.out; have e2 := HLA.out; omega)
                have gC' := ts.at (show V2.heap[C]? = _ from gC) (by simp; omega)
                refine ⟨rfl, hK.out _ _ hS2 (fun _ => ?_)⟩
                clear hK K hS ts zs gA
                have hS := hS2
                clear hS2
                clear gC
                have gC := gC'
                clear gC'
                try simp only [Act.put, List.setIfInBounds_toArray, List.set_cons_zero, List.set_cons_succ]
                refine wpAnyH_ready (rs := [24]) (by kernel_rfl) (by simp) ?_
                refine AllReadyH.cons (o := { dst := none, op := Op.store 43 (Operand.tmp 12) (Operand.tmp 79), type := 0, pos := "law.go:54", after := #[{ on := 22, ground := Ground.data }, { on := 20, ground := Ground.data }, { on := 23, ground := Ground.chain }, { on := 0, ground := Ground.phase }, { on := 1, ground := Ground.phase }, { on := 2, ground := Ground.phase }, { on := 3, ground := Ground.phase }, { on := 4, ground := Ground.phase }, { on := 5, ground := Ground.phase }, { on := 6, ground := Ground.phase }, { on := 7, ground := Ground.phase }, { on := 8, ground := Ground.phase }, { on := 9, ground := Ground.phase }, { on := 10, ground := Ground.phase }, { on := 11, ground := Ground.phase }, { on := 12, ground := Ground.phase }, { on := 13, ground := Ground.phase }, { on := 14, ground := Ground.phase }, { on := 15, ground := Ground.phase }, { on := 16, ground := Ground.phase }, { on := 17, ground := Ground.phase }, { on := 18, ground := Ground.phase }, { on := 19, ground := Ground.phase }, { on := 20, ground := Ground.phase }, { on := 21, ground := Ground.phase }, { on := 22, ground := Ground.phase }, { on := 23, ground := Ground.phase }], guard := none }) rfl (fun K hK => ?_) AllReadyH.nil
                refine step_of_list rfl ?_
                refine wpList_store_into rfl 43 _ _ rfl C 43 _ [.int .i64 z.id, .int .u64 z.due, z.x] (by rfl) (by rfl) gC (by rfl) size43 (by intro u hu; simp at hu; rcases hu with rfl | rfl | rfl; rfl; rfl; exact oz) ?_
                intro V4 hC ts zs
                have hS2 := hS.trans ts (by intro q hq; right; simp at hq; subst hq; have e1 := HqC.out; have e2 := HLC.out; omega)
                have gA' := ts.at (show V3.heap[A]? = _ from hA) (by simp; omega)
                refine ⟨rfl, hK.out _ _ hS2 (fun _ => ?_)⟩
                clear hK K hS ts zs gC
                have hS := hS2
                clear hS2
                clear hA
                have hA := gA'
                clear gA'
                try simp only [Act.put, List.setIfInBounds_toArray, List.set_cons_zero, List.set_cons_succ]
                refine wpAnyH_done (by kernel_rfl) ?_ _
                obtain ⟨a0, a1, a2⟩ := cells_three hA
                obtain ⟨d0, d1, d2⟩ := cells_three hC
                have TT := Lib.hid hS
                clear hS hA hC
                rcases HLE.out with hlt2 | ⟨heq2, hle2⟩
                · have q1 : ¬ y.due < z.due := by have : z.due < y.due := hlt2; omega
                  have q2 : (y.due == z.due) = false := by have : z.due < y.due := hlt2; simp; omega
                  clear hlt2
                  go_wp2_with fail
                  go_roundw
                  case rel => exact ⟨i + 1, by simp, by omega, HOW.out.touch TT.out (by simp), HTW.out.trans TT.out (by simp)⟩
                  case measure => simp [intOf]; omega
                · have q1 : ¬ y.due < z.due := by have : z.due = y.due := heq2; omega
                  have q2 : (y.due == z.due) = true := by have : z.due = y.due := heq2; simp; omega
                  have q3 : ¬ y.id < z.id := by have : z.id ≤ y.id := hle2; omega
                  clear heq2 hle2
                  go_wp2_with fail
                  go_roundw
                  case rel => exact ⟨i + 1, by simp, by omega, HOW.out.touch TT.out (by simp), HTW.out.trans TT.out (by simp)⟩
                  case measure => simp [intOf]; omega
              · go_simp
                have tb := (Touch.refl [] W).alloc (.cells #[.int .i64 0, .int .u64 0, .int .i64 0] 43)
                have gC := heap_alloc_new W (.cells #[.int .i64 0, .int .u64 0, .int .i64 0] 43)
                have lC := hS.size
                have hS2 := hS.trans tb (by simp)
                refine hK.out _ _ hS2 (fun _ => ?_)
                clear hK K hS tb
                have hS := hS2
                clear hS2
                generalize W.alloc (.cells #[.int .i64 0, .int .u64 0, .int .i64 0] 43) = V1 at *
                generalize hqC : W.heap.size = C at *
                have HqC := Lib.hid hqC
                have HLC := Lib.hid lC
                clear hqC lC
                try simp only [Act.put, List.setIfInBounds_toArray, List.set_cons_zero, List.set_cons_succ]
                refine wpAnyH_ready (rs := [21]) (by kernel_rfl) (by simp) ?_
                refine AllReadyH.cons (o := { dst := some 11, op := Op.alloc 43, type := 0, pos := "law.go:54", after := #[], guard := none }) rfl (fun K hK => ?_) AllReadyH.nil
                go_simp
                have tb := (Touch.refl [] V1).alloc (.cells #[.int .i64 0, .int .u64 0, .int .i64 0] 43)
                have gA := heap_alloc_new V1 (.cells #[.int .i64 0, .int .u64 0, .int .i64 0] 43)
                have lA := hS.size
                have nAC : C < V1.heap.size := (Array.getElem?_eq_some_iff.1 gC).1
                replace gC := tb.at gC (by simp)
                have hS2 := hS.trans tb (by simp)
                refine hK.out _ _ hS2 (fun _ => ?_)
                clear hK K hS tb
                have hS := hS2
                clear hS2
                generalize V1.alloc (.cells #[.int .i64 0, .int .u64 0, .int .i64 0] 43) = V2 at *
                generalize hqA : V1.heap.size = A at *
                have HqA := Lib.hid hqA
                have HLA := Lib.hid lA
                clear hqA lA
                try simp only [Act.put, List.setIfInBounds_toArray, List.set_cons_zero, List.set_cons_succ]
                refine wpAnyH_ready (rs := [23]) (by kernel_rfl) (by simp) ?_
                refine AllReadyH.cons (o := { dst := none, op := Op.store 43 (Operand.tmp 11) (Operand.tmp 65), type := 0, pos := "law.go:54", after := #[{ on := 21, ground := Ground.data }, { on := 6, ground := Ground.data }, { on := 18, ground := Ground.chain }, { on := 0, ground := Ground.phase }, { on := 1, ground := Ground.phase }, { on := 2, ground := Ground.phase }, { on := 3, ground := Ground.phase }, { on := 4, ground := Ground.phase }, { on := 5, ground := Ground.phase }, { on := 6, ground := Ground.phase }, { on := 7, ground := Ground.textOnly Departure.lateStores }, { on := 8, ground := Ground.textOnly Departure.lateStores }, { on := 9, ground := Ground.textOnly Departure.lateStores }, { on := 10, ground := Ground.textOnly Departure.lateStores }, { on := 11, ground := Ground.textOnly Departure.lateStores }, { on := 12, ground := Ground.textOnly Departure.lateStores }, { on := 13, ground := Ground.textOnly Departure.lateStores }, { on := 14, ground := Ground.textOnly Departure.lateStores }, { on := 15, ground := Ground.textOnly Departure.lateStores }, { on := 16, ground := Ground.textOnly Departure.lateStores }, { on := 17, ground := Ground.textOnly Departure.lateStores }, { on := 18, ground := Ground.textOnly Departure.lateStoresUnsure }, { on := 19, ground := Ground.textOnly Departure.lateStores }, { on := 20, ground := Ground.textOnly Departure.lateStores }, { on := 21, ground := Ground.phase }, { on := 22, ground := Ground.phase }], guard := none }) rfl (fun K hK => ?_) AllReadyH.nil
                refine step_of_list rfl ?_
                refine wpList_store_into rfl 43 _ _ rfl A 43 _ [.int .i64 y.id, .int .u64 y.due, y.x] (by rfl) (by rfl) gA (by rfl) size43 (by intro u hu; simp at hu; rcases hu with rfl | rfl | rfl; rfl; rfl; exact oy) ?_
                intro V3 hA ts zs
                have hS2 := hS.trans ts (by intro q hq; right; simp at hq; subst hq; have e1 := HqA.out; have e2 := HLA.out; omega)
                have gC' := ts.at (show V2.heap[C]? = _ from gC) (by simp; omega)
                refine ⟨rfl, hK.out _ _ hS2 (fun _ => ?_)⟩
                clear hK K hS ts zs gA
                have hS := hS2
                clear hS2
                clear gC
                have gC := gC'
                clear gC'
                try simp only [Act.put, List.setIfInBounds_toArray, List.set_cons_zero, List.set_cons_succ]
                refine wpAnyH_ready (rs := [24]) (by kernel_rfl) (by simp) ?_
                refine AllReadyH.cons (o := { dst := none, op := Op.store 43 (Operand.tmp 12) (Operand.tmp 79), type := 0, pos := "law.go:54", after := #[{ on := 22, ground := Ground.data }, { on := 20, ground := Ground.data }, { on := 23, ground := Ground.chain }, { on := 0, ground := Ground.phase }, { on := 1, ground := Ground.phase }, { on := 2, ground := Ground.phase }, { on := 3, ground := Ground.phase }, { on := 4, ground := Ground.phase }, { on := 5, ground := Ground.phase }, { on := 6, ground := Ground.phase }, { on := 7, ground := Ground.phase }, { on := 8, ground := Ground.phase }, { on := 9, ground := Ground.phase }, { on := 10, ground := Ground.phase }, { on := 11, ground := Ground.phase }, { on := 12, ground := Ground.phase }, { on := 13, ground := Ground.phase }, { on := 14, ground := Ground.phase }, { on := 15, ground := Ground.phase }, { on := 16, ground := Ground.phase }, { on := 17, ground := Ground.phase }, { on := 18, ground := Ground.phase }, { on := 19, ground := Ground.phase }, { on := 20, ground := Ground.phase }, { on := 21, ground := Ground.phase }, { on := 22, ground := Ground.phase }, { on := 23, ground := Ground.phase }], guard := none }) rfl (fun K hK => ?_) AllReadyH.nil
                refine step_of_list rfl ?_
                refine wpList_store_into rfl 43 _ _ rfl C 43 _ [.int .i64 z.id, .int .u64 z.due, z.x] (by rfl) (by rfl) gC (by rfl) size43 (by intro u hu; simp at hu; rcases hu with rfl | rfl | rfl; rfl; rfl; exact oz) ?_
                intro V4 hC ts zs
                have hS2 := hS.trans ts (by intro q hq; right; simp at hq; subst hq; have e1 := HqC.out; have e2 := HLC.out; omega)
                have gA' := ts.at (show V3.heap[A]? = _ from hA) (by simp; omega)
                refine ⟨rfl, hK.out _ _ hS2 (fun _ => ?_)⟩
                clear hK K hS ts zs gC
                have hS := hS2
                clear hS2
                clear hA
                have hA := gA'
                clear gA'
                try simp only [Act.put, List.setIfInBounds_toArray, List.set_cons_zero, List.set_cons_succ]
                refine wpAnyH_done (by kernel_rfl) ?_ _
                obtain ⟨a0, a1, a2⟩ := cells_three hA
                obtain ⟨d0, d1, d2⟩ := cells_three hC
                have TT := Lib.hid hS
                clear hS hA hC
                rcases HLE.out with hlt2 | ⟨heq2, hle2⟩
                · have q1 : ¬ y.due < z.due := by have : z.due < y.due := hlt2; omega
                  have q2 : (y.due == z.due) = false := by have : z.due < y.due := hlt2; simp; omega
                  clear hlt2
                  go_wp2_with fail
                  go_roundw
                  case rel => exact ⟨i + 1, by simp, by omega, HOW.out.touch TT.out (by simp), HTW.out.trans TT.out (by simp)⟩
                  case measure => simp [intOf]; omega
                · have q1 : ¬ y.due < z.due := by have : z.due = y.due := heq2; omega
                  have q2 : (y.due == z.due) = true := by have : z.due = y.due := heq2; simp; omega
                  have q3 : ¬ y.id < z.id := by have : z.id ≤ y.id := hle2; omega
                  clear heq2 hle2
                  go_wp2_with fail
                  go_roundw
                  case rel => exact ⟨i + 1, by simp, by omega, HOW.out.touch TT.out (by simp), HTW.out.trans TT.out (by simp)⟩
                  case measure => simp [intOf]; omega
            · go_simp
              have tb := (Touch.refl [] W).alloc (.cells #[.int .i64 0, .int .u64 0, .int .i64 0] 43)
              have gA := heap_alloc_new W (.cells #[.int .i64 0, .int .u64 0, .int .i64 0] 43)
              have lA := hS.size
              have hS2 := hS.trans tb (by simp)
              refine hK.out _ _ hS2 (fun _ => ?_)
              clear hK K hS tb
              have hS := hS2
              clear hS2
              generalize W.alloc (.cells #[.int .i64 0, .int .u64 0, .int .i64 0] 43) = V1 at *
              generalize hqA : W.heap.size = A at *
              have HqA := Lib.hid hqA
              have HLA := Lib.hid lA
              clear hqA lA
              try simp only [Act.put, List.setIfInBounds_toArray, List.set_cons_zero, List.set_cons_succ]
              refine wpAnyH_ready (rs := [18, 22]) (by kernel_rfl) (by simp) ?_
              refine AllReadyH.cons (o := { dst := some 77, op := Op.call { callee := Callee.value (Operand.func 10), args := #[Operand.tmp 70, Operand.tmp 76], argTypes := #[25, 3] }, type := 3, pos := "law.go:54", after := #[{ on := 11, ground := Ground.data }, { on := 17, ground := Ground.data }], guard := none }) rfl (fun K hK => ?_) (AllReadyH.cons (o := { dst := some 12, op := Op.alloc 43, type := 0, pos := "law.go:54", after := #[], guard := none }) rfl (fun K hK => ?_) AllReadyH.nil)
              · go_simp
                refine (rfind_any x _ L last V1 (HR.out.touch hS (by simp)) z.id).mono ?_
                rintro e w' ⟨rfl, rfl⟩
                rw [HIXZ.out]
                refine hK.out _ _ hS (fun _ => ?_)
                clear hK K
                try simp only [Act.put, List.setIfInBounds_toArray, List.set_cons_zero, List.set_cons_succ]
                refine wpAnyH_take (i := 19) (oi := { dst := some 78, op := Op.indexAddr 26 (Operand.tmp 69) (Operand.tmp 77), type := 0, pos := "law.go:54", after := #[{ on := 10, ground := Ground.data }, { on := 18, ground := Ground.data }, { on := 23, ground := Ground.gcOnly Departure.lateStores }], guard := none }) (v := .pointer (some ⟨g, k2 * 3, none⟩)) rfl (by kernel_rfl) (by kernel_rfl) (by kernel_rfl) (fun _ _ _ h => h) (Or.inl ⟨by rfl, fun w' hw => by go_simp⟩) hS ?_
                try simp only [Act.put, List.setIfInBounds_toArray, List.set_cons_zero, List.set_cons_succ]
                refine wpAnyH_take (i := 20) (oi := { dst := some 79, op := Op.load 43 (Operand.tmp 78), type := 43, pos := "law.go:54", after := #[{ on := 19, ground := Ground.data }, { on := 23, ground := Ground.gcOnly Departure.lateStores }], guard := none }) (v := .agg #[.int .i64 z.id, .int .u64 z.due, z.x]) rfl (by kernel_rfl) (by kernel_rfl) (by kernel_rfl) (fun _ _ _ h => h) (Or.inl ⟨by rfl, fun w' hw => by (have q0 := hw.cell z0 (by simp); have q1 := hw.cell z1 (by simp); have q2 := hw.cell z2 (by simp); go_simp)⟩) hS ?_
                try simp only [Act.put, List.setIfInBounds_toArray, List.set_cons_zero, List.set_cons_succ]
                refine wpAnyH_ready (rs := [22]) (by kernel_rfl) (by simp) ?_
                refine AllReadyH.cons (o := { dst := some 12, op := Op.alloc 43, type := 0, pos := "law.go:54", after := #[], guard := none }) rfl (fun K hK => ?_) AllReadyH.nil
                go_simp
                have tb := (Touch.refl [] V1).alloc (.cells #[.int .i64 0, .int .u64 0, .int .i64 0] 43)
                have gC := heap_alloc_new V1 (.cells #[.int .i64 0, .int .u64 0, .int .i64 0] 43)
                have lC := hS.size
                have nCA : A < V1.heap.size := (Array.getElem?_eq_some_iff.1 gA).1
                replace gA := tb.at gA (by simp)
                have hS2 := hS.trans tb (by simp)
                refine hK.out _ _ hS2 (fun _ => ?_)
                clear hK K hS tb
                have hS := hS2
                clear hS2
                generalize V1.alloc (.cells #[.int .i64 0, .int .u64 0, .int .i64 0] 43) = V2 at *
                generalize hqC : V1.heap.size = C at *
                have HqC := Lib.hid hqC
                have HLC := Lib.hid lC
                clear hqC lC
                try simp only [Act.put, List.setIfInBounds_toArray, List.set_cons_zero, List.set_cons_succ]
                refine wpAnyH_ready (rs := [23]) (by kernel_rfl) (by simp) ?_
                refine AllReadyH.cons (o := { dst := none, op := Op.store 43 (Operand.tmp 11) (Operand.tmp 65), type := 0, pos := "law.go:54", after := #[{ on := 21, ground := Ground.data }, { on := 6, ground := Ground.data }, { on := 18, ground := Ground.chain }, { on := 0, ground := Ground.phase }, { on := 1, ground := Ground.phase }, { on := 2, ground := Ground.phase }, { on := 3, ground := Ground.phase }, { on := 4, ground := Ground.phase }, { on := 5, ground := Ground.phase }, { on := 6, ground := Ground.phase }, { on := 7, ground := Ground.textOnly Departure.lateStores }, { on := 8, ground := Ground.textOnly Departure.lateStores }, { on := 9, ground := Ground.textOnly Departure.lateStores }, { on := 10, ground := Ground.textOnly Departure.lateStores }, { on := 11, ground := Ground.textOnly Departure.lateStores }, { on := 12, ground := Ground.textOnly Departure.lateStores }, { on := 13, ground := Ground.textOnly Departure.lateStores }, { on := 14, ground := Ground.textOnly Departure.lateStores }, { on := 15, ground := Ground.textOnly Departure.lateStores }, { on := 16, ground := Ground.textOnly Departure.lateStores }, { on := 17, ground := Ground.textOnly Departure.lateStores }, { on := 18, ground := Ground.textOnly Departure.lateStoresUnsure }, { on := 19, ground := Ground.textOnly Departure.lateStores }, { on := 20, ground := Ground.textOnly Departure.lateStores }, { on := 21, ground := Ground.phase }, { on := 22, ground := Ground.phase }], guard := none }) rfl (fun K hK => ?_) AllReadyH.nil
                refine step_of_list rfl ?_
                refine wpList_store_into rfl 43 _ _ rfl A 43 _ [.int .i64 y.id, .int .u64 y.due, y.x] (by rfl) (by rfl) gA (by rfl) size43 (by intro u hu; simp at hu; rcases hu with rfl | rfl | rfl; rfl; rfl; exact oy) ?_
                intro V3 hA ts zs
                have hS2 := hS.trans ts (by intro q hq; right; simp at hq; subst hq; have e1 := HqA.out; have e2 := HLA.out; omega)
                have gC' := ts.at (show V2.heap[C]? = _ from gC) (by simp; omega)
                refine ⟨rfl, hK.out _ _ hS2 (fun _ => ?_)⟩
                clear hK K hS ts zs gA
                have hS := hS2
                clear hS2
                clear gC
                have gC := gC'
                clear gC'
                try simp only [Act.put, List.setIfInBounds_toArray, List.set_cons_zero, List.set_cons_succ]
                refine wpAnyH_ready (rs := [24]) (by kernel_rfl) (by simp) ?_
                refine AllReadyH.cons (o := { dst := none, op := Op.store 43 (Operand.tmp 12) (Operand.tmp 79), type := 0, pos := "law.go:54", after := #[{ on := 22, ground := Ground.data }, { on := 20, ground := Ground.data }, { on := 23, ground := Ground.chain }, { on := 0, ground := Ground.phase }, { on := 1, ground := Ground.phase }, { on := 2, ground := Ground.phase }, { on := 3, ground := Ground.phase }, { on := 4, ground := Ground.phase }, { on := 5, ground := Ground.phase }, { on := 6, ground := Ground.phase }, { on := 7, ground := Ground.phase }, { on := 8, ground := Ground.phase }, { on := 9, ground := Ground.phase }, { on := 10, ground := Ground.phase }, { on := 11, ground := Ground.phase }, { on := 12, ground := Ground.phase }, { on := 13, ground := Ground.phase }, { on := 14, ground := Ground.phase }, { on := 15, ground := Ground.phase }, { on := 16, ground := Ground.phase }, { on := 17, ground := Ground.phase }, { on := 18, ground := Ground.phase }, { on := 19, ground := Ground.phase }, { on := 20, ground := Ground.phase }, { on := 21, ground := Ground.phase }, { on := 22, ground := Ground.phase }, { on := 23, ground := Ground.phase }], guard := none }) rfl (fun K hK => ?_) AllReadyH.nil
                refine step_of_list rfl ?_
                refine wpList_store_into rfl 43 _ _ rfl C 43 _ [.int .i64 z.id, .int .u64 z.due, z.x] (by rfl) (by rfl) gC (by rfl) size43 (by intro u hu; simp at hu; rcases hu with rfl | rfl | rfl; rfl; rfl; exact oz) ?_
                intro V4 hC ts zs
                have hS2 := hS.trans ts (by intro q hq; right; simp at hq; subst hq; have e1 := HqC.out; have e2 := HLC.out; omega)
                have gA' := ts.at (show V3.heap[A]? = _ from hA) (by simp; omega)
                refine ⟨rfl, hK.out _ _ hS2 (fun _ => ?_)⟩
                clear hK K hS ts zs gC
                have hS := hS2
                clear hS2
                clear hA
                have hA := gA'
                clear gA'
                try simp only [Act.put, List.setIfInBounds_toArray, List.set_cons_zero, List.set_cons_succ]
                refine wpAnyH_done (by kernel_rfl) ?_ _
                obtain ⟨a0, a1, a2⟩ := cells_three hA
                obtain ⟨d0, d1, d2⟩ := cells_three hC
                have TT := Lib.hid hS
                clear hS hA hC
                rcases HLE.out with hlt2 | ⟨heq2, hle2⟩
                · have q1 : ¬ y.due < z.due := by have : z.due < y.due := hlt2; omega
                  have q2 : (y.due == z.due) = false := by have : z.due < y.due := hlt2; simp; omega
                  clear hlt2
                  go_wp2_with fail
                  go_roundw
                  case rel => exact ⟨i + 1, by simp, by omega, HOW.out.touch TT.out (by simp), HTW.out.trans TT.out (by simp)⟩
                  case measure => simp [intOf]; omega
                · have q1 : ¬ y.due < z.due := by have : z.due = y.due := heq2; omega
                  have q2 : (y.due == z.due) = true := by have : z.due = y.due := heq2; simp; omega
                  have q3 : ¬ y.id < z.id := by have : z.id ≤ y.id := hle2; omega
                  clear heq2 hle2
                  go_wp2_with fail
                  go_roundw
                  case rel => exact ⟨i + 1, by simp, by omega, HOW.out.touch TT.out (by simp), HTW.out.trans TT.out (by simp)⟩
                  case measure => simp [intOf]; omega
              · go_simp
                have tb := (Touch.refl [] V1).alloc (.cells #[.int .i64 0, .int .u64 0, .int .i64 0] 43)
                have gC := heap_alloc_new V1 (.cells #[.int .i64 0, .int .u64 0, .int .i64 0] 43)
                have lC := hS.size
                have nCA : A < V1.heap.size := (Array.getElem?_eq_some_iff.1 gA).1
                replace gA := tb.at gA (by simp)
                have hS2 := hS.trans tb (by simp)
                refine hK.out _ _ hS2 (fun _ => ?_)
                clear hK K hS tb
                have hS := hS2
                clear hS2
                generalize V1.alloc (.cells #[.int .i64 0, .int .u64 0, .int .i64 0] 43) = V2 at *
                generalize hqC : V1.heap.size = C at *
                have HqC := Lib.hid hqC
                have HLC := Lib.hid lC
                clear hqC lC
                try simp only [Act.put, List.setIfInBounds_toArray, List.set_cons_zero, List.set_cons_succ]
                refine wpAnyH_ready (rs := [18]) (by kernel_rfl) (by simp) ?_
                refine AllReadyH.cons (o := { dst := some 77, op := Op.call { callee := Callee.value (Operand.func 10), args := #[Operand.tmp 70, Operand.tmp 76], argTypes := #[25, 3] }, type := 3, pos := "law.go:54", after := #[{ on := 11, ground := Ground.data }, { on := 17, ground := Ground.data }], guard := none }) rfl (fun K hK => ?_) AllReadyH.nil
                go_simp
                refine (rfind_any x _ L last V2 (HR.out.touch hS (by simp)) z.id).mono ?_
                rintro e w' ⟨rfl, rfl⟩
                rw [HIXZ.out]
                refine hK.out _ _ hS (fun _ => ?_)
                clear hK K
                try simp only [Act.put, List.setIfInBounds_toArray, List.set_cons_zero, List.set_cons_succ]
                refine wpAnyH_take (i := 19) (oi := { dst := some 78, op := Op.indexAddr 26 (Operand.tmp 69) (Operand.tmp 77), type := 0, pos := "law.go:54", after := #[{ on := 10, ground := Ground.data }, { on := 18, ground := Ground.data }, { on := 23, ground := Ground.gcOnly Departure.lateStores }], guard := none }) (v := .pointer (some ⟨g, k2 * 3, none⟩)) rfl (by kernel_rfl) (by kernel_rfl) (by kernel_rfl) (fun _ _ _ h => h) (Or.inl ⟨by rfl, fun w' hw => by go_simp⟩) hS ?_
                try simp only [Act.put, List.setIfInBounds_toArray, List.set_cons_zero, List.set_cons_succ]
                refine wpAnyH_take (i := 20) (oi := { dst := some 79, op := Op.load 43 (Operand.tmp 78), type := 43, pos := "law.go:54", after := #[{ on := 19, ground := Ground.data }, { on := 23, ground := Ground.gcOnly Departure.lateStores }], guard := none }) (v := .agg #[.int .i64 z.id, .int .u64 z.due, z.x]) rfl (by kernel_rfl) (by kernel_rfl) (by kernel_rfl) (fun _ _ _ h => h) (Or.inl ⟨by rfl, fun w' hw => by (have q0 := hw.cell z0 (by simp); have q1 := hw.cell z1 (by simp); have q2 := hw.cell z2 (by simp); go_simp)⟩) hS ?_
                try simp only [Act.put, List.setIfInBounds_toArray, List.set_cons_zero, List.set_cons_succ]
                refine wpAnyH_ready (rs := [23]) (by kernel_rfl) (by simp) ?_
                refine AllReadyH.cons (o := { dst := none, op := Op.store 43 (Operand.tmp 11) (Operand.tmp 65), type := 0, pos := "law.go:54", after := #[{ on := 21, ground := Ground.data }, { on := 6, ground := Ground.data }, { on := 18, ground := Ground.chain }, { on := 0, ground := Ground.phase }, { on := 1, ground := Ground.phase }, { on := 2, ground := Ground.phase }, { on := 3, ground := Ground.phase }, { on := 4, ground := Ground.phase }, { on := 5, ground := Ground.phase }, { on := 6, ground := Ground.phase }, { on := 7, ground := Ground.textOnly Departure.lateStores }, { on := 8, ground := Ground.textOnly Departure.lateStores }, { on := 9, ground := Ground.textOnly Departure.lateStores }, { on := 10, ground := Ground.textOnly Departure.lateStores }, { on := 11, ground := Ground.textOnly Departure.lateStores }, { on := 12, ground := Ground.textOnly Departure.lateStores }, { on := 13, ground := Ground.textOnly Departure.lateStores }, { on := 14, ground := Ground.textOnly Departure.lateStores }, { on := 15, ground := Ground.textOnly Departure.lateStores }, { on := 16, ground := Ground.textOnly Departure.lateStores }, { on := 17, ground := Ground.textOnly Departure.lateStores }, { on := 18, ground := Ground.textOnly Departure.lateStoresUnsure }, { on := 19, ground := Ground.textOnly Departure.lateStores }, { on := 20, ground := Ground.textOnly Departure.lateStores }, { on := 21, ground := Ground.phase }, { on := 22, ground := Ground.phase }], guard := none }) rfl (fun K hK => ?_) AllReadyH.nil
                refine step_of_list rfl ?_
                refine wpList_store_into rfl 43 _ _ rfl A 43 _ [.int .i64 y.id, .int .u64 y.due, y.x] (by rfl) (by rfl) gA (by rfl) size43 (by intro u hu; simp at hu; rcases hu with rfl | rfl | rfl; rfl; rfl; exact oy) ?_
                intro V3 hA ts zs
                have hS2 := hS.trans ts (by intro q hq; right; simp at hq; subst hq; have e1 := HqA.out; have e2 := HLA.out; omega)
                have gC' := ts.at (show V2.heap[C]? = _ from gC) (by simp; omega)
                refine ⟨rfl, hK.out _ _ hS2 (fun _ => ?_)⟩
                clear hK K hS ts zs gA
                have hS := hS2
                clear hS2
                clear gC
                have gC := gC'
                clear gC'
                try simp only [Act.put, List.setIfInBounds_toArray, List.set_cons_zero, List.set_cons_succ]
                refine wpAnyH_ready (rs := [24]) (by kernel_rfl) (by simp) ?_
                refine AllReadyH.cons (o := { dst := none, op := Op.store 43 (Operand.tmp 12) (Operand.tmp 79), type := 0, pos := "law.go:54", after := #[{ on := 22, ground := Ground.data }, { on := 20, ground := Ground.data }, { on := 23, ground := Ground.chain }, { on := 0, ground := Ground.phase }, { on := 1, ground := Ground.phase }, { on := 2, ground := Ground.phase }, { on := 3, ground := Ground.phase }, { on := 4, ground := Ground.phase }, { on := 5, ground := Ground.phase }, { on := 6, ground := Ground.phase }, { on := 7, ground := Ground.phase }, { on := 8, ground := Ground.phase }, { on := 9, ground := Ground.phase }, { on := 10, ground := Ground.phase }, { on := 11, ground := Ground.phase }, { on := 12, ground := Ground.phase }, { on := 13, ground := Ground.phase }, { on := 14, ground := Ground.phase }, { on := 15, ground := Ground.phase }, { on := 16, ground := Ground.phase }, { on := 17, ground := Ground.phase }, { on := 18, ground := Ground.phase }, { on := 19, ground := Ground.phase }, { on := 20, ground := Ground.phase }, { on := 21, ground := Ground.phase }, { on := 22, ground := Ground.phase }, { on := 23, ground := Ground.phase }], guard := none }) rfl (fun K hK => ?_) AllReadyH.nil
                refine step_of_list rfl ?_
                refine wpList_store_into rfl 43 _ _ rfl C 43 _ [.int .i64 z.id, .int .u64 z.due, z.x] (by rfl) (by rfl) gC (by rfl) size43 (by intro u hu; simp at hu; rcases hu with rfl | rfl | rfl; rfl; rfl; exact oz) ?_
                intro V4 hC ts zs
                have hS2 := hS.trans ts (by intro q hq; right; simp at hq; subst hq; have e1 := HqC.out; have e2 := HLC.out; omega)
                have gA' := ts.at (show V3.heap[A]? = _ from hA) (by simp; omega)
                refine ⟨rfl, hK.out _ _ hS2 (fun _ => ?_)⟩
                clear hK K hS ts zs gC
                have hS := hS2
                clear hS2
                clear hA
                have hA := gA'
                clear gA'
                try simp only [Act.put, List.setIfInBounds_toArray, List.set_cons_zero, List.set_cons_succ]
                refine wpAnyH_done (by kernel_rfl) ?_ _
                obtain ⟨a0, a1, a2⟩ := cells_three hA
                obtain ⟨d0, d1, d2⟩ := cells_three hC
                have TT := Lib.hid hS
                clear hS hA hC
                rcases HLE.out with hlt2 | ⟨heq2, hle2⟩
                · have q1 : ¬ y.due < z.due := by have : z.due < y.due := hlt2; omega
                  have q2 : (y.due == z.due) = false := by have : z.due < y.due := hlt2; simp; omega
                  clear hlt2
                  go_wp2_with fail
                  go_roundw
                  case rel => exact ⟨i + 1, by simp, by omega, HOW.out.touch TT.out (by simp), HTW.out.trans TT.out (by simp)⟩
                  case measure => simp [intOf]; omega
                · have q1 : ¬ y.due < z.due := by have : z.due = y.due := heq2; omega
                  have q2 : (y.due == z.due) = true := by have : z.due = y.due := heq2; simp; omega
                  have q3 : ¬ y.id < z.id := by have : z.id ≤ y.id := hle2; omega
                  clear heq2 hle2
                  go_wp2_with fail
                  go_roundw
                  case rel => exact ⟨i + 1, by simp, by omega, HOW.out.touch TT.out (by simp), HTW.out.trans TT.out (by simp)⟩
                  case measure => simp [intOf]; omega
            · go_simp
              have tb := (Touch.refl [] W).alloc (.cells #[.int .i64 0, .int .u64 0, .int .i64 0] 43)
              have gC := heap_alloc_new W (.cells #[.int .i64 0, .int .u64 0, .int .i64 0] 43)
              have lC := hS.size
              have hS2 := hS.trans tb (by simp)
              refine hK.out _ _ hS2 (fun _ => ?_)
              clear hK K hS tb
              have hS := hS2
              clear hS2
              generalize W.alloc (.cells #[.int .i64 0, .int .u64 0, .int .i64 0] 43) = V1 at *
              generalize hqC : W.heap.size = C at *
              have HqC := Lib.hid hqC
              have HLC := Lib.hid lC
              clear hqC lC
              try simp only [Act.put, List.setIfInBounds_toArray, List.set_cons_zero, List.set_cons_succ]
              refine wpAnyH_ready (rs := [18, 21]) (by kernel_rfl) (by simp) ?_
              refine AllReadyH.cons (o := { dst := some 77, op := Op.call { callee := Callee.value (Operand.func 10), args := #[Operand.tmp 70, Operand.tmp 76], argTypes := #[25, 3] }, type := 3, pos := "law.go:54", after := #[{ on := 11, ground := Ground.data }, { on := 17, ground := Ground.data }], guard := none }) rfl (fun K hK => ?_) (AllReadyH.cons (o := { dst := some 11, op := Op.alloc 43, type := 0, pos := "law.go:54", after := #[], guard := none }) rfl (fun K hK => ?_) AllReadyH.nil)
              · go_simp
                refine (rfind_any x _ L last V1 (HR.out.touch hS (by simp)) z.id).mono ?_
                rintro e w' ⟨rfl, rfl⟩
                rw [HIXZ.out]
                refine hK.out _ _ hS (fun _ => ?_)
                clear hK K
                try simp only [Act.put, List.setIfInBounds_toArray, List.set_cons_zero, List.set_cons_succ]
                refine wpAnyH_take (i := 19) (oi := { dst := some 78, op := Op.indexAddr 26 (Operand.tmp 69) (Operand.tmp 77), type := 0, pos := "law.go:54", after := #[{ on := 10, ground := Ground.data }, { on := 18, ground := Ground.data }, { on := 23, ground := Ground.gcOnly Departure.lateStores }], guard := none }) (v := .pointer (some ⟨g, k2 * 3, none⟩)) rfl (by kernel_rfl) (by kernel_rfl) (by kernel_rfl) (fun _ _ _ h => h) (Or.inl ⟨by rfl, fun w' hw => by go_simp⟩) hS ?_
                try simp only [Act.put, List.setIfInBounds_toArray, List.set_cons_zero, List.set_cons_succ]
                refine wpAnyH_take (i := 20) (oi := { dst := some 79, op := Op.load 43 (Operand.tmp 78), type := 43, pos := "law.go:54", after := #[{ on := 19, ground := Ground.data }, { on := 23, ground := Ground.gcOnly Departure.lateStores }], guard := none }) (v := .agg #[.int .i64 z.id, .int .u64 z.due, z.x]) rfl (by kernel_rfl) (by kernel_rfl) (by kernel_rfl) (fun _ _ _ h => h) (Or.inl ⟨by rfl, fun w' hw => by (have q0 := hw.cell z0 (by simp); have q1 := hw.cell z1 (by simp); have q2 := hw.cell z2 (by simp); go_simp)⟩) hS ?_
                try simp only [Act.put, List.setIfInBounds_toArray, List.set_cons_zero, List.set_cons_succ]
                refine wpAnyH_ready (rs := [21]) (by kernel_rfl) (by simp) ?_
                refine AllReadyH.cons (o := { dst := some 11, op := Op.alloc 43, type := 0, pos := "law.go:54", after := #[], guard := none }) rfl (fun K hK => ?_) AllReadyH.nil
                go_simp
                have tb := (Touch.refl [] V1).alloc (.cells #[.int .i64 0, .int .u64 0, .int .i64 0] 43)
                have gA := heap_alloc_new V1 (.cells #[.int .i64 0, .int .u64 0, .int .i64 0] 43)
                have lA := hS.size
                have nAC : C < V1.heap.size := (Array.getElem?_eq_some_iff.1 gC).1
                replace gC := tb.at gC (by simp)
                have hS2 := hS.trans tb (by simp)
                refine hK.out _ _ hS2 (fun _ => ?_)
                clear hK K hS tb
                have hS := hS2
                clear hS2
                generalize V1.alloc (.cells #[.int .i64 0, .int .u64 0, .int .i64 0] 43) = V2 at *
                generalize hqA : V1.heap.size = A at *
                have HqA := Lib.hid hqA
                have HLA := Lib.hid lA
                clear hqA lA
                try simp only [Act.put, List.setIfInBounds_toArray, List.set_cons_zero, List.set_cons_succ]
                refine wpAnyH_ready (rs := [23]) (by kernel_rfl) (by simp) ?_
                refine AllReadyH.cons (o := { dst := none, op := Op.store 43 (Operand.tmp 11) (Operand.tmp 65), type := 0, pos := "law.go:54", after := #[{ on := 21, ground := Ground.data }, { on := 6, ground := Ground.data }, { on := 18, ground := Ground.chain }, { on := 0, ground := Ground.phase }, { on := 1, ground := Ground.phase }, { on := 2, ground := Ground.phase }, { on := 3, ground := Ground.phase }, { on := 4, ground := Ground.phase }, { on := 5, ground := Ground.phase }, { on := 6, ground := Ground.phase }, { on := 7, ground := Ground.textOnly Departure.lateStores }, { on := 8, ground := Ground.textOnly Departure.lateStores }, { on := 9, ground := Ground.textOnly Departure.lateStores }, { on := 10, ground := Ground.textOnly Departure.lateStores }, { on := 11, ground := Ground.textOnly Departure.lateStores }, { on := 12, ground := Ground.textOnly Departure.lateStores }, { on := 13, ground := Ground.textOnly Departure.lateStores }, { on := 14, ground := Ground.textOnly Departure.lateStores }, { on := 15, ground := Ground.textOnly Departure.lateStores }, { on := 16, ground := Ground.textOnly Departure.lateStores }, { on := 17, ground := Ground.textOnly Departure.lateStores }, { on := 18, ground := Ground.textOnly Departure.lateStoresUnsure }, { on := 19, ground := Ground.textOnly Departure.lateStores }, { on := 20, ground := Ground.textOnly Departure.lateStores }, { on := 21, ground := Ground.phase }, { on := 22, ground := Ground.phase }], guard := none }) rfl (fun K hK => ?_) AllReadyH.nil
                refine step_of_list rfl ?_
                refine wpList_store_into rfl 43 _ _ rfl A 43 _ [.int .i64 y.id, .int .u64 y.due, y.x] (by rfl) (by rfl) gA (by rfl) size43 (by intro u hu; simp at hu; rcases hu with rfl | rfl | rfl; rfl; rfl; exact oy) ?_
                intro V3 hA ts zs
                have hS2 := hS.trans ts (by intro q hq; right; simp at hq; subst hq; have e1 := HqA.out; have e2 := HLA.out; omega)
                have gC' := ts.at (show V2.heap[C]? = _ from gC) (by simp; omega)
                refine ⟨rfl, hK.out _ _ hS2 (fun _ => ?_)⟩
                clear hK K hS ts zs gA
                have hS := hS2
                clear hS2
                clear gC
                have gC := gC'
                clear gC'
                try simp only [Act.put, List.setIfInBounds_toArray, List.set_cons_zero, List.set_cons_succ]
                refine wpAnyH_ready (rs := [24]) (by kernel_rfl) (by simp) ?_
                refine AllReadyH.cons (o := { dst := none, op := Op.store 43 (Operand.tmp 12) (Operand.tmp 79), type := 0, pos := "law.go:54", after := #[{ on := 22, ground := Ground.data }, { on := 20, ground := Ground.data }, { on := 23, ground := Ground.chain }, { on := 0, ground := Ground.phase }, { on := 1, ground := Ground.phase }, { on := 2, ground := Ground.phase }, { on := 3, ground := Ground.phase }, { on := 4, ground := Ground.phase }, { on := 5, ground := Ground.phase }, { on := 6, ground := Ground.phase }, { on := 7, ground := Ground.phase }, { on := 8, ground := Ground.phase }, { on := 9, ground := Ground.phase }, { on := 10, ground := Ground.phase }, { on := 11, ground := Ground.phase }, { on := 12, ground := Ground.phase }, { on := 13, ground := Ground.phase }, { on := 14, ground := Ground.phase }, { on := 15, ground := Ground.phase }, { on := 16, ground := Ground.phase }, { on := 17, ground := Ground.phase }, { on := 18, ground := Ground.phase }, { on := 19, ground := Ground.phase }, { on := 20, ground := Ground.phase }, { on := 21, ground := Ground.phase }, { on := 22, ground := Ground.phase }, { on := 23, ground := Ground.phase }], guard := none }) rfl (fun K hK => ?_) AllReadyH.nil
                refine step_of_list rfl ?_
                refine wpList_store_into rfl 43 _ _ rfl C 43 _ [.int .i64 z.id, .int .u64 z.due, z.x] (by rfl) (by rfl) gC (by rfl) size43 (by intro u hu; simp at hu; rcases hu with rfl | rfl | rfl; rfl; rfl; exact oz) ?_
                intro V4 hC ts zs
                have hS2 := hS.trans ts (by intro q hq; right; simp at hq; subst hq; have e1 := HqC.out; have e2 := HLC.out; omega)
                have gA' := ts.at (show V3.heap[A]? = _ from hA) (by simp; omega)
                refine ⟨rfl, hK.out _ _ hS2 (fun _ => ?_)⟩
                clear hK K hS ts zs gC
                have hS := hS2
                clear hS2
                clear hA
                have hA := gA'
                clear gA'
                try simp only [Act.put, List.setIfInBounds_toArray, List.set_cons_zero, List.set_cons_succ]
                refine wpAnyH_done (by kernel_rfl) ?_ _
                obtain ⟨a0, a1, a2⟩ := cells_three hA
                obtain ⟨d0, d1, d2⟩ := cells_three hC
                have TT := Lib.hid hS
                clear hS hA hC
                rcases HLE.out with hlt2 | ⟨heq2, hle2⟩
                · have q1 : ¬ y.due < z.due := by have : z.due < y.due := hlt2; omega
                  have q2 : (y.due == z.due) = false := by have : z.due < y.due := hlt2; simp; omega
                  clear hlt2
                  go_wp2_with fail
                  go_roundw
                  case rel => exact ⟨i + 1, by simp, by omega, HOW.out.touch TT.out (by simp), HTW.out.trans TT.out (by simp)⟩
                  case measure => simp [intOf]; omega
                · have q1 : ¬ y.due < z.due := by have : z.due = y.due := heq2; omega
                  have q2 : (y.due == z.due) = true := by have : z.due = y.due := heq2; simp; omega
                  have q3 : ¬ y.id < z.id := by have : z.id ≤ y.id := hle2; omega
                  clear heq2 hle2
                  go_wp2_with fail
                  go_roundw
                  case rel => exact ⟨i + 1, by simp, by omega, HOW.out.touch TT.out (by simp), HTW.out.trans TT.out (by simp)⟩
                  case measure => simp [intOf]; omega
              · go_simp
                have tb := (Touch.refl [] V1).alloc (.cells #[.int .i64 0, .int .u64 0, .int .i64 0] 43)
                have gA := heap_alloc_new V1 (.cells #[.int .i64 0, .int .u64 0, .int .i64 0] 43)
                have lA := hS.size
                have nAC : C < V1.heap.size := (Array.getElem?_eq_some_iff.1 gC).1
                replace gC := tb.at gC (by simp)
                have hS2 := hS.trans tb (by simp)
                refine hK.out _ _ hS2 (fun _ => ?_)
                clear hK K hS tb
                have hS := hS2
                clear hS2
                generalize V1.alloc (.cells #[.int .i64 0, .int .u64 0, .int .i64 0] 43) = V2 at *
                generalize hqA : V1.heap.size = A at *
                have HqA := Lib.hid hqA
                have HLA := Lib.hid lA
                clear hqA lA
                try simp only [Act.put, List.setIfInBounds_toArray, List.set_cons_zero, List.set_cons_succ]
                refine wpAnyH_ready (rs := [18]) (by kernel_rfl) (by simp) ?_
                refine AllReadyH.cons (o := { dst := some 77, op := Op.call { callee := Callee.value (Operand.func 10), args := #[Operand.tmp 70, Operand.tmp 76], argTypes := #[25, 3] }, type := 3, pos := "law.go:54", after := #[{ on := 11, ground := Ground.data }, { on := 17, ground := Ground.data }], guard := none }) rfl (fun K hK => ?_) AllReadyH.nil
                go_simp
                refine (rfind_any x _ L last V2 (HR.out.touch hS (by simp)) z.id).mono ?_
                rintro e w' ⟨rfl, rfl⟩
                rw [HIXZ.out]
                refine hK.out _ _ hS (fun _ => ?_)
                clear hK K
                try simp only [Act.put, List.setIfInBounds_toArray, List.set_cons_zero, List.set_cons_succ]
                refine wpAnyH_take (i := 19) (oi := { dst := some 78, op := Op.indexAddr 26 (Operand.tmp 69) (Operand.tmp 77), type := 0, pos := "law.go:54", after := #[{ on := 10, ground := Ground.data }, { on := 18, ground := Ground.data }, { on := 23, ground := Ground.gcOnly Departure.lateStores }], guard := none }) (v := .pointer (some ⟨g, k2 * 3, none⟩)) rfl (by kernel_rfl) (by kernel_rfl) (by kernel_rfl) (fun _ _ _ h => h) (Or.inl ⟨by rfl, fun w' hw => by go_simp⟩) hS ?_
                try simp only [Act.put, List.setIfInBounds_toArray, List.set_cons_zero, List.set_cons_succ]
                refine wpAnyH_take (i := 20) (oi := { dst := some 79, op := Op.load 43 (Operand.tmp 78), type := 43, pos := "law.go:54", after := #[{ on := 19, ground := Ground.data }, { on := 23, ground := Ground.gcOnly Departure.lateStores }], guard := none }) (v := .agg #[.int .i64 z.id, .int .u64 z.due, z.x]) rfl (by kernel_rfl) (by kernel_rfl) (by kernel_rfl) (fun _ _ _ h => h) (Or.inl ⟨by rfl, fun w' hw => by (have q0 := hw.cell z0 (by simp); have q1 := hw.cell z1 (by simp); have q2 := hw.cell z2 (by simp); go_simp)⟩) hS ?_
                try simp only [Act.put, List.setIfInBounds_toArray, List.set_cons_zero, List.set_cons_succ]
                refine wpAnyH_ready (rs := [23]) (by kernel_rfl) (by simp) ?_
                refine AllReadyH.cons (o := { dst := none, op := Op.store 43 (Operand.tmp 11) (Operand.tmp 65), type := 0, pos := "law.go:54", after := #[{ on := 21, ground := Ground.data }, { on := 6, ground := Ground.data }, { on := 18, ground := Ground.chain }, { on := 0, ground := Ground.phase }, { on := 1, ground := Ground.phase }, { on := 2, ground := Ground.phase }, { on := 3, ground := Ground.phase }, { on := 4, ground := Ground.phase }, { on := 5, ground := Ground.phase }, { on := 6, ground := Ground.phase }, { on := 7, ground := Ground.textOnly Departure.lateStores }, { on := 8, ground := Ground.textOnly Departure.lateStores }, { on := 9, ground := Ground.textOnly Departure.lateStores }, { on := 10, ground := Ground.textOnly Departure.lateStores }, { on := 11, ground := Ground.textOnly Departure.lateStores }, { on := 12, ground := Ground.textOnly Departure.lateStores }, { on := 13, ground := Ground.textOnly Departure.lateStores }, { on := 14, ground := Ground.textOnly Departure.lateStores }, { on := 15, ground := Ground.textOnly Departure.lateStores }, { on := 16, ground := Ground.textOnly Departure.lateStores }, { on := 17, ground := Ground.textOnly Departure.lateStores }, { on := 18, ground := Ground.textOnly Departure.lateStoresUnsure }, { on := 19, ground := Ground.textOnly Departure.lateStores }, { on := 20, ground := Ground.textOnly Departure.lateStores }, { on := 21, ground := Ground.phase }, { on := 22, ground := Ground.phase }], guard := none }) rfl (fun K hK => ?_) AllReadyH.nil
                refine step_of_list rfl ?_
                refine wpList_store_into rfl 43 _ _ rfl A 43 _ [.int .i64 y.id, .int .u64 y.due, y.x] (by rfl) (by rfl) gA (by rfl) size43 (by intro u hu; simp at hu; rcases hu with rfl | rfl | rfl; rfl; rfl; exact oy) ?_
                intro V3 hA ts zs
                have hS2 := hS.trans ts (by intro q hq; right; simp at hq; subst hq; have e1 := HqA.out; have e2 := HLA.out; omega)
                have gC' := ts.at (show V2.heap[C]? = _ from gC) (by simp; omega)
                refine ⟨rfl, hK.out _ _ hS2 (fun _ => ?_)⟩
                clear hK K hS ts zs gA
                have hS := hS2
                clear hS2
                clear gC
                have gC := gC'
                clear gC'
                try simp only [Act.put, List.setIfInBounds_toArray, List.set_cons_zero, List.set_cons_succ]
                refine wpAnyH_ready (rs := [24]) (by kernel_rfl) (by simp) ?_
                refine AllReadyH.cons (o := { dst := none, op := Op.store 43 (Operand.tmp 12) (Operand.tmp 79), type := 0, pos := "law.go:54", after := #[{ on := 22, ground := Ground.data }, { on := 20, ground := Ground.data }, { on := 23, ground := Ground.chain }, { on := 0, ground := Ground.phase }, { on := 1, ground := Ground.phase }, { on := 2, ground := Ground.phase }, { on := 3, ground := Ground.phase }, { on := 4, ground := Ground.phase }, { on := 5, ground := Ground.phase }, { on := 6, ground := Ground.phase }, { on := 7, ground := Ground.phase }, { on := 8, ground := Ground.phase }, { on := 9, ground := Ground.phase }, { on := 10, ground := Ground.phase }, { on := 11, ground := Ground.phase }, { on := 12, ground := Ground.phase }, { on := 13, ground := Ground.phase }, { on := 14, ground := Ground.phase }, { on := 15, ground := Ground.phase }, { on := 16, ground := Ground.phase }, { on := 17, ground := Ground.phase }, { on := 18, ground := Ground.phase }, { on := 19, ground := Ground.phase }, { on := 20, ground := Ground.phase }, { on := 21, ground := Ground.phase }, { on := 22, ground := Ground.phase }, { on := 23, ground := Ground.phase }], guard := none }) rfl (fun K hK => ?_) AllReadyH.nil
                refine step_of_list rfl ?_
                refine wpList_store_into rfl 43 _ _ rfl C 43 _ [.int .i64 z.id, .int .u64 z.due, z.x] (by rfl) (by rfl) gC (by rfl) size43 (by intro u hu; simp at hu; rcases hu with rfl | rfl | rfl; rfl; rfl; exact oz) ?_
                intro V4 hC ts zs
                have hS2 := hS.trans ts (by intro q hq; right; simp at hq; subst hq; have e1 := HqC.out; have e2 := HLC.out; omega)
                have gA' := ts.at (show V3.heap[A]? = _ from hA) (by simp; omega)
                refine ⟨rfl, hK.out _ _ hS2 (fun _ => ?_)⟩
                clear hK K hS ts zs gC
                have hS := hS2
                clear hS2
                clear hA
                have hA := gA'
                clear gA'
                try simp only [Act.put, List.setIfInBounds_toArray, List.set_cons_zero, List.set_cons_succ]
                refine wpAnyH_done (by kernel_rfl) ?_ _
                obtain ⟨a0, a1, a2⟩ := cells_three hA
                obtain ⟨d0, d1, d2⟩ := cells_three hC
                have TT := Lib.hid hS
                clear hS hA hC
                rcases HLE.out with hlt2 | ⟨heq2, hle2⟩
                · have q1 : ¬ y.due < z.due := by have : z.due < y.due := hlt2; omega
                  have q2 : (y.due == z.due) = false := by have : z.due < y.due := hlt2; simp; omega
                  clear hlt2
                  go_wp2_with fail
                  go_roundw
                  case rel => exact ⟨i + 1, by simp, by omega, HOW.out.touch TT.out (by simp), HTW.out.trans TT.out (by simp)⟩
                  case measure => simp [intOf]; omega
                · have q1 : ¬ y.due < z.due := by have : z.due = y.due := heq2; omega
                  have q2 : (y.due == z.due) = true := by have : z.due = y.due := heq2; simp; omega
                  have q3 : ¬ y.id < z.id := by have : z.id ≤ y.id := hle2; omega
                  clear heq2 hle2
                  go_wp2_with fail
                  go_roundw
                  case rel => exact ⟨i + 1, by simp, by omega, HOW.out.touch TT.out (by simp), HTW.out.trans TT.out (by simp)⟩
                  case measure => simp [intOf]; omega
          · have hi0' : ¬ (0 : Int) < (i : Int) := by omega
            go_wp2_with fail
            go_roundw
            case rel => exact ⟨i + 1, by simp, by omega, HON.out, HT5.out⟩
            case measure => simp [intOf]; omega
    · have hb1 : ¬ (i : Int) < (L.length : Int) := by omega
      have hie : i = its.length := by omega
      have hi3'' : True := trivial
      go_wp2_with fail
      refine (at_none h m v its kv last wr HB0.out (-1) (by omega)).mono ?_
      rintro e w3 ⟨rfl, rfl⟩
      go_wp2_with fail
      refine (at_none h m v its kv last wr HB0.out (L.length : Int) (by omega)).mono ?_
      rintro e w3 ⟨rfl, rfl⟩
      go_wp2_with fail
      go_ret
      exact ⟨rfl, HT.out⟩
end Go.Proofs.Ytpbabdoecjlifaa

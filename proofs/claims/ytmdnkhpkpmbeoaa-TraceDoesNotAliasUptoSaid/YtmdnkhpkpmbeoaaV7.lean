/-
  Merged texts: Rv.
-/
import Derived.Test.YtmdnkhpkpmbeoaaV6
import Derived.Deep.CutRange
import Derived.Deep.CutBlock

/-
  The reference's Valid.
-/
namespace Go.Proofs.Ytmdnkhpkpmbeoaa
open Go.RowKit
set_option linter.unusedVariables false
set_option linter.unusedSimpArgs false

theorem built_ep (c a : Int) : Try.prog.built 30 [(0, .int .i64 c), (1, .int .i64 a)] = some (encE (c, a)).toArray := by kernel_rfl
theorem built_ep0 (c : Int) : Try.prog.built 30 [(0, .int .i64 c)] = some (encE (c, 0)).toArray := by kernel_rfl
theorem str_nil (s : ByteArray) : s.toList = [] ↔ s = ⟨#[]⟩ := by
  rw [ByteArray.toList_eq]
  obtain ⟨d⟩ := s
  simp
/-- What the body of the loop reads. -/
structure Bun (w : World) (v3 v4 v5 : Value) (s : RS) (i g8 g9 gB : Nat) (o : O) : Prop where
  l3 : Lv w v3 s.live i
  l4 : Lv w v4 s.opened i
  l5 : Lv w v5 s.shut i
  k8 : w.rangeAt g8 0 (encE (xK o))
  k9 : w.rangeAt g9 0 (encE (cK o))
  kB : w.rangeAt gB 0 (encO o)
theorem Bun.touch {w w' : World} {v3 v4 v5 : Value} {s : RS} {i g8 g9 gB : Nat} {o : O} (h : Bun w v3 v4 v5 s i g8 g9 gB o) (t : Touch [] w w') : Bun w' v3 v4 v5 s i g8 g9 gB o :=
  ⟨h.l3.touch t, h.l4.touch t, h.l5.touch t, t.range h.k8 (by simp), t.range h.k9 (by simp), t.range h.kB (by simp)⟩
set_option maxRecDepth 100000 in
set_option maxHeartbeats 4000000 in
theorem rvalid_any (v : Value) (b : Nat) (l : List O) (w : World) (hr : Rd w 23 b v (rO l)) (hok : ∀ o ∈ l, OkO o) (hl : l.length ≤ 1000000) :
    Calls Try.prog 25 #[v] w fun e w' => e = .returned (.bool (validR l)) ∧ Touch [] w w' := by
  obtain ⟨a, cap, rfl, hc, hcm⟩ := hr.form
  rw [rO_len] at hc hr ⊢
  clear hcm
  go_enter Try.func25, Try.ntmps25
  go_wp2_with fail
  go_loopw [3, 4, 5, 6] (fun v3 v4 v5 vi wr => ∃ (i : Nat) (s : RS), vi = .int .i64 i ∧ i ≤ l.length ∧ runR (l.take i) = some s ∧ Lv wr v3 s.live i ∧ Lv wr v4 s.opened i ∧ Lv wr v5 s.shut i ∧ Touch [] w wr) (fun _ _ _ vi _ => l.length - (intOf vi).toNat)
  case atStart => exact ⟨0, ⟨[], [], []⟩, rfl, by omega, rfl, Lv.nil _ _, Lv.nil _ _, Lv.nil _ _, Touch.refl _ _⟩
  case round =>
    obtain ⟨i, s, rfl, hil, hrun, hl3, hl4, hl5, ht⟩ := hrel
    have HT := Lib.hid ht
    have HRUN := Lib.hid hrun
    have H3 := Lib.hid hl3
    have H4 := Lib.hid hl4
    have H5 := Lib.hid hl5
    clear hrun hl3 hl4 hl5 ht
    by_cases hlt : i < l.length
    · have hb1 : (i : Int) < (l.length : Int) := by omega
      have hx2 := List.getElem?_eq_getElem hlt
      have OKI := Lib.hid (hok _ (List.getElem_mem hlt))
      generalize l[i] = o at hx2 OKI
      obtain ⟨off, rfl, rI⟩ := (hr.touch HT.out (by simp)).atO hx2
      have HX := Lib.hid (show runR (l.take (i + 1)) = rstep s o by rw [runR_next hx2, HRUN.out]; rfl)
      have hwi : IntKind.i64.wrap ((i : Int) + 1) = (i : Int) + 1 := by rw [IntKind.wrap_i64] <;> omega
      have TB := Lib.hid ((Touch.refl [] wr).alloc (.cells (encO o).toArray 36))
      have HB := Lib.hid (heap_alloc_new wr (.cells (encO o).toArray 36))
      have HI := Lib.hid (show i ≤ 10000000 by omega)
      have KX := Lib.hid (show okK (xK o) from ⟨OKI.out.c, OKI.out.a⟩)
      have KC := Lib.hid (show okK (cK o) from ⟨OKI.out.c, wf_small (by simp [cK]) (by simp [cK])⟩)
      clear hx2 HRUN
      go_upto_region 6 with (first
          | ((with_reducible refine at_load 36 ?_); refine wpList_load_mid rfl 36 _ rfl b (off + i * 23) rfl (encO o) _ rI Try.underlying36 rfl (by rw [infoO, OKI.out.len]) ?_)
          | ((with_reducible refine at_store 36 ?_); refine wpList_store_new rfl 36 _ _ rfl _ _ (encO o) (by rfl) (by rfl) (by rw [OKI.out.len]; rfl) (by rw [infoO, OKI.out.len]) OKI.out.one ?_))
      clear rI
      obtain ⟨gB, hgB⟩ : ∃ gB, gB = wr.heap.size := ⟨_, rfl⟩
      rw [← hgB] at HB ⊢
      clear hgB
      obtain ⟨wb, hwb⟩ : ∃ wb, wb = wr.alloc (.cells (encO o).toArray 36) := ⟨_, rfl⟩
      rw [← hwb] at TB HB ⊢
      clear hwb
      simp only [Act.put, List.setIfInBounds_toArray, List.set_cons_zero, List.set_cons_succ]
      go_cut [8, 9] from 10 to 120 (fun s8 s9 wx => ∃ g8 g9 : Nat, s8 = .pointer (some ⟨g8, 0, none⟩) ∧ s9 = .pointer (some ⟨g9, 0, none⟩) ∧ wx.heap[g8]? = some (.cells (encE (xK o)).toArray 30 (0, 0)) ∧ wx.heap[g9]? = some (.cells (encE (cK o)).toArray 30 (0, 0)) ∧ wx.heap[gB]? = some (.cells (encO o).toArray 36 (0, 0)) ∧ Touch [] wr wx)
      case first =>
        have TBD := Lib.hid (TB.out.drew)
        have HBD := Lib.hid (((Touch.refl [] wb).drew).at HB.out (by simp))
        refine wp_region_held (S := Touch [] wb.drew) (by kernel_rfl) ?_
        change wpAnyH _ _ _ _ _ _ _ _ wb.drew
        generalize wb.drew = W at *
        have hS := Touch.refl [] W
        obtain ⟨_, c1, c2, _, _, _, _⟩ := O.cells OKI.out (range_block HBD.out)
        try simp only [Nat.zero_add] at c1 c2
        refine wpAnyH_take (i := 0) (oi := { dst := some 20, op := Op.fieldAddr 36 (Operand.tmp 7) 1, type := 0, pos := "trace.go:41", after := #[], guard := none }) (v := .pointer (some ⟨gB, 1, none⟩)) rfl (by kernel_rfl) (by kernel_rfl) (by kernel_rfl) (fun _ _ _ h => h) (Or.inl ⟨by rfl, fun w' hw => by go_simp⟩) hS ?_
        try simp only [Act.put, List.setIfInBounds_toArray, List.set_cons_zero, List.set_cons_succ]
        refine wpAnyH_take (i := 1) (oi := { dst := some 21, op := Op.load 3 (Operand.tmp 20), type := 3, pos := "trace.go:41", after := #[{ on := 0, ground := Ground.data }], guard := none }) (v := .int .i64 o.c) rfl (by kernel_rfl) (by kernel_rfl) (by kernel_rfl) (fun _ _ _ h => h) (Or.inl ⟨by rfl, fun w' hw => by (have q := hw.cell c1 (by simp); go_simp)⟩) hS ?_
        try simp only [Act.put, List.setIfInBounds_toArray, List.set_cons_zero, List.set_cons_succ]
        refine wpAnyH_take (i := 2) (oi := { dst := some 22, op := Op.fieldAddr 36 (Operand.tmp 7) 2, type := 0, pos := "trace.go:41", after := #[], guard := none }) (v := .pointer (some ⟨gB, 2, none⟩)) rfl (by kernel_rfl) (by kernel_rfl) (by kernel_rfl) (fun _ _ _ h => h) (Or.inl ⟨by rfl, fun w' hw => by go_simp⟩) hS ?_
        try simp only [Act.put, List.setIfInBounds_toArray, List.set_cons_zero, List.set_cons_succ]
        refine wpAnyH_take (i := 3) (oi := { dst := some 23, op := Op.load 3 (Operand.tmp 22), type := 3, pos := "trace.go:41", after := #[{ on := 2, ground := Ground.data }], guard := none }) (v := .int .i64 o.a) rfl (by kernel_rfl) (by kernel_rfl) (by kernel_rfl) (fun _ _ _ h => h) (Or.inl ⟨by rfl, fun w' hw => by (have q := hw.cell c2 (by simp); go_simp)⟩) hS ?_
        try simp only [Act.put, List.setIfInBounds_toArray, List.set_cons_zero, List.set_cons_succ]
        refine wpAnyH_take (i := 4) (oi := { dst := some 24, op := Op.build 30 #[(0, Operand.tmp 21), (1, Operand.tmp 23)], type := 30, pos := "trace.go:41", after := #[{ on := 1, ground := Ground.data }, { on := 3, ground := Ground.data }], guard := none }) (v := .agg (encE (xK o)).toArray) rfl (by kernel_rfl) (by kernel_rfl) (by kernel_rfl) (fun _ _ _ h => h) (Or.inl ⟨by rfl, fun w' hw => exec_builtY _ 30 _ rfl [(0, .int .i64 o.c), (1, .int .i64 o.a)] _ rfl (built_ep o.c o.a)⟩) hS ?_
        try simp only [Act.put, List.setIfInBounds_toArray, List.set_cons_zero, List.set_cons_succ]
        refine wpAnyH_take (i := 5) (oi := { dst := some 25, op := Op.fieldAddr 36 (Operand.tmp 7) 1, type := 0, pos := "trace.go:41", after := #[{ on := 10, ground := Ground.gcOnly Departure.lateStores }], guard := none }) (v := .pointer (some ⟨gB, 1, none⟩)) rfl (by kernel_rfl) (by kernel_rfl) (by kernel_rfl) (fun _ _ _ h => h) (Or.inl ⟨by rfl, fun w' hw => by go_simp⟩) hS ?_
        try simp only [Act.put, List.setIfInBounds_toArray, List.set_cons_zero, List.set_cons_succ]
        refine wpAnyH_take (i := 6) (oi := { dst := some 26, op := Op.load 3 (Operand.tmp 25), type := 3, pos := "trace.go:41", after := #[{ on := 5, ground := Ground.data }, { on := 10, ground := Ground.gcOnly Departure.lateStores }], guard := none }) (v := .int .i64 o.c) rfl (by kernel_rfl) (by kernel_rfl) (by kernel_rfl) (fun _ _ _ h => h) (Or.inl ⟨by rfl, fun w' hw => by (have q := hw.cell c1 (by simp); go_simp)⟩) hS ?_
        try simp only [Act.put, List.setIfInBounds_toArray, List.set_cons_zero, List.set_cons_succ]
        refine wpAnyH_take (i := 7) (oi := { dst := some 27, op := Op.build 30 #[(0, Operand.tmp 26)], type := 30, pos := "trace.go:41", after := #[{ on := 6, ground := Ground.data }, { on := 10, ground := Ground.gcOnly Departure.lateStores }], guard := none }) (v := .agg (encE (cK o)).toArray) rfl (by kernel_rfl) (by kernel_rfl) (by kernel_rfl) (fun _ _ _ h => h) (Or.inl ⟨by rfl, fun w' hw => exec_builtY _ 30 _ rfl [(0, .int .i64 o.c)] _ rfl (built_ep0 o.c)⟩) hS ?_
        try simp only [Act.put, List.setIfInBounds_toArray, List.set_cons_zero, List.set_cons_succ]
        refine wpAnyH_ready (rs := [8, 9]) (by kernel_rfl) (by simp) ?_
        refine AllReadyH.cons (o := { dst := some 8, op := Op.alloc 30, type := 0, pos := "trace.go:41", after := #[], guard := none }) rfl (fun K hK => ?_) (AllReadyH.cons (o := { dst := some 9, op := Op.alloc 30, type := 0, pos := "trace.go:41", after := #[], guard := none }) rfl (fun K hK => ?_) AllReadyH.nil)
        · go_simp
          have hS2 := hS.alloc (.cells #[.int .i64 0, .int .i64 0] 30)
          have K8 := Lib.hid (heap_alloc_new W (.cells #[.int .i64 0, .int .i64 0] 30))
          have hsz := hS.size
          refine hK.out _ _ hS2 (fun _ => ?_)
          clear hK K hS
          have hS := hS2
          clear hS2
          obtain ⟨g8, hg8⟩ : ∃ g, g = W.heap.size := ⟨_, rfl⟩
          rw [← hg8] at K8 ⊢
          have hw8 : W.heap.size ≤ g8 := by rw [hg8]; exact hsz
          clear hsz
          clear hg8
          generalize W.alloc (.cells #[.int .i64 0, .int .i64 0] 30) = y1 at *
          try simp only [Act.put, List.setIfInBounds_toArray, List.set_cons_zero, List.set_cons_succ]
          refine wpAnyH_ready (rs := [9]) (by kernel_rfl) (by simp) ?_
          refine AllReadyH.cons (o := { dst := some 9, op := Op.alloc 30, type := 0, pos := "trace.go:41", after := #[], guard := none }) rfl (fun K hK => ?_) AllReadyH.nil
          go_simp
          have hS2 := hS.alloc (.cells #[.int .i64 0, .int .i64 0] 30)
          have hl8 := (Array.getElem?_eq_some_iff.1 K8.out).1
          have K8 := Lib.hid (((Touch.refl [] y1).alloc (.cells #[.int .i64 0, .int .i64 0] 30)).at K8.out (by simp))
          have K9 := Lib.hid (heap_alloc_new y1 (.cells #[.int .i64 0, .int .i64 0] 30))
          have hsz := hS.size
          refine hK.out _ _ hS2 (fun _ => ?_)
          clear hK K hS
          have hS := hS2
          clear hS2
          obtain ⟨g9, hg9⟩ : ∃ g, g = y1.heap.size := ⟨_, rfl⟩
          rw [← hg9] at K9 ⊢
          have hw9 : W.heap.size ≤ g9 := by rw [hg9]; exact hsz
          clear hsz
          have ne : ¬ g8 = g9 := by rw [hg9]; omega
          clear hl8
          clear hg9
          generalize y1.alloc (.cells #[.int .i64 0, .int .i64 0] 30) = y2 at *
          try simp only [Act.put, List.setIfInBounds_toArray, List.set_cons_zero, List.set_cons_succ]
          refine wpAnyH_ready (rs := [10]) (by kernel_rfl) (by simp) ?_
          refine AllReadyH.cons (o := { dst := none, op := Op.store 30 (Operand.tmp 8) (Operand.tmp 24), type := 0, pos := "trace.go:41", after := #[{ on := 8, ground := Ground.data }, { on := 4, ground := Ground.data }, { on := 0, ground := Ground.phase }, { on := 1, ground := Ground.phase }, { on := 2, ground := Ground.phase }, { on := 3, ground := Ground.phase }, { on := 4, ground := Ground.phase }, { on := 5, ground := Ground.textOnly Departure.lateStores }, { on := 6, ground := Ground.textOnly Departure.lateStores }, { on := 7, ground := Ground.textOnly Departure.lateStores }, { on := 8, ground := Ground.phase }, { on := 9, ground := Ground.phase }], guard := none }) rfl (fun K hK => ?_) AllReadyH.nil
          refine step_of_list rfl ?_
          refine wpList_store_into rfl 30 _ _ rfl g8 30 _ (encE (xK o)) rfl rfl K8.out rfl (by rw [infoE]; rfl) (by simp [encE, Value.oneCell']) ?_
          intro y3 h' t' z'
          have hS2 := hS.trans t' (by intro q hq; right; simp at hq; omega)
          refine ⟨rfl, hK.out _ _ hS2 (fun _ => ?_)⟩
          clear hK K hS
          have hS := hS2
          clear hS2
          have K9 := Lib.hid (t'.at K9.out (by simp; omega))
          have K8 := Lib.hid h'
          clear h' t' z'
          try simp only [Act.put, List.setIfInBounds_toArray, List.set_cons_zero, List.set_cons_succ]
          refine wpAnyH_ready (rs := [11]) (by kernel_rfl) (by simp) ?_
          refine AllReadyH.cons (o := { dst := none, op := Op.store 30 (Operand.tmp 9) (Operand.tmp 27), type := 0, pos := "trace.go:41", after := #[{ on := 9, ground := Ground.data }, { on := 7, ground := Ground.data }, { on := 10, ground := Ground.chain }, { on := 0, ground := Ground.phase }, { on := 1, ground := Ground.phase }, { on := 2, ground := Ground.phase }, { on := 3, ground := Ground.phase }, { on := 4, ground := Ground.phase }, { on := 5, ground := Ground.phase }, { on := 6, ground := Ground.phase }, { on := 7, ground := Ground.phase }, { on := 8, ground := Ground.phase }, { on := 9, ground := Ground.phase }, { on := 10, ground := Ground.phase }], guard := none }) rfl (fun K hK => ?_) AllReadyH.nil
          refine step_of_list rfl ?_
          refine wpList_store_into rfl 30 _ _ rfl g9 30 _ (encE (cK o)) rfl rfl K9.out rfl (by rw [infoE]; rfl) (by simp [encE, Value.oneCell']) ?_
          intro y4 h' t' z'
          have hS2 := hS.trans t' (by intro q hq; right; simp at hq; omega)
          refine ⟨rfl, hK.out _ _ hS2 (fun _ => ?_)⟩
          clear hK K hS
          have hS := hS2
          clear hS2
          have K8 := Lib.hid (t'.at K8.out (by simp; omega))
          have K9 := Lib.hid h'
          clear h' t' z'
          try simp only [Act.put, List.setIfInBounds_toArray, List.set_cons_zero, List.set_cons_succ]
          refine wpAnyH_done (by kernel_rfl) ?_ _
          try simp only [Act.put, List.setIfInBounds_toArray, List.set_cons_zero, List.set_cons_succ]
          go_wp2_with fail
          go_meet
          exact ⟨g8, g9, rfl, rfl, K8.out, K9.out, hS.at HBD.out (by simp), TBD.out.trans hS (by simp)⟩
        · go_simp
          have hS2 := hS.alloc (.cells #[.int .i64 0, .int .i64 0] 30)
          have K9 := Lib.hid (heap_alloc_new W (.cells #[.int .i64 0, .int .i64 0] 30))
          have hsz := hS.size
          refine hK.out _ _ hS2 (fun _ => ?_)
          clear hK K hS
          have hS := hS2
          clear hS2
          obtain ⟨g9, hg9⟩ : ∃ g, g = W.heap.size := ⟨_, rfl⟩
          rw [← hg9] at K9 ⊢
          have hw9 : W.heap.size ≤ g9 := by rw [hg9]; exact hsz
          clear hsz
          clear hg9
          generalize W.alloc (.cells #[.int .i64 0, .int .i64 0] 30) = y1 at *
          try simp only [Act.put, List.setIfInBounds_toArray, List.set_cons_zero, List.set_cons_succ]
          refine wpAnyH_ready (rs := [8]) (by kernel_rfl) (by simp) ?_
          refine AllReadyH.cons (o := { dst := some 8, op := Op.alloc 30, type := 0, pos := "trace.go:41", after := #[], guard := none }) rfl (fun K hK => ?_) AllReadyH.nil
          go_simp
          have hS2 := hS.alloc (.cells #[.int .i64 0, .int .i64 0] 30)
          have hl9 := (Array.getElem?_eq_some_iff.1 K9.out).1
          have K9 := Lib.hid (((Touch.refl [] y1).alloc (.cells #[.int .i64 0, .int .i64 0] 30)).at K9.out (by simp))
          have K8 := Lib.hid (heap_alloc_new y1 (.cells #[.int .i64 0, .int .i64 0] 30))
          have hsz := hS.size
          refine hK.out _ _ hS2 (fun _ => ?_)
          clear hK K hS
          have hS := hS2
          clear hS2
          obtain ⟨g8, hg8⟩ : ∃ g, g = y1.heap.size := ⟨_, rfl⟩
          rw [← hg8] at K8 ⊢
          have hw8 : W.heap.size ≤ g8 := by rw [hg8]; exact hsz
          clear hsz
          have ne : ¬ g8 = g9 := by rw [hg8]; omega
          clear hl9
          clear hg8
          generalize y1.alloc (.cells #[.int .i64 0, .int .i64 0] 30) = y2 at *
          try simp only [Act.put, List.setIfInBounds_toArray, List.set_cons_zero, List.set_cons_succ]
          refine wpAnyH_ready (rs := [10]) (by kernel_rfl) (by simp) ?_
          refine AllReadyH.cons (o := { dst := none, op := Op.store 30 (Operand.tmp 8) (Operand.tmp 24), type := 0, pos := "trace.go:41", after := #[{ on := 8, ground := Ground.data }, { on := 4, ground := Ground.data }, { on := 0, ground := Ground.phase }, { on := 1, ground := Ground.phase }, { on := 2, ground := Ground.phase }, { on := 3, ground := Ground.phase }, { on := 4, ground := Ground.phase }, { on := 5, ground := Ground.textOnly Departure.lateStores }, { on := 6, ground := Ground.textOnly Departure.lateStores }, { on := 7, ground := Ground.textOnly Departure.lateStores }, { on := 8, ground := Ground.phase }, { on := 9, ground := Ground.phase }], guard := none }) rfl (fun K hK => ?_) AllReadyH.nil
          refine step_of_list rfl ?_
          refine wpList_store_into rfl 30 _ _ rfl g8 30 _ (encE (xK o)) rfl rfl K8.out rfl (by rw [infoE]; rfl) (by simp [encE, Value.oneCell']) ?_
          intro y3 h' t' z'
          have hS2 := hS.trans t' (by intro q hq; right; simp at hq; omega)
          refine ⟨rfl, hK.out _ _ hS2 (fun _ => ?_)⟩
          clear hK K hS
          have hS := hS2
          clear hS2
          have K9 := Lib.hid (t'.at K9.out (by simp; omega))
          have K8 := Lib.hid h'
          clear h' t' z'
          try simp only [Act.put, List.setIfInBounds_toArray, List.set_cons_zero, List.set_cons_succ]
          refine wpAnyH_ready (rs := [11]) (by kernel_rfl) (by simp) ?_
          refine AllReadyH.cons (o := { dst := none, op := Op.store 30 (Operand.tmp 9) (Operand.tmp 27), type := 0, pos := "trace.go:41", after := #[{ on := 9, ground := Ground.data }, { on := 7, ground := Ground.data }, { on := 10, ground := Ground.chain }, { on := 0, ground := Ground.phase }, { on := 1, ground := Ground.phase }, { on := 2, ground := Ground.phase }, { on := 3, ground := Ground.phase }, { on := 4, ground := Ground.phase }, { on := 5, ground := Ground.phase }, { on := 6, ground := Ground.phase }, { on := 7, ground := Ground.phase }, { on := 8, ground := Ground.phase }, { on := 9, ground := Ground.phase }, { on := 10, ground := Ground.phase }], guard := none }) rfl (fun K hK => ?_) AllReadyH.nil
          refine step_of_list rfl ?_
          refine wpList_store_into rfl 30 _ _ rfl g9 30 _ (encE (cK o)) rfl rfl K9.out rfl (by rw [infoE]; rfl) (by simp [encE, Value.oneCell']) ?_
          intro y4 h' t' z'
          have hS2 := hS.trans t' (by intro q hq; right; simp at hq; omega)
          refine ⟨rfl, hK.out _ _ hS2 (fun _ => ?_)⟩
          clear hK K hS
          have hS := hS2
          clear hS2
          have K8 := Lib.hid (t'.at K8.out (by simp; omega))
          have K9 := Lib.hid h'
          clear h' t' z'
          try simp only [Act.put, List.setIfInBounds_toArray, List.set_cons_zero, List.set_cons_succ]
          refine wpAnyH_done (by kernel_rfl) ?_ _
          try simp only [Act.put, List.setIfInBounds_toArray, List.set_cons_zero, List.set_cons_succ]
          go_wp2_with fail
          go_meet
          exact ⟨g8, g9, rfl, rfl, K8.out, K9.out, hS.at HBD.out (by simp), TBD.out.trans hS (by simp)⟩
      case rest =>
        obtain ⟨g8, g9, rfl, rfl, k8, k9, kB, tc⟩ := hcut
        have B := Lib.hid (Bun.mk (H3.out.touch tc) (H4.out.touch tc) (H5.out.touch tc) (range_block k8) (range_block k9) (range_block kB))
        have TC := Lib.hid (HT.out.trans tc (by simp))
        obtain ⟨c0, _, c2, _, _, _, _⟩ := O.cells OKI.out (range_block kB)
        try simp only [Nat.zero_add] at c0 c2
        clear k8 k9 kB tc
        by_cases h1 : o.k = 1
        · have q1 : (o.k == 1) = true := by simp [h1]
          go_wp2_with (first
            | ((with_reducible refine at_load 30 ?_); refine wpList_load_mid rfl 30 _ rfl g8 (0) rfl (encE (xK o)) _ B.out.k8 Try.underlying30 rfl (by rw [infoE]; rfl) ?_)
            | ((with_reducible refine at_load 30 ?_); refine wpList_load_mid rfl 30 _ rfl g9 (0) rfl (encE (cK o)) _ B.out.k9 Try.underlying30 rfl (by rw [infoE]; rfl) ?_)
            | ((with_reducible refine at_load_g 30 _ _ ?_); refine wpList_load_gg _ _ rfl (by rfl) 30 _ rfl g8 (0) rfl (encE (xK o)) _ B.out.k8 Try.underlying30 rfl (by rw [infoE]; rfl) ?_)
            | ((with_reducible refine at_load_g 30 _ _ ?_); refine wpList_load_gg _ _ rfl (by rfl) 30 _ rfl g9 (0) rfl (encE (cK o)) _ B.out.k9 Try.underlying30 rfl (by rw [infoE]; rfl) ?_))
          refine (B.out.l3.contains HI.out (cK o) KC.out).mono ?_
          rintro e w1 ⟨rfl, tt⟩
          have B := Lib.hid (B.out.touch tt)
          have TC := Lib.hid (TC.out.trans tt (by simp))
          clear tt
          cases hdA : decide (cK o ∈ s.live) with
          | true =>
            have HE := Lib.hid (show validR l = false from runR_none (i := i + 1) (by rw [HX.out]; simp [rstep, h1, of_decide_eq_true hdA]))
            clear HX
            go_wp2_with (first
              | ((with_reducible refine at_load 30 ?_); refine wpList_load_mid rfl 30 _ rfl g8 (0) rfl (encE (xK o)) _ B.out.k8 Try.underlying30 rfl (by rw [infoE]; rfl) ?_)
              | ((with_reducible refine at_load 30 ?_); refine wpList_load_mid rfl 30 _ rfl g9 (0) rfl (encE (cK o)) _ B.out.k9 Try.underlying30 rfl (by rw [infoE]; rfl) ?_)
              | ((with_reducible refine at_load_g 30 _ _ ?_); refine wpList_load_gg _ _ rfl (by rfl) 30 _ rfl g8 (0) rfl (encE (xK o)) _ B.out.k8 Try.underlying30 rfl (by rw [infoE]; rfl) ?_)
              | ((with_reducible refine at_load_g 30 _ _ ?_); refine wpList_load_gg _ _ rfl (by rfl) 30 _ rfl g9 (0) rfl (encE (cK o)) _ B.out.k9 Try.underlying30 rfl (by rw [infoE]; rfl) ?_))
            go_ret
            exact ⟨by rw [HE.out]; rfl, TC.out⟩
          | false =>
            have HR := Lib.hid (show runR (l.take (i + 1)) = some ⟨s.live ++ [cK o], remK s.opened (cK o) true, remK s.shut (cK o) false⟩ by rw [HX.out]; simp [rstep, h1, of_decide_eq_false hdA])
            clear hdA h1 HX c0 c2
            go_upto_region 12 with (first
              | ((with_reducible refine at_load 30 ?_); refine wpList_load_mid rfl 30 _ rfl g8 (0) rfl (encE (xK o)) _ B.out.k8 Try.underlying30 rfl (by rw [infoE]; rfl) ?_)
              | ((with_reducible refine at_load 30 ?_); refine wpList_load_mid rfl 30 _ rfl g9 (0) rfl (encE (cK o)) _ B.out.k9 Try.underlying30 rfl (by rw [infoE]; rfl) ?_)
              | ((with_reducible refine at_load_g 30 _ _ ?_); refine wpList_load_gg _ _ rfl (by rfl) 30 _ rfl g8 (0) rfl (encE (xK o)) _ B.out.k8 Try.underlying30 rfl (by rw [infoE]; rfl) ?_)
              | ((with_reducible refine at_load_g 30 _ _ ?_); refine wpList_load_gg _ _ rfl (by rfl) 30 _ rfl g9 (0) rfl (encE (cK o)) _ B.out.k9 Try.underlying30 rfl (by rw [infoE]; rfl) ?_))
            have BW := Lib.hid (B.out.touch ((Touch.refl [] _).drew))
            have TCW := Lib.hid (TC.out.drew)
            refine wp_region_held (S := Touch [] w1.drew) (by kernel_rfl) ?_
            change wpAnyH _ _ _ _ _ _ _ _ w1.drew
            generalize w1.drew = W at *
            have hS := Touch.refl [] W
            refine wpAnyH_take (i := 0) (oi := { dst := some 35, op := Op.move (Operand.tmp 3), type := 27, pos := "trace.go:47", after := #[], guard := none }) (v := u3) rfl (by kernel_rfl) (by kernel_rfl) (by kernel_rfl) (fun _ _ _ h => h) (Or.inl ⟨by rfl, fun w' hw => by go_simp⟩) hS ?_
            try simp only [Act.put, List.setIfInBounds_toArray, List.set_cons_zero, List.set_cons_succ]
            refine wpAnyH_take (i := 1) (oi := { dst := some 36, op := Op.load 30 (Operand.tmp 9), type := 30, pos := "trace.go:47", after := #[], guard := none }) (v := .agg (encE (cK o)).toArray) rfl (by kernel_rfl) (by kernel_rfl) (by kernel_rfl) (fun _ _ _ h => h) (Or.inl ⟨by rfl, fun w' hw => exec_load_agg _ 30 _ rfl _ _ rfl (encE (cK o)) _ (hw.range BW.out.k9 (by simp)) Try.underlying30 rfl (by rw [infoE]; rfl)⟩) hS ?_
            try simp only [Act.put, List.setIfInBounds_toArray, List.set_cons_zero, List.set_cons_succ]
            refine wpAnyH_take (i := 3) (oi := { dst := some 38, op := Op.move (Operand.tmp 4), type := 27, pos := "trace.go:47", after := #[], guard := none }) (v := u4) rfl (by kernel_rfl) (by kernel_rfl) (by kernel_rfl) (fun _ _ _ h => h) (Or.inl ⟨by rfl, fun w' hw => by go_simp⟩) hS ?_
            try simp only [Act.put, List.setIfInBounds_toArray, List.set_cons_zero, List.set_cons_succ]
            refine wpAnyH_take (i := 4) (oi := { dst := some 39, op := Op.load 30 (Operand.tmp 9), type := 30, pos := "trace.go:47", after := #[], guard := none }) (v := .agg (encE (cK o)).toArray) rfl (by kernel_rfl) (by kernel_rfl) (by kernel_rfl) (fun _ _ _ h => h) (Or.inl ⟨by rfl, fun w' hw => exec_load_agg _ 30 _ rfl _ _ rfl (encE (cK o)) _ (hw.range BW.out.k9 (by simp)) Try.underlying30 rfl (by rw [infoE]; rfl)⟩) hS ?_
            try simp only [Act.put, List.setIfInBounds_toArray, List.set_cons_zero, List.set_cons_succ]
            refine wpAnyH_take (i := 6) (oi := { dst := some 41, op := Op.move (Operand.tmp 5), type := 27, pos := "trace.go:47", after := #[], guard := none }) (v := u5) rfl (by kernel_rfl) (by kernel_rfl) (by kernel_rfl) (fun _ _ _ h => h) (Or.inl ⟨by rfl, fun w' hw => by go_simp⟩) hS ?_
            try simp only [Act.put, List.setIfInBounds_toArray, List.set_cons_zero, List.set_cons_succ]
            refine wpAnyH_take (i := 7) (oi := { dst := some 42, op := Op.load 30 (Operand.tmp 9), type := 30, pos := "trace.go:47", after := #[], guard := none }) (v := .agg (encE (cK o)).toArray) rfl (by kernel_rfl) (by kernel_rfl) (by kernel_rfl) (fun _ _ _ h => h) (Or.inl ⟨by rfl, fun w' hw => exec_load_agg _ 30 _ rfl _ _ rfl (encE (cK o)) _ (hw.range BW.out.k9 (by simp)) Try.underlying30 rfl (by rw [infoE]; rfl)⟩) hS ?_
            try simp only [Act.put, List.setIfInBounds_toArray, List.set_cons_zero, List.set_cons_succ]
            refine wpAnyH_ready (rs := [2]) (by kernel_rfl) (by simp) ?_
            refine AllReadyH.cons (o := { dst := some 37, op := Op.call { callee := Callee.value (Operand.func 47), args := #[Operand.tmp 35, Operand.tmp 36], argTypes := #[27, 30] }, type := 27, pos := "trace.go:47", after := #[{ on := 0, ground := Ground.data }, { on := 1, ground := Ground.data }], guard := none }) rfl (fun K hK => ?_) AllReadyH.nil
            go_simp
            refine ((BW.out.l3.touch hS).app HI.out (cK o) KC.out).mono ?_
            rintro e z0 ⟨p3, rfl, lv, tt⟩
            have hS2 := hS.trans tt (by simp)
            refine hK.out _ _ hS2 (fun _ => ?_)
            clear hK K hS
            have hS := hS2
            clear hS2
            have N3 := Lib.hid lv
            clear lv tt
            try simp only [Act.put, List.setIfInBounds_toArray, List.set_cons_zero, List.set_cons_succ]
            refine wpAnyH_ready (rs := [5]) (by kernel_rfl) (by simp) ?_
            refine AllReadyH.cons (o := { dst := some 40, op := Op.call { callee := Callee.value (Operand.func 48), args := #[Operand.tmp 38, Operand.tmp 39, Operand.const (Value.bool true)], argTypes := #[27, 30, 4] }, type := 27, pos := "trace.go:47", after := #[{ on := 3, ground := Ground.data }, { on := 4, ground := Ground.data }, { on := 2, ground := Ground.chain }], guard := none }) rfl (fun K hK => ?_) AllReadyH.nil
            go_simp
            refine ((BW.out.l4.touch hS).rem HI.out (cK o) true KC.out).mono ?_
            rintro e z1 ⟨p4, rfl, lv, tt⟩
            have hS2 := hS.trans tt (by simp)
            refine hK.out _ _ hS2 (fun _ => ?_)
            clear hK K hS
            have hS := hS2
            clear hS2
            have N3 := Lib.hid (N3.out.touch tt)
            have N4 := Lib.hid lv
            clear lv tt
            try simp only [Act.put, List.setIfInBounds_toArray, List.set_cons_zero, List.set_cons_succ]
            refine wpAnyH_ready (rs := [8]) (by kernel_rfl) (by simp) ?_
            refine AllReadyH.cons (o := { dst := some 43, op := Op.call { callee := Callee.value (Operand.func 48), args := #[Operand.tmp 41, Operand.tmp 42, Operand.const (Value.bool false)], argTypes := #[27, 30, 4] }, type := 27, pos := "trace.go:47", after := #[{ on := 6, ground := Ground.data }, { on := 7, ground := Ground.data }, { on := 5, ground := Ground.chain }], guard := none }) rfl (fun K hK => ?_) AllReadyH.nil
            go_simp
            refine ((BW.out.l5.touch hS).rem HI.out (cK o) false KC.out).mono ?_
            rintro e z2 ⟨p5, rfl, lv, tt⟩
            have hS2 := hS.trans tt (by simp)
            refine hK.out _ _ hS2 (fun _ => ?_)
            clear hK K hS
            have hS := hS2
            clear hS2
            have N3 := Lib.hid (N3.out.touch tt)
            have N4 := Lib.hid (N4.out.touch tt)
            have N5 := Lib.hid lv
            clear lv tt
            try simp only [Act.put, List.setIfInBounds_toArray, List.set_cons_zero, List.set_cons_succ]
            refine wpAnyH_take (i := 9) (oi := { dst := some 3, op := Op.assign (Operand.tmp 37), type := 27, pos := "trace.go:47", after := #[{ on := 2, ground := Ground.data }, { on := 8, ground := Ground.chain }, { on := 0, ground := Ground.phase }, { on := 1, ground := Ground.phase }, { on := 2, ground := Ground.phase }, { on := 3, ground := Ground.textOnly Departure.lateStores }, { on := 4, ground := Ground.textOnly Departure.lateStores }, { on := 5, ground := Ground.textOnly Departure.lateStoresUnsure }, { on := 6, ground := Ground.textOnly Departure.lateStores }, { on := 7, ground := Ground.textOnly Departure.lateStores }, { on := 8, ground := Ground.textOnly Departure.lateStoresUnsure }], guard := none }) (v := p3) rfl (by kernel_rfl) (by kernel_rfl) (by kernel_rfl) (fun _ _ _ h => h) (Or.inl ⟨by rfl, fun w' hw => by go_simp⟩) hS ?_
            try simp only [Act.put, List.setIfInBounds_toArray, List.set_cons_zero, List.set_cons_succ]
            refine wpAnyH_take (i := 10) (oi := { dst := some 4, op := Op.assign (Operand.tmp 40), type := 27, pos := "trace.go:47", after := #[{ on := 5, ground := Ground.data }, { on := 9, ground := Ground.chain }, { on := 0, ground := Ground.phase }, { on := 1, ground := Ground.phase }, { on := 2, ground := Ground.phase }, { on := 3, ground := Ground.phase }, { on := 4, ground := Ground.phase }, { on := 5, ground := Ground.phase }, { on := 6, ground := Ground.textOnly Departure.lateStores }, { on := 7, ground := Ground.textOnly Departure.lateStores }, { on := 8, ground := Ground.textOnly Departure.lateStoresUnsure }, { on := 9, ground := Ground.phase }], guard := none }) (v := p4) rfl (by kernel_rfl) (by kernel_rfl) (by kernel_rfl) (fun _ _ _ h => h) (Or.inl ⟨by rfl, fun w' hw => by go_simp⟩) hS ?_
            try simp only [Act.put, List.setIfInBounds_toArray, List.set_cons_zero, List.set_cons_succ]
            refine wpAnyH_take (i := 11) (oi := { dst := some 5, op := Op.assign (Operand.tmp 43), type := 27, pos := "trace.go:47", after := #[{ on := 8, ground := Ground.data }, { on := 10, ground := Ground.chain }, { on := 0, ground := Ground.phase }, { on := 1, ground := Ground.phase }, { on := 2, ground := Ground.phase }, { on := 3, ground := Ground.phase }, { on := 4, ground := Ground.phase }, { on := 5, ground := Ground.phase }, { on := 6, ground := Ground.phase }, { on := 7, ground := Ground.phase }, { on := 8, ground := Ground.phase }, { on := 9, ground := Ground.phase }, { on := 10, ground := Ground.phase }], guard := none }) (v := p5) rfl (by kernel_rfl) (by kernel_rfl) (by kernel_rfl) (fun _ _ _ h => h) (Or.inl ⟨by rfl, fun w' hw => by go_simp⟩) hS ?_
            try simp only [Act.put, List.setIfInBounds_toArray, List.set_cons_zero, List.set_cons_succ]
            refine wpAnyH_done (by kernel_rfl) ?_ _
            try simp only [Act.put, List.setIfInBounds_toArray, List.set_cons_zero, List.set_cons_succ]
            have TZ := Lib.hid (TCW.out.trans hS (by simp))
            clear hS
            go_wp2_with fail
            go_roundw
            case rel => exact ⟨i + 1, ⟨s.live ++ [cK o], remK s.opened (cK o) true, remK s.shut (cK o) false⟩, by simp, by omega, HR.out, N3.out, N4.out, N5.out, TZ.out⟩
            case measure => simp [intOf]; omega
        have q1 : (o.k == 1) = false := by simp [h1]
        by_cases h2 : o.k = 2
        · have q2 : (o.k == 2) = true := by simp [h2]
          have HR := Lib.hid (show runR (l.take (i + 1)) = some s by rw [HX.out]; simp [rstep, h2])
          go_wp2_with (first
            | ((with_reducible refine at_load 30 ?_); refine wpList_load_mid rfl 30 _ rfl g8 (0) rfl (encE (xK o)) _ B.out.k8 Try.underlying30 rfl (by rw [infoE]; rfl) ?_)
            | ((with_reducible refine at_load 30 ?_); refine wpList_load_mid rfl 30 _ rfl g9 (0) rfl (encE (cK o)) _ B.out.k9 Try.underlying30 rfl (by rw [infoE]; rfl) ?_)
            | ((with_reducible refine at_load_g 30 _ _ ?_); refine wpList_load_gg _ _ rfl (by rfl) 30 _ rfl g8 (0) rfl (encE (xK o)) _ B.out.k8 Try.underlying30 rfl (by rw [infoE]; rfl) ?_)
            | ((with_reducible refine at_load_g 30 _ _ ?_); refine wpList_load_gg _ _ rfl (by rfl) 30 _ rfl g9 (0) rfl (encE (cK o)) _ B.out.k9 Try.underlying30 rfl (by rw [infoE]; rfl) ?_))
          go_roundw
          case rel => exact ⟨i + 1, s, by simp, by omega, HR.out, B.out.l3.more (by omega), B.out.l4.more (by omega), B.out.l5.more (by omega), TC.out⟩
          case measure => simp [intOf]; omega
        have q2 : (o.k == 2) = false := by simp [h2]
        by_cases h3 : o.k = 3
        · have q3 : (o.k == 3) = true := by simp [h3]
          go_wp2_with (first
            | ((with_reducible refine at_load 30 ?_); refine wpList_load_mid rfl 30 _ rfl g8 (0) rfl (encE (xK o)) _ B.out.k8 Try.underlying30 rfl (by rw [infoE]; rfl) ?_)
            | ((with_reducible refine at_load 30 ?_); refine wpList_load_mid rfl 30 _ rfl g9 (0) rfl (encE (cK o)) _ B.out.k9 Try.underlying30 rfl (by rw [infoE]; rfl) ?_)
            | ((with_reducible refine at_load_g 30 _ _ ?_); refine wpList_load_gg _ _ rfl (by rfl) 30 _ rfl g8 (0) rfl (encE (xK o)) _ B.out.k8 Try.underlying30 rfl (by rw [infoE]; rfl) ?_)
            | ((with_reducible refine at_load_g 30 _ _ ?_); refine wpList_load_gg _ _ rfl (by rfl) 30 _ rfl g9 (0) rfl (encE (cK o)) _ B.out.k9 Try.underlying30 rfl (by rw [infoE]; rfl) ?_))
          refine (B.out.l3.contains HI.out (cK o) KC.out).mono ?_
          rintro e w1 ⟨rfl, tt⟩
          have B := Lib.hid (B.out.touch tt)
          have TC := Lib.hid (TC.out.trans tt (by simp))
          clear tt
          cases hdA : decide (cK o ∈ s.live) with
          | true =>
            have HR := Lib.hid (show runR (l.take (i + 1)) = some s by rw [HX.out]; simp [rstep, h3, of_decide_eq_true hdA])
            go_wp2_with (first
              | ((with_reducible refine at_load 30 ?_); refine wpList_load_mid rfl 30 _ rfl g8 (0) rfl (encE (xK o)) _ B.out.k8 Try.underlying30 rfl (by rw [infoE]; rfl) ?_)
              | ((with_reducible refine at_load 30 ?_); refine wpList_load_mid rfl 30 _ rfl g9 (0) rfl (encE (cK o)) _ B.out.k9 Try.underlying30 rfl (by rw [infoE]; rfl) ?_)
              | ((with_reducible refine at_load_g 30 _ _ ?_); refine wpList_load_gg _ _ rfl (by rfl) 30 _ rfl g8 (0) rfl (encE (xK o)) _ B.out.k8 Try.underlying30 rfl (by rw [infoE]; rfl) ?_)
              | ((with_reducible refine at_load_g 30 _ _ ?_); refine wpList_load_gg _ _ rfl (by rfl) 30 _ rfl g9 (0) rfl (encE (cK o)) _ B.out.k9 Try.underlying30 rfl (by rw [infoE]; rfl) ?_))
            go_roundw
            case rel => exact ⟨i + 1, s, by simp, by omega, HR.out, B.out.l3.more (by omega), B.out.l4.more (by omega), B.out.l5.more (by omega), TC.out⟩
            case measure => simp [intOf]; omega
          | false =>
            have HE := Lib.hid (show validR l = false from runR_none (i := i + 1) (by rw [HX.out]; simp [rstep, h3, of_decide_eq_false hdA]))
            clear HX
            go_wp2_with (first
              | ((with_reducible refine at_load 30 ?_); refine wpList_load_mid rfl 30 _ rfl g8 (0) rfl (encE (xK o)) _ B.out.k8 Try.underlying30 rfl (by rw [infoE]; rfl) ?_)
              | ((with_reducible refine at_load 30 ?_); refine wpList_load_mid rfl 30 _ rfl g9 (0) rfl (encE (cK o)) _ B.out.k9 Try.underlying30 rfl (by rw [infoE]; rfl) ?_)
              | ((with_reducible refine at_load_g 30 _ _ ?_); refine wpList_load_gg _ _ rfl (by rfl) 30 _ rfl g8 (0) rfl (encE (xK o)) _ B.out.k8 Try.underlying30 rfl (by rw [infoE]; rfl) ?_)
              | ((with_reducible refine at_load_g 30 _ _ ?_); refine wpList_load_gg _ _ rfl (by rfl) 30 _ rfl g9 (0) rfl (encE (cK o)) _ B.out.k9 Try.underlying30 rfl (by rw [infoE]; rfl) ?_))
            go_ret
            exact ⟨by rw [HE.out]; rfl, TC.out⟩
        have q3 : (o.k == 3) = false := by simp [h3]
        by_cases h4 : o.k = 4
        · have q4 : (o.k == 4) = true := by simp [h4]
          by_cases ha : o.a < 1
          · have qa : decide (o.a < 1) = true := decide_eq_true ha
            have HE := Lib.hid (show validR l = false from runR_none (i := i + 1) (by rw [HX.out]; simp [rstep, h4, ha]))
            clear HX
            go_wp2_with (first
              | ((with_reducible refine at_load 30 ?_); refine wpList_load_mid rfl 30 _ rfl g8 (0) rfl (encE (xK o)) _ B.out.k8 Try.underlying30 rfl (by rw [infoE]; rfl) ?_)
              | ((with_reducible refine at_load 30 ?_); refine wpList_load_mid rfl 30 _ rfl g9 (0) rfl (encE (cK o)) _ B.out.k9 Try.underlying30 rfl (by rw [infoE]; rfl) ?_)
              | ((with_reducible refine at_load_g 30 _ _ ?_); refine wpList_load_gg _ _ rfl (by rfl) 30 _ rfl g8 (0) rfl (encE (xK o)) _ B.out.k8 Try.underlying30 rfl (by rw [infoE]; rfl) ?_)
              | ((with_reducible refine at_load_g 30 _ _ ?_); refine wpList_load_gg _ _ rfl (by rfl) 30 _ rfl g9 (0) rfl (encE (cK o)) _ B.out.k9 Try.underlying30 rfl (by rw [infoE]; rfl) ?_))
            go_ret
            exact ⟨by rw [HE.out]; rfl, TC.out⟩
          have qa : decide (o.a < 1) = false := decide_eq_false ha
          go_wp2_with (first
            | ((with_reducible refine at_load 30 ?_); refine wpList_load_mid rfl 30 _ rfl g8 (0) rfl (encE (xK o)) _ B.out.k8 Try.underlying30 rfl (by rw [infoE]; rfl) ?_)
            | ((with_reducible refine at_load 30 ?_); refine wpList_load_mid rfl 30 _ rfl g9 (0) rfl (encE (cK o)) _ B.out.k9 Try.underlying30 rfl (by rw [infoE]; rfl) ?_)
            | ((with_reducible refine at_load_g 30 _ _ ?_); refine wpList_load_gg _ _ rfl (by rfl) 30 _ rfl g8 (0) rfl (encE (xK o)) _ B.out.k8 Try.underlying30 rfl (by rw [infoE]; rfl) ?_)
            | ((with_reducible refine at_load_g 30 _ _ ?_); refine wpList_load_gg _ _ rfl (by rfl) 30 _ rfl g9 (0) rfl (encE (cK o)) _ B.out.k9 Try.underlying30 rfl (by rw [infoE]; rfl) ?_))
          refine (B.out.l4.contains HI.out (xK o) KX.out).mono ?_
          rintro e w1 ⟨rfl, tt⟩
          have B := Lib.hid (B.out.touch tt)
          have TC := Lib.hid (TC.out.trans tt (by simp))
          clear tt
          cases hdA : decide (xK o ∈ s.opened) with
          | true =>
            have HE := Lib.hid (show validR l = false from runR_none (i := i + 1) (by rw [HX.out]; simp [rstep, h4, of_decide_eq_true hdA]))
            clear HX
            go_wp2_with (first
              | ((with_reducible refine at_load 30 ?_); refine wpList_load_mid rfl 30 _ rfl g8 (0) rfl (encE (xK o)) _ B.out.k8 Try.underlying30 rfl (by rw [infoE]; rfl) ?_)
              | ((with_reducible refine at_load 30 ?_); refine wpList_load_mid rfl 30 _ rfl g9 (0) rfl (encE (cK o)) _ B.out.k9 Try.underlying30 rfl (by rw [infoE]; rfl) ?_)
              | ((with_reducible refine at_load_g 30 _ _ ?_); refine wpList_load_gg _ _ rfl (by rfl) 30 _ rfl g8 (0) rfl (encE (xK o)) _ B.out.k8 Try.underlying30 rfl (by rw [infoE]; rfl) ?_)
              | ((with_reducible refine at_load_g 30 _ _ ?_); refine wpList_load_gg _ _ rfl (by rfl) 30 _ rfl g9 (0) rfl (encE (cK o)) _ B.out.k9 Try.underlying30 rfl (by rw [infoE]; rfl) ?_))
            go_ret
            exact ⟨by rw [HE.out]; rfl, TC.out⟩
          | false =>
            go_wp2_with (first
              | ((with_reducible refine at_load 30 ?_); refine wpList_load_mid rfl 30 _ rfl g8 (0) rfl (encE (xK o)) _ B.out.k8 Try.underlying30 rfl (by rw [infoE]; rfl) ?_)
              | ((with_reducible refine at_load 30 ?_); refine wpList_load_mid rfl 30 _ rfl g9 (0) rfl (encE (cK o)) _ B.out.k9 Try.underlying30 rfl (by rw [infoE]; rfl) ?_)
              | ((with_reducible refine at_load_g 30 _ _ ?_); refine wpList_load_gg _ _ rfl (by rfl) 30 _ rfl g8 (0) rfl (encE (xK o)) _ B.out.k8 Try.underlying30 rfl (by rw [infoE]; rfl) ?_)
              | ((with_reducible refine at_load_g 30 _ _ ?_); refine wpList_load_gg _ _ rfl (by rfl) 30 _ rfl g9 (0) rfl (encE (cK o)) _ B.out.k9 Try.underlying30 rfl (by rw [infoE]; rfl) ?_))
            refine (B.out.l3.contains HI.out (cK o) KC.out).mono ?_
            rintro e w2 ⟨rfl, tt⟩
            have B := Lib.hid (B.out.touch tt)
            have TC := Lib.hid (TC.out.trans tt (by simp))
            clear tt
            cases hdB : decide (cK o ∈ s.live) with
            | true =>
              go_wp2_with (first
                | ((with_reducible refine at_load 30 ?_); refine wpList_load_mid rfl 30 _ rfl g8 (0) rfl (encE (xK o)) _ B.out.k8 Try.underlying30 rfl (by rw [infoE]; rfl) ?_)
                | ((with_reducible refine at_load 30 ?_); refine wpList_load_mid rfl 30 _ rfl g9 (0) rfl (encE (cK o)) _ B.out.k9 Try.underlying30 rfl (by rw [infoE]; rfl) ?_)
                | ((with_reducible refine at_load_g 30 _ _ ?_); refine wpList_load_gg _ _ rfl (by rfl) 30 _ rfl g8 (0) rfl (encE (xK o)) _ B.out.k8 Try.underlying30 rfl (by rw [infoE]; rfl) ?_)
                | ((with_reducible refine at_load_g 30 _ _ ?_); refine wpList_load_gg _ _ rfl (by rfl) 30 _ rfl g9 (0) rfl (encE (cK o)) _ B.out.k9 Try.underlying30 rfl (by rw [infoE]; rfl) ?_))
              refine (B.out.l3.contains HI.out (xK o) KX.out).mono ?_
              rintro e w3 ⟨rfl, tt⟩
              have B := Lib.hid (B.out.touch tt)
              have TC := Lib.hid (TC.out.trans tt (by simp))
              clear tt
              cases hdC : decide (xK o ∈ s.live) with
              | true =>
                have HE := Lib.hid (show validR l = false from runR_none (i := i + 1) (by rw [HX.out]; simp [rstep, h4, of_decide_eq_true hdC]))
                clear HX
                go_wp2_with (first
                  | ((with_reducible refine at_load 30 ?_); refine wpList_load_mid rfl 30 _ rfl g8 (0) rfl (encE (xK o)) _ B.out.k8 Try.underlying30 rfl (by rw [infoE]; rfl) ?_)
                  | ((with_reducible refine at_load 30 ?_); refine wpList_load_mid rfl 30 _ rfl g9 (0) rfl (encE (cK o)) _ B.out.k9 Try.underlying30 rfl (by rw [infoE]; rfl) ?_)
                  | ((with_reducible refine at_load_g 30 _ _ ?_); refine wpList_load_gg _ _ rfl (by rfl) 30 _ rfl g8 (0) rfl (encE (xK o)) _ B.out.k8 Try.underlying30 rfl (by rw [infoE]; rfl) ?_)
                  | ((with_reducible refine at_load_g 30 _ _ ?_); refine wpList_load_gg _ _ rfl (by rfl) 30 _ rfl g9 (0) rfl (encE (cK o)) _ B.out.k9 Try.underlying30 rfl (by rw [infoE]; rfl) ?_))
                go_ret
                exact ⟨by rw [HE.out]; rfl, TC.out⟩
              | false =>
                have HR := Lib.hid (show runR (l.take (i + 1)) = some ⟨s.live ++ [xK o], s.opened ++ [xK o], remK s.shut (xK o) false⟩ by rw [HX.out]; simp [rstep, h4, ha, of_decide_eq_false hdA, of_decide_eq_true hdB, of_decide_eq_false hdC])
                clear hdA hdB hdC h4 ha HX c0 c2
                go_upto_region 20 with (first
                  | ((with_reducible refine at_load 30 ?_); refine wpList_load_mid rfl 30 _ rfl g8 (0) rfl (encE (xK o)) _ B.out.k8 Try.underlying30 rfl (by rw [infoE]; rfl) ?_)
                  | ((with_reducible refine at_load 30 ?_); refine wpList_load_mid rfl 30 _ rfl g9 (0) rfl (encE (cK o)) _ B.out.k9 Try.underlying30 rfl (by rw [infoE]; rfl) ?_)
                  | ((with_reducible refine at_load_g 30 _ _ ?_); refine wpList_load_gg _ _ rfl (by rfl) 30 _ rfl g8 (0) rfl (encE (xK o)) _ B.out.k8 Try.underlying30 rfl (by rw [infoE]; rfl) ?_)
                  | ((with_reducible refine at_load_g 30 _ _ ?_); refine wpList_load_gg _ _ rfl (by rfl) 30 _ rfl g9 (0) rfl (encE (cK o)) _ B.out.k9 Try.underlying30 rfl (by rw [infoE]; rfl) ?_))
                have BW := Lib.hid (B.out.touch ((Touch.refl [] _).drew))
                have TCW := Lib.hid (TC.out.drew)
                refine wp_region_held (S := Touch [] w3.drew) (by kernel_rfl) ?_
                change wpAnyH _ _ _ _ _ _ _ _ w3.drew
                generalize w3.drew = W at *
                have hS := Touch.refl [] W
                refine wpAnyH_take (i := 0) (oi := { dst := some 73, op := Op.move (Operand.tmp 3), type := 27, pos := "trace.go:57", after := #[], guard := none }) (v := u3) rfl (by kernel_rfl) (by kernel_rfl) (by kernel_rfl) (fun _ _ _ h => h) (Or.inl ⟨by rfl, fun w' hw => by go_simp⟩) hS ?_
                try simp only [Act.put, List.setIfInBounds_toArray, List.set_cons_zero, List.set_cons_succ]
                refine wpAnyH_take (i := 1) (oi := { dst := some 74, op := Op.load 30 (Operand.tmp 8), type := 30, pos := "trace.go:57", after := #[], guard := none }) (v := .agg (encE (xK o)).toArray) rfl (by kernel_rfl) (by kernel_rfl) (by kernel_rfl) (fun _ _ _ h => h) (Or.inl ⟨by rfl, fun w' hw => exec_load_agg _ 30 _ rfl _ _ rfl (encE (xK o)) _ (hw.range BW.out.k8 (by simp)) Try.underlying30 rfl (by rw [infoE]; rfl)⟩) hS ?_
                try simp only [Act.put, List.setIfInBounds_toArray, List.set_cons_zero, List.set_cons_succ]
                refine wpAnyH_take (i := 3) (oi := { dst := some 76, op := Op.move (Operand.tmp 4), type := 27, pos := "trace.go:57", after := #[], guard := none }) (v := u4) rfl (by kernel_rfl) (by kernel_rfl) (by kernel_rfl) (fun _ _ _ h => h) (Or.inl ⟨by rfl, fun w' hw => by go_simp⟩) hS ?_
                try simp only [Act.put, List.setIfInBounds_toArray, List.set_cons_zero, List.set_cons_succ]
                refine wpAnyH_take (i := 4) (oi := { dst := some 77, op := Op.load 30 (Operand.tmp 8), type := 30, pos := "trace.go:57", after := #[], guard := none }) (v := .agg (encE (xK o)).toArray) rfl (by kernel_rfl) (by kernel_rfl) (by kernel_rfl) (fun _ _ _ h => h) (Or.inl ⟨by rfl, fun w' hw => exec_load_agg _ 30 _ rfl _ _ rfl (encE (xK o)) _ (hw.range BW.out.k8 (by simp)) Try.underlying30 rfl (by rw [infoE]; rfl)⟩) hS ?_
                try simp only [Act.put, List.setIfInBounds_toArray, List.set_cons_zero, List.set_cons_succ]
                refine wpAnyH_take (i := 6) (oi := { dst := some 79, op := Op.move (Operand.tmp 5), type := 27, pos := "trace.go:57", after := #[], guard := none }) (v := u5) rfl (by kernel_rfl) (by kernel_rfl) (by kernel_rfl) (fun _ _ _ h => h) (Or.inl ⟨by rfl, fun w' hw => by go_simp⟩) hS ?_
                try simp only [Act.put, List.setIfInBounds_toArray, List.set_cons_zero, List.set_cons_succ]
                refine wpAnyH_take (i := 7) (oi := { dst := some 80, op := Op.load 30 (Operand.tmp 8), type := 30, pos := "trace.go:57", after := #[], guard := none }) (v := .agg (encE (xK o)).toArray) rfl (by kernel_rfl) (by kernel_rfl) (by kernel_rfl) (fun _ _ _ h => h) (Or.inl ⟨by rfl, fun w' hw => exec_load_agg _ 30 _ rfl _ _ rfl (encE (xK o)) _ (hw.range BW.out.k8 (by simp)) Try.underlying30 rfl (by rw [infoE]; rfl)⟩) hS ?_
                try simp only [Act.put, List.setIfInBounds_toArray, List.set_cons_zero, List.set_cons_succ]
                refine wpAnyH_ready (rs := [2]) (by kernel_rfl) (by simp) ?_
                refine AllReadyH.cons (o := { dst := some 75, op := Op.call { callee := Callee.value (Operand.func 47), args := #[Operand.tmp 73, Operand.tmp 74], argTypes := #[27, 30] }, type := 27, pos := "trace.go:57", after := #[{ on := 0, ground := Ground.data }, { on := 1, ground := Ground.data }], guard := none }) rfl (fun K hK => ?_) AllReadyH.nil
                go_simp
                refine ((BW.out.l3.touch hS).app HI.out (xK o) KX.out).mono ?_
                rintro e z0 ⟨p3, rfl, lv, tt⟩
                have hS2 := hS.trans tt (by simp)
                refine hK.out _ _ hS2 (fun _ => ?_)
                clear hK K hS
                have hS := hS2
                clear hS2
                have N3 := Lib.hid lv
                clear lv tt
                try simp only [Act.put, List.setIfInBounds_toArray, List.set_cons_zero, List.set_cons_succ]
                refine wpAnyH_ready (rs := [5]) (by kernel_rfl) (by simp) ?_
                refine AllReadyH.cons (o := { dst := some 78, op := Op.call { callee := Callee.value (Operand.func 47), args := #[Operand.tmp 76, Operand.tmp 77], argTypes := #[27, 30] }, type := 27, pos := "trace.go:57", after := #[{ on := 3, ground := Ground.data }, { on := 4, ground := Ground.data }, { on := 2, ground := Ground.chain }], guard := none }) rfl (fun K hK => ?_) AllReadyH.nil
                go_simp
                refine ((BW.out.l4.touch hS).app HI.out (xK o) KX.out).mono ?_
                rintro e z1 ⟨p4, rfl, lv, tt⟩
                have hS2 := hS.trans tt (by simp)
                refine hK.out _ _ hS2 (fun _ => ?_)
                clear hK K hS
                have hS := hS2
                clear hS2
                have N3 := Lib.hid (N3.out.touch tt)
                have N4 := Lib.hid lv
                clear lv tt
                try simp only [Act.put, List.setIfInBounds_toArray, List.set_cons_zero, List.set_cons_succ]
                refine wpAnyH_ready (rs := [8]) (by kernel_rfl) (by simp) ?_
                refine AllReadyH.cons (o := { dst := some 81, op := Op.call { callee := Callee.value (Operand.func 48), args := #[Operand.tmp 79, Operand.tmp 80, Operand.const (Value.bool false)], argTypes := #[27, 30, 4] }, type := 27, pos := "trace.go:57", after := #[{ on := 6, ground := Ground.data }, { on := 7, ground := Ground.data }, { on := 5, ground := Ground.chain }], guard := none }) rfl (fun K hK => ?_) AllReadyH.nil
                go_simp
                refine ((BW.out.l5.touch hS).rem HI.out (xK o) false KX.out).mono ?_
                rintro e z2 ⟨p5, rfl, lv, tt⟩
                have hS2 := hS.trans tt (by simp)
                refine hK.out _ _ hS2 (fun _ => ?_)
                clear hK K hS
                have hS := hS2
                clear hS2
                have N3 := Lib.hid (N3.out.touch tt)
                have N4 := Lib.hid (N4.out.touch tt)
                have N5 := Lib.hid lv
                clear lv tt
                try simp only [Act.put, List.setIfInBounds_toArray, List.set_cons_zero, List.set_cons_succ]
                refine wpAnyH_take (i := 9) (oi := { dst := some 3, op := Op.assign (Operand.tmp 75), type := 27, pos := "trace.go:57", after := #[{ on := 2, ground := Ground.data }, { on := 8, ground := Ground.chain }, { on := 0, ground := Ground.phase }, { on := 1, ground := Ground.phase }, { on := 2, ground := Ground.phase }, { on := 3, ground := Ground.textOnly Departure.lateStores }, { on := 4, ground := Ground.textOnly Departure.lateStores }, { on := 5, ground := Ground.textOnly Departure.lateStoresUnsure }, { on := 6, ground := Ground.textOnly Departure.lateStores }, { on := 7, ground := Ground.textOnly Departure.lateStores }, { on := 8, ground := Ground.textOnly Departure.lateStoresUnsure }], guard := none }) (v := p3) rfl (by kernel_rfl) (by kernel_rfl) (by kernel_rfl) (fun _ _ _ h => h) (Or.inl ⟨by rfl, fun w' hw => by go_simp⟩) hS ?_
                try simp only [Act.put, List.setIfInBounds_toArray, List.set_cons_zero, List.set_cons_succ]
                refine wpAnyH_take (i := 10) (oi := { dst := some 4, op := Op.assign (Operand.tmp 78), type := 27, pos := "trace.go:57", after := #[{ on := 5, ground := Ground.data }, { on := 9, ground := Ground.chain }, { on := 0, ground := Ground.phase }, { on := 1, ground := Ground.phase }, { on := 2, ground := Ground.phase }, { on := 3, ground := Ground.phase }, { on := 4, ground := Ground.phase }, { on := 5, ground := Ground.phase }, { on := 6, ground := Ground.textOnly Departure.lateStores }, { on := 7, ground := Ground.textOnly Departure.lateStores }, { on := 8, ground := Ground.textOnly Departure.lateStoresUnsure }, { on := 9, ground := Ground.phase }], guard := none }) (v := p4) rfl (by kernel_rfl) (by kernel_rfl) (by kernel_rfl) (fun _ _ _ h => h) (Or.inl ⟨by rfl, fun w' hw => by go_simp⟩) hS ?_
                try simp only [Act.put, List.setIfInBounds_toArray, List.set_cons_zero, List.set_cons_succ]
                refine wpAnyH_take (i := 11) (oi := { dst := some 5, op := Op.assign (Operand.tmp 81), type := 27, pos := "trace.go:57", after := #[{ on := 8, ground := Ground.data }, { on := 10, ground := Ground.chain }, { on := 0, ground := Ground.phase }, { on := 1, ground := Ground.phase }, { on := 2, ground := Ground.phase }, { on := 3, ground := Ground.phase }, { on := 4, ground := Ground.phase }, { on := 5, ground := Ground.phase }, { on := 6, ground := Ground.phase }, { on := 7, ground := Ground.phase }, { on := 8, ground := Ground.phase }, { on := 9, ground := Ground.phase }, { on := 10, ground := Ground.phase }], guard := none }) (v := p5) rfl (by kernel_rfl) (by kernel_rfl) (by kernel_rfl) (fun _ _ _ h => h) (Or.inl ⟨by rfl, fun w' hw => by go_simp⟩) hS ?_
                try simp only [Act.put, List.setIfInBounds_toArray, List.set_cons_zero, List.set_cons_succ]
                refine wpAnyH_done (by kernel_rfl) ?_ _
                try simp only [Act.put, List.setIfInBounds_toArray, List.set_cons_zero, List.set_cons_succ]
                have TZ := Lib.hid (TCW.out.trans hS (by simp))
                clear hS
                go_wp2_with fail
                go_roundw
                case rel => exact ⟨i + 1, ⟨s.live ++ [xK o], s.opened ++ [xK o], remK s.shut (xK o) false⟩, by simp, by omega, HR.out, N3.out, N4.out, N5.out, TZ.out⟩
                case measure => simp [intOf]; omega
            | false =>
              have HE := Lib.hid (show validR l = false from runR_none (i := i + 1) (by rw [HX.out]; simp [rstep, h4, of_decide_eq_false hdB]))
              clear HX
              go_wp2_with (first
                | ((with_reducible refine at_load 30 ?_); refine wpList_load_mid rfl 30 _ rfl g8 (0) rfl (encE (xK o)) _ B.out.k8 Try.underlying30 rfl (by rw [infoE]; rfl) ?_)
                | ((with_reducible refine at_load 30 ?_); refine wpList_load_mid rfl 30 _ rfl g9 (0) rfl (encE (cK o)) _ B.out.k9 Try.underlying30 rfl (by rw [infoE]; rfl) ?_)
                | ((with_reducible refine at_load_g 30 _ _ ?_); refine wpList_load_gg _ _ rfl (by rfl) 30 _ rfl g8 (0) rfl (encE (xK o)) _ B.out.k8 Try.underlying30 rfl (by rw [infoE]; rfl) ?_)
                | ((with_reducible refine at_load_g 30 _ _ ?_); refine wpList_load_gg _ _ rfl (by rfl) 30 _ rfl g9 (0) rfl (encE (cK o)) _ B.out.k9 Try.underlying30 rfl (by rw [infoE]; rfl) ?_))
              go_ret
              exact ⟨by rw [HE.out]; rfl, TC.out⟩
        have q4 : (o.k == 4) = false := by simp [h4]
        by_cases h5 : o.k = 5
        · have q5 : (o.k == 5) = true := by simp [h5]
          go_wp2_with (first
            | ((with_reducible refine at_load 30 ?_); refine wpList_load_mid rfl 30 _ rfl g8 (0) rfl (encE (xK o)) _ B.out.k8 Try.underlying30 rfl (by rw [infoE]; rfl) ?_)
            | ((with_reducible refine at_load 30 ?_); refine wpList_load_mid rfl 30 _ rfl g9 (0) rfl (encE (cK o)) _ B.out.k9 Try.underlying30 rfl (by rw [infoE]; rfl) ?_)
            | ((with_reducible refine at_load_g 30 _ _ ?_); refine wpList_load_gg _ _ rfl (by rfl) 30 _ rfl g8 (0) rfl (encE (xK o)) _ B.out.k8 Try.underlying30 rfl (by rw [infoE]; rfl) ?_)
            | ((with_reducible refine at_load_g 30 _ _ ?_); refine wpList_load_gg _ _ rfl (by rfl) 30 _ rfl g9 (0) rfl (encE (cK o)) _ B.out.k9 Try.underlying30 rfl (by rw [infoE]; rfl) ?_))
          refine (B.out.l3.contains HI.out (xK o) KX.out).mono ?_
          rintro e w1 ⟨rfl, tt⟩
          have B := Lib.hid (B.out.touch tt)
          have TC := Lib.hid (TC.out.trans tt (by simp))
          clear tt
          cases hdA : decide (xK o ∈ s.live) with
          | true =>
            go_wp2_with (first
              | ((with_reducible refine at_load 30 ?_); refine wpList_load_mid rfl 30 _ rfl g8 (0) rfl (encE (xK o)) _ B.out.k8 Try.underlying30 rfl (by rw [infoE]; rfl) ?_)
              | ((with_reducible refine at_load 30 ?_); refine wpList_load_mid rfl 30 _ rfl g9 (0) rfl (encE (cK o)) _ B.out.k9 Try.underlying30 rfl (by rw [infoE]; rfl) ?_)
              | ((with_reducible refine at_load_g 30 _ _ ?_); refine wpList_load_gg _ _ rfl (by rfl) 30 _ rfl g8 (0) rfl (encE (xK o)) _ B.out.k8 Try.underlying30 rfl (by rw [infoE]; rfl) ?_)
              | ((with_reducible refine at_load_g 30 _ _ ?_); refine wpList_load_gg _ _ rfl (by rfl) 30 _ rfl g9 (0) rfl (encE (cK o)) _ B.out.k9 Try.underlying30 rfl (by rw [infoE]; rfl) ?_))
            refine (B.out.l5.contains HI.out (xK o) KX.out).mono ?_
            rintro e w2 ⟨rfl, tt⟩
            have B := Lib.hid (B.out.touch tt)
            have TC := Lib.hid (TC.out.trans tt (by simp))
            clear tt
            cases hdB : decide (xK o ∈ s.shut) with
            | true =>
              have HE := Lib.hid (show validR l = false from runR_none (i := i + 1) (by rw [HX.out]; simp [rstep, h5, of_decide_eq_true hdB]))
              clear HX
              go_wp2_with (first
                | ((with_reducible refine at_load 30 ?_); refine wpList_load_mid rfl 30 _ rfl g8 (0) rfl (encE (xK o)) _ B.out.k8 Try.underlying30 rfl (by rw [infoE]; rfl) ?_)
                | ((with_reducible refine at_load 30 ?_); refine wpList_load_mid rfl 30 _ rfl g9 (0) rfl (encE (cK o)) _ B.out.k9 Try.underlying30 rfl (by rw [infoE]; rfl) ?_)
                | ((with_reducible refine at_load_g 30 _ _ ?_); refine wpList_load_gg _ _ rfl (by rfl) 30 _ rfl g8 (0) rfl (encE (xK o)) _ B.out.k8 Try.underlying30 rfl (by rw [infoE]; rfl) ?_)
                | ((with_reducible refine at_load_g 30 _ _ ?_); refine wpList_load_gg _ _ rfl (by rfl) 30 _ rfl g9 (0) rfl (encE (cK o)) _ B.out.k9 Try.underlying30 rfl (by rw [infoE]; rfl) ?_))
              go_ret
              exact ⟨by rw [HE.out]; rfl, TC.out⟩
            | false =>
              obtain ⟨_, _, _, d3, _, _, _⟩ := O.cells OKI.out B.out.kB
              try simp only [Nat.zero_add] at d3
              by_cases hz : o.d = ⟨#[]⟩
              · have qz : o.d.toList.isEmpty = true := by rw [hz]; simp
                have HE := Lib.hid (show validR l = false from runR_none (i := i + 1) (by rw [HX.out]; simp [rstep, h5, hz]))
                clear HX
                go_wp2_with (first
                  | ((with_reducible refine at_load 30 ?_); refine wpList_load_mid rfl 30 _ rfl g8 (0) rfl (encE (xK o)) _ B.out.k8 Try.underlying30 rfl (by rw [infoE]; rfl) ?_)
                  | ((with_reducible refine at_load 30 ?_); refine wpList_load_mid rfl 30 _ rfl g9 (0) rfl (encE (cK o)) _ B.out.k9 Try.underlying30 rfl (by rw [infoE]; rfl) ?_)
                  | ((with_reducible refine at_load_g 30 _ _ ?_); refine wpList_load_gg _ _ rfl (by rfl) 30 _ rfl g8 (0) rfl (encE (xK o)) _ B.out.k8 Try.underlying30 rfl (by rw [infoE]; rfl) ?_)
                  | ((with_reducible refine at_load_g 30 _ _ ?_); refine wpList_load_gg _ _ rfl (by rfl) 30 _ rfl g9 (0) rfl (encE (cK o)) _ B.out.k9 Try.underlying30 rfl (by rw [infoE]; rfl) ?_))
                go_ret
                exact ⟨by rw [HE.out]; rfl, TC.out⟩
              · have qz : o.d.toList.isEmpty = false := by
                  cases hq : o.d.toList.isEmpty with
                  | false => rfl
                  | true => exact absurd ((str_nil _).1 (List.isEmpty_iff.1 hq)) hz
                have HR := Lib.hid (show runR (l.take (i + 1)) = some s by rw [HX.out]; simp [rstep, h5, hz, of_decide_eq_true hdA, of_decide_eq_false hdB])
                go_wp2_with (first
                  | ((with_reducible refine at_load 30 ?_); refine wpList_load_mid rfl 30 _ rfl g8 (0) rfl (encE (xK o)) _ B.out.k8 Try.underlying30 rfl (by rw [infoE]; rfl) ?_)
                  | ((with_reducible refine at_load 30 ?_); refine wpList_load_mid rfl 30 _ rfl g9 (0) rfl (encE (cK o)) _ B.out.k9 Try.underlying30 rfl (by rw [infoE]; rfl) ?_)
                  | ((with_reducible refine at_load_g 30 _ _ ?_); refine wpList_load_gg _ _ rfl (by rfl) 30 _ rfl g8 (0) rfl (encE (xK o)) _ B.out.k8 Try.underlying30 rfl (by rw [infoE]; rfl) ?_)
                  | ((with_reducible refine at_load_g 30 _ _ ?_); refine wpList_load_gg _ _ rfl (by rfl) 30 _ rfl g9 (0) rfl (encE (cK o)) _ B.out.k9 Try.underlying30 rfl (by rw [infoE]; rfl) ?_))
                go_roundw
                case rel => exact ⟨i + 1, s, by simp, by omega, HR.out, B.out.l3.more (by omega), B.out.l4.more (by omega), B.out.l5.more (by omega), TC.out⟩
                case measure => simp [intOf]; omega
          | false =>
            have HE := Lib.hid (show validR l = false from runR_none (i := i + 1) (by rw [HX.out]; simp [rstep, h5, of_decide_eq_false hdA]))
            clear HX
            go_wp2_with (first
              | ((with_reducible refine at_load 30 ?_); refine wpList_load_mid rfl 30 _ rfl g8 (0) rfl (encE (xK o)) _ B.out.k8 Try.underlying30 rfl (by rw [infoE]; rfl) ?_)
              | ((with_reducible refine at_load 30 ?_); refine wpList_load_mid rfl 30 _ rfl g9 (0) rfl (encE (cK o)) _ B.out.k9 Try.underlying30 rfl (by rw [infoE]; rfl) ?_)
              | ((with_reducible refine at_load_g 30 _ _ ?_); refine wpList_load_gg _ _ rfl (by rfl) 30 _ rfl g8 (0) rfl (encE (xK o)) _ B.out.k8 Try.underlying30 rfl (by rw [infoE]; rfl) ?_)
              | ((with_reducible refine at_load_g 30 _ _ ?_); refine wpList_load_gg _ _ rfl (by rfl) 30 _ rfl g9 (0) rfl (encE (cK o)) _ B.out.k9 Try.underlying30 rfl (by rw [infoE]; rfl) ?_))
            go_ret
            exact ⟨by rw [HE.out]; rfl, TC.out⟩
        have q5 : (o.k == 5) = false := by simp [h5]
        by_cases h6 : o.k = 6
        · have q6 : (o.k == 6) = true := by simp [h6]
          go_wp2_with (first
            | ((with_reducible refine at_load 30 ?_); refine wpList_load_mid rfl 30 _ rfl g8 (0) rfl (encE (xK o)) _ B.out.k8 Try.underlying30 rfl (by rw [infoE]; rfl) ?_)
            | ((with_reducible refine at_load 30 ?_); refine wpList_load_mid rfl 30 _ rfl g9 (0) rfl (encE (cK o)) _ B.out.k9 Try.underlying30 rfl (by rw [infoE]; rfl) ?_)
            | ((with_reducible refine at_load_g 30 _ _ ?_); refine wpList_load_gg _ _ rfl (by rfl) 30 _ rfl g8 (0) rfl (encE (xK o)) _ B.out.k8 Try.underlying30 rfl (by rw [infoE]; rfl) ?_)
            | ((with_reducible refine at_load_g 30 _ _ ?_); refine wpList_load_gg _ _ rfl (by rfl) 30 _ rfl g9 (0) rfl (encE (cK o)) _ B.out.k9 Try.underlying30 rfl (by rw [infoE]; rfl) ?_))
          refine (B.out.l3.contains HI.out (xK o) KX.out).mono ?_
          rintro e w1 ⟨rfl, tt⟩
          have B := Lib.hid (B.out.touch tt)
          have TC := Lib.hid (TC.out.trans tt (by simp))
          clear tt
          cases hdA : decide (xK o ∈ s.live) with
          | true =>
            go_wp2_with (first
              | ((with_reducible refine at_load 30 ?_); refine wpList_load_mid rfl 30 _ rfl g8 (0) rfl (encE (xK o)) _ B.out.k8 Try.underlying30 rfl (by rw [infoE]; rfl) ?_)
              | ((with_reducible refine at_load 30 ?_); refine wpList_load_mid rfl 30 _ rfl g9 (0) rfl (encE (cK o)) _ B.out.k9 Try.underlying30 rfl (by rw [infoE]; rfl) ?_)
              | ((with_reducible refine at_load_g 30 _ _ ?_); refine wpList_load_gg _ _ rfl (by rfl) 30 _ rfl g8 (0) rfl (encE (xK o)) _ B.out.k8 Try.underlying30 rfl (by rw [infoE]; rfl) ?_)
              | ((with_reducible refine at_load_g 30 _ _ ?_); refine wpList_load_gg _ _ rfl (by rfl) 30 _ rfl g9 (0) rfl (encE (cK o)) _ B.out.k9 Try.underlying30 rfl (by rw [infoE]; rfl) ?_))
            refine (B.out.l5.contains HI.out (xK o) KX.out).mono ?_
            rintro e w2 ⟨rfl, tt⟩
            have B := Lib.hid (B.out.touch tt)
            have TC := Lib.hid (TC.out.trans tt (by simp))
            clear tt
            cases hdB : decide (xK o ∈ s.shut) with
            | true =>
              have HE := Lib.hid (show validR l = false from runR_none (i := i + 1) (by rw [HX.out]; simp [rstep, h6, of_decide_eq_true hdB]))
              clear HX
              go_wp2_with (first
                | ((with_reducible refine at_load 30 ?_); refine wpList_load_mid rfl 30 _ rfl g8 (0) rfl (encE (xK o)) _ B.out.k8 Try.underlying30 rfl (by rw [infoE]; rfl) ?_)
                | ((with_reducible refine at_load 30 ?_); refine wpList_load_mid rfl 30 _ rfl g9 (0) rfl (encE (cK o)) _ B.out.k9 Try.underlying30 rfl (by rw [infoE]; rfl) ?_)
                | ((with_reducible refine at_load_g 30 _ _ ?_); refine wpList_load_gg _ _ rfl (by rfl) 30 _ rfl g8 (0) rfl (encE (xK o)) _ B.out.k8 Try.underlying30 rfl (by rw [infoE]; rfl) ?_)
                | ((with_reducible refine at_load_g 30 _ _ ?_); refine wpList_load_gg _ _ rfl (by rfl) 30 _ rfl g9 (0) rfl (encE (cK o)) _ B.out.k9 Try.underlying30 rfl (by rw [infoE]; rfl) ?_))
              go_ret
              exact ⟨by rw [HE.out]; rfl, TC.out⟩
            | false =>
              go_wp2_with (first
                | ((with_reducible refine at_load 30 ?_); refine wpList_load_mid rfl 30 _ rfl g8 (0) rfl (encE (xK o)) _ B.out.k8 Try.underlying30 rfl (by rw [infoE]; rfl) ?_)
                | ((with_reducible refine at_load 30 ?_); refine wpList_load_mid rfl 30 _ rfl g9 (0) rfl (encE (cK o)) _ B.out.k9 Try.underlying30 rfl (by rw [infoE]; rfl) ?_)
                | ((with_reducible refine at_load_g 30 _ _ ?_); refine wpList_load_gg _ _ rfl (by rfl) 30 _ rfl g8 (0) rfl (encE (xK o)) _ B.out.k8 Try.underlying30 rfl (by rw [infoE]; rfl) ?_)
                | ((with_reducible refine at_load_g 30 _ _ ?_); refine wpList_load_gg _ _ rfl (by rfl) 30 _ rfl g9 (0) rfl (encE (cK o)) _ B.out.k9 Try.underlying30 rfl (by rw [infoE]; rfl) ?_))
              refine (B.out.l5.app HI.out (xK o) KX.out).mono ?_
              rintro e w3 ⟨p5, rfl, lv, tt⟩
              have N5 := Lib.hid lv
              have B := Lib.hid (B.out.touch tt)
              have TC := Lib.hid (TC.out.trans tt (by simp))
              clear lv tt
              have HR := Lib.hid (show runR (l.take (i + 1)) = some ⟨s.live, s.opened, s.shut ++ [xK o]⟩ by rw [HX.out]; simp [rstep, h6, of_decide_eq_true hdA, of_decide_eq_false hdB])
              go_wp2_with (first
                | ((with_reducible refine at_load 30 ?_); refine wpList_load_mid rfl 30 _ rfl g8 (0) rfl (encE (xK o)) _ B.out.k8 Try.underlying30 rfl (by rw [infoE]; rfl) ?_)
                | ((with_reducible refine at_load 30 ?_); refine wpList_load_mid rfl 30 _ rfl g9 (0) rfl (encE (cK o)) _ B.out.k9 Try.underlying30 rfl (by rw [infoE]; rfl) ?_)
                | ((with_reducible refine at_load_g 30 _ _ ?_); refine wpList_load_gg _ _ rfl (by rfl) 30 _ rfl g8 (0) rfl (encE (xK o)) _ B.out.k8 Try.underlying30 rfl (by rw [infoE]; rfl) ?_)
                | ((with_reducible refine at_load_g 30 _ _ ?_); refine wpList_load_gg _ _ rfl (by rfl) 30 _ rfl g9 (0) rfl (encE (cK o)) _ B.out.k9 Try.underlying30 rfl (by rw [infoE]; rfl) ?_))
              go_roundw
              case rel => exact ⟨i + 1, ⟨s.live, s.opened, s.shut ++ [xK o]⟩, by simp, by omega, HR.out, B.out.l3.more (by omega), B.out.l4.more (by omega), N5.out, TC.out⟩
              case measure => simp [intOf]; omega
          | false =>
            have HE := Lib.hid (show validR l = false from runR_none (i := i + 1) (by rw [HX.out]; simp [rstep, h6, of_decide_eq_false hdA]))
            clear HX
            go_wp2_with (first
              | ((with_reducible refine at_load 30 ?_); refine wpList_load_mid rfl 30 _ rfl g8 (0) rfl (encE (xK o)) _ B.out.k8 Try.underlying30 rfl (by rw [infoE]; rfl) ?_)
              | ((with_reducible refine at_load 30 ?_); refine wpList_load_mid rfl 30 _ rfl g9 (0) rfl (encE (cK o)) _ B.out.k9 Try.underlying30 rfl (by rw [infoE]; rfl) ?_)
              | ((with_reducible refine at_load_g 30 _ _ ?_); refine wpList_load_gg _ _ rfl (by rfl) 30 _ rfl g8 (0) rfl (encE (xK o)) _ B.out.k8 Try.underlying30 rfl (by rw [infoE]; rfl) ?_)
              | ((with_reducible refine at_load_g 30 _ _ ?_); refine wpList_load_gg _ _ rfl (by rfl) 30 _ rfl g9 (0) rfl (encE (cK o)) _ B.out.k9 Try.underlying30 rfl (by rw [infoE]; rfl) ?_))
            go_ret
            exact ⟨by rw [HE.out]; rfl, TC.out⟩
        have q6 : (o.k == 6) = false := by simp [h6]
        by_cases h7 : o.k = 7
        · have q7 : (o.k == 7) = true := by simp [h7]
          go_wp2_with (first
            | ((with_reducible refine at_load 30 ?_); refine wpList_load_mid rfl 30 _ rfl g8 (0) rfl (encE (xK o)) _ B.out.k8 Try.underlying30 rfl (by rw [infoE]; rfl) ?_)
            | ((with_reducible refine at_load 30 ?_); refine wpList_load_mid rfl 30 _ rfl g9 (0) rfl (encE (cK o)) _ B.out.k9 Try.underlying30 rfl (by rw [infoE]; rfl) ?_)
            | ((with_reducible refine at_load_g 30 _ _ ?_); refine wpList_load_gg _ _ rfl (by rfl) 30 _ rfl g8 (0) rfl (encE (xK o)) _ B.out.k8 Try.underlying30 rfl (by rw [infoE]; rfl) ?_)
            | ((with_reducible refine at_load_g 30 _ _ ?_); refine wpList_load_gg _ _ rfl (by rfl) 30 _ rfl g9 (0) rfl (encE (cK o)) _ B.out.k9 Try.underlying30 rfl (by rw [infoE]; rfl) ?_))
          refine (B.out.l3.contains HI.out (xK o) KX.out).mono ?_
          rintro e w1 ⟨rfl, tt⟩
          have B := Lib.hid (B.out.touch tt)
          have TC := Lib.hid (TC.out.trans tt (by simp))
          clear tt
          cases hdA : decide (xK o ∈ s.live) with
          | true =>
            go_wp2_with (first
              | ((with_reducible refine at_load 30 ?_); refine wpList_load_mid rfl 30 _ rfl g8 (0) rfl (encE (xK o)) _ B.out.k8 Try.underlying30 rfl (by rw [infoE]; rfl) ?_)
              | ((with_reducible refine at_load 30 ?_); refine wpList_load_mid rfl 30 _ rfl g9 (0) rfl (encE (cK o)) _ B.out.k9 Try.underlying30 rfl (by rw [infoE]; rfl) ?_)
              | ((with_reducible refine at_load_g 30 _ _ ?_); refine wpList_load_gg _ _ rfl (by rfl) 30 _ rfl g8 (0) rfl (encE (xK o)) _ B.out.k8 Try.underlying30 rfl (by rw [infoE]; rfl) ?_)
              | ((with_reducible refine at_load_g 30 _ _ ?_); refine wpList_load_gg _ _ rfl (by rfl) 30 _ rfl g9 (0) rfl (encE (cK o)) _ B.out.k9 Try.underlying30 rfl (by rw [infoE]; rfl) ?_))
            refine (B.out.l3.rem HI.out (xK o) false KX.out).mono ?_
            rintro e w3 ⟨p3, rfl, lv, tt⟩
            have N3 := Lib.hid lv
            have B := Lib.hid (B.out.touch tt)
            have TC := Lib.hid (TC.out.trans tt (by simp))
            clear lv tt
            have HR := Lib.hid (show runR (l.take (i + 1)) = some ⟨remK s.live (xK o) false, s.opened, s.shut⟩ by rw [HX.out]; simp [rstep, h7, of_decide_eq_true hdA])
            go_wp2_with (first
              | ((with_reducible refine at_load 30 ?_); refine wpList_load_mid rfl 30 _ rfl g8 (0) rfl (encE (xK o)) _ B.out.k8 Try.underlying30 rfl (by rw [infoE]; rfl) ?_)
              | ((with_reducible refine at_load 30 ?_); refine wpList_load_mid rfl 30 _ rfl g9 (0) rfl (encE (cK o)) _ B.out.k9 Try.underlying30 rfl (by rw [infoE]; rfl) ?_)
              | ((with_reducible refine at_load_g 30 _ _ ?_); refine wpList_load_gg _ _ rfl (by rfl) 30 _ rfl g8 (0) rfl (encE (xK o)) _ B.out.k8 Try.underlying30 rfl (by rw [infoE]; rfl) ?_)
              | ((with_reducible refine at_load_g 30 _ _ ?_); refine wpList_load_gg _ _ rfl (by rfl) 30 _ rfl g9 (0) rfl (encE (cK o)) _ B.out.k9 Try.underlying30 rfl (by rw [infoE]; rfl) ?_))
            go_roundw
            case rel => exact ⟨i + 1, ⟨remK s.live (xK o) false, s.opened, s.shut⟩, by simp, by omega, HR.out, N3.out, B.out.l4.more (by omega), B.out.l5.more (by omega), TC.out⟩
            case measure => simp [intOf]; omega
          | false =>
            have HE := Lib.hid (show validR l = false from runR_none (i := i + 1) (by rw [HX.out]; simp [rstep, h7, of_decide_eq_false hdA]))
            clear HX
            go_wp2_with (first
              | ((with_reducible refine at_load 30 ?_); refine wpList_load_mid rfl 30 _ rfl g8 (0) rfl (encE (xK o)) _ B.out.k8 Try.underlying30 rfl (by rw [infoE]; rfl) ?_)
              | ((with_reducible refine at_load 30 ?_); refine wpList_load_mid rfl 30 _ rfl g9 (0) rfl (encE (cK o)) _ B.out.k9 Try.underlying30 rfl (by rw [infoE]; rfl) ?_)
              | ((with_reducible refine at_load_g 30 _ _ ?_); refine wpList_load_gg _ _ rfl (by rfl) 30 _ rfl g8 (0) rfl (encE (xK o)) _ B.out.k8 Try.underlying30 rfl (by rw [infoE]; rfl) ?_)
              | ((with_reducible refine at_load_g 30 _ _ ?_); refine wpList_load_gg _ _ rfl (by rfl) 30 _ rfl g9 (0) rfl (encE (cK o)) _ B.out.k9 Try.underlying30 rfl (by rw [infoE]; rfl) ?_))
            go_ret
            exact ⟨by rw [HE.out]; rfl, TC.out⟩
        have q7 : (o.k == 7) = false := by simp [h7]
        have HE := Lib.hid (show validR l = false from runR_none (i := i + 1) (by rw [HX.out]; simp [rstep, h1, h2, h3, h4, h5, h6, h7]))
        clear HX
        go_wp2_with (first
          | ((with_reducible refine at_load 30 ?_); refine wpList_load_mid rfl 30 _ rfl g8 (0) rfl (encE (xK o)) _ B.out.k8 Try.underlying30 rfl (by rw [infoE]; rfl) ?_)
          | ((with_reducible refine at_load 30 ?_); refine wpList_load_mid rfl 30 _ rfl g9 (0) rfl (encE (cK o)) _ B.out.k9 Try.underlying30 rfl (by rw [infoE]; rfl) ?_)
          | ((with_reducible refine at_load_g 30 _ _ ?_); refine wpList_load_gg _ _ rfl (by rfl) 30 _ rfl g8 (0) rfl (encE (xK o)) _ B.out.k8 Try.underlying30 rfl (by rw [infoE]; rfl) ?_)
          | ((with_reducible refine at_load_g 30 _ _ ?_); refine wpList_load_gg _ _ rfl (by rfl) 30 _ rfl g9 (0) rfl (encE (cK o)) _ B.out.k9 Try.underlying30 rfl (by rw [infoE]; rfl) ?_))
        go_ret
        exact ⟨by rw [HE.out]; rfl, TC.out⟩
    · have hb1 : ¬ (i : Int) < (l.length : Int) := by omega
      have HE := Lib.hid (show validR l = true by
        have := HRUN.out
        rw [List.take_of_length_le (by omega)] at this
        simp [validR, this])
      go_wp2_with fail
      go_ret
      exact ⟨by rw [HE.out]; rfl, HT.out⟩
end Go.Proofs.Ytmdnkhpkpmbeoaa

/-
  Merged texts: Ay.
-/
import Derived.Test.YtmdnkhpkpmbeoaaV5
import Derived.Laws.Cover3

/-
  The replay's apply.
-/
namespace Go.Proofs.Ytmdnkhpkpmbeoaa
open Go.RowKit
set_option linter.unusedVariables false
set_option linter.unusedSimpArgs false

/-! Writes of maps as operations of a walk. -/
section
variable {P : Program} {α : Type} [DecidableEq α] {enc : α → Value} {ok : α → Prop} {w : World} {b : Nat} {kv : List (α × Value)} {o : Oper} {ops : Array Oper} {rest : List Oper} {a : Act} {Q : Exit → Act → World → Prop}
theorem wpList_delete_mp (hg : o.guard = none) (m x : Operand) (t k : TypeId) (hop : o.op = .call { callee := .builtin .delete, args := #[m, x], argTypes := #[t, k] })
    (e : TypeId) (E : KE P k enc ok) (ht : P.underlying t = some (.map k e)) (h : Mp enc ok w b kv) (y : α) (hy : ok y) (hm : a.eval m = .map (some b)) (hx : a.eval x = enc y)
    (hK : ∀ w', Mp enc ok w' b (del kv y) → Touch [b] w w' → w'.heap.size = w.heap.size → wpList P ops Q rest (a.put o.dst (.tuple #[])) w') : wpList P ops Q (o :: rest) a w := by
  refine wpList_plain hg fun K' hK' => ?_
  obtain ⟨w', hrun, r1, r2, r3⟩ := h.drop E ht hy o.type
  unfold Oper.wp
  simp [execOp, hop, resolve, invoke, builtin, hm, hx, hrun, Result.andThen]
  exact hK' _ _ (hK w' r1 r2 r3)
theorem wpList_update_mp (hg : o.guard = none) (m x v : Operand) (t k : TypeId) (hop : o.op = .mapUpdate t m x v)
    (e : TypeId) (E : KE P k enc ok) (ht : P.underlying t = some (.map k e)) (h : Mp enc ok w b kv) (y : α) (hy : ok y) (u : Value) (hm : a.eval m = .map (some b)) (hx : a.eval x = enc y) (hv : a.eval v = u)
    (hK : ∀ w', Mp enc ok w' b (put kv y u) → Touch [b] w w' → w'.heap.size = w.heap.size → wpList P ops Q rest (a.put o.dst undef) w') : wpList P ops Q (o :: rest) a w := by
  refine wpList_plain hg fun K' hK' => ?_
  obtain ⟨w', hrun, r1, r2, r3⟩ := h.store E ht hy u
  have := hK' _ _ (hK w' r1 r2 r3)
  unfold Oper.wp execOp
  simp only [hop, hm, hx, hv, Sem.run_bind, hrun, Result.andThen_ok, Sem.run_pure]
  exact this
theorem wpList_entry_mp (hg : o.guard = none) (m x : Operand) (t k : TypeId) (hop : o.op = .mapEntry t m x)
    (e : TypeId) (E : KE P k enc ok) (ht : P.underlying t = some (.map k e)) {z : Value} (hz : (zeroValue e).run P w = .ok z w) (h : Mp enc ok w b kv) (y : α) (hy : ok y) (hm : a.eval m = .map (some b)) (hx : a.eval x = enc y)
    (hK : ∀ w' v st, Pend enc ok w' b kv y st → Touch [b] w w' → w'.heap.size = w.heap.size → wpList P ops Q rest (a.put o.dst (.tuple #[v, .int .i64 (st : Nat)])) w') : wpList P ops Q (o :: rest) a w := by
  refine wpList_plain hg fun K' hK' => ?_
  obtain ⟨w', v, st, hrun, r1, r2, r3⟩ := h.entry E ht hz hy
  have := hK' _ _ (hK w' v st r1 r2 r3)
  unfold Oper.wp execOp
  simp only [hop, hm, hx, Sem.run_bind, hrun, Result.andThen_ok, Sem.run_pure]
  exact this
theorem wpList_fill_mp (hg : o.guard = none) (m s v : Operand) (t k : TypeId) (hop : o.op = .entryStore t m s v)
    (E : KE P k enc ok) {y : α} {st : Nat} (h : Pend enc ok w b kv y st) (u : Value) (hm : a.eval m = .map (some b)) (hs : a.eval s = .int .i64 (st : Nat)) (hv : a.eval v = u)
    (hK : ∀ w', Mp enc ok w' b (put kv y u) → Touch [b] w w' → w'.heap.size = w.heap.size → wpList P ops Q rest (a.put o.dst undef) w') : wpList P ops Q (o :: rest) a w := by
  refine wpList_plain hg fun K' hK' => ?_
  obtain ⟨w', hrun, r1, r2, r3⟩ := h.fill E (t := t) u
  have := hK' _ _ (hK w' r1 r2 r3)
  unfold Oper.wp execOp
  simp only [hop, hm, hs, hv, Sem.run_bind, hrun, Result.andThen_ok, Sem.run_pure]
  exact this
end
theorem run_eql_map_nil {P : Program} (w : World) (t k e : TypeId) (m : Option Nat) (h : P.underlying t = some (.map k e)) : (binOp .eql t (.map m) (.map none)).run P w = .ok (.bool m.isNone) w := by
  simp only [binOp]
  simp [run_equal_map_nil w t k e m h]
theorem Mp.ne_cells {α : Type} [DecidableEq α] {enc : α → Value} {ok : α → Prop} {w : World} {b g : Nat} {kv : List (α × Value)} (m : Mp enc ok w b kv) {cs : Array Value} {T : TypeId} {z : Nat × Nat} (h : w.heap[g]? = some (.cells cs T z)) : g ≠ b := by
  rintro rfl
  obtain ⟨es, clock, hm⟩ := m
  rw [hm.blk] at h
  cases h
def applyL (live : List Key) (o : O) : List Key := if o.k = 1 ∨ o.k = 4 then addS live (epO o) else if o.k = 7 then delS live (epO o) else live
def applyS (shut : List Key) (o : O) : List Key := if o.k = 1 ∨ o.k = 4 then delS shut (epO o) else if o.k = 6 then addS shut (epO o) else shut
def applyA (f : Int → List Int) (o : O) (c : Int) : List Int := if o.k = 1 then (if c = o.c then [] else f c) else if o.k = 4 then (if c = o.c then addS (f c) o.a else f c) else f c
def Applied (w0 w' : World) (g ml ms ma : Nat) (live shut : List Key) (A : List At) (o : O) : Prop := ∃ A', Rp w0 w' g ml ms ma (applyL live o) (applyS shut o) A' ∧ ∀ c, atL A' c = applyA (atL A) o c
theorem Rp.fresh {w0 w : World} {g ml ms ma : Nat} {live shut : List Key} {A : List At} (h : Rp w0 w g ml ms ma live shut A) : ∀ y ∈ Rfoot g ml ms ma A, y < w.heap.size := by
  intro y hy
  simp only [Rfoot, List.mem_cons, List.mem_map] at hy
  rcases hy with rfl | rfl | rfl | rfl | ⟨p, hp, rfl⟩
  · exact (Array.getElem?_eq_some_iff.1 h.hdr).1
  · exact h.lv.lt
  · exact h.sh.lt
  · exact h.av.lt
  · exact (h.inn p hp).lt
set_option maxRecDepth 100000 in
set_option maxHeartbeats 4000000 in
theorem apply_any {w0 w : World} {g ml ms ma : Nat} {live shut : List Key} {A : List At} (o : O) (ok : OkO o) (h : Rp w0 w g ml ms ma live shut A) :
    Calls Try.prog 34 #[.pointer (some ⟨g, 0, none⟩), .agg (encO o).toArray] w fun e w' => e = .returned (.tuple #[]) ∧ Applied w0 w' g ml ms ma live shut A o := by
  have T0 := (Touch.refl [] w).alloc (.cells (encO o).toArray 36)
  have HB := Lib.hid (heap_alloc_new w (.cells (encO o).toArray 36))
  have HT0 := Lib.hid T0
  have OKI := Lib.hid ok
  have HR := Lib.hid h
  have HXO := Lib.hid (epO_ok ok)
  have HLT := Lib.hid h.fresh
  clear T0 ok h
  go_enter Try.func34, Try.ntmps34
  go_wp2_with ((with_reducible refine at_load 36 ?_); refine wpList_load_mid rfl 36 _ rfl w.heap.size (0) rfl (encO o) _ (range_block HB.out) Try.underlying36 rfl (by rw [infoO, OKI.out.len]) ?_)
  refine (ep_any o OKI.out _).mono ?_
  rintro e w2 ⟨rfl, t2⟩
  have HT2 := Lib.hid t2
  obtain ⟨⟨ec, ea⟩, he⟩ : ∃ p, epO o = p := ⟨_, rfl⟩
  rw [he]
  simp only [encK]
  have HEP := Lib.hid he
  clear he
  go_upto_region 2 with (fail)
  have t3 := (HT0.out.trans t2 (by simp)).alloc (.cells #[.int .i64 ec, .int .i64 ea] 30)
  have t4 := t2.alloc (.cells #[.int .i64 ec, .int .i64 ea] 30)
  have HW := Lib.hid (HR.out.touch t3)
  have HBW := Lib.hid (t4.at HB.out (by simp))
  have HEW := Lib.hid (heap_alloc_new w2 (.cells #[.int .i64 ec, .int .i64 ea] 30))
  have TW := Lib.hid t3
  have HGE := Lib.hid (show w2.heap.size ≠ w.heap.size by have := t2.size; simp at this; omega)
  clear t2 t3 t4 HR HB HT0
  obtain ⟨gB, hgB⟩ : ∃ g, g = w.heap.size := ⟨_, rfl⟩
  rw [← hgB] at HBW ⊢
  obtain ⟨gE, hgE⟩ : ∃ g, g = w2.heap.size := ⟨_, rfl⟩
  rw [← hgE] at HEW ⊢
  have HGBS := Lib.hid (show w.heap.size ≤ gB by omega)
  have HGES := Lib.hid (show w.heap.size ≤ gE by have := HT2.out.size; simp at this; omega)
  clear hgB hgE
  generalize w2.alloc (.cells #[.int .i64 ec, .int .i64 ea] 30) = W at *
  obtain ⟨b0, b1, b2, b3, _, _, _⟩ := O.cells OKI.out (range_block HBW.out)
  try simp only [Nat.zero_add] at b0 b1 b2 b3
  have e0 : W.cell? ⟨gE, 0, none⟩ = some (.int .i64 ec) := by simp [World.cell?, HEW.out]
  have e1 : W.cell? ⟨gE, 1, none⟩ = some (.int .i64 ea) := by simp [World.cell?, HEW.out]
  obtain ⟨c0, c1, c2⟩ := HW.out.cells
  clear HT2 HLT e0 e1 b1 b2 b3 c0 c1 c2
  have hmm := @run_makeMap Try.prog
  have u3 := run_underlying Try.underlying85
  by_cases h1 : o.k = 1
  · have q1 : (o.k == 1) = true := by simp [h1]
    go_upto_region 4 with (fail)
    have HW := Lib.hid (HW.out.touch ((Touch.refl [] W).drew))
    have HBW := Lib.hid (((Touch.refl [] W).drew).at HBW.out (by simp))
    have HEW := Lib.hid (((Touch.refl [] W).drew).at HEW.out (by simp))
    refine wp_region_held (S := Touch [ml, ma] W.drew) (by kernel_rfl) ?_
    change wpAnyH _ _ _ _ _ _ _ _ W.drew
    generalize W.drew = X4 at *
    obtain ⟨c0, c1, c2⟩ := HW.out.cells
    obtain ⟨_, b1, b2, _, _, _, _⟩ := O.cells OKI.out (range_block HBW.out)
    try simp only [Nat.zero_add] at b1 b2
    have re : X4.rangeAt gE 0 (encE (epO o)) := by rw [HEP.out]; exact range_block HEW.out
    have ng : g ∉ [ml, ma] := by simp only [List.mem_cons, List.not_mem_nil, or_false, not_or]; exact ⟨HW.out.lv.ne_cells HW.out.hdr, HW.out.av.ne_cells HW.out.hdr⟩
    have ngB : gB ∉ [ml, ma] := by simp only [List.mem_cons, List.not_mem_nil, or_false, not_or]; exact ⟨HW.out.lv.ne_cells HBW.out, HW.out.av.ne_cells HBW.out⟩
    have ngE : gE ∉ [ml, ma] := by simp only [List.mem_cons, List.not_mem_nil, or_false, not_or]; exact ⟨HW.out.lv.ne_cells HEW.out, HW.out.av.ne_cells HEW.out⟩
    have hS := Touch.refl [ml, ma] X4
    have HL0 := Lib.hid HW.out.lv
    have HA0 := Lib.hid HW.out.av
    have HNE := Lib.hid HW.out.n1.2.2.2.2.1
    have HLTX := Lib.hid (show ml < X4.heap.size ∧ ma < X4.heap.size from ⟨HW.out.lv.lt, HW.out.av.lt⟩)
    have HSZ := Lib.hid hS.size
    refine wpAnyH_take (i := 0) (oi := { dst := some 11, op := Op.move (Operand.tmp 0), type := 59, pos := "trace.go:58", after := #[], guard := none }) (v := .pointer (some ⟨g, 0, none⟩)) rfl (by kernel_rfl) (by kernel_rfl) (by kernel_rfl) (fun _ _ _ h => h) (Or.inl ⟨by rfl, fun w' hw => by go_simp⟩) hS ?_
    try simp only [Act.put, List.setIfInBounds_toArray, List.set_cons_zero, List.set_cons_succ]
    refine wpAnyH_take (i := 1) (oi := { dst := some 12, op := Op.nilCheck (Operand.tmp 11), type := 0, pos := "trace.go:58", after := #[{ on := 0, ground := Ground.data }], guard := none }) (v := .pointer (some ⟨g, 0, none⟩)) rfl (by kernel_rfl) (by kernel_rfl) (by kernel_rfl) (fun _ _ _ h => h) (Or.inl ⟨by rfl, fun w' hw => by go_simp⟩) hS ?_
    try simp only [Act.put, List.setIfInBounds_toArray, List.set_cons_zero, List.set_cons_succ]
    refine wpAnyH_take (i := 2) (oi := { dst := some 13, op := Op.fieldAddr 69 (Operand.tmp 12) 0, type := 0, pos := "trace.go:58", after := #[{ on := 1, ground := Ground.data }], guard := none }) (v := .pointer (some ⟨g, 0, none⟩)) rfl (by kernel_rfl) (by kernel_rfl) (by kernel_rfl) (fun _ _ _ h => h) (Or.inl ⟨by rfl, fun w' hw => by go_simp⟩) hS ?_
    try simp only [Act.put, List.setIfInBounds_toArray, List.set_cons_zero, List.set_cons_succ]
    refine wpAnyH_take (i := 3) (oi := { dst := some 14, op := Op.load 66 (Operand.tmp 13), type := 66, pos := "trace.go:58", after := #[{ on := 2, ground := Ground.data }], guard := none }) (v := .map (some ml)) rfl (by kernel_rfl) (by kernel_rfl) (by kernel_rfl) (fun _ _ _ h => h) (Or.inl ⟨by rfl, fun w' hw => by (have q := hw.cell c0 ng; go_simp)⟩) hS ?_
    try simp only [Act.put, List.setIfInBounds_toArray, List.set_cons_zero, List.set_cons_succ]
    refine wpAnyH_take (i := 4) (oi := { dst := some 15, op := Op.load 30 (Operand.tmp 4), type := 30, pos := "trace.go:58", after := #[], guard := none }) (v := .agg (encE (epO o)).toArray) rfl (by kernel_rfl) (by kernel_rfl) (by kernel_rfl) (fun _ _ _ h => h) (Or.inl ⟨by rfl, fun w' hw => exec_load_agg _ 30 _ rfl _ _ rfl (encE (epO o)) _ (hw.range re ngE) Try.underlying30 rfl (by rw [infoE]; rfl)⟩) hS ?_
    try simp only [Act.put, List.setIfInBounds_toArray, List.set_cons_zero, List.set_cons_succ]
    refine wpAnyH_take (i := 5) (oi := { dst := some 16, op := Op.move (Operand.tmp 0), type := 59, pos := "trace.go:58", after := #[], guard := none }) (v := .pointer (some ⟨g, 0, none⟩)) rfl (by kernel_rfl) (by kernel_rfl) (by kernel_rfl) (fun _ _ _ h => h) (Or.inl ⟨by rfl, fun w' hw => by go_simp⟩) hS ?_
    try simp only [Act.put, List.setIfInBounds_toArray, List.set_cons_zero, List.set_cons_succ]
    refine wpAnyH_take (i := 6) (oi := { dst := some 17, op := Op.nilCheck (Operand.tmp 16), type := 0, pos := "trace.go:58", after := #[{ on := 5, ground := Ground.data }], guard := none }) (v := .pointer (some ⟨g, 0, none⟩)) rfl (by kernel_rfl) (by kernel_rfl) (by kernel_rfl) (fun _ _ _ h => h) (Or.inl ⟨by rfl, fun w' hw => by go_simp⟩) hS ?_
    try simp only [Act.put, List.setIfInBounds_toArray, List.set_cons_zero, List.set_cons_succ]
    refine wpAnyH_take (i := 7) (oi := { dst := some 18, op := Op.fieldAddr 69 (Operand.tmp 17) 2, type := 0, pos := "trace.go:58", after := #[{ on := 6, ground := Ground.data }], guard := none }) (v := .pointer (some ⟨g, 2, none⟩)) rfl (by kernel_rfl) (by kernel_rfl) (by kernel_rfl) (fun _ _ _ h => h) (Or.inl ⟨by rfl, fun w' hw => by go_simp⟩) hS ?_
    try simp only [Act.put, List.setIfInBounds_toArray, List.set_cons_zero, List.set_cons_succ]
    refine wpAnyH_take (i := 8) (oi := { dst := some 19, op := Op.load 67 (Operand.tmp 18), type := 67, pos := "trace.go:58", after := #[{ on := 7, ground := Ground.data }], guard := none }) (v := .map (some ma)) rfl (by kernel_rfl) (by kernel_rfl) (by kernel_rfl) (fun _ _ _ h => h) (Or.inl ⟨by rfl, fun w' hw => by (have q := hw.cell c2 ng; go_simp)⟩) hS ?_
    try simp only [Act.put, List.setIfInBounds_toArray, List.set_cons_zero, List.set_cons_succ]
    refine wpAnyH_take (i := 9) (oi := { dst := some 20, op := Op.fieldAddr 36 (Operand.tmp 3) 1, type := 0, pos := "trace.go:58", after := #[{ on := 14, ground := Ground.gcOnly Departure.lateStores }], guard := none }) (v := .pointer (some ⟨gB, 1, none⟩)) rfl (by kernel_rfl) (by kernel_rfl) (by kernel_rfl) (fun _ _ _ h => h) (Or.inl ⟨by rfl, fun w' hw => by go_simp⟩) hS ?_
    try simp only [Act.put, List.setIfInBounds_toArray, List.set_cons_zero, List.set_cons_succ]
    refine wpAnyH_take (i := 10) (oi := { dst := some 21, op := Op.load 3 (Operand.tmp 20), type := 3, pos := "trace.go:58", after := #[{ on := 9, ground := Ground.data }, { on := 14, ground := Ground.gcOnly Departure.lateStores }], guard := none }) (v := .int .i64 o.c) rfl (by kernel_rfl) (by kernel_rfl) (by kernel_rfl) (fun _ _ _ h => h) (Or.inl ⟨by rfl, fun w' hw => by (have q := hw.cell b1 ngB; go_simp)⟩) hS ?_
    try simp only [Act.put, List.setIfInBounds_toArray, List.set_cons_zero, List.set_cons_succ]
    refine wpAnyH_ready (rs := [11, 12]) (by kernel_rfl) (by simp) ?_
    refine AllReadyH.cons (o := { dst := some 22, op := Op.makeMap 85 none, type := 85, pos := "trace.go:58", after := #[], guard := none }) rfl (fun K hK => ?_) (AllReadyH.cons (o := { dst := some 23, op := Op.mapEntry 66 (Operand.tmp 14) (Operand.tmp 15), type := 0, pos := "trace.go:58", after := #[{ on := 3, ground := Ground.data }, { on := 4, ground := Ground.data }, { on := 0, ground := Ground.textOnly Departure.tupleMapEntryFirst }, { on := 1, ground := Ground.textOnly Departure.tupleMapEntryFirst }, { on := 2, ground := Ground.textOnly Departure.tupleMapEntryFirst }, { on := 3, ground := Ground.textOnly Departure.tupleMapEntryFirst }, { on := 4, ground := Ground.textOnly Departure.lateStoresUnsure }, { on := 5, ground := Ground.textOnly Departure.lateStores }, { on := 6, ground := Ground.textOnly Departure.lateStoresUnsure }, { on := 7, ground := Ground.textOnly Departure.lateStoresUnsure }, { on := 8, ground := Ground.phase }, { on := 9, ground := Ground.textOnly Departure.lateStores }, { on := 10, ground := Ground.textOnly Departure.lateStores }, { on := 11, ground := Ground.textOnly Departure.lateStoresUnsure }], guard := none }) rfl (fun K hK => ?_) AllReadyH.nil)
    · go_simp
      have hS2 := hS.alloc (.map #[] 0)
      refine hK.out _ _ hS2 (fun _ => ?_)
      clear hK K hS
      have hS := hS2
      clear hS2
      have HM := Lib.hid (Mp.made (enc := encZ) (ok := wf) X4)
      have tn := (Touch.refl [] X4).alloc (.map #[] 0)
      have hnX := hS.size
      obtain ⟨nb, hnb⟩ : ∃ nb, nb = X4.heap.size := ⟨_, rfl⟩
      rw [← hnb] at HM ⊢
      have HNB := Lib.hid (show X4.heap.size ≤ nb by rw [hnb]; exact HSZ.out)
      have HA0 := Lib.hid (HA0.out.touch tn (by simp))
      have HL0 := Lib.hid (HL0.out.touch tn (by simp))
      generalize X4.alloc (.map #[] 0) = y1 at *
      clear tn hnb hnX
      have HSZ := Lib.hid hS.size
      try simp only [Act.put, List.setIfInBounds_toArray, List.set_cons_zero, List.set_cons_succ]
      refine wpAnyH_ready (rs := [12]) (by kernel_rfl) (by simp) ?_
      refine AllReadyH.cons (o := { dst := some 23, op := Op.mapEntry 66 (Operand.tmp 14) (Operand.tmp 15), type := 0, pos := "trace.go:58", after := #[{ on := 3, ground := Ground.data }, { on := 4, ground := Ground.data }, { on := 0, ground := Ground.textOnly Departure.tupleMapEntryFirst }, { on := 1, ground := Ground.textOnly Departure.tupleMapEntryFirst }, { on := 2, ground := Ground.textOnly Departure.tupleMapEntryFirst }, { on := 3, ground := Ground.textOnly Departure.tupleMapEntryFirst }, { on := 4, ground := Ground.textOnly Departure.lateStoresUnsure }, { on := 5, ground := Ground.textOnly Departure.lateStores }, { on := 6, ground := Ground.textOnly Departure.lateStoresUnsure }, { on := 7, ground := Ground.textOnly Departure.lateStoresUnsure }, { on := 8, ground := Ground.phase }, { on := 9, ground := Ground.textOnly Departure.lateStores }, { on := 10, ground := Ground.textOnly Departure.lateStores }, { on := 11, ground := Ground.textOnly Departure.lateStoresUnsure }], guard := none }) rfl (fun K hK => ?_) AllReadyH.nil
      refine step_of_list rfl ?_
      refine wpList_entry_mp rfl _ _ 66 30 rfl 4 keyK Try.underlying66 (zeroB _) HL0.out (epO o) HXO.out rfl rfl ?_
      intro y2 vL stL hp tm zm
      have hS2 := hS.trans tm (by intro q hq; left; simp at hq; simp [hq])
      refine ⟨rfl, hK.out _ _ hS2 (fun _ => ?_)⟩
      clear hK K hS
      have hS := hS2
      clear hS2
      have HLv := Lib.hid hp
      have HA0 := Lib.hid (HA0.out.touch tm (by simp; exact Ne.symm HNE.out))
      have HM := Lib.hid (HM.out.touch tm (by simp; have := HLTX.out; have := HNB.out; omega))
      have HSZ := Lib.hid hS.size
      clear hp tm zm
      try simp only [Act.put, List.setIfInBounds_toArray, List.set_cons_zero, List.set_cons_succ]
      refine wpAnyH_take (i := 13) (oi := { dst := some 24, op := Op.extract (Operand.tmp 23) 1, type := 3, pos := "trace.go:58", after := #[{ on := 12, ground := Ground.data }], guard := none }) (v := .int .i64 (stL : Nat)) rfl (by kernel_rfl) (by kernel_rfl) (by kernel_rfl) (fun _ _ _ h => h) (Or.inl ⟨by rfl, fun w' hw => by go_simp⟩) hS ?_
      try simp only [Act.put, List.setIfInBounds_toArray, List.set_cons_zero, List.set_cons_succ]
      refine wpAnyH_ready (rs := [14]) (by kernel_rfl) (by simp) ?_
      refine AllReadyH.cons (o := { dst := none, op := Op.entryStore 66 (Operand.tmp 14) (Operand.tmp 24) (Operand.const (Value.bool true)), type := 0, pos := "trace.go:58", after := #[{ on := 3, ground := Ground.data }, { on := 13, ground := Ground.data }, { on := 12, ground := Ground.chain }, { on := 0, ground := Ground.phase }, { on := 1, ground := Ground.phase }, { on := 2, ground := Ground.phase }, { on := 3, ground := Ground.phase }, { on := 4, ground := Ground.phase }, { on := 5, ground := Ground.textOnly Departure.lateStores }, { on := 6, ground := Ground.textOnly Departure.lateStoresUnsure }, { on := 7, ground := Ground.textOnly Departure.lateStoresUnsure }, { on := 8, ground := Ground.phase }, { on := 9, ground := Ground.textOnly Departure.lateStores }, { on := 10, ground := Ground.textOnly Departure.lateStores }, { on := 11, ground := Ground.textOnly Departure.lateStoresUnsure }, { on := 12, ground := Ground.phase }], guard := none }) rfl (fun K hK => ?_) AllReadyH.nil
      refine step_of_list rfl ?_
      refine wpList_fill_mp rfl _ _ _ 66 30 rfl keyK HLv.out (.bool true) rfl rfl rfl ?_
      intro y3 hp tm zm
      have hS2 := hS.trans tm (by intro q hq; left; simp at hq; simp [hq])
      refine ⟨rfl, hK.out _ _ hS2 (fun _ => ?_)⟩
      clear hK K hS
      have hS := hS2
      clear hS2
      rw [put_tr] at hp
      have HLv := Lib.hid hp
      have HA0 := Lib.hid (HA0.out.touch tm (by simp; exact Ne.symm HNE.out))
      have HM := Lib.hid (HM.out.touch tm (by simp; have := HLTX.out; have := HNB.out; omega))
      have HSZ := Lib.hid hS.size
      clear hp tm zm
      try simp only [Act.put, List.setIfInBounds_toArray, List.set_cons_zero, List.set_cons_succ]
      refine wpAnyH_ready (rs := [15]) (by kernel_rfl) (by simp) ?_
      refine AllReadyH.cons (o := { dst := some 25, op := Op.mapEntry 67 (Operand.tmp 19) (Operand.tmp 21), type := 0, pos := "trace.go:58", after := #[{ on := 8, ground := Ground.data }, { on := 10, ground := Ground.data }, { on := 14, ground := Ground.chain }, { on := 0, ground := Ground.phase }, { on := 1, ground := Ground.phase }, { on := 2, ground := Ground.phase }, { on := 3, ground := Ground.phase }, { on := 4, ground := Ground.phase }, { on := 5, ground := Ground.textOnly Departure.tupleMapEntryFirst }, { on := 6, ground := Ground.textOnly Departure.lateStoresUnsure }, { on := 7, ground := Ground.textOnly Departure.lateStoresUnsure }, { on := 8, ground := Ground.phase }, { on := 9, ground := Ground.textOnly Departure.tupleMapEntryFirst }, { on := 10, ground := Ground.textOnly Departure.tupleMapEntryFirst }, { on := 11, ground := Ground.textOnly Departure.lateStoresUnsure }, { on := 12, ground := Ground.phase }, { on := 13, ground := Ground.phase }, { on := 14, ground := Ground.phase }], guard := none }) rfl (fun K hK => ?_) AllReadyH.nil
      refine step_of_list rfl ?_
      refine wpList_entry_mp rfl _ _ 67 3 rfl 85 keyZ Try.underlying67 (zeroM _) HA0.out o.c OKI.out.c rfl rfl ?_
      intro y4 vA stA hp tm zm
      have hS2 := hS.trans tm (by intro q hq; left; simp at hq; simp [hq])
      refine ⟨rfl, hK.out _ _ hS2 (fun _ => ?_)⟩
      clear hK K hS
      have hS := hS2
      clear hS2
      have HAv := Lib.hid hp
      have HLv := Lib.hid (HLv.out.touch tm (by simp; exact HNE.out))
      have HM := Lib.hid (HM.out.touch tm (by simp; have := HLTX.out; have := HNB.out; omega))
      have HSZ := Lib.hid hS.size
      clear hp tm zm
      try simp only [Act.put, List.setIfInBounds_toArray, List.set_cons_zero, List.set_cons_succ]
      refine wpAnyH_take (i := 16) (oi := { dst := some 26, op := Op.extract (Operand.tmp 25) 1, type := 3, pos := "trace.go:58", after := #[{ on := 15, ground := Ground.data }], guard := none }) (v := .int .i64 (stA : Nat)) rfl (by kernel_rfl) (by kernel_rfl) (by kernel_rfl) (fun _ _ _ h => h) (Or.inl ⟨by rfl, fun w' hw => by go_simp⟩) hS ?_
      try simp only [Act.put, List.setIfInBounds_toArray, List.set_cons_zero, List.set_cons_succ]
      refine wpAnyH_ready (rs := [17]) (by kernel_rfl) (by simp) ?_
      refine AllReadyH.cons (o := { dst := none, op := Op.entryStore 67 (Operand.tmp 19) (Operand.tmp 26) (Operand.tmp 22), type := 0, pos := "trace.go:58", after := #[{ on := 8, ground := Ground.data }, { on := 16, ground := Ground.data }, { on := 11, ground := Ground.data }, { on := 15, ground := Ground.chain }, { on := 0, ground := Ground.phase }, { on := 1, ground := Ground.phase }, { on := 2, ground := Ground.phase }, { on := 3, ground := Ground.phase }, { on := 4, ground := Ground.phase }, { on := 5, ground := Ground.phase }, { on := 6, ground := Ground.phase }, { on := 7, ground := Ground.phase }, { on := 8, ground := Ground.phase }, { on := 9, ground := Ground.phase }, { on := 10, ground := Ground.phase }, { on := 11, ground := Ground.phase }, { on := 12, ground := Ground.phase }, { on := 13, ground := Ground.phase }, { on := 14, ground := Ground.phase }, { on := 15, ground := Ground.phase }], guard := none }) rfl (fun K hK => ?_) AllReadyH.nil
      refine step_of_list rfl ?_
      refine wpList_fill_mp rfl _ _ _ 67 3 rfl keyZ HAv.out (.map (some nb)) rfl rfl rfl ?_
      intro y5 hp tm zm
      have hS2 := hS.trans tm (by intro q hq; left; simp at hq; simp [hq])
      refine ⟨rfl, hK.out _ _ hS2 (fun _ => ?_)⟩
      clear hK K hS
      have hS := hS2
      clear hS2
      have hp : Mp encZ wf y5 ma ((setAt A ⟨o.c, nb, []⟩).map atv) := by rw [← put_at]; exact hp
      have HAv := Lib.hid hp
      have HLv := Lib.hid (HLv.out.touch tm (by simp; exact HNE.out))
      have HM := Lib.hid (HM.out.touch tm (by simp; have := HLTX.out; have := HNB.out; omega))
      have HSZ := Lib.hid hS.size
      clear hp tm zm
      try simp only [Act.put, List.setIfInBounds_toArray, List.set_cons_zero, List.set_cons_succ]
      refine wpAnyH_done (by kernel_rfl) ?_ _
      try simp only [Act.put, List.setIfInBounds_toArray, List.set_cons_zero, List.set_cons_succ]
      have HBW := Lib.hid (hS.at HBW.out ngB)
      have HEW := Lib.hid (hS.at HEW.out ngE)
      have HW := Lib.hid (Rp.setA HW.out hS (q := ⟨o.c, nb, []⟩) HLv.out HAv.out (by simpa using HM.out) (fun hm => by have h1 : nb < _ := HW.out.fresh _ hm; have := HNB.out; omega) (Nat.le_trans HW.out.tt.size HNB.out))
      clear hS c0 c1 c2 b1 b2 re ng ngB ngE
      clear HLv HAv HM HL0 HA0 HNE HLTX HSZ
      go_upto_region 5 with (fail)
      have HW := Lib.hid (HW.out.touch ((Touch.refl [] y5).drew))
      have HBW := Lib.hid (((Touch.refl [] y5).drew).at HBW.out (by simp))
      have HEW := Lib.hid (((Touch.refl [] y5).drew).at HEW.out (by simp))
      refine wp_region_held (S := Touch [ms] y5.drew) (by kernel_rfl) ?_
      change wpAnyH _ _ _ _ _ _ _ _ y5.drew
      generalize y5.drew = X5 at *
      obtain ⟨c0, c1, c2⟩ := HW.out.cells
      obtain ⟨_, b1, b2, _, _, _, _⟩ := O.cells OKI.out (range_block HBW.out)
      try simp only [Nat.zero_add] at b1 b2
      have re : X5.rangeAt gE 0 (encE (epO o)) := by rw [HEP.out]; exact range_block HEW.out
      have ng : g ∉ [ms] := by simp only [List.mem_cons, List.not_mem_nil, or_false, not_or]; exact HW.out.sh.ne_cells HW.out.hdr
      have ngB : gB ∉ [ms] := by simp only [List.mem_cons, List.not_mem_nil, or_false, not_or]; exact HW.out.sh.ne_cells HBW.out
      have ngE : gE ∉ [ms] := by simp only [List.mem_cons, List.not_mem_nil, or_false, not_or]; exact HW.out.sh.ne_cells HEW.out
      have hS := Touch.refl [ms] X5
      refine wpAnyH_take (i := 0) (oi := { dst := some 27, op := Op.move (Operand.tmp 0), type := 59, pos := "trace.go:59", after := #[], guard := none }) (v := .pointer (some ⟨g, 0, none⟩)) rfl (by kernel_rfl) (by kernel_rfl) (by kernel_rfl) (fun _ _ _ h => h) (Or.inl ⟨by rfl, fun w' hw => by go_simp⟩) hS ?_
      try simp only [Act.put, List.setIfInBounds_toArray, List.set_cons_zero, List.set_cons_succ]
      refine wpAnyH_take (i := 1) (oi := { dst := some 28, op := Op.nilCheck (Operand.tmp 27), type := 0, pos := "trace.go:59", after := #[{ on := 0, ground := Ground.data }], guard := none }) (v := .pointer (some ⟨g, 0, none⟩)) rfl (by kernel_rfl) (by kernel_rfl) (by kernel_rfl) (fun _ _ _ h => h) (Or.inl ⟨by rfl, fun w' hw => by go_simp⟩) hS ?_
      try simp only [Act.put, List.setIfInBounds_toArray, List.set_cons_zero, List.set_cons_succ]
      refine wpAnyH_take (i := 2) (oi := { dst := some 29, op := Op.fieldAddr 69 (Operand.tmp 28) 1, type := 0, pos := "trace.go:59", after := #[{ on := 1, ground := Ground.data }], guard := none }) (v := .pointer (some ⟨g, 1, none⟩)) rfl (by kernel_rfl) (by kernel_rfl) (by kernel_rfl) (fun _ _ _ h => h) (Or.inl ⟨by rfl, fun w' hw => by go_simp⟩) hS ?_
      try simp only [Act.put, List.setIfInBounds_toArray, List.set_cons_zero, List.set_cons_succ]
      refine wpAnyH_take (i := 3) (oi := { dst := some 30, op := Op.load 66 (Operand.tmp 29), type := 66, pos := "trace.go:59", after := #[{ on := 2, ground := Ground.data }], guard := none }) (v := .map (some ms)) rfl (by kernel_rfl) (by kernel_rfl) (by kernel_rfl) (fun _ _ _ h => h) (Or.inl ⟨by rfl, fun w' hw => by (have q := hw.cell c1 ng; go_simp)⟩) hS ?_
      try simp only [Act.put, List.setIfInBounds_toArray, List.set_cons_zero, List.set_cons_succ]
      refine wpAnyH_take (i := 4) (oi := { dst := some 31, op := Op.load 30 (Operand.tmp 4), type := 30, pos := "trace.go:59", after := #[], guard := none }) (v := .agg (encE (epO o)).toArray) rfl (by kernel_rfl) (by kernel_rfl) (by kernel_rfl) (fun _ _ _ h => h) (Or.inl ⟨by rfl, fun w' hw => exec_load_agg _ 30 _ rfl _ _ rfl (encE (epO o)) _ (hw.range re ngE) Try.underlying30 rfl (by rw [infoE]; rfl)⟩) hS ?_
      try simp only [Act.put, List.setIfInBounds_toArray, List.set_cons_zero, List.set_cons_succ]
      refine wpAnyH_ready (rs := [5]) (by kernel_rfl) (by simp) ?_
      refine AllReadyH.cons (o := { dst := none, op := Op.call { callee := Callee.builtin Builtin.delete, args := #[Operand.tmp 30, Operand.tmp 31], argTypes := #[66, 30] }, type := 0, pos := "trace.go:59", after := #[{ on := 3, ground := Ground.data }, { on := 4, ground := Ground.data }], guard := none }) rfl (fun K hK => ?_) AllReadyH.nil
      refine step_of_list rfl ?_
      refine wpList_delete_mp rfl _ _ 66 30 rfl 4 keyK Try.underlying66 HW.out.sh (epO o) HXO.out rfl rfl ?_
      intro z5 hm tm zm
      rw [del_tr] at hm
      have hS2 := hS.trans tm (by intro q hq; exact .inl hq)
      refine ⟨rfl, hK.out _ _ hS2 (fun _ => ?_)⟩
      clear hK K hS
      have hS := hS2
      clear hS2
      clear tm zm
      try simp only [Act.put, List.setIfInBounds_toArray, List.set_cons_zero, List.set_cons_succ]
      refine wpAnyH_done (by kernel_rfl) ?_ _
      try simp only [Act.put, List.setIfInBounds_toArray, List.set_cons_zero, List.set_cons_succ]
      have HBW := Lib.hid (hS.at HBW.out ngB)
      have HEW := Lib.hid (hS.at HEW.out ngE)
      have HW := Lib.hid (HW.out.setS hS hm)
      clear hS c0 c1 c2 b1 b2 re ng ngB ngE
      clear hm
      go_wp2_with fail
      go_end0
      exact ⟨rfl, setAt A ⟨o.c, nb, []⟩, by rw [show applyL live o = addS live (epO o) by simp [applyL, h1], show applyS shut o = delS shut (epO o) by simp [applyS, h1]]; exact HW.out, fun c => by rw [atL_setAt]; simp [applyA, h1]⟩
    · refine step_of_list rfl ?_
      refine wpList_entry_mp rfl _ _ 66 30 rfl 4 keyK Try.underlying66 (zeroB _) HL0.out (epO o) HXO.out rfl rfl ?_
      intro y1 vL stL hp tm zm
      have hS2 := hS.trans tm (by intro q hq; left; simp at hq; simp [hq])
      refine ⟨rfl, hK.out _ _ hS2 (fun _ => ?_)⟩
      clear hK K hS
      have hS := hS2
      clear hS2
      have HLv := Lib.hid hp
      have HA0 := Lib.hid (HA0.out.touch tm (by simp; exact Ne.symm HNE.out))
      have HSZ := Lib.hid hS.size
      clear hp tm zm
      try simp only [Act.put, List.setIfInBounds_toArray, List.set_cons_zero, List.set_cons_succ]
      refine wpAnyH_take (i := 13) (oi := { dst := some 24, op := Op.extract (Operand.tmp 23) 1, type := 3, pos := "trace.go:58", after := #[{ on := 12, ground := Ground.data }], guard := none }) (v := .int .i64 (stL : Nat)) rfl (by kernel_rfl) (by kernel_rfl) (by kernel_rfl) (fun _ _ _ h => h) (Or.inl ⟨by rfl, fun w' hw => by go_simp⟩) hS ?_
      try simp only [Act.put, List.setIfInBounds_toArray, List.set_cons_zero, List.set_cons_succ]
      refine wpAnyH_ready (rs := [11, 14]) (by kernel_rfl) (by simp) ?_
      refine AllReadyH.cons (o := { dst := some 22, op := Op.makeMap 85 none, type := 85, pos := "trace.go:58", after := #[], guard := none }) rfl (fun K hK => ?_) (AllReadyH.cons (o := { dst := none, op := Op.entryStore 66 (Operand.tmp 14) (Operand.tmp 24) (Operand.const (Value.bool true)), type := 0, pos := "trace.go:58", after := #[{ on := 3, ground := Ground.data }, { on := 13, ground := Ground.data }, { on := 12, ground := Ground.chain }, { on := 0, ground := Ground.phase }, { on := 1, ground := Ground.phase }, { on := 2, ground := Ground.phase }, { on := 3, ground := Ground.phase }, { on := 4, ground := Ground.phase }, { on := 5, ground := Ground.textOnly Departure.lateStores }, { on := 6, ground := Ground.textOnly Departure.lateStoresUnsure }, { on := 7, ground := Ground.textOnly Departure.lateStoresUnsure }, { on := 8, ground := Ground.phase }, { on := 9, ground := Ground.textOnly Departure.lateStores }, { on := 10, ground := Ground.textOnly Departure.lateStores }, { on := 11, ground := Ground.textOnly Departure.lateStoresUnsure }, { on := 12, ground := Ground.phase }], guard := none }) rfl (fun K hK => ?_) AllReadyH.nil)
      · go_simp
        have hS2 := hS.alloc (.map #[] 0)
        refine hK.out _ _ hS2 (fun _ => ?_)
        clear hK K hS
        have hS := hS2
        clear hS2
        have HM := Lib.hid (Mp.made (enc := encZ) (ok := wf) y1)
        have tn := (Touch.refl [] y1).alloc (.map #[] 0)
        have hnX := hS.size
        have HLv := Lib.hid (HLv.out.touch tn (by simp))
        obtain ⟨nb, hnb⟩ : ∃ nb, nb = y1.heap.size := ⟨_, rfl⟩
        rw [← hnb] at HM ⊢
        have HNB := Lib.hid (show X4.heap.size ≤ nb by rw [hnb]; exact HSZ.out)
        have HA0 := Lib.hid (HA0.out.touch tn (by simp))
        generalize y1.alloc (.map #[] 0) = y2 at *
        clear tn hnb hnX
        have HSZ := Lib.hid hS.size
        try simp only [Act.put, List.setIfInBounds_toArray, List.set_cons_zero, List.set_cons_succ]
        refine wpAnyH_ready (rs := [14]) (by kernel_rfl) (by simp) ?_
        refine AllReadyH.cons (o := { dst := none, op := Op.entryStore 66 (Operand.tmp 14) (Operand.tmp 24) (Operand.const (Value.bool true)), type := 0, pos := "trace.go:58", after := #[{ on := 3, ground := Ground.data }, { on := 13, ground := Ground.data }, { on := 12, ground := Ground.chain }, { on := 0, ground := Ground.phase }, { on := 1, ground := Ground.phase }, { on := 2, ground := Ground.phase }, { on := 3, ground := Ground.phase }, { on := 4, ground := Ground.phase }, { on := 5, ground := Ground.textOnly Departure.lateStores }, { on := 6, ground := Ground.textOnly Departure.lateStoresUnsure }, { on := 7, ground := Ground.textOnly Departure.lateStoresUnsure }, { on := 8, ground := Ground.phase }, { on := 9, ground := Ground.textOnly Departure.lateStores }, { on := 10, ground := Ground.textOnly Departure.lateStores }, { on := 11, ground := Ground.textOnly Departure.lateStoresUnsure }, { on := 12, ground := Ground.phase }], guard := none }) rfl (fun K hK => ?_) AllReadyH.nil
        refine step_of_list rfl ?_
        refine wpList_fill_mp rfl _ _ _ 66 30 rfl keyK HLv.out (.bool true) rfl rfl rfl ?_
        intro y3 hp tm zm
        have hS2 := hS.trans tm (by intro q hq; left; simp at hq; simp [hq])
        refine ⟨rfl, hK.out _ _ hS2 (fun _ => ?_)⟩
        clear hK K hS
        have hS := hS2
        clear hS2
        rw [put_tr] at hp
        have HLv := Lib.hid hp
        have HA0 := Lib.hid (HA0.out.touch tm (by simp; exact Ne.symm HNE.out))
        have HM := Lib.hid (HM.out.touch tm (by simp; have := HLTX.out; have := HNB.out; omega))
        have HSZ := Lib.hid hS.size
        clear hp tm zm
        try simp only [Act.put, List.setIfInBounds_toArray, List.set_cons_zero, List.set_cons_succ]
        refine wpAnyH_ready (rs := [15]) (by kernel_rfl) (by simp) ?_
        refine AllReadyH.cons (o := { dst := some 25, op := Op.mapEntry 67 (Operand.tmp 19) (Operand.tmp 21), type := 0, pos := "trace.go:58", after := #[{ on := 8, ground := Ground.data }, { on := 10, ground := Ground.data }, { on := 14, ground := Ground.chain }, { on := 0, ground := Ground.phase }, { on := 1, ground := Ground.phase }, { on := 2, ground := Ground.phase }, { on := 3, ground := Ground.phase }, { on := 4, ground := Ground.phase }, { on := 5, ground := Ground.textOnly Departure.tupleMapEntryFirst }, { on := 6, ground := Ground.textOnly Departure.lateStoresUnsure }, { on := 7, ground := Ground.textOnly Departure.lateStoresUnsure }, { on := 8, ground := Ground.phase }, { on := 9, ground := Ground.textOnly Departure.tupleMapEntryFirst }, { on := 10, ground := Ground.textOnly Departure.tupleMapEntryFirst }, { on := 11, ground := Ground.textOnly Departure.lateStoresUnsure }, { on := 12, ground := Ground.phase }, { on := 13, ground := Ground.phase }, { on := 14, ground := Ground.phase }], guard := none }) rfl (fun K hK => ?_) AllReadyH.nil
        refine step_of_list rfl ?_
        refine wpList_entry_mp rfl _ _ 67 3 rfl 85 keyZ Try.underlying67 (zeroM _) HA0.out o.c OKI.out.c rfl rfl ?_
        intro y4 vA stA hp tm zm
        have hS2 := hS.trans tm (by intro q hq; left; simp at hq; simp [hq])
        refine ⟨rfl, hK.out _ _ hS2 (fun _ => ?_)⟩
        clear hK K hS
        have hS := hS2
        clear hS2
        have HAv := Lib.hid hp
        have HLv := Lib.hid (HLv.out.touch tm (by simp; exact HNE.out))
        have HM := Lib.hid (HM.out.touch tm (by simp; have := HLTX.out; have := HNB.out; omega))
        have HSZ := Lib.hid hS.size
        clear hp tm zm
        try simp only [Act.put, List.setIfInBounds_toArray, List.set_cons_zero, List.set_cons_succ]
        refine wpAnyH_take (i := 16) (oi := { dst := some 26, op := Op.extract (Operand.tmp 25) 1, type := 3, pos := "trace.go:58", after := #[{ on := 15, ground := Ground.data }], guard := none }) (v := .int .i64 (stA : Nat)) rfl (by kernel_rfl) (by kernel_rfl) (by kernel_rfl) (fun _ _ _ h => h) (Or.inl ⟨by rfl, fun w' hw => by go_simp⟩) hS ?_
        try simp only [Act.put, List.setIfInBounds_toArray, List.set_cons_zero, List.set_cons_succ]
        refine wpAnyH_ready (rs := [17]) (by kernel_rfl) (by simp) ?_
        refine AllReadyH.cons (o := { dst := none, op := Op.entryStore 67 (Operand.tmp 19) (Operand.tmp 26) (Operand.tmp 22), type := 0, pos := "trace.go:58", after := #[{ on := 8, ground := Ground.data }, { on := 16, ground := Ground.data }, { on := 11, ground := Ground.data }, { on := 15, ground := Ground.chain }, { on := 0, ground := Ground.phase }, { on := 1, ground := Ground.phase }, { on := 2, ground := Ground.phase }, { on := 3, ground := Ground.phase }, { on := 4, ground := Ground.phase }, { on := 5, ground := Ground.phase }, { on := 6, ground := Ground.phase }, { on := 7, ground := Ground.phase }, { on := 8, ground := Ground.phase }, { on := 9, ground := Ground.phase }, { on := 10, ground := Ground.phase }, { on := 11, ground := Ground.phase }, { on := 12, ground := Ground.phase }, { on := 13, ground := Ground.phase }, { on := 14, ground := Ground.phase }, { on := 15, ground := Ground.phase }], guard := none }) rfl (fun K hK => ?_) AllReadyH.nil
        refine step_of_list rfl ?_
        refine wpList_fill_mp rfl _ _ _ 67 3 rfl keyZ HAv.out (.map (some nb)) rfl rfl rfl ?_
        intro y5 hp tm zm
        have hS2 := hS.trans tm (by intro q hq; left; simp at hq; simp [hq])
        refine ⟨rfl, hK.out _ _ hS2 (fun _ => ?_)⟩
        clear hK K hS
        have hS := hS2
        clear hS2
        have hp : Mp encZ wf y5 ma ((setAt A ⟨o.c, nb, []⟩).map atv) := by rw [← put_at]; exact hp
        have HAv := Lib.hid hp
        have HLv := Lib.hid (HLv.out.touch tm (by simp; exact HNE.out))
        have HM := Lib.hid (HM.out.touch tm (by simp; have := HLTX.out; have := HNB.out; omega))
        have HSZ := Lib.hid hS.size
        clear hp tm zm
        try simp only [Act.put, List.setIfInBounds_toArray, List.set_cons_zero, List.set_cons_succ]
        refine wpAnyH_done (by kernel_rfl) ?_ _
        try simp only [Act.put, List.setIfInBounds_toArray, List.set_cons_zero, List.set_cons_succ]
        have HBW := Lib.hid (hS.at HBW.out ngB)
        have HEW := Lib.hid (hS.at HEW.out ngE)
        have HW := Lib.hid (Rp.setA HW.out hS (q := ⟨o.c, nb, []⟩) HLv.out HAv.out (by simpa using HM.out) (fun hm => by have h1 : nb < _ := HW.out.fresh _ hm; have := HNB.out; omega) (Nat.le_trans HW.out.tt.size HNB.out))
        clear hS c0 c1 c2 b1 b2 re ng ngB ngE
        clear HLv HAv HM HL0 HA0 HNE HLTX HSZ
        go_upto_region 5 with (fail)
        have HW := Lib.hid (HW.out.touch ((Touch.refl [] y5).drew))
        have HBW := Lib.hid (((Touch.refl [] y5).drew).at HBW.out (by simp))
        have HEW := Lib.hid (((Touch.refl [] y5).drew).at HEW.out (by simp))
        refine wp_region_held (S := Touch [ms] y5.drew) (by kernel_rfl) ?_
        change wpAnyH _ _ _ _ _ _ _ _ y5.drew
        generalize y5.drew = X5 at *
        obtain ⟨c0, c1, c2⟩ := HW.out.cells
        obtain ⟨_, b1, b2, _, _, _, _⟩ := O.cells OKI.out (range_block HBW.out)
        try simp only [Nat.zero_add] at b1 b2
        have re : X5.rangeAt gE 0 (encE (epO o)) := by rw [HEP.out]; exact range_block HEW.out
        have ng : g ∉ [ms] := by simp only [List.mem_cons, List.not_mem_nil, or_false, not_or]; exact HW.out.sh.ne_cells HW.out.hdr
        have ngB : gB ∉ [ms] := by simp only [List.mem_cons, List.not_mem_nil, or_false, not_or]; exact HW.out.sh.ne_cells HBW.out
        have ngE : gE ∉ [ms] := by simp only [List.mem_cons, List.not_mem_nil, or_false, not_or]; exact HW.out.sh.ne_cells HEW.out
        have hS := Touch.refl [ms] X5
        refine wpAnyH_take (i := 0) (oi := { dst := some 27, op := Op.move (Operand.tmp 0), type := 59, pos := "trace.go:59", after := #[], guard := none }) (v := .pointer (some ⟨g, 0, none⟩)) rfl (by kernel_rfl) (by kernel_rfl) (by kernel_rfl) (fun _ _ _ h => h) (Or.inl ⟨by rfl, fun w' hw => by go_simp⟩) hS ?_
        try simp only [Act.put, List.setIfInBounds_toArray, List.set_cons_zero, List.set_cons_succ]
        refine wpAnyH_take (i := 1) (oi := { dst := some 28, op := Op.nilCheck (Operand.tmp 27), type := 0, pos := "trace.go:59", after := #[{ on := 0, ground := Ground.data }], guard := none }) (v := .pointer (some ⟨g, 0, none⟩)) rfl (by kernel_rfl) (by kernel_rfl) (by kernel_rfl) (fun _ _ _ h => h) (Or.inl ⟨by rfl, fun w' hw => by go_simp⟩) hS ?_
        try simp only [Act.put, List.setIfInBounds_toArray, List.set_cons_zero, List.set_cons_succ]
        refine wpAnyH_take (i := 2) (oi := { dst := some 29, op := Op.fieldAddr 69 (Operand.tmp 28) 1, type := 0, pos := "trace.go:59", after := #[{ on := 1, ground := Ground.data }], guard := none }) (v := .pointer (some ⟨g, 1, none⟩)) rfl (by kernel_rfl) (by kernel_rfl) (by kernel_rfl) (fun _ _ _ h => h) (Or.inl ⟨by rfl, fun w' hw => by go_simp⟩) hS ?_
        try simp only [Act.put, List.setIfInBounds_toArray, List.set_cons_zero, List.set_cons_succ]
        refine wpAnyH_take (i := 3) (oi := { dst := some 30, op := Op.load 66 (Operand.tmp 29), type := 66, pos := "trace.go:59", after := #[{ on := 2, ground := Ground.data }], guard := none }) (v := .map (some ms)) rfl (by kernel_rfl) (by kernel_rfl) (by kernel_rfl) (fun _ _ _ h => h) (Or.inl ⟨by rfl, fun w' hw => by (have q := hw.cell c1 ng; go_simp)⟩) hS ?_
        try simp only [Act.put, List.setIfInBounds_toArray, List.set_cons_zero, List.set_cons_succ]
        refine wpAnyH_take (i := 4) (oi := { dst := some 31, op := Op.load 30 (Operand.tmp 4), type := 30, pos := "trace.go:59", after := #[], guard := none }) (v := .agg (encE (epO o)).toArray) rfl (by kernel_rfl) (by kernel_rfl) (by kernel_rfl) (fun _ _ _ h => h) (Or.inl ⟨by rfl, fun w' hw => exec_load_agg _ 30 _ rfl _ _ rfl (encE (epO o)) _ (hw.range re ngE) Try.underlying30 rfl (by rw [infoE]; rfl)⟩) hS ?_
        try simp only [Act.put, List.setIfInBounds_toArray, List.set_cons_zero, List.set_cons_succ]
        refine wpAnyH_ready (rs := [5]) (by kernel_rfl) (by simp) ?_
        refine AllReadyH.cons (o := { dst := none, op := Op.call { callee := Callee.builtin Builtin.delete, args := #[Operand.tmp 30, Operand.tmp 31], argTypes := #[66, 30] }, type := 0, pos := "trace.go:59", after := #[{ on := 3, ground := Ground.data }, { on := 4, ground := Ground.data }], guard := none }) rfl (fun K hK => ?_) AllReadyH.nil
        refine step_of_list rfl ?_
        refine wpList_delete_mp rfl _ _ 66 30 rfl 4 keyK Try.underlying66 HW.out.sh (epO o) HXO.out rfl rfl ?_
        intro z5 hm tm zm
        rw [del_tr] at hm
        have hS2 := hS.trans tm (by intro q hq; exact .inl hq)
        refine ⟨rfl, hK.out _ _ hS2 (fun _ => ?_)⟩
        clear hK K hS
        have hS := hS2
        clear hS2
        clear tm zm
        try simp only [Act.put, List.setIfInBounds_toArray, List.set_cons_zero, List.set_cons_succ]
        refine wpAnyH_done (by kernel_rfl) ?_ _
        try simp only [Act.put, List.setIfInBounds_toArray, List.set_cons_zero, List.set_cons_succ]
        have HBW := Lib.hid (hS.at HBW.out ngB)
        have HEW := Lib.hid (hS.at HEW.out ngE)
        have HW := Lib.hid (HW.out.setS hS hm)
        clear hS c0 c1 c2 b1 b2 re ng ngB ngE
        clear hm
        go_wp2_with fail
        go_end0
        exact ⟨rfl, setAt A ⟨o.c, nb, []⟩, by rw [show applyL live o = addS live (epO o) by simp [applyL, h1], show applyS shut o = delS shut (epO o) by simp [applyS, h1]]; exact HW.out, fun c => by rw [atL_setAt]; simp [applyA, h1]⟩
      · refine step_of_list rfl ?_
        refine wpList_fill_mp rfl _ _ _ 66 30 rfl keyK HLv.out (.bool true) rfl rfl rfl ?_
        intro y2 hp tm zm
        have hS2 := hS.trans tm (by intro q hq; left; simp at hq; simp [hq])
        refine ⟨rfl, hK.out _ _ hS2 (fun _ => ?_)⟩
        clear hK K hS
        have hS := hS2
        clear hS2
        rw [put_tr] at hp
        have HLv := Lib.hid hp
        have HA0 := Lib.hid (HA0.out.touch tm (by simp; exact Ne.symm HNE.out))
        have HSZ := Lib.hid hS.size
        clear hp tm zm
        try simp only [Act.put, List.setIfInBounds_toArray, List.set_cons_zero, List.set_cons_succ]
        refine wpAnyH_ready (rs := [11, 15]) (by kernel_rfl) (by simp) ?_
        refine AllReadyH.cons (o := { dst := some 22, op := Op.makeMap 85 none, type := 85, pos := "trace.go:58", after := #[], guard := none }) rfl (fun K hK => ?_) (AllReadyH.cons (o := { dst := some 25, op := Op.mapEntry 67 (Operand.tmp 19) (Operand.tmp 21), type := 0, pos := "trace.go:58", after := #[{ on := 8, ground := Ground.data }, { on := 10, ground := Ground.data }, { on := 14, ground := Ground.chain }, { on := 0, ground := Ground.phase }, { on := 1, ground := Ground.phase }, { on := 2, ground := Ground.phase }, { on := 3, ground := Ground.phase }, { on := 4, ground := Ground.phase }, { on := 5, ground := Ground.textOnly Departure.tupleMapEntryFirst }, { on := 6, ground := Ground.textOnly Departure.lateStoresUnsure }, { on := 7, ground := Ground.textOnly Departure.lateStoresUnsure }, { on := 8, ground := Ground.phase }, { on := 9, ground := Ground.textOnly Departure.tupleMapEntryFirst }, { on := 10, ground := Ground.textOnly Departure.tupleMapEntryFirst }, { on := 11, ground := Ground.textOnly Departure.lateStoresUnsure }, { on := 12, ground := Ground.phase }, { on := 13, ground := Ground.phase }, { on := 14, ground := Ground.phase }], guard := none }) rfl (fun K hK => ?_) AllReadyH.nil)
        · go_simp
          have hS2 := hS.alloc (.map #[] 0)
          refine hK.out _ _ hS2 (fun _ => ?_)
          clear hK K hS
          have hS := hS2
          clear hS2
          have HM := Lib.hid (Mp.made (enc := encZ) (ok := wf) y2)
          have tn := (Touch.refl [] y2).alloc (.map #[] 0)
          have hnX := hS.size
          have HLv := Lib.hid (HLv.out.touch tn (by simp))
          obtain ⟨nb, hnb⟩ : ∃ nb, nb = y2.heap.size := ⟨_, rfl⟩
          rw [← hnb] at HM ⊢
          have HNB := Lib.hid (show X4.heap.size ≤ nb by rw [hnb]; exact HSZ.out)
          have HA0 := Lib.hid (HA0.out.touch tn (by simp))
          generalize y2.alloc (.map #[] 0) = y3 at *
          clear tn hnb hnX
          have HSZ := Lib.hid hS.size
          try simp only [Act.put, List.setIfInBounds_toArray, List.set_cons_zero, List.set_cons_succ]
          refine wpAnyH_ready (rs := [15]) (by kernel_rfl) (by simp) ?_
          refine AllReadyH.cons (o := { dst := some 25, op := Op.mapEntry 67 (Operand.tmp 19) (Operand.tmp 21), type := 0, pos := "trace.go:58", after := #[{ on := 8, ground := Ground.data }, { on := 10, ground := Ground.data }, { on := 14, ground := Ground.chain }, { on := 0, ground := Ground.phase }, { on := 1, ground := Ground.phase }, { on := 2, ground := Ground.phase }, { on := 3, ground := Ground.phase }, { on := 4, ground := Ground.phase }, { on := 5, ground := Ground.textOnly Departure.tupleMapEntryFirst }, { on := 6, ground := Ground.textOnly Departure.lateStoresUnsure }, { on := 7, ground := Ground.textOnly Departure.lateStoresUnsure }, { on := 8, ground := Ground.phase }, { on := 9, ground := Ground.textOnly Departure.tupleMapEntryFirst }, { on := 10, ground := Ground.textOnly Departure.tupleMapEntryFirst }, { on := 11, ground := Ground.textOnly Departure.lateStoresUnsure }, { on := 12, ground := Ground.phase }, { on := 13, ground := Ground.phase }, { on := 14, ground := Ground.phase }], guard := none }) rfl (fun K hK => ?_) AllReadyH.nil
          refine step_of_list rfl ?_
          refine wpList_entry_mp rfl _ _ 67 3 rfl 85 keyZ Try.underlying67 (zeroM _) HA0.out o.c OKI.out.c rfl rfl ?_
          intro y4 vA stA hp tm zm
          have hS2 := hS.trans tm (by intro q hq; left; simp at hq; simp [hq])
          refine ⟨rfl, hK.out _ _ hS2 (fun _ => ?_)⟩
          clear hK K hS
          have hS := hS2
          clear hS2
          have HAv := Lib.hid hp
          have HLv := Lib.hid (HLv.out.touch tm (by simp; exact HNE.out))
          have HM := Lib.hid (HM.out.touch tm (by simp; have := HLTX.out; have := HNB.out; omega))
          have HSZ := Lib.hid hS.size
          clear hp tm zm
          try simp only [Act.put, List.setIfInBounds_toArray, List.set_cons_zero, List.set_cons_succ]
          refine wpAnyH_take (i := 16) (oi := { dst := some 26, op := Op.extract (Operand.tmp 25) 1, type := 3, pos := "trace.go:58", after := #[{ on := 15, ground := Ground.data }], guard := none }) (v := .int .i64 (stA : Nat)) rfl (by kernel_rfl) (by kernel_rfl) (by kernel_rfl) (fun _ _ _ h => h) (Or.inl ⟨by rfl, fun w' hw => by go_simp⟩) hS ?_
          try simp only [Act.put, List.setIfInBounds_toArray, List.set_cons_zero, List.set_cons_succ]
          refine wpAnyH_ready (rs := [17]) (by kernel_rfl) (by simp) ?_
          refine AllReadyH.cons (o := { dst := none, op := Op.entryStore 67 (Operand.tmp 19) (Operand.tmp 26) (Operand.tmp 22), type := 0, pos := "trace.go:58", after := #[{ on := 8, ground := Ground.data }, { on := 16, ground := Ground.data }, { on := 11, ground := Ground.data }, { on := 15, ground := Ground.chain }, { on := 0, ground := Ground.phase }, { on := 1, ground := Ground.phase }, { on := 2, ground := Ground.phase }, { on := 3, ground := Ground.phase }, { on := 4, ground := Ground.phase }, { on := 5, ground := Ground.phase }, { on := 6, ground := Ground.phase }, { on := 7, ground := Ground.phase }, { on := 8, ground := Ground.phase }, { on := 9, ground := Ground.phase }, { on := 10, ground := Ground.phase }, { on := 11, ground := Ground.phase }, { on := 12, ground := Ground.phase }, { on := 13, ground := Ground.phase }, { on := 14, ground := Ground.phase }, { on := 15, ground := Ground.phase }], guard := none }) rfl (fun K hK => ?_) AllReadyH.nil
          refine step_of_list rfl ?_
          refine wpList_fill_mp rfl _ _ _ 67 3 rfl keyZ HAv.out (.map (some nb)) rfl rfl rfl ?_
          intro y5 hp tm zm
          have hS2 := hS.trans tm (by intro q hq; left; simp at hq; simp [hq])
          refine ⟨rfl, hK.out _ _ hS2 (fun _ => ?_)⟩
          clear hK K hS
          have hS := hS2
          clear hS2
          have hp : Mp encZ wf y5 ma ((setAt A ⟨o.c, nb, []⟩).map atv) := by rw [← put_at]; exact hp
          have HAv := Lib.hid hp
          have HLv := Lib.hid (HLv.out.touch tm (by simp; exact HNE.out))
          have HM := Lib.hid (HM.out.touch tm (by simp; have := HLTX.out; have := HNB.out; omega))
          have HSZ := Lib.hid hS.size
          clear hp tm zm
          try simp only [Act.put, List.setIfInBounds_toArray, List.set_cons_zero, List.set_cons_succ]
          refine wpAnyH_done (by kernel_rfl) ?_ _
          try simp only [Act.put, List.setIfInBounds_toArray, List.set_cons_zero, List.set_cons_succ]
          have HBW := Lib.hid (hS.at HBW.out ngB)
          have HEW := Lib.hid (hS.at HEW.out ngE)
          have HW := Lib.hid (Rp.setA HW.out hS (q := ⟨o.c, nb, []⟩) HLv.out HAv.out (by simpa using HM.out) (fun hm => by have h1 : nb < _ := HW.out.fresh _ hm; have := HNB.out; omega) (Nat.le_trans HW.out.tt.size HNB.out))
          clear hS c0 c1 c2 b1 b2 re ng ngB ngE
          clear HLv HAv HM HL0 HA0 HNE HLTX HSZ
          go_upto_region 5 with (fail)
          have HW := Lib.hid (HW.out.touch ((Touch.refl [] y5).drew))
          have HBW := Lib.hid (((Touch.refl [] y5).drew).at HBW.out (by simp))
          have HEW := Lib.hid (((Touch.refl [] y5).drew).at HEW.out (by simp))
          refine wp_region_held (S := Touch [ms] y5.drew) (by kernel_rfl) ?_
          change wpAnyH _ _ _ _ _ _ _ _ y5.drew
          generalize y5.drew = X5 at *
          obtain ⟨c0, c1, c2⟩ := HW.out.cells
          obtain ⟨_, b1, b2, _, _, _, _⟩ := O.cells OKI.out (range_block HBW.out)
          try simp only [Nat.zero_add] at b1 b2
          have re : X5.rangeAt gE 0 (encE (epO o)) := by rw [HEP.out]; exact range_block HEW.out
          have ng : g ∉ [ms] := by simp only [List.mem_cons, List.not_mem_nil, or_false, not_or]; exact HW.out.sh.ne_cells HW.out.hdr
          have ngB : gB ∉ [ms] := by simp only [List.mem_cons, List.not_mem_nil, or_false, not_or]; exact HW.out.sh.ne_cells HBW.out
          have ngE : gE ∉ [ms] := by simp only [List.mem_cons, List.not_mem_nil, or_false, not_or]; exact HW.out.sh.ne_cells HEW.out
          have hS := Touch.refl [ms] X5
          refine wpAnyH_take (i := 0) (oi := { dst := some 27, op := Op.move (Operand.tmp 0), type := 59, pos := "trace.go:59", after := #[], guard := none }) (v := .pointer (some ⟨g, 0, none⟩)) rfl (by kernel_rfl) (by kernel_rfl) (by kernel_rfl) (fun _ _ _ h => h) (Or.inl ⟨by rfl, fun w' hw => by go_simp⟩) hS ?_
          try simp only [Act.put, List.setIfInBounds_toArray, List.set_cons_zero, List.set_cons_succ]
          refine wpAnyH_take (i := 1) (oi := { dst := some 28, op := Op.nilCheck (Operand.tmp 27), type := 0, pos := "trace.go:59", after := #[{ on := 0, ground := Ground.data }], guard := none }) (v := .pointer (some ⟨g, 0, none⟩)) rfl (by kernel_rfl) (by kernel_rfl) (by kernel_rfl) (fun _ _ _ h => h) (Or.inl ⟨by rfl, fun w' hw => by go_simp⟩) hS ?_
          try simp only [Act.put, List.setIfInBounds_toArray, List.set_cons_zero, List.set_cons_succ]
          refine wpAnyH_take (i := 2) (oi := { dst := some 29, op := Op.fieldAddr 69 (Operand.tmp 28) 1, type := 0, pos := "trace.go:59", after := #[{ on := 1, ground := Ground.data }], guard := none }) (v := .pointer (some ⟨g, 1, none⟩)) rfl (by kernel_rfl) (by kernel_rfl) (by kernel_rfl) (fun _ _ _ h => h) (Or.inl ⟨by rfl, fun w' hw => by go_simp⟩) hS ?_
          try simp only [Act.put, List.setIfInBounds_toArray, List.set_cons_zero, List.set_cons_succ]
          refine wpAnyH_take (i := 3) (oi := { dst := some 30, op := Op.load 66 (Operand.tmp 29), type := 66, pos := "trace.go:59", after := #[{ on := 2, ground := Ground.data }], guard := none }) (v := .map (some ms)) rfl (by kernel_rfl) (by kernel_rfl) (by kernel_rfl) (fun _ _ _ h => h) (Or.inl ⟨by rfl, fun w' hw => by (have q := hw.cell c1 ng; go_simp)⟩) hS ?_
          try simp only [Act.put, List.setIfInBounds_toArray, List.set_cons_zero, List.set_cons_succ]
          refine wpAnyH_take (i := 4) (oi := { dst := some 31, op := Op.load 30 (Operand.tmp 4), type := 30, pos := "trace.go:59", after := #[], guard := none }) (v := .agg (encE (epO o)).toArray) rfl (by kernel_rfl) (by kernel_rfl) (by kernel_rfl) (fun _ _ _ h => h) (Or.inl ⟨by rfl, fun w' hw => exec_load_agg _ 30 _ rfl _ _ rfl (encE (epO o)) _ (hw.range re ngE) Try.underlying30 rfl (by rw [infoE]; rfl)⟩) hS ?_
          try simp only [Act.put, List.setIfInBounds_toArray, List.set_cons_zero, List.set_cons_succ]
          refine wpAnyH_ready (rs := [5]) (by kernel_rfl) (by simp) ?_
          refine AllReadyH.cons (o := { dst := none, op := Op.call { callee := Callee.builtin Builtin.delete, args := #[Operand.tmp 30, Operand.tmp 31], argTypes := #[66, 30] }, type := 0, pos := "trace.go:59", after := #[{ on := 3, ground := Ground.data }, { on := 4, ground := Ground.data }], guard := none }) rfl (fun K hK => ?_) AllReadyH.nil
          refine step_of_list rfl ?_
          refine wpList_delete_mp rfl _ _ 66 30 rfl 4 keyK Try.underlying66 HW.out.sh (epO o) HXO.out rfl rfl ?_
          intro z5 hm tm zm
          rw [del_tr] at hm
          have hS2 := hS.trans tm (by intro q hq; exact .inl hq)
          refine ⟨rfl, hK.out _ _ hS2 (fun _ => ?_)⟩
          clear hK K hS
          have hS := hS2
          clear hS2
          clear tm zm
          try simp only [Act.put, List.setIfInBounds_toArray, List.set_cons_zero, List.set_cons_succ]
          refine wpAnyH_done (by kernel_rfl) ?_ _
          try simp only [Act.put, List.setIfInBounds_toArray, List.set_cons_zero, List.set_cons_succ]
          have HBW := Lib.hid (hS.at HBW.out ngB)
          have HEW := Lib.hid (hS.at HEW.out ngE)
          have HW := Lib.hid (HW.out.setS hS hm)
          clear hS c0 c1 c2 b1 b2 re ng ngB ngE
          clear hm
          go_wp2_with fail
          go_end0
          exact ⟨rfl, setAt A ⟨o.c, nb, []⟩, by rw [show applyL live o = addS live (epO o) by simp [applyL, h1], show applyS shut o = delS shut (epO o) by simp [applyS, h1]]; exact HW.out, fun c => by rw [atL_setAt]; simp [applyA, h1]⟩
        · refine step_of_list rfl ?_
          refine wpList_entry_mp rfl _ _ 67 3 rfl 85 keyZ Try.underlying67 (zeroM _) HA0.out o.c OKI.out.c rfl rfl ?_
          intro y3 vA stA hp tm zm
          have hS2 := hS.trans tm (by intro q hq; left; simp at hq; simp [hq])
          refine ⟨rfl, hK.out _ _ hS2 (fun _ => ?_)⟩
          clear hK K hS
          have hS := hS2
          clear hS2
          have HAv := Lib.hid hp
          have HLv := Lib.hid (HLv.out.touch tm (by simp; exact HNE.out))
          have HSZ := Lib.hid hS.size
          clear hp tm zm
          try simp only [Act.put, List.setIfInBounds_toArray, List.set_cons_zero, List.set_cons_succ]
          refine wpAnyH_take (i := 16) (oi := { dst := some 26, op := Op.extract (Operand.tmp 25) 1, type := 3, pos := "trace.go:58", after := #[{ on := 15, ground := Ground.data }], guard := none }) (v := .int .i64 (stA : Nat)) rfl (by kernel_rfl) (by kernel_rfl) (by kernel_rfl) (fun _ _ _ h => h) (Or.inl ⟨by rfl, fun w' hw => by go_simp⟩) hS ?_
          try simp only [Act.put, List.setIfInBounds_toArray, List.set_cons_zero, List.set_cons_succ]
          refine wpAnyH_ready (rs := [11]) (by kernel_rfl) (by simp) ?_
          refine AllReadyH.cons (o := { dst := some 22, op := Op.makeMap 85 none, type := 85, pos := "trace.go:58", after := #[], guard := none }) rfl (fun K hK => ?_) AllReadyH.nil
          go_simp
          have hS2 := hS.alloc (.map #[] 0)
          refine hK.out _ _ hS2 (fun _ => ?_)
          clear hK K hS
          have hS := hS2
          clear hS2
          have HM := Lib.hid (Mp.made (enc := encZ) (ok := wf) y3)
          have tn := (Touch.refl [] y3).alloc (.map #[] 0)
          have hnX := hS.size
          have HLv := Lib.hid (HLv.out.touch tn (by simp))
          have HAv := Lib.hid (HAv.out.touch tn (by simp))
          obtain ⟨nb, hnb⟩ : ∃ nb, nb = y3.heap.size := ⟨_, rfl⟩
          rw [← hnb] at HM ⊢
          have HNB := Lib.hid (show X4.heap.size ≤ nb by rw [hnb]; exact HSZ.out)
          generalize y3.alloc (.map #[] 0) = y4 at *
          clear tn hnb hnX
          have HSZ := Lib.hid hS.size
          try simp only [Act.put, List.setIfInBounds_toArray, List.set_cons_zero, List.set_cons_succ]
          refine wpAnyH_ready (rs := [17]) (by kernel_rfl) (by simp) ?_
          refine AllReadyH.cons (o := { dst := none, op := Op.entryStore 67 (Operand.tmp 19) (Operand.tmp 26) (Operand.tmp 22), type := 0, pos := "trace.go:58", after := #[{ on := 8, ground := Ground.data }, { on := 16, ground := Ground.data }, { on := 11, ground := Ground.data }, { on := 15, ground := Ground.chain }, { on := 0, ground := Ground.phase }, { on := 1, ground := Ground.phase }, { on := 2, ground := Ground.phase }, { on := 3, ground := Ground.phase }, { on := 4, ground := Ground.phase }, { on := 5, ground := Ground.phase }, { on := 6, ground := Ground.phase }, { on := 7, ground := Ground.phase }, { on := 8, ground := Ground.phase }, { on := 9, ground := Ground.phase }, { on := 10, ground := Ground.phase }, { on := 11, ground := Ground.phase }, { on := 12, ground := Ground.phase }, { on := 13, ground := Ground.phase }, { on := 14, ground := Ground.phase }, { on := 15, ground := Ground.phase }], guard := none }) rfl (fun K hK => ?_) AllReadyH.nil
          refine step_of_list rfl ?_
          refine wpList_fill_mp rfl _ _ _ 67 3 rfl keyZ HAv.out (.map (some nb)) rfl rfl rfl ?_
          intro y5 hp tm zm
          have hS2 := hS.trans tm (by intro q hq; left; simp at hq; simp [hq])
          refine ⟨rfl, hK.out _ _ hS2 (fun _ => ?_)⟩
          clear hK K hS
          have hS := hS2
          clear hS2
          have hp : Mp encZ wf y5 ma ((setAt A ⟨o.c, nb, []⟩).map atv) := by rw [← put_at]; exact hp
          have HAv := Lib.hid hp
          have HLv := Lib.hid (HLv.out.touch tm (by simp; exact HNE.out))
          have HM := Lib.hid (HM.out.touch tm (by simp; have := HLTX.out; have := HNB.out; omega))
          have HSZ := Lib.hid hS.size
          clear hp tm zm
          try simp only [Act.put, List.setIfInBounds_toArray, List.set_cons_zero, List.set_cons_succ]
          refine wpAnyH_done (by kernel_rfl) ?_ _
          try simp only [Act.put, List.setIfInBounds_toArray, List.set_cons_zero, List.set_cons_succ]
          have HBW := Lib.hid (hS.at HBW.out ngB)
          have HEW := Lib.hid (hS.at HEW.out ngE)
          have HW := Lib.hid (Rp.setA HW.out hS (q := ⟨o.c, nb, []⟩) HLv.out HAv.out (by simpa using HM.out) (fun hm => by have h1 : nb < _ := HW.out.fresh _ hm; have := HNB.out; omega) (Nat.le_trans HW.out.tt.size HNB.out))
          clear hS c0 c1 c2 b1 b2 re ng ngB ngE
          clear HLv HAv HM HL0 HA0 HNE HLTX HSZ
          go_upto_region 5 with (fail)
          have HW := Lib.hid (HW.out.touch ((Touch.refl [] y5).drew))
          have HBW := Lib.hid (((Touch.refl [] y5).drew).at HBW.out (by simp))
          have HEW := Lib.hid (((Touch.refl [] y5).drew).at HEW.out (by simp))
          refine wp_region_held (S := Touch [ms] y5.drew) (by kernel_rfl) ?_
          change wpAnyH _ _ _ _ _ _ _ _ y5.drew
          generalize y5.drew = X5 at *
          obtain ⟨c0, c1, c2⟩ := HW.out.cells
          obtain ⟨_, b1, b2, _, _, _, _⟩ := O.cells OKI.out (range_block HBW.out)
          try simp only [Nat.zero_add] at b1 b2
          have re : X5.rangeAt gE 0 (encE (epO o)) := by rw [HEP.out]; exact range_block HEW.out
          have ng : g ∉ [ms] := by simp only [List.mem_cons, List.not_mem_nil, or_false, not_or]; exact HW.out.sh.ne_cells HW.out.hdr
          have ngB : gB ∉ [ms] := by simp only [List.mem_cons, List.not_mem_nil, or_false, not_or]; exact HW.out.sh.ne_cells HBW.out
          have ngE : gE ∉ [ms] := by simp only [List.mem_cons, List.not_mem_nil, or_false, not_or]; exact HW.out.sh.ne_cells HEW.out
          have hS := Touch.refl [ms] X5
          refine wpAnyH_take (i := 0) (oi := { dst := some 27, op := Op.move (Operand.tmp 0), type := 59, pos := "trace.go:59", after := #[], guard := none }) (v := .pointer (some ⟨g, 0, none⟩)) rfl (by kernel_rfl) (by kernel_rfl) (by kernel_rfl) (fun _ _ _ h => h) (Or.inl ⟨by rfl, fun w' hw => by go_simp⟩) hS ?_
          try simp only [Act.put, List.setIfInBounds_toArray, List.set_cons_zero, List.set_cons_succ]
          refine wpAnyH_take (i := 1) (oi := { dst := some 28, op := Op.nilCheck (Operand.tmp 27), type := 0, pos := "trace.go:59", after := #[{ on := 0, ground := Ground.data }], guard := none }) (v := .pointer (some ⟨g, 0, none⟩)) rfl (by kernel_rfl) (by kernel_rfl) (by kernel_rfl) (fun _ _ _ h => h) (Or.inl ⟨by rfl, fun w' hw => by go_simp⟩) hS ?_
          try simp only [Act.put, List.setIfInBounds_toArray, List.set_cons_zero, List.set_cons_succ]
          refine wpAnyH_take (i := 2) (oi := { dst := some 29, op := Op.fieldAddr 69 (Operand.tmp 28) 1, type := 0, pos := "trace.go:59", after := #[{ on := 1, ground := Ground.data }], guard := none }) (v := .pointer (some ⟨g, 1, none⟩)) rfl (by kernel_rfl) (by kernel_rfl) (by kernel_rfl) (fun _ _ _ h => h) (Or.inl ⟨by rfl, fun w' hw => by go_simp⟩) hS ?_
          try simp only [Act.put, List.setIfInBounds_toArray, List.set_cons_zero, List.set_cons_succ]
          refine wpAnyH_take (i := 3) (oi := { dst := some 30, op := Op.load 66 (Operand.tmp 29), type := 66, pos := "trace.go:59", after := #[{ on := 2, ground := Ground.data }], guard := none }) (v := .map (some ms)) rfl (by kernel_rfl) (by kernel_rfl) (by kernel_rfl) (fun _ _ _ h => h) (Or.inl ⟨by rfl, fun w' hw => by (have q := hw.cell c1 ng; go_simp)⟩) hS ?_
          try simp only [Act.put, List.setIfInBounds_toArray, List.set_cons_zero, List.set_cons_succ]
          refine wpAnyH_take (i := 4) (oi := { dst := some 31, op := Op.load 30 (Operand.tmp 4), type := 30, pos := "trace.go:59", after := #[], guard := none }) (v := .agg (encE (epO o)).toArray) rfl (by kernel_rfl) (by kernel_rfl) (by kernel_rfl) (fun _ _ _ h => h) (Or.inl ⟨by rfl, fun w' hw => exec_load_agg _ 30 _ rfl _ _ rfl (encE (epO o)) _ (hw.range re ngE) Try.underlying30 rfl (by rw [infoE]; rfl)⟩) hS ?_
          try simp only [Act.put, List.setIfInBounds_toArray, List.set_cons_zero, List.set_cons_succ]
          refine wpAnyH_ready (rs := [5]) (by kernel_rfl) (by simp) ?_
          refine AllReadyH.cons (o := { dst := none, op := Op.call { callee := Callee.builtin Builtin.delete, args := #[Operand.tmp 30, Operand.tmp 31], argTypes := #[66, 30] }, type := 0, pos := "trace.go:59", after := #[{ on := 3, ground := Ground.data }, { on := 4, ground := Ground.data }], guard := none }) rfl (fun K hK => ?_) AllReadyH.nil
          refine step_of_list rfl ?_
          refine wpList_delete_mp rfl _ _ 66 30 rfl 4 keyK Try.underlying66 HW.out.sh (epO o) HXO.out rfl rfl ?_
          intro z5 hm tm zm
          rw [del_tr] at hm
          have hS2 := hS.trans tm (by intro q hq; exact .inl hq)
          refine ⟨rfl, hK.out _ _ hS2 (fun _ => ?_)⟩
          clear hK K hS
          have hS := hS2
          clear hS2
          clear tm zm
          try simp only [Act.put, List.setIfInBounds_toArray, List.set_cons_zero, List.set_cons_succ]
          refine wpAnyH_done (by kernel_rfl) ?_ _
          try simp only [Act.put, List.setIfInBounds_toArray, List.set_cons_zero, List.set_cons_succ]
          have HBW := Lib.hid (hS.at HBW.out ngB)
          have HEW := Lib.hid (hS.at HEW.out ngE)
          have HW := Lib.hid (HW.out.setS hS hm)
          clear hS c0 c1 c2 b1 b2 re ng ngB ngE
          clear hm
          go_wp2_with fail
          go_end0
          exact ⟨rfl, setAt A ⟨o.c, nb, []⟩, by rw [show applyL live o = addS live (epO o) by simp [applyL, h1], show applyS shut o = delS shut (epO o) by simp [applyS, h1]]; exact HW.out, fun c => by rw [atL_setAt]; simp [applyA, h1]⟩
  have q1 : (o.k == 1) = false := by simp [h1]
  by_cases h4 : o.k = 4
  · have q4 : (o.k == 4) = true := by simp [h4]
    go_upto_region 7 with (fail)
    have HW := Lib.hid (HW.out.touch ((Touch.refl [] W).drew))
    have HBW := Lib.hid (((Touch.refl [] W).drew).at HBW.out (by simp))
    have HEW := Lib.hid (((Touch.refl [] W).drew).at HEW.out (by simp))
    refine wp_region_held (S := Touch [ml] W.drew) (by kernel_rfl) ?_
    change wpAnyH _ _ _ _ _ _ _ _ W.drew
    generalize W.drew = X7 at *
    obtain ⟨c0, c1, c2⟩ := HW.out.cells
    obtain ⟨_, b1, b2, _, _, _, _⟩ := O.cells OKI.out (range_block HBW.out)
    try simp only [Nat.zero_add] at b1 b2
    have re : X7.rangeAt gE 0 (encE (epO o)) := by rw [HEP.out]; exact range_block HEW.out
    have ng : g ∉ [ml] := by simp only [List.mem_cons, List.not_mem_nil, or_false, not_or]; exact HW.out.lv.ne_cells HW.out.hdr
    have ngB : gB ∉ [ml] := by simp only [List.mem_cons, List.not_mem_nil, or_false, not_or]; exact HW.out.lv.ne_cells HBW.out
    have ngE : gE ∉ [ml] := by simp only [List.mem_cons, List.not_mem_nil, or_false, not_or]; exact HW.out.lv.ne_cells HEW.out
    have hS := Touch.refl [ml] X7
    refine wpAnyH_take (i := 0) (oi := { dst := some 34, op := Op.move (Operand.tmp 0), type := 59, pos := "trace.go:61", after := #[], guard := none }) (v := .pointer (some ⟨g, 0, none⟩)) rfl (by kernel_rfl) (by kernel_rfl) (by kernel_rfl) (fun _ _ _ h => h) (Or.inl ⟨by rfl, fun w' hw => by go_simp⟩) hS ?_
    try simp only [Act.put, List.setIfInBounds_toArray, List.set_cons_zero, List.set_cons_succ]
    refine wpAnyH_take (i := 1) (oi := { dst := some 35, op := Op.nilCheck (Operand.tmp 34), type := 0, pos := "trace.go:61", after := #[{ on := 0, ground := Ground.data }], guard := none }) (v := .pointer (some ⟨g, 0, none⟩)) rfl (by kernel_rfl) (by kernel_rfl) (by kernel_rfl) (fun _ _ _ h => h) (Or.inl ⟨by rfl, fun w' hw => by go_simp⟩) hS ?_
    try simp only [Act.put, List.setIfInBounds_toArray, List.set_cons_zero, List.set_cons_succ]
    refine wpAnyH_take (i := 2) (oi := { dst := some 36, op := Op.fieldAddr 69 (Operand.tmp 35) 0, type := 0, pos := "trace.go:61", after := #[{ on := 1, ground := Ground.data }], guard := none }) (v := .pointer (some ⟨g, 0, none⟩)) rfl (by kernel_rfl) (by kernel_rfl) (by kernel_rfl) (fun _ _ _ h => h) (Or.inl ⟨by rfl, fun w' hw => by go_simp⟩) hS ?_
    try simp only [Act.put, List.setIfInBounds_toArray, List.set_cons_zero, List.set_cons_succ]
    refine wpAnyH_take (i := 3) (oi := { dst := some 37, op := Op.load 66 (Operand.tmp 36), type := 66, pos := "trace.go:61", after := #[{ on := 2, ground := Ground.data }], guard := none }) (v := .map (some ml)) rfl (by kernel_rfl) (by kernel_rfl) (by kernel_rfl) (fun _ _ _ h => h) (Or.inl ⟨by rfl, fun w' hw => by (have q := hw.cell c0 ng; go_simp)⟩) hS ?_
    try simp only [Act.put, List.setIfInBounds_toArray, List.set_cons_zero, List.set_cons_succ]
    refine wpAnyH_take (i := 4) (oi := { dst := some 38, op := Op.load 30 (Operand.tmp 4), type := 30, pos := "trace.go:61", after := #[], guard := none }) (v := .agg (encE (epO o)).toArray) rfl (by kernel_rfl) (by kernel_rfl) (by kernel_rfl) (fun _ _ _ h => h) (Or.inl ⟨by rfl, fun w' hw => exec_load_agg _ 30 _ rfl _ _ rfl (encE (epO o)) _ (hw.range re ngE) Try.underlying30 rfl (by rw [infoE]; rfl)⟩) hS ?_
    try simp only [Act.put, List.setIfInBounds_toArray, List.set_cons_zero, List.set_cons_succ]
    refine wpAnyH_ready (rs := [5]) (by kernel_rfl) (by simp) ?_
    refine AllReadyH.cons (o := { dst := none, op := Op.mapUpdate 66 (Operand.tmp 37) (Operand.tmp 38) (Operand.const (Value.bool true)), type := 0, pos := "trace.go:61", after := #[{ on := 3, ground := Ground.data }, { on := 4, ground := Ground.data }, { on := 0, ground := Ground.phase }, { on := 1, ground := Ground.phase }, { on := 2, ground := Ground.phase }, { on := 3, ground := Ground.phase }, { on := 4, ground := Ground.phase }], guard := none }) rfl (fun K hK => ?_) AllReadyH.nil
    refine step_of_list rfl ?_
    refine wpList_update_mp rfl _ _ _ 66 30 rfl 4 keyK Try.underlying66 HW.out.lv (epO o) HXO.out (.bool true) rfl rfl rfl ?_
    intro y7 hm tm zm
    rw [put_tr] at hm
    have hS2 := hS.trans tm (by intro q hq; exact .inl hq)
    refine ⟨rfl, hK.out _ _ hS2 (fun _ => ?_)⟩
    clear hK K hS
    have hS := hS2
    clear hS2
    clear tm zm
    try simp only [Act.put, List.setIfInBounds_toArray, List.set_cons_zero, List.set_cons_succ]
    refine wpAnyH_done (by kernel_rfl) ?_ _
    try simp only [Act.put, List.setIfInBounds_toArray, List.set_cons_zero, List.set_cons_succ]
    have HBW := Lib.hid (hS.at HBW.out ngB)
    have HEW := Lib.hid (hS.at HEW.out ngE)
    have HW := Lib.hid (HW.out.setL hS hm)
    clear hS c0 c1 c2 b1 b2 re ng ngB ngE
    clear hm
    cases hpf : atF A o.c with
    | none =>
      have HNA := Lib.hid hpf
      have HMA := Lib.hid (show mapA A o.c = .map none by simp [mapA, hpf])
      clear hpf
      go_upto_region 8 with (fail)
      have HW := Lib.hid (HW.out.touch ((Touch.refl [] y7).drew))
      have HBW := Lib.hid (((Touch.refl [] y7).drew).at HBW.out (by simp))
      have HEW := Lib.hid (((Touch.refl [] y7).drew).at HEW.out (by simp))
      refine wp_region_held (S := Touch [] y7.drew) (by kernel_rfl) ?_
      change wpAnyH _ _ _ _ _ _ _ _ y7.drew
      generalize y7.drew = X8 at *
      obtain ⟨c0, c1, c2⟩ := HW.out.cells
      obtain ⟨_, b1, b2, _, _, _, _⟩ := O.cells OKI.out (range_block HBW.out)
      try simp only [Nat.zero_add] at b1 b2
      have re : X8.rangeAt gE 0 (encE (epO o)) := by rw [HEP.out]; exact range_block HEW.out
      have ng : g ∉ [] := by simp
      have ngB : gB ∉ [] := by simp
      have ngE : gE ∉ [] := by simp
      have hS := Touch.refl [] X8
      refine wpAnyH_take (i := 0) (oi := { dst := some 39, op := Op.move (Operand.tmp 0), type := 59, pos := "trace.go:62", after := #[], guard := none }) (v := .pointer (some ⟨g, 0, none⟩)) rfl (by kernel_rfl) (by kernel_rfl) (by kernel_rfl) (fun _ _ _ h => h) (Or.inl ⟨by rfl, fun w' hw => by go_simp⟩) hS ?_
      try simp only [Act.put, List.setIfInBounds_toArray, List.set_cons_zero, List.set_cons_succ]
      refine wpAnyH_take (i := 1) (oi := { dst := some 40, op := Op.nilCheck (Operand.tmp 39), type := 0, pos := "trace.go:62", after := #[{ on := 0, ground := Ground.data }], guard := none }) (v := .pointer (some ⟨g, 0, none⟩)) rfl (by kernel_rfl) (by kernel_rfl) (by kernel_rfl) (fun _ _ _ h => h) (Or.inl ⟨by rfl, fun w' hw => by go_simp⟩) hS ?_
      try simp only [Act.put, List.setIfInBounds_toArray, List.set_cons_zero, List.set_cons_succ]
      refine wpAnyH_take (i := 2) (oi := { dst := some 41, op := Op.fieldAddr 69 (Operand.tmp 40) 2, type := 0, pos := "trace.go:62", after := #[{ on := 1, ground := Ground.data }], guard := none }) (v := .pointer (some ⟨g, 2, none⟩)) rfl (by kernel_rfl) (by kernel_rfl) (by kernel_rfl) (fun _ _ _ h => h) (Or.inl ⟨by rfl, fun w' hw => by go_simp⟩) hS ?_
      try simp only [Act.put, List.setIfInBounds_toArray, List.set_cons_zero, List.set_cons_succ]
      refine wpAnyH_take (i := 3) (oi := { dst := some 42, op := Op.load 67 (Operand.tmp 41), type := 67, pos := "trace.go:62", after := #[{ on := 2, ground := Ground.data }], guard := none }) (v := .map (some ma)) rfl (by kernel_rfl) (by kernel_rfl) (by kernel_rfl) (fun _ _ _ h => h) (Or.inl ⟨by rfl, fun w' hw => by (have q := hw.cell c2 ng; go_simp)⟩) hS ?_
      try simp only [Act.put, List.setIfInBounds_toArray, List.set_cons_zero, List.set_cons_succ]
      refine wpAnyH_take (i := 4) (oi := { dst := some 43, op := Op.fieldAddr 36 (Operand.tmp 3) 1, type := 0, pos := "trace.go:62", after := #[], guard := none }) (v := .pointer (some ⟨gB, 1, none⟩)) rfl (by kernel_rfl) (by kernel_rfl) (by kernel_rfl) (fun _ _ _ h => h) (Or.inl ⟨by rfl, fun w' hw => by go_simp⟩) hS ?_
      try simp only [Act.put, List.setIfInBounds_toArray, List.set_cons_zero, List.set_cons_succ]
      refine wpAnyH_take (i := 5) (oi := { dst := some 44, op := Op.load 3 (Operand.tmp 43), type := 3, pos := "trace.go:62", after := #[{ on := 4, ground := Ground.data }], guard := none }) (v := .int .i64 o.c) rfl (by kernel_rfl) (by kernel_rfl) (by kernel_rfl) (fun _ _ _ h => h) (Or.inl ⟨by rfl, fun w' hw => by (have q := hw.cell b1 ngB; go_simp)⟩) hS ?_
      try simp only [Act.put, List.setIfInBounds_toArray, List.set_cons_zero, List.set_cons_succ]
      refine wpAnyH_take (i := 6) (oi := { dst := some 45, op := Op.lookup 67 (Operand.tmp 42) (Operand.tmp 44) false, type := 85, pos := "trace.go:62", after := #[{ on := 3, ground := Ground.data }, { on := 5, ground := Ground.data }], guard := none }) (v := mapA A o.c) rfl (by kernel_rfl) (by kernel_rfl) (by kernel_rfl) (fun _ _ _ h => h) (Or.inl ⟨by rfl, fun w' hw => exec_lookup _ _ _ _ false rfl _ _ rfl rfl _ ((HW.out.touch hw).lookA OKI.out.c)⟩) hS ?_
      try simp only [Act.put, List.setIfInBounds_toArray, List.set_cons_zero, List.set_cons_succ]
      refine wpAnyH_take (i := 7) (oi := { dst := some 46, op := Op.binOp BinOp.eql 85 (Operand.tmp 45) (Operand.const (Value.map none)) 85, type := 4, pos := "trace.go:62", after := #[{ on := 6, ground := Ground.data }], guard := none }) (v := .bool true) rfl (by kernel_rfl) (by kernel_rfl) (by kernel_rfl) (fun _ _ _ h => h) (Or.inl ⟨by rfl, fun w' hw => by rw [HMA.out]; have q := run_eql_map_nil (P := Try.prog) w' 85 _ _ none Try.underlying85; go_simp⟩) hS ?_
      try simp only [Act.put, List.setIfInBounds_toArray, List.set_cons_zero, List.set_cons_succ]
      refine wpAnyH_done (by kernel_rfl) ?_ _
      try simp only [Act.put, List.setIfInBounds_toArray, List.set_cons_zero, List.set_cons_succ]
      have HBW := Lib.hid (hS.at HBW.out ngB)
      have HEW := Lib.hid (hS.at HEW.out ngE)
      have HW := Lib.hid (HW.out.touch hS)
      clear hS c0 c1 c2 b1 b2 re ng ngB ngE
      go_upto_region 9 with (fail)
      have HW := Lib.hid (HW.out.touch ((Touch.refl [] X8).drew))
      have HBW := Lib.hid (((Touch.refl [] X8).drew).at HBW.out (by simp))
      have HEW := Lib.hid (((Touch.refl [] X8).drew).at HEW.out (by simp))
      refine wp_region_held (S := Touch [ma] X8.drew) (by kernel_rfl) ?_
      change wpAnyH _ _ _ _ _ _ _ _ X8.drew
      generalize X8.drew = X9 at *
      obtain ⟨c0, c1, c2⟩ := HW.out.cells
      obtain ⟨_, b1, b2, _, _, _, _⟩ := O.cells OKI.out (range_block HBW.out)
      try simp only [Nat.zero_add] at b1 b2
      have re : X9.rangeAt gE 0 (encE (epO o)) := by rw [HEP.out]; exact range_block HEW.out
      have ng : g ∉ [ma] := by simp only [List.mem_cons, List.not_mem_nil, or_false, not_or]; exact HW.out.av.ne_cells HW.out.hdr
      have ngB : gB ∉ [ma] := by simp only [List.mem_cons, List.not_mem_nil, or_false, not_or]; exact HW.out.av.ne_cells HBW.out
      have ngE : gE ∉ [ma] := by simp only [List.mem_cons, List.not_mem_nil, or_false, not_or]; exact HW.out.av.ne_cells HEW.out
      have hS := Touch.refl [ma] X9
      refine wpAnyH_take (i := 0) (oi := { dst := some 47, op := Op.move (Operand.tmp 0), type := 59, pos := "trace.go:63", after := #[], guard := none }) (v := .pointer (some ⟨g, 0, none⟩)) rfl (by kernel_rfl) (by kernel_rfl) (by kernel_rfl) (fun _ _ _ h => h) (Or.inl ⟨by rfl, fun w' hw => by go_simp⟩) hS ?_
      try simp only [Act.put, List.setIfInBounds_toArray, List.set_cons_zero, List.set_cons_succ]
      refine wpAnyH_take (i := 1) (oi := { dst := some 48, op := Op.nilCheck (Operand.tmp 47), type := 0, pos := "trace.go:63", after := #[{ on := 0, ground := Ground.data }], guard := none }) (v := .pointer (some ⟨g, 0, none⟩)) rfl (by kernel_rfl) (by kernel_rfl) (by kernel_rfl) (fun _ _ _ h => h) (Or.inl ⟨by rfl, fun w' hw => by go_simp⟩) hS ?_
      try simp only [Act.put, List.setIfInBounds_toArray, List.set_cons_zero, List.set_cons_succ]
      refine wpAnyH_take (i := 2) (oi := { dst := some 49, op := Op.fieldAddr 69 (Operand.tmp 48) 2, type := 0, pos := "trace.go:63", after := #[{ on := 1, ground := Ground.data }], guard := none }) (v := .pointer (some ⟨g, 2, none⟩)) rfl (by kernel_rfl) (by kernel_rfl) (by kernel_rfl) (fun _ _ _ h => h) (Or.inl ⟨by rfl, fun w' hw => by go_simp⟩) hS ?_
      try simp only [Act.put, List.setIfInBounds_toArray, List.set_cons_zero, List.set_cons_succ]
      refine wpAnyH_take (i := 3) (oi := { dst := some 50, op := Op.load 67 (Operand.tmp 49), type := 67, pos := "trace.go:63", after := #[{ on := 2, ground := Ground.data }], guard := none }) (v := .map (some ma)) rfl (by kernel_rfl) (by kernel_rfl) (by kernel_rfl) (fun _ _ _ h => h) (Or.inl ⟨by rfl, fun w' hw => by (have q := hw.cell c2 ng; go_simp)⟩) hS ?_
      try simp only [Act.put, List.setIfInBounds_toArray, List.set_cons_zero, List.set_cons_succ]
      refine wpAnyH_take (i := 4) (oi := { dst := some 51, op := Op.fieldAddr 36 (Operand.tmp 3) 1, type := 0, pos := "trace.go:63", after := #[], guard := none }) (v := .pointer (some ⟨gB, 1, none⟩)) rfl (by kernel_rfl) (by kernel_rfl) (by kernel_rfl) (fun _ _ _ h => h) (Or.inl ⟨by rfl, fun w' hw => by go_simp⟩) hS ?_
      try simp only [Act.put, List.setIfInBounds_toArray, List.set_cons_zero, List.set_cons_succ]
      refine wpAnyH_take (i := 5) (oi := { dst := some 52, op := Op.load 3 (Operand.tmp 51), type := 3, pos := "trace.go:63", after := #[{ on := 4, ground := Ground.data }], guard := none }) (v := .int .i64 o.c) rfl (by kernel_rfl) (by kernel_rfl) (by kernel_rfl) (fun _ _ _ h => h) (Or.inl ⟨by rfl, fun w' hw => by (have q := hw.cell b1 ngB; go_simp)⟩) hS ?_
      try simp only [Act.put, List.setIfInBounds_toArray, List.set_cons_zero, List.set_cons_succ]
      refine wpAnyH_ready (rs := [6]) (by kernel_rfl) (by simp) ?_
      refine AllReadyH.cons (o := { dst := some 53, op := Op.makeMap 85 none, type := 85, pos := "trace.go:63", after := #[], guard := none }) rfl (fun K hK => ?_) AllReadyH.nil
      go_simp
      have hS2 := hS.alloc (.map #[] 0)
      refine hK.out _ _ hS2 (fun _ => ?_)
      clear hK K hS
      have hS := hS2
      clear hS2
      have HM := Lib.hid (Mp.made (enc := encZ) (ok := wf) X9)
      have tn := (Touch.refl [] X9).alloc (.map #[] 0)
      have HA0 := Lib.hid (HW.out.av.touch tn (by simp))
      obtain ⟨nb, hnb⟩ : ∃ nb, nb = X9.heap.size := ⟨_, rfl⟩
      rw [← hnb] at HM ⊢
      have HNB := Lib.hid (show X9.heap.size ≤ nb by omega)
      generalize X9.alloc (.map #[] 0) = y8 at *
      clear tn hnb
      try simp only [Act.put, List.setIfInBounds_toArray, List.set_cons_zero, List.set_cons_succ]
      refine wpAnyH_ready (rs := [7]) (by kernel_rfl) (by simp) ?_
      refine AllReadyH.cons (o := { dst := none, op := Op.mapUpdate 67 (Operand.tmp 50) (Operand.tmp 52) (Operand.tmp 53), type := 0, pos := "trace.go:63", after := #[{ on := 3, ground := Ground.data }, { on := 5, ground := Ground.data }, { on := 6, ground := Ground.data }, { on := 0, ground := Ground.phase }, { on := 1, ground := Ground.phase }, { on := 2, ground := Ground.phase }, { on := 3, ground := Ground.phase }, { on := 4, ground := Ground.phase }, { on := 5, ground := Ground.phase }, { on := 6, ground := Ground.phase }], guard := none }) rfl (fun K hK => ?_) AllReadyH.nil
      refine step_of_list rfl ?_
      refine wpList_update_mp rfl _ _ _ 67 3 rfl 85 keyZ Try.underlying67 HA0.out o.c OKI.out.c (.map (some nb)) rfl rfl rfl ?_
      intro y9 hm tm zm
      skip
      have hS2 := hS.trans tm (by intro q hq; exact .inl hq)
      refine ⟨rfl, hK.out _ _ hS2 (fun _ => ?_)⟩
      clear hK K hS
      have hS := hS2
      clear hS2
      have HM := Lib.hid (HM.out.touch tm (by simp; have := HW.out.av.lt; have := HNB.out; omega))
      clear tm zm
      try simp only [Act.put, List.setIfInBounds_toArray, List.set_cons_zero, List.set_cons_succ]
      refine wpAnyH_done (by kernel_rfl) ?_ _
      try simp only [Act.put, List.setIfInBounds_toArray, List.set_cons_zero, List.set_cons_succ]
      have HBW := Lib.hid (hS.at HBW.out ngB)
      have HEW := Lib.hid (hS.at HEW.out ngE)
      have HW := Lib.hid (Rp.setA HW.out (hS.mono (by intro q hq; left; simp at hq; simp [hq])) (q := ⟨o.c, nb, []⟩) (HW.out.lv.touch hS (by simp; exact HW.out.n1.2.2.2.2.1)) (by rw [← put_at]; exact hm) (by simpa using HM.out) (fun hm => by have h1 : nb < _ := HW.out.fresh _ hm; have := HNB.out; omega) (Nat.le_trans HW.out.tt.size HNB.out))
      clear hS c0 c1 c2 b1 b2 re ng ngB ngE
      clear hm HA0 HM
      obtain ⟨p, hp⟩ : ∃ p, p = (⟨o.c, nb, []⟩ : At) := ⟨_, rfl⟩
      have HPF := Lib.hid (show atF (setAt A ⟨o.c, nb, []⟩) o.c = some p by rw [atF_setAt]; simp [hp])
      have HPM := Lib.hid (atF_some HPF.out).1
      have HPE := Lib.hid hp
      clear hp
      go_upto_region 10 with (fail)
      have HW := Lib.hid (HW.out.touch ((Touch.refl [] y9).drew))
      have HBW := Lib.hid (((Touch.refl [] y9).drew).at HBW.out (by simp))
      have HEW := Lib.hid (((Touch.refl [] y9).drew).at HEW.out (by simp))
      refine wp_region_held (S := Touch [p.b] y9.drew) (by kernel_rfl) ?_
      change wpAnyH _ _ _ _ _ _ _ _ y9.drew
      generalize y9.drew = X10 at *
      obtain ⟨c0, c1, c2⟩ := HW.out.cells
      obtain ⟨_, b1, b2, _, _, _, _⟩ := O.cells OKI.out (range_block HBW.out)
      try simp only [Nat.zero_add] at b1 b2
      have re : X10.rangeAt gE 0 (encE (epO o)) := by rw [HEP.out]; exact range_block HEW.out
      have ng : g ∉ [p.b] := by simp only [List.mem_cons, List.not_mem_nil, or_false, not_or]; exact (HW.out.inn p HPM.out).ne_cells HW.out.hdr
      have ngB : gB ∉ [p.b] := by simp only [List.mem_cons, List.not_mem_nil, or_false, not_or]; exact (HW.out.inn p HPM.out).ne_cells HBW.out
      have ngE : gE ∉ [p.b] := by simp only [List.mem_cons, List.not_mem_nil, or_false, not_or]; exact (HW.out.inn p HPM.out).ne_cells HEW.out
      have hS := Touch.refl [p.b] X10
      refine wpAnyH_take (i := 0) (oi := { dst := some 54, op := Op.move (Operand.tmp 0), type := 59, pos := "trace.go:65", after := #[], guard := none }) (v := .pointer (some ⟨g, 0, none⟩)) rfl (by kernel_rfl) (by kernel_rfl) (by kernel_rfl) (fun _ _ _ h => h) (Or.inl ⟨by rfl, fun w' hw => by go_simp⟩) hS ?_
      try simp only [Act.put, List.setIfInBounds_toArray, List.set_cons_zero, List.set_cons_succ]
      refine wpAnyH_take (i := 1) (oi := { dst := some 55, op := Op.nilCheck (Operand.tmp 54), type := 0, pos := "trace.go:65", after := #[{ on := 0, ground := Ground.data }], guard := none }) (v := .pointer (some ⟨g, 0, none⟩)) rfl (by kernel_rfl) (by kernel_rfl) (by kernel_rfl) (fun _ _ _ h => h) (Or.inl ⟨by rfl, fun w' hw => by go_simp⟩) hS ?_
      try simp only [Act.put, List.setIfInBounds_toArray, List.set_cons_zero, List.set_cons_succ]
      refine wpAnyH_take (i := 2) (oi := { dst := some 56, op := Op.fieldAddr 69 (Operand.tmp 55) 2, type := 0, pos := "trace.go:65", after := #[{ on := 1, ground := Ground.data }], guard := none }) (v := .pointer (some ⟨g, 2, none⟩)) rfl (by kernel_rfl) (by kernel_rfl) (by kernel_rfl) (fun _ _ _ h => h) (Or.inl ⟨by rfl, fun w' hw => by go_simp⟩) hS ?_
      try simp only [Act.put, List.setIfInBounds_toArray, List.set_cons_zero, List.set_cons_succ]
      refine wpAnyH_take (i := 3) (oi := { dst := some 57, op := Op.load 67 (Operand.tmp 56), type := 67, pos := "trace.go:65", after := #[{ on := 2, ground := Ground.data }], guard := none }) (v := .map (some ma)) rfl (by kernel_rfl) (by kernel_rfl) (by kernel_rfl) (fun _ _ _ h => h) (Or.inl ⟨by rfl, fun w' hw => by (have q := hw.cell c2 ng; go_simp)⟩) hS ?_
      try simp only [Act.put, List.setIfInBounds_toArray, List.set_cons_zero, List.set_cons_succ]
      refine wpAnyH_take (i := 4) (oi := { dst := some 58, op := Op.fieldAddr 36 (Operand.tmp 3) 1, type := 0, pos := "trace.go:65", after := #[], guard := none }) (v := .pointer (some ⟨gB, 1, none⟩)) rfl (by kernel_rfl) (by kernel_rfl) (by kernel_rfl) (fun _ _ _ h => h) (Or.inl ⟨by rfl, fun w' hw => by go_simp⟩) hS ?_
      try simp only [Act.put, List.setIfInBounds_toArray, List.set_cons_zero, List.set_cons_succ]
      refine wpAnyH_take (i := 5) (oi := { dst := some 59, op := Op.load 3 (Operand.tmp 58), type := 3, pos := "trace.go:65", after := #[{ on := 4, ground := Ground.data }], guard := none }) (v := .int .i64 o.c) rfl (by kernel_rfl) (by kernel_rfl) (by kernel_rfl) (fun _ _ _ h => h) (Or.inl ⟨by rfl, fun w' hw => by (have q := hw.cell b1 ngB; go_simp)⟩) hS ?_
      try simp only [Act.put, List.setIfInBounds_toArray, List.set_cons_zero, List.set_cons_succ]
      refine wpAnyH_take (i := 6) (oi := { dst := some 60, op := Op.lookup 67 (Operand.tmp 57) (Operand.tmp 59) false, type := 85, pos := "trace.go:65", after := #[{ on := 3, ground := Ground.data }, { on := 5, ground := Ground.data }], guard := none }) (v := .map (some p.b)) rfl (by kernel_rfl) (by kernel_rfl) (by kernel_rfl) (fun _ _ _ h => h) (Or.inl ⟨by rfl, fun w' hw => exec_lookup _ _ _ _ false rfl _ _ rfl rfl _ (by have q := HW.out.av.touch hw (by simp; exact Ne.symm (HW.out.n2 p HPM.out).2.2.2); have q := q.lookup keyZ Try.underlying67 (zeroM _) OKI.out.c false; rw [look_at, HPF.out] at q; exact q)⟩) hS ?_
      try simp only [Act.put, List.setIfInBounds_toArray, List.set_cons_zero, List.set_cons_succ]
      refine wpAnyH_take (i := 7) (oi := { dst := some 61, op := Op.fieldAddr 36 (Operand.tmp 3) 2, type := 0, pos := "trace.go:65", after := #[], guard := none }) (v := .pointer (some ⟨gB, 2, none⟩)) rfl (by kernel_rfl) (by kernel_rfl) (by kernel_rfl) (fun _ _ _ h => h) (Or.inl ⟨by rfl, fun w' hw => by go_simp⟩) hS ?_
      try simp only [Act.put, List.setIfInBounds_toArray, List.set_cons_zero, List.set_cons_succ]
      refine wpAnyH_take (i := 8) (oi := { dst := some 62, op := Op.load 3 (Operand.tmp 61), type := 3, pos := "trace.go:65", after := #[{ on := 7, ground := Ground.data }], guard := none }) (v := .int .i64 o.a) rfl (by kernel_rfl) (by kernel_rfl) (by kernel_rfl) (fun _ _ _ h => h) (Or.inl ⟨by rfl, fun w' hw => by (have q := hw.cell b2 ngB; go_simp)⟩) hS ?_
      try simp only [Act.put, List.setIfInBounds_toArray, List.set_cons_zero, List.set_cons_succ]
      refine wpAnyH_ready (rs := [9]) (by kernel_rfl) (by simp) ?_
      refine AllReadyH.cons (o := { dst := none, op := Op.mapUpdate 85 (Operand.tmp 60) (Operand.tmp 62) (Operand.const (Value.bool true)), type := 0, pos := "trace.go:65", after := #[{ on := 6, ground := Ground.data }, { on := 8, ground := Ground.data }, { on := 0, ground := Ground.phase }, { on := 1, ground := Ground.phase }, { on := 2, ground := Ground.phase }, { on := 3, ground := Ground.phase }, { on := 4, ground := Ground.phase }, { on := 5, ground := Ground.phase }, { on := 6, ground := Ground.phase }, { on := 7, ground := Ground.phase }, { on := 8, ground := Ground.phase }], guard := none }) rfl (fun K hK => ?_) AllReadyH.nil
      refine step_of_list rfl ?_
      refine wpList_update_mp rfl _ _ _ 85 3 rfl 4 keyZ Try.underlying85 (HW.out.inn p HPM.out) o.a OKI.out.a (.bool true) rfl rfl rfl ?_
      intro y10 hm tm zm
      rw [put_tr] at hm
      have hS2 := hS.trans tm (by intro q hq; exact .inl hq)
      refine ⟨rfl, hK.out _ _ hS2 (fun _ => ?_)⟩
      clear hK K hS
      have hS := hS2
      clear hS2
      clear tm zm
      try simp only [Act.put, List.setIfInBounds_toArray, List.set_cons_zero, List.set_cons_succ]
      refine wpAnyH_done (by kernel_rfl) ?_ _
      try simp only [Act.put, List.setIfInBounds_toArray, List.set_cons_zero, List.set_cons_succ]
      have HBW := Lib.hid (hS.at HBW.out ngB)
      have HEW := Lib.hid (hS.at HEW.out ngE)
      have HW := Lib.hid (HW.out.setI HPF.out hS hm)
      clear hS c0 c1 c2 b1 b2 re ng ngB ngE
      clear hm
      go_upto_region 11 with (fail)
      have HW := Lib.hid (HW.out.touch ((Touch.refl [] y10).drew))
      have HBW := Lib.hid (((Touch.refl [] y10).drew).at HBW.out (by simp))
      have HEW := Lib.hid (((Touch.refl [] y10).drew).at HEW.out (by simp))
      refine wp_region_held (S := Touch [ms] y10.drew) (by kernel_rfl) ?_
      change wpAnyH _ _ _ _ _ _ _ _ y10.drew
      generalize y10.drew = X11 at *
      obtain ⟨c0, c1, c2⟩ := HW.out.cells
      obtain ⟨_, b1, b2, _, _, _, _⟩ := O.cells OKI.out (range_block HBW.out)
      try simp only [Nat.zero_add] at b1 b2
      have re : X11.rangeAt gE 0 (encE (epO o)) := by rw [HEP.out]; exact range_block HEW.out
      have ng : g ∉ [ms] := by simp only [List.mem_cons, List.not_mem_nil, or_false, not_or]; exact HW.out.sh.ne_cells HW.out.hdr
      have ngB : gB ∉ [ms] := by simp only [List.mem_cons, List.not_mem_nil, or_false, not_or]; exact HW.out.sh.ne_cells HBW.out
      have ngE : gE ∉ [ms] := by simp only [List.mem_cons, List.not_mem_nil, or_false, not_or]; exact HW.out.sh.ne_cells HEW.out
      have hS := Touch.refl [ms] X11
      refine wpAnyH_take (i := 0) (oi := { dst := some 63, op := Op.move (Operand.tmp 0), type := 59, pos := "trace.go:66", after := #[], guard := none }) (v := .pointer (some ⟨g, 0, none⟩)) rfl (by kernel_rfl) (by kernel_rfl) (by kernel_rfl) (fun _ _ _ h => h) (Or.inl ⟨by rfl, fun w' hw => by go_simp⟩) hS ?_
      try simp only [Act.put, List.setIfInBounds_toArray, List.set_cons_zero, List.set_cons_succ]
      refine wpAnyH_take (i := 1) (oi := { dst := some 64, op := Op.nilCheck (Operand.tmp 63), type := 0, pos := "trace.go:66", after := #[{ on := 0, ground := Ground.data }], guard := none }) (v := .pointer (some ⟨g, 0, none⟩)) rfl (by kernel_rfl) (by kernel_rfl) (by kernel_rfl) (fun _ _ _ h => h) (Or.inl ⟨by rfl, fun w' hw => by go_simp⟩) hS ?_
      try simp only [Act.put, List.setIfInBounds_toArray, List.set_cons_zero, List.set_cons_succ]
      refine wpAnyH_take (i := 2) (oi := { dst := some 65, op := Op.fieldAddr 69 (Operand.tmp 64) 1, type := 0, pos := "trace.go:66", after := #[{ on := 1, ground := Ground.data }], guard := none }) (v := .pointer (some ⟨g, 1, none⟩)) rfl (by kernel_rfl) (by kernel_rfl) (by kernel_rfl) (fun _ _ _ h => h) (Or.inl ⟨by rfl, fun w' hw => by go_simp⟩) hS ?_
      try simp only [Act.put, List.setIfInBounds_toArray, List.set_cons_zero, List.set_cons_succ]
      refine wpAnyH_take (i := 3) (oi := { dst := some 66, op := Op.load 66 (Operand.tmp 65), type := 66, pos := "trace.go:66", after := #[{ on := 2, ground := Ground.data }], guard := none }) (v := .map (some ms)) rfl (by kernel_rfl) (by kernel_rfl) (by kernel_rfl) (fun _ _ _ h => h) (Or.inl ⟨by rfl, fun w' hw => by (have q := hw.cell c1 ng; go_simp)⟩) hS ?_
      try simp only [Act.put, List.setIfInBounds_toArray, List.set_cons_zero, List.set_cons_succ]
      refine wpAnyH_take (i := 4) (oi := { dst := some 67, op := Op.load 30 (Operand.tmp 4), type := 30, pos := "trace.go:66", after := #[], guard := none }) (v := .agg (encE (epO o)).toArray) rfl (by kernel_rfl) (by kernel_rfl) (by kernel_rfl) (fun _ _ _ h => h) (Or.inl ⟨by rfl, fun w' hw => exec_load_agg _ 30 _ rfl _ _ rfl (encE (epO o)) _ (hw.range re ngE) Try.underlying30 rfl (by rw [infoE]; rfl)⟩) hS ?_
      try simp only [Act.put, List.setIfInBounds_toArray, List.set_cons_zero, List.set_cons_succ]
      refine wpAnyH_ready (rs := [5]) (by kernel_rfl) (by simp) ?_
      refine AllReadyH.cons (o := { dst := none, op := Op.call { callee := Callee.builtin Builtin.delete, args := #[Operand.tmp 66, Operand.tmp 67], argTypes := #[66, 30] }, type := 0, pos := "trace.go:66", after := #[{ on := 3, ground := Ground.data }, { on := 4, ground := Ground.data }], guard := none }) rfl (fun K hK => ?_) AllReadyH.nil
      refine step_of_list rfl ?_
      refine wpList_delete_mp rfl _ _ 66 30 rfl 4 keyK Try.underlying66 HW.out.sh (epO o) HXO.out rfl rfl ?_
      intro z11 hm tm zm
      rw [del_tr] at hm
      have hS2 := hS.trans tm (by intro q hq; exact .inl hq)
      refine ⟨rfl, hK.out _ _ hS2 (fun _ => ?_)⟩
      clear hK K hS
      have hS := hS2
      clear hS2
      clear tm zm
      try simp only [Act.put, List.setIfInBounds_toArray, List.set_cons_zero, List.set_cons_succ]
      refine wpAnyH_done (by kernel_rfl) ?_ _
      try simp only [Act.put, List.setIfInBounds_toArray, List.set_cons_zero, List.set_cons_succ]
      have HBW := Lib.hid (hS.at HBW.out ngB)
      have HEW := Lib.hid (hS.at HEW.out ngE)
      have HW := Lib.hid (HW.out.setS hS hm)
      clear hS c0 c1 c2 b1 b2 re ng ngB ngE
      clear hm
      go_wp2_with fail
      go_end0
      exact ⟨rfl, addAt (setAt A ⟨o.c, nb, []⟩) o.c o.a, by rw [show applyL live o = addS live (epO o) by simp [applyL, h4], show applyS shut o = delS shut (epO o) by simp [applyS, h4]]; exact HW.out, fun c => by rw [atL_addAt HPF.out, atL_setAt]; by_cases hc : c = o.c <;> simp [applyA, h4, hc, atL, HNA.out]⟩
    | some p =>
      have HMA := Lib.hid (show mapA A o.c = .map (some p.b) by simp [mapA, hpf])
      have HPF := Lib.hid hpf
      have HPM := Lib.hid (atF_some hpf).1
      clear hpf
      go_upto_region 8 with (fail)
      have HW := Lib.hid (HW.out.touch ((Touch.refl [] y7).drew))
      have HBW := Lib.hid (((Touch.refl [] y7).drew).at HBW.out (by simp))
      have HEW := Lib.hid (((Touch.refl [] y7).drew).at HEW.out (by simp))
      refine wp_region_held (S := Touch [] y7.drew) (by kernel_rfl) ?_
      change wpAnyH _ _ _ _ _ _ _ _ y7.drew
      generalize y7.drew = X8 at *
      obtain ⟨c0, c1, c2⟩ := HW.out.cells
      obtain ⟨_, b1, b2, _, _, _, _⟩ := O.cells OKI.out (range_block HBW.out)
      try simp only [Nat.zero_add] at b1 b2
      have re : X8.rangeAt gE 0 (encE (epO o)) := by rw [HEP.out]; exact range_block HEW.out
      have ng : g ∉ [] := by simp
      have ngB : gB ∉ [] := by simp
      have ngE : gE ∉ [] := by simp
      have hS := Touch.refl [] X8
      refine wpAnyH_take (i := 0) (oi := { dst := some 39, op := Op.move (Operand.tmp 0), type := 59, pos := "trace.go:62", after := #[], guard := none }) (v := .pointer (some ⟨g, 0, none⟩)) rfl (by kernel_rfl) (by kernel_rfl) (by kernel_rfl) (fun _ _ _ h => h) (Or.inl ⟨by rfl, fun w' hw => by go_simp⟩) hS ?_
      try simp only [Act.put, List.setIfInBounds_toArray, List.set_cons_zero, List.set_cons_succ]
      refine wpAnyH_take (i := 1) (oi := { dst := some 40, op := Op.nilCheck (Operand.tmp 39), type := 0, pos := "trace.go:62", after := #[{ on := 0, ground := Ground.data }], guard := none }) (v := .pointer (some ⟨g, 0, none⟩)) rfl (by kernel_rfl) (by kernel_rfl) (by kernel_rfl) (fun _ _ _ h => h) (Or.inl ⟨by rfl, fun w' hw => by go_simp⟩) hS ?_
      try simp only [Act.put, List.setIfInBounds_toArray, List.set_cons_zero, List.set_cons_succ]
      refine wpAnyH_take (i := 2) (oi := { dst := some 41, op := Op.fieldAddr 69 (Operand.tmp 40) 2, type := 0, pos := "trace.go:62", after := #[{ on := 1, ground := Ground.data }], guard := none }) (v := .pointer (some ⟨g, 2, none⟩)) rfl (by kernel_rfl) (by kernel_rfl) (by kernel_rfl) (fun _ _ _ h => h) (Or.inl ⟨by rfl, fun w' hw => by go_simp⟩) hS ?_
      try simp only [Act.put, List.setIfInBounds_toArray, List.set_cons_zero, List.set_cons_succ]
      refine wpAnyH_take (i := 3) (oi := { dst := some 42, op := Op.load 67 (Operand.tmp 41), type := 67, pos := "trace.go:62", after := #[{ on := 2, ground := Ground.data }], guard := none }) (v := .map (some ma)) rfl (by kernel_rfl) (by kernel_rfl) (by kernel_rfl) (fun _ _ _ h => h) (Or.inl ⟨by rfl, fun w' hw => by (have q := hw.cell c2 ng; go_simp)⟩) hS ?_
      try simp only [Act.put, List.setIfInBounds_toArray, List.set_cons_zero, List.set_cons_succ]
      refine wpAnyH_take (i := 4) (oi := { dst := some 43, op := Op.fieldAddr 36 (Operand.tmp 3) 1, type := 0, pos := "trace.go:62", after := #[], guard := none }) (v := .pointer (some ⟨gB, 1, none⟩)) rfl (by kernel_rfl) (by kernel_rfl) (by kernel_rfl) (fun _ _ _ h => h) (Or.inl ⟨by rfl, fun w' hw => by go_simp⟩) hS ?_
      try simp only [Act.put, List.setIfInBounds_toArray, List.set_cons_zero, List.set_cons_succ]
      refine wpAnyH_take (i := 5) (oi := { dst := some 44, op := Op.load 3 (Operand.tmp 43), type := 3, pos := "trace.go:62", after := #[{ on := 4, ground := Ground.data }], guard := none }) (v := .int .i64 o.c) rfl (by kernel_rfl) (by kernel_rfl) (by kernel_rfl) (fun _ _ _ h => h) (Or.inl ⟨by rfl, fun w' hw => by (have q := hw.cell b1 ngB; go_simp)⟩) hS ?_
      try simp only [Act.put, List.setIfInBounds_toArray, List.set_cons_zero, List.set_cons_succ]
      refine wpAnyH_take (i := 6) (oi := { dst := some 45, op := Op.lookup 67 (Operand.tmp 42) (Operand.tmp 44) false, type := 85, pos := "trace.go:62", after := #[{ on := 3, ground := Ground.data }, { on := 5, ground := Ground.data }], guard := none }) (v := mapA A o.c) rfl (by kernel_rfl) (by kernel_rfl) (by kernel_rfl) (fun _ _ _ h => h) (Or.inl ⟨by rfl, fun w' hw => exec_lookup _ _ _ _ false rfl _ _ rfl rfl _ ((HW.out.touch hw).lookA OKI.out.c)⟩) hS ?_
      try simp only [Act.put, List.setIfInBounds_toArray, List.set_cons_zero, List.set_cons_succ]
      refine wpAnyH_take (i := 7) (oi := { dst := some 46, op := Op.binOp BinOp.eql 85 (Operand.tmp 45) (Operand.const (Value.map none)) 85, type := 4, pos := "trace.go:62", after := #[{ on := 6, ground := Ground.data }], guard := none }) (v := .bool false) rfl (by kernel_rfl) (by kernel_rfl) (by kernel_rfl) (fun _ _ _ h => h) (Or.inl ⟨by rfl, fun w' hw => by rw [HMA.out]; have q := run_eql_map_nil (P := Try.prog) w' 85 _ _ (some p.b) Try.underlying85; go_simp⟩) hS ?_
      try simp only [Act.put, List.setIfInBounds_toArray, List.set_cons_zero, List.set_cons_succ]
      refine wpAnyH_done (by kernel_rfl) ?_ _
      try simp only [Act.put, List.setIfInBounds_toArray, List.set_cons_zero, List.set_cons_succ]
      have HBW := Lib.hid (hS.at HBW.out ngB)
      have HEW := Lib.hid (hS.at HEW.out ngE)
      have HW := Lib.hid (HW.out.touch hS)
      clear hS c0 c1 c2 b1 b2 re ng ngB ngE
      go_upto_region 10 with (fail)
      have HW := Lib.hid (HW.out.touch ((Touch.refl [] X8).drew))
      have HBW := Lib.hid (((Touch.refl [] X8).drew).at HBW.out (by simp))
      have HEW := Lib.hid (((Touch.refl [] X8).drew).at HEW.out (by simp))
      refine wp_region_held (S := Touch [p.b] X8.drew) (by kernel_rfl) ?_
      change wpAnyH _ _ _ _ _ _ _ _ X8.drew
      generalize X8.drew = X10 at *
      obtain ⟨c0, c1, c2⟩ := HW.out.cells
      obtain ⟨_, b1, b2, _, _, _, _⟩ := O.cells OKI.out (range_block HBW.out)
      try simp only [Nat.zero_add] at b1 b2
      have re : X10.rangeAt gE 0 (encE (epO o)) := by rw [HEP.out]; exact range_block HEW.out
      have ng : g ∉ [p.b] := by simp only [List.mem_cons, List.not_mem_nil, or_false, not_or]; exact (HW.out.inn p HPM.out).ne_cells HW.out.hdr
      have ngB : gB ∉ [p.b] := by simp only [List.mem_cons, List.not_mem_nil, or_false, not_or]; exact (HW.out.inn p HPM.out).ne_cells HBW.out
      have ngE : gE ∉ [p.b] := by simp only [List.mem_cons, List.not_mem_nil, or_false, not_or]; exact (HW.out.inn p HPM.out).ne_cells HEW.out
      have hS := Touch.refl [p.b] X10
      refine wpAnyH_take (i := 0) (oi := { dst := some 54, op := Op.move (Operand.tmp 0), type := 59, pos := "trace.go:65", after := #[], guard := none }) (v := .pointer (some ⟨g, 0, none⟩)) rfl (by kernel_rfl) (by kernel_rfl) (by kernel_rfl) (fun _ _ _ h => h) (Or.inl ⟨by rfl, fun w' hw => by go_simp⟩) hS ?_
      try simp only [Act.put, List.setIfInBounds_toArray, List.set_cons_zero, List.set_cons_succ]
      refine wpAnyH_take (i := 1) (oi := { dst := some 55, op := Op.nilCheck (Operand.tmp 54), type := 0, pos := "trace.go:65", after := #[{ on := 0, ground := Ground.data }], guard := none }) (v := .pointer (some ⟨g, 0, none⟩)) rfl (by kernel_rfl) (by kernel_rfl) (by kernel_rfl) (fun _ _ _ h => h) (Or.inl ⟨by rfl, fun w' hw => by go_simp⟩) hS ?_
      try simp only [Act.put, List.setIfInBounds_toArray, List.set_cons_zero, List.set_cons_succ]
      refine wpAnyH_take (i := 2) (oi := { dst := some 56, op := Op.fieldAddr 69 (Operand.tmp 55) 2, type := 0, pos := "trace.go:65", after := #[{ on := 1, ground := Ground.data }], guard := none }) (v := .pointer (some ⟨g, 2, none⟩)) rfl (by kernel_rfl) (by kernel_rfl) (by kernel_rfl) (fun _ _ _ h => h) (Or.inl ⟨by rfl, fun w' hw => by go_simp⟩) hS ?_
      try simp only [Act.put, List.setIfInBounds_toArray, List.set_cons_zero, List.set_cons_succ]
      refine wpAnyH_take (i := 3) (oi := { dst := some 57, op := Op.load 67 (Operand.tmp 56), type := 67, pos := "trace.go:65", after := #[{ on := 2, ground := Ground.data }], guard := none }) (v := .map (some ma)) rfl (by kernel_rfl) (by kernel_rfl) (by kernel_rfl) (fun _ _ _ h => h) (Or.inl ⟨by rfl, fun w' hw => by (have q := hw.cell c2 ng; go_simp)⟩) hS ?_
      try simp only [Act.put, List.setIfInBounds_toArray, List.set_cons_zero, List.set_cons_succ]
      refine wpAnyH_take (i := 4) (oi := { dst := some 58, op := Op.fieldAddr 36 (Operand.tmp 3) 1, type := 0, pos := "trace.go:65", after := #[], guard := none }) (v := .pointer (some ⟨gB, 1, none⟩)) rfl (by kernel_rfl) (by kernel_rfl) (by kernel_rfl) (fun _ _ _ h => h) (Or.inl ⟨by rfl, fun w' hw => by go_simp⟩) hS ?_
      try simp only [Act.put, List.setIfInBounds_toArray, List.set_cons_zero, List.set_cons_succ]
      refine wpAnyH_take (i := 5) (oi := { dst := some 59, op := Op.load 3 (Operand.tmp 58), type := 3, pos := "trace.go:65", after := #[{ on := 4, ground := Ground.data }], guard := none }) (v := .int .i64 o.c) rfl (by kernel_rfl) (by kernel_rfl) (by kernel_rfl) (fun _ _ _ h => h) (Or.inl ⟨by rfl, fun w' hw => by (have q := hw.cell b1 ngB; go_simp)⟩) hS ?_
      try simp only [Act.put, List.setIfInBounds_toArray, List.set_cons_zero, List.set_cons_succ]
      refine wpAnyH_take (i := 6) (oi := { dst := some 60, op := Op.lookup 67 (Operand.tmp 57) (Operand.tmp 59) false, type := 85, pos := "trace.go:65", after := #[{ on := 3, ground := Ground.data }, { on := 5, ground := Ground.data }], guard := none }) (v := .map (some p.b)) rfl (by kernel_rfl) (by kernel_rfl) (by kernel_rfl) (fun _ _ _ h => h) (Or.inl ⟨by rfl, fun w' hw => exec_lookup _ _ _ _ false rfl _ _ rfl rfl _ (by have q := HW.out.av.touch hw (by simp; exact Ne.symm (HW.out.n2 p HPM.out).2.2.2); have q := q.lookup keyZ Try.underlying67 (zeroM _) OKI.out.c false; rw [look_at, HPF.out] at q; exact q)⟩) hS ?_
      try simp only [Act.put, List.setIfInBounds_toArray, List.set_cons_zero, List.set_cons_succ]
      refine wpAnyH_take (i := 7) (oi := { dst := some 61, op := Op.fieldAddr 36 (Operand.tmp 3) 2, type := 0, pos := "trace.go:65", after := #[], guard := none }) (v := .pointer (some ⟨gB, 2, none⟩)) rfl (by kernel_rfl) (by kernel_rfl) (by kernel_rfl) (fun _ _ _ h => h) (Or.inl ⟨by rfl, fun w' hw => by go_simp⟩) hS ?_
      try simp only [Act.put, List.setIfInBounds_toArray, List.set_cons_zero, List.set_cons_succ]
      refine wpAnyH_take (i := 8) (oi := { dst := some 62, op := Op.load 3 (Operand.tmp 61), type := 3, pos := "trace.go:65", after := #[{ on := 7, ground := Ground.data }], guard := none }) (v := .int .i64 o.a) rfl (by kernel_rfl) (by kernel_rfl) (by kernel_rfl) (fun _ _ _ h => h) (Or.inl ⟨by rfl, fun w' hw => by (have q := hw.cell b2 ngB; go_simp)⟩) hS ?_
      try simp only [Act.put, List.setIfInBounds_toArray, List.set_cons_zero, List.set_cons_succ]
      refine wpAnyH_ready (rs := [9]) (by kernel_rfl) (by simp) ?_
      refine AllReadyH.cons (o := { dst := none, op := Op.mapUpdate 85 (Operand.tmp 60) (Operand.tmp 62) (Operand.const (Value.bool true)), type := 0, pos := "trace.go:65", after := #[{ on := 6, ground := Ground.data }, { on := 8, ground := Ground.data }, { on := 0, ground := Ground.phase }, { on := 1, ground := Ground.phase }, { on := 2, ground := Ground.phase }, { on := 3, ground := Ground.phase }, { on := 4, ground := Ground.phase }, { on := 5, ground := Ground.phase }, { on := 6, ground := Ground.phase }, { on := 7, ground := Ground.phase }, { on := 8, ground := Ground.phase }], guard := none }) rfl (fun K hK => ?_) AllReadyH.nil
      refine step_of_list rfl ?_
      refine wpList_update_mp rfl _ _ _ 85 3 rfl 4 keyZ Try.underlying85 (HW.out.inn p HPM.out) o.a OKI.out.a (.bool true) rfl rfl rfl ?_
      intro y10 hm tm zm
      rw [put_tr] at hm
      have hS2 := hS.trans tm (by intro q hq; exact .inl hq)
      refine ⟨rfl, hK.out _ _ hS2 (fun _ => ?_)⟩
      clear hK K hS
      have hS := hS2
      clear hS2
      clear tm zm
      try simp only [Act.put, List.setIfInBounds_toArray, List.set_cons_zero, List.set_cons_succ]
      refine wpAnyH_done (by kernel_rfl) ?_ _
      try simp only [Act.put, List.setIfInBounds_toArray, List.set_cons_zero, List.set_cons_succ]
      have HBW := Lib.hid (hS.at HBW.out ngB)
      have HEW := Lib.hid (hS.at HEW.out ngE)
      have HW := Lib.hid (HW.out.setI HPF.out hS hm)
      clear hS c0 c1 c2 b1 b2 re ng ngB ngE
      clear hm
      go_upto_region 11 with (fail)
      have HW := Lib.hid (HW.out.touch ((Touch.refl [] y10).drew))
      have HBW := Lib.hid (((Touch.refl [] y10).drew).at HBW.out (by simp))
      have HEW := Lib.hid (((Touch.refl [] y10).drew).at HEW.out (by simp))
      refine wp_region_held (S := Touch [ms] y10.drew) (by kernel_rfl) ?_
      change wpAnyH _ _ _ _ _ _ _ _ y10.drew
      generalize y10.drew = X11 at *
      obtain ⟨c0, c1, c2⟩ := HW.out.cells
      obtain ⟨_, b1, b2, _, _, _, _⟩ := O.cells OKI.out (range_block HBW.out)
      try simp only [Nat.zero_add] at b1 b2
      have re : X11.rangeAt gE 0 (encE (epO o)) := by rw [HEP.out]; exact range_block HEW.out
      have ng : g ∉ [ms] := by simp only [List.mem_cons, List.not_mem_nil, or_false, not_or]; exact HW.out.sh.ne_cells HW.out.hdr
      have ngB : gB ∉ [ms] := by simp only [List.mem_cons, List.not_mem_nil, or_false, not_or]; exact HW.out.sh.ne_cells HBW.out
      have ngE : gE ∉ [ms] := by simp only [List.mem_cons, List.not_mem_nil, or_false, not_or]; exact HW.out.sh.ne_cells HEW.out
      have hS := Touch.refl [ms] X11
      refine wpAnyH_take (i := 0) (oi := { dst := some 63, op := Op.move (Operand.tmp 0), type := 59, pos := "trace.go:66", after := #[], guard := none }) (v := .pointer (some ⟨g, 0, none⟩)) rfl (by kernel_rfl) (by kernel_rfl) (by kernel_rfl) (fun _ _ _ h => h) (Or.inl ⟨by rfl, fun w' hw => by go_simp⟩) hS ?_
      try simp only [Act.put, List.setIfInBounds_toArray, List.set_cons_zero, List.set_cons_succ]
      refine wpAnyH_take (i := 1) (oi := { dst := some 64, op := Op.nilCheck (Operand.tmp 63), type := 0, pos := "trace.go:66", after := #[{ on := 0, ground := Ground.data }], guard := none }) (v := .pointer (some ⟨g, 0, none⟩)) rfl (by kernel_rfl) (by kernel_rfl) (by kernel_rfl) (fun _ _ _ h => h) (Or.inl ⟨by rfl, fun w' hw => by go_simp⟩) hS ?_
      try simp only [Act.put, List.setIfInBounds_toArray, List.set_cons_zero, List.set_cons_succ]
      refine wpAnyH_take (i := 2) (oi := { dst := some 65, op := Op.fieldAddr 69 (Operand.tmp 64) 1, type := 0, pos := "trace.go:66", after := #[{ on := 1, ground := Ground.data }], guard := none }) (v := .pointer (some ⟨g, 1, none⟩)) rfl (by kernel_rfl) (by kernel_rfl) (by kernel_rfl) (fun _ _ _ h => h) (Or.inl ⟨by rfl, fun w' hw => by go_simp⟩) hS ?_
      try simp only [Act.put, List.setIfInBounds_toArray, List.set_cons_zero, List.set_cons_succ]
      refine wpAnyH_take (i := 3) (oi := { dst := some 66, op := Op.load 66 (Operand.tmp 65), type := 66, pos := "trace.go:66", after := #[{ on := 2, ground := Ground.data }], guard := none }) (v := .map (some ms)) rfl (by kernel_rfl) (by kernel_rfl) (by kernel_rfl) (fun _ _ _ h => h) (Or.inl ⟨by rfl, fun w' hw => by (have q := hw.cell c1 ng; go_simp)⟩) hS ?_
      try simp only [Act.put, List.setIfInBounds_toArray, List.set_cons_zero, List.set_cons_succ]
      refine wpAnyH_take (i := 4) (oi := { dst := some 67, op := Op.load 30 (Operand.tmp 4), type := 30, pos := "trace.go:66", after := #[], guard := none }) (v := .agg (encE (epO o)).toArray) rfl (by kernel_rfl) (by kernel_rfl) (by kernel_rfl) (fun _ _ _ h => h) (Or.inl ⟨by rfl, fun w' hw => exec_load_agg _ 30 _ rfl _ _ rfl (encE (epO o)) _ (hw.range re ngE) Try.underlying30 rfl (by rw [infoE]; rfl)⟩) hS ?_
      try simp only [Act.put, List.setIfInBounds_toArray, List.set_cons_zero, List.set_cons_succ]
      refine wpAnyH_ready (rs := [5]) (by kernel_rfl) (by simp) ?_
      refine AllReadyH.cons (o := { dst := none, op := Op.call { callee := Callee.builtin Builtin.delete, args := #[Operand.tmp 66, Operand.tmp 67], argTypes := #[66, 30] }, type := 0, pos := "trace.go:66", after := #[{ on := 3, ground := Ground.data }, { on := 4, ground := Ground.data }], guard := none }) rfl (fun K hK => ?_) AllReadyH.nil
      refine step_of_list rfl ?_
      refine wpList_delete_mp rfl _ _ 66 30 rfl 4 keyK Try.underlying66 HW.out.sh (epO o) HXO.out rfl rfl ?_
      intro z11 hm tm zm
      rw [del_tr] at hm
      have hS2 := hS.trans tm (by intro q hq; exact .inl hq)
      refine ⟨rfl, hK.out _ _ hS2 (fun _ => ?_)⟩
      clear hK K hS
      have hS := hS2
      clear hS2
      clear tm zm
      try simp only [Act.put, List.setIfInBounds_toArray, List.set_cons_zero, List.set_cons_succ]
      refine wpAnyH_done (by kernel_rfl) ?_ _
      try simp only [Act.put, List.setIfInBounds_toArray, List.set_cons_zero, List.set_cons_succ]
      have HBW := Lib.hid (hS.at HBW.out ngB)
      have HEW := Lib.hid (hS.at HEW.out ngE)
      have HW := Lib.hid (HW.out.setS hS hm)
      clear hS c0 c1 c2 b1 b2 re ng ngB ngE
      clear hm
      go_wp2_with fail
      go_end0
      exact ⟨rfl, addAt A o.c o.a, by rw [show applyL live o = addS live (epO o) by simp [applyL, h4], show applyS shut o = delS shut (epO o) by simp [applyS, h4]]; exact HW.out, fun c => by rw [atL_addAt HPF.out]; simp [applyA, h4]⟩
  have q4 : (o.k == 4) = false := by simp [h4]
  by_cases h6 : o.k = 6
  · have q6 : (o.k == 6) = true := by simp [h6]
    go_upto_region 13 with (fail)
    have HW := Lib.hid (HW.out.touch ((Touch.refl [] W).drew))
    have HBW := Lib.hid (((Touch.refl [] W).drew).at HBW.out (by simp))
    have HEW := Lib.hid (((Touch.refl [] W).drew).at HEW.out (by simp))
    refine wp_region_held (S := Touch [ms] W.drew) (by kernel_rfl) ?_
    change wpAnyH _ _ _ _ _ _ _ _ W.drew
    generalize W.drew = X13 at *
    obtain ⟨c0, c1, c2⟩ := HW.out.cells
    obtain ⟨_, b1, b2, _, _, _, _⟩ := O.cells OKI.out (range_block HBW.out)
    try simp only [Nat.zero_add] at b1 b2
    have re : X13.rangeAt gE 0 (encE (epO o)) := by rw [HEP.out]; exact range_block HEW.out
    have ng : g ∉ [ms] := by simp only [List.mem_cons, List.not_mem_nil, or_false, not_or]; exact HW.out.sh.ne_cells HW.out.hdr
    have ngB : gB ∉ [ms] := by simp only [List.mem_cons, List.not_mem_nil, or_false, not_or]; exact HW.out.sh.ne_cells HBW.out
    have ngE : gE ∉ [ms] := by simp only [List.mem_cons, List.not_mem_nil, or_false, not_or]; exact HW.out.sh.ne_cells HEW.out
    have hS := Touch.refl [ms] X13
    refine wpAnyH_take (i := 0) (oi := { dst := some 70, op := Op.move (Operand.tmp 0), type := 59, pos := "trace.go:68", after := #[], guard := none }) (v := .pointer (some ⟨g, 0, none⟩)) rfl (by kernel_rfl) (by kernel_rfl) (by kernel_rfl) (fun _ _ _ h => h) (Or.inl ⟨by rfl, fun w' hw => by go_simp⟩) hS ?_
    try simp only [Act.put, List.setIfInBounds_toArray, List.set_cons_zero, List.set_cons_succ]
    refine wpAnyH_take (i := 1) (oi := { dst := some 71, op := Op.nilCheck (Operand.tmp 70), type := 0, pos := "trace.go:68", after := #[{ on := 0, ground := Ground.data }], guard := none }) (v := .pointer (some ⟨g, 0, none⟩)) rfl (by kernel_rfl) (by kernel_rfl) (by kernel_rfl) (fun _ _ _ h => h) (Or.inl ⟨by rfl, fun w' hw => by go_simp⟩) hS ?_
    try simp only [Act.put, List.setIfInBounds_toArray, List.set_cons_zero, List.set_cons_succ]
    refine wpAnyH_take (i := 2) (oi := { dst := some 72, op := Op.fieldAddr 69 (Operand.tmp 71) 1, type := 0, pos := "trace.go:68", after := #[{ on := 1, ground := Ground.data }], guard := none }) (v := .pointer (some ⟨g, 1, none⟩)) rfl (by kernel_rfl) (by kernel_rfl) (by kernel_rfl) (fun _ _ _ h => h) (Or.inl ⟨by rfl, fun w' hw => by go_simp⟩) hS ?_
    try simp only [Act.put, List.setIfInBounds_toArray, List.set_cons_zero, List.set_cons_succ]
    refine wpAnyH_take (i := 3) (oi := { dst := some 73, op := Op.load 66 (Operand.tmp 72), type := 66, pos := "trace.go:68", after := #[{ on := 2, ground := Ground.data }], guard := none }) (v := .map (some ms)) rfl (by kernel_rfl) (by kernel_rfl) (by kernel_rfl) (fun _ _ _ h => h) (Or.inl ⟨by rfl, fun w' hw => by (have q := hw.cell c1 ng; go_simp)⟩) hS ?_
    try simp only [Act.put, List.setIfInBounds_toArray, List.set_cons_zero, List.set_cons_succ]
    refine wpAnyH_take (i := 4) (oi := { dst := some 74, op := Op.load 30 (Operand.tmp 4), type := 30, pos := "trace.go:68", after := #[], guard := none }) (v := .agg (encE (epO o)).toArray) rfl (by kernel_rfl) (by kernel_rfl) (by kernel_rfl) (fun _ _ _ h => h) (Or.inl ⟨by rfl, fun w' hw => exec_load_agg _ 30 _ rfl _ _ rfl (encE (epO o)) _ (hw.range re ngE) Try.underlying30 rfl (by rw [infoE]; rfl)⟩) hS ?_
    try simp only [Act.put, List.setIfInBounds_toArray, List.set_cons_zero, List.set_cons_succ]
    refine wpAnyH_ready (rs := [5]) (by kernel_rfl) (by simp) ?_
    refine AllReadyH.cons (o := { dst := none, op := Op.mapUpdate 66 (Operand.tmp 73) (Operand.tmp 74) (Operand.const (Value.bool true)), type := 0, pos := "trace.go:68", after := #[{ on := 3, ground := Ground.data }, { on := 4, ground := Ground.data }, { on := 0, ground := Ground.phase }, { on := 1, ground := Ground.phase }, { on := 2, ground := Ground.phase }, { on := 3, ground := Ground.phase }, { on := 4, ground := Ground.phase }], guard := none }) rfl (fun K hK => ?_) AllReadyH.nil
    refine step_of_list rfl ?_
    refine wpList_update_mp rfl _ _ _ 66 30 rfl 4 keyK Try.underlying66 HW.out.sh (epO o) HXO.out (.bool true) rfl rfl rfl ?_
    intro z13 hm tm zm
    rw [put_tr] at hm
    have hS2 := hS.trans tm (by intro q hq; exact .inl hq)
    refine ⟨rfl, hK.out _ _ hS2 (fun _ => ?_)⟩
    clear hK K hS
    have hS := hS2
    clear hS2
    clear tm zm
    try simp only [Act.put, List.setIfInBounds_toArray, List.set_cons_zero, List.set_cons_succ]
    refine wpAnyH_done (by kernel_rfl) ?_ _
    try simp only [Act.put, List.setIfInBounds_toArray, List.set_cons_zero, List.set_cons_succ]
    have HBW := Lib.hid (hS.at HBW.out ngB)
    have HEW := Lib.hid (hS.at HEW.out ngE)
    have HW := Lib.hid (HW.out.setS hS hm)
    clear hS c0 c1 c2 b1 b2 re ng ngB ngE
    clear hm
    go_wp2_with fail
    go_end0
    exact ⟨rfl, A, by rw [show applyL live o = live by simp [applyL, h1, h4, h6], show applyS shut o = addS shut (epO o) by simp [applyS, h1, h4, h6]]; exact HW.out, fun c => by simp [applyA, h1, h4, h6]⟩
  have q6 : (o.k == 6) = false := by simp [h6]
  by_cases h7 : o.k = 7
  · have q7 : (o.k == 7) = true := by simp [h7]
    go_upto_region 15 with (fail)
    have HW := Lib.hid (HW.out.touch ((Touch.refl [] W).drew))
    have HBW := Lib.hid (((Touch.refl [] W).drew).at HBW.out (by simp))
    have HEW := Lib.hid (((Touch.refl [] W).drew).at HEW.out (by simp))
    refine wp_region_held (S := Touch [ml] W.drew) (by kernel_rfl) ?_
    change wpAnyH _ _ _ _ _ _ _ _ W.drew
    generalize W.drew = X15 at *
    obtain ⟨c0, c1, c2⟩ := HW.out.cells
    obtain ⟨_, b1, b2, _, _, _, _⟩ := O.cells OKI.out (range_block HBW.out)
    try simp only [Nat.zero_add] at b1 b2
    have re : X15.rangeAt gE 0 (encE (epO o)) := by rw [HEP.out]; exact range_block HEW.out
    have ng : g ∉ [ml] := by simp only [List.mem_cons, List.not_mem_nil, or_false, not_or]; exact HW.out.lv.ne_cells HW.out.hdr
    have ngB : gB ∉ [ml] := by simp only [List.mem_cons, List.not_mem_nil, or_false, not_or]; exact HW.out.lv.ne_cells HBW.out
    have ngE : gE ∉ [ml] := by simp only [List.mem_cons, List.not_mem_nil, or_false, not_or]; exact HW.out.lv.ne_cells HEW.out
    have hS := Touch.refl [ml] X15
    refine wpAnyH_take (i := 0) (oi := { dst := some 77, op := Op.move (Operand.tmp 0), type := 59, pos := "trace.go:70", after := #[], guard := none }) (v := .pointer (some ⟨g, 0, none⟩)) rfl (by kernel_rfl) (by kernel_rfl) (by kernel_rfl) (fun _ _ _ h => h) (Or.inl ⟨by rfl, fun w' hw => by go_simp⟩) hS ?_
    try simp only [Act.put, List.setIfInBounds_toArray, List.set_cons_zero, List.set_cons_succ]
    refine wpAnyH_take (i := 1) (oi := { dst := some 78, op := Op.nilCheck (Operand.tmp 77), type := 0, pos := "trace.go:70", after := #[{ on := 0, ground := Ground.data }], guard := none }) (v := .pointer (some ⟨g, 0, none⟩)) rfl (by kernel_rfl) (by kernel_rfl) (by kernel_rfl) (fun _ _ _ h => h) (Or.inl ⟨by rfl, fun w' hw => by go_simp⟩) hS ?_
    try simp only [Act.put, List.setIfInBounds_toArray, List.set_cons_zero, List.set_cons_succ]
    refine wpAnyH_take (i := 2) (oi := { dst := some 79, op := Op.fieldAddr 69 (Operand.tmp 78) 0, type := 0, pos := "trace.go:70", after := #[{ on := 1, ground := Ground.data }], guard := none }) (v := .pointer (some ⟨g, 0, none⟩)) rfl (by kernel_rfl) (by kernel_rfl) (by kernel_rfl) (fun _ _ _ h => h) (Or.inl ⟨by rfl, fun w' hw => by go_simp⟩) hS ?_
    try simp only [Act.put, List.setIfInBounds_toArray, List.set_cons_zero, List.set_cons_succ]
    refine wpAnyH_take (i := 3) (oi := { dst := some 80, op := Op.load 66 (Operand.tmp 79), type := 66, pos := "trace.go:70", after := #[{ on := 2, ground := Ground.data }], guard := none }) (v := .map (some ml)) rfl (by kernel_rfl) (by kernel_rfl) (by kernel_rfl) (fun _ _ _ h => h) (Or.inl ⟨by rfl, fun w' hw => by (have q := hw.cell c0 ng; go_simp)⟩) hS ?_
    try simp only [Act.put, List.setIfInBounds_toArray, List.set_cons_zero, List.set_cons_succ]
    refine wpAnyH_take (i := 4) (oi := { dst := some 81, op := Op.load 30 (Operand.tmp 4), type := 30, pos := "trace.go:70", after := #[], guard := none }) (v := .agg (encE (epO o)).toArray) rfl (by kernel_rfl) (by kernel_rfl) (by kernel_rfl) (fun _ _ _ h => h) (Or.inl ⟨by rfl, fun w' hw => exec_load_agg _ 30 _ rfl _ _ rfl (encE (epO o)) _ (hw.range re ngE) Try.underlying30 rfl (by rw [infoE]; rfl)⟩) hS ?_
    try simp only [Act.put, List.setIfInBounds_toArray, List.set_cons_zero, List.set_cons_succ]
    refine wpAnyH_ready (rs := [5]) (by kernel_rfl) (by simp) ?_
    refine AllReadyH.cons (o := { dst := none, op := Op.call { callee := Callee.builtin Builtin.delete, args := #[Operand.tmp 80, Operand.tmp 81], argTypes := #[66, 30] }, type := 0, pos := "trace.go:70", after := #[{ on := 3, ground := Ground.data }, { on := 4, ground := Ground.data }], guard := none }) rfl (fun K hK => ?_) AllReadyH.nil
    refine step_of_list rfl ?_
    refine wpList_delete_mp rfl _ _ 66 30 rfl 4 keyK Try.underlying66 HW.out.lv (epO o) HXO.out rfl rfl ?_
    intro z15 hm tm zm
    rw [del_tr] at hm
    have hS2 := hS.trans tm (by intro q hq; exact .inl hq)
    refine ⟨rfl, hK.out _ _ hS2 (fun _ => ?_)⟩
    clear hK K hS
    have hS := hS2
    clear hS2
    clear tm zm
    try simp only [Act.put, List.setIfInBounds_toArray, List.set_cons_zero, List.set_cons_succ]
    refine wpAnyH_done (by kernel_rfl) ?_ _
    try simp only [Act.put, List.setIfInBounds_toArray, List.set_cons_zero, List.set_cons_succ]
    have HBW := Lib.hid (hS.at HBW.out ngB)
    have HEW := Lib.hid (hS.at HEW.out ngE)
    have HW := Lib.hid (HW.out.setL hS hm)
    clear hS c0 c1 c2 b1 b2 re ng ngB ngE
    clear hm
    go_wp2_with fail
    go_end0
    exact ⟨rfl, A, by rw [show applyL live o = delS live (epO o) by simp [applyL, h1, h4, h7], show applyS shut o = shut by simp [applyS, h1, h4, h7]]; exact HW.out, fun c => by simp [applyA, h1, h4, h7]⟩
  have q7 : (o.k == 7) = false := by simp [h7]
  go_wp2_with fail
  go_end0
  exact ⟨rfl, A, by rw [show applyL live o = live by simp [applyL, h1, h4, h6, h7], show applyS shut o = shut by simp [applyS, h1, h4, h6, h7]]; exact HW.out, fun c => by simp [applyA, h1, h4, h6, h7]⟩
end Go.Proofs.Ytmdnkhpkpmbeoaa

/-
  The contract of the Addr heap's 'set'.
-/
import Derived.Test.YtpbabdoecjlifaaHsA
import Derived.Test.YtpbabdoecjlifaaRec5
import Derived.Test.YtpbabdoecjlifaaRec3
namespace Go.Proofs.Ytpbabdoecjlifaa.A
open Go.RowKit
set_option linter.unusedVariables false
set_option linter.unusedSimpArgs false

theorem exec_load_agg {P : Program} {a : Act} {w : World} (op : Oper) (ty : TypeId) (x : Operand) (ho : op.op = .load ty x)
    (b o : Nat) (hx : a.eval x = .pointer (some ⟨b, o, none⟩)) (cs : List Value) (d : TypeDesc) (hc : w.rangeAt b o cs)
    (hu : P.underlying ty = some d) (hd : d.isRow = true) (hi : (P.info? ty).map (·.size) = some cs.length) : (execOp a.eval op).run P w = .ok (.value (.agg cs.toArray)) w := by
  unfold execOp
  simp only [ho, hx, Instr.loadAt, Instr.sureAddr, Sem.run_bind, Sem.run_pure, Result.andThen_ok, run_loadVar_mid w b o ty cs d hc hu hd hi]
theorem cellAt {w : World} {b k : Nat} {cs : Array Value} {T : TypeId} {u : Nat × Nat} {v : Value} (h : w.heap[b]? = some (.cells cs T u)) (hv : cs[k]? = some v) : w.cell? ⟨b, k, none⟩ = some v := by
  rw [cell_of_row _ _ _ _ _ _ h]
  exact hv
theorem wpList_putI {w : World} {hm : Nat} {kv : List (Int × Value)} {o : Oper} {ops : Array Oper} {rest : List Oper} {a : Act} {Q : Exit → Act → World → Prop} (hg : o.guard = none) (y x u : Operand) (hop : o.op = .mapUpdate 72 y x u)
    (h : Mp encK okK w hm kv) (c : Int) (hc : okK c) (v : Value) (hy : a.eval y = .map (some hm)) (hx : a.eval x = .int .i64 c) (hu : a.eval u = v) (hv : ∃ n, v = .int .i64 n)
    (hK : ∀ w', Mp encK okK w' hm (put kv c v) → Touch [hm] w w' → w'.heap.size = w.heap.size → wpList Try.prog ops Q rest (a.put o.dst undef) w') : wpList Try.prog ops Q (o :: rest) a w := by
  obtain ⟨n, rfl⟩ := hv
  refine wpList_plain hg fun K' hK' => ?_
  obtain ⟨w', hrun, r1, r2, r3⟩ := h.store key3 Try.underlying72 hc (.int .i64 n)
  simp only [encK] at hrun
  unfold Oper.wp
  simp [execOp, hop, hy, hx, hu, hrun, Result.andThen]
  exact hK' _ _ (hK w' r1 r2 r3)
theorem Hp.set {w w2 w3 : World} {h m g n c : Nat} {its : List Itm} {kv : List (Int × Value)} {last : Int} (k : Hp w h m (.slice (some ⟨g, 0, none⟩) n c) its kv last) {i : Nat} {it : Itm} (hi : i < its.length) (h1 : Ok1 it) (h2 : okK it.id) (t1 : Touch [g] w w2)
    (row : w2.ownsRow 0 95 19 (.slice (some ⟨g, 0, none⟩) n c) n ((its.map encA).flatten.take (i * 19) ++ encA it ++ (its.map encA).flatten.drop (i * 19 + 19)))
    (hmp : Mp encK okK w3 m (put kv it.id (.int .i64 i))) (t3 : Touch [m] w2 w3) :
    Hp w3 h m (.slice (some ⟨g, 0, none⟩) n c) (its.set i it) (put kv it.id (.int .i64 i)) last ∧ Touch [m, g] w w3 := by
  have hg1 : g ≠ h := fun e => k.hv.1 (by rw [e]; rfl)
  have hg2 : g ≠ m := fun e => k.hv.2 (by rw [e]; rfl)
  have hn : n = its.length := by
    obtain ⟨a', c', hv, _⟩ := owns_form k.row
    simp at hv
    exact hv.2.1
  subst hn
  rw [← rows_set 19 (encA it) (its.map encA) i (encA_len k.one) (by simpa using hi), ← List.map_set] at row
  have T : Touch [m, g] w w3 := (t1.mono (S' := [m, g]) (by simp)).trans t3 (by simp)
  refine ⟨⟨?_, ?_, hmp, ?_, ?_, k.hm, k.hv, by rw [List.length_set]; exact k.few⟩, T⟩
  · exact T.at k.hdr (by simp; exact ⟨k.hm, Ne.symm hg1⟩)
  · rw [List.length_set]
    exact t3.owns row (by intro g2 hg2'; simp [Value.ownBlock] at hg2'; subst hg2'; simpa using hg2)
  · intro y hy
    rcases List.mem_or_eq_of_mem_set hy with hy | rfl
    · exact k.one y hy
    · exact h1
  · intro y hy
    rcases List.mem_or_eq_of_mem_set hy with hy | rfl
    · exact k.oks y hy
    · exact h2
theorem end0 {P : Program} {fn : Func} {R : Ending → World → Prop} {a : Act} {w : World} (hr : fn.results = #[]) (hd : a.defers = []) (hR : R (.returned (.tuple #[])) w) : bodyPost P fn R .normal a w :=
  bodyPost_end (v := .tuple #[]) (by simp [results, hr]) hd hR
set_option maxRecDepth 100000 in
set_option maxHeartbeats 2000000 in
theorem set_any (h m : Nat) (v : Value) (its : List Itm) (kv : List (Int × Value)) (last : Int) (i : Nat) (it : Itm) (w : World) (k : Hp w h m v its kv last) (hi : i < its.length) (h1 : Ok1 it) (h2 : okK it.id) :
    Calls Try.prog 73 #[.pointer (some ⟨h, 0, none⟩), .int .i64 i, .agg (encA it).toArray] w fun e w' => e = .returned (.tuple #[]) ∧ Hp w' h m v (its.set i it) (put kv it.id (.int .i64 i)) last ∧ Touch (m :: v.ownBlock.toList) w w' := by
  obtain ⟨av, cv, rfl, hv1, hv2, hv3⟩ := k.form
  obtain ⟨g, rfl, hgh, hgm⟩ := hv3 (by omega)
  have HT := Lib.hid ((Touch.refl [] w).alloc (.cells (encA it).toArray 95))
  have HG := Lib.hid (heap_alloc_new w (.cells (encA it).toArray 95))
  have HK := Lib.hid (k.touch HT.out (by simp))
  have HBg := Lib.hid (show w.heap.size ≠ g from fun e => by have := (k.row.lt g rfl).2; omega)
  have HBm := Lib.hid (show w.heap.size ≠ m from fun e => by have := k.mp.lt; omega)
  have HL := Lib.hid (show (its.map encA).flatten.length = its.length * 19 by rw [flat_len (encA_len k.one), List.length_map])
  have H1 := Lib.hid h1
  have hii : (i : Int) < (its.length : Int) := by omega
  clear k hv3 h1
  go_enter Try.func73, Try.ntmps73
  go_wp2_with fail
  generalize w.alloc (.cells (encA it).toArray 95) = W at *
  generalize w.heap.size = B at *
  refine wp_region_held (S := Touch [g] W.drew) (by kernel_rfl) ?_
  change wpAnyH _ _ _ _ _ _ _ _ W.drew
  have tD := (Touch.refl [] W).drew
  have HKX := Lib.hid (HK.out.touch tD (by simp))
  have HGX := Lib.hid (tD.at HG.out (by simp))
  have HRX := Lib.hid (range_block HGX.out)
  have HTD := Lib.hid tD
  generalize W.drew = X at *
  clear tD HG
  have hS := Touch.refl [g] X
  obtain ⟨c0, _, _⟩ := HKX.out.cells
  refine wpAnyH_take (i := 0) (oi := { dst := some 6, op := Op.move (Operand.tmp 0), type := 55, pos := "heap.go:33", after := #[], guard := none }) (v := .pointer (some ⟨h, 0, none⟩)) rfl (by kernel_rfl) (by kernel_rfl) (by kernel_rfl) (fun _ _ _ h => h) (Or.inl ⟨by rfl, fun w' hw => by go_simp⟩) hS ?_
  try simp only [Act.put, List.setIfInBounds_toArray, List.set_cons_zero, List.set_cons_succ]
  refine wpAnyH_take (i := 1) (oi := { dst := some 7, op := Op.nilCheck (Operand.tmp 6), type := 0, pos := "heap.go:33", after := #[{ on := 0, ground := Ground.data }], guard := none }) (v := .pointer (some ⟨h, 0, none⟩)) rfl (by kernel_rfl) (by kernel_rfl) (by kernel_rfl) (fun _ _ _ h => h) (Or.inl ⟨by rfl, fun w' hw => by go_simp⟩) hS ?_
  try simp only [Act.put, List.setIfInBounds_toArray, List.set_cons_zero, List.set_cons_succ]
  refine wpAnyH_take (i := 2) (oi := { dst := some 8, op := Op.fieldAddr 90 (Operand.tmp 7) 0, type := 0, pos := "heap.go:33", after := #[{ on := 1, ground := Ground.data }], guard := none }) (v := .pointer (some ⟨h, 0, none⟩)) rfl (by kernel_rfl) (by kernel_rfl) (by kernel_rfl) (fun _ _ _ h => h) (Or.inl ⟨by rfl, fun w' hw => by go_simp⟩) hS ?_
  try simp only [Act.put, List.setIfInBounds_toArray, List.set_cons_zero, List.set_cons_succ]
  refine wpAnyH_take (i := 3) (oi := { dst := some 9, op := Op.load 88 (Operand.tmp 8), type := 88, pos := "heap.go:33", after := #[{ on := 2, ground := Ground.data }], guard := none }) (v := .slice (some ⟨g, 0, none⟩) its.length cv) rfl (by kernel_rfl) (by kernel_rfl) (by kernel_rfl) (fun _ _ _ h => h) (Or.inl ⟨by rfl, fun w' hw => by (have q := hw.cell c0 (by simpa using Ne.symm hgh); go_simp)⟩) hS ?_
  try simp only [Act.put, List.setIfInBounds_toArray, List.set_cons_zero, List.set_cons_succ]
  refine wpAnyH_take (i := 4) (oi := { dst := some 10, op := Op.move (Operand.tmp 1), type := 3, pos := "heap.go:33", after := #[], guard := none }) (v := .int .i64 i) rfl (by kernel_rfl) (by kernel_rfl) (by kernel_rfl) (fun _ _ _ h => h) (Or.inl ⟨by rfl, fun w' hw => by go_simp⟩) hS ?_
  try simp only [Act.put, List.setIfInBounds_toArray, List.set_cons_zero, List.set_cons_succ]
  refine wpAnyH_take (i := 5) (oi := { dst := some 11, op := Op.load 95 (Operand.tmp 5), type := 95, pos := "heap.go:33", after := #[], guard := none }) (v := .agg (encA it).toArray) rfl (by kernel_rfl) (by kernel_rfl) (by kernel_rfl) (fun _ _ _ h => h) (Or.inl ⟨by rfl, fun w' hw => exec_load_agg _ 95 _ rfl _ _ rfl (encA it) _ (hw.range HRX.out (by simpa using HBg.out)) Try.underlying95 rfl (by rw [infoA, H1.out.enc])⟩) hS ?_
  try simp only [Act.put, List.setIfInBounds_toArray, List.set_cons_zero, List.set_cons_succ]
  refine wpAnyH_take (i := 6) (oi := { dst := some 12, op := Op.indexAddr 88 (Operand.tmp 9) (Operand.tmp 10), type := 0, pos := "heap.go:33", after := #[{ on := 3, ground := Ground.data }, { on := 4, ground := Ground.data }, { on := 0, ground := Ground.phase }, { on := 1, ground := Ground.phase }, { on := 2, ground := Ground.phase }, { on := 3, ground := Ground.phase }, { on := 4, ground := Ground.phase }, { on := 5, ground := Ground.phase }], guard := none }) (v := .pointer (some ⟨g, i * 19, none⟩)) rfl (by kernel_rfl) (by kernel_rfl) (by kernel_rfl) (fun _ _ _ h => h) (Or.inl ⟨by rfl, fun w' hw => by (have q0 := hii; have q1 := hi; go_simp)⟩) hS ?_
  try simp only [Act.put, List.setIfInBounds_toArray, List.set_cons_zero, List.set_cons_succ]
  refine wpAnyH_ready (rs := [7]) (by kernel_rfl) (by simp) ?_
  refine AllReadyH.cons (o := { dst := none, op := Op.store 95 (Operand.tmp 12) (Operand.tmp 11), type := 0, pos := "heap.go:33", after := #[{ on := 6, ground := Ground.data }, { on := 5, ground := Ground.data }, { on := 0, ground := Ground.phase }, { on := 1, ground := Ground.phase }, { on := 2, ground := Ground.phase }, { on := 3, ground := Ground.phase }, { on := 4, ground := Ground.phase }, { on := 5, ground := Ground.phase }], guard := none }) rfl (fun K hK => ?_) AllReadyH.nil
  refine step_of_list rfl ?_
  refine wpList_store_own rfl 95 _ _ rfl g (i * 19) its.length cv 95 19 _ (encA it) (HKX.out.row) rfl rfl (by rw [HL.out, H1.out.enc]; omega) (by rw [infoA, H1.out.enc]) H1.out.cells ?_
  intro w2 row2 t2 z2
  have hS2 := hS.trans t2 (fun y hy => .inl hy)
  refine ⟨rfl, hK.out _ _ hS2 (fun _ => ?_)⟩
  clear hK K hS
  have hS := hS2
  clear hS2
  try simp only [Act.put, List.setIfInBounds_toArray, List.set_cons_zero, List.set_cons_succ]
  refine wpAnyH_done (by kernel_rfl) ?_ _
  try simp only [Act.put, List.setIfInBounds_toArray, List.set_cons_zero, List.set_cons_succ]
  go_wp2_with fail
  rw [H1.out.enc] at row2
  have HT2 := Lib.hid t2
  have HR2 := Lib.hid row2
  have HG2 := Lib.hid (t2.at HGX.out (by simpa using HBg.out))
  have HM2 := Lib.hid (HKX.out.mp.touch t2 (by simpa using Ne.symm hgm))
  have HC2 := Lib.hid (t2.cell HKX.out.cells.2.1 (by simpa using Ne.symm hgh))
  clear row2 z2 hS c0
  refine wp_region_held (S := Touch [m] w2.drew) (by kernel_rfl) ?_
  change wpAnyH _ _ _ _ _ _ _ _ w2.drew
  have tE := (Touch.refl [] w2).drew
  have c1 := tE.cell HC2.out (by simp)
  have b0 : w2.drew.cell? ⟨B, 0, none⟩ = some (.int .i64 it.id) := cellAt (tE.at HG2.out (by simp)) rfl
  have HM3 := Lib.hid (HM2.out.touch tE (by simp))
  have HTE := Lib.hid tE
  generalize w2.drew = Y at *
  clear tE
  have hS := Touch.refl [m] Y
  refine wpAnyH_take (i := 0) (oi := { dst := some 13, op := Op.move (Operand.tmp 0), type := 55, pos := "heap.go:34", after := #[], guard := none }) (v := .pointer (some ⟨h, 0, none⟩)) rfl (by kernel_rfl) (by kernel_rfl) (by kernel_rfl) (fun _ _ _ h => h) (Or.inl ⟨by rfl, fun w' hw => by go_simp⟩) hS ?_
  try simp only [Act.put, List.setIfInBounds_toArray, List.set_cons_zero, List.set_cons_succ]
  refine wpAnyH_take (i := 1) (oi := { dst := some 14, op := Op.nilCheck (Operand.tmp 13), type := 0, pos := "heap.go:34", after := #[{ on := 0, ground := Ground.data }], guard := none }) (v := .pointer (some ⟨h, 0, none⟩)) rfl (by kernel_rfl) (by kernel_rfl) (by kernel_rfl) (fun _ _ _ h => h) (Or.inl ⟨by rfl, fun w' hw => by go_simp⟩) hS ?_
  try simp only [Act.put, List.setIfInBounds_toArray, List.set_cons_zero, List.set_cons_succ]
  refine wpAnyH_take (i := 2) (oi := { dst := some 15, op := Op.fieldAddr 90 (Operand.tmp 14) 1, type := 0, pos := "heap.go:34", after := #[{ on := 1, ground := Ground.data }], guard := none }) (v := .pointer (some ⟨h, 1, none⟩)) rfl (by kernel_rfl) (by kernel_rfl) (by kernel_rfl) (fun _ _ _ h => h) (Or.inl ⟨by rfl, fun w' hw => by go_simp⟩) hS ?_
  try simp only [Act.put, List.setIfInBounds_toArray, List.set_cons_zero, List.set_cons_succ]
  refine wpAnyH_take (i := 3) (oi := { dst := some 16, op := Op.load 72 (Operand.tmp 15), type := 72, pos := "heap.go:34", after := #[{ on := 2, ground := Ground.data }], guard := none }) (v := .map (some m)) rfl (by kernel_rfl) (by kernel_rfl) (by kernel_rfl) (fun _ _ _ h => h) (Or.inl ⟨by rfl, fun w' hw => by (have q := hw.cell c1 (by simpa using HKX.out.hm); go_simp)⟩) hS ?_
  try simp only [Act.put, List.setIfInBounds_toArray, List.set_cons_zero, List.set_cons_succ]
  refine wpAnyH_take (i := 4) (oi := { dst := some 17, op := Op.fieldAddr 95 (Operand.tmp 5) 0, type := 0, pos := "heap.go:34", after := #[], guard := none }) (v := .pointer (some ⟨B, 0, none⟩)) rfl (by kernel_rfl) (by kernel_rfl) (by kernel_rfl) (fun _ _ _ h => h) (Or.inl ⟨by rfl, fun w' hw => by go_simp⟩) hS ?_
  try simp only [Act.put, List.setIfInBounds_toArray, List.set_cons_zero, List.set_cons_succ]
  refine wpAnyH_take (i := 5) (oi := { dst := some 18, op := Op.load 3 (Operand.tmp 17), type := 3, pos := "heap.go:34", after := #[{ on := 4, ground := Ground.data }], guard := none }) (v := .int .i64 it.id) rfl (by kernel_rfl) (by kernel_rfl) (by kernel_rfl) (fun _ _ _ h => h) (Or.inl ⟨by rfl, fun w' hw => by (have q := hw.cell b0 (by simpa using HBm.out); go_simp)⟩) hS ?_
  try simp only [Act.put, List.setIfInBounds_toArray, List.set_cons_zero, List.set_cons_succ]
  refine wpAnyH_take (i := 6) (oi := { dst := some 19, op := Op.move (Operand.tmp 1), type := 3, pos := "heap.go:34", after := #[], guard := none }) (v := .int .i64 i) rfl (by kernel_rfl) (by kernel_rfl) (by kernel_rfl) (fun _ _ _ h => h) (Or.inl ⟨by rfl, fun w' hw => by go_simp⟩) hS ?_
  try simp only [Act.put, List.setIfInBounds_toArray, List.set_cons_zero, List.set_cons_succ]
  refine wpAnyH_ready (rs := [7]) (by kernel_rfl) (by simp) ?_
  refine AllReadyH.cons (o := { dst := none, op := Op.mapUpdate 72 (Operand.tmp 16) (Operand.tmp 18) (Operand.tmp 19), type := 0, pos := "heap.go:34", after := #[{ on := 3, ground := Ground.data }, { on := 5, ground := Ground.data }, { on := 6, ground := Ground.data }, { on := 0, ground := Ground.phase }, { on := 1, ground := Ground.phase }, { on := 2, ground := Ground.phase }, { on := 3, ground := Ground.phase }, { on := 4, ground := Ground.phase }, { on := 5, ground := Ground.phase }, { on := 6, ground := Ground.phase }], guard := none }) rfl (fun K hK => ?_) AllReadyH.nil
  refine step_of_list rfl ?_
  refine wpList_putI rfl _ _ _ rfl HM3.out it.id h2 (.int .i64 i) rfl rfl rfl ⟨_, rfl⟩ ?_
  intro w3 m3 t3 z3
  have hS2 := hS.trans t3 (fun y hy => .inl hy)
  have HFIN := Lib.hid (HKX.out.set hi H1.out h2 HT2.out HR2.out m3 ((HTE.out.mono (by simp)).trans t3 (fun y hy => .inl hy)))
  refine ⟨rfl, hK.out _ _ hS2 (fun _ => ?_)⟩
  clear hK K hS m3 t3 z3
  have hS := hS2
  clear hS2
  try simp only [Act.put, List.setIfInBounds_toArray, List.set_cons_zero, List.set_cons_succ]
  refine wpAnyH_done (by kernel_rfl) ?_ _
  try simp only [Act.put, List.setIfInBounds_toArray, List.set_cons_zero, List.set_cons_succ]
  clear hS
  go_wp2_with fail
  have T : Touch [m, g] w _ := ((HT.out.trans HTD.out (by simp)).mono (by simp)).trans HFIN.out.2 (fun x hx => .inl hx)
  exact end0 rfl rfl ⟨rfl, HFIN.out.1, T.mono (fun x hx => .inl (by simpa [Value.ownBlock] using hx))⟩
end Go.Proofs.Ytpbabdoecjlifaa.A

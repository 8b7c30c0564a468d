/-
  The contracts of the Addr heap's New, Len, Min.
-/
import Derived.Test.YtpbabdoecjlifaaPuA
namespace Go.Proofs.Ytpbabdoecjlifaa.A
open Go.RowKit
set_option linter.unusedVariables false
set_option linter.unusedSimpArgs false

theorem ret_four {fn : Func} {a b p c : Tmp} {ty : TypeId} {k : Nat} {d : TypeDesc} (h : fn.results = #[.tmp a, .tmp b, .cell p ty, .tmp c]) (hsz : (Try.prog.info? ty).map (·.size) = some k) (hun : Try.prog.underlying ty = some d) (hd : d.isRow = true) {R : Ending → World → Prop} {tmps : Array Value} {w : World} {g : Nat} {T : TypeId} {cs : List Value} {x y z : Value} (hl : cs.length = k)
    (hp : tmps.getD p undef = .pointer (some ⟨g, 0, none⟩)) (hx : tmps.getD a undef = x) (hy : tmps.getD b undef = y) (hz : tmps.getD c undef = z) (hg : w.heap[g]? = some (.cells cs.toArray T (0, 0))) (hR : R (.returned (.tuple #[x, y, .agg cs.toArray, z])) w) : bodyPost Try.prog fn R .ret { tmps := tmps, defers := [] } w := by
  have h2 := run_loadVar_mid (P := Try.prog) w g 0 ty cs d (range_block hg) hun hd (by rw [hsz, hl])
  have h0 : (results fn tmps).run Try.prog w = ((asAddr (tmps.getD p undef)).run Try.prog w).andThen fun q w₁ => ((loadVar ty q).run Try.prog w₁).andThen fun v w₂ => .ok (.tuple #[tmps.getD a undef, tmps.getD b undef, v, tmps.getD c undef]) w₂ := by
    simp only [results, h]
    simp [Sem.run_bind, Result.andThen]
  exact bodyPost_ret (by rw [h0, hp, hx, hy, hz]; simp only [asAddr, Sem.run_pure, Result.andThen_ok, h2]) rfl hR
theorem Hp.fresh (w : World) : HB ((w.alloc (.map #[] 0)).alloc (.cells #[.slice none 0 0, .map (some w.heap.size), .int .i64 0] 90)) (w.heap.size + 1) w.heap.size (.slice none 0 0) [] [] 0 := by
  have t := (Touch.refl [] (w.alloc (.map #[] 0))).alloc (.cells #[.slice none 0 0, .map (some w.heap.size), .int .i64 0] 90)
  have z1 : (w.alloc (.map #[] 0)).heap.size = w.heap.size + 1 := by simp
  refine ⟨⟨?_, World.ownsRow_nil _ _ _ _, (Mp.made w).touch t (by simp), by simp, by simp, by omega, by simp [Value.ownBlock], by simp⟩, by simp, ⟨by simp, by intro id _; rfl⟩, ?_, by simp, by omega, by omega⟩
  · have := heap_alloc_new (w.alloc (.map #[] 0)) (.cells #[.slice none 0 0, .map (some w.heap.size), .int .i64 0] 90)
    rw [z1] at this
    exact this
  · intro b hb u v hu
    simp at hu
set_option maxRecDepth 100000 in
set_option maxHeartbeats 1000000 in
theorem new_any (w : World) : Calls Try.prog 26 #[] w fun e w' => ∃ (h m : Nat) (v : Value), e = .returned (.pointer (some ⟨h, 0, none⟩)) ∧ HB w' h m v [] [] 0 ∧ (∀ y ∈ Hp.foot h m v, w.heap.size ≤ y) ∧ Touch [] w w' := by
  have H := Lib.hid (Hp.fresh w)
  have T := Lib.hid (((Touch.refl [] w).alloc (.map #[] 0)).alloc (.cells #[.slice none 0 0, .map (some w.heap.size), .int .i64 0] 90))
  have hmm := @run_makeMap Try.prog
  have huM := Try.underlying72
  go_enter Try.func26, Try.ntmps26
  go_wp2_with fail
  go_ret
  exact ⟨_, _, _, rfl, H.out, by intro y hy; simp [Hp.foot, Value.ownBlock] at hy; omega, T.out⟩

section
variable (h m : Nat) (v : Value) (its : List Itm) (kv : List (Int × Value)) (last : Int) (w : World) (k : HB w h m v its kv last)
include k
set_option maxRecDepth 100000 in
set_option maxHeartbeats 1000000 in
theorem len_any : Calls Try.prog 33 #[.pointer (some ⟨h, 0, none⟩)] w fun e w' => e = .returned (.int .i64 its.length) ∧ w = w' := by
  obtain ⟨av, cv, rfl, hv1, hv2, hv3⟩ := k.hp.form
  obtain ⟨c0, c1, c2⟩ := k.hp.cells
  clear hv3 k
  go_enter Try.func33, Try.ntmps33
  go_wp2_with fail
  go_ret
  exact ⟨rfl, rfl⟩

set_option maxRecDepth 100000 in
set_option maxHeartbeats 4000000 in
theorem min_some (x : Itm) (hx : its[0]? = some x) : Calls Try.prog 57 #[.pointer (some ⟨h, 0, none⟩)] w fun e w' => e = .returned (.tuple #[.int .i64 x.id, .int .u64 x.due, .agg (cx x).toArray, .bool true]) ∧ Touch [] w w' := by
  have hil := (List.getElem?_eq_some_iff.1 hx).1
  obtain ⟨av, cv, rfl, hv1, hv2, hv3⟩ := k.hp.form
  obtain ⟨g, rfl, hgh, hgm⟩ := hv3 (by omega)
  have OK := Lib.hid (k.hp.one x (List.mem_of_getElem? hx))
  have q1 : ¬ (its.length : Int) = 0 := by omega
  have q2 : ¬ its.length = 0 := by omega
  have q3 : (0 : Int) < (its.length : Int) := by omega
  have HT := Lib.hid ((Touch.refl [] w).alloc (.cells #[.bool false, .int .u8 0, .int .u8 0, .int .u8 0, .int .u8 0, .int .u8 0, .int .u8 0, .int .u8 0, .int .u8 0, .int .u8 0, .int .u8 0, .int .u8 0, .int .u8 0, .int .u8 0, .int .u8 0, .int .u8 0, .int .u8 0] 54))
  have HZ := Lib.hid (heap_alloc_new w (.cells #[.bool false, .int .u8 0, .int .u8 0, .int .u8 0, .int .u8 0, .int .u8 0, .int .u8 0, .int .u8 0, .int .u8 0, .int .u8 0, .int .u8 0, .int .u8 0, .int .u8 0, .int .u8 0, .int .u8 0, .int .u8 0, .int .u8 0] 54))
  have HK := Lib.hid (k.hp.touch HT.out (by simp))
  have e0 := HK.out.elem hx
  simp only [Nat.zero_mul] at e0
  have E0 := Lib.hid e0
  have hsz : (w.alloc (.cells #[.bool false, .int .u8 0, .int .u8 0, .int .u8 0, .int .u8 0, .int .u8 0, .int .u8 0, .int .u8 0, .int .u8 0, .int .u8 0, .int .u8 0, .int .u8 0, .int .u8 0, .int .u8 0, .int .u8 0, .int .u8 0, .int .u8 0] 54)).heap.size = w.heap.size + 1 := by simp
  have hg9 := heap_alloc_new (w.alloc (.cells #[.bool false, .int .u8 0, .int .u8 0, .int .u8 0, .int .u8 0, .int .u8 0, .int .u8 0, .int .u8 0, .int .u8 0, .int .u8 0, .int .u8 0, .int .u8 0, .int .u8 0, .int .u8 0, .int .u8 0, .int .u8 0, .int .u8 0] 54)) (.cells #[.int .i64 0, .int .u64 0, .bool false, .int .u8 0, .int .u8 0, .int .u8 0, .int .u8 0, .int .u8 0, .int .u8 0, .int .u8 0, .int .u8 0, .int .u8 0, .int .u8 0, .int .u8 0, .int .u8 0, .int .u8 0, .int .u8 0, .int .u8 0, .int .u8 0] 95)
  rw [hsz] at hg9
  have HG9 := Lib.hid hg9
  have HT9 := Lib.hid (HT.out.alloc (.cells #[.int .i64 0, .int .u64 0, .bool false, .int .u8 0, .int .u8 0, .int .u8 0, .int .u8 0, .int .u8 0, .int .u8 0, .int .u8 0, .int .u8 0, .int .u8 0, .int .u8 0, .int .u8 0, .int .u8 0, .int .u8 0, .int .u8 0, .int .u8 0, .int .u8 0] 95))
  have HZ9 := Lib.hid (((Touch.refl [] (w.alloc (.cells #[.bool false, .int .u8 0, .int .u8 0, .int .u8 0, .int .u8 0, .int .u8 0, .int .u8 0, .int .u8 0, .int .u8 0, .int .u8 0, .int .u8 0, .int .u8 0, .int .u8 0, .int .u8 0, .int .u8 0, .int .u8 0, .int .u8 0] 54))).alloc (.cells #[.int .i64 0, .int .u64 0, .bool false, .int .u8 0, .int .u8 0, .int .u8 0, .int .u8 0, .int .u8 0, .int .u8 0, .int .u8 0, .int .u8 0, .int .u8 0, .int .u8 0, .int .u8 0, .int .u8 0, .int .u8 0, .int .u8 0, .int .u8 0, .int .u8 0] 95)).at HZ.out (by simp))
  obtain ⟨c0, c1, c2⟩ := HK.out.cells
  clear hv3 k hx hsz hg9
  go_enter Try.func57, Try.ntmps57
  go_wp2_with (first | ((with_reducible refine at_load 95 ?_); refine wpList_load_mid rfl 95 _ rfl g (0) rfl (encA x) _ E0.out Try.underlying95 rfl (by rw [infoA, OK.out.enc]) ?_) | ((with_reducible refine at_store 95 ?_); refine wpList_store_into rfl 95 _ _ rfl (w.heap.size + 1) 95 _ (encA x) rfl rfl HG9.out (by rw [OK.out.enc]; rfl) (by rw [infoA, OK.out.enc]) OK.out.cells ?_))
  intro W h2 t2 z2
  have HG := Lib.hid h2
  have HT2 := Lib.hid (HT9.out.trans t2 (fun y hy => .inr (by simp at hy; omega)))
  have HZ2 := Lib.hid (t2.at HZ9.out (by simp))
  have HBZ := Lib.hid (show w.heap.size ≠ w.heap.size + 1 by omega)
  have HBW := Lib.hid (Nat.le_refl w.heap.size)
  generalize hb1 : w.heap.size + 1 = B at *
  generalize hz1 : w.heap.size = Z at *
  clear c0 c1 c2 e0 h2 t2 z2 HG9 HT9 HZ9
  go_wp2_with fail
  refine wp_region_held (S := Touch [Z] W.drew) (by kernel_rfl) ?_
  change wpAnyH _ _ _ _ _ _ _ _ W.drew
  have tD := (Touch.refl [] W).drew
  have HGX := Lib.hid (tD.at HG.out (by simp))
  have HZX := Lib.hid (tD.at HZ2.out (by simp))
  have HTX := Lib.hid (HT2.out.trans tD (by simp))
  generalize W.drew = X at *
  clear tD
  have hS := Touch.refl [Z] X
  have b0 : X.cell? ⟨B, 0, none⟩ = some (.int .i64 x.id) := cellAt HGX.out rfl
  have b1 : X.cell? ⟨B, 1, none⟩ = some (.int .u64 x.due) := cellAt HGX.out rfl
  have rx : X.rangeAt B 2 (cx x) := fun j u hu => by
    have := range_block HGX.out (2 + j) u (by simpa [encA, Nat.add_comm 2 j] using hu)
    simpa using this
  have hBZ : B ∉ [Z] := by simpa using Ne.symm HBZ.out
  refine wpAnyH_take (i := 0) (oi := { dst := some 21, op := Op.fieldAddr 95 (Operand.tmp 7) 0, type := 0, pos := "heap.go:87", after := #[], guard := none }) (v := .pointer (some ⟨B, 0, none⟩)) rfl (by kernel_rfl) (by kernel_rfl) (by kernel_rfl) (fun _ _ _ h => h) (Or.inl ⟨by rfl, fun w' hw => by go_simp⟩) hS ?_
  try simp only [Act.put, List.setIfInBounds_toArray, List.set_cons_zero, List.set_cons_succ]
  refine wpAnyH_take (i := 1) (oi := { dst := some 22, op := Op.load 3 (Operand.tmp 21), type := 3, pos := "heap.go:87", after := #[{ on := 0, ground := Ground.data }], guard := none }) (v := .int .i64 x.id) rfl (by kernel_rfl) (by kernel_rfl) (by kernel_rfl) (fun _ _ _ h => h) (Or.inl ⟨by rfl, fun w' hw => by (have q := hw.cell b0 hBZ; go_simp)⟩) hS ?_
  try simp only [Act.put, List.setIfInBounds_toArray, List.set_cons_zero, List.set_cons_succ]
  refine wpAnyH_take (i := 2) (oi := { dst := some 23, op := Op.fieldAddr 95 (Operand.tmp 7) 1, type := 0, pos := "heap.go:87", after := #[{ on := 6, ground := Ground.gcOnly Departure.lateStores }], guard := none }) (v := .pointer (some ⟨B, 1, none⟩)) rfl (by kernel_rfl) (by kernel_rfl) (by kernel_rfl) (fun _ _ _ h => h) (Or.inl ⟨by rfl, fun w' hw => by go_simp⟩) hS ?_
  try simp only [Act.put, List.setIfInBounds_toArray, List.set_cons_zero, List.set_cons_succ]
  refine wpAnyH_take (i := 3) (oi := { dst := some 24, op := Op.load 29 (Operand.tmp 23), type := 29, pos := "heap.go:87", after := #[{ on := 2, ground := Ground.data }, { on := 6, ground := Ground.gcOnly Departure.lateStores }], guard := none }) (v := .int .u64 x.due) rfl (by kernel_rfl) (by kernel_rfl) (by kernel_rfl) (fun _ _ _ h => h) (Or.inl ⟨by rfl, fun w' hw => by (have q := hw.cell b1 hBZ; go_simp)⟩) hS ?_
  try simp only [Act.put, List.setIfInBounds_toArray, List.set_cons_zero, List.set_cons_succ]
  refine wpAnyH_take (i := 4) (oi := { dst := some 25, op := Op.fieldAddr 95 (Operand.tmp 7) 2, type := 0, pos := "heap.go:87", after := #[{ on := 7, ground := Ground.gcOnly Departure.lateStores }], guard := none }) (v := .pointer (some ⟨B, 2, none⟩)) rfl (by kernel_rfl) (by kernel_rfl) (by kernel_rfl) (fun _ _ _ h => h) (Or.inl ⟨by rfl, fun w' hw => by go_simp⟩) hS ?_
  try simp only [Act.put, List.setIfInBounds_toArray, List.set_cons_zero, List.set_cons_succ]
  refine wpAnyH_take (i := 5) (oi := { dst := some 26, op := Op.load 54 (Operand.tmp 25), type := 54, pos := "heap.go:87", after := #[{ on := 4, ground := Ground.data }, { on := 7, ground := Ground.gcOnly Departure.lateStores }], guard := none }) (v := .agg (cx x).toArray) rfl (by kernel_rfl) (by kernel_rfl) (by kernel_rfl) (fun _ _ _ h => h) (Or.inl ⟨by rfl, fun w' hw => exec_load_agg _ 54 _ rfl _ _ rfl (cx x) _ (hw.range rx hBZ) Try.underlying54 rfl (by rw [infoD, OK.out.len])⟩) hS ?_
  try simp only [Act.put, List.setIfInBounds_toArray, List.set_cons_zero, List.set_cons_succ]
  refine wpAnyH_take (i := 6) (oi := { dst := some 2, op := Op.assign (Operand.tmp 22), type := 3, pos := "heap.go:87", after := #[{ on := 1, ground := Ground.data }, { on := 0, ground := Ground.phase }, { on := 1, ground := Ground.phase }, { on := 2, ground := Ground.textOnly Departure.lateStores }, { on := 3, ground := Ground.textOnly Departure.lateStores }, { on := 4, ground := Ground.textOnly Departure.lateStores }, { on := 5, ground := Ground.textOnly Departure.lateStores }], guard := none }) (v := .int .i64 x.id) rfl (by kernel_rfl) (by kernel_rfl) (by kernel_rfl) (fun _ _ _ h => h) (Or.inl ⟨by rfl, fun w' hw => by go_simp⟩) hS ?_
  try simp only [Act.put, List.setIfInBounds_toArray, List.set_cons_zero, List.set_cons_succ]
  refine wpAnyH_take (i := 7) (oi := { dst := some 3, op := Op.assign (Operand.tmp 24), type := 29, pos := "heap.go:87", after := #[{ on := 3, ground := Ground.data }, { on := 6, ground := Ground.chain }, { on := 0, ground := Ground.phase }, { on := 1, ground := Ground.phase }, { on := 2, ground := Ground.phase }, { on := 3, ground := Ground.phase }, { on := 4, ground := Ground.textOnly Departure.lateStores }, { on := 5, ground := Ground.textOnly Departure.lateStores }, { on := 6, ground := Ground.phase }], guard := none }) (v := .int .u64 x.due) rfl (by kernel_rfl) (by kernel_rfl) (by kernel_rfl) (fun _ _ _ h => h) (Or.inl ⟨by rfl, fun w' hw => by go_simp⟩) hS ?_
  try simp only [Act.put, List.setIfInBounds_toArray, List.set_cons_zero, List.set_cons_succ]
  refine wpAnyH_ready (rs := [8]) (by kernel_rfl) (by simp) ?_
  refine AllReadyH.cons (o := { dst := none, op := Op.store 54 (Operand.tmp 4) (Operand.tmp 26), type := 0, pos := "heap.go:87", after := #[{ on := 5, ground := Ground.data }, { on := 7, ground := Ground.chain }, { on := 0, ground := Ground.phase }, { on := 1, ground := Ground.phase }, { on := 2, ground := Ground.phase }, { on := 3, ground := Ground.phase }, { on := 4, ground := Ground.phase }, { on := 5, ground := Ground.phase }, { on := 6, ground := Ground.phase }, { on := 7, ground := Ground.phase }], guard := none }) rfl (fun K hK => ?_) AllReadyH.nil
  refine step_of_list rfl ?_
  refine wpList_store_into rfl 54 _ _ rfl Z 54 _ (cx x) rfl rfl HZX.out (by rw [OK.out.len]; rfl) (by rw [infoD, OK.out.len]) OK.out.one ?_
  intro w2 h2 t2 z2
  have hS2 := hS.trans t2 (fun y hy => .inl hy)
  have HF := Lib.hid (And.intro h2 (show Touch [] w w2 from HTX.out.trans t2 (fun y hy => .inr (by simp at hy; omega)))) 
  refine ⟨rfl, hK.out _ _ hS2 (fun _ => ?_)⟩
  clear hK K hS h2 t2 z2
  have hS := hS2
  clear hS2
  try simp only [Act.put, List.setIfInBounds_toArray, List.set_cons_zero, List.set_cons_succ]
  refine wpAnyH_take (i := 9) (oi := { dst := some 5, op := Op.assign (Operand.const (Value.bool true)), type := 4, pos := "heap.go:87", after := #[{ on := 8, ground := Ground.chain }, { on := 0, ground := Ground.phase }, { on := 1, ground := Ground.phase }, { on := 2, ground := Ground.phase }, { on := 3, ground := Ground.phase }, { on := 4, ground := Ground.phase }, { on := 5, ground := Ground.phase }, { on := 6, ground := Ground.phase }, { on := 7, ground := Ground.phase }, { on := 8, ground := Ground.phase }], guard := none }) (v := .bool true) rfl (by kernel_rfl) (by kernel_rfl) (by kernel_rfl) (fun _ _ _ h => h) (Or.inl ⟨by rfl, fun w' hw => by go_simp⟩) hS ?_
  try simp only [Act.put, List.setIfInBounds_toArray, List.set_cons_zero, List.set_cons_succ]
  refine wpAnyH_done (by kernel_rfl) ?_ _
  try simp only [Act.put, List.setIfInBounds_toArray, List.set_cons_zero, List.set_cons_succ]
  clear hS b0 b1 rx
  go_wp2_with fail
  exact ret_four rfl infoD Try.underlying54 rfl OK.out.len rfl rfl rfl rfl HF.out.1 ⟨rfl, HF.out.2⟩
end
end Go.Proofs.Ytpbabdoecjlifaa.A

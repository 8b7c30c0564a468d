/-
  The Addr heap in order; the contract of Push.
-/
import Derived.Test.YtpbabdoecjlifaaSdA
import Derived.Test.YtpbabdoecjlifaaHeldF
import Derived.Test.YtpbabdoecjlifaaRecS
namespace Go.Proofs.Ytpbabdoecjlifaa.A
open Go.RowKit
set_option linter.unusedVariables false
set_option linter.unusedSimpArgs false

theorem wpList_delete_mp {P : Program} {α : Type} [DecidableEq α] {enc : α → Value} {ok : α → Prop} {w : World} {b : Nat} {kv : List (α × Value)} {o : Oper} {ops : Array Oper} {rest : List Oper} {a : Act} {Q : Exit → Act → World → Prop} (hg : o.guard = none) (m x : Operand) (t k : TypeId) (hop : o.op = Op.call { callee := Callee.builtin Builtin.delete, args := #[m, x], argTypes := #[t, k] })
    (e : TypeId) (E : KE P k enc ok) (ht : P.underlying t = some (.map k e)) (h : Mp enc ok w b kv) (y : α) (hy : ok y) (hm : a.eval m = .map (some b)) (hx : a.eval x = enc y)
    (hK : ∀ w', Mp enc ok w' b (del kv y) → Touch [b] w w' → w'.heap.size = w.heap.size → wpList P ops Q rest (a.put o.dst (.tuple #[])) w') : wpList P ops Q (o :: rest) a w := by
  refine wpList_plain hg fun K' hK' => ?_
  obtain ⟨w', hrun, r1, r2, r3⟩ := h.drop E ht hy o.type
  unfold Oper.wp
  simp [execOp, hop, resolve, invoke, builtin, hm, hx, hrun, Result.andThen]
  exact hK' _ _ (hK w' r1 r2 r3)
theorem look_del_same (kv : List (Int × Value)) (a : Int) : look (del kv a) a = none := by
  rw [look_none]
  intro p hp
  unfold del at hp
  simpa using (List.mem_filter.1 hp).2
theorem look_del_other (kv : List (Int × Value)) (a b : Int) (h : b ≠ a) : look (del kv a) b = look kv b := by
  unfold look del
  rw [List.find?_filter]
  congr 2
  funext p
  by_cases e : p.1 = b
  · have : p.1 ≠ a := by omega
    simp [e, h]
  · simp [e]
/-- A heap in order. -/
structure HB (w : World) (h m : Nat) (v : Value) (its : List Itm) (kv : List (Int × Value)) (last : Int) : Prop where
  hp : Hp w h m v its kv last
  ids : (its.map Itm.id).Nodup
  ix : Ix kv its
  heap : Heap Itm.key its
  top : ∀ y ∈ its, 1 ≤ y.id ∧ y.id ≤ last
  lo : 0 ≤ last
  hi : last ≤ 1000
/-- What a step leaves of the heap's own blocks: its own, or new ones. -/
def Foot (h m : Nat) (v v' : Value) (w : World) : Prop := ∀ y ∈ Hp.foot h m v', y ∈ Hp.foot h m v ∨ w.heap.size ≤ y
theorem okK_of {i : Int} (h0 : -9223372036854775808 ≤ i) (h1 : i ≤ 9223372036854775807) : okK i := by
  unfold okK
  simp [Lit.wf]
  have : IntKind.i64.min = -9223372036854775808 := rfl
  omega
theorem HB.touch {S : List Nat} {w w' : World} {h m : Nat} {v : Value} {its : List Itm} {kv : List (Int × Value)} {last : Int} (k : HB w h m v its kv last) (t : Touch S w w') (hS : ∀ y ∈ Hp.foot h m v, y ∉ S) : HB w' h m v its kv last :=
  ⟨k.hp.touch t hS, k.ids, k.ix, k.heap, k.top, k.lo, k.hi⟩
/-- After sifting: in order. -/
theorem HB.sifted {w : World} {h m : Nat} {v : Value} {its its' : List Itm} {kv kv' : List (Int × Value)} {last : Int} (hp : Hp w h m v its' kv' last) (hperm : its'.Perm its) (hn : (its.map Itm.id).Nodup) (hh : Heap Itm.key its')
    (h1 : ∀ (j : Nat) y, its'[j]? = some y → look kv' y.id = some (.int .i64 j)) (h2 : ∀ id, (∀ y ∈ its, y.id ≠ id) → look kv' id = look kv id) (h3 : ∀ id, (∀ y ∈ its, y.id ≠ id) → look kv id = none)
    (h4 : ∀ y ∈ its, 1 ≤ y.id ∧ y.id ≤ last) (h5 : 0 ≤ last) (h6 : last ≤ 1000) : HB w h m v its' kv' last :=
  ⟨hp, (hperm.map Itm.id).nodup_iff.2 hn, ⟨h1, fun id hid => by
    have hid' : ∀ y ∈ its, y.id ≠ id := fun y hy => hid y (hperm.mem_iff.2 hy)
    rw [h2 id hid', h3 id hid']⟩, hh, fun y hy => h4 y (hperm.mem_iff.1 hy), h5, h6⟩

section
variable {w : World} {h m : Nat} {v : Value} {its : List Itm} {kv : List (Int × Value)} {last : Int}
theorem Hp.frozen (k : Hp w h m v its kv last) (j : Nat) : w.frozen? ⟨h, j, none⟩ = false := by
  simp [World.frozen?, k.hdr]
theorem Hp.bump (k : Hp w h m v its kv last) (l : Int) : Hp (w.setCell ⟨h, 2, none⟩ (.int .i64 l)) h m v its kv l ∧ Touch [h] w (w.setCell ⟨h, 2, none⟩ (.int .i64 l)) := by
  have t := (Touch.refl [h] w).setCell (p := ⟨h, 2, none⟩) (by simp) (.int .i64 l)
  refine ⟨⟨?_, t.owns k.row (by intro g hg e; simp at e; exact k.hv.1 (by rw [hg, e])), k.mp.touch t (by simpa using Ne.symm k.hm), k.one, k.oks, k.hm, k.hv, k.few⟩, t⟩
  simp [World.setCell, Array.getElem?_modify, k.hdr]
theorem Hp.lay (k : Hp w h m v its kv last) {v' : Value} {its' : List Itm} {w2 : World} (t : Touch v.ownBlock.toList w w2) (hm' : w2.ownsRow 0 95 19 v' its'.length (its'.map encA).flatten) (hn : v'.ownBlock = v.ownBlock ∨ v'.ownBlock = none ∨ ∃ g, v'.ownBlock = some g ∧ w.heap.size ≤ g) (h1 : ∀ it ∈ its', Ok1 it) (h2 : ∀ it ∈ its', okK it.id) (h3 : its'.length ≤ 1000) :
    Hp (w2.setCell ⟨h, 0, none⟩ v') h m v' its' kv last ∧ Touch (Hp.foot h m v) w (w2.setCell ⟨h, 0, none⟩ v') ∧ Foot h m v v' w := by
  have hlt := k.lt
  have hhl : h < w.heap.size := hlt h (by simp [Hp.foot])
  have hml : m < w.heap.size := hlt m (by simp [Hp.foot])
  have hmh : m ≠ h := Ne.symm k.hm
  have t3 := (Touch.refl [h] w2).setCell (p := ⟨h, 0, none⟩) (by simp) v'
  have hv1 : h ∉ v.ownBlock.toList := by
    intro e
    exact k.hv.1 (by simpa using e)
  have hv2 : m ∉ v.ownBlock.toList := by
    intro e
    exact k.hv.2 (by simpa using e)
  have hv3 : v'.ownBlock ≠ some h ∧ v'.ownBlock ≠ some m := by
    rcases hn with e | e | ⟨g, e, hg⟩
    · rw [e]
      exact k.hv
    · rw [e]
      simp
    · rw [e]
      simp
      omega
  have hH := t.at k.hdr hv1
  refine ⟨⟨?_, t3.owns hm' (by intro g hg e; simp at e; exact hv3.1 (by rw [hg, e])), (k.mp.touch t hv2).touch t3 (by simpa using hmh), h1, h2, k.hm, hv3, h3⟩, ?_, ?_⟩
  · simp [World.setCell, Array.getElem?_modify, hH]
  · exact (t.mono (fun y hy => .inl (by simp [Hp.foot] at hy ⊢; exact .inr (.inr hy)))).trans t3 (by simp [Hp.foot])
  · intro y hy
    simp only [Hp.foot, List.mem_cons, Option.mem_toList] at hy ⊢
    rcases hy with rfl | rfl | hy
    · exact .inl (.inl rfl)
    · exact .inl (.inr (.inl rfl))
    · rcases hn with e | e | ⟨g, e, hg⟩
      · rw [e] at hy
        exact .inl (.inr (.inr hy))
      · rw [e] at hy
        cases hy
      · rw [e] at hy
        cases hy
        exact .inr hg
end

theorem exec_builtY {a : Act} {w : World} (op : Oper) (t : TypeId) (parts : Array (Nat × Operand)) (ho : op.op = .build t parts)
    (vals : List (Nat × Value)) (cells : Array Value) (hv : (parts.toList.map fun p => (p.1, a.eval p.2)) = vals) (hb : Try.prog.built t vals = some cells) : (execOp a.eval op).run Try.prog w = .ok (.value (.agg cells)) w := by
  have hr := run_build (P := Try.prog) w t (parts.map fun (i, x) => (i, a.eval x)) cells (by rw [Array.toList_map, ← hb, ← hv])
  unfold execOp
  simp only [ho, Sem.run_bind, hr, Result.andThen_ok, Sem.run_pure]

theorem seventeen {α : Type} (l : List α) (h : l.length = 17) : ∃ a0 a1 a2 a3 a4 a5 a6 a7 a8 a9 a10 a11 a12 a13 a14 a15 a16, l = [a0, a1, a2, a3, a4, a5, a6, a7, a8, a9, a10, a11, a12, a13, a14, a15, a16] := by
  match l, h with
  | [a0, a1, a2, a3, a4, a5, a6, a7, a8, a9, a10, a11, a12, a13, a14, a15, a16], _ => exact ⟨_, _, _, _, _, _, _, _, _, _, _, _, _, _, _, _, _, rfl⟩
theorem built_item (id due : Int) (cs : List Value) (h : cs.length = 17) : Try.prog.built 95 [(0, .int .i64 id), (1, .int .u64 due), (2, .agg cs.toArray)] = some (encA ⟨id, due, .agg cs.toArray⟩).toArray := by
  obtain ⟨a0, a1, a2, a3, a4, a5, a6, a7, a8, a9, a10, a11, a12, a13, a14, a15, a16, rfl⟩ := seventeen cs h
  kernel_rfl
theorem infoA' : (Try.prog.info? 95).map (fun i => (i.size, i.bytes, i.zero.map fun z => z.cells.size)) = some (19, 40, some 19) := by kernel_rfl
theorem infoD : (Try.prog.info? 54).map (·.size) = some 17 := by kernel_rfl
theorem info_parts {T k bytes : Nat} (h : (Try.prog.info? T).map (fun i => (i.size, i.bytes, i.zero.map fun z => z.cells.size)) = some (k, bytes, some k)) : ∃ i z, Try.prog.info? T = some i ∧ i.zero = some z ∧ i.size = k ∧ i.bytes = bytes ∧ z.cells.size = k := by
  cases hi : Try.prog.info? T with
  | none => simp [hi] at h
  | some i =>
    simp only [hi, Option.map_some, Option.some.injEq, Prod.mk.injEq] at h
    obtain ⟨h1, h2, h3⟩ := h
    cases hz : i.zero with
    | none => simp [hz] at h3
    | some z => exact ⟨i, z, rfl, hz, h1, h2, by simpa [hz] using h3⟩
set_option maxRecDepth 100000 in
set_option maxHeartbeats 4000000 in
theorem push_any (h m : Nat) (v : Value) (its : List Itm) (kv : List (Int × Value)) (last due : Int) (cs : List Value) (hcl : cs.length = 17) (hc1 : ∀ u ∈ cs, u.oneCell' = true) (w : World) (k : HB w h m v its kv last) (hl : last < 1000) (hfw : its.length < 1000) :
    Calls Try.prog 28 #[.pointer (some ⟨h, 0, none⟩), .int .u64 due, .agg cs.toArray] w fun e w' => ∃ (v' : Value) (its' : List Itm) (kv' : List (Int × Value)), e = .returned (.int .i64 (last + 1)) ∧ HB w' h m v' its' kv' (last + 1) ∧ its'.Perm (its ++ [(⟨last + 1, due, .agg cs.toArray⟩ : Itm)]) ∧ Foot h m v v' w ∧ Touch (Hp.foot h m v) w w' := by
  obtain ⟨i95, z95, hi95, hz95, hs95, hb95, hc95⟩ := info_parts infoA'
  obtain ⟨av, cv, rfl, hv1, hv2, hv3⟩ := k.hp.form
  have HK := Lib.hid k
  have HTB := Lib.hid ((Touch.refl [] w).alloc (.cells cs.toArray 54))
  have HGB := Lib.hid (heap_alloc_new w (.cells cs.toArray 54))
  have kB := Lib.hid (k.hp.touch HTB.out (by simp))
  have HBF := Lib.hid (show w.heap.size ∉ Hp.foot h m (.slice av its.length cv) from fun hm => by have := k.hp.lt _ hm; omega)
  have hlo := k.lo
  have hw1 : IntKind.i64.wrap (last + 1) = last + 1 := by rw [IntKind.wrap_i64] <;> omega
  obtain ⟨p1, t1⟩ := kB.out.bump (last + 1)
  have HP := Lib.hid p1
  have HT1 := Lib.hid t1
  obtain ⟨c0, c1, c2⟩ := kB.out.cells
  have f2 := kB.out.frozen 2
  have HCL := Lib.hid hcl
  have HB1 := Lib.hid (t1.at HGB.out (fun hm => by have := HBF.out; simp at hm; rw [hm] at this; exact this (by simp [Hp.foot])))
  have OK := Lib.hid (Ok1.mk' (last + 1) due hcl hc1).1
  obtain ⟨it, hit⟩ : ∃ it : Itm, it = ⟨last + 1, due, .agg cs.toArray⟩ := ⟨_, rfl⟩
  have HBL := Lib.hid (built_item (last + 1) due cs hcl)
  have HID := Lib.hid (show it.id = last + 1 by rw [hit])
  rw [← hit] at OK HBL ⊢
  clear k p1 t1 hv3 hcl hc1 hit
  go_enter Try.func28, Try.ntmps28
  go_wp2_with fail
  generalize (w.alloc (.cells cs.toArray 54)).setCell ⟨h, 2, none⟩ (.int .i64 (last + 1)) = w1 at *
  generalize hBe : w.heap.size = B at *
  clear c0 c1 c2 f2
  obtain ⟨c0, _, c2⟩ := HP.out.cells
  refine wp_region_F (S := Touch (Value.slice av its.length cv).ownBlock.toList w1.drew) [16] (by kernel_rfl) ?_
  change wpAnyF _ _ _ _ _ _ _ _ _ w1.drew
  have tD := (Touch.refl [] w1).drew
  have HPX := Lib.hid (HP.out.touch tD (by simp))
  have HGX := Lib.hid (range_block (tD.at HB1.out (by simp)))
  have HTX := Lib.hid ((HTB.out.mono (S' := Hp.foot h m (.slice av its.length cv)) (by simp)).trans ((HT1.out.mono (S' := Hp.foot h m (.slice av its.length cv)) (by simp [Hp.foot])).trans (tD.mono (by simp)) (fun y hy => .inl hy)) (fun y hy => .inl hy))
  clear c0 c2
  generalize w1.drew = X at *
  clear tD HP
  have hS := Touch.refl (Value.slice av its.length cv).ownBlock.toList X
  obtain ⟨c0, _, c2⟩ := HPX.out.cells
  have hhb : h ∉ (Value.slice av its.length cv).ownBlock.toList := fun e => HPX.out.hv.1 (by simpa using e)
  have hBb : B ∉ (Value.slice av its.length cv).ownBlock.toList := fun e => HBF.out (by simp only [Hp.foot, List.mem_cons]; exact .inr (.inr e))
  refine wpAnyF_take (i := 0) (oi := { dst := some 14, op := Op.move (Operand.tmp 0), type := 55, pos := "heap.go:75", after := #[], guard := none }) (v := .pointer (some ⟨h, 0, none⟩)) rfl (by kernel_rfl) (by kernel_rfl) (by kernel_rfl) (by kernel_rfl) (by kernel_rfl) (fun _ _ _ h => h) (Or.inl ⟨by rfl, fun w' hw => by go_simp⟩) hS ?_
  try simp only [Act.put, List.setIfInBounds_toArray, List.set_cons_zero, List.set_cons_succ]
  refine wpAnyF_take (i := 1) (oi := { dst := some 15, op := Op.move (Operand.tmp 0), type := 55, pos := "heap.go:75", after := #[], guard := none }) (v := .pointer (some ⟨h, 0, none⟩)) rfl (by kernel_rfl) (by kernel_rfl) (by kernel_rfl) (by kernel_rfl) (by kernel_rfl) (fun _ _ _ h => h) (Or.inl ⟨by rfl, fun w' hw => by go_simp⟩) hS ?_
  try simp only [Act.put, List.setIfInBounds_toArray, List.set_cons_zero, List.set_cons_succ]
  refine wpAnyF_take (i := 2) (oi := { dst := some 16, op := Op.nilCheck (Operand.tmp 15), type := 0, pos := "heap.go:75", after := #[{ on := 1, ground := Ground.data }], guard := none }) (v := .pointer (some ⟨h, 0, none⟩)) rfl (by kernel_rfl) (by kernel_rfl) (by kernel_rfl) (by kernel_rfl) (by kernel_rfl) (fun _ _ _ h => h) (Or.inl ⟨by rfl, fun w' hw => by go_simp⟩) hS ?_
  try simp only [Act.put, List.setIfInBounds_toArray, List.set_cons_zero, List.set_cons_succ]
  refine wpAnyF_take (i := 3) (oi := { dst := some 17, op := Op.fieldAddr 90 (Operand.tmp 16) 0, type := 0, pos := "heap.go:75", after := #[{ on := 2, ground := Ground.data }], guard := none }) (v := .pointer (some ⟨h, 0, none⟩)) rfl (by kernel_rfl) (by kernel_rfl) (by kernel_rfl) (by kernel_rfl) (by kernel_rfl) (fun _ _ _ h => h) (Or.inl ⟨by rfl, fun w' hw => by go_simp⟩) hS ?_
  try simp only [Act.put, List.setIfInBounds_toArray, List.set_cons_zero, List.set_cons_succ]
  refine wpAnyF_take (i := 4) (oi := { dst := some 18, op := Op.load 88 (Operand.tmp 17), type := 88, pos := "heap.go:75", after := #[{ on := 3, ground := Ground.data }], guard := none }) (v := .slice av its.length cv) rfl (by kernel_rfl) (by kernel_rfl) (by kernel_rfl) (by kernel_rfl) (by kernel_rfl) (fun _ _ _ h => h) (Or.inl ⟨by rfl, fun w' hw => by (have q := hw.cell c0 hhb; go_simp)⟩) hS ?_
  try simp only [Act.put, List.setIfInBounds_toArray, List.set_cons_zero, List.set_cons_succ]
  refine wpAnyF_take (i := 5) (oi := { dst := some 19, op := Op.move (Operand.tmp 0), type := 55, pos := "heap.go:75", after := #[], guard := none }) (v := .pointer (some ⟨h, 0, none⟩)) rfl (by kernel_rfl) (by kernel_rfl) (by kernel_rfl) (by kernel_rfl) (by kernel_rfl) (fun _ _ _ h => h) (Or.inl ⟨by rfl, fun w' hw => by go_simp⟩) hS ?_
  try simp only [Act.put, List.setIfInBounds_toArray, List.set_cons_zero, List.set_cons_succ]
  refine wpAnyF_take (i := 6) (oi := { dst := some 20, op := Op.nilCheck (Operand.tmp 19), type := 0, pos := "heap.go:75", after := #[{ on := 5, ground := Ground.data }], guard := none }) (v := .pointer (some ⟨h, 0, none⟩)) rfl (by kernel_rfl) (by kernel_rfl) (by kernel_rfl) (by kernel_rfl) (by kernel_rfl) (fun _ _ _ h => h) (Or.inl ⟨by rfl, fun w' hw => by go_simp⟩) hS ?_
  try simp only [Act.put, List.setIfInBounds_toArray, List.set_cons_zero, List.set_cons_succ]
  refine wpAnyF_take (i := 7) (oi := { dst := some 21, op := Op.fieldAddr 90 (Operand.tmp 20) 2, type := 0, pos := "heap.go:75", after := #[{ on := 6, ground := Ground.data }], guard := none }) (v := .pointer (some ⟨h, 2, none⟩)) rfl (by kernel_rfl) (by kernel_rfl) (by kernel_rfl) (by kernel_rfl) (by kernel_rfl) (fun _ _ _ h => h) (Or.inl ⟨by rfl, fun w' hw => by go_simp⟩) hS ?_
  try simp only [Act.put, List.setIfInBounds_toArray, List.set_cons_zero, List.set_cons_succ]
  refine wpAnyF_take (i := 8) (oi := { dst := some 22, op := Op.load 3 (Operand.tmp 21), type := 3, pos := "heap.go:75", after := #[{ on := 7, ground := Ground.data }], guard := none }) (v := .int .i64 (last + 1)) rfl (by kernel_rfl) (by kernel_rfl) (by kernel_rfl) (by kernel_rfl) (by kernel_rfl) (fun _ _ _ h => h) (Or.inl ⟨by rfl, fun w' hw => by (have q := hw.cell c2 hhb; go_simp)⟩) hS ?_
  try simp only [Act.put, List.setIfInBounds_toArray, List.set_cons_zero, List.set_cons_succ]
  refine wpAnyF_take (i := 9) (oi := { dst := some 23, op := Op.move (Operand.tmp 1), type := 29, pos := "heap.go:75", after := #[], guard := none }) (v := .int .u64 due) rfl (by kernel_rfl) (by kernel_rfl) (by kernel_rfl) (by kernel_rfl) (by kernel_rfl) (fun _ _ _ h => h) (Or.inl ⟨by rfl, fun w' hw => by go_simp⟩) hS ?_
  try simp only [Act.put, List.setIfInBounds_toArray, List.set_cons_zero, List.set_cons_succ]
  refine wpAnyF_take (i := 10) (oi := { dst := some 24, op := Op.load 54 (Operand.tmp 5), type := 54, pos := "heap.go:75", after := #[], guard := none }) (v := .agg cs.toArray) rfl (by kernel_rfl) (by kernel_rfl) (by kernel_rfl) (by kernel_rfl) (by kernel_rfl) (fun _ _ _ h => h) (Or.inl ⟨by rfl, fun w' hw => exec_load_agg _ 54 _ rfl _ _ rfl cs _ (hw.range HGX.out hBb) Try.underlying54 rfl (by rw [infoD, HCL.out])⟩) hS ?_
  try simp only [Act.put, List.setIfInBounds_toArray, List.set_cons_zero, List.set_cons_succ]
  refine wpAnyF_take (i := 11) (oi := { dst := some 25, op := Op.build 95 #[(0, Operand.tmp 22), (1, Operand.tmp 23), (2, Operand.tmp 24)], type := 95, pos := "heap.go:75", after := #[{ on := 8, ground := Ground.data }, { on := 9, ground := Ground.data }, { on := 10, ground := Ground.data }], guard := none }) (v := .agg (encA it).toArray) rfl (by kernel_rfl) (by kernel_rfl) (by kernel_rfl) (by kernel_rfl) (by kernel_rfl) (fun _ _ _ h => h) (Or.inl ⟨by rfl, fun w' hw => exec_builtY _ 95 _ rfl [(0, .int .i64 (last + 1)), (1, .int .u64 due), (2, .agg cs.toArray)] _ rfl HBL.out⟩) hS ?_
  try simp only [Act.put, List.setIfInBounds_toArray, List.set_cons_zero, List.set_cons_succ]
  refine wpAnyF_ready (rs := [12]) (by kernel_rfl) (by simp) ?_
  refine AllReadyF.cons (o := { dst := some 26, op := Op.buildSlice 88 1 #[(0, Operand.tmp 25)], type := 88, pos := "heap.go:75", after := #[{ on := 11, ground := Ground.data }], guard := none }) rfl (fun K hK => ?_) AllReadyF.nil
  refine step_of_list rfl ?_
  refine wpList_buildSlice_rows rfl 88 1 _ rfl 95 19 i95 _ Try.underlying88 hi95 hz95 hs95 (by omega) [encA it] rfl (by simp [OK.out.enc]) (by omega) (by rfl) ?_
  have tb := (Touch.refl [] X).alloc (.cells [encA it].flatten.toArray 95)
  have hS2 := hS.trans tb (by simp)
  have HPb := Lib.hid (HPX.out.touch tb (by simp))
  have hnw := range_new X [encA it].flatten 95
  refine ⟨rfl, hK.out _ _ hS2 (fun _ => ?_)⟩
  clear hK K hS
  have hS := hS2
  clear hS2
  have z1 : (X.alloc (.cells [encA it].flatten.toArray 95)).heap.size = X.heap.size + 1 := by simp
  have HTb := Lib.hid tb
  generalize X.alloc (.cells [encA it].flatten.toArray 95) = X1 at *
  clear tb
  try simp only [Act.put, List.setIfInBounds_toArray, List.set_cons_zero, List.set_cons_succ]
  refine wpAnyF_ready (rs := [13]) (by kernel_rfl) (by simp) ?_
  refine AllReadyF.cons (o := { dst := some 27, op := Op.call { callee := Callee.builtin Builtin.append, args := #[Operand.tmp 18, Operand.tmp 26], argTypes := #[88, 88] }, type := 88, pos := "heap.go:75", after := #[{ on := 4, ground := Ground.data }, { on := 12, ground := Ground.data }], guard := none }) rfl (fun K hK => ?_) AllReadyF.nil
  refine step_of_list rfl ?_
  refine wpList_app _ rfl _ _ 88 (by rfl) 95 i95 _ 19 40 Try.underlying88 hi95 hz95 hs95 hb95 hc95 (by omega) _ its.length _ (by rfl) HPb.out.row (some ⟨X.heap.size, 0, none⟩) 1 1 [encA it].flatten (by rfl) (by simp [OK.out.enc]) (by intro h; cases h) (by intro ad h j u hu; cases h; rw [Addr.add_lit]; exact hnw j u hu) (by simpa using OK.out.cells) (by unfold maxLen; omega) (by omega) ?_
  intro v2 w2 o2 t2 b2
  have hS2 := hS.trans t2 (fun y hy => .inl hy)
  have t2' : Touch (Value.slice av its.length cv).ownBlock.toList X w2 := (HTb.out.mono (by simp)).trans t2 (fun y hy => .inl hy)
  have z2 := z1
  refine ⟨rfl, hK.out _ _ hS2 (fun _ => ?_)⟩
  clear hK K hS
  have hS := hS2
  clear hS2
  try simp only [Act.put, List.setIfInBounds_toArray, List.set_cons_zero, List.set_cons_succ]
  refine wpAnyF_take (i := 14) (oi := { dst := some 28, op := Op.nilCheck (Operand.tmp 14), type := 0, pos := "heap.go:75", after := #[{ on := 0, ground := Ground.data }, { on := 0, ground := Ground.phase }, { on := 1, ground := Ground.phase }, { on := 2, ground := Ground.phase }, { on := 3, ground := Ground.phase }, { on := 4, ground := Ground.phase }, { on := 5, ground := Ground.phase }, { on := 6, ground := Ground.phase }, { on := 7, ground := Ground.phase }, { on := 8, ground := Ground.phase }, { on := 9, ground := Ground.phase }, { on := 10, ground := Ground.phase }, { on := 11, ground := Ground.phase }, { on := 12, ground := Ground.phase }, { on := 13, ground := Ground.phase }], guard := none }) (v := .pointer (some ⟨h, 0, none⟩)) rfl (by kernel_rfl) (by kernel_rfl) (by kernel_rfl) (by kernel_rfl) (by kernel_rfl) (fun _ _ _ h => h) (Or.inl ⟨by rfl, fun w' hw => by go_simp⟩) hS ?_
  try simp only [Act.put, List.setIfInBounds_toArray, List.set_cons_zero, List.set_cons_succ]
  refine wpAnyF_take (i := 15) (oi := { dst := some 29, op := Op.fieldAddr 90 (Operand.tmp 28) 0, type := 0, pos := "heap.go:75", after := #[{ on := 14, ground := Ground.data }, { on := 0, ground := Ground.phase }, { on := 1, ground := Ground.phase }, { on := 2, ground := Ground.phase }, { on := 3, ground := Ground.phase }, { on := 4, ground := Ground.phase }, { on := 5, ground := Ground.phase }, { on := 6, ground := Ground.phase }, { on := 7, ground := Ground.phase }, { on := 8, ground := Ground.phase }, { on := 9, ground := Ground.phase }, { on := 10, ground := Ground.phase }, { on := 11, ground := Ground.phase }, { on := 12, ground := Ground.phase }, { on := 13, ground := Ground.phase }], guard := none }) (v := .pointer (some ⟨h, 0, none⟩)) rfl (by kernel_rfl) (by kernel_rfl) (by kernel_rfl) (by kernel_rfl) (by kernel_rfl) (fun _ _ _ h => h) (Or.inl ⟨by rfl, fun w' hw => by go_simp⟩) hS ?_
  try simp only [Act.put, List.setIfInBounds_toArray, List.set_cons_zero, List.set_cons_succ]
  refine wpAnyF_ready (rs := [16]) (by kernel_rfl) (by simp) ?_
  refine AllReadyF.last (o := { dst := none, op := Op.store 88 (Operand.tmp 29) (Operand.tmp 27), type := 0, pos := "heap.go:75", after := #[{ on := 15, ground := Ground.data }, { on := 13, ground := Ground.data }, { on := 13, ground := Ground.chain }, { on := 0, ground := Ground.phase }, { on := 1, ground := Ground.phase }, { on := 2, ground := Ground.phase }, { on := 3, ground := Ground.phase }, { on := 4, ground := Ground.phase }, { on := 5, ground := Ground.phase }, { on := 6, ground := Ground.phase }, { on := 7, ground := Ground.phase }, { on := 8, ground := Ground.phase }, { on := 9, ground := Ground.phase }, { on := 10, ground := Ground.phase }, { on := 11, ground := Ground.phase }, { on := 12, ground := Ground.phase }, { on := 13, ground := Ground.phase }], guard := none }) rfl (by simp) (fun K hK => ?_) AllReadyF.nil
  have q1 := t2'.cell c0 hhb
  have g0 : w2.frozen? ⟨h, 0, none⟩ = false := by simp [World.frozen?, t2'.at HPX.out.hdr hhb]
  obtain ⟨av2, cv2, rfl, hw2, hw3, hw4⟩ := owns_form o2
  have hmem : ∀ y ∈ its ++ [it], y ∈ its ∨ y = it := by intro y hy; simpa using hy
  have hk1 : okK it.id := by rw [HID.out]; exact okK_of (by omega) (by omega)
  have HLY := HPX.out.lay (its' := its ++ [it]) t2' (by rw [List.length_append, List.map_append, List.flatten_append]; simpa using o2) (by rcases b2 with e | e; exact .inl e; exact .inr (.inr ⟨_, e, by omega⟩)) (fun y hy => by rcases hmem y hy with e | rfl; exact HPX.out.one y e; exact OK.out) (fun y hy => by rcases hmem y hy with e | rfl; exact HPX.out.oks y e; exact hk1) (by simp; omega)
  have P3 := Lib.hid HLY.1
  have T3 := Lib.hid (show Touch (Hp.foot h m (.slice av its.length cv)) w _ from HTX.out.trans HLY.2.1 (fun y hy => .inl hy))
  have F3 := Lib.hid (show Foot h m (.slice av its.length cv) (.slice av2 (its.length + 1) cv2) w from fun y hy => by rcases HLY.2.2 y hy with e | e; exact .inl e; exact .inr (Nat.le_trans HTX.out.size e))
  clear HLY hmem hk1 o2 t2 t2' b2 hw4 z1 z2
  go_simp
  refine hK.out _ _ ?_
  clear hK K
  try simp only [Act.put, List.setIfInBounds_toArray, List.set_cons_zero, List.set_cons_succ]
  refine wpAnyF_done (by kernel_rfl) ?_ _
  try simp only [Act.put, List.setIfInBounds_toArray, List.set_cons_zero, List.set_cons_succ]
  clear q1 g0 hS c0 c2 hhb hBb
  generalize w2.setCell ⟨h, 0, none⟩ (.slice av2 (its.length + 1) cv2) = w3 at *
  obtain ⟨c0, c1, c2⟩ := P3.out.cells
  try simp only [List.length_append, List.length_singleton] at c0
  have hwl : IntKind.i64.wrap ((its.length : Int) + 1 - 1) = (its.length : Int) := by rw [IntKind.wrap_i64] <;> omega
  have hwl2 : IntKind.i64.wrap (its.length : Int) = (its.length : Int) := by rw [IntKind.wrap_i64] <;> omega
  go_wp2_with fail
  have hsn : (its ++ [it])[its.length]? = some it := by simp
  have hnd : ((its ++ [it]).map Itm.id).Nodup := by
    rw [List.map_append, List.nodup_append]
    refine ⟨HK.out.ids, by simp, ?_⟩
    intro a ha b hb
    simp at hb
    obtain ⟨y, hy, rfl⟩ := List.mem_map.1 ha
    have := (HK.out.top y hy).2
    rw [HID.out] at hb
    omega
  have hix : IxB kv (its ++ [it]) its.length := by
    intro j y hj hy
    have hjl := (List.getElem?_eq_some_iff.1 hy).1
    simp at hjl
    rw [List.getElem?_append_left (by omega)] at hy
    exact HK.out.ix.at_ j y hy
  have HUP := Lib.hid (up_any h m _ _ kv (last + 1) its.length _ w3 P3.out hsn hnd hix HK.out.heap.snoc)
  have HND := Lib.hid hnd
  clear hsn hnd hix
  refine HUP.out.mono ?_
  rintro e w4 ⟨j, its4, kv4, rfl, hj, hp4, hperm4, _, hh4, ha4, ho4, t4⟩
  have hkids : Kids Itm.key (its ++ [it]) its.length := by
    intro b hb hp u z hu hz
    have := (List.getElem?_eq_some_iff.1 hz).1
    simp at this
    unfold par at hp
    omega
  have B4 := Lib.hid (HB.sifted (last := last + 1) hp4 hperm4 HND.out (hh4 hkids) ha4 ho4 (by
    intro id hid
    exact HK.out.ix.no id (fun y hy => hid y (by simp [hy]))) (by
    intro y hy
    simp at hy
    rcases hy with hy | rfl
    · have := HK.out.top y hy
      omega
    · rw [HID.out]
      omega) (by omega) (by omega))
  have T4 := Lib.hid (show Touch (Hp.foot h m (.slice av its.length cv)) w w4 from T3.out.trans t4 (by
    intro y hy
    have hf := F3.out y (by simp only [Hp.foot, List.mem_cons] at hy ⊢; exact .inr hy)
    rcases hf with hf | hf
    · exact .inl hf
    · exact .inr hf))
  have PM := Lib.hid hperm4
  obtain ⟨c0, c1, c2⟩ := hp4.cells
  clear hp4 hperm4 hh4 ha4 ho4 t4 hkids
  go_wp2_with fail
  go_ret
  exact ⟨_, its4, kv4, rfl, B4.out, PM.out, F3.out, T4.out⟩
end Go.Proofs.Ytpbabdoecjlifaa.A

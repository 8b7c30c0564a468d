/-
  The contract of Push.
-/
import Derived.Test.YtpbabdoecjlifaaHbS
import Derived.Test.YtpbabdoecjlifaaHeldF
namespace Go.Proofs.Ytpbabdoecjlifaa.S
open Go.RowKit
set_option linter.unusedVariables false
set_option linter.unusedSimpArgs false

theorem info_parts {T k bytes : Nat} (h : (Try.prog.info? T).map (fun i => (i.size, i.bytes, i.zero.map fun z => z.cells.size)) = some (k, bytes, some k)) : ∃ i z, Try.prog.info? T = some i ∧ i.zero = some z ∧ i.size = k ∧ i.bytes = bytes ∧ z.cells.size = k := by
  cases hi : Try.prog.info? T with
  | none => simp [hi] at h
  | some i =>
    simp only [hi, Option.map_some, Option.some.injEq, Prod.mk.injEq] at h
    obtain ⟨h1, h2, h3⟩ := h
    cases hz : i.zero with
    | none => simp [hz] at h3
    | some z => exact ⟨i, z, rfl, hz, h1, h2, by simpa [hz] using h3⟩
theorem info97 : (Try.prog.info? 97).map (fun i => (i.size, i.bytes, i.zero.map fun z => z.cells.size)) = some (3, 32, some 3) := by kernel_rfl
section
variable {w : World} {h m : Nat} {v : Value} {its : List Itm} {kv : List (Int × Value)} {last : Int}
theorem Hp.frozen (k : Hp w h m v its kv last) (j : Nat) : w.frozen? ⟨h, j, none⟩ = false := by
  simp [World.frozen?, k.hdr]
theorem Hp.bump (k : Hp w h m v its kv last) (l : Int) : Hp (w.setCell ⟨h, 2, none⟩ (.int .i64 l)) h m v its kv l ∧ Touch [h] w (w.setCell ⟨h, 2, none⟩ (.int .i64 l)) := by
  have t := (Touch.refl [h] w).setCell (p := ⟨h, 2, none⟩) (by simp) (.int .i64 l)
  refine ⟨⟨?_, t.owns k.row (by intro g hg e; simp at e; exact k.hv.1 (by rw [hg, e])), k.mp.touch t (by simpa using Ne.symm k.hm), k.one, k.oks, k.hm, k.hv, k.few⟩, t⟩
  simp [World.setCell, Array.getElem?_modify, k.hdr]
theorem Hp.lay (k : Hp w h m v its kv last) {v' : Value} {its' : List Itm} {w2 : World} (t : Touch v.ownBlock.toList w w2) (hm' : w2.ownsRow 0 97 3 v' its'.length (its'.map encI).flatten) (hn : v'.ownBlock = v.ownBlock ∨ v'.ownBlock = none ∨ ∃ g, v'.ownBlock = some g ∧ w.heap.size ≤ g) (h1 : ∀ it ∈ its', it.x.oneCell' = true) (h2 : ∀ it ∈ its', okK it.id) (h3 : its'.length ≤ 1000) :
    Hp (w2.setCell ⟨h, 0, none⟩ v') h m v' its' kv last ∧ Touch (Hp.foot h m v) w (w2.setCell ⟨h, 0, none⟩ v') ∧ Foot h m v v' w := by
  have hlt := k.lt
  have hhl : h < w.heap.size := hlt h (by simp [Hp.foot])
  have hml : m < w.heap.size := hlt m (by simp [Hp.foot])
  have hmh : m ≠ h := Ne.symm k.hm
  have t3 := (Touch.refl [h] w2).setCell (p := ⟨h, 0, none⟩) (by simp) v'
  have hv1 : h ∉ v.ownBlock.toList := by
    intro e
    exact k.hv.1 (by simpa using e)
  have hv2 : m ∉ v.ownBlock.toList := by
    intro e
    exact k.hv.2 (by simpa using e)
  have hv3 : v'.ownBlock ≠ some h ∧ v'.ownBlock ≠ some m := by
    rcases hn with e | e | ⟨g, e, hg⟩
    · rw [e]
      exact k.hv
    · rw [e]
      simp
    · rw [e]
      simp
      omega
  have hH := t.at k.hdr hv1
  refine ⟨⟨?_, t3.owns hm' (by intro g hg e; simp at e; exact hv3.1 (by rw [hg, e])), (k.mp.touch t hv2).touch t3 (by simpa using hmh), h1, h2, k.hm, hv3, h3⟩, ?_, ?_⟩
  · simp [World.setCell, Array.getElem?_modify, hH]
  · exact (t.mono (fun y hy => .inl (by simp [Hp.foot] at hy ⊢; exact .inr (.inr hy)))).trans t3 (by simp [Hp.foot])
  · intro y hy
    simp only [Hp.foot, List.mem_cons, Option.mem_toList] at hy ⊢
    rcases hy with rfl | rfl | hy
    · exact .inl (.inl rfl)
    · exact .inl (.inr (.inl rfl))
    · rcases hn with e | e | ⟨g, e, hg⟩
      · rw [e] at hy
        exact .inl (.inr (.inr hy))
      · rw [e] at hy
        cases hy
      · rw [e] at hy
        cases hy
        exact .inr hg
end
set_option maxRecDepth 100000 in
set_option maxHeartbeats 2000000 in
theorem push_any (h m : Nat) (v : Value) (its : List Itm) (kv : List (Int × Value)) (last due : Int) (x : Value) (w : World) (k : HB w h m v its kv last) (h1 : x.oneCell' = true) (hl : last < 1000) (hfw : its.length < 1000) :
    Calls Try.prog 29 #[.pointer (some ⟨h, 0, none⟩), .int .u64 due, x] w fun e w' => ∃ (v' : Value) (its' : List Itm) (kv' : List (Int × Value)), e = .returned (.int .i64 (last + 1)) ∧ HB w' h m v' its' kv' (last + 1) ∧ its'.Perm (its ++ [(⟨last + 1, due, x⟩ : Itm)]) ∧ Foot h m v v' w ∧ Touch (Hp.foot h m v) w w' := by
  obtain ⟨i97, z97, hi97, hz97, hs97, hb97, hc97⟩ := info_parts info97
  obtain ⟨av, cv, rfl, hv1, hv2, hv3⟩ := k.hp.form
  obtain ⟨c0, c1, c2⟩ := k.hp.cells
  have f2 := k.hp.frozen 2
  have hlo := k.lo
  have hw1 : IntKind.i64.wrap (last + 1) = last + 1 := by rw [IntKind.wrap_i64] <;> omega
  obtain ⟨p1, t1⟩ := k.hp.bump (last + 1)
  have HP := Lib.hid p1
  have HK := Lib.hid k
  have hxc : x.cells = #[x] := by
    cases x <;> first | rfl | simp [Value.oneCell'] at h1
  simp only [Value.cells] at hxc
  clear k p1 hv3
  go_enter Try.func29, Try.ntmps29
  go_wp2_with fail
  generalize w.setCell ⟨h, 2, none⟩ (.int .i64 (last + 1)) = w1 at *
  clear c0 c1 c2 f2
  obtain ⟨c0, c1, c2⟩ := HP.out.cells
  refine wp_region_F (S := Touch (Value.slice av its.length cv).ownBlock.toList w1.drew) [16] (by kernel_rfl) ?_
  change wpAnyF _ _ _ _ _ _ _ _ _ w1.drew
  have hT := HP.out.touch ((Touch.refl [] w1).drew) (by simp)
  generalize hWd : w1.drew = W at *
  have TW := Lib.hid (show Touch (Hp.foot h m (.slice av its.length cv)) w1 W by rw [← hWd]; exact (Touch.refl _ w1).drew)
  clear hWd
  have hS := Touch.refl (Value.slice av its.length cv).ownBlock.toList W
  have hhb : h ∉ (Value.slice av its.length cv).ownBlock.toList := by
    intro e
    exact HP.out.hv.1 (by simpa using e)
  clear c0 c1 c2
  obtain ⟨c0, c1, c2⟩ := hT.cells
  refine wpAnyF_take (i := 0) (oi := { dst := some 14, op := Op.move (Operand.tmp 0), type := 57, pos := "heap.go:75", after := #[], guard := none }) (v := .pointer (some ⟨h, 0, none⟩)) rfl (by kernel_rfl) (by kernel_rfl) (by kernel_rfl) (by kernel_rfl) (by kernel_rfl) (fun _ _ _ h => h) (Or.inl ⟨by rfl, fun w' hw => by go_simp⟩) hS ?_
  try simp only [Act.put, List.setIfInBounds_toArray, List.set_cons_zero, List.set_cons_succ]
  refine wpAnyF_take (i := 1) (oi := { dst := some 15, op := Op.move (Operand.tmp 0), type := 57, pos := "heap.go:75", after := #[], guard := none }) (v := .pointer (some ⟨h, 0, none⟩)) rfl (by kernel_rfl) (by kernel_rfl) (by kernel_rfl) (by kernel_rfl) (by kernel_rfl) (fun _ _ _ h => h) (Or.inl ⟨by rfl, fun w' hw => by go_simp⟩) hS ?_
  try simp only [Act.put, List.setIfInBounds_toArray, List.set_cons_zero, List.set_cons_succ]
  refine wpAnyF_take (i := 2) (oi := { dst := some 16, op := Op.nilCheck (Operand.tmp 15), type := 0, pos := "heap.go:75", after := #[{ on := 1, ground := Ground.data }], guard := none }) (v := .pointer (some ⟨h, 0, none⟩)) rfl (by kernel_rfl) (by kernel_rfl) (by kernel_rfl) (by kernel_rfl) (by kernel_rfl) (fun _ _ _ h => h) (Or.inl ⟨by rfl, fun w' hw => by go_simp⟩) hS ?_
  try simp only [Act.put, List.setIfInBounds_toArray, List.set_cons_zero, List.set_cons_succ]
  refine wpAnyF_take (i := 3) (oi := { dst := some 17, op := Op.fieldAddr 93 (Operand.tmp 16) 0, type := 0, pos := "heap.go:75", after := #[{ on := 2, ground := Ground.data }], guard := none }) (v := .pointer (some ⟨h, 0, none⟩)) rfl (by kernel_rfl) (by kernel_rfl) (by kernel_rfl) (by kernel_rfl) (by kernel_rfl) (fun _ _ _ h => h) (Or.inl ⟨by rfl, fun w' hw => by go_simp⟩) hS ?_
  try simp only [Act.put, List.setIfInBounds_toArray, List.set_cons_zero, List.set_cons_succ]
  refine wpAnyF_take (i := 4) (oi := { dst := some 18, op := Op.load 91 (Operand.tmp 17), type := 91, pos := "heap.go:75", after := #[{ on := 3, ground := Ground.data }], guard := none }) (v := Value.slice av its.length cv) rfl (by kernel_rfl) (by kernel_rfl) (by kernel_rfl) (by kernel_rfl) (by kernel_rfl) (fun _ _ _ h => h) (Or.inl ⟨by rfl, fun w' hw => by (have q2 := hw.cell c0 hhb; go_simp)⟩) hS ?_
  try simp only [Act.put, List.setIfInBounds_toArray, List.set_cons_zero, List.set_cons_succ]
  refine wpAnyF_take (i := 5) (oi := { dst := some 19, op := Op.move (Operand.tmp 0), type := 57, pos := "heap.go:75", after := #[], guard := none }) (v := .pointer (some ⟨h, 0, none⟩)) rfl (by kernel_rfl) (by kernel_rfl) (by kernel_rfl) (by kernel_rfl) (by kernel_rfl) (fun _ _ _ h => h) (Or.inl ⟨by rfl, fun w' hw => by go_simp⟩) hS ?_
  try simp only [Act.put, List.setIfInBounds_toArray, List.set_cons_zero, List.set_cons_succ]
  refine wpAnyF_take (i := 6) (oi := { dst := some 20, op := Op.nilCheck (Operand.tmp 19), type := 0, pos := "heap.go:75", after := #[{ on := 5, ground := Ground.data }], guard := none }) (v := .pointer (some ⟨h, 0, none⟩)) rfl (by kernel_rfl) (by kernel_rfl) (by kernel_rfl) (by kernel_rfl) (by kernel_rfl) (fun _ _ _ h => h) (Or.inl ⟨by rfl, fun w' hw => by go_simp⟩) hS ?_
  try simp only [Act.put, List.setIfInBounds_toArray, List.set_cons_zero, List.set_cons_succ]
  refine wpAnyF_take (i := 7) (oi := { dst := some 21, op := Op.fieldAddr 93 (Operand.tmp 20) 2, type := 0, pos := "heap.go:75", after := #[{ on := 6, ground := Ground.data }], guard := none }) (v := .pointer (some ⟨h, 2, none⟩)) rfl (by kernel_rfl) (by kernel_rfl) (by kernel_rfl) (by kernel_rfl) (by kernel_rfl) (fun _ _ _ h => h) (Or.inl ⟨by rfl, fun w' hw => by go_simp⟩) hS ?_
  try simp only [Act.put, List.setIfInBounds_toArray, List.set_cons_zero, List.set_cons_succ]
  refine wpAnyF_take (i := 8) (oi := { dst := some 22, op := Op.load 3 (Operand.tmp 21), type := 3, pos := "heap.go:75", after := #[{ on := 7, ground := Ground.data }], guard := none }) (v := .int .i64 (last + 1)) rfl (by kernel_rfl) (by kernel_rfl) (by kernel_rfl) (by kernel_rfl) (by kernel_rfl) (fun _ _ _ h => h) (Or.inl ⟨by rfl, fun w' hw => by (have q2 := hw.cell c2 hhb; go_simp)⟩) hS ?_
  try simp only [Act.put, List.setIfInBounds_toArray, List.set_cons_zero, List.set_cons_succ]
  refine wpAnyF_take (i := 9) (oi := { dst := some 23, op := Op.move (Operand.tmp 1), type := 29, pos := "heap.go:75", after := #[], guard := none }) (v := .int .u64 due) rfl (by kernel_rfl) (by kernel_rfl) (by kernel_rfl) (by kernel_rfl) (by kernel_rfl) (fun _ _ _ h => h) (Or.inl ⟨by rfl, fun w' hw => by go_simp⟩) hS ?_
  try simp only [Act.put, List.setIfInBounds_toArray, List.set_cons_zero, List.set_cons_succ]
  refine wpAnyF_take (i := 10) (oi := { dst := some 24, op := Op.move (Operand.tmp 2), type := 9, pos := "heap.go:75", after := #[], guard := none }) (v := x) rfl (by kernel_rfl) (by kernel_rfl) (by kernel_rfl) (by kernel_rfl) (by kernel_rfl) (fun _ _ _ h => h) (Or.inl ⟨by rfl, fun w' hw => by go_simp⟩) hS ?_
  try simp only [Act.put, List.setIfInBounds_toArray, List.set_cons_zero, List.set_cons_succ]
  refine wpAnyF_take (i := 11) (oi := { dst := some 25, op := Op.build 97 #[(0, Operand.tmp 22), (1, Operand.tmp 23), (2, Operand.tmp 24)], type := 97, pos := "heap.go:75", after := #[{ on := 8, ground := Ground.data }, { on := 9, ground := Ground.data }, { on := 10, ground := Ground.data }], guard := none }) (v := .agg #[.int .i64 (last + 1), .int .u64 due, x]) rfl (by kernel_rfl) (by kernel_rfl) (by kernel_rfl) (by kernel_rfl) (by kernel_rfl) (fun _ _ _ h => h) (Or.inl ⟨by rfl, fun w' hw => by go_simp⟩) hS ?_
  try simp only [Act.put, List.setIfInBounds_toArray, List.set_cons_zero, List.set_cons_succ]
  refine wpAnyF_ready (rs := [12]) (by kernel_rfl) (by simp) ?_
  refine AllReadyF.cons (o := { dst := some 26, op := Op.buildSlice 91 1 #[(0, Operand.tmp 25)], type := 91, pos := "heap.go:75", after := #[{ on := 11, ground := Ground.data }], guard := none }) rfl (fun K hK => ?_) AllReadyF.nil
  refine step_of_list rfl ?_
  refine wpList_buildSlice_rows rfl 91 1 _ rfl 97 3 i97 _ Try.underlying91 hi97 hz97 hs97 (by omega) [[.int .i64 (last + 1), .int .u64 due, x]] rfl (by simp) (by omega) (by rfl) ?_
  have tb := (Touch.refl [] W).alloc (.cells [[.int .i64 (last + 1), .int .u64 due, x]].flatten.toArray 97)
  have hrow2 := (hT.touch tb (by simp)).row
  have hnw := range_new W [[.int .i64 (last + 1), .int .u64 due, x]].flatten 97
  have hS2 := hS.trans tb (by simp)
  refine ⟨rfl, hK.out _ _ hS2 (fun _ => ?_)⟩
  clear hK K hS
  have hS := hS2
  clear hS2
  generalize hW1 : W.alloc (.cells [[.int .i64 (last + 1), .int .u64 due, x]].flatten.toArray 97) = W1 at *
  have z1 : W1.heap.size = W.heap.size + 1 := by rw [← hW1]; simp
  clear hW1
  try simp only [Act.put, List.setIfInBounds_toArray, List.set_cons_zero, List.set_cons_succ]
  refine wpAnyF_ready (rs := [13]) (by kernel_rfl) (by simp) ?_
  refine AllReadyF.cons (o := { dst := some 27, op := Op.call { callee := Callee.builtin Builtin.append, args := #[Operand.tmp 18, Operand.tmp 26], argTypes := #[91, 91] }, type := 91, pos := "heap.go:75", after := #[{ on := 4, ground := Ground.data }, { on := 12, ground := Ground.data }], guard := none }) rfl (fun K hK => ?_) AllReadyF.nil
  refine step_app _ (by rfl) (.tmp 18) (.tmp 26) 91 (by rfl) 97 i97 _ 3 32 Try.underlying91 hi97 hz97 hs97 hb97 hc97 (by omega) _ its.length _ (by rfl) hrow2 (some ⟨W.heap.size, 0, none⟩) 1 1 [[.int .i64 (last + 1), .int .u64 due, x]].flatten (by rfl) (by simp) (by simp) (by intro ad h j u hu; cases h; rw [Addr.add_lit]; exact hnw j u hu) (by intro u hu; simp at hu; rcases hu with rfl | rfl | rfl; rfl; rfl; exact h1) (by unfold maxLen; omega) (by omega) ?_
  intro v2 w2 o2 t2 b2
  have t2' : Touch (Value.slice av its.length cv).ownBlock.toList W w2 := (tb.mono (by simp)).trans t2 (fun y hy => .inl hy)
  have hS2 := hS.trans t2 (fun y hy => .inl hy)
  refine hK.out _ _ hS2 (fun _ => ?_)
  clear hK K hS
  have hS := hS2
  clear hS2
  try simp only [Act.put, List.setIfInBounds_toArray, List.set_cons_zero, List.set_cons_succ]
  refine wpAnyF_take (i := 14) (oi := { dst := some 28, op := Op.nilCheck (Operand.tmp 14), type := 0, pos := "heap.go:75", after := #[{ on := 0, ground := Ground.data }, { on := 0, ground := Ground.phase }, { on := 1, ground := Ground.phase }, { on := 2, ground := Ground.phase }, { on := 3, ground := Ground.phase }, { on := 4, ground := Ground.phase }, { on := 5, ground := Ground.phase }, { on := 6, ground := Ground.phase }, { on := 7, ground := Ground.phase }, { on := 8, ground := Ground.phase }, { on := 9, ground := Ground.phase }, { on := 10, ground := Ground.phase }, { on := 11, ground := Ground.phase }, { on := 12, ground := Ground.phase }, { on := 13, ground := Ground.phase }], guard := none }) (v := .pointer (some ⟨h, 0, none⟩)) rfl (by kernel_rfl) (by kernel_rfl) (by kernel_rfl) (by kernel_rfl) (by kernel_rfl) (fun _ _ _ h => h) (Or.inl ⟨by rfl, fun w' hw => by go_simp⟩) hS ?_
  try simp only [Act.put, List.setIfInBounds_toArray, List.set_cons_zero, List.set_cons_succ]
  refine wpAnyF_take (i := 15) (oi := { dst := some 29, op := Op.fieldAddr 93 (Operand.tmp 28) 0, type := 0, pos := "heap.go:75", after := #[{ on := 14, ground := Ground.data }, { on := 0, ground := Ground.phase }, { on := 1, ground := Ground.phase }, { on := 2, ground := Ground.phase }, { on := 3, ground := Ground.phase }, { on := 4, ground := Ground.phase }, { on := 5, ground := Ground.phase }, { on := 6, ground := Ground.phase }, { on := 7, ground := Ground.phase }, { on := 8, ground := Ground.phase }, { on := 9, ground := Ground.phase }, { on := 10, ground := Ground.phase }, { on := 11, ground := Ground.phase }, { on := 12, ground := Ground.phase }, { on := 13, ground := Ground.phase }], guard := none }) (v := .pointer (some ⟨h, 0, none⟩)) rfl (by kernel_rfl) (by kernel_rfl) (by kernel_rfl) (by kernel_rfl) (by kernel_rfl) (fun _ _ _ h => h) (Or.inl ⟨by rfl, fun w' hw => by go_simp⟩) hS ?_
  try simp only [Act.put, List.setIfInBounds_toArray, List.set_cons_zero, List.set_cons_succ]
  refine wpAnyF_ready (rs := [16]) (by kernel_rfl) (by simp) ?_
  refine AllReadyF.last (o := { dst := none, op := Op.store 91 (Operand.tmp 29) (Operand.tmp 27), type := 0, pos := "heap.go:75", after := #[{ on := 15, ground := Ground.data }, { on := 13, ground := Ground.data }, { on := 13, ground := Ground.chain }, { on := 0, ground := Ground.phase }, { on := 1, ground := Ground.phase }, { on := 2, ground := Ground.phase }, { on := 3, ground := Ground.phase }, { on := 4, ground := Ground.phase }, { on := 5, ground := Ground.phase }, { on := 6, ground := Ground.phase }, { on := 7, ground := Ground.phase }, { on := 8, ground := Ground.phase }, { on := 9, ground := Ground.phase }, { on := 10, ground := Ground.phase }, { on := 11, ground := Ground.phase }, { on := 12, ground := Ground.phase }, { on := 13, ground := Ground.phase }], guard := none }) rfl (by simp) (fun K hK => ?_) AllReadyF.nil
  have q1 := t2'.cell c0 hhb
  have g0 : w2.frozen? ⟨h, 0, none⟩ = false := by simp [World.frozen?, t2'.at hT.hdr hhb]
  obtain ⟨av2, cv2, rfl, hw2, hw3, hw4⟩ := owns_form o2
  go_simp
  have q3 := w2
  refine hK.out _ _ ?_
  clear hK K q3
  try simp only [Act.put, List.setIfInBounds_toArray, List.set_cons_zero, List.set_cons_succ]
  refine wpAnyF_done (by kernel_rfl) ?_ _
  have e2 : ((its ++ [(⟨last + 1, due, x⟩ : Itm)]).map encI).flatten = (its.map encI).flatten ++ [[.int .i64 (last + 1), .int .u64 due, x]].flatten := by simp [encI]
  rw [← e2] at o2
  have hmem : ∀ it ∈ its ++ [(⟨last + 1, due, x⟩ : Itm)], it ∈ its ∨ it = ⟨last + 1, due, x⟩ := by
    intro it hit
    simpa using hit
  have hk1 : okK (last + 1) := okK_of (by omega) (by omega)
  obtain ⟨p3, t3, ft3⟩ := hT.lay (its' := its ++ [(⟨last + 1, due, x⟩ : Itm)]) t2' (by rw [List.length_append]; exact o2) (by rcases b2 with e | e; exact .inl e; exact .inr (.inr ⟨_, e, by omega⟩)) (fun it hit => by rcases hmem it hit with e | rfl; exact hT.one it e; exact h1) (fun it hit => by rcases hmem it hit with e | rfl; exact hT.oks it e; exact hk1) (by simp; omega)
  have P3 := Lib.hid p3
  have F3 := Lib.hid ft3
  have T3 := Lib.hid t3
  clear p3 o2 t2 t2' b2 e2 hmem t3 ft3 hw4 hS q1 g0 hrow2 hnw z1 tb hT c0 c1 c2
  generalize w2.setCell ⟨h, 0, none⟩ (.slice av2 (its.length + 1) cv2) = w3 at *
  obtain ⟨c0, c1, c2⟩ := P3.out.cells
  try simp only [List.length_append, List.length_singleton] at c0
  have hsn : (its ++ [(⟨last + 1, due, x⟩ : Itm)])[its.length]? = some ⟨last + 1, due, x⟩ := by simp
  have hnd : ((its ++ [(⟨last + 1, due, x⟩ : Itm)]).map Itm.id).Nodup := by
    rw [List.map_append, List.nodup_append]
    refine ⟨HK.out.ids, by simp, ?_⟩
    intro a ha b hb
    simp at hb
    obtain ⟨y, hy, rfl⟩ := List.mem_map.1 ha
    have := (HK.out.top y hy).2
    omega
  have hix : IxB kv (its ++ [(⟨last + 1, due, x⟩ : Itm)]) its.length := by
    intro j y hj hy
    have hjl := (List.getElem?_eq_some_iff.1 hy).1
    simp at hjl
    rw [List.getElem?_append_left (by omega)] at hy
    exact HK.out.ix.at_ j y hy
  have HUP := Lib.hid (up_any h m _ _ kv (last + 1) its.length _ w3 P3.out hsn hnd hix HK.out.heap.snoc)
  have HND := Lib.hid hnd
  clear hsn hnd hix
  have hwl : IntKind.i64.wrap ((its.length : Int) + 1 - 1) = (its.length : Int) := by rw [IntKind.wrap_i64] <;> omega
  go_wp2_with fail
  refine HUP.out.mono ?_
  rintro e w4 ⟨j, its4, kv4, rfl, hj, hp4, hperm4, _, hh4, ha4, ho4, t4⟩
  have hkids : Kids Itm.key (its ++ [(⟨last + 1, due, x⟩ : Itm)]) its.length := by
    intro b hb hp u z hu hz
    have := (List.getElem?_eq_some_iff.1 hz).1
    simp at this
    unfold par at hp
    omega
  have hwx := HK.out.hp.hdr
  have B4 := Lib.hid (HB.sifted (last := last + 1) hp4 hperm4 HND.out (hh4 hkids) ha4 ho4 (by
    intro id hid
    exact HK.out.ix.no id (fun y hy => hid y (by simp [hy]))) (by
    intro y hy
    simp at hy
    rcases hy with hy | rfl
    · have := HK.out.top y hy
      omega
    · simp
      omega) (by omega) (by omega))
  have T4 := Lib.hid (show Touch (Hp.foot h m (.slice av its.length cv)) w w4 from (t1.mono (S' := Hp.foot h m (.slice av its.length cv)) (by simp [Hp.foot])).trans ((TW.out.trans T3.out (fun y hy => .inl hy)).trans t4 (by
    intro y hy
    have hf := F3.out y (by simp only [Hp.foot, List.mem_cons] at hy ⊢; exact .inr hy)
    rcases hf with hf | hf
    · exact .inl hf
    · exact .inr (Nat.le_trans TW.out.size hf))) (fun y hy => .inl hy))
  have F4 := Lib.hid (show Foot h m (.slice av its.length cv) (.slice av2 (its.length + 1) cv2) w from by
    intro y hy
    rcases F3.out y hy with hf | hf
    · exact .inl hf
    · exact .inr (Nat.le_trans (Nat.le_trans t1.size TW.out.size) hf))
  have PM := Lib.hid hperm4
  have P4 := Lib.hid hp4
  obtain ⟨c0, c1, c2⟩ := hp4.cells
  clear hp4 hperm4 hh4 ha4 ho4 t4 hkids hwx
  go_wp2_with fail
  go_ret
  exact ⟨_, its4, kv4, rfl, B4.out, PM.out, F4.out, T4.out⟩
end Go.Proofs.Ytpbabdoecjlifaa.S

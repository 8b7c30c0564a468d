/-
  The reference heap's Push and RemoveAt.
-/
import Derived.Test.YtpbabdoecjlifaaRh
import Derived.Test.YtpbabdoecjlifaaRec4
namespace Go.Proofs.Ytpbabdoecjlifaa
open Go.RowKit Go.Sort
set_option linter.unusedVariables false
set_option linter.unusedSimpArgs false

theorem info43 : (Try.prog.info? 43).map (fun i => (i.size, i.bytes, i.zero.map fun z => z.cells.size)) = some (3, 24, some 3) := by kernel_rfl
theorem size43 : (Try.prog.info? 43).map (·.size) = some 3 := by kernel_rfl
theorem encI_take (L : List Itm) (i : Nat) : ∀ x ∈ (L.map encI).take i, x.length = 3 := fun x hx => encI_len L x (List.mem_of_mem_take hx)
theorem encI_drop (L : List Itm) (i : Nat) : ∀ x ∈ (L.map encI).drop i, x.length = 3 := fun x hx => encI_len L x (List.mem_of_mem_drop hx)
theorem encI_one_sub {L : List Itm} (h1 : ∀ it ∈ L, ∃ k, it.x = .int .i64 k) {l : List (List Value)} (h : l.Sublist (L.map encI)) : ∀ u ∈ l.flatten, u.oneCell' = true := by
  intro u hu
  obtain ⟨x, hx, hux⟩ := List.mem_flatten.1 hu
  obtain ⟨it, hit, rfl⟩ := List.mem_map.1 (h.subset hx)
  obtain ⟨k, hk⟩ := h1 it hit
  simp only [encI, hk, List.mem_cons, List.not_mem_nil, or_false] at hux
  rcases hux with rfl | rfl | rfl <;> rfl
theorem own_new {v v' : Value} {s m : Nat} (b : v'.ownBlock = v.ownBlock ∨ v'.ownBlock = some s) (h1 : ∀ g, v.ownBlock = some g → m ≤ g) (hs : m ≤ s) : ∀ g, v'.ownBlock = some g → m ≤ g := by
  intro g hg
  rcases b with e | e
  · rw [e] at hg
    exact h1 g hg
  · rw [e] at hg
    simp at hg
    omega
section
variable {w : World} {x : Nat} {v : Value} {L : List Itm} {last : Int}
theorem Rh.bump (k : Rh w x v L last) (l : Int) : Rh (w.setCell ⟨x, 1, none⟩ (.int .i64 l)) x v L l ∧ Touch [x] w (w.setCell ⟨x, 1, none⟩ (.int .i64 l)) := by
  have t := (Touch.refl [x] w).setCell (p := ⟨x, 1, none⟩) (by simp) (.int .i64 l)
  refine ⟨⟨?_, t.owns k.row (by intro g hg e; simp at e; exact k.hv (by rw [hg, e])), k.one, k.hv, k.few⟩, t⟩
  simp [World.setCell, Array.getElem?_modify, k.hdr]
theorem Rh.lay (k : Rh w x v L last) {v' : Value} {L' : List Itm} {w2 : World} (t : Touch v.ownBlock.toList w w2) (hm' : w2.ownsRow 0 43 3 v' L'.length (L'.map encI).flatten) (hn : v'.ownBlock = v.ownBlock ∨ ∃ g, v'.ownBlock = some g ∧ w.heap.size ≤ g) (h1 : ∀ it ∈ L', ∃ k, it.x = .int .i64 k) (h3 : L'.length ≤ 1000) :
    Rh (w2.setCell ⟨x, 0, none⟩ v') x v' L' last ∧ Touch (Rh.foot x v) w (w2.setCell ⟨x, 0, none⟩ v') ∧ (∀ y ∈ Rh.foot x v', y ∈ Rh.foot x v ∨ w.heap.size ≤ y) := by
  have hxl : x < w.heap.size := k.lt x (by simp [Rh.foot])
  have t3 := (Touch.refl [x] w2).setCell (p := ⟨x, 0, none⟩) (by simp) v'
  have hv1 : x ∉ v.ownBlock.toList := by
    intro e
    exact k.hv (by simpa using e)
  have hv3 : v'.ownBlock ≠ some x := by
    rcases hn with e | ⟨g, e, hg⟩
    · rw [e]
      exact k.hv
    · rw [e]
      simp
      omega
  have hH := t.at k.hdr hv1
  refine ⟨⟨?_, t3.owns hm' (by intro g hg e; simp at e; exact hv3 (by rw [hg, e])), h1, hv3, h3⟩, ?_, ?_⟩
  · simp [World.setCell, Array.getElem?_modify, hH]
  · exact (t.mono (fun y hy => .inl (by simp [Rh.foot] at hy ⊢; exact .inr hy))).trans t3 (by simp [Rh.foot])
  · intro y hy
    simp only [Rh.foot, List.mem_cons, Option.mem_toList] at hy ⊢
    rcases hy with rfl | hy
    · exact .inl (.inl rfl)
    · rcases hn with e | ⟨g, e, hg⟩
      · rw [e] at hy
        exact .inl (.inr hy)
      · rw [e] at hy
        cases hy
        exact .inr hg
theorem Rh.rd {g n c : Nat} (k : Rh w x (.slice (some ⟨g, 0, none⟩) n c) L last) : Rd w 3 g (.slice (some ⟨g, 0, none⟩) n c) (L.map encI) := by
  have hnn : n = L.length := by
    obtain ⟨a', c', hv, _⟩ := owns_form k.row
    simp at hv
    exact hv.2.1
  subst hnn
  exact Rd.of_owns (k := 3) (g := g) (T := 43) (v := .slice (some ⟨g, 0, none⟩) L.length c) (w := w) (xs := L.map encI) (encI_len L) (by rw [List.length_map]; exact k.row) (by simp [Value.ownBlock])
theorem remove_fin {w2 : World} {g cv n i : Nat} {v2 : Value} (hT : Rh w x (.slice (some ⟨g, 0, none⟩) n cv) L last) (hn : L.length = n) (hi : i < n)
    (t2 : Touch [] w w2) (o2 : w2.ownsRow 0 43 3 v2 (i + (n - (i + 1))) (((L.map encI).take i).flatten ++ ((L.map encI).drop (i + 1)).flatten)) (hnew : ∀ g2, v2.ownBlock = some g2 → w.heap.size ≤ g2) :
    Rh (w2.setCell ⟨x, 0, none⟩ v2) x v2 (L.eraseIdx i) last := by
  have hxl : x < w.heap.size := hT.lt x (by simp [Rh.foot])
  have e1 : ((L.eraseIdx i).map encI).flatten = ((L.map encI).take i).flatten ++ ((L.map encI).drop (i + 1)).flatten := by
    rw [List.eraseIdx_eq_take_drop_succ, List.map_append, List.flatten_append, List.map_take, List.map_drop]
  have e2 : (L.eraseIdx i).length = i + (n - (i + 1)) := by
    rw [List.length_eraseIdx_of_lt (by omega)]
    omega
  have t3 := (Touch.refl [x] w2).setCell (p := ⟨x, 0, none⟩) (by simp) v2
  have hv3 : v2.ownBlock ≠ some x := by
    intro e
    have := hnew x e
    omega
  have hH := t2.at hT.hdr (by simp)
  refine ⟨?_, t3.owns (by rw [e1, e2]; exact o2) (by intro g hg e; simp at e; exact hv3 (by rw [hg, e])), fun it hit => hT.one it (List.mem_of_mem_eraseIdx hit), hv3, by have := hT.few; omega⟩
  simp [World.setCell, Array.getElem?_modify, hH]
end
section
variable (x : Nat) (v : Value) (L : List Itm) (last : Int) (w : World) (k : Rh w x v L last)
include k
set_option maxRecDepth 100000 in
set_option maxHeartbeats 2000000 in
theorem rpush_any (due y : Int) (hl : 0 ≤ last ∧ last < 1000) (hfw : L.length < 1000) :
    Calls Try.prog 13 #[.pointer (some ⟨x, 0, none⟩), .int .u64 due, .int .i64 y] w fun e w' => e = .returned (.int .i64 (last + 1)) ∧ ∃ v', Rh w' x v' (L ++ [⟨last + 1, due, .int .i64 y⟩]) (last + 1) ∧ (∀ y ∈ Rh.foot x v', y ∈ Rh.foot x v ∨ w.heap.size ≤ y) ∧ Touch (Rh.foot x v) w w' := by
  obtain ⟨i43, z43, hi43, hz43, hs43, hb43, hc43⟩ := info_parts info43
  obtain ⟨av, cv, rfl, hv1, hv2, hv3⟩ := k.form
  obtain ⟨c0, c1⟩ := k.cells
  have f1 := k.frozen 1
  have hl0 := hl.1
  have hl1 := hl.2
  have hw1 : IntKind.i64.wrap (last + 1) = last + 1 := by rw [IntKind.wrap_i64] <;> omega
  obtain ⟨p1, t1⟩ := k.bump (last + 1)
  have HP := Lib.hid p1
  clear k p1 hv3 hl
  go_enter Try.func13, Try.ntmps13
  go_wp2_with fail
  generalize w.setCell ⟨x, 1, none⟩ (.int .i64 (last + 1)) = w1 at *
  clear c0 c1 f1
  refine wp_region_F (S := Touch (Value.slice av L.length cv).ownBlock.toList w1.drew) [16] (by kernel_rfl) ?_
  change wpAnyF _ _ _ _ _ _ _ _ _ w1.drew
  have hT := HP.out.touch ((Touch.refl [] w1).drew) (by simp)
  generalize hWd : w1.drew = W at *
  have TW := Lib.hid (show Touch (Rh.foot x (.slice av L.length cv)) w1 W by rw [← hWd]; exact (Touch.refl _ w1).drew)
  clear hWd
  have hS := Touch.refl (Value.slice av L.length cv).ownBlock.toList W
  have hhb : x ∉ (Value.slice av L.length cv).ownBlock.toList := by
    intro e
    exact HP.out.hv (by simpa using e)
  obtain ⟨c0, c1⟩ := hT.cells
  refine wpAnyF_take (i := 0) (oi := { dst := some 14, op := Op.move (Operand.tmp 0), type := 25, pos := "ref.go:61", after := #[], guard := none }) (v := .pointer (some ⟨x, 0, none⟩)) rfl (by kernel_rfl) (by kernel_rfl) (by kernel_rfl) (by kernel_rfl) (by kernel_rfl) (fun _ _ _ h => h) (Or.inl ⟨by rfl, fun w' hw => by go_simp⟩) hS ?_
  try simp only [Act.put, List.setIfInBounds_toArray, List.set_cons_zero, List.set_cons_succ]
  refine wpAnyF_take (i := 1) (oi := { dst := some 15, op := Op.move (Operand.tmp 0), type := 25, pos := "ref.go:61", after := #[], guard := none }) (v := .pointer (some ⟨x, 0, none⟩)) rfl (by kernel_rfl) (by kernel_rfl) (by kernel_rfl) (by kernel_rfl) (by kernel_rfl) (fun _ _ _ h => h) (Or.inl ⟨by rfl, fun w' hw => by go_simp⟩) hS ?_
  try simp only [Act.put, List.setIfInBounds_toArray, List.set_cons_zero, List.set_cons_succ]
  refine wpAnyF_take (i := 2) (oi := { dst := some 16, op := Op.nilCheck (Operand.tmp 15), type := 0, pos := "ref.go:61", after := #[{ on := 1, ground := Ground.data }], guard := none }) (v := .pointer (some ⟨x, 0, none⟩)) rfl (by kernel_rfl) (by kernel_rfl) (by kernel_rfl) (by kernel_rfl) (by kernel_rfl) (fun _ _ _ h => h) (Or.inl ⟨by rfl, fun w' hw => by go_simp⟩) hS ?_
  try simp only [Act.put, List.setIfInBounds_toArray, List.set_cons_zero, List.set_cons_succ]
  refine wpAnyF_take (i := 3) (oi := { dst := some 17, op := Op.fieldAddr 28 (Operand.tmp 16) 0, type := 0, pos := "ref.go:61", after := #[{ on := 2, ground := Ground.data }], guard := none }) (v := .pointer (some ⟨x, 0, none⟩)) rfl (by kernel_rfl) (by kernel_rfl) (by kernel_rfl) (by kernel_rfl) (by kernel_rfl) (fun _ _ _ h => h) (Or.inl ⟨by rfl, fun w' hw => by go_simp⟩) hS ?_
  try simp only [Act.put, List.setIfInBounds_toArray, List.set_cons_zero, List.set_cons_succ]
  refine wpAnyF_take (i := 4) (oi := { dst := some 18, op := Op.load 26 (Operand.tmp 17), type := 26, pos := "ref.go:61", after := #[{ on := 3, ground := Ground.data }], guard := none }) (v := Value.slice av L.length cv) rfl (by kernel_rfl) (by kernel_rfl) (by kernel_rfl) (by kernel_rfl) (by kernel_rfl) (fun _ _ _ h => h) (Or.inl ⟨by rfl, fun w' hw => by (have q2 := hw.cell c0 hhb; go_simp)⟩) hS ?_
  try simp only [Act.put, List.setIfInBounds_toArray, List.set_cons_zero, List.set_cons_succ]
  refine wpAnyF_take (i := 5) (oi := { dst := some 19, op := Op.move (Operand.tmp 0), type := 25, pos := "ref.go:61", after := #[], guard := none }) (v := .pointer (some ⟨x, 0, none⟩)) rfl (by kernel_rfl) (by kernel_rfl) (by kernel_rfl) (by kernel_rfl) (by kernel_rfl) (fun _ _ _ h => h) (Or.inl ⟨by rfl, fun w' hw => by go_simp⟩) hS ?_
  try simp only [Act.put, List.setIfInBounds_toArray, List.set_cons_zero, List.set_cons_succ]
  refine wpAnyF_take (i := 6) (oi := { dst := some 20, op := Op.nilCheck (Operand.tmp 19), type := 0, pos := "ref.go:61", after := #[{ on := 5, ground := Ground.data }], guard := none }) (v := .pointer (some ⟨x, 0, none⟩)) rfl (by kernel_rfl) (by kernel_rfl) (by kernel_rfl) (by kernel_rfl) (by kernel_rfl) (fun _ _ _ h => h) (Or.inl ⟨by rfl, fun w' hw => by go_simp⟩) hS ?_
  try simp only [Act.put, List.setIfInBounds_toArray, List.set_cons_zero, List.set_cons_succ]
  refine wpAnyF_take (i := 7) (oi := { dst := some 21, op := Op.fieldAddr 28 (Operand.tmp 20) 1, type := 0, pos := "ref.go:61", after := #[{ on := 6, ground := Ground.data }], guard := none }) (v := .pointer (some ⟨x, 1, none⟩)) rfl (by kernel_rfl) (by kernel_rfl) (by kernel_rfl) (by kernel_rfl) (by kernel_rfl) (fun _ _ _ h => h) (Or.inl ⟨by rfl, fun w' hw => by go_simp⟩) hS ?_
  try simp only [Act.put, List.setIfInBounds_toArray, List.set_cons_zero, List.set_cons_succ]
  refine wpAnyF_take (i := 8) (oi := { dst := some 22, op := Op.load 3 (Operand.tmp 21), type := 3, pos := "ref.go:61", after := #[{ on := 7, ground := Ground.data }], guard := none }) (v := .int .i64 (last + 1)) rfl (by kernel_rfl) (by kernel_rfl) (by kernel_rfl) (by kernel_rfl) (by kernel_rfl) (fun _ _ _ h => h) (Or.inl ⟨by rfl, fun w' hw => by (have q2 := hw.cell c1 hhb; go_simp)⟩) hS ?_
  try simp only [Act.put, List.setIfInBounds_toArray, List.set_cons_zero, List.set_cons_succ]
  refine wpAnyF_take (i := 9) (oi := { dst := some 23, op := Op.move (Operand.tmp 1), type := 29, pos := "ref.go:61", after := #[], guard := none }) (v := .int .u64 due) rfl (by kernel_rfl) (by kernel_rfl) (by kernel_rfl) (by kernel_rfl) (by kernel_rfl) (fun _ _ _ h => h) (Or.inl ⟨by rfl, fun w' hw => by go_simp⟩) hS ?_
  try simp only [Act.put, List.setIfInBounds_toArray, List.set_cons_zero, List.set_cons_succ]
  refine wpAnyF_take (i := 10) (oi := { dst := some 24, op := Op.move (Operand.tmp 2), type := 3, pos := "ref.go:61", after := #[], guard := none }) (v := .int .i64 y) rfl (by kernel_rfl) (by kernel_rfl) (by kernel_rfl) (by kernel_rfl) (by kernel_rfl) (fun _ _ _ h => h) (Or.inl ⟨by rfl, fun w' hw => by go_simp⟩) hS ?_
  try simp only [Act.put, List.setIfInBounds_toArray, List.set_cons_zero, List.set_cons_succ]
  refine wpAnyF_take (i := 11) (oi := { dst := some 25, op := Op.build 43 #[(0, Operand.tmp 22), (1, Operand.tmp 23), (2, Operand.tmp 24)], type := 43, pos := "ref.go:61", after := #[{ on := 8, ground := Ground.data }, { on := 9, ground := Ground.data }, { on := 10, ground := Ground.data }], guard := none }) (v := .agg #[.int .i64 (last + 1), .int .u64 due, .int .i64 y]) rfl (by kernel_rfl) (by kernel_rfl) (by kernel_rfl) (by kernel_rfl) (by kernel_rfl) (fun _ _ _ h => h) (Or.inl ⟨by rfl, fun w' hw => by go_simp⟩) hS ?_
  try simp only [Act.put, List.setIfInBounds_toArray, List.set_cons_zero, List.set_cons_succ]
  refine wpAnyF_ready (rs := [12]) (by kernel_rfl) (by simp) ?_
  refine AllReadyF.cons (o := { dst := some 26, op := Op.buildSlice 26 1 #[(0, Operand.tmp 25)], type := 26, pos := "ref.go:61", after := #[{ on := 11, ground := Ground.data }], guard := none }) rfl (fun K hK => ?_) AllReadyF.nil
  refine step_of_list rfl ?_
  refine wpList_buildSlice_rows rfl 26 1 _ rfl 43 3 i43 _ Try.underlying26 hi43 hz43 hs43 (by omega) [[.int .i64 (last + 1), .int .u64 due, .int .i64 y]] rfl (by simp) (by omega) (by rfl) ?_
  have tb := (Touch.refl [] W).alloc (.cells [[.int .i64 (last + 1), .int .u64 due, .int .i64 y]].flatten.toArray 43)
  have hrow2 := (hT.touch tb (by simp)).row
  have hnw := range_new W [[.int .i64 (last + 1), .int .u64 due, .int .i64 y]].flatten 43
  have hS2 := hS.trans tb (by simp)
  refine ⟨rfl, hK.out _ _ hS2 (fun _ => ?_)⟩
  clear hK K hS
  have hS := hS2
  clear hS2
  generalize hW1 : W.alloc (.cells [[.int .i64 (last + 1), .int .u64 due, .int .i64 y]].flatten.toArray 43) = W1 at *
  have z1 : W1.heap.size = W.heap.size + 1 := by rw [← hW1]; simp
  clear hW1
  try simp only [Act.put, List.setIfInBounds_toArray, List.set_cons_zero, List.set_cons_succ]
  refine wpAnyF_ready (rs := [13]) (by kernel_rfl) (by simp) ?_
  refine AllReadyF.cons (o := { dst := some 27, op := Op.call { callee := Callee.builtin Builtin.append, args := #[Operand.tmp 18, Operand.tmp 26], argTypes := #[26, 26] }, type := 26, pos := "ref.go:61", after := #[{ on := 4, ground := Ground.data }, { on := 12, ground := Ground.data }], guard := none }) rfl (fun K hK => ?_) AllReadyF.nil
  refine step_app _ (by rfl) (.tmp 18) (.tmp 26) 26 (by rfl) 43 i43 _ 3 24 Try.underlying26 hi43 hz43 hs43 hb43 hc43 (by omega) _ L.length _ (by rfl) hrow2 (some ⟨W.heap.size, 0, none⟩) 1 1 [[.int .i64 (last + 1), .int .u64 due, .int .i64 y]].flatten (by rfl) (by simp) (by simp) (by intro ad h j u hu; cases h; rw [Addr.add_lit]; exact hnw j u hu) (by intro u hu; simp at hu; rcases hu with rfl | rfl | rfl <;> rfl) (by unfold maxLen; omega) (by omega) ?_
  intro v2 w2 o2 t2 b2
  have t2' : Touch (Value.slice av L.length cv).ownBlock.toList W w2 := (tb.mono (by simp)).trans t2 (fun y hy => .inl hy)
  have hS2 := hS.trans t2 (fun y hy => .inl hy)
  refine hK.out _ _ hS2 (fun _ => ?_)
  clear hK K hS
  have hS := hS2
  clear hS2
  try simp only [Act.put, List.setIfInBounds_toArray, List.set_cons_zero, List.set_cons_succ]
  refine wpAnyF_take (i := 14) (oi := { dst := some 28, op := Op.nilCheck (Operand.tmp 14), type := 0, pos := "ref.go:61", after := #[{ on := 0, ground := Ground.data }, { on := 0, ground := Ground.phase }, { on := 1, ground := Ground.phase }, { on := 2, ground := Ground.phase }, { on := 3, ground := Ground.phase }, { on := 4, ground := Ground.phase }, { on := 5, ground := Ground.phase }, { on := 6, ground := Ground.phase }, { on := 7, ground := Ground.phase }, { on := 8, ground := Ground.phase }, { on := 9, ground := Ground.phase }, { on := 10, ground := Ground.phase }, { on := 11, ground := Ground.phase }, { on := 12, ground := Ground.phase }, { on := 13, ground := Ground.phase }], guard := none }) (v := .pointer (some ⟨x, 0, none⟩)) rfl (by kernel_rfl) (by kernel_rfl) (by kernel_rfl) (by kernel_rfl) (by kernel_rfl) (fun _ _ _ h => h) (Or.inl ⟨by rfl, fun w' hw => by go_simp⟩) hS ?_
  try simp only [Act.put, List.setIfInBounds_toArray, List.set_cons_zero, List.set_cons_succ]
  refine wpAnyF_take (i := 15) (oi := { dst := some 29, op := Op.fieldAddr 28 (Operand.tmp 28) 0, type := 0, pos := "ref.go:61", after := #[{ on := 14, ground := Ground.data }, { on := 0, ground := Ground.phase }, { on := 1, ground := Ground.phase }, { on := 2, ground := Ground.phase }, { on := 3, ground := Ground.phase }, { on := 4, ground := Ground.phase }, { on := 5, ground := Ground.phase }, { on := 6, ground := Ground.phase }, { on := 7, ground := Ground.phase }, { on := 8, ground := Ground.phase }, { on := 9, ground := Ground.phase }, { on := 10, ground := Ground.phase }, { on := 11, ground := Ground.phase }, { on := 12, ground := Ground.phase }, { on := 13, ground := Ground.phase }], guard := none }) (v := .pointer (some ⟨x, 0, none⟩)) rfl (by kernel_rfl) (by kernel_rfl) (by kernel_rfl) (by kernel_rfl) (by kernel_rfl) (fun _ _ _ h => h) (Or.inl ⟨by rfl, fun w' hw => by go_simp⟩) hS ?_
  try simp only [Act.put, List.setIfInBounds_toArray, List.set_cons_zero, List.set_cons_succ]
  refine wpAnyF_ready (rs := [16]) (by kernel_rfl) (by simp) ?_
  refine AllReadyF.last (o := { dst := none, op := Op.store 26 (Operand.tmp 29) (Operand.tmp 27), type := 0, pos := "ref.go:61", after := #[{ on := 15, ground := Ground.data }, { on := 13, ground := Ground.data }, { on := 13, ground := Ground.chain }, { on := 0, ground := Ground.phase }, { on := 1, ground := Ground.phase }, { on := 2, ground := Ground.phase }, { on := 3, ground := Ground.phase }, { on := 4, ground := Ground.phase }, { on := 5, ground := Ground.phase }, { on := 6, ground := Ground.phase }, { on := 7, ground := Ground.phase }, { on := 8, ground := Ground.phase }, { on := 9, ground := Ground.phase }, { on := 10, ground := Ground.phase }, { on := 11, ground := Ground.phase }, { on := 12, ground := Ground.phase }, { on := 13, ground := Ground.phase }], guard := none }) rfl (by simp) (fun K hK => ?_) AllReadyF.nil
  have q1 := t2'.cell c0 hhb
  have g0 : w2.frozen? ⟨x, 0, none⟩ = false := by simp [World.frozen?, t2'.at hT.hdr hhb]
  obtain ⟨av2, cv2, rfl, hw2, hw3, hw4⟩ := owns_form o2
  go_simp
  have q3 := w2
  refine hK.out _ _ ?_
  clear hK K q3
  try simp only [Act.put, List.setIfInBounds_toArray, List.set_cons_zero, List.set_cons_succ]
  refine wpAnyF_done (by kernel_rfl) ?_ _
  have e2 : ((L ++ [(⟨last + 1, due, .int .i64 y⟩ : Itm)]).map encI).flatten = (L.map encI).flatten ++ [[.int .i64 (last + 1), .int .u64 due, .int .i64 y]].flatten := by simp [encI]
  rw [← e2] at o2
  obtain ⟨p3, t3, ft3⟩ := hT.lay (L' := L ++ [(⟨last + 1, due, .int .i64 y⟩ : Itm)]) t2' (by rw [List.length_append]; exact o2) (by rcases b2 with e | e; exact .inl e; exact .inr ⟨_, e, by omega⟩) (fun it hit => by rcases List.mem_append.1 hit with hh | hh; exact hT.one it hh; simp at hh; exact ⟨y, by rw [hh]⟩) (by simp; omega)
  have P3 := Lib.hid p3
  have F3 := Lib.hid ft3
  have T3 := Lib.hid (TW.out.trans t3 (fun y hy => .inl hy))
  have hz := TW.out.size
  clear p3 o2 t2 t2' b2 e2 t3 ft3 hw4 hS q1 g0 hrow2 hnw z1 tb hT c0 c1
  generalize w2.setCell ⟨x, 0, none⟩ (.slice av2 (L.length + 1) cv2) = w3 at *
  obtain ⟨c0, c1⟩ := P3.out.cells
  go_wp2_with fail
  go_ret
  exact ⟨rfl, _, P3.out, fun y hy => by
    rcases F3.out y hy with h2 | h2
    · exact .inl h2
    · exact .inr (Nat.le_trans (Nat.le_trans t1.size hz) h2), (t1.mono (by simp [Rh.foot])).trans T3.out (fun y hy => .inl hy)⟩
set_option maxRecDepth 100000 in
set_option maxHeartbeats 2000000 in
theorem rremove_any (i : Nat) (hi : i < L.length) :
    Calls Try.prog 17 #[.pointer (some ⟨x, 0, none⟩), .int .i64 i] w fun e w' => e = .returned (.tuple #[]) ∧ ∃ v', Rh w' x v' (L.eraseIdx i) last ∧ (∀ g, v'.ownBlock = some g → w.heap.size ≤ g) ∧ Touch [x] w w' := by
  obtain ⟨i43, z43, hi43, hz43, hs43, hb43, hc43⟩ := info_parts info43
  obtain ⟨av, cv, rfl, hv1, hv2, hv3⟩ := k.form
  obtain ⟨g, rfl, hgx⟩ := hv3 (by omega)
  have hfew := k.few
  have HONE := Lib.hid k.one
  obtain ⟨n, hN⟩ : ∃ n, L.length = n := ⟨_, rfl⟩
  rw [hN] at hi k hv1 hfew
  have HN := Lib.hid hN
  clear hN hv3
  have i0 : (0 : Int) ≤ (i : Int) := by omega
  have i1 : (i : Int) < (n : Int) := by omega
  have i2 : (i : Int) ≤ (cv : Int) := by omega
  have hi1 := hi
  have HKK := Lib.hid k
  clear k
  go_enter Try.func17, Try.ntmps17
  go_wp2_with fail
  have hS := Touch.refl [] w.drew
  refine wp_region_F (S := Touch [] w.drew) [18] (by kernel_rfl) ?_
  change wpAnyF _ _ _ _ _ _ _ _ _ w.drew
  have t0 := (Touch.refl [] w).drew
  have hT := HKK.out.touch t0 (by simp)
  have hH := hT.hdr
  have hRd := hT.rd
  have hgx' : ¬ g = x := hgx
  generalize w.drew = W at *
  refine wpAnyF_take (i := 0) (oi := { dst := some 4, op := Op.move (Operand.tmp 0), type := 25, pos := "ref.go:88", after := #[], guard := none }) (v := .pointer (some ⟨x, 0, none⟩)) rfl (by kernel_rfl) (by kernel_rfl) (by kernel_rfl) (by kernel_rfl) (by kernel_rfl) (fun _ _ _ h => h) (Or.inl ⟨by rfl, fun w' hw => by go_simp⟩) hS ?_
  try simp only [Act.put, List.setIfInBounds_toArray, List.set_cons_zero, List.set_cons_succ]
  refine wpAnyF_take (i := 1) (oi := { dst := some 5, op := Op.move (Operand.tmp 0), type := 25, pos := "ref.go:88", after := #[], guard := none }) (v := .pointer (some ⟨x, 0, none⟩)) rfl (by kernel_rfl) (by kernel_rfl) (by kernel_rfl) (by kernel_rfl) (by kernel_rfl) (fun _ _ _ h => h) (Or.inl ⟨by rfl, fun w' hw => by go_simp⟩) hS ?_
  try simp only [Act.put, List.setIfInBounds_toArray, List.set_cons_zero, List.set_cons_succ]
  refine wpAnyF_take (i := 2) (oi := { dst := some 6, op := Op.nilCheck (Operand.tmp 5), type := 0, pos := "ref.go:88", after := #[{ on := 1, ground := Ground.data }], guard := none }) (v := .pointer (some ⟨x, 0, none⟩)) rfl (by kernel_rfl) (by kernel_rfl) (by kernel_rfl) (by kernel_rfl) (by kernel_rfl) (fun _ _ _ h => h) (Or.inl ⟨by rfl, fun w' hw => by go_simp⟩) hS ?_
  try simp only [Act.put, List.setIfInBounds_toArray, List.set_cons_zero, List.set_cons_succ]
  refine wpAnyF_take (i := 3) (oi := { dst := some 7, op := Op.fieldAddr 28 (Operand.tmp 6) 0, type := 0, pos := "ref.go:88", after := #[{ on := 2, ground := Ground.data }], guard := none }) (v := .pointer (some ⟨x, 0, none⟩)) rfl (by kernel_rfl) (by kernel_rfl) (by kernel_rfl) (by kernel_rfl) (by kernel_rfl) (fun _ _ _ h => h) (Or.inl ⟨by rfl, fun w' hw => by go_simp⟩) hS ?_
  try simp only [Act.put, List.setIfInBounds_toArray, List.set_cons_zero, List.set_cons_succ]
  refine wpAnyF_take (i := 4) (oi := { dst := some 8, op := Op.load 26 (Operand.tmp 7), type := 26, pos := "ref.go:88", after := #[{ on := 3, ground := Ground.data }], guard := none }) (v := .slice (some ⟨g, 0, none⟩) n cv) rfl (by kernel_rfl) (by kernel_rfl) (by kernel_rfl) (by kernel_rfl) (by kernel_rfl) (fun _ _ _ h => h) (Or.inl ⟨by rfl, fun w' hw => by (have q := hw.at hH (by simp); have q2 : w'.cell? ⟨x, 0, none⟩ = some (.slice (some ⟨g, 0, none⟩) n cv) := (by simp [World.cell?, q]); go_simp)⟩) hS ?_
  try simp only [Act.put, List.setIfInBounds_toArray, List.set_cons_zero, List.set_cons_succ]
  refine wpAnyF_take (i := 5) (oi := { dst := some 9, op := Op.move (Operand.tmp 1), type := 3, pos := "ref.go:88", after := #[], guard := none }) (v := .int .i64 i) rfl (by kernel_rfl) (by kernel_rfl) (by kernel_rfl) (by kernel_rfl) (by kernel_rfl) (fun _ _ _ h => h) (Or.inl ⟨by rfl, fun w' hw => by go_simp⟩) hS ?_
  try simp only [Act.put, List.setIfInBounds_toArray, List.set_cons_zero, List.set_cons_succ]
  refine wpAnyF_take (i := 6) (oi := { dst := some 10, op := Op.slice 26 (Operand.tmp 8) none (some (Operand.tmp 9)) none, type := 26, pos := "ref.go:88", after := #[{ on := 4, ground := Ground.data }, { on := 5, ground := Ground.data }], guard := none }) (v := .slice (some ⟨g, 0, none⟩) i cv) rfl (by kernel_rfl) (by kernel_rfl) (by kernel_rfl) (by kernel_rfl) (by kernel_rfl) (fun _ _ _ h => h) (Or.inl ⟨by rfl, fun w' hw => by go_simp⟩) hS ?_
  try simp only [Act.put, List.setIfInBounds_toArray, List.set_cons_zero, List.set_cons_succ]
  refine wpAnyF_take (i := 8) (oi := { dst := some 12, op := Op.move (Operand.tmp 0), type := 25, pos := "ref.go:88", after := #[], guard := none }) (v := .pointer (some ⟨x, 0, none⟩)) rfl (by kernel_rfl) (by kernel_rfl) (by kernel_rfl) (by kernel_rfl) (by kernel_rfl) (fun _ _ _ h => h) (Or.inl ⟨by rfl, fun w' hw => by go_simp⟩) hS ?_
  try simp only [Act.put, List.setIfInBounds_toArray, List.set_cons_zero, List.set_cons_succ]
  refine wpAnyF_take (i := 9) (oi := { dst := some 13, op := Op.nilCheck (Operand.tmp 12), type := 0, pos := "ref.go:88", after := #[{ on := 8, ground := Ground.data }], guard := none }) (v := .pointer (some ⟨x, 0, none⟩)) rfl (by kernel_rfl) (by kernel_rfl) (by kernel_rfl) (by kernel_rfl) (by kernel_rfl) (fun _ _ _ h => h) (Or.inl ⟨by rfl, fun w' hw => by go_simp⟩) hS ?_
  try simp only [Act.put, List.setIfInBounds_toArray, List.set_cons_zero, List.set_cons_succ]
  refine wpAnyF_take (i := 10) (oi := { dst := some 14, op := Op.fieldAddr 28 (Operand.tmp 13) 0, type := 0, pos := "ref.go:88", after := #[{ on := 9, ground := Ground.data }], guard := none }) (v := .pointer (some ⟨x, 0, none⟩)) rfl (by kernel_rfl) (by kernel_rfl) (by kernel_rfl) (by kernel_rfl) (by kernel_rfl) (fun _ _ _ h => h) (Or.inl ⟨by rfl, fun w' hw => by go_simp⟩) hS ?_
  try simp only [Act.put, List.setIfInBounds_toArray, List.set_cons_zero, List.set_cons_succ]
  refine wpAnyF_take (i := 11) (oi := { dst := some 15, op := Op.load 26 (Operand.tmp 14), type := 26, pos := "ref.go:88", after := #[{ on := 10, ground := Ground.data }], guard := none }) (v := .slice (some ⟨g, 0, none⟩) n cv) rfl (by kernel_rfl) (by kernel_rfl) (by kernel_rfl) (by kernel_rfl) (by kernel_rfl) (fun _ _ _ h => h) (Or.inl ⟨by rfl, fun w' hw => by (have q := hw.at hH (by simp); have q2 : w'.cell? ⟨x, 0, none⟩ = some (.slice (some ⟨g, 0, none⟩) n cv) := (by simp [World.cell?, q]); go_simp)⟩) hS ?_
  try simp only [Act.put, List.setIfInBounds_toArray, List.set_cons_zero, List.set_cons_succ]
  refine wpAnyF_take (i := 12) (oi := { dst := some 16, op := Op.move (Operand.tmp 1), type := 3, pos := "ref.go:88", after := #[], guard := none }) (v := .int .i64 i) rfl (by kernel_rfl) (by kernel_rfl) (by kernel_rfl) (by kernel_rfl) (by kernel_rfl) (fun _ _ _ h => h) (Or.inl ⟨by rfl, fun w' hw => by go_simp⟩) hS ?_
  try simp only [Act.put, List.setIfInBounds_toArray, List.set_cons_zero, List.set_cons_succ]
  refine wpAnyF_take (i := 13) (oi := { dst := some 17, op := Op.binOp BinOp.add 3 (Operand.tmp 16) (Operand.const (Value.int IntKind.i64 1)) 3, type := 3, pos := "ref.go:88", after := #[{ on := 12, ground := Ground.data }], guard := none }) (v := .int .i64 ((i + 1 : Nat) : Int)) rfl (by kernel_rfl) (by kernel_rfl) (by kernel_rfl) (by kernel_rfl) (by kernel_rfl) (fun _ _ _ h => h) (Or.inl ⟨by rfl, fun w' hw => by (go_simp; rw [IntKind.wrap_i64]; omega)⟩) hS ?_
  try simp only [Act.put, List.setIfInBounds_toArray, List.set_cons_zero, List.set_cons_succ]
  refine wpAnyF_take (i := 14) (oi := { dst := some 18, op := Op.slice 26 (Operand.tmp 15) (some (Operand.tmp 17)) none none, type := 26, pos := "ref.go:88", after := #[{ on := 11, ground := Ground.data }, { on := 13, ground := Ground.data }], guard := none }) (v := cutv (some ⟨g, 0, none⟩) n cv (i + 1) 3) rfl (by kernel_rfl) (by kernel_rfl) (by kernel_rfl) (by kernel_rfl) (by kernel_rfl) (fun _ _ _ h => h) (yieldsIf_from (by rfl) 26 _ _ rfl 43 3 Try.underlying26 size43 _ _ _ (i + 1) (by rfl) (by rfl) (by omega)) hS ?_
  try simp only [Act.put, List.setIfInBounds_toArray, List.set_cons_zero, List.set_cons_succ]
  refine wpAnyF_ready (rs := [7]) (by kernel_rfl) (by simp) ?_
  refine AllReadyF.cons (o := { dst := some 11, op := Op.call { callee := Callee.builtin Builtin.append, args := #[Operand.const (Value.slice none 0 0), Operand.tmp 10], argTypes := #[26, 26] }, type := 26, pos := "ref.go:88", after := #[{ on := 6, ground := Ground.data }], guard := none }) rfl (fun K hK => ?_) AllReadyF.nil
  have r1 := (hRd.touch hS (by simp)).take i (by rw [List.length_map, HN.out]; omega)
  obtain ⟨p1, p2⟩ := r1.news (by omega) (encI_take L i)
  refine step_app _ (by rfl) (.const (.slice none 0 0)) (.tmp 10) 26 (by rfl) 43 i43 _ 3 24 Try.underlying26 hi43 hz43 hs43 hb43 hc43 (by omega) _ 0 _ (by rfl) (World.ownsRow_nil _ _ _ _) _ i _ ((L.map encI).take i).flatten (by rfl) (by rw [flat_len (encI_take L i), List.length_take, List.length_map, HN.out]; omega) p1 p2 (encI_one_sub HONE.out (List.take_sublist _ _)) (by unfold maxLen; omega) (by omega) ?_
  intro v1 w1 o1 t1 b1
  simp only [Nat.zero_add, List.nil_append] at o1
  have t1' : Touch [] W w1 := t1.mono (by simp [Value.ownBlock])
  have hS2 := hS.trans t1' (by simp)
  refine hK.out _ _ hS2 (fun _ => ?_)
  clear hK K hS p1 p2 r1 t1
  have hS := hS2
  clear hS2
  try simp only [Act.put, List.setIfInBounds_toArray, List.set_cons_zero, List.set_cons_succ]
  refine wpAnyF_ready (rs := [15]) (by kernel_rfl) (by simp) ?_
  refine AllReadyF.cons (o := { dst := some 19, op := Op.call { callee := Callee.builtin Builtin.append, args := #[Operand.tmp 11, Operand.tmp 18], argTypes := #[26, 26] }, type := 26, pos := "ref.go:88", after := #[{ on := 7, ground := Ground.data }, { on := 14, ground := Ground.data }, { on := 7, ground := Ground.chain }], guard := none }) rfl (fun K hK => ?_) AllReadyF.nil
  have r2 := (hRd.touch hS (by simp)).drop (P := Try.prog) (T := 0) (e := 0) (i + 1) (by rw [List.length_map, HN.out]; omega)
  obtain ⟨p1, p2⟩ := r2.news (by omega) (encI_drop L (i + 1))
  refine step_app _ (by rfl) (.tmp 11) (.tmp 18) 26 (by rfl) 43 i43 _ 3 24 Try.underlying26 hi43 hz43 hs43 hb43 hc43 (by omega) _ i _ (by rfl) o1 _ (n - (i + 1)) _ ((L.map encI).drop (i + 1)).flatten (by rfl) (by rw [flat_len (encI_drop L (i + 1))]; simp [HN.out]) p1 p2 (encI_one_sub HONE.out (List.drop_sublist _ _)) (by unfold maxLen; omega) (by omega) ?_
  intro v2 w2 o2 t2 b2
  have hz1 := t1'.size
  have hnew1 := own_new b1 (m := W.heap.size) (by simp [Value.ownBlock]) (Nat.le_refl _)
  have hnew := own_new b2 hnew1 hz1
  have t2' : Touch [] W w2 := t1'.trans t2 (fun y hy => .inr (hnew1 y (by simpa using hy)))
  have hS2 := hS.trans t2 (fun y hy => .inr (hnew1 y (by simpa using hy)))
  refine hK.out _ _ hS2 (fun _ => ?_)
  clear hK K hS p1 p2 r2 t2 o1 b1 b2 hnew1
  have hS := hS2
  clear hS2
  try simp only [Act.put, List.setIfInBounds_toArray, List.set_cons_zero, List.set_cons_succ]
  refine wpAnyF_take (i := 16) (oi := { dst := some 20, op := Op.nilCheck (Operand.tmp 4), type := 0, pos := "ref.go:88", after := #[{ on := 0, ground := Ground.data }, { on := 0, ground := Ground.phase }, { on := 1, ground := Ground.phase }, { on := 2, ground := Ground.phase }, { on := 3, ground := Ground.phase }, { on := 4, ground := Ground.phase }, { on := 5, ground := Ground.phase }, { on := 6, ground := Ground.phase }, { on := 7, ground := Ground.phase }, { on := 8, ground := Ground.phase }, { on := 9, ground := Ground.phase }, { on := 10, ground := Ground.phase }, { on := 11, ground := Ground.phase }, { on := 12, ground := Ground.phase }, { on := 13, ground := Ground.phase }, { on := 14, ground := Ground.phase }, { on := 15, ground := Ground.phase }], guard := none }) (v := .pointer (some ⟨x, 0, none⟩)) rfl (by kernel_rfl) (by kernel_rfl) (by kernel_rfl) (by kernel_rfl) (by kernel_rfl) (fun _ _ _ h => h) (Or.inl ⟨by rfl, fun w' hw => by go_simp⟩) hS ?_
  try simp only [Act.put, List.setIfInBounds_toArray, List.set_cons_zero, List.set_cons_succ]
  refine wpAnyF_take (i := 17) (oi := { dst := some 21, op := Op.fieldAddr 28 (Operand.tmp 20) 0, type := 0, pos := "ref.go:88", after := #[{ on := 16, ground := Ground.data }, { on := 0, ground := Ground.phase }, { on := 1, ground := Ground.phase }, { on := 2, ground := Ground.phase }, { on := 3, ground := Ground.phase }, { on := 4, ground := Ground.phase }, { on := 5, ground := Ground.phase }, { on := 6, ground := Ground.phase }, { on := 7, ground := Ground.phase }, { on := 8, ground := Ground.phase }, { on := 9, ground := Ground.phase }, { on := 10, ground := Ground.phase }, { on := 11, ground := Ground.phase }, { on := 12, ground := Ground.phase }, { on := 13, ground := Ground.phase }, { on := 14, ground := Ground.phase }, { on := 15, ground := Ground.phase }], guard := none }) (v := .pointer (some ⟨x, 0, none⟩)) rfl (by kernel_rfl) (by kernel_rfl) (by kernel_rfl) (by kernel_rfl) (by kernel_rfl) (fun _ _ _ h => h) (Or.inl ⟨by rfl, fun w' hw => by go_simp⟩) hS ?_
  try simp only [Act.put, List.setIfInBounds_toArray, List.set_cons_zero, List.set_cons_succ]
  refine wpAnyF_ready (rs := [18]) (by kernel_rfl) (by simp) ?_
  refine AllReadyF.last (o := { dst := none, op := Op.store 26 (Operand.tmp 21) (Operand.tmp 19), type := 0, pos := "ref.go:88", after := #[{ on := 17, ground := Ground.data }, { on := 15, ground := Ground.data }, { on := 15, ground := Ground.chain }, { on := 0, ground := Ground.phase }, { on := 1, ground := Ground.phase }, { on := 2, ground := Ground.phase }, { on := 3, ground := Ground.phase }, { on := 4, ground := Ground.phase }, { on := 5, ground := Ground.phase }, { on := 6, ground := Ground.phase }, { on := 7, ground := Ground.phase }, { on := 8, ground := Ground.phase }, { on := 9, ground := Ground.phase }, { on := 10, ground := Ground.phase }, { on := 11, ground := Ground.phase }, { on := 12, ground := Ground.phase }, { on := 13, ground := Ground.phase }, { on := 14, ground := Ground.phase }, { on := 15, ground := Ground.phase }], guard := none }) rfl (by simp) (fun K hK => ?_) AllReadyF.nil
  have hH2 := t2'.at hH (by simp)
  have q1 : w2.cell? ⟨x, 0, none⟩ = some (.slice (some ⟨g, 0, none⟩) n cv) := by simp [World.cell?, hH2]
  have q2 : w2.frozen? ⟨x, 0, none⟩ = false := by simp [World.frozen?, hH2]
  obtain ⟨a2, c2, rfl, _⟩ := owns_form o2
  go_simp
  have t3 := (Touch.refl [x] w2).setCell (p := ⟨x, 0, none⟩) (by simp) (.slice a2 (i + (n - (i + 1))) c2)
  have hS2 : Touch [x] W (w2.setCell ⟨x, 0, none⟩ (.slice a2 (i + (n - (i + 1))) c2)) := (t2'.mono (by simp)).trans t3 (by simp)
  refine hK.out _ _ ?_
  clear hK K
  try simp only [Act.put, List.setIfInBounds_toArray, List.set_cons_zero, List.set_cons_succ]
  refine wpAnyF_done (by kernel_rfl) ?_ _
  have FIN := Lib.hid (remove_fin hT HN.out hi1 t2' o2 hnew)
  have T := Lib.hid (show Touch [x] w _ from (t0.mono (by simp)).trans hS2 (by simp))
  have HNW := Lib.hid hnew
  have hz0 := t0.size
  go_wp2_with fail
  exact end0 rfl rfl ⟨rfl, _, FIN.out, fun b hb => Nat.le_trans hz0 (HNW.out b hb), T.out⟩
end
end Go.Proofs.Ytpbabdoecjlifaa

/-
  The contract of the reference table's Close.
-/
import Derived.Test.YtnglkdpmkgehoaaRt
import Derived.Test.YtnglkdpmkgehoaaHeldF
namespace Go.Proofs.Ytnglkdpmkgehoaa
open Go.RowKit
set_option linter.unusedVariables false
set_option linter.unusedSimpArgs false

theorem encF_take (live : List Fd) (i : Nat) : ∀ x ∈ (live.map encF).take i, x.length = 4 := fun x hx => encF_all live x (List.mem_of_mem_take hx)
theorem encF_drop (live : List Fd) (i : Nat) : ∀ x ∈ (live.map encF).drop i, x.length = 4 := fun x hx => encF_all live x (List.mem_of_mem_drop hx)
theorem encF_one_sub {live : List Fd} {l : List (List Value)} (h : l.Sublist (live.map encF)) : ∀ u ∈ l.flatten, u.oneCell' = true := by
  intro u hu
  obtain ⟨x, hx, hux⟩ := List.mem_flatten.1 hu
  exact encF_one live u (List.mem_flatten.2 ⟨x, h.subset hx, hux⟩)
theorem Rf.rd {w : World} {x g c n : Nat} {limit : Int} {live : List Fd} {total : Int} (h : Rf w x limit (.slice (some ⟨g, 0, none⟩) n c) live total) : Rd w 4 g (.slice (some ⟨g, 0, none⟩) n c) (live.map encF) := by
  have hnn : n = live.length := by
    obtain ⟨a', c', hv, _⟩ := owns_form h.row
    simp at hv
    exact hv.2.1
  subst hnn
  have := Rd.of_owns (k := 4) (g := g) (T := 56) (v := .slice (some ⟨g, 0, none⟩) live.length c) (w := w) (xs := live.map encF) (encF_all live) (by rw [List.length_map]; exact h.row) (by simp [Value.ownBlock])
  exact this
theorem own_new {v v' : Value} {s m : Nat} (b : v'.ownBlock = v.ownBlock ∨ v'.ownBlock = some s) (h1 : ∀ g, v.ownBlock = some g → m ≤ g) (hs : m ≤ s) : ∀ g, v'.ownBlock = some g → m ≤ g := by
  intro g hg
  rcases b with e | e
  · rw [e] at hg
    exact h1 g hg
  · rw [e] at hg
    simp at hg
    omega
theorem close_fin {W w2 : World} {x g cv n i : Nat} {limit total : Int} {live : List Fd} {k : Key} {f : Fd} {v2 : Value} (hT : Rf W x limit (.slice (some ⟨g, 0, none⟩) n cv) live total) (hn : (live.map (·.key)).Nodup) (hi : i = fdIx live k) (hf : fdAt live k = some f)
    (t2 : Touch [] W w2) (o2 : w2.ownsRow 0 56 4 v2 (i + (n - (i + 1))) (((live.map encF).take i).flatten ++ ((live.map encF).drop (i + 1)).flatten)) (hnew : ∀ g2, v2.ownBlock = some g2 → W.heap.size ≤ g2) (hx : x < W.heap.size) :
    Rf (w2.setCell ⟨x, 1, none⟩ v2) x limit v2 (drop live k) total := by
  have hnn : n = live.length := by
    obtain ⟨a', c', hv, _⟩ := owns_form hT.row
    simp at hv
    exact hv.2.1
  subst hnn
  have hii : live[fdIx live k]? = some f := by rw [← fdAt_ix]; exact hf
  have hlt := fdAt_lt hf
  have hd : drop live k = live.take i ++ live.drop (i + 1) := by
    rw [drop_eraseIdx hn hii (fdAt_some hf).2, ← hi, List.eraseIdx_eq_take_drop_succ]
  have hH := t2.at hT.hdr (by simp)
  have hne : v2.ownBlock ≠ some x := by
    intro e
    have := hnew x e
    omega
  have tt := (Touch.refl [x] w2).setCell (p := ⟨x, 1, none⟩) (by simp) v2
  refine ⟨by simp [World.setCell, Array.getElem?_modify, hH], ?_, hne, ?_⟩
  · have h3 := tt.owns o2 (by intro g2 hg2; simp only [List.mem_singleton]; intro e; exact hne (by rw [hg2, e]))
    have e1 : (drop live k).length = i + (live.length - (i + 1)) := by rw [hd]; simp; omega
    have e2 : ((drop live k).map encF).flatten = ((live.map encF).take i).flatten ++ ((live.map encF).drop (i + 1)).flatten := by rw [hd, List.map_append, List.flatten_append, List.map_take, List.map_drop]
    rw [e1, e2]
    exact h3
  · have := List.Sublist.length_le (List.filter_sublist (l := live) (p := fun f => !decide (f.key = k)))
    exact Nat.le_trans this hT.few

set_option maxRecDepth 100000 in
set_option maxHeartbeats 1000000 in
theorem rclose_no (x : Nat) (limit : Int) (v : Value) (live : List Fd) (total c a : Int) (w : World) (h : Rf w x limit v live total) (hk : okK (c, a)) (hks : ∀ f ∈ live, okK f.key) (hf : fdAt live (c, a) = none) :
    Calls Try.prog 45 #[.pointer (some ⟨x, 0, none⟩), .agg #[.int .i64 c, .int .i64 a]] w fun e w' => e = .returned (.int .i64 4) ∧ Touch [] w w' := by
  have tA := (Touch.refl [] w).alloc (.cells #[.int .i64 c, .int .i64 a] 23)
  have hA := Lib.hid (h.touch tA (by simp))
  have hix : ¬ fdIx live (c, a) < live.length := by rw [fdAt_not hf]; omega
  clear hf h
  go_enter Try.func45, Try.ntmps45
  go_wp2_with fail
  refine (find_any x limit v live total c a _ hA.out hk hks).mono ?_
  rintro e w1 ⟨rfl, t1⟩
  rw [if_neg hix]
  go_wp2_with fail
  go_ret
  exact ⟨rfl, tA.trans t1 (by simp)⟩
set_option maxRecDepth 100000 in
set_option maxHeartbeats 2000000 in
theorem rclose_ok (x : Nat) (limit : Int) (v : Value) (live : List Fd) (total c a : Int) (w : World) (h : Rf w x limit v live total) (hk : okK (c, a)) (hks : ∀ f ∈ live, okK f.key) (hn : (live.map (·.key)).Nodup) (f : Fd) (hf : fdAt live (c, a) = some f) :
    Calls Try.prog 45 #[.pointer (some ⟨x, 0, none⟩), .agg #[.int .i64 c, .int .i64 a]] w fun e w' => e = .returned (.int .i64 0) ∧ ∃ v', Rf w' x limit v' (drop live (c, a)) total ∧ (∀ b, v'.ownBlock = some b → w.heap.size ≤ b) ∧ Touch [x] w w' := by
  obtain ⟨i56, hi56, hz56, hs56, hb56⟩ := info_parts info56
  have tA := (Touch.refl [] w).alloc (.cells #[.int .i64 c, .int .i64 a] 23)
  have hA := Lib.hid (h.touch tA (by simp))
  have hfew := h.few
  have hix := fdAt_lt hf
  obtain ⟨av, cv, rfl, hv1, hv2, hv3⟩ := h.form
  obtain ⟨g, rfl, hgx⟩ := hv3 (by omega)
  have HF := Lib.hid hf
  have hrow := hn
  clear hf h hv3
  go_enter Try.func45, Try.ntmps45
  go_wp2_with fail
  refine (find_any x limit _ live total c a _ hA.out hk hks).mono ?_
  rintro e w1 ⟨rfl, t1⟩
  rw [if_pos hix]
  have t0 : Touch [] w w1.drew := (tA.trans t1 (by simp)).drew
  have hT := (hA.out.touch t1 (by simp)).touch ((Touch.refl [] w1).drew) (by simp)
  obtain ⟨i, hI⟩ : ∃ i, i = fdIx live (c, a) := ⟨_, rfl⟩
  rw [← hI] at hix ⊢
  have HI := Lib.hid hI
  clear hI
  obtain ⟨n, hN⟩ : ∃ n, live.length = n := ⟨_, rfl⟩
  rw [hN] at hix hT hv1 hfew
  have HN := Lib.hid hN
  clear hN
  have i0 : (0 : Int) ≤ (i : Int) := by omega
  have i1 : (i : Int) < (n : Int) := by omega
  have i2 : (i : Int) ≤ (cv : Int) := by omega
  go_wp2_with fail
  have hS := Touch.refl [] w1.drew
  refine wp_region_F (S := Touch [] w1.drew) [18] (by kernel_rfl) ?_
  change wpAnyF _ _ _ _ _ _ _ _ _ w1.drew
  have hH := hT.hdr
  have hRd := hT.rd
  have hgx' : ¬ g = x := hgx
  have hxW := hT.lt x (by simp [Rf.foot])
  generalize w1.drew = W at *
  refine wpAnyF_take (i := 0) (oi := { dst := some 11, op := Op.move (Operand.tmp 0), type := 43, pos := "ref.go:382", after := #[], guard := none }) (v := .pointer (some ⟨x, 0, none⟩)) rfl (by kernel_rfl) (by kernel_rfl) (by kernel_rfl) (by kernel_rfl) (by kernel_rfl) (fun _ _ _ h => h) (Or.inl ⟨by rfl, fun w' hw => by go_simp⟩) hS ?_
  try simp only [Act.put, List.setIfInBounds_toArray, List.set_cons_zero, List.set_cons_succ]
  refine wpAnyF_take (i := 1) (oi := { dst := some 12, op := Op.move (Operand.tmp 0), type := 43, pos := "ref.go:382", after := #[], guard := none }) (v := .pointer (some ⟨x, 0, none⟩)) rfl (by kernel_rfl) (by kernel_rfl) (by kernel_rfl) (by kernel_rfl) (by kernel_rfl) (fun _ _ _ h => h) (Or.inl ⟨by rfl, fun w' hw => by go_simp⟩) hS ?_
  try simp only [Act.put, List.setIfInBounds_toArray, List.set_cons_zero, List.set_cons_succ]
  refine wpAnyF_take (i := 2) (oi := { dst := some 13, op := Op.nilCheck (Operand.tmp 12), type := 0, pos := "ref.go:382", after := #[{ on := 1, ground := Ground.data }], guard := none }) (v := .pointer (some ⟨x, 0, none⟩)) rfl (by kernel_rfl) (by kernel_rfl) (by kernel_rfl) (by kernel_rfl) (by kernel_rfl) (fun _ _ _ h => h) (Or.inl ⟨by rfl, fun w' hw => by go_simp⟩) hS ?_
  try simp only [Act.put, List.setIfInBounds_toArray, List.set_cons_zero, List.set_cons_succ]
  refine wpAnyF_take (i := 3) (oi := { dst := some 14, op := Op.fieldAddr 46 (Operand.tmp 13) 1, type := 0, pos := "ref.go:382", after := #[{ on := 2, ground := Ground.data }], guard := none }) (v := .pointer (some ⟨x, 1, none⟩)) rfl (by kernel_rfl) (by kernel_rfl) (by kernel_rfl) (by kernel_rfl) (by kernel_rfl) (fun _ _ _ h => h) (Or.inl ⟨by rfl, fun w' hw => by go_simp⟩) hS ?_
  try simp only [Act.put, List.setIfInBounds_toArray, List.set_cons_zero, List.set_cons_succ]
  refine wpAnyF_take (i := 4) (oi := { dst := some 15, op := Op.load 44 (Operand.tmp 14), type := 44, pos := "ref.go:382", after := #[{ on := 3, ground := Ground.data }], guard := none }) (v := .slice (some ⟨g, 0, none⟩) n cv) rfl (by kernel_rfl) (by kernel_rfl) (by kernel_rfl) (by kernel_rfl) (by kernel_rfl) (fun _ _ _ h => h) (Or.inl ⟨by rfl, fun w' hw => by (have q := hw.at hH (by simp); have q2 : w'.cell? ⟨x, 1, none⟩ = some (.slice (some ⟨g, 0, none⟩) n cv) := (by simp [World.cell?, q]); go_simp)⟩) hS ?_
  try simp only [Act.put, List.setIfInBounds_toArray, List.set_cons_zero, List.set_cons_succ]
  refine wpAnyF_take (i := 5) (oi := { dst := some 16, op := Op.move (Operand.tmp 5), type := 3, pos := "ref.go:382", after := #[], guard := none }) (v := .int .i64 i) rfl (by kernel_rfl) (by kernel_rfl) (by kernel_rfl) (by kernel_rfl) (by kernel_rfl) (fun _ _ _ h => h) (Or.inl ⟨by rfl, fun w' hw => by go_simp⟩) hS ?_
  try simp only [Act.put, List.setIfInBounds_toArray, List.set_cons_zero, List.set_cons_succ]
  refine wpAnyF_take (i := 6) (oi := { dst := some 17, op := Op.slice 44 (Operand.tmp 15) none (some (Operand.tmp 16)) none, type := 44, pos := "ref.go:382", after := #[{ on := 4, ground := Ground.data }, { on := 5, ground := Ground.data }], guard := none }) (v := .slice (some ⟨g, 0, none⟩) i cv) rfl (by kernel_rfl) (by kernel_rfl) (by kernel_rfl) (by kernel_rfl) (by kernel_rfl) (fun _ _ _ h => h) (Or.inl ⟨by rfl, fun w' hw => by go_simp⟩) hS ?_
  try simp only [Act.put, List.setIfInBounds_toArray, List.set_cons_zero, List.set_cons_succ]
  refine wpAnyF_take (i := 8) (oi := { dst := some 19, op := Op.move (Operand.tmp 0), type := 43, pos := "ref.go:382", after := #[], guard := none }) (v := .pointer (some ⟨x, 0, none⟩)) rfl (by kernel_rfl) (by kernel_rfl) (by kernel_rfl) (by kernel_rfl) (by kernel_rfl) (fun _ _ _ h => h) (Or.inl ⟨by rfl, fun w' hw => by go_simp⟩) hS ?_
  try simp only [Act.put, List.setIfInBounds_toArray, List.set_cons_zero, List.set_cons_succ]
  refine wpAnyF_take (i := 9) (oi := { dst := some 20, op := Op.nilCheck (Operand.tmp 19), type := 0, pos := "ref.go:382", after := #[{ on := 8, ground := Ground.data }], guard := none }) (v := .pointer (some ⟨x, 0, none⟩)) rfl (by kernel_rfl) (by kernel_rfl) (by kernel_rfl) (by kernel_rfl) (by kernel_rfl) (fun _ _ _ h => h) (Or.inl ⟨by rfl, fun w' hw => by go_simp⟩) hS ?_
  try simp only [Act.put, List.setIfInBounds_toArray, List.set_cons_zero, List.set_cons_succ]
  refine wpAnyF_take (i := 10) (oi := { dst := some 21, op := Op.fieldAddr 46 (Operand.tmp 20) 1, type := 0, pos := "ref.go:382", after := #[{ on := 9, ground := Ground.data }], guard := none }) (v := .pointer (some ⟨x, 1, none⟩)) rfl (by kernel_rfl) (by kernel_rfl) (by kernel_rfl) (by kernel_rfl) (by kernel_rfl) (fun _ _ _ h => h) (Or.inl ⟨by rfl, fun w' hw => by go_simp⟩) hS ?_
  try simp only [Act.put, List.setIfInBounds_toArray, List.set_cons_zero, List.set_cons_succ]
  refine wpAnyF_take (i := 11) (oi := { dst := some 22, op := Op.load 44 (Operand.tmp 21), type := 44, pos := "ref.go:382", after := #[{ on := 10, ground := Ground.data }], guard := none }) (v := .slice (some ⟨g, 0, none⟩) n cv) rfl (by kernel_rfl) (by kernel_rfl) (by kernel_rfl) (by kernel_rfl) (by kernel_rfl) (fun _ _ _ h => h) (Or.inl ⟨by rfl, fun w' hw => by (have q := hw.at hH (by simp); have q2 : w'.cell? ⟨x, 1, none⟩ = some (.slice (some ⟨g, 0, none⟩) n cv) := (by simp [World.cell?, q]); go_simp)⟩) hS ?_
  try simp only [Act.put, List.setIfInBounds_toArray, List.set_cons_zero, List.set_cons_succ]
  refine wpAnyF_take (i := 12) (oi := { dst := some 23, op := Op.move (Operand.tmp 5), type := 3, pos := "ref.go:382", after := #[], guard := none }) (v := .int .i64 i) rfl (by kernel_rfl) (by kernel_rfl) (by kernel_rfl) (by kernel_rfl) (by kernel_rfl) (fun _ _ _ h => h) (Or.inl ⟨by rfl, fun w' hw => by go_simp⟩) hS ?_
  try simp only [Act.put, List.setIfInBounds_toArray, List.set_cons_zero, List.set_cons_succ]
  refine wpAnyF_take (i := 13) (oi := { dst := some 24, op := Op.binOp BinOp.add 3 (Operand.tmp 23) (Operand.const (Value.int IntKind.i64 1)) 3, type := 3, pos := "ref.go:382", after := #[{ on := 12, ground := Ground.data }], guard := none }) (v := .int .i64 ((i + 1 : Nat) : Int)) rfl (by kernel_rfl) (by kernel_rfl) (by kernel_rfl) (by kernel_rfl) (by kernel_rfl) (fun _ _ _ h => h) (Or.inl ⟨by rfl, fun w' hw => by (go_simp; rw [IntKind.wrap_i64]; omega)⟩) hS ?_
  try simp only [Act.put, List.setIfInBounds_toArray, List.set_cons_zero, List.set_cons_succ]
  refine wpAnyF_take (i := 14) (oi := { dst := some 25, op := Op.slice 44 (Operand.tmp 22) (some (Operand.tmp 24)) none none, type := 44, pos := "ref.go:382", after := #[{ on := 11, ground := Ground.data }, { on := 13, ground := Ground.data }], guard := none }) (v := cutv (some ⟨g, 0, none⟩) n cv (i + 1) 4) rfl (by kernel_rfl) (by kernel_rfl) (by kernel_rfl) (by kernel_rfl) (by kernel_rfl) (fun _ _ _ h => h) (yieldsIf_from (by rfl) 44 _ _ rfl 56 4 Try.underlying44 size56 _ _ _ (i + 1) (by rfl) (by rfl) (by omega)) hS ?_
  try simp only [Act.put, List.setIfInBounds_toArray, List.set_cons_zero, List.set_cons_succ]
  refine wpAnyF_ready (rs := [7]) (by kernel_rfl) (by simp) ?_
  refine AllReadyF.cons (o := { dst := some 18, op := Op.call { callee := Callee.builtin Builtin.append, args := #[Operand.const (Value.slice none 0 0), Operand.tmp 17], argTypes := #[44, 44] }, type := 44, pos := "ref.go:382", after := #[{ on := 6, ground := Ground.data }], guard := none }) rfl (fun K hK => ?_) AllReadyF.nil
  have r1 := (hRd.touch hS (by simp)).take i (by rw [List.length_map, HN.out]; omega)
  obtain ⟨p1, p2⟩ := r1.news (by omega) (encF_take live i)
  refine step_app _ (by rfl) (.const (.slice none 0 0)) (.tmp 17) 44 (by rfl) 56 i56 _ 4 32 Try.underlying44 hi56 hz56 hs56 hb56 rfl (by omega) _ 0 _ (by rfl) (World.ownsRow_nil _ _ _ _) _ i _ ((live.map encF).take i).flatten (by rfl) (by rw [flat_len (encF_take live i), List.length_take, List.length_map, HN.out]; omega) p1 p2 (encF_one_sub (List.take_sublist _ _)) (by unfold maxLen; omega) (by omega) ?_
  intro v1 w1 o1 t1 b1
  simp only [Nat.zero_add, List.nil_append] at o1
  have t1' : Touch [] W w1 := t1.mono (by simp [Value.ownBlock])
  have hS2 := hS.trans t1' (by simp)
  refine hK.out _ _ hS2 (fun _ => ?_)
  clear hK K hS p1 p2 r1 t1
  have hS := hS2
  clear hS2
  try simp only [Act.put, List.setIfInBounds_toArray, List.set_cons_zero, List.set_cons_succ]
  refine wpAnyF_ready (rs := [15]) (by kernel_rfl) (by simp) ?_
  refine AllReadyF.cons (o := { dst := some 26, op := Op.call { callee := Callee.builtin Builtin.append, args := #[Operand.tmp 18, Operand.tmp 25], argTypes := #[44, 44] }, type := 44, pos := "ref.go:382", after := #[{ on := 7, ground := Ground.data }, { on := 14, ground := Ground.data }, { on := 7, ground := Ground.chain }], guard := none }) rfl (fun K hK => ?_) AllReadyF.nil
  have r2 := (hRd.touch hS (by simp)).drop (P := Try.prog) (T := 0) (e := 0) (i + 1) (by rw [List.length_map, HN.out]; omega)
  obtain ⟨p1, p2⟩ := r2.news (by omega) (encF_drop live (i + 1))
  refine step_app _ (by rfl) (.tmp 18) (.tmp 25) 44 (by rfl) 56 i56 _ 4 32 Try.underlying44 hi56 hz56 hs56 hb56 rfl (by omega) _ i _ (by rfl) o1 _ (n - (i + 1)) _ ((live.map encF).drop (i + 1)).flatten (by rfl) (by rw [flat_len (encF_drop live (i + 1))]; simp [HN.out]) p1 p2 (encF_one_sub (List.drop_sublist _ _)) (by unfold maxLen; omega) (by omega) ?_
  intro v2 w2 o2 t2 b2
  have hz1 := t1'.size
  have hnew1 := own_new b1 (m := W.heap.size) (by simp [Value.ownBlock]) (Nat.le_refl _)
  have hnew := own_new b2 hnew1 hz1
  have t2' : Touch [] W w2 := t1'.trans t2 (fun y hy => .inr (hnew1 y (by simpa using hy)))
  have hS2 := hS.trans t2 (fun y hy => .inr (hnew1 y (by simpa using hy)))
  refine hK.out _ _ hS2 (fun _ => ?_)
  clear hK K hS p1 p2 r2 t2 o1 b1 b2 hnew1
  have hS := hS2
  clear hS2
  try simp only [Act.put, List.setIfInBounds_toArray, List.set_cons_zero, List.set_cons_succ]
  refine wpAnyF_take (i := 16) (oi := { dst := some 27, op := Op.nilCheck (Operand.tmp 11), type := 0, pos := "ref.go:382", after := #[{ on := 0, ground := Ground.data }, { on := 0, ground := Ground.phase }, { on := 1, ground := Ground.phase }, { on := 2, ground := Ground.phase }, { on := 3, ground := Ground.phase }, { on := 4, ground := Ground.phase }, { on := 5, ground := Ground.phase }, { on := 6, ground := Ground.phase }, { on := 7, ground := Ground.phase }, { on := 8, ground := Ground.phase }, { on := 9, ground := Ground.phase }, { on := 10, ground := Ground.phase }, { on := 11, ground := Ground.phase }, { on := 12, ground := Ground.phase }, { on := 13, ground := Ground.phase }, { on := 14, ground := Ground.phase }, { on := 15, ground := Ground.phase }], guard := none }) (v := .pointer (some ⟨x, 0, none⟩)) rfl (by kernel_rfl) (by kernel_rfl) (by kernel_rfl) (by kernel_rfl) (by kernel_rfl) (fun _ _ _ h => h) (Or.inl ⟨by rfl, fun w' hw => by go_simp⟩) hS ?_
  try simp only [Act.put, List.setIfInBounds_toArray, List.set_cons_zero, List.set_cons_succ]
  refine wpAnyF_take (i := 17) (oi := { dst := some 28, op := Op.fieldAddr 46 (Operand.tmp 27) 1, type := 0, pos := "ref.go:382", after := #[{ on := 16, ground := Ground.data }, { on := 0, ground := Ground.phase }, { on := 1, ground := Ground.phase }, { on := 2, ground := Ground.phase }, { on := 3, ground := Ground.phase }, { on := 4, ground := Ground.phase }, { on := 5, ground := Ground.phase }, { on := 6, ground := Ground.phase }, { on := 7, ground := Ground.phase }, { on := 8, ground := Ground.phase }, { on := 9, ground := Ground.phase }, { on := 10, ground := Ground.phase }, { on := 11, ground := Ground.phase }, { on := 12, ground := Ground.phase }, { on := 13, ground := Ground.phase }, { on := 14, ground := Ground.phase }, { on := 15, ground := Ground.phase }], guard := none }) (v := .pointer (some ⟨x, 1, none⟩)) rfl (by kernel_rfl) (by kernel_rfl) (by kernel_rfl) (by kernel_rfl) (by kernel_rfl) (fun _ _ _ h => h) (Or.inl ⟨by rfl, fun w' hw => by go_simp⟩) hS ?_
  try simp only [Act.put, List.setIfInBounds_toArray, List.set_cons_zero, List.set_cons_succ]
  refine wpAnyF_ready (rs := [18]) (by kernel_rfl) (by simp) ?_
  refine AllReadyF.last (o := { dst := none, op := Op.store 44 (Operand.tmp 28) (Operand.tmp 26), type := 0, pos := "ref.go:382", after := #[{ on := 17, ground := Ground.data }, { on := 15, ground := Ground.data }, { on := 15, ground := Ground.chain }, { on := 0, ground := Ground.phase }, { on := 1, ground := Ground.phase }, { on := 2, ground := Ground.phase }, { on := 3, ground := Ground.phase }, { on := 4, ground := Ground.phase }, { on := 5, ground := Ground.phase }, { on := 6, ground := Ground.phase }, { on := 7, ground := Ground.phase }, { on := 8, ground := Ground.phase }, { on := 9, ground := Ground.phase }, { on := 10, ground := Ground.phase }, { on := 11, ground := Ground.phase }, { on := 12, ground := Ground.phase }, { on := 13, ground := Ground.phase }, { on := 14, ground := Ground.phase }, { on := 15, ground := Ground.phase }], guard := none }) rfl (by simp) (fun K hK => ?_) AllReadyF.nil
  have hH2 := t2'.at hH (by simp)
  have q1 : w2.cell? ⟨x, 1, none⟩ = some (.slice (some ⟨g, 0, none⟩) n cv) := by simp [World.cell?, hH2]
  have q2 : w2.frozen? ⟨x, 1, none⟩ = false := by simp [World.frozen?, hH2]
  obtain ⟨a2, c2, rfl, _⟩ := owns_form o2
  go_simp
  have t3 := (Touch.refl [x] w2).setCell (p := ⟨x, 1, none⟩) (by simp) (.slice a2 (i + (n - (i + 1))) c2)
  have hS2 : Touch [x] W (w2.setCell ⟨x, 1, none⟩ (.slice a2 (i + (n - (i + 1))) c2)) := (t2'.mono (by simp)).trans t3 (by simp)
  refine hK.out _ _ ?_
  clear hK K
  try simp only [Act.put, List.setIfInBounds_toArray, List.set_cons_zero, List.set_cons_succ]
  refine wpAnyF_done (by kernel_rfl) ?_ _
  go_wp2_with fail
  go_ret
  exact ⟨rfl, _, close_fin hT hrow HI.out HF.out t2' o2 hnew hxW, fun b hb => Nat.le_trans t0.size (hnew b hb), (t0.mono (by simp)).trans hS2 (by simp)⟩
end Go.Proofs.Ytnglkdpmkgehoaa

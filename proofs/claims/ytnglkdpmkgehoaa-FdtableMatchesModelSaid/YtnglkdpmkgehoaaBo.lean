/-
  The table and the reference table side by side; someEndpoint; applyBoth.
-/
import Derived.Test.YtnglkdpmkgehoaaRo
namespace Go.Proofs.Ytnglkdpmkgehoaa
open Go.RowKit
set_option linter.unusedVariables false
set_option linter.unusedSimpArgs false

/-- Both tables, in the same state; all they consist of was made since w0, and nothing older has turned. -/
structure Both (w0 w : World) (t m u x n : Nat) (v : Value) (live : List Fd) (used : List Bool) (total : Int) : Prop where
  tab : Tab w t m u live used total
  rf : Rf w x n v live total
  len : used.length = n
  ap : ∀ y ∈ Tab.foot t m u live, y ≠ x ∧ v.ownBlock ≠ some y
  lo : (∀ y ∈ Tab.foot t m u live, w0.heap.size ≤ y) ∧ ∀ y ∈ Rf.foot x v, w0.heap.size ≤ y
  t0 : Touch [] w0 w
def fpB (t m u x : Nat) (v : Value) (live : List Fd) : List Nat := Tab.foot t m u live ++ Rf.foot x v
section
variable {w0 w : World} {t m u x n : Nat} {v : Value} {live : List Fd} {used : List Bool} {total : Int}
theorem Tab.oks (h : Tab w t m u live used total) : ∀ f ∈ live, okK f.key := by
  obtain ⟨es, clock, hm⟩ := h.mp
  intro f hf
  exact hm.oks (fdv f) (List.mem_map.2 ⟨f, hf, rfl⟩)
theorem Both.xt (h : Both w0 w t m u x n v live used total) : ∀ y ∈ Rf.foot x v, y ∉ Tab.foot t m u live := by
  intro y hy hm
  obtain ⟨h1, h2⟩ := h.ap y hm
  simp only [Rf.foot, List.mem_cons, Option.mem_toList] at hy
  rcases hy with rfl | hy
  · exact h1 rfl
  · exact h2 hy
theorem Both.touch {S : List Nat} {w' : World} (h : Both w0 w t m u x n v live used total) (ht : Touch S w w') (hS : ∀ y ∈ fpB t m u x v live, y ∉ S) (h0 : ∀ y ∈ S, w0.heap.size ≤ y) : Both w0 w' t m u x n v live used total :=
  ⟨h.tab.touch ht (fun y hy => hS y (List.mem_append_left _ hy)), h.rf.touch ht (fun y hy => hS y (List.mem_append_right _ hy)), h.len, h.ap, h.lo, h.t0.trans ht (fun y hy => .inr (h0 y hy))⟩
theorem Both.quiet {w' : World} (h : Both w0 w t m u x n v live used total) (ht : Touch [] w w') : Both w0 w' t m u x n v live used total := h.touch ht (by simp) (by simp)
theorem Both.lt (h : Both w0 w t m u x n v live used total) : ∀ y ∈ fpB t m u x v live, y < w.heap.size := by
  intro y hy
  rcases List.mem_append.1 hy with hy | hy
  · exact h.tab.lt y hy
  · exact h.rf.lt y hy
theorem sub_gs {S : List Nat} (h : ∀ y ∈ S, y ∈ Tab.foot t m u live) (hb : Both w0 w t m u x n v live used total) : ∀ y ∈ Rf.foot x v, y ∉ S := fun y hy hm => hb.xt y hy (h y hm)
/-- The flags tell the numbers. -/
theorem Tab.flags (h : Tab w t m u live used total) : Flags live used := by
  intro j
  constructor
  · intro hj
    have h1 : ∀ f ∈ live, used[f.no]? = some true := h.nos
    have h2 := h.nod
    have h3 := h.cnt
    exact Classical.byContradiction fun hn => by
      have hx : ∀ f ∈ live, f.no ≠ j := fun f hf e => hn ⟨f, hf, e⟩
      have : (used.set j false).count true + 1 = used.count true := count_set_false used j hj
      have key : ∀ (l : List Fd) (us : List Bool), (∀ f ∈ l, us[f.no]? = some true) → (l.map (·.no)).Nodup → l.length ≤ us.count true := by
        intro l
        induction l with
        | nil => intro us _ _; simp
        | cons f l ih =>
          intro us ha hb
          simp only [List.map_cons, List.nodup_cons] at hb
          have hf := ha f List.mem_cons_self
          have h5 := count_set_false us f.no hf
          have h6 := ih (us.set f.no false) (fun f' hf' => by
            have hne : f.no ≠ f'.no := fun e => hb.1 (List.mem_map.2 ⟨f', hf', e.symm⟩)
            rw [List.getElem?_set_ne hne]
            exact ha f' (List.mem_cons_of_mem _ hf')) hb.2
          simp only [List.length_cons]
          omega
      have h7 := key live (used.set j false) (fun f hf => by
        rw [List.getElem?_set_ne (Ne.symm (hx f hf))]
        exact h1 f hf) h2
      omega
  · rintro ⟨f, hf, rfl⟩
    exact h.nos f hf
theorem hole_full (h : Tab w t m u live used total) : hole used < used.length ↔ live.length < used.length := by
  have h1 := h.cnt
  constructor
  · intro hh
    have := count_set_true used (hole used) (hole_at hh)
    have h2 : (used.set (hole used) true).count true ≤ (used.set (hole used) true).length := List.count_le_length
    rw [List.length_set] at h2
    omega
  · intro hl
    rcases Nat.lt_or_ge (hole used) used.length with h2 | h2
    · exact h2
    · exfalso
      have h3 : ∀ b ∈ used, true = b := by
        intro b hb
        obtain ⟨i, hi⟩ := List.getElem?_of_mem hb
        have hil := (List.getElem?_eq_some_iff.1 hi).1
        have := hole_before (used := used) (k := i) (by omega)
        rw [this] at hi
        exact (Option.some.inj hi)
      have := List.count_eq_length.2 h3
      omega
end

theorem ret_key {fn : Func} {p : Tmp} (h : fn.results = #[.cell p 23]) {R : Ending → World → Prop} {tmps : Array Value} {w : World} {g : Nat} {T : TypeId} {cs : List Value} (hl : cs.length = 2)
    (hp : tmps.getD p undef = .pointer (some ⟨g, 0, none⟩)) (hg : w.heap[g]? = some (.cells cs.toArray T (0, 0))) (hR : R (.returned (.agg cs.toArray)) w) : bodyPost Try.prog fn R .ret { tmps := tmps, defers := [] } w :=
  bodyPost_ret (results_cell_row h tmps w g T cs.toArray (0, 0) _ hp hg Try.underlying23 rfl (by rw [size23]; simp [hl])) rfl hR
def someK (c a : Int) : Key := if gmod c 9 = 8 then (c, a) else (gmod c 4, gmod a 4)
theorem someK_ok {c a : Int} (h : okK (c, a)) : okK (someK c a) := by
  unfold someK
  have h1 := gmod_lo c 4 (by omega)
  have h2 := gmod_hi c 4 (by omega)
  have h3 := gmod_lo a 4 (by omega)
  have h4 := gmod_hi a 4 (by omega)
  split
  · exact h
  · exact okS _ _ h1 (by omega) h3 (by omega)
set_option maxRecDepth 100000 in
set_option maxHeartbeats 2000000 in
theorem some_any (c a : Int) (w : World) : Calls Try.prog 25 #[.agg #[.int .i64 c, .int .i64 a]] w fun e w' => e = .returned (.agg #[.int .i64 (someK c a).1, .int .i64 (someK c a).2]) ∧ Touch [] w w' := by
  have g1 := gmod_lo c 9 (by omega)
  have g2 := gmod_hi c 9 (by omega)
  have m1 := gmod_lo c 4 (by omega)
  have m2 := gmod_hi c 4 (by omega)
  have m3 := gmod_lo a 4 (by omega)
  have m4 := gmod_hi a 4 (by omega)
  have tA := (Touch.refl [] w).alloc (.cells #[.int .i64 c, .int .i64 a] 23)
  have bA := heap_alloc_new w (.cells #[.int .i64 c, .int .i64 a] 23)
  by_cases h8 : gmod c 9 = 8
  · have e : someK c a = (c, a) := by simp [someK, h8]
    rw [e]
    have H8 := Lib.hid h8
    clear e h8
    have hn := heap_alloc_new (w.alloc (.cells #[.int .i64 c, .int .i64 a] 23)) (.cells #[.int .i64 c, .int .i64 a] 23)
    rw [World.size_alloc] at hn
    go_enter Try.func25, Try.ntmps25
    go_wp2_with fail
    refine (mod_any _ _ _ (by omega) (by omega)).mono ?_
    rintro e w' ⟨rfl, rfl⟩
    rw [H8.out]
    go_wp2_with (refine wpList_store_new rfl 23 _ _ rfl _ _ [.int .i64 c, .int .i64 a] (by rfl) (by rfl) rfl size23 (by simp [Value.oneCell']) ?_)
    exact ret_key rfl rfl rfl hn ⟨rfl, tA.alloc _⟩
  · have e : someK c a = (gmod c 4, gmod a 4) := by simp [someK, h8]
    rw [e]
    have hb : (gmod c 9 == 8) = false := by simpa using h8
    clear e h8
    go_enter Try.func25, Try.ntmps25
    go_wp2_with fail
    refine (mod_any _ _ _ (by omega) (by omega)).mono ?_
    rintro e w' ⟨rfl, rfl⟩
    generalize gmod c 9 = q at *
    go_wp2_with fail
    have zW : ((w.alloc (.cells #[.int .i64 c, .int .i64 a] 23)).alloc (.cells #[.int .i64 0, .int .i64 0] 23)).drew = ((w.alloc (.cells #[.int .i64 c, .int .i64 a] 23)).drew).alloc (.cells #[.int .i64 0, .int .i64 0] 23) := rfl
    obtain ⟨a0, a1⟩ := cells_two (((Touch.refl [] (w.alloc (.cells #[.int .i64 c, .int .i64 a] 23))).drew).at bA (by simp))
    have tD := tA.drew
    have eD : (w.alloc (.cells #[.int .i64 c, .int .i64 a] 23)).drew.heap.size = w.heap.size + 1 := by show (w.alloc (.cells #[.int .i64 c, .int .i64 a] 23)).heap.size = w.heap.size + 1; simp
    obtain ⟨V, hV⟩ : ∃ V, V = (w.alloc (.cells #[.int .i64 c, .int .i64 a] 23)).drew := ⟨_, rfl⟩
    rw [← hV] at a0 a1 tD eD zW
    have HV := Lib.hid hV
    have HZ := Lib.hid zW
    clear hV zW
    apply once
    · intro REST
      refine wp_region_held (S := Touch [] V) (by kernel_rfl) ?_
      change wpAnyH _ _ _ _ _ _ _ _ ((w.alloc (.cells #[.int .i64 c, .int .i64 a] 23)).alloc (.cells #[.int .i64 0, .int .i64 0] 23)).drew
      rw [HZ.out]
      have hS := (Touch.refl [] V).alloc (.cells #[.int .i64 0, .int .i64 0] 23)
      refine wpAnyH_take (i := 0) (oi := { dst := some 8, op := Op.fieldAddr 23 (Operand.tmp 1) 0, type := 0, pos := "law.go:41", after := #[], guard := none }) (v := .pointer (some ⟨w.heap.size, 0, none⟩)) rfl (by kernel_rfl) (by kernel_rfl) (by kernel_rfl) (fun _ _ _ h => h) (Or.inl ⟨by rfl, fun w' hw => by go_simp⟩) hS ?_
      try simp only [Act.put, List.setIfInBounds_toArray, List.set_cons_zero, List.set_cons_succ]
      refine wpAnyH_take (i := 1) (oi := { dst := some 9, op := Op.load 3 (Operand.tmp 8), type := 3, pos := "law.go:41", after := #[{ on := 0, ground := Ground.data }], guard := none }) (v := .int .i64 c) rfl (by kernel_rfl) (by kernel_rfl) (by kernel_rfl) (fun _ _ _ h => h) (Or.inl ⟨by rfl, fun w' hw => by (have q := hw.cell a0 (by simp); go_simp)⟩) hS ?_
      try simp only [Act.put, List.setIfInBounds_toArray, List.set_cons_zero, List.set_cons_succ]
      refine wpAnyH_take (i := 3) (oi := { dst := some 11, op := Op.fieldAddr 23 (Operand.tmp 1) 1, type := 0, pos := "law.go:41", after := #[], guard := none }) (v := .pointer (some ⟨w.heap.size, 1, none⟩)) rfl (by kernel_rfl) (by kernel_rfl) (by kernel_rfl) (fun _ _ _ h => h) (Or.inl ⟨by rfl, fun w' hw => by go_simp⟩) hS ?_
      try simp only [Act.put, List.setIfInBounds_toArray, List.set_cons_zero, List.set_cons_succ]
      refine wpAnyH_take (i := 4) (oi := { dst := some 12, op := Op.load 3 (Operand.tmp 11), type := 3, pos := "law.go:41", after := #[{ on := 3, ground := Ground.data }], guard := none }) (v := .int .i64 a) rfl (by kernel_rfl) (by kernel_rfl) (by kernel_rfl) (fun _ _ _ h => h) (Or.inl ⟨by rfl, fun w' hw => by (have q := hw.cell a1 (by simp); go_simp)⟩) hS ?_
      try simp only [Act.put, List.setIfInBounds_toArray, List.set_cons_zero, List.set_cons_succ]
      refine wpAnyH_ready (rs := [2]) (by kernel_rfl) (by simp) ?_
      refine AllReadyH.cons (o := { dst := some 10, op := Op.call { callee := Callee.value (Operand.func 13), args := #[Operand.tmp 9, Operand.const (Value.int IntKind.i64 4)], argTypes := #[3, 3] }, type := 3, pos := "law.go:41", after := #[{ on := 1, ground := Ground.data }], guard := none }) rfl (fun K hK => ?_) AllReadyH.nil
      go_simp
      refine (mod_any _ _ _ (by omega) (by omega)).mono ?_
      rintro e w' ⟨rfl, rfl⟩
      refine hK.out _ (V.alloc (.cells #[.int .i64 0, .int .i64 0] 23)) hS (fun _ => ?_)
      clear hK K
      try simp only [Act.put, List.setIfInBounds_toArray, List.set_cons_zero, List.set_cons_succ]
      refine wpAnyH_ready (rs := [5]) (by kernel_rfl) (by simp) ?_
      refine AllReadyH.cons (o := { dst := some 13, op := Op.call { callee := Callee.value (Operand.func 13), args := #[Operand.tmp 12, Operand.const (Value.int IntKind.i64 4)], argTypes := #[3, 3] }, type := 3, pos := "law.go:41", after := #[{ on := 4, ground := Ground.data }, { on := 2, ground := Ground.chain }], guard := none }) rfl (fun K hK => ?_) AllReadyH.nil
      go_simp
      refine (mod_any _ _ _ (by omega) (by omega)).mono ?_
      rintro e w' ⟨rfl, rfl⟩
      refine hK.out _ (V.alloc (.cells #[.int .i64 0, .int .i64 0] 23)) hS (fun _ => ?_)
      clear hK K
      try simp only [Act.put, List.setIfInBounds_toArray, List.set_cons_zero, List.set_cons_succ]
      refine wpAnyH_take (i := 6) (oi := { dst := some 14, op := Op.build 23 #[(0, Operand.tmp 10), (1, Operand.tmp 13)], type := 23, pos := "law.go:41", after := #[{ on := 2, ground := Ground.data }, { on := 5, ground := Ground.data }], guard := none }) (v := .agg #[.int .i64 (gmod c 4), .int .i64 (gmod a 4)]) rfl (by kernel_rfl) (by kernel_rfl) (by kernel_rfl) (fun _ _ _ h => h) (Or.inl ⟨by rfl, fun w' hw => by go_simp⟩) hS ?_
      try simp only [Act.put, List.setIfInBounds_toArray, List.set_cons_zero, List.set_cons_succ]
      refine wpAnyH_ready (rs := [7]) (by kernel_rfl) (by simp) ?_
      refine AllReadyH.cons (o := { dst := none, op := Op.store 23 (Operand.tmp 2) (Operand.tmp 14), type := 0, pos := "law.go:41", after := #[{ on := 6, ground := Ground.data }, { on := 5, ground := Ground.chain }, { on := 0, ground := Ground.phase }, { on := 1, ground := Ground.phase }, { on := 2, ground := Ground.phase }, { on := 3, ground := Ground.phase }, { on := 4, ground := Ground.phase }, { on := 5, ground := Ground.phase }, { on := 6, ground := Ground.phase }], guard := none }) rfl (fun K hK => ?_) AllReadyH.nil
      refine step_of_list rfl ?_
      refine wpList_store_new rfl 23 _ _ rfl #[.int .i64 0, .int .i64 0] 23 [.int .i64 (gmod c 4), .int .i64 (gmod a 4)] (by simp only [eD]; rfl) (by rfl) rfl size23 (by simp [Value.oneCell']) ?_
      refine ⟨rfl, hK.out _ _ ((Touch.refl [] V).alloc (.cells #[.int .i64 (gmod c 4), .int .i64 (gmod a 4)] 23)) (fun hS2 => ?_)⟩
      clear hK K hS
      try simp only [Act.put, List.setIfInBounds_toArray, List.set_cons_zero, List.set_cons_succ]
      refine wpAnyH_done (by kernel_rfl) ?_ _
      exact REST.out
    · have hn := heap_alloc_new V (.cells #[.int .i64 (gmod c 4), .int .i64 (gmod a 4)] 23)
      rw [eD] at hn
      go_wp2_with fail
      exact ret_key rfl rfl rfl hn ⟨rfl, tD.alloc _⟩
end Go.Proofs.Ytnglkdpmkgehoaa

/-
  The contract of the descriptor table's Open.
-/
import Derived.Test.YtnglkdpmkgehoaaTab2
namespace Go.Proofs.Ytnglkdpmkgehoaa
open Go.RowKit
set_option linter.unusedVariables false
set_option linter.unusedSimpArgs false

theorem set_row (w : World) (u k : Nat) (used : List Bool) (b : Bool) (h : w.heap[u]? = some (.cells (used.map Value.bool).toArray 4 (0, 0))) :
    (w.setCell ⟨u, k, none⟩ (.bool b)).heap[u]? = some (.cells ((used.set k b).map Value.bool).toArray 4 (0, 0)) := by
  simp [World.setCell, Array.getElem?_modify, h]
theorem count_set_true : ∀ (l : List Bool) (k : Nat), l[k]? = some false → (l.set k true).count true = l.count true + 1
  | [], k, h => by simp at h
  | b :: l, 0, h => by simp at h; subst h; simp
  | b :: l, k + 1, h => by
    have := count_set_true l k (by simpa using h)
    simp only [List.set_cons_succ, List.count_cons, this]
    omega
theorem count_set_false : ∀ (l : List Bool) (k : Nat), l[k]? = some true → (l.set k false).count true + 1 = l.count true
  | [], k, h => by simp at h
  | b :: l, 0, h => by simp at h; subst h; simp
  | b :: l, k + 1, h => by
    have := count_set_false l k (by simpa using h)
    simp only [List.set_cons_succ, List.count_cons]
    omega
theorem fdAt_none {live : List Fd} {k : Key} : fdAt live k = none ↔ ∀ f ∈ live, f.key ≠ k := by
  unfold fdAt
  rw [List.find?_eq_none]
  simp

theorem open_fin {W W4 : World} {t m u : Nat} {live : List Fd} {used : List Bool} {total c a : Int} {k : Nat} {s0 : Int} (h : Tab W t m u live used total) (hk : okK (c, a)) (hf : fdAt live (c, a) = none) (hole0 : used[k]? = some false)
    (hS : Touch [m, u] W W4) (hm : Mp encK okK W4 m (live.map fdv ++ [((c, a), .pointer (some ⟨W.heap.size, 0, none⟩))])) (hg : W4.heap[W.heap.size]? = some (.cells #[.int .i64 k, .int .i64 s0] 64 (0, 0)))
    (hr : W4.heap[u]? = some (.cells ((used.set k true).map Value.bool).toArray 4 (0, 0))) :
    Tab (W4.setCell ⟨t, 2, none⟩ (.int .i64 (total + 1))) t m u (live ++ [⟨(c, a), W.heap.size, k, s0⟩]) (used.set k true) (total + 1) ∧ Touch [t, m, u] W (W4.setCell ⟨t, 2, none⟩ (.int .i64 (total + 1))) := by
  have hap := h.apart
  simp only [List.nodup_cons, List.mem_cons, not_or] at hap
  obtain ⟨⟨n1, n2, n3⟩, ⟨n4, n5⟩, n6, n7⟩ := hap
  have hlt := h.lt
  have hm1 := hlt m (by simp [Tab.foot])
  have hu1 := hlt u (by simp [Tab.foot])
  have ht1 := hlt t (by simp [Tab.foot])
  have hH := hS.at h.hdr (by simp [n1, n2])
  have t5 := (Touch.refl [t] W4).setCell (p := ⟨t, 2, none⟩) (by simp) (.int .i64 (total + 1))
  refine ⟨⟨?_, t5.at hr (by simp [Ne.symm n2]), ?_, ?_, ?_, by simpa using h.room, ?_, ?_, ?_⟩, (hS.mono (S' := [t, m, u]) (by intro x hx; simp at hx; rcases hx with rfl | rfl <;> simp)).trans t5 (by simp)⟩
  · simp [World.setCell, Array.getElem?_modify, hH]
  · have := hm.touch t5 (by simp [Ne.symm n1])
    simpa [fdv] using this
  · intro f hf'
    rcases List.mem_append.1 hf' with hf' | hf'
    · have hfl : f.g ∈ live.map (·.g) := List.mem_map.2 ⟨f, hf', rfl⟩
      refine t5.at (hS.at (h.fds f hf') ?_) ?_
      · simp only [List.mem_cons, List.not_mem_nil, or_false, not_or]
        exact ⟨fun e => n5 (e ▸ hfl), fun e => n6 (e ▸ hfl)⟩
      · simp only [List.mem_singleton]
        exact fun e => n3 (e ▸ hfl)
    · simp at hf'
      subst hf'
      exact t5.at hg (by simp; omega)
  · rw [List.map_append, List.map_singleton]
    have hgs : ∀ x ∈ live.map (·.g), x < W.heap.size := fun x hx => hlt x (by simp only [Tab.foot, List.mem_cons]; exact .inr (.inr (.inr hx)))
    have hn : (t :: m :: u :: live.map (·.g)).Nodup := h.apart
    have : (t :: m :: u :: (live.map (·.g) ++ [W.heap.size])) = (t :: m :: u :: live.map (·.g)) ++ [W.heap.size] := by simp
    rw [this]
    refine List.nodup_append.2 ⟨hn, by simp, ?_⟩
    intro x hx y hy
    simp at hy
    subst hy
    have := hlt x (by simpa [Tab.foot] using hx)
    omega
  · intro f hf'
    rcases List.mem_append.1 hf' with hf' | hf'
    · have h1 := h.nos f hf'
      have : k ≠ f.no := by intro e; rw [e, h1] at hole0; cases hole0
      rw [List.getElem?_set_ne this]
      exact h1
    · simp at hf'
      subst hf'
      have := (List.getElem?_eq_some_iff.1 hole0).1
      simp [this]
  · rw [List.map_append, List.map_singleton]
    refine List.nodup_append.2 ⟨h.nod, by simp, ?_⟩
    intro x hx y hy
    simp at hy
    subst hy
    obtain ⟨f, hf', rfl⟩ := List.mem_map.1 hx
    intro e
    have h1 := h.nos f hf'
    rw [e, hole0] at h1
    cases h1
  · rw [count_set_true _ _ hole0, h.cnt]
    simp

def Opened (t m u : Nat) (live : List Fd) (used : List Bool) (total c a : Int) (s0 : Int) (w : World) (w' : World) : Prop :=
  ∃ g, w.heap.size ≤ g ∧ Tab w' t m u (live ++ [⟨(c, a), g, hole used, s0⟩]) (used.set (hole used) true) (total + 1) ∧ Touch [t, m, u] w w'

set_option maxRecDepth 100000 in
set_option maxHeartbeats 2000000 in
theorem open_ok (t m u : Nat) (live : List Fd) (used : List Bool) (total c a : Int) (pending : Bool) (w : World) (h : Tab w t m u live used total) (hk : okK (c, a)) (hv : validB c a = true) (hf : fdAt live (c, a) = none) (hh : hole used < used.length)
    (ht : 0 ≤ total ∧ total ≤ 1000000) :
    Calls Try.prog 9 #[.pointer (some ⟨t, 0, none⟩), .agg #[.int .i64 c, .int .i64 a], .bool pending] w fun e w' => e = .returned (.tuple #[.int .i64 (hole used), .int .i64 0]) ∧ Opened t m u live used total c a (if pending then 1 else 2) w w' := by
  have hole0 := hole_at hh
  obtain ⟨ht0, ht1⟩ := ht
  have hrl := h.room
  have tA := (Touch.refl [] w).alloc (.cells #[.int .i64 c, .int .i64 a] 23)
  have bA := heap_alloc_new w (.cells #[.int .i64 c, .int .i64 a] 23)
  have hap := h.apart
  simp only [List.nodup_cons, List.mem_cons, not_or] at hap
  obtain ⟨⟨n1, n2, n3⟩, ⟨n4, n5⟩, n6, n7⟩ := hap
  have hlt := h.lt
  have hm1 := hlt m (by simp [Tab.foot])
  have hu1 := hlt u (by simp [Tab.foot])
  have htl := hlt t (by simp [Tab.foot])
  have hnone : look (live.map fdv) (c, a) = none := by rw [look_fd, hf]; rfl
  have HV := Lib.hid hv
  have HN := Lib.hid hnone
  have HF := Lib.hid hf
  clear n3 n5 n6 n7 hlt hv hnone
  cases pending
  · go_enter Try.func9, Try.ntmps9
    go_wp2_with fail
    refine (valid_any c a _).mono ?_
    rintro e w1 ⟨rfl, t1⟩
    rw [HV.out]
    have tB := tA.trans t1 (by simp)
    have h1 := h.touch tB (by simp)
    replace bA := t1.at bA (by simp)
    obtain ⟨c0, c1, c2⟩ := h1.cells
    have b0 : w1.cell? ⟨w.heap.size, 0, none⟩ = some (.int .i64 c) := by simp [World.cell?, bA]
    have b1 : w1.cell? ⟨w.heap.size, 1, none⟩ = some (.int .i64 a) := by simp [World.cell?, bA]
    have hl := (h1.look hk).2 hf
    clear t1 tA hf
    go_wp2_with fail
    go_quiet (fail)
    clear hl
    go_wp2_with fail
    refine (index_any u used _ (by exact h1.row) hrl).mono ?_
    rintro e w3 ⟨rfl, h3⟩
    rw [if_pos hh]
    have t3 : Touch [] w1 w3 := by rw [← h3]; exact drewN_touch _ _
    clear h3
    have hle := hole_le used
    have h3 := h1.touch t3 (by simp)
    have T3 := (tB.trans t3 (by simp)).drew
    replace h3 := h3.touch ((Touch.refl [] w3).drew) (by simp)
    have bB := (t3.drew).at bA (by simp)
    generalize hHole : hole used = k at *
    have HK := Lib.hid hHole
    clear hHole h1 h bA b0 b1 c0 c1 c2 t3 tB
    generalize hNn : used.length = n at *
    have HNn := Lib.hid hNn
    clear hNn
    have kn0 : (0 : Int) ≤ (k : Int) := by omega
    have kn1 : (k : Int) < (n : Int) := by omega
    go_wp2_with fail
    refine wp_region_held (S := Touch [m, u] w3.drew) (by kernel_rfl) ?_
    change wpAnyH _ _ _ _ _ _ _ _ w3.drew
    have zW : w.heap.size < w3.drew.heap.size := by
      have := (Array.getElem?_eq_some_iff.1 bB).1
      exact this
    generalize w3.drew = W at *
    have hS := Touch.refl [m, u] W
    have hT : Tab W t m u live used total := by simpa using h3
    obtain ⟨c0, c1, c2⟩ := h3.cells
    rw [HNn.out] at c1
    have hr := h3.row
    have hH := h3.hdr
    obtain ⟨es, clock, hE⟩ := h3.mp
    have b0 : W.cell? ⟨w.heap.size, 0, none⟩ = some (.int .i64 c) := by simp [World.cell?, bB]
    have b1 : W.cell? ⟨w.heap.size, 1, none⟩ = some (.int .i64 a) := by simp [World.cell?, bB]
    have n3 : ¬ m = t := Ne.symm n1
    have n5 : ¬ W.heap.size = m := by omega
    have n6 : ¬ W.heap.size = u := by omega
    have n7 : ¬ w.heap.size = m := by omega
    have n8 : ¬ w.heap.size = u := by omega
    have n9 : ¬ u = m := Ne.symm n4
    have n10 : ¬ u = t := Ne.symm n2
    have hnone := HN.out
    clear h3 bB
    refine wpAnyH_take (i := 0) (oi := { dst := some 30, op := Op.move (Operand.tmp 0), type := 24, pos := "fdtable.go:53", after := #[], guard := none }) (v := .pointer (some ⟨t, 0, none⟩)) rfl (by kernel_rfl) (by kernel_rfl) (by kernel_rfl) (fun _ _ _ h => h) (Or.inl ⟨by rfl, fun w' hw => by rfl⟩) hS ?_
    try simp only [Act.put, List.setIfInBounds_toArray, List.set_cons_zero, List.set_cons_succ]
    refine wpAnyH_take (i := 1) (oi := { dst := some 31, op := Op.nilCheck (Operand.tmp 30), type := 0, pos := "fdtable.go:53", after := #[{ on := 0, ground := Ground.data }], guard := none }) (v := .pointer (some ⟨t, 0, none⟩)) rfl (by kernel_rfl) (by kernel_rfl) (by kernel_rfl) (fun _ _ _ h => h) (Or.inl ⟨by rfl, fun w' hw => by go_simp⟩) hS ?_
    try simp only [Act.put, List.setIfInBounds_toArray, List.set_cons_zero, List.set_cons_succ]
    refine wpAnyH_take (i := 2) (oi := { dst := some 32, op := Op.fieldAddr 60 (Operand.tmp 31) 0, type := 0, pos := "fdtable.go:53", after := #[{ on := 1, ground := Ground.data }], guard := none }) (v := .pointer (some ⟨t, 0, none⟩)) rfl (by kernel_rfl) (by kernel_rfl) (by kernel_rfl) (fun _ _ _ h => h) (Or.inl ⟨by rfl, fun w' hw => by go_simp⟩) hS ?_
    try simp only [Act.put, List.setIfInBounds_toArray, List.set_cons_zero, List.set_cons_succ]
    refine wpAnyH_take (i := 3) (oi := { dst := some 33, op := Op.load 57 (Operand.tmp 32), type := 57, pos := "fdtable.go:53", after := #[{ on := 2, ground := Ground.data }], guard := none }) (v := .map (some m)) rfl (by kernel_rfl) (by kernel_rfl) (by kernel_rfl) (fun _ _ _ h => h) (Or.inl ⟨by rfl, fun w' hw => by (have q0 := hw.cell c0 (by simp [n1, n2, n3, n4, n5, n6, n7, n8, n9, n10]); go_simp)⟩) hS ?_
    try simp only [Act.put, List.setIfInBounds_toArray, List.set_cons_zero, List.set_cons_succ]
    refine wpAnyH_take (i := 4) (oi := { dst := some 34, op := Op.load 23 (Operand.tmp 4), type := 23, pos := "fdtable.go:53", after := #[], guard := none }) (v := .agg #[.int .i64 c, .int .i64 a]) rfl (by kernel_rfl) (by kernel_rfl) (by kernel_rfl) (fun _ _ _ h => h) (Or.inl ⟨by rfl, fun w' hw => by (have q0 := hw.cell b0 (by simp [n1, n2, n3, n4, n5, n6, n7, n8, n9, n10]); have q1 := hw.cell b1 (by simp [n1, n2, n3, n4, n5, n6, n7, n8, n9, n10]); go_simp)⟩) hS ?_
    try simp only [Act.put, List.setIfInBounds_toArray, List.set_cons_zero, List.set_cons_succ]
    refine wpAnyH_take (i := 5) (oi := { dst := some 35, op := Op.move (Operand.tmp 0), type := 24, pos := "fdtable.go:53", after := #[], guard := none }) (v := .pointer (some ⟨t, 0, none⟩)) rfl (by kernel_rfl) (by kernel_rfl) (by kernel_rfl) (fun _ _ _ h => h) (Or.inl ⟨by rfl, fun w' hw => by rfl⟩) hS ?_
    try simp only [Act.put, List.setIfInBounds_toArray, List.set_cons_zero, List.set_cons_succ]
    refine wpAnyH_take (i := 6) (oi := { dst := some 36, op := Op.nilCheck (Operand.tmp 35), type := 0, pos := "fdtable.go:53", after := #[{ on := 5, ground := Ground.data }], guard := none }) (v := .pointer (some ⟨t, 0, none⟩)) rfl (by kernel_rfl) (by kernel_rfl) (by kernel_rfl) (fun _ _ _ h => h) (Or.inl ⟨by rfl, fun w' hw => by go_simp⟩) hS ?_
    try simp only [Act.put, List.setIfInBounds_toArray, List.set_cons_zero, List.set_cons_succ]
    refine wpAnyH_take (i := 7) (oi := { dst := some 37, op := Op.fieldAddr 60 (Operand.tmp 36) 1, type := 0, pos := "fdtable.go:53", after := #[{ on := 6, ground := Ground.data }], guard := none }) (v := .pointer (some ⟨t, 1, none⟩)) rfl (by kernel_rfl) (by kernel_rfl) (by kernel_rfl) (fun _ _ _ h => h) (Or.inl ⟨by rfl, fun w' hw => by go_simp⟩) hS ?_
    try simp only [Act.put, List.setIfInBounds_toArray, List.set_cons_zero, List.set_cons_succ]
    refine wpAnyH_take (i := 8) (oi := { dst := some 38, op := Op.load 58 (Operand.tmp 37), type := 58, pos := "fdtable.go:53", after := #[{ on := 7, ground := Ground.data }], guard := none }) (v := .slice (some ⟨u, 0, none⟩) n n) rfl (by kernel_rfl) (by kernel_rfl) (by kernel_rfl) (fun _ _ _ h => h) (Or.inl ⟨by rfl, fun w' hw => by (have q0 := hw.cell c1 (by simp [n1, n2, n3, n4, n5, n6, n7, n8, n9, n10]); go_simp)⟩) hS ?_
    try simp only [Act.put, List.setIfInBounds_toArray, List.set_cons_zero, List.set_cons_succ]
    refine wpAnyH_take (i := 9) (oi := { dst := some 39, op := Op.move (Operand.tmp 8), type := 3, pos := "fdtable.go:53", after := #[{ on := 16, ground := Ground.gcOnly Departure.lateStores }], guard := none }) (v := .int .i64 k) rfl (by kernel_rfl) (by kernel_rfl) (by kernel_rfl) (fun _ _ _ h => h) (Or.inl ⟨by rfl, fun w' hw => by rfl⟩) hS ?_
    try simp only [Act.put, List.setIfInBounds_toArray, List.set_cons_zero, List.set_cons_succ]
    refine wpAnyH_take (i := 10) (oi := { dst := some 40, op := Op.move (Operand.tmp 8), type := 3, pos := "fdtable.go:53", after := #[{ on := 14, ground := Ground.gcOnly Departure.tupleMapEntryFirst }], guard := none }) (v := .int .i64 k) rfl (by kernel_rfl) (by kernel_rfl) (by kernel_rfl) (fun _ _ _ h => h) (Or.inl ⟨by rfl, fun w' hw => by rfl⟩) hS ?_
    try simp only [Act.put, List.setIfInBounds_toArray, List.set_cons_zero, List.set_cons_succ]
    refine wpAnyH_take (i := 11) (oi := { dst := some 41, op := Op.move (Operand.tmp 9), type := 3, pos := "fdtable.go:53", after := #[{ on := 14, ground := Ground.gcOnly Departure.tupleMapEntryFirst }], guard := none }) (v := .int .i64 2) rfl (by kernel_rfl) (by kernel_rfl) (by kernel_rfl) (fun _ _ _ h => h) (Or.inl ⟨by rfl, fun w' hw => by rfl⟩) hS ?_
    try simp only [Act.put, List.setIfInBounds_toArray, List.set_cons_zero, List.set_cons_succ]
    refine wpAnyH_take (i := 12) (oi := { dst := some 42, op := Op.build 64 #[(0, Operand.tmp 40), (1, Operand.tmp 41)], type := 64, pos := "fdtable.go:53", after := #[{ on := 10, ground := Ground.data }, { on := 11, ground := Ground.data }, { on := 14, ground := Ground.gcOnly Departure.tupleMapEntryFirst }], guard := none }) (v := .agg #[.int .i64 k, .int .i64 2]) rfl (by kernel_rfl) (by kernel_rfl) (by kernel_rfl) (fun _ _ _ h => h) (Or.inl ⟨by rfl, fun w' hw => by go_simp⟩) hS ?_
    try simp only [Act.put, List.setIfInBounds_toArray, List.set_cons_zero, List.set_cons_succ]
    refine wpAnyH_ready (rs := [13, 14]) (by kernel_rfl) (by simp) ?_
    refine AllReadyH.cons (o := { dst := some 43, op := Op.box 64 (Operand.tmp 42), type := 61, pos := "fdtable.go:53", after := #[{ on := 12, ground := Ground.data }, { on := 14, ground := Ground.gcOnly Departure.tupleMapEntryFirst }], guard := none }) rfl (fun K hK => ?_) (AllReadyH.cons (o := { dst := some 44, op := Op.mapEntry 57 (Operand.tmp 33) (Operand.tmp 34), type := 0, pos := "fdtable.go:53", after := #[{ on := 3, ground := Ground.data }, { on := 4, ground := Ground.data }, { on := 0, ground := Ground.textOnly Departure.tupleMapEntryFirst }, { on := 1, ground := Ground.textOnly Departure.tupleMapEntryFirst }, { on := 2, ground := Ground.textOnly Departure.tupleMapEntryFirst }, { on := 3, ground := Ground.textOnly Departure.tupleMapEntryFirst }, { on := 4, ground := Ground.textOnly Departure.lateStoresUnsure }, { on := 5, ground := Ground.textOnly Departure.lateStores }, { on := 6, ground := Ground.textOnly Departure.lateStoresUnsure }, { on := 7, ground := Ground.textOnly Departure.lateStoresUnsure }, { on := 8, ground := Ground.phase }, { on := 9, ground := Ground.textOnly Departure.lateStores }, { on := 10, ground := Ground.textOnly Departure.tupleMapEntryFirst }, { on := 11, ground := Ground.textOnly Departure.tupleMapEntryFirst }, { on := 12, ground := Ground.textOnly Departure.tupleMapEntryFirst }, { on := 13, ground := Ground.textOnly Departure.tupleMapEntryFirst }], guard := none }) rfl (fun K hK => ?_) AllReadyH.nil)
    · go_simp
      have tb := (Touch.refl [] W).alloc (.cells #[.int .i64 k, .int .i64 2] 64)
      have hg := heap_alloc_new W (.cells #[.int .i64 k, .int .i64 2] 64)
      have zb : (W.alloc (.cells #[.int .i64 k, .int .i64 2] 64)).heap.size = W.heap.size + 1 := by simp
      have hS2 := hS.trans tb (by simp)
      replace hr := tb.at hr (by simp)
      have hm1 := hE.touch tb (by simp)
      refine hK.out _ _ hS2 (fun _ => ?_)
      clear hK K hS tb
      generalize W.alloc (.cells #[.int .i64 k, .int .i64 2] 64) = W1 at *
      have hS := hS2
      clear hS2
      try simp only [Act.put, List.setIfInBounds_toArray, List.set_cons_zero, List.set_cons_succ]
      refine wpAnyH_ready (rs := [14]) (by kernel_rfl) (by simp) ?_
      refine AllReadyH.cons (o := { dst := some 44, op := Op.mapEntry 57 (Operand.tmp 33) (Operand.tmp 34), type := 0, pos := "fdtable.go:53", after := #[{ on := 3, ground := Ground.data }, { on := 4, ground := Ground.data }, { on := 0, ground := Ground.textOnly Departure.tupleMapEntryFirst }, { on := 1, ground := Ground.textOnly Departure.tupleMapEntryFirst }, { on := 2, ground := Ground.textOnly Departure.tupleMapEntryFirst }, { on := 3, ground := Ground.textOnly Departure.tupleMapEntryFirst }, { on := 4, ground := Ground.textOnly Departure.lateStoresUnsure }, { on := 5, ground := Ground.textOnly Departure.lateStores }, { on := 6, ground := Ground.textOnly Departure.lateStoresUnsure }, { on := 7, ground := Ground.textOnly Departure.lateStoresUnsure }, { on := 8, ground := Ground.phase }, { on := 9, ground := Ground.textOnly Departure.lateStores }, { on := 10, ground := Ground.textOnly Departure.tupleMapEntryFirst }, { on := 11, ground := Ground.textOnly Departure.tupleMapEntryFirst }, { on := 12, ground := Ground.textOnly Departure.tupleMapEntryFirst }, { on := 13, ground := Ground.textOnly Departure.tupleMapEntryFirst }], guard := none }) rfl (fun K hK => ?_) AllReadyH.nil
      obtain ⟨W2, hq, hm2, tb, z1⟩ := hm1.entryW key23 Try.underlying57 (zero61 _) hk hnone
      simp only [encK] at hq
      go_simp
      clear hq
      have hS2 := hS.trans tb (by simp)
      replace hr := tb.at hr (by simp [n1, n2, n3, n4, n5, n6, n7, n8, n9, n10])
      replace hg := tb.at hg (by simp [n1, n2, n3, n4, n5, n6, n7, n8, n9, n10])
      refine hK.out _ _ hS2 (fun _ => ?_)
      clear hK K hS tb
      have hS := hS2
      clear hS2
      try simp only [Act.put, List.setIfInBounds_toArray, List.set_cons_zero, List.set_cons_succ]
      refine wpAnyH_take (i := 15) (oi := { dst := some 45, op := Op.extract (Operand.tmp 44) 1, type := 3, pos := "fdtable.go:53", after := #[{ on := 14, ground := Ground.data }], guard := none }) (v := .int .i64 clock) rfl (by kernel_rfl) (by kernel_rfl) (by kernel_rfl) (fun _ _ _ h => h) (Or.inl ⟨by rfl, fun w' hw => by go_simp⟩) hS ?_
      try simp only [Act.put, List.setIfInBounds_toArray, List.set_cons_zero, List.set_cons_succ]
      refine wpAnyH_ready (rs := [16]) (by kernel_rfl) (by simp) ?_
      refine AllReadyH.cons (o := { dst := none, op := Op.entryStore 57 (Operand.tmp 33) (Operand.tmp 45) (Operand.tmp 43), type := 0, pos := "fdtable.go:53", after := #[{ on := 3, ground := Ground.data }, { on := 15, ground := Ground.data }, { on := 13, ground := Ground.data }, { on := 14, ground := Ground.chain }, { on := 0, ground := Ground.phase }, { on := 1, ground := Ground.phase }, { on := 2, ground := Ground.phase }, { on := 3, ground := Ground.phase }, { on := 4, ground := Ground.phase }, { on := 5, ground := Ground.textOnly Departure.lateStores }, { on := 6, ground := Ground.textOnly Departure.lateStoresUnsure }, { on := 7, ground := Ground.textOnly Departure.lateStoresUnsure }, { on := 8, ground := Ground.phase }, { on := 9, ground := Ground.textOnly Departure.lateStores }, { on := 10, ground := Ground.phase }, { on := 11, ground := Ground.phase }, { on := 12, ground := Ground.phase }, { on := 13, ground := Ground.phase }, { on := 14, ground := Ground.phase }], guard := none }) rfl (fun K hK => ?_) AllReadyH.nil
      obtain ⟨W3, hq, hm3, t3, z3⟩ := hm2.fill (t := 57) key23 hE.st (.pointer (some ⟨W.heap.size, 0, none⟩))
      go_simp
      have hS2 := hS.trans t3 (by simp)
      replace hg := t3.at hg (by simp [n1, n2, n3, n4, n5, n6, n7, n8, n9, n10])
      replace hr := t3.at hr (by simp [n1, n2, n3, n4, n5, n6, n7, n8, n9, n10])
      refine hK.out _ _ hS2 (fun _ => ?_)
      clear hK K hS hq t3 z3 hm2
      have hS := hS2
      clear hS2
      try simp only [Act.put, List.setIfInBounds_toArray, List.set_cons_zero, List.set_cons_succ]
      refine wpAnyH_take (i := 17) (oi := { dst := some 46, op := Op.indexAddr 58 (Operand.tmp 38) (Operand.tmp 39), type := 0, pos := "fdtable.go:53", after := #[{ on := 8, ground := Ground.data }, { on := 9, ground := Ground.data }, { on := 0, ground := Ground.phase }, { on := 1, ground := Ground.phase }, { on := 2, ground := Ground.phase }, { on := 3, ground := Ground.phase }, { on := 4, ground := Ground.phase }, { on := 5, ground := Ground.phase }, { on := 6, ground := Ground.phase }, { on := 7, ground := Ground.phase }, { on := 8, ground := Ground.phase }, { on := 9, ground := Ground.phase }, { on := 10, ground := Ground.phase }, { on := 11, ground := Ground.phase }, { on := 12, ground := Ground.phase }, { on := 13, ground := Ground.phase }, { on := 14, ground := Ground.phase }, { on := 15, ground := Ground.phase }, { on := 16, ground := Ground.phase }], guard := none }) (v := .pointer (some ⟨u, k, none⟩)) rfl (by kernel_rfl) (by kernel_rfl) (by kernel_rfl) (fun _ _ _ h => h) (Or.inl ⟨by rfl, fun w' hw => by go_simp⟩) hS ?_
      try simp only [Act.put, List.setIfInBounds_toArray, List.set_cons_zero, List.set_cons_succ]
      refine wpAnyH_ready (rs := [18]) (by kernel_rfl) (by simp) ?_
      refine AllReadyH.cons (o := { dst := none, op := Op.store 4 (Operand.tmp 46) (Operand.const (Value.bool true)), type := 0, pos := "fdtable.go:53", after := #[{ on := 17, ground := Ground.data }, { on := 16, ground := Ground.chain }, { on := 0, ground := Ground.phase }, { on := 1, ground := Ground.phase }, { on := 2, ground := Ground.phase }, { on := 3, ground := Ground.phase }, { on := 4, ground := Ground.phase }, { on := 5, ground := Ground.phase }, { on := 6, ground := Ground.phase }, { on := 7, ground := Ground.phase }, { on := 8, ground := Ground.phase }, { on := 9, ground := Ground.phase }, { on := 10, ground := Ground.phase }, { on := 11, ground := Ground.phase }, { on := 12, ground := Ground.phase }, { on := 13, ground := Ground.phase }, { on := 14, ground := Ground.phase }, { on := 15, ground := Ground.phase }, { on := 16, ground := Ground.phase }], guard := none }) rfl (fun K hK => ?_) AllReadyH.nil
      have q1 : W3.cell? ⟨u, k, none⟩ = some (.bool false) := by simp [World.cell?, hr, hole0]
      have q2 : W3.frozen? ⟨u, k, none⟩ = false := by simp [World.frozen?, hr]
      go_simp
      have t4 := (Touch.refl [u] W3).setCell (p := ⟨u, k, none⟩) (by simp) (.bool true)
      have hS2 := hS.trans t4 (by simp)
      have hm4 := hm3.touch t4 (by simp [n1, n2, n3, n4, n5, n6, n7, n8, n9, n10])
      have hg4 := t4.at hg (by simp [n1, n2, n3, n4, n5, n6, n7, n8, n9, n10])
      have hr4 := set_row W3 u k used true hr
      refine hK.out _ _ hS2 (fun _ => ?_)
      clear hK K hS q1 q2 hr hg hm3 t4
      generalize W3.setCell ⟨u, k, none⟩ (.bool true) = W4 at *
      try simp only [Act.put, List.setIfInBounds_toArray, List.set_cons_zero, List.set_cons_succ]
      refine wpAnyH_done (by kernel_rfl) ?_ _
      skip
      have h0 := hS2.at hH (by simp [n1, n2, n3, n4, n5, n6, n7, n8, n9, n10])
      have k2 : W4.cell? ⟨t, 2, none⟩ = some (.int .i64 total) := by simp [World.cell?, h0]
      have k3 : W4.frozen? ⟨t, 2, none⟩ = false := by simp [World.frozen?, h0]
      go_wp2_with fail
      go_ret2
      (obtain ⟨r1, r2⟩ := open_fin hT hk HF.out hole0 hS2 ⟨_, _, hm4⟩ hg4 hr4; refine ⟨by rw [HK.out]; rfl, ?_⟩; unfold Opened; exact ⟨W.heap.size, by omega, by rw [HK.out]; exact r1, (T3.mono (by simp)).trans r2 (by simp)⟩)
    · obtain ⟨W1, hq, hm1, tb, z1⟩ := hE.entryW key23 Try.underlying57 (zero61 _) hk hnone
      simp only [encK] at hq
      go_simp
      clear hq
      have hS2 := hS.trans tb (by simp)
      replace hr := tb.at hr (by simp [n1, n2, n3, n4, n5, n6, n7, n8, n9, n10])
      refine hK.out _ _ hS2 (fun _ => ?_)
      clear hK K hS tb
      have hS := hS2
      clear hS2
      try simp only [Act.put, List.setIfInBounds_toArray, List.set_cons_zero, List.set_cons_succ]
      refine wpAnyH_take (i := 15) (oi := { dst := some 45, op := Op.extract (Operand.tmp 44) 1, type := 3, pos := "fdtable.go:53", after := #[{ on := 14, ground := Ground.data }], guard := none }) (v := .int .i64 clock) rfl (by kernel_rfl) (by kernel_rfl) (by kernel_rfl) (fun _ _ _ h => h) (Or.inl ⟨by rfl, fun w' hw => by go_simp⟩) hS ?_
      try simp only [Act.put, List.setIfInBounds_toArray, List.set_cons_zero, List.set_cons_succ]
      refine wpAnyH_ready (rs := [13]) (by kernel_rfl) (by simp) ?_
      refine AllReadyH.cons (o := { dst := some 43, op := Op.box 64 (Operand.tmp 42), type := 61, pos := "fdtable.go:53", after := #[{ on := 12, ground := Ground.data }, { on := 14, ground := Ground.gcOnly Departure.tupleMapEntryFirst }], guard := none }) rfl (fun K hK => ?_) AllReadyH.nil
      go_simp
      have tb := (Touch.refl [] W1).alloc (.cells #[.int .i64 k, .int .i64 2] 64)
      have hg := heap_alloc_new W1 (.cells #[.int .i64 k, .int .i64 2] 64)
      have zb : (W1.alloc (.cells #[.int .i64 k, .int .i64 2] 64)).heap.size = W.heap.size + 1 := by simp [z1]
      have hS2 := hS.trans tb (by simp)
      replace hr := tb.at hr (by simp)
      rw [z1] at hg
      have hm2 := hm1.touch tb (by simp)
      try rw [z1]
      refine hK.out _ _ hS2 (fun _ => ?_)
      clear hK K hS tb
      generalize W1.alloc (.cells #[.int .i64 k, .int .i64 2] 64) = W2 at *
      have hS := hS2
      clear hS2
      try simp only [Act.put, List.setIfInBounds_toArray, List.set_cons_zero, List.set_cons_succ]
      refine wpAnyH_ready (rs := [16]) (by kernel_rfl) (by simp) ?_
      refine AllReadyH.cons (o := { dst := none, op := Op.entryStore 57 (Operand.tmp 33) (Operand.tmp 45) (Operand.tmp 43), type := 0, pos := "fdtable.go:53", after := #[{ on := 3, ground := Ground.data }, { on := 15, ground := Ground.data }, { on := 13, ground := Ground.data }, { on := 14, ground := Ground.chain }, { on := 0, ground := Ground.phase }, { on := 1, ground := Ground.phase }, { on := 2, ground := Ground.phase }, { on := 3, ground := Ground.phase }, { on := 4, ground := Ground.phase }, { on := 5, ground := Ground.textOnly Departure.lateStores }, { on := 6, ground := Ground.textOnly Departure.lateStoresUnsure }, { on := 7, ground := Ground.textOnly Departure.lateStoresUnsure }, { on := 8, ground := Ground.phase }, { on := 9, ground := Ground.textOnly Departure.lateStores }, { on := 10, ground := Ground.phase }, { on := 11, ground := Ground.phase }, { on := 12, ground := Ground.phase }, { on := 13, ground := Ground.phase }, { on := 14, ground := Ground.phase }], guard := none }) rfl (fun K hK => ?_) AllReadyH.nil
      obtain ⟨W3, hq, hm3, t3, z3⟩ := hm2.fill (t := 57) key23 hE.st (.pointer (some ⟨W.heap.size, 0, none⟩))
      go_simp
      have hS2 := hS.trans t3 (by simp)
      replace hg := t3.at hg (by simp [n1, n2, n3, n4, n5, n6, n7, n8, n9, n10])
      replace hr := t3.at hr (by simp [n1, n2, n3, n4, n5, n6, n7, n8, n9, n10])
      refine hK.out _ _ hS2 (fun _ => ?_)
      clear hK K hS hq t3 z3 hm2
      have hS := hS2
      clear hS2
      try simp only [Act.put, List.setIfInBounds_toArray, List.set_cons_zero, List.set_cons_succ]
      refine wpAnyH_take (i := 17) (oi := { dst := some 46, op := Op.indexAddr 58 (Operand.tmp 38) (Operand.tmp 39), type := 0, pos := "fdtable.go:53", after := #[{ on := 8, ground := Ground.data }, { on := 9, ground := Ground.data }, { on := 0, ground := Ground.phase }, { on := 1, ground := Ground.phase }, { on := 2, ground := Ground.phase }, { on := 3, ground := Ground.phase }, { on := 4, ground := Ground.phase }, { on := 5, ground := Ground.phase }, { on := 6, ground := Ground.phase }, { on := 7, ground := Ground.phase }, { on := 8, ground := Ground.phase }, { on := 9, ground := Ground.phase }, { on := 10, ground := Ground.phase }, { on := 11, ground := Ground.phase }, { on := 12, ground := Ground.phase }, { on := 13, ground := Ground.phase }, { on := 14, ground := Ground.phase }, { on := 15, ground := Ground.phase }, { on := 16, ground := Ground.phase }], guard := none }) (v := .pointer (some ⟨u, k, none⟩)) rfl (by kernel_rfl) (by kernel_rfl) (by kernel_rfl) (fun _ _ _ h => h) (Or.inl ⟨by rfl, fun w' hw => by go_simp⟩) hS ?_
      try simp only [Act.put, List.setIfInBounds_toArray, List.set_cons_zero, List.set_cons_succ]
      refine wpAnyH_ready (rs := [18]) (by kernel_rfl) (by simp) ?_
      refine AllReadyH.cons (o := { dst := none, op := Op.store 4 (Operand.tmp 46) (Operand.const (Value.bool true)), type := 0, pos := "fdtable.go:53", after := #[{ on := 17, ground := Ground.data }, { on := 16, ground := Ground.chain }, { on := 0, ground := Ground.phase }, { on := 1, ground := Ground.phase }, { on := 2, ground := Ground.phase }, { on := 3, ground := Ground.phase }, { on := 4, ground := Ground.phase }, { on := 5, ground := Ground.phase }, { on := 6, ground := Ground.phase }, { on := 7, ground := Ground.phase }, { on := 8, ground := Ground.phase }, { on := 9, ground := Ground.phase }, { on := 10, ground := Ground.phase }, { on := 11, ground := Ground.phase }, { on := 12, ground := Ground.phase }, { on := 13, ground := Ground.phase }, { on := 14, ground := Ground.phase }, { on := 15, ground := Ground.phase }, { on := 16, ground := Ground.phase }], guard := none }) rfl (fun K hK => ?_) AllReadyH.nil
      have q1 : W3.cell? ⟨u, k, none⟩ = some (.bool false) := by simp [World.cell?, hr, hole0]
      have q2 : W3.frozen? ⟨u, k, none⟩ = false := by simp [World.frozen?, hr]
      go_simp
      have t4 := (Touch.refl [u] W3).setCell (p := ⟨u, k, none⟩) (by simp) (.bool true)
      have hS2 := hS.trans t4 (by simp)
      have hm4 := hm3.touch t4 (by simp [n1, n2, n3, n4, n5, n6, n7, n8, n9, n10])
      have hg4 := t4.at hg (by simp [n1, n2, n3, n4, n5, n6, n7, n8, n9, n10])
      have hr4 := set_row W3 u k used true hr
      refine hK.out _ _ hS2 (fun _ => ?_)
      clear hK K hS q1 q2 hr hg hm3 t4
      generalize W3.setCell ⟨u, k, none⟩ (.bool true) = W4 at *
      try simp only [Act.put, List.setIfInBounds_toArray, List.set_cons_zero, List.set_cons_succ]
      refine wpAnyH_done (by kernel_rfl) ?_ _
      skip
      have h0 := hS2.at hH (by simp [n1, n2, n3, n4, n5, n6, n7, n8, n9, n10])
      have k2 : W4.cell? ⟨t, 2, none⟩ = some (.int .i64 total) := by simp [World.cell?, h0]
      have k3 : W4.frozen? ⟨t, 2, none⟩ = false := by simp [World.frozen?, h0]
      go_wp2_with fail
      go_ret2
      (obtain ⟨r1, r2⟩ := open_fin hT hk HF.out hole0 hS2 ⟨_, _, hm4⟩ hg4 hr4; refine ⟨by rw [HK.out]; rfl, ?_⟩; unfold Opened; exact ⟨W.heap.size, by omega, by rw [HK.out]; exact r1, (T3.mono (by simp)).trans r2 (by simp)⟩)

  · go_enter Try.func9, Try.ntmps9
    go_wp2_with fail
    refine (valid_any c a _).mono ?_
    rintro e w1 ⟨rfl, t1⟩
    rw [HV.out]
    have tB := tA.trans t1 (by simp)
    have h1 := h.touch tB (by simp)
    replace bA := t1.at bA (by simp)
    obtain ⟨c0, c1, c2⟩ := h1.cells
    have b0 : w1.cell? ⟨w.heap.size, 0, none⟩ = some (.int .i64 c) := by simp [World.cell?, bA]
    have b1 : w1.cell? ⟨w.heap.size, 1, none⟩ = some (.int .i64 a) := by simp [World.cell?, bA]
    have hl := (h1.look hk).2 hf
    clear t1 tA hf
    go_wp2_with fail
    go_quiet (fail)
    clear hl
    go_wp2_with fail
    refine (index_any u used _ (by exact h1.row) hrl).mono ?_
    rintro e w3 ⟨rfl, h3⟩
    rw [if_pos hh]
    have t3 : Touch [] w1 w3 := by rw [← h3]; exact drewN_touch _ _
    clear h3
    have hle := hole_le used
    have h3 := h1.touch t3 (by simp)
    have T3 := (tB.trans t3 (by simp)).drew
    replace h3 := h3.touch ((Touch.refl [] w3).drew) (by simp)
    have bB := (t3.drew).at bA (by simp)
    generalize hHole : hole used = k at *
    have HK := Lib.hid hHole
    clear hHole h1 h bA b0 b1 c0 c1 c2 t3 tB
    generalize hNn : used.length = n at *
    have HNn := Lib.hid hNn
    clear hNn
    have kn0 : (0 : Int) ≤ (k : Int) := by omega
    have kn1 : (k : Int) < (n : Int) := by omega
    go_wp2_with fail
    refine wp_region_held (S := Touch [m, u] w3.drew) (by kernel_rfl) ?_
    change wpAnyH _ _ _ _ _ _ _ _ w3.drew
    have zW : w.heap.size < w3.drew.heap.size := by
      have := (Array.getElem?_eq_some_iff.1 bB).1
      exact this
    generalize w3.drew = W at *
    have hS := Touch.refl [m, u] W
    have hT : Tab W t m u live used total := by simpa using h3
    obtain ⟨c0, c1, c2⟩ := h3.cells
    rw [HNn.out] at c1
    have hr := h3.row
    have hH := h3.hdr
    obtain ⟨es, clock, hE⟩ := h3.mp
    have b0 : W.cell? ⟨w.heap.size, 0, none⟩ = some (.int .i64 c) := by simp [World.cell?, bB]
    have b1 : W.cell? ⟨w.heap.size, 1, none⟩ = some (.int .i64 a) := by simp [World.cell?, bB]
    have n3 : ¬ m = t := Ne.symm n1
    have n5 : ¬ W.heap.size = m := by omega
    have n6 : ¬ W.heap.size = u := by omega
    have n7 : ¬ w.heap.size = m := by omega
    have n8 : ¬ w.heap.size = u := by omega
    have n9 : ¬ u = m := Ne.symm n4
    have n10 : ¬ u = t := Ne.symm n2
    have hnone := HN.out
    clear h3 bB
    refine wpAnyH_take (i := 0) (oi := { dst := some 30, op := Op.move (Operand.tmp 0), type := 24, pos := "fdtable.go:53", after := #[], guard := none }) (v := .pointer (some ⟨t, 0, none⟩)) rfl (by kernel_rfl) (by kernel_rfl) (by kernel_rfl) (fun _ _ _ h => h) (Or.inl ⟨by rfl, fun w' hw => by rfl⟩) hS ?_
    try simp only [Act.put, List.setIfInBounds_toArray, List.set_cons_zero, List.set_cons_succ]
    refine wpAnyH_take (i := 1) (oi := { dst := some 31, op := Op.nilCheck (Operand.tmp 30), type := 0, pos := "fdtable.go:53", after := #[{ on := 0, ground := Ground.data }], guard := none }) (v := .pointer (some ⟨t, 0, none⟩)) rfl (by kernel_rfl) (by kernel_rfl) (by kernel_rfl) (fun _ _ _ h => h) (Or.inl ⟨by rfl, fun w' hw => by go_simp⟩) hS ?_
    try simp only [Act.put, List.setIfInBounds_toArray, List.set_cons_zero, List.set_cons_succ]
    refine wpAnyH_take (i := 2) (oi := { dst := some 32, op := Op.fieldAddr 60 (Operand.tmp 31) 0, type := 0, pos := "fdtable.go:53", after := #[{ on := 1, ground := Ground.data }], guard := none }) (v := .pointer (some ⟨t, 0, none⟩)) rfl (by kernel_rfl) (by kernel_rfl) (by kernel_rfl) (fun _ _ _ h => h) (Or.inl ⟨by rfl, fun w' hw => by go_simp⟩) hS ?_
    try simp only [Act.put, List.setIfInBounds_toArray, List.set_cons_zero, List.set_cons_succ]
    refine wpAnyH_take (i := 3) (oi := { dst := some 33, op := Op.load 57 (Operand.tmp 32), type := 57, pos := "fdtable.go:53", after := #[{ on := 2, ground := Ground.data }], guard := none }) (v := .map (some m)) rfl (by kernel_rfl) (by kernel_rfl) (by kernel_rfl) (fun _ _ _ h => h) (Or.inl ⟨by rfl, fun w' hw => by (have q0 := hw.cell c0 (by simp [n1, n2, n3, n4, n5, n6, n7, n8, n9, n10]); go_simp)⟩) hS ?_
    try simp only [Act.put, List.setIfInBounds_toArray, List.set_cons_zero, List.set_cons_succ]
    refine wpAnyH_take (i := 4) (oi := { dst := some 34, op := Op.load 23 (Operand.tmp 4), type := 23, pos := "fdtable.go:53", after := #[], guard := none }) (v := .agg #[.int .i64 c, .int .i64 a]) rfl (by kernel_rfl) (by kernel_rfl) (by kernel_rfl) (fun _ _ _ h => h) (Or.inl ⟨by rfl, fun w' hw => by (have q0 := hw.cell b0 (by simp [n1, n2, n3, n4, n5, n6, n7, n8, n9, n10]); have q1 := hw.cell b1 (by simp [n1, n2, n3, n4, n5, n6, n7, n8, n9, n10]); go_simp)⟩) hS ?_
    try simp only [Act.put, List.setIfInBounds_toArray, List.set_cons_zero, List.set_cons_succ]
    refine wpAnyH_take (i := 5) (oi := { dst := some 35, op := Op.move (Operand.tmp 0), type := 24, pos := "fdtable.go:53", after := #[], guard := none }) (v := .pointer (some ⟨t, 0, none⟩)) rfl (by kernel_rfl) (by kernel_rfl) (by kernel_rfl) (fun _ _ _ h => h) (Or.inl ⟨by rfl, fun w' hw => by rfl⟩) hS ?_
    try simp only [Act.put, List.setIfInBounds_toArray, List.set_cons_zero, List.set_cons_succ]
    refine wpAnyH_take (i := 6) (oi := { dst := some 36, op := Op.nilCheck (Operand.tmp 35), type := 0, pos := "fdtable.go:53", after := #[{ on := 5, ground := Ground.data }], guard := none }) (v := .pointer (some ⟨t, 0, none⟩)) rfl (by kernel_rfl) (by kernel_rfl) (by kernel_rfl) (fun _ _ _ h => h) (Or.inl ⟨by rfl, fun w' hw => by go_simp⟩) hS ?_
    try simp only [Act.put, List.setIfInBounds_toArray, List.set_cons_zero, List.set_cons_succ]
    refine wpAnyH_take (i := 7) (oi := { dst := some 37, op := Op.fieldAddr 60 (Operand.tmp 36) 1, type := 0, pos := "fdtable.go:53", after := #[{ on := 6, ground := Ground.data }], guard := none }) (v := .pointer (some ⟨t, 1, none⟩)) rfl (by kernel_rfl) (by kernel_rfl) (by kernel_rfl) (fun _ _ _ h => h) (Or.inl ⟨by rfl, fun w' hw => by go_simp⟩) hS ?_
    try simp only [Act.put, List.setIfInBounds_toArray, List.set_cons_zero, List.set_cons_succ]
    refine wpAnyH_take (i := 8) (oi := { dst := some 38, op := Op.load 58 (Operand.tmp 37), type := 58, pos := "fdtable.go:53", after := #[{ on := 7, ground := Ground.data }], guard := none }) (v := .slice (some ⟨u, 0, none⟩) n n) rfl (by kernel_rfl) (by kernel_rfl) (by kernel_rfl) (fun _ _ _ h => h) (Or.inl ⟨by rfl, fun w' hw => by (have q0 := hw.cell c1 (by simp [n1, n2, n3, n4, n5, n6, n7, n8, n9, n10]); go_simp)⟩) hS ?_
    try simp only [Act.put, List.setIfInBounds_toArray, List.set_cons_zero, List.set_cons_succ]
    refine wpAnyH_take (i := 9) (oi := { dst := some 39, op := Op.move (Operand.tmp 8), type := 3, pos := "fdtable.go:53", after := #[{ on := 16, ground := Ground.gcOnly Departure.lateStores }], guard := none }) (v := .int .i64 k) rfl (by kernel_rfl) (by kernel_rfl) (by kernel_rfl) (fun _ _ _ h => h) (Or.inl ⟨by rfl, fun w' hw => by rfl⟩) hS ?_
    try simp only [Act.put, List.setIfInBounds_toArray, List.set_cons_zero, List.set_cons_succ]
    refine wpAnyH_take (i := 10) (oi := { dst := some 40, op := Op.move (Operand.tmp 8), type := 3, pos := "fdtable.go:53", after := #[{ on := 14, ground := Ground.gcOnly Departure.tupleMapEntryFirst }], guard := none }) (v := .int .i64 k) rfl (by kernel_rfl) (by kernel_rfl) (by kernel_rfl) (fun _ _ _ h => h) (Or.inl ⟨by rfl, fun w' hw => by rfl⟩) hS ?_
    try simp only [Act.put, List.setIfInBounds_toArray, List.set_cons_zero, List.set_cons_succ]
    refine wpAnyH_take (i := 11) (oi := { dst := some 41, op := Op.move (Operand.tmp 9), type := 3, pos := "fdtable.go:53", after := #[{ on := 14, ground := Ground.gcOnly Departure.tupleMapEntryFirst }], guard := none }) (v := .int .i64 1) rfl (by kernel_rfl) (by kernel_rfl) (by kernel_rfl) (fun _ _ _ h => h) (Or.inl ⟨by rfl, fun w' hw => by rfl⟩) hS ?_
    try simp only [Act.put, List.setIfInBounds_toArray, List.set_cons_zero, List.set_cons_succ]
    refine wpAnyH_take (i := 12) (oi := { dst := some 42, op := Op.build 64 #[(0, Operand.tmp 40), (1, Operand.tmp 41)], type := 64, pos := "fdtable.go:53", after := #[{ on := 10, ground := Ground.data }, { on := 11, ground := Ground.data }, { on := 14, ground := Ground.gcOnly Departure.tupleMapEntryFirst }], guard := none }) (v := .agg #[.int .i64 k, .int .i64 1]) rfl (by kernel_rfl) (by kernel_rfl) (by kernel_rfl) (fun _ _ _ h => h) (Or.inl ⟨by rfl, fun w' hw => by go_simp⟩) hS ?_
    try simp only [Act.put, List.setIfInBounds_toArray, List.set_cons_zero, List.set_cons_succ]
    refine wpAnyH_ready (rs := [13, 14]) (by kernel_rfl) (by simp) ?_
    refine AllReadyH.cons (o := { dst := some 43, op := Op.box 64 (Operand.tmp 42), type := 61, pos := "fdtable.go:53", after := #[{ on := 12, ground := Ground.data }, { on := 14, ground := Ground.gcOnly Departure.tupleMapEntryFirst }], guard := none }) rfl (fun K hK => ?_) (AllReadyH.cons (o := { dst := some 44, op := Op.mapEntry 57 (Operand.tmp 33) (Operand.tmp 34), type := 0, pos := "fdtable.go:53", after := #[{ on := 3, ground := Ground.data }, { on := 4, ground := Ground.data }, { on := 0, ground := Ground.textOnly Departure.tupleMapEntryFirst }, { on := 1, ground := Ground.textOnly Departure.tupleMapEntryFirst }, { on := 2, ground := Ground.textOnly Departure.tupleMapEntryFirst }, { on := 3, ground := Ground.textOnly Departure.tupleMapEntryFirst }, { on := 4, ground := Ground.textOnly Departure.lateStoresUnsure }, { on := 5, ground := Ground.textOnly Departure.lateStores }, { on := 6, ground := Ground.textOnly Departure.lateStoresUnsure }, { on := 7, ground := Ground.textOnly Departure.lateStoresUnsure }, { on := 8, ground := Ground.phase }, { on := 9, ground := Ground.textOnly Departure.lateStores }, { on := 10, ground := Ground.textOnly Departure.tupleMapEntryFirst }, { on := 11, ground := Ground.textOnly Departure.tupleMapEntryFirst }, { on := 12, ground := Ground.textOnly Departure.tupleMapEntryFirst }, { on := 13, ground := Ground.textOnly Departure.tupleMapEntryFirst }], guard := none }) rfl (fun K hK => ?_) AllReadyH.nil)
    · go_simp
      have tb := (Touch.refl [] W).alloc (.cells #[.int .i64 k, .int .i64 1] 64)
      have hg := heap_alloc_new W (.cells #[.int .i64 k, .int .i64 1] 64)
      have zb : (W.alloc (.cells #[.int .i64 k, .int .i64 1] 64)).heap.size = W.heap.size + 1 := by simp
      have hS2 := hS.trans tb (by simp)
      replace hr := tb.at hr (by simp)
      have hm1 := hE.touch tb (by simp)
      refine hK.out _ _ hS2 (fun _ => ?_)
      clear hK K hS tb
      generalize W.alloc (.cells #[.int .i64 k, .int .i64 1] 64) = W1 at *
      have hS := hS2
      clear hS2
      try simp only [Act.put, List.setIfInBounds_toArray, List.set_cons_zero, List.set_cons_succ]
      refine wpAnyH_ready (rs := [14]) (by kernel_rfl) (by simp) ?_
      refine AllReadyH.cons (o := { dst := some 44, op := Op.mapEntry 57 (Operand.tmp 33) (Operand.tmp 34), type := 0, pos := "fdtable.go:53", after := #[{ on := 3, ground := Ground.data }, { on := 4, ground := Ground.data }, { on := 0, ground := Ground.textOnly Departure.tupleMapEntryFirst }, { on := 1, ground := Ground.textOnly Departure.tupleMapEntryFirst }, { on := 2, ground := Ground.textOnly Departure.tupleMapEntryFirst }, { on := 3, ground := Ground.textOnly Departure.tupleMapEntryFirst }, { on := 4, ground := Ground.textOnly Departure.lateStoresUnsure }, { on := 5, ground := Ground.textOnly Departure.lateStores }, { on := 6, ground := Ground.textOnly Departure.lateStoresUnsure }, { on := 7, ground := Ground.textOnly Departure.lateStoresUnsure }, { on := 8, ground := Ground.phase }, { on := 9, ground := Ground.textOnly Departure.lateStores }, { on := 10, ground := Ground.textOnly Departure.tupleMapEntryFirst }, { on := 11, ground := Ground.textOnly Departure.tupleMapEntryFirst }, { on := 12, ground := Ground.textOnly Departure.tupleMapEntryFirst }, { on := 13, ground := Ground.textOnly Departure.tupleMapEntryFirst }], guard := none }) rfl (fun K hK => ?_) AllReadyH.nil
      obtain ⟨W2, hq, hm2, tb, z1⟩ := hm1.entryW key23 Try.underlying57 (zero61 _) hk hnone
      simp only [encK] at hq
      go_simp
      clear hq
      have hS2 := hS.trans tb (by simp)
      replace hr := tb.at hr (by simp [n1, n2, n3, n4, n5, n6, n7, n8, n9, n10])
      replace hg := tb.at hg (by simp [n1, n2, n3, n4, n5, n6, n7, n8, n9, n10])
      refine hK.out _ _ hS2 (fun _ => ?_)
      clear hK K hS tb
      have hS := hS2
      clear hS2
      try simp only [Act.put, List.setIfInBounds_toArray, List.set_cons_zero, List.set_cons_succ]
      refine wpAnyH_take (i := 15) (oi := { dst := some 45, op := Op.extract (Operand.tmp 44) 1, type := 3, pos := "fdtable.go:53", after := #[{ on := 14, ground := Ground.data }], guard := none }) (v := .int .i64 clock) rfl (by kernel_rfl) (by kernel_rfl) (by kernel_rfl) (fun _ _ _ h => h) (Or.inl ⟨by rfl, fun w' hw => by go_simp⟩) hS ?_
      try simp only [Act.put, List.setIfInBounds_toArray, List.set_cons_zero, List.set_cons_succ]
      refine wpAnyH_ready (rs := [16]) (by kernel_rfl) (by simp) ?_
      refine AllReadyH.cons (o := { dst := none, op := Op.entryStore 57 (Operand.tmp 33) (Operand.tmp 45) (Operand.tmp 43), type := 0, pos := "fdtable.go:53", after := #[{ on := 3, ground := Ground.data }, { on := 15, ground := Ground.data }, { on := 13, ground := Ground.data }, { on := 14, ground := Ground.chain }, { on := 0, ground := Ground.phase }, { on := 1, ground := Ground.phase }, { on := 2, ground := Ground.phase }, { on := 3, ground := Ground.phase }, { on := 4, ground := Ground.phase }, { on := 5, ground := Ground.textOnly Departure.lateStores }, { on := 6, ground := Ground.textOnly Departure.lateStoresUnsure }, { on := 7, ground := Ground.textOnly Departure.lateStoresUnsure }, { on := 8, ground := Ground.phase }, { on := 9, ground := Ground.textOnly Departure.lateStores }, { on := 10, ground := Ground.phase }, { on := 11, ground := Ground.phase }, { on := 12, ground := Ground.phase }, { on := 13, ground := Ground.phase }, { on := 14, ground := Ground.phase }], guard := none }) rfl (fun K hK => ?_) AllReadyH.nil
      obtain ⟨W3, hq, hm3, t3, z3⟩ := hm2.fill (t := 57) key23 hE.st (.pointer (some ⟨W.heap.size, 0, none⟩))
      go_simp
      have hS2 := hS.trans t3 (by simp)
      replace hg := t3.at hg (by simp [n1, n2, n3, n4, n5, n6, n7, n8, n9, n10])
      replace hr := t3.at hr (by simp [n1, n2, n3, n4, n5, n6, n7, n8, n9, n10])
      refine hK.out _ _ hS2 (fun _ => ?_)
      clear hK K hS hq t3 z3 hm2
      have hS := hS2
      clear hS2
      try simp only [Act.put, List.setIfInBounds_toArray, List.set_cons_zero, List.set_cons_succ]
      refine wpAnyH_take (i := 17) (oi := { dst := some 46, op := Op.indexAddr 58 (Operand.tmp 38) (Operand.tmp 39), type := 0, pos := "fdtable.go:53", after := #[{ on := 8, ground := Ground.data }, { on := 9, ground := Ground.data }, { on := 0, ground := Ground.phase }, { on := 1, ground := Ground.phase }, { on := 2, ground := Ground.phase }, { on := 3, ground := Ground.phase }, { on := 4, ground := Ground.phase }, { on := 5, ground := Ground.phase }, { on := 6, ground := Ground.phase }, { on := 7, ground := Ground.phase }, { on := 8, ground := Ground.phase }, { on := 9, ground := Ground.phase }, { on := 10, ground := Ground.phase }, { on := 11, ground := Ground.phase }, { on := 12, ground := Ground.phase }, { on := 13, ground := Ground.phase }, { on := 14, ground := Ground.phase }, { on := 15, ground := Ground.phase }, { on := 16, ground := Ground.phase }], guard := none }) (v := .pointer (some ⟨u, k, none⟩)) rfl (by kernel_rfl) (by kernel_rfl) (by kernel_rfl) (fun _ _ _ h => h) (Or.inl ⟨by rfl, fun w' hw => by go_simp⟩) hS ?_
      try simp only [Act.put, List.setIfInBounds_toArray, List.set_cons_zero, List.set_cons_succ]
      refine wpAnyH_ready (rs := [18]) (by kernel_rfl) (by simp) ?_
      refine AllReadyH.cons (o := { dst := none, op := Op.store 4 (Operand.tmp 46) (Operand.const (Value.bool true)), type := 0, pos := "fdtable.go:53", after := #[{ on := 17, ground := Ground.data }, { on := 16, ground := Ground.chain }, { on := 0, ground := Ground.phase }, { on := 1, ground := Ground.phase }, { on := 2, ground := Ground.phase }, { on := 3, ground := Ground.phase }, { on := 4, ground := Ground.phase }, { on := 5, ground := Ground.phase }, { on := 6, ground := Ground.phase }, { on := 7, ground := Ground.phase }, { on := 8, ground := Ground.phase }, { on := 9, ground := Ground.phase }, { on := 10, ground := Ground.phase }, { on := 11, ground := Ground.phase }, { on := 12, ground := Ground.phase }, { on := 13, ground := Ground.phase }, { on := 14, ground := Ground.phase }, { on := 15, ground := Ground.phase }, { on := 16, ground := Ground.phase }], guard := none }) rfl (fun K hK => ?_) AllReadyH.nil
      have q1 : W3.cell? ⟨u, k, none⟩ = some (.bool false) := by simp [World.cell?, hr, hole0]
      have q2 : W3.frozen? ⟨u, k, none⟩ = false := by simp [World.frozen?, hr]
      go_simp
      have t4 := (Touch.refl [u] W3).setCell (p := ⟨u, k, none⟩) (by simp) (.bool true)
      have hS2 := hS.trans t4 (by simp)
      have hm4 := hm3.touch t4 (by simp [n1, n2, n3, n4, n5, n6, n7, n8, n9, n10])
      have hg4 := t4.at hg (by simp [n1, n2, n3, n4, n5, n6, n7, n8, n9, n10])
      have hr4 := set_row W3 u k used true hr
      refine hK.out _ _ hS2 (fun _ => ?_)
      clear hK K hS q1 q2 hr hg hm3 t4
      generalize W3.setCell ⟨u, k, none⟩ (.bool true) = W4 at *
      try simp only [Act.put, List.setIfInBounds_toArray, List.set_cons_zero, List.set_cons_succ]
      refine wpAnyH_done (by kernel_rfl) ?_ _
      skip
      have h0 := hS2.at hH (by simp [n1, n2, n3, n4, n5, n6, n7, n8, n9, n10])
      have k2 : W4.cell? ⟨t, 2, none⟩ = some (.int .i64 total) := by simp [World.cell?, h0]
      have k3 : W4.frozen? ⟨t, 2, none⟩ = false := by simp [World.frozen?, h0]
      go_wp2_with fail
      go_ret2
      (obtain ⟨r1, r2⟩ := open_fin hT hk HF.out hole0 hS2 ⟨_, _, hm4⟩ hg4 hr4; refine ⟨by rw [HK.out]; rfl, ?_⟩; unfold Opened; exact ⟨W.heap.size, by omega, by rw [HK.out]; exact r1, (T3.mono (by simp)).trans r2 (by simp)⟩)
    · obtain ⟨W1, hq, hm1, tb, z1⟩ := hE.entryW key23 Try.underlying57 (zero61 _) hk hnone
      simp only [encK] at hq
      go_simp
      clear hq
      have hS2 := hS.trans tb (by simp)
      replace hr := tb.at hr (by simp [n1, n2, n3, n4, n5, n6, n7, n8, n9, n10])
      refine hK.out _ _ hS2 (fun _ => ?_)
      clear hK K hS tb
      have hS := hS2
      clear hS2
      try simp only [Act.put, List.setIfInBounds_toArray, List.set_cons_zero, List.set_cons_succ]
      refine wpAnyH_take (i := 15) (oi := { dst := some 45, op := Op.extract (Operand.tmp 44) 1, type := 3, pos := "fdtable.go:53", after := #[{ on := 14, ground := Ground.data }], guard := none }) (v := .int .i64 clock) rfl (by kernel_rfl) (by kernel_rfl) (by kernel_rfl) (fun _ _ _ h => h) (Or.inl ⟨by rfl, fun w' hw => by go_simp⟩) hS ?_
      try simp only [Act.put, List.setIfInBounds_toArray, List.set_cons_zero, List.set_cons_succ]
      refine wpAnyH_ready (rs := [13]) (by kernel_rfl) (by simp) ?_
      refine AllReadyH.cons (o := { dst := some 43, op := Op.box 64 (Operand.tmp 42), type := 61, pos := "fdtable.go:53", after := #[{ on := 12, ground := Ground.data }, { on := 14, ground := Ground.gcOnly Departure.tupleMapEntryFirst }], guard := none }) rfl (fun K hK => ?_) AllReadyH.nil
      go_simp
      have tb := (Touch.refl [] W1).alloc (.cells #[.int .i64 k, .int .i64 1] 64)
      have hg := heap_alloc_new W1 (.cells #[.int .i64 k, .int .i64 1] 64)
      have zb : (W1.alloc (.cells #[.int .i64 k, .int .i64 1] 64)).heap.size = W.heap.size + 1 := by simp [z1]
      have hS2 := hS.trans tb (by simp)
      replace hr := tb.at hr (by simp)
      rw [z1] at hg
      have hm2 := hm1.touch tb (by simp)
      try rw [z1]
      refine hK.out _ _ hS2 (fun _ => ?_)
      clear hK K hS tb
      generalize W1.alloc (.cells #[.int .i64 k, .int .i64 1] 64) = W2 at *
      have hS := hS2
      clear hS2
      try simp only [Act.put, List.setIfInBounds_toArray, List.set_cons_zero, List.set_cons_succ]
      refine wpAnyH_ready (rs := [16]) (by kernel_rfl) (by simp) ?_
      refine AllReadyH.cons (o := { dst := none, op := Op.entryStore 57 (Operand.tmp 33) (Operand.tmp 45) (Operand.tmp 43), type := 0, pos := "fdtable.go:53", after := #[{ on := 3, ground := Ground.data }, { on := 15, ground := Ground.data }, { on := 13, ground := Ground.data }, { on := 14, ground := Ground.chain }, { on := 0, ground := Ground.phase }, { on := 1, ground := Ground.phase }, { on := 2, ground := Ground.phase }, { on := 3, ground := Ground.phase }, { on := 4, ground := Ground.phase }, { on := 5, ground := Ground.textOnly Departure.lateStores }, { on := 6, ground := Ground.textOnly Departure.lateStoresUnsure }, { on := 7, ground := Ground.textOnly Departure.lateStoresUnsure }, { on := 8, ground := Ground.phase }, { on := 9, ground := Ground.textOnly Departure.lateStores }, { on := 10, ground := Ground.phase }, { on := 11, ground := Ground.phase }, { on := 12, ground := Ground.phase }, { on := 13, ground := Ground.phase }, { on := 14, ground := Ground.phase }], guard := none }) rfl (fun K hK => ?_) AllReadyH.nil
      obtain ⟨W3, hq, hm3, t3, z3⟩ := hm2.fill (t := 57) key23 hE.st (.pointer (some ⟨W.heap.size, 0, none⟩))
      go_simp
      have hS2 := hS.trans t3 (by simp)
      replace hg := t3.at hg (by simp [n1, n2, n3, n4, n5, n6, n7, n8, n9, n10])
      replace hr := t3.at hr (by simp [n1, n2, n3, n4, n5, n6, n7, n8, n9, n10])
      refine hK.out _ _ hS2 (fun _ => ?_)
      clear hK K hS hq t3 z3 hm2
      have hS := hS2
      clear hS2
      try simp only [Act.put, List.setIfInBounds_toArray, List.set_cons_zero, List.set_cons_succ]
      refine wpAnyH_take (i := 17) (oi := { dst := some 46, op := Op.indexAddr 58 (Operand.tmp 38) (Operand.tmp 39), type := 0, pos := "fdtable.go:53", after := #[{ on := 8, ground := Ground.data }, { on := 9, ground := Ground.data }, { on := 0, ground := Ground.phase }, { on := 1, ground := Ground.phase }, { on := 2, ground := Ground.phase }, { on := 3, ground := Ground.phase }, { on := 4, ground := Ground.phase }, { on := 5, ground := Ground.phase }, { on := 6, ground := Ground.phase }, { on := 7, ground := Ground.phase }, { on := 8, ground := Ground.phase }, { on := 9, ground := Ground.phase }, { on := 10, ground := Ground.phase }, { on := 11, ground := Ground.phase }, { on := 12, ground := Ground.phase }, { on := 13, ground := Ground.phase }, { on := 14, ground := Ground.phase }, { on := 15, ground := Ground.phase }, { on := 16, ground := Ground.phase }], guard := none }) (v := .pointer (some ⟨u, k, none⟩)) rfl (by kernel_rfl) (by kernel_rfl) (by kernel_rfl) (fun _ _ _ h => h) (Or.inl ⟨by rfl, fun w' hw => by go_simp⟩) hS ?_
      try simp only [Act.put, List.setIfInBounds_toArray, List.set_cons_zero, List.set_cons_succ]
      refine wpAnyH_ready (rs := [18]) (by kernel_rfl) (by simp) ?_
      refine AllReadyH.cons (o := { dst := none, op := Op.store 4 (Operand.tmp 46) (Operand.const (Value.bool true)), type := 0, pos := "fdtable.go:53", after := #[{ on := 17, ground := Ground.data }, { on := 16, ground := Ground.chain }, { on := 0, ground := Ground.phase }, { on := 1, ground := Ground.phase }, { on := 2, ground := Ground.phase }, { on := 3, ground := Ground.phase }, { on := 4, ground := Ground.phase }, { on := 5, ground := Ground.phase }, { on := 6, ground := Ground.phase }, { on := 7, ground := Ground.phase }, { on := 8, ground := Ground.phase }, { on := 9, ground := Ground.phase }, { on := 10, ground := Ground.phase }, { on := 11, ground := Ground.phase }, { on := 12, ground := Ground.phase }, { on := 13, ground := Ground.phase }, { on := 14, ground := Ground.phase }, { on := 15, ground := Ground.phase }, { on := 16, ground := Ground.phase }], guard := none }) rfl (fun K hK => ?_) AllReadyH.nil
      have q1 : W3.cell? ⟨u, k, none⟩ = some (.bool false) := by simp [World.cell?, hr, hole0]
      have q2 : W3.frozen? ⟨u, k, none⟩ = false := by simp [World.frozen?, hr]
      go_simp
      have t4 := (Touch.refl [u] W3).setCell (p := ⟨u, k, none⟩) (by simp) (.bool true)
      have hS2 := hS.trans t4 (by simp)
      have hm4 := hm3.touch t4 (by simp [n1, n2, n3, n4, n5, n6, n7, n8, n9, n10])
      have hg4 := t4.at hg (by simp [n1, n2, n3, n4, n5, n6, n7, n8, n9, n10])
      have hr4 := set_row W3 u k used true hr
      refine hK.out _ _ hS2 (fun _ => ?_)
      clear hK K hS q1 q2 hr hg hm3 t4
      generalize W3.setCell ⟨u, k, none⟩ (.bool true) = W4 at *
      try simp only [Act.put, List.setIfInBounds_toArray, List.set_cons_zero, List.set_cons_succ]
      refine wpAnyH_done (by kernel_rfl) ?_ _
      skip
      have h0 := hS2.at hH (by simp [n1, n2, n3, n4, n5, n6, n7, n8, n9, n10])
      have k2 : W4.cell? ⟨t, 2, none⟩ = some (.int .i64 total) := by simp [World.cell?, h0]
      have k3 : W4.frozen? ⟨t, 2, none⟩ = false := by simp [World.frozen?, h0]
      go_wp2_with fail
      go_ret2
      (obtain ⟨r1, r2⟩ := open_fin hT hk HF.out hole0 hS2 ⟨_, _, hm4⟩ hg4 hr4; refine ⟨by rw [HK.out]; rfl, ?_⟩; unfold Opened; exact ⟨W.heap.size, by omega, by rw [HK.out]; exact r1, (T3.mono (by simp)).trans r2 (by simp)⟩)

end Go.Proofs.Ytnglkdpmkgehoaa

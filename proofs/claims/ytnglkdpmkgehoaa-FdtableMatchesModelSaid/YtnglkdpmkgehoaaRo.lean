/-
  The contract of the reference table's Open.
-/
import Derived.Test.YtnglkdpmkgehoaaRc
namespace Go.Proofs.Ytnglkdpmkgehoaa
open Go.RowKit
set_option linter.unusedVariables false
set_option linter.unusedSimpArgs false

set_option maxRecDepth 100000 in
set_option maxHeartbeats 1000000 in
theorem ropen_bad (x : Nat) (c a : Int) (pending : Bool) (w : World) (hv : validB c a = false) :
    Calls Try.prog 41 #[.pointer (some ⟨x, 0, none⟩), .agg #[.int .i64 c, .int .i64 a], .bool pending] w fun e w' => e = .returned (.tuple #[.int .i64 0, .int .i64 1]) ∧ Touch [] w w' := by
  have tA := (Touch.refl [] w).alloc (.cells #[.int .i64 c, .int .i64 a] 23)
  have HV := Lib.hid hv
  clear hv
  go_enter Try.func41, Try.ntmps41
  go_wp2_with fail
  refine (vend_any c a _).mono ?_
  rintro e w1 ⟨rfl, t1⟩
  rw [HV.out]
  go_wp2_with fail
  go_ret2
  exact ⟨rfl, tA.trans t1 (by simp)⟩
set_option maxRecDepth 100000 in
set_option maxHeartbeats 1000000 in
theorem ropen_dup (x : Nat) (limit : Int) (v : Value) (live : List Fd) (total c a : Int) (pending : Bool) (w : World) (h : Rf w x limit v live total) (hk : okK (c, a)) (hks : ∀ f ∈ live, okK f.key) (hv : validB c a = true) (f : Fd) (hf : fdAt live (c, a) = some f) :
    Calls Try.prog 41 #[.pointer (some ⟨x, 0, none⟩), .agg #[.int .i64 c, .int .i64 a], .bool pending] w fun e w' => e = .returned (.tuple #[.int .i64 0, .int .i64 5]) ∧ Touch [] w w' := by
  have tA := (Touch.refl [] w).alloc (.cells #[.int .i64 c, .int .i64 a] 23)
  have bA := heap_alloc_new w (.cells #[.int .i64 c, .int .i64 a] 23)
  have hA := Lib.hid (h.touch tA (by simp))
  have HV := Lib.hid hv
  have hix := fdAt_lt hf
  have ix1 : (0 : Int) ≤ (fdIx live (c, a) : Int) := by omega
  clear hv h hf
  go_enter Try.func41, Try.ntmps41
  go_wp2_with fail
  refine (vend_any c a _).mono ?_
  rintro e w1 ⟨rfl, t1⟩
  rw [HV.out]
  obtain ⟨b0, b1⟩ := cells_two (t1.at bA (by simp))
  have HB := Lib.hid (hA.out.touch t1 (by simp))
  go_wp2_with fail
  refine (find_any x limit v live total c a _ HB.out hk hks).mono ?_
  rintro e w2 ⟨rfl, t2⟩
  rw [if_pos hix]
  go_wp2_with fail
  go_ret2
  exact ⟨rfl, (tA.trans t1 (by simp)).trans t2 (by simp)⟩
set_option maxRecDepth 100000 in
set_option maxHeartbeats 1000000 in
theorem ropen_full (x n : Nat) (v : Value) (live : List Fd) (total c a : Int) (pending : Bool) (w : World) (h : Rf w x n v live total) (hk : okK (c, a)) (hks : ∀ f ∈ live, okK f.key) (hv : validB c a = true) (hf : fdAt live (c, a) = none) (hn : n ≤ live.length) :
    Calls Try.prog 41 #[.pointer (some ⟨x, 0, none⟩), .agg #[.int .i64 c, .int .i64 a], .bool pending] w fun e w' => e = .returned (.tuple #[.int .i64 0, .int .i64 6]) ∧ Touch [] w w' := by
  have tA := (Touch.refl [] w).alloc (.cells #[.int .i64 c, .int .i64 a] 23)
  have bA := heap_alloc_new w (.cells #[.int .i64 c, .int .i64 a] 23)
  have hA := Lib.hid (h.touch tA (by simp))
  have HV := Lib.hid hv
  have hix : ¬ fdIx live (c, a) < live.length := by rw [fdAt_not hf]; omega
  obtain ⟨av, cv, rfl, hv1, hv2, hv3⟩ := h.form
  clear hv h hf hv3
  go_enter Try.func41, Try.ntmps41
  go_wp2_with fail
  refine (vend_any c a _).mono ?_
  rintro e w1 ⟨rfl, t1⟩
  rw [HV.out]
  obtain ⟨b0, b1⟩ := cells_two (t1.at bA (by simp))
  have HB := Lib.hid (hA.out.touch t1 (by simp))
  go_wp2_with fail
  refine (find_any x n _ live total c a _ HB.out hk hks).mono ?_
  rintro e w2 ⟨rfl, t2⟩
  rw [if_neg hix]
  obtain ⟨c0, c1, c2⟩ := (HB.out.touch t2 (by simp)).cells
  go_wp2_with fail
  go_quiet (fail)
  go_wp2_with fail
  go_ret2
  exact ⟨rfl, ((tA.trans t1 (by simp)).trans t2 (by simp)).drews _⟩

theorem open_rfin {W w2 : World} {x g0 : Nat} {n : Int} {V v2 : Value} {live : List Fd} {total c a k s0 : Int} {s : Nat} (hT : Rf W x n V live total) (hx : x < W.heap.size)
    (o2 : w2.ownsRow 0 56 4 v2 (live.length + 1) ((live.map encF).flatten ++ [[.int .i64 c, .int .i64 a, .int .i64 k, .int .i64 s0]].flatten)) (t2 : Touch V.ownBlock.toList W w2) (b2 : v2.ownBlock = V.ownBlock ∨ v2.ownBlock = some s) (hs : W.heap.size ≤ s) (hfew : live.length + 1 ≤ 1000) (kn : Nat) (hk : k = kn) :
    Rf ((w2.setCell ⟨x, 1, none⟩ v2).setCell ⟨x, 2, none⟩ (.int .i64 (total + 1))) x n v2 (live ++ [⟨(c, a), g0, kn, s0⟩]) (total + 1) ∧ Touch (x :: V.ownBlock.toList) W ((w2.setCell ⟨x, 1, none⟩ v2).setCell ⟨x, 2, none⟩ (.int .i64 (total + 1))) ∧
    (w2.setCell ⟨x, 1, none⟩ v2).cell? ⟨x, 2, none⟩ = some (.int .i64 total) ∧ (w2.setCell ⟨x, 1, none⟩ v2).frozen? ⟨x, 2, none⟩ = false := by
  have hVx : x ∉ V.ownBlock.toList := by
    intro hm
    exact hT.ne (by simpa using hm)
  have hH := t2.at hT.hdr hVx
  have hne : v2.ownBlock ≠ some x := by
    rcases b2 with e | e
    · rw [e]; exact hT.ne
    · rw [e]; simp; omega
  have t3 := (Touch.refl [x] w2).setCell (p := ⟨x, 1, none⟩) (by simp) v2
  have t4 := (Touch.refl [x] (w2.setCell ⟨x, 1, none⟩ v2)).setCell (p := ⟨x, 2, none⟩) (by simp) (.int .i64 (total + 1))
  have hH3 : (w2.setCell ⟨x, 1, none⟩ v2).heap[x]? = some (.cells #[.int .i64 n, v2, .int .i64 total] 46 (0, 0)) := by simp [World.setCell, Array.getElem?_modify, hH]
  refine ⟨⟨by simp [World.setCell, Array.getElem?_modify, hH], ?_, hne, by simpa using hfew⟩, ?_, by simp [World.cell?, hH3], by simp [World.frozen?, hH3]⟩
  · have hd : ∀ g, v2.ownBlock = some g → g ∉ [x] := by
      intro g hg
      simp only [List.mem_singleton]
      intro e
      exact hne (by rw [hg, e])
    have h3 := t4.owns (t3.owns o2 hd) hd
    subst hk
    simpa [encF] using h3
  · refine ((t2.mono (S' := x :: V.ownBlock.toList) (fun y hy => .inl (List.mem_cons_of_mem _ hy))).trans t3 (by simp)).trans t4 (by simp)

def ROpened (x n : Nat) (v : Value) (live : List Fd) (used : List Bool) (total c a s0 : Int) (g : Nat) (w w' : World) : Prop :=
  ∃ v', Rf w' x n v' (live ++ [⟨(c, a), g, hole used, s0⟩]) (total + 1) ∧ (∀ b, v'.ownBlock = some b → v.ownBlock = some b ∨ w.heap.size ≤ b) ∧ Touch (x :: v.ownBlock.toList) w w'
/-- The flags tell the numbers. -/
def Flags (live : List Fd) (used : List Bool) : Prop := ∀ j, used[j]? = some true ↔ ∃ f ∈ live, f.no = j

def OutRel (k0 : Nat) (vn vt : Value) : Prop := ∃ (k : Nat) (b : Bool), vn = .int .i64 k ∧ vt = .bool b ∧ k ≤ k0 ∧ (b = false → k = k0)
theorem OutRel.mk {k0 : Nat} (k : Nat) (b : Bool) (h : k ≤ k0) (h2 : b = false → k = k0) : OutRel k0 (.int .i64 k) (.bool b) := ⟨k, b, rfl, rfl, h, h2⟩
set_option maxRecDepth 100000 in
set_option maxHeartbeats 4000000 in
theorem ropen_ok (x n : Nat) (v : Value) (live : List Fd) (used : List Bool) (total c a : Int) (pending : Bool) (w : World) (h : Rf w x n v live total) (hk : okK (c, a)) (hks : ∀ f ∈ live, okK f.key) (hv : validB c a = true) (hf : fdAt live (c, a) = none) (hn : live.length < n)
    (hfl : Flags live used) (hh : hole used < used.length) (hul : used.length ≤ 256) (g : Nat) (ht : 0 ≤ total ∧ total ≤ 1000000) (hfew2 : live.length + 1 ≤ 1000) :
    Calls Try.prog 41 #[.pointer (some ⟨x, 0, none⟩), .agg #[.int .i64 c, .int .i64 a], .bool pending] w fun e w' => e = .returned (.tuple #[.int .i64 (hole used), .int .i64 0]) ∧ ROpened x n v live used total c a (if pending then 1 else 2) g w w' := by
  obtain ⟨i56, hi56, hz56, hs56, hb56⟩ := info_parts info56
  obtain ⟨ht0, ht1⟩ := ht
  have tA := (Touch.refl [] w).alloc (.cells #[.int .i64 c, .int .i64 a] 23)
  have bA := heap_alloc_new w (.cells #[.int .i64 c, .int .i64 a] 23)
  have hA := Lib.hid (h.touch tA (by simp))
  have HV := Lib.hid hv
  have hix : ¬ fdIx live (c, a) < live.length := by rw [fdAt_not hf]; omega
  have hfew := h.few
  obtain ⟨av, cv, rfl, hv1, hv2, hv3⟩ := h.form
  have hltx := h.lt x (by simp [Rf.foot])
  have hA1 : ∀ k : Nat, k < hole used → ∃ f ∈ live, f.no = k := fun k hkh => (hfl k).1 (hole_before hkh)
  have hA2 : ∀ f ∈ live, f.no ≠ hole used := fun f hfm e => by
    have := (hfl (hole used)).2 ⟨f, hfm, e⟩
    rw [hole_at hh] at this
    cases this
  have HA1 := Lib.hid hA1
  have HA2 := Lib.hid hA2
  obtain ⟨k0, hK0⟩ : ∃ k0, hole used = k0 := ⟨_, rfl⟩
  have HK := Lib.hid hK0
  have hk256 : k0 ≤ 256 := by omega
  clear hv h hf hv3 hA1 hA2 hfl hh
  rw [hK0] at HA1 HA2
  clear hK0
  go_enter Try.func41, Try.ntmps41
  go_wp2_with fail
  refine (vend_any c a _).mono ?_
  rintro e w1 ⟨rfl, t1⟩
  rw [HV.out]
  obtain ⟨b0, b1⟩ := cells_two (t1.at bA (by simp))
  have HB := Lib.hid (hA.out.touch t1 (by simp))
  go_wp2_with fail
  refine (find_any x n _ live total c a _ HB.out hk hks).mono ?_
  rintro e w2 ⟨rfl, t2⟩
  rw [if_neg hix]
  have HC := Lib.hid (HB.out.touch t2 (by simp))
  have bC := t2.at (t1.at bA (by simp)) (by simp)
  obtain ⟨c0, c1, c2⟩ := HC.out.cells
  have T2 := ((tA.trans t1 (by simp)).trans t2 (by simp))
  clear b0 b1
  go_wp2_with fail
  go_quiet (fail)
  go_wp2_with fail
  have T3 := T2.drews nq
  have HD := Lib.hid (HC.out.touch (drewN_touch w2 nq) (by simp))
  have bD := (drewN_touch w2 nq).at bC (by simp)
  generalize w2.drewN nq = W0 at *
  clear c0 c1 c2 bC T2
  obtain ⟨c0, c1, c2⟩ := HD.out.cells
  obtain ⟨b0, b1⟩ := cells_two bD
  go_loop [8, 9] (fun vn vt => OutRel k0 vn vt) (fun vn vt => 2 * (k0 - (intOf vn).toNat) + (match vt with | .bool true => 1 | _ => 0))
  case atStart => exact OutRel.mk 0 true (by omega) (by simp)
  case round =>
    unfold OutRel at hrel
    obtain ⟨k, b, rfl, rfl, hkk, hb⟩ := hrel
    cases b
    · obtain rfl : k0 = k := (hb rfl).symm
      clear hkk hb
      cases pending
      · go_wp2_with fail
        have T4 := (T3.alloc (.cells #[.int .i64 c, .int .i64 a, .int .i64 k0, .int .i64 2] 56)).drew
        have hT := (HD.out.touch ((Touch.refl [] W0).alloc (.cells #[.int .i64 c, .int .i64 a, .int .i64 k0, .int .i64 2] 56)) (by simp)).touch ((Touch.refl [] (W0.alloc (.cells #[.int .i64 c, .int .i64 a, .int .i64 k0, .int .i64 2] 56))).drew) (by simp)
        have gD := heap_alloc_new W0 (.cells #[.int .i64 c, .int .i64 a, .int .i64 k0, .int .i64 2] 56)
        replace gD := ((Touch.refl [] (W0.alloc (.cells #[.int .i64 c, .int .i64 a, .int .i64 k0, .int .i64 2] 56))).drew).at gD (by simp)
        have hDlt := HD.out.lt
        refine wp_region_F (S := Touch (Value.slice av live.length cv).ownBlock.toList (W0.alloc (.cells #[.int .i64 c, .int .i64 a, .int .i64 k0, .int .i64 2] 56)).drew) [10] (by kernel_rfl) ?_
        change wpAnyF _ _ _ _ _ _ _ _ _ (W0.alloc (.cells #[.int .i64 c, .int .i64 a, .int .i64 k0, .int .i64 2] 56)).drew
        generalize hD0 : W0.heap.size = D at *
        generalize (W0.alloc (.cells #[.int .i64 c, .int .i64 a, .int .i64 k0, .int .i64 2] 56)).drew = W at *
        have hS := Touch.refl (Value.slice av live.length cv).ownBlock.toList W
        have hD : W.rangeAt D 0 [.int .i64 c, .int .i64 a, .int .i64 k0, .int .i64 2] := range_block gD
        have hxW := hT.lt x (by simp [Rf.foot])
        have hVx : ¬ (Value.slice av live.length cv).ownBlock = some x := hT.ne
        have hVD : ¬ (Value.slice av live.length cv).ownBlock = some D := fun e => by
          have := hDlt D (by simp [Rf.foot, e])
          omega
        obtain ⟨d0, c1, d2⟩ := hT.cells
        clear d0 d2 gD hDlt
        refine wpAnyF_take (i := 0) (oi := { dst := some 56, op := Op.move (Operand.tmp 0), type := 43, pos := "ref.go:326", after := #[], guard := none }) (v := .pointer (some ⟨x, 0, none⟩)) rfl (by kernel_rfl) (by kernel_rfl) (by kernel_rfl) (by kernel_rfl) (by kernel_rfl) (fun _ _ _ h => h) (Or.inl ⟨by rfl, fun w' hw => by go_simp⟩) hS ?_
        try simp only [Act.put, List.setIfInBounds_toArray, List.set_cons_zero, List.set_cons_succ]
        refine wpAnyF_take (i := 1) (oi := { dst := some 57, op := Op.move (Operand.tmp 0), type := 43, pos := "ref.go:326", after := #[], guard := none }) (v := .pointer (some ⟨x, 0, none⟩)) rfl (by kernel_rfl) (by kernel_rfl) (by kernel_rfl) (by kernel_rfl) (by kernel_rfl) (fun _ _ _ h => h) (Or.inl ⟨by rfl, fun w' hw => by go_simp⟩) hS ?_
        try simp only [Act.put, List.setIfInBounds_toArray, List.set_cons_zero, List.set_cons_succ]
        refine wpAnyF_take (i := 2) (oi := { dst := some 58, op := Op.nilCheck (Operand.tmp 57), type := 0, pos := "ref.go:326", after := #[{ on := 1, ground := Ground.data }], guard := none }) (v := .pointer (some ⟨x, 0, none⟩)) rfl (by kernel_rfl) (by kernel_rfl) (by kernel_rfl) (by kernel_rfl) (by kernel_rfl) (fun _ _ _ h => h) (Or.inl ⟨by rfl, fun w' hw => by go_simp⟩) hS ?_
        try simp only [Act.put, List.setIfInBounds_toArray, List.set_cons_zero, List.set_cons_succ]
        refine wpAnyF_take (i := 3) (oi := { dst := some 59, op := Op.fieldAddr 46 (Operand.tmp 58) 1, type := 0, pos := "ref.go:326", after := #[{ on := 2, ground := Ground.data }], guard := none }) (v := .pointer (some ⟨x, 1, none⟩)) rfl (by kernel_rfl) (by kernel_rfl) (by kernel_rfl) (by kernel_rfl) (by kernel_rfl) (fun _ _ _ h => h) (Or.inl ⟨by rfl, fun w' hw => by go_simp⟩) hS ?_
        try simp only [Act.put, List.setIfInBounds_toArray, List.set_cons_zero, List.set_cons_succ]
        refine wpAnyF_take (i := 4) (oi := { dst := some 60, op := Op.load 44 (Operand.tmp 59), type := 44, pos := "ref.go:326", after := #[{ on := 3, ground := Ground.data }], guard := none }) (v := (Value.slice av live.length cv)) rfl (by kernel_rfl) (by kernel_rfl) (by kernel_rfl) (by kernel_rfl) (by kernel_rfl) (fun _ _ _ h => h) (Or.inl ⟨by rfl, fun w' hw => by (have q2 : w'.cell? ⟨x, 1, none⟩ = some (Value.slice av live.length cv) := hw.cell c1 (by simpa using hVx); go_simp)⟩) hS ?_
        try simp only [Act.put, List.setIfInBounds_toArray, List.set_cons_zero, List.set_cons_succ]
        refine wpAnyF_take (i := 5) (oi := { dst := some 61, op := Op.load 56 (Operand.tmp 11), type := 56, pos := "ref.go:326", after := #[], guard := none }) (v := .agg [.int .i64 c, .int .i64 a, .int .i64 k0, .int .i64 2].toArray) rfl (by kernel_rfl) (by kernel_rfl) (by kernel_rfl) (by kernel_rfl) (by kernel_rfl) (fun _ _ _ h => h) (yieldsIf_load_mid (by rfl) 56 _ rfl D 0 rfl [.int .i64 c, .int .i64 a, .int .i64 k0, .int .i64 2] _ (fun w' hw => hw.range hD (by simpa using hVD)) Try.underlying56 rfl (by rw [size56]; rfl)) hS ?_
        try simp only [Act.put, List.setIfInBounds_toArray, List.set_cons_zero, List.set_cons_succ]
        refine wpAnyF_ready (rs := [6]) (by kernel_rfl) (by simp) ?_
        refine AllReadyF.cons (o := { dst := some 62, op := Op.buildSlice 44 1 #[(0, Operand.tmp 61)], type := 44, pos := "ref.go:326", after := #[{ on := 5, ground := Ground.data }], guard := none }) rfl (fun K hK => ?_) AllReadyF.nil
        refine step_of_list rfl ?_
        refine wpList_buildSlice_rows rfl 44 1 _ rfl 56 4 i56 _ Try.underlying44 hi56 hz56 hs56 (by omega) [[.int .i64 c, .int .i64 a, .int .i64 k0, .int .i64 2]] rfl (by simp) (by omega) (by rfl) ?_
        have tb := (Touch.refl [] W).alloc (.cells [[.int .i64 c, .int .i64 a, .int .i64 k0, .int .i64 2]].flatten.toArray 56)
        have hrow2 := (hT.touch tb (by simp)).row
        have hnw := range_new W [[.int .i64 c, .int .i64 a, .int .i64 k0, .int .i64 2]].flatten 56
        have hS2 := hS.trans tb (by simp)
        refine ⟨rfl, hK.out _ _ hS2 (fun _ => ?_)⟩
        clear hK K hS
        have hS := hS2
        clear hS2
        generalize hW1 : W.alloc (.cells [[.int .i64 c, .int .i64 a, .int .i64 k0, .int .i64 2]].flatten.toArray 56) = W1 at *
        have z1 : W1.heap.size = W.heap.size + 1 := by rw [← hW1]; simp
        clear hW1
        try simp only [Act.put, List.setIfInBounds_toArray, List.set_cons_zero, List.set_cons_succ]
        refine wpAnyF_ready (rs := [7]) (by kernel_rfl) (by simp) ?_
        refine AllReadyF.cons (o := { dst := some 63, op := Op.call { callee := Callee.builtin Builtin.append, args := #[Operand.tmp 60, Operand.tmp 62], argTypes := #[44, 44] }, type := 44, pos := "ref.go:326", after := #[{ on := 4, ground := Ground.data }, { on := 6, ground := Ground.data }], guard := none }) rfl (fun K hK => ?_) AllReadyF.nil
        refine step_app _ (by rfl) (.tmp 60) (.tmp 62) 44 (by rfl) 56 i56 _ 4 32 Try.underlying44 hi56 hz56 hs56 hb56 rfl (by omega) (Value.slice av live.length cv) live.length _ (by rfl) hrow2 (some ⟨W.heap.size, 0, none⟩) 1 1 [[.int .i64 c, .int .i64 a, .int .i64 k0, .int .i64 2]].flatten (by rfl) (by simp) (by simp) (by intro ad h j u hu; cases h; rw [Addr.add_lit]; exact hnw j u hu) (by simp [Value.oneCell']) (by unfold maxLen; omega) (by omega) ?_
        intro v2 w2 o2 t2 b2
        have t2' : Touch (Value.slice av live.length cv).ownBlock.toList W w2 := (tb.mono (by simp)).trans t2 (fun y hy => .inl hy)
        have hS2 := hS.trans t2 (fun y hy => .inl hy)
        refine hK.out _ _ hS2 (fun _ => ?_)
        clear hK K hS
        have hS := hS2
        clear hS2
        try simp only [Act.put, List.setIfInBounds_toArray, List.set_cons_zero, List.set_cons_succ]
        refine wpAnyF_take (i := 8) (oi := { dst := some 64, op := Op.nilCheck (Operand.tmp 56), type := 0, pos := "ref.go:326", after := #[{ on := 0, ground := Ground.data }, { on := 0, ground := Ground.phase }, { on := 1, ground := Ground.phase }, { on := 2, ground := Ground.phase }, { on := 3, ground := Ground.phase }, { on := 4, ground := Ground.phase }, { on := 5, ground := Ground.phase }, { on := 6, ground := Ground.phase }, { on := 7, ground := Ground.phase }], guard := none }) (v := .pointer (some ⟨x, 0, none⟩)) rfl (by kernel_rfl) (by kernel_rfl) (by kernel_rfl) (by kernel_rfl) (by kernel_rfl) (fun _ _ _ h => h) (Or.inl ⟨by rfl, fun w' hw => by go_simp⟩) hS ?_
        try simp only [Act.put, List.setIfInBounds_toArray, List.set_cons_zero, List.set_cons_succ]
        refine wpAnyF_take (i := 9) (oi := { dst := some 65, op := Op.fieldAddr 46 (Operand.tmp 64) 1, type := 0, pos := "ref.go:326", after := #[{ on := 8, ground := Ground.data }, { on := 0, ground := Ground.phase }, { on := 1, ground := Ground.phase }, { on := 2, ground := Ground.phase }, { on := 3, ground := Ground.phase }, { on := 4, ground := Ground.phase }, { on := 5, ground := Ground.phase }, { on := 6, ground := Ground.phase }, { on := 7, ground := Ground.phase }], guard := none }) (v := .pointer (some ⟨x, 1, none⟩)) rfl (by kernel_rfl) (by kernel_rfl) (by kernel_rfl) (by kernel_rfl) (by kernel_rfl) (fun _ _ _ h => h) (Or.inl ⟨by rfl, fun w' hw => by go_simp⟩) hS ?_
        try simp only [Act.put, List.setIfInBounds_toArray, List.set_cons_zero, List.set_cons_succ]
        refine wpAnyF_ready (rs := [10]) (by kernel_rfl) (by simp) ?_
        refine AllReadyF.last (o := { dst := none, op := Op.store 44 (Operand.tmp 65) (Operand.tmp 63), type := 0, pos := "ref.go:326", after := #[{ on := 9, ground := Ground.data }, { on := 7, ground := Ground.data }, { on := 7, ground := Ground.chain }, { on := 0, ground := Ground.phase }, { on := 1, ground := Ground.phase }, { on := 2, ground := Ground.phase }, { on := 3, ground := Ground.phase }, { on := 4, ground := Ground.phase }, { on := 5, ground := Ground.phase }, { on := 6, ground := Ground.phase }, { on := 7, ground := Ground.phase }], guard := none }) rfl (by simp) (fun K hK => ?_) AllReadyF.nil
        have q1 : w2.cell? ⟨x, 1, none⟩ = some (Value.slice av live.length cv) := t2'.cell c1 (by simpa using hVx)
        have hH2 := t2'.at hT.hdr (by simpa using hVx)
        have q2 : w2.frozen? ⟨x, 1, none⟩ = false := by simp [World.frozen?, hH2]
        obtain ⟨a2, c2', rfl, _⟩ := owns_form o2
        go_simp
        have q3 := w2
        refine hK.out _ _ ?_
        clear hK K q3
        try simp only [Act.put, List.setIfInBounds_toArray, List.set_cons_zero, List.set_cons_succ]
        refine wpAnyF_done (by kernel_rfl) ?_ _
        obtain ⟨r1, r2, r3, r4⟩ := open_rfin (s0 := 2) (total := total) (c := c) (a := a) hT hxW o2 t2' b2 (by omega) hfew2 (g0 := g) k0 rfl
        have R1 := Lib.hid r1
        have R2 := Lib.hid r2
        clear r1 r2
        generalize w2.setCell ⟨x, 1, none⟩ (.slice a2 (live.length + 1) c2') = W3 at *
        go_wp2_with fail
        go_ret2
        refine ⟨by rw [HK.out]; rfl, ?_⟩
        unfold ROpened
        exact ⟨_, by rw [HK.out]; exact R1.out, fun b hb => (by rcases b2 with e | e; exact .inl (by rw [← e]; exact hb); exact .inr (by rw [e] at hb; simp at hb; have := T4.size; omega)), (T4.mono (by simp)).trans R2.out (fun y hy => .inl hy)⟩
      · go_wp2_with fail
        have T4 := (T3.alloc (.cells #[.int .i64 c, .int .i64 a, .int .i64 k0, .int .i64 1] 56)).drew
        have hT := (HD.out.touch ((Touch.refl [] W0).alloc (.cells #[.int .i64 c, .int .i64 a, .int .i64 k0, .int .i64 1] 56)) (by simp)).touch ((Touch.refl [] (W0.alloc (.cells #[.int .i64 c, .int .i64 a, .int .i64 k0, .int .i64 1] 56))).drew) (by simp)
        have gD := heap_alloc_new W0 (.cells #[.int .i64 c, .int .i64 a, .int .i64 k0, .int .i64 1] 56)
        replace gD := ((Touch.refl [] (W0.alloc (.cells #[.int .i64 c, .int .i64 a, .int .i64 k0, .int .i64 1] 56))).drew).at gD (by simp)
        have hDlt := HD.out.lt
        refine wp_region_F (S := Touch (Value.slice av live.length cv).ownBlock.toList (W0.alloc (.cells #[.int .i64 c, .int .i64 a, .int .i64 k0, .int .i64 1] 56)).drew) [10] (by kernel_rfl) ?_
        change wpAnyF _ _ _ _ _ _ _ _ _ (W0.alloc (.cells #[.int .i64 c, .int .i64 a, .int .i64 k0, .int .i64 1] 56)).drew
        generalize hD0 : W0.heap.size = D at *
        generalize (W0.alloc (.cells #[.int .i64 c, .int .i64 a, .int .i64 k0, .int .i64 1] 56)).drew = W at *
        have hS := Touch.refl (Value.slice av live.length cv).ownBlock.toList W
        have hD : W.rangeAt D 0 [.int .i64 c, .int .i64 a, .int .i64 k0, .int .i64 1] := range_block gD
        have hxW := hT.lt x (by simp [Rf.foot])
        have hVx : ¬ (Value.slice av live.length cv).ownBlock = some x := hT.ne
        have hVD : ¬ (Value.slice av live.length cv).ownBlock = some D := fun e => by
          have := hDlt D (by simp [Rf.foot, e])
          omega
        obtain ⟨d0, c1, d2⟩ := hT.cells
        clear d0 d2 gD hDlt
        refine wpAnyF_take (i := 0) (oi := { dst := some 56, op := Op.move (Operand.tmp 0), type := 43, pos := "ref.go:326", after := #[], guard := none }) (v := .pointer (some ⟨x, 0, none⟩)) rfl (by kernel_rfl) (by kernel_rfl) (by kernel_rfl) (by kernel_rfl) (by kernel_rfl) (fun _ _ _ h => h) (Or.inl ⟨by rfl, fun w' hw => by go_simp⟩) hS ?_
        try simp only [Act.put, List.setIfInBounds_toArray, List.set_cons_zero, List.set_cons_succ]
        refine wpAnyF_take (i := 1) (oi := { dst := some 57, op := Op.move (Operand.tmp 0), type := 43, pos := "ref.go:326", after := #[], guard := none }) (v := .pointer (some ⟨x, 0, none⟩)) rfl (by kernel_rfl) (by kernel_rfl) (by kernel_rfl) (by kernel_rfl) (by kernel_rfl) (fun _ _ _ h => h) (Or.inl ⟨by rfl, fun w' hw => by go_simp⟩) hS ?_
        try simp only [Act.put, List.setIfInBounds_toArray, List.set_cons_zero, List.set_cons_succ]
        refine wpAnyF_take (i := 2) (oi := { dst := some 58, op := Op.nilCheck (Operand.tmp 57), type := 0, pos := "ref.go:326", after := #[{ on := 1, ground := Ground.data }], guard := none }) (v := .pointer (some ⟨x, 0, none⟩)) rfl (by kernel_rfl) (by kernel_rfl) (by kernel_rfl) (by kernel_rfl) (by kernel_rfl) (fun _ _ _ h => h) (Or.inl ⟨by rfl, fun w' hw => by go_simp⟩) hS ?_
        try simp only [Act.put, List.setIfInBounds_toArray, List.set_cons_zero, List.set_cons_succ]
        refine wpAnyF_take (i := 3) (oi := { dst := some 59, op := Op.fieldAddr 46 (Operand.tmp 58) 1, type := 0, pos := "ref.go:326", after := #[{ on := 2, ground := Ground.data }], guard := none }) (v := .pointer (some ⟨x, 1, none⟩)) rfl (by kernel_rfl) (by kernel_rfl) (by kernel_rfl) (by kernel_rfl) (by kernel_rfl) (fun _ _ _ h => h) (Or.inl ⟨by rfl, fun w' hw => by go_simp⟩) hS ?_
        try simp only [Act.put, List.setIfInBounds_toArray, List.set_cons_zero, List.set_cons_succ]
        refine wpAnyF_take (i := 4) (oi := { dst := some 60, op := Op.load 44 (Operand.tmp 59), type := 44, pos := "ref.go:326", after := #[{ on := 3, ground := Ground.data }], guard := none }) (v := (Value.slice av live.length cv)) rfl (by kernel_rfl) (by kernel_rfl) (by kernel_rfl) (by kernel_rfl) (by kernel_rfl) (fun _ _ _ h => h) (Or.inl ⟨by rfl, fun w' hw => by (have q2 : w'.cell? ⟨x, 1, none⟩ = some (Value.slice av live.length cv) := hw.cell c1 (by simpa using hVx); go_simp)⟩) hS ?_
        try simp only [Act.put, List.setIfInBounds_toArray, List.set_cons_zero, List.set_cons_succ]
        refine wpAnyF_take (i := 5) (oi := { dst := some 61, op := Op.load 56 (Operand.tmp 11), type := 56, pos := "ref.go:326", after := #[], guard := none }) (v := .agg [.int .i64 c, .int .i64 a, .int .i64 k0, .int .i64 1].toArray) rfl (by kernel_rfl) (by kernel_rfl) (by kernel_rfl) (by kernel_rfl) (by kernel_rfl) (fun _ _ _ h => h) (yieldsIf_load_mid (by rfl) 56 _ rfl D 0 rfl [.int .i64 c, .int .i64 a, .int .i64 k0, .int .i64 1] _ (fun w' hw => hw.range hD (by simpa using hVD)) Try.underlying56 rfl (by rw [size56]; rfl)) hS ?_
        try simp only [Act.put, List.setIfInBounds_toArray, List.set_cons_zero, List.set_cons_succ]
        refine wpAnyF_ready (rs := [6]) (by kernel_rfl) (by simp) ?_
        refine AllReadyF.cons (o := { dst := some 62, op := Op.buildSlice 44 1 #[(0, Operand.tmp 61)], type := 44, pos := "ref.go:326", after := #[{ on := 5, ground := Ground.data }], guard := none }) rfl (fun K hK => ?_) AllReadyF.nil
        refine step_of_list rfl ?_
        refine wpList_buildSlice_rows rfl 44 1 _ rfl 56 4 i56 _ Try.underlying44 hi56 hz56 hs56 (by omega) [[.int .i64 c, .int .i64 a, .int .i64 k0, .int .i64 1]] rfl (by simp) (by omega) (by rfl) ?_
        have tb := (Touch.refl [] W).alloc (.cells [[.int .i64 c, .int .i64 a, .int .i64 k0, .int .i64 1]].flatten.toArray 56)
        have hrow2 := (hT.touch tb (by simp)).row
        have hnw := range_new W [[.int .i64 c, .int .i64 a, .int .i64 k0, .int .i64 1]].flatten 56
        have hS2 := hS.trans tb (by simp)
        refine ⟨rfl, hK.out _ _ hS2 (fun _ => ?_)⟩
        clear hK K hS
        have hS := hS2
        clear hS2
        generalize hW1 : W.alloc (.cells [[.int .i64 c, .int .i64 a, .int .i64 k0, .int .i64 1]].flatten.toArray 56) = W1 at *
        have z1 : W1.heap.size = W.heap.size + 1 := by rw [← hW1]; simp
        clear hW1
        try simp only [Act.put, List.setIfInBounds_toArray, List.set_cons_zero, List.set_cons_succ]
        refine wpAnyF_ready (rs := [7]) (by kernel_rfl) (by simp) ?_
        refine AllReadyF.cons (o := { dst := some 63, op := Op.call { callee := Callee.builtin Builtin.append, args := #[Operand.tmp 60, Operand.tmp 62], argTypes := #[44, 44] }, type := 44, pos := "ref.go:326", after := #[{ on := 4, ground := Ground.data }, { on := 6, ground := Ground.data }], guard := none }) rfl (fun K hK => ?_) AllReadyF.nil
        refine step_app _ (by rfl) (.tmp 60) (.tmp 62) 44 (by rfl) 56 i56 _ 4 32 Try.underlying44 hi56 hz56 hs56 hb56 rfl (by omega) (Value.slice av live.length cv) live.length _ (by rfl) hrow2 (some ⟨W.heap.size, 0, none⟩) 1 1 [[.int .i64 c, .int .i64 a, .int .i64 k0, .int .i64 1]].flatten (by rfl) (by simp) (by simp) (by intro ad h j u hu; cases h; rw [Addr.add_lit]; exact hnw j u hu) (by simp [Value.oneCell']) (by unfold maxLen; omega) (by omega) ?_
        intro v2 w2 o2 t2 b2
        have t2' : Touch (Value.slice av live.length cv).ownBlock.toList W w2 := (tb.mono (by simp)).trans t2 (fun y hy => .inl hy)
        have hS2 := hS.trans t2 (fun y hy => .inl hy)
        refine hK.out _ _ hS2 (fun _ => ?_)
        clear hK K hS
        have hS := hS2
        clear hS2
        try simp only [Act.put, List.setIfInBounds_toArray, List.set_cons_zero, List.set_cons_succ]
        refine wpAnyF_take (i := 8) (oi := { dst := some 64, op := Op.nilCheck (Operand.tmp 56), type := 0, pos := "ref.go:326", after := #[{ on := 0, ground := Ground.data }, { on := 0, ground := Ground.phase }, { on := 1, ground := Ground.phase }, { on := 2, ground := Ground.phase }, { on := 3, ground := Ground.phase }, { on := 4, ground := Ground.phase }, { on := 5, ground := Ground.phase }, { on := 6, ground := Ground.phase }, { on := 7, ground := Ground.phase }], guard := none }) (v := .pointer (some ⟨x, 0, none⟩)) rfl (by kernel_rfl) (by kernel_rfl) (by kernel_rfl) (by kernel_rfl) (by kernel_rfl) (fun _ _ _ h => h) (Or.inl ⟨by rfl, fun w' hw => by go_simp⟩) hS ?_
        try simp only [Act.put, List.setIfInBounds_toArray, List.set_cons_zero, List.set_cons_succ]
        refine wpAnyF_take (i := 9) (oi := { dst := some 65, op := Op.fieldAddr 46 (Operand.tmp 64) 1, type := 0, pos := "ref.go:326", after := #[{ on := 8, ground := Ground.data }, { on := 0, ground := Ground.phase }, { on := 1, ground := Ground.phase }, { on := 2, ground := Ground.phase }, { on := 3, ground := Ground.phase }, { on := 4, ground := Ground.phase }, { on := 5, ground := Ground.phase }, { on := 6, ground := Ground.phase }, { on := 7, ground := Ground.phase }], guard := none }) (v := .pointer (some ⟨x, 1, none⟩)) rfl (by kernel_rfl) (by kernel_rfl) (by kernel_rfl) (by kernel_rfl) (by kernel_rfl) (fun _ _ _ h => h) (Or.inl ⟨by rfl, fun w' hw => by go_simp⟩) hS ?_
        try simp only [Act.put, List.setIfInBounds_toArray, List.set_cons_zero, List.set_cons_succ]
        refine wpAnyF_ready (rs := [10]) (by kernel_rfl) (by simp) ?_
        refine AllReadyF.last (o := { dst := none, op := Op.store 44 (Operand.tmp 65) (Operand.tmp 63), type := 0, pos := "ref.go:326", after := #[{ on := 9, ground := Ground.data }, { on := 7, ground := Ground.data }, { on := 7, ground := Ground.chain }, { on := 0, ground := Ground.phase }, { on := 1, ground := Ground.phase }, { on := 2, ground := Ground.phase }, { on := 3, ground := Ground.phase }, { on := 4, ground := Ground.phase }, { on := 5, ground := Ground.phase }, { on := 6, ground := Ground.phase }, { on := 7, ground := Ground.phase }], guard := none }) rfl (by simp) (fun K hK => ?_) AllReadyF.nil
        have q1 : w2.cell? ⟨x, 1, none⟩ = some (Value.slice av live.length cv) := t2'.cell c1 (by simpa using hVx)
        have hH2 := t2'.at hT.hdr (by simpa using hVx)
        have q2 : w2.frozen? ⟨x, 1, none⟩ = false := by simp [World.frozen?, hH2]
        obtain ⟨a2, c2', rfl, _⟩ := owns_form o2
        go_simp
        have q3 := w2
        refine hK.out _ _ ?_
        clear hK K q3
        try simp only [Act.put, List.setIfInBounds_toArray, List.set_cons_zero, List.set_cons_succ]
        refine wpAnyF_done (by kernel_rfl) ?_ _
        obtain ⟨r1, r2, r3, r4⟩ := open_rfin (s0 := 1) (total := total) (c := c) (a := a) hT hxW o2 t2' b2 (by omega) hfew2 (g0 := g) k0 rfl
        have R1 := Lib.hid r1
        have R2 := Lib.hid r2
        clear r1 r2
        generalize w2.setCell ⟨x, 1, none⟩ (.slice a2 (live.length + 1) c2') = W3 at *
        go_wp2_with fail
        go_ret2
        refine ⟨by rw [HK.out]; rfl, ?_⟩
        unfold ROpened
        exact ⟨_, by rw [HK.out]; exact R1.out, fun b hb => (by rcases b2 with e | e; exact .inl (by rw [← e]; exact hb); exact .inr (by rw [e] at hb; simp at hb; have := T4.size; omega)), (T4.mono (by simp)).trans R2.out (fun y hy => .inl hy)⟩
    · clear hb
      go_wp2_with fail
      go_loop [8, 9, 10] (fun vn vt vi => ∃ i : Nat, i ≤ live.length ∧ vn = .int .i64 k ∧ vt = .bool false ∧ vi = .int .i64 i ∧ ∀ j f, j < i → live[j]? = some f → f.no ≠ k) (fun _ _ vi => live.length - (intOf vi).toNat)
      case atStart => exact ⟨0, by omega, rfl, rfl, rfl, by intro j f hj; omega⟩
      case round =>
        obtain ⟨i, hi, rfl, rfl, rfl, hbef⟩ := hrel
        have HBEF := Lib.hid hbef
        clear hbef
        by_cases hlt : i < live.length
        · obtain ⟨_, _, hvv, _, _, hvg⟩ := HD.out.form
          simp only [Value.slice.injEq, true_and] at hvv
          obtain ⟨rfl, rfl⟩ := hvv
          obtain ⟨gg, rfl, _⟩ := hvg (by omega)
          have hfi : live[i]? = some live[i] := List.getElem?_eq_getElem hlt
          obtain ⟨q0, q1, q2, q3⟩ := HD.out.elems hfi
          have hno : live[i].no < k0 ∨ k0 ≤ live[i].no := by omega
          generalize live[i] = f at *
          have HFI := Lib.hid hfi
          clear hfi q0 q1 q3 hno
          by_cases hfk : f.no = k
          · have hne : k ≠ k0 := fun e => HA2.out f (List.mem_of_getElem? HFI.out) (by rw [hfk, e])
            have hklt : k < k0 := by omega
            rw [hfk] at q2
            go_wp2_with fail
            go_round
            case rel => exact OutRel.mk (k + 1) true (by omega) (by simp)
            case measure => simp [intOf]; omega
          · have d1 : ((f.no : Int) == (k : Int)) = false := by simp; omega
            go_wp2_with fail
            go_round
            case rel => exact ⟨i + 1, by omega, rfl, rfl, by go_num, fun j f' hj hf' => by
              by_cases hji : j = i
              · subst hji
                rw [HFI.out] at hf'
                cases hf'
                exact hfk
              · exact HBEF.out j f' (by omega) hf'⟩
            case measure => simp [intOf]; omega
        · have hk0 : k = k0 := by
            rcases Nat.lt_or_ge k k0 with hq | hq
            · exfalso
              obtain ⟨f, hfm, hfn⟩ := HA1.out k hq
              obtain ⟨j, hj⟩ := List.getElem?_of_mem hfm
              exact HBEF.out j f (by have := (List.getElem?_eq_some_iff.1 hj).1; omega) hj hfn
            · omega
          have HK0 := Lib.hid hk0
          clear hk0
          go_wp2_with fail
          exact ⟨k, false, rfl, rfl, hkk, fun _ => HK0.out⟩
end Go.Proofs.Ytnglkdpmkgehoaa

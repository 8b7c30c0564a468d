/-
  The contract of applyBoth: both tables take the same step and answer alike.
-/
import Derived.Test.YtnglkdpmkgehoaaBo
namespace Go.Proofs.Ytnglkdpmkgehoaa
open Go.RowKit
set_option linter.unusedVariables false
set_option linter.unusedSimpArgs false

def Applied (w0 w w' : World) (t m u x n : Nat) (v : Value) (live : List Fd) (total : Int) : Prop :=
  ∃ v' live' used' total', Both w0 w' t m u x n v' live' used' total' ∧ (total ≤ total' ∧ total' ≤ total + 1) ∧ Touch (fpB t m u x v live) w w' ∧ ∀ y ∈ fpB t m u x v' live', y ∈ fpB t m u x v live ∨ w.heap.size ≤ y
section
variable {w0 w w1 w2 w' : World} {t m u x n : Nat} {v : Value} {live : List Fd} {used : List Bool} {total : Int}
theorem Applied.same (h : Both w0 w t m u x n v live used total) (ht : Touch [] w w') : Applied w0 w w' t m u x n v live total :=
  ⟨v, live, used, total, h.quiet ht, ⟨by omega, by omega⟩, ht.mono (by simp), fun y hy => .inl hy⟩
theorem Applied.after (h : Touch [] w w1) (hz : w.heap.size ≤ w1.heap.size) (ha : Applied w0 w1 w' t m u x n v live total) : Applied w0 w w' t m u x n v live total := by
  obtain ⟨v', live', used', total', h1, h2, h3, h4⟩ := ha
  exact ⟨v', live', used', total', h1, h2, (h.mono (by simp)).trans h3 (fun y hy => .inl hy), fun y hy => (h4 y hy).imp id (fun h5 => Nat.le_trans hz h5)⟩
/-- One table after the other: the numbers, the blocks and the flags of the first as 'live1'. -/
theorem Applied.step {live1 : List Fd} {v1 : Value} {used1 : List Bool} {total1 : Int} (h : Both w0 w t m u x n v live used total) (hT : Tab w1 t m u live1 used1 total1) (hR : Rf w2 x n v1 live1 total1) (hl : used1.length = n)
    (s1 : ∀ y ∈ Tab.foot t m u live1, y ∈ Tab.foot t m u live ∨ w.heap.size ≤ y) (t1 : Touch (Tab.foot t m u live) w w1) (s2 : ∀ b, v1.ownBlock = some b → v.ownBlock = some b ∨ w1.heap.size ≤ b) (t2 : Touch (Rf.foot x v) w1 w2) (h2 : Touch [] w2 w') (ht : total ≤ total1 ∧ total1 ≤ total + 1) : Applied w0 w w' t m u x n v live total := by
  have hz := t1.size
  have hfr : ∀ y ∈ Rf.foot x v, y < w.heap.size := h.rf.lt
  have d1 : ∀ y ∈ Tab.foot t m u live1, y ∉ Rf.foot x v := by
    intro y hy hm
    rcases s1 y hy with h1 | h1
    · exact h.xt y hm h1
    · have := hfr y hm
      omega
  have hT2 := (hT.touch t2 d1).touch h2 (by simp)
  have hR2 := hR.touch h2 (by simp)
  have d2 : ∀ y ∈ Rf.foot x v1, y ∈ Rf.foot x v ∨ w1.heap.size ≤ y := by
    intro y hy
    simp only [Rf.foot, List.mem_cons, Option.mem_toList] at hy ⊢
    rcases hy with rfl | hy
    · exact .inl (.inl rfl)
    · rcases s2 y hy with h1 | h1
      · exact .inl (.inr h1)
      · exact .inr h1
  have hlt1 := hT.lt
  have T : Touch (fpB t m u x v live) w w' := ((t1.mono (S' := fpB t m u x v live) (fun y hy => .inl (List.mem_append_left _ hy))).trans t2 (fun y hy => .inl (List.mem_append_right _ hy))).trans h2 (by simp)
  have hlo : ∀ y ∈ fpB t m u x v live, w0.heap.size ≤ y := by
    intro y hy
    rcases List.mem_append.1 hy with hy | hy
    · exact h.lo.1 y hy
    · exact h.lo.2 y hy
  have hz0 := h.t0.size
  refine ⟨v1, live1, used1, total1, ⟨hT2, hR2, hl, ?_, ⟨?_, ?_⟩, h.t0.trans T (fun y hy => .inr (hlo y hy))⟩, ht, T, ?_⟩
  · intro y hy
    have hn := d1 y hy
    simp only [Rf.foot, List.mem_cons, Option.mem_toList, not_or] at hn
    refine ⟨hn.1, fun e => ?_⟩
    rcases s2 y e with h1 | h1
    · exact hn.2 h1
    · have := hlt1 y hy
      omega
  · intro y hy
    rcases s1 y hy with h1 | h1
    · exact h.lo.1 y h1
    · omega
  · intro y hy
    rcases d2 y hy with h1 | h1
    · exact h.lo.2 y h1
    · omega
  · intro y hy
    rcases List.mem_append.1 hy with hy | hy
    · exact (s1 y hy).imp (fun h1 => List.mem_append_left _ h1) id
    · exact (d2 y hy).imp (fun h1 => List.mem_append_right _ h1) (fun h1 => by omega)
theorem foot_setSt (live : List Fd) (k : Key) (next : Int → Int) : Tab.foot t m u (trLive next live k) = Tab.foot t m u live := by
  unfold trLive Tab.foot
  cases fdAt live k with
  | none => rfl
  | some f =>
    simp only
    split
    · rfl
    · rw [setSt_g]
end

theorem drop_foot {t m u : Nat} {live : List Fd} {k : Key} : ∀ y ∈ Tab.foot t m u (drop live k), y ∈ Tab.foot t m u live := by
  intro y hy
  simp only [Tab.foot, List.mem_cons] at hy ⊢
  rcases hy with h | h | h | h
  · exact .inl h
  · exact .inr (.inl h)
  · exact .inr (.inr (.inl h))
  · obtain ⟨f, hf, rfl⟩ := List.mem_map.1 h
    exact .inr (.inr (.inr (List.mem_map.2 ⟨f, (List.mem_filter.1 hf).1, rfl⟩)))
theorem open_foot {t m u : Nat} {live : List Fd} {f : Fd} : ∀ y ∈ Tab.foot t m u (live ++ [f]), y ∈ Tab.foot t m u live ∨ y = f.g := by
  intro y hy
  simp only [Tab.foot, List.map_append, List.map_cons, List.map_nil, List.mem_cons, List.mem_append, List.not_mem_nil, or_false] at hy ⊢
  rcases hy with h | h | h | h | h
  · exact .inl (.inl h)
  · exact .inl (.inr (.inl h))
  · exact .inl (.inr (.inr (.inl h)))
  · exact .inl (.inr (.inr (.inr h)))
  · exact .inr h
set_option maxRecDepth 100000 in
set_option maxHeartbeats 8000000 in
theorem apply_any (w0 : World) (t m u x n : Nat) (v : Value) (live : List Fd) (used : List Bool) (total kind c a : Int) (pending : Bool) (w : World) (h : Both w0 w t m u x n v live used total) (hk : okK (c, a)) (ht : 0 ≤ total ∧ total ≤ 1000) :
    Calls Try.prog 23 #[.pointer (some ⟨t, 0, none⟩), .pointer (some ⟨x, 0, none⟩), .agg #[.int .i64 kind, .int .i64 c, .int .i64 a, .bool pending]] w fun e w' => e = .returned (.bool true) ∧ Applied w0 w w' t m u x n v live total := by
  have m1 := gmod_lo kind 9 (by omega)
  have m2 := gmod_hi kind 9 (by omega)
  have hk2 := someK_ok hk
  have hlen := h.len
  have hroom := h.tab.room
  have hcnt := h.tab.cnt
  have hcl : used.count true ≤ used.length := List.count_le_length
  have hfew : live.length ≤ 256 := by omega
  clear hcl hcnt
  have tA := (Touch.refl [] w).alloc (.cells #[.int .i64 kind, .int .i64 c, .int .i64 a, .bool pending] 49)
  have gA := heap_alloc_new w (.cells #[.int .i64 kind, .int .i64 c, .int .i64 a, .bool pending] 49)
  go_enter Try.func23, Try.ntmps23
  go_wp2_with fail
  refine (some_any c a _).mono ?_
  rintro e w1 ⟨rfl, t1⟩
  generalize someK c a = K at *
  obtain ⟨c', a'⟩ := K
  have tB := tA.trans t1 (by simp)
  replace gA := t1.at gA (by simp)
  have zB := tB.size
  have tC := (Touch.refl [] w1).alloc (.cells #[.int .i64 c', .int .i64 a'] 23)
  have gC := heap_alloc_new w1 (.cells #[.int .i64 c', .int .i64 a'] 23)
  have gA2 := tC.at gA (by simp)
  have hfpl := h.lt
  have hWf0 := Lib.hid hfpl
  have hBD : ∀ y ∈ fpB t m u x v live, y < w1.heap.size := fun y hy => by have := hfpl y hy; omega
  have hB := h.quiet (tB.trans tC (by simp))
  have k0 : (w1.alloc (.cells #[.int .i64 c', .int .i64 a'] 23)).cell? ⟨w.heap.size, 0, none⟩ = some (.int .i64 kind) := by simp [World.cell?, gA2]
  have zC : w.heap.size ≤ (w1.alloc (.cells #[.int .i64 c', .int .i64 a'] 23)).heap.size := by simp; omega
  have tW := tB.trans tC (by simp)
  clear tA tB t1 tC gA hfpl
  go_wp2_with (refine wpList_store_new rfl 23 _ _ rfl _ _ [.int .i64 c', .int .i64 a'] (by rfl) (by rfl) rfl size23 (by simp [Value.oneCell']) ?_)
  generalize w1.alloc (.cells #[.int .i64 c', .int .i64 a'] 23) = W at *
  refine (mod_any _ _ _ (by omega) (by omega)).mono ?_
  rintro e w' ⟨rfl, rfl⟩
  generalize gmod kind 9 = q at *
  generalize w1.heap.size = D at *
  obtain ⟨n0, n1⟩ := cells_two gC
  have p0 : W.cell? ⟨w.heap.size, 3, none⟩ = some (.bool pending) := by simp [World.cell?, gA2]
  have hBz := Lib.hid hB
  have hKS := Lib.hid hB.tab.oks
  have hKN := Lib.hid hB.tab.keys
  have hFL := Lib.hid hB.tab.flags
  have hHF := Lib.hid (hole_full hB.tab)
  have hLEN := Lib.hid hlen
  clear hlen hB h
  have hWf : ∀ y ∈ fpB t m u x v live, y < w.heap.size := hWf0.out
  by_cases q4 : q < 4
  · cases hv : validB c' a'
    · have HV := Lib.hid hv
      clear hv
      go_wp2_with fail
      refine (open_bad t c' a' pending _ HV.out).mono ?_
      rintro e V1 ⟨rfl, s1⟩
      obtain ⟨n0', n1'⟩ := cells_two (s1.at gC (by simp))
      have p0' := s1.cell p0 (by simp)
      go_wp2_with fail
      refine (ropen_bad x c' a' pending _ HV.out).mono ?_
      rintro e V2 ⟨rfl, s2⟩
      go_wp2_with fail
      go_ret
      exact ⟨rfl, (Applied.same hBz.out (s1.trans s2 (by simp))).after tW zC⟩
    · have HV := Lib.hid hv
      clear hv
      cases hf : fdAt live (c', a') with
      | some f =>
        have HF := Lib.hid hf
        clear hf
        go_wp2_with fail
        refine (open_dup t m u live used total c' a' pending _ hBz.out.tab hk2 HV.out f HF.out).mono ?_
        rintro e V1 ⟨rfl, s1⟩
        obtain ⟨n0', n1'⟩ := cells_two (s1.at gC (by simp))
        have p0' := s1.cell p0 (by simp)
        go_wp2_with fail
        refine (ropen_dup x n v live total c' a' pending _ (hBz.out.rf.touch s1 (by simp)) hk2 hKS.out HV.out f HF.out).mono ?_
        rintro e V2 ⟨rfl, s2⟩
        go_wp2_with fail
        go_ret
        exact ⟨rfl, (Applied.same hBz.out (s1.trans s2 (by simp))).after tW zC⟩
      | none =>
        have HF := Lib.hid hf
        clear hf
        by_cases hh : hole used < used.length
        · have HH := Lib.hid hh
          clear hh
          go_wp2_with fail
          refine (open_ok t m u live used total c' a' pending _ hBz.out.tab hk2 HV.out HF.out HH.out ⟨by omega, by omega⟩).mono ?_
          rintro e V1 ⟨rfl, g, hg, hT1, s1⟩
          have s1' : Touch (Tab.foot t m u live) W V1 := s1.mono (fun y hy => .inl (by simp only [List.mem_cons, List.not_mem_nil, or_false] at hy; simp only [Tab.foot, List.mem_cons]; rcases hy with rfl | rfl | rfl <;> simp))
          have hDn : D ∉ Tab.foot t m u live := fun hm => by have := hBD D (List.mem_append_left _ hm); omega
          have hBn : w.heap.size ∉ Tab.foot t m u live := fun hm => by have := hWf w.heap.size (List.mem_append_left _ hm); omega
          obtain ⟨n0', n1'⟩ := cells_two (s1'.at gC hDn)
          have p0' := s1'.cell p0 hBn
          have hHH := HH.out
          generalize hHo : hole used = ho at *
          have HHo := Lib.hid hHo
          clear hHo
          go_wp2_with fail
          refine (ropen_ok x n v live used total c' a' pending _ (hBz.out.rf.touch s1' (fun y hy hm => hBz.out.xt y hy hm)) hk2 hKS.out HV.out HF.out (by have := hHF.out.1 hHH; rw [hLEN.out] at this; exact this) hFL.out (by rw [HHo.out]; exact hHH) hroom g ⟨by omega, by omega⟩ (by omega)).mono ?_
          rintro e V2 ⟨he, v2, hR2, hb2, s2⟩
          obtain rfl : e = .returned (.tuple #[.int .i64 ho, .int .i64 0]) := by rw [he, HHo.out]
          have s2' : Touch (Rf.foot x v) V1 V2 := s2
          rw [HHo.out] at hR2
          go_wp2_with fail
          go_ret
          exact ⟨rfl, (Applied.step hBz.out hT1 hR2 (by rw [List.length_set]; exact hLEN.out) (fun y hy => (open_foot y hy).imp id (fun e => by rw [e]; exact hg)) s1' hb2 s2' (Touch.refl _ _) ⟨by omega, by omega⟩).after tW zC⟩
        · have HH := Lib.hid hh
          clear hh
          go_wp2_with fail
          refine (open_full t m u live used total c' a' pending _ hBz.out.tab hk2 HV.out HF.out HH.out).mono ?_
          rintro e V1 ⟨rfl, s1⟩
          obtain ⟨n0', n1'⟩ := cells_two (s1.at gC (by simp))
          have p0' := s1.cell p0 (by simp)
          go_wp2_with fail
          refine (ropen_full x n v live total c' a' pending _ (hBz.out.rf.touch s1 (by simp)) hk2 hKS.out HV.out HF.out (by have := HH.out; rw [hHF.out, hLEN.out] at this; omega)).mono ?_
          rintro e V2 ⟨rfl, s2⟩
          go_wp2_with fail
          go_ret
          exact ⟨rfl, (Applied.same hBz.out (s1.trans s2 (by simp))).after tW zC⟩
  · by_cases q5 : q = 4
    · subst q5
      go_wp2_with fail
      have hDn : D ∉ fpB t m u x v live := fun hm => by have := hBD D hm; omega
      have hBW := Lib.hid (hBz.out.quiet ((Touch.refl [] W).drew))
      have n0' : W.drew.cell? ⟨D, 0, none⟩ = some (.int .i64 c') := n0
      have n1' : W.drew.cell? ⟨D, 1, none⟩ = some (.int .i64 a') := n1
      clear n0 n1 k0 p0
      have n0 := n0'
      have n1 := n1'
      clear n0' n1'
      have tV : Touch [] w W.drew := tW.drew
      have zV : w.heap.size ≤ W.drew.heap.size := tV.size
      refine wp_region_held (S := Touch (fpB t m u x v live) W.drew) (by kernel_rfl) ?_
      change wpAnyH _ _ _ _ _ _ _ _ W.drew
      generalize W.drew = V at *
      have hS := Touch.refl (fpB t m u x v live) V
      refine wpAnyH_take (i := 0) (oi := { dst := some 49, op := Op.move (Operand.tmp 0), type := 24, pos := "law.go:53", after := #[], guard := none }) (v := .pointer (some ⟨t, 0, none⟩)) rfl (by kernel_rfl) (by kernel_rfl) (by kernel_rfl) (fun _ _ _ h => h) (Or.inl ⟨by rfl, fun w' hw => by go_simp⟩) hS ?_
      try simp only [Act.put, List.setIfInBounds_toArray, List.set_cons_zero, List.set_cons_succ]
      refine wpAnyH_take (i := 1) (oi := { dst := some 50, op := Op.load 23 (Operand.tmp 7), type := 23, pos := "law.go:53", after := #[], guard := none }) (v := .agg #[.int .i64 c', .int .i64 a']) rfl (by kernel_rfl) (by kernel_rfl) (by kernel_rfl) (fun _ _ _ h => h) (Or.inl ⟨by rfl, fun w' hw => by (have q0 := hw.cell n0 hDn; have q1 := hw.cell n1 hDn; go_simp)⟩) hS ?_
      try simp only [Act.put, List.setIfInBounds_toArray, List.set_cons_zero, List.set_cons_succ]
      refine wpAnyH_take (i := 3) (oi := { dst := some 52, op := Op.move (Operand.tmp 1), type := 43, pos := "law.go:53", after := #[], guard := none }) (v := .pointer (some ⟨x, 0, none⟩)) rfl (by kernel_rfl) (by kernel_rfl) (by kernel_rfl) (fun _ _ _ h => h) (Or.inl ⟨by rfl, fun w' hw => by go_simp⟩) hS ?_
      try simp only [Act.put, List.setIfInBounds_toArray, List.set_cons_zero, List.set_cons_succ]
      refine wpAnyH_take (i := 4) (oi := { dst := some 53, op := Op.load 23 (Operand.tmp 7), type := 23, pos := "law.go:53", after := #[], guard := none }) (v := .agg #[.int .i64 c', .int .i64 a']) rfl (by kernel_rfl) (by kernel_rfl) (by kernel_rfl) (fun _ _ _ h => h) (Or.inl ⟨by rfl, fun w' hw => by (have q0 := hw.cell n0 hDn; have q1 := hw.cell n1 hDn; go_simp)⟩) hS ?_
      try simp only [Act.put, List.setIfInBounds_toArray, List.set_cons_zero, List.set_cons_succ]
      refine wpAnyH_ready (rs := [2]) (by kernel_rfl) (by simp) ?_
      refine AllReadyH.cons (o := { dst := some 51, op := Op.call { callee := Callee.value (Operand.func 16), args := #[Operand.tmp 49, Operand.tmp 50], argTypes := #[24, 23] }, type := 25, pos := "law.go:53", after := #[{ on := 0, ground := Ground.data }, { on := 1, ground := Ground.data }], guard := none }) rfl (fun K hK => ?_) AllReadyH.nil
      go_simp
      refine (conn_any t m u live used total c' a' _ hBW.out.tab hk2).mono ?_
      rintro e V1 ⟨rfl, hT1, s1⟩
      have s1' : Touch (Tab.foot t m u live) V V1 := s1.mono (fun y hy => .inl (by simp only [Tab.foot, List.mem_cons]; exact .inr (.inr (.inr hy))))
      have hR1 := hBW.out.rf.touch s1' (fun y hy hm => hBW.out.xt y hy hm)
      have hS2 := hS.trans s1' (fun y hy => .inl (List.mem_append_left _ hy))
      refine hK.out _ _ hS2 (fun _ => ?_)
      clear hK K hS
      have hS := hS2
      clear hS2
      try simp only [Act.put, List.setIfInBounds_toArray, List.set_cons_zero, List.set_cons_succ]
      refine wpAnyH_ready (rs := [5]) (by kernel_rfl) (by simp) ?_
      refine AllReadyH.cons (o := { dst := some 54, op := Op.call { callee := Callee.value (Operand.func 42), args := #[Operand.tmp 52, Operand.tmp 53], argTypes := #[43, 23] }, type := 25, pos := "law.go:53", after := #[{ on := 3, ground := Ground.data }, { on := 4, ground := Ground.data }, { on := 2, ground := Ground.chain }], guard := none }) rfl (fun K hK => ?_) AllReadyH.nil
      go_simp
      refine (rconn_any x n v live total c' a' _ hR1 hk2 hKS.out hKN.out).mono ?_
      rintro e V2 ⟨rfl, hR2, s2⟩
      have s2' : Touch (Rf.foot x v) V1 V2 := s2.mono (fun y hy => .inl (by simp only [Rf.foot, List.mem_cons]; exact .inr hy))
      have hS2 := hS.trans s2' (fun y hy => .inl (List.mem_append_right _ hy))
      refine hK.out _ _ hS2 (fun _ => ?_)
      clear hK K hS
      have hS := hS2
      clear hS2
      try simp only [Act.put, List.setIfInBounds_toArray, List.set_cons_zero, List.set_cons_succ]
      refine wpAnyH_take (i := 6) (oi := { dst := some 55, op := Op.binOp BinOp.eql 25 (Operand.tmp 51) (Operand.tmp 54) 25, type := 4, pos := "law.go:53", after := #[{ on := 2, ground := Ground.data }, { on := 5, ground := Ground.data }], guard := none }) (v := .bool true) rfl (by kernel_rfl) (by kernel_rfl) (by kernel_rfl) (fun _ _ _ h => h) (Or.inl ⟨by rfl, fun w' hw => by go_simp⟩) hS ?_
      try simp only [Act.put, List.setIfInBounds_toArray, List.set_cons_zero, List.set_cons_succ]
      refine wpAnyH_take (i := 7) (oi := { dst := some 6, op := Op.assign (Operand.tmp 55), type := 4, pos := "law.go:53", after := #[{ on := 6, ground := Ground.data }, { on := 5, ground := Ground.chain }, { on := 0, ground := Ground.phase }, { on := 1, ground := Ground.phase }, { on := 2, ground := Ground.phase }, { on := 3, ground := Ground.phase }, { on := 4, ground := Ground.phase }, { on := 5, ground := Ground.phase }, { on := 6, ground := Ground.phase }], guard := none }) (v := .bool true) rfl (by kernel_rfl) (by kernel_rfl) (by kernel_rfl) (fun _ _ _ h => h) (Or.inl ⟨by rfl, fun w' hw => by go_simp⟩) hS ?_
      try simp only [Act.put, List.setIfInBounds_toArray, List.set_cons_zero, List.set_cons_succ]
      refine wpAnyH_done (by kernel_rfl) ?_ _
      go_wp2_with fail
      go_ret
      exact ⟨rfl, (Applied.step hBW.out hT1 hR2 hLEN.out (fun y hy => .inl (by rwa [foot_setSt] at hy)) s1' (fun b hb => .inl hb) s2' (Touch.refl _ _) ⟨by omega, by omega⟩).after tV zV⟩
    · have d4 : (q == 4) = false := by simp; omega
      by_cases q6 : q = 5
      · subst q6
        go_wp2_with fail
        have hDn : D ∉ fpB t m u x v live := fun hm => by have := hBD D hm; omega
        have hBW := Lib.hid (hBz.out.quiet ((Touch.refl [] W).drew))
        have n0' : W.drew.cell? ⟨D, 0, none⟩ = some (.int .i64 c') := n0
        have n1' : W.drew.cell? ⟨D, 1, none⟩ = some (.int .i64 a') := n1
        clear n0 n1 k0 p0
        have n0 := n0'
        have n1 := n1'
        clear n0' n1'
        have tV : Touch [] w W.drew := tW.drew
        have zV : w.heap.size ≤ W.drew.heap.size := tV.size
        refine wp_region_held (S := Touch (fpB t m u x v live) W.drew) (by kernel_rfl) ?_
        change wpAnyH _ _ _ _ _ _ _ _ W.drew
        generalize W.drew = V at *
        have hS := Touch.refl (fpB t m u x v live) V
        refine wpAnyH_take (i := 0) (oi := { dst := some 59, op := Op.move (Operand.tmp 0), type := 24, pos := "law.go:55", after := #[], guard := none }) (v := .pointer (some ⟨t, 0, none⟩)) rfl (by kernel_rfl) (by kernel_rfl) (by kernel_rfl) (fun _ _ _ h => h) (Or.inl ⟨by rfl, fun w' hw => by go_simp⟩) hS ?_
        try simp only [Act.put, List.setIfInBounds_toArray, List.set_cons_zero, List.set_cons_succ]
        refine wpAnyH_take (i := 1) (oi := { dst := some 60, op := Op.load 23 (Operand.tmp 7), type := 23, pos := "law.go:55", after := #[], guard := none }) (v := .agg #[.int .i64 c', .int .i64 a']) rfl (by kernel_rfl) (by kernel_rfl) (by kernel_rfl) (fun _ _ _ h => h) (Or.inl ⟨by rfl, fun w' hw => by (have q0 := hw.cell n0 hDn; have q1 := hw.cell n1 hDn; go_simp)⟩) hS ?_
        try simp only [Act.put, List.setIfInBounds_toArray, List.set_cons_zero, List.set_cons_succ]
        refine wpAnyH_take (i := 3) (oi := { dst := some 62, op := Op.move (Operand.tmp 1), type := 43, pos := "law.go:55", after := #[], guard := none }) (v := .pointer (some ⟨x, 0, none⟩)) rfl (by kernel_rfl) (by kernel_rfl) (by kernel_rfl) (fun _ _ _ h => h) (Or.inl ⟨by rfl, fun w' hw => by go_simp⟩) hS ?_
        try simp only [Act.put, List.setIfInBounds_toArray, List.set_cons_zero, List.set_cons_succ]
        refine wpAnyH_take (i := 4) (oi := { dst := some 63, op := Op.load 23 (Operand.tmp 7), type := 23, pos := "law.go:55", after := #[], guard := none }) (v := .agg #[.int .i64 c', .int .i64 a']) rfl (by kernel_rfl) (by kernel_rfl) (by kernel_rfl) (fun _ _ _ h => h) (Or.inl ⟨by rfl, fun w' hw => by (have q0 := hw.cell n0 hDn; have q1 := hw.cell n1 hDn; go_simp)⟩) hS ?_
        try simp only [Act.put, List.setIfInBounds_toArray, List.set_cons_zero, List.set_cons_succ]
        refine wpAnyH_ready (rs := [2]) (by kernel_rfl) (by simp) ?_
        refine AllReadyH.cons (o := { dst := some 61, op := Op.call { callee := Callee.value (Operand.func 14), args := #[Operand.tmp 59, Operand.tmp 60], argTypes := #[24, 23] }, type := 25, pos := "law.go:55", after := #[{ on := 0, ground := Ground.data }, { on := 1, ground := Ground.data }], guard := none }) rfl (fun K hK => ?_) AllReadyH.nil
        go_simp
        refine (rem_any t m u live used total c' a' _ hBW.out.tab hk2).mono ?_
        rintro e V1 ⟨rfl, hT1, s1⟩
        have s1' : Touch (Tab.foot t m u live) V V1 := s1.mono (fun y hy => .inl (by simp only [Tab.foot, List.mem_cons]; exact .inr (.inr (.inr hy))))
        have hR1 := hBW.out.rf.touch s1' (fun y hy hm => hBW.out.xt y hy hm)
        have hS2 := hS.trans s1' (fun y hy => .inl (List.mem_append_left _ hy))
        refine hK.out _ _ hS2 (fun _ => ?_)
        clear hK K hS
        have hS := hS2
        clear hS2
        try simp only [Act.put, List.setIfInBounds_toArray, List.set_cons_zero, List.set_cons_succ]
        refine wpAnyH_ready (rs := [5]) (by kernel_rfl) (by simp) ?_
        refine AllReadyH.cons (o := { dst := some 64, op := Op.call { callee := Callee.value (Operand.func 43), args := #[Operand.tmp 62, Operand.tmp 63], argTypes := #[43, 23] }, type := 25, pos := "law.go:55", after := #[{ on := 3, ground := Ground.data }, { on := 4, ground := Ground.data }, { on := 2, ground := Ground.chain }], guard := none }) rfl (fun K hK => ?_) AllReadyH.nil
        go_simp
        refine (rrem_any x n v live total c' a' _ hR1 hk2 hKS.out hKN.out).mono ?_
        rintro e V2 ⟨rfl, hR2, s2⟩
        have s2' : Touch (Rf.foot x v) V1 V2 := s2.mono (fun y hy => .inl (by simp only [Rf.foot, List.mem_cons]; exact .inr hy))
        have hS2 := hS.trans s2' (fun y hy => .inl (List.mem_append_right _ hy))
        refine hK.out _ _ hS2 (fun _ => ?_)
        clear hK K hS
        have hS := hS2
        clear hS2
        try simp only [Act.put, List.setIfInBounds_toArray, List.set_cons_zero, List.set_cons_succ]
        refine wpAnyH_take (i := 6) (oi := { dst := some 65, op := Op.binOp BinOp.eql 25 (Operand.tmp 61) (Operand.tmp 64) 25, type := 4, pos := "law.go:55", after := #[{ on := 2, ground := Ground.data }, { on := 5, ground := Ground.data }], guard := none }) (v := .bool true) rfl (by kernel_rfl) (by kernel_rfl) (by kernel_rfl) (fun _ _ _ h => h) (Or.inl ⟨by rfl, fun w' hw => by go_simp⟩) hS ?_
        try simp only [Act.put, List.setIfInBounds_toArray, List.set_cons_zero, List.set_cons_succ]
        refine wpAnyH_take (i := 7) (oi := { dst := some 6, op := Op.assign (Operand.tmp 65), type := 4, pos := "law.go:55", after := #[{ on := 6, ground := Ground.data }, { on := 5, ground := Ground.chain }, { on := 0, ground := Ground.phase }, { on := 1, ground := Ground.phase }, { on := 2, ground := Ground.phase }, { on := 3, ground := Ground.phase }, { on := 4, ground := Ground.phase }, { on := 5, ground := Ground.phase }, { on := 6, ground := Ground.phase }], guard := none }) (v := .bool true) rfl (by kernel_rfl) (by kernel_rfl) (by kernel_rfl) (fun _ _ _ h => h) (Or.inl ⟨by rfl, fun w' hw => by go_simp⟩) hS ?_
        try simp only [Act.put, List.setIfInBounds_toArray, List.set_cons_zero, List.set_cons_succ]
        refine wpAnyH_done (by kernel_rfl) ?_ _
        go_wp2_with fail
        go_ret
        exact ⟨rfl, (Applied.step hBW.out hT1 hR2 hLEN.out (fun y hy => .inl (by rwa [foot_setSt] at hy)) s1' (fun b hb => .inl hb) s2' (Touch.refl _ _) ⟨by omega, by omega⟩).after tV zV⟩
      · have d5 : (q == 5) = false := by simp; omega
        by_cases q7 : q = 6
        · subst q7
          go_wp2_with fail
          have hDn : D ∉ fpB t m u x v live := fun hm => by have := hBD D hm; omega
          have hBW := Lib.hid (hBz.out.quiet ((Touch.refl [] W).drew))
          have n0' : W.drew.cell? ⟨D, 0, none⟩ = some (.int .i64 c') := n0
          have n1' : W.drew.cell? ⟨D, 1, none⟩ = some (.int .i64 a') := n1
          clear n0 n1 k0 p0
          have n0 := n0'
          have n1 := n1'
          clear n0' n1'
          have tV : Touch [] w W.drew := tW.drew
          have zV : w.heap.size ≤ W.drew.heap.size := tV.size
          refine wp_region_held (S := Touch (fpB t m u x v live) W.drew) (by kernel_rfl) ?_
          change wpAnyH _ _ _ _ _ _ _ _ W.drew
          generalize W.drew = V at *
          have hS := Touch.refl (fpB t m u x v live) V
          refine wpAnyH_take (i := 0) (oi := { dst := some 69, op := Op.move (Operand.tmp 0), type := 24, pos := "law.go:57", after := #[], guard := none }) (v := .pointer (some ⟨t, 0, none⟩)) rfl (by kernel_rfl) (by kernel_rfl) (by kernel_rfl) (fun _ _ _ h => h) (Or.inl ⟨by rfl, fun w' hw => by go_simp⟩) hS ?_
          try simp only [Act.put, List.setIfInBounds_toArray, List.set_cons_zero, List.set_cons_succ]
          refine wpAnyH_take (i := 1) (oi := { dst := some 70, op := Op.load 23 (Operand.tmp 7), type := 23, pos := "law.go:57", after := #[], guard := none }) (v := .agg #[.int .i64 c', .int .i64 a']) rfl (by kernel_rfl) (by kernel_rfl) (by kernel_rfl) (fun _ _ _ h => h) (Or.inl ⟨by rfl, fun w' hw => by (have q0 := hw.cell n0 hDn; have q1 := hw.cell n1 hDn; go_simp)⟩) hS ?_
          try simp only [Act.put, List.setIfInBounds_toArray, List.set_cons_zero, List.set_cons_succ]
          refine wpAnyH_take (i := 3) (oi := { dst := some 72, op := Op.move (Operand.tmp 1), type := 43, pos := "law.go:57", after := #[], guard := none }) (v := .pointer (some ⟨x, 0, none⟩)) rfl (by kernel_rfl) (by kernel_rfl) (by kernel_rfl) (fun _ _ _ h => h) (Or.inl ⟨by rfl, fun w' hw => by go_simp⟩) hS ?_
          try simp only [Act.put, List.setIfInBounds_toArray, List.set_cons_zero, List.set_cons_succ]
          refine wpAnyH_take (i := 4) (oi := { dst := some 73, op := Op.load 23 (Operand.tmp 7), type := 23, pos := "law.go:57", after := #[], guard := none }) (v := .agg #[.int .i64 c', .int .i64 a']) rfl (by kernel_rfl) (by kernel_rfl) (by kernel_rfl) (fun _ _ _ h => h) (Or.inl ⟨by rfl, fun w' hw => by (have q0 := hw.cell n0 hDn; have q1 := hw.cell n1 hDn; go_simp)⟩) hS ?_
          try simp only [Act.put, List.setIfInBounds_toArray, List.set_cons_zero, List.set_cons_succ]
          refine wpAnyH_ready (rs := [2]) (by kernel_rfl) (by simp) ?_
          refine AllReadyH.cons (o := { dst := some 71, op := Op.call { callee := Callee.value (Operand.func 15), args := #[Operand.tmp 69, Operand.tmp 70], argTypes := #[24, 23] }, type := 25, pos := "law.go:57", after := #[{ on := 0, ground := Ground.data }, { on := 1, ground := Ground.data }], guard := none }) rfl (fun K hK => ?_) AllReadyH.nil
          go_simp
          refine (loc_any t m u live used total c' a' _ hBW.out.tab hk2).mono ?_
          rintro e V1 ⟨rfl, hT1, s1⟩
          have s1' : Touch (Tab.foot t m u live) V V1 := s1.mono (fun y hy => .inl (by simp only [Tab.foot, List.mem_cons]; exact .inr (.inr (.inr hy))))
          have hR1 := hBW.out.rf.touch s1' (fun y hy hm => hBW.out.xt y hy hm)
          have hS2 := hS.trans s1' (fun y hy => .inl (List.mem_append_left _ hy))
          refine hK.out _ _ hS2 (fun _ => ?_)
          clear hK K hS
          have hS := hS2
          clear hS2
          try simp only [Act.put, List.setIfInBounds_toArray, List.set_cons_zero, List.set_cons_succ]
          refine wpAnyH_ready (rs := [5]) (by kernel_rfl) (by simp) ?_
          refine AllReadyH.cons (o := { dst := some 74, op := Op.call { callee := Callee.value (Operand.func 44), args := #[Operand.tmp 72, Operand.tmp 73], argTypes := #[43, 23] }, type := 25, pos := "law.go:57", after := #[{ on := 3, ground := Ground.data }, { on := 4, ground := Ground.data }, { on := 2, ground := Ground.chain }], guard := none }) rfl (fun K hK => ?_) AllReadyH.nil
          go_simp
          refine (rloc_any x n v live total c' a' _ hR1 hk2 hKS.out hKN.out).mono ?_
          rintro e V2 ⟨rfl, hR2, s2⟩
          have s2' : Touch (Rf.foot x v) V1 V2 := s2.mono (fun y hy => .inl (by simp only [Rf.foot, List.mem_cons]; exact .inr hy))
          have hS2 := hS.trans s2' (fun y hy => .inl (List.mem_append_right _ hy))
          refine hK.out _ _ hS2 (fun _ => ?_)
          clear hK K hS
          have hS := hS2
          clear hS2
          try simp only [Act.put, List.setIfInBounds_toArray, List.set_cons_zero, List.set_cons_succ]
          refine wpAnyH_take (i := 6) (oi := { dst := some 75, op := Op.binOp BinOp.eql 25 (Operand.tmp 71) (Operand.tmp 74) 25, type := 4, pos := "law.go:57", after := #[{ on := 2, ground := Ground.data }, { on := 5, ground := Ground.data }], guard := none }) (v := .bool true) rfl (by kernel_rfl) (by kernel_rfl) (by kernel_rfl) (fun _ _ _ h => h) (Or.inl ⟨by rfl, fun w' hw => by go_simp⟩) hS ?_
          try simp only [Act.put, List.setIfInBounds_toArray, List.set_cons_zero, List.set_cons_succ]
          refine wpAnyH_take (i := 7) (oi := { dst := some 6, op := Op.assign (Operand.tmp 75), type := 4, pos := "law.go:57", after := #[{ on := 6, ground := Ground.data }, { on := 5, ground := Ground.chain }, { on := 0, ground := Ground.phase }, { on := 1, ground := Ground.phase }, { on := 2, ground := Ground.phase }, { on := 3, ground := Ground.phase }, { on := 4, ground := Ground.phase }, { on := 5, ground := Ground.phase }, { on := 6, ground := Ground.phase }], guard := none }) (v := .bool true) rfl (by kernel_rfl) (by kernel_rfl) (by kernel_rfl) (fun _ _ _ h => h) (Or.inl ⟨by rfl, fun w' hw => by go_simp⟩) hS ?_
          try simp only [Act.put, List.setIfInBounds_toArray, List.set_cons_zero, List.set_cons_succ]
          refine wpAnyH_done (by kernel_rfl) ?_ _
          go_wp2_with fail
          go_ret
          exact ⟨rfl, (Applied.step hBW.out hT1 hR2 hLEN.out (fun y hy => .inl (by rwa [foot_setSt] at hy)) s1' (fun b hb => .inl hb) s2' (Touch.refl _ _) ⟨by omega, by omega⟩).after tV zV⟩
        · have d6 : (q == 6) = false := by simp; omega
          cases hf : fdAt live (c', a') with
          | some f =>
            have HF := Lib.hid hf
            clear hf
            go_wp2_with fail
            have hDn : D ∉ fpB t m u x v live := fun hm => by have := hBD D hm; omega
            have hBW := Lib.hid (hBz.out.quiet ((Touch.refl [] W).drew))
            have n0' : W.drew.cell? ⟨D, 0, none⟩ = some (.int .i64 c') := n0
            have n1' : W.drew.cell? ⟨D, 1, none⟩ = some (.int .i64 a') := n1
            clear n0 n1 k0 p0
            have n0 := n0'
            have n1 := n1'
            clear n0' n1'
            have tV : Touch [] w W.drew := tW.drew
            have zV : w.heap.size ≤ W.drew.heap.size := tV.size
            refine wp_region_held (S := Touch (fpB t m u x v live) W.drew) (by kernel_rfl) ?_
            change wpAnyH _ _ _ _ _ _ _ _ W.drew
            generalize W.drew = V at *
            have hS := Touch.refl (fpB t m u x v live) V
            refine wpAnyH_take (i := 0) (oi := { dst := some 76, op := Op.move (Operand.tmp 0), type := 24, pos := "law.go:59", after := #[], guard := none }) (v := .pointer (some ⟨t, 0, none⟩)) rfl (by kernel_rfl) (by kernel_rfl) (by kernel_rfl) (fun _ _ _ h => h) (Or.inl ⟨by rfl, fun w' hw => by go_simp⟩) hS ?_
            try simp only [Act.put, List.setIfInBounds_toArray, List.set_cons_zero, List.set_cons_succ]
            refine wpAnyH_take (i := 1) (oi := { dst := some 77, op := Op.load 23 (Operand.tmp 7), type := 23, pos := "law.go:59", after := #[], guard := none }) (v := .agg #[.int .i64 c', .int .i64 a']) rfl (by kernel_rfl) (by kernel_rfl) (by kernel_rfl) (fun _ _ _ h => h) (Or.inl ⟨by rfl, fun w' hw => by (have q0 := hw.cell n0 hDn; have q1 := hw.cell n1 hDn; go_simp)⟩) hS ?_
            try simp only [Act.put, List.setIfInBounds_toArray, List.set_cons_zero, List.set_cons_succ]
            refine wpAnyH_take (i := 3) (oi := { dst := some 79, op := Op.move (Operand.tmp 1), type := 43, pos := "law.go:59", after := #[], guard := none }) (v := .pointer (some ⟨x, 0, none⟩)) rfl (by kernel_rfl) (by kernel_rfl) (by kernel_rfl) (fun _ _ _ h => h) (Or.inl ⟨by rfl, fun w' hw => by go_simp⟩) hS ?_
            try simp only [Act.put, List.setIfInBounds_toArray, List.set_cons_zero, List.set_cons_succ]
            refine wpAnyH_take (i := 4) (oi := { dst := some 80, op := Op.load 23 (Operand.tmp 7), type := 23, pos := "law.go:59", after := #[], guard := none }) (v := .agg #[.int .i64 c', .int .i64 a']) rfl (by kernel_rfl) (by kernel_rfl) (by kernel_rfl) (fun _ _ _ h => h) (Or.inl ⟨by rfl, fun w' hw => by (have q0 := hw.cell n0 hDn; have q1 := hw.cell n1 hDn; go_simp)⟩) hS ?_
            try simp only [Act.put, List.setIfInBounds_toArray, List.set_cons_zero, List.set_cons_succ]
            refine wpAnyH_ready (rs := [2]) (by kernel_rfl) (by simp) ?_
            refine AllReadyH.cons (o := { dst := some 78, op := Op.call { callee := Callee.value (Operand.func 18), args := #[Operand.tmp 76, Operand.tmp 77], argTypes := #[24, 23] }, type := 25, pos := "law.go:59", after := #[{ on := 0, ground := Ground.data }, { on := 1, ground := Ground.data }], guard := none }) rfl (fun K hK => ?_) AllReadyH.nil
            go_simp
            refine (close_ok t m u live used total c' a' _ hBW.out.tab hk2 f HF.out).mono ?_
            rintro e V1 ⟨rfl, hT1, s1⟩
            have s1' : Touch (Tab.foot t m u live) V V1 := s1.mono (fun y hy => .inl (by simp only [List.mem_cons, List.not_mem_nil, or_false] at hy; simp only [Tab.foot, List.mem_cons]; rcases hy with rfl | rfl <;> simp))
            have hR1 := hBW.out.rf.touch s1' (fun y hy hm => hBW.out.xt y hy hm)
            have hS2 := hS.trans s1' (fun y hy => .inl (List.mem_append_left _ hy))
            refine hK.out _ _ hS2 (fun _ => ?_)
            clear hK K hS
            have hS := hS2
            clear hS2
            try simp only [Act.put, List.setIfInBounds_toArray, List.set_cons_zero, List.set_cons_succ]
            refine wpAnyH_ready (rs := [5]) (by kernel_rfl) (by simp) ?_
            refine AllReadyH.cons (o := { dst := some 81, op := Op.call { callee := Callee.value (Operand.func 45), args := #[Operand.tmp 79, Operand.tmp 80], argTypes := #[43, 23] }, type := 25, pos := "law.go:59", after := #[{ on := 3, ground := Ground.data }, { on := 4, ground := Ground.data }, { on := 2, ground := Ground.chain }], guard := none }) rfl (fun K hK => ?_) AllReadyH.nil
            go_simp
            refine (rclose_ok x n v live total c' a' _ hR1 hk2 hKS.out hKN.out f HF.out).mono ?_
            rintro e V2 ⟨rfl, v2, hR2, hb2, s2⟩
            have s2' : Touch (Rf.foot x v) V1 V2 := s2.mono (fun y hy => .inl (by simp only [List.mem_singleton] at hy; simp [Rf.foot, hy]))
            have hS2 := hS.trans s2' (fun y hy => .inl (List.mem_append_right _ hy))
            refine hK.out _ _ hS2 (fun _ => ?_)
            clear hK K hS
            have hS := hS2
            clear hS2
            try simp only [Act.put, List.setIfInBounds_toArray, List.set_cons_zero, List.set_cons_succ]
            refine wpAnyH_take (i := 6) (oi := { dst := some 82, op := Op.binOp BinOp.eql 25 (Operand.tmp 78) (Operand.tmp 81) 25, type := 4, pos := "law.go:59", after := #[{ on := 2, ground := Ground.data }, { on := 5, ground := Ground.data }], guard := none }) (v := .bool true) rfl (by kernel_rfl) (by kernel_rfl) (by kernel_rfl) (fun _ _ _ h => h) (Or.inl ⟨by rfl, fun w' hw => by go_simp⟩) hS ?_
            try simp only [Act.put, List.setIfInBounds_toArray, List.set_cons_zero, List.set_cons_succ]
            refine wpAnyH_take (i := 7) (oi := { dst := some 6, op := Op.assign (Operand.tmp 82), type := 4, pos := "law.go:59", after := #[{ on := 6, ground := Ground.data }, { on := 5, ground := Ground.chain }, { on := 0, ground := Ground.phase }, { on := 1, ground := Ground.phase }, { on := 2, ground := Ground.phase }, { on := 3, ground := Ground.phase }, { on := 4, ground := Ground.phase }, { on := 5, ground := Ground.phase }, { on := 6, ground := Ground.phase }], guard := none }) (v := .bool true) rfl (by kernel_rfl) (by kernel_rfl) (by kernel_rfl) (fun _ _ _ h => h) (Or.inl ⟨by rfl, fun w' hw => by go_simp⟩) hS ?_
            try simp only [Act.put, List.setIfInBounds_toArray, List.set_cons_zero, List.set_cons_succ]
            refine wpAnyH_done (by kernel_rfl) ?_ _
            go_wp2_with fail
            go_ret
            exact ⟨rfl, (Applied.step hBW.out hT1 hR2 (by rw [List.length_set]; exact hLEN.out) (fun y hy => .inl (drop_foot y hy)) s1' (fun b hb => .inr (hb2 b hb)) s2' (Touch.refl _ _) ⟨by omega, by omega⟩).after tV zV⟩
          | none =>
            have HF := Lib.hid hf
            clear hf
            go_wp2_with fail
            have hDn : D ∉ fpB t m u x v live := fun hm => by have := hBD D hm; omega
            have hBW := Lib.hid (hBz.out.quiet ((Touch.refl [] W).drew))
            have n0' : W.drew.cell? ⟨D, 0, none⟩ = some (.int .i64 c') := n0
            have n1' : W.drew.cell? ⟨D, 1, none⟩ = some (.int .i64 a') := n1
            clear n0 n1 k0 p0
            have n0 := n0'
            have n1 := n1'
            clear n0' n1'
            have tV : Touch [] w W.drew := tW.drew
            have zV : w.heap.size ≤ W.drew.heap.size := tV.size
            refine wp_region_held (S := Touch (fpB t m u x v live) W.drew) (by kernel_rfl) ?_
            change wpAnyH _ _ _ _ _ _ _ _ W.drew
            generalize W.drew = V at *
            have hS := Touch.refl (fpB t m u x v live) V
            refine wpAnyH_take (i := 0) (oi := { dst := some 76, op := Op.move (Operand.tmp 0), type := 24, pos := "law.go:59", after := #[], guard := none }) (v := .pointer (some ⟨t, 0, none⟩)) rfl (by kernel_rfl) (by kernel_rfl) (by kernel_rfl) (fun _ _ _ h => h) (Or.inl ⟨by rfl, fun w' hw => by go_simp⟩) hS ?_
            try simp only [Act.put, List.setIfInBounds_toArray, List.set_cons_zero, List.set_cons_succ]
            refine wpAnyH_take (i := 1) (oi := { dst := some 77, op := Op.load 23 (Operand.tmp 7), type := 23, pos := "law.go:59", after := #[], guard := none }) (v := .agg #[.int .i64 c', .int .i64 a']) rfl (by kernel_rfl) (by kernel_rfl) (by kernel_rfl) (fun _ _ _ h => h) (Or.inl ⟨by rfl, fun w' hw => by (have q0 := hw.cell n0 hDn; have q1 := hw.cell n1 hDn; go_simp)⟩) hS ?_
            try simp only [Act.put, List.setIfInBounds_toArray, List.set_cons_zero, List.set_cons_succ]
            refine wpAnyH_take (i := 3) (oi := { dst := some 79, op := Op.move (Operand.tmp 1), type := 43, pos := "law.go:59", after := #[], guard := none }) (v := .pointer (some ⟨x, 0, none⟩)) rfl (by kernel_rfl) (by kernel_rfl) (by kernel_rfl) (fun _ _ _ h => h) (Or.inl ⟨by rfl, fun w' hw => by go_simp⟩) hS ?_
            try simp only [Act.put, List.setIfInBounds_toArray, List.set_cons_zero, List.set_cons_succ]
            refine wpAnyH_take (i := 4) (oi := { dst := some 80, op := Op.load 23 (Operand.tmp 7), type := 23, pos := "law.go:59", after := #[], guard := none }) (v := .agg #[.int .i64 c', .int .i64 a']) rfl (by kernel_rfl) (by kernel_rfl) (by kernel_rfl) (fun _ _ _ h => h) (Or.inl ⟨by rfl, fun w' hw => by (have q0 := hw.cell n0 hDn; have q1 := hw.cell n1 hDn; go_simp)⟩) hS ?_
            try simp only [Act.put, List.setIfInBounds_toArray, List.set_cons_zero, List.set_cons_succ]
            refine wpAnyH_ready (rs := [2]) (by kernel_rfl) (by simp) ?_
            refine AllReadyH.cons (o := { dst := some 78, op := Op.call { callee := Callee.value (Operand.func 18), args := #[Operand.tmp 76, Operand.tmp 77], argTypes := #[24, 23] }, type := 25, pos := "law.go:59", after := #[{ on := 0, ground := Ground.data }, { on := 1, ground := Ground.data }], guard := none }) rfl (fun K hK => ?_) AllReadyH.nil
            go_simp
            refine (close_no t m u live used total c' a' _ hBW.out.tab hk2 HF.out).mono ?_
            rintro e V1 ⟨rfl, s1⟩
            have hR1 := hBW.out.rf.touch s1 (by simp)
            have hS2 := hS.trans s1 (by simp)
            refine hK.out _ _ hS2 (fun _ => ?_)
            clear hK K hS
            have hS := hS2
            clear hS2
            try simp only [Act.put, List.setIfInBounds_toArray, List.set_cons_zero, List.set_cons_succ]
            refine wpAnyH_ready (rs := [5]) (by kernel_rfl) (by simp) ?_
            refine AllReadyH.cons (o := { dst := some 81, op := Op.call { callee := Callee.value (Operand.func 45), args := #[Operand.tmp 79, Operand.tmp 80], argTypes := #[43, 23] }, type := 25, pos := "law.go:59", after := #[{ on := 3, ground := Ground.data }, { on := 4, ground := Ground.data }, { on := 2, ground := Ground.chain }], guard := none }) rfl (fun K hK => ?_) AllReadyH.nil
            go_simp
            refine (rclose_no x n v live total c' a' _ hR1 hk2 hKS.out HF.out).mono ?_
            rintro e V2 ⟨rfl, s2⟩
            have hS2 := hS.trans s2 (by simp)
            refine hK.out _ _ hS2 (fun _ => ?_)
            clear hK K hS
            have hS := hS2
            clear hS2
            try simp only [Act.put, List.setIfInBounds_toArray, List.set_cons_zero, List.set_cons_succ]
            refine wpAnyH_take (i := 6) (oi := { dst := some 82, op := Op.binOp BinOp.eql 25 (Operand.tmp 78) (Operand.tmp 81) 25, type := 4, pos := "law.go:59", after := #[{ on := 2, ground := Ground.data }, { on := 5, ground := Ground.data }], guard := none }) (v := .bool true) rfl (by kernel_rfl) (by kernel_rfl) (by kernel_rfl) (fun _ _ _ h => h) (Or.inl ⟨by rfl, fun w' hw => by go_simp⟩) hS ?_
            try simp only [Act.put, List.setIfInBounds_toArray, List.set_cons_zero, List.set_cons_succ]
            refine wpAnyH_take (i := 7) (oi := { dst := some 6, op := Op.assign (Operand.tmp 82), type := 4, pos := "law.go:59", after := #[{ on := 6, ground := Ground.data }, { on := 5, ground := Ground.chain }, { on := 0, ground := Ground.phase }, { on := 1, ground := Ground.phase }, { on := 2, ground := Ground.phase }, { on := 3, ground := Ground.phase }, { on := 4, ground := Ground.phase }, { on := 5, ground := Ground.phase }, { on := 6, ground := Ground.phase }], guard := none }) (v := .bool true) rfl (by kernel_rfl) (by kernel_rfl) (by kernel_rfl) (fun _ _ _ h => h) (Or.inl ⟨by rfl, fun w' hw => by go_simp⟩) hS ?_
            try simp only [Act.put, List.setIfInBounds_toArray, List.set_cons_zero, List.set_cons_succ]
            refine wpAnyH_done (by kernel_rfl) ?_ _
            go_wp2_with fail
            go_ret
            exact ⟨rfl, (Applied.same hBW.out (s1.trans s2 (by simp))).after tV zV⟩
end Go.Proofs.Ytnglkdpmkgehoaa

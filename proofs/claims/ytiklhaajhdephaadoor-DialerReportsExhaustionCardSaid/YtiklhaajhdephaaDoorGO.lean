/-
  Merged texts: Af, Aq.
-/
import Derived.Test.YtiklhaajhdephaaDoorGN

/-
  What the sanity check of the laws on candidates computes; rows of one address beside a queue.
-/
namespace Go.Proofs.YtiklhaajhdephaaDoor
open Go.RowKit
set_option linter.unusedVariables false
set_option linter.unusedSimpArgs false

theorem at_bs {P : Program} {ops : Array Oper} {rest : List Oper} {a : Act} {w : World} {Q : Exit → Act → World → Prop} {d : Option Tmp} {t : TypeId} {p : String} {af : Array Edge} (ty : TypeId) (n : Nat) {ps : Array (Nat × Operand)} {g : Option (Nat × Bool)} (h : wpList P ops Q ({ dst := d, op := .buildSlice ty n ps, type := t, pos := p, after := af, guard := g } :: rest) a w) : wpList P ops Q ({ dst := d, op := .buildSlice ty n ps, type := t, pos := p, after := af, guard := g } :: rest) a w := h
theorem step_guardA {P : Program} {ops : Array Oper} {o : Oper} {a : Act} {w : World} {K : Act → World → Prop} {Q : Exit → Act → World → Prop} {E : Prop} (hw : Region.wanted o (yielded ops a.tmps) = true)
    (h : wpList P ops (fun e a w => e = .normal ∧ K a w) [{ o with guard := none }] a w) : if Region.wanted o (yielded ops a.tmps) = true then Oper.wp P o a w K Q else E := by
  rw [if_pos hw]
  have := step_of_list (Q := Q) (E := True) (o := { o with guard := none }) rfl h
  rw [if_pos (by simp [Region.wanted])] at this
  exact this
/-- A slice of addresses is made. -/
theorem wpList_build_ads {ops : Array Oper} {rest : List Oper} {op : Oper} {a : Act} {w : World} {Q : Exit → Act → World → Prop} (hw : Region.wanted op (yielded ops a.tmps) = true) (n : Nat) (parts : Array (Nat × Operand)) (ho : op.op = .buildSlice 22 n parts)
    (l : List Ad) (hn : l.length = n) (hl : n ≤ 1000) (he : (parts.toList.map fun (p : Nat × Operand) => (p.1, a.eval p.2)) = ((l.map Ad.cells).zipIdx).map fun p => (p.2, Value.agg p.1.toArray))
    (h : wpList Tryd.prog ops Q rest (a.put op.dst (.slice (some ⟨w.heap.size, 0, none⟩) n n)) (w.alloc (.cells (l.map Ad.cells).flatten.toArray 28))) : wpList Tryd.prog ops Q (op :: rest) a w := by
  obtain ⟨iA, hiA, hzA, hsA, hbA⟩ := info_parts info28
  refine wpList_want hw fun K hK => ?_
  have := step_guardA (E := True) (Q := Q) (K := K) hw (wpList_buildSlice_rows (P := Tryd.prog) (op := { op with guard := none }) rfl 22 n parts ho 28 17 iA _ Tryd.underlying22 hiA hzA hsA (by omega) (l.map Ad.cells) (by rw [List.length_map]; exact hn) (ads_len17 l) (by omega) he ⟨rfl, hK _ _ h⟩)
  rw [if_pos hw] at this
  exact this
theorem equalTQ (v1 v2 : Value) (b1 b2 : Nat) (l : List Ad) (w : World) (h1 : Rd w 17 b1 v1 (l.map Ad.cells)) (h2 : Rd w 17 b2 v2 (l.map Ad.cells)) :
    Calls Tryd.prog 14 #[v1, v2] w fun e w' => e = .returned (.bool true) ∧ Touch [] w w' := by
  have := equalA v1 v2 b1 b2 l l w h1 h2
  rwa [show decide (l = l) = true by simp] at this
def aqA : Ad := ⟨false, [1, 2, 3, 4, 0, 0, 0, 0, 0, 0, 0, 0, 0, 0, 0, 0], okB_dec (by decide)⟩
def aqB : Ad := ⟨false, [5, 6, 7, 8, 0, 0, 0, 0, 0, 0, 0, 0, 0, 0, 0, 0], okB_dec (by decide)⟩
def aqC : Ad := ⟨true, [32, 1, 13, 184, 0, 0, 0, 0, 0, 0, 0, 0, 0, 0, 0, 0], okB_dec (by decide)⟩
def aqD : Ad := ⟨true, [254, 128, 0, 0, 0, 0, 0, 0, 0, 0, 0, 0, 0, 0, 0, 1], okB_dec (by decide)⟩
theorem adq_inj : ∀ {l m : List Ad}, l.map Ad.key = m.map Ad.key → l = m
  | [], [], _ => rfl
  | [], b :: m, h => by simp at h
  | a :: l, [], h => by simp at h
  | a :: l, b :: m, h => by
    simp only [List.map_cons, List.cons.injEq] at h
    rw [Ad.key_inj h.1, adq_inj h.2]
set_option maxRecDepth 100000 in
theorem aq_add1 : addL [] [aqA, aqB, aqC] = [aqA, aqB, aqC] := adq_inj (by decide)
set_option maxRecDepth 100000 in
theorem aq_add2 : addL [aqA, aqB, aqC] [aqD, aqA] = [aqA, aqB, aqC, aqD] := adq_inj (by decide)
set_option maxRecDepth 100000 in
theorem aq_rem1 : remP 1 [aqA, aqB, aqC] [] = [aqC, aqA, aqB] := adq_inj (by decide)
set_option maxRecDepth 100000 in
theorem aq_rem2 : remP 1 [aqA, aqB, aqC] [2] = [aqA, aqB] := adq_inj (by decide)
set_option maxRecDepth 100000 in
theorem aq_rem3 : remP 1 [aqA, aqB, aqC, aqD] [2, 0] = [aqD, aqB] := adq_inj (by decide)
set_option maxRecDepth 100000 in
theorem aq_rem4 : remP 1 [aqA, aqB, aqC, aqD] [2, 0, 3] = [aqB] := adq_inj (by decide)
set_option maxRecDepth 100000 in
theorem aq_take1 : takeK [aqA, aqB, aqC] [] aqC = [2] := by decide
set_option maxRecDepth 100000 in
theorem aq_take2 : takeK [aqA, aqB, aqC] [2] aqA = [2, 0] := by decide
set_option maxRecDepth 100000 in
theorem aq_take3 : takeK [aqA, aqB, aqC, aqD] [2, 0] aqD = [2, 0, 3] := by decide
theorem aq_tkn : tknP [aqA, aqB, aqC, aqD] [2, 0, 3] = [aqC, aqA, aqD] := rfl
set_option maxRecDepth 100000 in
set_option maxHeartbeats 1000000 in
theorem addrq6 (w : World) : Calls Tryd.prog 51 #[.int .i64 6] w fun e w' => e = .returned (.agg aqC.cells.toArray) ∧ Touch [] w w' := by
  go_enter Tryd.func51, Tryd.ntmps51
  go_wp2_with fail
  refine (mod_any _ _ _ (by omega) (by omega)).mono ?_
  rintro e w' ⟨rfl, rfl⟩
  rw [show gmod 6 14 = 6 by decide]
  go_wp2_with (refine wpList_store_new rfl 28 _ _ rfl _ _ _ rfl rfl rfl size31 (by simp [Value.oneCell']) ?_)
  exact ret_adr rfl (cs := aqC.cells) rfl rfl (heap_alloc_new w _) ⟨rfl, (Touch.refl _ _).alloc _⟩
set_option maxRecDepth 100000 in
set_option maxHeartbeats 1000000 in
theorem addrq22 (w : World) : Calls Tryd.prog 51 #[.int .i64 22] w fun e w' => e = .returned (.agg aqD.cells.toArray) ∧ Touch [] w w' := by
  go_enter Tryd.func51, Tryd.ntmps51
  go_wp2_with fail
  refine (mod_any _ _ _ (by omega) (by omega)).mono ?_
  rintro e w' ⟨rfl, rfl⟩
  rw [show gmod 22 14 = 8 by decide]
  go_wp2_with (refine wpList_store_new rfl 28 _ _ rfl _ _ _ rfl rfl rfl size31 (by simp [Value.oneCell']) ?_)
  exact ret_adr rfl (cs := aqD.cells) rfl rfl (heap_alloc_new w _) ⟨rfl, (Touch.refl _ _).alloc _⟩
theorem four (w : World) (A B C D : Obj) : Touch [] w ((((w.alloc A).alloc B).alloc C).alloc D) ∧ ((((w.alloc A).alloc B).alloc C).alloc D).heap[w.heap.size]? = some A ∧ ((((w.alloc A).alloc B).alloc C).alloc D).heap[w.heap.size + 1]? = some B ∧ ((((w.alloc A).alloc B).alloc C).alloc D).heap[w.heap.size + 1 + 1]? = some C ∧ ((((w.alloc A).alloc B).alloc C).alloc D).heap[w.heap.size + 1 + 1 + 1]? = some D := by
  obtain ⟨t, g1, g2, g3⟩ := three w A B C
  have t4 := (Touch.refl [] (((w.alloc A).alloc B).alloc C)).alloc D
  have g4 := heap_alloc_new (((w.alloc A).alloc B).alloc C) D
  have hz : (((w.alloc A).alloc B).alloc C).heap.size = w.heap.size + 1 + 1 + 1 := by simp
  rw [hz] at g4
  exact ⟨t.trans t4 (by simp), t4.at g1 (by simp), t4.at g2 (by simp), t4.at g3 (by simp), g4⟩
theorem Rd.newA (w : World) (l : List Ad) (hl : l.length ≤ 1000) : Rd (w.alloc (.cells (l.map Ad.cells).flatten.toArray 28)) 17 w.heap.size (.slice (some ⟨w.heap.size, 0, none⟩) l.length l.length) (l.map Ad.cells) := by
  refine ⟨_, _, by rw [List.length_map], by rw [List.length_map]; exact Nat.le_refl _, by unfold maxLen; omega, (fun e => by cases e), fun hne => ⟨0, rfl, fun i x hx j v hv => ?_⟩⟩
  have := range_new w (l.map Ad.cells).flatten 28 (i * 17 + j) v (flat_get (ads_len17 l) hx hv)
  simpa [Nat.add_assoc] using this
/-- Rows of one address that lie in memory. -/
def Rows (w : World) (L : List (Nat × Ad)) : Prop := ∀ p ∈ L, w.rangeAt p.1 0 p.2.cells
theorem Rows.touch {w w' : World} {L : List (Nat × Ad)} {S : List Nat} (h : Rows w L) (t : Touch S w w') (hd : ∀ p ∈ L, p.1 ∉ S) : Rows w' L := fun p hp => t.range (h p hp) (hd p hp)
theorem Rows.lt {w : World} {L : List (Nat × Ad)} (h : Rows w L) : ∀ p ∈ L, p.1 < w.heap.size := fun p hp => World.block_lt_of_cell? w _ (h p hp 0 _ (List.getElem?_eq_getElem (by rw [p.2.len]; omega)))
theorem Rows.cons {w : World} {L : List (Nat × Ad)} {g : Nat} {x : Ad} (h : Rows w L) (r : w.rangeAt g 0 x.cells) : Rows w ((g, x) :: L) := by
  intro p hp
  simp only [List.mem_cons] at hp
  rcases hp with rfl | hp
  · exact r
  · exact h p hp
/-- The queue lies apart from the rows. -/
def Far (L : List (Nat × Ad)) (F : List Nat) : Prop := ∀ p ∈ L, p.1 ∉ F
theorem Far.add {w : World} {L : List (Nat × Ad)} {h : Nat} {va vt va' : Value} (hf : Far L (qfoot h va vt)) (hr : Rows w L) (hv : va'.ownBlock = va.ownBlock ∨ ∃ k, va'.ownBlock = some k ∧ w.heap.size ≤ k) : Far L (qfoot h va' vt) := by
  intro p hp hm
  have h1 := hf p hp
  have h2 := hr.lt p hp
  simp only [qfoot, List.mem_cons, List.mem_append, Option.mem_toList] at h1 hm
  rcases hm with e | e | e
  · exact h1 (.inl e)
  · rcases hv with e2 | ⟨k, e2, hk⟩
    · rw [e2] at e; exact h1 (.inr (.inl e))
    · rw [e2] at e; cases e; omega
  · exact h1 (.inr (.inr e))
theorem Far.take {w : World} {L : List (Nat × Ad)} {h : Nat} {va vt vt' : Value} (hf : Far L (qfoot h va vt)) (hr : Rows w L) (hv : vt'.ownBlock = vt.ownBlock ∨ ∃ k, vt'.ownBlock = some k ∧ w.heap.size ≤ k) : Far L (qfoot h va vt') := by
  intro p hp hm
  have h1 := hf p hp
  have h2 := hr.lt p hp
  simp only [qfoot, List.mem_cons, List.mem_append, Option.mem_toList] at h1 hm
  rcases hm with e | e | e
  · exact h1 (.inl e)
  · exact h1 (.inr (.inl e))
  · rcases hv with e2 | ⟨k, e2, hk⟩
    · rw [e2] at e; exact h1 (.inr (.inr e))
    · rw [e2] at e; cases e; omega
theorem Far.cons {w : World} {w0 : World} {L : List (Nat × Ad)} {h : Nat} {va vt : Value} {first : Int} {A : List Ad} {K : List Nat} {g : Nat} {x : Ad} (hf : Far L (qfoot h va vt)) (q : Qu w0 w h va vt first A K) (hg : w.heap.size ≤ g) : Far ((g, x) :: L) (qfoot h va vt) := by
  intro p hp
  simp only [List.mem_cons] at hp
  rcases hp with rfl | hp
  · intro hm
    have := (q.lt _ hm).2
    simp only at this
    omega
  · exact hf p hp
/-- What a step of the queue leaves of the rows, and of what was there before the queue. -/
theorem Rows.add {w w' : World} {L : List (Nat × Ad)} {h : Nat} {va vt : Value} (hr : Rows w L) (hf : Far L (qfoot h va vt)) (t : Touch (h :: va.ownBlock.toList) w w') : Rows w' L :=
  hr.touch t (fun p hp hm => hf p hp (by simp only [qfoot, List.mem_cons, List.mem_append] at hm ⊢; rcases hm with e | e; exact .inl e; exact .inr (.inl e)))
theorem Rows.take {w w' : World} {L : List (Nat × Ad)} {h : Nat} {va vt : Value} (hr : Rows w L) (hf : Far L (qfoot h va vt)) (t : Touch (h :: vt.ownBlock.toList) w w') : Rows w' L :=
  hr.touch t (fun p hp hm => hf p hp (by simp only [qfoot, List.mem_cons, List.mem_append] at hm ⊢; rcases hm with e | e; exact .inl e; exact .inr (.inr e)))
theorem Qu.out {w0 w w' : World} {h : Nat} {va vt : Value} {first : Int} {A : List Ad} {K : List Nat} {S : List Nat} (q : Qu w0 w h va vt first A K) (t0 : Touch [] w0 w) (t : Touch S w w') (hS : ∀ g ∈ S, g ∈ qfoot h va vt) : Touch [] w0 w' := t0.trans t (fun g hg => .inr (q.lt g (hS g hg)).1)
theorem foot_add (h : Nat) (va vt : Value) : ∀ g ∈ h :: va.ownBlock.toList, g ∈ qfoot h va vt := by
  intro g hm
  simp only [qfoot, List.mem_cons, List.mem_append] at hm ⊢
  rcases hm with e | e
  · exact .inl e
  · exact .inr (.inl e)
theorem foot_take (h : Nat) (va vt : Value) : ∀ g ∈ h :: vt.ownBlock.toList, g ∈ qfoot h va vt := by
  intro g hm
  simp only [qfoot, List.mem_cons, List.mem_append] at hm ⊢
  rcases hm with e | e
  · exact .inl e
  · exact .inr (.inr e)
theorem qtake_cons (w0 w : World) (h : Nat) (va vt : Value) (first : Int) (A : List Ad) (K K2 : List Nat) (x : Ad) (r : List Ad) (hr : remP first A K = x :: r) (hk : takeK A K x = K2) (q : Qu w0 w h va vt first A K) (hz : w0.heap.size ≤ w.heap.size) (hA : A.length ≤ 1000000) (hK : K.length ≤ 1000000) :
    Calls Tryd.prog 24 #[.pointer (some ⟨h, 0, none⟩)] w fun e w' => e = .returned (.tuple #[.agg x.cells.toArray, .bool true]) ∧
      ∃ vt', Qu w0 w' h va vt' first A K2 ∧ Touch (h :: vt.ownBlock.toList) w w' ∧ (vt'.ownBlock = vt.ownBlock ∨ ∃ k, vt'.ownBlock = some k ∧ w.heap.size ≤ k) := by
  have := qtake_any w0 w h va vt first A K q hz hA hK
  rw [hr] at this
  simp only [headA, List.isEmpty_cons, Bool.not_false, Bool.false_eq_true, if_false, hk] at this
  exact this
end Go.Proofs.YtiklhaajhdephaaDoor

/-
  The sanity check of the laws on candidates answers true.
-/
namespace Go.Proofs.YtiklhaajhdephaaDoor
open Go.RowKit
set_option linter.unusedVariables false
set_option linter.unusedSimpArgs false

set_option maxRecDepth 100000 in
set_option maxHeartbeats 8000000 in
theorem awake28_ok (w : World) : Calls Tryd.prog 30 #[] w fun e w' => e = .returned (.bool true) ∧ Touch [] w w' := by
  go_enter Tryd.func30, Tryd.ntmps30
  go_wp2_with fail
  refine (qnew_any 1 w).mono ?_
  rintro e w1 ⟨rfl, q1, t1⟩
  generalize w.heap.size = h at *
  go_wp2_with fail
  refine (v4_any 1 2 3 4 _).mono ?_
  rintro e w2 ⟨rfl, t2⟩
  rw [show adr false [1, 2, 3, 4, 0, 0, 0, 0, 0, 0, 0, 0, 0, 0, 0, 0] = aqA.cells from rfl]
  have q2 := q1.touch t2 (by simp)
  have T2 := t1.trans t2 (by simp)
  clear q1 t1 t2
  go_wp2_with fail
  refine (v4_any 5 6 7 8 _).mono ?_
  rintro e w3 ⟨rfl, t3⟩
  rw [show adr false [5, 6, 7, 8, 0, 0, 0, 0, 0, 0, 0, 0, 0, 0, 0, 0] = aqB.cells from rfl]
  have q3 := q2.touch t3 (by simp)
  have T3 := T2.trans t3 (by simp)
  clear q2 T2 t3
  go_wp2_with fail
  refine (addrq6 _).mono ?_
  rintro e w4 ⟨rfl, t4⟩
  have q4 := q3.touch t4 (by simp)
  have T4 := T3.trans t4 (by simp)
  clear q3 T3 t4
  go_wp2_with fail
  refine (addrq22 _).mono ?_
  rintro e w5 ⟨rfl, t5⟩
  have q5 := q4.touch t5 (by simp)
  have T5 := T4.trans t5 (by simp)
  clear q4 T4 t5
  obtain ⟨a, ha⟩ : ∃ a, a = aqA := ⟨_, rfl⟩
  obtain ⟨b, hb⟩ : ∃ b, b = aqB := ⟨_, rfl⟩
  obtain ⟨c, hc⟩ : ∃ c, c = aqC := ⟨_, rfl⟩
  obtain ⟨d, hd⟩ : ∃ d, d = aqD := ⟨_, rfl⟩
  have f1 := aq_add1
  have f2 := aq_add2
  have f3 := aq_rem1
  have f4 := aq_rem2
  have f5 := aq_rem3
  have f6 := aq_rem4
  have f7 := aq_take1
  have f8 := aq_take2
  have f9 := aq_take3
  have f10 := aq_tkn
  rw [← ha, ← hb, ← hc] at f1 f2 f3 f4 f5 f6 f7 f8 f9 f10
  rw [← hd] at f2 f5 f6 f9 f10
  rw [← ha, ← hb, ← hc, ← hd]
  have HF := Lib.hid (And.intro f1 (And.intro f2 (And.intro f3 (And.intro f4 (And.intro f5 (And.intro f6 (And.intro f7 (And.intro f8 (And.intro f9 f10)))))))))
  have HLA := Lib.hid a.len
  have HLB := Lib.hid b.len
  have HLC := Lib.hid c.len
  have HLD := Lib.hid d.len
  have HQ := Lib.hid q5
  have HT := Lib.hid T5
  obtain ⟨tq, g1, g2, g3, g4⟩ := four w5 (.cells (adr false (List.replicate 16 0)).toArray 28) (.cells (adr false (List.replicate 16 0)).toArray 28) (.cells (adr false (List.replicate 16 0)).toArray 28) (.cells (adr false (List.replicate 16 0)).toArray 28)
  have G1 := Lib.hid g1
  have G2 := Lib.hid g2
  have G3 := Lib.hid g3
  have G4 := Lib.hid g4
  have TQ := Lib.hid tq
  clear f1 f2 f3 f4 f5 f6 f7 f8 f9 f10 ha hb hc hd q5 T5 tq g1 g2 g3 g4
  go_wp2_with ((with_reducible refine at_store 28 ?_); refine wpList_store_into rfl 28 _ _ rfl w5.heap.size 28 _ a.cells rfl rfl G1.out (by rw [HLA.out]; rfl) (by rw [size31, HLA.out]) a.one ?_)
  intro w6 h6 t6 z6
  have A1 := Lib.hid h6
  have A2 := Lib.hid (t6.at G2.out (by simp))
  have A3 := Lib.hid (t6.at G3.out (by simp <;> omega))
  have A4 := Lib.hid (t6.at G4.out (by simp <;> omega))
  have T6 := Lib.hid (TQ.out.trans t6 (by intro y hy; right; simp at hy; omega))
  clear h6 t6 z6 G1 G2 G3 G4 TQ
  go_wp2_with ((with_reducible refine at_store 28 ?_); refine wpList_store_into rfl 28 _ _ rfl (w5.heap.size + 1) 28 _ b.cells rfl rfl A2.out (by rw [HLB.out]; rfl) (by rw [size31, HLB.out]) b.one ?_)
  intro w7 h7 t7 z7
  have B1 := Lib.hid (t7.at A1.out (by simp))
  have B2 := Lib.hid h7
  have B3 := Lib.hid (t7.at A3.out (by simp <;> omega))
  have B4 := Lib.hid (t7.at A4.out (by simp <;> omega))
  have T7 := Lib.hid (T6.out.trans t7 (by intro y hy; right; simp at hy; omega))
  clear h7 t7 z7 A1 A2 A3 A4 T6
  go_wp2_with ((with_reducible refine at_store 28 ?_); refine wpList_store_into rfl 28 _ _ rfl (w5.heap.size + 1 + 1) 28 _ c.cells rfl rfl B3.out (by rw [HLC.out]; rfl) (by rw [size31, HLC.out]) c.one ?_)
  intro w8 h8 t8 z8
  have C1 := Lib.hid (t8.at B1.out (by simp <;> omega))
  have C2 := Lib.hid (t8.at B2.out (by simp <;> omega))
  have C3 := Lib.hid h8
  have C4 := Lib.hid (t8.at B4.out (by simp <;> omega))
  have T8 := Lib.hid (T7.out.trans t8 (by intro y hy; right; simp at hy; omega))
  clear h8 t8 z8 B1 B2 B3 B4 T7
  go_wp2_with ((with_reducible refine at_store 28 ?_); refine wpList_store_into rfl 28 _ _ rfl (w5.heap.size + 1 + 1 + 1) 28 _ d.cells rfl rfl C4.out (by rw [HLD.out]; rfl) (by rw [size31, HLD.out]) d.one ?_)
  intro w9 h9 t9 z9
  have rA := range_block (t9.at C1.out (by simp <;> omega))
  have rB := range_block (t9.at C2.out (by simp <;> omega))
  have rC := range_block (t9.at C3.out (by simp <;> omega))
  have rD := range_block h9
  have T9 := Lib.hid (T8.out.trans t9 (by intro y hy; right; simp at hy; omega))
  have HQ9 := Lib.hid (HQ.out.touch T9.out (by simp))
  have HT9 := Lib.hid (HT.out.trans T9.out (by simp))
  generalize hg1 : w5.heap.size = g1 at *
  obtain ⟨g2, hg2⟩ : ∃ g, g = g1 + 1 := ⟨_, rfl⟩
  obtain ⟨g3, hg3⟩ : ∃ g, g = g1 + 1 + 1 := ⟨_, rfl⟩
  obtain ⟨g4, hg4⟩ : ∃ g, g = g1 + 1 + 1 + 1 := ⟨_, rfl⟩
  rw [← hg4] at rD ⊢
  rw [← hg3] at rC ⊢
  rw [← hg2] at rB ⊢
  have hr0 : Rows w9 [(g1, a), (g2, b), (g3, c), (g4, d)] := by
    intro p hp
    simp only [List.mem_cons, List.not_mem_nil, or_false] at hp
    rcases hp with rfl | rfl | rfl | rfl
    · exact rA
    · exact rB
    · exact rC
    · exact rD
  have hf0 : Far [(g1, a), (g2, b), (g3, c), (g4, d)] (qfoot h (.slice none 0 0) (.slice none 0 0)) := by
    intro p hp hm
    have hlt := (HQ.out.lt _ hm).2
    rw [hg1] at hlt
    simp only [List.mem_cons, List.not_mem_nil, or_false] at hp
    rcases hp with rfl | rfl | rfl | rfl <;> simp only at hlt <;> omega
  have HR9 := Lib.hid hr0
  have HF9 := Lib.hid hf0
  obtain ⟨f1, f2, f3, f4, f5, f6, f7, f8, f9, f10⟩ := HF.out
  have F1 := Lib.hid f1
  have F2 := Lib.hid f2
  have F3 := Lib.hid f3
  have F4 := Lib.hid f4
  have F5 := Lib.hid f5
  have F6 := Lib.hid f6
  have F7 := Lib.hid f7
  have F8 := Lib.hid f8
  have F9 := Lib.hid f9
  have F10 := Lib.hid f10
  clear h9 t9 z9 C1 C2 C3 C4 T8 T9 HQ HT hg1 hg2 hg3 hg4 hr0 hf0 HF f1 f2 f3 f4 f5 f6 f7 f8 f9 f10
  go_wp2_with (first
    | ((with_reducible refine at_load_g 28 _ _ ?_); refine wpList_load_gg _ _ rfl (by rfl) 28 _ rfl g1 0 rfl a.cells _ rA Tryd.underlying28 rfl (by rw [size31, HLA.out]) ?_)
    | ((with_reducible refine at_load_g 28 _ _ ?_); refine wpList_load_gg _ _ rfl (by rfl) 28 _ rfl g2 0 rfl b.cells _ rB Tryd.underlying28 rfl (by rw [size31, HLB.out]) ?_)
    | ((with_reducible refine at_load_g 28 _ _ ?_); refine wpList_load_gg _ _ rfl (by rfl) 28 _ rfl g3 0 rfl c.cells _ rC Tryd.underlying28 rfl (by rw [size31, HLC.out]) ?_)
    | ((with_reducible refine at_bs 22 3 ?_); refine wpList_build_ads (by rfl) 3 _ rfl [a, b, c] rfl (by omega) (by rfl) ?_))
  have ta := (Touch.refl [] w9).alloc (.cells (a.cells ++ (b.cells ++ c.cells)).toArray 28)
  have hrd : Rd (w9.alloc (.cells (a.cells ++ (b.cells ++ c.cells)).toArray 28)) 17 w9.heap.size (.slice (some ⟨w9.heap.size, 0, none⟩) 3 3) ([a, b, c].map Ad.cells) := by
    have h0 := Rd.newA w9 [a, b, c] (by simp)
    rw [show ([a, b, c].map Ad.cells).flatten = a.cells ++ (b.cells ++ c.cells) by simp] at h0
    exact h0
  have hq := HQ9.out.touch ta (by simp)
  have hadd := qadd_any w _ h _ _ 1 [] [] hq (by have := HT9.out.size; have := ta.size; omega) _ w9.heap.size [a, b, c] hrd (fun _ hm => by have := (HQ9.out.lt _ hm).2; omega) (by simp)
  have HR10 := Lib.hid (HR9.out.touch ta (by simp))
  have HT10 := Lib.hid (HT9.out.trans ta (by simp))
  clear ta hrd
  refine hadd.mono ?_
  rintro e w11 ⟨va, rfl, q11, t11, hv11⟩
  rw [F1.out] at q11 ⊢
  have HT11 := Lib.hid (hq.out HT10.out t11 (foot_add h _ _))
  have HR11 := Lib.hid (HR10.out.add HF9.out t11)
  have HF11 := Lib.hid (HF9.out.add HR10.out hv11)
  have HQ11 := Lib.hid q11
  clear hadd q11 t11 hv11 hq rA rB rC rD HQ9 HT9 HR9 HF9 HR10 HT10
  go_wp2_with fail
  refine (qtake_cons w w11 h va _ 1 [a, b, c] [] [2] c [a, b] F3.out F7.out HQ11.out HT11.out.size (by simp) (by simp)).mono ?_
  rintro e w12 ⟨rfl, vt, q12, t12, hv12⟩
  have HT12 := Lib.hid (HQ11.out.out HT11.out t12 (foot_take h _ _))
  have hr12 := HR11.out.take HF11.out t12
  have hf12 := HF11.out.take HR11.out hv12
  clear HR11 HF11 HQ11 HT11 t12 hv12
  have HN6 := Lib.hid (heap_alloc_new w12 (.cells (adr false (List.replicate 16 0)).toArray 28))
  have HA6 := Lib.hid ((Touch.refl [] w12).alloc (.cells (adr false (List.replicate 16 0)).toArray 28))
  have HF12 := Lib.hid (hf12.cons (x := c) q12 (Nat.le_refl _))
  have HQ12 := Lib.hid q12
  have HR12 := Lib.hid hr12
  clear hr12 hf12 q12
  go_wp2_with ((with_reducible refine at_store 28 ?_); refine wpList_store_into rfl 28 _ _ rfl w12.heap.size 28 _ c.cells rfl rfl HN6.out (by rw [HLC.out]; rfl) (by rw [size31, HLC.out]) c.one ?_)
  intro w13 h13 t13 z13
  have t13' := HA6.out.trans t13 (by intro y hy; right; simp at hy; omega)
  have HQ13 := Lib.hid (HQ12.out.touch t13' (by simp))
  have HR13 := Lib.hid ((HR12.out.touch t13' (by simp)).cons (range_block h13))
  have HT13 := Lib.hid (HT12.out.trans t13' (by simp))
  have HZ13 := Lib.hid (show w13.heap.size = w12.heap.size + 1 by simpa using z13)
  generalize w12.heap.size = g6 at *
  clear h13 t13 z13 t13' HQ12 HR12 HT12 HN6 HA6
  go_wp2_with fail
  refine (qtake_cons w w13 h va vt 1 [a, b, c] [2] [2, 0] a [b] F4.out F8.out HQ13.out HT13.out.size (by simp) (by simp)).mono ?_
  rintro e w14 ⟨rfl, vt2, q14, t14, hv14⟩
  have HT14 := Lib.hid (HQ13.out.out HT13.out t14 (foot_take h _ _))
  have hr14 := HR13.out.take HF12.out t14
  have hf14 := HF12.out.take HR13.out hv14
  clear HR13 HF12 HQ13 HT13 t14 hv14 HZ13
  have HN8 := Lib.hid (heap_alloc_new w14 (.cells (adr false (List.replicate 16 0)).toArray 28))
  have HA8 := Lib.hid ((Touch.refl [] w14).alloc (.cells (adr false (List.replicate 16 0)).toArray 28))
  have HF14 := Lib.hid (hf14.cons (x := a) q14 (Nat.le_refl _))
  have HQ14 := Lib.hid q14
  have HR14 := Lib.hid hr14
  clear hr14 hf14 q14
  go_wp2_with ((with_reducible refine at_store 28 ?_); refine wpList_store_into rfl 28 _ _ rfl w14.heap.size 28 _ a.cells rfl rfl HN8.out (by rw [HLA.out]; rfl) (by rw [size31, HLA.out]) a.one ?_)
  intro w15 h15 t15 z15
  have t15' := HA8.out.trans t15 (by intro y hy; right; simp at hy; omega)
  have HQ15 := Lib.hid (HQ14.out.touch t15' (by simp))
  have hr15 := (HR14.out.touch t15' (by simp)).cons (range_block h15)
  have HT15 := Lib.hid (HT14.out.trans t15' (by simp))
  generalize w14.heap.size = g8 at *
  clear h15 t15 z15 t15' HQ14 HR14 HT14 HN8 HA8
  have rA := hr15 (g1, a) (by simp)
  have rD := hr15 (g4, d) (by simp)
  simp only at rA rD
  have HR15 := Lib.hid hr15
  clear hr15
  go_wp2_with (first
    | ((with_reducible refine at_load 28 ?_); refine wpList_load_mid rfl 28 _ rfl g1 0 rfl a.cells _ rA Tryd.underlying28 rfl (by rw [size31, HLA.out]) ?_)
    | ((with_reducible refine at_load 28 ?_); refine wpList_load_mid rfl 28 _ rfl g4 0 rfl d.cells _ rD Tryd.underlying28 rfl (by rw [size31, HLD.out]) ?_)
    | ((with_reducible refine at_bs 22 2 ?_); refine wpList_build_ads (by rfl) 2 _ rfl [d, a] rfl (by omega) (by rfl) ?_))
  have ta := (Touch.refl [] w15).alloc (.cells (d.cells ++ a.cells).toArray 28)
  have hrd : Rd (w15.alloc (.cells (d.cells ++ a.cells).toArray 28)) 17 w15.heap.size (.slice (some ⟨w15.heap.size, 0, none⟩) 2 2) ([d, a].map Ad.cells) := by
    have h0 := Rd.newA w15 [d, a] (by simp)
    rw [show ([d, a].map Ad.cells).flatten = d.cells ++ a.cells by simp] at h0
    exact h0
  have hq := HQ15.out.touch ta (by simp)
  have hadd := qadd_any w _ h _ _ 1 [a, b, c] [2, 0] hq (by have := HT15.out.size; have := ta.size; omega) _ w15.heap.size [d, a] hrd (fun _ hm => by have := (HQ15.out.lt _ hm).2; omega) (by simp)
  have HR16 := Lib.hid (HR15.out.touch ta (by simp))
  have HT16 := Lib.hid (HT15.out.trans ta (by simp))
  clear ta hrd
  refine hadd.mono ?_
  rintro e w17 ⟨va2, rfl, q17, t17, hv17⟩
  rw [F2.out] at q17 ⊢
  have HT17 := Lib.hid (hq.out HT16.out t17 (foot_add h _ _))
  have HR17 := Lib.hid (HR16.out.add HF14.out t17)
  have HF17 := Lib.hid (HF14.out.add HR16.out hv17)
  have HQ17 := Lib.hid q17
  clear hadd q17 t17 hv17 hq rA rD HQ15 HT15 HR15 HF14 HR16 HT16
  go_wp2_with fail
  refine (qtake_cons w w17 h va2 vt2 1 [a, b, c, d] [2, 0] [2, 0, 3] d [b] F5.out F9.out HQ17.out HT17.out.size (by simp) (by simp)).mono ?_
  rintro e w18 ⟨rfl, vt3, q18, t18, hv18⟩
  have HT18 := Lib.hid (HQ17.out.out HT17.out t18 (foot_take h _ _))
  have HR18 := Lib.hid (HR17.out.take HF17.out t18)
  have HN11 := Lib.hid (heap_alloc_new w18 (.cells (adr false (List.replicate 16 0)).toArray 28))
  have HA11 := Lib.hid ((Touch.refl [] w18).alloc (.cells (adr false (List.replicate 16 0)).toArray 28))
  have HQ18 := Lib.hid q18
  clear HR17 HF17 HQ17 HT17 t18 hv18 q18
  go_wp2_with ((with_reducible refine at_store 28 ?_); refine wpList_store_into rfl 28 _ _ rfl w18.heap.size 28 _ d.cells rfl rfl HN11.out (by rw [HLD.out]; rfl) (by rw [size31, HLD.out]) d.one ?_)
  intro w19 h19 t19 z19
  have t19' := HA11.out.trans t19 (by intro y hy; right; simp at hy; omega)
  have HQ19 := Lib.hid (HQ18.out.touch t19' (by simp))
  have hr19 := (HR18.out.touch t19' (by simp)).cons (range_block h19)
  have HT19 := Lib.hid (HT18.out.trans t19' (by simp))
  generalize w18.heap.size = g11 at *
  clear h19 t19 z19 t19' HQ18 HR18 HT18 HN11 HA11
  have HR19 := Lib.hid hr19
  clear hr19
  go_wp2_with fail
  refine wp_region_held (S := Touch [] w19.drew) (by kernel_rfl) ?_
  change wpAnyH _ _ _ _ _ _ _ _ w19.drew
  have HQW := Lib.hid (HQ19.out.touch ((Touch.refl [] w19).drew) (by simp))
  have HRW := Lib.hid (HR19.out.touch ((Touch.refl [] w19).drew) (by simp))
  have HTW := Lib.hid (HT19.out.drew)
  clear HQ19 HR19 HT19
  generalize w19.drew = W at *
  have rA := HRW.out (g1, a) (by simp)
  have rB := HRW.out (g2, b) (by simp)
  have rC := HRW.out (g3, c) (by simp)
  have rD := HRW.out (g4, d) (by simp)
  have r6 := HRW.out (g6, c) (by simp)
  have r8 := HRW.out (g8, a) (by simp)
  have r11 := HRW.out (g11, d) (by simp)
  simp only at rA rB rC rD r6 r8 r11
  have hS := Touch.refl [] W
  refine tkH 0 (.agg c.cells.toArray) rfl ?_ (hy := Or.inl ⟨by rfl, fun w' hw => exec_load_agg _ 28 _ rfl _ _ rfl c.cells _ (hw.range r6 (by simp)) Tryd.underlying28 rfl (by rw [size31, HLC.out])⟩)
  try simp only [Act.put, sT, s0, sS]
  refine tkH 1 (.agg c.cells.toArray) rfl ?_ (hy := Or.inl ⟨by rfl, fun w' hw => exec_load_agg _ 28 _ rfl _ _ rfl c.cells _ (hw.range rC (by simp)) Tryd.underlying28 rfl (by rw [size31, HLC.out])⟩)
  try simp only [Act.put, sT, s0, sS]
  refine tkH 2 (.bool true) rfl ?_ (hy := Or.inl ⟨by rfl, fun w' hw => exec_eql_agg _ 28 _ _ _ rfl c.cells.toArray c.cells.toArray rfl rfl (by kernel_rfl) true (eq_ad_t c c rfl w')⟩)
  try simp only [Act.put, sT, s0, sS]
  refine tkH 3 (.bool true) rfl ?_
  try simp only [Act.put, sT, s0, sS]
  refine tkH 4 (.bool true) rfl ?_
  try simp only [Act.put, sT, s0, sS]
  refine tkH 5 (.bool true) rfl ?_
  try simp only [Act.put, sT, s0, sS]
  refine tkH 6 (.bool true) rfl ?_
  try simp only [Act.put, sT, s0, sS]
  refine tkH 7 (.agg a.cells.toArray) rfl ?_ (hy := Or.inl ⟨by rfl, fun w' hw => exec_load_agg _ 28 _ rfl _ _ rfl a.cells _ (hw.range r8 (by simp)) Tryd.underlying28 rfl (by rw [size31, HLA.out])⟩)
  try simp only [Act.put, sT, s0, sS]
  refine tkH 8 (.agg a.cells.toArray) rfl ?_ (hy := Or.inl ⟨by rfl, fun w' hw => exec_load_agg _ 28 _ rfl _ _ rfl a.cells _ (hw.range rA (by simp)) Tryd.underlying28 rfl (by rw [size31, HLA.out])⟩)
  try simp only [Act.put, sT, s0, sS]
  refine tkH 9 (.bool true) rfl ?_ (hy := Or.inl ⟨by rfl, fun w' hw => exec_eql_agg _ 28 _ _ _ rfl a.cells.toArray a.cells.toArray rfl rfl (by kernel_rfl) true (eq_ad_t a a rfl w')⟩)
  try simp only [Act.put, sT, s0, sS]
  refine tkH 10 (.bool true) rfl ?_
  try simp only [Act.put, sT, s0, sS]
  refine tkH 11 (.bool true) rfl ?_
  try simp only [Act.put, sT, s0, sS]
  refine tkH 12 (.bool true) rfl ?_
  try simp only [Act.put, sT, s0, sS]
  refine tkH 13 (.bool true) rfl ?_
  try simp only [Act.put, sT, s0, sS]
  refine tkH 14 (.bool true) rfl ?_
  try simp only [Act.put, sT, s0, sS]
  refine tkH 15 (.int .i64 1) rfl ?_
  try simp only [Act.put, sT, s0, sS]
  refine tkH 16 (.bool true) rfl ?_
  try simp only [Act.put, sT, s0, sS]
  refine tkH 17 (.bool true) rfl ?_
  try simp only [Act.put, sT, s0, sS]
  refine tkH 18 (.bool true) rfl ?_
  try simp only [Act.put, sT, s0, sS]
  refine tkH 19 (.agg d.cells.toArray) rfl ?_ (hy := Or.inl ⟨by rfl, fun w' hw => exec_load_agg _ 28 _ rfl _ _ rfl d.cells _ (hw.range r11 (by simp)) Tryd.underlying28 rfl (by rw [size31, HLD.out])⟩)
  try simp only [Act.put, sT, s0, sS]
  refine tkH 20 (.agg d.cells.toArray) rfl ?_ (hy := Or.inl ⟨by rfl, fun w' hw => exec_load_agg _ 28 _ rfl _ _ rfl d.cells _ (hw.range rD (by simp)) Tryd.underlying28 rfl (by rw [size31, HLD.out])⟩)
  try simp only [Act.put, sT, s0, sS]
  refine tkH 21 (.bool true) rfl ?_ (hy := Or.inl ⟨by rfl, fun w' hw => exec_eql_agg _ 28 _ _ _ rfl d.cells.toArray d.cells.toArray rfl rfl (by kernel_rfl) true (eq_ad_t d d rfl w')⟩)
  try simp only [Act.put, sT, s0, sS]
  refine tkH 22 (.bool true) rfl ?_
  try simp only [Act.put, sT, s0, sS]
  refine tkH 23 (.bool true) rfl ?_
  try simp only [Act.put, sT, s0, sS]
  refine tkH 24 (.bool true) rfl ?_
  try simp only [Act.put, sT, s0, sS]
  refine tkH 25 (.bool true) rfl ?_
  try simp only [Act.put, sT, s0, sS]
  refine tkH 26 (.bool true) rfl ?_
  try simp only [Act.put, sT, s0, sS]
  refine tkH 27 (.pointer (some ⟨h, 0, none⟩)) rfl ?_
  try simp only [Act.put, sT, s0, sS]
  refine tkH 29 (.agg b.cells.toArray) rfl ?_ (hy := Or.inl ⟨by rfl, fun w' hw => exec_load_agg _ 28 _ rfl _ _ rfl b.cells _ (hw.range rB (by simp)) Tryd.underlying28 rfl (by rw [size31, HLB.out])⟩)
  try simp only [Act.put, sT, s0, sS]
  refine wpAnyH_ready (rs := [28, 30]) (by kernel_rfl) (by simp) ?_
  refine cnH rfl (fun K hK => ?_) (cnH rfl (fun K hK => ?_) AllReadyH.nil)
  · go_simp
    refine (qrem_any w _ h va2 vt3 1 [a, b, c, d] [2, 0, 3] (HQW.out.touch hS (by simp)) (by simp)).mono ?_
    rintro e w28 ⟨v28, rfl, o28, t28⟩
    rw [F6.out] at o28
    obtain ⟨b28, rv28, _⟩ := o28.rd
    clear o28
    have hS2 := hS.trans t28 (by simp)
    refine hK.out _ _ hS2 (fun _ => ?_)
    clear hK K hS t28
    have hS := hS2
    clear hS2
    try simp only [Act.put, sT, s0, sS]
    refine wpAnyH_ready (rs := [30]) (by kernel_rfl) (by simp) ?_
    refine cnH rfl (fun K hK => ?_) AllReadyH.nil
    refine step_guardA (by rfl) ?_
    refine wpList_build_ads (by rfl) 1 _ rfl [b] rfl (by omega) (by rfl) ?_
    obtain ⟨x79, hx79⟩ : ∃ x, x = w28.alloc (.cells ([b].map Ad.cells).flatten.toArray 28) := ⟨_, rfl⟩
    have tb : Touch [] w28 x79 := by rw [hx79]; exact (Touch.refl [] w28).alloc _
    have rb79 : Rd x79 17 w28.heap.size (.slice (some ⟨w28.heap.size, 0, none⟩) 1 1) ([b].map Ad.cells) := by rw [hx79]; exact Rd.newA w28 [b] (by simp)
    rw [← hx79]
    clear hx79
    have rv28 := rv28.touch tb (by simp)
    have hS2 := hS.trans tb (by simp)
    refine ⟨rfl, hK.out _ _ hS2 (fun _ => ?_)⟩
    clear hK K hS tb
    have hS := hS2
    clear hS2
    try simp only [Act.put, sT, s0, sS]
    refine wpAnyH_ready (rs := [31]) (by kernel_rfl) (by simp) ?_
    refine cnH rfl (fun K hK => ?_) AllReadyH.nil
    go_simp
    refine (equalTQ _ _ _ _ [b] _ rv28 rb79).mono ?_
    rintro e w31 ⟨rfl, t31⟩
    clear rv28 rb79
    have hS2 := hS.trans t31 (by simp)
    refine hK.out _ _ hS2 (fun _ => ?_)
    clear hK K hS t31
    have hS := hS2
    clear hS2
    try simp only [Act.put, sT, s0, sS]
    refine tkH 32 (.bool true) rfl ?_
    try simp only [Act.put, sT, s0, sS]
    refine tkH 33 (.bool true) rfl ?_
    try simp only [Act.put, sT, s0, sS]
    refine tkH 34 (.pointer (some ⟨h, 0, none⟩)) rfl ?_
    try simp only [Act.put, sT, s0, sS]
    refine tkH 36 (.agg c.cells.toArray) rfl ?_ (hy := Or.inl ⟨by rfl, fun w' hw => exec_load_agg _ 28 _ rfl _ _ rfl c.cells _ (hw.range rC (by simp)) Tryd.underlying28 rfl (by rw [size31, HLC.out])⟩)
    try simp only [Act.put, sT, s0, sS]
    refine tkH 37 (.agg a.cells.toArray) rfl ?_ (hy := Or.inl ⟨by rfl, fun w' hw => exec_load_agg _ 28 _ rfl _ _ rfl a.cells _ (hw.range rA (by simp)) Tryd.underlying28 rfl (by rw [size31, HLA.out])⟩)
    try simp only [Act.put, sT, s0, sS]
    refine tkH 38 (.agg d.cells.toArray) rfl ?_ (hy := Or.inl ⟨by rfl, fun w' hw => exec_load_agg _ 28 _ rfl _ _ rfl d.cells _ (hw.range rD (by simp)) Tryd.underlying28 rfl (by rw [size31, HLD.out])⟩)
    try simp only [Act.put, sT, s0, sS]
    refine wpAnyH_ready (rs := [35, 39]) (by kernel_rfl) (by simp) ?_
    refine cnH rfl (fun K hK => ?_) (cnH rfl (fun K hK => ?_) AllReadyH.nil)
    · go_simp
      refine (qtaken_any w _ h va2 vt3 1 [a, b, c, d] [2, 0, 3] (HQW.out.touch hS (by simp)) (by simp)).mono ?_
      rintro e w35 ⟨v35, rfl, o35, t35⟩
      rw [F10.out] at o35
      obtain ⟨b35, rv35, _⟩ := o35.rd
      clear o35
      have hS2 := hS.trans t35 (by simp)
      refine hK.out _ _ hS2 (fun _ => ?_)
      clear hK K hS t35
      have hS := hS2
      clear hS2
      try simp only [Act.put, sT, s0, sS]
      refine wpAnyH_ready (rs := [39]) (by kernel_rfl) (by simp) ?_
      refine cnH rfl (fun K hK => ?_) AllReadyH.nil
      refine step_guardA (by rfl) ?_
      refine wpList_build_ads (by rfl) 3 _ rfl [c, a, d] rfl (by omega) (by rfl) ?_
      obtain ⟨x88, hx88⟩ : ∃ x, x = w35.alloc (.cells ([c, a, d].map Ad.cells).flatten.toArray 28) := ⟨_, rfl⟩
      have tb : Touch [] w35 x88 := by rw [hx88]; exact (Touch.refl [] w35).alloc _
      have rb88 : Rd x88 17 w35.heap.size (.slice (some ⟨w35.heap.size, 0, none⟩) 3 3) ([c, a, d].map Ad.cells) := by rw [hx88]; exact Rd.newA w35 [c, a, d] (by simp)
      rw [← hx88]
      clear hx88
      have rv35 := rv35.touch tb (by simp)
      have hS2 := hS.trans tb (by simp)
      refine ⟨rfl, hK.out _ _ hS2 (fun _ => ?_)⟩
      clear hK K hS tb
      have hS := hS2
      clear hS2
      try simp only [Act.put, sT, s0, sS]
      refine wpAnyH_ready (rs := [40]) (by kernel_rfl) (by simp) ?_
      refine cnH rfl (fun K hK => ?_) AllReadyH.nil
      go_simp
      refine (equalTQ _ _ _ _ [c, a, d] _ rv35 rb88).mono ?_
      rintro e w40 ⟨rfl, t40⟩
      clear rv35 rb88
      have hS2 := hS.trans t40 (by simp)
      refine hK.out _ _ hS2 (fun _ => ?_)
      clear hK K hS t40
      have hS := hS2
      clear hS2
      try simp only [Act.put, sT, s0, sS]
      refine tkH 41 (.bool true) rfl ?_
      try simp only [Act.put, sT, s0, sS]
      refine tkH 42 (.bool true) rfl ?_
      try simp only [Act.put, sT, s0, sS]
      refine wpAnyH_done (by kernel_rfl) ?_ _
      try simp only [Act.put, sT, s0, sS]
      have HTZ := Lib.hid (HTW.out.trans hS (by simp))
      clear hS
      go_wp2_with fail
      go_ret
      exact ⟨rfl, HTZ.out⟩
    · refine step_guardA (by rfl) ?_
      refine wpList_build_ads (by rfl) 3 _ rfl [c, a, d] rfl (by omega) (by rfl) ?_
      obtain ⟨x88, hx88⟩ : ∃ x, x = w31.alloc (.cells ([c, a, d].map Ad.cells).flatten.toArray 28) := ⟨_, rfl⟩
      have tb : Touch [] w31 x88 := by rw [hx88]; exact (Touch.refl [] w31).alloc _
      have rb88 : Rd x88 17 w31.heap.size (.slice (some ⟨w31.heap.size, 0, none⟩) 3 3) ([c, a, d].map Ad.cells) := by rw [hx88]; exact Rd.newA w31 [c, a, d] (by simp)
      rw [← hx88]
      clear hx88
      have hS2 := hS.trans tb (by simp)
      refine ⟨rfl, hK.out _ _ hS2 (fun _ => ?_)⟩
      clear hK K hS tb
      have hS := hS2
      clear hS2
      try simp only [Act.put, sT, s0, sS]
      refine wpAnyH_ready (rs := [35]) (by kernel_rfl) (by simp) ?_
      refine cnH rfl (fun K hK => ?_) AllReadyH.nil
      go_simp
      refine (qtaken_any w _ h va2 vt3 1 [a, b, c, d] [2, 0, 3] (HQW.out.touch hS (by simp)) (by simp)).mono ?_
      rintro e w35 ⟨v35, rfl, o35, t35⟩
      have rb88 := rb88.touch t35 (by simp)
      rw [F10.out] at o35
      obtain ⟨b35, rv35, _⟩ := o35.rd
      clear o35
      have hS2 := hS.trans t35 (by simp)
      refine hK.out _ _ hS2 (fun _ => ?_)
      clear hK K hS t35
      have hS := hS2
      clear hS2
      try simp only [Act.put, sT, s0, sS]
      refine wpAnyH_ready (rs := [40]) (by kernel_rfl) (by simp) ?_
      refine cnH rfl (fun K hK => ?_) AllReadyH.nil
      go_simp
      refine (equalTQ _ _ _ _ [c, a, d] _ rv35 rb88).mono ?_
      rintro e w40 ⟨rfl, t40⟩
      clear rv35 rb88
      have hS2 := hS.trans t40 (by simp)
      refine hK.out _ _ hS2 (fun _ => ?_)
      clear hK K hS t40
      have hS := hS2
      clear hS2
      try simp only [Act.put, sT, s0, sS]
      refine tkH 41 (.bool true) rfl ?_
      try simp only [Act.put, sT, s0, sS]
      refine tkH 42 (.bool true) rfl ?_
      try simp only [Act.put, sT, s0, sS]
      refine wpAnyH_done (by kernel_rfl) ?_ _
      try simp only [Act.put, sT, s0, sS]
      have HTZ := Lib.hid (HTW.out.trans hS (by simp))
      clear hS
      go_wp2_with fail
      go_ret
      exact ⟨rfl, HTZ.out⟩
  · refine step_guardA (by rfl) ?_
    refine wpList_build_ads (by rfl) 1 _ rfl [b] rfl (by omega) (by rfl) ?_
    obtain ⟨x79, hx79⟩ : ∃ x, x = W.alloc (.cells ([b].map Ad.cells).flatten.toArray 28) := ⟨_, rfl⟩
    have tb : Touch [] W x79 := by rw [hx79]; exact (Touch.refl [] W).alloc _
    have rb79 : Rd x79 17 W.heap.size (.slice (some ⟨W.heap.size, 0, none⟩) 1 1) ([b].map Ad.cells) := by rw [hx79]; exact Rd.newA W [b] (by simp)
    rw [← hx79]
    clear hx79
    have hS2 := hS.trans tb (by simp)
    refine ⟨rfl, hK.out _ _ hS2 (fun _ => ?_)⟩
    clear hK K hS tb
    have hS := hS2
    clear hS2
    try simp only [Act.put, sT, s0, sS]
    refine wpAnyH_ready (rs := [28]) (by kernel_rfl) (by simp) ?_
    refine cnH rfl (fun K hK => ?_) AllReadyH.nil
    go_simp
    refine (qrem_any w _ h va2 vt3 1 [a, b, c, d] [2, 0, 3] (HQW.out.touch hS (by simp)) (by simp)).mono ?_
    rintro e w28 ⟨v28, rfl, o28, t28⟩
    have rb79 := rb79.touch t28 (by simp)
    rw [F6.out] at o28
    obtain ⟨b28, rv28, _⟩ := o28.rd
    clear o28
    have hS2 := hS.trans t28 (by simp)
    refine hK.out _ _ hS2 (fun _ => ?_)
    clear hK K hS t28
    have hS := hS2
    clear hS2
    try simp only [Act.put, sT, s0, sS]
    refine wpAnyH_ready (rs := [31]) (by kernel_rfl) (by simp) ?_
    refine cnH rfl (fun K hK => ?_) AllReadyH.nil
    go_simp
    refine (equalTQ _ _ _ _ [b] _ rv28 rb79).mono ?_
    rintro e w31 ⟨rfl, t31⟩
    clear rv28 rb79
    have hS2 := hS.trans t31 (by simp)
    refine hK.out _ _ hS2 (fun _ => ?_)
    clear hK K hS t31
    have hS := hS2
    clear hS2
    try simp only [Act.put, sT, s0, sS]
    refine tkH 32 (.bool true) rfl ?_
    try simp only [Act.put, sT, s0, sS]
    refine tkH 33 (.bool true) rfl ?_
    try simp only [Act.put, sT, s0, sS]
    refine tkH 34 (.pointer (some ⟨h, 0, none⟩)) rfl ?_
    try simp only [Act.put, sT, s0, sS]
    refine tkH 36 (.agg c.cells.toArray) rfl ?_ (hy := Or.inl ⟨by rfl, fun w' hw => exec_load_agg _ 28 _ rfl _ _ rfl c.cells _ (hw.range rC (by simp)) Tryd.underlying28 rfl (by rw [size31, HLC.out])⟩)
    try simp only [Act.put, sT, s0, sS]
    refine tkH 37 (.agg a.cells.toArray) rfl ?_ (hy := Or.inl ⟨by rfl, fun w' hw => exec_load_agg _ 28 _ rfl _ _ rfl a.cells _ (hw.range rA (by simp)) Tryd.underlying28 rfl (by rw [size31, HLA.out])⟩)
    try simp only [Act.put, sT, s0, sS]
    refine tkH 38 (.agg d.cells.toArray) rfl ?_ (hy := Or.inl ⟨by rfl, fun w' hw => exec_load_agg _ 28 _ rfl _ _ rfl d.cells _ (hw.range rD (by simp)) Tryd.underlying28 rfl (by rw [size31, HLD.out])⟩)
    try simp only [Act.put, sT, s0, sS]
    refine wpAnyH_ready (rs := [35, 39]) (by kernel_rfl) (by simp) ?_
    refine cnH rfl (fun K hK => ?_) (cnH rfl (fun K hK => ?_) AllReadyH.nil)
    · go_simp
      refine (qtaken_any w _ h va2 vt3 1 [a, b, c, d] [2, 0, 3] (HQW.out.touch hS (by simp)) (by simp)).mono ?_
      rintro e w35 ⟨v35, rfl, o35, t35⟩
      rw [F10.out] at o35
      obtain ⟨b35, rv35, _⟩ := o35.rd
      clear o35
      have hS2 := hS.trans t35 (by simp)
      refine hK.out _ _ hS2 (fun _ => ?_)
      clear hK K hS t35
      have hS := hS2
      clear hS2
      try simp only [Act.put, sT, s0, sS]
      refine wpAnyH_ready (rs := [39]) (by kernel_rfl) (by simp) ?_
      refine cnH rfl (fun K hK => ?_) AllReadyH.nil
      refine step_guardA (by rfl) ?_
      refine wpList_build_ads (by rfl) 3 _ rfl [c, a, d] rfl (by omega) (by rfl) ?_
      obtain ⟨x88, hx88⟩ : ∃ x, x = w35.alloc (.cells ([c, a, d].map Ad.cells).flatten.toArray 28) := ⟨_, rfl⟩
      have tb : Touch [] w35 x88 := by rw [hx88]; exact (Touch.refl [] w35).alloc _
      have rb88 : Rd x88 17 w35.heap.size (.slice (some ⟨w35.heap.size, 0, none⟩) 3 3) ([c, a, d].map Ad.cells) := by rw [hx88]; exact Rd.newA w35 [c, a, d] (by simp)
      rw [← hx88]
      clear hx88
      have rv35 := rv35.touch tb (by simp)
      have hS2 := hS.trans tb (by simp)
      refine ⟨rfl, hK.out _ _ hS2 (fun _ => ?_)⟩
      clear hK K hS tb
      have hS := hS2
      clear hS2
      try simp only [Act.put, sT, s0, sS]
      refine wpAnyH_ready (rs := [40]) (by kernel_rfl) (by simp) ?_
      refine cnH rfl (fun K hK => ?_) AllReadyH.nil
      go_simp
      refine (equalTQ _ _ _ _ [c, a, d] _ rv35 rb88).mono ?_
      rintro e w40 ⟨rfl, t40⟩
      clear rv35 rb88
      have hS2 := hS.trans t40 (by simp)
      refine hK.out _ _ hS2 (fun _ => ?_)
      clear hK K hS t40
      have hS := hS2
      clear hS2
      try simp only [Act.put, sT, s0, sS]
      refine tkH 41 (.bool true) rfl ?_
      try simp only [Act.put, sT, s0, sS]
      refine tkH 42 (.bool true) rfl ?_
      try simp only [Act.put, sT, s0, sS]
      refine wpAnyH_done (by kernel_rfl) ?_ _
      try simp only [Act.put, sT, s0, sS]
      have HTZ := Lib.hid (HTW.out.trans hS (by simp))
      clear hS
      go_wp2_with fail
      go_ret
      exact ⟨rfl, HTZ.out⟩
    · refine step_guardA (by rfl) ?_
      refine wpList_build_ads (by rfl) 3 _ rfl [c, a, d] rfl (by omega) (by rfl) ?_
      obtain ⟨x88, hx88⟩ : ∃ x, x = w31.alloc (.cells ([c, a, d].map Ad.cells).flatten.toArray 28) := ⟨_, rfl⟩
      have tb : Touch [] w31 x88 := by rw [hx88]; exact (Touch.refl [] w31).alloc _
      have rb88 : Rd x88 17 w31.heap.size (.slice (some ⟨w31.heap.size, 0, none⟩) 3 3) ([c, a, d].map Ad.cells) := by rw [hx88]; exact Rd.newA w31 [c, a, d] (by simp)
      rw [← hx88]
      clear hx88
      have hS2 := hS.trans tb (by simp)
      refine ⟨rfl, hK.out _ _ hS2 (fun _ => ?_)⟩
      clear hK K hS tb
      have hS := hS2
      clear hS2
      try simp only [Act.put, sT, s0, sS]
      refine wpAnyH_ready (rs := [35]) (by kernel_rfl) (by simp) ?_
      refine cnH rfl (fun K hK => ?_) AllReadyH.nil
      go_simp
      refine (qtaken_any w _ h va2 vt3 1 [a, b, c, d] [2, 0, 3] (HQW.out.touch hS (by simp)) (by simp)).mono ?_
      rintro e w35 ⟨v35, rfl, o35, t35⟩
      have rb88 := rb88.touch t35 (by simp)
      rw [F10.out] at o35
      obtain ⟨b35, rv35, _⟩ := o35.rd
      clear o35
      have hS2 := hS.trans t35 (by simp)
      refine hK.out _ _ hS2 (fun _ => ?_)
      clear hK K hS t35
      have hS := hS2
      clear hS2
      try simp only [Act.put, sT, s0, sS]
      refine wpAnyH_ready (rs := [40]) (by kernel_rfl) (by simp) ?_
      refine cnH rfl (fun K hK => ?_) AllReadyH.nil
      go_simp
      refine (equalTQ _ _ _ _ [c, a, d] _ rv35 rb88).mono ?_
      rintro e w40 ⟨rfl, t40⟩
      clear rv35 rb88
      have hS2 := hS.trans t40 (by simp)
      refine hK.out _ _ hS2 (fun _ => ?_)
      clear hK K hS t40
      have hS := hS2
      clear hS2
      try simp only [Act.put, sT, s0, sS]
      refine tkH 41 (.bool true) rfl ?_
      try simp only [Act.put, sT, s0, sS]
      refine tkH 42 (.bool true) rfl ?_
      try simp only [Act.put, sT, s0, sS]
      refine wpAnyH_done (by kernel_rfl) ?_ _
      try simp only [Act.put, sT, s0, sS]
      have HTZ := Lib.hid (HTW.out.trans hS (by simp))
      clear hS
      go_wp2_with fail
      go_ret
      exact ⟨rfl, HTZ.out⟩
end Go.Proofs.YtiklhaajhdephaaDoor

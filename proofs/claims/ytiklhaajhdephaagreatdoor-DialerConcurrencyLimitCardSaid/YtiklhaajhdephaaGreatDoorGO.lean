/-
  Merged texts: Af.
-/
import Derived.Test.YtiklhaajhdephaaGreatDoorGN

/-
 What the sanity check of the laws on candidates computes; rows of one address beside a queue.
-/
namespace Go.Proofs.YtiklhaajhdephaaGreatDoor
open Go.RowKit
set_option linter.unusedVariables false
set_option linter.unusedSimpArgs false

theorem at_bs {P : Program} {ops : Array Oper} {rest : List Oper} {a : Act} {w : World} {Q : Exit → Act → World → Prop} {d : Option Tmp} {t : TypeId} {p : String} {af : Array Edge} (ty : TypeId) (n : Nat) {ps : Array (Nat × Operand)} {g : Option (Nat × Bool)} (h : wpList P ops Q ({ dst := d, op := .buildSlice ty n ps, type := t, pos := p, after := af, guard := g } :: rest) a w) : wpList P ops Q ({ dst := d, op := .buildSlice ty n ps, type := t, pos := p, after := af, guard := g } :: rest) a w := h
theorem step_guardA {P : Program} {ops : Array Oper} {o : Oper} {a : Act} {w : World} {K : Act → World → Prop} {Q : Exit → Act → World → Prop} {E : Prop} (hw : Region.wanted o (yielded ops a.tmps) = true)
  (h : wpList P ops (fun e a w => e = .normal ∧ K a w) [{ o with guard := none }] a w) : if Region.wanted o (yielded ops a.tmps) = true then Oper.wp P o a w K Q else E := by
 rw [if_pos hw]
 have := step_of_list (Q := Q) (E := True) (o := { o with guard := none }) rfl h
 rw [if_pos (by simp [Region.wanted])] at this
 exact this
/-- A slice of addresses is made. -/
theorem wpList_build_ads {ops : Array Oper} {rest : List Oper} {op : Oper} {a : Act} {w : World} {Q : Exit → Act → World → Prop} (hw : Region.wanted op (yielded ops a.tmps) = true) (n : Nat) (parts : Array (Nat × Operand)) (ho : op.op = .buildSlice 35 n parts)
  (l : List Ad) (hn : l.length = n) (hl : n ≤ 1000) (he : (parts.toList.map fun (p : Nat × Operand) => (p.1, a.eval p.2)) = ((l.map Ad.cells).zipIdx).map fun p => (p.2, Value.agg p.1.toArray))
  (h : wpList Tryz.prog ops Q rest (a.put op.dst (.slice (some ⟨w.heap.size, 0, none⟩) n n)) (w.alloc (.cells (l.map Ad.cells).flatten.toArray 40))) : wpList Tryz.prog ops Q (op :: rest) a w := by
 obtain ⟨iA, hiA, hzA, hsA, hbA⟩ := info_parts info40
 refine wpList_want hw fun K hK => ?_
 have := step_guardA (E := True) (Q := Q) (K := K) hw (wpList_buildSlice_rows (P := Tryz.prog) (op := { op with guard := none }) rfl 35 n parts ho 40 17 iA _ Tryz.underlying35 hiA hzA hsA (by omega) (l.map Ad.cells) (by rw [List.length_map]; exact hn) (ads_len17 l) (by omega) he ⟨rfl, hK _ _ h⟩)
 rw [if_pos hw] at this
 exact this
def aqA : Ad := ⟨false, [1, 2, 3, 4, 0, 0, 0, 0, 0, 0, 0, 0, 0, 0, 0, 0], okB_dec (by decide)⟩
def aqB : Ad := ⟨false, [5, 6, 7, 8, 0, 0, 0, 0, 0, 0, 0, 0, 0, 0, 0, 0], okB_dec (by decide)⟩
theorem adq_inj : ∀ {l m : List Ad}, l.map Ad.key = m.map Ad.key → l = m
 | [], [], _ => rfl
 | [], b :: m, h => by simp at h
 | a :: l, [], h => by simp at h
 | a :: l, b :: m, h => by
  simp only [List.map_cons, List.cons.injEq] at h
  rw [Ad.key_inj h.1, adq_inj h.2]
theorem Rd.newA (w : World) (l : List Ad) (hl : l.length ≤ 1000) : Rd (w.alloc (.cells (l.map Ad.cells).flatten.toArray 40)) 17 w.heap.size (.slice (some ⟨w.heap.size, 0, none⟩) l.length l.length) (l.map Ad.cells) := by
 refine ⟨_, _, by rw [List.length_map], by rw [List.length_map]; exact Nat.le_refl _, by unfold maxLen; omega, (fun e => by cases e), fun hne => ⟨0, rfl, fun i x hx j v hv => ?_⟩⟩
 have := range_new w (l.map Ad.cells).flatten 40 (i * 17 + j) v (flat_get (ads_len17 l) hx hv)
 simpa [Nat.add_assoc] using this
theorem foot_add (h : Nat) (va vt : Value) : ∀ g ∈ h :: va.ownBlock.toList, g ∈ qfoot h va vt := by
 intro g hm
 simp only [qfoot, List.mem_cons, List.mem_append] at hm ⊢
 rcases hm with e | e
 ·exact .inl e
 ·exact .inr (.inl e)
theorem foot_take (h : Nat) (va vt : Value) : ∀ g ∈ h :: vt.ownBlock.toList, g ∈ qfoot h va vt := by
 intro g hm
 simp only [qfoot, List.mem_cons, List.mem_append] at hm ⊢
 rcases hm with e | e
 ·exact .inl e
 ·exact .inr (.inr e)
end Go.Proofs.YtiklhaajhdephaaGreatDoor

/-
  Loads and stores of a whole struct. Plain lemmas over any program.
-/
import Derived.Test.YtpbabdoecjlifaaMem
import Derived.Deep.MidRow
import Derived.Deep.Draws
namespace Go.Proofs.Ytpbabdoecjlifaa
open Go.RowKit
set_option linter.unusedVariables false
set_option linter.unusedSimpArgs false

theorem Touch.drews {S : List Nat} {a w : World} (h : Touch S a w) (n : Nat) : Touch S a (w.drewN n) := ⟨h.os, h.tape, h.output, h.size, h.block⟩
theorem Touch.range {S : List Nat} {w w' : World} (t : Touch S w w') {b o : Nat} {cs : List Value} (h : w.rangeAt b o cs) (hb : b ∉ S) : w'.rangeAt b o cs :=
  fun j v hv => t.cell (h j v hv) hb
theorem range_draws {w : World} {b o : Nat} {cs : List Value} (h : w.rangeAt b o cs) (n : Nat) : (w.drewN n).rangeAt b o cs := h
theorem range_new (w : World) (cs : List Value) (T : TypeId) : (w.alloc (.cells cs.toArray T)).rangeAt w.heap.size 0 cs := by
  intro j v hv
  rw [Nat.zero_add, cell_of_row (w.alloc (.cells cs.toArray T)) w.heap.size j cs.toArray T (0, 0) (heap_alloc_new w _)]
  simpa using hv

theorem setCells_new (w : World) (z : Array Value) (T : TypeId) (cs : List Value) (h : z.size = cs.length) : (w.alloc (.cells z T)).setCells w.heap.size 0 cs = w.alloc (.cells cs.toArray T) := by
  have key : ∀ (l pre : List Value) (o : Nat) (suf : List Value), o = pre.length → suf.length = l.length → (w.alloc (.cells (pre ++ suf).toArray T)).setCells w.heap.size o l = w.alloc (.cells (pre ++ l).toArray T) := by
    intro l
    induction l with
    | nil => intro pre o suf ho hs; obtain rfl : suf = [] := List.eq_nil_of_length_eq_zero (by simpa using hs); rfl
    | cons x l ih =>
      intro pre o suf ho hs
      cases suf with
      | nil => simp at hs
      | cons y suf =>
        have e : (w.alloc (.cells (pre ++ y :: suf).toArray T)).setCell ⟨w.heap.size, o, none⟩ x = w.alloc (.cells ((pre ++ [x]) ++ suf).toArray T) := by
          rw [World.setCell_alloc_at _ _ _ _ _ rfl]
          congr 2
          subst ho
          simp
        show ((w.alloc (.cells (pre ++ y :: suf).toArray T)).setCell ⟨w.heap.size, o, none⟩ x).setCells w.heap.size (o + 1) l = _
        rw [e, ih (pre ++ [x]) (o + 1) suf (by simp [ho]) (by simpa using hs)]
        simp
  obtain ⟨zl⟩ := z
  have := key cs [] 0 zl rfl (by simpa using h)
  simpa using this

/-- A struct is stored into the variable that the call has just made. -/
theorem wpList_store_new {P : Program} {ops : Array Oper} {rest : List Oper} {op : Oper} {a : Act} {w : World} {Q : Exit → Act → World → Prop} (hgd : op.guard = none) (ty : TypeId) (x y : Operand) (ho : op.op = .store ty x y)
    (z : Array Value) (T : TypeId) (cs : List Value) (hx : a.eval x = .pointer (some ⟨w.heap.size, 0, none⟩)) (hy : a.eval y = .agg cs.toArray) (hz : z.size = cs.length) (hi : (P.info? ty).map (·.size) = some cs.length) (h1 : ∀ v ∈ cs, v.oneCell' = true)
    (h : wpList P ops Q rest (a.put op.dst undef) (w.alloc (.cells cs.toArray T))) : wpList P ops Q (op :: rest) a (w.alloc (.cells z T)) := by
  refine wpList_store_mid hgd ty x y ho w.heap.size 0 cs.toArray hx hy ?_ (by simpa using hi) (all_oneCell_toArray h1) ?_
  · intro j hj
    have hb := heap_alloc_new w (.cells z T)
    rw [cell_of_row _ _ _ z T (0, 0) hb]
    constructor
    · have : j < z.size := by simp at hj; omega
      simp [this]
    · exact frozen_of_row _ _ _ _ _ hb
  · rw [show cs.toArray.toList = cs by simp, setCells_new w z T cs hz]
    exact h

/-- A struct is stored into a whole block. -/
theorem wpList_store_into {P : Program} {ops : Array Oper} {rest : List Oper} {op : Oper} {a : Act} {w : World} {Q : Exit → Act → World → Prop} (hgd : op.guard = none) (ty : TypeId) (x y : Operand) (ho : op.op = .store ty x y)
    (g : Nat) (T : TypeId) (old : Array Value) (cs : List Value) (hx : a.eval x = .pointer (some ⟨g, 0, none⟩)) (hy : a.eval y = .agg cs.toArray) (hg : w.heap[g]? = some (.cells old T (0, 0)))
    (hz : old.size = cs.length) (hi : (P.info? ty).map (·.size) = some cs.length) (h1 : ∀ v ∈ cs, v.oneCell' = true)
    (h : ∀ w', w'.heap[g]? = some (.cells cs.toArray T (0, 0)) → Touch [g] w w' → w'.heap.size = w.heap.size → wpList P ops Q rest (a.put op.dst undef) w') : wpList P ops Q (op :: rest) a w := by
  refine wpList_store_row hgd ty x y ho g cs.toArray hx hy T old hg (by simpa using hi) (by simpa using hz) (all_oneCell_toArray h1) (h _ (setRow_heap w g old _ T _ hg) ⟨rfl, rfl, rfl, by simp, fun k hk hn => setRow_other w g k _ (by simpa using hn)⟩ (by simp))

/-- Cells are stored into the midst of a block. -/
theorem wpList_store_part {P : Program} {ops : Array Oper} {rest : List Oper} {op : Oper} {a : Act} {w : World} {Q : Exit → Act → World → Prop} (hgd : op.guard = none) (ty : TypeId) (x y : Operand) (ho : op.op = .store ty x y)
    (g o : Nat) (T : TypeId) (old : List Value) (cs : List Value) (hx : a.eval x = .pointer (some ⟨g, o, none⟩)) (hy : a.eval y = .agg cs.toArray) (hg : w.heap[g]? = some (.cells old.toArray T (0, 0)))
    (hz : o + cs.length ≤ old.length) (hi : (P.info? ty).map (·.size) = some cs.length) (h1 : ∀ v ∈ cs, v.oneCell' = true)
    (h : ∀ w', w'.heap[g]? = some (.cells (old.take o ++ cs ++ old.drop (o + cs.length)).toArray T (0, 0)) → Touch [g] w w' → w'.heap.size = w.heap.size → wpList P ops Q rest (a.put op.dst undef) w') : wpList P ops Q (op :: rest) a w := by
  refine wpList_plain hgd fun K hK => ?_
  have hr := run_storeCells_at (P := P) g o T cs 0 old.toArray w hg (by simpa using hz) h1
  simp only [Nat.add_zero] at hr
  have hv : (storeVar ty ⟨g, o, none⟩ (.agg cs.toArray)).run P w = .ok () (w.setRow g (old.take o ++ cs ++ old.drop (o + cs.length)).toArray) := by
    cases hq : P.info? ty with
    | none => simp [hq] at hi
    | some i =>
      have hs : cs.length = i.size := by simp [hq] at hi; omega
      simp [storeVar, sizeOf, typeInfo, hq, Value.cells, hs, hr]
  have := hK _ _ (h _ (setRow_heap w g _ _ T _ hg) ⟨rfl, rfl, rfl, by simp, fun k hk hn => setRow_other w g k _ (by simpa using hn)⟩ (by simp))
  unfold Oper.wp execOp
  simp only [ho, hx, hy, Instr.storeAt, Instr.sureAddr, Sem.run_bind, Sem.run_pure, Result.andThen_ok, hv]
  exact this
theorem range_block {w : World} {g : Nat} {T : TypeId} {cs : List Value} (h : w.heap[g]? = some (.cells cs.toArray T (0, 0))) : w.rangeAt g 0 cs := by
  intro j v hv
  rw [cell_of_row w g _ cs.toArray T (0, 0) h]
  simpa using hv

end Go.Proofs.Ytpbabdoecjlifaa

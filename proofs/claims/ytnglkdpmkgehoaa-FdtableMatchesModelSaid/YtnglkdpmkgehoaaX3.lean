/-
  The walk of FdtableValidatesEndpoint, its argument taken apart.
-/
import Derived.Test.YtnglkdpmkgehoaaW3
namespace Go.Proofs.Ytnglkdpmkgehoaa
open Go.ChangeShapes Go.WideShapes Go.Deep Go.RowKit
theorem cells_key {H : Type} {enc : TypeId × Value → H} {w : World} {base : Nat} {spare : Nat → Bool} {held : Bool} {cs : Array Value} (h : CellsOk enc Try.prog w base spare held [3, 3] cs.toList) :
    ∃ c a, cs = #[.int .i64 c, .int .i64 a] ∧ okK (c, a) := by
  obtain ⟨hl, hc⟩ := h
  obtain ⟨v0, e0, l0⟩ := hc 0 3 rfl
  obtain ⟨v1, e1, l1⟩ := hc 1 3 rfl
  obtain ⟨c, rfl, wc⟩ := l0.int Try.underlying3
  obtain ⟨a, rfl, wa⟩ := l1.int Try.underlying3
  refine ⟨c, a, ?_, wc, wa⟩
  obtain ⟨l⟩ := cs
  match l, hl with
  | [x, y], _ => simp at e0 e1; rw [e0, e1]
namespace fdtableValidatesEndpoint
theorem walk {H : Type} {enc : TypeId × Value → H} {w : World} (cs : Array Value) (h : CellsOk enc Try.prog w 0 (fun _ => true) true [3, 3] cs.toList) (full pending : Bool) :
    Calls Try.prog 3 #[.agg cs, .bool full, .bool pending] w fun e w' => e = .returned (.bool true) ∧ Below w.heap.size w w' := by
  obtain ⟨c, a, rfl, hk⟩ := cells_key h
  exact (walk3 c a full pending w hk).mono fun e w' ⟨h1, h2⟩ => ⟨h1, h2.below (by simp) (Nat.le_refl _)⟩
end fdtableValidatesEndpoint
end Go.Proofs.Ytnglkdpmkgehoaa

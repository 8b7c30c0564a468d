/-
  Merged texts: Fx.
-/
import Derived.Test.YtiklhaajhdephaaGreatDoorIF
import Derived.Deep.Slices
import Derived.OpenShut
import Derived.WideShapes

/-
 Lemmas that the frames want besides.
-/
namespace Go.Proofs.YtiklhaajhdephaaGreatDoor
open Go.ChangeShapes Go.WideShapes Go.Deep
set_option linter.unusedVariables false
set_option linter.unusedSimpArgs false
section
variable {H : Type} {enc : TypeId × Value → H} {P : Program} {w : World} {base : Nat} {spare : Nat → Bool} {held : Bool}
theorem okWide_struct {r : Reach} {t : TypeId} {fs : Array Field} {v : Value} (ht : P.underlying t = some (.struct fs)) (h : Value.okWide P w r base t v) : ∃ cs, v = .agg cs := by
 simp only [Value.okWide, ht] at h
 obtain ⟨cs, hv, _⟩ := h
 exact ⟨cs, hv⟩
/-- A struct or an array by value. -/
theorem agg_ok {t : TypeId} {fuel d : Nat} {cs : Array Value} {x : DataW H × List MemPlace} {ts : List TypeId} (hts : flatT P d t = some ts)
  (h : DataW.trod enc P w base spare held fuel t cs.toList = some x) : CellsOk enc P w base spare held ts cs.toList := flat_ok d t _ _ _ _ hts h
end
end Go.Proofs.YtiklhaajhdephaaGreatDoor

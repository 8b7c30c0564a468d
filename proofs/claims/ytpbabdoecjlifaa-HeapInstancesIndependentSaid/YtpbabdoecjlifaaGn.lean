/-
  A slice of ints of the call's own.
-/
import Derived.Test.YtpbabdoecjlifaaHk
namespace Go.Proofs.Ytpbabdoecjlifaa
open Go.RowKit
/-- A slice of ints of the call's own, made since w0. -/
structure OwnN (w0 w : World) (v : Value) (l : List Int) : Prop where
  row : w.ownsRow 0 3 1 v l.length (l.map (Value.int .i64))
  new : ∀ g, v.ownBlock = some g → w0.heap.size ≤ g
theorem OwnN.touch {w0 w w' : World} {v : Value} {ks : List Int} {S : List Nat} (h : OwnN w0 w v ks) (t : Touch S w w') (hS : ∀ g, v.ownBlock = some g → g ∉ S) : OwnN w0 w' v ks := ⟨t.owns h.row hS, h.new⟩
end Go.Proofs.Ytpbabdoecjlifaa

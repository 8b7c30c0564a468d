/-
  A slice of due times that came in.
-/
import Derived.Test.YtpbabdoecjlifaaArg
import Derived.Test.YtpbabdoecjlifaaHk
namespace Go.Proofs.Ytpbabdoecjlifaa
open Go.ChangeShapes Go.WideShapes Go.RowKit
set_option linter.unusedVariables false
set_option linter.unusedSimpArgs false

/-- The cells of a uint64. -/
def encU (x : Int) : List Value := [.int .u64 x]
def U64 (x : Int) : Prop := (Lit.int .u64 x).wf = true
theorem u64_rows {H : Type} {enc : TypeId × Value → H} {w : World} {base : Nat} {spare : Nat → Bool} {held : Bool} {v : Value} (hv : IsSlice enc Try.prog w base spare held [29] v) : ∃ (b : Nat) (l : List Int), Rd w 1 b v (l.map encU) ∧ ∀ x ∈ l, U64 x := by
  obtain ⟨b, xs, hr, hx⟩ := slice_rows (by simp) hv
  have h : ∃ l : List Int, xs = l.map encU ∧ ∀ x ∈ l, U64 x := by
    clear hr
    induction xs with
    | nil => exact ⟨[], rfl, by simp⟩
    | cons x xs ih =>
      obtain ⟨l, rfl, hl⟩ := ih (fun y hy => hx y (List.mem_cons_of_mem _ hy))
      obtain ⟨hlen, hc⟩ := hx x List.mem_cons_self
      obtain ⟨v0, e0, l0⟩ := hc 0 29 rfl
      obtain ⟨a, rfl, wa⟩ := l0.int Try.underlying29
      refine ⟨a :: l, ?_, ?_⟩
      · match x, hlen with
        | [y], _ => simp at e0; rw [e0]; rfl
      · intro y hy
        rcases List.mem_cons.1 hy with rfl | hy
        · exact wa
        · exact hl y hy
  obtain ⟨l, rfl, hl⟩ := h
  exact ⟨b, l, hr, hl⟩
theorem rd_u64 {w : World} {b n cap : Nat} {a : Option Addr} {l : List Int} (h : Rd w 1 b (.slice a n cap) (l.map encU)) {i : Nat} {x : Int} (hi : l[i]? = some x) :
    ∃ off, a = some ⟨b, off, none⟩ ∧ w.cell? ⟨b, off + i, none⟩ = some (.int .u64 x) := by
  obtain ⟨off, ha, hat⟩ := h.at (by intro e; simp at e; subst e; simp at hi)
  have := hat i (encU x) (by simp [hi])
  have h0 := this 0 _ rfl
  rw [Nat.mul_one] at h0
  exact ⟨off, ha, h0⟩
theorem u64_lo {x : Int} (h : U64 x) : 0 ≤ x := by
  unfold U64 at h
  simp [Lit.wf] at h
  have : IntKind.u64.min = 0 := rfl
  omega
end Go.Proofs.Ytpbabdoecjlifaa

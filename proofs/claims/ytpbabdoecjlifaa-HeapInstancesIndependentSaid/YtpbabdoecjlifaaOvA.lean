/-
  The contract of Overwrite[int].
-/
import Derived.Test.YtpbabdoecjlifaaBgA
namespace Go.Proofs.Ytpbabdoecjlifaa.A
open Go.RowKit
set_option linter.unusedVariables false
set_option linter.unusedSimpArgs false

set_option maxRecDepth 100000 in
set_option maxHeartbeats 1000000 in
theorem over_any (v : Value) (xs : List Int) (w0 w : World) (hv : OwnN w0 w v xs) (hl : xs.length ≤ 1000) :
    Calls Try.prog 30 #[v] w fun e w' => e = .returned (.tuple #[]) ∧ Touch v.ownBlock.toList w w' := by
  obtain ⟨a, c, rfl, hc1, hc2, _⟩ := owns_form hv.row
  go_enter Try.func30, Try.ntmps30
  go_wp2_with fail
  go_loopw [3] (fun vi wr => ∃ (k : Nat), k ≤ xs.length ∧ vi = .int .i64 k ∧ Touch ((Value.slice a xs.length c).ownBlock).toList w wr ∧
      (∀ g, a = some ⟨g, 0, none⟩ → 0 < xs.length → ∃ cur : List Value, wr.heap[g]? = some (.cells cur.toArray 3 (0, 0)) ∧ xs.length ≤ cur.length))
    (fun vi _ => xs.length - (intOf vi).toNat)
  case atStart =>
    refine ⟨0, by omega, rfl, Touch.refl _ _, fun g hg hx => ?_⟩
    subst hg
    rcases hv.row.2 with ⟨h1, _⟩ | ⟨g', cap, cur, h1, _, h2, h3, h4, h5, h6⟩
    · simp at h1
    · simp at h1
      obtain ⟨rfl, rfl⟩ := h1
      have hgl := ((hv.row.lt g rfl).2)
      refine ⟨cur.toList, by rw [h2], by simp [h5]; omega⟩
  case round =>
    obtain ⟨k, hk, rfl, ht, hcur⟩ := hrel
    by_cases hlt : k < xs.length
    · obtain ⟨a', c', h1, _, _, h3⟩ := owns_form hv.row
      simp only [Value.slice.injEq] at h1
      obtain ⟨rfl, _, rfl⟩ := h1
      obtain ⟨g, rfl⟩ := h3 (by omega)
      obtain ⟨cur, hg, hcl⟩ := hcur g rfl (by omega)
      have hgw := (hv.row.lt g rfl).2
      clear hcur h3
      have hbd : k + 1 ≤ cur.length := by omega
      have c0 : wr.cell? ⟨g, k, none⟩ = some cur[k] := cellAt hg (by simp)
      have f0 : wr.frozen? ⟨g, k, none⟩ = false := by simp [World.frozen?, hg]
      have HG := Lib.hid hg
      have HT := Lib.hid ht
      have hwk : IntKind.i64.wrap ((k : Int) + 1) = (k : Int) + 1 := by rw [IntKind.wrap_i64] <;> omega
      clear hg ht
      go_wp2_with fail
      go_roundw
      case rel =>
        refine ⟨k + 1, by omega, by simp, HT.out.setCell (.inl (by simp [Value.ownBlock])) _, fun g' hg' _ => ?_⟩
        cases hg'
        refine ⟨cur.set k (.int .i64 0), ?_, by simpa using hcl⟩
        simp [World.setCell, Array.getElem?_modify, HG.out]
      case measure => simp [intOf]; omega
    · go_wp2_with fail
      go_end0
      exact ⟨rfl, ht⟩

end Go.Proofs.Ytpbabdoecjlifaa.A

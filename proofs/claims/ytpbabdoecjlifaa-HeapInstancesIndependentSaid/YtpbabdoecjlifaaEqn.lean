/-
  The contract of Equal at slices of ints: true at equal lists.
-/
import Derived.Test.YtpbabdoecjlifaaGn
import Derived.Test.YtpbabdoecjlifaaRecS
import Derived.Sort.WalkA
namespace Go.Proofs.Ytpbabdoecjlifaa
open Go.RowKit Go.Sort
set_option linter.unusedVariables false
set_option linter.unusedSimpArgs false

def enc1 (x : Int) : List Value := [.int .i64 x]
theorem enc1_one (l : List Int) : ∀ x ∈ l.map enc1, x.length = 1 := by
  intro x hx
  obtain ⟨_, _, rfl⟩ := List.mem_map.1 hx
  rfl
theorem enc1_flat (l : List Int) : (l.map enc1).flatten = l.map (Value.int .i64) := by
  induction l with
  | nil => rfl
  | cons a r ih => simp [enc1, ih]
theorem OwnN.rd {w0 w : World} {v : Value} {l : List Int} (h : OwnN w0 w v l) : ∃ b, Rd w 1 b v (l.map enc1) := by
  refine ⟨v.ownBlock.getD 0, Rd.of_owns (T := 3) (enc1_one l) (by rw [enc1_flat]; simpa using h.row) (fun b hb => by simp [hb])⟩
theorem rd_int {w : World} {b n cap : Nat} {a : Option Addr} {l : List Int} (h : Rd w 1 b (.slice a n cap) (l.map enc1)) {i : Nat} {x : Int} (hi : l[i]? = some x) :
    ∃ off, a = some ⟨b, off, none⟩ ∧ w.cell? ⟨b, off + i, none⟩ = some (.int .i64 x) := by
  obtain ⟨off, ha, hat⟩ := h.at (by intro e; simp at e; subst e; simp at hi)
  have := hat i (enc1 x) (by simp [hi])
  have h0 := this 0 _ rfl
  rw [Nat.mul_one] at h0
  exact ⟨off, ha, h0⟩
theorem eq46 (x y : Int) (w : World) : Calls Try.prog 46 #[.int .i64 x, .int .i64 y] w fun e w' => e = .returned (.bool (decide (x = y))) ∧ w = w' := by
  go_enter Try.func46, Try.ntmps46
  go_wp2_with fail
  go_ret
  exact ⟨by congr 1, rfl⟩
set_option maxRecDepth 100000 in
set_option maxHeartbeats 1000000 in
theorem equal_self (v1 v2 : Value) (b1 b2 : Nat) (ks : List Int) (w : World) (hl : ks.length ≤ 1000) (h1 : Rd w 1 b1 v1 (ks.map enc1)) (h2 : Rd w 1 b2 v2 (ks.map enc1)) :
    Calls Try.prog 22 #[v1, v2] w fun e w' => e = .returned (.bool true) ∧ Touch [] w w' := by
  obtain ⟨a1, c1, rfl, hc1, hm1⟩ := h1.form
  obtain ⟨a2, c2, rfl, hc2, hm2⟩ := h2.form
  rw [List.length_map] at hc1 hc2 h1 h2 ⊢
  go_enter Try.func22, Try.ntmps22
  go_wp2_with fail
  go_enter Try.func45, Try.ntmps45
  go_wp2_with fail
  go_loopw [7] (fun vi wr => ∃ (i : Nat), i ≤ ks.length ∧ vi = .int .i64 i ∧ Touch [] w wr) (fun vi _ => ks.length - (intOf vi).toNat)
  case atStart => exact ⟨0, by omega, rfl, Touch.refl _ _⟩
  case round =>
    obtain ⟨i, hix, rfl, ht⟩ := hrel
    by_cases hlt : i < ks.length
    · have hx : ks[i]? = some ks[i] := List.getElem?_eq_getElem hlt
      generalize ks[i] = k at hx
      obtain ⟨o1, rfl, p1⟩ := rd_int (h1.touch ht (by simp)) hx
      obtain ⟨o2, rfl, p2⟩ := rd_int (h2.touch ht (by simp)) hx
      have hwi : IntKind.i64.wrap ((i : Int) + 1) = (i : Int) + 1 := by rw [IntKind.wrap_i64] <;> omega
      clear hx
      go_wp2_with fail
      refine wp_region_still_tail 9 (by kernel_rfl) (by kernel_rfl) ?_
      simp only [List.take_succ_cons, List.take_zero, List.drop_succ_cons, List.drop_zero]
      iterate 9 still_step
      refine wpStill_nil ?_
      change wpList _ _ _ _ _ wr.drew
      clear p1 p2
      go_wp2_with fail
      refine (eq46 k k _).mono ?_
      rintro e w2 ⟨rfl, rfl⟩
      have ht2 : Touch [] w wr.drew := ht.drew
      simp only [decide_true]
      go_wp2_with fail
      go_roundw
      case rel => exact ⟨i + 1, by omega, by go_num, ht2⟩
      case measure => simp [intOf]; omega
    · go_wp2_with fail
      go_ret
      exact ⟨rfl, ht⟩
end Go.Proofs.Ytpbabdoecjlifaa

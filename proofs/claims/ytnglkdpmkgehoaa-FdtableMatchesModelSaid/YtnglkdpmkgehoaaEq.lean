/-
  The contract of Equal at slices of endpoints: true at equal lists.
-/
import Derived.Test.YtnglkdpmkgehoaaEs
import Derived.Test.YtnglkdpmkgehoaaW3
import Derived.Test.YtnglkdpmkgehoaaRec3
namespace Go.Proofs.Ytnglkdpmkgehoaa
open Go.RowKit Go.Deep
set_option linter.unusedVariables false
set_option linter.unusedSimpArgs false

theorem encL_two (ks : List Key) : ∀ x ∈ ks.map encL, x.length = 2 := by
  intro x hx
  obtain ⟨_, _, rfl⟩ := List.mem_map.1 hx
  rfl
theorem OwnK.rd {w0 w : World} {v : Value} {ks : List Key} (h : OwnK w0 w v ks) : ∃ b, Rd w 2 b v (ks.map encL) := by
  refine ⟨v.ownBlock.getD 0, Rd.of_owns (T := 23) (encL_two ks) (by simpa using h.row) (fun b hb => by simp [hb])⟩
theorem rd_key {w : World} {b n cap : Nat} {a : Option Addr} {ks : List Key} (h : Rd w 2 b (.slice a n cap) (ks.map encL)) {i : Nat} {k : Key} (hi : ks[i]? = some k) :
    ∃ off, a = some ⟨b, off, none⟩ ∧ w.cell? ⟨b, off + i * 2, none⟩ = some (.int .i64 k.1) ∧ w.cell? ⟨b, off + i * 2 + 1, none⟩ = some (.int .i64 k.2) := by
  obtain ⟨off, ha, hat⟩ := h.at (by intro e; simp at e; subst e; simp at hi)
  have := hat i (encL k) (by simp [hi])
  exact ⟨off, ha, this 0 _ rfl, this 1 _ rfl⟩
set_option maxRecDepth 100000 in
set_option maxHeartbeats 1000000 in
theorem eq47 (c a : Int) (w : World) (h : okK (c, a)) : Calls Try.prog 47 #[.agg #[.int .i64 c, .int .i64 a], .agg #[.int .i64 c, .int .i64 a]] w fun e w' => e = .returned (.bool true) ∧ Touch [] w w' := by
  have heq : ∀ w, (Op.equalIn 10000 23 (.agg #[.int .i64 c, .int .i64 a]) (.agg #[.int .i64 c, .int .i64 a])).run Try.prog w = .ok true w := fun w => by have := eq23 c a c a h h w; simpa using this
  clear h
  go_enter Try.func47, Try.ntmps47
  go_wp2_with (refine wpList_eql_agg rfl 23 _ _ _ rfl #[.int .i64 c, .int .i64 a] #[.int .i64 c, .int .i64 a] rfl rfl (by kernel_rfl) true (heq _) ?_)
  go_ret
  exact ⟨rfl, ((Touch.refl [] w).alloc _).alloc _⟩
set_option maxRecDepth 100000 in
set_option maxHeartbeats 1000000 in
theorem equal_self (v1 v2 : Value) (b1 b2 : Nat) (ks : List Key) (w : World) (hl : ks.length ≤ 1000) (h1 : Rd w 2 b1 v1 (ks.map encL)) (h2 : Rd w 2 b2 v2 (ks.map encL)) (hks : ∀ k ∈ ks, okK k) :
    Calls Try.prog 26 #[v1, v2] w fun e w' => e = .returned (.bool true) ∧ Touch [] w w' := by
  obtain ⟨a1, c1, rfl, hc1, hm1⟩ := h1.form
  obtain ⟨a2, c2, rfl, hc2, hm2⟩ := h2.form
  rw [List.length_map] at hc1 hc2 h1 h2 ⊢
  go_enter Try.func26, Try.ntmps26
  go_wp2_with fail
  go_enter Try.func46, Try.ntmps46
  go_wp2_with fail
  go_loopw [7] (fun vi wr => ∃ (i : Nat), i ≤ ks.length ∧ vi = .int .i64 i ∧ Touch [] w wr) (fun vi _ => ks.length - (intOf vi).toNat)
  case atStart => exact ⟨0, by omega, rfl, Touch.refl _ _⟩
  case round =>
    obtain ⟨i, hix, rfl, ht⟩ := hrel
    by_cases hlt : i < ks.length
    · have hx : ks[i]? = some ks[i] := List.getElem?_eq_getElem hlt
      have hok := hks _ (List.getElem_mem hlt)
      generalize ks[i] = k at hx hok
      obtain ⟨kc, ka⟩ := k
      obtain ⟨o1, rfl, p1, p2⟩ := rd_key (h1.touch ht (by simp)) hx
      obtain ⟨o2, rfl, p3, p4⟩ := rd_key (h2.touch ht (by simp)) hx
      clear hx
      go_wp2_with fail
      refine wp_region_still_tail 9 (by kernel_rfl) (by kernel_rfl) ?_
      simp only [List.take_succ_cons, List.take_zero, List.drop_succ_cons, List.drop_zero]
      iterate 9 still_step
      refine wpStill_nil ?_
      change wpList _ _ _ _ _ wr.drew
      clear p1 p2 p3 p4
      go_wp2_with fail
      refine (eq47 kc ka _ hok).mono ?_
      rintro e w2 ⟨rfl, t2⟩
      have ht2 : Touch [] w w2 := ht.drew.trans t2 (by simp)
      go_wp2_with fail
      go_roundw
      case rel => exact ⟨i + 1, by omega, by go_num, ht2⟩
      case measure => simp [intOf]; omega
    · go_wp2_with fail
      go_ret
      exact ⟨rfl, ht⟩
end Go.Proofs.Ytnglkdpmkgehoaa

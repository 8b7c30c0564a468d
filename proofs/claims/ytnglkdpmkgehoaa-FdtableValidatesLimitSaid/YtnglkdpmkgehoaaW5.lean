/-
  The walk of FdtableValidatesLimit: true at every limit. No condition.
-/
import Derived.Test.YtnglkdpmkgehoaaEs
namespace Go.Proofs.Ytnglkdpmkgehoaa
open Go.RowKit
set_option linter.unusedVariables false
set_option linter.unusedSimpArgs false

set_option maxRecDepth 100000 in
set_option maxHeartbeats 2000000 in
theorem walk5 (n : Int) (w : World) : Calls Try.prog 5 #[.int .i64 n] w fun e w' => e = .returned (.bool true) ∧ Touch [] w w' := by
  by_cases h1 : 1 ≤ n
  · by_cases h2 : n ≤ 256
    · obtain ⟨k, hk⟩ := Int.eq_ofNat_of_zero_le (show 0 ≤ n by omega)
      have l1 : 1 ≤ k := by omega
      have l2 : k ≤ 256 := by omega
      have HK := Lib.hid hk
      clear hk
      go_enter Try.func5, Try.ntmps5
      go_wp2_with fail
      refine (new_ex n k _ HK.out l1 l2).mono ?_
      rintro _ w1 ⟨t, m, u, rfl, T1, ⟨zt, zm, zu⟩, t1⟩
      go_wp2_with fail
      refine (awake_ok _).mono ?_
      rintro _ w2 ⟨rfl, t2⟩
      have T2 := T1.touch t2 (by simp)
      have U2 := t1.trans t2 (by simp)
      clear T1 t1 t2
      go_wp2_with fail
      refine (free_any t m u _ _ _ _ T2).mono ?_
      rintro e w3 ⟨he, t3⟩
      obtain rfl : e = .returned (.int .i64 n) := by rw [he, HK.out]; simp
      have T3 := T2.touch t3 (by simp)
      have U3 := U2.trans t3 (by simp)
      clear T2 U2 t3
      go_wp2_with fail
      refine (len_any t m u _ _ _ _ T3).mono ?_
      rintro e w3' ⟨he, rfl⟩
      obtain rfl : e = .returned (.int .i64 0) := he
      go_wp2_with fail
      refine (total_any t m u _ _ _ _ T3).mono ?_
      rintro e w3' ⟨he, rfl⟩
      obtain rfl : e = .returned (.int .i64 0) := he
      go_wp2_with fail
      refine (endpoints_any t m u _ _ _ _ T3).mono ?_
      rintro e w4 ⟨v, rfl, ho, t4⟩
      have hs : sortK (([] : List Fd).map (·.key)) = [] := by simp [sortK]
      rw [hs] at ho
      obtain ⟨a, c, rfl, _⟩ := owns_form ho.row
      go_wp2_with fail
      go_ret
      exact ⟨rfl, U3.trans t4 (by simp)⟩
    · go_enter Try.func5, Try.ntmps5
      go_wp2_with fail
      refine (new_bad n _ (.inr (by omega))).mono ?_
      rintro _ w1 ⟨rfl, rfl⟩
      go_wp2_with fail
      refine (awake_ok _).mono ?_
      rintro _ w2 ⟨rfl, t2⟩
      go_wp2_with fail
      go_ret
      exact ⟨rfl, t2⟩
  · go_enter Try.func5, Try.ntmps5
    go_wp2_with fail
    refine (new_bad n _ (.inl (by omega))).mono ?_
    rintro _ w1 ⟨rfl, rfl⟩
    go_wp2_with fail
    refine (awake_ok _).mono ?_
    rintro _ w2 ⟨rfl, t2⟩
    go_wp2_with fail
    go_ret
    exact ⟨rfl, t2⟩
namespace fdtableValidatesLimit
theorem walk {H : Type} {enc : TypeId × Value → H} {w : World} (n : Int) (hn : (Lit.int .i64 n).wf = true) :
    Calls Try.prog 5 #[.int .i64 n] w fun e w' => e = .returned (.bool true) ∧ Below w.heap.size w w' :=
  (walk5 n w).mono fun e w' ⟨h1, h2⟩ => ⟨h1, h2.below (by simp) (Nat.le_refl _)⟩
end fdtableValidatesLimit
end Go.Proofs.Ytnglkdpmkgehoaa

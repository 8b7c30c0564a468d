/-
  cmp.Compare at int and uint64, cmp.Or at two ints.
-/
import Derived.Test.YtpbabdoecjlifaaSt
namespace Go.Proofs.Ytpbabdoecjlifaa
open Go.RowKit
set_option linter.unusedVariables false
set_option linter.unusedSimpArgs false

def cmpI (x y : Int) : Int := if x < y then -1 else if y < x then 1 else 0
def cmpT (p q : Key) : Int := if cmpI p.due q.due = 0 then cmpI p.id q.id else cmpI p.due q.due
theorem cmpT_lt (p q : Key) : cmpT p q < 0 ↔ lt p q := by
  unfold cmpT cmpI lt
  repeat' split
  all_goals omega
theorem cmpT_le (p q : Key) : cmpT p q ≤ 0 ↔ le p q := by
  unfold cmpT cmpI le
  repeat' split
  all_goals omega
theorem once {P G : Prop} (f : Hid P → G) (p : P) : G := f (Lib.hid p)
theorem nan_U (x : Int) (w : World) : Calls Try.prog 90 #[.int .u64 x] w fun e w' => e = .returned (.bool false) ∧ w = w' := by
  go_enter Try.func90, Try.ntmps90
  go_wp2_with fail
  go_ret
  exact ⟨rfl, rfl⟩
theorem compare_U (x y : Int) (w : World) : Calls Try.prog 70 #[.int .u64 x, .int .u64 y] w fun e w' => e = .returned (.int .i64 (cmpI x y)) ∧ w = w' := by
  by_cases h1 : x < y
  · have e : cmpI x y = -1 := by simp [cmpI, h1]
    rw [e]
    go_enter Try.func70, Try.ntmps70
    go_wp2_with fail
    refine (nan_U x _).mono ?_
    rintro e w' ⟨rfl, rfl⟩
    go_wp2_with fail
    refine (nan_U y _).mono ?_
    rintro e w' ⟨rfl, rfl⟩
    go_wp2_with fail
    go_ret
    exact ⟨rfl, rfl⟩
  by_cases h2 : y < x
  · have e : cmpI x y = 1 := by simp [cmpI, h1, h2]
    rw [e]
    go_enter Try.func70, Try.ntmps70
    go_wp2_with fail
    refine (nan_U x _).mono ?_
    rintro e w' ⟨rfl, rfl⟩
    go_wp2_with fail
    refine (nan_U y _).mono ?_
    rintro e w' ⟨rfl, rfl⟩
    go_wp2_with fail
    go_ret
    exact ⟨rfl, rfl⟩
  · have e : cmpI x y = 0 := by simp [cmpI, h1, h2]
    rw [e]
    go_enter Try.func70, Try.ntmps70
    go_wp2_with fail
    refine (nan_U x _).mono ?_
    rintro e w' ⟨rfl, rfl⟩
    go_wp2_with fail
    refine (nan_U y _).mono ?_
    rintro e w' ⟨rfl, rfl⟩
    go_wp2_with fail
    go_ret
    exact ⟨rfl, rfl⟩
theorem nan_I (x : Int) (w : World) : Calls Try.prog 91 #[.int .i64 x] w fun e w' => e = .returned (.bool false) ∧ w = w' := by
  go_enter Try.func91, Try.ntmps91
  go_wp2_with fail
  go_ret
  exact ⟨rfl, rfl⟩
theorem compare_I (x y : Int) (w : World) : Calls Try.prog 71 #[.int .i64 x, .int .i64 y] w fun e w' => e = .returned (.int .i64 (cmpI x y)) ∧ w = w' := by
  by_cases h1 : x < y
  · have e : cmpI x y = -1 := by simp [cmpI, h1]
    rw [e]
    go_enter Try.func71, Try.ntmps71
    go_wp2_with fail
    refine (nan_I x _).mono ?_
    rintro e w' ⟨rfl, rfl⟩
    go_wp2_with fail
    refine (nan_I y _).mono ?_
    rintro e w' ⟨rfl, rfl⟩
    go_wp2_with fail
    go_ret
    exact ⟨rfl, rfl⟩
  by_cases h2 : y < x
  · have e : cmpI x y = 1 := by simp [cmpI, h1, h2]
    rw [e]
    go_enter Try.func71, Try.ntmps71
    go_wp2_with fail
    refine (nan_I x _).mono ?_
    rintro e w' ⟨rfl, rfl⟩
    go_wp2_with fail
    refine (nan_I y _).mono ?_
    rintro e w' ⟨rfl, rfl⟩
    go_wp2_with fail
    go_ret
    exact ⟨rfl, rfl⟩
  · have e : cmpI x y = 0 := by simp [cmpI, h1, h2]
    rw [e]
    go_enter Try.func71, Try.ntmps71
    go_wp2_with fail
    refine (nan_I x _).mono ?_
    rintro e w' ⟨rfl, rfl⟩
    go_wp2_with fail
    refine (nan_I y _).mono ?_
    rintro e w' ⟨rfl, rfl⟩
    go_wp2_with fail
    go_ret
    exact ⟨rfl, rfl⟩
theorem cells_two {w : World} {B : Nat} {x y : Value} {T : TypeId} (h : w.heap[B]? = some (.cells #[x, y] T (0, 0))) : w.cell? ⟨B, 0, none⟩ = some x ∧ w.cell? ⟨B, 1, none⟩ = some y := by
  simp [World.cell?, h]
/-- cmp.Or of two. -/
theorem or_two (b : Nat) (x y : Int) (w : World) (h : w.heap[b]? = some (.cells #[.int .i64 x, .int .i64 y] 3 (0, 0))) :
    Calls Try.prog 69 #[.slice (some ⟨b, 0, none⟩) 2 2] w fun e w' => e = .returned (.int .i64 (if x = 0 then y else x)) ∧ w = w' := by
  obtain ⟨c0, c1⟩ := cells_two h
  clear h
  by_cases hx : x = 0
  · subst hx
    rw [if_pos rfl]
    by_cases hy : y = 0
    · subst hy
      go_enter Try.func69, Try.ntmps69
      go_wp2_with fail
      refine wp_loop_rounds 3 ?_
      rw [rounds_succ]
      go_wp2_with fail
      rw [rounds_succ]
      go_wp2_with fail
      rw [rounds_succ]
      go_wp2_with fail
      go_ret
      exact ⟨rfl, rfl⟩
    · have hb : (y == 0) = false := by simpa using hy
      have hb2 : (y != 0) = true := by simpa using hy
      go_enter Try.func69, Try.ntmps69
      go_wp2_with fail
      refine wp_loop_rounds 3 ?_
      rw [rounds_succ]
      go_wp2_with fail
      rw [rounds_succ]
      go_wp2_with fail
      go_ret
      exact ⟨rfl, rfl⟩
  · rw [if_neg hx]
    have hb : (x == 0) = false := by simpa using hx
    have hb2 : (x != 0) = true := by simpa using hx
    go_enter Try.func69, Try.ntmps69
    go_wp2_with fail
    refine wp_loop_rounds 3 ?_
    rw [rounds_succ]
    go_wp2_with fail
    go_ret
    exact ⟨rfl, rfl⟩

end Go.Proofs.Ytpbabdoecjlifaa

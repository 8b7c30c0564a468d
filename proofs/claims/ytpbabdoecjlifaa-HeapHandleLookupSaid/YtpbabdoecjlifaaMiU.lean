/-
  The contracts of New, Len, At, Min.
-/
import Derived.Test.YtpbabdoecjlifaaPuU
namespace Go.Proofs.Ytpbabdoecjlifaa.U
open Go.RowKit
set_option linter.unusedVariables false
set_option linter.unusedSimpArgs false

theorem results_tmp4 {fn : Func} {t u v x : Tmp} (h : fn.results = #[.tmp t, .tmp u, .tmp v, .tmp x]) (tmps : Array Value) (P : Program) (w : World) :
    (results fn tmps).run P w = .ok (.tuple #[tmps.getD t undef, tmps.getD u undef, tmps.getD v undef, tmps.getD x undef]) w := by
  simp [results, h]
theorem Hp.fresh (w : World) : HB ((w.alloc (.map #[] 0)).alloc (.cells #[.slice none 0 0, .map (some w.heap.size), .int .i64 0] 107)) (w.heap.size + 1) w.heap.size (.slice none 0 0) [] [] 0 := by
  have t := (Touch.refl [] (w.alloc (.map #[] 0))).alloc (.cells #[.slice none 0 0, .map (some w.heap.size), .int .i64 0] 107)
  have z1 : (w.alloc (.map #[] 0)).heap.size = w.heap.size + 1 := by simp
  refine ⟨⟨?_, World.ownsRow_nil _ _ _ _, (Mp.made w).touch t (by simp), by simp, by simp, by omega, by simp [Value.ownBlock], by simp⟩, by simp, ⟨by simp, by intro id _; rfl⟩, ?_, by simp, by omega, by omega⟩
  · have := heap_alloc_new (w.alloc (.map #[] 0)) (.cells #[.slice none 0 0, .map (some w.heap.size), .int .i64 0] 107)
    rw [z1] at this
    exact this
  · intro b hb u v hu
    simp at hu
set_option maxRecDepth 100000 in
set_option maxHeartbeats 1000000 in
theorem new_any (w : World) : Calls Try.prog 37 #[] w fun e w' => ∃ (h m : Nat) (v : Value), e = .returned (.pointer (some ⟨h, 0, none⟩)) ∧ HB w' h m v [] [] 0 ∧ (∀ y ∈ Hp.foot h m v, w.heap.size ≤ y) ∧ Touch [] w w' := by
  have H := Lib.hid (Hp.fresh w)
  have T := Lib.hid (((Touch.refl [] w).alloc (.map #[] 0)).alloc (.cells #[.slice none 0 0, .map (some w.heap.size), .int .i64 0] 107))
  have hmm := @run_makeMap Try.prog
  have hu72 := Try.underlying72
  go_enter Try.func37, Try.ntmps37
  go_wp2_with fail
  go_ret
  exact ⟨_, _, _, rfl, H.out, by intro y hy; simp [Hp.foot, Value.ownBlock] at hy; omega, T.out⟩
section
variable (h m : Nat) (v : Value) (its : List Itm) (kv : List (Int × Value)) (last : Int) (w : World) (k : HB w h m v its kv last)
include k
end
end Go.Proofs.Ytpbabdoecjlifaa.U

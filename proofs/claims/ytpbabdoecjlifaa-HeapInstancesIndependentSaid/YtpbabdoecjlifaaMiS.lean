/-
  The contracts of New, Len, At, Min.
-/
import Derived.Test.YtpbabdoecjlifaaPuS
namespace Go.Proofs.Ytpbabdoecjlifaa.S
open Go.RowKit
set_option linter.unusedVariables false
set_option linter.unusedSimpArgs false

theorem results_tmp4 {fn : Func} {t u v x : Tmp} (h : fn.results = #[.tmp t, .tmp u, .tmp v, .tmp x]) (tmps : Array Value) (P : Program) (w : World) :
    (results fn tmps).run P w = .ok (.tuple #[tmps.getD t undef, tmps.getD u undef, tmps.getD v undef, tmps.getD x undef]) w := by
  simp [results, h]
theorem Hp.fresh (w : World) : HB ((w.alloc (.map #[] 0)).alloc (.cells #[.slice none 0 0, .map (some w.heap.size), .int .i64 0] 93)) (w.heap.size + 1) w.heap.size (.slice none 0 0) [] [] 0 := by
  have t := (Touch.refl [] (w.alloc (.map #[] 0))).alloc (.cells #[.slice none 0 0, .map (some w.heap.size), .int .i64 0] 93)
  have z1 : (w.alloc (.map #[] 0)).heap.size = w.heap.size + 1 := by simp
  refine ⟨⟨?_, World.ownsRow_nil _ _ _ _, (Mp.made w).touch t (by simp), by simp, by simp, by omega, by simp [Value.ownBlock], by simp⟩, by simp, ⟨by simp, by intro id _; rfl⟩, ?_, by simp, by omega, by omega⟩
  · have := heap_alloc_new (w.alloc (.map #[] 0)) (.cells #[.slice none 0 0, .map (some w.heap.size), .int .i64 0] 93)
    rw [z1] at this
    exact this
  · intro b hb u v hu
    simp at hu
set_option maxRecDepth 100000 in
set_option maxHeartbeats 1000000 in
theorem new_any (w : World) : Calls Try.prog 27 #[] w fun e w' => ∃ (h m : Nat) (v : Value), e = .returned (.pointer (some ⟨h, 0, none⟩)) ∧ HB w' h m v [] [] 0 ∧ (∀ y ∈ Hp.foot h m v, w.heap.size ≤ y) ∧ Touch [] w w' := by
  have H := Lib.hid (Hp.fresh w)
  have T := Lib.hid (((Touch.refl [] w).alloc (.map #[] 0)).alloc (.cells #[.slice none 0 0, .map (some w.heap.size), .int .i64 0] 93))
  have hmm := @run_makeMap Try.prog
  have hu72 := Try.underlying72
  go_enter Try.func27, Try.ntmps27
  go_wp2_with fail
  go_ret
  exact ⟨_, _, _, rfl, H.out, by intro y hy; simp [Hp.foot, Value.ownBlock] at hy; omega, T.out⟩
section
variable (h m : Nat) (v : Value) (its : List Itm) (kv : List (Int × Value)) (last : Int) (w : World) (k : HB w h m v its kv last)
include k
set_option maxRecDepth 100000 in
set_option maxHeartbeats 1000000 in
theorem len_any : Calls Try.prog 34 #[.pointer (some ⟨h, 0, none⟩)] w fun e w' => e = .returned (.int .i64 its.length) ∧ w = w' := by
  obtain ⟨av, cv, rfl, hv1, hv2, hv3⟩ := k.hp.form
  obtain ⟨c0, c1, c2⟩ := k.hp.cells
  clear hv3 k
  go_enter Try.func34, Try.ntmps34
  go_wp2_with fail
  go_ret
  exact ⟨rfl, rfl⟩
set_option maxRecDepth 100000 in
set_option maxHeartbeats 1000000 in
theorem min_some (x : Itm) (hx : its[0]? = some x) : Calls Try.prog 51 #[.pointer (some ⟨h, 0, none⟩)] w fun e w' => e = .returned (.tuple #[.int .i64 x.id, .int .u64 x.due, x.x, .bool true]) ∧ Touch [] w w' := by
  have hil := (List.getElem?_eq_some_iff.1 hx).1
  obtain ⟨av, cv, rfl, hv1, hv2, hv3⟩ := k.hp.form
  obtain ⟨g, rfl, hgh, hgm⟩ := hv3 (by omega)
  obtain ⟨c0, c1, c2⟩ := k.hp.cells
  obtain ⟨e0, e1, e2⟩ := k.hp.elem hx
  simp only [Nat.zero_mul, Nat.zero_add] at e0 e1 e2
  have h1x := k.hp.one x (List.mem_of_getElem? hx)
  have q1 : ¬ (its.length : Int) = 0 := by omega
  have q2 : ¬ its.length = 0 := by omega
  have q3 : (0 : Int) < (its.length : Int) := by omega
  have tB := (Touch.refl [] w).alloc (.cells #[.int .i64 x.id, .int .u64 x.due, x.x] 97)
  obtain ⟨b0, b1, b2⟩ := cells_three (heap_alloc_new w (.cells #[.int .i64 x.id, .int .u64 x.due, x.x] 97))
  clear hv3 k hx
  go_enter Try.func51, Try.ntmps51
  go_wp2_with (refine wpList_store_new rfl 97 _ _ rfl _ _ [.int .i64 x.id, .int .u64 x.due, x.x] (by rfl) (by rfl) rfl infoE (by intro u hu; simp at hu; rcases hu with rfl | rfl | rfl; rfl; rfl; exact h1x) ?_)
  simp only [Act.put]
  generalize w.alloc (.cells #[.int .i64 x.id, .int .u64 x.due, x.x] 97) = W at *
  clear c0 c1 c2 e0 e1 e2
  go_quiet (fail)
  have T := tB.drews nq
  clear tB
  go_wp2_with fail
  (try simp only [Exit.inBlock, Exit.then]); refine bodyPost_ret (results_tmp4 rfl _ _ _) rfl ?_
  exact ⟨rfl, T⟩
end
end Go.Proofs.Ytpbabdoecjlifaa.S

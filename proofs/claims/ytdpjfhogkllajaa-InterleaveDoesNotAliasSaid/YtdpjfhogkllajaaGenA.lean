/-
  The fourteen cases of the address maker Addr: an IPv4 address at 0 to 5, an IPv6 address at 6 to 13.
-/
import Derived.Test.YtdpjfhogkllajaaGen
import Derived.Lib.Hide
namespace Go.Proofs.Ytdpjfhogkllajaa
open Go.RowKit
set_option linter.unusedVariables false
set_option linter.unusedSimpArgs false

set_option maxRecDepth 100000 in
set_option maxHeartbeats 1000000 in
theorem addr_0 (n : Int) (w : World) (hk : gmod n 14 = 0) :
    Calls Try.prog 19 #[.int .i64 n] w fun e w' => ∃ xs : List Int, (xs.length = 16 ∧ ∀ x ∈ xs, 0 ≤ x ∧ x ≤ 255) ∧ e = .returned (.agg (adr false xs).toArray) ∧ Touch [] w w' := by
  have HK := Lib.hid hk
  clear hk
  go_enter Try.func19, Try.ntmps19
  go_wp2_with fail
  refine (mod_any _ _ _ (by omega) (by omega)).mono ?_
  rintro e w' ⟨rfl, rfl⟩
  rw [HK.out]

  go_wp2_with fail
  refine (v4_any _ _ _ _ _).mono ?_
  rintro e w1 ⟨rfl, t1⟩
  have hg := t1.at (heap_alloc_new w _) (by simp)
  go_wp2_with (refine wpList_store_into rfl 31 _ _ rfl w.heap.size 31 _ (adr false _) rfl rfl hg rfl size31 (adr_one _ _) ?_)
  intro w2 hg2 t2 _
  go_wp2_with fail
  refine ret_adr rfl (cs := adr false _) rfl rfl hg2 ⟨_, ⟨rfl, by simp⟩, rfl, ?_⟩
  exact Touch.trans ((Touch.refl [] w).alloc _) (Touch.trans (t1.mono (S' := [w.heap.size]) (by simp)) t2 (by simp)) (by simp)

set_option maxRecDepth 100000 in
set_option maxHeartbeats 1000000 in
theorem addr_1 (n : Int) (w : World) (hk : gmod n 14 = 1) :
    Calls Try.prog 19 #[.int .i64 n] w fun e w' => ∃ xs : List Int, (xs.length = 16 ∧ ∀ x ∈ xs, 0 ≤ x ∧ x ≤ 255) ∧ e = .returned (.agg (adr false xs).toArray) ∧ Touch [] w w' := by
  have HK := Lib.hid hk
  clear hk
  go_enter Try.func19, Try.ntmps19
  go_wp2_with fail
  refine (mod_any _ _ _ (by omega) (by omega)).mono ?_
  rintro e w' ⟨rfl, rfl⟩
  rw [HK.out]

  go_wp2_with fail
  refine (v4_any _ _ _ _ _).mono ?_
  rintro e w1 ⟨rfl, t1⟩
  have hg := t1.at (heap_alloc_new w _) (by simp)
  go_wp2_with (refine wpList_store_into rfl 31 _ _ rfl w.heap.size 31 _ (adr false _) rfl rfl hg rfl size31 (adr_one _ _) ?_)
  intro w2 hg2 t2 _
  go_wp2_with fail
  refine ret_adr rfl (cs := adr false _) rfl rfl hg2 ⟨_, ⟨rfl, by simp⟩, rfl, ?_⟩
  exact Touch.trans ((Touch.refl [] w).alloc _) (Touch.trans (t1.mono (S' := [w.heap.size]) (by simp)) t2 (by simp)) (by simp)

set_option maxRecDepth 100000 in
set_option maxHeartbeats 1000000 in
theorem addr_2 (n : Int) (w : World) (hk : gmod n 14 = 2) :
    Calls Try.prog 19 #[.int .i64 n] w fun e w' => ∃ xs : List Int, (xs.length = 16 ∧ ∀ x ∈ xs, 0 ≤ x ∧ x ≤ 255) ∧ e = .returned (.agg (adr false xs).toArray) ∧ Touch [] w w' := by
  have HK := Lib.hid hk
  clear hk
  go_enter Try.func19, Try.ntmps19
  go_wp2_with fail
  refine (mod_any _ _ _ (by omega) (by omega)).mono ?_
  rintro e w' ⟨rfl, rfl⟩
  rw [HK.out]

  go_wp2_with fail
  refine (v4_any _ _ _ _ _).mono ?_
  rintro e w1 ⟨rfl, t1⟩
  have hg := t1.at (heap_alloc_new w _) (by simp)
  go_wp2_with (refine wpList_store_into rfl 31 _ _ rfl w.heap.size 31 _ (adr false _) rfl rfl hg rfl size31 (adr_one _ _) ?_)
  intro w2 hg2 t2 _
  go_wp2_with fail
  refine ret_adr rfl (cs := adr false _) rfl rfl hg2 ⟨_, ⟨rfl, by simp⟩, rfl, ?_⟩
  exact Touch.trans ((Touch.refl [] w).alloc _) (Touch.trans (t1.mono (S' := [w.heap.size]) (by simp)) t2 (by simp)) (by simp)

set_option maxRecDepth 100000 in
set_option maxHeartbeats 1000000 in
theorem addr_3 (n : Int) (w : World) (hk : gmod n 14 = 3) :
    Calls Try.prog 19 #[.int .i64 n] w fun e w' => ∃ xs : List Int, (xs.length = 16 ∧ ∀ x ∈ xs, 0 ≤ x ∧ x ≤ 255) ∧ e = .returned (.agg (adr false xs).toArray) ∧ Touch [] w w' := by
  have HK := Lib.hid hk
  clear hk
  go_enter Try.func19, Try.ntmps19
  go_wp2_with fail
  refine (mod_any _ _ _ (by omega) (by omega)).mono ?_
  rintro e w' ⟨rfl, rfl⟩
  rw [HK.out]

  go_wp2_with fail
  refine (v4_any _ _ _ _ _).mono ?_
  rintro e w1 ⟨rfl, t1⟩
  have hg := t1.at (heap_alloc_new w _) (by simp)
  go_wp2_with (refine wpList_store_into rfl 31 _ _ rfl w.heap.size 31 _ (adr false _) rfl rfl hg rfl size31 (adr_one _ _) ?_)
  intro w2 hg2 t2 _
  go_wp2_with fail
  refine ret_adr rfl (cs := adr false _) rfl rfl hg2 ⟨_, ⟨rfl, by simp⟩, rfl, ?_⟩
  exact Touch.trans ((Touch.refl [] w).alloc _) (Touch.trans (t1.mono (S' := [w.heap.size]) (by simp)) t2 (by simp)) (by simp)

set_option maxRecDepth 100000 in
set_option maxHeartbeats 1000000 in
theorem addr_4 (n : Int) (w : World) (hk : gmod n 14 = 4) :
    Calls Try.prog 19 #[.int .i64 n] w fun e w' => ∃ xs : List Int, (xs.length = 16 ∧ ∀ x ∈ xs, 0 ≤ x ∧ x ≤ 255) ∧ e = .returned (.agg (adr false xs).toArray) ∧ Touch [] w w' := by
  have HK := Lib.hid hk
  clear hk
  go_enter Try.func19, Try.ntmps19
  go_wp2_with fail
  refine (mod_any _ _ _ (by omega) (by omega)).mono ?_
  rintro e w' ⟨rfl, rfl⟩
  rw [HK.out]

  go_wp2_with fail
  refine (v4_any _ _ _ _ _).mono ?_
  rintro e w1 ⟨rfl, t1⟩
  have hg := t1.at (heap_alloc_new w _) (by simp)
  go_wp2_with (refine wpList_store_into rfl 31 _ _ rfl w.heap.size 31 _ (adr false _) rfl rfl hg rfl size31 (adr_one _ _) ?_)
  intro w2 hg2 t2 _
  go_wp2_with fail
  refine ret_adr rfl (cs := adr false _) rfl rfl hg2 ⟨_, ⟨rfl, by simp⟩, rfl, ?_⟩
  exact Touch.trans ((Touch.refl [] w).alloc _) (Touch.trans (t1.mono (S' := [w.heap.size]) (by simp)) t2 (by simp)) (by simp)

set_option maxRecDepth 100000 in
set_option maxHeartbeats 1000000 in
theorem addr_5 (n : Int) (w : World) (hk : gmod n 14 = 5) :
    Calls Try.prog 19 #[.int .i64 n] w fun e w' => ∃ xs : List Int, (xs.length = 16 ∧ ∀ x ∈ xs, 0 ≤ x ∧ x ≤ 255) ∧ e = .returned (.agg (adr false xs).toArray) ∧ Touch [] w w' := by
  have HK := Lib.hid hk
  clear hk
  go_enter Try.func19, Try.ntmps19
  go_wp2_with fail
  refine (mod_any _ _ _ (by omega) (by omega)).mono ?_
  rintro e w' ⟨rfl, rfl⟩
  rw [HK.out]

  go_wp2_with fail
  refine (v4_any _ _ _ _ _).mono ?_
  rintro e w1 ⟨rfl, t1⟩
  have hg := t1.at (heap_alloc_new w _) (by simp)
  go_wp2_with (refine wpList_store_into rfl 31 _ _ rfl w.heap.size 31 _ (adr false _) rfl rfl hg rfl size31 (adr_one _ _) ?_)
  intro w2 hg2 t2 _
  go_wp2_with fail
  refine ret_adr rfl (cs := adr false _) rfl rfl hg2 ⟨_, ⟨rfl, by simp; try omega⟩, rfl, ?_⟩
  exact Touch.trans ((Touch.refl [] w).alloc _) (Touch.trans (t1.mono (S' := [w.heap.size]) (by simp)) t2 (by simp)) (by simp)

set_option maxRecDepth 100000 in
set_option maxHeartbeats 1000000 in
theorem addr_6 (n : Int) (w : World) (hk : gmod n 14 = 6) :
    Calls Try.prog 19 #[.int .i64 n] w fun e w' => ∃ xs : List Int, (xs.length = 16 ∧ ∀ x ∈ xs, 0 ≤ x ∧ x ≤ 255) ∧ e = .returned (.agg (adr true xs).toArray) ∧ Touch [] w w' := by
  have HK := Lib.hid hk
  clear hk
  go_enter Try.func19, Try.ntmps19
  go_wp2_with fail
  refine (mod_any _ _ _ (by omega) (by omega)).mono ?_
  rintro e w' ⟨rfl, rfl⟩
  rw [HK.out]

  go_wp2_with (refine wpList_store_new rfl 31 _ _ rfl _ _ _ rfl rfl rfl size31 (by simp [Value.oneCell']) ?_)
  refine ret_adr rfl (cs := adr true [32, 1, 13, 184, 0, 0, 0, 0, 0, 0, 0, 0, 0, 0, 0, _]) rfl rfl (heap_alloc_new w _) ⟨_, ⟨rfl, by simp; try omega⟩, rfl, (Touch.refl _ _).alloc _⟩

set_option maxRecDepth 100000 in
set_option maxHeartbeats 1000000 in
theorem addr_7 (n : Int) (w : World) (hk : gmod n 14 = 7) :
    Calls Try.prog 19 #[.int .i64 n] w fun e w' => ∃ xs : List Int, (xs.length = 16 ∧ ∀ x ∈ xs, 0 ≤ x ∧ x ≤ 255) ∧ e = .returned (.agg (adr true xs).toArray) ∧ Touch [] w w' := by
  have HK := Lib.hid hk
  clear hk
  go_enter Try.func19, Try.ntmps19
  go_wp2_with fail
  refine (mod_any _ _ _ (by omega) (by omega)).mono ?_
  rintro e w' ⟨rfl, rfl⟩
  rw [HK.out]

  go_wp2_with (refine wpList_store_new rfl 31 _ _ rfl _ _ _ rfl rfl rfl size31 (by simp [Value.oneCell']) ?_)
  refine ret_adr rfl (cs := adr true [42, 0, 0, 0, 0, 0, 0, 0, 0, 0, 0, 0, 0, 0, 0, 5]) rfl rfl (heap_alloc_new w _) ⟨_, ⟨rfl, by simp; try omega⟩, rfl, (Touch.refl _ _).alloc _⟩

set_option maxRecDepth 100000 in
set_option maxHeartbeats 1000000 in
theorem addr_8 (n : Int) (w : World) (hk : gmod n 14 = 8) :
    Calls Try.prog 19 #[.int .i64 n] w fun e w' => ∃ xs : List Int, (xs.length = 16 ∧ ∀ x ∈ xs, 0 ≤ x ∧ x ≤ 255) ∧ e = .returned (.agg (adr true xs).toArray) ∧ Touch [] w w' := by
  have HK := Lib.hid hk
  clear hk
  go_enter Try.func19, Try.ntmps19
  go_wp2_with fail
  refine (mod_any _ _ _ (by omega) (by omega)).mono ?_
  rintro e w' ⟨rfl, rfl⟩
  rw [HK.out]

  go_wp2_with (refine wpList_store_new rfl 31 _ _ rfl _ _ _ rfl rfl rfl size31 (by simp [Value.oneCell']) ?_)
  refine ret_adr rfl (cs := adr true [254, 128, 0, 0, 0, 0, 0, 0, 0, 0, 0, 0, 0, 0, 0, 1]) rfl rfl (heap_alloc_new w _) ⟨_, ⟨rfl, by simp; try omega⟩, rfl, (Touch.refl _ _).alloc _⟩

set_option maxRecDepth 100000 in
set_option maxHeartbeats 1000000 in
theorem addr_9 (n : Int) (w : World) (hk : gmod n 14 = 9) :
    Calls Try.prog 19 #[.int .i64 n] w fun e w' => ∃ xs : List Int, (xs.length = 16 ∧ ∀ x ∈ xs, 0 ≤ x ∧ x ≤ 255) ∧ e = .returned (.agg (adr true xs).toArray) ∧ Touch [] w w' := by
  have HK := Lib.hid hk
  clear hk
  go_enter Try.func19, Try.ntmps19
  go_wp2_with fail
  refine (mod_any _ _ _ (by omega) (by omega)).mono ?_
  rintro e w' ⟨rfl, rfl⟩
  rw [HK.out]

  go_wp2_with (refine wpList_store_new rfl 31 _ _ rfl _ _ _ rfl rfl rfl size31 (by simp [Value.oneCell']) ?_)
  refine ret_adr rfl (cs := adr true [0, 0, 0, 0, 0, 0, 0, 0, 0, 0, 255, 255, 8, 8, 8, 8]) rfl rfl (heap_alloc_new w _) ⟨_, ⟨rfl, by simp; try omega⟩, rfl, (Touch.refl _ _).alloc _⟩

set_option maxRecDepth 100000 in
set_option maxHeartbeats 1000000 in
theorem addr_10 (n : Int) (w : World) (hk : gmod n 14 = 10) :
    Calls Try.prog 19 #[.int .i64 n] w fun e w' => ∃ xs : List Int, (xs.length = 16 ∧ ∀ x ∈ xs, 0 ≤ x ∧ x ≤ 255) ∧ e = .returned (.agg (adr true xs).toArray) ∧ Touch [] w w' := by
  have HK := Lib.hid hk
  clear hk
  go_enter Try.func19, Try.ntmps19
  go_wp2_with fail
  refine (mod_any _ _ _ (by omega) (by omega)).mono ?_
  rintro e w' ⟨rfl, rfl⟩
  rw [HK.out]

  go_wp2_with (refine wpList_store_new rfl 31 _ _ rfl _ _ _ rfl rfl rfl size31 (by simp [Value.oneCell']) ?_)
  refine ret_adr rfl (cs := adr true [32, 2, 0, 0, 0, 0, 0, 0, 0, 0, 0, 0, 0, 0, 0, 1]) rfl rfl (heap_alloc_new w _) ⟨_, ⟨rfl, by simp; try omega⟩, rfl, (Touch.refl _ _).alloc _⟩

set_option maxRecDepth 100000 in
set_option maxHeartbeats 1000000 in
theorem addr_11 (n : Int) (w : World) (hk : gmod n 14 = 11) :
    Calls Try.prog 19 #[.int .i64 n] w fun e w' => ∃ xs : List Int, (xs.length = 16 ∧ ∀ x ∈ xs, 0 ≤ x ∧ x ≤ 255) ∧ e = .returned (.agg (adr true xs).toArray) ∧ Touch [] w w' := by
  have HK := Lib.hid hk
  clear hk
  go_enter Try.func19, Try.ntmps19
  go_wp2_with fail
  refine (mod_any _ _ _ (by omega) (by omega)).mono ?_
  rintro e w' ⟨rfl, rfl⟩
  rw [HK.out]

  go_wp2_with (refine wpList_store_new rfl 31 _ _ rfl _ _ _ rfl rfl rfl size31 (by simp [Value.oneCell']) ?_)
  refine ret_adr rfl (cs := adr true [0, 0, 0, 0, 0, 0, 0, 0, 0, 0, 0, 0, 0, 0, 0, 1]) rfl rfl (heap_alloc_new w _) ⟨_, ⟨rfl, by simp; try omega⟩, rfl, (Touch.refl _ _).alloc _⟩

set_option maxRecDepth 100000 in
set_option maxHeartbeats 1000000 in
theorem addr_12 (n : Int) (w : World) (hk : gmod n 14 = 12) :
    Calls Try.prog 19 #[.int .i64 n] w fun e w' => ∃ xs : List Int, (xs.length = 16 ∧ ∀ x ∈ xs, 0 ≤ x ∧ x ≤ 255) ∧ e = .returned (.agg (adr true xs).toArray) ∧ Touch [] w w' := by
  have HK := Lib.hid hk
  clear hk
  go_enter Try.func19, Try.ntmps19
  go_wp2_with fail
  refine (mod_any _ _ _ (by omega) (by omega)).mono ?_
  rintro e w' ⟨rfl, rfl⟩
  rw [HK.out]

  go_wp2_with (refine wpList_store_new rfl 31 _ _ rfl _ _ _ rfl rfl rfl size31 (by simp [Value.oneCell']) ?_)
  refine ret_adr rfl (cs := adr true [32, 1, 0, 0, 0, 0, 0, 0, 0, 0, 0, 0, 0, 0, 0, _]) rfl rfl (heap_alloc_new w _) ⟨_, ⟨rfl, by simp; try omega⟩, rfl, (Touch.refl _ _).alloc _⟩

set_option maxRecDepth 100000 in
set_option maxHeartbeats 1000000 in
theorem addr_13 (n : Int) (w : World) (hk : gmod n 14 = 13) :
    Calls Try.prog 19 #[.int .i64 n] w fun e w' => ∃ xs : List Int, (xs.length = 16 ∧ ∀ x ∈ xs, 0 ≤ x ∧ x ≤ 255) ∧ e = .returned (.agg (adr true xs).toArray) ∧ Touch [] w w' := by
  have HK := Lib.hid hk
  clear hk
  go_enter Try.func19, Try.ntmps19
  go_wp2_with fail
  refine (mod_any _ _ _ (by omega) (by omega)).mono ?_
  rintro e w' ⟨rfl, rfl⟩
  rw [HK.out]

  go_wp2_with (refine wpList_store_new rfl 31 _ _ rfl _ _ _ rfl rfl rfl size31 (by simp [Value.oneCell']) ?_)
  refine ret_adr rfl (cs := adr true [42, 0, 0, 0, 0, 0, 0, 0, 0, 0, 0, 0, 0, 0, 0, _]) rfl rfl (heap_alloc_new w _) ⟨_, ⟨rfl, by simp; try omega⟩, rfl, (Touch.refl _ _).alloc _⟩

theorem addr_flag (n : Int) (w : World) (b : Bool) (hb : decide (6 ≤ gmod n 14) = b) :
    Calls Try.prog 19 #[.int .i64 n] w fun e w' => ∃ xs : List Int, (xs.length = 16 ∧ ∀ x ∈ xs, 0 ≤ x ∧ x ≤ 255) ∧ e = .returned (.agg (adr b xs).toArray) ∧ Touch [] w w' := by
  have h0 := gmod_lo n 14 (by omega)
  have h1 := gmod_hi n 14 (by omega)
  have hc : gmod n 14 = 0 ∨ gmod n 14 = 1 ∨ gmod n 14 = 2 ∨ gmod n 14 = 3 ∨ gmod n 14 = 4 ∨ gmod n 14 = 5 ∨ gmod n 14 = 6 ∨ gmod n 14 = 7 ∨ gmod n 14 = 8 ∨ gmod n 14 = 9 ∨ gmod n 14 = 10 ∨ gmod n 14 = 11 ∨ gmod n 14 = 12 ∨ gmod n 14 = 13 := by omega
  subst hb
  rcases hc with h | h | h | h | h | h | h | h | h | h | h | h | h | h
  · rw [h]; exact addr_0 n w h
  · rw [h]; exact addr_1 n w h
  · rw [h]; exact addr_2 n w h
  · rw [h]; exact addr_3 n w h
  · rw [h]; exact addr_4 n w h
  · rw [h]; exact addr_5 n w h
  · rw [h]; exact addr_6 n w h
  · rw [h]; exact addr_7 n w h
  · rw [h]; exact addr_8 n w h
  · rw [h]; exact addr_9 n w h
  · rw [h]; exact addr_10 n w h
  · rw [h]; exact addr_11 n w h
  · rw [h]; exact addr_12 n w h
  · rw [h]; exact addr_13 n w h

theorem addr_any (n : Int) (w : World) :
    Calls Try.prog 19 #[.int .i64 n] w fun e w' => ∃ cs, IsAd cs ∧ e = .returned (.agg cs.toArray) ∧ Touch [] w w' :=
  (addr_flag n w _ rfl).mono fun _ _ ⟨xs, hx, he, t⟩ => ⟨_, ⟨_, xs, rfl, hx.1, hx.2⟩, he, t⟩
end Go.Proofs.Ytdpjfhogkllajaa

/-
  Merged texts: Gen, GenA, GenB, Sl, Eq.
-/
import Derived.Test.YtiklhaajhdephaaGreatDoorGA
import Derived.Test.YtiklhaajhdephaaGreatDoorRows
import Derived.Lib.Hide
import Derived.DeepKeys4

/-
 The contracts of the address makers of the statements (V4, Addr, ValidAddr, SomeAddr): each hands back an address of 17 cells: a flag and sixteen bytes.
-/
namespace Go.Proofs.YtiklhaajhdephaaGreatDoor
open Go.RowKit
set_option linter.unusedVariables false
set_option linter.unusedSimpArgs false

/-- The cells of an address: a flag, sixteen bytes. -/
def adr (b : Bool) (xs : List Int) : List Value := .bool b :: xs.map (Value.int .u8)
def IsAd (cs : List Value) : Prop := ∃ b xs, cs = adr b xs ∧ xs.length = 16 ∧ ∀ x ∈ xs, 0 ≤ x ∧ x ≤ 255
theorem IsAd.len {cs : List Value} (h : IsAd cs) : cs.length = 17 := by
 obtain ⟨b, xs, rfl, hl, _⟩ := h
 simp [adr, hl]
theorem IsAd.one {cs : List Value} (h : IsAd cs) : ∀ v ∈ cs, v.oneCell' = true := by
 obtain ⟨b, xs, rfl, hl, _⟩ := h
 intro v hv
 simp only [adr, List.mem_cons, List.mem_map] at hv
 rcases hv with rfl | ⟨x, _, rfl⟩ <;> rfl
theorem adr_one (b : Bool) (xs : List Int) : ∀ v ∈ adr b xs, v.oneCell' = true := by
 intro v hv
 simp only [adr, List.mem_cons, List.mem_map] at hv
 rcases hv with rfl | ⟨x, _, rfl⟩ <;> rfl

theorem size31 : (Tryz.prog.info? 40).map (·.size) = some 17 := by kernel_rfl

/-- The end of a function that hands back an address out of its block. -/
theorem ret_adr {fn : Func} {p : Tmp} (h : fn.results = #[.cell p 40]) {R : Ending → World → Prop} {tmps : Array Value} {w : World} {g : Nat} {T : TypeId} {cs : List Value} (hl : cs.length = 17)
  (hp : tmps.getD p undef = .pointer (some ⟨g, 0, none⟩)) (hg : w.heap[g]? = some (.cells cs.toArray T (0, 0))) (hR : R (.returned (.agg cs.toArray)) w) : bodyPost Tryz.prog fn R .ret { tmps := tmps, defers := [] } w :=
 bodyPost_ret (results_cell_row h tmps w g T cs.toArray (0, 0) _ hp hg Tryz.underlying40 rfl (by rw [size31]; simp [hl])) rfl hR

set_option maxRecDepth 100000 in
theorem v4_any (x0 x1 x2 x3 : Int) (w : World) :
  Calls Tryz.prog 44 #[.int .u8 x0, .int .u8 x1, .int .u8 x2, .int .u8 x3] w fun e w' => e = .returned (.agg (adr false [x0, x1, x2, x3, 0, 0, 0, 0, 0, 0, 0, 0, 0, 0, 0, 0]).toArray) ∧ Touch [] w w' := by
 go_enter Tryz.func44, Tryz.ntmps44
 go_wp2_with (refine wpList_store_new rfl 40 _ _ rfl _ _ (adr false [x0, x1, x2, x3, 0, 0, 0, 0, 0, 0, 0, 0, 0, 0, 0, 0]) rfl rfl rfl size31 (adr_one _ _) ?_)
 exact ret_adr rfl rfl rfl (heap_alloc_new w _) ⟨rfl, (Touch.refl _ _).alloc _⟩
/-- What Mod(v, n) is: v taken modulo 2^64, then modulo n. -/
def gmod (v n : Int) : Int := (v % 18446744073709551616) % n
theorem gmod_lo (v n : Int) (hn : 1 ≤ n) : 0 ≤ gmod v n := Int.emod_nonneg _ (by omega)
theorem gmod_hi (v n : Int) (hn : 1 ≤ n) : gmod v n < n := Int.emod_lt_of_pos _ (by omega)
theorem mod_eq (v n : Int) (hn : 1 ≤ n) (hn2 : n ≤ 1000000) : wrap64 ((IntKind.u64.wrap v).tmod n) = gmod v n := by
 have h0 : 0 ≤ IntKind.u64.wrap v := by simp [IntKind.wrap, IntKind.signed, IntKind.bits]; omega
 rw [Int.tmod_eq_emod_of_nonneg h0]
 have h1 := Int.emod_nonneg (IntKind.u64.wrap v) (show n ≠ 0 by omega)
 have h2 := Int.emod_lt_of_pos (IntKind.u64.wrap v) (show 0 < n by omega)
 rw [IntWalk.wrap64_in _ ⟨by omega, by omega⟩]
 unfold gmod
 congr 1
theorem mod_any (v n : Int) (w : World) (hn : 1 ≤ n) (hn2 : n ≤ 1000000) :
  Calls Tryz.prog 20 #[.int .i64 v, .int .i64 n] w fun e w' => e = .returned (.int .i64 (gmod v n)) ∧ w = w' := by
 have H := mod_eq v n hn hn2
 go_enter Tryz.func20, Tryz.ntmps20
 go_wp2
 go_ret
 exact ⟨by simp [← H], rfl⟩

end Go.Proofs.YtiklhaajhdephaaGreatDoor

/-
 The fourteen cases of the address maker Addr: an IPv4 address at 0 to 5, an IPv6 address at 6 to 13.
-/
namespace Go.Proofs.YtiklhaajhdephaaGreatDoor
open Go.RowKit
set_option linter.unusedVariables false
set_option linter.unusedSimpArgs false

set_option maxRecDepth 100000 in
set_option maxHeartbeats 1000000 in
theorem addr_0 (n : Int) (w : World) (hk : gmod n 14 = 0) :
  Calls Tryz.prog 46 #[.int .i64 n] w fun e w' => ∃ xs : List Int, (xs.length = 16 ∧ ∀ x ∈ xs, 0 ≤ x ∧ x ≤ 255) ∧ e = .returned (.agg (adr false xs).toArray) ∧ Touch [] w w' := by
 have HK := Lib.hid hk
 clear hk
 go_enter Tryz.func46, Tryz.ntmps46
 go_wp2_with fail
 refine (mod_any _ _ _ (by omega) (by omega)).mono ?_
 rintro e w' ⟨rfl, rfl⟩
 rw [HK.out]

 go_wp2_with fail
 refine (v4_any _ _ _ _ _).mono ?_
 rintro e w1 ⟨rfl, t1⟩
 have hg := t1.at (heap_alloc_new w _) (by simp)
 go_wp2_with (refine wpList_store_into rfl 40 _ _ rfl w.heap.size 40 _ (adr false _) rfl rfl hg rfl size31 (adr_one _ _) ?_)
 intro w2 hg2 t2 _
 go_wp2_with fail
 refine ret_adr rfl (cs := adr false _) rfl rfl hg2 ⟨_, ⟨rfl, by simp⟩, rfl, ?_⟩
 exact Touch.trans ((Touch.refl [] w).alloc _) (Touch.trans (t1.mono (S' := [w.heap.size]) (by simp)) t2 (by simp)) (by simp)

set_option maxRecDepth 100000 in
set_option maxHeartbeats 1000000 in
theorem addr_1 (n : Int) (w : World) (hk : gmod n 14 = 1) :
  Calls Tryz.prog 46 #[.int .i64 n] w fun e w' => ∃ xs : List Int, (xs.length = 16 ∧ ∀ x ∈ xs, 0 ≤ x ∧ x ≤ 255) ∧ e = .returned (.agg (adr false xs).toArray) ∧ Touch [] w w' := by
 have HK := Lib.hid hk
 clear hk
 go_enter Tryz.func46, Tryz.ntmps46
 go_wp2_with fail
 refine (mod_any _ _ _ (by omega) (by omega)).mono ?_
 rintro e w' ⟨rfl, rfl⟩
 rw [HK.out]

 go_wp2_with fail
 refine (v4_any _ _ _ _ _).mono ?_
 rintro e w1 ⟨rfl, t1⟩
 have hg := t1.at (heap_alloc_new w _) (by simp)
 go_wp2_with (refine wpList_store_into rfl 40 _ _ rfl w.heap.size 40 _ (adr false _) rfl rfl hg rfl size31 (adr_one _ _) ?_)
 intro w2 hg2 t2 _
 go_wp2_with fail
 refine ret_adr rfl (cs := adr false _) rfl rfl hg2 ⟨_, ⟨rfl, by simp⟩, rfl, ?_⟩
 exact Touch.trans ((Touch.refl [] w).alloc _) (Touch.trans (t1.mono (S' := [w.heap.size]) (by simp)) t2 (by simp)) (by simp)

set_option maxRecDepth 100000 in
set_option maxHeartbeats 1000000 in
theorem addr_2 (n : Int) (w : World) (hk : gmod n 14 = 2) :
  Calls Tryz.prog 46 #[.int .i64 n] w fun e w' => ∃ xs : List Int, (xs.length = 16 ∧ ∀ x ∈ xs, 0 ≤ x ∧ x ≤ 255) ∧ e = .returned (.agg (adr false xs).toArray) ∧ Touch [] w w' := by
 have HK := Lib.hid hk
 clear hk
 go_enter Tryz.func46, Tryz.ntmps46
 go_wp2_with fail
 refine (mod_any _ _ _ (by omega) (by omega)).mono ?_
 rintro e w' ⟨rfl, rfl⟩
 rw [HK.out]

 go_wp2_with fail
 refine (v4_any _ _ _ _ _).mono ?_
 rintro e w1 ⟨rfl, t1⟩
 have hg := t1.at (heap_alloc_new w _) (by simp)
 go_wp2_with (refine wpList_store_into rfl 40 _ _ rfl w.heap.size 40 _ (adr false _) rfl rfl hg rfl size31 (adr_one _ _) ?_)
 intro w2 hg2 t2 _
 go_wp2_with fail
 refine ret_adr rfl (cs := adr false _) rfl rfl hg2 ⟨_, ⟨rfl, by simp⟩, rfl, ?_⟩
 exact Touch.trans ((Touch.refl [] w).alloc _) (Touch.trans (t1.mono (S' := [w.heap.size]) (by simp)) t2 (by simp)) (by simp)

set_option maxRecDepth 100000 in
set_option maxHeartbeats 1000000 in
theorem addr_3 (n : Int) (w : World) (hk : gmod n 14 = 3) :
  Calls Tryz.prog 46 #[.int .i64 n] w fun e w' => ∃ xs : List Int, (xs.length = 16 ∧ ∀ x ∈ xs, 0 ≤ x ∧ x ≤ 255) ∧ e = .returned (.agg (adr false xs).toArray) ∧ Touch [] w w' := by
 have HK := Lib.hid hk
 clear hk
 go_enter Tryz.func46, Tryz.ntmps46
 go_wp2_with fail
 refine (mod_any _ _ _ (by omega) (by omega)).mono ?_
 rintro e w' ⟨rfl, rfl⟩
 rw [HK.out]

 go_wp2_with fail
 refine (v4_any _ _ _ _ _).mono ?_
 rintro e w1 ⟨rfl, t1⟩
 have hg := t1.at (heap_alloc_new w _) (by simp)
 go_wp2_with (refine wpList_store_into rfl 40 _ _ rfl w.heap.size 40 _ (adr false _) rfl rfl hg rfl size31 (adr_one _ _) ?_)
 intro w2 hg2 t2 _
 go_wp2_with fail
 refine ret_adr rfl (cs := adr false _) rfl rfl hg2 ⟨_, ⟨rfl, by simp⟩, rfl, ?_⟩
 exact Touch.trans ((Touch.refl [] w).alloc _) (Touch.trans (t1.mono (S' := [w.heap.size]) (by simp)) t2 (by simp)) (by simp)

set_option maxRecDepth 100000 in
set_option maxHeartbeats 1000000 in
theorem addr_4 (n : Int) (w : World) (hk : gmod n 14 = 4) :
  Calls Tryz.prog 46 #[.int .i64 n] w fun e w' => ∃ xs : List Int, (xs.length = 16 ∧ ∀ x ∈ xs, 0 ≤ x ∧ x ≤ 255) ∧ e = .returned (.agg (adr false xs).toArray) ∧ Touch [] w w' := by
 have HK := Lib.hid hk
 clear hk
 go_enter Tryz.func46, Tryz.ntmps46
 go_wp2_with fail
 refine (mod_any _ _ _ (by omega) (by omega)).mono ?_
 rintro e w' ⟨rfl, rfl⟩
 rw [HK.out]

 go_wp2_with fail
 refine (v4_any _ _ _ _ _).mono ?_
 rintro e w1 ⟨rfl, t1⟩
 have hg := t1.at (heap_alloc_new w _) (by simp)
 go_wp2_with (refine wpList_store_into rfl 40 _ _ rfl w.heap.size 40 _ (adr false _) rfl rfl hg rfl size31 (adr_one _ _) ?_)
 intro w2 hg2 t2 _
 go_wp2_with fail
 refine ret_adr rfl (cs := adr false _) rfl rfl hg2 ⟨_, ⟨rfl, by simp⟩, rfl, ?_⟩
 exact Touch.trans ((Touch.refl [] w).alloc _) (Touch.trans (t1.mono (S' := [w.heap.size]) (by simp)) t2 (by simp)) (by simp)

set_option maxRecDepth 100000 in
set_option maxHeartbeats 1000000 in
theorem addr_5 (n : Int) (w : World) (hk : gmod n 14 = 5) :
  Calls Tryz.prog 46 #[.int .i64 n] w fun e w' => ∃ xs : List Int, (xs.length = 16 ∧ ∀ x ∈ xs, 0 ≤ x ∧ x ≤ 255) ∧ e = .returned (.agg (adr false xs).toArray) ∧ Touch [] w w' := by
 have HK := Lib.hid hk
 clear hk
 go_enter Tryz.func46, Tryz.ntmps46
 go_wp2_with fail
 refine (mod_any _ _ _ (by omega) (by omega)).mono ?_
 rintro e w' ⟨rfl, rfl⟩
 rw [HK.out]

 go_wp2_with fail
 refine (v4_any _ _ _ _ _).mono ?_
 rintro e w1 ⟨rfl, t1⟩
 have hg := t1.at (heap_alloc_new w _) (by simp)
 go_wp2_with (refine wpList_store_into rfl 40 _ _ rfl w.heap.size 40 _ (adr false _) rfl rfl hg rfl size31 (adr_one _ _) ?_)
 intro w2 hg2 t2 _
 go_wp2_with fail
 refine ret_adr rfl (cs := adr false _) rfl rfl hg2 ⟨_, ⟨rfl, by simp; try omega⟩, rfl, ?_⟩
 exact Touch.trans ((Touch.refl [] w).alloc _) (Touch.trans (t1.mono (S' := [w.heap.size]) (by simp)) t2 (by simp)) (by simp)

set_option maxRecDepth 100000 in
set_option maxHeartbeats 1000000 in
theorem addr_6 (n : Int) (w : World) (hk : gmod n 14 = 6) :
  Calls Tryz.prog 46 #[.int .i64 n] w fun e w' => ∃ xs : List Int, (xs.length = 16 ∧ ∀ x ∈ xs, 0 ≤ x ∧ x ≤ 255) ∧ e = .returned (.agg (adr true xs).toArray) ∧ Touch [] w w' := by
 have HK := Lib.hid hk
 clear hk
 go_enter Tryz.func46, Tryz.ntmps46
 go_wp2_with fail
 refine (mod_any _ _ _ (by omega) (by omega)).mono ?_
 rintro e w' ⟨rfl, rfl⟩
 rw [HK.out]

 go_wp2_with (refine wpList_store_new rfl 40 _ _ rfl _ _ _ rfl rfl rfl size31 (by simp [Value.oneCell']) ?_)
 refine ret_adr rfl (cs := adr true [32, 1, 13, 184, 0, 0, 0, 0, 0, 0, 0, 0, 0, 0, 0, _]) rfl rfl (heap_alloc_new w _) ⟨_, ⟨rfl, by simp; try omega⟩, rfl, (Touch.refl _ _).alloc _⟩

set_option maxRecDepth 100000 in
set_option maxHeartbeats 1000000 in
theorem addr_7 (n : Int) (w : World) (hk : gmod n 14 = 7) :
  Calls Tryz.prog 46 #[.int .i64 n] w fun e w' => ∃ xs : List Int, (xs.length = 16 ∧ ∀ x ∈ xs, 0 ≤ x ∧ x ≤ 255) ∧ e = .returned (.agg (adr true xs).toArray) ∧ Touch [] w w' := by
 have HK := Lib.hid hk
 clear hk
 go_enter Tryz.func46, Tryz.ntmps46
 go_wp2_with fail
 refine (mod_any _ _ _ (by omega) (by omega)).mono ?_
 rintro e w' ⟨rfl, rfl⟩
 rw [HK.out]

 go_wp2_with (refine wpList_store_new rfl 40 _ _ rfl _ _ _ rfl rfl rfl size31 (by simp [Value.oneCell']) ?_)
 refine ret_adr rfl (cs := adr true [42, 0, 0, 0, 0, 0, 0, 0, 0, 0, 0, 0, 0, 0, 0, 5]) rfl rfl (heap_alloc_new w _) ⟨_, ⟨rfl, by simp; try omega⟩, rfl, (Touch.refl _ _).alloc _⟩

set_option maxRecDepth 100000 in
set_option maxHeartbeats 1000000 in
theorem addr_8 (n : Int) (w : World) (hk : gmod n 14 = 8) :
  Calls Tryz.prog 46 #[.int .i64 n] w fun e w' => ∃ xs : List Int, (xs.length = 16 ∧ ∀ x ∈ xs, 0 ≤ x ∧ x ≤ 255) ∧ e = .returned (.agg (adr true xs).toArray) ∧ Touch [] w w' := by
 have HK := Lib.hid hk
 clear hk
 go_enter Tryz.func46, Tryz.ntmps46
 go_wp2_with fail
 refine (mod_any _ _ _ (by omega) (by omega)).mono ?_
 rintro e w' ⟨rfl, rfl⟩
 rw [HK.out]

 go_wp2_with (refine wpList_store_new rfl 40 _ _ rfl _ _ _ rfl rfl rfl size31 (by simp [Value.oneCell']) ?_)
 refine ret_adr rfl (cs := adr true [254, 128, 0, 0, 0, 0, 0, 0, 0, 0, 0, 0, 0, 0, 0, 1]) rfl rfl (heap_alloc_new w _) ⟨_, ⟨rfl, by simp; try omega⟩, rfl, (Touch.refl _ _).alloc _⟩

set_option maxRecDepth 100000 in
set_option maxHeartbeats 1000000 in
theorem addr_9 (n : Int) (w : World) (hk : gmod n 14 = 9) :
  Calls Tryz.prog 46 #[.int .i64 n] w fun e w' => ∃ xs : List Int, (xs.length = 16 ∧ ∀ x ∈ xs, 0 ≤ x ∧ x ≤ 255) ∧ e = .returned (.agg (adr true xs).toArray) ∧ Touch [] w w' := by
 have HK := Lib.hid hk
 clear hk
 go_enter Tryz.func46, Tryz.ntmps46
 go_wp2_with fail
 refine (mod_any _ _ _ (by omega) (by omega)).mono ?_
 rintro e w' ⟨rfl, rfl⟩
 rw [HK.out]

 go_wp2_with (refine wpList_store_new rfl 40 _ _ rfl _ _ _ rfl rfl rfl size31 (by simp [Value.oneCell']) ?_)
 refine ret_adr rfl (cs := adr true [0, 0, 0, 0, 0, 0, 0, 0, 0, 0, 255, 255, 8, 8, 8, 8]) rfl rfl (heap_alloc_new w _) ⟨_, ⟨rfl, by simp; try omega⟩, rfl, (Touch.refl _ _).alloc _⟩

set_option maxRecDepth 100000 in
set_option maxHeartbeats 1000000 in
theorem addr_10 (n : Int) (w : World) (hk : gmod n 14 = 10) :
  Calls Tryz.prog 46 #[.int .i64 n] w fun e w' => ∃ xs : List Int, (xs.length = 16 ∧ ∀ x ∈ xs, 0 ≤ x ∧ x ≤ 255) ∧ e = .returned (.agg (adr true xs).toArray) ∧ Touch [] w w' := by
 have HK := Lib.hid hk
 clear hk
 go_enter Tryz.func46, Tryz.ntmps46
 go_wp2_with fail
 refine (mod_any _ _ _ (by omega) (by omega)).mono ?_
 rintro e w' ⟨rfl, rfl⟩
 rw [HK.out]

 go_wp2_with (refine wpList_store_new rfl 40 _ _ rfl _ _ _ rfl rfl rfl size31 (by simp [Value.oneCell']) ?_)
 refine ret_adr rfl (cs := adr true [32, 2, 0, 0, 0, 0, 0, 0, 0, 0, 0, 0, 0, 0, 0, 1]) rfl rfl (heap_alloc_new w _) ⟨_, ⟨rfl, by simp; try omega⟩, rfl, (Touch.refl _ _).alloc _⟩

set_option maxRecDepth 100000 in
set_option maxHeartbeats 1000000 in
theorem addr_11 (n : Int) (w : World) (hk : gmod n 14 = 11) :
  Calls Tryz.prog 46 #[.int .i64 n] w fun e w' => ∃ xs : List Int, (xs.length = 16 ∧ ∀ x ∈ xs, 0 ≤ x ∧ x ≤ 255) ∧ e = .returned (.agg (adr true xs).toArray) ∧ Touch [] w w' := by
 have HK := Lib.hid hk
 clear hk
 go_enter Tryz.func46, Tryz.ntmps46
 go_wp2_with fail
 refine (mod_any _ _ _ (by omega) (by omega)).mono ?_
 rintro e w' ⟨rfl, rfl⟩
 rw [HK.out]

 go_wp2_with (refine wpList_store_new rfl 40 _ _ rfl _ _ _ rfl rfl rfl size31 (by simp [Value.oneCell']) ?_)
 refine ret_adr rfl (cs := adr true [0, 0, 0, 0, 0, 0, 0, 0, 0, 0, 0, 0, 0, 0, 0, 1]) rfl rfl (heap_alloc_new w _) ⟨_, ⟨rfl, by simp; try omega⟩, rfl, (Touch.refl _ _).alloc _⟩

set_option maxRecDepth 100000 in
set_option maxHeartbeats 1000000 in
theorem addr_12 (n : Int) (w : World) (hk : gmod n 14 = 12) :
  Calls Tryz.prog 46 #[.int .i64 n] w fun e w' => ∃ xs : List Int, (xs.length = 16 ∧ ∀ x ∈ xs, 0 ≤ x ∧ x ≤ 255) ∧ e = .returned (.agg (adr true xs).toArray) ∧ Touch [] w w' := by
 have HK := Lib.hid hk
 clear hk
 go_enter Tryz.func46, Tryz.ntmps46
 go_wp2_with fail
 refine (mod_any _ _ _ (by omega) (by omega)).mono ?_
 rintro e w' ⟨rfl, rfl⟩
 rw [HK.out]

 go_wp2_with (refine wpList_store_new rfl 40 _ _ rfl _ _ _ rfl rfl rfl size31 (by simp [Value.oneCell']) ?_)
 refine ret_adr rfl (cs := adr true [32, 1, 0, 0, 0, 0, 0, 0, 0, 0, 0, 0, 0, 0, 0, _]) rfl rfl (heap_alloc_new w _) ⟨_, ⟨rfl, by simp; try omega⟩, rfl, (Touch.refl _ _).alloc _⟩

set_option maxRecDepth 100000 in
set_option maxHeartbeats 1000000 in
theorem addr_13 (n : Int) (w : World) (hk : gmod n 14 = 13) :
  Calls Tryz.prog 46 #[.int .i64 n] w fun e w' => ∃ xs : List Int, (xs.length = 16 ∧ ∀ x ∈ xs, 0 ≤ x ∧ x ≤ 255) ∧ e = .returned (.agg (adr true xs).toArray) ∧ Touch [] w w' := by
 have HK := Lib.hid hk
 clear hk
 go_enter Tryz.func46, Tryz.ntmps46
 go_wp2_with fail
 refine (mod_any _ _ _ (by omega) (by omega)).mono ?_
 rintro e w' ⟨rfl, rfl⟩
 rw [HK.out]

 go_wp2_with (refine wpList_store_new rfl 40 _ _ rfl _ _ _ rfl rfl rfl size31 (by simp [Value.oneCell']) ?_)
 refine ret_adr rfl (cs := adr true [42, 0, 0, 0, 0, 0, 0, 0, 0, 0, 0, 0, 0, 0, 0, _]) rfl rfl (heap_alloc_new w _) ⟨_, ⟨rfl, by simp; try omega⟩, rfl, (Touch.refl _ _).alloc _⟩

theorem addr_flag (n : Int) (w : World) (b : Bool) (hb : decide (6 ≤ gmod n 14) = b) :
  Calls Tryz.prog 46 #[.int .i64 n] w fun e w' => ∃ xs : List Int, (xs.length = 16 ∧ ∀ x ∈ xs, 0 ≤ x ∧ x ≤ 255) ∧ e = .returned (.agg (adr b xs).toArray) ∧ Touch [] w w' := by
 have h0 := gmod_lo n 14 (by omega)
 have h1 := gmod_hi n 14 (by omega)
 have hc : gmod n 14 = 0 ∨ gmod n 14 = 1 ∨ gmod n 14 = 2 ∨ gmod n 14 = 3 ∨ gmod n 14 = 4 ∨ gmod n 14 = 5 ∨ gmod n 14 = 6 ∨ gmod n 14 = 7 ∨ gmod n 14 = 8 ∨ gmod n 14 = 9 ∨ gmod n 14 = 10 ∨ gmod n 14 = 11 ∨ gmod n 14 = 12 ∨ gmod n 14 = 13 := by omega
 subst hb
 rcases hc with h | h | h | h | h | h | h | h | h | h | h | h | h | h
 ·rw [h]; exact addr_0 n w h
 ·rw [h]; exact addr_1 n w h
 ·rw [h]; exact addr_2 n w h
 ·rw [h]; exact addr_3 n w h
 ·rw [h]; exact addr_4 n w h
 ·rw [h]; exact addr_5 n w h
 ·rw [h]; exact addr_6 n w h
 ·rw [h]; exact addr_7 n w h
 ·rw [h]; exact addr_8 n w h
 ·rw [h]; exact addr_9 n w h
 ·rw [h]; exact addr_10 n w h
 ·rw [h]; exact addr_11 n w h
 ·rw [h]; exact addr_12 n w h
 ·rw [h]; exact addr_13 n w h

theorem addr_any (n : Int) (w : World) :
  Calls Tryz.prog 46 #[.int .i64 n] w fun e w' => ∃ cs, IsAd cs ∧ e = .returned (.agg cs.toArray) ∧ Touch [] w w' :=
 (addr_flag n w _ rfl).mono fun _ _ ⟨xs, hx, he, t⟩ => ⟨_, ⟨_, xs, rfl, hx.1, hx.2⟩, he, t⟩
end Go.Proofs.YtiklhaajhdephaaGreatDoor

/-
 The contracts of ValidAddr and SomeAddr: an address in, an address out.
-/
namespace Go.Proofs.YtiklhaajhdephaaGreatDoor
open Go.RowKit
set_option linter.unusedVariables false
set_option linter.unusedSimpArgs false

theorem size29 : (Tryz.prog.info? 38).map (·.size) = some 16 := by kernel_rfl
theorem IsAd.flag {cs : List Value} (h : IsAd cs) : ∃ b, cs[0]? = some (.bool b) ∧ cs.take 1 = [.bool b] := by
 obtain ⟨b, xs, rfl, _, _⟩ := h
 exact ⟨b, rfl, rfl⟩
theorem IsAd.byte {cs : List Value} (h : IsAd cs) (j : Nat) (hj : j < 16) : ∃ n, cs[j + 1]? = some (.int .u8 n) ∧ 0 ≤ n ∧ n ≤ 255 := by
 obtain ⟨b, xs, rfl, hl, hr⟩ := h
 refine ⟨xs[j], by simp [adr, hl, hj], hr _ (List.getElem_mem _)⟩

set_option maxRecDepth 100000 in
set_option maxHeartbeats 2000000 in
theorem valid_any (cs : List Value) (w : World) (h : IsAd cs) :
  Calls Tryz.prog 16 #[.agg cs.toArray] w fun e w' => ∃ cs', IsAd cs' ∧ e = .returned (.agg cs'.toArray) ∧ Touch [] w w' := by
 obtain ⟨b, hb, htk⟩ := h.flag
 obtain ⟨x0, e0, r0⟩ := h.byte 0 (by omega)
 obtain ⟨x1, e1, r1⟩ := h.byte 1 (by omega)
 obtain ⟨x2, e2, r2⟩ := h.byte 2 (by omega)
 obtain ⟨x3, e3, r3⟩ := h.byte 3 (by omega)
 simp only [Nat.reduceAdd] at e0 e1 e2 e3
 have hlen := h.len
 have HL := Lib.hid hlen
 have HT := Lib.hid htk
 clear hlen htk
 cases b
 ·go_enter Tryz.func16, Tryz.ntmps16
  go_wp2_with (refine wpList_store_part rfl 38 _ _ rfl w.heap.size 1 40 cs _ rfl rfl (heap_alloc2_old w _ _) (by rw [HL.out]; simp) size29 (by simp [Value.oneCell']) ?_)
  intro w2 hg2 t2 hz2
  have hres := t2.at (heap_alloc2_new w _ _) (by simp)
  have hrg := range_block hg2
  rw [HT.out, List.drop_of_length_le (by rw [HL.out]; simp)] at hrg
  go_wp2_with (first
   | (refine wpList_load_mid rfl 40 _ rfl _ _ rfl _ _ hrg Tryz.underlying40 rfl size31 ?_)
   | (refine wpList_store_into rfl 40 _ _ rfl (w.heap.size + 1) 40 _ _ rfl rfl hres rfl size31 (by simp [Value.oneCell']) ?_))
  intro w3 hg3 t3 hz3
  go_wp2_with fail
  refine ret_adr rfl (cs := adr false [x0, x1, x2, x3, 0, 0, 0, 0, 0, 0, 0, 0, 0, 0, 0, 0]) rfl rfl hg3 ⟨_, ⟨false, _, rfl, rfl, ?_⟩, rfl, ?_⟩
  ·intro x hx
   simp at hx
   rcases hx with rfl | rfl | rfl | rfl | rfl <;> omega
  ·exact ((((Touch.refl [] w).alloc _).alloc _).trans t2 (by simp)).trans t3 (by simp)
 ·have hrg := World.rangeAt_alloc (range_new w cs 40) (.cells #[.bool false, .int .u8 0, .int .u8 0, .int .u8 0, .int .u8 0, .int .u8 0, .int .u8 0, .int .u8 0, .int .u8 0, .int .u8 0, .int .u8 0, .int .u8 0, .int .u8 0, .int .u8 0, .int .u8 0, .int .u8 0, .int .u8 0] 40)
  go_enter Tryz.func16, Tryz.ntmps16
  go_wp2_with (first
   | (refine wpList_load_mid rfl 40 _ rfl _ _ rfl cs _ hrg Tryz.underlying40 rfl (by rw [size31, HL.out]) ?_)
   | (refine wpList_store_into rfl 40 _ _ rfl (w.heap.size + 1) 40 _ cs rfl rfl (heap_alloc2_new w _ _) (by rw [HL.out]; rfl) (by rw [size31, HL.out]) h.one ?_))
  intro w3 hg3 t3 hz3
  go_wp2_with fail
  exact ret_adr rfl HL.out rfl hg3 ⟨cs, h, rfl, (((Touch.refl [] w).alloc _).alloc _).trans t3 (by simp)⟩

set_option maxRecDepth 100000 in
set_option maxHeartbeats 2000000 in
theorem some_any (cs : List Value) (w : World) (h : IsAd cs) :
  Calls Tryz.prog 17 #[.agg cs.toArray] w fun e w' => ∃ cs', IsAd cs' ∧ e = .returned (.agg cs'.toArray) ∧ Touch [] w w' := by
 obtain ⟨x0, e0, r0⟩ := h.byte 0 (by omega)
 obtain ⟨x1, e1, r1⟩ := h.byte 1 (by omega)
 obtain ⟨x7, e7, r7⟩ := h.byte 7 (by omega)
 simp only [Nat.reduceAdd] at e0 e1 e7
 have hlen := h.len
 have HL := Lib.hid hlen
 clear hlen
 have hrg := World.rangeAt_alloc (range_new w cs 40) (.cells #[.bool false, .int .u8 0, .int .u8 0, .int .u8 0, .int .u8 0, .int .u8 0, .int .u8 0, .int .u8 0, .int .u8 0, .int .u8 0, .int .u8 0, .int .u8 0, .int .u8 0, .int .u8 0, .int .u8 0, .int .u8 0, .int .u8 0] 40)
 obtain ⟨r70, r71⟩ := r7
 by_cases c0 : (x7 % 5 == 0) = true
 ·go_enter Tryz.func17, Tryz.ntmps17
  go_wp2_with (first
   | (refine wpList_load_mid rfl 40 _ rfl _ _ rfl cs _ hrg Tryz.underlying40 rfl (by rw [size31, HL.out]) ?_)
   | (refine wpList_store_into rfl 40 _ _ rfl (w.heap.size + 1) 40 _ cs rfl rfl (heap_alloc2_new w _ _) (by rw [HL.out]; rfl) (by rw [size31, HL.out]) h.one ?_))
  intro w3 hg3 t3 hz3
  go_wp2_with fail
  exact ret_adr rfl HL.out rfl hg3 ⟨cs, h, rfl, (((Touch.refl [] w).alloc _).alloc _).trans t3 (by simp)⟩
 ·have c0' : (x7 % 5 == 0) = false := by simpa using c0
  clear c0
  by_cases c1 : (x7 % 5 == 1) = true
  ·go_enter Tryz.func17, Tryz.ntmps17
   go_wp2_with (refine wpList_load_mid rfl 40 _ rfl _ _ rfl cs _ hrg Tryz.underlying40 rfl (by rw [size31, HL.out]) ?_)
   refine (valid_any cs _ h).mono ?_
   rintro e w1 ⟨cs', h', rfl, t1⟩
   have hres := t1.at (heap_alloc2_new w _ _) (by simp)
   go_wp2_with (refine wpList_store_into rfl 40 _ _ rfl (w.heap.size + 1) 40 _ cs' rfl rfl hres (by rw [h'.len]; rfl) (by rw [size31, h'.len]) h'.one ?_)
   intro w3 hg3 t3 hz3
   go_wp2_with fail
   exact ret_adr rfl h'.len rfl hg3 ⟨cs', h', rfl, ((((Touch.refl [] w).alloc _).alloc _).trans t1 (by simp)).trans t3 (by simp)⟩
  ·have c1' : (x7 % 5 == 1) = false := by simpa using c1
   clear c1
   go_enter Tryz.func17, Tryz.ntmps17
   go_wp2_with fail
   refine (addr_any _ _).mono ?_
   rintro e w1 ⟨cs', h', rfl, t1⟩
   have hres := t1.at (heap_alloc2_new w _ _) (by simp)
   go_wp2_with (refine wpList_store_into rfl 40 _ _ rfl (w.heap.size + 1) 40 _ cs' rfl rfl hres (by rw [h'.len]; rfl) (by rw [size31, h'.len]) h'.one ?_)
   intro w3 hg3 t3 hz3
   go_wp2_with fail
   exact ret_adr rfl h'.len rfl hg3 ⟨cs', h', rfl, ((((Touch.refl [] w).alloc _).alloc _).trans t1 (by simp)).trans t3 (by simp)⟩
end Go.Proofs.YtiklhaajhdephaaGreatDoor

/-
 The contracts over slices of addresses: SomeAddrs, SplitFamilies (the program's and the reference's).
-/
namespace Go.Proofs.YtiklhaajhdephaaGreatDoor
open Go.RowKit Go.Deep
set_option linter.unusedVariables false
set_option linter.unusedSimpArgs false

theorem info40 : (Tryz.prog.info? 40).map (fun i => (i.zero, i.size, i.bytes)) = some (some (.agg #[.bool false, .int .u8 0, .int .u8 0, .int .u8 0, .int .u8 0, .int .u8 0, .int .u8 0, .int .u8 0, .int .u8 0, .int .u8 0, .int .u8 0, .int .u8 0, .int .u8 0, .int .u8 0, .int .u8 0, .int .u8 0, .int .u8 0]), 17, 17) := by kernel_rfl

/-- A slice of addresses of the call's own, made since w0. -/
structure Own (w0 w : World) (v : Value) (xs : List (List Value)) : Prop where
 row : w.ownsRow 0 40 17 v xs.length xs.flatten
 new : ∀ g, v.ownBlock = some g → w0.heap.size ≤ g
theorem Own.nil (w0 w : World) : Own w0 w (.slice none 0 0) [] := ⟨World.ownsRow_nil _ _ _ _, by simp [Value.ownBlock]⟩
theorem Own.touch {S : List Nat} {w0 w w' : World} {v : Value} {xs : List (List Value)} (h : Own w0 w v xs) (t : Touch S w w') (hn : ∀ g, v.ownBlock = some g → g ∉ S) : Own w0 w' v xs := ⟨t.owns h.row hn, h.new⟩
theorem Own.lt {w0 w : World} {v : Value} {xs : List (List Value)} (h : Own w0 w v xs) : ∀ g, v.ownBlock = some g → g < w.heap.size := fun g hg => (h.row.lt g hg).2
theorem Own.older {w0 w1 w : World} {v : Value} {xs : List (List Value)} (h : Own w1 w v xs) (hz : w0.heap.size ≤ w1.heap.size) : Own w0 w v xs := ⟨h.row, fun g hg => Nat.le_trans hz (h.new g hg)⟩

theorem flatten_snoc (xs : List (List Value)) (x : List Value) : (xs ++ [x]).flatten = xs.flatten ++ x := by simp
theorem ads_len {xs : List (List Value)} (h : ∀ x ∈ xs, IsAd x) : ∀ x ∈ xs, x.length = 17 := fun x hx => (h x hx).len
theorem ads_one {xs : List (List Value)} (h : ∀ x ∈ xs, IsAd x) : ∀ u ∈ xs.flatten, u.oneCell' = true := by
 intro u hu
 obtain ⟨x, hx, hux⟩ := List.mem_flatten.1 hu
 exact (h x hx).one u hux
theorem ads_snoc {xs : List (List Value)} {x : List Value} (h : ∀ x ∈ xs, IsAd x) (hx : IsAd x) : ∀ y ∈ xs ++ [x], IsAd y := by
 intro y hy
 rcases List.mem_append.1 hy with h1 | h1
 ·exact h y h1
 ·simp at h1; subst h1; exact hx

set_option maxRecDepth 100000 in
set_option maxHeartbeats 4000000 in
theorem someAddrs_any (v : Value) (b most : Nat) (xs : List (List Value)) (w : World) (hm : most ≤ 100) (hv : Rd w 17 b v xs) (hxs : ∀ x ∈ xs, IsAd x) :
  Calls Tryz.prog 31 #[v, .int .i64 most] w fun e w' => ∃ v' ys, e = .returned v' ∧ (∀ y ∈ ys, IsAd y) ∧ ys.length ≤ most ∧ Own w w' v' ys ∧ Touch [] w w' := by
 obtain ⟨i40, hi40, hz40, hs40, hb40⟩ := info_parts info40
 obtain ⟨a, cap, rfl, hlc, hcm⟩ := hv.form
 have hcm2 : cap ≤ 9223372036854775807 := by unfold maxLen at hcm; omega
 go_enter Tryz.func31, Tryz.ntmps31
 go_wp2_with fail
 go_loopw [5, 6] (fun vo vi wr => ∃ (i : Nat) (ys : List (List Value)), i ≤ xs.length ∧ i ≤ most ∧ vi = .int .i64 i ∧ ys.length = i ∧ (∀ y ∈ ys, IsAd y) ∧ Own w wr vo ys ∧ Touch [] w wr)
  (fun _ vi _ => xs.length - (intOf vi).toNat)
 case atStart => exact ⟨0, [], by omega, by omega, rfl, rfl, by simp, Own.nil _ _, Touch.refl _ _⟩
 case round =>
  obtain ⟨i, ys, hix, him, rfl, hyl, hys, hown, ht⟩ := hrel
  have HYL := Lib.hid hyl
  clear hyl
  by_cases hlt : i < xs.length
  ·by_cases hlm : i < most
   ·obtain ⟨off, rfl, hat⟩ := hv.at (by intro e; subst e; simp at hlt)
    have hx : xs[i]? = some xs[i] := List.getElem?_eq_getElem hlt
    have hadx := hxs _ (List.getElem_mem hlt)
    generalize xs[i] = x at hx hadx
    have hrg := ht.range (hat i x hx) (by simp)
    clear hat
    go_wp2_with (refine wpList_load_mid rfl 40 _ rfl b (off + i * 17) rfl x _ hrg Tryz.underlying40 rfl (by rw [size31, hadx.len]) ?_)
    refine (some_any x _ hadx).mono ?_
    rintro e w1 ⟨cs', h', rfl, t1⟩
    have hown1 := hown.touch t1 (by simp)
    have hrow1 := hown1.row
    go_wp2_with (first
     | (refine wpList_buildSlice_rows rfl 35 1 _ rfl 40 17 i40 _ Tryz.underlying35 hi40 hz40 hs40 (by omega) [cs'] rfl (by simp [h'.len]) (by omega) (by rfl) ?_)
     | (at_builtin; refine wpList_app_rec _ (by rfl) _ _ 35 (by rfl) 40 i40 _ 17 17 Tryz.underlying35 hi40 hz40 hs40 hb40 rfl (by omega) _ ys.length _ (by rfl) hrow1 ([cs'].flatten) 40 (by rfl) (by simp [h'.len]) (by simpa using h'.one) (by rw [HYL.out]; unfold maxLen; omega) (by rw [HYL.out]; omega) ?_))
    intro vo w2 ho2 t2 hv2
    have hnew2 : ∀ g, vo.ownBlock = some g → w.heap.size ≤ g := by
     intro g hg
     have z1 := ht.size
     have z2 := t1.size
     rcases hv2 with e | e
     ·rw [e] at hg; exact hown.new g hg
     ·rw [e] at hg; simp at hg; omega
    have hown2 : Own w w2 vo (ys ++ [cs']) := ⟨by rw [flatten_snoc, List.length_append]; exact ho2, hnew2⟩
    have ht2 : Touch [] w w2 := (ht.trans t1 (by simp)).trans t2 (fun g hg => .inr (hown.new g (by simpa using hg)))
    clear hv2 hnew2 ho2 t2 hrow1 hown1 hrg
    go_wp2_with fail
    go_roundw
    case rel => exact ⟨i + 1, ys ++ [cs'], by omega, by omega, by go_num, by simp [HYL.out], ads_snoc hys h', hown2, ht2⟩
    case measure => simp [intOf]; omega
   ·go_wp2_with fail
    go_ret
    exact ⟨_, ys, rfl, hys, by rw [HYL.out]; omega, hown, ht⟩
  ·go_wp2_with fail
   go_ret
   exact ⟨_, ys, rfl, hys, by rw [HYL.out]; omega, hown, ht⟩
end Go.Proofs.YtiklhaajhdephaaGreatDoor

/-
 The contract of Equal at slices of addresses: true at equal lists; and the laws' helpers' walks begin here.
-/
namespace Go.Proofs.YtiklhaajhdephaaGreatDoor
open Go.RowKit Go.Deep
set_option linter.unusedVariables false
set_option linter.unusedSimpArgs false

theorem two8 {α : Type} (xs : List α) (h : xs.length = 16) : ∃ a b c d e f g i j k l m n o p q, xs = [a, b, c, d, e, f, g, i, j, k, l, m, n, o, p, q] := by
 match xs, h with
 | [a, b, c, d, e, f, g, i, j, k, l, m, n, o, p, q], _ => exact ⟨_, _, _, _, _, _, _, _, _, _, _, _, _, _, _, _, rfl⟩

end Go.Proofs.YtiklhaajhdephaaGreatDoor

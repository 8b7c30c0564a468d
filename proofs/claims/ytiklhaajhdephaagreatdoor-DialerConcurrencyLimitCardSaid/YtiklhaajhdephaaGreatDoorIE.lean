/-
  Merged texts: LayI, Rxf, Rxs.
-/
import Derived.Shelf.SlIterI.Nil
import Derived.Shelf.SortM.Plain
import Derived.Shelf.SortM.SortNone
import Derived.Test.YtiklhaajhdephaaGreatDoorProg
import Derived.Test.YtiklhaajhdephaaGreatDoorHB

/-
 DERIVED: THE SHELF's CONTRACTS AT THIS DUMP, IN PLAIN WORDS (tools/lay-plain.mjs out of 'YtiklhaajhdephaaGreatDoorLayI.lean', which tools/lay-shelf.mjs wrote): THE SAME DECLARATIONS UNDER THE SAME NAMES: 'import', 'namespace', 'open', 'def', 'theorem' AND NOTHING ELSE: no command of the shelf's: FOR A HAND-IN. Each laying: the table of numbers ('.._ren') and one theorem, a field a fact of the dump's own or the kernel's comparison; each contract: ONE APPLICATION.
-/
namespace Go.Proofs
open Go.Shelf
def Tryz.keysA_ren : Go.Shelf.Ren := ⟨fun | 7 => 42 | 10 => 73 | n => n, fun | 23 => 62 | 26 => 3 | 3 => 4 | 28 => 84 | 0 => 0 | 27 => 83 | 33 => 109 | 4 => 4 | n => n, fun | n => n⟩
theorem Tryz.keysA : Go.Proofs.SlLaysZI.n7 Tryz.prog Tryz.keysA_ren := {
 mixed := by kernel_rfl
 f7 := ⟨Tryz.f42.name, by decide, Tryz.func42.trans (congrArg some (by kernel_rfl))⟩
 f10 := ⟨Tryz.f73.name, by decide, Tryz.func73.trans (congrArg some (by kernel_rfl))⟩
 t0 := Tryz.underlying0
 a0 := Tryz.isAgg0
 z0 := Tryz.sizeOf0
 v0 := Tryz.zeroValue0
 t4 := Tryz.underlying4
 a4 := Tryz.isAgg4
 z4 := Tryz.sizeOf4
 v4 := Tryz.zeroValue4
 t23 := Tryz.underlying62
 a23 := Tryz.isAgg62
 z23 := Tryz.sizeOf62
 v23 := Tryz.zeroValue62
 t26 := Tryz.underlying3
 a26 := Tryz.isAgg3
 z26 := Tryz.sizeOf3
 v26 := Tryz.zeroValue3
 t27 := Tryz.underlying83
 a27 := Tryz.isAgg83
 z27 := Tryz.sizeOf83
 v27 := Tryz.zeroValue83
 t28 := Tryz.underlying84
 a28 := Tryz.isAgg84
 z28 := Tryz.sizeOf84
 v28 := Tryz.zeroValue84
 t33 := Tryz.underlying109
 a33 := Tryz.isAgg109
 z33 := Tryz.sizeOf109
 v33 := Tryz.zeroValue109 }
def Tryz.sortedA_ren : Go.Shelf.Ren := ⟨fun | 6 => 41 | 8 => 71 | 9 => 72 | 11 => 95 | 13 => 97 | 12 => 96 | 23 => 116 | 24 => 117 | 14 => 107 | 15 => 108 | 16 => 109 | 17 => 110 | 18 => 111 | 19 => 112 | 20 => 113 | 21 => 114 | 22 => 115 | 25 => 128 | 26 => 129 | 27 => 130 | 28 => 131 | 29 => 132 | 30 => 133 | 31 => 145 | n => n, fun | 26 => 3 | 28 => 84 | 24 => 48 | 0 => 0 | 3 => 3 | 37 => 89 | 48 => 146 | 50 => 22 | 4 => 4 | 40 => 140 | 39 => 139 | 45 => 43 | 5 => 5 | 9 => 9 | 51 => 156 | 55 => 160 | 57 => 172 | 58 => 173 | 33 => 109 | n => n, fun | n => n⟩
theorem Tryz.sortedA : Go.Proofs.SlLaysZI.n6 Tryz.prog Tryz.sortedA_ren := {
 mixed := by kernel_rfl
 f6 := ⟨Tryz.f41.name, by decide, Tryz.func41.trans (congrArg some (by kernel_rfl))⟩
 f8 := ⟨Tryz.f71.name, by decide, Tryz.func71.trans (congrArg some (by kernel_rfl))⟩
 f11 := ⟨Tryz.f95.name, by decide, Tryz.func95.trans (congrArg some (by kernel_rfl))⟩
 t0 := Tryz.underlying0
 a0 := Tryz.isAgg0
 z0 := Tryz.sizeOf0
 v0 := Tryz.zeroValue0
 t24 := Tryz.underlying48
 a24 := Tryz.isAgg48
 z24 := Tryz.sizeOf48
 v24 := Tryz.zeroValue48
 t26 := Tryz.underlying3
 a26 := Tryz.isAgg3
 z26 := Tryz.sizeOf3
 v26 := Tryz.zeroValue3
 t28 := Tryz.underlying84
 a28 := Tryz.isAgg84
 z28 := Tryz.sizeOf84
 v28 := Tryz.zeroValue84
 i26 := by kernel_rfl }
def Tryz.sortA_ren : Go.Shelf.Ren := ⟨fun | 5 => 72 | 8 => 97 | 7 => 96 | 19 => 116 | 20 => 117 | 10 => 107 | 11 => 108 | 12 => 109 | 13 => 110 | 14 => 111 | 15 => 112 | 16 => 113 | 17 => 114 | 18 => 115 | 30 => 128 | 31 => 129 | 32 => 130 | 33 => 131 | 34 => 132 | 35 => 133 | 40 => 145 | n => n, fun | 23 => 48 | 25 => 3 | 3 => 3 | 32 => 89 | 22 => 48 | 0 => 0 | 44 => 146 | 46 => 22 | 4 => 4 | 36 => 140 | 35 => 139 | 41 => 43 | 5 => 5 | 9 => 9 | 53 => 156 | 57 => 160 | 63 => 172 | 64 => 173 | n => n, fun | n => n⟩
theorem Tryz.sortA : Go.Proofs.SlLaysM.n5 Tryz.prog Tryz.sortA_ren := {
 mixed := by kernel_rfl
 f5 := ⟨Tryz.f72.name, by decide, Tryz.func72.trans (congrArg some (by kernel_rfl))⟩
 f7 := ⟨Tryz.f96.name, by decide, Tryz.func96.trans (congrArg some (by kernel_rfl))⟩
 f8 := Tryz.func97.trans (congrArg some (by kernel_rfl))
 f10 := ⟨Tryz.f107.name, by decide, Tryz.func107.trans (congrArg some (by kernel_rfl))⟩
 f11 := ⟨Tryz.f108.name, by decide, Tryz.func108.trans (congrArg some (by kernel_rfl))⟩
 f12 := ⟨Tryz.f109.name, by decide, Tryz.func109.trans (congrArg some (by kernel_rfl))⟩
 f13 := ⟨Tryz.f110.name, by decide, Tryz.func110.trans (congrArg some (by kernel_rfl))⟩
 f14 := ⟨Tryz.f111.name, by decide, Tryz.func111.trans (congrArg some (by kernel_rfl))⟩
 f15 := ⟨Tryz.f112.name, by decide, Tryz.func112.trans (congrArg some (by kernel_rfl))⟩
 f16 := ⟨Tryz.f113.name, by decide, Tryz.func113.trans (congrArg some (by kernel_rfl))⟩
 f17 := ⟨Tryz.f114.name, by decide, Tryz.func114.trans (congrArg some (by kernel_rfl))⟩
 f18 := ⟨Tryz.f115.name, by decide, Tryz.func115.trans (congrArg some (by kernel_rfl))⟩
 f19 := Tryz.func116.trans (congrArg some (by kernel_rfl))
 f20 := Tryz.func117.trans (congrArg some (by kernel_rfl))
 f30 := ⟨Tryz.f128.name, by decide, Tryz.func128.trans (congrArg some (by kernel_rfl))⟩
 f31 := Tryz.func129.trans (congrArg some (by kernel_rfl))
 f32 := Tryz.func130.trans (congrArg some (by kernel_rfl))
 f33 := ⟨Tryz.f131.name, by decide, Tryz.func131.trans (congrArg some (by kernel_rfl))⟩
 f34 := ⟨Tryz.f132.name, by decide, Tryz.func132.trans (congrArg some (by kernel_rfl))⟩
 f35 := ⟨Tryz.f133.name, by decide, Tryz.func133.trans (congrArg some (by kernel_rfl))⟩
 f40 := ⟨Tryz.f145.name, by decide, Tryz.func145.trans (congrArg some (by kernel_rfl))⟩
 t0 := Tryz.underlying0
 a0 := Tryz.isAgg0
 z0 := Tryz.sizeOf0
 v0 := Tryz.zeroValue0
 t3 := Tryz.underlying3
 a3 := Tryz.isAgg3
 z3 := Tryz.sizeOf3
 v3 := Tryz.zeroValue3
 t4 := Tryz.underlying4
 a4 := Tryz.isAgg4
 z4 := Tryz.sizeOf4
 v4 := Tryz.zeroValue4
 t5 := Tryz.underlying5
 a5 := Tryz.isAgg5
 z5 := Tryz.sizeOf5
 v5 := Tryz.zeroValue5
 t9 := Tryz.underlying9
 a9 := Tryz.isAgg9
 z9 := Tryz.sizeOf9
 v9 := Tryz.zeroValue9
 t22 := Tryz.underlying48
 a22 := Tryz.isAgg48
 z22 := Tryz.sizeOf48
 v22 := Tryz.zeroValue48
 t23 := Tryz.underlying48
 a23 := Tryz.isAgg48
 z23 := Tryz.sizeOf48
 v23 := Tryz.zeroValue48
 t25 := Tryz.underlying3
 a25 := Tryz.isAgg3
 z25 := Tryz.sizeOf3
 v25 := Tryz.zeroValue3
 t32 := Tryz.underlying89
 a32 := Tryz.isAgg89
 z32 := Tryz.sizeOf89
 v32 := Tryz.zeroValue89
 t35 := Tryz.underlying139
 a35 := Tryz.isAgg139
 z35 := Tryz.sizeOf139
 v35 := Tryz.zeroValue139
 t36 := Tryz.underlying140
 a36 := Tryz.isAgg140
 z36 := Tryz.sizeOf140
 v36 := Tryz.zeroValue140
 t41 := Tryz.underlying43
 a41 := Tryz.isAgg43
 z41 := Tryz.sizeOf43
 v41 := Tryz.zeroValue43
 t44 := Tryz.underlying146
 a44 := Tryz.isAgg146
 z44 := Tryz.sizeOf146
 v44 := Tryz.zeroValue146
 t46 := Tryz.underlying22
 a46 := Tryz.isAgg22
 z46 := Tryz.sizeOf22
 v46 := Tryz.zeroValue22
 t53 := Tryz.underlying156
 a53 := Tryz.isAgg156
 z53 := Tryz.sizeOf156
 v53 := Tryz.zeroValue156
 t57 := Tryz.underlying160
 a57 := Tryz.isAgg160
 z57 := Tryz.sizeOf160
 v57 := Tryz.zeroValue160
 t63 := Tryz.underlying172
 a63 := Tryz.isAgg172
 z63 := Tryz.sizeOf172
 v63 := Tryz.zeroValue172
 t64 := Tryz.underlying173
 a64 := Tryz.isAgg173
 z64 := Tryz.sizeOf173
 v64 := Tryz.zeroValue173 }
end Go.Proofs

/-
 The contracts of Equal at two equal lists of numbers, and of the dialer's Addr.
-/
namespace Go.Proofs.YtiklhaajhdephaaGreatDoor
open Go.RowKit
set_option linter.unusedVariables false
set_option linter.unusedSimpArgs false

theorem eqI1 (x : Int) (w : World) : Calls Tryz.prog 83 #[.int .i64 x, .int .i64 x] w fun e w' => e = .returned (.bool true) ∧ w = w' := by
 go_enter Tryz.func83, Tryz.ntmps83
 go_wp2_with fail
 go_ret
 exact ⟨by simp, rfl⟩
set_option maxRecDepth 100000 in
set_option maxHeartbeats 2000000 in
theorem equalI (wa wb w : World) (v1 v2 : Value) (l : List Nat) (h1 : OwnK wa w v1 l) (h2 : OwnK wb w v2 l) :
  Calls Tryz.prog 52 #[v1, v2] w fun e w' => e = .returned (.bool true) ∧ Touch [] w w' := by
 obtain ⟨a1, c1, rfl, hc1, hm1, hat1⟩ := h1.form
 obtain ⟨a2, c2, rfl, hc2, hm2, hat2⟩ := h2.form
 obtain ⟨n, hn⟩ : ∃ n, n = l.length := ⟨_, rfl⟩
 have HN := Lib.hid hn
 have H1 := Lib.hid h1
 have H2 := Lib.hid h2
 have hn1 : n ≤ 9223372036854775807 := by unfold maxLen at hm1; omega
 have hq : ((n : Int) != (n : Int)) = false := by simp
 rw [← hn] at H1 H2 hat1 hat2 ⊢
 clear h1 h2 hm1 hm2 hn hc1 hc2
 go_enter Tryz.func52, Tryz.ntmps52
 go_wp2_with fail
 go_enter Tryz.func82, Tryz.ntmps82
 go_wp2_with fail
 go_loopw [7] (fun vi wr => ∃ (i : Nat), i ≤ n ∧ vi = .int .i64 i ∧ Touch [] w wr) (fun vi _ => n - (intOf vi).toNat)
 case atStart => exact ⟨0, by omega, rfl, Touch.refl _ _⟩
 case round =>
  obtain ⟨i, hin, rfl, ht⟩ := hrel
  have HT := Lib.hid ht
  clear ht
  by_cases hlt : i < n
  ·obtain ⟨x, hx⟩ : ∃ x, l[i]? = some x := ⟨_, List.getElem?_eq_getElem (by rw [← HN.out]; exact hlt)⟩
   obtain ⟨g1, rfl⟩ := hat1 (by omega)
   obtain ⟨g2, rfl⟩ := hat2 (by omega)
   have r1 := H1.out.cell HN.out hx
   have r2 := H2.out.cell HN.out hx
   have hwi : IntKind.i64.wrap ((i : Int) + 1) = (i : Int) + 1 := by rw [IntKind.wrap_i64] <;> omega
   have hin2 : (i : Int) < (n : Int) := by omega
   clear hx
   go_wp2_with fail
   refine wp_region_held (S := Touch [] wr.drew) (by kernel_rfl) ?_
   change wpAnyH _ _ _ _ _ _ _ _ wr.drew
   have r1 := HT.out.drew.cell r1 (by simp)
   have r2 := HT.out.drew.cell r2 (by simp)
   have HTd := Lib.hid (HT.out.drew)
   clear HT
   generalize wr.drew = W at *
   have hS := Touch.refl [] W
   refine tkH 0 (.func (.func 83) #[] #[]) ?_
   refine tkH 1 (.slice (some ⟨g1, 0, none⟩) n c1) ?_
   refine tkH 2 (.int .i64 (i : Nat)) ?_
   refine tkH 3 (.pointer (some ⟨g1, i, none⟩)) ?_
   refine tkH 4 (.int .i64 (x : Nat)) ?_ (hy := Or.inl ⟨by rfl, fun w' hw => by (have q := hw.cell r1 (by simp); go_simp)⟩)
   refine tkH 5 (.slice (some ⟨g2, 0, none⟩) n c2) ?_
   refine tkH 6 (.int .i64 (i : Nat)) ?_
   refine tkH 7 (.pointer (some ⟨g2, i, none⟩)) ?_
   refine tkH 8 (.int .i64 (x : Nat)) ?_ (hy := Or.inl ⟨by rfl, fun w' hw => by (have q := hw.cell r2 (by simp); go_simp)⟩)
   refine wpAnyH_ready (rs := [9]) (by kernel_rfl) (by simp) ?_
   refine cnH rfl (fun K hK => ?_) AllReadyH.nil
   go_simp
   refine (eqI1 (x : Nat) _).mono ?_
   rintro e _ ⟨rfl, rfl⟩
   refine hK.out _ _ hS (fun _ => ?_)
   clear hK K
   try simp only [Act.put, sT, s0, sS]
   refine tkH 10 (.bool false) ?_
   refine wpAnyH_done (by kernel_rfl) ?_ _
   try simp only [Act.put, sT, s0, sS]
   have HT2 := Lib.hid (HTd.out.trans hS (by simp))
   clear hS HTd
   go_wp2_with fail
   go_roundw
   case rel => exact ⟨i + 1, by omega, by go_num, HT2.out⟩
   case measure => simp [intOf]; omega
  ·go_wp2_with fail
   go_ret
   exact ⟨rfl, HT.out⟩
set_option maxRecDepth 100000 in
set_option maxHeartbeats 2000000 in
theorem daddr_no (w0 w : World) (h : Nat) (b : DV) (s : DS) (d : Dl w0 w h b s) (k : Int) (hk : k < 1 ∨ (s.S.length : Int) < k) :
  Calls Tryz.prog 13 #[.pointer (some ⟨h, 0, none⟩), .int .i64 k] w fun e w' => e = .returned (.tuple #[.agg zAd.cells.toArray, .bool false]) ∧ Touch [] w w' := by
 have HT := Lib.hid ((Touch.refl [] w).alloc (.cells (adr false (List.replicate 16 0)).toArray 40))
 have HG := Lib.hid (heap_alloc_new w (.cells (adr false (List.replicate 16 0)).toArray 40))
 have HD := Lib.hid (d.touch0 HT.out)
 obtain ⟨_, _, _, _, _, _, _, _, _, c9, _, _⟩ := d.cells
 obtain ⟨aS, kS, hvs, _, _, _⟩ := d.so.form
 rw [hvs] at c9
 generalize s.S.length = m at *
 have c9a : ∀ o, (w.alloc o).cell? ⟨h, 9, none⟩ = some (.slice aS m kS) := fun o => ((Touch.refl [] w).alloc o).cell c9 (by simp)
 clear c9
 have HZL := Lib.hid zAd.len
 clear d hvs
 by_cases h1 : k < 1
 ·clear hk
  go_enter Tryz.func13, Tryz.ntmps13
  go_wp2_with (first | ((with_reducible refine at_build 40 ?_); refine wpList_built (by rfl) 40 _ (by rfl) _ _ (by rfl) built_zAd ?_) | ((with_reducible refine at_store 40 ?_); refine wpList_store_into rfl 40 _ _ rfl w.heap.size 40 _ zAd.cells rfl rfl HG.out (by rw [HZL.out]; rfl) (by rw [size31, HZL.out]) zAd.one ?_))
  intro w4 h4 t4 z4
  go_wp2_with fail
  exact ret_row_tmp rfl size31 Tryz.underlying40 rfl HZL.out rfl rfl h4 ⟨rfl, HT.out.trans t4 (by intro y hy; right; simp at hy; omega)⟩
 ·have h2 : decide (k < 1) = false := by simpa using h1
  have h3 : (m : Int) < k := by omega
  clear hk h1
  go_enter Tryz.func13, Tryz.ntmps13
  go_wp2_with (first | ((with_reducible refine at_build 40 ?_); refine wpList_built (by rfl) 40 _ (by rfl) _ _ (by rfl) built_zAd ?_) | ((with_reducible refine at_store 40 ?_); refine wpList_store_into rfl 40 _ _ rfl w.heap.size 40 _ zAd.cells rfl rfl HG.out (by rw [HZL.out]; rfl) (by rw [size31, HZL.out]) zAd.one ?_))
  intro w4 h4 t4 z4
  go_wp2_with fail
  exact ret_row_tmp rfl size31 Tryz.underlying40 rfl HZL.out rfl rfl h4 ⟨rfl, HT.out.trans t4 (by intro y hy; right; simp at hy; omega)⟩
set_option maxRecDepth 100000 in
set_option maxHeartbeats 2000000 in
theorem daddr_yes (w0 w : World) (h : Nat) (b : DV) (s : DS) (d : Dl w0 w h b s) (hl : s.S.length ≤ 1000000) (i : Nat) (a : Ad) (ha : s.S[i]? = some a) :
  Calls Tryz.prog 13 #[.pointer (some ⟨h, 0, none⟩), .int .i64 ((i : Int) + 1)] w fun e w' => e = .returned (.tuple #[.agg a.cells.toArray, .bool true]) ∧ Touch [] w w' := by
 have HT := Lib.hid ((Touch.refl [] w).alloc (.cells (adr false (List.replicate 16 0)).toArray 40))
 have HG := Lib.hid (heap_alloc_new w (.cells (adr false (List.replicate 16 0)).toArray 40))
 have HD := Lib.hid (d.touch0 HT.out)
 obtain ⟨_, _, _, _, _, _, _, _, _, c9, _, _⟩ := d.cells
 obtain ⟨aS, kS, hvs, _, _, hat⟩ := d.so.form
 have hi : i < s.S.length := (List.getElem?_eq_some_iff.1 ha).1
 obtain ⟨g, rfl⟩ := hat (by omega)
 obtain ⟨m, hm⟩ : ∃ m, m = s.S.length := ⟨_, rfl⟩
 have ra := own_at (l := s.S) (i := i) (a := a) (by have := HD.out.so.row'; rw [hvs] at this; exact this) ha
 rw [hvs, ← hm] at c9
 rw [← hm] at hi hl
 have c9a : ∀ o, (w.alloc o).cell? ⟨h, 9, none⟩ = some (.slice (some ⟨g, 0, none⟩) m kS) := fun o => ((Touch.refl [] w).alloc o).cell c9 (by simp)
 clear c9
 have HLA := Lib.hid a.len
 have h1 : decide ((i : Int) + 1 < 1) = false := by simp; omega
 have h2 : ¬ (m : Int) < (i : Int) + 1 := by omega
 have h3 : decide ((m : Int) < (i : Int) + 1) = false := by simpa using h2
 have hwi : IntKind.i64.wrap ((i : Int) + 1 - 1) = (i : Int) := by rw [IntKind.wrap_i64] <;> omega
 clear d hvs ha hm hat h2
 go_enter Tryz.func13, Tryz.ntmps13
 go_wp2_with (first
  | ((with_reducible refine at_load 40 ?_); refine wpList_load_mid rfl 40 _ rfl g (i * 17) rfl a.cells _ ra Tryz.underlying40 rfl (by rw [size31, HLA.out]) ?_)
  | ((with_reducible refine at_store 40 ?_); refine wpList_store_into rfl 40 _ _ rfl w.heap.size 40 _ a.cells rfl rfl HG.out (by rw [HLA.out]; rfl) (by rw [size31, HLA.out]) a.one ?_))
 intro w4 h4 t4 z4
 go_wp2_with fail
 exact ret_row_tmp rfl size31 Tryz.underlying40 rfl HLA.out rfl rfl h4 ⟨rfl, HT.out.trans t4 (by intro y hy; right; simp at hy; omega)⟩
end Go.Proofs.YtiklhaajhdephaaGreatDoor

/-
 The contract of the dialer's Active.
-/
namespace Go.Proofs.YtiklhaajhdephaaGreatDoor
open Go.RowKit
set_option linter.unusedVariables false
set_option linter.unusedSimpArgs false

def rdNil : Value → Option (DataW Unit × List MemPlace) := fun _ => some (.nil, [])
def keyI : Value → Int
 | .int _ k => k
 | _ => 0
theorem Mp.own {w : World} {b : Nat} {l : List Nat} (h : Mp encZ okZ w b (actM l)) (hl : l.length ≤ 1000000) : ∃ D : DataW Unit, w.ownsMap Tryz.prog 3 rdNil b l.length D ∧ Maps.size D = l.length ∧ (Go.intKeys D).Perm (l.map fun (k : Nat) => (k : Int)) := by
 obtain ⟨es, clock, m⟩ := h
 have hsz : es.size = l.length := by
  have := congrArg List.length m.eq
  simpa [actM] using this
 have hkey : ∀ x ∈ es.toList, ∃ k ∈ l, x.key = .int .i64 (k : Int) ∧ okZ (k : Int) := by
  intro x hx
  have h1 : (x.key, x.val) ∈ es.toList.map (fun e => (e.key, e.val)) := List.mem_map.2 ⟨x, hx, rfl⟩
  rw [m.eq] at h1
  obtain ⟨p, hp, e⟩ := List.mem_map.1 h1
  obtain ⟨k, hk, e2⟩ := List.mem_map.1 hp
  subst e2
  have e3 := (Prod.mk.inj e).1
  exact ⟨k, hk, e3.symm, m.oks _ hp⟩
 have hrd : ∀ x ∈ es.toList, Go.WideElems.rd Tryz.prog 3 rdNil x = some (.int .i64 (keyI x.key), .nil) := by
  intro x hx
  obtain ⟨k, hk, e, ho⟩ := hkey x hx
  have h1 := Go.Maps.keyOf_int_mk Tryz.underlying3 ho
  unfold Go.WideElems.rd
  rw [e, h1]
  rfl
 refine ⟨_, ⟨es, clock, m.blk, ⟨by rw [hsz]; unfold maxLen; omega, m.st, fun x hx => ⟨_, hrd x hx⟩⟩, by omega, rfl⟩, ?_, ?_⟩
 ·show ((es.toList.map _).foldr DataW.insert []).length = _
  rw [(Go.WideShapes.sorted_perm _).length_eq]
  simpa using hsz
 ·show (((es.toList.map _).foldr DataW.insert []).map fun p => Go.intOf p.1).Perm _
  refine ((Go.WideShapes.sorted_perm _).map _).trans (List.Perm.of_eq ?_)
  rw [List.map_map]
  have h2 : es.toList.map ((fun p : Lit × DataW Unit => Go.intOf p.1) ∘ Go.WideElems.rg Tryz.prog 3 rdNil) = es.toList.map fun x => keyI x.key := by
   refine List.map_congr_left fun x hx => ?_
   simp only [Function.comp]
   rw [Go.WideElems.rg_of (hrd x hx)]
   rfl
  rw [h2]
  have h3 := congrArg (List.map keyI) m.keys
  simp only [List.map_map, Function.comp_def, actM] at h3
  rw [h3]
  rfl
open Go.Maps Go.Sort Go.Shelf in
theorem sortsA (m : Nat) : AnyZI.SortsIn Tryz.prog Tryz.sortedA_ren Fence.wide m :=
 ⟨fun blk off cap ss W hH hblk hsz => callsIn_wide.2 (AnyM.slices_Sort_int Tryz.sortA blk off cap ss W hH hblk hsz),
  fun p cap W => callsIn_wide.2 (AnyM.slices_Sort_int_none Tryz.sortA p cap W)⟩
theorem sorted_act {l : List Nat} (h : l.Pairwise (· < ·)) {ss : List Int} (hp : ss.Perm (l.map fun (k : Nat) => (k : Int))) : ss.mergeSort (fun x y => decide (x ≤ y)) = l.map fun (k : Nat) => (k : Int) := by
 rw [show ss.mergeSort (fun x y => decide (x ≤ y)) = (l.map fun (k : Nat) => (k : Int)).mergeSort (fun x y => decide (x ≤ y)) from Go.mergeSort_of_perm_i hp]
 refine List.mergeSort_of_pairwise ?_
 refine List.pairwise_map.2 (h.imp fun {a b} hab => ?_)
 simp
 omega
open Go.Maps Go.Sort Go.Shelf in
set_option maxRecDepth 100000 in
set_option maxHeartbeats 2000000 in
theorem dact_any (w0 w : World) (h : Nat) (b : DV) (s : DS) (d : Dl w0 w h b s) (hs : s.act.Pairwise (· < ·)) (hl : s.act.length ≤ 1000000) :
  Calls Tryz.prog 14 #[.pointer (some ⟨h, 0, none⟩)] w fun e w' => ∃ v, e = .returned v ∧ OwnK w w' v s.act ∧ Touch [] w w' := by
 obtain ⟨D0, hown, hsize, hperm⟩ := Mp.own d.mp hl
 obtain ⟨_, _, _, _, _, _, _, _, _, _, c10, _⟩ := d.cells
 have hmlt := d.mp.lt
 have HS := Lib.hid hs
 have HP := Lib.hid hperm
 have hD1 : Maps.size D0 ≤ maxLen := by rw [hsize]; unfold maxLen; omega
 have hD2 : Maps.size D0 * 8 ≤ 140737488355328 := by rw [hsize]; omega
 generalize b.hm = bm at *
 clear d hs hperm
 refine (callsIn_wide (n := 6)).1 ?_
 have hseq : SeqGives Fence.wide 2 Tryz.prog 73 #[.pointer (some ⟨w.heap.size, 0, none⟩)] Go.encZ (fun ss => ss.Perm (Go.intKeys D0)) (Maps.size D0) (w.alloc (.cells #[.map (some bm)] 62)) :=
  AnyZI.keys_gives (ρ := Tryz.keysA_ren) { Tryz.keysA with } Fence.wide _ trivial rfl (by omega) w.heap.size bm s.act.length D0 _ (by simp) (by simp) (by
   obtain ⟨es, clock, hb, Ft, hs, hD⟩ := hown
   exact ⟨es, clock, (Below.heap_alloc _ _ bm hmlt).trans hb, Ft, hs, hD⟩)
 have cK : ∀ mb W, CallsIn Fence.wide 5 Tryz.prog 42 #[.map mb] W fun e w' => e = .returned (.func (.func 73) #[] #[.pointer (some ⟨W.heap.size, 0, none⟩)]) ∧ w' = W.alloc (.cells #[.map mb] 62) := fun mb W => AnyZI.keys_in Tryz.keysA Fence.wide 5 trivial rfl mb W
 have cS := AnyZI.sorted_in Tryz.sortedA Fence.wide 5 trivial trivial trivial trivial rfl (by omega) (sortsA _) (enters_of Tryz.func72 (by kernel_rfl) rfl) 73 #[.pointer (some ⟨w.heap.size, 0, none⟩)] trivial (enters_of Tryz.func73 (by kernel_rfl) rfl) _ _ hD1 hD2 _ hseq
 change CallsIn _ _ Tryz.prog 41 _ _ _ at cS
 have hfK : Fence.wide.fn 42 := trivial
 have hfS : Fence.wide.fn 41 := trivial
 refine callsIn_of_wp Tryz.func14 rfl trivial ?_ rfl
 simp only [Tryz.ntmps14, List.size_toArray, List.length_cons, List.length_nil, Nat.reduceAdd, Nat.reduceSub, Array.replicate_succ, Array.replicate_zero, List.push_toArray, List.append_toArray, List.nil_append, List.cons_append]
 gi_wp2_with (first
  | (gi_at_call 42; refine (cK _ _).mono ?_; rintro e w' ⟨rfl, rfl⟩)
  | (gi_at_call 41; refine cS.mono ?_; rintro e w' ⟨v, ss, rfl, hS, hrow, hnil, hb⟩))
 go_ret
 rw [sorted_act HS.out (hS.trans HP.out)] at hrow
 have hlen : ss.length = s.act.length := by have := (hS.trans HP.out).length_eq; simpa using this
 rw [hlen] at hrow
 simp only [List.map_map] at hrow
 exact ⟨v, rfl, ⟨ownsRow_base_a hrow (by simp), fun g hg => by have := (hrow.lt g hg).1; simp at this; omega⟩, Touch.of_below (((Below.refl _ w).alloc (Nat.le_refl _) _).trans (hb.mono (by simp)))⟩
end Go.Proofs.YtiklhaajhdephaaGreatDoor

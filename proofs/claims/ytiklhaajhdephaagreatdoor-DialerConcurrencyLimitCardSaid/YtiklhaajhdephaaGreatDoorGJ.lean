/-
  Merged texts: Rs, Rl, Rz.
-/
import Derived.Test.YtiklhaajhdephaaGreatDoorGI
import Derived.Test.YtiklhaajhdephaaGreatDoorGG
import Derived.Test.YtiklhaajhdephaaGreatDoorGA

/-
 The contracts of the reference's Precedence and Scope.
-/
namespace Go.Proofs.YtiklhaajhdephaaGreatDoor
open Go.RowKit
set_option linter.unusedVariables false
set_option linter.unusedSimpArgs false

/-- A byte of an address. -/
def byte (xs : List Int) (i : Nat) : Int := xs[i]?.getD 0
/-! ### what hasPrefix says of the first bytes -/
theorem keep_full (bits : Int) (i : Nat) (x : Int) (h : 0 ≤ x ∧ x ≤ 255) (hk : 8 * (i : Int) + 8 ≤ bits) : cutB bits i x = x := by
 refine byte_ext _ _ (cutB_ok _ _ _) h fun j hj => ?_
 rw [cutB_bit bits i x h j hj, if_pos (by omega)]
theorem keep_none (bits : Int) (i : Nat) (x : Int) (h : 0 ≤ x ∧ x ≤ 255) (hk : bits ≤ 8 * (i : Int)) : cutB bits i x = 0 := by
 refine byte_ext _ _ (cutB_ok _ _ _) (by omega) fun j hj => ?_
 rw [cutB_bit bits i x h j hj, if_neg (by omega)]
 simp
theorem trunc_lead (bits : Int) (cs xs : List Int) (h : okB xs) (hm : cs.length ≤ 16) (hb : bits ≤ 8 * cs.length) : trunc bits xs = lead cs ↔ ∀ i : Nat, i < cs.length → cutB bits i (byte xs i) = cs[i]?.getD 0 := by
 constructor
 ·intro e i hi
  have e2 := congrArg (fun l => l[i]?) e
  obtain ⟨x, hx⟩ : ∃ x, xs[i]? = some x := ⟨_, List.getElem?_eq_getElem (by rw [h.1]; omega)⟩
  obtain ⟨c, hc⟩ : ∃ c, cs[i]? = some c := ⟨_, List.getElem?_eq_getElem hi⟩
  have e3 : (lead cs)[i]? = some c := by unfold lead; rw [List.getElem?_append_left hi, hc]
  simp only [trunc, List.getElem?_mapIdx, hx, e3, Option.map_some, Option.some.injEq] at e2
  simp [byte, hx, hc, e2]
 ·intro hh
  apply List.ext_getElem?
  intro i
  by_cases hi : i < 16
  ·obtain ⟨x, hx⟩ : ∃ x, xs[i]? = some x := ⟨_, List.getElem?_eq_getElem (by rw [h.1]; omega)⟩
   have hxr := h.2 x (List.mem_of_getElem? hx)
   simp only [trunc, List.getElem?_mapIdx, hx, Option.map_some]
   by_cases hc : i < cs.length
   ·obtain ⟨c, hcc⟩ : ∃ c, cs[i]? = some c := ⟨_, List.getElem?_eq_getElem hc⟩
    have := hh i hc
    simp [byte, hx, hcc] at this
    rw [this]
    unfold lead
    rw [List.getElem?_append_left hc, hcc]
   ·rw [keep_none bits i x hxr (by omega)]
    unfold lead
    rw [List.getElem?_append_right (by omega), List.getElem?_replicate, if_pos (by omega)]
  ·rw [List.getElem?_eq_none (by simp [trunc, h.1]; omega), List.getElem?_eq_none (by simp [lead]; omega)]
theorem byte_ok {xs : List Int} (h : okB xs) (i : Nat) (hi : i < 16) : 0 ≤ byte xs i ∧ byte xs i ≤ 255 := by
 obtain ⟨x, hx⟩ : ∃ x, xs[i]? = some x := ⟨_, List.getElem?_eq_getElem (by rw [h.1]; omega)⟩
 simp only [byte, hx, Option.getD_some]
 exact h.2 x (List.mem_of_getElem? hx)
theorem hp127 {xs : List Int} (h : okB xs) : hpP 8 [127] xs = decide (byte xs 0 = 127) := by
 have e := trunc_lead 8 [127] xs h (by decide) (by decide)
 unfold hpP
 have q : (∀ i : Nat, i < [(127 : Int)].length → cutB 8 i (byte xs i) = [(127 : Int)][i]?.getD 0) ↔ byte xs 0 = 127 := by
  constructor
  ·intro hh
   have := hh 0 (by decide)
   rw [keep_full 8 0 _ (byte_ok h 0 (by omega)) (by decide)] at this
   simpa using this
  ·intro hh i hi
   have : i = 0 := by simp at hi; omega
   subst this
   rw [keep_full 8 0 _ (byte_ok h 0 (by omega)) (by decide), hh]
   rfl
 exact decide_eq_decide.2 (e.trans q)
theorem two_bytes (bits a b : Int) {xs : List Int} (h : okB xs) (hb : bits ≤ 16) (h8 : 8 ≤ bits) : hpP bits [a, b] xs = decide (byte xs 0 = a ∧ cutB bits 1 (byte xs 1) = b) := by
 have e := trunc_lead bits [a, b] xs h (by simp) (by simpa using hb)
 unfold hpP
 have q : (∀ i : Nat, i < [a, b].length → cutB bits i (byte xs i) = [a, b][i]?.getD 0) ↔ byte xs 0 = a ∧ cutB bits 1 (byte xs 1) = b := by
  constructor
  ·intro hh
   have h0 := hh 0 (by simp)
   have h1 := hh 1 (by simp)
   rw [keep_full bits 0 _ (byte_ok h 0 (by omega)) (by simpa using h8)] at h0
   exact ⟨by simpa using h0, by simpa using h1⟩
  ·intro hh i hi
   rcases (by simp at hi; omega : i = 0 ∨ i = 1) with rfl | rfl
   ·rw [keep_full bits 0 _ (byte_ok h 0 (by omega)) (by simpa using h8), hh.1]
    rfl
   ·rw [hh.2]
    rfl
 exact decide_eq_decide.2 (e.trans q)
theorem cut16 {xs : List Int} (h : okB xs) : cutB 16 1 (byte xs 1) = byte xs 1 := keep_full 16 1 _ (byte_ok h 1 (by omega)) (by decide)
theorem cut10 (x : Int) : cutB 10 1 x = Go.bits .and .u8 x 192 := by
 unfold cutB
 rfl
set_option maxRecDepth 100000 in
set_option maxHeartbeats 1000000 in
theorem rprec_any (b : Bool) (xs : List Int) (h : okB xs) (w : World) :
  Calls Tryz.prog 134 #[.agg (adr b xs).toArray] w fun e w' => e = .returned (.int .i64 (precP b xs)) ∧ Touch [] w w' := by
 have R1 := range_block (heap_alloc_new w (.cells (adr b xs).toArray 40))
 have HT := Lib.hid ((Touch.refl [] w).alloc (.cells (adr b xs).toArray 40))
 have HL17 := Lib.hid (show (adr b xs).length = 17 by simp [adr, h.1])
 cases hv : vld b xs
 ·have HS := Lib.hid (show precP b xs = -1 by unfold precP lookP; rw [hv]; rfl)
  have HPO := Lib.hid (rpol_bad b xs h hv)
  clear h hv
  go_enter Tryz.func134, Tryz.ntmps134
  go_wp2_with ((with_reducible refine at_load 40 ?_); refine wpList_load_mid rfl 40 _ rfl w.heap.size 0 rfl (adr b xs) _ R1 Tryz.underlying40 rfl (by rw [size31, HL17.out]) ?_)
  refine (HPO.out _).mono ?_
  rintro e w2 ⟨⟨cs, hcl, rfl, hc1⟩, t2⟩
  have HT2 := Lib.hid (HT.out.trans t2 (by simp))
  have HN := Lib.hid (heap_alloc_new w2 (.cells (prw false (List.replicate 16 0) 0 0 0).toArray 178))
  have HNT := Lib.hid ((Touch.refl [] w2).alloc (.cells (prw false (List.replicate 16 0) 0 0 0).toArray 178))
  have HC := Lib.hid hc1
  have HCL := Lib.hid hcl
  clear t2 HT R1 hc1 hcl
  go_wp2_with ((with_reducible refine at_store 178 ?_); refine wpList_store_into rfl 178 _ _ rfl w2.heap.size 178 _ cs rfl rfl HN.out (by rw [HCL.out]; rfl) (by rw [sizeR, HCL.out]) HC.out ?_)
  intro w3 h3 t3 z3
  have HT23 := Lib.hid (HNT.out.trans t3 (by intro y hy; right; simp at hy; omega))
  clear h3 t3 z3 HN HNT
  go_wp2_with fail
  go_ret
  exact ⟨by rw [HS.out]; rfl, HT2.out.trans HT23.out (by simp)⟩
 ·obtain ⟨r, hr⟩ : ∃ r, r = bestR (map6 b xs) 9 := ⟨_, rfl⟩
  have HS := Lib.hid (show precP b xs = r.prec by unfold precP lookP; rw [hv, hr]; exact congrArg PR.prec (best_same (map6 b xs) (map6_ok h) 7))
  have hpx : r.px.length = 16 := by rw [hr]; exact bestR_px _ _
  have HPO := Lib.hid (show ∀ w, Calls Tryz.prog 146 #[.agg (adr b xs).toArray] w fun e w' => e = .returned (.tuple #[.agg r.cells.toArray, .bool true]) ∧ Touch [] w w' by
   rw [hr]
   cases b
   ·exact rpol_good_false xs h hv
   ·exact rpol_good_true xs h hv)
  have HRL := Lib.hid (pr_len r hpx)
  have HPX := Lib.hid hpx
  clear h hv hr hpx
  go_enter Tryz.func134, Tryz.ntmps134
  go_wp2_with ((with_reducible refine at_load 40 ?_); refine wpList_load_mid rfl 40 _ rfl w.heap.size 0 rfl (adr b xs) _ R1 Tryz.underlying40 rfl (by rw [size31, HL17.out]) ?_)
  refine (HPO.out _).mono ?_
  rintro e w2 ⟨rfl, t2⟩
  have HT2 := Lib.hid (HT.out.trans t2 (by simp))
  have HN := Lib.hid (heap_alloc_new w2 (.cells (prw false (List.replicate 16 0) 0 0 0).toArray 178))
  have HNT := Lib.hid ((Touch.refl [] w2).alloc (.cells (prw false (List.replicate 16 0) 0 0 0).toArray 178))
  clear t2 HT R1
  go_wp2_with ((with_reducible refine at_store 178 ?_); refine wpList_store_into rfl 178 _ _ rfl w2.heap.size 178 _ r.cells rfl rfl HN.out (by rw [HRL.out]; rfl) (by rw [sizeR, HRL.out]) (prw_one _ _ _ _ _) ?_)
  intro w3 h3 t3 z3
  have HT23 := Lib.hid (HNT.out.trans t3 (by intro y hy; right; simp at hy; omega))
  have c18 : w3.cell? ⟨w2.heap.size, 18, none⟩ = some (.int .i64 r.prec) := by
   have := range_block h3 18 (.int .i64 r.prec) (by
    unfold PR.cells prw
    rw [List.getElem?_append_right (by simp [pfx, adr, HPX.out])]
    simp [pfx, adr, HPX.out])
   simpa using this
  clear h3 t3 z3 HN HNT
  go_wp2_with fail
  go_ret
  exact ⟨by rw [HS.out]; rfl, HT2.out.trans HT23.out (by simp)⟩
set_option maxRecDepth 100000 in
set_option maxHeartbeats 1000000 in
theorem rsc_bad (xs : List Int) (h : okB xs) (hv : vld false xs = false) (w : World) :
  Calls Tryz.prog 135 #[.agg (adr false xs).toArray] w fun e w' => e = .returned (.int .i64 (-1)) ∧ Touch [] w w' := by
 have g0 := ((Touch.refl [] w).alloc (.cells (adr false xs).toArray 40)).alloc (.cells (adr false (List.replicate 16 0)).toArray 40)
 have g1 := ((Touch.refl [] (w.alloc (.cells (adr false xs).toArray 40))).alloc (.cells (adr false (List.replicate 16 0)).toArray 40)).at (heap_alloc_new w (.cells (adr false xs).toArray 40)) (by simp)
 have g2 := heap_alloc2_new w (.cells (adr false xs).toArray 40) (.cells (adr false (List.replicate 16 0)).toArray 40)
 have HL17 := Lib.hid (show (adr false xs).length = 17 by simp [adr, h.1])
 have HT := Lib.hid g0
 have HG1 := Lib.hid g1
 have HG2 := Lib.hid g2
 have HV := Lib.hid hv
 have HVA := Lib.hid (rvalid_any false xs h)
 clear g0 g1 g2 h hv
 go_enter Tryz.func135, Tryz.ntmps135
 go_wp2_with (first
  | ((with_reducible refine at_build 40 ?_); refine wpList_built (by rfl) 40 _ (by rfl) _ _ (by rfl) built_one ?_)
  | ((with_reducible refine at_store 40 ?_); refine wpList_store_into rfl 40 _ _ rfl (w.heap.size + 1) 40 _ (adr true onev6) rfl rfl HG2.out rfl size31 (adr_one _ _) ?_))
 intro w1 h1 t1 z1
 have HT1 := Lib.hid (HT.out.trans t1 (by intro y hy; right; simp at hy; omega))
 have A1 := Lib.hid (t1.at HG1.out (by simp))
 have L1 := Lib.hid h1
 have RA := range_block A1.out
 clear h1 t1 z1 HT HG1 HG2
 go_wp2_with ((with_reducible refine at_load 40 ?_); refine wpList_load_mid rfl 40 _ rfl w.heap.size 0 rfl (adr false xs) _ RA Tryz.underlying40 rfl (by rw [size31, HL17.out]) ?_)
 refine (HVA.out _).mono ?_
 rintro e w2 ⟨he, t2⟩
 rw [HV.out] at he
 subst he
 have HT2 := Lib.hid (HT1.out.trans t2 (by simp))
 have A2 := t2.at A1.out (by simp)
 have L2 := t2.at L1.out (by simp)
 have RA := range_block A2
 have RL := range_block L2
 obtain ⟨c0, cj⟩ := adr_cell A2
 clear t2 HT1 A1 L1 A2 L2
 clear cj
 go_wp2_with (first
  | ((with_reducible refine at_load 40 ?_); refine wpList_load_mid rfl 40 _ rfl w.heap.size 0 rfl (adr false xs) _ RA Tryz.underlying40 rfl (by rw [size31, HL17.out]) ?_)
  | ((with_reducible refine at_load 40 ?_); refine wpList_load_mid rfl 40 _ rfl (w.heap.size + 1) 0 rfl (adr true onev6) _ RL Tryz.underlying40 rfl (by rw [size31]; rfl) ?_)
  | ((with_reducible refine at_bin .eql 40 ?_); refine wpList_eql_agg rfl 40 _ _ _ rfl _ _ rfl rfl (by kernel_rfl) _ (HEQ.out _) ?_))
 go_ret
 exact ⟨by first | rfl | simp, HT2.out⟩
set_option maxRecDepth 100000 in
set_option maxHeartbeats 1000000 in
theorem rsc_4a (xs : List Int) (h : okB xs) (hv : vld false xs = true) (b0 : byte xs 0 = 127) (w : World) :
  Calls Tryz.prog 135 #[.agg (adr false xs).toArray] w fun e w' => e = .returned (.int .i64 2) ∧ Touch [] w w' := by
 obtain ⟨x0, hx0⟩ : ∃ x, xs[0]? = some x := ⟨_, List.getElem?_eq_getElem (by have := h.1; omega)⟩
 obtain ⟨x1, hx1⟩ : ∃ x, xs[1]? = some x := ⟨_, List.getElem?_eq_getElem (by have := h.1; omega)⟩
 have r1 := h.2 x1 (List.mem_of_getElem? hx1)
 have e0 : byte xs 0 = x0 := by simp [byte, hx0]
 have e1 : byte xs 1 = x1 := by simp [byte, hx1]
 rw [e0] at b0
 subst b0
 clear e0 e1
 have g0 := ((Touch.refl [] w).alloc (.cells (adr false xs).toArray 40)).alloc (.cells (adr false (List.replicate 16 0)).toArray 40)
 have g1 := ((Touch.refl [] (w.alloc (.cells (adr false xs).toArray 40))).alloc (.cells (adr false (List.replicate 16 0)).toArray 40)).at (heap_alloc_new w (.cells (adr false xs).toArray 40)) (by simp)
 have g2 := heap_alloc2_new w (.cells (adr false xs).toArray 40) (.cells (adr false (List.replicate 16 0)).toArray 40)
 have HL17 := Lib.hid (show (adr false xs).length = 17 by simp [adr, h.1])
 have HT := Lib.hid g0
 have HG1 := Lib.hid g1
 have HG2 := Lib.hid g2
 have HV := Lib.hid hv
 have HVA := Lib.hid (rvalid_any false xs h)
 clear g0 g1 g2 h hv
 go_enter Tryz.func135, Tryz.ntmps135
 go_wp2_with (first
  | ((with_reducible refine at_build 40 ?_); refine wpList_built (by rfl) 40 _ (by rfl) _ _ (by rfl) built_one ?_)
  | ((with_reducible refine at_store 40 ?_); refine wpList_store_into rfl 40 _ _ rfl (w.heap.size + 1) 40 _ (adr true onev6) rfl rfl HG2.out rfl size31 (adr_one _ _) ?_))
 intro w1 h1 t1 z1
 have HT1 := Lib.hid (HT.out.trans t1 (by intro y hy; right; simp at hy; omega))
 have A1 := Lib.hid (t1.at HG1.out (by simp))
 have L1 := Lib.hid h1
 have RA := range_block A1.out
 clear h1 t1 z1 HT HG1 HG2
 go_wp2_with ((with_reducible refine at_load 40 ?_); refine wpList_load_mid rfl 40 _ rfl w.heap.size 0 rfl (adr false xs) _ RA Tryz.underlying40 rfl (by rw [size31, HL17.out]) ?_)
 refine (HVA.out _).mono ?_
 rintro e w2 ⟨he, t2⟩
 rw [HV.out] at he
 subst he
 have HT2 := Lib.hid (HT1.out.trans t2 (by simp))
 have A2 := t2.at A1.out (by simp)
 have L2 := t2.at L1.out (by simp)
 have RA := range_block A2
 have RL := range_block L2
 obtain ⟨c0, cj⟩ := adr_cell A2
 clear t2 HT1 A1 L1 A2 L2
 have c1 : _ = some (Value.int IntKind.u8 127) := cj 0 127 hx0
 have c2 : _ = some (Value.int IntKind.u8 x1) := cj 1 x1 hx1
 simp only [Nat.add_zero, Nat.reduceAdd] at c1 c2
 clear cj
 go_wp2_with (first
  | ((with_reducible refine at_load 40 ?_); refine wpList_load_mid rfl 40 _ rfl w.heap.size 0 rfl (adr false xs) _ RA Tryz.underlying40 rfl (by rw [size31, HL17.out]) ?_)
  | ((with_reducible refine at_load 40 ?_); refine wpList_load_mid rfl 40 _ rfl (w.heap.size + 1) 0 rfl (adr true onev6) _ RL Tryz.underlying40 rfl (by rw [size31]; rfl) ?_)
  | ((with_reducible refine at_bin .eql 40 ?_); refine wpList_eql_agg rfl 40 _ _ _ rfl _ _ rfl rfl (by kernel_rfl) _ (HEQ.out _) ?_))
 go_ret
 exact ⟨by first | rfl | simp, HT2.out⟩
set_option maxRecDepth 100000 in
set_option maxHeartbeats 1000000 in
theorem rsc_4b (xs : List Int) (h : okB xs) (hv : vld false xs = true) (b0 : byte xs 0 = 169) (b1 : byte xs 1 = 254) (w : World) :
  Calls Tryz.prog 135 #[.agg (adr false xs).toArray] w fun e w' => e = .returned (.int .i64 2) ∧ Touch [] w w' := by
 obtain ⟨x0, hx0⟩ : ∃ x, xs[0]? = some x := ⟨_, List.getElem?_eq_getElem (by have := h.1; omega)⟩
 obtain ⟨x1, hx1⟩ : ∃ x, xs[1]? = some x := ⟨_, List.getElem?_eq_getElem (by have := h.1; omega)⟩
 have r1 := h.2 x1 (List.mem_of_getElem? hx1)
 have e0 : byte xs 0 = x0 := by simp [byte, hx0]
 have e1 : byte xs 1 = x1 := by simp [byte, hx1]
 rw [e0] at b0
 rw [e1] at b1
 subst b0 b1
 clear e0 e1
 have g0 := ((Touch.refl [] w).alloc (.cells (adr false xs).toArray 40)).alloc (.cells (adr false (List.replicate 16 0)).toArray 40)
 have g1 := ((Touch.refl [] (w.alloc (.cells (adr false xs).toArray 40))).alloc (.cells (adr false (List.replicate 16 0)).toArray 40)).at (heap_alloc_new w (.cells (adr false xs).toArray 40)) (by simp)
 have g2 := heap_alloc2_new w (.cells (adr false xs).toArray 40) (.cells (adr false (List.replicate 16 0)).toArray 40)
 have HL17 := Lib.hid (show (adr false xs).length = 17 by simp [adr, h.1])
 have HT := Lib.hid g0
 have HG1 := Lib.hid g1
 have HG2 := Lib.hid g2
 have HV := Lib.hid hv
 have HVA := Lib.hid (rvalid_any false xs h)
 clear g0 g1 g2 h hv
 go_enter Tryz.func135, Tryz.ntmps135
 go_wp2_with (first
  | ((with_reducible refine at_build 40 ?_); refine wpList_built (by rfl) 40 _ (by rfl) _ _ (by rfl) built_one ?_)
  | ((with_reducible refine at_store 40 ?_); refine wpList_store_into rfl 40 _ _ rfl (w.heap.size + 1) 40 _ (adr true onev6) rfl rfl HG2.out rfl size31 (adr_one _ _) ?_))
 intro w1 h1 t1 z1
 have HT1 := Lib.hid (HT.out.trans t1 (by intro y hy; right; simp at hy; omega))
 have A1 := Lib.hid (t1.at HG1.out (by simp))
 have L1 := Lib.hid h1
 have RA := range_block A1.out
 clear h1 t1 z1 HT HG1 HG2
 go_wp2_with ((with_reducible refine at_load 40 ?_); refine wpList_load_mid rfl 40 _ rfl w.heap.size 0 rfl (adr false xs) _ RA Tryz.underlying40 rfl (by rw [size31, HL17.out]) ?_)
 refine (HVA.out _).mono ?_
 rintro e w2 ⟨he, t2⟩
 rw [HV.out] at he
 subst he
 have HT2 := Lib.hid (HT1.out.trans t2 (by simp))
 have A2 := t2.at A1.out (by simp)
 have L2 := t2.at L1.out (by simp)
 have RA := range_block A2
 have RL := range_block L2
 obtain ⟨c0, cj⟩ := adr_cell A2
 clear t2 HT1 A1 L1 A2 L2
 have c1 : _ = some (Value.int IntKind.u8 169) := cj 0 169 hx0
 have c2 : _ = some (Value.int IntKind.u8 254) := cj 1 254 hx1
 simp only [Nat.add_zero, Nat.reduceAdd] at c1 c2
 clear cj
 go_wp2_with (first
  | ((with_reducible refine at_load 40 ?_); refine wpList_load_mid rfl 40 _ rfl w.heap.size 0 rfl (adr false xs) _ RA Tryz.underlying40 rfl (by rw [size31, HL17.out]) ?_)
  | ((with_reducible refine at_load 40 ?_); refine wpList_load_mid rfl 40 _ rfl (w.heap.size + 1) 0 rfl (adr true onev6) _ RL Tryz.underlying40 rfl (by rw [size31]; rfl) ?_)
  | ((with_reducible refine at_bin .eql 40 ?_); refine wpList_eql_agg rfl 40 _ _ _ rfl _ _ rfl rfl (by kernel_rfl) _ (HEQ.out _) ?_))
 go_ret
 exact ⟨by first | rfl | simp, HT2.out⟩
set_option maxRecDepth 100000 in
set_option maxHeartbeats 1000000 in
theorem rsc_4c (xs : List Int) (h : okB xs) (hv : vld false xs = true) (b0 : ¬ byte xs 0 = 127) (b1 : ¬ byte xs 0 = 169) (w : World) :
  Calls Tryz.prog 135 #[.agg (adr false xs).toArray] w fun e w' => e = .returned (.int .i64 14) ∧ Touch [] w w' := by
 obtain ⟨x0, hx0⟩ : ∃ x, xs[0]? = some x := ⟨_, List.getElem?_eq_getElem (by have := h.1; omega)⟩
 obtain ⟨x1, hx1⟩ : ∃ x, xs[1]? = some x := ⟨_, List.getElem?_eq_getElem (by have := h.1; omega)⟩
 have r1 := h.2 x1 (List.mem_of_getElem? hx1)
 have e0 : byte xs 0 = x0 := by simp [byte, hx0]
 have e1 : byte xs 1 = x1 := by simp [byte, hx1]
 rw [e0] at b0
 rw [e0] at b1
 clear e0 e1
 have g0 := ((Touch.refl [] w).alloc (.cells (adr false xs).toArray 40)).alloc (.cells (adr false (List.replicate 16 0)).toArray 40)
 have g1 := ((Touch.refl [] (w.alloc (.cells (adr false xs).toArray 40))).alloc (.cells (adr false (List.replicate 16 0)).toArray 40)).at (heap_alloc_new w (.cells (adr false xs).toArray 40)) (by simp)
 have g2 := heap_alloc2_new w (.cells (adr false xs).toArray 40) (.cells (adr false (List.replicate 16 0)).toArray 40)
 have HL17 := Lib.hid (show (adr false xs).length = 17 by simp [adr, h.1])
 have HT := Lib.hid g0
 have HG1 := Lib.hid g1
 have HG2 := Lib.hid g2
 have HV := Lib.hid hv
 have HVA := Lib.hid (rvalid_any false xs h)
 clear g0 g1 g2 h hv
 go_enter Tryz.func135, Tryz.ntmps135
 go_wp2_with (first
  | ((with_reducible refine at_build 40 ?_); refine wpList_built (by rfl) 40 _ (by rfl) _ _ (by rfl) built_one ?_)
  | ((with_reducible refine at_store 40 ?_); refine wpList_store_into rfl 40 _ _ rfl (w.heap.size + 1) 40 _ (adr true onev6) rfl rfl HG2.out rfl size31 (adr_one _ _) ?_))
 intro w1 h1 t1 z1
 have HT1 := Lib.hid (HT.out.trans t1 (by intro y hy; right; simp at hy; omega))
 have A1 := Lib.hid (t1.at HG1.out (by simp))
 have L1 := Lib.hid h1
 have RA := range_block A1.out
 clear h1 t1 z1 HT HG1 HG2
 go_wp2_with ((with_reducible refine at_load 40 ?_); refine wpList_load_mid rfl 40 _ rfl w.heap.size 0 rfl (adr false xs) _ RA Tryz.underlying40 rfl (by rw [size31, HL17.out]) ?_)
 refine (HVA.out _).mono ?_
 rintro e w2 ⟨he, t2⟩
 rw [HV.out] at he
 subst he
 have HT2 := Lib.hid (HT1.out.trans t2 (by simp))
 have A2 := t2.at A1.out (by simp)
 have L2 := t2.at L1.out (by simp)
 have RA := range_block A2
 have RL := range_block L2
 obtain ⟨c0, cj⟩ := adr_cell A2
 clear t2 HT1 A1 L1 A2 L2
 have c1 : _ = some (Value.int IntKind.u8 x0) := cj 0 x0 hx0
 have c2 : _ = some (Value.int IntKind.u8 x1) := cj 1 x1 hx1
 simp only [Nat.add_zero, Nat.reduceAdd] at c1 c2
 clear cj
 go_wp2_with (first
  | ((with_reducible refine at_load 40 ?_); refine wpList_load_mid rfl 40 _ rfl w.heap.size 0 rfl (adr false xs) _ RA Tryz.underlying40 rfl (by rw [size31, HL17.out]) ?_)
  | ((with_reducible refine at_load 40 ?_); refine wpList_load_mid rfl 40 _ rfl (w.heap.size + 1) 0 rfl (adr true onev6) _ RL Tryz.underlying40 rfl (by rw [size31]; rfl) ?_)
  | ((with_reducible refine at_bin .eql 40 ?_); refine wpList_eql_agg rfl 40 _ _ _ rfl _ _ rfl rfl (by kernel_rfl) _ (HEQ.out _) ?_))
 go_ret
 exact ⟨by first | rfl | simp, HT2.out⟩
set_option maxRecDepth 100000 in
set_option maxHeartbeats 1000000 in
theorem rsc_4d (xs : List Int) (h : okB xs) (hv : vld false xs = true) (b0 : byte xs 0 = 169) (b1 : ¬ byte xs 1 = 254) (w : World) :
  Calls Tryz.prog 135 #[.agg (adr false xs).toArray] w fun e w' => e = .returned (.int .i64 14) ∧ Touch [] w w' := by
 obtain ⟨x0, hx0⟩ : ∃ x, xs[0]? = some x := ⟨_, List.getElem?_eq_getElem (by have := h.1; omega)⟩
 obtain ⟨x1, hx1⟩ : ∃ x, xs[1]? = some x := ⟨_, List.getElem?_eq_getElem (by have := h.1; omega)⟩
 have r1 := h.2 x1 (List.mem_of_getElem? hx1)
 have e0 : byte xs 0 = x0 := by simp [byte, hx0]
 have e1 : byte xs 1 = x1 := by simp [byte, hx1]
 rw [e0] at b0
 rw [e1] at b1
 subst b0
 clear e0 e1
 have g0 := ((Touch.refl [] w).alloc (.cells (adr false xs).toArray 40)).alloc (.cells (adr false (List.replicate 16 0)).toArray 40)
 have g1 := ((Touch.refl [] (w.alloc (.cells (adr false xs).toArray 40))).alloc (.cells (adr false (List.replicate 16 0)).toArray 40)).at (heap_alloc_new w (.cells (adr false xs).toArray 40)) (by simp)
 have g2 := heap_alloc2_new w (.cells (adr false xs).toArray 40) (.cells (adr false (List.replicate 16 0)).toArray 40)
 have HL17 := Lib.hid (show (adr false xs).length = 17 by simp [adr, h.1])
 have HT := Lib.hid g0
 have HG1 := Lib.hid g1
 have HG2 := Lib.hid g2
 have HV := Lib.hid hv
 have HVA := Lib.hid (rvalid_any false xs h)
 clear g0 g1 g2 h hv
 go_enter Tryz.func135, Tryz.ntmps135
 go_wp2_with (first
  | ((with_reducible refine at_build 40 ?_); refine wpList_built (by rfl) 40 _ (by rfl) _ _ (by rfl) built_one ?_)
  | ((with_reducible refine at_store 40 ?_); refine wpList_store_into rfl 40 _ _ rfl (w.heap.size + 1) 40 _ (adr true onev6) rfl rfl HG2.out rfl size31 (adr_one _ _) ?_))
 intro w1 h1 t1 z1
 have HT1 := Lib.hid (HT.out.trans t1 (by intro y hy; right; simp at hy; omega))
 have A1 := Lib.hid (t1.at HG1.out (by simp))
 have L1 := Lib.hid h1
 have RA := range_block A1.out
 clear h1 t1 z1 HT HG1 HG2
 go_wp2_with ((with_reducible refine at_load 40 ?_); refine wpList_load_mid rfl 40 _ rfl w.heap.size 0 rfl (adr false xs) _ RA Tryz.underlying40 rfl (by rw [size31, HL17.out]) ?_)
 refine (HVA.out _).mono ?_
 rintro e w2 ⟨he, t2⟩
 rw [HV.out] at he
 subst he
 have HT2 := Lib.hid (HT1.out.trans t2 (by simp))
 have A2 := t2.at A1.out (by simp)
 have L2 := t2.at L1.out (by simp)
 have RA := range_block A2
 have RL := range_block L2
 obtain ⟨c0, cj⟩ := adr_cell A2
 clear t2 HT1 A1 L1 A2 L2
 have c1 : _ = some (Value.int IntKind.u8 169) := cj 0 169 hx0
 have c2 : _ = some (Value.int IntKind.u8 x1) := cj 1 x1 hx1
 simp only [Nat.add_zero, Nat.reduceAdd] at c1 c2
 clear cj
 go_wp2_with (first
  | ((with_reducible refine at_load 40 ?_); refine wpList_load_mid rfl 40 _ rfl w.heap.size 0 rfl (adr false xs) _ RA Tryz.underlying40 rfl (by rw [size31, HL17.out]) ?_)
  | ((with_reducible refine at_load 40 ?_); refine wpList_load_mid rfl 40 _ rfl (w.heap.size + 1) 0 rfl (adr true onev6) _ RL Tryz.underlying40 rfl (by rw [size31]; rfl) ?_)
  | ((with_reducible refine at_bin .eql 40 ?_); refine wpList_eql_agg rfl 40 _ _ _ rfl _ _ rfl rfl (by kernel_rfl) _ (HEQ.out _) ?_))
 go_ret
 exact ⟨by first | rfl | simp, HT2.out⟩
set_option maxRecDepth 100000 in
set_option maxHeartbeats 1000000 in
theorem rsc_6a (xs : List Int) (h : okB xs) (b0 : byte xs 0 = 255) (w : World) :
  Calls Tryz.prog 135 #[.agg (adr true xs).toArray] w fun e w' => e = .returned (.int .i64 (byte xs 1 % 16)) ∧ Touch [] w w' := by
 obtain ⟨x0, hx0⟩ : ∃ x, xs[0]? = some x := ⟨_, List.getElem?_eq_getElem (by have := h.1; omega)⟩
 obtain ⟨x1, hx1⟩ : ∃ x, xs[1]? = some x := ⟨_, List.getElem?_eq_getElem (by have := h.1; omega)⟩
 have r1 := h.2 x1 (List.mem_of_getElem? hx1)
 have e0 : byte xs 0 = x0 := by simp [byte, hx0]
 have e1 : byte xs 1 = x1 := by simp [byte, hx1]
 have hv : vld true xs = true := rfl
 rw [e0] at b0
 rw [e1]
 subst b0
 clear e0 e1
 have g0 := ((Touch.refl [] w).alloc (.cells (adr true xs).toArray 40)).alloc (.cells (adr false (List.replicate 16 0)).toArray 40)
 have g1 := ((Touch.refl [] (w.alloc (.cells (adr true xs).toArray 40))).alloc (.cells (adr false (List.replicate 16 0)).toArray 40)).at (heap_alloc_new w (.cells (adr true xs).toArray 40)) (by simp)
 have g2 := heap_alloc2_new w (.cells (adr true xs).toArray 40) (.cells (adr false (List.replicate 16 0)).toArray 40)
 have HL17 := Lib.hid (show (adr true xs).length = 17 by simp [adr, h.1])
 have HT := Lib.hid g0
 have HG1 := Lib.hid g1
 have HG2 := Lib.hid g2
 have HV := Lib.hid hv
 have HVA := Lib.hid (rvalid_any true xs h)
 clear g0 g1 g2 h hv
 go_enter Tryz.func135, Tryz.ntmps135
 go_wp2_with (first
  | ((with_reducible refine at_build 40 ?_); refine wpList_built (by rfl) 40 _ (by rfl) _ _ (by rfl) built_one ?_)
  | ((with_reducible refine at_store 40 ?_); refine wpList_store_into rfl 40 _ _ rfl (w.heap.size + 1) 40 _ (adr true onev6) rfl rfl HG2.out rfl size31 (adr_one _ _) ?_))
 intro w1 h1 t1 z1
 have HT1 := Lib.hid (HT.out.trans t1 (by intro y hy; right; simp at hy; omega))
 have A1 := Lib.hid (t1.at HG1.out (by simp))
 have L1 := Lib.hid h1
 have RA := range_block A1.out
 clear h1 t1 z1 HT HG1 HG2
 go_wp2_with ((with_reducible refine at_load 40 ?_); refine wpList_load_mid rfl 40 _ rfl w.heap.size 0 rfl (adr true xs) _ RA Tryz.underlying40 rfl (by rw [size31, HL17.out]) ?_)
 refine (HVA.out _).mono ?_
 rintro e w2 ⟨he, t2⟩
 rw [HV.out] at he
 subst he
 have HT2 := Lib.hid (HT1.out.trans t2 (by simp))
 have A2 := t2.at A1.out (by simp)
 have L2 := t2.at L1.out (by simp)
 have RA := range_block A2
 have RL := range_block L2
 obtain ⟨c0, cj⟩ := adr_cell A2
 clear t2 HT1 A1 L1 A2 L2
 have c1 : _ = some (Value.int IntKind.u8 255) := cj 0 255 hx0
 have c2 : _ = some (Value.int IntKind.u8 x1) := cj 1 x1 hx1
 simp only [Nat.add_zero, Nat.reduceAdd] at c1 c2
 clear cj
 go_wp2_with (first
  | ((with_reducible refine at_load 40 ?_); refine wpList_load_mid rfl 40 _ rfl w.heap.size 0 rfl (adr true xs) _ RA Tryz.underlying40 rfl (by rw [size31, HL17.out]) ?_)
  | ((with_reducible refine at_load 40 ?_); refine wpList_load_mid rfl 40 _ rfl (w.heap.size + 1) 0 rfl (adr true onev6) _ RL Tryz.underlying40 rfl (by rw [size31]; rfl) ?_)
  | ((with_reducible refine at_bin .eql 40 ?_); refine wpList_eql_agg rfl 40 _ _ _ rfl _ _ rfl rfl (by kernel_rfl) _ (HEQ.out _) ?_))
 go_ret
 exact ⟨by first | rfl | simp, HT2.out⟩
set_option maxRecDepth 100000 in
set_option maxHeartbeats 1000000 in
theorem rsc_6b (xs : List Int) (h : okB xs) (b0 : ¬ byte xs 0 = 255) (ho : xs = onev6) (w : World) :
  Calls Tryz.prog 135 #[.agg (adr true xs).toArray] w fun e w' => e = .returned (.int .i64 2) ∧ Touch [] w w' := by
 obtain ⟨x0, hx0⟩ : ∃ x, xs[0]? = some x := ⟨_, List.getElem?_eq_getElem (by have := h.1; omega)⟩
 obtain ⟨x1, hx1⟩ : ∃ x, xs[1]? = some x := ⟨_, List.getElem?_eq_getElem (by have := h.1; omega)⟩
 have r1 := h.2 x1 (List.mem_of_getElem? hx1)
 have e0 : byte xs 0 = x0 := by simp [byte, hx0]
 have e1 : byte xs 1 = x1 := by simp [byte, hx1]
 have hv : vld true xs = true := rfl
 have HEQ := Lib.hid (fun w => (show (Op.equalIn 10000 40 (.agg (adr true xs).toArray) (.agg (adr true onev6).toArray)).run Tryz.prog w = .ok true w by rw [eq_ads _ _ _ _ h (okB_dec (by decide))]; simp [ho]))
 rw [e0] at b0
 clear ho
 clear e0 e1
 have g0 := ((Touch.refl [] w).alloc (.cells (adr true xs).toArray 40)).alloc (.cells (adr false (List.replicate 16 0)).toArray 40)
 have g1 := ((Touch.refl [] (w.alloc (.cells (adr true xs).toArray 40))).alloc (.cells (adr false (List.replicate 16 0)).toArray 40)).at (heap_alloc_new w (.cells (adr true xs).toArray 40)) (by simp)
 have g2 := heap_alloc2_new w (.cells (adr true xs).toArray 40) (.cells (adr false (List.replicate 16 0)).toArray 40)
 have HL17 := Lib.hid (show (adr true xs).length = 17 by simp [adr, h.1])
 have HT := Lib.hid g0
 have HG1 := Lib.hid g1
 have HG2 := Lib.hid g2
 have HV := Lib.hid hv
 have HVA := Lib.hid (rvalid_any true xs h)
 clear g0 g1 g2 h hv
 go_enter Tryz.func135, Tryz.ntmps135
 go_wp2_with (first
  | ((with_reducible refine at_build 40 ?_); refine wpList_built (by rfl) 40 _ (by rfl) _ _ (by rfl) built_one ?_)
  | ((with_reducible refine at_store 40 ?_); refine wpList_store_into rfl 40 _ _ rfl (w.heap.size + 1) 40 _ (adr true onev6) rfl rfl HG2.out rfl size31 (adr_one _ _) ?_))
 intro w1 h1 t1 z1
 have HT1 := Lib.hid (HT.out.trans t1 (by intro y hy; right; simp at hy; omega))
 have A1 := Lib.hid (t1.at HG1.out (by simp))
 have L1 := Lib.hid h1
 have RA := range_block A1.out
 clear h1 t1 z1 HT HG1 HG2
 go_wp2_with ((with_reducible refine at_load 40 ?_); refine wpList_load_mid rfl 40 _ rfl w.heap.size 0 rfl (adr true xs) _ RA Tryz.underlying40 rfl (by rw [size31, HL17.out]) ?_)
 refine (HVA.out _).mono ?_
 rintro e w2 ⟨he, t2⟩
 rw [HV.out] at he
 subst he
 have HT2 := Lib.hid (HT1.out.trans t2 (by simp))
 have A2 := t2.at A1.out (by simp)
 have L2 := t2.at L1.out (by simp)
 have RA := range_block A2
 have RL := range_block L2
 obtain ⟨c0, cj⟩ := adr_cell A2
 clear t2 HT1 A1 L1 A2 L2
 have c1 : _ = some (Value.int IntKind.u8 x0) := cj 0 x0 hx0
 have c2 : _ = some (Value.int IntKind.u8 x1) := cj 1 x1 hx1
 simp only [Nat.add_zero, Nat.reduceAdd] at c1 c2
 clear cj
 go_wp2_with (first
  | ((with_reducible refine at_load 40 ?_); refine wpList_load_mid rfl 40 _ rfl w.heap.size 0 rfl (adr true xs) _ RA Tryz.underlying40 rfl (by rw [size31, HL17.out]) ?_)
  | ((with_reducible refine at_load 40 ?_); refine wpList_load_mid rfl 40 _ rfl (w.heap.size + 1) 0 rfl (adr true onev6) _ RL Tryz.underlying40 rfl (by rw [size31]; rfl) ?_)
  | ((with_reducible refine at_bin .eql 40 ?_); refine wpList_eql_agg rfl 40 _ _ _ rfl _ _ rfl rfl (by kernel_rfl) _ (HEQ.out _) ?_))
 go_ret
 exact ⟨by first | rfl | simp, HT2.out⟩
set_option maxRecDepth 100000 in
set_option maxHeartbeats 1000000 in
theorem rsc_6c (xs : List Int) (h : okB xs) (b0 : byte xs 0 = 254) (ho : xs ≠ onev6) (b1 : Go.bits .and .u8 (byte xs 1) 192 = 128) (w : World) :
  Calls Tryz.prog 135 #[.agg (adr true xs).toArray] w fun e w' => e = .returned (.int .i64 2) ∧ Touch [] w w' := by
 obtain ⟨x0, hx0⟩ : ∃ x, xs[0]? = some x := ⟨_, List.getElem?_eq_getElem (by have := h.1; omega)⟩
 obtain ⟨x1, hx1⟩ : ∃ x, xs[1]? = some x := ⟨_, List.getElem?_eq_getElem (by have := h.1; omega)⟩
 have r1 := h.2 x1 (List.mem_of_getElem? hx1)
 have e0 : byte xs 0 = x0 := by simp [byte, hx0]
 have e1 : byte xs 1 = x1 := by simp [byte, hx1]
 have hv : vld true xs = true := rfl
 have HEQ := Lib.hid (fun w => (show (Op.equalIn 10000 40 (.agg (adr true xs).toArray) (.agg (adr true onev6).toArray)).run Tryz.prog w = .ok false w by rw [eq_ads _ _ _ _ h (okB_dec (by decide))]; simp [ho]))
 rw [e0] at b0
 rw [e1] at b1
 subst b0
 clear ho
 clear e0 e1
 have g0 := ((Touch.refl [] w).alloc (.cells (adr true xs).toArray 40)).alloc (.cells (adr false (List.replicate 16 0)).toArray 40)
 have g1 := ((Touch.refl [] (w.alloc (.cells (adr true xs).toArray 40))).alloc (.cells (adr false (List.replicate 16 0)).toArray 40)).at (heap_alloc_new w (.cells (adr true xs).toArray 40)) (by simp)
 have g2 := heap_alloc2_new w (.cells (adr true xs).toArray 40) (.cells (adr false (List.replicate 16 0)).toArray 40)
 have HL17 := Lib.hid (show (adr true xs).length = 17 by simp [adr, h.1])
 have HT := Lib.hid g0
 have HG1 := Lib.hid g1
 have HG2 := Lib.hid g2
 have HV := Lib.hid hv
 have HVA := Lib.hid (rvalid_any true xs h)
 clear g0 g1 g2 h hv
 go_enter Tryz.func135, Tryz.ntmps135
 go_wp2_with (first
  | ((with_reducible refine at_build 40 ?_); refine wpList_built (by rfl) 40 _ (by rfl) _ _ (by rfl) built_one ?_)
  | ((with_reducible refine at_store 40 ?_); refine wpList_store_into rfl 40 _ _ rfl (w.heap.size + 1) 40 _ (adr true onev6) rfl rfl HG2.out rfl size31 (adr_one _ _) ?_))
 intro w1 h1 t1 z1
 have HT1 := Lib.hid (HT.out.trans t1 (by intro y hy; right; simp at hy; omega))
 have A1 := Lib.hid (t1.at HG1.out (by simp))
 have L1 := Lib.hid h1
 have RA := range_block A1.out
 clear h1 t1 z1 HT HG1 HG2
 go_wp2_with ((with_reducible refine at_load 40 ?_); refine wpList_load_mid rfl 40 _ rfl w.heap.size 0 rfl (adr true xs) _ RA Tryz.underlying40 rfl (by rw [size31, HL17.out]) ?_)
 refine (HVA.out _).mono ?_
 rintro e w2 ⟨he, t2⟩
 rw [HV.out] at he
 subst he
 have HT2 := Lib.hid (HT1.out.trans t2 (by simp))
 have A2 := t2.at A1.out (by simp)
 have L2 := t2.at L1.out (by simp)
 have RA := range_block A2
 have RL := range_block L2
 obtain ⟨c0, cj⟩ := adr_cell A2
 clear t2 HT1 A1 L1 A2 L2
 have c1 : _ = some (Value.int IntKind.u8 254) := cj 0 254 hx0
 have c2 : _ = some (Value.int IntKind.u8 x1) := cj 1 x1 hx1
 simp only [Nat.add_zero, Nat.reduceAdd] at c1 c2
 clear cj
 go_wp2_with (first
  | ((with_reducible refine at_load 40 ?_); refine wpList_load_mid rfl 40 _ rfl w.heap.size 0 rfl (adr true xs) _ RA Tryz.underlying40 rfl (by rw [size31, HL17.out]) ?_)
  | ((with_reducible refine at_load 40 ?_); refine wpList_load_mid rfl 40 _ rfl (w.heap.size + 1) 0 rfl (adr true onev6) _ RL Tryz.underlying40 rfl (by rw [size31]; rfl) ?_)
  | ((with_reducible refine at_bin .eql 40 ?_); refine wpList_eql_agg rfl 40 _ _ _ rfl _ _ rfl rfl (by kernel_rfl) _ (HEQ.out _) ?_))
 go_ret
 exact ⟨by first | rfl | simp, HT2.out⟩
set_option maxRecDepth 100000 in
set_option maxHeartbeats 1000000 in
theorem rsc_6d (xs : List Int) (h : okB xs) (b0 : byte xs 0 = 254) (ho : xs ≠ onev6) (b1 : Go.bits .and .u8 (byte xs 1) 192 = 192) (w : World) :
  Calls Tryz.prog 135 #[.agg (adr true xs).toArray] w fun e w' => e = .returned (.int .i64 5) ∧ Touch [] w w' := by
 obtain ⟨x0, hx0⟩ : ∃ x, xs[0]? = some x := ⟨_, List.getElem?_eq_getElem (by have := h.1; omega)⟩
 obtain ⟨x1, hx1⟩ : ∃ x, xs[1]? = some x := ⟨_, List.getElem?_eq_getElem (by have := h.1; omega)⟩
 have r1 := h.2 x1 (List.mem_of_getElem? hx1)
 have e0 : byte xs 0 = x0 := by simp [byte, hx0]
 have e1 : byte xs 1 = x1 := by simp [byte, hx1]
 have hv : vld true xs = true := rfl
 have HEQ := Lib.hid (fun w => (show (Op.equalIn 10000 40 (.agg (adr true xs).toArray) (.agg (adr true onev6).toArray)).run Tryz.prog w = .ok false w by rw [eq_ads _ _ _ _ h (okB_dec (by decide))]; simp [ho]))
 rw [e0] at b0
 rw [e1] at b1
 subst b0
 clear ho
 clear e0 e1
 have g0 := ((Touch.refl [] w).alloc (.cells (adr true xs).toArray 40)).alloc (.cells (adr false (List.replicate 16 0)).toArray 40)
 have g1 := ((Touch.refl [] (w.alloc (.cells (adr true xs).toArray 40))).alloc (.cells (adr false (List.replicate 16 0)).toArray 40)).at (heap_alloc_new w (.cells (adr true xs).toArray 40)) (by simp)
 have g2 := heap_alloc2_new w (.cells (adr true xs).toArray 40) (.cells (adr false (List.replicate 16 0)).toArray 40)
 have HL17 := Lib.hid (show (adr true xs).length = 17 by simp [adr, h.1])
 have HT := Lib.hid g0
 have HG1 := Lib.hid g1
 have HG2 := Lib.hid g2
 have HV := Lib.hid hv
 have HVA := Lib.hid (rvalid_any true xs h)
 clear g0 g1 g2 h hv
 go_enter Tryz.func135, Tryz.ntmps135
 go_wp2_with (first
  | ((with_reducible refine at_build 40 ?_); refine wpList_built (by rfl) 40 _ (by rfl) _ _ (by rfl) built_one ?_)
  | ((with_reducible refine at_store 40 ?_); refine wpList_store_into rfl 40 _ _ rfl (w.heap.size + 1) 40 _ (adr true onev6) rfl rfl HG2.out rfl size31 (adr_one _ _) ?_))
 intro w1 h1 t1 z1
 have HT1 := Lib.hid (HT.out.trans t1 (by intro y hy; right; simp at hy; omega))
 have A1 := Lib.hid (t1.at HG1.out (by simp))
 have L1 := Lib.hid h1
 have RA := range_block A1.out
 clear h1 t1 z1 HT HG1 HG2
 go_wp2_with ((with_reducible refine at_load 40 ?_); refine wpList_load_mid rfl 40 _ rfl w.heap.size 0 rfl (adr true xs) _ RA Tryz.underlying40 rfl (by rw [size31, HL17.out]) ?_)
 refine (HVA.out _).mono ?_
 rintro e w2 ⟨he, t2⟩
 rw [HV.out] at he
 subst he
 have HT2 := Lib.hid (HT1.out.trans t2 (by simp))
 have A2 := t2.at A1.out (by simp)
 have L2 := t2.at L1.out (by simp)
 have RA := range_block A2
 have RL := range_block L2
 obtain ⟨c0, cj⟩ := adr_cell A2
 clear t2 HT1 A1 L1 A2 L2
 have c1 : _ = some (Value.int IntKind.u8 254) := cj 0 254 hx0
 have c2 : _ = some (Value.int IntKind.u8 x1) := cj 1 x1 hx1
 simp only [Nat.add_zero, Nat.reduceAdd] at c1 c2
 clear cj
 go_wp2_with (first
  | ((with_reducible refine at_load 40 ?_); refine wpList_load_mid rfl 40 _ rfl w.heap.size 0 rfl (adr true xs) _ RA Tryz.underlying40 rfl (by rw [size31, HL17.out]) ?_)
  | ((with_reducible refine at_load 40 ?_); refine wpList_load_mid rfl 40 _ rfl (w.heap.size + 1) 0 rfl (adr true onev6) _ RL Tryz.underlying40 rfl (by rw [size31]; rfl) ?_)
  | ((with_reducible refine at_bin .eql 40 ?_); refine wpList_eql_agg rfl 40 _ _ _ rfl _ _ rfl rfl (by kernel_rfl) _ (HEQ.out _) ?_))
 go_ret
 exact ⟨by first | rfl | simp, HT2.out⟩
set_option maxRecDepth 100000 in
set_option maxHeartbeats 1000000 in
theorem rsc_6e (xs : List Int) (h : okB xs) (b0 : byte xs 0 = 254) (ho : xs ≠ onev6) (b1 : ¬ Go.bits .and .u8 (byte xs 1) 192 = 128) (b2 : ¬ Go.bits .and .u8 (byte xs 1) 192 = 192) (w : World) :
  Calls Tryz.prog 135 #[.agg (adr true xs).toArray] w fun e w' => e = .returned (.int .i64 14) ∧ Touch [] w w' := by
 obtain ⟨x0, hx0⟩ : ∃ x, xs[0]? = some x := ⟨_, List.getElem?_eq_getElem (by have := h.1; omega)⟩
 obtain ⟨x1, hx1⟩ : ∃ x, xs[1]? = some x := ⟨_, List.getElem?_eq_getElem (by have := h.1; omega)⟩
 have r1 := h.2 x1 (List.mem_of_getElem? hx1)
 have e0 : byte xs 0 = x0 := by simp [byte, hx0]
 have e1 : byte xs 1 = x1 := by simp [byte, hx1]
 have hv : vld true xs = true := rfl
 have HEQ := Lib.hid (fun w => (show (Op.equalIn 10000 40 (.agg (adr true xs).toArray) (.agg (adr true onev6).toArray)).run Tryz.prog w = .ok false w by rw [eq_ads _ _ _ _ h (okB_dec (by decide))]; simp [ho]))
 rw [e0] at b0
 rw [e1] at b1
 rw [e1] at b2
 subst b0
 clear ho
 clear e0 e1
 have g0 := ((Touch.refl [] w).alloc (.cells (adr true xs).toArray 40)).alloc (.cells (adr false (List.replicate 16 0)).toArray 40)
 have g1 := ((Touch.refl [] (w.alloc (.cells (adr true xs).toArray 40))).alloc (.cells (adr false (List.replicate 16 0)).toArray 40)).at (heap_alloc_new w (.cells (adr true xs).toArray 40)) (by simp)
 have g2 := heap_alloc2_new w (.cells (adr true xs).toArray 40) (.cells (adr false (List.replicate 16 0)).toArray 40)
 have HL17 := Lib.hid (show (adr true xs).length = 17 by simp [adr, h.1])
 have HT := Lib.hid g0
 have HG1 := Lib.hid g1
 have HG2 := Lib.hid g2
 have HV := Lib.hid hv
 have HVA := Lib.hid (rvalid_any true xs h)
 clear g0 g1 g2 h hv
 go_enter Tryz.func135, Tryz.ntmps135
 go_wp2_with (first
  | ((with_reducible refine at_build 40 ?_); refine wpList_built (by rfl) 40 _ (by rfl) _ _ (by rfl) built_one ?_)
  | ((with_reducible refine at_store 40 ?_); refine wpList_store_into rfl 40 _ _ rfl (w.heap.size + 1) 40 _ (adr true onev6) rfl rfl HG2.out rfl size31 (adr_one _ _) ?_))
 intro w1 h1 t1 z1
 have HT1 := Lib.hid (HT.out.trans t1 (by intro y hy; right; simp at hy; omega))
 have A1 := Lib.hid (t1.at HG1.out (by simp))
 have L1 := Lib.hid h1
 have RA := range_block A1.out
 clear h1 t1 z1 HT HG1 HG2
 go_wp2_with ((with_reducible refine at_load 40 ?_); refine wpList_load_mid rfl 40 _ rfl w.heap.size 0 rfl (adr true xs) _ RA Tryz.underlying40 rfl (by rw [size31, HL17.out]) ?_)
 refine (HVA.out _).mono ?_
 rintro e w2 ⟨he, t2⟩
 rw [HV.out] at he
 subst he
 have HT2 := Lib.hid (HT1.out.trans t2 (by simp))
 have A2 := t2.at A1.out (by simp)
 have L2 := t2.at L1.out (by simp)
 have RA := range_block A2
 have RL := range_block L2
 obtain ⟨c0, cj⟩ := adr_cell A2
 clear t2 HT1 A1 L1 A2 L2
 have c1 : _ = some (Value.int IntKind.u8 254) := cj 0 254 hx0
 have c2 : _ = some (Value.int IntKind.u8 x1) := cj 1 x1 hx1
 simp only [Nat.add_zero, Nat.reduceAdd] at c1 c2
 clear cj
 go_wp2_with (first
  | ((with_reducible refine at_load 40 ?_); refine wpList_load_mid rfl 40 _ rfl w.heap.size 0 rfl (adr true xs) _ RA Tryz.underlying40 rfl (by rw [size31, HL17.out]) ?_)
  | ((with_reducible refine at_load 40 ?_); refine wpList_load_mid rfl 40 _ rfl (w.heap.size + 1) 0 rfl (adr true onev6) _ RL Tryz.underlying40 rfl (by rw [size31]; rfl) ?_)
  | ((with_reducible refine at_bin .eql 40 ?_); refine wpList_eql_agg rfl 40 _ _ _ rfl _ _ rfl rfl (by kernel_rfl) _ (HEQ.out _) ?_))
 go_ret
 exact ⟨by first | rfl | simp, HT2.out⟩
set_option maxRecDepth 100000 in
set_option maxHeartbeats 1000000 in
theorem rsc_6f (xs : List Int) (h : okB xs) (b0 : ¬ byte xs 0 = 255) (b1 : ¬ byte xs 0 = 254) (ho : xs ≠ onev6) (w : World) :
  Calls Tryz.prog 135 #[.agg (adr true xs).toArray] w fun e w' => e = .returned (.int .i64 14) ∧ Touch [] w w' := by
 obtain ⟨x0, hx0⟩ : ∃ x, xs[0]? = some x := ⟨_, List.getElem?_eq_getElem (by have := h.1; omega)⟩
 obtain ⟨x1, hx1⟩ : ∃ x, xs[1]? = some x := ⟨_, List.getElem?_eq_getElem (by have := h.1; omega)⟩
 have r1 := h.2 x1 (List.mem_of_getElem? hx1)
 have e0 : byte xs 0 = x0 := by simp [byte, hx0]
 have e1 : byte xs 1 = x1 := by simp [byte, hx1]
 have hv : vld true xs = true := rfl
 have HEQ := Lib.hid (fun w => (show (Op.equalIn 10000 40 (.agg (adr true xs).toArray) (.agg (adr true onev6).toArray)).run Tryz.prog w = .ok false w by rw [eq_ads _ _ _ _ h (okB_dec (by decide))]; simp [ho]))
 rw [e0] at b0
 rw [e0] at b1
 clear ho
 clear e0 e1
 have g0 := ((Touch.refl [] w).alloc (.cells (adr true xs).toArray 40)).alloc (.cells (adr false (List.replicate 16 0)).toArray 40)
 have g1 := ((Touch.refl [] (w.alloc (.cells (adr true xs).toArray 40))).alloc (.cells (adr false (List.replicate 16 0)).toArray 40)).at (heap_alloc_new w (.cells (adr true xs).toArray 40)) (by simp)
 have g2 := heap_alloc2_new w (.cells (adr true xs).toArray 40) (.cells (adr false (List.replicate 16 0)).toArray 40)
 have HL17 := Lib.hid (show (adr true xs).length = 17 by simp [adr, h.1])
 have HT := Lib.hid g0
 have HG1 := Lib.hid g1
 have HG2 := Lib.hid g2
 have HV := Lib.hid hv
 have HVA := Lib.hid (rvalid_any true xs h)
 clear g0 g1 g2 h hv
 go_enter Tryz.func135, Tryz.ntmps135
 go_wp2_with (first
  | ((with_reducible refine at_build 40 ?_); refine wpList_built (by rfl) 40 _ (by rfl) _ _ (by rfl) built_one ?_)
  | ((with_reducible refine at_store 40 ?_); refine wpList_store_into rfl 40 _ _ rfl (w.heap.size + 1) 40 _ (adr true onev6) rfl rfl HG2.out rfl size31 (adr_one _ _) ?_))
 intro w1 h1 t1 z1
 have HT1 := Lib.hid (HT.out.trans t1 (by intro y hy; right; simp at hy; omega))
 have A1 := Lib.hid (t1.at HG1.out (by simp))
 have L1 := Lib.hid h1
 have RA := range_block A1.out
 clear h1 t1 z1 HT HG1 HG2
 go_wp2_with ((with_reducible refine at_load 40 ?_); refine wpList_load_mid rfl 40 _ rfl w.heap.size 0 rfl (adr true xs) _ RA Tryz.underlying40 rfl (by rw [size31, HL17.out]) ?_)
 refine (HVA.out _).mono ?_
 rintro e w2 ⟨he, t2⟩
 rw [HV.out] at he
 subst he
 have HT2 := Lib.hid (HT1.out.trans t2 (by simp))
 have A2 := t2.at A1.out (by simp)
 have L2 := t2.at L1.out (by simp)
 have RA := range_block A2
 have RL := range_block L2
 obtain ⟨c0, cj⟩ := adr_cell A2
 clear t2 HT1 A1 L1 A2 L2
 have c1 : _ = some (Value.int IntKind.u8 x0) := cj 0 x0 hx0
 have c2 : _ = some (Value.int IntKind.u8 x1) := cj 1 x1 hx1
 simp only [Nat.add_zero, Nat.reduceAdd] at c1 c2
 clear cj
 go_wp2_with (first
  | ((with_reducible refine at_load 40 ?_); refine wpList_load_mid rfl 40 _ rfl w.heap.size 0 rfl (adr true xs) _ RA Tryz.underlying40 rfl (by rw [size31, HL17.out]) ?_)
  | ((with_reducible refine at_load 40 ?_); refine wpList_load_mid rfl 40 _ rfl (w.heap.size + 1) 0 rfl (adr true onev6) _ RL Tryz.underlying40 rfl (by rw [size31]; rfl) ?_)
  | ((with_reducible refine at_bin .eql 40 ?_); refine wpList_eql_agg rfl 40 _ _ _ rfl _ _ rfl rfl (by kernel_rfl) _ (HEQ.out _) ?_))
 go_ret
 exact ⟨by first | rfl | simp, HT2.out⟩
theorem rscope_any (b : Bool) (xs : List Int) (h : okB xs) (w : World) :
  Calls Tryz.prog 135 #[.agg (adr b xs).toArray] w fun e w' => e = .returned (.int .i64 (scopeP b xs)) ∧ Touch [] w w' := by
 have hd0 : xs.headD 0 = byte xs 0 := by cases xs <;> simp [byte]
 have hd1 : xs.tail.headD 0 = byte xs 1 := by
  cases xs with
  | nil => simp [byte]
  | cons a l => cases l <;> simp [byte]
 have p1 := hp127 h
 have p2 := two_bytes 16 169 254 h (by omega) (by omega)
 rw [cut16 h] at p2
 have p3 := two_bytes 10 254 128 h (by omega) (by omega)
 have p4 := two_bytes 10 254 192 h (by omega) (by omega)
 rw [cut10] at p3 p4
 cases b
 ·cases hv : vld false xs
  ·have e : scopeP false xs = -1 := by unfold scopeP; rw [hv]; rfl
   rw [e]
   exact rsc_bad xs h hv w
  ·have e : scopeP false xs = if hpP 8 [127] xs || hpP 16 [169, 254] xs then 2 else 14 := by unfold scopeP; rw [hv]; rfl
   rw [e, p1, p2]
   by_cases b0 : byte xs 0 = 127
   ·rw [if_pos (by simp [b0])]
    exact rsc_4a xs h hv b0 w
   ·by_cases b1 : byte xs 0 = 169
    ·by_cases b2 : byte xs 1 = 254
     ·rw [if_pos (by simp [b1, b2])]
      exact rsc_4b xs h hv b1 b2 w
     ·rw [if_neg (by simp [b1, b2])]
      exact rsc_4d xs h hv b1 b2 w
    ·rw [if_neg (by simp [b0, b1])]
     exact rsc_4c xs h hv b0 b1 w
 ·have e : scopeP true xs = if byte xs 0 = 255 then byte xs 1 % 16 else if decide (xs = onev6) || hpP 10 [254, 128] xs then 2 else if hpP 10 [254, 192] xs then 5 else 14 := by
   unfold scopeP
   rw [if_neg (by simp [vld]), if_neg (by simp), hd0, hd1]
  rw [e, p3, p4]
  by_cases b0 : byte xs 0 = 255
  ·rw [if_pos b0]
   exact rsc_6a xs h b0 w
  ·rw [if_neg b0]
   by_cases ho : xs = onev6
   ·rw [if_pos (by simp [ho])]
    exact rsc_6b xs h b0 ho w
   ·by_cases b1 : byte xs 0 = 254
    ·by_cases b2 : Go.bits .and .u8 (byte xs 1) 192 = 128
     ·rw [if_pos (by simp [b1, b2])]
      exact rsc_6c xs h b1 ho b2 w
     ·rw [if_neg (by simp [ho, b1, b2])]
      by_cases b3 : Go.bits .and .u8 (byte xs 1) 192 = 192
      ·rw [if_pos (by simp [b1, b3])]
       exact rsc_6d xs h b1 ho b3 w
      ·rw [if_neg (by simp [b1, b3])]
       exact rsc_6e xs h b1 ho b2 b3 w
    ·rw [if_neg (by simp [ho, b1]), if_neg (by simp [b1])]
     exact rsc_6f xs h b0 b1 ho w
end Go.Proofs.YtiklhaajhdephaaGreatDoor

/-
 The contract of the reference's Less.
-/
namespace Go.Proofs.YtiklhaajhdephaaGreatDoor
open Go.RowKit
set_option linter.unusedVariables false
set_option linter.unusedSimpArgs false

theorem lessP_eq (b : Bool) (xs : List Int) (b2 : Bool) (ys : List Int) : lessP b xs b2 ys = (decide (precP b2 ys < precP b xs) || (decide (precP b xs = precP b2 ys) && decide (scopeP b xs < scopeP b2 ys))) := by
 unfold lessP compP orP
 rcases Int.lt_trichotomy (precP b2 ys) (precP b xs) with h | h | h
 ·have e : cmpP (precP b2 ys) (precP b xs) = -1 := by simp [cmpP, h]
  rw [e]
  simp [h]
 ·have e : cmpP (precP b2 ys) (precP b xs) = 0 := by simp [cmpP, h]
  rw [e]
  unfold cmpP
  simp [h]
  split
  ·rename_i h2
   simp [h2]
  ·rename_i h2
   split <;> simp [h2]
 ·have hn : ¬ precP b2 ys < precP b xs := by omega
  have e : cmpP (precP b2 ys) (precP b xs) = 1 := by simp [cmpP, h, hn]
  have he : ¬ precP b xs = precP b2 ys := by omega
  rw [e]
  simp [hn, he]
set_option maxRecDepth 100000 in
set_option maxHeartbeats 4000000 in
theorem rless_a (b : Bool) (xs : List Int) (b2 : Bool) (ys : List Int) (h : okB xs) (h2 : okB ys) (hgt : precP b2 ys < precP b xs) (w : World) :
  Calls Tryz.prog 118 #[.agg (adr b xs).toArray, .agg (adr b2 ys).toArray] w fun e w' => e = .returned (.bool true) ∧ Touch [] w w' := by
 have R0 := World.rangeAt_alloc (range_new w (adr b xs) 40) (.cells (adr b2 ys).toArray 40)
 have R1 := range_block (heap_alloc2_new w (.cells (adr b xs).toArray 40) (.cells (adr b2 ys).toArray 40))
 have t0 := (((Touch.refl [] w).alloc (.cells (adr b xs).toArray 40)).alloc (.cells (adr b2 ys).toArray 40)).drew
 have HLA := Lib.hid (show (adr b xs).length = 17 by simp [adr, h.1])
 have HLB := Lib.hid (show (adr b2 ys).length = 17 by simp [adr, h2.1])
 have HPA := Lib.hid (rprec_any b xs h)
 have HPB := Lib.hid (rprec_any b2 ys h2)
 have HSA := Lib.hid (rscope_any b xs h)
 have HSB := Lib.hid (rscope_any b2 ys h2)
 generalize precP b xs = p at *
 generalize precP b2 ys = q at *
 generalize scopeP b xs = sa at *
 generalize scopeP b2 ys = sb at *
 have HG := Lib.hid hgt
 clear h h2
 go_enter Tryz.func118, Tryz.ntmps118
 go_wp2_with fail
 obtain ⟨W, hW⟩ : ∃ W, W = ((w.alloc (.cells (adr b xs).toArray 40)).alloc (.cells (adr b2 ys).toArray 40)).drew := ⟨_, rfl⟩
 have rA : W.rangeAt w.heap.size 0 (adr b xs) := by rw [hW]; exact R0
 have rB : W.rangeAt (w.heap.size + 1) 0 (adr b2 ys) := by rw [hW]; exact R1
 refine wp_region_held (S := Touch [] W) (by kernel_rfl) ?_
 change wpAnyH _ _ _ _ _ _ _ _ ((w.alloc (.cells (adr b xs).toArray 40)).alloc (.cells (adr b2 ys).toArray 40)).drew
 rw [← hW] at t0 ⊢
 clear hW R0 R1
 have T0 := Lib.hid t0
 clear t0
 have hS := Touch.refl [] W
 refine tkH 0 (.agg (adr b xs).toArray) ?_ (hy := Or.inl ⟨by rfl, fun w' hw => exec_load_agg _ 40 _ rfl _ _ rfl (adr b xs) _ (hw.range rA (by simp)) Tryz.underlying40 rfl (by rw [size31, HLA.out])⟩)
 refine tkH 2 (.agg (adr b2 ys).toArray) ?_ (hy := Or.inl ⟨by rfl, fun w' hw => exec_load_agg _ 40 _ rfl _ _ rfl (adr b2 ys) _ (hw.range rB (by simp)) Tryz.underlying40 rfl (by rw [size31, HLB.out])⟩)
 refine wpAnyH_ready (rs := [1]) (by kernel_rfl) (by simp) ?_
 refine cnH rfl (fun K hK => ?_) AllReadyH.nil
 go_simp
 refine (HPA.out _).mono ?_
 rintro e w1 ⟨rfl, t1⟩
 have hS2 := hS.trans t1 (by simp)
 refine hK.out _ _ hS2 (fun _ => ?_)
 clear hK K hS t1
 have hS := hS2
 clear hS2
 try simp only [Act.put, sT, s0, sS]
 refine wpAnyH_ready (rs := [3]) (by kernel_rfl) (by simp) ?_
 refine cnH rfl (fun K hK => ?_) AllReadyH.nil
 go_simp
 refine (HPB.out _).mono ?_
 rintro e w3 ⟨rfl, t3⟩
 have hS2 := hS.trans t3 (by simp)
 refine hK.out _ _ hS2 (fun _ => ?_)
 clear hK K hS t3
 have hS := hS2
 clear hS2
 try simp only [Act.put, sT, s0, sS]
 refine tkH 4 (.int .i64 p) ?_
 refine tkH 5 (.int .i64 q) ?_
 refine wpAnyH_done (by kernel_rfl) ?_ _
 try simp only [Act.put, sT, s0, sS]
 go_wp2_with fail
 have rA2 := hS.range rA (by simp)
 have rB2 := hS.range rB (by simp)
 refine wp_region_held (S := Touch [] w3.drew) (by kernel_rfl) ?_
 change wpAnyH _ _ _ _ _ _ _ _ w3.drew
 have rA : w3.drew.rangeAt w.heap.size 0 (adr b xs) := rA2
 have rB : w3.drew.rangeAt (w.heap.size + 1) 0 (adr b2 ys) := rB2
 have T1 := Lib.hid (show Touch [] w w3.drew from (T0.out.trans hS (by simp)).drew)
 clear rA2 rB2 T0 hS
 generalize w3.drew = W at *
 have hS := Touch.refl [] W
 refine tkH 0 (.int .i64 p) ?_
 refine tkH 1 (.int .i64 q) ?_
 refine tkH 2 (.bool true) ?_ (hy := Or.inl ⟨by rfl, fun w' hw => by (have q := hgt; go_simp)⟩)
 refine tkH 3 (.bool true) ?_
 refine tkN 4 undef ?_
 refine tkN 5 undef ?_
 refine tkN 6 undef ?_
 refine tkN 7 undef ?_
 refine tkN 8 undef ?_
 refine tkN 9 undef ?_
 refine tkN 10 undef ?_
 refine tkN 11 undef ?_
 refine tkN 12 undef ?_
 refine tkN 13 undef ?_
 refine tkH 14 (.bool true) ?_
 refine tkH 15 (.bool true) ?_
 refine wpAnyH_done (by kernel_rfl) ?_ _
 try simp only [Act.put, sT, s0, sS]
 go_wp2_with fail
 go_ret
 exact ⟨by rfl, T1.out.trans hS (by simp)⟩
set_option maxRecDepth 100000 in
set_option maxHeartbeats 4000000 in
theorem rless_b (b : Bool) (xs : List Int) (b2 : Bool) (ys : List Int) (h : okB xs) (h2 : okB ys) (hgt : ¬ precP b2 ys < precP b xs) (heq : ¬ precP b xs = precP b2 ys) (w : World) :
  Calls Tryz.prog 118 #[.agg (adr b xs).toArray, .agg (adr b2 ys).toArray] w fun e w' => e = .returned (.bool false) ∧ Touch [] w w' := by
 have R0 := World.rangeAt_alloc (range_new w (adr b xs) 40) (.cells (adr b2 ys).toArray 40)
 have R1 := range_block (heap_alloc2_new w (.cells (adr b xs).toArray 40) (.cells (adr b2 ys).toArray 40))
 have t0 := (((Touch.refl [] w).alloc (.cells (adr b xs).toArray 40)).alloc (.cells (adr b2 ys).toArray 40)).drew
 have HLA := Lib.hid (show (adr b xs).length = 17 by simp [adr, h.1])
 have HLB := Lib.hid (show (adr b2 ys).length = 17 by simp [adr, h2.1])
 have HPA := Lib.hid (rprec_any b xs h)
 have HPB := Lib.hid (rprec_any b2 ys h2)
 have HSA := Lib.hid (rscope_any b xs h)
 have HSB := Lib.hid (rscope_any b2 ys h2)
 generalize precP b xs = p at *
 generalize precP b2 ys = q at *
 generalize scopeP b xs = sa at *
 generalize scopeP b2 ys = sb at *
 have HG := Lib.hid hgt
 clear h h2
 go_enter Tryz.func118, Tryz.ntmps118
 go_wp2_with fail
 obtain ⟨W, hW⟩ : ∃ W, W = ((w.alloc (.cells (adr b xs).toArray 40)).alloc (.cells (adr b2 ys).toArray 40)).drew := ⟨_, rfl⟩
 have rA : W.rangeAt w.heap.size 0 (adr b xs) := by rw [hW]; exact R0
 have rB : W.rangeAt (w.heap.size + 1) 0 (adr b2 ys) := by rw [hW]; exact R1
 refine wp_region_held (S := Touch [] W) (by kernel_rfl) ?_
 change wpAnyH _ _ _ _ _ _ _ _ ((w.alloc (.cells (adr b xs).toArray 40)).alloc (.cells (adr b2 ys).toArray 40)).drew
 rw [← hW] at t0 ⊢
 clear hW R0 R1
 have T0 := Lib.hid t0
 clear t0
 have hS := Touch.refl [] W
 refine tkH 0 (.agg (adr b xs).toArray) ?_ (hy := Or.inl ⟨by rfl, fun w' hw => exec_load_agg _ 40 _ rfl _ _ rfl (adr b xs) _ (hw.range rA (by simp)) Tryz.underlying40 rfl (by rw [size31, HLA.out])⟩)
 refine tkH 2 (.agg (adr b2 ys).toArray) ?_ (hy := Or.inl ⟨by rfl, fun w' hw => exec_load_agg _ 40 _ rfl _ _ rfl (adr b2 ys) _ (hw.range rB (by simp)) Tryz.underlying40 rfl (by rw [size31, HLB.out])⟩)
 refine wpAnyH_ready (rs := [1]) (by kernel_rfl) (by simp) ?_
 refine cnH rfl (fun K hK => ?_) AllReadyH.nil
 go_simp
 refine (HPA.out _).mono ?_
 rintro e w1 ⟨rfl, t1⟩
 have hS2 := hS.trans t1 (by simp)
 refine hK.out _ _ hS2 (fun _ => ?_)
 clear hK K hS t1
 have hS := hS2
 clear hS2
 try simp only [Act.put, sT, s0, sS]
 refine wpAnyH_ready (rs := [3]) (by kernel_rfl) (by simp) ?_
 refine cnH rfl (fun K hK => ?_) AllReadyH.nil
 go_simp
 refine (HPB.out _).mono ?_
 rintro e w3 ⟨rfl, t3⟩
 have hS2 := hS.trans t3 (by simp)
 refine hK.out _ _ hS2 (fun _ => ?_)
 clear hK K hS t3
 have hS := hS2
 clear hS2
 try simp only [Act.put, sT, s0, sS]
 refine tkH 4 (.int .i64 p) ?_
 refine tkH 5 (.int .i64 q) ?_
 refine wpAnyH_done (by kernel_rfl) ?_ _
 try simp only [Act.put, sT, s0, sS]
 go_wp2_with fail
 have rA2 := hS.range rA (by simp)
 have rB2 := hS.range rB (by simp)
 refine wp_region_held (S := Touch [] w3.drew) (by kernel_rfl) ?_
 change wpAnyH _ _ _ _ _ _ _ _ w3.drew
 have rA : w3.drew.rangeAt w.heap.size 0 (adr b xs) := rA2
 have rB : w3.drew.rangeAt (w.heap.size + 1) 0 (adr b2 ys) := rB2
 have T1 := Lib.hid (show Touch [] w w3.drew from (T0.out.trans hS (by simp)).drew)
 clear rA2 rB2 T0 hS
 generalize w3.drew = W at *
 have hS := Touch.refl [] W
 refine tkH 0 (.int .i64 p) ?_
 refine tkH 1 (.int .i64 q) ?_
 refine tkH 2 (.bool false) ?_ (hy := Or.inl ⟨by rfl, fun w' hw => by (have q := hgt; go_simp)⟩)
 refine tkH 3 (.bool false) ?_
 refine tkH 4 (.int .i64 p) ?_
 refine tkH 5 (.int .i64 q) ?_
 refine tkH 6 (.bool false) ?_ (hy := Or.inl ⟨by rfl, fun w' hw => by (have q := heq; go_simp)⟩)
 refine tkH 7 (.bool false) ?_
 refine tkN 8 undef ?_
 refine tkN 9 undef ?_
 refine tkN 10 undef ?_
 refine tkN 11 undef ?_
 refine tkN 12 undef ?_
 refine tkH 13 (.bool false) ?_
 refine tkH 14 (.bool false) ?_
 refine tkH 15 (.bool false) ?_
 refine wpAnyH_done (by kernel_rfl) ?_ _
 try simp only [Act.put, sT, s0, sS]
 go_wp2_with fail
 go_ret
 exact ⟨by rfl, T1.out.trans hS (by simp)⟩
set_option maxRecDepth 100000 in
set_option maxHeartbeats 4000000 in
theorem rless_c (b : Bool) (xs : List Int) (b2 : Bool) (ys : List Int) (h : okB xs) (h2 : okB ys) (hgt : ¬ precP b2 ys < precP b xs) (heq : precP b xs = precP b2 ys) (w : World) :
  Calls Tryz.prog 118 #[.agg (adr b xs).toArray, .agg (adr b2 ys).toArray] w fun e w' => e = .returned (.bool (decide (scopeP b xs < scopeP b2 ys))) ∧ Touch [] w w' := by
 have R0 := World.rangeAt_alloc (range_new w (adr b xs) 40) (.cells (adr b2 ys).toArray 40)
 have R1 := range_block (heap_alloc2_new w (.cells (adr b xs).toArray 40) (.cells (adr b2 ys).toArray 40))
 have t0 := (((Touch.refl [] w).alloc (.cells (adr b xs).toArray 40)).alloc (.cells (adr b2 ys).toArray 40)).drew
 have HLA := Lib.hid (show (adr b xs).length = 17 by simp [adr, h.1])
 have HLB := Lib.hid (show (adr b2 ys).length = 17 by simp [adr, h2.1])
 have HPA := Lib.hid (rprec_any b xs h)
 have HPB := Lib.hid (rprec_any b2 ys h2)
 have HSA := Lib.hid (rscope_any b xs h)
 have HSB := Lib.hid (rscope_any b2 ys h2)
 generalize precP b xs = p at *
 generalize precP b2 ys = q at *
 generalize scopeP b xs = sa at *
 generalize scopeP b2 ys = sb at *
 have HG := Lib.hid hgt
 clear h h2
 go_enter Tryz.func118, Tryz.ntmps118
 go_wp2_with fail
 obtain ⟨W, hW⟩ : ∃ W, W = ((w.alloc (.cells (adr b xs).toArray 40)).alloc (.cells (adr b2 ys).toArray 40)).drew := ⟨_, rfl⟩
 have rA : W.rangeAt w.heap.size 0 (adr b xs) := by rw [hW]; exact R0
 have rB : W.rangeAt (w.heap.size + 1) 0 (adr b2 ys) := by rw [hW]; exact R1
 refine wp_region_held (S := Touch [] W) (by kernel_rfl) ?_
 change wpAnyH _ _ _ _ _ _ _ _ ((w.alloc (.cells (adr b xs).toArray 40)).alloc (.cells (adr b2 ys).toArray 40)).drew
 rw [← hW] at t0 ⊢
 clear hW R0 R1
 have T0 := Lib.hid t0
 clear t0
 have hS := Touch.refl [] W
 refine tkH 0 (.agg (adr b xs).toArray) ?_ (hy := Or.inl ⟨by rfl, fun w' hw => exec_load_agg _ 40 _ rfl _ _ rfl (adr b xs) _ (hw.range rA (by simp)) Tryz.underlying40 rfl (by rw [size31, HLA.out])⟩)
 refine tkH 2 (.agg (adr b2 ys).toArray) ?_ (hy := Or.inl ⟨by rfl, fun w' hw => exec_load_agg _ 40 _ rfl _ _ rfl (adr b2 ys) _ (hw.range rB (by simp)) Tryz.underlying40 rfl (by rw [size31, HLB.out])⟩)
 refine wpAnyH_ready (rs := [1]) (by kernel_rfl) (by simp) ?_
 refine cnH rfl (fun K hK => ?_) AllReadyH.nil
 go_simp
 refine (HPA.out _).mono ?_
 rintro e w1 ⟨rfl, t1⟩
 have hS2 := hS.trans t1 (by simp)
 refine hK.out _ _ hS2 (fun _ => ?_)
 clear hK K hS t1
 have hS := hS2
 clear hS2
 try simp only [Act.put, sT, s0, sS]
 refine wpAnyH_ready (rs := [3]) (by kernel_rfl) (by simp) ?_
 refine cnH rfl (fun K hK => ?_) AllReadyH.nil
 go_simp
 refine (HPB.out _).mono ?_
 rintro e w3 ⟨rfl, t3⟩
 have hS2 := hS.trans t3 (by simp)
 refine hK.out _ _ hS2 (fun _ => ?_)
 clear hK K hS t3
 have hS := hS2
 clear hS2
 try simp only [Act.put, sT, s0, sS]
 refine tkH 4 (.int .i64 p) ?_
 refine tkH 5 (.int .i64 q) ?_
 refine wpAnyH_done (by kernel_rfl) ?_ _
 try simp only [Act.put, sT, s0, sS]
 go_wp2_with fail
 have rA2 := hS.range rA (by simp)
 have rB2 := hS.range rB (by simp)
 refine wp_region_held (S := Touch [] w3.drew) (by kernel_rfl) ?_
 change wpAnyH _ _ _ _ _ _ _ _ w3.drew
 have rA : w3.drew.rangeAt w.heap.size 0 (adr b xs) := rA2
 have rB : w3.drew.rangeAt (w.heap.size + 1) 0 (adr b2 ys) := rB2
 have T1 := Lib.hid (show Touch [] w w3.drew from (T0.out.trans hS (by simp)).drew)
 clear rA2 rB2 T0 hS
 generalize w3.drew = W at *
 have hS := Touch.refl [] W
 refine tkH 0 (.int .i64 p) ?_
 refine tkH 1 (.int .i64 q) ?_
 refine tkH 2 (.bool false) ?_ (hy := Or.inl ⟨by rfl, fun w' hw => by (have q := hgt; go_simp)⟩)
 refine tkH 3 (.bool false) ?_
 refine tkH 4 (.int .i64 p) ?_
 refine tkH 5 (.int .i64 q) ?_
 refine tkH 6 (.bool true) ?_ (hy := Or.inl ⟨by rfl, fun w' hw => by (have q := heq; go_simp)⟩)
 refine tkH 7 (.bool true) ?_
 refine tkH 8 (.agg (adr b xs).toArray) ?_ (hy := Or.inl ⟨by rfl, fun w' hw => exec_load_agg _ 40 _ rfl _ _ rfl (adr b xs) _ (hw.range rA (by simp)) Tryz.underlying40 rfl (by rw [size31, HLA.out])⟩)
 refine tkH 10 (.agg (adr b2 ys).toArray) ?_ (hy := Or.inl ⟨by rfl, fun w' hw => exec_load_agg _ 40 _ rfl _ _ rfl (adr b2 ys) _ (hw.range rB (by simp)) Tryz.underlying40 rfl (by rw [size31, HLB.out])⟩)
 refine wpAnyH_ready (rs := [9]) (by kernel_rfl) (by simp) ?_
 refine cnH rfl (fun K hK => ?_) AllReadyH.nil
 go_simp
 refine (HSA.out _).mono ?_
 rintro e w9 ⟨rfl, t9⟩
 have hS2 := hS.trans t9 (by simp)
 refine hK.out _ _ hS2 (fun _ => ?_)
 clear hK K hS t9
 have hS := hS2
 clear hS2
 try simp only [Act.put, sT, s0, sS]
 refine wpAnyH_ready (rs := [11]) (by kernel_rfl) (by simp) ?_
 refine cnH rfl (fun K hK => ?_) AllReadyH.nil
 go_simp
 refine (HSB.out _).mono ?_
 rintro e w11 ⟨rfl, t11⟩
 have hS2 := hS.trans t11 (by simp)
 refine hK.out _ _ hS2 (fun _ => ?_)
 clear hK K hS t11
 have hS := hS2
 clear hS2
 try simp only [Act.put, sT, s0, sS]
 refine tkH 12 (.bool (decide (sa < sb))) ?_
 refine tkH 13 (.bool (decide (sa < sb))) ?_
 refine tkH 14 (.bool (decide (sa < sb))) ?_
 refine tkH 15 (.bool (decide (sa < sb))) ?_
 refine wpAnyH_done (by kernel_rfl) ?_ _
 try simp only [Act.put, sT, s0, sS]
 go_wp2_with fail
 go_ret
 exact ⟨by rfl, T1.out.trans hS (by simp)⟩
theorem rless_any (b : Bool) (xs : List Int) (b2 : Bool) (ys : List Int) (h : okB xs) (h2 : okB ys) (w : World) :
  Calls Tryz.prog 118 #[.agg (adr b xs).toArray, .agg (adr b2 ys).toArray] w fun e w' => e = .returned (.bool (lessP b xs b2 ys)) ∧ Touch [] w w' := by
 rw [lessP_eq]
 by_cases hgt : precP b2 ys < precP b xs
 ·have := rless_a b xs b2 ys h h2 hgt w
  simpa [hgt] using this
 ·by_cases heq : precP b xs = precP b2 ys
  ·have := rless_c b xs b2 ys h h2 hgt heq w
   simpa [hgt, heq] using this
  ·have := rless_b b xs b2 ys h h2 hgt heq w
   simpa [hgt, heq] using this
end Go.Proofs.YtiklhaajhdephaaGreatDoor

/-
 The contracts of Less, at addresses, and of the reference's Sort.
-/
namespace Go.Proofs.YtiklhaajhdephaaGreatDoor
open Go.RowKit
set_option linter.unusedVariables false
set_option linter.unusedSimpArgs false

theorem rlessA (a c : Ad) (r : Bool) (h : a.less c = r) (w : World) : Calls Tryz.prog 118 #[.agg a.cells.toArray, .agg c.cells.toArray] w fun e w' => e = .returned (.bool r) ∧ Touch [] w w' := by
 subst h
 exact rless_any a.b a.xs c.b c.xs a.ok c.ok w
theorem rd_one (w : World) (y : Ad) (T : TypeId) : Rd (w.alloc (.cells [y.cells].flatten.toArray T)) 17 w.heap.size (.slice (some ⟨w.heap.size, 0, none⟩) 1 1) ([y].map Ad.cells) := by
 refine ⟨_, _, rfl, by simp, by unfold maxLen; omega, (fun e => by cases e), fun hne => ⟨0, rfl, fun i x hx j v hv => ?_⟩⟩
 have hi : i = 0 := by
  rcases Nat.eq_zero_or_pos i with h | h
  ·exact h
  ·rw [List.getElem?_eq_none (by simp; omega)] at hx; cases hx
 subst hi
 simp at hx
 subst hx
 have := range_new w [y.cells].flatten T j v (by simpa using hv)
 simpa [Nat.add_assoc] using this
theorem insK_step (x : Ad) (L : List Ad) (k : Nat) (y : Ad) (hy : L[k]? = some y) : insK Ad.less x L (k + 1) = if x.less y = true then insK Ad.less x L k else k + 1 := by rw [insK, hy]
theorem insS_at (x : Ad) (L : List Ad) (k : Nat) (h : k = insK Ad.less x L L.length) : L.take k ++ [x] ++ L.drop k = insS Ad.less L x := by
 subst h; unfold insS; simp
theorem foldl_take {α β : Type} (f : β → α → β) (z : β) (l : List α) (i : Nat) (x : α) (hx : l[i]? = some x) : (l.take (i + 1)).foldl f z = f ((l.take i).foldl f z) x := by
 rw [List.take_add_one, hx, Option.toList_some, List.foldl_append]
 rfl
set_option maxRecDepth 100000 in
set_option maxHeartbeats 4000000 in
theorem rsort_any (v : Value) (b : Nat) (l : List Ad) (w : World) (hv : Rd w 17 b v (l.map Ad.cells)) (hl : l.length * 17 ≤ 140737488351232) :
  Calls Tryz.prog 98 #[v] w fun e w' => ∃ v', e = .returned v' ∧ OwnA w w' v' (sortS Ad.less l) ∧ Touch [] w w' := by
 obtain ⟨a, cap, rfl, hlc, hcm⟩ := hv.form
 simp only [List.length_map] at *
 obtain ⟨n, hn⟩ : ∃ n, n = l.length := ⟨_, rfl⟩
 have HN := Lib.hid hn
 have HV := Lib.hid hv
 rw [← hn] at hl ⊢
 clear hv hn hlc hcm
 go_enter Tryz.func98, Tryz.ntmps98
 go_wp2_with fail
 go_loopw [3, 4, 5] (fun vo vi vk wr => ∃ (i : Nat) (L : List Ad), i ≤ n ∧ vi = .int .i64 i ∧ L = (l.take i).foldl (insS Ad.less) [] ∧ OwnA w wr vo L ∧ Touch [] w wr) (fun _ vi _ _ => n - (intOf vi).toNat)
 case atStart => exact ⟨0, [], by omega, rfl, by simp, Own.nil _ _, Touch.refl _ _⟩
 case round =>
  obtain ⟨i, L, hi, rfl, hL, hown, ht⟩ := hrel
  have HO := Lib.hid hown
  have HT := Lib.hid ht
  have HL := Lib.hid hL
  have hLl : L.length = i := by rw [hL, foldl_insS_len, List.length_take, ← HN.out]; simp; omega
  clear hown ht hL
  by_cases hlt : i < n
  ·obtain ⟨x, hx⟩ : ∃ x, l[i]? = some x := ⟨_, List.getElem?_eq_getElem (by rw [← HN.out]; exact hlt)⟩
   obtain ⟨o1, rfl, hat1⟩ := HV.out.at (by intro e; rw [List.map_eq_nil_iff] at e; rw [e] at hx; simp at hx)
   have rx := HT.out.range (hat1 i x.cells (by simp [hx])) (by simp)
   obtain ⟨aO, cO, hu3, hlcO, hcmO, _⟩ := HO.out.form
   subst hu3
   rw [hLl] at hlcO HO ⊢
   have HLX := Lib.hid x.len
   have HSX := Lib.hid (foldl_take (insS Ad.less) [] l i x hx)
   have hwi : IntKind.i64.wrap ((i : Int) + 1) = (i : Int) + 1 := by rw [IntKind.wrap_i64] <;> omega
   have hin2 : (i : Int) < (n : Int) := by omega
   have HLL := Lib.hid hLl
   have hcm2 : cO ≤ 9223372036854775807 := by unfold maxLen at hcmO; omega
   clear hx hat1 hLl hcmO
   go_wp2_with fail
   go_loopw [5] (fun vk wq => ∃ k : Nat, k ≤ i ∧ vk = .int .i64 k ∧ insK Ad.less x L k = insK Ad.less x L L.length ∧ Touch [] wr wq) (fun vk _ => (intOf vk).toNat)
   case atStart => exact ⟨i, Nat.le_refl _, rfl, by rw [HLL.out], Touch.refl _ _⟩
   case round =>
    obtain ⟨k, hki, rfl, hK, ht⟩ := hrel
    have HT2 := Lib.hid ht
    have HKK := Lib.hid hK
    have rx2 := ht.range rx (by simp)
    have HO2 := Lib.hid (show OwnA w wr (.slice aO i cO) L from Own.touch HO.out ht (by simp))
    clear ht hK rx
    by_cases hk0 : 0 < k
    ·obtain ⟨k0, hk⟩ : ∃ k0, k = k0 + 1 := ⟨k - 1, by omega⟩
     obtain ⟨y, hy⟩ : ∃ y, L[k0]? = some y := ⟨_, List.getElem?_eq_getElem (by rw [HLL.out]; omega)⟩
     obtain ⟨bo, hrd, hbo⟩ := HO2.out.rd
     obtain ⟨o2, rfl, hat2⟩ := hrd.at (by intro e; rw [List.map_eq_nil_iff] at e; rw [e] at hy; simp at hy)
     have ry := hat2 k0 y.cells (by simp [hy])
     have HLY := Lib.hid y.len
     have hwk : IntKind.i64.wrap ((k : Int) - 1) = (k0 : Int) := by rw [IntKind.wrap_i64] <;> omega
     have hk0i : (k0 : Int) < (i : Int) := by omega
     have hkp : 0 < k := by omega
     have hkc : (k : Int) ≤ (cO : Int) := by omega
     have HST := Lib.hid (insK_step x L k0 y hy)
     have HK0 := Lib.hid hk
     have HBO := Lib.hid hbo
     have HRD := Lib.hid hrd
     clear hy hat2 hk hbo hrd hk0
     by_cases hls : x.less y = true
     ·have HLS := Lib.hid (rlessA x y true hls)
      have HK2 := Lib.hid (show insK Ad.less x L k0 = insK Ad.less x L L.length by rw [← HKK.out, HK0.out, HST.out, if_pos hls])
      clear hls
      go_wp2_with fail
      refine wp_region_held (S := Touch [] wr.drew) (by kernel_rfl) ?_
      change wpAnyH _ _ _ _ _ _ _ _ wr.drew
      have HTd := Lib.hid (HT2.out.drew)
      have HTi := Lib.hid ((Touch.refl [] wr).drew)
      have hS := Touch.refl [] wr.drew
      have rxd : wr.drew.rangeAt b (o1 + i * 17) x.cells := rx2
      have ryd : wr.drew.rangeAt bo (o2 + k0 * 17) y.cells := ry
      generalize wr.drew = W at *
      refine tkH 0 (.int .i64 (k : Nat)) ?_
      refine tkH 1 (.bool true) ?_ (hy := Or.inl ⟨by rfl, fun w' hw => by (have q := hkp; go_simp)⟩)
      refine tkH 2 (.bool true) ?_
      refine tkH 3 (.slice (some ⟨b, o1, none⟩) n cap) ?_
      refine tkH 4 (.int .i64 (i : Nat)) ?_
      refine tkH 5 (.pointer (some ⟨b, o1 + i * 17, none⟩)) ?_
      refine tkH 6 (.agg x.cells.toArray) ?_ (hy := Or.inl ⟨by rfl, fun w' hw => exec_load_agg _ 40 _ rfl _ _ rfl x.cells _ (hw.range rxd (by simp)) Tryz.underlying40 rfl (by rw [size31, HLX.out])⟩)
      refine tkH 7 (.slice (some ⟨bo, o2, none⟩) i cO) ?_
      refine tkH 8 (.int .i64 (k : Nat)) ?_
      refine tkH 9 (.int .i64 (k0 : Nat)) ?_
      refine tkH 10 (.pointer (some ⟨bo, o2 + k0 * 17, none⟩)) ?_
      refine tkH 11 (.agg y.cells.toArray) ?_ (hy := Or.inl ⟨by rfl, fun w' hw => exec_load_agg _ 40 _ rfl _ _ rfl y.cells _ (hw.range ryd (by simp)) Tryz.underlying40 rfl (by rw [size31, HLY.out])⟩)
      refine wpAnyH_ready (rs := [12]) (by kernel_rfl) (by simp) ?_
      refine cnH rfl (fun K hK => ?_) AllReadyH.nil
      go_simp
      refine (HLS.out _).mono ?_
      rintro e w12 ⟨rfl, t12⟩
      have hS2 := hS.trans t12 (by simp)
      refine hK.out _ _ hS2 (fun _ => ?_)
      clear hK K hS t12
      have hS := hS2
      clear hS2
      try simp only [Act.put, sT, s0, sS]
      refine tkH 13 (.bool true) ?_
      refine wpAnyH_done (by kernel_rfl) ?_ _
      try simp only [Act.put, sT, s0, sS]
      have HT3 := Lib.hid (HTd.out.trans hS (by simp))
      clear hS HTd
      go_wp2_with fail
      go_roundw
      case rel => exact ⟨k0, by have := HK0.out; omega, rfl, HK2.out, HT3.out⟩
      case measure => simp [intOf]; have := HK0.out; omega
     ·have hlf : x.less y = false := by simpa using hls
      have HLS := Lib.hid (rlessA x y false hlf)
      have HKE := Lib.hid (show k = insK Ad.less x L L.length by rw [← HKK.out, HK0.out, HST.out, if_neg hls])
      clear hls hlf
      go_wp2_with fail
      refine wp_region_held (S := Touch [] wr.drew) (by kernel_rfl) ?_
      change wpAnyH _ _ _ _ _ _ _ _ wr.drew
      have HTd := Lib.hid (HT2.out.drew)
      have HTi := Lib.hid ((Touch.refl [] wr).drew)
      have hS := Touch.refl [] wr.drew
      have rxd : wr.drew.rangeAt b (o1 + i * 17) x.cells := rx2
      have ryd : wr.drew.rangeAt bo (o2 + k0 * 17) y.cells := ry
      generalize wr.drew = W at *
      refine tkH 0 (.int .i64 (k : Nat)) ?_
      refine tkH 1 (.bool true) ?_ (hy := Or.inl ⟨by rfl, fun w' hw => by (have q := hkp; go_simp)⟩)
      refine tkH 2 (.bool true) ?_
      refine tkH 3 (.slice (some ⟨b, o1, none⟩) n cap) ?_
      refine tkH 4 (.int .i64 (i : Nat)) ?_
      refine tkH 5 (.pointer (some ⟨b, o1 + i * 17, none⟩)) ?_
      refine tkH 6 (.agg x.cells.toArray) ?_ (hy := Or.inl ⟨by rfl, fun w' hw => exec_load_agg _ 40 _ rfl _ _ rfl x.cells _ (hw.range rxd (by simp)) Tryz.underlying40 rfl (by rw [size31, HLX.out])⟩)
      refine tkH 7 (.slice (some ⟨bo, o2, none⟩) i cO) ?_
      refine tkH 8 (.int .i64 (k : Nat)) ?_
      refine tkH 9 (.int .i64 (k0 : Nat)) ?_
      refine tkH 10 (.pointer (some ⟨bo, o2 + k0 * 17, none⟩)) ?_
      refine tkH 11 (.agg y.cells.toArray) ?_ (hy := Or.inl ⟨by rfl, fun w' hw => exec_load_agg _ 40 _ rfl _ _ rfl y.cells _ (hw.range ryd (by simp)) Tryz.underlying40 rfl (by rw [size31, HLY.out])⟩)
      refine wpAnyH_ready (rs := [12]) (by kernel_rfl) (by simp) ?_
      refine cnH rfl (fun K hK => ?_) AllReadyH.nil
      go_simp
      refine (HLS.out _).mono ?_
      rintro e w12 ⟨rfl, t12⟩
      have hS2 := hS.trans t12 (by simp)
      refine hK.out _ _ hS2 (fun _ => ?_)
      clear hK K hS t12
      have hS := hS2
      clear hS2
      try simp only [Act.put, sT, s0, sS]
      refine tkH 13 (.bool false) ?_
      refine wpAnyH_done (by kernel_rfl) ?_ _
      try simp only [Act.put, sT, s0, sS]
      have HT3 := Lib.hid (HTd.out.trans hS (by simp))
      have HI3 := Lib.hid (HTi.out.trans hS (by simp))
      clear hS HTd HTi
      go_wp2_with fail
      have HX3 := Lib.hid (HT.out.trans HT3.out.drew (by simp))
      have rdO := HRD.out.touch HI3.out.drew (by simp)
      have rxd := HI3.out.drew.range rx2 (by simp)
      clear HT3 HI3
      refine wp_region_held (S := Touch [] w12.drew) (by kernel_rfl) ?_
      change wpAnyH _ _ _ _ _ _ _ _ w12.drew
      generalize w12.drew = V at *
      have hS := Touch.refl [] V
      have HRX := Lib.hid rxd
      have HRO := Lib.hid rdO
      have HLEN := Lib.hid (show (L.length + 1) * 17 ≤ 140737488355328 by rw [HLL.out]; omega)
      have hLk : (L.take k).length ≤ L.length := List.length_take_le' _ _
      have hLd : (L.take k).length + (L.drop k).length = L.length := by simp [HLL.out]; omega
      have HLK := Lib.hid hLk
      have HLD := Lib.hid hLd
      clear hLk hLd rxd rdO
      refine tkH 0 (.slice (some ⟨bo, o2, none⟩) i cO) ?_
      refine tkH 1 (.int .i64 (k : Nat)) ?_
      refine tkH 2 (.slice (some ⟨bo, o2, none⟩) k cO) ?_ (hy := Or.inl ⟨by rfl, fun w' hw => by (have q := hkc; go_simp)⟩)
      refine tkH 4 (.slice (some ⟨b, o1, none⟩) n cap) ?_
      refine tkH 5 (.int .i64 (i : Nat)) ?_
      refine tkH 6 (.pointer (some ⟨b, o1 + i * 17, none⟩)) ?_
      refine tkH 7 (.agg x.cells.toArray) ?_ (hy := Or.inl ⟨by rfl, fun w' hw => exec_load_agg _ 40 _ rfl _ _ rfl x.cells _ (hw.range HRX.out (by simp)) Tryz.underlying40 rfl (by rw [size31, HLX.out])⟩)
      refine tkH 10 (.slice (some ⟨bo, o2, none⟩) i cO) ?_
      refine tkH 11 (.int .i64 (k : Nat)) ?_
      refine tkH 12 (cutv (some ⟨bo, o2, none⟩) i cO k 17) ?_ (hy := yieldsIf_from (by rfl) 35 _ _ rfl 40 17 Tryz.underlying35 size31 (some ⟨bo, o2, none⟩) i cO k (by rfl) (by rfl) hki)
      refine wpAnyH_ready (rs := [3, 8]) (by kernel_rfl) (by simp) ?_
      refine cnH rfl (fun K hK => ?_) (cnH rfl (fun K hK => ?_) AllReadyH.nil)
      ·refine step_of_list rfl ?_
       refine wpList_app_ads w _ rfl _ _ rfl (.slice none 0 0) [] rfl (Own.nil _ _) (by have q1 := HX3.out.size; have q2 := hS.size; omega) (.slice (some ⟨bo, o2, none⟩) k cO) bo (L.take k) rfl (by rw [List.map_take]; exact (HRO.out.touch hS (by simp)).take k (by rw [List.length_map, HLL.out]; exact hki)) (by have := HLK.out; have := HLEN.out; simp only [List.length_nil]; omega) ?_
       intro v3 w3 o3 t3 h3
       have hS2 := hS.trans t3 (by simp [Value.ownBlock])
       have n3 : ∀ q, v3.ownBlock = some q → V.heap.size ≤ q := by intro q hq; rcases h3 with e | e <;> rw [e] at hq <;> simp [Value.ownBlock] at hq; have := hS.size; omega
       refine ⟨rfl, hK.out _ _ hS2 (fun _ => ?_)⟩
       clear hK K hS
       rw [List.nil_append] at o3
       clear t3 h3
       have hS := hS2
       clear hS2
       try simp only [Act.put, sT, s0, sS]
       refine wpAnyH_ready (rs := [8]) (by kernel_rfl) (by simp) ?_
       refine cnH rfl (fun K hK => ?_) AllReadyH.nil
       refine step_of_list rfl ?_
       refine wpList_build_ad rfl _ rfl x (by rfl) ?_
       have r8 := rd_one w3 x 40
       have tA := (Touch.refl [] w3).alloc (.cells [x.cells].flatten.toArray 40)
       have hS2 := hS.trans tA (by simp)
       have o3 := (show OwnA w _ v3 (L.take k) from Own.touch o3 tA (by simp))
       refine ⟨rfl, hK.out _ _ hS2 (fun _ => ?_)⟩
       clear hK K hS
       clear tA
       have hS := hS2
       clear hS2
       try simp only [Act.put, sT, s0, sS]
       refine wpAnyH_ready (rs := [9]) (by kernel_rfl) (by simp) ?_
       refine cnH rfl (fun K hK => ?_) AllReadyH.nil
       refine step_of_list rfl ?_
       refine wpList_app_ads w _ rfl _ _ rfl v3 (L.take k) rfl o3 (by have q1 := HX3.out.size; have q2 := hS.size; omega) _ _ [x] rfl r8 (by have := HLK.out; have := HLEN.out; simp only [List.length_singleton]; omega) ?_
       intro v9 w9 o9 t9 h9
       have hS2 := hS.trans t9 (by intro q hq; exact .inr (n3 q (by simpa using hq)))
       have n9 : ∀ q, v9.ownBlock = some q → V.heap.size ≤ q := by intro q hq; rcases h9 with e | e; rw [e] at hq; exact n3 q hq; rw [e] at hq; cases hq; exact hS.size
       refine ⟨rfl, hK.out _ _ hS2 (fun _ => ?_)⟩
       clear hK K hS
       clear t9 h9 o3 r8 n3
       have hS := hS2
       clear hS2
       try simp only [Act.put, sT, s0, sS]
       refine wpAnyH_ready (rs := [13]) (by kernel_rfl) (by simp) ?_
       refine cnH rfl (fun K hK => ?_) AllReadyH.nil
       refine step_of_list rfl ?_
       refine wpList_app_ads w _ rfl _ _ rfl v9 (L.take k ++ [x]) rfl o9 (by have q1 := HX3.out.size; have q2 := hS.size; omega) (cutv (some ⟨bo, o2, none⟩) i cO k 17) bo (L.drop k) rfl (by rw [List.map_drop]; exact (HRO.out.touch hS (by simp)).drop (P := Tryz.prog) (T := 0) (e := 0) k (by rw [List.length_map, HLL.out]; exact hki)) (by have := HLD.out; have := HLEN.out; simp only [List.length_append, List.length_singleton]; omega) ?_
       intro v13 w13 o13 t13 h13
       have hS2 := hS.trans t13 (by intro q hq; exact .inr (n9 q (by simpa using hq)))
       refine ⟨rfl, hK.out _ _ hS2 (fun _ => ?_)⟩
       clear hK K hS
       clear t13 h13 o9 n9
       have hS := hS2
       clear hS2
       try simp only [Act.put, sT, s0, sS]
       refine tkH 14 v13 ?_
       refine wpAnyH_done (by kernel_rfl) ?_ _
       try simp only [Act.put, sT, s0, sS]
       have HO4 := Lib.hid (show OwnA w w13 v13 (insS Ad.less L x) by have h := o13; rw [insS_at x L k HKE.out] at h; exact h) 
       have HT4 := Lib.hid (HX3.out.trans hS (by simp))
       clear hS o13
       go_wp2_with fail
       go_roundw
       case rel => exact ⟨i + 1, insS Ad.less L x, by omega, by go_num, by rw [HSX.out, HL.out], HO4.out, HT4.out⟩
       case measure => simp [intOf]; omega
      ·refine step_of_list rfl ?_
       refine wpList_build_ad rfl _ rfl x (by rfl) ?_
       have r8 := rd_one V x 40
       have tA := (Touch.refl [] V).alloc (.cells [x.cells].flatten.toArray 40)
       have hS2 := hS.trans tA (by simp)
       refine ⟨rfl, hK.out _ _ hS2 (fun _ => ?_)⟩
       clear hK K hS
       clear tA
       have hS := hS2
       clear hS2
       try simp only [Act.put, sT, s0, sS]
       refine wpAnyH_ready (rs := [3]) (by kernel_rfl) (by simp) ?_
       refine cnH rfl (fun K hK => ?_) AllReadyH.nil
       refine step_of_list rfl ?_
       refine wpList_app_ads w _ rfl _ _ rfl (.slice none 0 0) [] rfl (Own.nil _ _) (by have q1 := HX3.out.size; have q2 := hS.size; omega) (.slice (some ⟨bo, o2, none⟩) k cO) bo (L.take k) rfl (by rw [List.map_take]; exact (HRO.out.touch hS (by simp)).take k (by rw [List.length_map, HLL.out]; exact hki)) (by have := HLK.out; have := HLEN.out; simp only [List.length_nil]; omega) ?_
       intro v3 w3 o3 t3 h3
       have hS2 := hS.trans t3 (by simp [Value.ownBlock])
       have r8 := r8.touch t3 (by simp [Value.ownBlock])
       have n3 : ∀ q, v3.ownBlock = some q → V.heap.size ≤ q := by intro q hq; rcases h3 with e | e <;> rw [e] at hq <;> simp [Value.ownBlock] at hq; have := hS.size; omega
       refine ⟨rfl, hK.out _ _ hS2 (fun _ => ?_)⟩
       clear hK K hS
       rw [List.nil_append] at o3
       clear t3 h3
       have hS := hS2
       clear hS2
       try simp only [Act.put, sT, s0, sS]
       refine wpAnyH_ready (rs := [9]) (by kernel_rfl) (by simp) ?_
       refine cnH rfl (fun K hK => ?_) AllReadyH.nil
       refine step_of_list rfl ?_
       refine wpList_app_ads w _ rfl _ _ rfl v3 (L.take k) rfl o3 (by have q1 := HX3.out.size; have q2 := hS.size; omega) _ _ [x] rfl r8 (by have := HLK.out; have := HLEN.out; simp only [List.length_singleton]; omega) ?_
       intro v9 w9 o9 t9 h9
       have hS2 := hS.trans t9 (by intro q hq; exact .inr (n3 q (by simpa using hq)))
       have n9 : ∀ q, v9.ownBlock = some q → V.heap.size ≤ q := by intro q hq; rcases h9 with e | e; rw [e] at hq; exact n3 q hq; rw [e] at hq; cases hq; exact hS.size
       refine ⟨rfl, hK.out _ _ hS2 (fun _ => ?_)⟩
       clear hK K hS
       clear t9 h9 o3 r8 n3
       have hS := hS2
       clear hS2
       try simp only [Act.put, sT, s0, sS]
       refine wpAnyH_ready (rs := [13]) (by kernel_rfl) (by simp) ?_
       refine cnH rfl (fun K hK => ?_) AllReadyH.nil
       refine step_of_list rfl ?_
       refine wpList_app_ads w _ rfl _ _ rfl v9 (L.take k ++ [x]) rfl o9 (by have q1 := HX3.out.size; have q2 := hS.size; omega) (cutv (some ⟨bo, o2, none⟩) i cO k 17) bo (L.drop k) rfl (by rw [List.map_drop]; exact (HRO.out.touch hS (by simp)).drop (P := Tryz.prog) (T := 0) (e := 0) k (by rw [List.length_map, HLL.out]; exact hki)) (by have := HLD.out; have := HLEN.out; simp only [List.length_append, List.length_singleton]; omega) ?_
       intro v13 w13 o13 t13 h13
       have hS2 := hS.trans t13 (by intro q hq; exact .inr (n9 q (by simpa using hq)))
       refine ⟨rfl, hK.out _ _ hS2 (fun _ => ?_)⟩
       clear hK K hS
       clear t13 h13 o9 n9
       have hS := hS2
       clear hS2
       try simp only [Act.put, sT, s0, sS]
       refine tkH 14 v13 ?_
       refine wpAnyH_done (by kernel_rfl) ?_ _
       try simp only [Act.put, sT, s0, sS]
       have HO4 := Lib.hid (show OwnA w w13 v13 (insS Ad.less L x) by have h := o13; rw [insS_at x L k HKE.out] at h; exact h) 
       have HT4 := Lib.hid (HX3.out.trans hS (by simp))
       clear hS o13
       go_wp2_with fail
       go_roundw
       case rel => exact ⟨i + 1, insS Ad.less L x, by omega, by go_num, by rw [HSX.out, HL.out], HO4.out, HT4.out⟩
       case measure => simp [intOf]; omega
    ·have hk0 : k = 0 := by omega
     have HKE := Lib.hid (show k = insK Ad.less x L L.length by rw [← HKK.out, hk0]; rfl)
     have hkp : ¬ 0 < k := by omega
     have hkc : (k : Int) ≤ (cO : Int) := by omega
     obtain ⟨bo, hrd, hbo⟩ := HO2.out.rd
     have HRD := Lib.hid hrd
     clear hk0 hrd hbo
     go_wp2_with fail
     refine wp_region_held (S := Touch [] wr.drew) (by kernel_rfl) ?_
     change wpAnyH _ _ _ _ _ _ _ _ wr.drew
     have HTd := Lib.hid (HT2.out.drew)
     have HTi := Lib.hid ((Touch.refl [] wr).drew)
     have hS := Touch.refl [] wr.drew
     generalize wr.drew = W at *
     refine tkH 0 (.int .i64 (k : Nat)) ?_
     refine tkH 1 (.bool false) ?_ (hy := Or.inl ⟨by rfl, fun w' hw => by (have q := hkp; go_simp)⟩)
     refine tkH 2 (.bool false) ?_
     refine tkN 3 undef ?_
     refine tkN 4 undef ?_
     refine tkN 5 undef ?_
     refine tkN 6 undef ?_
     refine tkN 7 undef ?_
     refine tkN 8 undef ?_
     refine tkN 9 undef ?_
     refine tkN 10 undef ?_
     refine tkN 11 undef ?_
     refine tkN 12 undef ?_
     refine tkH 13 (.bool false) ?_
     refine wpAnyH_done (by kernel_rfl) ?_ _
     try simp only [Act.put, sT, s0, sS]
     have HT3 := Lib.hid (HTd.out.trans hS (by simp))
     have HI3 := Lib.hid (HTi.out.trans hS (by simp))
     clear hS HTd HTi
     go_wp2_with fail
     have HX3 := Lib.hid (HT.out.trans HT3.out.drew (by simp))
     have rdO := HRD.out.touch HI3.out.drew (by simp)
     have rxd := HI3.out.drew.range rx2 (by simp)
     clear HT3 HI3
     refine wp_region_held (S := Touch [] W.drew) (by kernel_rfl) ?_
     change wpAnyH _ _ _ _ _ _ _ _ W.drew
     generalize W.drew = V at *
     have hS := Touch.refl [] V
     have HRX := Lib.hid rxd
     have HRO := Lib.hid rdO
     have HLEN := Lib.hid (show (L.length + 1) * 17 ≤ 140737488355328 by rw [HLL.out]; omega)
     have hLk : (L.take k).length ≤ L.length := List.length_take_le' _ _
     have hLd : (L.take k).length + (L.drop k).length = L.length := by simp [HLL.out]; omega
     have HLK := Lib.hid hLk
     have HLD := Lib.hid hLd
     clear hLk hLd rxd rdO
     refine tkH 0 (.slice aO i cO) ?_
     refine tkH 1 (.int .i64 (k : Nat)) ?_
     refine tkH 2 (.slice aO k cO) ?_ (hy := Or.inl ⟨by rfl, fun w' hw => by (have q := hkc; go_simp)⟩)
     refine tkH 4 (.slice (some ⟨b, o1, none⟩) n cap) ?_
     refine tkH 5 (.int .i64 (i : Nat)) ?_
     refine tkH 6 (.pointer (some ⟨b, o1 + i * 17, none⟩)) ?_
     refine tkH 7 (.agg x.cells.toArray) ?_ (hy := Or.inl ⟨by rfl, fun w' hw => exec_load_agg _ 40 _ rfl _ _ rfl x.cells _ (hw.range HRX.out (by simp)) Tryz.underlying40 rfl (by rw [size31, HLX.out])⟩)
     refine tkH 10 (.slice aO i cO) ?_
     refine tkH 11 (.int .i64 (k : Nat)) ?_
     refine tkH 12 (cutv aO i cO k 17) ?_ (hy := yieldsIf_from (by rfl) 35 _ _ rfl 40 17 Tryz.underlying35 size31 aO i cO k (by rfl) (by rfl) hki)
     refine wpAnyH_ready (rs := [3, 8]) (by kernel_rfl) (by simp) ?_
     refine cnH rfl (fun K hK => ?_) (cnH rfl (fun K hK => ?_) AllReadyH.nil)
     ·refine step_of_list rfl ?_
      refine wpList_app_ads w _ rfl _ _ rfl (.slice none 0 0) [] rfl (Own.nil _ _) (by have q1 := HX3.out.size; have q2 := hS.size; omega) (.slice aO k cO) bo (L.take k) rfl (by rw [List.map_take]; exact (HRO.out.touch hS (by simp)).take k (by rw [List.length_map, HLL.out]; exact hki)) (by have := HLK.out; have := HLEN.out; simp only [List.length_nil]; omega) ?_
      intro v3 w3 o3 t3 h3
      have hS2 := hS.trans t3 (by simp [Value.ownBlock])
      have n3 : ∀ q, v3.ownBlock = some q → V.heap.size ≤ q := by intro q hq; rcases h3 with e | e <;> rw [e] at hq <;> simp [Value.ownBlock] at hq; have := hS.size; omega
      refine ⟨rfl, hK.out _ _ hS2 (fun _ => ?_)⟩
      clear hK K hS
      rw [List.nil_append] at o3
      clear t3 h3
      have hS := hS2
      clear hS2
      try simp only [Act.put, sT, s0, sS]
      refine wpAnyH_ready (rs := [8]) (by kernel_rfl) (by simp) ?_
      refine cnH rfl (fun K hK => ?_) AllReadyH.nil
      refine step_of_list rfl ?_
      refine wpList_build_ad rfl _ rfl x (by rfl) ?_
      have r8 := rd_one w3 x 40
      have tA := (Touch.refl [] w3).alloc (.cells [x.cells].flatten.toArray 40)
      have hS2 := hS.trans tA (by simp)
      have o3 := (show OwnA w _ v3 (L.take k) from Own.touch o3 tA (by simp))
      refine ⟨rfl, hK.out _ _ hS2 (fun _ => ?_)⟩
      clear hK K hS
      clear tA
      have hS := hS2
      clear hS2
      try simp only [Act.put, sT, s0, sS]
      refine wpAnyH_ready (rs := [9]) (by kernel_rfl) (by simp) ?_
      refine cnH rfl (fun K hK => ?_) AllReadyH.nil
      refine step_of_list rfl ?_
      refine wpList_app_ads w _ rfl _ _ rfl v3 (L.take k) rfl o3 (by have q1 := HX3.out.size; have q2 := hS.size; omega) _ _ [x] rfl r8 (by have := HLK.out; have := HLEN.out; simp only [List.length_singleton]; omega) ?_
      intro v9 w9 o9 t9 h9
      have hS2 := hS.trans t9 (by intro q hq; exact .inr (n3 q (by simpa using hq)))
      have n9 : ∀ q, v9.ownBlock = some q → V.heap.size ≤ q := by intro q hq; rcases h9 with e | e; rw [e] at hq; exact n3 q hq; rw [e] at hq; cases hq; exact hS.size
      refine ⟨rfl, hK.out _ _ hS2 (fun _ => ?_)⟩
      clear hK K hS
      clear t9 h9 o3 r8 n3
      have hS := hS2
      clear hS2
      try simp only [Act.put, sT, s0, sS]
      refine wpAnyH_ready (rs := [13]) (by kernel_rfl) (by simp) ?_
      refine cnH rfl (fun K hK => ?_) AllReadyH.nil
      refine step_of_list rfl ?_
      refine wpList_app_ads w _ rfl _ _ rfl v9 (L.take k ++ [x]) rfl o9 (by have q1 := HX3.out.size; have q2 := hS.size; omega) (cutv aO i cO k 17) bo (L.drop k) rfl (by rw [List.map_drop]; exact (HRO.out.touch hS (by simp)).drop (P := Tryz.prog) (T := 0) (e := 0) k (by rw [List.length_map, HLL.out]; exact hki)) (by have := HLD.out; have := HLEN.out; simp only [List.length_append, List.length_singleton]; omega) ?_
      intro v13 w13 o13 t13 h13
      have hS2 := hS.trans t13 (by intro q hq; exact .inr (n9 q (by simpa using hq)))
      refine ⟨rfl, hK.out _ _ hS2 (fun _ => ?_)⟩
      clear hK K hS
      clear t13 h13 o9 n9
      have hS := hS2
      clear hS2
      try simp only [Act.put, sT, s0, sS]
      refine tkH 14 v13 ?_
      refine wpAnyH_done (by kernel_rfl) ?_ _
      try simp only [Act.put, sT, s0, sS]
      have HO4 := Lib.hid (show OwnA w w13 v13 (insS Ad.less L x) by have h := o13; rw [insS_at x L k HKE.out] at h; exact h) 
      have HT4 := Lib.hid (HX3.out.trans hS (by simp))
      clear hS o13
      go_wp2_with fail
      go_roundw
      case rel => exact ⟨i + 1, insS Ad.less L x, by omega, by go_num, by rw [HSX.out, HL.out], HO4.out, HT4.out⟩
      case measure => simp [intOf]; omega
     ·refine step_of_list rfl ?_
      refine wpList_build_ad rfl _ rfl x (by rfl) ?_
      have r8 := rd_one V x 40
      have tA := (Touch.refl [] V).alloc (.cells [x.cells].flatten.toArray 40)
      have hS2 := hS.trans tA (by simp)
      refine ⟨rfl, hK.out _ _ hS2 (fun _ => ?_)⟩
      clear hK K hS
      clear tA
      have hS := hS2
      clear hS2
      try simp only [Act.put, sT, s0, sS]
      refine wpAnyH_ready (rs := [3]) (by kernel_rfl) (by simp) ?_
      refine cnH rfl (fun K hK => ?_) AllReadyH.nil
      refine step_of_list rfl ?_
      refine wpList_app_ads w _ rfl _ _ rfl (.slice none 0 0) [] rfl (Own.nil _ _) (by have q1 := HX3.out.size; have q2 := hS.size; omega) (.slice aO k cO) bo (L.take k) rfl (by rw [List.map_take]; exact (HRO.out.touch hS (by simp)).take k (by rw [List.length_map, HLL.out]; exact hki)) (by have := HLK.out; have := HLEN.out; simp only [List.length_nil]; omega) ?_
      intro v3 w3 o3 t3 h3
      have hS2 := hS.trans t3 (by simp [Value.ownBlock])
      have r8 := r8.touch t3 (by simp [Value.ownBlock])
      have n3 : ∀ q, v3.ownBlock = some q → V.heap.size ≤ q := by intro q hq; rcases h3 with e | e <;> rw [e] at hq <;> simp [Value.ownBlock] at hq; have := hS.size; omega
      refine ⟨rfl, hK.out _ _ hS2 (fun _ => ?_)⟩
      clear hK K hS
      rw [List.nil_append] at o3
      clear t3 h3
      have hS := hS2
      clear hS2
      try simp only [Act.put, sT, s0, sS]
      refine wpAnyH_ready (rs := [9]) (by kernel_rfl) (by simp) ?_
      refine cnH rfl (fun K hK => ?_) AllReadyH.nil
      refine step_of_list rfl ?_
      refine wpList_app_ads w _ rfl _ _ rfl v3 (L.take k) rfl o3 (by have q1 := HX3.out.size; have q2 := hS.size; omega) _ _ [x] rfl r8 (by have := HLK.out; have := HLEN.out; simp only [List.length_singleton]; omega) ?_
      intro v9 w9 o9 t9 h9
      have hS2 := hS.trans t9 (by intro q hq; exact .inr (n3 q (by simpa using hq)))
      have n9 : ∀ q, v9.ownBlock = some q → V.heap.size ≤ q := by intro q hq; rcases h9 with e | e; rw [e] at hq; exact n3 q hq; rw [e] at hq; cases hq; exact hS.size
      refine ⟨rfl, hK.out _ _ hS2 (fun _ => ?_)⟩
      clear hK K hS
      clear t9 h9 o3 r8 n3
      have hS := hS2
      clear hS2
      try simp only [Act.put, sT, s0, sS]
      refine wpAnyH_ready (rs := [13]) (by kernel_rfl) (by simp) ?_
      refine cnH rfl (fun K hK => ?_) AllReadyH.nil
      refine step_of_list rfl ?_
      refine wpList_app_ads w _ rfl _ _ rfl v9 (L.take k ++ [x]) rfl o9 (by have q1 := HX3.out.size; have q2 := hS.size; omega) (cutv aO i cO k 17) bo (L.drop k) rfl (by rw [List.map_drop]; exact (HRO.out.touch hS (by simp)).drop (P := Tryz.prog) (T := 0) (e := 0) k (by rw [List.length_map, HLL.out]; exact hki)) (by have := HLD.out; have := HLEN.out; simp only [List.length_append, List.length_singleton]; omega) ?_
      intro v13 w13 o13 t13 h13
      have hS2 := hS.trans t13 (by intro q hq; exact .inr (n9 q (by simpa using hq)))
      refine ⟨rfl, hK.out _ _ hS2 (fun _ => ?_)⟩
      clear hK K hS
      clear t13 h13 o9 n9
      have hS := hS2
      clear hS2
      try simp only [Act.put, sT, s0, sS]
      refine tkH 14 v13 ?_
      refine wpAnyH_done (by kernel_rfl) ?_ _
      try simp only [Act.put, sT, s0, sS]
      have HO4 := Lib.hid (show OwnA w w13 v13 (insS Ad.less L x) by have h := o13; rw [insS_at x L k HKE.out] at h; exact h) 
      have HT4 := Lib.hid (HX3.out.trans hS (by simp))
      clear hS o13
      go_wp2_with fail
      go_roundw
      case rel => exact ⟨i + 1, insS Ad.less L x, by omega, by go_num, by rw [HSX.out, HL.out], HO4.out, HT4.out⟩
      case measure => simp [intOf]; omega
  ·have HIE := Lib.hid (show i = l.length by rw [← HN.out]; omega)
   go_wp2_with fail
   go_ret
   refine ⟨_, rfl, ?_, HT.out⟩
   have h := HO.out
   rw [HL.out, HIE.out, List.take_of_length_le (Nat.le_refl _)] at h
   exact h
end Go.Proofs.YtiklhaajhdephaaGreatDoor

/-
  Merged texts: Rs.
-/
import Derived.Test.YtecaakgpogabjaaDoorKB7

/-
  The contracts of the reference's Precedence and Scope.
-/
namespace Go.Proofs.YtecaakgpogabjaaDoor
open Go.RowKit
set_option linter.unusedVariables false
set_option linter.unusedSimpArgs false

/-- A byte of an address. -/
def byte (xs : List Int) (i : Nat) : Int := xs[i]?.getD 0
/-! ### what hasPrefix says of the first bytes -/
theorem keep_full (bits : Int) (i : Nat) (x : Int) (h : 0 ≤ x ∧ x ≤ 255) (hk : 8 * (i : Int) + 8 ≤ bits) : cutB bits i x = x := by
  refine byte_ext _ _ (cutB_ok _ _ _) h fun j hj => ?_
  rw [cutB_bit bits i x h j hj, if_pos (by omega)]
theorem keep_none (bits : Int) (i : Nat) (x : Int) (h : 0 ≤ x ∧ x ≤ 255) (hk : bits ≤ 8 * (i : Int)) : cutB bits i x = 0 := by
  refine byte_ext _ _ (cutB_ok _ _ _) (by omega) fun j hj => ?_
  rw [cutB_bit bits i x h j hj, if_neg (by omega)]
  simp
theorem trunc_lead (bits : Int) (cs xs : List Int) (h : okB xs) (hm : cs.length ≤ 16) (hb : bits ≤ 8 * cs.length) : trunc bits xs = lead cs ↔ ∀ i : Nat, i < cs.length → cutB bits i (byte xs i) = cs[i]?.getD 0 := by
  constructor
  · intro e i hi
    have e2 := congrArg (fun l => l[i]?) e
    obtain ⟨x, hx⟩ : ∃ x, xs[i]? = some x := ⟨_, List.getElem?_eq_getElem (by rw [h.1]; omega)⟩
    obtain ⟨c, hc⟩ : ∃ c, cs[i]? = some c := ⟨_, List.getElem?_eq_getElem hi⟩
    have e3 : (lead cs)[i]? = some c := by unfold lead; rw [List.getElem?_append_left hi, hc]
    simp only [trunc, List.getElem?_mapIdx, hx, e3, Option.map_some, Option.some.injEq] at e2
    simp [byte, hx, hc, e2]
  · intro hh
    apply List.ext_getElem?
    intro i
    by_cases hi : i < 16
    · obtain ⟨x, hx⟩ : ∃ x, xs[i]? = some x := ⟨_, List.getElem?_eq_getElem (by rw [h.1]; omega)⟩
      have hxr := h.2 x (List.mem_of_getElem? hx)
      simp only [trunc, List.getElem?_mapIdx, hx, Option.map_some]
      by_cases hc : i < cs.length
      · obtain ⟨c, hcc⟩ : ∃ c, cs[i]? = some c := ⟨_, List.getElem?_eq_getElem hc⟩
        have := hh i hc
        simp [byte, hx, hcc] at this
        rw [this]
        unfold lead
        rw [List.getElem?_append_left hc, hcc]
      · rw [keep_none bits i x hxr (by omega)]
        unfold lead
        rw [List.getElem?_append_right (by omega), List.getElem?_replicate, if_pos (by omega)]
    · rw [List.getElem?_eq_none (by simp [trunc, h.1]; omega), List.getElem?_eq_none (by simp [lead]; omega)]
theorem byte_ok {xs : List Int} (h : okB xs) (i : Nat) (hi : i < 16) : 0 ≤ byte xs i ∧ byte xs i ≤ 255 := by
  obtain ⟨x, hx⟩ : ∃ x, xs[i]? = some x := ⟨_, List.getElem?_eq_getElem (by rw [h.1]; omega)⟩
  simp only [byte, hx, Option.getD_some]
  exact h.2 x (List.mem_of_getElem? hx)
theorem hp127 {xs : List Int} (h : okB xs) : hpP 8 [127] xs = decide (byte xs 0 = 127) := by
  have e := trunc_lead 8 [127] xs h (by decide) (by decide)
  unfold hpP
  have q : (∀ i : Nat, i < [(127 : Int)].length → cutB 8 i (byte xs i) = [(127 : Int)][i]?.getD 0) ↔ byte xs 0 = 127 := by
    constructor
    · intro hh
      have := hh 0 (by decide)
      rw [keep_full 8 0 _ (byte_ok h 0 (by omega)) (by decide)] at this
      simpa using this
    · intro hh i hi
      have : i = 0 := by simp at hi; omega
      subst this
      rw [keep_full 8 0 _ (byte_ok h 0 (by omega)) (by decide), hh]
      rfl
  exact decide_eq_decide.2 (e.trans q)
theorem two_bytes (bits a b : Int) {xs : List Int} (h : okB xs) (hb : bits ≤ 16) (h8 : 8 ≤ bits) : hpP bits [a, b] xs = decide (byte xs 0 = a ∧ cutB bits 1 (byte xs 1) = b) := by
  have e := trunc_lead bits [a, b] xs h (by simp) (by simpa using hb)
  unfold hpP
  have q : (∀ i : Nat, i < [a, b].length → cutB bits i (byte xs i) = [a, b][i]?.getD 0) ↔ byte xs 0 = a ∧ cutB bits 1 (byte xs 1) = b := by
    constructor
    · intro hh
      have h0 := hh 0 (by simp)
      have h1 := hh 1 (by simp)
      rw [keep_full bits 0 _ (byte_ok h 0 (by omega)) (by simpa using h8)] at h0
      exact ⟨by simpa using h0, by simpa using h1⟩
    · intro hh i hi
      rcases (by simp at hi; omega : i = 0 ∨ i = 1) with rfl | rfl
      · rw [keep_full bits 0 _ (byte_ok h 0 (by omega)) (by simpa using h8), hh.1]
        rfl
      · rw [hh.2]
        rfl
  exact decide_eq_decide.2 (e.trans q)
theorem cut16 {xs : List Int} (h : okB xs) : cutB 16 1 (byte xs 1) = byte xs 1 := keep_full 16 1 _ (byte_ok h 1 (by omega)) (by decide)
theorem cut10 (x : Int) : cutB 10 1 x = Go.bits .and .u8 x 192 := by
  unfold cutB
  rfl
set_option maxRecDepth 100000 in
set_option maxHeartbeats 1000000 in
theorem rprec_any (b : Bool) (xs : List Int) (h : okB xs) (w : World) :
    Calls Tryd.prog 29 #[.agg (adr b xs).toArray] w fun e w' => e = .returned (.int .i64 (precP b xs)) ∧ Touch [] w w' := by
  have R1 := range_block (heap_alloc_new w (.cells (adr b xs).toArray 28))
  have HT := Lib.hid ((Touch.refl [] w).alloc (.cells (adr b xs).toArray 28))
  have HL17 := Lib.hid (show (adr b xs).length = 17 by simp [adr, h.1])
  cases hv : vld b xs
  · have HS := Lib.hid (show precP b xs = -1 by unfold precP lookP; rw [hv]; rfl)
    have HPO := Lib.hid (rpol_bad b xs h hv)
    clear h hv
    go_enter Tryd.func29, Tryd.ntmps29
    go_wp2_with ((with_reducible refine at_load 28 ?_); refine wpList_load_mid rfl 28 _ rfl w.heap.size 0 rfl (adr b xs) _ R1 Tryd.underlying28 rfl (by rw [size31, HL17.out]) ?_)
    refine (HPO.out _).mono ?_
    rintro e w2 ⟨⟨cs, hcl, rfl, hc1⟩, t2⟩
    have HT2 := Lib.hid (HT.out.trans t2 (by simp))
    have HN := Lib.hid (heap_alloc_new w2 (.cells (prw false (List.replicate 16 0) 0 0 0).toArray 54))
    have HNT := Lib.hid ((Touch.refl [] w2).alloc (.cells (prw false (List.replicate 16 0) 0 0 0).toArray 54))
    have HC := Lib.hid hc1
    have HCL := Lib.hid hcl
    clear t2 HT R1 hc1 hcl
    go_wp2_with ((with_reducible refine at_store 54 ?_); refine wpList_store_into rfl 54 _ _ rfl w2.heap.size 54 _ cs rfl rfl HN.out (by rw [HCL.out]; rfl) (by rw [sizeR, HCL.out]) HC.out ?_)
    intro w3 h3 t3 z3
    have HT23 := Lib.hid (HNT.out.trans t3 (by intro y hy; right; simp at hy; omega))
    clear h3 t3 z3 HN HNT
    go_wp2_with fail
    go_ret
    exact ⟨by rw [HS.out]; rfl, HT2.out.trans HT23.out (by simp)⟩
  · obtain ⟨r, hr⟩ : ∃ r, r = bestR (map6 b xs) 9 := ⟨_, rfl⟩
    have HS := Lib.hid (show precP b xs = r.prec by unfold precP lookP; rw [hv, hr]; exact congrArg PR.prec (best_same (map6 b xs) (map6_ok h) 7))
    have hpx : r.px.length = 16 := by rw [hr]; exact bestR_px _ _
    have HPO := Lib.hid (show ∀ w, Calls Tryd.prog 37 #[.agg (adr b xs).toArray] w fun e w' => e = .returned (.tuple #[.agg r.cells.toArray, .bool true]) ∧ Touch [] w w' by
      rw [hr]
      cases b
      · exact rpol_good_false xs h hv
      · exact rpol_good_true xs h hv)
    have HRL := Lib.hid (pr_len r hpx)
    have HPX := Lib.hid hpx
    clear h hv hr hpx
    go_enter Tryd.func29, Tryd.ntmps29
    go_wp2_with ((with_reducible refine at_load 28 ?_); refine wpList_load_mid rfl 28 _ rfl w.heap.size 0 rfl (adr b xs) _ R1 Tryd.underlying28 rfl (by rw [size31, HL17.out]) ?_)
    refine (HPO.out _).mono ?_
    rintro e w2 ⟨rfl, t2⟩
    have HT2 := Lib.hid (HT.out.trans t2 (by simp))
    have HN := Lib.hid (heap_alloc_new w2 (.cells (prw false (List.replicate 16 0) 0 0 0).toArray 54))
    have HNT := Lib.hid ((Touch.refl [] w2).alloc (.cells (prw false (List.replicate 16 0) 0 0 0).toArray 54))
    clear t2 HT R1
    go_wp2_with ((with_reducible refine at_store 54 ?_); refine wpList_store_into rfl 54 _ _ rfl w2.heap.size 54 _ r.cells rfl rfl HN.out (by rw [HRL.out]; rfl) (by rw [sizeR, HRL.out]) (prw_one _ _ _ _ _) ?_)
    intro w3 h3 t3 z3
    have HT23 := Lib.hid (HNT.out.trans t3 (by intro y hy; right; simp at hy; omega))
    have c18 : w3.cell? ⟨w2.heap.size, 18, none⟩ = some (.int .i64 r.prec) := by
      have := range_block h3 18 (.int .i64 r.prec) (by
        unfold PR.cells prw
        rw [List.getElem?_append_right (by simp [pfx, adr, HPX.out])]
        simp [pfx, adr, HPX.out])
      simpa using this
    clear h3 t3 z3 HN HNT
    go_wp2_with fail
    go_ret
    exact ⟨by rw [HS.out]; rfl, HT2.out.trans HT23.out (by simp)⟩
set_option maxRecDepth 100000 in
set_option maxHeartbeats 1000000 in
theorem rsc_bad (xs : List Int) (h : okB xs) (hv : vld false xs = false) (w : World) :
    Calls Tryd.prog 30 #[.agg (adr false xs).toArray] w fun e w' => e = .returned (.int .i64 (-1)) ∧ Touch [] w w' := by
  have g0 := ((Touch.refl [] w).alloc (.cells (adr false xs).toArray 28)).alloc (.cells (adr false (List.replicate 16 0)).toArray 28)
  have g1 := ((Touch.refl [] (w.alloc (.cells (adr false xs).toArray 28))).alloc (.cells (adr false (List.replicate 16 0)).toArray 28)).at (heap_alloc_new w (.cells (adr false xs).toArray 28)) (by simp)
  have g2 := heap_alloc2_new w (.cells (adr false xs).toArray 28) (.cells (adr false (List.replicate 16 0)).toArray 28)
  have HL17 := Lib.hid (show (adr false xs).length = 17 by simp [adr, h.1])
  have HT := Lib.hid g0
  have HG1 := Lib.hid g1
  have HG2 := Lib.hid g2
  have HV := Lib.hid hv
  have HVA := Lib.hid (rvalid_any false xs h)
  clear g0 g1 g2 h hv
  go_enter Tryd.func30, Tryd.ntmps30
  go_wp2_with (first
    | ((with_reducible refine at_build 28 ?_); refine wpList_built (by rfl) 28 _ (by rfl) _ _ (by rfl) built_one ?_)
    | ((with_reducible refine at_store 28 ?_); refine wpList_store_into rfl 28 _ _ rfl (w.heap.size + 1) 28 _ (adr true onev6) rfl rfl HG2.out rfl size31 (adr_one _ _) ?_))
  intro w1 h1 t1 z1
  have HT1 := Lib.hid (HT.out.trans t1 (by intro y hy; right; simp at hy; omega))
  have A1 := Lib.hid (t1.at HG1.out (by simp))
  have L1 := Lib.hid h1
  have RA := range_block A1.out
  clear h1 t1 z1 HT HG1 HG2
  go_wp2_with ((with_reducible refine at_load 28 ?_); refine wpList_load_mid rfl 28 _ rfl w.heap.size 0 rfl (adr false xs) _ RA Tryd.underlying28 rfl (by rw [size31, HL17.out]) ?_)
  refine (HVA.out _).mono ?_
  rintro e w2 ⟨he, t2⟩
  rw [HV.out] at he
  subst he
  have HT2 := Lib.hid (HT1.out.trans t2 (by simp))
  have A2 := t2.at A1.out (by simp)
  have L2 := t2.at L1.out (by simp)
  have RA := range_block A2
  have RL := range_block L2
  obtain ⟨c0, cj⟩ := adr_cell A2
  clear t2 HT1 A1 L1 A2 L2
  clear cj
  go_wp2_with (first
    | ((with_reducible refine at_load 28 ?_); refine wpList_load_mid rfl 28 _ rfl w.heap.size 0 rfl (adr false xs) _ RA Tryd.underlying28 rfl (by rw [size31, HL17.out]) ?_)
    | ((with_reducible refine at_load 28 ?_); refine wpList_load_mid rfl 28 _ rfl (w.heap.size + 1) 0 rfl (adr true onev6) _ RL Tryd.underlying28 rfl (by rw [size31]; rfl) ?_)
    | ((with_reducible refine at_bin .eql 28 ?_); refine wpList_eql_agg rfl 28 _ _ _ rfl _ _ rfl rfl (by kernel_rfl) _ (HEQ.out _) ?_))
  go_ret
  exact ⟨by first | rfl | simp, HT2.out⟩
set_option maxRecDepth 100000 in
set_option maxHeartbeats 1000000 in
theorem rsc_4a (xs : List Int) (h : okB xs) (hv : vld false xs = true) (b0 : byte xs 0 = 127) (w : World) :
    Calls Tryd.prog 30 #[.agg (adr false xs).toArray] w fun e w' => e = .returned (.int .i64 2) ∧ Touch [] w w' := by
  obtain ⟨x0, hx0⟩ : ∃ x, xs[0]? = some x := ⟨_, List.getElem?_eq_getElem (by have := h.1; omega)⟩
  obtain ⟨x1, hx1⟩ : ∃ x, xs[1]? = some x := ⟨_, List.getElem?_eq_getElem (by have := h.1; omega)⟩
  have r1 := h.2 x1 (List.mem_of_getElem? hx1)
  have e0 : byte xs 0 = x0 := by simp [byte, hx0]
  have e1 : byte xs 1 = x1 := by simp [byte, hx1]
  rw [e0] at b0
  subst b0
  clear e0 e1
  have g0 := ((Touch.refl [] w).alloc (.cells (adr false xs).toArray 28)).alloc (.cells (adr false (List.replicate 16 0)).toArray 28)
  have g1 := ((Touch.refl [] (w.alloc (.cells (adr false xs).toArray 28))).alloc (.cells (adr false (List.replicate 16 0)).toArray 28)).at (heap_alloc_new w (.cells (adr false xs).toArray 28)) (by simp)
  have g2 := heap_alloc2_new w (.cells (adr false xs).toArray 28) (.cells (adr false (List.replicate 16 0)).toArray 28)
  have HL17 := Lib.hid (show (adr false xs).length = 17 by simp [adr, h.1])
  have HT := Lib.hid g0
  have HG1 := Lib.hid g1
  have HG2 := Lib.hid g2
  have HV := Lib.hid hv
  have HVA := Lib.hid (rvalid_any false xs h)
  clear g0 g1 g2 h hv
  go_enter Tryd.func30, Tryd.ntmps30
  go_wp2_with (first
    | ((with_reducible refine at_build 28 ?_); refine wpList_built (by rfl) 28 _ (by rfl) _ _ (by rfl) built_one ?_)
    | ((with_reducible refine at_store 28 ?_); refine wpList_store_into rfl 28 _ _ rfl (w.heap.size + 1) 28 _ (adr true onev6) rfl rfl HG2.out rfl size31 (adr_one _ _) ?_))
  intro w1 h1 t1 z1
  have HT1 := Lib.hid (HT.out.trans t1 (by intro y hy; right; simp at hy; omega))
  have A1 := Lib.hid (t1.at HG1.out (by simp))
  have L1 := Lib.hid h1
  have RA := range_block A1.out
  clear h1 t1 z1 HT HG1 HG2
  go_wp2_with ((with_reducible refine at_load 28 ?_); refine wpList_load_mid rfl 28 _ rfl w.heap.size 0 rfl (adr false xs) _ RA Tryd.underlying28 rfl (by rw [size31, HL17.out]) ?_)
  refine (HVA.out _).mono ?_
  rintro e w2 ⟨he, t2⟩
  rw [HV.out] at he
  subst he
  have HT2 := Lib.hid (HT1.out.trans t2 (by simp))
  have A2 := t2.at A1.out (by simp)
  have L2 := t2.at L1.out (by simp)
  have RA := range_block A2
  have RL := range_block L2
  obtain ⟨c0, cj⟩ := adr_cell A2
  clear t2 HT1 A1 L1 A2 L2
  have c1 : _ = some (Value.int IntKind.u8 127) := cj 0 127 hx0
  have c2 : _ = some (Value.int IntKind.u8 x1) := cj 1 x1 hx1
  simp only [Nat.add_zero, Nat.reduceAdd] at c1 c2
  clear cj
  go_wp2_with (first
    | ((with_reducible refine at_load 28 ?_); refine wpList_load_mid rfl 28 _ rfl w.heap.size 0 rfl (adr false xs) _ RA Tryd.underlying28 rfl (by rw [size31, HL17.out]) ?_)
    | ((with_reducible refine at_load 28 ?_); refine wpList_load_mid rfl 28 _ rfl (w.heap.size + 1) 0 rfl (adr true onev6) _ RL Tryd.underlying28 rfl (by rw [size31]; rfl) ?_)
    | ((with_reducible refine at_bin .eql 28 ?_); refine wpList_eql_agg rfl 28 _ _ _ rfl _ _ rfl rfl (by kernel_rfl) _ (HEQ.out _) ?_))
  go_ret
  exact ⟨by first | rfl | simp, HT2.out⟩
set_option maxRecDepth 100000 in
set_option maxHeartbeats 1000000 in
theorem rsc_4b (xs : List Int) (h : okB xs) (hv : vld false xs = true) (b0 : byte xs 0 = 169) (b1 : byte xs 1 = 254) (w : World) :
    Calls Tryd.prog 30 #[.agg (adr false xs).toArray] w fun e w' => e = .returned (.int .i64 2) ∧ Touch [] w w' := by
  obtain ⟨x0, hx0⟩ : ∃ x, xs[0]? = some x := ⟨_, List.getElem?_eq_getElem (by have := h.1; omega)⟩
  obtain ⟨x1, hx1⟩ : ∃ x, xs[1]? = some x := ⟨_, List.getElem?_eq_getElem (by have := h.1; omega)⟩
  have r1 := h.2 x1 (List.mem_of_getElem? hx1)
  have e0 : byte xs 0 = x0 := by simp [byte, hx0]
  have e1 : byte xs 1 = x1 := by simp [byte, hx1]
  rw [e0] at b0
  rw [e1] at b1
  subst b0 b1
  clear e0 e1
  have g0 := ((Touch.refl [] w).alloc (.cells (adr false xs).toArray 28)).alloc (.cells (adr false (List.replicate 16 0)).toArray 28)
  have g1 := ((Touch.refl [] (w.alloc (.cells (adr false xs).toArray 28))).alloc (.cells (adr false (List.replicate 16 0)).toArray 28)).at (heap_alloc_new w (.cells (adr false xs).toArray 28)) (by simp)
  have g2 := heap_alloc2_new w (.cells (adr false xs).toArray 28) (.cells (adr false (List.replicate 16 0)).toArray 28)
  have HL17 := Lib.hid (show (adr false xs).length = 17 by simp [adr, h.1])
  have HT := Lib.hid g0
  have HG1 := Lib.hid g1
  have HG2 := Lib.hid g2
  have HV := Lib.hid hv
  have HVA := Lib.hid (rvalid_any false xs h)
  clear g0 g1 g2 h hv
  go_enter Tryd.func30, Tryd.ntmps30
  go_wp2_with (first
    | ((with_reducible refine at_build 28 ?_); refine wpList_built (by rfl) 28 _ (by rfl) _ _ (by rfl) built_one ?_)
    | ((with_reducible refine at_store 28 ?_); refine wpList_store_into rfl 28 _ _ rfl (w.heap.size + 1) 28 _ (adr true onev6) rfl rfl HG2.out rfl size31 (adr_one _ _) ?_))
  intro w1 h1 t1 z1
  have HT1 := Lib.hid (HT.out.trans t1 (by intro y hy; right; simp at hy; omega))
  have A1 := Lib.hid (t1.at HG1.out (by simp))
  have L1 := Lib.hid h1
  have RA := range_block A1.out
  clear h1 t1 z1 HT HG1 HG2
  go_wp2_with ((with_reducible refine at_load 28 ?_); refine wpList_load_mid rfl 28 _ rfl w.heap.size 0 rfl (adr false xs) _ RA Tryd.underlying28 rfl (by rw [size31, HL17.out]) ?_)
  refine (HVA.out _).mono ?_
  rintro e w2 ⟨he, t2⟩
  rw [HV.out] at he
  subst he
  have HT2 := Lib.hid (HT1.out.trans t2 (by simp))
  have A2 := t2.at A1.out (by simp)
  have L2 := t2.at L1.out (by simp)
  have RA := range_block A2
  have RL := range_block L2
  obtain ⟨c0, cj⟩ := adr_cell A2
  clear t2 HT1 A1 L1 A2 L2
  have c1 : _ = some (Value.int IntKind.u8 169) := cj 0 169 hx0
  have c2 : _ = some (Value.int IntKind.u8 254) := cj 1 254 hx1
  simp only [Nat.add_zero, Nat.reduceAdd] at c1 c2
  clear cj
  go_wp2_with (first
    | ((with_reducible refine at_load 28 ?_); refine wpList_load_mid rfl 28 _ rfl w.heap.size 0 rfl (adr false xs) _ RA Tryd.underlying28 rfl (by rw [size31, HL17.out]) ?_)
    | ((with_reducible refine at_load 28 ?_); refine wpList_load_mid rfl 28 _ rfl (w.heap.size + 1) 0 rfl (adr true onev6) _ RL Tryd.underlying28 rfl (by rw [size31]; rfl) ?_)
    | ((with_reducible refine at_bin .eql 28 ?_); refine wpList_eql_agg rfl 28 _ _ _ rfl _ _ rfl rfl (by kernel_rfl) _ (HEQ.out _) ?_))
  go_ret
  exact ⟨by first | rfl | simp, HT2.out⟩
set_option maxRecDepth 100000 in
set_option maxHeartbeats 1000000 in
theorem rsc_4c (xs : List Int) (h : okB xs) (hv : vld false xs = true) (b0 : ¬ byte xs 0 = 127) (b1 : ¬ byte xs 0 = 169) (w : World) :
    Calls Tryd.prog 30 #[.agg (adr false xs).toArray] w fun e w' => e = .returned (.int .i64 14) ∧ Touch [] w w' := by
  obtain ⟨x0, hx0⟩ : ∃ x, xs[0]? = some x := ⟨_, List.getElem?_eq_getElem (by have := h.1; omega)⟩
  obtain ⟨x1, hx1⟩ : ∃ x, xs[1]? = some x := ⟨_, List.getElem?_eq_getElem (by have := h.1; omega)⟩
  have r1 := h.2 x1 (List.mem_of_getElem? hx1)
  have e0 : byte xs 0 = x0 := by simp [byte, hx0]
  have e1 : byte xs 1 = x1 := by simp [byte, hx1]
  rw [e0] at b0
  rw [e0] at b1
  clear e0 e1
  have g0 := ((Touch.refl [] w).alloc (.cells (adr false xs).toArray 28)).alloc (.cells (adr false (List.replicate 16 0)).toArray 28)
  have g1 := ((Touch.refl [] (w.alloc (.cells (adr false xs).toArray 28))).alloc (.cells (adr false (List.replicate 16 0)).toArray 28)).at (heap_alloc_new w (.cells (adr false xs).toArray 28)) (by simp)
  have g2 := heap_alloc2_new w (.cells (adr false xs).toArray 28) (.cells (adr false (List.replicate 16 0)).toArray 28)
  have HL17 := Lib.hid (show (adr false xs).length = 17 by simp [adr, h.1])
  have HT := Lib.hid g0
  have HG1 := Lib.hid g1
  have HG2 := Lib.hid g2
  have HV := Lib.hid hv
  have HVA := Lib.hid (rvalid_any false xs h)
  clear g0 g1 g2 h hv
  go_enter Tryd.func30, Tryd.ntmps30
  go_wp2_with (first
    | ((with_reducible refine at_build 28 ?_); refine wpList_built (by rfl) 28 _ (by rfl) _ _ (by rfl) built_one ?_)
    | ((with_reducible refine at_store 28 ?_); refine wpList_store_into rfl 28 _ _ rfl (w.heap.size + 1) 28 _ (adr true onev6) rfl rfl HG2.out rfl size31 (adr_one _ _) ?_))
  intro w1 h1 t1 z1
  have HT1 := Lib.hid (HT.out.trans t1 (by intro y hy; right; simp at hy; omega))
  have A1 := Lib.hid (t1.at HG1.out (by simp))
  have L1 := Lib.hid h1
  have RA := range_block A1.out
  clear h1 t1 z1 HT HG1 HG2
  go_wp2_with ((with_reducible refine at_load 28 ?_); refine wpList_load_mid rfl 28 _ rfl w.heap.size 0 rfl (adr false xs) _ RA Tryd.underlying28 rfl (by rw [size31, HL17.out]) ?_)
  refine (HVA.out _).mono ?_
  rintro e w2 ⟨he, t2⟩
  rw [HV.out] at he
  subst he
  have HT2 := Lib.hid (HT1.out.trans t2 (by simp))
  have A2 := t2.at A1.out (by simp)
  have L2 := t2.at L1.out (by simp)
  have RA := range_block A2
  have RL := range_block L2
  obtain ⟨c0, cj⟩ := adr_cell A2
  clear t2 HT1 A1 L1 A2 L2
  have c1 : _ = some (Value.int IntKind.u8 x0) := cj 0 x0 hx0
  have c2 : _ = some (Value.int IntKind.u8 x1) := cj 1 x1 hx1
  simp only [Nat.add_zero, Nat.reduceAdd] at c1 c2
  clear cj
  go_wp2_with (first
    | ((with_reducible refine at_load 28 ?_); refine wpList_load_mid rfl 28 _ rfl w.heap.size 0 rfl (adr false xs) _ RA Tryd.underlying28 rfl (by rw [size31, HL17.out]) ?_)
    | ((with_reducible refine at_load 28 ?_); refine wpList_load_mid rfl 28 _ rfl (w.heap.size + 1) 0 rfl (adr true onev6) _ RL Tryd.underlying28 rfl (by rw [size31]; rfl) ?_)
    | ((with_reducible refine at_bin .eql 28 ?_); refine wpList_eql_agg rfl 28 _ _ _ rfl _ _ rfl rfl (by kernel_rfl) _ (HEQ.out _) ?_))
  go_ret
  exact ⟨by first | rfl | simp, HT2.out⟩
set_option maxRecDepth 100000 in
set_option maxHeartbeats 1000000 in
theorem rsc_4d (xs : List Int) (h : okB xs) (hv : vld false xs = true) (b0 : byte xs 0 = 169) (b1 : ¬ byte xs 1 = 254) (w : World) :
    Calls Tryd.prog 30 #[.agg (adr false xs).toArray] w fun e w' => e = .returned (.int .i64 14) ∧ Touch [] w w' := by
  obtain ⟨x0, hx0⟩ : ∃ x, xs[0]? = some x := ⟨_, List.getElem?_eq_getElem (by have := h.1; omega)⟩
  obtain ⟨x1, hx1⟩ : ∃ x, xs[1]? = some x := ⟨_, List.getElem?_eq_getElem (by have := h.1; omega)⟩
  have r1 := h.2 x1 (List.mem_of_getElem? hx1)
  have e0 : byte xs 0 = x0 := by simp [byte, hx0]
  have e1 : byte xs 1 = x1 := by simp [byte, hx1]
  rw [e0] at b0
  rw [e1] at b1
  subst b0
  clear e0 e1
  have g0 := ((Touch.refl [] w).alloc (.cells (adr false xs).toArray 28)).alloc (.cells (adr false (List.replicate 16 0)).toArray 28)
  have g1 := ((Touch.refl [] (w.alloc (.cells (adr false xs).toArray 28))).alloc (.cells (adr false (List.replicate 16 0)).toArray 28)).at (heap_alloc_new w (.cells (adr false xs).toArray 28)) (by simp)
  have g2 := heap_alloc2_new w (.cells (adr false xs).toArray 28) (.cells (adr false (List.replicate 16 0)).toArray 28)
  have HL17 := Lib.hid (show (adr false xs).length = 17 by simp [adr, h.1])
  have HT := Lib.hid g0
  have HG1 := Lib.hid g1
  have HG2 := Lib.hid g2
  have HV := Lib.hid hv
  have HVA := Lib.hid (rvalid_any false xs h)
  clear g0 g1 g2 h hv
  go_enter Tryd.func30, Tryd.ntmps30
  go_wp2_with (first
    | ((with_reducible refine at_build 28 ?_); refine wpList_built (by rfl) 28 _ (by rfl) _ _ (by rfl) built_one ?_)
    | ((with_reducible refine at_store 28 ?_); refine wpList_store_into rfl 28 _ _ rfl (w.heap.size + 1) 28 _ (adr true onev6) rfl rfl HG2.out rfl size31 (adr_one _ _) ?_))
  intro w1 h1 t1 z1
  have HT1 := Lib.hid (HT.out.trans t1 (by intro y hy; right; simp at hy; omega))
  have A1 := Lib.hid (t1.at HG1.out (by simp))
  have L1 := Lib.hid h1
  have RA := range_block A1.out
  clear h1 t1 z1 HT HG1 HG2
  go_wp2_with ((with_reducible refine at_load 28 ?_); refine wpList_load_mid rfl 28 _ rfl w.heap.size 0 rfl (adr false xs) _ RA Tryd.underlying28 rfl (by rw [size31, HL17.out]) ?_)
  refine (HVA.out _).mono ?_
  rintro e w2 ⟨he, t2⟩
  rw [HV.out] at he
  subst he
  have HT2 := Lib.hid (HT1.out.trans t2 (by simp))
  have A2 := t2.at A1.out (by simp)
  have L2 := t2.at L1.out (by simp)
  have RA := range_block A2
  have RL := range_block L2
  obtain ⟨c0, cj⟩ := adr_cell A2
  clear t2 HT1 A1 L1 A2 L2
  have c1 : _ = some (Value.int IntKind.u8 169) := cj 0 169 hx0
  have c2 : _ = some (Value.int IntKind.u8 x1) := cj 1 x1 hx1
  simp only [Nat.add_zero, Nat.reduceAdd] at c1 c2
  clear cj
  go_wp2_with (first
    | ((with_reducible refine at_load 28 ?_); refine wpList_load_mid rfl 28 _ rfl w.heap.size 0 rfl (adr false xs) _ RA Tryd.underlying28 rfl (by rw [size31, HL17.out]) ?_)
    | ((with_reducible refine at_load 28 ?_); refine wpList_load_mid rfl 28 _ rfl (w.heap.size + 1) 0 rfl (adr true onev6) _ RL Tryd.underlying28 rfl (by rw [size31]; rfl) ?_)
    | ((with_reducible refine at_bin .eql 28 ?_); refine wpList_eql_agg rfl 28 _ _ _ rfl _ _ rfl rfl (by kernel_rfl) _ (HEQ.out _) ?_))
  go_ret
  exact ⟨by first | rfl | simp, HT2.out⟩
set_option maxRecDepth 100000 in
set_option maxHeartbeats 1000000 in
theorem rsc_6a (xs : List Int) (h : okB xs) (b0 : byte xs 0 = 255) (w : World) :
    Calls Tryd.prog 30 #[.agg (adr true xs).toArray] w fun e w' => e = .returned (.int .i64 (byte xs 1 % 16)) ∧ Touch [] w w' := by
  obtain ⟨x0, hx0⟩ : ∃ x, xs[0]? = some x := ⟨_, List.getElem?_eq_getElem (by have := h.1; omega)⟩
  obtain ⟨x1, hx1⟩ : ∃ x, xs[1]? = some x := ⟨_, List.getElem?_eq_getElem (by have := h.1; omega)⟩
  have r1 := h.2 x1 (List.mem_of_getElem? hx1)
  have e0 : byte xs 0 = x0 := by simp [byte, hx0]
  have e1 : byte xs 1 = x1 := by simp [byte, hx1]
  have hv : vld true xs = true := rfl
  rw [e0] at b0
  rw [e1]
  subst b0
  clear e0 e1
  have g0 := ((Touch.refl [] w).alloc (.cells (adr true xs).toArray 28)).alloc (.cells (adr false (List.replicate 16 0)).toArray 28)
  have g1 := ((Touch.refl [] (w.alloc (.cells (adr true xs).toArray 28))).alloc (.cells (adr false (List.replicate 16 0)).toArray 28)).at (heap_alloc_new w (.cells (adr true xs).toArray 28)) (by simp)
  have g2 := heap_alloc2_new w (.cells (adr true xs).toArray 28) (.cells (adr false (List.replicate 16 0)).toArray 28)
  have HL17 := Lib.hid (show (adr true xs).length = 17 by simp [adr, h.1])
  have HT := Lib.hid g0
  have HG1 := Lib.hid g1
  have HG2 := Lib.hid g2
  have HV := Lib.hid hv
  have HVA := Lib.hid (rvalid_any true xs h)
  clear g0 g1 g2 h hv
  go_enter Tryd.func30, Tryd.ntmps30
  go_wp2_with (first
    | ((with_reducible refine at_build 28 ?_); refine wpList_built (by rfl) 28 _ (by rfl) _ _ (by rfl) built_one ?_)
    | ((with_reducible refine at_store 28 ?_); refine wpList_store_into rfl 28 _ _ rfl (w.heap.size + 1) 28 _ (adr true onev6) rfl rfl HG2.out rfl size31 (adr_one _ _) ?_))
  intro w1 h1 t1 z1
  have HT1 := Lib.hid (HT.out.trans t1 (by intro y hy; right; simp at hy; omega))
  have A1 := Lib.hid (t1.at HG1.out (by simp))
  have L1 := Lib.hid h1
  have RA := range_block A1.out
  clear h1 t1 z1 HT HG1 HG2
  go_wp2_with ((with_reducible refine at_load 28 ?_); refine wpList_load_mid rfl 28 _ rfl w.heap.size 0 rfl (adr true xs) _ RA Tryd.underlying28 rfl (by rw [size31, HL17.out]) ?_)
  refine (HVA.out _).mono ?_
  rintro e w2 ⟨he, t2⟩
  rw [HV.out] at he
  subst he
  have HT2 := Lib.hid (HT1.out.trans t2 (by simp))
  have A2 := t2.at A1.out (by simp)
  have L2 := t2.at L1.out (by simp)
  have RA := range_block A2
  have RL := range_block L2
  obtain ⟨c0, cj⟩ := adr_cell A2
  clear t2 HT1 A1 L1 A2 L2
  have c1 : _ = some (Value.int IntKind.u8 255) := cj 0 255 hx0
  have c2 : _ = some (Value.int IntKind.u8 x1) := cj 1 x1 hx1
  simp only [Nat.add_zero, Nat.reduceAdd] at c1 c2
  clear cj
  go_wp2_with (first
    | ((with_reducible refine at_load 28 ?_); refine wpList_load_mid rfl 28 _ rfl w.heap.size 0 rfl (adr true xs) _ RA Tryd.underlying28 rfl (by rw [size31, HL17.out]) ?_)
    | ((with_reducible refine at_load 28 ?_); refine wpList_load_mid rfl 28 _ rfl (w.heap.size + 1) 0 rfl (adr true onev6) _ RL Tryd.underlying28 rfl (by rw [size31]; rfl) ?_)
    | ((with_reducible refine at_bin .eql 28 ?_); refine wpList_eql_agg rfl 28 _ _ _ rfl _ _ rfl rfl (by kernel_rfl) _ (HEQ.out _) ?_))
  go_ret
  exact ⟨by first | rfl | simp, HT2.out⟩
set_option maxRecDepth 100000 in
set_option maxHeartbeats 1000000 in
theorem rsc_6b (xs : List Int) (h : okB xs) (b0 : ¬ byte xs 0 = 255) (ho : xs = onev6) (w : World) :
    Calls Tryd.prog 30 #[.agg (adr true xs).toArray] w fun e w' => e = .returned (.int .i64 2) ∧ Touch [] w w' := by
  obtain ⟨x0, hx0⟩ : ∃ x, xs[0]? = some x := ⟨_, List.getElem?_eq_getElem (by have := h.1; omega)⟩
  obtain ⟨x1, hx1⟩ : ∃ x, xs[1]? = some x := ⟨_, List.getElem?_eq_getElem (by have := h.1; omega)⟩
  have r1 := h.2 x1 (List.mem_of_getElem? hx1)
  have e0 : byte xs 0 = x0 := by simp [byte, hx0]
  have e1 : byte xs 1 = x1 := by simp [byte, hx1]
  have hv : vld true xs = true := rfl
  have HEQ := Lib.hid (fun w => (show (Op.equalIn 10000 28 (.agg (adr true xs).toArray) (.agg (adr true onev6).toArray)).run Tryd.prog w = .ok true w by rw [eq_ads _ _ _ _ h (okB_dec (by decide))]; simp [ho]))
  rw [e0] at b0
  clear ho
  clear e0 e1
  have g0 := ((Touch.refl [] w).alloc (.cells (adr true xs).toArray 28)).alloc (.cells (adr false (List.replicate 16 0)).toArray 28)
  have g1 := ((Touch.refl [] (w.alloc (.cells (adr true xs).toArray 28))).alloc (.cells (adr false (List.replicate 16 0)).toArray 28)).at (heap_alloc_new w (.cells (adr true xs).toArray 28)) (by simp)
  have g2 := heap_alloc2_new w (.cells (adr true xs).toArray 28) (.cells (adr false (List.replicate 16 0)).toArray 28)
  have HL17 := Lib.hid (show (adr true xs).length = 17 by simp [adr, h.1])
  have HT := Lib.hid g0
  have HG1 := Lib.hid g1
  have HG2 := Lib.hid g2
  have HV := Lib.hid hv
  have HVA := Lib.hid (rvalid_any true xs h)
  clear g0 g1 g2 h hv
  go_enter Tryd.func30, Tryd.ntmps30
  go_wp2_with (first
    | ((with_reducible refine at_build 28 ?_); refine wpList_built (by rfl) 28 _ (by rfl) _ _ (by rfl) built_one ?_)
    | ((with_reducible refine at_store 28 ?_); refine wpList_store_into rfl 28 _ _ rfl (w.heap.size + 1) 28 _ (adr true onev6) rfl rfl HG2.out rfl size31 (adr_one _ _) ?_))
  intro w1 h1 t1 z1
  have HT1 := Lib.hid (HT.out.trans t1 (by intro y hy; right; simp at hy; omega))
  have A1 := Lib.hid (t1.at HG1.out (by simp))
  have L1 := Lib.hid h1
  have RA := range_block A1.out
  clear h1 t1 z1 HT HG1 HG2
  go_wp2_with ((with_reducible refine at_load 28 ?_); refine wpList_load_mid rfl 28 _ rfl w.heap.size 0 rfl (adr true xs) _ RA Tryd.underlying28 rfl (by rw [size31, HL17.out]) ?_)
  refine (HVA.out _).mono ?_
  rintro e w2 ⟨he, t2⟩
  rw [HV.out] at he
  subst he
  have HT2 := Lib.hid (HT1.out.trans t2 (by simp))
  have A2 := t2.at A1.out (by simp)
  have L2 := t2.at L1.out (by simp)
  have RA := range_block A2
  have RL := range_block L2
  obtain ⟨c0, cj⟩ := adr_cell A2
  clear t2 HT1 A1 L1 A2 L2
  have c1 : _ = some (Value.int IntKind.u8 x0) := cj 0 x0 hx0
  have c2 : _ = some (Value.int IntKind.u8 x1) := cj 1 x1 hx1
  simp only [Nat.add_zero, Nat.reduceAdd] at c1 c2
  clear cj
  go_wp2_with (first
    | ((with_reducible refine at_load 28 ?_); refine wpList_load_mid rfl 28 _ rfl w.heap.size 0 rfl (adr true xs) _ RA Tryd.underlying28 rfl (by rw [size31, HL17.out]) ?_)
    | ((with_reducible refine at_load 28 ?_); refine wpList_load_mid rfl 28 _ rfl (w.heap.size + 1) 0 rfl (adr true onev6) _ RL Tryd.underlying28 rfl (by rw [size31]; rfl) ?_)
    | ((with_reducible refine at_bin .eql 28 ?_); refine wpList_eql_agg rfl 28 _ _ _ rfl _ _ rfl rfl (by kernel_rfl) _ (HEQ.out _) ?_))
  go_ret
  exact ⟨by first | rfl | simp, HT2.out⟩
set_option maxRecDepth 100000 in
set_option maxHeartbeats 1000000 in
theorem rsc_6c (xs : List Int) (h : okB xs) (b0 : byte xs 0 = 254) (ho : xs ≠ onev6) (b1 : Go.bits .and .u8 (byte xs 1) 192 = 128) (w : World) :
    Calls Tryd.prog 30 #[.agg (adr true xs).toArray] w fun e w' => e = .returned (.int .i64 2) ∧ Touch [] w w' := by
  obtain ⟨x0, hx0⟩ : ∃ x, xs[0]? = some x := ⟨_, List.getElem?_eq_getElem (by have := h.1; omega)⟩
  obtain ⟨x1, hx1⟩ : ∃ x, xs[1]? = some x := ⟨_, List.getElem?_eq_getElem (by have := h.1; omega)⟩
  have r1 := h.2 x1 (List.mem_of_getElem? hx1)
  have e0 : byte xs 0 = x0 := by simp [byte, hx0]
  have e1 : byte xs 1 = x1 := by simp [byte, hx1]
  have hv : vld true xs = true := rfl
  have HEQ := Lib.hid (fun w => (show (Op.equalIn 10000 28 (.agg (adr true xs).toArray) (.agg (adr true onev6).toArray)).run Tryd.prog w = .ok false w by rw [eq_ads _ _ _ _ h (okB_dec (by decide))]; simp [ho]))
  rw [e0] at b0
  rw [e1] at b1
  subst b0
  clear ho
  clear e0 e1
  have g0 := ((Touch.refl [] w).alloc (.cells (adr true xs).toArray 28)).alloc (.cells (adr false (List.replicate 16 0)).toArray 28)
  have g1 := ((Touch.refl [] (w.alloc (.cells (adr true xs).toArray 28))).alloc (.cells (adr false (List.replicate 16 0)).toArray 28)).at (heap_alloc_new w (.cells (adr true xs).toArray 28)) (by simp)
  have g2 := heap_alloc2_new w (.cells (adr true xs).toArray 28) (.cells (adr false (List.replicate 16 0)).toArray 28)
  have HL17 := Lib.hid (show (adr true xs).length = 17 by simp [adr, h.1])
  have HT := Lib.hid g0
  have HG1 := Lib.hid g1
  have HG2 := Lib.hid g2
  have HV := Lib.hid hv
  have HVA := Lib.hid (rvalid_any true xs h)
  clear g0 g1 g2 h hv
  go_enter Tryd.func30, Tryd.ntmps30
  go_wp2_with (first
    | ((with_reducible refine at_build 28 ?_); refine wpList_built (by rfl) 28 _ (by rfl) _ _ (by rfl) built_one ?_)
    | ((with_reducible refine at_store 28 ?_); refine wpList_store_into rfl 28 _ _ rfl (w.heap.size + 1) 28 _ (adr true onev6) rfl rfl HG2.out rfl size31 (adr_one _ _) ?_))
  intro w1 h1 t1 z1
  have HT1 := Lib.hid (HT.out.trans t1 (by intro y hy; right; simp at hy; omega))
  have A1 := Lib.hid (t1.at HG1.out (by simp))
  have L1 := Lib.hid h1
  have RA := range_block A1.out
  clear h1 t1 z1 HT HG1 HG2
  go_wp2_with ((with_reducible refine at_load 28 ?_); refine wpList_load_mid rfl 28 _ rfl w.heap.size 0 rfl (adr true xs) _ RA Tryd.underlying28 rfl (by rw [size31, HL17.out]) ?_)
  refine (HVA.out _).mono ?_
  rintro e w2 ⟨he, t2⟩
  rw [HV.out] at he
  subst he
  have HT2 := Lib.hid (HT1.out.trans t2 (by simp))
  have A2 := t2.at A1.out (by simp)
  have L2 := t2.at L1.out (by simp)
  have RA := range_block A2
  have RL := range_block L2
  obtain ⟨c0, cj⟩ := adr_cell A2
  clear t2 HT1 A1 L1 A2 L2
  have c1 : _ = some (Value.int IntKind.u8 254) := cj 0 254 hx0
  have c2 : _ = some (Value.int IntKind.u8 x1) := cj 1 x1 hx1
  simp only [Nat.add_zero, Nat.reduceAdd] at c1 c2
  clear cj
  go_wp2_with (first
    | ((with_reducible refine at_load 28 ?_); refine wpList_load_mid rfl 28 _ rfl w.heap.size 0 rfl (adr true xs) _ RA Tryd.underlying28 rfl (by rw [size31, HL17.out]) ?_)
    | ((with_reducible refine at_load 28 ?_); refine wpList_load_mid rfl 28 _ rfl (w.heap.size + 1) 0 rfl (adr true onev6) _ RL Tryd.underlying28 rfl (by rw [size31]; rfl) ?_)
    | ((with_reducible refine at_bin .eql 28 ?_); refine wpList_eql_agg rfl 28 _ _ _ rfl _ _ rfl rfl (by kernel_rfl) _ (HEQ.out _) ?_))
  go_ret
  exact ⟨by first | rfl | simp, HT2.out⟩
set_option maxRecDepth 100000 in
set_option maxHeartbeats 1000000 in
theorem rsc_6d (xs : List Int) (h : okB xs) (b0 : byte xs 0 = 254) (ho : xs ≠ onev6) (b1 : Go.bits .and .u8 (byte xs 1) 192 = 192) (w : World) :
    Calls Tryd.prog 30 #[.agg (adr true xs).toArray] w fun e w' => e = .returned (.int .i64 5) ∧ Touch [] w w' := by
  obtain ⟨x0, hx0⟩ : ∃ x, xs[0]? = some x := ⟨_, List.getElem?_eq_getElem (by have := h.1; omega)⟩
  obtain ⟨x1, hx1⟩ : ∃ x, xs[1]? = some x := ⟨_, List.getElem?_eq_getElem (by have := h.1; omega)⟩
  have r1 := h.2 x1 (List.mem_of_getElem? hx1)
  have e0 : byte xs 0 = x0 := by simp [byte, hx0]
  have e1 : byte xs 1 = x1 := by simp [byte, hx1]
  have hv : vld true xs = true := rfl
  have HEQ := Lib.hid (fun w => (show (Op.equalIn 10000 28 (.agg (adr true xs).toArray) (.agg (adr true onev6).toArray)).run Tryd.prog w = .ok false w by rw [eq_ads _ _ _ _ h (okB_dec (by decide))]; simp [ho]))
  rw [e0] at b0
  rw [e1] at b1
  subst b0
  clear ho
  clear e0 e1
  have g0 := ((Touch.refl [] w).alloc (.cells (adr true xs).toArray 28)).alloc (.cells (adr false (List.replicate 16 0)).toArray 28)
  have g1 := ((Touch.refl [] (w.alloc (.cells (adr true xs).toArray 28))).alloc (.cells (adr false (List.replicate 16 0)).toArray 28)).at (heap_alloc_new w (.cells (adr true xs).toArray 28)) (by simp)
  have g2 := heap_alloc2_new w (.cells (adr true xs).toArray 28) (.cells (adr false (List.replicate 16 0)).toArray 28)
  have HL17 := Lib.hid (show (adr true xs).length = 17 by simp [adr, h.1])
  have HT := Lib.hid g0
  have HG1 := Lib.hid g1
  have HG2 := Lib.hid g2
  have HV := Lib.hid hv
  have HVA := Lib.hid (rvalid_any true xs h)
  clear g0 g1 g2 h hv
  go_enter Tryd.func30, Tryd.ntmps30
  go_wp2_with (first
    | ((with_reducible refine at_build 28 ?_); refine wpList_built (by rfl) 28 _ (by rfl) _ _ (by rfl) built_one ?_)
    | ((with_reducible refine at_store 28 ?_); refine wpList_store_into rfl 28 _ _ rfl (w.heap.size + 1) 28 _ (adr true onev6) rfl rfl HG2.out rfl size31 (adr_one _ _) ?_))
  intro w1 h1 t1 z1
  have HT1 := Lib.hid (HT.out.trans t1 (by intro y hy; right; simp at hy; omega))
  have A1 := Lib.hid (t1.at HG1.out (by simp))
  have L1 := Lib.hid h1
  have RA := range_block A1.out
  clear h1 t1 z1 HT HG1 HG2
  go_wp2_with ((with_reducible refine at_load 28 ?_); refine wpList_load_mid rfl 28 _ rfl w.heap.size 0 rfl (adr true xs) _ RA Tryd.underlying28 rfl (by rw [size31, HL17.out]) ?_)
  refine (HVA.out _).mono ?_
  rintro e w2 ⟨he, t2⟩
  rw [HV.out] at he
  subst he
  have HT2 := Lib.hid (HT1.out.trans t2 (by simp))
  have A2 := t2.at A1.out (by simp)
  have L2 := t2.at L1.out (by simp)
  have RA := range_block A2
  have RL := range_block L2
  obtain ⟨c0, cj⟩ := adr_cell A2
  clear t2 HT1 A1 L1 A2 L2
  have c1 : _ = some (Value.int IntKind.u8 254) := cj 0 254 hx0
  have c2 : _ = some (Value.int IntKind.u8 x1) := cj 1 x1 hx1
  simp only [Nat.add_zero, Nat.reduceAdd] at c1 c2
  clear cj
  go_wp2_with (first
    | ((with_reducible refine at_load 28 ?_); refine wpList_load_mid rfl 28 _ rfl w.heap.size 0 rfl (adr true xs) _ RA Tryd.underlying28 rfl (by rw [size31, HL17.out]) ?_)
    | ((with_reducible refine at_load 28 ?_); refine wpList_load_mid rfl 28 _ rfl (w.heap.size + 1) 0 rfl (adr true onev6) _ RL Tryd.underlying28 rfl (by rw [size31]; rfl) ?_)
    | ((with_reducible refine at_bin .eql 28 ?_); refine wpList_eql_agg rfl 28 _ _ _ rfl _ _ rfl rfl (by kernel_rfl) _ (HEQ.out _) ?_))
  go_ret
  exact ⟨by first | rfl | simp, HT2.out⟩
set_option maxRecDepth 100000 in
set_option maxHeartbeats 1000000 in
theorem rsc_6e (xs : List Int) (h : okB xs) (b0 : byte xs 0 = 254) (ho : xs ≠ onev6) (b1 : ¬ Go.bits .and .u8 (byte xs 1) 192 = 128) (b2 : ¬ Go.bits .and .u8 (byte xs 1) 192 = 192) (w : World) :
    Calls Tryd.prog 30 #[.agg (adr true xs).toArray] w fun e w' => e = .returned (.int .i64 14) ∧ Touch [] w w' := by
  obtain ⟨x0, hx0⟩ : ∃ x, xs[0]? = some x := ⟨_, List.getElem?_eq_getElem (by have := h.1; omega)⟩
  obtain ⟨x1, hx1⟩ : ∃ x, xs[1]? = some x := ⟨_, List.getElem?_eq_getElem (by have := h.1; omega)⟩
  have r1 := h.2 x1 (List.mem_of_getElem? hx1)
  have e0 : byte xs 0 = x0 := by simp [byte, hx0]
  have e1 : byte xs 1 = x1 := by simp [byte, hx1]
  have hv : vld true xs = true := rfl
  have HEQ := Lib.hid (fun w => (show (Op.equalIn 10000 28 (.agg (adr true xs).toArray) (.agg (adr true onev6).toArray)).run Tryd.prog w = .ok false w by rw [eq_ads _ _ _ _ h (okB_dec (by decide))]; simp [ho]))
  rw [e0] at b0
  rw [e1] at b1
  rw [e1] at b2
  subst b0
  clear ho
  clear e0 e1
  have g0 := ((Touch.refl [] w).alloc (.cells (adr true xs).toArray 28)).alloc (.cells (adr false (List.replicate 16 0)).toArray 28)
  have g1 := ((Touch.refl [] (w.alloc (.cells (adr true xs).toArray 28))).alloc (.cells (adr false (List.replicate 16 0)).toArray 28)).at (heap_alloc_new w (.cells (adr true xs).toArray 28)) (by simp)
  have g2 := heap_alloc2_new w (.cells (adr true xs).toArray 28) (.cells (adr false (List.replicate 16 0)).toArray 28)
  have HL17 := Lib.hid (show (adr true xs).length = 17 by simp [adr, h.1])
  have HT := Lib.hid g0
  have HG1 := Lib.hid g1
  have HG2 := Lib.hid g2
  have HV := Lib.hid hv
  have HVA := Lib.hid (rvalid_any true xs h)
  clear g0 g1 g2 h hv
  go_enter Tryd.func30, Tryd.ntmps30
  go_wp2_with (first
    | ((with_reducible refine at_build 28 ?_); refine wpList_built (by rfl) 28 _ (by rfl) _ _ (by rfl) built_one ?_)
    | ((with_reducible refine at_store 28 ?_); refine wpList_store_into rfl 28 _ _ rfl (w.heap.size + 1) 28 _ (adr true onev6) rfl rfl HG2.out rfl size31 (adr_one _ _) ?_))
  intro w1 h1 t1 z1
  have HT1 := Lib.hid (HT.out.trans t1 (by intro y hy; right; simp at hy; omega))
  have A1 := Lib.hid (t1.at HG1.out (by simp))
  have L1 := Lib.hid h1
  have RA := range_block A1.out
  clear h1 t1 z1 HT HG1 HG2
  go_wp2_with ((with_reducible refine at_load 28 ?_); refine wpList_load_mid rfl 28 _ rfl w.heap.size 0 rfl (adr true xs) _ RA Tryd.underlying28 rfl (by rw [size31, HL17.out]) ?_)
  refine (HVA.out _).mono ?_
  rintro e w2 ⟨he, t2⟩
  rw [HV.out] at he
  subst he
  have HT2 := Lib.hid (HT1.out.trans t2 (by simp))
  have A2 := t2.at A1.out (by simp)
  have L2 := t2.at L1.out (by simp)
  have RA := range_block A2
  have RL := range_block L2
  obtain ⟨c0, cj⟩ := adr_cell A2
  clear t2 HT1 A1 L1 A2 L2
  have c1 : _ = some (Value.int IntKind.u8 254) := cj 0 254 hx0
  have c2 : _ = some (Value.int IntKind.u8 x1) := cj 1 x1 hx1
  simp only [Nat.add_zero, Nat.reduceAdd] at c1 c2
  clear cj
  go_wp2_with (first
    | ((with_reducible refine at_load 28 ?_); refine wpList_load_mid rfl 28 _ rfl w.heap.size 0 rfl (adr true xs) _ RA Tryd.underlying28 rfl (by rw [size31, HL17.out]) ?_)
    | ((with_reducible refine at_load 28 ?_); refine wpList_load_mid rfl 28 _ rfl (w.heap.size + 1) 0 rfl (adr true onev6) _ RL Tryd.underlying28 rfl (by rw [size31]; rfl) ?_)
    | ((with_reducible refine at_bin .eql 28 ?_); refine wpList_eql_agg rfl 28 _ _ _ rfl _ _ rfl rfl (by kernel_rfl) _ (HEQ.out _) ?_))
  go_ret
  exact ⟨by first | rfl | simp, HT2.out⟩
set_option maxRecDepth 100000 in
set_option maxHeartbeats 1000000 in
theorem rsc_6f (xs : List Int) (h : okB xs) (b0 : ¬ byte xs 0 = 255) (b1 : ¬ byte xs 0 = 254) (ho : xs ≠ onev6) (w : World) :
    Calls Tryd.prog 30 #[.agg (adr true xs).toArray] w fun e w' => e = .returned (.int .i64 14) ∧ Touch [] w w' := by
  obtain ⟨x0, hx0⟩ : ∃ x, xs[0]? = some x := ⟨_, List.getElem?_eq_getElem (by have := h.1; omega)⟩
  obtain ⟨x1, hx1⟩ : ∃ x, xs[1]? = some x := ⟨_, List.getElem?_eq_getElem (by have := h.1; omega)⟩
  have r1 := h.2 x1 (List.mem_of_getElem? hx1)
  have e0 : byte xs 0 = x0 := by simp [byte, hx0]
  have e1 : byte xs 1 = x1 := by simp [byte, hx1]
  have hv : vld true xs = true := rfl
  have HEQ := Lib.hid (fun w => (show (Op.equalIn 10000 28 (.agg (adr true xs).toArray) (.agg (adr true onev6).toArray)).run Tryd.prog w = .ok false w by rw [eq_ads _ _ _ _ h (okB_dec (by decide))]; simp [ho]))
  rw [e0] at b0
  rw [e0] at b1
  clear ho
  clear e0 e1
  have g0 := ((Touch.refl [] w).alloc (.cells (adr true xs).toArray 28)).alloc (.cells (adr false (List.replicate 16 0)).toArray 28)
  have g1 := ((Touch.refl [] (w.alloc (.cells (adr true xs).toArray 28))).alloc (.cells (adr false (List.replicate 16 0)).toArray 28)).at (heap_alloc_new w (.cells (adr true xs).toArray 28)) (by simp)
  have g2 := heap_alloc2_new w (.cells (adr true xs).toArray 28) (.cells (adr false (List.replicate 16 0)).toArray 28)
  have HL17 := Lib.hid (show (adr true xs).length = 17 by simp [adr, h.1])
  have HT := Lib.hid g0
  have HG1 := Lib.hid g1
  have HG2 := Lib.hid g2
  have HV := Lib.hid hv
  have HVA := Lib.hid (rvalid_any true xs h)
  clear g0 g1 g2 h hv
  go_enter Tryd.func30, Tryd.ntmps30
  go_wp2_with (first
    | ((with_reducible refine at_build 28 ?_); refine wpList_built (by rfl) 28 _ (by rfl) _ _ (by rfl) built_one ?_)
    | ((with_reducible refine at_store 28 ?_); refine wpList_store_into rfl 28 _ _ rfl (w.heap.size + 1) 28 _ (adr true onev6) rfl rfl HG2.out rfl size31 (adr_one _ _) ?_))
  intro w1 h1 t1 z1
  have HT1 := Lib.hid (HT.out.trans t1 (by intro y hy; right; simp at hy; omega))
  have A1 := Lib.hid (t1.at HG1.out (by simp))
  have L1 := Lib.hid h1
  have RA := range_block A1.out
  clear h1 t1 z1 HT HG1 HG2
  go_wp2_with ((with_reducible refine at_load 28 ?_); refine wpList_load_mid rfl 28 _ rfl w.heap.size 0 rfl (adr true xs) _ RA Tryd.underlying28 rfl (by rw [size31, HL17.out]) ?_)
  refine (HVA.out _).mono ?_
  rintro e w2 ⟨he, t2⟩
  rw [HV.out] at he
  subst he
  have HT2 := Lib.hid (HT1.out.trans t2 (by simp))
  have A2 := t2.at A1.out (by simp)
  have L2 := t2.at L1.out (by simp)
  have RA := range_block A2
  have RL := range_block L2
  obtain ⟨c0, cj⟩ := adr_cell A2
  clear t2 HT1 A1 L1 A2 L2
  have c1 : _ = some (Value.int IntKind.u8 x0) := cj 0 x0 hx0
  have c2 : _ = some (Value.int IntKind.u8 x1) := cj 1 x1 hx1
  simp only [Nat.add_zero, Nat.reduceAdd] at c1 c2
  clear cj
  go_wp2_with (first
    | ((with_reducible refine at_load 28 ?_); refine wpList_load_mid rfl 28 _ rfl w.heap.size 0 rfl (adr true xs) _ RA Tryd.underlying28 rfl (by rw [size31, HL17.out]) ?_)
    | ((with_reducible refine at_load 28 ?_); refine wpList_load_mid rfl 28 _ rfl (w.heap.size + 1) 0 rfl (adr true onev6) _ RL Tryd.underlying28 rfl (by rw [size31]; rfl) ?_)
    | ((with_reducible refine at_bin .eql 28 ?_); refine wpList_eql_agg rfl 28 _ _ _ rfl _ _ rfl rfl (by kernel_rfl) _ (HEQ.out _) ?_))
  go_ret
  exact ⟨by first | rfl | simp, HT2.out⟩
theorem rscope_any (b : Bool) (xs : List Int) (h : okB xs) (w : World) :
    Calls Tryd.prog 30 #[.agg (adr b xs).toArray] w fun e w' => e = .returned (.int .i64 (scopeP b xs)) ∧ Touch [] w w' := by
  have hd0 : xs.headD 0 = byte xs 0 := by cases xs <;> simp [byte]
  have hd1 : xs.tail.headD 0 = byte xs 1 := by
    cases xs with
    | nil => simp [byte]
    | cons a l => cases l <;> simp [byte]
  have p1 := hp127 h
  have p2 := two_bytes 16 169 254 h (by omega) (by omega)
  rw [cut16 h] at p2
  have p3 := two_bytes 10 254 128 h (by omega) (by omega)
  have p4 := two_bytes 10 254 192 h (by omega) (by omega)
  rw [cut10] at p3 p4
  cases b
  · cases hv : vld false xs
    · have e : scopeP false xs = -1 := by unfold scopeP; rw [hv]; rfl
      rw [e]
      exact rsc_bad xs h hv w
    · have e : scopeP false xs = if hpP 8 [127] xs || hpP 16 [169, 254] xs then 2 else 14 := by unfold scopeP; rw [hv]; rfl
      rw [e, p1, p2]
      by_cases b0 : byte xs 0 = 127
      · rw [if_pos (by simp [b0])]
        exact rsc_4a xs h hv b0 w
      · by_cases b1 : byte xs 0 = 169
        · by_cases b2 : byte xs 1 = 254
          · rw [if_pos (by simp [b1, b2])]
            exact rsc_4b xs h hv b1 b2 w
          · rw [if_neg (by simp [b1, b2])]
            exact rsc_4d xs h hv b1 b2 w
        · rw [if_neg (by simp [b0, b1])]
          exact rsc_4c xs h hv b0 b1 w
  · have e : scopeP true xs = if byte xs 0 = 255 then byte xs 1 % 16 else if decide (xs = onev6) || hpP 10 [254, 128] xs then 2 else if hpP 10 [254, 192] xs then 5 else 14 := by
      unfold scopeP
      rw [if_neg (by simp [vld]), if_neg (by simp), hd0, hd1]
    rw [e, p3, p4]
    by_cases b0 : byte xs 0 = 255
    · rw [if_pos b0]
      exact rsc_6a xs h b0 w
    · rw [if_neg b0]
      by_cases ho : xs = onev6
      · rw [if_pos (by simp [ho])]
        exact rsc_6b xs h b0 ho w
      · by_cases b1 : byte xs 0 = 254
        · by_cases b2 : Go.bits .and .u8 (byte xs 1) 192 = 128
          · rw [if_pos (by simp [b1, b2])]
            exact rsc_6c xs h b1 ho b2 w
          · rw [if_neg (by simp [ho, b1, b2])]
            by_cases b3 : Go.bits .and .u8 (byte xs 1) 192 = 192
            · rw [if_pos (by simp [b1, b3])]
              exact rsc_6d xs h b1 ho b3 w
            · rw [if_neg (by simp [b1, b3])]
              exact rsc_6e xs h b1 ho b2 b3 w
        · rw [if_neg (by simp [ho, b1]), if_neg (by simp [b1])]
          exact rsc_6f xs h b0 b1 ho w
end Go.Proofs.YtecaakgpogabjaaDoor

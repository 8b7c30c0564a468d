/-
  Merged texts: Pl.
-/
import Derived.Test.YtecaakgpogabjaaDoorKB6

/-
  The contracts of the reference's policyRow and Precedence.
-/
namespace Go.Proofs.YtecaakgpogabjaaDoor
open Go.RowKit
set_option linter.unusedVariables false
set_option linter.unusedSimpArgs false

/-! ### the table looked up from its second row on -/
def pr1 : PR := ⟨true, List.replicate 16 0, 0, 40, 1⟩
def bestR (ys : List Int) (k : Nat) : PR := (prs.take k).foldl (stepL ys) pr1
theorem bestR_succ (ys : List Int) (k : Nat) (r : PR) (h : prs[k]? = some r) : bestR ys (k + 1) = stepL ys (bestR ys k) r := by
  unfold bestR
  rw [List.take_add_one, h, List.foldl_append]
  rfl
theorem prs_1 : prs[1]? = some pr1 := by
  have h : (prs[1]?).map (fun r => (r.b, r.px, r.bits, r.prec, r.label)) = some (true, List.replicate 16 0, 0, 40, 1) := by decide
  obtain ⟨r, hr, he⟩ := Option.map_eq_some_iff.1 h
  rw [hr]
  obtain ⟨a1, a2, a3, a4, a5⟩ := r
  simp only [Prod.mk.injEq] at he
  obtain ⟨rfl, rfl, rfl, rfl, rfl⟩ := he
  rfl
theorem pr1_px : pr1.px.length = 16 := rfl
theorem trunc_none (ys : List Int) (h : okB ys) : trunc 0 ys = List.replicate 16 0 := by
  have hz : okB (List.replicate 16 0) := okB_dec (by decide)
  refine bits_ext _ _ (trunc_ok h) hz ?_
  intro i hi
  rw [bit_trunc 0 ys h i hi, if_neg (by omega)]
  have e : ∀ k < 16, ((List.replicate 16 (0 : Int))[k]?.getD 0) = 0 := by decide
  have := e (i / 8) (by omega)
  simp only [bitP, List.getD_eq_getElem?_getD, this]
  simp
theorem best_two (ys : List Int) (h : okB ys) : bestL ys 2 = bestR ys 2 := by
  obtain ⟨r0, h0⟩ : ∃ r, prs[0]? = some r := ⟨_, List.getElem?_eq_getElem (by decide)⟩
  have hb0 : r0.bits = 128 := by
    have e : (prs[0]?).map (fun r => r.bits) = some 128 := by decide
    rw [h0] at e
    simpa using e
  have ht := trunc_none ys h
  rw [bestL_succ ys 1 pr1 prs_1, bestL_succ ys 0 r0 h0, bestR_succ ys 1 pr1 prs_1, bestR_succ ys 0 r0 h0]
  have e1 : bestL ys 0 = pr0 := rfl
  have e2 : bestR ys 0 = pr1 := rfl
  rw [e1, e2]
  have p0 : pr0.bits = -1 := rfl
  have p1 : pr1.bits = 0 := rfl
  have p1x : pr1.px = List.replicate 16 0 := rfl
  by_cases hm : trunc r0.bits ys = r0.px
  · have s1 : stepL ys pr0 r0 = r0 := by unfold stepL; rw [if_pos ⟨by rw [p0, hb0]; decide, hm⟩]
    have s2 : stepL ys pr1 r0 = r0 := by unfold stepL; rw [if_pos ⟨by rw [p1, hb0]; decide, hm⟩]
    rw [s1, s2]
  · have s1 : stepL ys pr0 r0 = pr0 := by unfold stepL; rw [if_neg (fun q => hm q.2)]
    have s2 : stepL ys pr1 r0 = pr1 := by unfold stepL; rw [if_neg (fun q => hm q.2)]
    have s3 : stepL ys pr0 pr1 = pr1 := by unfold stepL; rw [if_pos ⟨by decide, by rw [p1, p1x]; exact ht⟩]
    have s4 : stepL ys pr1 pr1 = pr1 := by unfold stepL; rw [if_neg (fun q => by have := q.1; omega)]
    rw [s1, s2, s3, s4]
theorem best_same (ys : List Int) (h : okB ys) (k : Nat) : bestL ys (2 + k) = bestR ys (2 + k) := by
  induction k with
  | zero => exact best_two ys h
  | succ k ih =>
    cases hr : prs[2 + k]? with
    | none =>
      have e1 : bestL ys (2 + (k + 1)) = bestL ys (2 + k) := by
        unfold bestL
        rw [← Nat.add_assoc, List.take_add_one, hr]
        simp
      have e2 : bestR ys (2 + (k + 1)) = bestR ys (2 + k) := by
        unfold bestR
        rw [← Nat.add_assoc, List.take_add_one, hr]
        simp
      rw [e1, e2, ih]
    | some r => rw [← Nat.add_assoc, bestL_succ ys _ r hr, bestR_succ ys _ r hr, ih]
theorem bestR_px (ys : List Int) (k : Nat) : (bestR ys k).px.length = 16 := by
  induction k with
  | zero => rfl
  | succ k ih =>
    cases h : prs[k]? with
    | none =>
      have : bestR ys (k + 1) = bestR ys k := by
        unfold bestR
        rw [List.take_add_one, h]
        simp
      rw [this]
      exact ih
    | some r =>
      rw [bestR_succ ys k r h]
      unfold stepL
      split
      · exact (prs_good r (List.mem_of_getElem? h)).2.1.1
      · exact ih
theorem OwnR.form {w0 w : World} {v : Value} {xs : List PR} (h : OwnR w0 w v xs) (hl : ∀ r ∈ xs, r.px.length = 16) (hne : 0 < xs.length) : ∃ g c, v = .slice (some ⟨g, 0, none⟩) xs.length c ∧ xs.length ≤ c ∧ c ≤ maxLen ∧ w0.heap.size ≤ g ∧ ∀ i r, xs[i]? = some r → w.rangeAt g (i * 20) r.cells := by
  obtain ⟨hlen, hr⟩ := h.row
  rcases hr with ⟨hv, hn⟩ | ⟨g, cap, cur, hv, hb, hg, hnc, hcm, hcs, htk⟩
  · omega
  · refine ⟨g, cap, hv, hnc, hcm, h.new g (by rw [hv]; rfl), ?_⟩
    intro i r hir j u hu
    have hk : ∀ x ∈ xs.map PR.cells, x.length = 20 := by
      intro x hx
      obtain ⟨r', hr', rfl⟩ := List.mem_map.1 hx
      exact pr_len r' (hl r' hr')
    have hf := flat_get hk (i := i) (x := r.cells) (by simp [hir]) hu
    rw [cell_of_row _ _ _ _ _ _ hg]
    rw [← htk, List.getElem?_take] at hf
    split at hf
    · simpa using hf
    · cases hf
set_option maxRecDepth 100000 in
theorem built_map6 (x0 x1 x2 x3 : Int) : Tryd.prog.built 26 [(10, .int .u8 255), (11, .int .u8 255), (12, .int .u8 x0), (13, .int .u8 x1), (14, .int .u8 x2), (15, .int .u8 x3)] = some (([0, 0, 0, 0, 0, 0, 0, 0, 0, 0, 255, 255, x0, x1, x2, x3] : List Int).map (Value.int .u8)).toArray := by kernel_rfl
set_option maxRecDepth 100000 in
theorem built_adr (x : List Int) (h : x.length = 16) : Tryd.prog.built 28 [(0, .bool true), (1, .agg (x.map (Value.int .u8)).toArray)] = some (adr true x).toArray := by
  obtain ⟨x0, x1, x2, x3, x4, x5, x6, x7, x8, x9, x10, x11, x12, x13, x14, x15, rfl⟩ := sixteen x h
  kernel_rfl
set_option maxRecDepth 100000 in
theorem built_row0 : Tryd.prog.built 54 [] = some (prw false (List.replicate 16 0) 0 0 0).toArray := by kernel_rfl
set_option maxRecDepth 100000 in
set_option maxHeartbeats 2000000 in
theorem rpol_bad (b : Bool) (xs : List Int) (h : okB xs) (hv : vld b xs = false) (w : World) :
    Calls Tryd.prog 37 #[.agg (adr b xs).toArray] w fun e w' => (∃ cs : List Value, cs.length = 20 ∧ e = .returned (.tuple #[.agg cs.toArray, .bool false]) ∧ ∀ v ∈ cs, v.oneCell' = true) ∧ Touch [] w w' := by
  obtain ⟨zr, hzr⟩ : ∃ zr : List Value, zr = prw false (List.replicate 16 0) 0 0 0 := ⟨_, rfl⟩
  have g0 := ((Touch.refl [] w).alloc (.cells (adr b xs).toArray 28)).alloc (.cells (prw false (List.replicate 16 0) 0 0 0).toArray 54)
  have g1 := ((Touch.refl [] (w.alloc (.cells (adr b xs).toArray 28))).alloc (.cells (prw false (List.replicate 16 0) 0 0 0).toArray 54)).at (heap_alloc_new w (.cells (adr b xs).toArray 28)) (by simp)
  have g2 := heap_alloc2_new w (.cells (adr b xs).toArray 28) (.cells (prw false (List.replicate 16 0) 0 0 0).toArray 54)
  have HL17 := Lib.hid (show (adr b xs).length = 17 by simp [adr, h.1])
  have HZ20 := Lib.hid (show zr.length = 20 by rw [hzr]; rfl)
  have HZ1 := Lib.hid (show ∀ v ∈ zr, v.oneCell' = true by rw [hzr]; exact prw_one _ _ _ _ _)
  have HBZ := Lib.hid (show Tryd.prog.built 54 [] = some zr.toArray by rw [hzr]; exact built_row0)
  have R1 := range_block g1
  have HT := Lib.hid g0
  have HG2 := Lib.hid g2
  have HV := Lib.hid hv
  have HVA := Lib.hid (rvalid_any b xs h)
  clear g0 g1 g2 h hv hzr
  go_enter Tryd.func37, Tryd.ntmps37
  go_wp2_with ((with_reducible refine at_load 28 ?_); refine wpList_load_mid rfl 28 _ rfl w.heap.size 0 rfl (adr b xs) _ R1 Tryd.underlying28 rfl (by rw [size31, HL17.out]) ?_)
  refine (HVA.out _).mono ?_
  rintro e w2 ⟨he, t2⟩
  rw [HV.out] at he
  subst he
  have HT2 := Lib.hid (HT.out.trans t2 (by simp))
  have HG22 := Lib.hid (t2.at HG2.out (by simp))
  clear t2 HT HG2 R1
  go_wp2_with (first
    | ((with_reducible refine at_build 54 ?_); refine wpList_built (by rfl) 54 _ (by rfl) _ _ (by rfl) HBZ.out ?_)
    | ((with_reducible refine at_store 54 ?_); refine wpList_store_into rfl 54 _ _ rfl (w.heap.size + 1) 54 _ zr rfl rfl HG22.out (by rw [HZ20.out]; rfl) (by rw [sizeR, HZ20.out]) HZ1.out ?_))
  intro w3 h3 t3 z3
  go_wp2_with fail
  exact ret_row_tmp rfl sizeR Tryd.underlying54 rfl HZ20.out rfl rfl h3 ⟨⟨zr, HZ20.out, by rfl, HZ1.out⟩, HT2.out.trans t3 (by simp)⟩
set_option maxRecDepth 100000 in
set_option maxHeartbeats 4000000 in
theorem rpol_good_false (xs : List Int) (h : okB xs) (hv : vld false xs = true) (w : World) :
    Calls Tryd.prog 37 #[.agg (adr false xs).toArray] w fun e w' => e = .returned (.tuple #[.agg (bestR (map6 false xs) 9).cells.toArray, .bool true]) ∧ Touch [] w w' := by
  have g0 := ((Touch.refl [] w).alloc (.cells (adr false xs).toArray 28)).alloc (.cells (prw false (List.replicate 16 0) 0 0 0).toArray 54)
  have g1 := ((Touch.refl [] (w.alloc (.cells (adr false xs).toArray 28))).alloc (.cells (prw false (List.replicate 16 0) 0 0 0).toArray 54)).at (heap_alloc_new w (.cells (adr false xs).toArray 28)) (by simp)
  have g2 := heap_alloc2_new w (.cells (adr false xs).toArray 28) (.cells (prw false (List.replicate 16 0) 0 0 0).toArray 54)
  have HL17 := Lib.hid (show (adr false xs).length = 17 by simp [adr, h.1])
  have R1 := range_block g1
  have HT := Lib.hid g0
  have HG1 := Lib.hid g1
  have HG2 := Lib.hid g2
  have HV := Lib.hid hv
  have HVA := Lib.hid (rvalid_any false xs h)
  have hlen := h.1
  have h6 := map6_ok (b := false) h
  have HYL := Lib.hid (show (adr true (map6 false xs)).length = 17 by simp [adr, h6.1])
  have HYO := Lib.hid h6
  clear g0 g1 g2 h hv h6
  go_enter Tryd.func37, Tryd.ntmps37
  go_wp2_with ((with_reducible refine at_load 28 ?_); refine wpList_load_mid rfl 28 _ rfl w.heap.size 0 rfl (adr false xs) _ R1 Tryd.underlying28 rfl (by rw [size31, HL17.out]) ?_)
  refine (HVA.out _).mono ?_
  rintro e w2 ⟨he, t2⟩
  rw [HV.out] at he
  subst he
  have HT2 := Lib.hid (HT.out.trans t2 (by simp))
  have HG12 := Lib.hid (t2.at HG1.out (by simp))
  have HG22 := Lib.hid (t2.at HG2.out (by simp))
  obtain ⟨c0, cj⟩ := adr_cell HG12.out
  clear t2 HT HG1 HG2 R1
  obtain ⟨x0, hx0⟩ : ∃ x, xs[0]? = some x := ⟨_, List.getElem?_eq_getElem (by omega)⟩
  obtain ⟨x1, hx1⟩ : ∃ x, xs[1]? = some x := ⟨_, List.getElem?_eq_getElem (by omega)⟩
  obtain ⟨x2, hx2⟩ : ∃ x, xs[2]? = some x := ⟨_, List.getElem?_eq_getElem (by omega)⟩
  obtain ⟨x3, hx3⟩ : ∃ x, xs[3]? = some x := ⟨_, List.getElem?_eq_getElem (by omega)⟩
  have c1 : _ = some (Value.int IntKind.u8 x0) := cj 0 x0 hx0
  have c2 : _ = some (Value.int IntKind.u8 x1) := cj 1 x1 hx1
  have c3 : _ = some (Value.int IntKind.u8 x2) := cj 2 x2 hx2
  have c4 : _ = some (Value.int IntKind.u8 x3) := cj 3 x3 hx3
  simp only [Nat.add_zero, Nat.reduceAdd] at c1 c2 c3 c4
  have h6e : map6 false xs = [0, 0, 0, 0, 0, 0, 0, 0, 0, 0, 255, 255, x0, x1, x2, x3] := by
    have e4 : xs.take 4 = [x0, x1, x2, x3] := by
      apply List.ext_getElem?
      intro j
      rw [List.getElem?_take]
      rcases (by omega : j = 0 ∨ j = 1 ∨ j = 2 ∨ j = 3 ∨ 4 ≤ j) with rfl | rfl | rfl | rfl | hj
      · simpa using hx0
      · simpa using hx1
      · simpa using hx2
      · simpa using hx3
      · rw [if_neg (by omega), List.getElem?_eq_none (by simpa using hj)]
    simp [map6, e4]
  have HB6 := Lib.hid (built_map6 x0 x1 x2 x3)
  have hba := built_adr (map6 false xs) HYO.out.1
  rw [← h6e] at HB6
  have HBA := Lib.hid hba
  clear cj hx0 hx1 hx2 hx3 hba h6e
  generalize hys : map6 false xs = ys at *
  have HYS := Lib.hid hys
  clear hys
  go_wp2_with (first
    | ((with_reducible refine at_build 26 ?_); refine wpList_built (by rfl) 26 _ (by rfl) _ _ (by rfl) HB6.out ?_)
    | ((with_reducible refine at_build 28 ?_); refine wpList_built (by rfl) 28 _ (by rfl) _ _ (by rfl) HBA.out ?_)
    | ((with_reducible refine at_store 28 ?_); refine wpList_store_into rfl 28 _ _ rfl w.heap.size 28 _ (adr true ys) rfl rfl HG12.out (by rw [HYL.out]; exact HL17.out) (by rw [size31, HYL.out]) (adr_one _ _) ?_))
  intro w4 h4 t4 z4
  have HT4 := Lib.hid (HT2.out.trans t4 (by intro y hy; right; simp at hy; omega))
  have HG14 := Lib.hid h4
  have HG24 := Lib.hid (t4.at HG22.out (by simp))
  clear h4 t4 z4 HT2 HG12 HG22 c0 c1 c2 c3 c4 HB6 HBA
  go_wp2_with fail
  refine (rrows_any _).mono ?_
  rintro e w5 ⟨v5, rfl, ho5, t5⟩
  obtain ⟨g, c, hvf, hc1, hc2, hgn, hrow⟩ := ho5.form (fun r hr => (prs_good r hr).2.1.1) (by decide)
  rw [show prs.length = 9 by decide] at hvf
  subst hvf
  have HT5 := Lib.hid (HT4.out.trans t5 (by simp))
  have HG15 := Lib.hid (t5.at HG14.out (by simp))
  have HG25 := Lib.hid (t5.at HG24.out (by simp))
  have zw : w.heap.size + 1 < g := by
    have := (Array.getElem?_eq_some_iff.1 HG24.out).1
    omega
  have HROW := Lib.hid hrow
  have R20 := hrow 1 pr1 prs_1
  have HP20 := Lib.hid (pr_len pr1 rfl)
  have HN := Lib.hid (heap_alloc_new w5 (.cells (prw false (List.replicate 16 0) 0 0 0).toArray 54))
  have HNT := Lib.hid ((Touch.refl [] w5).alloc (.cells (prw false (List.replicate 16 0) 0 0 0).toArray 54))
  have zg5 : g < w5.heap.size := ho5.lt g rfl
  clear t5 HT4 HG14 HG24 ho5 hrow hc1 hc2 hgn
  rw [Nat.one_mul] at R20
  go_wp2_with (first
    | ((with_reducible refine at_load 54 ?_); refine wpList_load_mid rfl 54 _ rfl g 20 rfl pr1.cells _ R20 Tryd.underlying54 rfl (by rw [sizeR, HP20.out]) ?_)
    | ((with_reducible refine at_store 54 ?_); refine wpList_store_into rfl 54 _ _ rfl w5.heap.size 54 _ pr1.cells rfl rfl HN.out (by rw [HP20.out]; rfl) (by rw [sizeR, HP20.out]) (prw_one _ _ _ _ _) ?_))
  intro w6 h6 t6 z6
  have HT56 := Lib.hid (HNT.out.trans t6 (by intro y hy; right; simp at hy; omega))
  have HT6 := Lib.hid (HT5.out.trans HT56.out (by simp))
  have HG16 := Lib.hid (HT56.out.at HG15.out (by simp))
  have HG26 := Lib.hid (HT56.out.at HG25.out (by simp))
  have HR6 := Lib.hid (fun i r (h : prs[i]? = some r) => HT56.out.range (HROW.out i r h) (by simp))
  have HB0 := Lib.hid (show w6.heap[w5.heap.size]? = some (.cells (bestR ys 0).cells.toArray 54 (0, 0)) from h6)
  have zw5 : w.heap.size + 1 < w5.heap.size := by omega
  obtain ⟨n5, hn5⟩ : ∃ n5, n5 = w5.heap.size := ⟨_, rfl⟩
  rw [← hn5] at HB0 zg5 zw5
  have HN5 := Lib.hid hn5
  have hp9 : prs.length = 9 := by decide
  clear h6 t6 z6 HT5 HG15 HG25 HROW R20 HN HNT HT56 HP20 hn5
  go_wp2_with fail
  rw [← HN5.out]
  go_loopw [6] (fun vi wr => ∃ i : Nat, i ≤ 9 ∧ vi = .int .i64 i ∧ Touch [] w wr ∧ wr.heap[w.heap.size]? = some (.cells (adr true ys).toArray 28 (0, 0)) ∧ wr.heap[w.heap.size + 1]? = some (.cells (prw false (List.replicate 16 0) 0 0 0).toArray 54 (0, 0)) ∧ wr.heap[n5]? = some (.cells (bestR ys i).cells.toArray 54 (0, 0)) ∧ (∀ i r, prs[i]? = some r → wr.rangeAt g (i * 20) r.cells)) (fun vi _ => 9 - (intOf vi).toNat)
  case atStart => exact ⟨0, by omega, rfl, HT6.out, HG16.out, HG26.out, HB0.out, HR6.out⟩
  case round =>
    obtain ⟨i, hi, rfl, ht, ha1, ha2, ha3, hr⟩ := hrel
    have HT := Lib.hid ht
    have A1 := Lib.hid ha1
    have A2 := Lib.hid ha2
    have HR := Lib.hid hr
    clear ht ha1 ha2 hr HT6 HG16 HG26 HB0 HR6
    by_cases hlt9 : i < 9
    · obtain ⟨r, hrk⟩ : ∃ r, prs[i]? = some r := ⟨_, List.getElem?_eq_getElem (by omega)⟩
      obtain ⟨hgb, hpx, hb0, hb2, hpt⟩ := prs_good r (List.mem_of_getElem? hrk)
      have hstep := bestR_succ ys i r hrk
      have hbl := bestR_px ys i
      generalize hbk : bestR ys (i + 1) = bn at *
      generalize bestR ys i = bs at *
      have A3 := Lib.hid ha3
      have hrow := HR.out i r hrk
      have HRL := Lib.hid (pr_len r hpx.1)
      have hb1 : r.bits ≤ blen true := hb2
      have HCO := Lib.hid (fun w => rcont_any true r.px r.bits ys hpx rfl hb0 hb1 hpt HYO.out rfl w)
      have HL18 := Lib.hid (show (pfx true r.px r.bits).length = 18 by simp [pfx, adr, hpx.1])
      have HBK := Lib.hid hbk
      have HSTEP := Lib.hid hstep
      have HBL := Lib.hid hbl
      have rP : wr.rangeAt g (i * 20) (pfx true r.px r.bits) := by
        intro j v hj
        refine hrow j v ?_
        unfold PR.cells prw
        rw [hgb, List.getElem?_append_left (List.getElem?_eq_some_iff.1 hj).1]
        exact hj
      have crb : wr.cell? ⟨g, i * 20 + 17, none⟩ = some (.int .i64 r.bits) := by
        have := rP 17 (.int .i64 r.bits) (by rw [pfx, List.getElem?_append_right (by simp [adr, hpx.1])]; simp [adr, hpx.1])
        exact this
      have cbb := (prw_rows hbl (range_block ha3)).2
      clear hpx ha3 hpt hbk hbl hstep hgb hb1 hb0 hb2
      by_cases hlt : bs.bits < r.bits
      · by_cases hco : trunc r.bits ys = r.px
        · have HC := Lib.hid (show decide (trunc r.bits ys = r.px) = true by simp [hco])
          have HE := Lib.hid (show stepL ys bs r = r by simp [stepL, hlt, hco])
          clear hco
          go_wp2_with fail
          refine wp_region_held (S := Touch [] wr.drew) (by kernel_rfl) ?_
          change wpAnyH _ _ _ _ _ _ _ _ wr.drew
          have rR : wr.drew.rangeAt g (i * 20) (pfx true r.px r.bits) := rP
          have cr : wr.drew.cell? ⟨g, i * 20 + 17, none⟩ = some (.int .i64 r.bits) := crb
          have cb : wr.drew.cell? ⟨n5, 17, none⟩ = some (.int .i64 bs.bits) := cbb
          have rA : wr.drew.rangeAt w.heap.size 0 (adr true ys) := range_block (w := wr) A1.out
          have rw20 : wr.drew.rangeAt g (i * 20) r.cells := hrow
          have HTd := Lib.hid (HT.out.drew)
          have B1 := Lib.hid (show wr.drew.heap[w.heap.size]? = _ from A1.out)
          have B2 := Lib.hid (show wr.drew.heap[w.heap.size + 1]? = _ from A2.out)
          have B3 := Lib.hid (show wr.drew.heap[n5]? = _ from A3.out)
          have HRd := Lib.hid (show ∀ i r, prs[i]? = some r → wr.drew.rangeAt g (i * 20) r.cells from HR.out)
          clear rP crb cbb hrow HT A1 A2 A3 HR
          generalize wr.drew = W at *
          have hS := Touch.refl [] W
          refine wpAnyH_take (i := 0) (oi := { dst := some 38, op := Op.move (Operand.tmp 4), type := 64, pos := "ref.go:35", after := #[], guard := none }) (v := .slice (some ⟨g, 0, none⟩) 9 c) rfl (by kernel_rfl) (by kernel_rfl) (by kernel_rfl) (fun _ _ _ h => h) (Or.inl ⟨by rfl, fun w' hw => by go_simp⟩) hS ?_
          try simp only [Act.put, List.setIfInBounds_toArray, List.set_cons_zero, List.set_cons_succ]
          refine wpAnyH_take (i := 1) (oi := { dst := some 39, op := Op.move (Operand.tmp 6), type := 3, pos := "ref.go:35", after := #[], guard := none }) (v := .int .i64 (i : Nat)) rfl (by kernel_rfl) (by kernel_rfl) (by kernel_rfl) (fun _ _ _ h => h) (Or.inl ⟨by rfl, fun w' hw => by go_simp⟩) hS ?_
          try simp only [Act.put, List.setIfInBounds_toArray, List.set_cons_zero, List.set_cons_succ]
          refine wpAnyH_take (i := 2) (oi := { dst := some 40, op := Op.indexAddr 64 (Operand.tmp 38) (Operand.tmp 39), type := 0, pos := "ref.go:35", after := #[{ on := 0, ground := Ground.data }, { on := 1, ground := Ground.data }], guard := none }) (v := .pointer (some ⟨g, i * 20, none⟩)) rfl (by kernel_rfl) (by kernel_rfl) (by kernel_rfl) (fun _ _ _ h => h) (Or.inl ⟨by rfl, fun w' hw => by go_simp⟩) hS ?_
          try simp only [Act.put, List.setIfInBounds_toArray, List.set_cons_zero, List.set_cons_succ]
          refine wpAnyH_take (i := 3) (oi := { dst := some 41, op := Op.fieldAddr 54 (Operand.tmp 40) 0, type := 0, pos := "ref.go:35", after := #[{ on := 2, ground := Ground.data }], guard := none }) (v := .pointer (some ⟨g, i * 20, none⟩)) rfl (by kernel_rfl) (by kernel_rfl) (by kernel_rfl) (fun _ _ _ h => h) (Or.inl ⟨by rfl, fun w' hw => by go_simp⟩) hS ?_
          try simp only [Act.put, List.setIfInBounds_toArray, List.set_cons_zero, List.set_cons_succ]
          refine wpAnyH_take (i := 4) (oi := { dst := some 42, op := Op.fieldAddr 52 (Operand.tmp 41) 1, type := 0, pos := "ref.go:35", after := #[{ on := 3, ground := Ground.data }], guard := none }) (v := .pointer (some ⟨g, i * 20 + 17, none⟩)) rfl (by kernel_rfl) (by kernel_rfl) (by kernel_rfl) (fun _ _ _ h => h) (Or.inl ⟨by rfl, fun w' hw => by go_simp⟩) hS ?_
          try simp only [Act.put, List.setIfInBounds_toArray, List.set_cons_zero, List.set_cons_succ]
          refine wpAnyH_take (i := 5) (oi := { dst := some 43, op := Op.load 3 (Operand.tmp 42), type := 3, pos := "ref.go:35", after := #[{ on := 4, ground := Ground.data }], guard := none }) (v := .int .i64 r.bits) rfl (by kernel_rfl) (by kernel_rfl) (by kernel_rfl) (fun _ _ _ h => h) (Or.inl ⟨by rfl, fun w' hw => by (have q := hw.cell cr (by simp); go_simp)⟩) hS ?_
          try simp only [Act.put, List.setIfInBounds_toArray, List.set_cons_zero, List.set_cons_succ]
          refine wpAnyH_take (i := 6) (oi := { dst := some 44, op := Op.fieldAddr 54 (Operand.tmp 5) 0, type := 0, pos := "ref.go:35", after := #[], guard := none }) (v := .pointer (some ⟨n5, 0, none⟩)) rfl (by kernel_rfl) (by kernel_rfl) (by kernel_rfl) (fun _ _ _ h => h) (Or.inl ⟨by rfl, fun w' hw => by go_simp⟩) hS ?_
          try simp only [Act.put, List.setIfInBounds_toArray, List.set_cons_zero, List.set_cons_succ]
          refine wpAnyH_take (i := 7) (oi := { dst := some 45, op := Op.fieldAddr 52 (Operand.tmp 44) 1, type := 0, pos := "ref.go:35", after := #[{ on := 6, ground := Ground.data }], guard := none }) (v := .pointer (some ⟨n5, 17, none⟩)) rfl (by kernel_rfl) (by kernel_rfl) (by kernel_rfl) (fun _ _ _ h => h) (Or.inl ⟨by rfl, fun w' hw => by go_simp⟩) hS ?_
          try simp only [Act.put, List.setIfInBounds_toArray, List.set_cons_zero, List.set_cons_succ]
          refine wpAnyH_take (i := 8) (oi := { dst := some 46, op := Op.load 3 (Operand.tmp 45), type := 3, pos := "ref.go:35", after := #[{ on := 7, ground := Ground.data }], guard := none }) (v := .int .i64 bs.bits) rfl (by kernel_rfl) (by kernel_rfl) (by kernel_rfl) (fun _ _ _ h => h) (Or.inl ⟨by rfl, fun w' hw => by (have q := hw.cell cb (by simp); go_simp)⟩) hS ?_
          try simp only [Act.put, List.setIfInBounds_toArray, List.set_cons_zero, List.set_cons_succ]
          refine wpAnyH_take (i := 9) (oi := { dst := some 47, op := Op.binOp BinOp.gtr 3 (Operand.tmp 43) (Operand.tmp 46) 3, type := 4, pos := "ref.go:35", after := #[{ on := 5, ground := Ground.data }, { on := 8, ground := Ground.data }], guard := none }) (v := .bool true) rfl (by kernel_rfl) (by kernel_rfl) (by kernel_rfl) (fun _ _ _ h => h) (Or.inl ⟨by rfl, fun w' hw => by (have q := hlt; go_simp)⟩) hS ?_
          try simp only [Act.put, List.setIfInBounds_toArray, List.set_cons_zero, List.set_cons_succ]
          refine wpAnyH_take (i := 10) (oi := { dst := some 48, op := Op.move (Operand.tmp 47), type := 4, pos := "ref.go:35", after := #[{ on := 9, ground := Ground.data }], guard := none }) (v := .bool true) rfl (by kernel_rfl) (by kernel_rfl) (by kernel_rfl) (fun _ _ _ h => h) (Or.inl ⟨by rfl, fun w' hw => by go_simp⟩) hS ?_
          try simp only [Act.put, List.setIfInBounds_toArray, List.set_cons_zero, List.set_cons_succ]
          refine wpAnyH_take (i := 11) (oi := { dst := some 49, op := Op.move (Operand.tmp 4), type := 64, pos := "ref.go:35", after := #[{ on := 10, ground := Ground.guard }], guard := some (10, true) }) (v := .slice (some ⟨g, 0, none⟩) 9 c) rfl (by kernel_rfl) (by kernel_rfl) (by kernel_rfl) (fun _ _ _ h => h) (Or.inl ⟨by rfl, fun w' hw => by go_simp⟩) hS ?_
          try simp only [Act.put, List.setIfInBounds_toArray, List.set_cons_zero, List.set_cons_succ]
          refine wpAnyH_take (i := 12) (oi := { dst := some 50, op := Op.move (Operand.tmp 6), type := 3, pos := "ref.go:35", after := #[{ on := 10, ground := Ground.guard }], guard := some (10, true) }) (v := .int .i64 (i : Nat)) rfl (by kernel_rfl) (by kernel_rfl) (by kernel_rfl) (fun _ _ _ h => h) (Or.inl ⟨by rfl, fun w' hw => by go_simp⟩) hS ?_
          try simp only [Act.put, List.setIfInBounds_toArray, List.set_cons_zero, List.set_cons_succ]
          refine wpAnyH_take (i := 13) (oi := { dst := some 51, op := Op.indexAddr 64 (Operand.tmp 49) (Operand.tmp 50), type := 0, pos := "ref.go:35", after := #[{ on := 11, ground := Ground.data }, { on := 12, ground := Ground.data }, { on := 10, ground := Ground.guard }], guard := some (10, true) }) (v := .pointer (some ⟨g, i * 20, none⟩)) rfl (by kernel_rfl) (by kernel_rfl) (by kernel_rfl) (fun _ _ _ h => h) (Or.inl ⟨by rfl, fun w' hw => by go_simp⟩) hS ?_
          try simp only [Act.put, List.setIfInBounds_toArray, List.set_cons_zero, List.set_cons_succ]
          refine wpAnyH_take (i := 14) (oi := { dst := some 52, op := Op.fieldAddr 54 (Operand.tmp 51) 0, type := 0, pos := "ref.go:35", after := #[{ on := 13, ground := Ground.data }, { on := 10, ground := Ground.guard }], guard := some (10, true) }) (v := .pointer (some ⟨g, i * 20, none⟩)) rfl (by kernel_rfl) (by kernel_rfl) (by kernel_rfl) (fun _ _ _ h => h) (Or.inl ⟨by rfl, fun w' hw => by go_simp⟩) hS ?_
          try simp only [Act.put, List.setIfInBounds_toArray, List.set_cons_zero, List.set_cons_succ]
          refine wpAnyH_take (i := 15) (oi := { dst := some 53, op := Op.load 52 (Operand.tmp 52), type := 52, pos := "ref.go:35", after := #[{ on := 14, ground := Ground.data }, { on := 10, ground := Ground.guard }], guard := some (10, true) }) (v := .agg (pfx true r.px r.bits).toArray) rfl (by kernel_rfl) (by kernel_rfl) (by kernel_rfl) (fun _ _ _ h => h) (Or.inl ⟨by rfl, fun w' hw => exec_load_agg _ 52 _ rfl _ _ rfl (pfx true r.px r.bits) _ (hw.range rR (by simp)) Tryd.underlying52 rfl (by rw [sizeP, HL18.out])⟩) hS ?_
          try simp only [Act.put, List.setIfInBounds_toArray, List.set_cons_zero, List.set_cons_succ]
          refine wpAnyH_take (i := 16) (oi := { dst := some 54, op := Op.load 28 (Operand.tmp 1), type := 28, pos := "ref.go:35", after := #[{ on := 10, ground := Ground.guard }], guard := some (10, true) }) (v := .agg (adr true ys).toArray) rfl (by kernel_rfl) (by kernel_rfl) (by kernel_rfl) (fun _ _ _ h => h) (Or.inl ⟨by rfl, fun w' hw => exec_load_agg _ 28 _ rfl _ _ rfl (adr true ys) _ (hw.range rA (by simp)) Tryd.underlying28 rfl (by rw [size31, HYL.out])⟩) hS ?_
          try simp only [Act.put, List.setIfInBounds_toArray, List.set_cons_zero, List.set_cons_succ]
          refine wpAnyH_ready (rs := [17]) (by kernel_rfl) (by simp) ?_
          refine AllReadyH.cons (o := { dst := some 55, op := Op.call { callee := Callee.value (Operand.func 46), args := #[Operand.tmp 53, Operand.tmp 54], argTypes := #[52, 28] }, type := 4, pos := "ref.go:35", after := #[{ on := 15, ground := Ground.data }, { on := 16, ground := Ground.data }, { on := 10, ground := Ground.chain }, { on := 10, ground := Ground.guard }], guard := some (10, true) }) rfl (fun K hK => ?_) AllReadyH.nil
          go_simp
          refine (HCO.out _).mono ?_
          rintro e w17 ⟨he, t17⟩
          rw [HC.out] at he
          subst he
          have hS2 := hS.trans t17 (by simp)
          refine hK.out _ _ hS2 (fun _ => ?_)
          clear hK K hS t17
          have hS := hS2
          clear hS2
          try simp only [Act.put, List.setIfInBounds_toArray, List.set_cons_zero, List.set_cons_succ]
          refine wpAnyH_take (i := 18) (oi := { dst := some 56, op := Op.pick (Operand.tmp 48) (Operand.tmp 55) (Operand.const (Value.bool false)), type := 4, pos := "ref.go:35", after := #[{ on := 10, ground := Ground.data }, { on := 17, ground := Ground.data }], guard := none }) (v := .bool true) rfl (by kernel_rfl) (by kernel_rfl) (by kernel_rfl) (fun _ _ _ h => h) (Or.inl ⟨by rfl, fun w' hw => by go_simp⟩) hS ?_
          try simp only [Act.put, List.setIfInBounds_toArray, List.set_cons_zero, List.set_cons_succ]
          refine wpAnyH_done (by kernel_rfl) ?_ _
          try simp only [Act.put, List.setIfInBounds_toArray, List.set_cons_zero, List.set_cons_succ]
          have R20 := hS.range rw20 (by simp)
          have C1 := Lib.hid (hS.at B1.out (by simp))
          have C2 := Lib.hid (hS.at B2.out (by simp))
          have C3 := Lib.hid (hS.at B3.out (by simp))
          have HTS := Lib.hid hS
          clear hS B1 B2 B3 rw20 rA cb cr rR
          go_wp2_with (first
            | ((with_reducible refine at_load 54 ?_); refine wpList_load_mid rfl 54 _ rfl g (i * 20) rfl r.cells _ R20 Tryd.underlying54 rfl (by rw [sizeR, HRL.out]) ?_)
            | ((with_reducible refine at_store 54 ?_); refine wpList_store_into rfl 54 _ _ rfl n5 54 _ r.cells rfl rfl C3.out (by rw [HRL.out]; simp [pr_len bs HBL.out]) (by rw [sizeR, HRL.out]) (prw_one _ _ _ _ _) ?_))
          intro w9 h9 t9 z9
          go_wp2_with fail
          go_roundw
          case rel =>
            have t89 := (HTS.out.mono (S' := [n5]) (by simp)).trans t9 (by simp)
            refine ⟨i + 1, by omega, by go_num, HTd.out.trans t89 (by intro y hy; right; simp at hy; omega), t9.at C1.out (by simp <;> omega), t9.at C2.out (by simp <;> omega), ?_, ?_⟩
            · rw [HBK.out, HSTEP.out, HE.out]
              exact h9
            · intro i r hx
              exact t89.range (HRd.out i r hx) (by simp <;> omega)
          case measure => simp [intOf]; omega
        · have HC := Lib.hid (show decide (trunc r.bits ys = r.px) = false by simp [hco])
          have HE := Lib.hid (show stepL ys bs r = bs by simp [stepL, hco])
          clear hco
          go_wp2_with fail
          refine wp_region_held (S := Touch [] wr.drew) (by kernel_rfl) ?_
          change wpAnyH _ _ _ _ _ _ _ _ wr.drew
          have rR : wr.drew.rangeAt g (i * 20) (pfx true r.px r.bits) := rP
          have cr : wr.drew.cell? ⟨g, i * 20 + 17, none⟩ = some (.int .i64 r.bits) := crb
          have cb : wr.drew.cell? ⟨n5, 17, none⟩ = some (.int .i64 bs.bits) := cbb
          have rA : wr.drew.rangeAt w.heap.size 0 (adr true ys) := range_block (w := wr) A1.out
          have HTd := Lib.hid (HT.out.drew)
          have B1 := Lib.hid (show wr.drew.heap[w.heap.size]? = _ from A1.out)
          have B2 := Lib.hid (show wr.drew.heap[w.heap.size + 1]? = _ from A2.out)
          have B3 := Lib.hid (show wr.drew.heap[n5]? = _ from A3.out)
          have HRd := Lib.hid (show ∀ i r, prs[i]? = some r → wr.drew.rangeAt g (i * 20) r.cells from HR.out)
          clear rP crb cbb hrow HT A1 A2 A3 HR
          generalize wr.drew = W at *
          have hS := Touch.refl [] W
          refine wpAnyH_take (i := 0) (oi := { dst := some 38, op := Op.move (Operand.tmp 4), type := 64, pos := "ref.go:35", after := #[], guard := none }) (v := .slice (some ⟨g, 0, none⟩) 9 c) rfl (by kernel_rfl) (by kernel_rfl) (by kernel_rfl) (fun _ _ _ h => h) (Or.inl ⟨by rfl, fun w' hw => by go_simp⟩) hS ?_
          try simp only [Act.put, List.setIfInBounds_toArray, List.set_cons_zero, List.set_cons_succ]
          refine wpAnyH_take (i := 1) (oi := { dst := some 39, op := Op.move (Operand.tmp 6), type := 3, pos := "ref.go:35", after := #[], guard := none }) (v := .int .i64 (i : Nat)) rfl (by kernel_rfl) (by kernel_rfl) (by kernel_rfl) (fun _ _ _ h => h) (Or.inl ⟨by rfl, fun w' hw => by go_simp⟩) hS ?_
          try simp only [Act.put, List.setIfInBounds_toArray, List.set_cons_zero, List.set_cons_succ]
          refine wpAnyH_take (i := 2) (oi := { dst := some 40, op := Op.indexAddr 64 (Operand.tmp 38) (Operand.tmp 39), type := 0, pos := "ref.go:35", after := #[{ on := 0, ground := Ground.data }, { on := 1, ground := Ground.data }], guard := none }) (v := .pointer (some ⟨g, i * 20, none⟩)) rfl (by kernel_rfl) (by kernel_rfl) (by kernel_rfl) (fun _ _ _ h => h) (Or.inl ⟨by rfl, fun w' hw => by go_simp⟩) hS ?_
          try simp only [Act.put, List.setIfInBounds_toArray, List.set_cons_zero, List.set_cons_succ]
          refine wpAnyH_take (i := 3) (oi := { dst := some 41, op := Op.fieldAddr 54 (Operand.tmp 40) 0, type := 0, pos := "ref.go:35", after := #[{ on := 2, ground := Ground.data }], guard := none }) (v := .pointer (some ⟨g, i * 20, none⟩)) rfl (by kernel_rfl) (by kernel_rfl) (by kernel_rfl) (fun _ _ _ h => h) (Or.inl ⟨by rfl, fun w' hw => by go_simp⟩) hS ?_
          try simp only [Act.put, List.setIfInBounds_toArray, List.set_cons_zero, List.set_cons_succ]
          refine wpAnyH_take (i := 4) (oi := { dst := some 42, op := Op.fieldAddr 52 (Operand.tmp 41) 1, type := 0, pos := "ref.go:35", after := #[{ on := 3, ground := Ground.data }], guard := none }) (v := .pointer (some ⟨g, i * 20 + 17, none⟩)) rfl (by kernel_rfl) (by kernel_rfl) (by kernel_rfl) (fun _ _ _ h => h) (Or.inl ⟨by rfl, fun w' hw => by go_simp⟩) hS ?_
          try simp only [Act.put, List.setIfInBounds_toArray, List.set_cons_zero, List.set_cons_succ]
          refine wpAnyH_take (i := 5) (oi := { dst := some 43, op := Op.load 3 (Operand.tmp 42), type := 3, pos := "ref.go:35", after := #[{ on := 4, ground := Ground.data }], guard := none }) (v := .int .i64 r.bits) rfl (by kernel_rfl) (by kernel_rfl) (by kernel_rfl) (fun _ _ _ h => h) (Or.inl ⟨by rfl, fun w' hw => by (have q := hw.cell cr (by simp); go_simp)⟩) hS ?_
          try simp only [Act.put, List.setIfInBounds_toArray, List.set_cons_zero, List.set_cons_succ]
          refine wpAnyH_take (i := 6) (oi := { dst := some 44, op := Op.fieldAddr 54 (Operand.tmp 5) 0, type := 0, pos := "ref.go:35", after := #[], guard := none }) (v := .pointer (some ⟨n5, 0, none⟩)) rfl (by kernel_rfl) (by kernel_rfl) (by kernel_rfl) (fun _ _ _ h => h) (Or.inl ⟨by rfl, fun w' hw => by go_simp⟩) hS ?_
          try simp only [Act.put, List.setIfInBounds_toArray, List.set_cons_zero, List.set_cons_succ]
          refine wpAnyH_take (i := 7) (oi := { dst := some 45, op := Op.fieldAddr 52 (Operand.tmp 44) 1, type := 0, pos := "ref.go:35", after := #[{ on := 6, ground := Ground.data }], guard := none }) (v := .pointer (some ⟨n5, 17, none⟩)) rfl (by kernel_rfl) (by kernel_rfl) (by kernel_rfl) (fun _ _ _ h => h) (Or.inl ⟨by rfl, fun w' hw => by go_simp⟩) hS ?_
          try simp only [Act.put, List.setIfInBounds_toArray, List.set_cons_zero, List.set_cons_succ]
          refine wpAnyH_take (i := 8) (oi := { dst := some 46, op := Op.load 3 (Operand.tmp 45), type := 3, pos := "ref.go:35", after := #[{ on := 7, ground := Ground.data }], guard := none }) (v := .int .i64 bs.bits) rfl (by kernel_rfl) (by kernel_rfl) (by kernel_rfl) (fun _ _ _ h => h) (Or.inl ⟨by rfl, fun w' hw => by (have q := hw.cell cb (by simp); go_simp)⟩) hS ?_
          try simp only [Act.put, List.setIfInBounds_toArray, List.set_cons_zero, List.set_cons_succ]
          refine wpAnyH_take (i := 9) (oi := { dst := some 47, op := Op.binOp BinOp.gtr 3 (Operand.tmp 43) (Operand.tmp 46) 3, type := 4, pos := "ref.go:35", after := #[{ on := 5, ground := Ground.data }, { on := 8, ground := Ground.data }], guard := none }) (v := .bool true) rfl (by kernel_rfl) (by kernel_rfl) (by kernel_rfl) (fun _ _ _ h => h) (Or.inl ⟨by rfl, fun w' hw => by (have q := hlt; go_simp)⟩) hS ?_
          try simp only [Act.put, List.setIfInBounds_toArray, List.set_cons_zero, List.set_cons_succ]
          refine wpAnyH_take (i := 10) (oi := { dst := some 48, op := Op.move (Operand.tmp 47), type := 4, pos := "ref.go:35", after := #[{ on := 9, ground := Ground.data }], guard := none }) (v := .bool true) rfl (by kernel_rfl) (by kernel_rfl) (by kernel_rfl) (fun _ _ _ h => h) (Or.inl ⟨by rfl, fun w' hw => by go_simp⟩) hS ?_
          try simp only [Act.put, List.setIfInBounds_toArray, List.set_cons_zero, List.set_cons_succ]
          refine wpAnyH_take (i := 11) (oi := { dst := some 49, op := Op.move (Operand.tmp 4), type := 64, pos := "ref.go:35", after := #[{ on := 10, ground := Ground.guard }], guard := some (10, true) }) (v := .slice (some ⟨g, 0, none⟩) 9 c) rfl (by kernel_rfl) (by kernel_rfl) (by kernel_rfl) (fun _ _ _ h => h) (Or.inl ⟨by rfl, fun w' hw => by go_simp⟩) hS ?_
          try simp only [Act.put, List.setIfInBounds_toArray, List.set_cons_zero, List.set_cons_succ]
          refine wpAnyH_take (i := 12) (oi := { dst := some 50, op := Op.move (Operand.tmp 6), type := 3, pos := "ref.go:35", after := #[{ on := 10, ground := Ground.guard }], guard := some (10, true) }) (v := .int .i64 (i : Nat)) rfl (by kernel_rfl) (by kernel_rfl) (by kernel_rfl) (fun _ _ _ h => h) (Or.inl ⟨by rfl, fun w' hw => by go_simp⟩) hS ?_
          try simp only [Act.put, List.setIfInBounds_toArray, List.set_cons_zero, List.set_cons_succ]
          refine wpAnyH_take (i := 13) (oi := { dst := some 51, op := Op.indexAddr 64 (Operand.tmp 49) (Operand.tmp 50), type := 0, pos := "ref.go:35", after := #[{ on := 11, ground := Ground.data }, { on := 12, ground := Ground.data }, { on := 10, ground := Ground.guard }], guard := some (10, true) }) (v := .pointer (some ⟨g, i * 20, none⟩)) rfl (by kernel_rfl) (by kernel_rfl) (by kernel_rfl) (fun _ _ _ h => h) (Or.inl ⟨by rfl, fun w' hw => by go_simp⟩) hS ?_
          try simp only [Act.put, List.setIfInBounds_toArray, List.set_cons_zero, List.set_cons_succ]
          refine wpAnyH_take (i := 14) (oi := { dst := some 52, op := Op.fieldAddr 54 (Operand.tmp 51) 0, type := 0, pos := "ref.go:35", after := #[{ on := 13, ground := Ground.data }, { on := 10, ground := Ground.guard }], guard := some (10, true) }) (v := .pointer (some ⟨g, i * 20, none⟩)) rfl (by kernel_rfl) (by kernel_rfl) (by kernel_rfl) (fun _ _ _ h => h) (Or.inl ⟨by rfl, fun w' hw => by go_simp⟩) hS ?_
          try simp only [Act.put, List.setIfInBounds_toArray, List.set_cons_zero, List.set_cons_succ]
          refine wpAnyH_take (i := 15) (oi := { dst := some 53, op := Op.load 52 (Operand.tmp 52), type := 52, pos := "ref.go:35", after := #[{ on := 14, ground := Ground.data }, { on := 10, ground := Ground.guard }], guard := some (10, true) }) (v := .agg (pfx true r.px r.bits).toArray) rfl (by kernel_rfl) (by kernel_rfl) (by kernel_rfl) (fun _ _ _ h => h) (Or.inl ⟨by rfl, fun w' hw => exec_load_agg _ 52 _ rfl _ _ rfl (pfx true r.px r.bits) _ (hw.range rR (by simp)) Tryd.underlying52 rfl (by rw [sizeP, HL18.out])⟩) hS ?_
          try simp only [Act.put, List.setIfInBounds_toArray, List.set_cons_zero, List.set_cons_succ]
          refine wpAnyH_take (i := 16) (oi := { dst := some 54, op := Op.load 28 (Operand.tmp 1), type := 28, pos := "ref.go:35", after := #[{ on := 10, ground := Ground.guard }], guard := some (10, true) }) (v := .agg (adr true ys).toArray) rfl (by kernel_rfl) (by kernel_rfl) (by kernel_rfl) (fun _ _ _ h => h) (Or.inl ⟨by rfl, fun w' hw => exec_load_agg _ 28 _ rfl _ _ rfl (adr true ys) _ (hw.range rA (by simp)) Tryd.underlying28 rfl (by rw [size31, HYL.out])⟩) hS ?_
          try simp only [Act.put, List.setIfInBounds_toArray, List.set_cons_zero, List.set_cons_succ]
          refine wpAnyH_ready (rs := [17]) (by kernel_rfl) (by simp) ?_
          refine AllReadyH.cons (o := { dst := some 55, op := Op.call { callee := Callee.value (Operand.func 46), args := #[Operand.tmp 53, Operand.tmp 54], argTypes := #[52, 28] }, type := 4, pos := "ref.go:35", after := #[{ on := 15, ground := Ground.data }, { on := 16, ground := Ground.data }, { on := 10, ground := Ground.chain }, { on := 10, ground := Ground.guard }], guard := some (10, true) }) rfl (fun K hK => ?_) AllReadyH.nil
          go_simp
          refine (HCO.out _).mono ?_
          rintro e w17 ⟨he, t17⟩
          rw [HC.out] at he
          subst he
          have hS2 := hS.trans t17 (by simp)
          refine hK.out _ _ hS2 (fun _ => ?_)
          clear hK K hS t17
          have hS := hS2
          clear hS2
          try simp only [Act.put, List.setIfInBounds_toArray, List.set_cons_zero, List.set_cons_succ]
          refine wpAnyH_take (i := 18) (oi := { dst := some 56, op := Op.pick (Operand.tmp 48) (Operand.tmp 55) (Operand.const (Value.bool false)), type := 4, pos := "ref.go:35", after := #[{ on := 10, ground := Ground.data }, { on := 17, ground := Ground.data }], guard := none }) (v := .bool false) rfl (by kernel_rfl) (by kernel_rfl) (by kernel_rfl) (fun _ _ _ h => h) (Or.inl ⟨by rfl, fun w' hw => by go_simp⟩) hS ?_
          try simp only [Act.put, List.setIfInBounds_toArray, List.set_cons_zero, List.set_cons_succ]
          refine wpAnyH_done (by kernel_rfl) ?_ _
          try simp only [Act.put, List.setIfInBounds_toArray, List.set_cons_zero, List.set_cons_succ]
          go_wp2_with fail
          go_roundw
          case rel =>
            refine ⟨i + 1, by omega, by go_num, HTd.out.trans hS (by simp), hS.at B1.out (by simp), hS.at B2.out (by simp), ?_, ?_⟩
            · rw [HBK.out, HSTEP.out, HE.out]
              exact hS.at B3.out (by simp)
            · intro i r hx
              exact hS.range (HRd.out i r hx) (by simp)
          case measure => simp [intOf]; omega
      · have HE := Lib.hid (show stepL ys bs r = bs by simp [stepL, hlt])
        go_wp2_with fail
        refine wp_region_held (S := Touch [] wr.drew) (by kernel_rfl) ?_
        change wpAnyH _ _ _ _ _ _ _ _ wr.drew
        have cr : wr.drew.cell? ⟨g, i * 20 + 17, none⟩ = some (.int .i64 r.bits) := crb
        have cb : wr.drew.cell? ⟨n5, 17, none⟩ = some (.int .i64 bs.bits) := cbb
        have HTd := Lib.hid (HT.out.drew)
        have B1 := Lib.hid (show wr.drew.heap[w.heap.size]? = _ from A1.out)
        have B2 := Lib.hid (show wr.drew.heap[w.heap.size + 1]? = _ from A2.out)
        have B3 := Lib.hid (show wr.drew.heap[n5]? = _ from A3.out)
        have HRd := Lib.hid (show ∀ i r, prs[i]? = some r → wr.drew.rangeAt g (i * 20) r.cells from HR.out)
        clear rP crb cbb hrow HT A1 A2 A3 HR
        generalize wr.drew = W at *
        have hS := Touch.refl [] W
        refine wpAnyH_take (i := 0) (oi := { dst := some 38, op := Op.move (Operand.tmp 4), type := 64, pos := "ref.go:35", after := #[], guard := none }) (v := .slice (some ⟨g, 0, none⟩) 9 c) rfl (by kernel_rfl) (by kernel_rfl) (by kernel_rfl) (fun _ _ _ h => h) (Or.inl ⟨by rfl, fun w' hw => by go_simp⟩) hS ?_
        try simp only [Act.put, List.setIfInBounds_toArray, List.set_cons_zero, List.set_cons_succ]
        refine wpAnyH_take (i := 1) (oi := { dst := some 39, op := Op.move (Operand.tmp 6), type := 3, pos := "ref.go:35", after := #[], guard := none }) (v := .int .i64 (i : Nat)) rfl (by kernel_rfl) (by kernel_rfl) (by kernel_rfl) (fun _ _ _ h => h) (Or.inl ⟨by rfl, fun w' hw => by go_simp⟩) hS ?_
        try simp only [Act.put, List.setIfInBounds_toArray, List.set_cons_zero, List.set_cons_succ]
        refine wpAnyH_take (i := 2) (oi := { dst := some 40, op := Op.indexAddr 64 (Operand.tmp 38) (Operand.tmp 39), type := 0, pos := "ref.go:35", after := #[{ on := 0, ground := Ground.data }, { on := 1, ground := Ground.data }], guard := none }) (v := .pointer (some ⟨g, i * 20, none⟩)) rfl (by kernel_rfl) (by kernel_rfl) (by kernel_rfl) (fun _ _ _ h => h) (Or.inl ⟨by rfl, fun w' hw => by go_simp⟩) hS ?_
        try simp only [Act.put, List.setIfInBounds_toArray, List.set_cons_zero, List.set_cons_succ]
        refine wpAnyH_take (i := 3) (oi := { dst := some 41, op := Op.fieldAddr 54 (Operand.tmp 40) 0, type := 0, pos := "ref.go:35", after := #[{ on := 2, ground := Ground.data }], guard := none }) (v := .pointer (some ⟨g, i * 20, none⟩)) rfl (by kernel_rfl) (by kernel_rfl) (by kernel_rfl) (fun _ _ _ h => h) (Or.inl ⟨by rfl, fun w' hw => by go_simp⟩) hS ?_
        try simp only [Act.put, List.setIfInBounds_toArray, List.set_cons_zero, List.set_cons_succ]
        refine wpAnyH_take (i := 4) (oi := { dst := some 42, op := Op.fieldAddr 52 (Operand.tmp 41) 1, type := 0, pos := "ref.go:35", after := #[{ on := 3, ground := Ground.data }], guard := none }) (v := .pointer (some ⟨g, i * 20 + 17, none⟩)) rfl (by kernel_rfl) (by kernel_rfl) (by kernel_rfl) (fun _ _ _ h => h) (Or.inl ⟨by rfl, fun w' hw => by go_simp⟩) hS ?_
        try simp only [Act.put, List.setIfInBounds_toArray, List.set_cons_zero, List.set_cons_succ]
        refine wpAnyH_take (i := 5) (oi := { dst := some 43, op := Op.load 3 (Operand.tmp 42), type := 3, pos := "ref.go:35", after := #[{ on := 4, ground := Ground.data }], guard := none }) (v := .int .i64 r.bits) rfl (by kernel_rfl) (by kernel_rfl) (by kernel_rfl) (fun _ _ _ h => h) (Or.inl ⟨by rfl, fun w' hw => by (have q := hw.cell cr (by simp); go_simp)⟩) hS ?_
        try simp only [Act.put, List.setIfInBounds_toArray, List.set_cons_zero, List.set_cons_succ]
        refine wpAnyH_take (i := 6) (oi := { dst := some 44, op := Op.fieldAddr 54 (Operand.tmp 5) 0, type := 0, pos := "ref.go:35", after := #[], guard := none }) (v := .pointer (some ⟨n5, 0, none⟩)) rfl (by kernel_rfl) (by kernel_rfl) (by kernel_rfl) (fun _ _ _ h => h) (Or.inl ⟨by rfl, fun w' hw => by go_simp⟩) hS ?_
        try simp only [Act.put, List.setIfInBounds_toArray, List.set_cons_zero, List.set_cons_succ]
        refine wpAnyH_take (i := 7) (oi := { dst := some 45, op := Op.fieldAddr 52 (Operand.tmp 44) 1, type := 0, pos := "ref.go:35", after := #[{ on := 6, ground := Ground.data }], guard := none }) (v := .pointer (some ⟨n5, 17, none⟩)) rfl (by kernel_rfl) (by kernel_rfl) (by kernel_rfl) (fun _ _ _ h => h) (Or.inl ⟨by rfl, fun w' hw => by go_simp⟩) hS ?_
        try simp only [Act.put, List.setIfInBounds_toArray, List.set_cons_zero, List.set_cons_succ]
        refine wpAnyH_take (i := 8) (oi := { dst := some 46, op := Op.load 3 (Operand.tmp 45), type := 3, pos := "ref.go:35", after := #[{ on := 7, ground := Ground.data }], guard := none }) (v := .int .i64 bs.bits) rfl (by kernel_rfl) (by kernel_rfl) (by kernel_rfl) (fun _ _ _ h => h) (Or.inl ⟨by rfl, fun w' hw => by (have q := hw.cell cb (by simp); go_simp)⟩) hS ?_
        try simp only [Act.put, List.setIfInBounds_toArray, List.set_cons_zero, List.set_cons_succ]
        refine wpAnyH_take (i := 9) (oi := { dst := some 47, op := Op.binOp BinOp.gtr 3 (Operand.tmp 43) (Operand.tmp 46) 3, type := 4, pos := "ref.go:35", after := #[{ on := 5, ground := Ground.data }, { on := 8, ground := Ground.data }], guard := none }) (v := .bool false) rfl (by kernel_rfl) (by kernel_rfl) (by kernel_rfl) (fun _ _ _ h => h) (Or.inl ⟨by rfl, fun w' hw => by (have q := hlt; go_simp)⟩) hS ?_
        try simp only [Act.put, List.setIfInBounds_toArray, List.set_cons_zero, List.set_cons_succ]
        refine wpAnyH_take (i := 10) (oi := { dst := some 48, op := Op.move (Operand.tmp 47), type := 4, pos := "ref.go:35", after := #[{ on := 9, ground := Ground.data }], guard := none }) (v := .bool false) rfl (by kernel_rfl) (by kernel_rfl) (by kernel_rfl) (fun _ _ _ h => h) (Or.inl ⟨by rfl, fun w' hw => by go_simp⟩) hS ?_
        try simp only [Act.put, List.setIfInBounds_toArray, List.set_cons_zero, List.set_cons_succ]
        refine wpAnyH_take (i := 11) (oi := { dst := some 49, op := Op.move (Operand.tmp 4), type := 64, pos := "ref.go:35", after := #[{ on := 10, ground := Ground.guard }], guard := some (10, true) }) (v := undef) rfl (by kernel_rfl) (by kernel_rfl) (by kernel_rfl) (fun _ _ _ h => h) (Or.inr ⟨by rfl, rfl⟩) hS ?_
        try simp only [Act.put, List.setIfInBounds_toArray, List.set_cons_zero, List.set_cons_succ]
        refine wpAnyH_take (i := 12) (oi := { dst := some 50, op := Op.move (Operand.tmp 6), type := 3, pos := "ref.go:35", after := #[{ on := 10, ground := Ground.guard }], guard := some (10, true) }) (v := undef) rfl (by kernel_rfl) (by kernel_rfl) (by kernel_rfl) (fun _ _ _ h => h) (Or.inr ⟨by rfl, rfl⟩) hS ?_
        try simp only [Act.put, List.setIfInBounds_toArray, List.set_cons_zero, List.set_cons_succ]
        refine wpAnyH_take (i := 13) (oi := { dst := some 51, op := Op.indexAddr 64 (Operand.tmp 49) (Operand.tmp 50), type := 0, pos := "ref.go:35", after := #[{ on := 11, ground := Ground.data }, { on := 12, ground := Ground.data }, { on := 10, ground := Ground.guard }], guard := some (10, true) }) (v := undef) rfl (by kernel_rfl) (by kernel_rfl) (by kernel_rfl) (fun _ _ _ h => h) (Or.inr ⟨by rfl, rfl⟩) hS ?_
        try simp only [Act.put, List.setIfInBounds_toArray, List.set_cons_zero, List.set_cons_succ]
        refine wpAnyH_take (i := 14) (oi := { dst := some 52, op := Op.fieldAddr 54 (Operand.tmp 51) 0, type := 0, pos := "ref.go:35", after := #[{ on := 13, ground := Ground.data }, { on := 10, ground := Ground.guard }], guard := some (10, true) }) (v := undef) rfl (by kernel_rfl) (by kernel_rfl) (by kernel_rfl) (fun _ _ _ h => h) (Or.inr ⟨by rfl, rfl⟩) hS ?_
        try simp only [Act.put, List.setIfInBounds_toArray, List.set_cons_zero, List.set_cons_succ]
        refine wpAnyH_take (i := 15) (oi := { dst := some 53, op := Op.load 52 (Operand.tmp 52), type := 52, pos := "ref.go:35", after := #[{ on := 14, ground := Ground.data }, { on := 10, ground := Ground.guard }], guard := some (10, true) }) (v := undef) rfl (by kernel_rfl) (by kernel_rfl) (by kernel_rfl) (fun _ _ _ h => h) (Or.inr ⟨by rfl, rfl⟩) hS ?_
        try simp only [Act.put, List.setIfInBounds_toArray, List.set_cons_zero, List.set_cons_succ]
        refine wpAnyH_take (i := 16) (oi := { dst := some 54, op := Op.load 28 (Operand.tmp 1), type := 28, pos := "ref.go:35", after := #[{ on := 10, ground := Ground.guard }], guard := some (10, true) }) (v := undef) rfl (by kernel_rfl) (by kernel_rfl) (by kernel_rfl) (fun _ _ _ h => h) (Or.inr ⟨by rfl, rfl⟩) hS ?_
        try simp only [Act.put, List.setIfInBounds_toArray, List.set_cons_zero, List.set_cons_succ]
        refine wpAnyH_take (i := 17) (oi := { dst := some 55, op := Op.call { callee := Callee.value (Operand.func 46), args := #[Operand.tmp 53, Operand.tmp 54], argTypes := #[52, 28] }, type := 4, pos := "ref.go:35", after := #[{ on := 15, ground := Ground.data }, { on := 16, ground := Ground.data }, { on := 10, ground := Ground.chain }, { on := 10, ground := Ground.guard }], guard := some (10, true) }) (v := undef) rfl (by kernel_rfl) (by kernel_rfl) (by kernel_rfl) (fun _ _ _ h => h) (Or.inr ⟨by rfl, rfl⟩) hS ?_
        try simp only [Act.put, List.setIfInBounds_toArray, List.set_cons_zero, List.set_cons_succ]
        refine wpAnyH_take (i := 18) (oi := { dst := some 56, op := Op.pick (Operand.tmp 48) (Operand.tmp 55) (Operand.const (Value.bool false)), type := 4, pos := "ref.go:35", after := #[{ on := 10, ground := Ground.data }, { on := 17, ground := Ground.data }], guard := none }) (v := .bool false) rfl (by kernel_rfl) (by kernel_rfl) (by kernel_rfl) (fun _ _ _ h => h) (Or.inl ⟨by rfl, fun w' hw => by go_simp⟩) hS ?_
        try simp only [Act.put, List.setIfInBounds_toArray, List.set_cons_zero, List.set_cons_succ]
        refine wpAnyH_done (by kernel_rfl) ?_ _
        try simp only [Act.put, List.setIfInBounds_toArray, List.set_cons_zero, List.set_cons_succ]
        go_wp2_with fail
        go_roundw
        case rel =>
          refine ⟨i + 1, by omega, by go_num, HTd.out.trans hS (by simp), hS.at B1.out (by simp), hS.at B2.out (by simp), ?_, ?_⟩
          · rw [HBK.out, HSTEP.out, HE.out]
            exact hS.at B3.out (by simp)
          · intro i r hx
            exact hS.range (HRd.out i r hx) (by simp)
        case measure => simp [intOf]; omega
    · have hie : i = 9 := by omega
      subst hie
      have hbl := bestR_px ys 9
      generalize hbk : bestR ys 9 = bs at *
      have HBK := Lib.hid hbk
      have HRL := Lib.hid (pr_len bs hbl)
      have R3 := range_block ha3
      clear hbk hbl ha3
      go_wp2_with (first
        | ((with_reducible refine at_load 54 ?_); refine wpList_load_mid rfl 54 _ rfl n5 0 rfl bs.cells _ R3 Tryd.underlying54 rfl (by rw [sizeR, HRL.out]) ?_)
        | ((with_reducible refine at_store 54 ?_); refine wpList_store_into rfl 54 _ _ rfl (w.heap.size + 1) 54 _ bs.cells rfl rfl A2.out (by rw [HRL.out]; rfl) (by rw [sizeR, HRL.out]) (prw_one _ _ _ _ _) ?_))
      intro w5 h5 t5 z5
      go_wp2_with fail
      exact ret_row_tmp rfl sizeR Tryd.underlying54 rfl HRL.out rfl rfl h5 ⟨by rw [HYS.out, HBK.out]; rfl, HT.out.trans t5 (by intro y hy; right; simp at hy; omega)⟩
set_option maxRecDepth 100000 in
set_option maxHeartbeats 4000000 in
theorem rpol_good_true (xs : List Int) (h : okB xs) (hv : vld true xs = true) (w : World) :
    Calls Tryd.prog 37 #[.agg (adr true xs).toArray] w fun e w' => e = .returned (.tuple #[.agg (bestR (map6 true xs) 9).cells.toArray, .bool true]) ∧ Touch [] w w' := by
  have g0 := ((Touch.refl [] w).alloc (.cells (adr true xs).toArray 28)).alloc (.cells (prw false (List.replicate 16 0) 0 0 0).toArray 54)
  have g1 := ((Touch.refl [] (w.alloc (.cells (adr true xs).toArray 28))).alloc (.cells (prw false (List.replicate 16 0) 0 0 0).toArray 54)).at (heap_alloc_new w (.cells (adr true xs).toArray 28)) (by simp)
  have g2 := heap_alloc2_new w (.cells (adr true xs).toArray 28) (.cells (prw false (List.replicate 16 0) 0 0 0).toArray 54)
  have HL17 := Lib.hid (show (adr true xs).length = 17 by simp [adr, h.1])
  have R1 := range_block g1
  have HT := Lib.hid g0
  have HG1 := Lib.hid g1
  have HG2 := Lib.hid g2
  have HV := Lib.hid hv
  have HVA := Lib.hid (rvalid_any true xs h)
  have hlen := h.1
  have h6 := map6_ok (b := true) h
  have HYL := Lib.hid (show (adr true (map6 true xs)).length = 17 by simp [adr, h6.1])
  have HYO := Lib.hid h6
  clear g0 g1 g2 h hv h6
  go_enter Tryd.func37, Tryd.ntmps37
  go_wp2_with ((with_reducible refine at_load 28 ?_); refine wpList_load_mid rfl 28 _ rfl w.heap.size 0 rfl (adr true xs) _ R1 Tryd.underlying28 rfl (by rw [size31, HL17.out]) ?_)
  refine (HVA.out _).mono ?_
  rintro e w2 ⟨he, t2⟩
  rw [HV.out] at he
  subst he
  have HT2 := Lib.hid (HT.out.trans t2 (by simp))
  have HG12 := Lib.hid (t2.at HG1.out (by simp))
  have HG22 := Lib.hid (t2.at HG2.out (by simp))
  obtain ⟨c0, cj⟩ := adr_cell HG12.out
  clear t2 HT HG1 HG2 R1
  have HT4 := HT2
  have HG14 := HG12
  have HG24 := HG22
  have HYS := Lib.hid (show map6 true xs = xs from rfl)
  rw [show map6 true xs = xs from rfl] at HYL HYO
  obtain ⟨ys, hys⟩ : ∃ ys, ys = xs := ⟨_, rfl⟩
  rw [← hys] at HYL HYO HG14
  have HYS := Lib.hid (show map6 true xs = ys from by rw [hys]; rfl)
  clear cj hys HT2 HG12 HG22
  go_wp2_with fail
  refine (rrows_any _).mono ?_
  rintro e w5 ⟨v5, rfl, ho5, t5⟩
  obtain ⟨g, c, hvf, hc1, hc2, hgn, hrow⟩ := ho5.form (fun r hr => (prs_good r hr).2.1.1) (by decide)
  rw [show prs.length = 9 by decide] at hvf
  subst hvf
  have HT5 := Lib.hid (HT4.out.trans t5 (by simp))
  have HG15 := Lib.hid (t5.at HG14.out (by simp))
  have HG25 := Lib.hid (t5.at HG24.out (by simp))
  have zw : w.heap.size + 1 < g := by
    have := (Array.getElem?_eq_some_iff.1 HG24.out).1
    omega
  have HROW := Lib.hid hrow
  have R20 := hrow 1 pr1 prs_1
  have HP20 := Lib.hid (pr_len pr1 rfl)
  have HN := Lib.hid (heap_alloc_new w5 (.cells (prw false (List.replicate 16 0) 0 0 0).toArray 54))
  have HNT := Lib.hid ((Touch.refl [] w5).alloc (.cells (prw false (List.replicate 16 0) 0 0 0).toArray 54))
  have zg5 : g < w5.heap.size := ho5.lt g rfl
  clear t5 HT4 HG14 HG24 ho5 hrow hc1 hc2 hgn
  rw [Nat.one_mul] at R20
  go_wp2_with (first
    | ((with_reducible refine at_load 54 ?_); refine wpList_load_mid rfl 54 _ rfl g 20 rfl pr1.cells _ R20 Tryd.underlying54 rfl (by rw [sizeR, HP20.out]) ?_)
    | ((with_reducible refine at_store 54 ?_); refine wpList_store_into rfl 54 _ _ rfl w5.heap.size 54 _ pr1.cells rfl rfl HN.out (by rw [HP20.out]; rfl) (by rw [sizeR, HP20.out]) (prw_one _ _ _ _ _) ?_))
  intro w6 h6 t6 z6
  have HT56 := Lib.hid (HNT.out.trans t6 (by intro y hy; right; simp at hy; omega))
  have HT6 := Lib.hid (HT5.out.trans HT56.out (by simp))
  have HG16 := Lib.hid (HT56.out.at HG15.out (by simp))
  have HG26 := Lib.hid (HT56.out.at HG25.out (by simp))
  have HR6 := Lib.hid (fun i r (h : prs[i]? = some r) => HT56.out.range (HROW.out i r h) (by simp))
  have HB0 := Lib.hid (show w6.heap[w5.heap.size]? = some (.cells (bestR ys 0).cells.toArray 54 (0, 0)) from h6)
  have zw5 : w.heap.size + 1 < w5.heap.size := by omega
  obtain ⟨n5, hn5⟩ : ∃ n5, n5 = w5.heap.size := ⟨_, rfl⟩
  rw [← hn5] at HB0 zg5 zw5
  have HN5 := Lib.hid hn5
  have hp9 : prs.length = 9 := by decide
  clear h6 t6 z6 HT5 HG15 HG25 HROW R20 HN HNT HT56 HP20 hn5
  go_wp2_with fail
  rw [← HN5.out]
  go_loopw [6] (fun vi wr => ∃ i : Nat, i ≤ 9 ∧ vi = .int .i64 i ∧ Touch [] w wr ∧ wr.heap[w.heap.size]? = some (.cells (adr true ys).toArray 28 (0, 0)) ∧ wr.heap[w.heap.size + 1]? = some (.cells (prw false (List.replicate 16 0) 0 0 0).toArray 54 (0, 0)) ∧ wr.heap[n5]? = some (.cells (bestR ys i).cells.toArray 54 (0, 0)) ∧ (∀ i r, prs[i]? = some r → wr.rangeAt g (i * 20) r.cells)) (fun vi _ => 9 - (intOf vi).toNat)
  case atStart => exact ⟨0, by omega, rfl, HT6.out, HG16.out, HG26.out, HB0.out, HR6.out⟩
  case round =>
    obtain ⟨i, hi, rfl, ht, ha1, ha2, ha3, hr⟩ := hrel
    have HT := Lib.hid ht
    have A1 := Lib.hid ha1
    have A2 := Lib.hid ha2
    have HR := Lib.hid hr
    clear ht ha1 ha2 hr HT6 HG16 HG26 HB0 HR6
    by_cases hlt9 : i < 9
    · obtain ⟨r, hrk⟩ : ∃ r, prs[i]? = some r := ⟨_, List.getElem?_eq_getElem (by omega)⟩
      obtain ⟨hgb, hpx, hb0, hb2, hpt⟩ := prs_good r (List.mem_of_getElem? hrk)
      have hstep := bestR_succ ys i r hrk
      have hbl := bestR_px ys i
      generalize hbk : bestR ys (i + 1) = bn at *
      generalize bestR ys i = bs at *
      have A3 := Lib.hid ha3
      have hrow := HR.out i r hrk
      have HRL := Lib.hid (pr_len r hpx.1)
      have hb1 : r.bits ≤ blen true := hb2
      have HCO := Lib.hid (fun w => rcont_any true r.px r.bits ys hpx rfl hb0 hb1 hpt HYO.out rfl w)
      have HL18 := Lib.hid (show (pfx true r.px r.bits).length = 18 by simp [pfx, adr, hpx.1])
      have HBK := Lib.hid hbk
      have HSTEP := Lib.hid hstep
      have HBL := Lib.hid hbl
      have rP : wr.rangeAt g (i * 20) (pfx true r.px r.bits) := by
        intro j v hj
        refine hrow j v ?_
        unfold PR.cells prw
        rw [hgb, List.getElem?_append_left (List.getElem?_eq_some_iff.1 hj).1]
        exact hj
      have crb : wr.cell? ⟨g, i * 20 + 17, none⟩ = some (.int .i64 r.bits) := by
        have := rP 17 (.int .i64 r.bits) (by rw [pfx, List.getElem?_append_right (by simp [adr, hpx.1])]; simp [adr, hpx.1])
        exact this
      have cbb := (prw_rows hbl (range_block ha3)).2
      clear hpx ha3 hpt hbk hbl hstep hgb hb1 hb0 hb2
      by_cases hlt : bs.bits < r.bits
      · by_cases hco : trunc r.bits ys = r.px
        · have HC := Lib.hid (show decide (trunc r.bits ys = r.px) = true by simp [hco])
          have HE := Lib.hid (show stepL ys bs r = r by simp [stepL, hlt, hco])
          clear hco
          go_wp2_with fail
          refine wp_region_held (S := Touch [] wr.drew) (by kernel_rfl) ?_
          change wpAnyH _ _ _ _ _ _ _ _ wr.drew
          have rR : wr.drew.rangeAt g (i * 20) (pfx true r.px r.bits) := rP
          have cr : wr.drew.cell? ⟨g, i * 20 + 17, none⟩ = some (.int .i64 r.bits) := crb
          have cb : wr.drew.cell? ⟨n5, 17, none⟩ = some (.int .i64 bs.bits) := cbb
          have rA : wr.drew.rangeAt w.heap.size 0 (adr true ys) := range_block (w := wr) A1.out
          have rw20 : wr.drew.rangeAt g (i * 20) r.cells := hrow
          have HTd := Lib.hid (HT.out.drew)
          have B1 := Lib.hid (show wr.drew.heap[w.heap.size]? = _ from A1.out)
          have B2 := Lib.hid (show wr.drew.heap[w.heap.size + 1]? = _ from A2.out)
          have B3 := Lib.hid (show wr.drew.heap[n5]? = _ from A3.out)
          have HRd := Lib.hid (show ∀ i r, prs[i]? = some r → wr.drew.rangeAt g (i * 20) r.cells from HR.out)
          clear rP crb cbb hrow HT A1 A2 A3 HR
          generalize wr.drew = W at *
          have hS := Touch.refl [] W
          refine wpAnyH_take (i := 0) (oi := { dst := some 38, op := Op.move (Operand.tmp 4), type := 64, pos := "ref.go:35", after := #[], guard := none }) (v := .slice (some ⟨g, 0, none⟩) 9 c) rfl (by kernel_rfl) (by kernel_rfl) (by kernel_rfl) (fun _ _ _ h => h) (Or.inl ⟨by rfl, fun w' hw => by go_simp⟩) hS ?_
          try simp only [Act.put, List.setIfInBounds_toArray, List.set_cons_zero, List.set_cons_succ]
          refine wpAnyH_take (i := 1) (oi := { dst := some 39, op := Op.move (Operand.tmp 6), type := 3, pos := "ref.go:35", after := #[], guard := none }) (v := .int .i64 (i : Nat)) rfl (by kernel_rfl) (by kernel_rfl) (by kernel_rfl) (fun _ _ _ h => h) (Or.inl ⟨by rfl, fun w' hw => by go_simp⟩) hS ?_
          try simp only [Act.put, List.setIfInBounds_toArray, List.set_cons_zero, List.set_cons_succ]
          refine wpAnyH_take (i := 2) (oi := { dst := some 40, op := Op.indexAddr 64 (Operand.tmp 38) (Operand.tmp 39), type := 0, pos := "ref.go:35", after := #[{ on := 0, ground := Ground.data }, { on := 1, ground := Ground.data }], guard := none }) (v := .pointer (some ⟨g, i * 20, none⟩)) rfl (by kernel_rfl) (by kernel_rfl) (by kernel_rfl) (fun _ _ _ h => h) (Or.inl ⟨by rfl, fun w' hw => by go_simp⟩) hS ?_
          try simp only [Act.put, List.setIfInBounds_toArray, List.set_cons_zero, List.set_cons_succ]
          refine wpAnyH_take (i := 3) (oi := { dst := some 41, op := Op.fieldAddr 54 (Operand.tmp 40) 0, type := 0, pos := "ref.go:35", after := #[{ on := 2, ground := Ground.data }], guard := none }) (v := .pointer (some ⟨g, i * 20, none⟩)) rfl (by kernel_rfl) (by kernel_rfl) (by kernel_rfl) (fun _ _ _ h => h) (Or.inl ⟨by rfl, fun w' hw => by go_simp⟩) hS ?_
          try simp only [Act.put, List.setIfInBounds_toArray, List.set_cons_zero, List.set_cons_succ]
          refine wpAnyH_take (i := 4) (oi := { dst := some 42, op := Op.fieldAddr 52 (Operand.tmp 41) 1, type := 0, pos := "ref.go:35", after := #[{ on := 3, ground := Ground.data }], guard := none }) (v := .pointer (some ⟨g, i * 20 + 17, none⟩)) rfl (by kernel_rfl) (by kernel_rfl) (by kernel_rfl) (fun _ _ _ h => h) (Or.inl ⟨by rfl, fun w' hw => by go_simp⟩) hS ?_
          try simp only [Act.put, List.setIfInBounds_toArray, List.set_cons_zero, List.set_cons_succ]
          refine wpAnyH_take (i := 5) (oi := { dst := some 43, op := Op.load 3 (Operand.tmp 42), type := 3, pos := "ref.go:35", after := #[{ on := 4, ground := Ground.data }], guard := none }) (v := .int .i64 r.bits) rfl (by kernel_rfl) (by kernel_rfl) (by kernel_rfl) (fun _ _ _ h => h) (Or.inl ⟨by rfl, fun w' hw => by (have q := hw.cell cr (by simp); go_simp)⟩) hS ?_
          try simp only [Act.put, List.setIfInBounds_toArray, List.set_cons_zero, List.set_cons_succ]
          refine wpAnyH_take (i := 6) (oi := { dst := some 44, op := Op.fieldAddr 54 (Operand.tmp 5) 0, type := 0, pos := "ref.go:35", after := #[], guard := none }) (v := .pointer (some ⟨n5, 0, none⟩)) rfl (by kernel_rfl) (by kernel_rfl) (by kernel_rfl) (fun _ _ _ h => h) (Or.inl ⟨by rfl, fun w' hw => by go_simp⟩) hS ?_
          try simp only [Act.put, List.setIfInBounds_toArray, List.set_cons_zero, List.set_cons_succ]
          refine wpAnyH_take (i := 7) (oi := { dst := some 45, op := Op.fieldAddr 52 (Operand.tmp 44) 1, type := 0, pos := "ref.go:35", after := #[{ on := 6, ground := Ground.data }], guard := none }) (v := .pointer (some ⟨n5, 17, none⟩)) rfl (by kernel_rfl) (by kernel_rfl) (by kernel_rfl) (fun _ _ _ h => h) (Or.inl ⟨by rfl, fun w' hw => by go_simp⟩) hS ?_
          try simp only [Act.put, List.setIfInBounds_toArray, List.set_cons_zero, List.set_cons_succ]
          refine wpAnyH_take (i := 8) (oi := { dst := some 46, op := Op.load 3 (Operand.tmp 45), type := 3, pos := "ref.go:35", after := #[{ on := 7, ground := Ground.data }], guard := none }) (v := .int .i64 bs.bits) rfl (by kernel_rfl) (by kernel_rfl) (by kernel_rfl) (fun _ _ _ h => h) (Or.inl ⟨by rfl, fun w' hw => by (have q := hw.cell cb (by simp); go_simp)⟩) hS ?_
          try simp only [Act.put, List.setIfInBounds_toArray, List.set_cons_zero, List.set_cons_succ]
          refine wpAnyH_take (i := 9) (oi := { dst := some 47, op := Op.binOp BinOp.gtr 3 (Operand.tmp 43) (Operand.tmp 46) 3, type := 4, pos := "ref.go:35", after := #[{ on := 5, ground := Ground.data }, { on := 8, ground := Ground.data }], guard := none }) (v := .bool true) rfl (by kernel_rfl) (by kernel_rfl) (by kernel_rfl) (fun _ _ _ h => h) (Or.inl ⟨by rfl, fun w' hw => by (have q := hlt; go_simp)⟩) hS ?_
          try simp only [Act.put, List.setIfInBounds_toArray, List.set_cons_zero, List.set_cons_succ]
          refine wpAnyH_take (i := 10) (oi := { dst := some 48, op := Op.move (Operand.tmp 47), type := 4, pos := "ref.go:35", after := #[{ on := 9, ground := Ground.data }], guard := none }) (v := .bool true) rfl (by kernel_rfl) (by kernel_rfl) (by kernel_rfl) (fun _ _ _ h => h) (Or.inl ⟨by rfl, fun w' hw => by go_simp⟩) hS ?_
          try simp only [Act.put, List.setIfInBounds_toArray, List.set_cons_zero, List.set_cons_succ]
          refine wpAnyH_take (i := 11) (oi := { dst := some 49, op := Op.move (Operand.tmp 4), type := 64, pos := "ref.go:35", after := #[{ on := 10, ground := Ground.guard }], guard := some (10, true) }) (v := .slice (some ⟨g, 0, none⟩) 9 c) rfl (by kernel_rfl) (by kernel_rfl) (by kernel_rfl) (fun _ _ _ h => h) (Or.inl ⟨by rfl, fun w' hw => by go_simp⟩) hS ?_
          try simp only [Act.put, List.setIfInBounds_toArray, List.set_cons_zero, List.set_cons_succ]
          refine wpAnyH_take (i := 12) (oi := { dst := some 50, op := Op.move (Operand.tmp 6), type := 3, pos := "ref.go:35", after := #[{ on := 10, ground := Ground.guard }], guard := some (10, true) }) (v := .int .i64 (i : Nat)) rfl (by kernel_rfl) (by kernel_rfl) (by kernel_rfl) (fun _ _ _ h => h) (Or.inl ⟨by rfl, fun w' hw => by go_simp⟩) hS ?_
          try simp only [Act.put, List.setIfInBounds_toArray, List.set_cons_zero, List.set_cons_succ]
          refine wpAnyH_take (i := 13) (oi := { dst := some 51, op := Op.indexAddr 64 (Operand.tmp 49) (Operand.tmp 50), type := 0, pos := "ref.go:35", after := #[{ on := 11, ground := Ground.data }, { on := 12, ground := Ground.data }, { on := 10, ground := Ground.guard }], guard := some (10, true) }) (v := .pointer (some ⟨g, i * 20, none⟩)) rfl (by kernel_rfl) (by kernel_rfl) (by kernel_rfl) (fun _ _ _ h => h) (Or.inl ⟨by rfl, fun w' hw => by go_simp⟩) hS ?_
          try simp only [Act.put, List.setIfInBounds_toArray, List.set_cons_zero, List.set_cons_succ]
          refine wpAnyH_take (i := 14) (oi := { dst := some 52, op := Op.fieldAddr 54 (Operand.tmp 51) 0, type := 0, pos := "ref.go:35", after := #[{ on := 13, ground := Ground.data }, { on := 10, ground := Ground.guard }], guard := some (10, true) }) (v := .pointer (some ⟨g, i * 20, none⟩)) rfl (by kernel_rfl) (by kernel_rfl) (by kernel_rfl) (fun _ _ _ h => h) (Or.inl ⟨by rfl, fun w' hw => by go_simp⟩) hS ?_
          try simp only [Act.put, List.setIfInBounds_toArray, List.set_cons_zero, List.set_cons_succ]
          refine wpAnyH_take (i := 15) (oi := { dst := some 53, op := Op.load 52 (Operand.tmp 52), type := 52, pos := "ref.go:35", after := #[{ on := 14, ground := Ground.data }, { on := 10, ground := Ground.guard }], guard := some (10, true) }) (v := .agg (pfx true r.px r.bits).toArray) rfl (by kernel_rfl) (by kernel_rfl) (by kernel_rfl) (fun _ _ _ h => h) (Or.inl ⟨by rfl, fun w' hw => exec_load_agg _ 52 _ rfl _ _ rfl (pfx true r.px r.bits) _ (hw.range rR (by simp)) Tryd.underlying52 rfl (by rw [sizeP, HL18.out])⟩) hS ?_
          try simp only [Act.put, List.setIfInBounds_toArray, List.set_cons_zero, List.set_cons_succ]
          refine wpAnyH_take (i := 16) (oi := { dst := some 54, op := Op.load 28 (Operand.tmp 1), type := 28, pos := "ref.go:35", after := #[{ on := 10, ground := Ground.guard }], guard := some (10, true) }) (v := .agg (adr true ys).toArray) rfl (by kernel_rfl) (by kernel_rfl) (by kernel_rfl) (fun _ _ _ h => h) (Or.inl ⟨by rfl, fun w' hw => exec_load_agg _ 28 _ rfl _ _ rfl (adr true ys) _ (hw.range rA (by simp)) Tryd.underlying28 rfl (by rw [size31, HYL.out])⟩) hS ?_
          try simp only [Act.put, List.setIfInBounds_toArray, List.set_cons_zero, List.set_cons_succ]
          refine wpAnyH_ready (rs := [17]) (by kernel_rfl) (by simp) ?_
          refine AllReadyH.cons (o := { dst := some 55, op := Op.call { callee := Callee.value (Operand.func 46), args := #[Operand.tmp 53, Operand.tmp 54], argTypes := #[52, 28] }, type := 4, pos := "ref.go:35", after := #[{ on := 15, ground := Ground.data }, { on := 16, ground := Ground.data }, { on := 10, ground := Ground.chain }, { on := 10, ground := Ground.guard }], guard := some (10, true) }) rfl (fun K hK => ?_) AllReadyH.nil
          go_simp
          refine (HCO.out _).mono ?_
          rintro e w17 ⟨he, t17⟩
          rw [HC.out] at he
          subst he
          have hS2 := hS.trans t17 (by simp)
          refine hK.out _ _ hS2 (fun _ => ?_)
          clear hK K hS t17
          have hS := hS2
          clear hS2
          try simp only [Act.put, List.setIfInBounds_toArray, List.set_cons_zero, List.set_cons_succ]
          refine wpAnyH_take (i := 18) (oi := { dst := some 56, op := Op.pick (Operand.tmp 48) (Operand.tmp 55) (Operand.const (Value.bool false)), type := 4, pos := "ref.go:35", after := #[{ on := 10, ground := Ground.data }, { on := 17, ground := Ground.data }], guard := none }) (v := .bool true) rfl (by kernel_rfl) (by kernel_rfl) (by kernel_rfl) (fun _ _ _ h => h) (Or.inl ⟨by rfl, fun w' hw => by go_simp⟩) hS ?_
          try simp only [Act.put, List.setIfInBounds_toArray, List.set_cons_zero, List.set_cons_succ]
          refine wpAnyH_done (by kernel_rfl) ?_ _
          try simp only [Act.put, List.setIfInBounds_toArray, List.set_cons_zero, List.set_cons_succ]
          have R20 := hS.range rw20 (by simp)
          have C1 := Lib.hid (hS.at B1.out (by simp))
          have C2 := Lib.hid (hS.at B2.out (by simp))
          have C3 := Lib.hid (hS.at B3.out (by simp))
          have HTS := Lib.hid hS
          clear hS B1 B2 B3 rw20 rA cb cr rR
          go_wp2_with (first
            | ((with_reducible refine at_load 54 ?_); refine wpList_load_mid rfl 54 _ rfl g (i * 20) rfl r.cells _ R20 Tryd.underlying54 rfl (by rw [sizeR, HRL.out]) ?_)
            | ((with_reducible refine at_store 54 ?_); refine wpList_store_into rfl 54 _ _ rfl n5 54 _ r.cells rfl rfl C3.out (by rw [HRL.out]; simp [pr_len bs HBL.out]) (by rw [sizeR, HRL.out]) (prw_one _ _ _ _ _) ?_))
          intro w9 h9 t9 z9
          go_wp2_with fail
          go_roundw
          case rel =>
            have t89 := (HTS.out.mono (S' := [n5]) (by simp)).trans t9 (by simp)
            refine ⟨i + 1, by omega, by go_num, HTd.out.trans t89 (by intro y hy; right; simp at hy; omega), t9.at C1.out (by simp <;> omega), t9.at C2.out (by simp <;> omega), ?_, ?_⟩
            · rw [HBK.out, HSTEP.out, HE.out]
              exact h9
            · intro i r hx
              exact t89.range (HRd.out i r hx) (by simp <;> omega)
          case measure => simp [intOf]; omega
        · have HC := Lib.hid (show decide (trunc r.bits ys = r.px) = false by simp [hco])
          have HE := Lib.hid (show stepL ys bs r = bs by simp [stepL, hco])
          clear hco
          go_wp2_with fail
          refine wp_region_held (S := Touch [] wr.drew) (by kernel_rfl) ?_
          change wpAnyH _ _ _ _ _ _ _ _ wr.drew
          have rR : wr.drew.rangeAt g (i * 20) (pfx true r.px r.bits) := rP
          have cr : wr.drew.cell? ⟨g, i * 20 + 17, none⟩ = some (.int .i64 r.bits) := crb
          have cb : wr.drew.cell? ⟨n5, 17, none⟩ = some (.int .i64 bs.bits) := cbb
          have rA : wr.drew.rangeAt w.heap.size 0 (adr true ys) := range_block (w := wr) A1.out
          have HTd := Lib.hid (HT.out.drew)
          have B1 := Lib.hid (show wr.drew.heap[w.heap.size]? = _ from A1.out)
          have B2 := Lib.hid (show wr.drew.heap[w.heap.size + 1]? = _ from A2.out)
          have B3 := Lib.hid (show wr.drew.heap[n5]? = _ from A3.out)
          have HRd := Lib.hid (show ∀ i r, prs[i]? = some r → wr.drew.rangeAt g (i * 20) r.cells from HR.out)
          clear rP crb cbb hrow HT A1 A2 A3 HR
          generalize wr.drew = W at *
          have hS := Touch.refl [] W
          refine wpAnyH_take (i := 0) (oi := { dst := some 38, op := Op.move (Operand.tmp 4), type := 64, pos := "ref.go:35", after := #[], guard := none }) (v := .slice (some ⟨g, 0, none⟩) 9 c) rfl (by kernel_rfl) (by kernel_rfl) (by kernel_rfl) (fun _ _ _ h => h) (Or.inl ⟨by rfl, fun w' hw => by go_simp⟩) hS ?_
          try simp only [Act.put, List.setIfInBounds_toArray, List.set_cons_zero, List.set_cons_succ]
          refine wpAnyH_take (i := 1) (oi := { dst := some 39, op := Op.move (Operand.tmp 6), type := 3, pos := "ref.go:35", after := #[], guard := none }) (v := .int .i64 (i : Nat)) rfl (by kernel_rfl) (by kernel_rfl) (by kernel_rfl) (fun _ _ _ h => h) (Or.inl ⟨by rfl, fun w' hw => by go_simp⟩) hS ?_
          try simp only [Act.put, List.setIfInBounds_toArray, List.set_cons_zero, List.set_cons_succ]
          refine wpAnyH_take (i := 2) (oi := { dst := some 40, op := Op.indexAddr 64 (Operand.tmp 38) (Operand.tmp 39), type := 0, pos := "ref.go:35", after := #[{ on := 0, ground := Ground.data }, { on := 1, ground := Ground.data }], guard := none }) (v := .pointer (some ⟨g, i * 20, none⟩)) rfl (by kernel_rfl) (by kernel_rfl) (by kernel_rfl) (fun _ _ _ h => h) (Or.inl ⟨by rfl, fun w' hw => by go_simp⟩) hS ?_
          try simp only [Act.put, List.setIfInBounds_toArray, List.set_cons_zero, List.set_cons_succ]
          refine wpAnyH_take (i := 3) (oi := { dst := some 41, op := Op.fieldAddr 54 (Operand.tmp 40) 0, type := 0, pos := "ref.go:35", after := #[{ on := 2, ground := Ground.data }], guard := none }) (v := .pointer (some ⟨g, i * 20, none⟩)) rfl (by kernel_rfl) (by kernel_rfl) (by kernel_rfl) (fun _ _ _ h => h) (Or.inl ⟨by rfl, fun w' hw => by go_simp⟩) hS ?_
          try simp only [Act.put, List.setIfInBounds_toArray, List.set_cons_zero, List.set_cons_succ]
          refine wpAnyH_take (i := 4) (oi := { dst := some 42, op := Op.fieldAddr 52 (Operand.tmp 41) 1, type := 0, pos := "ref.go:35", after := #[{ on := 3, ground := Ground.data }], guard := none }) (v := .pointer (some ⟨g, i * 20 + 17, none⟩)) rfl (by kernel_rfl) (by kernel_rfl) (by kernel_rfl) (fun _ _ _ h => h) (Or.inl ⟨by rfl, fun w' hw => by go_simp⟩) hS ?_
          try simp only [Act.put, List.setIfInBounds_toArray, List.set_cons_zero, List.set_cons_succ]
          refine wpAnyH_take (i := 5) (oi := { dst := some 43, op := Op.load 3 (Operand.tmp 42), type := 3, pos := "ref.go:35", after := #[{ on := 4, ground := Ground.data }], guard := none }) (v := .int .i64 r.bits) rfl (by kernel_rfl) (by kernel_rfl) (by kernel_rfl) (fun _ _ _ h => h) (Or.inl ⟨by rfl, fun w' hw => by (have q := hw.cell cr (by simp); go_simp)⟩) hS ?_
          try simp only [Act.put, List.setIfInBounds_toArray, List.set_cons_zero, List.set_cons_succ]
          refine wpAnyH_take (i := 6) (oi := { dst := some 44, op := Op.fieldAddr 54 (Operand.tmp 5) 0, type := 0, pos := "ref.go:35", after := #[], guard := none }) (v := .pointer (some ⟨n5, 0, none⟩)) rfl (by kernel_rfl) (by kernel_rfl) (by kernel_rfl) (fun _ _ _ h => h) (Or.inl ⟨by rfl, fun w' hw => by go_simp⟩) hS ?_
          try simp only [Act.put, List.setIfInBounds_toArray, List.set_cons_zero, List.set_cons_succ]
          refine wpAnyH_take (i := 7) (oi := { dst := some 45, op := Op.fieldAddr 52 (Operand.tmp 44) 1, type := 0, pos := "ref.go:35", after := #[{ on := 6, ground := Ground.data }], guard := none }) (v := .pointer (some ⟨n5, 17, none⟩)) rfl (by kernel_rfl) (by kernel_rfl) (by kernel_rfl) (fun _ _ _ h => h) (Or.inl ⟨by rfl, fun w' hw => by go_simp⟩) hS ?_
          try simp only [Act.put, List.setIfInBounds_toArray, List.set_cons_zero, List.set_cons_succ]
          refine wpAnyH_take (i := 8) (oi := { dst := some 46, op := Op.load 3 (Operand.tmp 45), type := 3, pos := "ref.go:35", after := #[{ on := 7, ground := Ground.data }], guard := none }) (v := .int .i64 bs.bits) rfl (by kernel_rfl) (by kernel_rfl) (by kernel_rfl) (fun _ _ _ h => h) (Or.inl ⟨by rfl, fun w' hw => by (have q := hw.cell cb (by simp); go_simp)⟩) hS ?_
          try simp only [Act.put, List.setIfInBounds_toArray, List.set_cons_zero, List.set_cons_succ]
          refine wpAnyH_take (i := 9) (oi := { dst := some 47, op := Op.binOp BinOp.gtr 3 (Operand.tmp 43) (Operand.tmp 46) 3, type := 4, pos := "ref.go:35", after := #[{ on := 5, ground := Ground.data }, { on := 8, ground := Ground.data }], guard := none }) (v := .bool true) rfl (by kernel_rfl) (by kernel_rfl) (by kernel_rfl) (fun _ _ _ h => h) (Or.inl ⟨by rfl, fun w' hw => by (have q := hlt; go_simp)⟩) hS ?_
          try simp only [Act.put, List.setIfInBounds_toArray, List.set_cons_zero, List.set_cons_succ]
          refine wpAnyH_take (i := 10) (oi := { dst := some 48, op := Op.move (Operand.tmp 47), type := 4, pos := "ref.go:35", after := #[{ on := 9, ground := Ground.data }], guard := none }) (v := .bool true) rfl (by kernel_rfl) (by kernel_rfl) (by kernel_rfl) (fun _ _ _ h => h) (Or.inl ⟨by rfl, fun w' hw => by go_simp⟩) hS ?_
          try simp only [Act.put, List.setIfInBounds_toArray, List.set_cons_zero, List.set_cons_succ]
          refine wpAnyH_take (i := 11) (oi := { dst := some 49, op := Op.move (Operand.tmp 4), type := 64, pos := "ref.go:35", after := #[{ on := 10, ground := Ground.guard }], guard := some (10, true) }) (v := .slice (some ⟨g, 0, none⟩) 9 c) rfl (by kernel_rfl) (by kernel_rfl) (by kernel_rfl) (fun _ _ _ h => h) (Or.inl ⟨by rfl, fun w' hw => by go_simp⟩) hS ?_
          try simp only [Act.put, List.setIfInBounds_toArray, List.set_cons_zero, List.set_cons_succ]
          refine wpAnyH_take (i := 12) (oi := { dst := some 50, op := Op.move (Operand.tmp 6), type := 3, pos := "ref.go:35", after := #[{ on := 10, ground := Ground.guard }], guard := some (10, true) }) (v := .int .i64 (i : Nat)) rfl (by kernel_rfl) (by kernel_rfl) (by kernel_rfl) (fun _ _ _ h => h) (Or.inl ⟨by rfl, fun w' hw => by go_simp⟩) hS ?_
          try simp only [Act.put, List.setIfInBounds_toArray, List.set_cons_zero, List.set_cons_succ]
          refine wpAnyH_take (i := 13) (oi := { dst := some 51, op := Op.indexAddr 64 (Operand.tmp 49) (Operand.tmp 50), type := 0, pos := "ref.go:35", after := #[{ on := 11, ground := Ground.data }, { on := 12, ground := Ground.data }, { on := 10, ground := Ground.guard }], guard := some (10, true) }) (v := .pointer (some ⟨g, i * 20, none⟩)) rfl (by kernel_rfl) (by kernel_rfl) (by kernel_rfl) (fun _ _ _ h => h) (Or.inl ⟨by rfl, fun w' hw => by go_simp⟩) hS ?_
          try simp only [Act.put, List.setIfInBounds_toArray, List.set_cons_zero, List.set_cons_succ]
          refine wpAnyH_take (i := 14) (oi := { dst := some 52, op := Op.fieldAddr 54 (Operand.tmp 51) 0, type := 0, pos := "ref.go:35", after := #[{ on := 13, ground := Ground.data }, { on := 10, ground := Ground.guard }], guard := some (10, true) }) (v := .pointer (some ⟨g, i * 20, none⟩)) rfl (by kernel_rfl) (by kernel_rfl) (by kernel_rfl) (fun _ _ _ h => h) (Or.inl ⟨by rfl, fun w' hw => by go_simp⟩) hS ?_
          try simp only [Act.put, List.setIfInBounds_toArray, List.set_cons_zero, List.set_cons_succ]
          refine wpAnyH_take (i := 15) (oi := { dst := some 53, op := Op.load 52 (Operand.tmp 52), type := 52, pos := "ref.go:35", after := #[{ on := 14, ground := Ground.data }, { on := 10, ground := Ground.guard }], guard := some (10, true) }) (v := .agg (pfx true r.px r.bits).toArray) rfl (by kernel_rfl) (by kernel_rfl) (by kernel_rfl) (fun _ _ _ h => h) (Or.inl ⟨by rfl, fun w' hw => exec_load_agg _ 52 _ rfl _ _ rfl (pfx true r.px r.bits) _ (hw.range rR (by simp)) Tryd.underlying52 rfl (by rw [sizeP, HL18.out])⟩) hS ?_
          try simp only [Act.put, List.setIfInBounds_toArray, List.set_cons_zero, List.set_cons_succ]
          refine wpAnyH_take (i := 16) (oi := { dst := some 54, op := Op.load 28 (Operand.tmp 1), type := 28, pos := "ref.go:35", after := #[{ on := 10, ground := Ground.guard }], guard := some (10, true) }) (v := .agg (adr true ys).toArray) rfl (by kernel_rfl) (by kernel_rfl) (by kernel_rfl) (fun _ _ _ h => h) (Or.inl ⟨by rfl, fun w' hw => exec_load_agg _ 28 _ rfl _ _ rfl (adr true ys) _ (hw.range rA (by simp)) Tryd.underlying28 rfl (by rw [size31, HYL.out])⟩) hS ?_
          try simp only [Act.put, List.setIfInBounds_toArray, List.set_cons_zero, List.set_cons_succ]
          refine wpAnyH_ready (rs := [17]) (by kernel_rfl) (by simp) ?_
          refine AllReadyH.cons (o := { dst := some 55, op := Op.call { callee := Callee.value (Operand.func 46), args := #[Operand.tmp 53, Operand.tmp 54], argTypes := #[52, 28] }, type := 4, pos := "ref.go:35", after := #[{ on := 15, ground := Ground.data }, { on := 16, ground := Ground.data }, { on := 10, ground := Ground.chain }, { on := 10, ground := Ground.guard }], guard := some (10, true) }) rfl (fun K hK => ?_) AllReadyH.nil
          go_simp
          refine (HCO.out _).mono ?_
          rintro e w17 ⟨he, t17⟩
          rw [HC.out] at he
          subst he
          have hS2 := hS.trans t17 (by simp)
          refine hK.out _ _ hS2 (fun _ => ?_)
          clear hK K hS t17
          have hS := hS2
          clear hS2
          try simp only [Act.put, List.setIfInBounds_toArray, List.set_cons_zero, List.set_cons_succ]
          refine wpAnyH_take (i := 18) (oi := { dst := some 56, op := Op.pick (Operand.tmp 48) (Operand.tmp 55) (Operand.const (Value.bool false)), type := 4, pos := "ref.go:35", after := #[{ on := 10, ground := Ground.data }, { on := 17, ground := Ground.data }], guard := none }) (v := .bool false) rfl (by kernel_rfl) (by kernel_rfl) (by kernel_rfl) (fun _ _ _ h => h) (Or.inl ⟨by rfl, fun w' hw => by go_simp⟩) hS ?_
          try simp only [Act.put, List.setIfInBounds_toArray, List.set_cons_zero, List.set_cons_succ]
          refine wpAnyH_done (by kernel_rfl) ?_ _
          try simp only [Act.put, List.setIfInBounds_toArray, List.set_cons_zero, List.set_cons_succ]
          go_wp2_with fail
          go_roundw
          case rel =>
            refine ⟨i + 1, by omega, by go_num, HTd.out.trans hS (by simp), hS.at B1.out (by simp), hS.at B2.out (by simp), ?_, ?_⟩
            · rw [HBK.out, HSTEP.out, HE.out]
              exact hS.at B3.out (by simp)
            · intro i r hx
              exact hS.range (HRd.out i r hx) (by simp)
          case measure => simp [intOf]; omega
      · have HE := Lib.hid (show stepL ys bs r = bs by simp [stepL, hlt])
        go_wp2_with fail
        refine wp_region_held (S := Touch [] wr.drew) (by kernel_rfl) ?_
        change wpAnyH _ _ _ _ _ _ _ _ wr.drew
        have cr : wr.drew.cell? ⟨g, i * 20 + 17, none⟩ = some (.int .i64 r.bits) := crb
        have cb : wr.drew.cell? ⟨n5, 17, none⟩ = some (.int .i64 bs.bits) := cbb
        have HTd := Lib.hid (HT.out.drew)
        have B1 := Lib.hid (show wr.drew.heap[w.heap.size]? = _ from A1.out)
        have B2 := Lib.hid (show wr.drew.heap[w.heap.size + 1]? = _ from A2.out)
        have B3 := Lib.hid (show wr.drew.heap[n5]? = _ from A3.out)
        have HRd := Lib.hid (show ∀ i r, prs[i]? = some r → wr.drew.rangeAt g (i * 20) r.cells from HR.out)
        clear rP crb cbb hrow HT A1 A2 A3 HR
        generalize wr.drew = W at *
        have hS := Touch.refl [] W
        refine wpAnyH_take (i := 0) (oi := { dst := some 38, op := Op.move (Operand.tmp 4), type := 64, pos := "ref.go:35", after := #[], guard := none }) (v := .slice (some ⟨g, 0, none⟩) 9 c) rfl (by kernel_rfl) (by kernel_rfl) (by kernel_rfl) (fun _ _ _ h => h) (Or.inl ⟨by rfl, fun w' hw => by go_simp⟩) hS ?_
        try simp only [Act.put, List.setIfInBounds_toArray, List.set_cons_zero, List.set_cons_succ]
        refine wpAnyH_take (i := 1) (oi := { dst := some 39, op := Op.move (Operand.tmp 6), type := 3, pos := "ref.go:35", after := #[], guard := none }) (v := .int .i64 (i : Nat)) rfl (by kernel_rfl) (by kernel_rfl) (by kernel_rfl) (fun _ _ _ h => h) (Or.inl ⟨by rfl, fun w' hw => by go_simp⟩) hS ?_
        try simp only [Act.put, List.setIfInBounds_toArray, List.set_cons_zero, List.set_cons_succ]
        refine wpAnyH_take (i := 2) (oi := { dst := some 40, op := Op.indexAddr 64 (Operand.tmp 38) (Operand.tmp 39), type := 0, pos := "ref.go:35", after := #[{ on := 0, ground := Ground.data }, { on := 1, ground := Ground.data }], guard := none }) (v := .pointer (some ⟨g, i * 20, none⟩)) rfl (by kernel_rfl) (by kernel_rfl) (by kernel_rfl) (fun _ _ _ h => h) (Or.inl ⟨by rfl, fun w' hw => by go_simp⟩) hS ?_
        try simp only [Act.put, List.setIfInBounds_toArray, List.set_cons_zero, List.set_cons_succ]
        refine wpAnyH_take (i := 3) (oi := { dst := some 41, op := Op.fieldAddr 54 (Operand.tmp 40) 0, type := 0, pos := "ref.go:35", after := #[{ on := 2, ground := Ground.data }], guard := none }) (v := .pointer (some ⟨g, i * 20, none⟩)) rfl (by kernel_rfl) (by kernel_rfl) (by kernel_rfl) (fun _ _ _ h => h) (Or.inl ⟨by rfl, fun w' hw => by go_simp⟩) hS ?_
        try simp only [Act.put, List.setIfInBounds_toArray, List.set_cons_zero, List.set_cons_succ]
        refine wpAnyH_take (i := 4) (oi := { dst := some 42, op := Op.fieldAddr 52 (Operand.tmp 41) 1, type := 0, pos := "ref.go:35", after := #[{ on := 3, ground := Ground.data }], guard := none }) (v := .pointer (some ⟨g, i * 20 + 17, none⟩)) rfl (by kernel_rfl) (by kernel_rfl) (by kernel_rfl) (fun _ _ _ h => h) (Or.inl ⟨by rfl, fun w' hw => by go_simp⟩) hS ?_
        try simp only [Act.put, List.setIfInBounds_toArray, List.set_cons_zero, List.set_cons_succ]
        refine wpAnyH_take (i := 5) (oi := { dst := some 43, op := Op.load 3 (Operand.tmp 42), type := 3, pos := "ref.go:35", after := #[{ on := 4, ground := Ground.data }], guard := none }) (v := .int .i64 r.bits) rfl (by kernel_rfl) (by kernel_rfl) (by kernel_rfl) (fun _ _ _ h => h) (Or.inl ⟨by rfl, fun w' hw => by (have q := hw.cell cr (by simp); go_simp)⟩) hS ?_
        try simp only [Act.put, List.setIfInBounds_toArray, List.set_cons_zero, List.set_cons_succ]
        refine wpAnyH_take (i := 6) (oi := { dst := some 44, op := Op.fieldAddr 54 (Operand.tmp 5) 0, type := 0, pos := "ref.go:35", after := #[], guard := none }) (v := .pointer (some ⟨n5, 0, none⟩)) rfl (by kernel_rfl) (by kernel_rfl) (by kernel_rfl) (fun _ _ _ h => h) (Or.inl ⟨by rfl, fun w' hw => by go_simp⟩) hS ?_
        try simp only [Act.put, List.setIfInBounds_toArray, List.set_cons_zero, List.set_cons_succ]
        refine wpAnyH_take (i := 7) (oi := { dst := some 45, op := Op.fieldAddr 52 (Operand.tmp 44) 1, type := 0, pos := "ref.go:35", after := #[{ on := 6, ground := Ground.data }], guard := none }) (v := .pointer (some ⟨n5, 17, none⟩)) rfl (by kernel_rfl) (by kernel_rfl) (by kernel_rfl) (fun _ _ _ h => h) (Or.inl ⟨by rfl, fun w' hw => by go_simp⟩) hS ?_
        try simp only [Act.put, List.setIfInBounds_toArray, List.set_cons_zero, List.set_cons_succ]
        refine wpAnyH_take (i := 8) (oi := { dst := some 46, op := Op.load 3 (Operand.tmp 45), type := 3, pos := "ref.go:35", after := #[{ on := 7, ground := Ground.data }], guard := none }) (v := .int .i64 bs.bits) rfl (by kernel_rfl) (by kernel_rfl) (by kernel_rfl) (fun _ _ _ h => h) (Or.inl ⟨by rfl, fun w' hw => by (have q := hw.cell cb (by simp); go_simp)⟩) hS ?_
        try simp only [Act.put, List.setIfInBounds_toArray, List.set_cons_zero, List.set_cons_succ]
        refine wpAnyH_take (i := 9) (oi := { dst := some 47, op := Op.binOp BinOp.gtr 3 (Operand.tmp 43) (Operand.tmp 46) 3, type := 4, pos := "ref.go:35", after := #[{ on := 5, ground := Ground.data }, { on := 8, ground := Ground.data }], guard := none }) (v := .bool false) rfl (by kernel_rfl) (by kernel_rfl) (by kernel_rfl) (fun _ _ _ h => h) (Or.inl ⟨by rfl, fun w' hw => by (have q := hlt; go_simp)⟩) hS ?_
        try simp only [Act.put, List.setIfInBounds_toArray, List.set_cons_zero, List.set_cons_succ]
        refine wpAnyH_take (i := 10) (oi := { dst := some 48, op := Op.move (Operand.tmp 47), type := 4, pos := "ref.go:35", after := #[{ on := 9, ground := Ground.data }], guard := none }) (v := .bool false) rfl (by kernel_rfl) (by kernel_rfl) (by kernel_rfl) (fun _ _ _ h => h) (Or.inl ⟨by rfl, fun w' hw => by go_simp⟩) hS ?_
        try simp only [Act.put, List.setIfInBounds_toArray, List.set_cons_zero, List.set_cons_succ]
        refine wpAnyH_take (i := 11) (oi := { dst := some 49, op := Op.move (Operand.tmp 4), type := 64, pos := "ref.go:35", after := #[{ on := 10, ground := Ground.guard }], guard := some (10, true) }) (v := undef) rfl (by kernel_rfl) (by kernel_rfl) (by kernel_rfl) (fun _ _ _ h => h) (Or.inr ⟨by rfl, rfl⟩) hS ?_
        try simp only [Act.put, List.setIfInBounds_toArray, List.set_cons_zero, List.set_cons_succ]
        refine wpAnyH_take (i := 12) (oi := { dst := some 50, op := Op.move (Operand.tmp 6), type := 3, pos := "ref.go:35", after := #[{ on := 10, ground := Ground.guard }], guard := some (10, true) }) (v := undef) rfl (by kernel_rfl) (by kernel_rfl) (by kernel_rfl) (fun _ _ _ h => h) (Or.inr ⟨by rfl, rfl⟩) hS ?_
        try simp only [Act.put, List.setIfInBounds_toArray, List.set_cons_zero, List.set_cons_succ]
        refine wpAnyH_take (i := 13) (oi := { dst := some 51, op := Op.indexAddr 64 (Operand.tmp 49) (Operand.tmp 50), type := 0, pos := "ref.go:35", after := #[{ on := 11, ground := Ground.data }, { on := 12, ground := Ground.data }, { on := 10, ground := Ground.guard }], guard := some (10, true) }) (v := undef) rfl (by kernel_rfl) (by kernel_rfl) (by kernel_rfl) (fun _ _ _ h => h) (Or.inr ⟨by rfl, rfl⟩) hS ?_
        try simp only [Act.put, List.setIfInBounds_toArray, List.set_cons_zero, List.set_cons_succ]
        refine wpAnyH_take (i := 14) (oi := { dst := some 52, op := Op.fieldAddr 54 (Operand.tmp 51) 0, type := 0, pos := "ref.go:35", after := #[{ on := 13, ground := Ground.data }, { on := 10, ground := Ground.guard }], guard := some (10, true) }) (v := undef) rfl (by kernel_rfl) (by kernel_rfl) (by kernel_rfl) (fun _ _ _ h => h) (Or.inr ⟨by rfl, rfl⟩) hS ?_
        try simp only [Act.put, List.setIfInBounds_toArray, List.set_cons_zero, List.set_cons_succ]
        refine wpAnyH_take (i := 15) (oi := { dst := some 53, op := Op.load 52 (Operand.tmp 52), type := 52, pos := "ref.go:35", after := #[{ on := 14, ground := Ground.data }, { on := 10, ground := Ground.guard }], guard := some (10, true) }) (v := undef) rfl (by kernel_rfl) (by kernel_rfl) (by kernel_rfl) (fun _ _ _ h => h) (Or.inr ⟨by rfl, rfl⟩) hS ?_
        try simp only [Act.put, List.setIfInBounds_toArray, List.set_cons_zero, List.set_cons_succ]
        refine wpAnyH_take (i := 16) (oi := { dst := some 54, op := Op.load 28 (Operand.tmp 1), type := 28, pos := "ref.go:35", after := #[{ on := 10, ground := Ground.guard }], guard := some (10, true) }) (v := undef) rfl (by kernel_rfl) (by kernel_rfl) (by kernel_rfl) (fun _ _ _ h => h) (Or.inr ⟨by rfl, rfl⟩) hS ?_
        try simp only [Act.put, List.setIfInBounds_toArray, List.set_cons_zero, List.set_cons_succ]
        refine wpAnyH_take (i := 17) (oi := { dst := some 55, op := Op.call { callee := Callee.value (Operand.func 46), args := #[Operand.tmp 53, Operand.tmp 54], argTypes := #[52, 28] }, type := 4, pos := "ref.go:35", after := #[{ on := 15, ground := Ground.data }, { on := 16, ground := Ground.data }, { on := 10, ground := Ground.chain }, { on := 10, ground := Ground.guard }], guard := some (10, true) }) (v := undef) rfl (by kernel_rfl) (by kernel_rfl) (by kernel_rfl) (fun _ _ _ h => h) (Or.inr ⟨by rfl, rfl⟩) hS ?_
        try simp only [Act.put, List.setIfInBounds_toArray, List.set_cons_zero, List.set_cons_succ]
        refine wpAnyH_take (i := 18) (oi := { dst := some 56, op := Op.pick (Operand.tmp 48) (Operand.tmp 55) (Operand.const (Value.bool false)), type := 4, pos := "ref.go:35", after := #[{ on := 10, ground := Ground.data }, { on := 17, ground := Ground.data }], guard := none }) (v := .bool false) rfl (by kernel_rfl) (by kernel_rfl) (by kernel_rfl) (fun _ _ _ h => h) (Or.inl ⟨by rfl, fun w' hw => by go_simp⟩) hS ?_
        try simp only [Act.put, List.setIfInBounds_toArray, List.set_cons_zero, List.set_cons_succ]
        refine wpAnyH_done (by kernel_rfl) ?_ _
        try simp only [Act.put, List.setIfInBounds_toArray, List.set_cons_zero, List.set_cons_succ]
        go_wp2_with fail
        go_roundw
        case rel =>
          refine ⟨i + 1, by omega, by go_num, HTd.out.trans hS (by simp), hS.at B1.out (by simp), hS.at B2.out (by simp), ?_, ?_⟩
          · rw [HBK.out, HSTEP.out, HE.out]
            exact hS.at B3.out (by simp)
          · intro i r hx
            exact hS.range (HRd.out i r hx) (by simp)
        case measure => simp [intOf]; omega
    · have hie : i = 9 := by omega
      subst hie
      have hbl := bestR_px ys 9
      generalize hbk : bestR ys 9 = bs at *
      have HBK := Lib.hid hbk
      have HRL := Lib.hid (pr_len bs hbl)
      have R3 := range_block ha3
      clear hbk hbl ha3
      go_wp2_with (first
        | ((with_reducible refine at_load 54 ?_); refine wpList_load_mid rfl 54 _ rfl n5 0 rfl bs.cells _ R3 Tryd.underlying54 rfl (by rw [sizeR, HRL.out]) ?_)
        | ((with_reducible refine at_store 54 ?_); refine wpList_store_into rfl 54 _ _ rfl (w.heap.size + 1) 54 _ bs.cells rfl rfl A2.out (by rw [HRL.out]; rfl) (by rw [sizeR, HRL.out]) (prw_one _ _ _ _ _) ?_))
      intro w5 h5 t5 z5
      go_wp2_with fail
      exact ret_row_tmp rfl sizeR Tryd.underlying54 rfl HRL.out rfl rfl h5 ⟨by rw [HYS.out, HBK.out]; rfl, HT.out.trans t5 (by intro y hy; right; simp at hy; omega)⟩
end Go.Proofs.YtecaakgpogabjaaDoor

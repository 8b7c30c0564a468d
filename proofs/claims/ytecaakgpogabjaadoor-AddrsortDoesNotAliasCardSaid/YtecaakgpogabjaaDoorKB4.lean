/-
  Merged texts: La, Pg, Ph, Pj, Vr, Pp, Hp.
-/
import Derived.Test.YtecaakgpogabjaaDoorKB3

/-
  The contracts of lookup and Precedence.
-/
namespace Go.Proofs.YtecaakgpogabjaaDoor
open Go.RowKit
set_option linter.unusedVariables false
set_option linter.unusedSimpArgs false

/-- A row of the table. -/
structure PR where
  b : Bool
  px : List Int
  bits : Int
  prec : Int
  label : Int
def PR.cells (r : PR) : List Value := prw r.b r.px r.bits r.prec r.label
def polR (r : Pol) : PR := ⟨true, r.px, r.bits, r.prec, r.label⟩
def pr0 : PR := ⟨false, List.replicate 16 0, -1, -1, -1⟩
def prs : List PR := pols.map polR
theorem prs_cells : pols.map Pol.cells = prs.map PR.cells := by simp [prs, PR.cells, polR, Pol.cells]
def PR.good (r : PR) : Prop := r.b = true ∧ okB r.px ∧ 0 ≤ r.bits ∧ r.bits ≤ 128 ∧ trunc r.bits r.px = r.px
theorem prs_good : ∀ r ∈ prs, r.good := by
  have h : ∀ r ∈ prs, r.b = true ∧ (r.px.length = 16 ∧ (r.px.all fun x => decide (0 ≤ x ∧ x ≤ 255)) = true) ∧ 0 ≤ r.bits ∧ r.bits ≤ 128 ∧ trunc r.bits r.px = r.px := by decide
  intro r hr
  obtain ⟨h1, ⟨h2, h3⟩, h4⟩ := h r hr
  refine ⟨h1, ⟨h2, fun x hx => ?_⟩, h4⟩
  have := List.all_eq_true.1 h3 x hx
  simpa using this
def stepL (ys : List Int) (best r : PR) : PR := if best.bits < r.bits ∧ trunc r.bits ys = r.px then r else best
def bestL (ys : List Int) (k : Nat) : PR := (prs.take k).foldl (stepL ys) pr0
theorem bestL_succ (ys : List Int) (k : Nat) (r : PR) (h : prs[k]? = some r) : bestL ys (k + 1) = stepL ys (bestL ys k) r := by
  unfold bestL
  rw [List.take_add_one, h, List.foldl_append]
  rfl
theorem bestL_px (ys : List Int) (k : Nat) : (bestL ys k).px.length = 16 := by
  induction k with
  | zero => rfl
  | succ k ih =>
    cases h : prs[k]? with
    | none =>
      have : bestL ys (k + 1) = bestL ys k := by
        unfold bestL
        rw [List.take_add_one, h]
        simp
      rw [this]
      exact ih
    | some r =>
      rw [bestL_succ ys k r h]
      unfold stepL
      split
      · exact (prs_good r (List.mem_of_getElem? h)).2.1.1
      · exact ih
def lookP (b : Bool) (xs : List Int) : PR := if vld b xs then bestL (map6 b xs) 9 else pr0
theorem pr_len (r : PR) (h : r.px.length = 16) : r.cells.length = 20 := by simp [PR.cells, prw, pfx, adr, h]
theorem prw_rows {w : World} {g : Nat} {r : PR} (hl : r.px.length = 16) (h : w.rangeAt g 0 r.cells) : w.rangeAt g 0 (pfx r.b r.px r.bits) ∧ w.cell? ⟨g, 17, none⟩ = some (.int .i64 r.bits) := by
  have h1 : w.rangeAt g 0 (pfx r.b r.px r.bits) := by
    intro j v hj
    refine h j v ?_
    unfold PR.cells prw
    rw [List.getElem?_append_left (List.getElem?_eq_some_iff.1 hj).1]
    exact hj
  exact ⟨h1, (pfx_rows hl h1).2.2⟩
set_option maxRecDepth 100000 in
theorem built_none : Tryd.prog.built 52 [(1, .int .i64 (-1))] = some (pfx false (List.replicate 16 0) (-1)).toArray := by kernel_rfl
set_option maxRecDepth 100000 in
theorem pr0_form : ∃ zs, zs.length = 16 ∧ Tryd.prog.built 52 [(1, .int .i64 (-1))] = some (pfx false zs (-1)).toArray ∧ pr0 = ⟨false, zs, -1, -1, -1⟩ := ⟨List.replicate 16 0, by simp, built_none, rfl⟩
theorem three (w : World) (A B C : Obj) : Touch [] w (((w.alloc A).alloc B).alloc C) ∧ (((w.alloc A).alloc B).alloc C).heap[w.heap.size]? = some A ∧ (((w.alloc A).alloc B).alloc C).heap[w.heap.size + 1]? = some B ∧ (((w.alloc A).alloc B).alloc C).heap[w.heap.size + 1 + 1]? = some C := by
  have g3 := heap_alloc_new ((w.alloc A).alloc B) C
  have hz3 : ((w.alloc A).alloc B).heap.size = w.heap.size + 1 + 1 := by simp
  rw [hz3] at g3
  exact ⟨(((Touch.refl [] w).alloc A).alloc B).alloc C, (((Touch.refl [] (w.alloc A)).alloc B).alloc C).at (heap_alloc_new w A) (by simp), ((Touch.refl [] ((w.alloc A).alloc B)).alloc C).at (heap_alloc2_new w A B) (by simp), g3⟩
set_option maxRecDepth 100000 in
set_option maxHeartbeats 4000000 in
theorem look_bad (b : Bool) (xs : List Int) (h : okB xs) (hv : vld b xs = false) (w : World) :
    Calls Tryd.prog 42 #[.agg (adr b xs).toArray] w fun e w' => e = .returned (.agg pr0.cells.toArray) ∧ Touch [] w w' := by
  obtain ⟨zs, hzl, hbn, hp0⟩ := pr0_form
  obtain ⟨g0, g1, g2, g3⟩ := three w (.cells (adr b xs).toArray 28) (.cells (prw false (List.replicate 16 0) 0 0 0).toArray 54) (.cells (prw false (List.replicate 16 0) 0 0 0).toArray 54)
  have hl17 : (adr b xs).length = 17 := by simp [adr, h.1]
  have hl20 : (prw false zs (-1) (-1) (-1)).length = 20 := by simp [prw, pfx, adr, hzl]
  have HL17 := Lib.hid hl17
  have HL20 := Lib.hid hl20
  have HZ := Lib.hid hzl
  have HBN := Lib.hid hbn
  have HT := Lib.hid g0
  have HG1 := Lib.hid g1
  have HG2 := Lib.hid g2
  have HG3 := Lib.hid g3
  have HV := Lib.hid hv
  have HP0 := Lib.hid hp0
  have HVA := Lib.hid (ipvalid_any b xs h)
  clear g0 g1 g2 g3 hl17 hl20 h hv hzl hbn hp0
  go_enter Tryd.func42, Tryd.ntmps42
  go_wp2_with (first
    | (refine wpList_built (by rfl) 52 _ (by rfl) _ _ (by rfl) HBN.out ?_)
    | (refine wpList_built (by rfl) 54 _ (by rfl) _ _ (by rfl) (built_prw false zs (-1) (-1) (-1) HZ.out) ?_)
    | (refine wpList_store_into rfl 54 _ _ rfl (w.heap.size + 1 + 1) 54 _ (prw false zs (-1) (-1) (-1)) rfl rfl HG3.out (by rw [HL20.out]; rfl) (by rw [sizeR, HL20.out]) (prw_one _ _ _ _ _) ?_))
  intro W1 h1 t1 z1
  have HT1 := Lib.hid (HT.out.trans t1 (by intro y hy; right; simp at hy; omega))
  have HG21 := Lib.hid (t1.at HG2.out (by simp <;> omega))
  have R1 := (range_block (t1.at HG1.out (by simp <;> omega)))
  have HG31 := Lib.hid h1
  clear h1 t1 z1 HT HG1 HG2 HG3
  go_wp2_with (first
    | (refine wpList_load_mid rfl 28 _ rfl w.heap.size 0 rfl (adr b xs) _ R1 Tryd.underlying28 rfl (by rw [size31, HL17.out]) ?_))
  refine (HVA.out _).mono ?_
  rintro e w4 ⟨he, t4⟩
  rw [HV.out] at he
  subst he
  have HT4 := Lib.hid (HT1.out.trans t4 (by simp))
  have HG24 := Lib.hid (t4.at HG21.out (by simp <;> omega))
  have R3 := (range_block (t4.at HG31.out (by simp <;> omega)))
  clear t4 HG21 HG31 R1 HT1
  go_wp2_with (first
    | (refine wpList_load_mid rfl 54 _ rfl (w.heap.size + 1 + 1) 0 rfl (prw false zs (-1) (-1) (-1)) _ R3 Tryd.underlying54 rfl (by rw [sizeR, HL20.out]) ?_)
    | (refine wpList_store_into rfl 54 _ _ rfl (w.heap.size + 1) 54 _ (prw false zs (-1) (-1) (-1)) rfl rfl HG24.out (by rw [HL20.out]; rfl) (by rw [sizeR, HL20.out]) (prw_one _ _ _ _ _) ?_))
  intro w5 h5 t5 z5
  go_wp2_with fail
  exact ret_row rfl sizeR Tryd.underlying54 rfl HL20.out rfl h5 ⟨by rw [HP0.out]; rfl, HT4.out.trans t5 (by simp)⟩
set_option maxRecDepth 100000 in
set_option maxHeartbeats 4000000 in
theorem look_good (b : Bool) (xs : List Int) (h : okB xs) (hv : vld b xs = true) (w : World) :
    Calls Tryd.prog 42 #[.agg (adr b xs).toArray] w fun e w' => e = .returned (.agg (bestL (map6 b xs) 9).cells.toArray) ∧ Touch [] w w' := by
  obtain ⟨zs, hzl, hbn, hp0⟩ := pr0_form
  obtain ⟨g0, g1, g2, g3⟩ := three w (.cells (adr b xs).toArray 28) (.cells (prw false (List.replicate 16 0) 0 0 0).toArray 54) (.cells (prw false (List.replicate 16 0) 0 0 0).toArray 54)
  have hl17 : (adr b xs).length = 17 := by simp [adr, h.1]
  have hl20 : (prw false zs (-1) (-1) (-1)).length = 20 := by simp [prw, pfx, adr, hzl]
  have hz20 : (prw false (List.replicate 16 0) 0 0 0).toArray.size = 20 := rfl
  have HL17 := Lib.hid hl17
  have HL20 := Lib.hid hl20
  have HZ := Lib.hid hzl
  have HBN := Lib.hid hbn
  have HT := Lib.hid g0
  have HG1 := Lib.hid g1
  have HG2 := Lib.hid g2
  have HG3 := Lib.hid g3
  have HV := Lib.hid hv
  have HP0 := Lib.hid hp0
  have HVA := Lib.hid (ipvalid_any b xs h)
  have HT6 := Lib.hid (to6_any b xs h)
  have h6 := map6_ok (b := b) h
  have HYL := Lib.hid (show (adr true (map6 b xs)).length = 17 by simp [adr, h6.1])
  have HYO := Lib.hid h6
  have HYV := Lib.hid (show vld true (map6 b xs) = true by rfl)
  clear g0 g1 g2 g3 hl17 hl20 h hv hzl hbn hp0 h6
  generalize map6 b xs = ys at *
  go_enter Tryd.func42, Tryd.ntmps42
  go_wp2_with (first
    | (refine wpList_built (by rfl) 52 _ (by rfl) _ _ (by rfl) HBN.out ?_)
    | (refine wpList_built (by rfl) 54 _ (by rfl) _ _ (by rfl) (built_prw false zs (-1) (-1) (-1) HZ.out) ?_)
    | (refine wpList_store_into rfl 54 _ _ rfl (w.heap.size + 1 + 1) 54 _ (prw false zs (-1) (-1) (-1)) rfl rfl HG3.out (by rw [HL20.out]; rfl) (by rw [sizeR, HL20.out]) (prw_one _ _ _ _ _) ?_))
  intro W1 h1 t1 z1
  have HT1 := Lib.hid (HT.out.trans t1 (by intro y hy; right; simp at hy; omega))
  have HG21 := Lib.hid (t1.at HG2.out (by simp <;> omega))
  have HG11 := Lib.hid (t1.at HG1.out (by simp <;> omega))
  have R1 := range_block HG11.out
  have HG31 := Lib.hid h1
  clear h1 t1 z1 HT HG1 HG2 HG3
  go_wp2_with (first
    | (refine wpList_load_mid rfl 28 _ rfl w.heap.size 0 rfl (adr b xs) _ R1 Tryd.underlying28 rfl (by rw [size31, HL17.out]) ?_))
  refine (HVA.out _).mono ?_
  rintro e w4 ⟨he, t4⟩
  rw [HV.out] at he
  subst he
  have HT4 := Lib.hid (HT1.out.trans t4 (by simp))
  have HG14 := Lib.hid (t4.at HG11.out (by simp <;> omega))
  have HG24 := Lib.hid (t4.at HG21.out (by simp <;> omega))
  have HG34 := Lib.hid (t4.at HG31.out (by simp <;> omega))
  have R4 := range_block HG14.out
  clear t4 HG21 HG31 HG11 R1 HT1
  go_wp2_with (first
    | (refine wpList_load_mid rfl 28 _ rfl w.heap.size 0 rfl (adr b xs) _ R4 Tryd.underlying28 rfl (by rw [size31, HL17.out]) ?_))
  refine (HT6.out _).mono ?_
  rintro e w5 ⟨rfl, t5⟩
  have HT5 := Lib.hid (HT4.out.trans t5 (by simp))
  have HG15 := Lib.hid (t5.at HG14.out (by simp <;> omega))
  have HG25 := Lib.hid (t5.at HG24.out (by simp <;> omega))
  have HG35 := Lib.hid (t5.at HG34.out (by simp <;> omega))
  clear t5 HG14 HG24 HG34 R4 HT4
  go_wp2_with (first
    | (refine wpList_store_into rfl 28 _ _ rfl w.heap.size 28 _ (adr true ys) rfl rfl HG15.out (by rw [HYL.out]; exact HL17.out) (by rw [size31, HYL.out]) (adr_one _ _) ?_))
  intro w6 h6 t6 z6
  have HT6' := Lib.hid (HT5.out.trans t6 (by intro y hy; right; simp at hy; omega))
  have HG16 := Lib.hid h6
  have HG26 := Lib.hid (t6.at HG25.out (by simp <;> omega))
  have HG36 := Lib.hid (t6.at HG35.out (by simp <;> omega))
  clear h6 t6 z6 HG15 HG25 HG35 HT5
  go_wp2_with fail
  refine (rows_any _).mono ?_
  rintro e w7 ⟨g, rfl, hgs, hrows, t7⟩
  have HT7 := Lib.hid (HT6'.out.trans t7 (by simp))
  have HG17 := Lib.hid (t7.at HG16.out (by simp <;> omega))
  have HG27 := Lib.hid (t7.at HG26.out (by simp <;> omega))
  have HG37 := Lib.hid (t7.at HG36.out (by simp <;> omega))
  have hgn : w.heap.size + 1 + 1 < g := by
    have := (Array.getElem?_eq_some_iff.1 HG36.out).1
    omega
  clear hgs t7 HG16 HG26 HG36 HT6'
  rw [prs_cells] at hrows
  have HROWS := Lib.hid hrows
  have HB0 := Lib.hid (show w7.heap[w.heap.size + 1 + 1]? = some (.cells (bestL ys 0).cells.toArray 54 (0, 0)) by rw [show bestL ys 0 = pr0 from rfl, HP0.out]; exact HG37.out)
  clear hrows HG37
  have hpl : prs.length = 9 := by decide
  go_wp2_with fail
  go_loopw [16] (fun vi wr => ∃ (k : Nat), vi = .int .i64 k ∧ k ≤ 9 ∧ Touch [] w wr ∧ wr.heap[w.heap.size]? = some (.cells (adr true ys).toArray 28 (0, 0)) ∧ wr.heap[w.heap.size + 1]? = some (.cells (prw false (List.replicate 16 0) 0 0 0).toArray 54 (0, 0)) ∧ wr.heap[w.heap.size + 1 + 1]? = some (.cells (bestL ys k).cells.toArray 54 (0, 0)) ∧ (∀ i x, (prs.map PR.cells)[i]? = some x → wr.rangeAt g (i * 20) x)) (fun vi _ => 9 - (intOf vi).toNat)
  case atStart => exact ⟨0, rfl, by omega, HT7.out, HG17.out, HG27.out, HB0.out, HROWS.out⟩
  case round =>
    obtain ⟨k, rfl, hk, ht, ha1, ha2, ha3, hr⟩ := hrel
    have HT := Lib.hid ht
    have A1 := Lib.hid ha1
    have A2 := Lib.hid ha2
    have HR := Lib.hid hr
    clear ht ha1 ha2 hr HT7 HG17 HG27 HB0 HROWS
    by_cases hk2 : k < 9
    · obtain ⟨r, hrk⟩ : ∃ r, prs[k]? = some r := ⟨_, List.getElem?_eq_getElem (by omega)⟩
      obtain ⟨hgb, hpx, hb0, hb2, hpt⟩ := prs_good r (List.mem_of_getElem? hrk)
      have hstep := bestL_succ ys k r hrk
      have hbl := bestL_px ys k
      generalize hbk : bestL ys (k + 1) = bn at *
      generalize bestL ys k = bs at *
      have A3 := Lib.hid ha3
      have hrow := HR.out k r.cells (by rw [List.getElem?_map, hrk]; rfl)
      have hrl := pr_len r hpx.1
      have HRL := Lib.hid hrl
      have HPX := Lib.hid hpx
      have HBN := Lib.hid hbk
      have HPV := Lib.hid (show vld r.b r.px = true by rw [hgb]; rfl)
      have HPT := Lib.hid hpt
      have HYS := HYO
      have hb1 : r.bits ≤ blen r.b := by rw [hgb]; exact hb2
      have HCO := Lib.hid (fun w => cont_any r.b r.px r.bits ys hpx HPV.out hb0 hb1 hpt HYO.out (by rw [hgb]; rfl) w)
      have AL := Lib.hid ((Touch.refl [] wr).alloc (.cells r.cells.toArray 54))
      have A5 := Lib.hid (heap_alloc_new wr (.cells r.cells.toArray 54))
      obtain ⟨RP, CR⟩ := prw_rows hpx.1 (range_block A5.out)
      have HBL := Lib.hid hbl
      have B1 := Lib.hid (AL.out.at A1.out (by simp))
      have B2 := Lib.hid (AL.out.at A2.out (by simp))
      have B3 := Lib.hid (AL.out.at A3.out (by simp))
      have RA := range_block B1.out
      have D17 := (prw_rows hbl (range_block B3.out)).2
      rw [hgb] at HCO
      have HGB := Lib.hid hgb
      have HSTEP := Lib.hid hstep
      have HRB := Lib.hid hb1
      clear hpx ha3 hpt hbk hbl hstep hgb hrl hb1
      by_cases hlt : bs.bits < r.bits
      · by_cases hco : trunc r.bits ys = r.px
        · have HC := Lib.hid (show decide (trunc r.bits ys = r.px) = true by simp [hco])
          have HE := Lib.hid (show stepL ys bs r = r by simp [stepL, hlt, hco])
          clear hco
          go_wp2_with (first
            | (refine wpList_load_mid rfl 54 _ rfl g (k * 20) rfl r.cells _ hrow Tryd.underlying54 rfl (by rw [sizeR, HRL.out]) ?_)
            | (refine wpList_store_new rfl 54 _ _ rfl _ _ r.cells rfl rfl (by rw [HRL.out]; rfl) (by rw [sizeR, HRL.out]) (prw_one _ _ _ _ _) ?_)
            | (refine wpList_load_g (by rfl) 52 _ rfl wr.heap.size 0 rfl (pfx r.b r.px r.bits) _ RP Tryd.underlying52 rfl (by rw [sizeP]; simp [pfx, adr, HPX.out.1]) ?_)
            | (refine wpList_load_g (by rfl) 28 _ rfl w.heap.size 0 rfl (adr true ys) _ RA Tryd.underlying28 rfl (by rw [size31, HYL.out]) ?_))
          rw [HGB.out]
          refine (HCO.out _).mono ?_
          rintro e w8 ⟨he, t8⟩
          rw [HC.out] at he
          subst he
          have HT8 := Lib.hid (AL.out.trans t8 (by simp))
          have C1 := Lib.hid (t8.at B1.out (by simp))
          have C2 := Lib.hid (t8.at B2.out (by simp))
          have C3 := Lib.hid (t8.at B3.out (by simp))
          have C5 := range_block (t8.at A5.out (by simp))
          clear t8 RA RP CR D17
          go_wp2_with (first
            | (refine wpList_load_mid rfl 54 _ rfl wr.heap.size 0 rfl r.cells _ C5 Tryd.underlying54 rfl (by rw [sizeR, HRL.out]) ?_)
            | (refine wpList_store_into rfl 54 _ _ rfl (w.heap.size + 1 + 1) 54 _ r.cells rfl rfl C3.out (by rw [HRL.out]; simp [pr_len bs HBL.out]) (by rw [sizeR, HRL.out]) (prw_one _ _ _ _ _) ?_))
          intro w9 h9 t9 z9
          go_wp2_with fail
          go_roundw
          case rel =>
            have t89 := (HT8.out.mono (S' := [w.heap.size + 1 + 1]) (by simp)).trans t9 (by simp)
            refine ⟨k + 1, by simp, by omega, HT.out.trans t89 (by intro y hy; right; simp at hy; omega), t9.at C1.out (by simp <;> omega), t9.at C2.out (by simp <;> omega), ?_, ?_⟩
            · rw [HBN.out, HSTEP.out, HE.out]
              exact h9
            · intro i x hx
              exact t89.range (HR.out i x hx) (by simp <;> omega)
          case measure => simp [intOf]; omega
        · have HC := Lib.hid (show decide (trunc r.bits ys = r.px) = false by simp [hco])
          have HE := Lib.hid (show stepL ys bs r = bs by simp [stepL, hco])
          clear hco
          go_wp2_with (first
            | (refine wpList_load_mid rfl 54 _ rfl g (k * 20) rfl r.cells _ hrow Tryd.underlying54 rfl (by rw [sizeR, HRL.out]) ?_)
            | (refine wpList_store_new rfl 54 _ _ rfl _ _ r.cells rfl rfl (by rw [HRL.out]; rfl) (by rw [sizeR, HRL.out]) (prw_one _ _ _ _ _) ?_)
            | (refine wpList_load_g (by rfl) 52 _ rfl wr.heap.size 0 rfl (pfx r.b r.px r.bits) _ RP Tryd.underlying52 rfl (by rw [sizeP]; simp [pfx, adr, HPX.out.1]) ?_)
            | (refine wpList_load_g (by rfl) 28 _ rfl w.heap.size 0 rfl (adr true ys) _ RA Tryd.underlying28 rfl (by rw [size31, HYL.out]) ?_))
          rw [HGB.out]
          refine (HCO.out _).mono ?_
          rintro e w8 ⟨he, t8⟩
          rw [HC.out] at he
          subst he
          have HT8 := Lib.hid (AL.out.trans t8 (by simp))
          clear RA RP CR D17
          go_wp2_with fail
          go_roundw
          case rel =>
            refine ⟨k + 1, by simp, by omega, HT.out.trans HT8.out (by simp), t8.at B1.out (by simp), t8.at B2.out (by simp), ?_, ?_⟩
            · rw [HBN.out, HSTEP.out, HE.out]
              exact t8.at B3.out (by simp)
            · intro i x hx
              exact HT8.out.range (HR.out i x hx) (by simp)
          case measure => simp [intOf]; omega
      · have HE := Lib.hid (show stepL ys bs r = bs by simp [stepL, hlt])
        go_wp2_with (first
          | (refine wpList_load_mid rfl 54 _ rfl g (k * 20) rfl r.cells _ hrow Tryd.underlying54 rfl (by rw [sizeR, HRL.out]) ?_)
          | (refine wpList_store_new rfl 54 _ _ rfl _ _ r.cells rfl rfl (by rw [HRL.out]; rfl) (by rw [sizeR, HRL.out]) (prw_one _ _ _ _ _) ?_)
          | (refine wpList_load_g (by rfl) 52 _ rfl wr.heap.size 0 rfl (pfx r.b r.px r.bits) _ RP Tryd.underlying52 rfl (by rw [sizeP]; simp [pfx, adr, HPX.out.1]) ?_)
          | (refine wpList_load_g (by rfl) 28 _ rfl w.heap.size 0 rfl (adr true ys) _ RA Tryd.underlying28 rfl (by rw [size31, HYL.out]) ?_))
        go_roundw
        case rel =>
          refine ⟨k + 1, by simp, by omega, HT.out.trans AL.out (by simp), B1.out, B2.out, ?_, ?_⟩
          · rw [HBN.out, HSTEP.out, HE.out]
            exact B3.out
          · intro i x hx
            exact AL.out.range (HR.out i x hx) (by simp)
        case measure => simp [intOf]; omega
    · have hke : k = 9 := by omega
      subst hke
      have hbl := bestL_px ys 9
      generalize hbk : bestL ys 9 = bs at *
      have HBK := Lib.hid hbk
      have hrl := pr_len bs hbl
      have HRL := Lib.hid hrl
      have R3 := range_block ha3
      clear hbk hbl ha3 hrl
      go_wp2_with (first
        | (refine wpList_load_mid rfl 54 _ rfl (w.heap.size + 1 + 1) 0 rfl bs.cells _ R3 Tryd.underlying54 rfl (by rw [sizeR, HRL.out]) ?_)
        | (refine wpList_store_into rfl 54 _ _ rfl (w.heap.size + 1) 54 _ bs.cells rfl rfl A2.out (by rw [HRL.out]; rfl) (by rw [sizeR, HRL.out]) (prw_one _ _ _ _ _) ?_))
      intro w5 h5 t5 z5
      go_wp2_with fail
      exact ret_row rfl sizeR Tryd.underlying54 rfl HRL.out rfl h5 ⟨by rw [HBK.out], HT.out.trans t5 (by intro y hy; right; simp at hy; omega)⟩
theorem lookP_px (b : Bool) (xs : List Int) : (lookP b xs).px.length = 16 := by
  unfold lookP
  split
  · exact bestL_px _ _
  · rfl
theorem look_any (b : Bool) (xs : List Int) (h : okB xs) (w : World) :
    Calls Tryd.prog 42 #[.agg (adr b xs).toArray] w fun e w' => e = .returned (.agg (lookP b xs).cells.toArray) ∧ Touch [] w w' := by
  unfold lookP
  cases hv : vld b xs
  · exact look_bad b xs h hv w
  · exact look_good b xs h hv w
theorem wpList_field {P : Program} {ops : Array Oper} {rest : List Oper} {o : Oper} {a : Act} {w : World} {Q : Exit → Act → World → Prop} (hgd : o.guard = none) (t : TypeId) (x : Operand) (n : Nat) (ho : o.op = .field t x n)
    (u v : Value) (hx : a.eval x = u) (hf : ∀ w, (Instr.field t u n).run P w = .ok v w)
    (h : wpList P ops Q rest (a.put o.dst v) w) : wpList P ops Q (o :: rest) a w := by
  refine wpList_plain hgd fun K hK => ?_
  unfold Oper.wp execOp
  simp only [ho, hx, Sem.run_bind, Sem.run_pure, Result.andThen_ok, hf]
  exact hK _ _ h
set_option maxRecDepth 100000 in
theorem field_prec (r : PR) (h : r.px.length = 16) (w : World) : (Instr.field 54 (.agg r.cells.toArray) 1).run Tryd.prog w = .ok (.int .i64 r.prec) w := by
  obtain ⟨rb, rpx, rbits, rprec, rlabel⟩ := r
  obtain ⟨x0, x1, x2, x3, x4, x5, x6, x7, x8, x9, x10, x11, x12, x13, x14, x15, rfl⟩ := sixteen rpx h
  kernel_rfl
def precP (b : Bool) (xs : List Int) : Int := (lookP b xs).prec
set_option maxRecDepth 100000 in
set_option maxHeartbeats 4000000 in
theorem prec_any (b : Bool) (xs : List Int) (h : okB xs) (w : World) :
    Calls Tryd.prog 35 #[.agg (adr b xs).toArray] w fun e w' => e = .returned (.int .i64 (precP b xs)) ∧ Touch [] w w' := by
  have t0 := (Touch.refl [] w).alloc (.cells (adr b xs).toArray 28)
  have R1 := range_block (heap_alloc_new w (.cells (adr b xs).toArray 28))
  have HL17 := Lib.hid (show (adr b xs).length = 17 by simp [adr, h.1])
  have HT := Lib.hid t0
  have HLK := Lib.hid (look_any b xs h)
  have hpx := lookP_px b xs
  unfold precP
  generalize lookP b xs = r at *
  have HFD := Lib.hid (field_prec r hpx)
  clear t0 h hpx
  go_enter Tryd.func35, Tryd.ntmps35
  go_wp2_with (first
    | (refine wpList_load_mid rfl 28 _ rfl w.heap.size 0 rfl (adr b xs) _ R1 Tryd.underlying28 rfl (by rw [size31, HL17.out]) ?_))
  refine (HLK.out _).mono ?_
  rintro e w8 ⟨rfl, t8⟩
  have HT8 := Lib.hid (HT.out.trans t8 (by simp))
  clear t8
  go_wp2_with (refine wpList_field rfl _ _ _ rfl _ _ rfl (fun w => HFD.out w) ?_)
  go_ret
  exact ⟨rfl, HT8.out⟩
end Go.Proofs.YtecaakgpogabjaaDoor

/-
  The contracts of the reference's parseIPv4 (at what is none) and parseGroup.
-/
namespace Go.Proofs.YtecaakgpogabjaaDoor
open Go.RowKit
set_option linter.unusedVariables false
set_option linter.unusedSimpArgs false

theorem OwnS.form {w0 w : World} {v : Value} {xs : List (List UInt8)} (h : OwnS w0 w v xs) : ∃ a cap, v = .slice a xs.length cap ∧ xs.length ≤ cap ∧ cap ≤ maxLen ∧ ∀ i x, xs[i]? = some x → ∃ g, a = some ⟨g, 0, none⟩ ∧ w.cell? ⟨g, i, none⟩ = some (str x) := by
  obtain ⟨a, c, rfl, h1, h2, h3⟩ := owns_form h.row
  refine ⟨a, c, rfl, h1, h2, ?_⟩
  intro i x hx
  have hi := (List.getElem?_eq_some_iff.1 hx).1
  obtain ⟨hl, hr⟩ := h.row
  rcases hr with ⟨hv, hn⟩ | ⟨g, cap, cur, hv, hb, hg, hnc, hcm, hcs, htk⟩
  · omega
  · simp only [Value.slice.injEq] at hv
    obtain ⟨rfl, _, rfl⟩ := hv
    refine ⟨g, rfl, ?_⟩
    rw [cell_of_row _ _ _ _ _ _ hg]
    have h4 : (xs.map str)[i]? = some (str x) := by simp [hx]
    rw [← htk, List.getElem?_take] at h4
    split at h4
    · simpa using h4
    · cases h4
set_option maxRecDepth 100000 in
theorem built_zero : Tryd.prog.built 28 [] = some (adr false (List.replicate 16 0)).toArray := by kernel_rfl
set_option maxRecDepth 100000 in
set_option maxHeartbeats 1000000 in
theorem ip4_bad (l : List UInt8) (hl : l.length ≤ 1000) (h4 : (splitP l 46).length ≠ 4) (w : World) :
    Calls Tryd.prog 76 #[str l] w fun e w' => e = .returned (.tuple #[.agg (adr false (List.replicate 16 0)).toArray, .bool false]) ∧ Touch [] w w' := by
  obtain ⟨zs, hzs⟩ : ∃ zs : List Int, zs = List.replicate 16 0 := ⟨_, rfl⟩
  have hzl : (adr false zs).length = 17 := by rw [hzs]; rfl
  have HZS := Lib.hid hzs
  have HZL := Lib.hid hzl
  have HBZ := Lib.hid (show Tryd.prog.built 28 [] = some (adr false zs).toArray by rw [hzs]; exact built_zero)
  have HZ := Lib.hid (show (Obj.cells (adr false (List.replicate 16 0)).toArray 28) = Obj.cells (adr false zs).toArray 28 by rw [hzs])
  rw [← hzs]
  have t0 := (Touch.refl [] w).alloc (.cells (adr false (List.replicate 16 0)).toArray 28)
  have g0 := heap_alloc_new w (.cells (adr false (List.replicate 16 0)).toArray 28)
  have HT := Lib.hid t0
  have HG := Lib.hid g0
  have HSP := Lib.hid (split_any l 46 hl)
  have h4c : ¬ ((splitP l 46).length : Int) = 4 := by omega
  clear t0 g0 hzs hzl
  go_enter Tryd.func76, Tryd.ntmps76
  go_wp2_with fail
  refine (HSP.out _).mono ?_
  rintro e w1 ⟨v, rfl, ho, t1⟩
  obtain ⟨a, cap, rfl, _⟩ := ho.form
  have HT1 := Lib.hid (HT.out.trans t1 (by simp))
  have HG1 := Lib.hid (t1.at HG.out (by simp))
  have HT2 := Lib.hid (HT1.out.alloc (.cells (adr false (List.replicate 16 0)).toArray 28))
  have HG2 := Lib.hid (((Touch.refl [] w1).alloc (.cells (adr false (List.replicate 16 0)).toArray 28)).at HG1.out (by simp))
  have HN2 := Lib.hid (heap_alloc_new w1 (.cells (adr false (List.replicate 16 0)).toArray 28))
  clear t1 ho HT HG
  go_wp2_with (first
    | ((with_reducible refine at_build 28 ?_); refine wpList_built (by rfl) 28 _ (by rfl) _ _ (by rfl) HBZ.out ?_)
    | ((with_reducible refine at_store 28 ?_); refine wpList_store_into rfl 28 _ _ rfl w1.heap.size 28 _ (adr false zs) rfl rfl HN2.out (by rw [HZL.out]; rfl) (by rw [size31, HZL.out]) (adr_one _ _) ?_))
  intro w3 h3 t3 z3
  have HT3 := Lib.hid (HT2.out.trans t3 (by intro y hy; right; simp at hy; have := HT1.out.size; omega))
  have HG3 := Lib.hid (t3.at HG2.out (by simp; have := (Array.getElem?_eq_some_iff.1 HG1.out).1; omega))
  have R3 := range_block h3
  clear h3 t3 z3 HT2 HG2 HN2
  go_wp2_with (first
    | ((with_reducible refine at_load 28 ?_); refine wpList_load_mid rfl 28 _ rfl w1.heap.size 0 rfl (adr false zs) _ R3 Tryd.underlying28 rfl (by rw [size31, HZL.out]) ?_)
    | ((with_reducible refine at_store 28 ?_); refine wpList_store_into rfl 28 _ _ rfl w.heap.size 28 _ (adr false zs) rfl rfl HG3.out (by rw [HZL.out]; rfl) (by rw [size31, HZL.out]) (adr_one _ _) ?_))
  intro w4 h4 t4 z4
  go_wp2_with fail
  exact ret_row_tmp rfl size31 Tryd.underlying28 rfl HZL.out rfl rfl h4 ⟨rfl, HT3.out.trans t4 (by simp)⟩
end Go.Proofs.YtecaakgpogabjaaDoor

/-
  The contract of the reference's parseGroup at hexadecimal digits.
-/
namespace Go.Proofs.YtecaakgpogabjaaDoor
open Go.RowKit
set_option linter.unusedVariables false
set_option linter.unusedSimpArgs false

def hexv (x : UInt8) : Option Int := if 48 ≤ x.toNat ∧ x.toNat ≤ 57 then some (x.toNat - 48) else if 97 ≤ x.toNat ∧ x.toNat ≤ 102 then some (x.toNat - 97 + 10) else none
def hexs (l : List UInt8) : Nat → Option Int
  | 0 => some 0
  | i + 1 => match hexs l i, l[i]? with
    | some n, some x => (hexv x).map fun v => 16 * n + v
    | _, _ => none
theorem hexs_bound (l : List UInt8) (i : Nat) (n : Int) (h : hexs l i = some n) : 0 ≤ n ∧ n < 16 ^ i := by
  induction i generalizing n with
  | zero =>
    simp [hexs] at h
    subst h
    simp
  | succ i ih =>
    simp only [hexs] at h
    split at h
    · rename_i m x hm hx
      have := ih m hm
      rw [Int.pow_succ]
      unfold hexv at h
      split at h
      · simp at h; omega
      · split at h
        · simp at h; omega
        · cases h
    · cases h
theorem hexs_none (l : List UInt8) (i : Nat) (h : hexs l i = none) : ∀ j, i ≤ j → hexs l j = none := by
  intro j hj
  induction j with
  | zero =>
    have : i = 0 := by omega
    subst this
    exact h
  | succ j ih =>
    by_cases e : i = j + 1
    · subst e; exact h
    · simp only [hexs, ih (by omega)]
theorem hex4 (i : Nat) (h : i ≤ 4) : (16 : Int) ^ i ≤ 65536 := by
  rcases (by omega : i = 0 ∨ i = 1 ∨ i = 2 ∨ i = 3 ∨ i = 4) with rfl | rfl | rfl | rfl | rfl <;> decide
set_option maxRecDepth 100000 in
set_option maxHeartbeats 1000000 in
theorem group_any (l : List UInt8) (r : Int) (hr : hexs l l.length = some r) (hne : l ≠ []) (h4 : l.length ≤ 4) (w : World) :
    Calls Tryd.prog 82 #[str l] w fun e w' => e = .returned (.int .i64 r) ∧ w = w' := by
  obtain ⟨s, hs⟩ : ∃ s : ByteArray, s = ⟨l.toArray⟩ := ⟨_, rfl⟩
  have hsz : s.size = l.length := by rw [hs]; exact str_size l
  have hse : s.toList.isEmpty = false := by
    rw [hs]
    cases l with
    | nil => exact absurd rfl hne
    | cons y l => simp
  rw [show str l = .string s by rw [hs]; rfl]
  have HX := Lib.hid (show Value.string s = str l by rw [hs]; rfl)
  have h4c : decide ((4 : Int) < (l.length : Int)) = false := by simp; omega
  have HR := Lib.hid hr
  clear hs hr
  go_enter Tryd.func82, Tryd.ntmps82
  go_wp2_with fail
  go_loopw [3, 4] (fun vn vi wr => wr = w ∧ ∃ (i : Nat) (n : Int), i ≤ l.length ∧ vi = .int .i64 i ∧ vn = .int .i64 n ∧ hexs l i = some n) (fun _ vi _ => l.length - (intOf vi).toNat)
  case atStart => exact ⟨rfl, 0, 0, by omega, rfl, rfl, rfl⟩
  case round =>
    obtain ⟨hwr, i, n, hi, rfl, rfl, hd⟩ := hrel
    subst hwr
    obtain ⟨hn0, hn1⟩ := hexs_bound l i n hd
    by_cases hlt : i < l.length
    · obtain ⟨x, hx⟩ : ∃ x, l[i]? = some x := ⟨_, List.getElem?_eq_getElem hlt⟩
      have hx255 : x.toNat < 256 := x.toNat_lt
      have hp4 := hex4 (i + 1) (by omega)
      have hstep : hexs l (i + 1) = (hexv x).map fun v => 16 * n + v := by simp only [hexs, hd, hx]
      have hp5 : (16 : Int) ^ (i + 1) = 16 ^ i * 16 := Int.pow_succ _ _
      have w1 : IntKind.i64.wrap (16 * n) = 16 * n := by rw [IntKind.wrap_i64] <;> omega
      by_cases hb : 48 ≤ x.toNat ∧ x.toNat ≤ 57
      · have HD := Lib.hid (show hexs l (i + 1) = some (16 * n + (x.toNat - 48)) by rw [hstep]; unfold hexv; rw [if_pos hb]; rfl)
        have b1 : decide ((48 : Int) ≤ (x.toNat : Int)) = true := by simp; omega
        have b2 : decide ((x.toNat : Int) ≤ 57) = true := by simp; omega
        have w2 : IntKind.u8.wrap ((x.toNat : Int) - 48) = (x.toNat : Int) - 48 := by simp [IntKind.wrap, IntKind.signed, IntKind.bits]; omega
        have w3 : IntKind.i64.wrap ((x.toNat : Int) - 48) = (x.toNat : Int) - 48 := by rw [IntKind.wrap_i64] <;> omega
        have w4 : IntKind.i64.wrap (16 * n + ((x.toNat : Int) - 48)) = 16 * n + ((x.toNat : Int) - 48) := by rw [IntKind.wrap_i64] <;> omega
        clear hd hstep hp4 hp5 hn1
        go_wp2_with ((with_reducible refine at_index 9 ?_); refine wpList_strix (by rfl) 9 _ _ rfl Tryd.underlying9 l i x HX.out rfl hx ?_)
        go_roundw
        case rel => exact ⟨by trivial, i + 1, _, by omega, by go_num, rfl, HD.out⟩
        case measure => simp [intOf]; omega
      · by_cases hc : 97 ≤ x.toNat ∧ x.toNat ≤ 102
        · have HD := Lib.hid (show hexs l (i + 1) = some (16 * n + (x.toNat - 97 + 10)) by rw [hstep]; unfold hexv; rw [if_neg hb, if_pos hc]; rfl)
          have b1 : decide ((48 : Int) ≤ (x.toNat : Int)) = true := by simp; omega
          have b2 : decide ((x.toNat : Int) ≤ 57) = false := by simp; omega
          have b3 : decide ((97 : Int) ≤ (x.toNat : Int)) = true := by simp; omega
          have b4 : decide ((x.toNat : Int) ≤ 102) = true := by simp; omega
          have w2 : IntKind.u8.wrap ((x.toNat : Int) - 97) = (x.toNat : Int) - 97 := by simp [IntKind.wrap, IntKind.signed, IntKind.bits]; omega
          have w3 : IntKind.i64.wrap ((x.toNat : Int) - 97) = (x.toNat : Int) - 97 := by rw [IntKind.wrap_i64] <;> omega
          have w4 : IntKind.i64.wrap (16 * n + ((x.toNat : Int) - 97)) = 16 * n + ((x.toNat : Int) - 97) := by rw [IntKind.wrap_i64] <;> omega
          have w5 : IntKind.i64.wrap (16 * n + ((x.toNat : Int) - 97) + 10) = 16 * n + ((x.toNat : Int) - 97) + 10 := by rw [IntKind.wrap_i64] <;> omega
          clear hd hstep hp4 hp5 hn1
          go_wp2_with ((with_reducible refine at_index 9 ?_); refine wpList_strix (by rfl) 9 _ _ rfl Tryd.underlying9 l i x HX.out rfl hx ?_)
          go_roundw
          case rel => exact ⟨by trivial, i + 1, _, by omega, by go_num, rfl, by rw [HD.out]; congr 1; omega⟩
          case measure => simp [intOf]; omega
        · exfalso
          have := hexs_none l (i + 1) (by rw [hstep]; unfold hexv; rw [if_neg hb, if_neg hc]; rfl) l.length (by omega)
          rw [HR.out] at this
          cases this
    · have he : i = l.length := by omega
      subst he
      have hrn : n = r := by
        have := HR.out
        rw [hd] at this
        simpa using this
      subst hrn
      clear hd
      go_wp2_with fail
      go_ret
      exact ⟨rfl, rfl⟩
end Go.Proofs.YtecaakgpogabjaaDoor

/-
  The contract of the reference's parseGroups at hexadecimal groups.
-/
namespace Go.Proofs.YtecaakgpogabjaaDoor
open Go.RowKit
set_option linter.unusedVariables false
set_option linter.unusedSimpArgs false

/-- A piece that is a group of value n. -/
def GoodP (p : List UInt8) (n : Int) : Prop := (splitP p 46).length ≠ 4 ∧ hexs p p.length = some n ∧ p ≠ [] ∧ p.length ≤ 4
/-- A text of groups. -/
def GoodG (l : List UInt8) (ns : List Int) : Prop := l.length ≤ 1000 ∧ ((l = [] ∧ ns = []) ∨ (l ≠ [] ∧ (splitP l 58).length = ns.length ∧ ns.length ≤ 1000 ∧ ∀ (i : Nat) (p : List UInt8) (n : Int), (splitP l 58)[i]? = some p → ns[i]? = some n → GoodP p n))
theorem infoU16 : (Tryd.prog.info? 75).map (fun i => (i.zero, i.size, i.bytes)) = some (some (.int .u16 0), 1, 2) := by kernel_rfl
/-- A slice of u16s of the call's own, made since w0. -/
structure OwnU (w0 w : World) (v : Value) (xs : List Int) : Prop where
  row : w.ownsRow 0 75 1 v xs.length (xs.map (Value.int .u16))
  new : ∀ g, v.ownBlock = some g → w0.heap.size ≤ g
theorem OwnU.nil (w0 w : World) : OwnU w0 w (.slice none 0 0) [] := ⟨World.ownsRow_nil _ _ _ _, by simp [Value.ownBlock]⟩
theorem OwnU.touch {S : List Nat} {w0 w w' : World} {v : Value} {xs : List Int} (h : OwnU w0 w v xs) (t : Touch S w w') (hn : ∀ g, v.ownBlock = some g → g ∉ S) : OwnU w0 w' v xs := ⟨t.owns h.row hn, h.new⟩
theorem OwnU.lt {w0 w : World} {v : Value} {xs : List Int} (h : OwnU w0 w v xs) : ∀ g, v.ownBlock = some g → g < w.heap.size := fun g hg => (h.row.lt g hg).2
theorem OwnU.older {w0 w1 w : World} {v : Value} {xs : List Int} (h : OwnU w1 w v xs) (hz : w0.heap.size ≤ w1.heap.size) : OwnU w0 w v xs := ⟨h.row, fun g hg => Nat.le_trans hz (h.new g hg)⟩
theorem OwnU.snoc {w0 w1 w2 : World} {v vo : Value} {xs : List Int} {x : Int} (h : OwnU w0 w1 v xs) (hz : w0.heap.size ≤ w1.heap.size) (hr : w2.ownsRow 0 75 1 vo (xs.length + 1) (xs.map (Value.int .u16) ++ [.int .u16 x])) (hv : vo.ownBlock = v.ownBlock ∨ vo.ownBlock = some (w1.heap.size + 1)) : OwnU w0 w2 vo (xs ++ [x]) := by
  refine ⟨by rw [List.map_append, List.length_append]; exact hr, ?_⟩
  intro g hg
  rcases hv with e | e
  · rw [e] at hg; exact h.new g hg
  · rw [e] at hg; simp at hg; omega
set_option maxRecDepth 100000 in
set_option maxHeartbeats 1000000 in
theorem groups_any (l : List UInt8) (last : Bool) (ns : List Int) (hG : GoodG l ns) (w : World) :
    Calls Tryd.prog 77 #[str l, .bool last] w fun e w' => ∃ v, e = .returned (.tuple #[v, .bool true]) ∧ OwnU w w' v ns ∧ Touch [] w w' := by
  obtain ⟨iU, hiU, hzU, hsU, hbU⟩ := info_parts infoU16
  obtain ⟨hl, hG⟩ := hG
  rcases hG with ⟨rfl, rfl⟩ | ⟨hne, hlen, hn1000, hgood⟩
  · rw [show str [] = .string ⟨#[]⟩ from rfl]
    go_enter Tryd.func77, Tryd.ntmps77
    go_wp2_with fail
    go_ret2
    exact ⟨_, rfl, OwnU.nil _ _, Touch.refl _ _⟩
  · obtain ⟨s, hs⟩ : ∃ s : ByteArray, s = ⟨l.toArray⟩ := ⟨_, rfl⟩
    have hse : s.toList.isEmpty = false := by
      rw [hs]
      cases l with
      | nil => exact absurd rfl hne
      | cons y l => simp
    have HSP := Lib.hid (split_any l 58 hl)
    rw [show str l = .string s by rw [hs]; rfl] at *
    clear hs
    go_enter Tryd.func77, Tryd.ntmps77
    go_wp2_with fail
    refine (HSP.out _).mono ?_
    rintro e w1 ⟨v, rfl, ho, t1⟩
    obtain ⟨a, cap, rfl, hlc, hcm, hat⟩ := ho.form
    have hnew := ho.new
    generalize splitP l 58 = ps at *
    rw [hlen] at hlc ⊢
    go_wp2_with fail
    go_loopw [6, 8] (fun vo vi wr => ∃ i : Nat, i ≤ ns.length ∧ vi = .int .i64 i ∧ OwnU w1 wr vo (ns.take i) ∧ Touch [] w1 wr) (fun _ vi _ => ns.length - (intOf vi).toNat)
    case atStart => exact ⟨0, by omega, rfl, OwnU.nil _ _, Touch.refl _ _⟩
    case round =>
      obtain ⟨i, hi, rfl, hown, ht⟩ := hrel
      by_cases hlt : i < ns.length
      · obtain ⟨n, hn⟩ : ∃ n, ns[i]? = some n := ⟨_, List.getElem?_eq_getElem hlt⟩
        obtain ⟨p, hp⟩ : ∃ p, ps[i]? = some p := ⟨_, List.getElem?_eq_getElem (by omega)⟩
        obtain ⟨hp4, hph, hpne, hpl⟩ := hgood i p n hp hn
        obtain ⟨g, rfl, hc⟩ := hat i p hp
        have hc1 := ht.cell hc (by simp)
        have HB := hexs_bound p p.length n hph
        have hx4 := hex4 p.length hpl
        have HIP := Lib.hid (ip4_bad p (by omega) hp4)
        have HGR := Lib.hid (group_any p n hph hpne hpl)
        have htk : ns.take (i + 1) = ns.take i ++ [n] := by rw [List.take_add_one, hn]; rfl
        have hc2 : n < 65536 := by omega
        have hn0 : 0 ≤ n := HB.1
        have hwu : IntKind.u16.wrap n = n := by simp [IntKind.wrap, IntKind.signed, IntKind.bits]; omega
        have hgn : w.heap.size ≤ g := hnew g rfl
        have hlti : (ns.take i).length = i := by simp; omega
        clear hp4 hph hpne hpl HB hx4 hat hgood hnew hc
        go_wp2_with fail
        refine (HIP.out _).mono ?_
        rintro e w2 ⟨rfl, t2⟩
        have HT2 := Lib.hid (ht.trans t2 (by simp))
        have HC2 := Lib.hid (t2.cell hc1 (by simp))
        have hown2 := hown.touch t2 (by simp)
        have HN2 := Lib.hid (heap_alloc_new w2 (.cells (adr false (List.replicate 16 0)).toArray 28))
        have HA2 := Lib.hid ((Touch.refl [] w2).alloc (.cells (adr false (List.replicate 16 0)).toArray 28))
        clear t2 hc1 hown HIP
        go_wp2_with ((with_reducible refine at_store 28 ?_); refine wpList_store_into rfl 28 _ _ rfl w2.heap.size 28 _ (adr false (List.replicate 16 0)) rfl rfl HN2.out rfl size31 (adr_one _ _) ?_)
        intro w3 h3 t3 z3
        have HT23 := Lib.hid ((HA2.out.trans t3 (by intro y hy; right; simp at hy; omega)))
        have HT3 := Lib.hid (HT2.out.trans HT23.out (by simp))
        have hc3 := HT23.out.cell HC2.out (by simp)
        have hown3 := hown2.touch HT23.out (by simp)
        have hrow3 := hown3.row
        rw [hlti] at hrow3
        clear h3 t3 z3 hown2 HN2 HA2 HT2 HC2
        go_wp2_with fail
        refine (HGR.out _).mono ?_
        rintro e w4 ⟨rfl, rfl⟩
        go_wp2_with (at_builtin; refine wpList_app1 _ (by rfl) _ _ 88 (by rfl) 75 iU _ 2 Tryd.underlying88 hiU hzU hsU hbU rfl _ i _ (by rfl) hrow3 (.int .u16 n) 75 (by rfl) rfl (by unfold maxLen; omega) (by omega) ?_)
        intro vo w5 ho5 t5 hv5
        have hown5 : OwnU w1 w5 vo (ns.take (i + 1)) := by
          rw [htk]
          exact hown3.snoc HT3.out.size (by rw [hlti, List.map_take]; exact ho5) hv5
        have HT5 := Lib.hid (HT3.out.trans t5 (fun y hy => .inr (hown3.new y (by simpa using hy))))
        clear hv5 ho5 t5 hrow3
        go_wp2_with fail
        go_roundw
        case rel => exact ⟨i + 1, by omega, by go_num, hown5, HT5.out⟩
        case measure => simp [intOf]; omega
      · have he : i = ns.length := by omega
        subst he
        rw [List.take_length] at hown
        go_wp2_with fail
        go_ret2
        exact ⟨_, rfl, hown.older t1.size, t1.trans ht (by simp)⟩
end Go.Proofs.YtecaakgpogabjaaDoor

/-
  The contract of the reference's V6 at eight groups.
-/
namespace Go.Proofs.YtecaakgpogabjaaDoor
open Go.RowKit
set_option linter.unusedVariables false
set_option linter.unusedSimpArgs false

set_option maxRecDepth 100000 in
set_option maxHeartbeats 4000000 in
theorem v6r_any (l : List Int) (hl : l.length = 8) (hr : ∀ x ∈ l, 0 ≤ x ∧ x ≤ 65535) (g c : Nat) (w : World) (hc : ∀ j x, l[j]? = some x → w.cell? ⟨g, j, none⟩ = some (.int .u16 x)) :
    Calls Tryd.prog 78 #[.slice (some ⟨g, 0, none⟩) 8 c] w fun e w' => e = .returned (.tuple #[.agg (adr true (v6b l 8)).toArray, .bool true]) ∧ Touch [] w w' := by
  have hgw : g < w.heap.size := by
    obtain ⟨x, hx⟩ : ∃ x, l[0]? = some x := ⟨_, List.getElem?_eq_getElem (by omega)⟩
    exact World.block_lt_of_cell? w _ (hc 0 x hx)
  go_enter Tryd.func78, Tryd.ntmps78
  go_wp2_with (refine wpList_store_new rfl 28 _ _ rfl _ _ (adr true (List.replicate 16 0)) rfl rfl rfl size31 (adr_one _ _) ?_)
  have t0 := ((Touch.refl [] w).alloc (.cells (adr false (List.replicate 16 0)).toArray 28)).alloc (.cells (adr true (List.replicate 16 0)).toArray 28)
  have g0 := heap_alloc2_new w (.cells (adr false (List.replicate 16 0)).toArray 28) (.cells (adr true (List.replicate 16 0)).toArray 28)
  have g1 := ((Touch.refl [] (w.alloc (.cells (adr false (List.replicate 16 0)).toArray 28))).alloc (.cells (adr true (List.replicate 16 0)).toArray 28)).at (heap_alloc_new w (.cells (adr false (List.replicate 16 0)).toArray 28)) (by simp)
  have HL := Lib.hid hl
  have HR := Lib.hid hr
  have H0 := Lib.hid (show ∃ (i : Nat), Value.int .i64 0 = .int .i64 i ∧ i ≤ 8 ∧ Touch [] w ((w.alloc (.cells (adr false (List.replicate 16 0)).toArray 28)).alloc (.cells (adr true (List.replicate 16 0)).toArray 28)) ∧ ((w.alloc (.cells (adr false (List.replicate 16 0)).toArray 28)).alloc (.cells (adr true (List.replicate 16 0)).toArray 28)).heap[w.heap.size + 1]? = some (.cells (adr true (v6b l i)).toArray 28 (0, 0)) ∧ ((w.alloc (.cells (adr false (List.replicate 16 0)).toArray 28)).alloc (.cells (adr true (List.replicate 16 0)).toArray 28)).heap[w.heap.size]? = some (.cells (adr false (List.replicate 16 0)).toArray 28 (0, 0)) from ⟨0, rfl, by omega, t0, g0, g1⟩)
  clear t0 g0 g1
  go_wp2_with fail
  go_loopw [5] (fun vi wr => ∃ (i : Nat), vi = .int .i64 i ∧ i ≤ 8 ∧ Touch [] w wr ∧ wr.heap[w.heap.size + 1]? = some (.cells (adr true (v6b l i)).toArray 28 (0, 0)) ∧ wr.heap[w.heap.size]? = some (.cells (adr false (List.replicate 16 0)).toArray 28 (0, 0))) (fun vi _ => 8 - (intOf vi).toNat)
  case atStart => exact H0.out
  case round =>
    obtain ⟨i, rfl, hi, ht, hg, hz⟩ := hrel
    have HT := Lib.hid ht
    have HG := Lib.hid hg
    have HZ := Lib.hid hz
    clear ht hg hz
    by_cases hi2 : i < 8
    · have hx : l[i]? = some l[i] := List.getElem?_eq_getElem (by omega)
      have hxr := hr l[i] (List.getElem_mem _)
      have c0 := HT.out.cell (hc i l[i] hx) (by simp)
      have hvl := v6b_len l hl i (by omega)
      have hst := v6b_step l hl i l[i] hx
      have s1 := set_adr wr (w.heap.size + 1) (2 * i) 28 true (v6b l i) (hi8 l[i]) HG.out
      have s2 := set_adr _ (w.heap.size + 1) (2 * i + 1) 28 true _ (lo8 l[i]) s1
      obtain ⟨y1, hy1⟩ : ∃ y, (v6b l i)[2 * i]? = some y := ⟨_, List.getElem?_eq_getElem (by omega)⟩
      have hlt2 : 2 * i + 1 < ((v6b l i).set (2 * i) (hi8 l[i])).length := by simp only [List.length_set]; omega
      obtain ⟨y2, hy2⟩ : ∃ y, ((v6b l i).set (2 * i) (hi8 l[i]))[2 * i + 1]? = some y := ⟨_, List.getElem?_eq_getElem hlt2⟩
      have c1 := (adr_cell HG.out).2 (2 * i) y1 hy1
      have c2 := (adr_cell s1).2 (2 * i + 1) y2 hy2
      have f1 : wr.frozen? ⟨w.heap.size + 1, 1 + 2 * i, none⟩ = false := by simp [World.frozen?, HG.out]
      have f3 : (wr.setCell ⟨w.heap.size + 1, 1 + 2 * i, none⟩ (.int .u8 (hi8 l[i]))).frozen? ⟨w.heap.size + 1, 1 + (2 * i + 1), none⟩ = false := by simp only [World.frozen?, s1]; rfl
      rw [← hst] at s2
      have HS := Lib.hid s2
      generalize l[i] = x at *
      clear hy1 hy2 hlt2
      have hw1 : IntKind.i64.wrap (2 * (i : Int)) = 2 * (i : Int) := by rw [IntKind.wrap_i64] <;> omega
      have hw2 : IntKind.i64.wrap (2 * (i : Int) + 1) = 2 * (i : Int) + 1 := by rw [IntKind.wrap_i64] <;> omega
      obtain ⟨W, hW⟩ : ∃ W, W = wr.drew := ⟨_, rfl⟩
      have HST := Lib.hid hst
      have hh1 : IntKind.u8.wrap (x / 256) = hi8 x := by simp [IntKind.wrap, IntKind.signed, IntKind.bits, hi8]; omega
      have hh2 : IntKind.u8.wrap x = lo8 x := by simp [IntKind.wrap, IntKind.signed, IntKind.bits, lo8]
      clear hx s1 s2 hst
      go_wp2_with fail
      refine wp_region_held (S := Touch [w.heap.size + 1] W) (by kernel_rfl) ?_
      change wpAnyH _ _ _ _ _ _ _ _ wr.drew
      have c0 : W.cell? ⟨g, i, none⟩ = some (.int .u16 x) := by rw [hW]; exact c0
      have c1 : W.cell? ⟨w.heap.size + 1, 1 + 2 * i, none⟩ = some (.int .u8 y1) := by rw [hW]; exact c1
      have f1 : W.frozen? ⟨w.heap.size + 1, 1 + 2 * i, none⟩ = false := by rw [hW]; exact f1
      have F3 := Lib.hid (show (W.setCell ⟨w.heap.size + 1, 1 + 2 * i, none⟩ (.int .u8 (hi8 x))).frozen? ⟨w.heap.size + 1, 1 + (2 * i + 1), none⟩ = false by rw [hW]; exact f3)
      have C2 := Lib.hid (show (W.setCell ⟨w.heap.size + 1, 1 + 2 * i, none⟩ (.int .u8 (hi8 x))).cell? ⟨w.heap.size + 1, 1 + (2 * i + 1), none⟩ = some (.int .u8 y2) by rw [hW]; exact c2)
      have HSW := Lib.hid (show ((W.setCell ⟨w.heap.size + 1, 1 + 2 * i, none⟩ (.int .u8 (hi8 x))).setCell ⟨w.heap.size + 1, 1 + (2 * i + 1), none⟩ (.int .u8 (lo8 x))).heap[w.heap.size + 1]? = some (.cells (adr true (v6b l (i + 1))).toArray 28 (0, 0)) by rw [hW]; exact HS.out)
      have TW := Lib.hid (show Touch [] w W by rw [hW]; exact HT.out.drew)
      have ZW := Lib.hid (show W.heap[w.heap.size]? = some (.cells (adr false (List.replicate 16 0)).toArray 28 (0, 0)) by rw [hW]; exact HZ.out)
      rw [← hW]
      clear hW HS HT HZ
      have hS := Touch.refl [w.heap.size + 1] W
      refine wpAnyH_take (i := 0) (oi := { dst := some 15, op := Op.move (Operand.tmp 5), type := 3, pos := "ref.go:45", after := #[], guard := none }) (v := .int .i64 (i : Nat)) rfl (by kernel_rfl) (by kernel_rfl) (by kernel_rfl) (fun _ _ _ h => h) (Or.inl ⟨by rfl, fun w' hw => by go_simp⟩) hS ?_
      try simp only [Act.put, List.setIfInBounds_toArray, List.set_cons_zero, List.set_cons_succ]
      refine wpAnyH_take (i := 1) (oi := { dst := some 16, op := Op.binOp BinOp.mul 3 (Operand.const (Value.int IntKind.i64 2)) (Operand.tmp 15) 3, type := 3, pos := "ref.go:45", after := #[{ on := 0, ground := Ground.data }], guard := none }) (v := .int .i64 (2 * (i : Int))) rfl (by kernel_rfl) (by kernel_rfl) (by kernel_rfl) (fun _ _ _ h => h) (Or.inl ⟨by rfl, fun w' hw => by go_simp⟩) hS ?_
      try simp only [Act.put, List.setIfInBounds_toArray, List.set_cons_zero, List.set_cons_succ]
      refine wpAnyH_take (i := 2) (oi := { dst := some 17, op := Op.move (Operand.tmp 5), type := 3, pos := "ref.go:45", after := #[{ on := 18, ground := Ground.gcOnly Departure.lateStores }], guard := none }) (v := .int .i64 (i : Nat)) rfl (by kernel_rfl) (by kernel_rfl) (by kernel_rfl) (fun _ _ _ h => h) (Or.inl ⟨by rfl, fun w' hw => by go_simp⟩) hS ?_
      try simp only [Act.put, List.setIfInBounds_toArray, List.set_cons_zero, List.set_cons_succ]
      refine wpAnyH_take (i := 3) (oi := { dst := some 18, op := Op.binOp BinOp.mul 3 (Operand.const (Value.int IntKind.i64 2)) (Operand.tmp 17) 3, type := 3, pos := "ref.go:45", after := #[{ on := 2, ground := Ground.data }, { on := 18, ground := Ground.gcOnly Departure.lateStores }], guard := none }) (v := .int .i64 (2 * (i : Int))) rfl (by kernel_rfl) (by kernel_rfl) (by kernel_rfl) (fun _ _ _ h => h) (Or.inl ⟨by rfl, fun w' hw => by go_simp⟩) hS ?_
      try simp only [Act.put, List.setIfInBounds_toArray, List.set_cons_zero, List.set_cons_succ]
      refine wpAnyH_take (i := 4) (oi := { dst := some 19, op := Op.binOp BinOp.add 3 (Operand.tmp 18) (Operand.const (Value.int IntKind.i64 1)) 3, type := 3, pos := "ref.go:45", after := #[{ on := 3, ground := Ground.data }, { on := 18, ground := Ground.gcOnly Departure.lateStores }], guard := none }) (v := .int .i64 (2 * (i : Int) + 1)) rfl (by kernel_rfl) (by kernel_rfl) (by kernel_rfl) (fun _ _ _ h => h) (Or.inl ⟨by rfl, fun w' hw => by go_simp⟩) hS ?_
      try simp only [Act.put, List.setIfInBounds_toArray, List.set_cons_zero, List.set_cons_succ]
      refine wpAnyH_take (i := 5) (oi := { dst := some 20, op := Op.move (Operand.tmp 0), type := 88, pos := "ref.go:45", after := #[], guard := none }) (v := .slice (some ⟨g, 0, none⟩) 8 c) rfl (by kernel_rfl) (by kernel_rfl) (by kernel_rfl) (fun _ _ _ h => h) (Or.inl ⟨by rfl, fun w' hw => by go_simp⟩) hS ?_
      try simp only [Act.put, List.setIfInBounds_toArray, List.set_cons_zero, List.set_cons_succ]
      refine wpAnyH_take (i := 6) (oi := { dst := some 21, op := Op.move (Operand.tmp 5), type := 3, pos := "ref.go:45", after := #[], guard := none }) (v := .int .i64 (i : Nat)) rfl (by kernel_rfl) (by kernel_rfl) (by kernel_rfl) (fun _ _ _ h => h) (Or.inl ⟨by rfl, fun w' hw => by go_simp⟩) hS ?_
      try simp only [Act.put, List.setIfInBounds_toArray, List.set_cons_zero, List.set_cons_succ]
      refine wpAnyH_take (i := 7) (oi := { dst := some 22, op := Op.indexAddr 88 (Operand.tmp 20) (Operand.tmp 21), type := 0, pos := "ref.go:45", after := #[{ on := 5, ground := Ground.data }, { on := 6, ground := Ground.data }], guard := none }) (v := .pointer (some ⟨g, i, none⟩)) rfl (by kernel_rfl) (by kernel_rfl) (by kernel_rfl) (fun _ _ _ h => h) (Or.inl ⟨by rfl, fun w' hw => by go_simp⟩) hS ?_
      try simp only [Act.put, List.setIfInBounds_toArray, List.set_cons_zero, List.set_cons_succ]
      refine wpAnyH_take (i := 8) (oi := { dst := some 23, op := Op.load 75 (Operand.tmp 22), type := 75, pos := "ref.go:45", after := #[{ on := 7, ground := Ground.data }], guard := none }) (v := .int .u16 x) rfl (by kernel_rfl) (by kernel_rfl) (by kernel_rfl) (fun _ _ _ h => h) (Or.inl ⟨by rfl, fun w' hw => by (have q := hw.cell c0 (by simp; omega); go_simp)⟩) hS ?_
      try simp only [Act.put, List.setIfInBounds_toArray, List.set_cons_zero, List.set_cons_succ]
      refine wpAnyH_take (i := 9) (oi := { dst := some 24, op := Op.binOp BinOp.shr 75 (Operand.tmp 23) (Operand.const (Value.int IntKind.u64 8)) 46, type := 75, pos := "ref.go:45", after := #[{ on := 8, ground := Ground.data }], guard := none }) (v := .int .u16 (x / 256)) rfl (by kernel_rfl) (by kernel_rfl) (by kernel_rfl) (fun _ _ _ h => h) (Or.inl ⟨by rfl, fun w' hw => by go_simp⟩) hS ?_
      try simp only [Act.put, List.setIfInBounds_toArray, List.set_cons_zero, List.set_cons_succ]
      refine wpAnyH_take (i := 10) (oi := { dst := some 25, op := Op.convert 75 5 (Operand.tmp 24), type := 5, pos := "ref.go:45", after := #[{ on := 9, ground := Ground.data }], guard := none }) (v := .int .u8 (hi8 x)) rfl (by kernel_rfl) (by kernel_rfl) (by kernel_rfl) (fun _ _ _ h => h) (Or.inl ⟨by rfl, fun w' hw => by go_simp⟩) hS ?_
      try simp only [Act.put, List.setIfInBounds_toArray, List.set_cons_zero, List.set_cons_succ]
      refine wpAnyH_take (i := 11) (oi := { dst := some 26, op := Op.move (Operand.tmp 0), type := 88, pos := "ref.go:45", after := #[{ on := 18, ground := Ground.gcOnly Departure.lateStores }], guard := none }) (v := .slice (some ⟨g, 0, none⟩) 8 c) rfl (by kernel_rfl) (by kernel_rfl) (by kernel_rfl) (fun _ _ _ h => h) (Or.inl ⟨by rfl, fun w' hw => by go_simp⟩) hS ?_
      try simp only [Act.put, List.setIfInBounds_toArray, List.set_cons_zero, List.set_cons_succ]
      refine wpAnyH_take (i := 12) (oi := { dst := some 27, op := Op.move (Operand.tmp 5), type := 3, pos := "ref.go:45", after := #[{ on := 18, ground := Ground.gcOnly Departure.lateStores }], guard := none }) (v := .int .i64 (i : Nat)) rfl (by kernel_rfl) (by kernel_rfl) (by kernel_rfl) (fun _ _ _ h => h) (Or.inl ⟨by rfl, fun w' hw => by go_simp⟩) hS ?_
      try simp only [Act.put, List.setIfInBounds_toArray, List.set_cons_zero, List.set_cons_succ]
      refine wpAnyH_take (i := 13) (oi := { dst := some 28, op := Op.indexAddr 88 (Operand.tmp 26) (Operand.tmp 27), type := 0, pos := "ref.go:45", after := #[{ on := 11, ground := Ground.data }, { on := 12, ground := Ground.data }, { on := 18, ground := Ground.gcOnly Departure.lateStores }], guard := none }) (v := .pointer (some ⟨g, i, none⟩)) rfl (by kernel_rfl) (by kernel_rfl) (by kernel_rfl) (fun _ _ _ h => h) (Or.inl ⟨by rfl, fun w' hw => by go_simp⟩) hS ?_
      try simp only [Act.put, List.setIfInBounds_toArray, List.set_cons_zero, List.set_cons_succ]
      refine wpAnyH_take (i := 14) (oi := { dst := some 29, op := Op.load 75 (Operand.tmp 28), type := 75, pos := "ref.go:45", after := #[{ on := 13, ground := Ground.data }, { on := 18, ground := Ground.gcOnly Departure.lateStores }], guard := none }) (v := .int .u16 x) rfl (by kernel_rfl) (by kernel_rfl) (by kernel_rfl) (fun _ _ _ h => h) (Or.inl ⟨by rfl, fun w' hw => by (have q := hw.cell c0 (by simp; omega); go_simp)⟩) hS ?_
      try simp only [Act.put, List.setIfInBounds_toArray, List.set_cons_zero, List.set_cons_succ]
      refine wpAnyH_take (i := 15) (oi := { dst := some 30, op := Op.convert 75 5 (Operand.tmp 29), type := 5, pos := "ref.go:45", after := #[{ on := 14, ground := Ground.data }, { on := 18, ground := Ground.gcOnly Departure.lateStores }], guard := none }) (v := .int .u8 (lo8 x)) rfl (by kernel_rfl) (by kernel_rfl) (by kernel_rfl) (fun _ _ _ h => h) (Or.inl ⟨by rfl, fun w' hw => by go_simp⟩) hS ?_
      try simp only [Act.put, List.setIfInBounds_toArray, List.set_cons_zero, List.set_cons_succ]
      refine wpAnyH_take (i := 16) (oi := { dst := some 31, op := Op.fieldAddr 28 (Operand.tmp 4) 1, type := 0, pos := "ref.go:45", after := #[], guard := none }) (v := .pointer (some ⟨(w.heap.size + 1), 1, none⟩)) rfl (by kernel_rfl) (by kernel_rfl) (by kernel_rfl) (fun _ _ _ h => h) (Or.inl ⟨by rfl, fun w' hw => by go_simp⟩) hS ?_
      try simp only [Act.put, List.setIfInBounds_toArray, List.set_cons_zero, List.set_cons_succ]
      refine wpAnyH_take (i := 17) (oi := { dst := some 32, op := Op.indexAddr 26 (Operand.tmp 31) (Operand.tmp 16), type := 0, pos := "ref.go:45", after := #[{ on := 16, ground := Ground.data }, { on := 1, ground := Ground.data }, { on := 0, ground := Ground.phase }, { on := 1, ground := Ground.phase }, { on := 2, ground := Ground.textOnly Departure.lateStores }, { on := 3, ground := Ground.textOnly Departure.lateStores }, { on := 4, ground := Ground.textOnly Departure.lateStores }, { on := 5, ground := Ground.phase }, { on := 6, ground := Ground.phase }, { on := 7, ground := Ground.phase }, { on := 8, ground := Ground.phase }, { on := 9, ground := Ground.phase }, { on := 10, ground := Ground.phase }, { on := 11, ground := Ground.textOnly Departure.lateStores }, { on := 12, ground := Ground.textOnly Departure.lateStores }, { on := 13, ground := Ground.textOnly Departure.lateStores }, { on := 14, ground := Ground.textOnly Departure.lateStores }, { on := 15, ground := Ground.textOnly Departure.lateStores }], guard := none }) (v := .pointer (some ⟨(w.heap.size + 1), 1 + 2 * i, none⟩)) rfl (by kernel_rfl) (by kernel_rfl) (by kernel_rfl) (fun _ _ _ h => h) (Or.inl ⟨by rfl, fun w' hw => by (have hb : 0 ≤ 2 * (i : Int) ∧ 2 * (i : Int) < 16 := (by omega); have ht : (2 * (i : Int)).toNat = 2 * i := (by omega); go_simp)⟩) hS ?_
      try simp only [Act.put, List.setIfInBounds_toArray, List.set_cons_zero, List.set_cons_succ]
      refine wpAnyH_take (i := 19) (oi := { dst := some 33, op := Op.fieldAddr 28 (Operand.tmp 4) 1, type := 0, pos := "ref.go:45", after := #[], guard := none }) (v := .pointer (some ⟨(w.heap.size + 1), 1, none⟩)) rfl (by kernel_rfl) (by kernel_rfl) (by kernel_rfl) (fun _ _ _ h => h) (Or.inl ⟨by rfl, fun w' hw => by go_simp⟩) hS ?_
      try simp only [Act.put, List.setIfInBounds_toArray, List.set_cons_zero, List.set_cons_succ]
      refine wpAnyH_ready (rs := [18]) (by kernel_rfl) (by simp) ?_
      refine AllReadyH.cons (o := { dst := none, op := Op.store 5 (Operand.tmp 32) (Operand.tmp 25), type := 0, pos := "ref.go:45", after := #[{ on := 17, ground := Ground.data }, { on := 10, ground := Ground.data }, { on := 0, ground := Ground.phase }, { on := 1, ground := Ground.phase }, { on := 2, ground := Ground.textOnly Departure.lateStores }, { on := 3, ground := Ground.textOnly Departure.lateStores }, { on := 4, ground := Ground.textOnly Departure.lateStores }, { on := 5, ground := Ground.phase }, { on := 6, ground := Ground.phase }, { on := 7, ground := Ground.phase }, { on := 8, ground := Ground.phase }, { on := 9, ground := Ground.phase }, { on := 10, ground := Ground.phase }, { on := 11, ground := Ground.textOnly Departure.lateStores }, { on := 12, ground := Ground.textOnly Departure.lateStores }, { on := 13, ground := Ground.textOnly Departure.lateStores }, { on := 14, ground := Ground.textOnly Departure.lateStores }, { on := 15, ground := Ground.textOnly Departure.lateStores }], guard := none }) rfl (fun K hK => ?_) AllReadyH.nil
      go_simp
      refine hK.out _ _ (hS.setCell (p := ⟨w.heap.size + 1, 1 + 2 * i, none⟩) (by simp) _) (fun _ => ?_)
      clear hK K
      have hS := hS.setCell (p := ⟨w.heap.size + 1, 1 + 2 * i, none⟩) (by simp) (.int .u8 (hi8 x))
      have f3 := F3.out
      have c2 := C2.out
      try simp only [Act.put, List.setIfInBounds_toArray, List.set_cons_zero, List.set_cons_succ]
      refine wpAnyH_take (i := 20) (oi := { dst := some 34, op := Op.indexAddr 26 (Operand.tmp 33) (Operand.tmp 19), type := 0, pos := "ref.go:45", after := #[{ on := 19, ground := Ground.data }, { on := 4, ground := Ground.data }, { on := 0, ground := Ground.phase }, { on := 1, ground := Ground.phase }, { on := 2, ground := Ground.phase }, { on := 3, ground := Ground.phase }, { on := 4, ground := Ground.phase }, { on := 5, ground := Ground.phase }, { on := 6, ground := Ground.phase }, { on := 7, ground := Ground.phase }, { on := 8, ground := Ground.phase }, { on := 9, ground := Ground.phase }, { on := 10, ground := Ground.phase }, { on := 11, ground := Ground.phase }, { on := 12, ground := Ground.phase }, { on := 13, ground := Ground.phase }, { on := 14, ground := Ground.phase }, { on := 15, ground := Ground.phase }, { on := 16, ground := Ground.phase }, { on := 17, ground := Ground.phase }, { on := 18, ground := Ground.phase }], guard := none }) (v := .pointer (some ⟨(w.heap.size + 1), 1 + (2 * i + 1), none⟩)) rfl (by kernel_rfl) (by kernel_rfl) (by kernel_rfl) (fun _ _ _ h => h) (Or.inl ⟨by rfl, fun w' hw => by (have hb : 0 ≤ 2 * (i : Int) + 1 ∧ 2 * (i : Int) + 1 < 16 := (by omega); have ht : (2 * (i : Int) + 1).toNat = 2 * i + 1 := (by omega); go_simp)⟩) hS ?_
      try simp only [Act.put, List.setIfInBounds_toArray, List.set_cons_zero, List.set_cons_succ]
      refine wpAnyH_ready (rs := [21]) (by kernel_rfl) (by simp) ?_
      refine AllReadyH.cons (o := { dst := none, op := Op.store 5 (Operand.tmp 34) (Operand.tmp 30), type := 0, pos := "ref.go:45", after := #[{ on := 20, ground := Ground.data }, { on := 15, ground := Ground.data }, { on := 18, ground := Ground.chain }, { on := 0, ground := Ground.phase }, { on := 1, ground := Ground.phase }, { on := 2, ground := Ground.phase }, { on := 3, ground := Ground.phase }, { on := 4, ground := Ground.phase }, { on := 5, ground := Ground.phase }, { on := 6, ground := Ground.phase }, { on := 7, ground := Ground.phase }, { on := 8, ground := Ground.phase }, { on := 9, ground := Ground.phase }, { on := 10, ground := Ground.phase }, { on := 11, ground := Ground.phase }, { on := 12, ground := Ground.phase }, { on := 13, ground := Ground.phase }, { on := 14, ground := Ground.phase }, { on := 15, ground := Ground.phase }, { on := 16, ground := Ground.phase }, { on := 17, ground := Ground.phase }, { on := 18, ground := Ground.phase }], guard := none }) rfl (fun K hK => ?_) AllReadyH.nil
      go_simp
      refine hK.out _ _ (hS.setCell (p := ⟨w.heap.size + 1, 1 + (2 * i + 1), none⟩) (by simp) _) (fun _ => ?_)
      clear hK K
      try simp only [Act.put, List.setIfInBounds_toArray, List.set_cons_zero, List.set_cons_succ]
      refine wpAnyH_done (by kernel_rfl) ?_ _
      try simp only [Act.put, List.setIfInBounds_toArray, List.set_cons_zero, List.set_cons_succ]
      go_wp2_with fail
      go_roundw
      case rel =>
        refine ⟨i + 1, by simp, by omega, ?_, HSW.out, ?_⟩
        · exact (TW.out.setCell (p := ⟨w.heap.size + 1, _, none⟩) (by right; simp) _).setCell (p := ⟨w.heap.size + 1, _, none⟩) (by right; simp) _
        · exact (((Touch.refl [w.heap.size + 1] W).setCell (p := ⟨w.heap.size + 1, 1 + 2 * i, none⟩) (by simp) (.int .u8 (hi8 x))).setCell (p := ⟨w.heap.size + 1, 1 + (2 * i + 1), none⟩) (by simp) (.int .u8 (lo8 x))).at ZW.out (by simp)
      case measure => simp [intOf]; omega
    · have hie : i = 8 := by omega
      subst hie
      have hvl := v6b_len l hl 8 (by omega)
      generalize hys : v6b l 8 = ys at *
      have HYS := Lib.hid hys
      have r1 := range_block HG.out
      have hl17 : (adr true ys).length = 17 := by simp [adr, hvl]
      have HL17 := Lib.hid hl17
      clear hl17 hys
      go_wp2_with (first
        | ((with_reducible refine at_load 28 ?_); refine wpList_load_mid rfl 28 _ rfl (w.heap.size + 1) 0 rfl (adr true ys) _ r1 Tryd.underlying28 rfl (by rw [size31, HL17.out]) ?_)
        | ((with_reducible refine at_store 28 ?_); refine wpList_store_into rfl 28 _ _ rfl w.heap.size 28 _ (adr true ys) rfl rfl HZ.out (by rw [HL17.out]; rfl) (by rw [size31, HL17.out]) (adr_one _ _) ?_))
      intro w3 hg3 t3 hz3
      go_wp2_with fail
      exact ret_row_tmp rfl size31 Tryd.underlying28 rfl HL17.out rfl rfl hg3 ⟨by rw [HYS.out]; rfl, HT.out.trans t3 (by simp)⟩
end Go.Proofs.YtecaakgpogabjaaDoor

/-
  The contract of the reference's Parse at compressed addresses.
-/
namespace Go.Proofs.YtecaakgpogabjaaDoor
open Go.RowKit
set_option linter.unusedVariables false
set_option linter.unusedSimpArgs false

theorem OwnU.form {w0 w : World} {v : Value} {xs : List Int} (h : OwnU w0 w v xs) : ∃ a cap, v = .slice a xs.length cap ∧ xs.length ≤ cap ∧ cap ≤ maxLen ∧ (a = none → xs.length = 0 ∧ cap = 0) ∧ (∀ ad, a = some ad → ∀ j u, (xs.map (Value.int .u16))[j]? = some u → w.cell? (ad.add j) = some u) ∧ ∀ i x, xs[i]? = some x → ∃ g, a = some ⟨g, 0, none⟩ ∧ w.cell? ⟨g, i, none⟩ = some (.int .u16 x) := by
  obtain ⟨hl, hr⟩ := h.row
  rcases hr with ⟨rfl, hn⟩ | ⟨g, cap, cur, rfl, hb, hg, hnc, hcm, hcs, htk⟩
  · have hx : xs = [] := List.eq_nil_of_length_eq_zero hn
    subst hx
    refine ⟨none, 0, rfl, by simp, by simp [maxLen], fun _ => ⟨rfl, rfl⟩, ?_, ?_⟩
    · intro ad had
      cases had
    · intro i x hx
      simp at hx
  · have key : ∀ i u, (xs.map (Value.int .u16))[i]? = some u → w.cell? ⟨g, i, none⟩ = some u := by
      intro i u hu
      rw [cell_of_row _ _ _ _ _ _ hg]
      rw [← htk, List.getElem?_take] at hu
      split at hu
      · simpa using hu
      · cases hu
    refine ⟨some ⟨g, 0, none⟩, cap, rfl, hnc, hcm, fun h => (by cases h), ?_, ?_⟩
    · intro ad had j u hu
      cases had
      rw [Addr.add_lit, Nat.zero_add]
      exact key j u hu
    · intro i x hx
      exact ⟨g, rfl, key i _ (by simp [hx])⟩
/-- What is between head and tail. -/
def fill8 (hs ts : List Int) : List Int := hs ++ List.replicate (8 - hs.length - ts.length) 0 ++ ts
structure GoodA (l : List UInt8) (at_ : Nat) (hs ts : List Int) : Prop where
  len : l.length ≤ 1000
  dot : (splitP l 46).length ≠ 4
  lt : at_ + 1 < l.length
  c0 : l[at_]? = some 58
  c1 : l[at_ + 1]? = some 58
  first : ∀ i < at_, ¬ (l[i]? = some 58 ∧ l[i + 1]? = some 58)
  head : GoodG (l.take at_) hs
  tail : GoodG (l.drop (at_ + 2)) ts
  seven : hs.length + ts.length ≤ 7
  rh : ∀ x ∈ hs, 0 ≤ x ∧ x ≤ 65535
  rt : ∀ x ∈ ts, 0 ≤ x ∧ x ≤ 65535
set_option maxRecDepth 100000 in
set_option maxHeartbeats 1000000 in
theorem parse_any (l : List UInt8) (k : Nat) (hs ts : List Int) (hG : GoodA l k hs ts) (w : World) :
    Calls Tryd.prog 67 #[str l] w fun e w' => e = .returned (.tuple #[.agg (adr true (v6b (fill8 hs ts) 8)).toArray, .bool true]) ∧ Touch [] w w' := by
  obtain ⟨hl, hdot, hlt, hc0, hc1, hfirst, hhead, htail, h7, hrh, hrt⟩ := hG
  obtain ⟨iU, hiU, hzU, hsU, hbU⟩ := info_parts infoU16
  obtain ⟨s, hs'⟩ : ∃ s : ByteArray, s = ⟨l.toArray⟩ := ⟨_, rfl⟩
  have hsz : s.size = l.length := by rw [hs']; exact str_size l
  have HIP := Lib.hid (ip4_bad l hl hdot)
  have HGH := Lib.hid (groups_any (l.take k) false hs hhead)
  have HGT := Lib.hid (groups_any (l.drop (k + 2)) true ts htail)
  have HX := Lib.hid (show Value.string s = str l by rw [hs']; rfl)
  rw [show str l = .string s by rw [hs']; rfl] at HIP ⊢
  clear hs' hhead htail hdot
  obtain ⟨zs, hzs⟩ : ∃ zs : List Int, zs = List.replicate 16 0 := ⟨_, rfl⟩
  have HZL := Lib.hid (show (adr false zs).length = 17 by rw [hzs]; rfl)
  rw [← hzs] at HIP
  have HT0 := Lib.hid ((Touch.refl [] w).alloc (.cells (adr false (List.replicate 16 0)).toArray 28))
  have HG0 := Lib.hid (heap_alloc_new w (.cells (adr false (List.replicate 16 0)).toArray 28))
  clear hzs
  go_enter Tryd.func67, Tryd.ntmps67
  go_wp2_with fail
  refine (HIP.out _).mono ?_
  rintro e w1 ⟨rfl, t1⟩
  have HT1 := Lib.hid (HT0.out.trans t1 (by simp))
  have HG1 := Lib.hid (t1.at HG0.out (by simp))
  have HT2 := Lib.hid ((Touch.refl [] w1).alloc (.cells (adr false (List.replicate 16 0)).toArray 28))
  have HN2 := Lib.hid (heap_alloc_new w1 (.cells (adr false (List.replicate 16 0)).toArray 28))
  clear t1 HT0 HG0 HIP
  go_wp2_with ((with_reducible refine at_store 28 ?_); refine wpList_store_into rfl 28 _ _ rfl w1.heap.size 28 _ (adr false zs) rfl rfl HN2.out (by rw [HZL.out]; rfl) (by rw [size31, HZL.out]) (adr_one _ _) ?_)
  intro w3 h3 t3 z3
  have HT13 := Lib.hid (HT2.out.trans t3 (by intro y hy; right; simp at hy; omega))
  have HT3 := Lib.hid (HT1.out.trans HT13.out (by simp))
  have HG3 := Lib.hid (HT13.out.at HG1.out (by simp))
  have z13 : w1.heap.size ≤ w3.heap.size := HT13.out.size
  have zw1 : w.heap.size < w1.heap.size := (Array.getElem?_eq_some_iff.1 HG1.out).1
  clear h3 t3 z3 HT2 HN2 HT1 HG1 HT13
  go_wp2_with fail
  go_loopw [7] (fun vi wr => wr = w3 ∧ ∃ i : Nat, i ≤ k ∧ vi = .int .i64 i) (fun vi _ => k + 1 - (intOf vi).toNat)
  case atStart => exact ⟨rfl, 0, by omega, rfl⟩
  case round =>
    obtain ⟨hwr, i, hi, rfl⟩ := hrel
    subst hwr
    obtain ⟨x, hx⟩ : ∃ x, l[i]? = some x := ⟨_, List.getElem?_eq_getElem (by omega)⟩
    obtain ⟨y, hy⟩ : ∃ y, l[i + 1]? = some y := ⟨_, List.getElem?_eq_getElem (by omega)⟩
    have wi : IntKind.i64.wrap ((i : Int) + 1) = (i : Int) + 1 := by rw [IntKind.wrap_i64] <;> omega
    have hli : (i : Int) + 1 < (l.length : Int) := by omega
    by_cases hik : i = k
    · subst hik
      rw [hx] at hc0
      rw [hy] at hc1
      simp only [Option.some.injEq] at hc0 hc1
      subst hc0 hc1
      have e58 : ((58 : UInt8).toNat : Int) = 58 := rfl
      go_wp2_with (first
        | ((with_reducible refine at_index 9 ?_); refine wpList_strix (by rfl) 9 _ _ rfl Tryd.underlying9 l i 58 HX.out rfl hx ?_)
        | ((with_reducible refine at_index 9 ?_); refine wpList_strix (by rfl) 9 _ _ rfl Tryd.underlying9 l (i + 1) 58 HX.out rfl hy ?_)
        | ((with_reducible refine at_slice 9 ?_); refine wpList_strto (by rfl) 9 _ _ rfl Tryd.underlying9 l i HX.out rfl (by omega) ?_))
      refine (HGH.out _).mono ?_
      rintro e w4 ⟨v4, rfl, ho4, t4⟩
      have HT4 := Lib.hid (HT3.out.trans t4 (by simp))
      have z34 := t4.size
      have HG4 := Lib.hid (t4.at HG3.out (by simp))
      have wk : IntKind.i64.wrap ((i : Int) + 2) = (i : Int) + 2 := by rw [IntKind.wrap_i64] <;> omega
      clear t4 HT3 HG3 HGH hx hy e58
      go_wp2_with ((with_reducible refine at_slice 9 ?_); refine wpList_strfrom (by rfl) 9 _ _ rfl Tryd.underlying9 l (i + 2) HX.out rfl (by omega) ?_)
      refine (HGT.out _).mono ?_
      rintro e w5 ⟨v5, rfl, ho5, t5⟩
      have HT5 := Lib.hid (HT4.out.trans t5 (by simp))
      have HG5 := Lib.hid (t5.at HG4.out (by simp))
      have HO4 := Lib.hid ((ho4.older z13).touch t5 (by simp))
      have hdis : ∀ g, v4.ownBlock = some g → v5.ownBlock ≠ some g := by
        intro g h1 h2
        have a1 := ho4.lt g h1
        have a2 := ho5.new g h2
        omega
      have HO5 := Lib.hid (ho5.older (w0 := w1) (by have := ho4.row; have z := HT4.out.size; exact Nat.le_trans z13 (by have := t5.size; exact z34)))
      obtain ⟨a4, cap4, hv4, q1, q2, _⟩ := ho4.form
      obtain ⟨a5, cap5, hv5, p1, p2, _⟩ := ho5.form
      subst hv4 hv5
      have z15 : w1.heap.size ≤ w5.heap.size := by have := t5.size; omega
      clear t5 HT4 HG4 HGT ho4 ho5
      have w7 : ¬ ((7 : Int) < (hs.length : Int) + (ts.length : Int)) := by omega
      have w8 : IntKind.i64.wrap ((hs.length : Int) + (ts.length : Int)) = (hs.length : Int) + (ts.length : Int) := by rw [IntKind.wrap_i64] <;> omega
      go_wp2_with fail
      go_loopw [10] (fun vo wq => ∃ j : Nat, hs.length + j + ts.length ≤ 8 ∧ (∃ a c, vo = .slice a (hs.length + j) c) ∧ OwnU w1 wq vo (hs ++ List.replicate j 0) ∧ OwnU w1 wq (.slice a5 ts.length cap5) ts ∧ (∀ g, vo.ownBlock = some g → (Value.slice a5 ts.length cap5).ownBlock ≠ some g) ∧ Touch [] w wq ∧ w1.heap.size ≤ wq.heap.size ∧ wq.heap[w.heap.size]? = some (.cells (adr false (List.replicate 16 0)).toArray 28 (0, 0))) (fun vo _ => match vo with | .slice _ n _ => 8 - n | _ => 0)
      case atStart => exact ⟨0, by omega, ⟨_, _, rfl⟩, by simpa using HO4.out, HO5.out, hdis, HT5.out, z15, HG5.out⟩
      case round =>
        obtain ⟨j, hj, ⟨a, c, rfl⟩, ho, hm, hd, ht, hz, hg⟩ := hrel
        obtain ⟨ys, hys⟩ : ∃ ys, ys = hs ++ List.replicate j 0 := ⟨_, rfl⟩
        have hyl : ys.length = hs.length + j := by rw [hys]; simp
        rw [← hys] at ho
        have hrow := ho.row
        rw [hyl] at hrow
        have w9 : IntKind.i64.wrap ((hs.length : Int) + (j : Int) + (ts.length : Int)) = (hs.length : Int) + (j : Int) + (ts.length : Int) := by rw [IntKind.wrap_i64] <;> omega
        have HG := Lib.hid hg
        have HYS := Lib.hid hys
        have HT := Lib.hid ht
        clear hg hys ht HT5 HG5 HO4 HO5 hdis
        by_cases h8 : hs.length + j + ts.length < 8
        · have h8c : (hs.length : Int) + (j : Int) + (ts.length : Int) < 8 := by omega
          go_wp2_with (at_builtin; refine wpList_app1 _ (by rfl) _ _ 88 (by rfl) 75 iU _ 2 Tryd.underlying88 hiU hzU hsU hbU rfl _ (hs.length + j) _ (by rfl) hrow (.int .u16 0) 75 (by rfl) rfl (by unfold maxLen; omega) (by omega) ?_)
          intro vo w6 ho6 t6 hv6
          have hown6 : OwnU w1 w6 vo (ys ++ [0]) := ho.snoc hz (by rw [hyl]; exact ho6) hv6
          have hm6 := hm.touch t6 (by
            intro g h1 h2
            exact hd g (by simpa using h2) h1)
          have hd6 : ∀ g, vo.ownBlock = some g → (Value.slice a5 ts.length cap5).ownBlock ≠ some g := by
            intro g h1 h2
            rcases hv6 with e | e
            · exact hd g (by rw [← e]; exact h1) h2
            · rw [e] at h1
              have := hm.lt g h2
              simp at h1
              omega
          have HT6 := Lib.hid (HT.out.trans t6 (fun y hy => .inr (by have := ho.new y (by simpa using hy); omega)))
          have HG6 := Lib.hid (t6.at HG.out (by intro hy; have := ho.new _ (by simpa using hy); omega))
          have z6 : w1.heap.size ≤ w6.heap.size := Nat.le_trans hz t6.size
          obtain ⟨a6, c6, hv, _⟩ := hown6.form
          subst hv
          simp only [List.length_append, List.length_cons, List.length_nil, hyl] at *
          go_wp2_with fail
          go_roundw
          case rel => exact ⟨j + 1, by omega, ⟨a6, c6, by rw [Nat.add_assoc]⟩, by rw [List.replicate_succ', ← List.append_assoc, ← HYS.out]; exact hown6, hm6, hd6, HT6.out, z6, HG6.out⟩
          case measure => simp; omega
        · have h8c : ¬ ((hs.length : Int) + (j : Int) + (ts.length : Int) < 8) := by omega
          have hfil : ys ++ ts = fill8 hs ts := by rw [HYS.out, show j = 8 - hs.length - ts.length by omega]; rfl
          have hf8 : (fill8 hs ts).length = 8 := by rw [← hfil]; simp [hyl]; omega
          have hfr : ∀ x ∈ fill8 hs ts, 0 ≤ x ∧ x ≤ 65535 := by
            intro x hx
            rw [← hfil, HYS.out] at hx
            rcases List.mem_append.1 hx with hx | hx
            · rcases List.mem_append.1 hx with hx | hx
              · exact hrh x hx
              · have := List.eq_of_mem_replicate hx
                omega
            · exact hrt x hx
          obtain ⟨a9, c9, e9, _, _, hnone9, hnews9, _⟩ := hm.form
          simp only [Value.slice.injEq] at e9
          obtain ⟨rfl, _, rfl⟩ := e9
          go_wp2_with (at_builtin; refine wpList_app _ (by rfl) _ _ 88 (by rfl) 75 iU _ 1 2 Tryd.underlying88 hiU hzU hsU hbU rfl (by omega) _ (hs.length + j) _ (by rfl) hrow a5 ts.length cap5 (ts.map (Value.int .u16)) (by rfl) (by simp) hnone9 hnews9 (by intro u hu; obtain ⟨x, _, rfl⟩ := List.mem_map.1 hu; rfl) (by unfold maxLen; omega) (by omega) ?_)
          intro vo w6 ho6 t6 hv6
          have hown6 : OwnU w1 w6 vo (fill8 hs ts) := by
            refine ⟨?_, ?_⟩
            · rw [← hfil, List.map_append, List.length_append, hyl]
              exact ho6
            · intro g hg
              rcases hv6 with e | e
              · rw [e] at hg; exact ho.new g hg
              · rw [e] at hg; simp at hg; omega
          have HT6 := Lib.hid (HT.out.trans t6 (fun y hy => .inr (by have := ho.new y (by simpa using hy); omega)))
          have HG6 := Lib.hid (t6.at HG.out (by intro hy; have := ho.new _ (by simpa using hy); omega))
          obtain ⟨a6, c6, hv, _, _, _, _, hat⟩ := hown6.form
          rw [hf8] at hv
          obtain ⟨x0, hx0⟩ : ∃ x, (fill8 hs ts)[0]? = some x := ⟨_, List.getElem?_eq_getElem (by omega)⟩
          obtain ⟨g6, rfl, _⟩ := hat 0 x0 hx0
          subst hv
          have HV := Lib.hid (v6r_any (fill8 hs ts) hf8 hfr g6 c6 w6 (by
            intro k x hx
            obtain ⟨g', e, hc⟩ := hat k x hx
            simp only [Option.some.injEq, Addr.mk.injEq] at e
            obtain ⟨rfl, _⟩ := e
            exact hc))
          have hyl8 := v6b_len (fill8 hs ts) hf8 8 (by omega)
          have HL17 := Lib.hid (show (adr true (v6b (fill8 hs ts) 8)).length = 17 by simp [adr, hyl8])
          generalize hzz : v6b (fill8 hs ts) 8 = zz at *
          have HZZ := Lib.hid hzz
          clear hzz
          clear hat hx0 hown6 ho6 hfil hf8 hfr hnone9 hnews9 hyl8 hrow
          go_wp2_with fail
          refine HV.out.mono ?_
          rintro e w7 ⟨rfl, t7⟩
          have HT7 := Lib.hid (HT6.out.trans t7 (by simp))
          have HG7 := Lib.hid (t7.at HG6.out (by simp))
          clear t7 HV
          go_wp2_with ((with_reducible refine at_store 28 ?_); refine wpList_store_into rfl 28 _ _ rfl w.heap.size 28 _ (adr true zz) rfl rfl HG7.out (by rw [HL17.out]; rfl) (by rw [size31, HL17.out]) (adr_one _ _) ?_)
          intro w8 h8 t8 z8
          go_wp2_with fail
          exact ret_row_tmp rfl size31 Tryd.underlying28 rfl HL17.out rfl rfl h8 ⟨by rw [HZZ.out]; rfl, HT7.out.trans t8 (by simp)⟩
    · have hne := hfirst i (by omega)
      rw [hx, hy] at hne
      simp only [Option.some.injEq] at hne
      have hli2 : (i : Int) + 1 < (l.length : Int) := hli
      by_cases hx58 : x = 58
      · have e1 := (u8_inj x 58).2 hx58
        have e2 := (not_congr (u8_inj y 58)).2 (fun e => hne ⟨hx58, e⟩)
        rw [show ((58 : UInt8).toNat : Int) = 58 from rfl] at e1 e2
        go_wp2_with (first
          | ((with_reducible refine at_index 9 ?_); refine wpList_strix (by rfl) 9 _ _ rfl Tryd.underlying9 l i x HX.out rfl hx ?_)
          | ((with_reducible refine at_index 9 ?_); refine wpList_strix (by rfl) 9 _ _ rfl Tryd.underlying9 l (i + 1) y HX.out rfl hy ?_))
        go_roundw
        case rel => exact ⟨by trivial, i + 1, by omega, by go_num⟩
        case measure => simp [intOf]; omega
      · have e1 := (not_congr (u8_inj x 58)).2 hx58
        rw [show ((58 : UInt8).toNat : Int) = 58 from rfl] at e1
        go_wp2_with (first
          | ((with_reducible refine at_index 9 ?_); refine wpList_strix (by rfl) 9 _ _ rfl Tryd.underlying9 l i x HX.out rfl hx ?_))
        go_roundw
        case rel => exact ⟨by trivial, i + 1, by omega, by go_num⟩
        case measure => simp [intOf]; omega
end Go.Proofs.YtecaakgpogabjaaDoor

/-
  The contract of hasPrefix.
-/
namespace Go.Proofs.YtecaakgpogabjaaDoor
open Go.RowKit
set_option linter.unusedVariables false
set_option linter.unusedSimpArgs false

theorem set_gen (W : World) (g o : Nat) (T : TypeId) (old : List Value) (cs : List Int) (hg : W.heap[g]? = some (.cells old.toArray T (0, 0))) (hl : o + cs.length ≤ old.length) :
    ∃ W', (storeCells ⟨g, o, none⟩ (cs.map (Value.int .u8)) 0).run Tryd.prog W = .ok () W' ∧ W'.heap[g]? = some (.cells (old.take o ++ cs.map (Value.int .u8) ++ old.drop (o + cs.length)).toArray T (0, 0)) ∧ Touch [g] W W' := by
  have hst := run_storeCells_at Tryd.prog g o T (cs.map (Value.int .u8)) 0 old.toArray W hg (by simp; omega) (by intro v hv; obtain ⟨x, _, rfl⟩ := List.mem_map.1 hv; rfl)
  refine ⟨_, hst, ?_, ⟨rfl, rfl, rfl, by simp, fun i hi hn => setRow_other W g i _ (by simpa using hn)⟩⟩
  rw [setRow_heap W g old.toArray _ T _ hg]
  simp
/-- Bytes copied into the midst of a block. -/
theorem copy_gen (W : World) (g o n c g2 m c2 : Nat) (T : TypeId) (old : List Value) (cs : List Int) (hg : W.heap[g]? = some (.cells old.toArray T (0, 0))) (hm : cs.length = m) (hn : m ≤ n) (hl : o + m ≤ old.length) (hc : ∀ j x, cs[j]? = some x → W.cell? ⟨g2, j, none⟩ = some (.int .u8 x)) :
    ∃ W', (Builtin.copy_ #[68, 68] 3 #[.slice (some ⟨g, o, none⟩) n c, .slice (some ⟨g2, 0, none⟩) m c2]).run Tryd.prog W = .ok (goInt m) W' ∧ W'.heap[g]? = some (.cells (old.take o ++ cs.map (Value.int .u8) ++ old.drop (o + m)).toArray T (0, 0)) ∧ Touch [g] W W' := by
  obtain ⟨i, hi, hs⟩ := infoB
  subst hm
  obtain ⟨W', hst, h2, h3⟩ := set_gen W g o T old cs hg hl
  refine ⟨W', ?_, h2, h3⟩
  have hmin : Nat.min cs.length n = cs.length := Nat.min_eq_left hn
  have hld := run_loadCells_list (P := Tryd.prog) W ⟨g2, 0, none⟩ (cs.map (Value.int .u8)) (by
    intro j v hj
    rw [Addr.add_lit, Nat.zero_add]
    rw [List.getElem?_map, Option.map_eq_some_iff] at hj
    obtain ⟨x, hx, rfl⟩ := hj
    exact hc j x hx)
  simp only [List.length_map] at hld
  simp [Builtin.copy_, run_underlying Tryd.underlying68, Builtin.lenOf, Builtin.firstCells, sizeOf, typeInfo, hi, hs, hmin, hld, hst]
theorem wpList_copy_gen {ops : Array Oper} {rest : List Oper} {op : Oper} {a : Act} {Q : Exit → Act → World → Prop} (hgd : op.guard = none) (d x : Operand)
    (ho : op.op = .call { callee := .builtin .copy, args := #[d, x], argTypes := #[68, 68] }) (hty : op.type = 3) (W : World) (g o n c g2 m c2 : Nat) (T : TypeId) (old : List Value) (cs : List Int) (hd : a.eval d = .slice (some ⟨g, o, none⟩) n c) (hx : a.eval x = .slice (some ⟨g2, 0, none⟩) m c2)
    (hg : W.heap[g]? = some (.cells old.toArray T (0, 0))) (hm : cs.length = m) (hn : m ≤ n) (hl : o + m ≤ old.length) (hc : ∀ j x, cs[j]? = some x → W.cell? ⟨g2, j, none⟩ = some (.int .u8 x))
    (h : ∀ W', W'.heap[g]? = some (.cells (old.take o ++ cs.map (Value.int .u8) ++ old.drop (o + m)).toArray T (0, 0)) → Touch [g] W W' → wpList Tryd.prog ops Q rest (a.put op.dst (goInt m)) W') : wpList Tryd.prog ops Q (op :: rest) a W := by
  refine wpList_plain hgd fun K hK => ?_
  obtain ⟨W', hr, h2, h3⟩ := copy_gen W g o n c g2 m c2 T old cs hg hm hn hl hc
  unfold Oper.wp execOp
  simp only [ho, hty, resolve, invoke, builtin, Sem.run_bind, Sem.run_pure, Result.andThen_ok, List.map_toArray, List.map_cons, List.map_nil, hd, hx, hr]
  exact hK _ _ (h W' h2 h3)
/-- The bytes of a prefix. -/
def lead (cs : List Int) : List Int := cs ++ List.replicate (16 - cs.length) 0
theorem pfx_copied (b : Bool) (bits : Int) (cs : List Int) (hl : cs.length ≤ 16) : (pfx b (List.replicate 16 0) bits).take 1 ++ cs.map (Value.int .u8) ++ (pfx b (List.replicate 16 0) bits).drop (1 + cs.length) = pfx b (lead cs) bits := by
  have e1 : pfx b (List.replicate 16 0) bits = .bool b :: ((List.replicate 16 (Value.int .u8 0)) ++ [.int .i64 bits]) := by simp [pfx, adr]
  rw [e1, Nat.add_comm 1, List.drop_succ_cons, List.take_succ_cons, List.take_zero, List.drop_append_of_le_length (by simpa using hl), List.drop_replicate]
  simp [pfx, adr, lead]
set_option maxRecDepth 100000 in
theorem built_flag (b : Bool) : Tryd.prog.built 28 [(0, .bool b)] = some (adr b (List.replicate 16 0)).toArray := by kernel_rfl
set_option maxRecDepth 100000 in
set_option maxHeartbeats 4000000 in
theorem hp_any (b : Bool) (xs : List Int) (bits : Int) (cs : List Int) (g m c : Nat) (h : okB xs) (hv : vld b xs = true) (hm : cs.length = m) (hm16 : m ≤ 16) (hp : okB (lead cs)) (hpv : vld b (lead cs) = true) (hb0 : 0 ≤ bits) (hb1 : bits ≤ blen b) (ht : trunc bits (lead cs) = lead cs) (w : World) (hc : ∀ j x, cs[j]? = some x → w.cell? ⟨g, j, none⟩ = some (.int .u8 x)) :
    Calls Tryd.prog 44 #[.agg (adr b xs).toArray, .int .i64 bits, .slice (some ⟨g, 0, none⟩) m c] w fun e w' => e = .returned (.bool (decide (trunc bits xs = lead cs))) ∧ Touch [] w w' := by
  have HCO := Lib.hid (fun w => cont_any b (lead cs) bits xs hp hpv hb0 hb1 ht h hv w)
  obtain ⟨zs, hzs⟩ : ∃ zs : List Int, zs = List.replicate 16 0 := ⟨_, rfl⟩
  have hzl : zs.length = 16 := by rw [hzs]; rfl
  have hcp := pfx_copied b bits cs (by omega)
  have hbf := built_flag b
  rw [← hzs] at hcp hbf
  obtain ⟨A, hA⟩ : ∃ A, A = Obj.cells (adr b xs).toArray 28 := ⟨_, rfl⟩
  obtain ⟨B, hB⟩ : ∃ B, B = Obj.cells (pfx false (List.replicate 16 0) 0).toArray 52 := ⟨_, rfl⟩
  have t0 := ((Touch.refl [] w).alloc A).alloc B
  have g1 := ((Touch.refl [] (w.alloc A)).alloc B).at (heap_alloc_new w A) (by simp)
  have g2 := heap_alloc2_new w A B
  subst hA hB
  have a0 : (adr b xs)[0]? = some (.bool b) := rfl
  have HT := Lib.hid t0
  have HG1 := Lib.hid g1
  have HG2 := Lib.hid g2
  have HL17 := Lib.hid (show (adr b xs).length = 17 by simp [adr, h.1])
  have HP18 := Lib.hid (show (pfx b zs bits).length = 18 by simp [pfx, adr, hzl])
  have HQ18 := Lib.hid (show (pfx b (lead cs) bits).length = 18 by simp [pfx, adr, hp.1])
  have HCP := Lib.hid hcp
  have HBF := Lib.hid hbf
  have HZL := Lib.hid hzl
  have HM := Lib.hid hm
  have HC := Lib.hid hc
  clear h hv hp hpv ht hb0 hb1 t0 g1 g2 hcp hbf hzs hzl hm hc
  go_enter Tryd.func44, Tryd.ntmps44
  go_wp2_with (first
    | (refine wpList_built (by rfl) 28 _ (by rfl) _ _ (by rfl) HBF.out ?_)
    | (refine wpList_built (by rfl) 52 _ (by rfl) _ _ (by rfl) (built_pfx b zs bits HZL.out) ?_)
    | (refine wpList_store_into rfl 52 _ _ rfl (w.heap.size + 1) 52 _ (pfx b zs bits) rfl rfl HG2.out (by rw [HP18.out]; rfl) (by rw [sizeP, HP18.out]) (by intro v hv; exact prw_one b zs bits 0 0 v (List.mem_append_left _ hv)) ?_))
  intro W1 h1 t1 z1
  have HT1 := Lib.hid (HT.out.trans t1 (by intro y hy; right; simp at hy; omega))
  have HG11 := Lib.hid (t1.at HG1.out (by simp))
  have HG21 := Lib.hid h1
  have HC1 := Lib.hid (fun j x hx => t1.cell ((HT.out.mono (S' := []) (by simp)).cell (HC.out j x hx) (by simp)) (by simp; intro e; have := World.block_lt_of_cell? w _ (HC.out j x hx); simp at this; omega))
  clear h1 t1 z1 HT HG1 HG2
  go_wp2_with (refine wpList_copy_gen (by rfl) _ _ (by rfl) (by rfl) _ (w.heap.size + 1) 1 16 16 g m c 52 (pfx b zs bits) cs (by rfl) (by rfl) (by exact HG21.out) HM.out hm16 (by rw [HP18.out]; omega) (by exact HC1.out) ?_)
  intro W2 h2 t2
  rw [← List.append_assoc, ← HM.out, HCP.out] at h2
  have HT2 := Lib.hid (HT1.out.trans t2 (by intro y hy; right; simp at hy; omega))
  have R1 := range_block (t2.at HG11.out (by simp))
  have R2 := range_block h2
  try simp only [Act.put]
  clear h2 t2 HG11 HG21 HC1 HT1
  go_wp2_with (first
    | (refine wpList_load_mid rfl 52 _ rfl (w.heap.size + 1) 0 rfl (pfx b (lead cs) bits) _ R2 Tryd.underlying52 rfl (by rw [sizeP, HQ18.out]) ?_)
    | (refine wpList_load_mid rfl 28 _ rfl w.heap.size 0 rfl (adr b xs) _ R1 Tryd.underlying28 rfl (by rw [size31, HL17.out]) ?_))
  refine (HCO.out _).mono ?_
  rintro e w4 ⟨rfl, t4⟩
  have HT4 := Lib.hid (HT2.out.trans t4 (by simp))
  clear t4 R1 R2
  go_wp2_with fail
  go_ret
  exact ⟨rfl, HT4.out⟩
end Go.Proofs.YtecaakgpogabjaaDoor

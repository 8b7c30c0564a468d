/-
  Merged texts: Sc, Cp, Cm.
-/
import Derived.Test.YtecaakgpogabjaaDoorKB5

/-
  The contract of Scope.
-/
namespace Go.Proofs.YtecaakgpogabjaaDoor
open Go.RowKit
set_option linter.unusedVariables false
set_option linter.unusedSimpArgs false

/-- The scope of an address, as the program reckons it. -/
def hpP (bits : Int) (cs xs : List Int) : Bool := decide (trunc bits xs = lead cs)
def onev6 : List Int := [0, 0, 0, 0, 0, 0, 0, 0, 0, 0, 0, 0, 0, 0, 0, 1]
def scopeP (b : Bool) (xs : List Int) : Int :=
  if !vld b xs then -1
  else if !b then (if hpP 8 [127] xs || hpP 16 [169, 254] xs then 2 else 14)
  else if xs.headD 0 = 255 then xs.tail.headD 0 % 16
  else if decide (xs = onev6) || hpP 10 [254, 128] xs then 2
  else if hpP 10 [254, 192] xs then 5 else 14
theorem hp_lit (b : Bool) (bits : Int) (cs : List Int) (hm16 : cs.length ≤ 16) (hp : okB (lead cs)) (hpv : vld b (lead cs) = true) (hb0 : 0 ≤ bits) (hb1 : bits ≤ blen b) (ht : trunc bits (lead cs) = lead cs) (xs : List Int) (h : okB xs) (hv : vld b xs = true) (g c : Nat) (w : World) (T : TypeId) (hc : w.heap[g]? = some (.cells (cs.map (Value.int .u8)).toArray T (0, 0))) :
    Calls Tryd.prog 44 #[.agg (adr b xs).toArray, .int .i64 bits, .slice (some ⟨g, 0, none⟩) cs.length c] w fun e w' => e = .returned (.bool (hpP bits cs xs)) ∧ Touch [] w w' :=
  hp_any b xs bits cs g cs.length c h hv rfl hm16 hp hpv hb0 hb1 ht w (by
    intro j x hx
    rw [cell_of_row _ _ _ _ _ _ hc]
    simp [hx])
theorem okB_dec {xs : List Int} (h : xs.length = 16 ∧ (xs.all fun x => decide (0 ≤ x ∧ x ≤ 255)) = true) : okB xs := ⟨h.1, fun x hx => by simpa using List.all_eq_true.1 h.2 x hx⟩
set_option maxRecDepth 100000 in
theorem built_one : Tryd.prog.built 28 [(0, .bool true), (1, .agg #[.int .u8 0, .int .u8 0, .int .u8 0, .int .u8 0, .int .u8 0, .int .u8 0, .int .u8 0, .int .u8 0, .int .u8 0, .int .u8 0, .int .u8 0, .int .u8 0, .int .u8 0, .int .u8 0, .int .u8 0, .int .u8 1])] = some (adr true onev6).toArray := by kernel_rfl
set_option maxRecDepth 100000 in
set_option maxHeartbeats 4000000 in
theorem sc_bad (xs : List Int) (h : okB xs) (hv : vld false xs = false) (w : World) :
    Calls Tryd.prog 36 #[.agg (adr false xs).toArray] w fun e w' => e = .returned (.int .i64 (scopeP false xs)) ∧ Touch [] w w' := by
  have HS := Lib.hid (show scopeP false xs = -1 by simp [scopeP, hv])
  have g0 := ((Touch.refl [] w).alloc (.cells (adr false xs).toArray 28)).alloc (.cells (adr false (List.replicate 16 0)).toArray 28)
  have g1 := ((Touch.refl [] (w.alloc (.cells (adr false xs).toArray 28))).alloc (.cells (adr false (List.replicate 16 0)).toArray 28)).at (heap_alloc_new w (.cells (adr false xs).toArray 28)) (by simp)
  have g2 := heap_alloc2_new w (.cells (adr false xs).toArray 28) (.cells (adr false (List.replicate 16 0)).toArray 28)
  have HL17 := Lib.hid (show (adr false xs).length = 17 by simp [adr, h.1])
  have HT := Lib.hid g0
  have HG1 := Lib.hid g1
  have HG2 := Lib.hid g2
  have HV := Lib.hid hv
  have HVA := Lib.hid (ipvalid_any false xs h)
  clear g0 g1 g2 h hv
  go_enter Tryd.func36, Tryd.ntmps36
  go_wp2_with (first
    | ((with_reducible refine at_build 28 ?_); refine wpList_built (by rfl) 28 _ (by rfl) _ _ (by rfl) built_one ?_)
    | ((with_reducible refine at_store 28 ?_); refine wpList_store_into rfl 28 _ _ rfl (w.heap.size + 1) 28 _ (adr true onev6) rfl rfl HG2.out rfl size31 (adr_one _ _) ?_))
  intro w1 h1 t1 z1
  have HT1 := Lib.hid (HT.out.trans t1 (by intro y hy; right; simp at hy; omega))
  have A1 := Lib.hid (t1.at HG1.out (by simp))
  have L1 := Lib.hid h1
  have RA := range_block A1.out
  have RL := range_block L1.out
  clear h1 t1 z1 HT HG1 HG2
  go_wp2_with (first
    | ((with_reducible refine at_load 28 ?_); refine wpList_load_mid rfl 28 _ rfl w.heap.size 0 rfl (adr false xs) _ RA Tryd.underlying28 rfl (by rw [size31, HL17.out]) ?_))
  refine (HVA.out _).mono ?_
  rintro e w2 ⟨he, t2⟩
  rw [HV.out] at he
  subst he
  have HT2 := Lib.hid (HT1.out.trans t2 (by simp))
  have A2 := Lib.hid (t2.at A1.out (by simp))
  have L2 := Lib.hid (t2.at L1.out (by simp))
  have RA := range_block A2.out
  have RL := range_block L2.out
  have CA := Lib.hid (adr_cell A2.out)
  clear t2 HT1 A1 L1
  obtain ⟨c0, cj⟩ := CA.out
  clear cj
  go_wp2_with (first
    | ((with_reducible refine at_load 28 ?_); refine wpList_load_mid rfl 28 _ rfl w.heap.size 0 rfl (adr false xs) _ RA Tryd.underlying28 rfl (by rw [size31, HL17.out]) ?_)
    | ((with_reducible refine at_load_g 28 3 true ?_); refine wpList_load_gg 3 true rfl (by rfl) 28 _ rfl w.heap.size 0 rfl (adr false xs) _ RA Tryd.underlying28 rfl (by rw [size31, HL17.out]) ?_)
    | ((with_reducible refine at_load 28 ?_); refine wpList_load_mid rfl 28 _ rfl (w.heap.size + 1) 0 rfl (adr true onev6) _ RL Tryd.underlying28 rfl (by rw [size31]; rfl) ?_)
    | ((with_reducible refine at_bin .eql 28 ?_); refine wpList_eql_agg rfl 28 _ _ _ rfl _ _ rfl rfl (by kernel_rfl) _ (HEQ.out _) ?_))
  go_ret
  exact ⟨by rw [HS.out]; rfl, HT2.out⟩
set_option maxRecDepth 100000 in
set_option maxHeartbeats 4000000 in
theorem sc_4a (xs : List Int) (h : okB xs) (hv : vld false xs = true) (hp1 : hpP 8 [127] xs = true) (w : World) :
    Calls Tryd.prog 36 #[.agg (adr false xs).toArray] w fun e w' => e = .returned (.int .i64 (scopeP false xs)) ∧ Touch [] w w' := by
  have H1 := Lib.hid (hp_lit false 8 [127] (by decide) (okB_dec (by decide)) (by decide) (by decide) (by decide) (by decide) xs h hv)
  have P1 := Lib.hid hp1
  have HS := Lib.hid (show scopeP false xs = 2 by simp [scopeP, hv, hp1])
  clear hp1
  have g0 := ((Touch.refl [] w).alloc (.cells (adr false xs).toArray 28)).alloc (.cells (adr false (List.replicate 16 0)).toArray 28)
  have g1 := ((Touch.refl [] (w.alloc (.cells (adr false xs).toArray 28))).alloc (.cells (adr false (List.replicate 16 0)).toArray 28)).at (heap_alloc_new w (.cells (adr false xs).toArray 28)) (by simp)
  have g2 := heap_alloc2_new w (.cells (adr false xs).toArray 28) (.cells (adr false (List.replicate 16 0)).toArray 28)
  have HL17 := Lib.hid (show (adr false xs).length = 17 by simp [adr, h.1])
  have HT := Lib.hid g0
  have HG1 := Lib.hid g1
  have HG2 := Lib.hid g2
  have HV := Lib.hid hv
  have HVA := Lib.hid (ipvalid_any false xs h)
  clear g0 g1 g2 h hv
  go_enter Tryd.func36, Tryd.ntmps36
  go_wp2_with (first
    | ((with_reducible refine at_build 28 ?_); refine wpList_built (by rfl) 28 _ (by rfl) _ _ (by rfl) built_one ?_)
    | ((with_reducible refine at_store 28 ?_); refine wpList_store_into rfl 28 _ _ rfl (w.heap.size + 1) 28 _ (adr true onev6) rfl rfl HG2.out rfl size31 (adr_one _ _) ?_))
  intro w1 h1 t1 z1
  have HT1 := Lib.hid (HT.out.trans t1 (by intro y hy; right; simp at hy; omega))
  have A1 := Lib.hid (t1.at HG1.out (by simp))
  have L1 := Lib.hid h1
  have RA := range_block A1.out
  have RL := range_block L1.out
  clear h1 t1 z1 HT HG1 HG2
  go_wp2_with (first
    | ((with_reducible refine at_load 28 ?_); refine wpList_load_mid rfl 28 _ rfl w.heap.size 0 rfl (adr false xs) _ RA Tryd.underlying28 rfl (by rw [size31, HL17.out]) ?_))
  refine (HVA.out _).mono ?_
  rintro e w2 ⟨he, t2⟩
  rw [HV.out] at he
  subst he
  have HT2 := Lib.hid (HT1.out.trans t2 (by simp))
  have A2 := Lib.hid (t2.at A1.out (by simp))
  have L2 := Lib.hid (t2.at L1.out (by simp))
  have RA := range_block A2.out
  have RL := range_block L2.out
  have CA := Lib.hid (adr_cell A2.out)
  clear t2 HT1 A1 L1
  obtain ⟨c0, cj⟩ := CA.out
  clear cj
  go_wp2_with (first
    | ((with_reducible refine at_load 28 ?_); refine wpList_load_mid rfl 28 _ rfl w.heap.size 0 rfl (adr false xs) _ RA Tryd.underlying28 rfl (by rw [size31, HL17.out]) ?_)
    | ((with_reducible refine at_load_g 28 3 true ?_); refine wpList_load_gg 3 true rfl (by rfl) 28 _ rfl w.heap.size 0 rfl (adr false xs) _ RA Tryd.underlying28 rfl (by rw [size31, HL17.out]) ?_)
    | ((with_reducible refine at_load 28 ?_); refine wpList_load_mid rfl 28 _ rfl (w.heap.size + 1) 0 rfl (adr true onev6) _ RL Tryd.underlying28 rfl (by rw [size31]; rfl) ?_)
    | ((with_reducible refine at_bin .eql 28 ?_); refine wpList_eql_agg rfl 28 _ _ _ rfl _ _ rfl rfl (by kernel_rfl) _ (HEQ.out _) ?_))
  refine (H1.out _ _ _ 5 (heap_alloc_new _ _)).mono ?_
  rintro e w3 ⟨he, t3⟩
  rw [P1.out] at he
  subst he
  have t3 := ((Touch.refl [] _).alloc _).trans t3 (by simp)
  have HT3 := Lib.hid (HT2.out.trans t3 (by simp))
  have A3 := Lib.hid (t3.at A2.out (by simp))
  have L3 := Lib.hid (t3.at L2.out (by simp))
  have RA := range_block A3.out
  have RL := range_block L3.out
  have CA := Lib.hid (adr_cell A3.out)
  clear t3 HT2 A2 L2
  obtain ⟨c0, cj⟩ := CA.out
  clear cj
  go_wp2_with (first
    | ((with_reducible refine at_load 28 ?_); refine wpList_load_mid rfl 28 _ rfl w.heap.size 0 rfl (adr false xs) _ RA Tryd.underlying28 rfl (by rw [size31, HL17.out]) ?_)
    | ((with_reducible refine at_load_g 28 7 false ?_); refine wpList_load_gg 7 false rfl (by rfl) 28 _ rfl w.heap.size 0 rfl (adr false xs) _ RA Tryd.underlying28 rfl (by rw [size31, HL17.out]) ?_)
    | ((with_reducible refine at_load 28 ?_); refine wpList_load_mid rfl 28 _ rfl (w.heap.size + 1) 0 rfl (adr true onev6) _ RL Tryd.underlying28 rfl (by rw [size31]; rfl) ?_)
    | ((with_reducible refine at_bin .eql 28 ?_); refine wpList_eql_agg rfl 28 _ _ _ rfl _ _ rfl rfl (by kernel_rfl) _ (HEQ.out _) ?_))
  go_ret
  exact ⟨by rw [HS.out]; rfl, HT3.out⟩
set_option maxRecDepth 100000 in
set_option maxHeartbeats 4000000 in
theorem sc_4b (xs : List Int) (h : okB xs) (hv : vld false xs = true) (hp1 : hpP 8 [127] xs = false) (hp2 : hpP 16 [169, 254] xs = true) (w : World) :
    Calls Tryd.prog 36 #[.agg (adr false xs).toArray] w fun e w' => e = .returned (.int .i64 (scopeP false xs)) ∧ Touch [] w w' := by
  have H1 := Lib.hid (hp_lit false 8 [127] (by decide) (okB_dec (by decide)) (by decide) (by decide) (by decide) (by decide) xs h hv)
  have H2 := Lib.hid (hp_lit false 16 [169, 254] (by decide) (okB_dec (by decide)) (by decide) (by decide) (by decide) (by decide) xs h hv)
  have P1 := Lib.hid hp1
  have P2 := Lib.hid hp2
  have HS := Lib.hid (show scopeP false xs = 2 by simp [scopeP, hv, hp1, hp2])
  clear hp1 hp2
  have g0 := ((Touch.refl [] w).alloc (.cells (adr false xs).toArray 28)).alloc (.cells (adr false (List.replicate 16 0)).toArray 28)
  have g1 := ((Touch.refl [] (w.alloc (.cells (adr false xs).toArray 28))).alloc (.cells (adr false (List.replicate 16 0)).toArray 28)).at (heap_alloc_new w (.cells (adr false xs).toArray 28)) (by simp)
  have g2 := heap_alloc2_new w (.cells (adr false xs).toArray 28) (.cells (adr false (List.replicate 16 0)).toArray 28)
  have HL17 := Lib.hid (show (adr false xs).length = 17 by simp [adr, h.1])
  have HT := Lib.hid g0
  have HG1 := Lib.hid g1
  have HG2 := Lib.hid g2
  have HV := Lib.hid hv
  have HVA := Lib.hid (ipvalid_any false xs h)
  clear g0 g1 g2 h hv
  go_enter Tryd.func36, Tryd.ntmps36
  go_wp2_with (first
    | ((with_reducible refine at_build 28 ?_); refine wpList_built (by rfl) 28 _ (by rfl) _ _ (by rfl) built_one ?_)
    | ((with_reducible refine at_store 28 ?_); refine wpList_store_into rfl 28 _ _ rfl (w.heap.size + 1) 28 _ (adr true onev6) rfl rfl HG2.out rfl size31 (adr_one _ _) ?_))
  intro w1 h1 t1 z1
  have HT1 := Lib.hid (HT.out.trans t1 (by intro y hy; right; simp at hy; omega))
  have A1 := Lib.hid (t1.at HG1.out (by simp))
  have L1 := Lib.hid h1
  have RA := range_block A1.out
  have RL := range_block L1.out
  clear h1 t1 z1 HT HG1 HG2
  go_wp2_with (first
    | ((with_reducible refine at_load 28 ?_); refine wpList_load_mid rfl 28 _ rfl w.heap.size 0 rfl (adr false xs) _ RA Tryd.underlying28 rfl (by rw [size31, HL17.out]) ?_))
  refine (HVA.out _).mono ?_
  rintro e w2 ⟨he, t2⟩
  rw [HV.out] at he
  subst he
  have HT2 := Lib.hid (HT1.out.trans t2 (by simp))
  have A2 := Lib.hid (t2.at A1.out (by simp))
  have L2 := Lib.hid (t2.at L1.out (by simp))
  have RA := range_block A2.out
  have RL := range_block L2.out
  have CA := Lib.hid (adr_cell A2.out)
  clear t2 HT1 A1 L1
  obtain ⟨c0, cj⟩ := CA.out
  clear cj
  go_wp2_with (first
    | ((with_reducible refine at_load 28 ?_); refine wpList_load_mid rfl 28 _ rfl w.heap.size 0 rfl (adr false xs) _ RA Tryd.underlying28 rfl (by rw [size31, HL17.out]) ?_)
    | ((with_reducible refine at_load_g 28 3 true ?_); refine wpList_load_gg 3 true rfl (by rfl) 28 _ rfl w.heap.size 0 rfl (adr false xs) _ RA Tryd.underlying28 rfl (by rw [size31, HL17.out]) ?_)
    | ((with_reducible refine at_load 28 ?_); refine wpList_load_mid rfl 28 _ rfl (w.heap.size + 1) 0 rfl (adr true onev6) _ RL Tryd.underlying28 rfl (by rw [size31]; rfl) ?_)
    | ((with_reducible refine at_bin .eql 28 ?_); refine wpList_eql_agg rfl 28 _ _ _ rfl _ _ rfl rfl (by kernel_rfl) _ (HEQ.out _) ?_))
  refine (H1.out _ _ _ 5 (heap_alloc_new _ _)).mono ?_
  rintro e w3 ⟨he, t3⟩
  rw [P1.out] at he
  subst he
  have t3 := ((Touch.refl [] _).alloc _).trans t3 (by simp)
  have HT3 := Lib.hid (HT2.out.trans t3 (by simp))
  have A3 := Lib.hid (t3.at A2.out (by simp))
  have L3 := Lib.hid (t3.at L2.out (by simp))
  have RA := range_block A3.out
  have RL := range_block L3.out
  have CA := Lib.hid (adr_cell A3.out)
  clear t3 HT2 A2 L2
  obtain ⟨c0, cj⟩ := CA.out
  clear cj
  go_wp2_with (first
    | ((with_reducible refine at_load 28 ?_); refine wpList_load_mid rfl 28 _ rfl w.heap.size 0 rfl (adr false xs) _ RA Tryd.underlying28 rfl (by rw [size31, HL17.out]) ?_)
    | ((with_reducible refine at_load_g 28 7 false ?_); refine wpList_load_gg 7 false rfl (by rfl) 28 _ rfl w.heap.size 0 rfl (adr false xs) _ RA Tryd.underlying28 rfl (by rw [size31, HL17.out]) ?_)
    | ((with_reducible refine at_load 28 ?_); refine wpList_load_mid rfl 28 _ rfl (w.heap.size + 1) 0 rfl (adr true onev6) _ RL Tryd.underlying28 rfl (by rw [size31]; rfl) ?_)
    | ((with_reducible refine at_bin .eql 28 ?_); refine wpList_eql_agg rfl 28 _ _ _ rfl _ _ rfl rfl (by kernel_rfl) _ (HEQ.out _) ?_))
  refine (H2.out _ _ _ 5 (heap_alloc_new _ _)).mono ?_
  rintro e w4 ⟨he, t4⟩
  rw [P2.out] at he
  subst he
  have t4 := ((Touch.refl [] _).alloc _).trans t4 (by simp)
  have HT4 := Lib.hid (HT3.out.trans t4 (by simp))
  have A4 := Lib.hid (t4.at A3.out (by simp))
  have L4 := Lib.hid (t4.at L3.out (by simp))
  have RA := range_block A4.out
  have RL := range_block L4.out
  have CA := Lib.hid (adr_cell A4.out)
  clear t4 HT3 A3 L3
  obtain ⟨c0, cj⟩ := CA.out
  clear cj
  go_wp2_with (first
    | ((with_reducible refine at_load 28 ?_); refine wpList_load_mid rfl 28 _ rfl w.heap.size 0 rfl (adr false xs) _ RA Tryd.underlying28 rfl (by rw [size31, HL17.out]) ?_)
    | ((with_reducible refine at_load_g 28 3 true ?_); refine wpList_load_gg 3 true rfl (by rfl) 28 _ rfl w.heap.size 0 rfl (adr false xs) _ RA Tryd.underlying28 rfl (by rw [size31, HL17.out]) ?_)
    | ((with_reducible refine at_load 28 ?_); refine wpList_load_mid rfl 28 _ rfl (w.heap.size + 1) 0 rfl (adr true onev6) _ RL Tryd.underlying28 rfl (by rw [size31]; rfl) ?_)
    | ((with_reducible refine at_bin .eql 28 ?_); refine wpList_eql_agg rfl 28 _ _ _ rfl _ _ rfl rfl (by kernel_rfl) _ (HEQ.out _) ?_))
  go_ret
  exact ⟨by rw [HS.out]; rfl, HT4.out⟩
set_option maxRecDepth 100000 in
set_option maxHeartbeats 4000000 in
theorem sc_4c (xs : List Int) (h : okB xs) (hv : vld false xs = true) (hp1 : hpP 8 [127] xs = false) (hp2 : hpP 16 [169, 254] xs = false) (w : World) :
    Calls Tryd.prog 36 #[.agg (adr false xs).toArray] w fun e w' => e = .returned (.int .i64 (scopeP false xs)) ∧ Touch [] w w' := by
  have H1 := Lib.hid (hp_lit false 8 [127] (by decide) (okB_dec (by decide)) (by decide) (by decide) (by decide) (by decide) xs h hv)
  have H2 := Lib.hid (hp_lit false 16 [169, 254] (by decide) (okB_dec (by decide)) (by decide) (by decide) (by decide) (by decide) xs h hv)
  have P1 := Lib.hid hp1
  have P2 := Lib.hid hp2
  have HS := Lib.hid (show scopeP false xs = 14 by simp [scopeP, hv, hp1, hp2])
  clear hp1 hp2
  have g0 := ((Touch.refl [] w).alloc (.cells (adr false xs).toArray 28)).alloc (.cells (adr false (List.replicate 16 0)).toArray 28)
  have g1 := ((Touch.refl [] (w.alloc (.cells (adr false xs).toArray 28))).alloc (.cells (adr false (List.replicate 16 0)).toArray 28)).at (heap_alloc_new w (.cells (adr false xs).toArray 28)) (by simp)
  have g2 := heap_alloc2_new w (.cells (adr false xs).toArray 28) (.cells (adr false (List.replicate 16 0)).toArray 28)
  have HL17 := Lib.hid (show (adr false xs).length = 17 by simp [adr, h.1])
  have HT := Lib.hid g0
  have HG1 := Lib.hid g1
  have HG2 := Lib.hid g2
  have HV := Lib.hid hv
  have HVA := Lib.hid (ipvalid_any false xs h)
  clear g0 g1 g2 h hv
  go_enter Tryd.func36, Tryd.ntmps36
  go_wp2_with (first
    | ((with_reducible refine at_build 28 ?_); refine wpList_built (by rfl) 28 _ (by rfl) _ _ (by rfl) built_one ?_)
    | ((with_reducible refine at_store 28 ?_); refine wpList_store_into rfl 28 _ _ rfl (w.heap.size + 1) 28 _ (adr true onev6) rfl rfl HG2.out rfl size31 (adr_one _ _) ?_))
  intro w1 h1 t1 z1
  have HT1 := Lib.hid (HT.out.trans t1 (by intro y hy; right; simp at hy; omega))
  have A1 := Lib.hid (t1.at HG1.out (by simp))
  have L1 := Lib.hid h1
  have RA := range_block A1.out
  have RL := range_block L1.out
  clear h1 t1 z1 HT HG1 HG2
  go_wp2_with (first
    | ((with_reducible refine at_load 28 ?_); refine wpList_load_mid rfl 28 _ rfl w.heap.size 0 rfl (adr false xs) _ RA Tryd.underlying28 rfl (by rw [size31, HL17.out]) ?_))
  refine (HVA.out _).mono ?_
  rintro e w2 ⟨he, t2⟩
  rw [HV.out] at he
  subst he
  have HT2 := Lib.hid (HT1.out.trans t2 (by simp))
  have A2 := Lib.hid (t2.at A1.out (by simp))
  have L2 := Lib.hid (t2.at L1.out (by simp))
  have RA := range_block A2.out
  have RL := range_block L2.out
  have CA := Lib.hid (adr_cell A2.out)
  clear t2 HT1 A1 L1
  obtain ⟨c0, cj⟩ := CA.out
  clear cj
  go_wp2_with (first
    | ((with_reducible refine at_load 28 ?_); refine wpList_load_mid rfl 28 _ rfl w.heap.size 0 rfl (adr false xs) _ RA Tryd.underlying28 rfl (by rw [size31, HL17.out]) ?_)
    | ((with_reducible refine at_load_g 28 3 true ?_); refine wpList_load_gg 3 true rfl (by rfl) 28 _ rfl w.heap.size 0 rfl (adr false xs) _ RA Tryd.underlying28 rfl (by rw [size31, HL17.out]) ?_)
    | ((with_reducible refine at_load 28 ?_); refine wpList_load_mid rfl 28 _ rfl (w.heap.size + 1) 0 rfl (adr true onev6) _ RL Tryd.underlying28 rfl (by rw [size31]; rfl) ?_)
    | ((with_reducible refine at_bin .eql 28 ?_); refine wpList_eql_agg rfl 28 _ _ _ rfl _ _ rfl rfl (by kernel_rfl) _ (HEQ.out _) ?_))
  refine (H1.out _ _ _ 5 (heap_alloc_new _ _)).mono ?_
  rintro e w3 ⟨he, t3⟩
  rw [P1.out] at he
  subst he
  have t3 := ((Touch.refl [] _).alloc _).trans t3 (by simp)
  have HT3 := Lib.hid (HT2.out.trans t3 (by simp))
  have A3 := Lib.hid (t3.at A2.out (by simp))
  have L3 := Lib.hid (t3.at L2.out (by simp))
  have RA := range_block A3.out
  have RL := range_block L3.out
  have CA := Lib.hid (adr_cell A3.out)
  clear t3 HT2 A2 L2
  obtain ⟨c0, cj⟩ := CA.out
  clear cj
  go_wp2_with (first
    | ((with_reducible refine at_load 28 ?_); refine wpList_load_mid rfl 28 _ rfl w.heap.size 0 rfl (adr false xs) _ RA Tryd.underlying28 rfl (by rw [size31, HL17.out]) ?_)
    | ((with_reducible refine at_load_g 28 7 false ?_); refine wpList_load_gg 7 false rfl (by rfl) 28 _ rfl w.heap.size 0 rfl (adr false xs) _ RA Tryd.underlying28 rfl (by rw [size31, HL17.out]) ?_)
    | ((with_reducible refine at_load 28 ?_); refine wpList_load_mid rfl 28 _ rfl (w.heap.size + 1) 0 rfl (adr true onev6) _ RL Tryd.underlying28 rfl (by rw [size31]; rfl) ?_)
    | ((with_reducible refine at_bin .eql 28 ?_); refine wpList_eql_agg rfl 28 _ _ _ rfl _ _ rfl rfl (by kernel_rfl) _ (HEQ.out _) ?_))
  refine (H2.out _ _ _ 5 (heap_alloc_new _ _)).mono ?_
  rintro e w4 ⟨he, t4⟩
  rw [P2.out] at he
  subst he
  have t4 := ((Touch.refl [] _).alloc _).trans t4 (by simp)
  have HT4 := Lib.hid (HT3.out.trans t4 (by simp))
  have A4 := Lib.hid (t4.at A3.out (by simp))
  have L4 := Lib.hid (t4.at L3.out (by simp))
  have RA := range_block A4.out
  have RL := range_block L4.out
  have CA := Lib.hid (adr_cell A4.out)
  clear t4 HT3 A3 L3
  obtain ⟨c0, cj⟩ := CA.out
  clear cj
  go_wp2_with (first
    | ((with_reducible refine at_load 28 ?_); refine wpList_load_mid rfl 28 _ rfl w.heap.size 0 rfl (adr false xs) _ RA Tryd.underlying28 rfl (by rw [size31, HL17.out]) ?_)
    | ((with_reducible refine at_load_g 28 3 true ?_); refine wpList_load_gg 3 true rfl (by rfl) 28 _ rfl w.heap.size 0 rfl (adr false xs) _ RA Tryd.underlying28 rfl (by rw [size31, HL17.out]) ?_)
    | ((with_reducible refine at_load 28 ?_); refine wpList_load_mid rfl 28 _ rfl (w.heap.size + 1) 0 rfl (adr true onev6) _ RL Tryd.underlying28 rfl (by rw [size31]; rfl) ?_)
    | ((with_reducible refine at_bin .eql 28 ?_); refine wpList_eql_agg rfl 28 _ _ _ rfl _ _ rfl rfl (by kernel_rfl) _ (HEQ.out _) ?_))
  go_ret
  exact ⟨by rw [HS.out]; rfl, HT4.out⟩
set_option maxRecDepth 100000 in
set_option maxHeartbeats 4000000 in
theorem sc_6a (xs : List Int) (h : okB xs) (hx : xs.headD 0 = 255) (w : World) :
    Calls Tryd.prog 36 #[.agg (adr true xs).toArray] w fun e w' => e = .returned (.int .i64 (scopeP true xs)) ∧ Touch [] w w' := by
  have hv : vld true xs = true := rfl
  obtain ⟨x0, hx0⟩ : ∃ x, xs[0]? = some x := ⟨_, List.getElem?_eq_getElem (by have := h.1; omega)⟩
  obtain ⟨x1, hx1⟩ : ∃ x, xs[1]? = some x := ⟨_, List.getElem?_eq_getElem (by have := h.1; omega)⟩
  have e0 : xs.headD 0 = x0 := by cases xs with | nil => simp at hx0 | cons y l => simpa using hx0
  have e1 : xs.tail.headD 0 = x1 := by cases xs with | nil => simp at hx0 | cons y l => cases l with | nil => simp at hx1 | cons z l => simpa using hx1
  have r1 := h.2 x1 (List.mem_of_getElem? hx1)
  have HS := Lib.hid (show scopeP true xs = x1 % 16 by unfold scopeP; rw [if_neg (by simp [hv]), if_neg (by simp), if_pos hx, e1])
  rw [e0] at hx
  subst hx
  clear e0 e1
  have g0 := ((Touch.refl [] w).alloc (.cells (adr true xs).toArray 28)).alloc (.cells (adr false (List.replicate 16 0)).toArray 28)
  have g1 := ((Touch.refl [] (w.alloc (.cells (adr true xs).toArray 28))).alloc (.cells (adr false (List.replicate 16 0)).toArray 28)).at (heap_alloc_new w (.cells (adr true xs).toArray 28)) (by simp)
  have g2 := heap_alloc2_new w (.cells (adr true xs).toArray 28) (.cells (adr false (List.replicate 16 0)).toArray 28)
  have HL17 := Lib.hid (show (adr true xs).length = 17 by simp [adr, h.1])
  have HT := Lib.hid g0
  have HG1 := Lib.hid g1
  have HG2 := Lib.hid g2
  have HV := Lib.hid hv
  have HVA := Lib.hid (ipvalid_any true xs h)
  clear g0 g1 g2 h hv
  go_enter Tryd.func36, Tryd.ntmps36
  go_wp2_with (first
    | ((with_reducible refine at_build 28 ?_); refine wpList_built (by rfl) 28 _ (by rfl) _ _ (by rfl) built_one ?_)
    | ((with_reducible refine at_store 28 ?_); refine wpList_store_into rfl 28 _ _ rfl (w.heap.size + 1) 28 _ (adr true onev6) rfl rfl HG2.out rfl size31 (adr_one _ _) ?_))
  intro w1 h1 t1 z1
  have HT1 := Lib.hid (HT.out.trans t1 (by intro y hy; right; simp at hy; omega))
  have A1 := Lib.hid (t1.at HG1.out (by simp))
  have L1 := Lib.hid h1
  have RA := range_block A1.out
  have RL := range_block L1.out
  clear h1 t1 z1 HT HG1 HG2
  go_wp2_with (first
    | ((with_reducible refine at_load 28 ?_); refine wpList_load_mid rfl 28 _ rfl w.heap.size 0 rfl (adr true xs) _ RA Tryd.underlying28 rfl (by rw [size31, HL17.out]) ?_))
  refine (HVA.out _).mono ?_
  rintro e w2 ⟨he, t2⟩
  rw [HV.out] at he
  subst he
  have HT2 := Lib.hid (HT1.out.trans t2 (by simp))
  have A2 := Lib.hid (t2.at A1.out (by simp))
  have L2 := Lib.hid (t2.at L1.out (by simp))
  have RA := range_block A2.out
  have RL := range_block L2.out
  have CA := Lib.hid (adr_cell A2.out)
  clear t2 HT1 A1 L1
  obtain ⟨c0, cj⟩ := CA.out
  have c1 : _ = some (Value.int IntKind.u8 255) := cj 0 255 hx0
  have c2 : _ = some (Value.int IntKind.u8 x1) := cj 1 x1 hx1
  simp only [Nat.add_zero, Nat.reduceAdd] at c1 c2
  clear cj
  go_wp2_with (first
    | ((with_reducible refine at_load 28 ?_); refine wpList_load_mid rfl 28 _ rfl w.heap.size 0 rfl (adr true xs) _ RA Tryd.underlying28 rfl (by rw [size31, HL17.out]) ?_)
    | ((with_reducible refine at_load_g 28 3 false ?_); refine wpList_load_gg 3 false rfl (by rfl) 28 _ rfl w.heap.size 0 rfl (adr true xs) _ RA Tryd.underlying28 rfl (by rw [size31, HL17.out]) ?_)
    | ((with_reducible refine at_load 28 ?_); refine wpList_load_mid rfl 28 _ rfl (w.heap.size + 1) 0 rfl (adr true onev6) _ RL Tryd.underlying28 rfl (by rw [size31]; rfl) ?_)
    | ((with_reducible refine at_bin .eql 28 ?_); refine wpList_eql_agg rfl 28 _ _ _ rfl _ _ rfl rfl (by kernel_rfl) _ (HEQ.out _) ?_))
  go_ret
  exact ⟨by rw [HS.out]; rfl, HT2.out⟩
set_option maxRecDepth 100000 in
set_option maxHeartbeats 4000000 in
theorem sc_6b (xs : List Int) (h : okB xs) (hx : xs.headD 0 ≠ 255) (ho : xs = onev6) (w : World) :
    Calls Tryd.prog 36 #[.agg (adr true xs).toArray] w fun e w' => e = .returned (.int .i64 (scopeP true xs)) ∧ Touch [] w w' := by
  have hv : vld true xs = true := rfl
  obtain ⟨x0, hx0⟩ : ∃ x, xs[0]? = some x := ⟨_, List.getElem?_eq_getElem (by have := h.1; omega)⟩
  obtain ⟨x1, hx1⟩ : ∃ x, xs[1]? = some x := ⟨_, List.getElem?_eq_getElem (by have := h.1; omega)⟩
  have e0 : xs.headD 0 = x0 := by cases xs with | nil => simp at hx0 | cons y l => simpa using hx0
  have e1 : xs.tail.headD 0 = x1 := by cases xs with | nil => simp at hx0 | cons y l => cases l with | nil => simp at hx1 | cons z l => simpa using hx1
  have r1 := h.2 x1 (List.mem_of_getElem? hx1)
  have HEQ := Lib.hid (fun w => (show (Op.equalIn 10000 28 (.agg (adr true xs).toArray) (.agg (adr true onev6).toArray)).run Tryd.prog w = .ok true w by rw [eq_ads _ _ _ _ h (okB_dec (by decide))]; simp [ho]))
  have hne : ¬ x0 = 255 := by rw [← e0]; exact hx
  have HS := Lib.hid (show scopeP true xs = 2 by unfold scopeP; rw [if_neg (by simp [hv]), if_neg (by simp), if_neg hx, if_pos (by simp [ho])])
  clear e0 e1 hx ho
  have g0 := ((Touch.refl [] w).alloc (.cells (adr true xs).toArray 28)).alloc (.cells (adr false (List.replicate 16 0)).toArray 28)
  have g1 := ((Touch.refl [] (w.alloc (.cells (adr true xs).toArray 28))).alloc (.cells (adr false (List.replicate 16 0)).toArray 28)).at (heap_alloc_new w (.cells (adr true xs).toArray 28)) (by simp)
  have g2 := heap_alloc2_new w (.cells (adr true xs).toArray 28) (.cells (adr false (List.replicate 16 0)).toArray 28)
  have HL17 := Lib.hid (show (adr true xs).length = 17 by simp [adr, h.1])
  have HT := Lib.hid g0
  have HG1 := Lib.hid g1
  have HG2 := Lib.hid g2
  have HV := Lib.hid hv
  have HVA := Lib.hid (ipvalid_any true xs h)
  clear g0 g1 g2 h hv
  go_enter Tryd.func36, Tryd.ntmps36
  go_wp2_with (first
    | ((with_reducible refine at_build 28 ?_); refine wpList_built (by rfl) 28 _ (by rfl) _ _ (by rfl) built_one ?_)
    | ((with_reducible refine at_store 28 ?_); refine wpList_store_into rfl 28 _ _ rfl (w.heap.size + 1) 28 _ (adr true onev6) rfl rfl HG2.out rfl size31 (adr_one _ _) ?_))
  intro w1 h1 t1 z1
  have HT1 := Lib.hid (HT.out.trans t1 (by intro y hy; right; simp at hy; omega))
  have A1 := Lib.hid (t1.at HG1.out (by simp))
  have L1 := Lib.hid h1
  have RA := range_block A1.out
  have RL := range_block L1.out
  clear h1 t1 z1 HT HG1 HG2
  go_wp2_with (first
    | ((with_reducible refine at_load 28 ?_); refine wpList_load_mid rfl 28 _ rfl w.heap.size 0 rfl (adr true xs) _ RA Tryd.underlying28 rfl (by rw [size31, HL17.out]) ?_))
  refine (HVA.out _).mono ?_
  rintro e w2 ⟨he, t2⟩
  rw [HV.out] at he
  subst he
  have HT2 := Lib.hid (HT1.out.trans t2 (by simp))
  have A2 := Lib.hid (t2.at A1.out (by simp))
  have L2 := Lib.hid (t2.at L1.out (by simp))
  have RA := range_block A2.out
  have RL := range_block L2.out
  have CA := Lib.hid (adr_cell A2.out)
  clear t2 HT1 A1 L1
  obtain ⟨c0, cj⟩ := CA.out
  have c1 : _ = some (Value.int IntKind.u8 x0) := cj 0 x0 hx0
  have c2 : _ = some (Value.int IntKind.u8 x1) := cj 1 x1 hx1
  simp only [Nat.add_zero, Nat.reduceAdd] at c1 c2
  clear cj
  go_wp2_with (first
    | ((with_reducible refine at_load 28 ?_); refine wpList_load_mid rfl 28 _ rfl w.heap.size 0 rfl (adr true xs) _ RA Tryd.underlying28 rfl (by rw [size31, HL17.out]) ?_)
    | ((with_reducible refine at_load_g 28 3 false ?_); refine wpList_load_gg 3 false rfl (by rfl) 28 _ rfl w.heap.size 0 rfl (adr true xs) _ RA Tryd.underlying28 rfl (by rw [size31, HL17.out]) ?_)
    | ((with_reducible refine at_load 28 ?_); refine wpList_load_mid rfl 28 _ rfl (w.heap.size + 1) 0 rfl (adr true onev6) _ RL Tryd.underlying28 rfl (by rw [size31]; rfl) ?_)
    | ((with_reducible refine at_bin .eql 28 ?_); refine wpList_eql_agg rfl 28 _ _ _ rfl _ _ rfl rfl (by kernel_rfl) _ (HEQ.out _) ?_))
  go_ret
  exact ⟨by rw [HS.out]; rfl, HT2.out⟩
set_option maxRecDepth 100000 in
set_option maxHeartbeats 4000000 in
theorem sc_6c (xs : List Int) (h : okB xs) (hx : xs.headD 0 ≠ 255) (ho : xs ≠ onev6) (hp1 : hpP 10 [254, 128] xs = true) (w : World) :
    Calls Tryd.prog 36 #[.agg (adr true xs).toArray] w fun e w' => e = .returned (.int .i64 (scopeP true xs)) ∧ Touch [] w w' := by
  have hv : vld true xs = true := rfl
  obtain ⟨x0, hx0⟩ : ∃ x, xs[0]? = some x := ⟨_, List.getElem?_eq_getElem (by have := h.1; omega)⟩
  obtain ⟨x1, hx1⟩ : ∃ x, xs[1]? = some x := ⟨_, List.getElem?_eq_getElem (by have := h.1; omega)⟩
  have e0 : xs.headD 0 = x0 := by cases xs with | nil => simp at hx0 | cons y l => simpa using hx0
  have e1 : xs.tail.headD 0 = x1 := by cases xs with | nil => simp at hx0 | cons y l => cases l with | nil => simp at hx1 | cons z l => simpa using hx1
  have r1 := h.2 x1 (List.mem_of_getElem? hx1)
  have HEQ := Lib.hid (fun w => (show (Op.equalIn 10000 28 (.agg (adr true xs).toArray) (.agg (adr true onev6).toArray)).run Tryd.prog w = .ok false w by rw [eq_ads _ _ _ _ h (okB_dec (by decide))]; simp [ho]))
  have hne : ¬ x0 = 255 := by rw [← e0]; exact hx
  have H1 := Lib.hid (hp_lit true 10 [254, 128] (by decide) (okB_dec (by decide)) (by decide) (by decide) (by decide) (by decide) xs h hv)
  have P1 := Lib.hid hp1
  have HS := Lib.hid (show scopeP true xs = 2 by unfold scopeP; rw [if_neg (by simp [hv]), if_neg (by simp), if_neg hx, if_pos (by simp [hp1])])
  clear e0 e1 hx ho hp1
  have g0 := ((Touch.refl [] w).alloc (.cells (adr true xs).toArray 28)).alloc (.cells (adr false (List.replicate 16 0)).toArray 28)
  have g1 := ((Touch.refl [] (w.alloc (.cells (adr true xs).toArray 28))).alloc (.cells (adr false (List.replicate 16 0)).toArray 28)).at (heap_alloc_new w (.cells (adr true xs).toArray 28)) (by simp)
  have g2 := heap_alloc2_new w (.cells (adr true xs).toArray 28) (.cells (adr false (List.replicate 16 0)).toArray 28)
  have HL17 := Lib.hid (show (adr true xs).length = 17 by simp [adr, h.1])
  have HT := Lib.hid g0
  have HG1 := Lib.hid g1
  have HG2 := Lib.hid g2
  have HV := Lib.hid hv
  have HVA := Lib.hid (ipvalid_any true xs h)
  clear g0 g1 g2 h hv
  go_enter Tryd.func36, Tryd.ntmps36
  go_wp2_with (first
    | ((with_reducible refine at_build 28 ?_); refine wpList_built (by rfl) 28 _ (by rfl) _ _ (by rfl) built_one ?_)
    | ((with_reducible refine at_store 28 ?_); refine wpList_store_into rfl 28 _ _ rfl (w.heap.size + 1) 28 _ (adr true onev6) rfl rfl HG2.out rfl size31 (adr_one _ _) ?_))
  intro w1 h1 t1 z1
  have HT1 := Lib.hid (HT.out.trans t1 (by intro y hy; right; simp at hy; omega))
  have A1 := Lib.hid (t1.at HG1.out (by simp))
  have L1 := Lib.hid h1
  have RA := range_block A1.out
  have RL := range_block L1.out
  clear h1 t1 z1 HT HG1 HG2
  go_wp2_with (first
    | ((with_reducible refine at_load 28 ?_); refine wpList_load_mid rfl 28 _ rfl w.heap.size 0 rfl (adr true xs) _ RA Tryd.underlying28 rfl (by rw [size31, HL17.out]) ?_))
  refine (HVA.out _).mono ?_
  rintro e w2 ⟨he, t2⟩
  rw [HV.out] at he
  subst he
  have HT2 := Lib.hid (HT1.out.trans t2 (by simp))
  have A2 := Lib.hid (t2.at A1.out (by simp))
  have L2 := Lib.hid (t2.at L1.out (by simp))
  have RA := range_block A2.out
  have RL := range_block L2.out
  have CA := Lib.hid (adr_cell A2.out)
  clear t2 HT1 A1 L1
  obtain ⟨c0, cj⟩ := CA.out
  have c1 : _ = some (Value.int IntKind.u8 x0) := cj 0 x0 hx0
  have c2 : _ = some (Value.int IntKind.u8 x1) := cj 1 x1 hx1
  simp only [Nat.add_zero, Nat.reduceAdd] at c1 c2
  clear cj
  go_wp2_with (first
    | ((with_reducible refine at_load 28 ?_); refine wpList_load_mid rfl 28 _ rfl w.heap.size 0 rfl (adr true xs) _ RA Tryd.underlying28 rfl (by rw [size31, HL17.out]) ?_)
    | ((with_reducible refine at_load_g 28 3 false ?_); refine wpList_load_gg 3 false rfl (by rfl) 28 _ rfl w.heap.size 0 rfl (adr true xs) _ RA Tryd.underlying28 rfl (by rw [size31, HL17.out]) ?_)
    | ((with_reducible refine at_load 28 ?_); refine wpList_load_mid rfl 28 _ rfl (w.heap.size + 1) 0 rfl (adr true onev6) _ RL Tryd.underlying28 rfl (by rw [size31]; rfl) ?_)
    | ((with_reducible refine at_bin .eql 28 ?_); refine wpList_eql_agg rfl 28 _ _ _ rfl _ _ rfl rfl (by kernel_rfl) _ (HEQ.out _) ?_))
  refine (H1.out _ _ _ 5 (heap_alloc_new _ _)).mono ?_
  rintro e w3 ⟨he, t3⟩
  rw [P1.out] at he
  subst he
  have t3 := ((Touch.refl [] _).alloc _).trans t3 (by simp)
  have HT3 := Lib.hid (HT2.out.trans t3 (by simp))
  have A3 := Lib.hid (t3.at A2.out (by simp))
  have L3 := Lib.hid (t3.at L2.out (by simp))
  have RA := range_block A3.out
  have RL := range_block L3.out
  have CA := Lib.hid (adr_cell A3.out)
  clear t3 HT2 A2 L2
  obtain ⟨c0, cj⟩ := CA.out
  clear cj
  go_wp2_with (first
    | ((with_reducible refine at_load 28 ?_); refine wpList_load_mid rfl 28 _ rfl w.heap.size 0 rfl (adr true xs) _ RA Tryd.underlying28 rfl (by rw [size31, HL17.out]) ?_)
    | ((with_reducible refine at_load_g 28 3 true ?_); refine wpList_load_gg 3 true rfl (by rfl) 28 _ rfl w.heap.size 0 rfl (adr true xs) _ RA Tryd.underlying28 rfl (by rw [size31, HL17.out]) ?_)
    | ((with_reducible refine at_load 28 ?_); refine wpList_load_mid rfl 28 _ rfl (w.heap.size + 1) 0 rfl (adr true onev6) _ RL Tryd.underlying28 rfl (by rw [size31]; rfl) ?_)
    | ((with_reducible refine at_bin .eql 28 ?_); refine wpList_eql_agg rfl 28 _ _ _ rfl _ _ rfl rfl (by kernel_rfl) _ (HEQ.out _) ?_))
  go_ret
  exact ⟨by rw [HS.out]; rfl, HT3.out⟩
set_option maxRecDepth 100000 in
set_option maxHeartbeats 4000000 in
theorem sc_6d (xs : List Int) (h : okB xs) (hx : xs.headD 0 ≠ 255) (ho : xs ≠ onev6) (hp1 : hpP 10 [254, 128] xs = false) (hp2 : hpP 10 [254, 192] xs = true) (w : World) :
    Calls Tryd.prog 36 #[.agg (adr true xs).toArray] w fun e w' => e = .returned (.int .i64 (scopeP true xs)) ∧ Touch [] w w' := by
  have hv : vld true xs = true := rfl
  obtain ⟨x0, hx0⟩ : ∃ x, xs[0]? = some x := ⟨_, List.getElem?_eq_getElem (by have := h.1; omega)⟩
  obtain ⟨x1, hx1⟩ : ∃ x, xs[1]? = some x := ⟨_, List.getElem?_eq_getElem (by have := h.1; omega)⟩
  have e0 : xs.headD 0 = x0 := by cases xs with | nil => simp at hx0 | cons y l => simpa using hx0
  have e1 : xs.tail.headD 0 = x1 := by cases xs with | nil => simp at hx0 | cons y l => cases l with | nil => simp at hx1 | cons z l => simpa using hx1
  have r1 := h.2 x1 (List.mem_of_getElem? hx1)
  have HEQ := Lib.hid (fun w => (show (Op.equalIn 10000 28 (.agg (adr true xs).toArray) (.agg (adr true onev6).toArray)).run Tryd.prog w = .ok false w by rw [eq_ads _ _ _ _ h (okB_dec (by decide))]; simp [ho]))
  have hne : ¬ x0 = 255 := by rw [← e0]; exact hx
  have H1 := Lib.hid (hp_lit true 10 [254, 128] (by decide) (okB_dec (by decide)) (by decide) (by decide) (by decide) (by decide) xs h hv)
  have H2 := Lib.hid (hp_lit true 10 [254, 192] (by decide) (okB_dec (by decide)) (by decide) (by decide) (by decide) (by decide) xs h hv)
  have P1 := Lib.hid hp1
  have P2 := Lib.hid hp2
  have HS := Lib.hid (show scopeP true xs = 5 by unfold scopeP; rw [if_neg (by simp [hv]), if_neg (by simp), if_neg hx, if_neg (by simp [ho, hp1]), if_pos hp2])
  clear e0 e1 hx ho hp1 hp2
  have g0 := ((Touch.refl [] w).alloc (.cells (adr true xs).toArray 28)).alloc (.cells (adr false (List.replicate 16 0)).toArray 28)
  have g1 := ((Touch.refl [] (w.alloc (.cells (adr true xs).toArray 28))).alloc (.cells (adr false (List.replicate 16 0)).toArray 28)).at (heap_alloc_new w (.cells (adr true xs).toArray 28)) (by simp)
  have g2 := heap_alloc2_new w (.cells (adr true xs).toArray 28) (.cells (adr false (List.replicate 16 0)).toArray 28)
  have HL17 := Lib.hid (show (adr true xs).length = 17 by simp [adr, h.1])
  have HT := Lib.hid g0
  have HG1 := Lib.hid g1
  have HG2 := Lib.hid g2
  have HV := Lib.hid hv
  have HVA := Lib.hid (ipvalid_any true xs h)
  clear g0 g1 g2 h hv
  go_enter Tryd.func36, Tryd.ntmps36
  go_wp2_with (first
    | ((with_reducible refine at_build 28 ?_); refine wpList_built (by rfl) 28 _ (by rfl) _ _ (by rfl) built_one ?_)
    | ((with_reducible refine at_store 28 ?_); refine wpList_store_into rfl 28 _ _ rfl (w.heap.size + 1) 28 _ (adr true onev6) rfl rfl HG2.out rfl size31 (adr_one _ _) ?_))
  intro w1 h1 t1 z1
  have HT1 := Lib.hid (HT.out.trans t1 (by intro y hy; right; simp at hy; omega))
  have A1 := Lib.hid (t1.at HG1.out (by simp))
  have L1 := Lib.hid h1
  have RA := range_block A1.out
  have RL := range_block L1.out
  clear h1 t1 z1 HT HG1 HG2
  go_wp2_with (first
    | ((with_reducible refine at_load 28 ?_); refine wpList_load_mid rfl 28 _ rfl w.heap.size 0 rfl (adr true xs) _ RA Tryd.underlying28 rfl (by rw [size31, HL17.out]) ?_))
  refine (HVA.out _).mono ?_
  rintro e w2 ⟨he, t2⟩
  rw [HV.out] at he
  subst he
  have HT2 := Lib.hid (HT1.out.trans t2 (by simp))
  have A2 := Lib.hid (t2.at A1.out (by simp))
  have L2 := Lib.hid (t2.at L1.out (by simp))
  have RA := range_block A2.out
  have RL := range_block L2.out
  have CA := Lib.hid (adr_cell A2.out)
  clear t2 HT1 A1 L1
  obtain ⟨c0, cj⟩ := CA.out
  have c1 : _ = some (Value.int IntKind.u8 x0) := cj 0 x0 hx0
  have c2 : _ = some (Value.int IntKind.u8 x1) := cj 1 x1 hx1
  simp only [Nat.add_zero, Nat.reduceAdd] at c1 c2
  clear cj
  go_wp2_with (first
    | ((with_reducible refine at_load 28 ?_); refine wpList_load_mid rfl 28 _ rfl w.heap.size 0 rfl (adr true xs) _ RA Tryd.underlying28 rfl (by rw [size31, HL17.out]) ?_)
    | ((with_reducible refine at_load_g 28 3 false ?_); refine wpList_load_gg 3 false rfl (by rfl) 28 _ rfl w.heap.size 0 rfl (adr true xs) _ RA Tryd.underlying28 rfl (by rw [size31, HL17.out]) ?_)
    | ((with_reducible refine at_load 28 ?_); refine wpList_load_mid rfl 28 _ rfl (w.heap.size + 1) 0 rfl (adr true onev6) _ RL Tryd.underlying28 rfl (by rw [size31]; rfl) ?_)
    | ((with_reducible refine at_bin .eql 28 ?_); refine wpList_eql_agg rfl 28 _ _ _ rfl _ _ rfl rfl (by kernel_rfl) _ (HEQ.out _) ?_))
  refine (H1.out _ _ _ 5 (heap_alloc_new _ _)).mono ?_
  rintro e w3 ⟨he, t3⟩
  rw [P1.out] at he
  subst he
  have t3 := ((Touch.refl [] _).alloc _).trans t3 (by simp)
  have HT3 := Lib.hid (HT2.out.trans t3 (by simp))
  have A3 := Lib.hid (t3.at A2.out (by simp))
  have L3 := Lib.hid (t3.at L2.out (by simp))
  have RA := range_block A3.out
  have RL := range_block L3.out
  have CA := Lib.hid (adr_cell A3.out)
  clear t3 HT2 A2 L2
  obtain ⟨c0, cj⟩ := CA.out
  clear cj
  go_wp2_with (first
    | ((with_reducible refine at_load 28 ?_); refine wpList_load_mid rfl 28 _ rfl w.heap.size 0 rfl (adr true xs) _ RA Tryd.underlying28 rfl (by rw [size31, HL17.out]) ?_)
    | ((with_reducible refine at_load_g 28 3 true ?_); refine wpList_load_gg 3 true rfl (by rfl) 28 _ rfl w.heap.size 0 rfl (adr true xs) _ RA Tryd.underlying28 rfl (by rw [size31, HL17.out]) ?_)
    | ((with_reducible refine at_load 28 ?_); refine wpList_load_mid rfl 28 _ rfl (w.heap.size + 1) 0 rfl (adr true onev6) _ RL Tryd.underlying28 rfl (by rw [size31]; rfl) ?_)
    | ((with_reducible refine at_bin .eql 28 ?_); refine wpList_eql_agg rfl 28 _ _ _ rfl _ _ rfl rfl (by kernel_rfl) _ (HEQ.out _) ?_))
  refine (H2.out _ _ _ 5 (heap_alloc_new _ _)).mono ?_
  rintro e w4 ⟨he, t4⟩
  rw [P2.out] at he
  subst he
  have t4 := ((Touch.refl [] _).alloc _).trans t4 (by simp)
  have HT4 := Lib.hid (HT3.out.trans t4 (by simp))
  have A4 := Lib.hid (t4.at A3.out (by simp))
  have L4 := Lib.hid (t4.at L3.out (by simp))
  have RA := range_block A4.out
  have RL := range_block L4.out
  have CA := Lib.hid (adr_cell A4.out)
  clear t4 HT3 A3 L3
  obtain ⟨c0, cj⟩ := CA.out
  clear cj
  go_wp2_with (first
    | ((with_reducible refine at_load 28 ?_); refine wpList_load_mid rfl 28 _ rfl w.heap.size 0 rfl (adr true xs) _ RA Tryd.underlying28 rfl (by rw [size31, HL17.out]) ?_)
    | ((with_reducible refine at_load_g 28 3 true ?_); refine wpList_load_gg 3 true rfl (by rfl) 28 _ rfl w.heap.size 0 rfl (adr true xs) _ RA Tryd.underlying28 rfl (by rw [size31, HL17.out]) ?_)
    | ((with_reducible refine at_load 28 ?_); refine wpList_load_mid rfl 28 _ rfl (w.heap.size + 1) 0 rfl (adr true onev6) _ RL Tryd.underlying28 rfl (by rw [size31]; rfl) ?_)
    | ((with_reducible refine at_bin .eql 28 ?_); refine wpList_eql_agg rfl 28 _ _ _ rfl _ _ rfl rfl (by kernel_rfl) _ (HEQ.out _) ?_))
  go_ret
  exact ⟨by rw [HS.out]; rfl, HT4.out⟩
set_option maxRecDepth 100000 in
set_option maxHeartbeats 4000000 in
theorem sc_6e (xs : List Int) (h : okB xs) (hx : xs.headD 0 ≠ 255) (ho : xs ≠ onev6) (hp1 : hpP 10 [254, 128] xs = false) (hp2 : hpP 10 [254, 192] xs = false) (w : World) :
    Calls Tryd.prog 36 #[.agg (adr true xs).toArray] w fun e w' => e = .returned (.int .i64 (scopeP true xs)) ∧ Touch [] w w' := by
  have hv : vld true xs = true := rfl
  obtain ⟨x0, hx0⟩ : ∃ x, xs[0]? = some x := ⟨_, List.getElem?_eq_getElem (by have := h.1; omega)⟩
  obtain ⟨x1, hx1⟩ : ∃ x, xs[1]? = some x := ⟨_, List.getElem?_eq_getElem (by have := h.1; omega)⟩
  have e0 : xs.headD 0 = x0 := by cases xs with | nil => simp at hx0 | cons y l => simpa using hx0
  have e1 : xs.tail.headD 0 = x1 := by cases xs with | nil => simp at hx0 | cons y l => cases l with | nil => simp at hx1 | cons z l => simpa using hx1
  have r1 := h.2 x1 (List.mem_of_getElem? hx1)
  have HEQ := Lib.hid (fun w => (show (Op.equalIn 10000 28 (.agg (adr true xs).toArray) (.agg (adr true onev6).toArray)).run Tryd.prog w = .ok false w by rw [eq_ads _ _ _ _ h (okB_dec (by decide))]; simp [ho]))
  have hne : ¬ x0 = 255 := by rw [← e0]; exact hx
  have H1 := Lib.hid (hp_lit true 10 [254, 128] (by decide) (okB_dec (by decide)) (by decide) (by decide) (by decide) (by decide) xs h hv)
  have H2 := Lib.hid (hp_lit true 10 [254, 192] (by decide) (okB_dec (by decide)) (by decide) (by decide) (by decide) (by decide) xs h hv)
  have P1 := Lib.hid hp1
  have P2 := Lib.hid hp2
  have HS := Lib.hid (show scopeP true xs = 14 by unfold scopeP; rw [if_neg (by simp [hv]), if_neg (by simp), if_neg hx, if_neg (by simp [ho, hp1]), if_neg (by simp [hp2])])
  clear e0 e1 hx ho hp1 hp2
  have g0 := ((Touch.refl [] w).alloc (.cells (adr true xs).toArray 28)).alloc (.cells (adr false (List.replicate 16 0)).toArray 28)
  have g1 := ((Touch.refl [] (w.alloc (.cells (adr true xs).toArray 28))).alloc (.cells (adr false (List.replicate 16 0)).toArray 28)).at (heap_alloc_new w (.cells (adr true xs).toArray 28)) (by simp)
  have g2 := heap_alloc2_new w (.cells (adr true xs).toArray 28) (.cells (adr false (List.replicate 16 0)).toArray 28)
  have HL17 := Lib.hid (show (adr true xs).length = 17 by simp [adr, h.1])
  have HT := Lib.hid g0
  have HG1 := Lib.hid g1
  have HG2 := Lib.hid g2
  have HV := Lib.hid hv
  have HVA := Lib.hid (ipvalid_any true xs h)
  clear g0 g1 g2 h hv
  go_enter Tryd.func36, Tryd.ntmps36
  go_wp2_with (first
    | ((with_reducible refine at_build 28 ?_); refine wpList_built (by rfl) 28 _ (by rfl) _ _ (by rfl) built_one ?_)
    | ((with_reducible refine at_store 28 ?_); refine wpList_store_into rfl 28 _ _ rfl (w.heap.size + 1) 28 _ (adr true onev6) rfl rfl HG2.out rfl size31 (adr_one _ _) ?_))
  intro w1 h1 t1 z1
  have HT1 := Lib.hid (HT.out.trans t1 (by intro y hy; right; simp at hy; omega))
  have A1 := Lib.hid (t1.at HG1.out (by simp))
  have L1 := Lib.hid h1
  have RA := range_block A1.out
  have RL := range_block L1.out
  clear h1 t1 z1 HT HG1 HG2
  go_wp2_with (first
    | ((with_reducible refine at_load 28 ?_); refine wpList_load_mid rfl 28 _ rfl w.heap.size 0 rfl (adr true xs) _ RA Tryd.underlying28 rfl (by rw [size31, HL17.out]) ?_))
  refine (HVA.out _).mono ?_
  rintro e w2 ⟨he, t2⟩
  rw [HV.out] at he
  subst he
  have HT2 := Lib.hid (HT1.out.trans t2 (by simp))
  have A2 := Lib.hid (t2.at A1.out (by simp))
  have L2 := Lib.hid (t2.at L1.out (by simp))
  have RA := range_block A2.out
  have RL := range_block L2.out
  have CA := Lib.hid (adr_cell A2.out)
  clear t2 HT1 A1 L1
  obtain ⟨c0, cj⟩ := CA.out
  have c1 : _ = some (Value.int IntKind.u8 x0) := cj 0 x0 hx0
  have c2 : _ = some (Value.int IntKind.u8 x1) := cj 1 x1 hx1
  simp only [Nat.add_zero, Nat.reduceAdd] at c1 c2
  clear cj
  go_wp2_with (first
    | ((with_reducible refine at_load 28 ?_); refine wpList_load_mid rfl 28 _ rfl w.heap.size 0 rfl (adr true xs) _ RA Tryd.underlying28 rfl (by rw [size31, HL17.out]) ?_)
    | ((with_reducible refine at_load_g 28 3 false ?_); refine wpList_load_gg 3 false rfl (by rfl) 28 _ rfl w.heap.size 0 rfl (adr true xs) _ RA Tryd.underlying28 rfl (by rw [size31, HL17.out]) ?_)
    | ((with_reducible refine at_load 28 ?_); refine wpList_load_mid rfl 28 _ rfl (w.heap.size + 1) 0 rfl (adr true onev6) _ RL Tryd.underlying28 rfl (by rw [size31]; rfl) ?_)
    | ((with_reducible refine at_bin .eql 28 ?_); refine wpList_eql_agg rfl 28 _ _ _ rfl _ _ rfl rfl (by kernel_rfl) _ (HEQ.out _) ?_))
  refine (H1.out _ _ _ 5 (heap_alloc_new _ _)).mono ?_
  rintro e w3 ⟨he, t3⟩
  rw [P1.out] at he
  subst he
  have t3 := ((Touch.refl [] _).alloc _).trans t3 (by simp)
  have HT3 := Lib.hid (HT2.out.trans t3 (by simp))
  have A3 := Lib.hid (t3.at A2.out (by simp))
  have L3 := Lib.hid (t3.at L2.out (by simp))
  have RA := range_block A3.out
  have RL := range_block L3.out
  have CA := Lib.hid (adr_cell A3.out)
  clear t3 HT2 A2 L2
  obtain ⟨c0, cj⟩ := CA.out
  clear cj
  go_wp2_with (first
    | ((with_reducible refine at_load 28 ?_); refine wpList_load_mid rfl 28 _ rfl w.heap.size 0 rfl (adr true xs) _ RA Tryd.underlying28 rfl (by rw [size31, HL17.out]) ?_)
    | ((with_reducible refine at_load_g 28 3 true ?_); refine wpList_load_gg 3 true rfl (by rfl) 28 _ rfl w.heap.size 0 rfl (adr true xs) _ RA Tryd.underlying28 rfl (by rw [size31, HL17.out]) ?_)
    | ((with_reducible refine at_load 28 ?_); refine wpList_load_mid rfl 28 _ rfl (w.heap.size + 1) 0 rfl (adr true onev6) _ RL Tryd.underlying28 rfl (by rw [size31]; rfl) ?_)
    | ((with_reducible refine at_bin .eql 28 ?_); refine wpList_eql_agg rfl 28 _ _ _ rfl _ _ rfl rfl (by kernel_rfl) _ (HEQ.out _) ?_))
  refine (H2.out _ _ _ 5 (heap_alloc_new _ _)).mono ?_
  rintro e w4 ⟨he, t4⟩
  rw [P2.out] at he
  subst he
  have t4 := ((Touch.refl [] _).alloc _).trans t4 (by simp)
  have HT4 := Lib.hid (HT3.out.trans t4 (by simp))
  have A4 := Lib.hid (t4.at A3.out (by simp))
  have L4 := Lib.hid (t4.at L3.out (by simp))
  have RA := range_block A4.out
  have RL := range_block L4.out
  have CA := Lib.hid (adr_cell A4.out)
  clear t4 HT3 A3 L3
  obtain ⟨c0, cj⟩ := CA.out
  clear cj
  go_wp2_with (first
    | ((with_reducible refine at_load 28 ?_); refine wpList_load_mid rfl 28 _ rfl w.heap.size 0 rfl (adr true xs) _ RA Tryd.underlying28 rfl (by rw [size31, HL17.out]) ?_)
    | ((with_reducible refine at_load_g 28 3 true ?_); refine wpList_load_gg 3 true rfl (by rfl) 28 _ rfl w.heap.size 0 rfl (adr true xs) _ RA Tryd.underlying28 rfl (by rw [size31, HL17.out]) ?_)
    | ((with_reducible refine at_load 28 ?_); refine wpList_load_mid rfl 28 _ rfl (w.heap.size + 1) 0 rfl (adr true onev6) _ RL Tryd.underlying28 rfl (by rw [size31]; rfl) ?_)
    | ((with_reducible refine at_bin .eql 28 ?_); refine wpList_eql_agg rfl 28 _ _ _ rfl _ _ rfl rfl (by kernel_rfl) _ (HEQ.out _) ?_))
  go_ret
  exact ⟨by rw [HS.out]; rfl, HT4.out⟩
theorem scope_any (b : Bool) (xs : List Int) (h : okB xs) (w : World) :
    Calls Tryd.prog 36 #[.agg (adr b xs).toArray] w fun e w' => e = .returned (.int .i64 (scopeP b xs)) ∧ Touch [] w w' := by
  cases b
  · cases hv : vld false xs
    · exact sc_bad xs h hv w
    · cases hp1 : hpP 8 [127] xs
      · cases hp2 : hpP 16 [169, 254] xs
        · exact sc_4c xs h hv hp1 hp2 w
        · exact sc_4b xs h hv hp1 hp2 w
      · exact sc_4a xs h hv hp1 w
  · by_cases hx : xs.headD 0 = 255
    · exact sc_6a xs h hx w
    · by_cases ho : xs = onev6
      · exact sc_6b xs h hx ho w
      · cases hp1 : hpP 10 [254, 128] xs
        · cases hp2 : hpP 10 [254, 192] xs
          · exact sc_6e xs h hx ho hp1 hp2 w
          · exact sc_6d xs h hx ho hp1 hp2 w
        · exact sc_6c xs h hx ho hp1 w
end Go.Proofs.YtecaakgpogabjaaDoor

/-
  The contracts of cmp.Compare[int], cmp.Or[int].
-/
namespace Go.Proofs.YtecaakgpogabjaaDoor
open Go.RowKit
set_option linter.unusedVariables false
set_option linter.unusedSimpArgs false

def cmpP (x y : Int) : Int := if x < y then -1 else if y < x then 1 else 0
theorem nan_any (x : Int) (w : World) : Calls Tryd.prog 41 #[.int .i64 x] w fun e w' => e = .returned (.bool false) ∧ w = w' := by
  go_enter Tryd.func41, Tryd.ntmps41
  go_wp2_with fail
  go_ret
  exact ⟨rfl, rfl⟩
set_option maxRecDepth 100000 in
theorem cmp_any (x y : Int) (w : World) : Calls Tryd.prog 34 #[.int .i64 x, .int .i64 y] w fun e w' => e = .returned (.int .i64 (cmpP x y)) ∧ w = w' := by
  rcases Int.lt_trichotomy x y with h | h | h
  · have hs : cmpP x y = -1 := by simp [cmpP, h]
    rw [hs]
    clear hs
    go_enter Tryd.func34, Tryd.ntmps34
    go_wp2_with fail
    refine (nan_any _ _).mono ?_
    rintro e w1 ⟨rfl, rfl⟩
    go_wp2_with fail
    refine (nan_any _ _).mono ?_
    rintro e w1 ⟨rfl, rfl⟩
    go_wp2_with fail
    go_ret
    exact ⟨rfl, rfl⟩
  · subst h
    have hs : cmpP x x = 0 := by simp [cmpP]
    rw [hs]
    clear hs
    go_enter Tryd.func34, Tryd.ntmps34
    go_wp2_with fail
    refine (nan_any _ _).mono ?_
    rintro e w1 ⟨rfl, rfl⟩
    go_wp2_with fail
    refine (nan_any _ _).mono ?_
    rintro e w1 ⟨rfl, rfl⟩
    go_wp2_with fail
    go_ret
    exact ⟨rfl, rfl⟩
  · have hs : cmpP x y = 1 := by simp [cmpP, h]; omega
    have hn : ¬ x < y := by omega
    rw [hs]
    clear hs
    go_enter Tryd.func34, Tryd.ntmps34
    go_wp2_with fail
    refine (nan_any _ _).mono ?_
    rintro e w1 ⟨rfl, rfl⟩
    go_wp2_with fail
    refine (nan_any _ _).mono ?_
    rintro e w1 ⟨rfl, rfl⟩
    go_wp2_with fail
    go_ret
    exact ⟨rfl, rfl⟩
def orP (x y : Int) : Int := if x = 0 then y else x
set_option maxRecDepth 100000 in
theorem or_any (x y : Int) (g c : Nat) (w : World) (h0 : w.cell? ⟨g, 0, none⟩ = some (.int .i64 x)) (h1 : w.cell? ⟨g, 1, none⟩ = some (.int .i64 y)) :
    Calls Tryd.prog 33 #[.slice (some ⟨g, 0, none⟩) 2 c] w fun e w' => e = .returned (.int .i64 (orP x y)) ∧ w = w' := by
  go_enter Tryd.func33, Tryd.ntmps33
  go_wp2_with fail
  go_loopw [8] (fun vi wr => wr = w ∧ (vi = .int .i64 0 ∨ (vi = .int .i64 1 ∧ x = 0) ∨ (vi = .int .i64 2 ∧ x = 0 ∧ y = 0))) (fun vi _ => 2 - (intOf vi).toNat)
  case atStart => exact ⟨rfl, .inl rfl⟩
  case round =>
    obtain ⟨rfl, hrel⟩ := hrel
    rcases hrel with rfl | ⟨rfl, hx⟩ | ⟨rfl, hx, hy⟩
    · by_cases hx : x = 0
      · go_wp2_with fail
        go_roundw
        case rel => simp [hx]
        case measure => simp [intOf]
      · have hs : orP x y = x := by simp [orP, hx]
        go_wp2_with fail
        go_ret
        exact ⟨by rw [hs]; rfl, rfl⟩
    · have hs : orP x y = y := by simp [orP, hx]
      by_cases hy : y = 0
      · go_wp2_with fail
        go_roundw
        case rel => simp [hx, hy]
        case measure => simp [intOf]
      · go_wp2_with fail
        go_ret
        exact ⟨by rw [hs]; rfl, rfl⟩
    · have hs : orP x y = 0 := by simp [orP, hx, hy]
      go_wp2_with fail
      go_ret
      exact ⟨by rw [hs]; rfl, rfl⟩
end Go.Proofs.YtecaakgpogabjaaDoor

/-
  The contracts of compare and Less.
-/
namespace Go.Proofs.YtecaakgpogabjaaDoor
open Go.RowKit
set_option linter.unusedVariables false
set_option linter.unusedSimpArgs false

def compP (b : Bool) (xs : List Int) (b2 : Bool) (ys : List Int) : Int := orP (cmpP (precP b2 ys) (precP b xs)) (cmpP (scopeP b xs) (scopeP b2 ys))
set_option maxRecDepth 100000 in
set_option maxHeartbeats 4000000 in
theorem comp_any (b : Bool) (xs : List Int) (b2 : Bool) (ys : List Int) (h : okB xs) (h2 : okB ys) (w : World) :
    Calls Tryd.prog 26 #[.agg (adr b xs).toArray, .agg (adr b2 ys).toArray] w fun e w' => e = .returned (.int .i64 (compP b xs b2 ys)) ∧ Touch [] w w' := by
  have R0 := World.rangeAt_alloc (range_new w (adr b xs) 28) (.cells (adr b2 ys).toArray 28)
  have R1 := range_block (heap_alloc2_new w (.cells (adr b xs).toArray 28) (.cells (adr b2 ys).toArray 28))
  have t0 := (((Touch.refl [] w).alloc (.cells (adr b xs).toArray 28)).alloc (.cells (adr b2 ys).toArray 28)).drew
  obtain ⟨c1, hc1⟩ : ∃ c, c = cmpP (precP b2 ys) (precP b xs) := ⟨_, rfl⟩
  obtain ⟨c2, hc2⟩ : ∃ c, c = cmpP (scopeP b xs) (scopeP b2 ys) := ⟨_, rfl⟩
  have HRES := Lib.hid (show compP b xs b2 ys = orP c1 c2 by rw [hc1, hc2]; rfl)
  have HLA := Lib.hid (show (adr b xs).length = 17 by simp [adr, h.1])
  have HLB := Lib.hid (show (adr b2 ys).length = 17 by simp [adr, h2.1])
  have HPA := Lib.hid (prec_any b xs h)
  have HPB := Lib.hid (prec_any b2 ys h2)
  have HSA := Lib.hid (scope_any b xs h)
  have HSB := Lib.hid (scope_any b2 ys h2)
  have HC1 := Lib.hid (cmp_any (precP b2 ys) (precP b xs))
  have HC2 := Lib.hid (cmp_any (scopeP b xs) (scopeP b2 ys))
  rw [← hc1] at HC1
  rw [← hc2] at HC2
  clear h h2 hc1 hc2
  go_enter Tryd.func26, Tryd.ntmps26
  go_wp2_with fail
  obtain ⟨W, hW⟩ : ∃ W, W = ((w.alloc (.cells (adr b xs).toArray 28)).alloc (.cells (adr b2 ys).toArray 28)).drew := ⟨_, rfl⟩
  have rA : W.rangeAt w.heap.size 0 (adr b xs) := by rw [hW]; exact R0
  have rB : W.rangeAt (w.heap.size + 1) 0 (adr b2 ys) := by rw [hW]; exact R1
  refine wp_region_held (S := Touch [] W) (by kernel_rfl) ?_
  change wpAnyH _ _ _ _ _ _ _ _ ((w.alloc (.cells (adr b xs).toArray 28)).alloc (.cells (adr b2 ys).toArray 28)).drew
  rw [← hW] at t0 ⊢
  clear hW R0 R1
  have T0 := Lib.hid t0
  clear t0
  have hS := Touch.refl [] W
  refine wpAnyH_take (i := 0) (oi := { dst := some 5, op := Op.load 28 (Operand.tmp 3), type := 28, pos := "addrsort.go:14", after := #[], guard := none }) (v := .agg (adr b2 ys).toArray) rfl (by kernel_rfl) (by kernel_rfl) (by kernel_rfl) (fun _ _ _ h => h) (Or.inl ⟨by rfl, fun w' hw => exec_load_agg _ 28 _ rfl _ _ rfl (adr b2 ys) _ (hw.range rB (by simp)) Tryd.underlying28 rfl (by rw [size31, HLB.out])⟩) hS ?_
  try simp only [Act.put, List.setIfInBounds_toArray, List.set_cons_zero, List.set_cons_succ]
  refine wpAnyH_take (i := 2) (oi := { dst := some 7, op := Op.load 28 (Operand.tmp 2), type := 28, pos := "addrsort.go:14", after := #[], guard := none }) (v := .agg (adr b xs).toArray) rfl (by kernel_rfl) (by kernel_rfl) (by kernel_rfl) (fun _ _ _ h => h) (Or.inl ⟨by rfl, fun w' hw => exec_load_agg _ 28 _ rfl _ _ rfl (adr b xs) _ (hw.range rA (by simp)) Tryd.underlying28 rfl (by rw [size31, HLA.out])⟩) hS ?_
  try simp only [Act.put, List.setIfInBounds_toArray, List.set_cons_zero, List.set_cons_succ]
  refine wpAnyH_take (i := 5) (oi := { dst := some 10, op := Op.load 28 (Operand.tmp 2), type := 28, pos := "addrsort.go:14", after := #[], guard := none }) (v := .agg (adr b xs).toArray) rfl (by kernel_rfl) (by kernel_rfl) (by kernel_rfl) (fun _ _ _ h => h) (Or.inl ⟨by rfl, fun w' hw => exec_load_agg _ 28 _ rfl _ _ rfl (adr b xs) _ (hw.range rA (by simp)) Tryd.underlying28 rfl (by rw [size31, HLA.out])⟩) hS ?_
  try simp only [Act.put, List.setIfInBounds_toArray, List.set_cons_zero, List.set_cons_succ]
  refine wpAnyH_take (i := 7) (oi := { dst := some 12, op := Op.load 28 (Operand.tmp 3), type := 28, pos := "addrsort.go:14", after := #[], guard := none }) (v := .agg (adr b2 ys).toArray) rfl (by kernel_rfl) (by kernel_rfl) (by kernel_rfl) (fun _ _ _ h => h) (Or.inl ⟨by rfl, fun w' hw => exec_load_agg _ 28 _ rfl _ _ rfl (adr b2 ys) _ (hw.range rB (by simp)) Tryd.underlying28 rfl (by rw [size31, HLB.out])⟩) hS ?_
  try simp only [Act.put, List.setIfInBounds_toArray, List.set_cons_zero, List.set_cons_succ]
  refine wpAnyH_ready (rs := [1]) (by kernel_rfl) (by simp) ?_
  refine AllReadyH.cons (o := { dst := some 6, op := Op.call { callee := Callee.value (Operand.func 35), args := #[Operand.tmp 5], argTypes := #[28] }, type := 3, pos := "addrsort.go:14", after := #[{ on := 0, ground := Ground.data }], guard := none }) rfl (fun K hK => ?_) AllReadyH.nil
  go_simp
  refine (HPB.out _).mono ?_
  rintro e w1 ⟨rfl, t1⟩
  have hS2 := hS.trans t1 (by simp)
  refine hK.out _ _ hS2 (fun _ => ?_)
  clear hK K hS t1
  have hS := hS2
  clear hS2
  try simp only [Act.put, List.setIfInBounds_toArray, List.set_cons_zero, List.set_cons_succ]
  refine wpAnyH_ready (rs := [3]) (by kernel_rfl) (by simp) ?_
  refine AllReadyH.cons (o := { dst := some 8, op := Op.call { callee := Callee.value (Operand.func 35), args := #[Operand.tmp 7], argTypes := #[28] }, type := 3, pos := "addrsort.go:14", after := #[{ on := 2, ground := Ground.data }, { on := 1, ground := Ground.chain }], guard := none }) rfl (fun K hK => ?_) AllReadyH.nil
  go_simp
  refine (HPA.out _).mono ?_
  rintro e w3 ⟨rfl, t3⟩
  have hS2 := hS.trans t3 (by simp)
  refine hK.out _ _ hS2 (fun _ => ?_)
  clear hK K hS t3
  have hS := hS2
  clear hS2
  try simp only [Act.put, List.setIfInBounds_toArray, List.set_cons_zero, List.set_cons_succ]
  refine wpAnyH_ready (rs := [4]) (by kernel_rfl) (by simp) ?_
  refine AllReadyH.cons (o := { dst := some 9, op := Op.call { callee := Callee.value (Operand.func 34), args := #[Operand.tmp 6, Operand.tmp 8], argTypes := #[3, 3] }, type := 3, pos := "addrsort.go:14", after := #[{ on := 1, ground := Ground.data }, { on := 3, ground := Ground.data }, { on := 3, ground := Ground.chain }], guard := none }) rfl (fun K hK => ?_) AllReadyH.nil
  go_simp
  refine (HC1.out _).mono ?_
  rintro e w4 ⟨rfl, rfl⟩
  refine hK.out _ _ hS (fun _ => ?_)
  clear hK K
  try simp only [Act.put, List.setIfInBounds_toArray, List.set_cons_zero, List.set_cons_succ]
  refine wpAnyH_ready (rs := [6]) (by kernel_rfl) (by simp) ?_
  refine AllReadyH.cons (o := { dst := some 11, op := Op.call { callee := Callee.value (Operand.func 36), args := #[Operand.tmp 10], argTypes := #[28] }, type := 3, pos := "addrsort.go:14", after := #[{ on := 5, ground := Ground.data }, { on := 4, ground := Ground.chain }], guard := none }) rfl (fun K hK => ?_) AllReadyH.nil
  go_simp
  refine (HSA.out _).mono ?_
  rintro e w6 ⟨rfl, t6⟩
  have hS2 := hS.trans t6 (by simp)
  refine hK.out _ _ hS2 (fun _ => ?_)
  clear hK K hS t6
  have hS := hS2
  clear hS2
  try simp only [Act.put, List.setIfInBounds_toArray, List.set_cons_zero, List.set_cons_succ]
  refine wpAnyH_ready (rs := [8]) (by kernel_rfl) (by simp) ?_
  refine AllReadyH.cons (o := { dst := some 13, op := Op.call { callee := Callee.value (Operand.func 36), args := #[Operand.tmp 12], argTypes := #[28] }, type := 3, pos := "addrsort.go:14", after := #[{ on := 7, ground := Ground.data }, { on := 6, ground := Ground.chain }], guard := none }) rfl (fun K hK => ?_) AllReadyH.nil
  go_simp
  refine (HSB.out _).mono ?_
  rintro e w8 ⟨rfl, t8⟩
  have hS2 := hS.trans t8 (by simp)
  refine hK.out _ _ hS2 (fun _ => ?_)
  clear hK K hS t8
  have hS := hS2
  clear hS2
  try simp only [Act.put, List.setIfInBounds_toArray, List.set_cons_zero, List.set_cons_succ]
  refine wpAnyH_ready (rs := [9]) (by kernel_rfl) (by simp) ?_
  refine AllReadyH.cons (o := { dst := some 14, op := Op.call { callee := Callee.value (Operand.func 34), args := #[Operand.tmp 11, Operand.tmp 13], argTypes := #[3, 3] }, type := 3, pos := "addrsort.go:14", after := #[{ on := 6, ground := Ground.data }, { on := 8, ground := Ground.data }, { on := 8, ground := Ground.chain }], guard := none }) rfl (fun K hK => ?_) AllReadyH.nil
  go_simp
  refine (HC2.out _).mono ?_
  rintro e w9 ⟨rfl, rfl⟩
  refine hK.out _ _ hS (fun _ => ?_)
  clear hK K
  try simp only [Act.put, List.setIfInBounds_toArray, List.set_cons_zero, List.set_cons_succ]
  refine wpAnyH_ready (rs := [10]) (by kernel_rfl) (by simp) ?_
  refine AllReadyH.cons (o := { dst := some 15, op := Op.buildSlice 60 2 #[(0, Operand.tmp 9), (1, Operand.tmp 14)], type := 60, pos := "addrsort.go:14", after := #[{ on := 4, ground := Ground.data }, { on := 9, ground := Ground.data }], guard := none }) rfl (fun K hK => ?_) AllReadyH.nil
  go_simp
  have hS2 := hS.alloc (.cells #[.int .i64 c1, .int .i64 c2] 3)
  have k0 : (w8.alloc (.cells #[.int .i64 c1, .int .i64 c2] 3)).cell? ⟨w8.heap.size, 0, none⟩ = some (.int .i64 c1) := by rw [cell_of_row _ _ _ _ _ _ (heap_alloc_new w8 (.cells #[.int .i64 c1, .int .i64 c2] 3))]; rfl
  have k1 : (w8.alloc (.cells #[.int .i64 c1, .int .i64 c2] 3)).cell? ⟨w8.heap.size, 1, none⟩ = some (.int .i64 c2) := by rw [cell_of_row _ _ _ _ _ _ (heap_alloc_new w8 (.cells #[.int .i64 c1, .int .i64 c2] 3))]; rfl
  refine hK.out _ _ hS2 (fun _ => ?_)
  clear hK K hS
  have hS := hS2
  clear hS2
  try simp only [Act.put, List.setIfInBounds_toArray, List.set_cons_zero, List.set_cons_succ]
  refine wpAnyH_ready (rs := [11]) (by kernel_rfl) (by simp) ?_
  refine AllReadyH.cons (o := { dst := some 16, op := Op.call { callee := Callee.value (Operand.func 33), args := #[Operand.tmp 15], argTypes := #[60] }, type := 3, pos := "addrsort.go:14", after := #[{ on := 10, ground := Ground.data }, { on := 9, ground := Ground.chain }], guard := none }) rfl (fun K hK => ?_) AllReadyH.nil
  go_simp
  refine (or_any c1 c2 w8.heap.size 2 _ k0 k1).mono ?_
  rintro e w11 ⟨rfl, rfl⟩
  refine hK.out _ _ hS (fun _ => ?_)
  clear hK K
  try simp only [Act.put, List.setIfInBounds_toArray, List.set_cons_zero, List.set_cons_succ]
  refine wpAnyH_take (i := 12) (oi := { dst := some 4, op := Op.assign (Operand.tmp 16), type := 3, pos := "addrsort.go:14", after := #[{ on := 11, ground := Ground.data }, { on := 11, ground := Ground.chain }, { on := 0, ground := Ground.phase }, { on := 1, ground := Ground.phase }, { on := 2, ground := Ground.phase }, { on := 3, ground := Ground.phase }, { on := 4, ground := Ground.phase }, { on := 5, ground := Ground.phase }, { on := 6, ground := Ground.phase }, { on := 7, ground := Ground.phase }, { on := 8, ground := Ground.phase }, { on := 9, ground := Ground.phase }, { on := 10, ground := Ground.phase }, { on := 11, ground := Ground.phase }], guard := none }) (v := .int .i64 (orP c1 c2)) rfl (by kernel_rfl) (by kernel_rfl) (by kernel_rfl) (fun _ _ _ h => h) (Or.inl ⟨by rfl, fun w' hw => by go_simp⟩) hS ?_
  try simp only [Act.put, List.setIfInBounds_toArray, List.set_cons_zero, List.set_cons_succ]
  refine wpAnyH_done (by kernel_rfl) ?_ _
  try simp only [Act.put, List.setIfInBounds_toArray, List.set_cons_zero, List.set_cons_succ]
  go_wp2_with fail
  go_ret
  exact ⟨by rw [HRES.out]; rfl, T0.out.trans hS (by simp)⟩
def lessP (b : Bool) (xs : List Int) (b2 : Bool) (ys : List Int) : Bool := decide (compP b xs b2 ys < 0)
set_option maxRecDepth 100000 in
set_option maxHeartbeats 4000000 in
theorem less_any (b : Bool) (xs : List Int) (b2 : Bool) (ys : List Int) (h : okB xs) (h2 : okB ys) (w : World) :
    Calls Tryd.prog 14 #[.agg (adr b xs).toArray, .agg (adr b2 ys).toArray] w fun e w' => e = .returned (.bool (lessP b xs b2 ys)) ∧ Touch [] w w' := by
  have R0 := World.rangeAt_alloc (range_new w (adr b xs) 28) (.cells (adr b2 ys).toArray 28)
  have R1 := range_block (heap_alloc2_new w (.cells (adr b xs).toArray 28) (.cells (adr b2 ys).toArray 28))
  have t0 := (((Touch.refl [] w).alloc (.cells (adr b xs).toArray 28)).alloc (.cells (adr b2 ys).toArray 28))
  have HLA := Lib.hid (show (adr b xs).length = 17 by simp [adr, h.1])
  have HLB := Lib.hid (show (adr b2 ys).length = 17 by simp [adr, h2.1])
  have HCO := Lib.hid (comp_any b xs b2 ys h h2)
  have T0 := Lib.hid t0
  clear h h2 t0
  unfold lessP
  generalize compP b xs b2 ys = c at *
  go_enter Tryd.func14, Tryd.ntmps14
  go_wp2_with (first
    | ((with_reducible refine at_load 28 ?_); refine wpList_load_mid rfl 28 _ rfl w.heap.size 0 rfl (adr b xs) _ R0 Tryd.underlying28 rfl (by rw [size31, HLA.out]) ?_)
    | ((with_reducible refine at_load 28 ?_); refine wpList_load_mid rfl 28 _ rfl (w.heap.size + 1) 0 rfl (adr b2 ys) _ R1 Tryd.underlying28 rfl (by rw [size31, HLB.out]) ?_))
  refine (HCO.out _).mono ?_
  rintro e w2 ⟨rfl, t2⟩
  have T2 := Lib.hid (T0.out.trans t2 (by simp))
  clear t2 R0 R1 T0
  go_wp2_with fail
  go_ret
  exact ⟨rfl, T2.out⟩
end Go.Proofs.YtecaakgpogabjaaDoor

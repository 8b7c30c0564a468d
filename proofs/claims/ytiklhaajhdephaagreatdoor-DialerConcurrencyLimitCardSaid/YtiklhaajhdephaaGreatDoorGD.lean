/-
  Merged texts: Hp, Sc, Cp, Cm, As, Is, So.
-/
import Derived.Test.YtiklhaajhdephaaGreatDoorGC
import Derived.Test.YtiklhaajhdephaaGreatDoorGB
import Derived.Test.YtiklhaajhdephaaGreatDoorGA
import Derived.Lib.BufferMore

/-
 The contract of hasPrefix.
-/
namespace Go.Proofs.YtiklhaajhdephaaGreatDoor
open Go.RowKit
set_option linter.unusedVariables false
set_option linter.unusedSimpArgs false

theorem set_gen (W : World) (g o : Nat) (T : TypeId) (old : List Value) (cs : List Int) (hg : W.heap[g]? = some (.cells old.toArray T (0, 0))) (hl : o + cs.length ≤ old.length) :
  ∃ W', (storeCells ⟨g, o, none⟩ (cs.map (Value.int .u8)) 0).run Tryz.prog W = .ok () W' ∧ W'.heap[g]? = some (.cells (old.take o ++ cs.map (Value.int .u8) ++ old.drop (o + cs.length)).toArray T (0, 0)) ∧ Touch [g] W W' := by
 have hst := run_storeCells_at Tryz.prog g o T (cs.map (Value.int .u8)) 0 old.toArray W hg (by simp; omega) (by intro v hv; obtain ⟨x, _, rfl⟩ := List.mem_map.1 hv; rfl)
 refine ⟨_, hst, ?_, ⟨rfl, rfl, rfl, by simp, fun i hi hn => setRow_other W g i _ (by simpa using hn)⟩⟩
 rw [setRow_heap W g old.toArray _ T _ hg]
 simp
/-- Bytes copied into the midst of a block. -/
theorem copy_gen (W : World) (g o n c g2 m c2 : Nat) (T : TypeId) (old : List Value) (cs : List Int) (hg : W.heap[g]? = some (.cells old.toArray T (0, 0))) (hm : cs.length = m) (hn : m ≤ n) (hl : o + m ≤ old.length) (hc : ∀ j x, cs[j]? = some x → W.cell? ⟨g2, j, none⟩ = some (.int .u8 x)) :
  ∃ W', (Builtin.copy_ #[94, 94] 3 #[.slice (some ⟨g, o, none⟩) n c, .slice (some ⟨g2, 0, none⟩) m c2]).run Tryz.prog W = .ok (goInt m) W' ∧ W'.heap[g]? = some (.cells (old.take o ++ cs.map (Value.int .u8) ++ old.drop (o + m)).toArray T (0, 0)) ∧ Touch [g] W W' := by
 obtain ⟨i, hi, hs⟩ := infoB
 subst hm
 obtain ⟨W', hst, h2, h3⟩ := set_gen W g o T old cs hg hl
 refine ⟨W', ?_, h2, h3⟩
 have hmin : Nat.min cs.length n = cs.length := Nat.min_eq_left hn
 have hld := run_loadCells_list (P := Tryz.prog) W ⟨g2, 0, none⟩ (cs.map (Value.int .u8)) (by
  intro j v hj
  rw [Addr.add_lit, Nat.zero_add]
  rw [List.getElem?_map, Option.map_eq_some_iff] at hj
  obtain ⟨x, hx, rfl⟩ := hj
  exact hc j x hx)
 simp only [List.length_map] at hld
 simp [Builtin.copy_, run_underlying Tryz.underlying94, Builtin.lenOf, Builtin.firstCells, sizeOf, typeInfo, hi, hs, hmin, hld, hst]
theorem wpList_copy_gen {ops : Array Oper} {rest : List Oper} {op : Oper} {a : Act} {Q : Exit → Act → World → Prop} (hgd : op.guard = none) (d x : Operand)
  (ho : op.op = .call { callee := .builtin .copy, args := #[d, x], argTypes := #[94, 94] }) (hty : op.type = 3) (W : World) (g o n c g2 m c2 : Nat) (T : TypeId) (old : List Value) (cs : List Int) (hd : a.eval d = .slice (some ⟨g, o, none⟩) n c) (hx : a.eval x = .slice (some ⟨g2, 0, none⟩) m c2)
  (hg : W.heap[g]? = some (.cells old.toArray T (0, 0))) (hm : cs.length = m) (hn : m ≤ n) (hl : o + m ≤ old.length) (hc : ∀ j x, cs[j]? = some x → W.cell? ⟨g2, j, none⟩ = some (.int .u8 x))
  (h : ∀ W', W'.heap[g]? = some (.cells (old.take o ++ cs.map (Value.int .u8) ++ old.drop (o + m)).toArray T (0, 0)) → Touch [g] W W' → wpList Tryz.prog ops Q rest (a.put op.dst (goInt m)) W') : wpList Tryz.prog ops Q (op :: rest) a W := by
 refine wpList_plain hgd fun K hK => ?_
 obtain ⟨W', hr, h2, h3⟩ := copy_gen W g o n c g2 m c2 T old cs hg hm hn hl hc
 unfold Oper.wp execOp
 simp only [ho, hty, resolve, invoke, builtin, Sem.run_bind, Sem.run_pure, Result.andThen_ok, List.map_toArray, List.map_cons, List.map_nil, hd, hx, hr]
 exact hK _ _ (h W' h2 h3)
/-- The bytes of a prefix. -/
def lead (cs : List Int) : List Int := cs ++ List.replicate (16 - cs.length) 0
theorem pfx_copied (b : Bool) (bits : Int) (cs : List Int) (hl : cs.length ≤ 16) : (pfx b (List.replicate 16 0) bits).take 1 ++ cs.map (Value.int .u8) ++ (pfx b (List.replicate 16 0) bits).drop (1 + cs.length) = pfx b (lead cs) bits := by
 have e1 : pfx b (List.replicate 16 0) bits = .bool b :: ((List.replicate 16 (Value.int .u8 0)) ++ [.int .i64 bits]) := by simp [pfx, adr]
 rw [e1, Nat.add_comm 1, List.drop_succ_cons, List.take_succ_cons, List.take_zero, List.drop_append_of_le_length (by simpa using hl), List.drop_replicate]
 simp [pfx, adr, lead]
set_option maxRecDepth 100000 in
theorem built_flag (b : Bool) : Tryz.prog.built 40 [(0, .bool b)] = some (adr b (List.replicate 16 0)).toArray := by kernel_rfl
set_option maxRecDepth 100000 in
set_option maxHeartbeats 4000000 in
theorem hp_any (b : Bool) (xs : List Int) (bits : Int) (cs : List Int) (g m c : Nat) (h : okB xs) (hv : vld b xs = true) (hm : cs.length = m) (hm16 : m ≤ 16) (hp : okB (lead cs)) (hpv : vld b (lead cs) = true) (hb0 : 0 ≤ bits) (hb1 : bits ≤ blen b) (ht : trunc bits (lead cs) = lead cs) (w : World) (hc : ∀ j x, cs[j]? = some x → w.cell? ⟨g, j, none⟩ = some (.int .u8 x)) :
  Calls Tryz.prog 151 #[.agg (adr b xs).toArray, .int .i64 bits, .slice (some ⟨g, 0, none⟩) m c] w fun e w' => e = .returned (.bool (decide (trunc bits xs = lead cs))) ∧ Touch [] w w' := by
 have HCO := Lib.hid (fun w => cont_any b (lead cs) bits xs hp hpv hb0 hb1 ht h hv w)
 obtain ⟨zs, hzs⟩ : ∃ zs : List Int, zs = List.replicate 16 0 := ⟨_, rfl⟩
 have hzl : zs.length = 16 := by rw [hzs]; rfl
 have hcp := pfx_copied b bits cs (by omega)
 have hbf := built_flag b
 rw [← hzs] at hcp hbf
 obtain ⟨A, hA⟩ : ∃ A, A = Obj.cells (adr b xs).toArray 40 := ⟨_, rfl⟩
 obtain ⟨B, hB⟩ : ∃ B, B = Obj.cells (pfx false (List.replicate 16 0) 0).toArray 176 := ⟨_, rfl⟩
 have t0 := ((Touch.refl [] w).alloc A).alloc B
 have g1 := ((Touch.refl [] (w.alloc A)).alloc B).at (heap_alloc_new w A) (by simp)
 have g2 := heap_alloc2_new w A B
 subst hA hB
 have a0 : (adr b xs)[0]? = some (.bool b) := rfl
 have HT := Lib.hid t0
 have HG1 := Lib.hid g1
 have HG2 := Lib.hid g2
 have HL17 := Lib.hid (show (adr b xs).length = 17 by simp [adr, h.1])
 have HP18 := Lib.hid (show (pfx b zs bits).length = 18 by simp [pfx, adr, hzl])
 have HQ18 := Lib.hid (show (pfx b (lead cs) bits).length = 18 by simp [pfx, adr, hp.1])
 have HCP := Lib.hid hcp
 have HBF := Lib.hid hbf
 have HZL := Lib.hid hzl
 have HM := Lib.hid hm
 have HC := Lib.hid hc
 clear h hv hp hpv ht hb0 hb1 t0 g1 g2 hcp hbf hzs hzl hm hc
 go_enter Tryz.func151, Tryz.ntmps151
 go_wp2_with (first
  | (refine wpList_built (by rfl) 40 _ (by rfl) _ _ (by rfl) HBF.out ?_)
  | (refine wpList_built (by rfl) 176 _ (by rfl) _ _ (by rfl) (built_pfx b zs bits HZL.out) ?_)
  | (refine wpList_store_into rfl 176 _ _ rfl (w.heap.size + 1) 176 _ (pfx b zs bits) rfl rfl HG2.out (by rw [HP18.out]; rfl) (by rw [sizeP, HP18.out]) (by intro v hv; exact prw_one b zs bits 0 0 v (List.mem_append_left _ hv)) ?_))
 intro W1 h1 t1 z1
 have HT1 := Lib.hid (HT.out.trans t1 (by intro y hy; right; simp at hy; omega))
 have HG11 := Lib.hid (t1.at HG1.out (by simp))
 have HG21 := Lib.hid h1
 have HC1 := Lib.hid (fun j x hx => t1.cell ((HT.out.mono (S' := []) (by simp)).cell (HC.out j x hx) (by simp)) (by simp; intro e; have := World.block_lt_of_cell? w _ (HC.out j x hx); simp at this; omega))
 clear h1 t1 z1 HT HG1 HG2
 go_wp2_with (refine wpList_copy_gen (by rfl) _ _ (by rfl) (by rfl) _ (w.heap.size + 1) 1 16 16 g m c 176 (pfx b zs bits) cs (by rfl) (by rfl) (by exact HG21.out) HM.out hm16 (by rw [HP18.out]; omega) (by exact HC1.out) ?_)
 intro W2 h2 t2
 rw [← List.append_assoc, ← HM.out, HCP.out] at h2
 have HT2 := Lib.hid (HT1.out.trans t2 (by intro y hy; right; simp at hy; omega))
 have R1 := range_block (t2.at HG11.out (by simp))
 have R2 := range_block h2
 try simp only [Act.put]
 clear h2 t2 HG11 HG21 HC1 HT1
 go_wp2_with (first
  | (refine wpList_load_mid rfl 176 _ rfl (w.heap.size + 1) 0 rfl (pfx b (lead cs) bits) _ R2 Tryz.underlying176 rfl (by rw [sizeP, HQ18.out]) ?_)
  | (refine wpList_load_mid rfl 40 _ rfl w.heap.size 0 rfl (adr b xs) _ R1 Tryz.underlying40 rfl (by rw [size31, HL17.out]) ?_))
 refine (HCO.out _).mono ?_
 rintro e w4 ⟨rfl, t4⟩
 have HT4 := Lib.hid (HT2.out.trans t4 (by simp))
 clear t4 R1 R2
 go_wp2_with fail
 go_ret
 exact ⟨rfl, HT4.out⟩
end Go.Proofs.YtiklhaajhdephaaGreatDoor

/-
 The contract of Scope.
-/
namespace Go.Proofs.YtiklhaajhdephaaGreatDoor
open Go.RowKit
set_option linter.unusedVariables false
set_option linter.unusedSimpArgs false

/-- The scope of an address, as the program reckons it. -/
def hpP (bits : Int) (cs xs : List Int) : Bool := decide (trunc bits xs = lead cs)
def onev6 : List Int := [0, 0, 0, 0, 0, 0, 0, 0, 0, 0, 0, 0, 0, 0, 0, 1]
def scopeP (b : Bool) (xs : List Int) : Int :=
 if !vld b xs then -1
 else if !b then (if hpP 8 [127] xs || hpP 16 [169, 254] xs then 2 else 14)
 else if xs.headD 0 = 255 then xs.tail.headD 0 % 16
 else if decide (xs = onev6) || hpP 10 [254, 128] xs then 2
 else if hpP 10 [254, 192] xs then 5 else 14
theorem hp_lit (b : Bool) (bits : Int) (cs : List Int) (hm16 : cs.length ≤ 16) (hp : okB (lead cs)) (hpv : vld b (lead cs) = true) (hb0 : 0 ≤ bits) (hb1 : bits ≤ blen b) (ht : trunc bits (lead cs) = lead cs) (xs : List Int) (h : okB xs) (hv : vld b xs = true) (g c : Nat) (w : World) (T : TypeId) (hc : w.heap[g]? = some (.cells (cs.map (Value.int .u8)).toArray T (0, 0))) :
  Calls Tryz.prog 151 #[.agg (adr b xs).toArray, .int .i64 bits, .slice (some ⟨g, 0, none⟩) cs.length c] w fun e w' => e = .returned (.bool (hpP bits cs xs)) ∧ Touch [] w w' :=
 hp_any b xs bits cs g cs.length c h hv rfl hm16 hp hpv hb0 hb1 ht w (by
  intro j x hx
  rw [cell_of_row _ _ _ _ _ _ hc]
  simp [hx])
theorem okB_dec {xs : List Int} (h : xs.length = 16 ∧ (xs.all fun x => decide (0 ≤ x ∧ x ≤ 255)) = true) : okB xs := ⟨h.1, fun x hx => by simpa using List.all_eq_true.1 h.2 x hx⟩
set_option maxRecDepth 100000 in
theorem built_one : Tryz.prog.built 40 [(0, .bool true), (1, .agg #[.int .u8 0, .int .u8 0, .int .u8 0, .int .u8 0, .int .u8 0, .int .u8 0, .int .u8 0, .int .u8 0, .int .u8 0, .int .u8 0, .int .u8 0, .int .u8 0, .int .u8 0, .int .u8 0, .int .u8 0, .int .u8 1])] = some (adr true onev6).toArray := by kernel_rfl
set_option maxRecDepth 100000 in
set_option maxHeartbeats 4000000 in
theorem sc_bad (xs : List Int) (h : okB xs) (hv : vld false xs = false) (w : World) :
  Calls Tryz.prog 144 #[.agg (adr false xs).toArray] w fun e w' => e = .returned (.int .i64 (scopeP false xs)) ∧ Touch [] w w' := by
 have HS := Lib.hid (show scopeP false xs = -1 by simp [scopeP, hv])
 have g0 := ((Touch.refl [] w).alloc (.cells (adr false xs).toArray 40)).alloc (.cells (adr false (List.replicate 16 0)).toArray 40)
 have g1 := ((Touch.refl [] (w.alloc (.cells (adr false xs).toArray 40))).alloc (.cells (adr false (List.replicate 16 0)).toArray 40)).at (heap_alloc_new w (.cells (adr false xs).toArray 40)) (by simp)
 have g2 := heap_alloc2_new w (.cells (adr false xs).toArray 40) (.cells (adr false (List.replicate 16 0)).toArray 40)
 have HL17 := Lib.hid (show (adr false xs).length = 17 by simp [adr, h.1])
 have HT := Lib.hid g0
 have HG1 := Lib.hid g1
 have HG2 := Lib.hid g2
 have HV := Lib.hid hv
 have HVA := Lib.hid (ipvalid_any false xs h)
 clear g0 g1 g2 h hv
 go_enter Tryz.func144, Tryz.ntmps144
 go_wp2_with (first
  | ((with_reducible refine at_build 40 ?_); refine wpList_built (by rfl) 40 _ (by rfl) _ _ (by rfl) built_one ?_)
  | ((with_reducible refine at_store 40 ?_); refine wpList_store_into rfl 40 _ _ rfl (w.heap.size + 1) 40 _ (adr true onev6) rfl rfl HG2.out rfl size31 (adr_one _ _) ?_))
 intro w1 h1 t1 z1
 have HT1 := Lib.hid (HT.out.trans t1 (by intro y hy; right; simp at hy; omega))
 have A1 := Lib.hid (t1.at HG1.out (by simp))
 have L1 := Lib.hid h1
 have RA := range_block A1.out
 have RL := range_block L1.out
 clear h1 t1 z1 HT HG1 HG2
 go_wp2_with (first
  | ((with_reducible refine at_load 40 ?_); refine wpList_load_mid rfl 40 _ rfl w.heap.size 0 rfl (adr false xs) _ RA Tryz.underlying40 rfl (by rw [size31, HL17.out]) ?_))
 refine (HVA.out _).mono ?_
 rintro e w2 ⟨he, t2⟩
 rw [HV.out] at he
 subst he
 have HT2 := Lib.hid (HT1.out.trans t2 (by simp))
 have A2 := Lib.hid (t2.at A1.out (by simp))
 have L2 := Lib.hid (t2.at L1.out (by simp))
 have RA := range_block A2.out
 have RL := range_block L2.out
 have CA := Lib.hid (adr_cell A2.out)
 clear t2 HT1 A1 L1
 obtain ⟨c0, cj⟩ := CA.out
 clear cj
 go_wp2_with (first
  | ((with_reducible refine at_load 40 ?_); refine wpList_load_mid rfl 40 _ rfl w.heap.size 0 rfl (adr false xs) _ RA Tryz.underlying40 rfl (by rw [size31, HL17.out]) ?_)
  | ((with_reducible refine at_load_g 40 3 true ?_); refine wpList_load_gg 3 true rfl (by rfl) 40 _ rfl w.heap.size 0 rfl (adr false xs) _ RA Tryz.underlying40 rfl (by rw [size31, HL17.out]) ?_)
  | ((with_reducible refine at_load 40 ?_); refine wpList_load_mid rfl 40 _ rfl (w.heap.size + 1) 0 rfl (adr true onev6) _ RL Tryz.underlying40 rfl (by rw [size31]; rfl) ?_)
  | ((with_reducible refine at_bin .eql 40 ?_); refine wpList_eql_agg rfl 40 _ _ _ rfl _ _ rfl rfl (by kernel_rfl) _ (HEQ.out _) ?_))
 go_ret
 exact ⟨by rw [HS.out]; rfl, HT2.out⟩
set_option maxRecDepth 100000 in
set_option maxHeartbeats 4000000 in
theorem sc_4a (xs : List Int) (h : okB xs) (hv : vld false xs = true) (hp1 : hpP 8 [127] xs = true) (w : World) :
  Calls Tryz.prog 144 #[.agg (adr false xs).toArray] w fun e w' => e = .returned (.int .i64 (scopeP false xs)) ∧ Touch [] w w' := by
 have H1 := Lib.hid (hp_lit false 8 [127] (by decide) (okB_dec (by decide)) (by decide) (by decide) (by decide) (by decide) xs h hv)
 have P1 := Lib.hid hp1
 have HS := Lib.hid (show scopeP false xs = 2 by simp [scopeP, hv, hp1])
 clear hp1
 have g0 := ((Touch.refl [] w).alloc (.cells (adr false xs).toArray 40)).alloc (.cells (adr false (List.replicate 16 0)).toArray 40)
 have g1 := ((Touch.refl [] (w.alloc (.cells (adr false xs).toArray 40))).alloc (.cells (adr false (List.replicate 16 0)).toArray 40)).at (heap_alloc_new w (.cells (adr false xs).toArray 40)) (by simp)
 have g2 := heap_alloc2_new w (.cells (adr false xs).toArray 40) (.cells (adr false (List.replicate 16 0)).toArray 40)
 have HL17 := Lib.hid (show (adr false xs).length = 17 by simp [adr, h.1])
 have HT := Lib.hid g0
 have HG1 := Lib.hid g1
 have HG2 := Lib.hid g2
 have HV := Lib.hid hv
 have HVA := Lib.hid (ipvalid_any false xs h)
 clear g0 g1 g2 h hv
 go_enter Tryz.func144, Tryz.ntmps144
 go_wp2_with (first
  | ((with_reducible refine at_build 40 ?_); refine wpList_built (by rfl) 40 _ (by rfl) _ _ (by rfl) built_one ?_)
  | ((with_reducible refine at_store 40 ?_); refine wpList_store_into rfl 40 _ _ rfl (w.heap.size + 1) 40 _ (adr true onev6) rfl rfl HG2.out rfl size31 (adr_one _ _) ?_))
 intro w1 h1 t1 z1
 have HT1 := Lib.hid (HT.out.trans t1 (by intro y hy; right; simp at hy; omega))
 have A1 := Lib.hid (t1.at HG1.out (by simp))
 have L1 := Lib.hid h1
 have RA := range_block A1.out
 have RL := range_block L1.out
 clear h1 t1 z1 HT HG1 HG2
 go_wp2_with (first
  | ((with_reducible refine at_load 40 ?_); refine wpList_load_mid rfl 40 _ rfl w.heap.size 0 rfl (adr false xs) _ RA Tryz.underlying40 rfl (by rw [size31, HL17.out]) ?_))
 refine (HVA.out _).mono ?_
 rintro e w2 ⟨he, t2⟩
 rw [HV.out] at he
 subst he
 have HT2 := Lib.hid (HT1.out.trans t2 (by simp))
 have A2 := Lib.hid (t2.at A1.out (by simp))
 have L2 := Lib.hid (t2.at L1.out (by simp))
 have RA := range_block A2.out
 have RL := range_block L2.out
 have CA := Lib.hid (adr_cell A2.out)
 clear t2 HT1 A1 L1
 obtain ⟨c0, cj⟩ := CA.out
 clear cj
 go_wp2_with (first
  | ((with_reducible refine at_load 40 ?_); refine wpList_load_mid rfl 40 _ rfl w.heap.size 0 rfl (adr false xs) _ RA Tryz.underlying40 rfl (by rw [size31, HL17.out]) ?_)
  | ((with_reducible refine at_load_g 40 3 true ?_); refine wpList_load_gg 3 true rfl (by rfl) 40 _ rfl w.heap.size 0 rfl (adr false xs) _ RA Tryz.underlying40 rfl (by rw [size31, HL17.out]) ?_)
  | ((with_reducible refine at_load 40 ?_); refine wpList_load_mid rfl 40 _ rfl (w.heap.size + 1) 0 rfl (adr true onev6) _ RL Tryz.underlying40 rfl (by rw [size31]; rfl) ?_)
  | ((with_reducible refine at_bin .eql 40 ?_); refine wpList_eql_agg rfl 40 _ _ _ rfl _ _ rfl rfl (by kernel_rfl) _ (HEQ.out _) ?_))
 refine (H1.out _ _ _ 5 (heap_alloc_new _ _)).mono ?_
 rintro e w3 ⟨he, t3⟩
 rw [P1.out] at he
 subst he
 have t3 := ((Touch.refl [] _).alloc _).trans t3 (by simp)
 have HT3 := Lib.hid (HT2.out.trans t3 (by simp))
 have A3 := Lib.hid (t3.at A2.out (by simp))
 have L3 := Lib.hid (t3.at L2.out (by simp))
 have RA := range_block A3.out
 have RL := range_block L3.out
 have CA := Lib.hid (adr_cell A3.out)
 clear t3 HT2 A2 L2
 obtain ⟨c0, cj⟩ := CA.out
 clear cj
 go_wp2_with (first
  | ((with_reducible refine at_load 40 ?_); refine wpList_load_mid rfl 40 _ rfl w.heap.size 0 rfl (adr false xs) _ RA Tryz.underlying40 rfl (by rw [size31, HL17.out]) ?_)
  | ((with_reducible refine at_load_g 40 7 false ?_); refine wpList_load_gg 7 false rfl (by rfl) 40 _ rfl w.heap.size 0 rfl (adr false xs) _ RA Tryz.underlying40 rfl (by rw [size31, HL17.out]) ?_)
  | ((with_reducible refine at_load 40 ?_); refine wpList_load_mid rfl 40 _ rfl (w.heap.size + 1) 0 rfl (adr true onev6) _ RL Tryz.underlying40 rfl (by rw [size31]; rfl) ?_)
  | ((with_reducible refine at_bin .eql 40 ?_); refine wpList_eql_agg rfl 40 _ _ _ rfl _ _ rfl rfl (by kernel_rfl) _ (HEQ.out _) ?_))
 go_ret
 exact ⟨by rw [HS.out]; rfl, HT3.out⟩
set_option maxRecDepth 100000 in
set_option maxHeartbeats 4000000 in
theorem sc_4b (xs : List Int) (h : okB xs) (hv : vld false xs = true) (hp1 : hpP 8 [127] xs = false) (hp2 : hpP 16 [169, 254] xs = true) (w : World) :
  Calls Tryz.prog 144 #[.agg (adr false xs).toArray] w fun e w' => e = .returned (.int .i64 (scopeP false xs)) ∧ Touch [] w w' := by
 have H1 := Lib.hid (hp_lit false 8 [127] (by decide) (okB_dec (by decide)) (by decide) (by decide) (by decide) (by decide) xs h hv)
 have H2 := Lib.hid (hp_lit false 16 [169, 254] (by decide) (okB_dec (by decide)) (by decide) (by decide) (by decide) (by decide) xs h hv)
 have P1 := Lib.hid hp1
 have P2 := Lib.hid hp2
 have HS := Lib.hid (show scopeP false xs = 2 by simp [scopeP, hv, hp1, hp2])
 clear hp1 hp2
 have g0 := ((Touch.refl [] w).alloc (.cells (adr false xs).toArray 40)).alloc (.cells (adr false (List.replicate 16 0)).toArray 40)
 have g1 := ((Touch.refl [] (w.alloc (.cells (adr false xs).toArray 40))).alloc (.cells (adr false (List.replicate 16 0)).toArray 40)).at (heap_alloc_new w (.cells (adr false xs).toArray 40)) (by simp)
 have g2 := heap_alloc2_new w (.cells (adr false xs).toArray 40) (.cells (adr false (List.replicate 16 0)).toArray 40)
 have HL17 := Lib.hid (show (adr false xs).length = 17 by simp [adr, h.1])
 have HT := Lib.hid g0
 have HG1 := Lib.hid g1
 have HG2 := Lib.hid g2
 have HV := Lib.hid hv
 have HVA := Lib.hid (ipvalid_any false xs h)
 clear g0 g1 g2 h hv
 go_enter Tryz.func144, Tryz.ntmps144
 go_wp2_with (first
  | ((with_reducible refine at_build 40 ?_); refine wpList_built (by rfl) 40 _ (by rfl) _ _ (by rfl) built_one ?_)
  | ((with_reducible refine at_store 40 ?_); refine wpList_store_into rfl 40 _ _ rfl (w.heap.size + 1) 40 _ (adr true onev6) rfl rfl HG2.out rfl size31 (adr_one _ _) ?_))
 intro w1 h1 t1 z1
 have HT1 := Lib.hid (HT.out.trans t1 (by intro y hy; right; simp at hy; omega))
 have A1 := Lib.hid (t1.at HG1.out (by simp))
 have L1 := Lib.hid h1
 have RA := range_block A1.out
 have RL := range_block L1.out
 clear h1 t1 z1 HT HG1 HG2
 go_wp2_with (first
  | ((with_reducible refine at_load 40 ?_); refine wpList_load_mid rfl 40 _ rfl w.heap.size 0 rfl (adr false xs) _ RA Tryz.underlying40 rfl (by rw [size31, HL17.out]) ?_))
 refine (HVA.out _).mono ?_
 rintro e w2 ⟨he, t2⟩
 rw [HV.out] at he
 subst he
 have HT2 := Lib.hid (HT1.out.trans t2 (by simp))
 have A2 := Lib.hid (t2.at A1.out (by simp))
 have L2 := Lib.hid (t2.at L1.out (by simp))
 have RA := range_block A2.out
 have RL := range_block L2.out
 have CA := Lib.hid (adr_cell A2.out)
 clear t2 HT1 A1 L1
 obtain ⟨c0, cj⟩ := CA.out
 clear cj
 go_wp2_with (first
  | ((with_reducible refine at_load 40 ?_); refine wpList_load_mid rfl 40 _ rfl w.heap.size 0 rfl (adr false xs) _ RA Tryz.underlying40 rfl (by rw [size31, HL17.out]) ?_)
  | ((with_reducible refine at_load_g 40 3 true ?_); refine wpList_load_gg 3 true rfl (by rfl) 40 _ rfl w.heap.size 0 rfl (adr false xs) _ RA Tryz.underlying40 rfl (by rw [size31, HL17.out]) ?_)
  | ((with_reducible refine at_load 40 ?_); refine wpList_load_mid rfl 40 _ rfl (w.heap.size + 1) 0 rfl (adr true onev6) _ RL Tryz.underlying40 rfl (by rw [size31]; rfl) ?_)
  | ((with_reducible refine at_bin .eql 40 ?_); refine wpList_eql_agg rfl 40 _ _ _ rfl _ _ rfl rfl (by kernel_rfl) _ (HEQ.out _) ?_))
 refine (H1.out _ _ _ 5 (heap_alloc_new _ _)).mono ?_
 rintro e w3 ⟨he, t3⟩
 rw [P1.out] at he
 subst he
 have t3 := ((Touch.refl [] _).alloc _).trans t3 (by simp)
 have HT3 := Lib.hid (HT2.out.trans t3 (by simp))
 have A3 := Lib.hid (t3.at A2.out (by simp))
 have L3 := Lib.hid (t3.at L2.out (by simp))
 have RA := range_block A3.out
 have RL := range_block L3.out
 have CA := Lib.hid (adr_cell A3.out)
 clear t3 HT2 A2 L2
 obtain ⟨c0, cj⟩ := CA.out
 clear cj
 go_wp2_with (first
  | ((with_reducible refine at_load 40 ?_); refine wpList_load_mid rfl 40 _ rfl w.heap.size 0 rfl (adr false xs) _ RA Tryz.underlying40 rfl (by rw [size31, HL17.out]) ?_)
  | ((with_reducible refine at_load_g 40 7 false ?_); refine wpList_load_gg 7 false rfl (by rfl) 40 _ rfl w.heap.size 0 rfl (adr false xs) _ RA Tryz.underlying40 rfl (by rw [size31, HL17.out]) ?_)
  | ((with_reducible refine at_load 40 ?_); refine wpList_load_mid rfl 40 _ rfl (w.heap.size + 1) 0 rfl (adr true onev6) _ RL Tryz.underlying40 rfl (by rw [size31]; rfl) ?_)
  | ((with_reducible refine at_bin .eql 40 ?_); refine wpList_eql_agg rfl 40 _ _ _ rfl _ _ rfl rfl (by kernel_rfl) _ (HEQ.out _) ?_))
 refine (H2.out _ _ _ 5 (heap_alloc_new _ _)).mono ?_
 rintro e w4 ⟨he, t4⟩
 rw [P2.out] at he
 subst he
 have t4 := ((Touch.refl [] _).alloc _).trans t4 (by simp)
 have HT4 := Lib.hid (HT3.out.trans t4 (by simp))
 have A4 := Lib.hid (t4.at A3.out (by simp))
 have L4 := Lib.hid (t4.at L3.out (by simp))
 have RA := range_block A4.out
 have RL := range_block L4.out
 have CA := Lib.hid (adr_cell A4.out)
 clear t4 HT3 A3 L3
 obtain ⟨c0, cj⟩ := CA.out
 clear cj
 go_wp2_with (first
  | ((with_reducible refine at_load 40 ?_); refine wpList_load_mid rfl 40 _ rfl w.heap.size 0 rfl (adr false xs) _ RA Tryz.underlying40 rfl (by rw [size31, HL17.out]) ?_)
  | ((with_reducible refine at_load_g 40 3 true ?_); refine wpList_load_gg 3 true rfl (by rfl) 40 _ rfl w.heap.size 0 rfl (adr false xs) _ RA Tryz.underlying40 rfl (by rw [size31, HL17.out]) ?_)
  | ((with_reducible refine at_load 40 ?_); refine wpList_load_mid rfl 40 _ rfl (w.heap.size + 1) 0 rfl (adr true onev6) _ RL Tryz.underlying40 rfl (by rw [size31]; rfl) ?_)
  | ((with_reducible refine at_bin .eql 40 ?_); refine wpList_eql_agg rfl 40 _ _ _ rfl _ _ rfl rfl (by kernel_rfl) _ (HEQ.out _) ?_))
 go_ret
 exact ⟨by rw [HS.out]; rfl, HT4.out⟩
set_option maxRecDepth 100000 in
set_option maxHeartbeats 4000000 in
theorem sc_4c (xs : List Int) (h : okB xs) (hv : vld false xs = true) (hp1 : hpP 8 [127] xs = false) (hp2 : hpP 16 [169, 254] xs = false) (w : World) :
  Calls Tryz.prog 144 #[.agg (adr false xs).toArray] w fun e w' => e = .returned (.int .i64 (scopeP false xs)) ∧ Touch [] w w' := by
 have H1 := Lib.hid (hp_lit false 8 [127] (by decide) (okB_dec (by decide)) (by decide) (by decide) (by decide) (by decide) xs h hv)
 have H2 := Lib.hid (hp_lit false 16 [169, 254] (by decide) (okB_dec (by decide)) (by decide) (by decide) (by decide) (by decide) xs h hv)
 have P1 := Lib.hid hp1
 have P2 := Lib.hid hp2
 have HS := Lib.hid (show scopeP false xs = 14 by simp [scopeP, hv, hp1, hp2])
 clear hp1 hp2
 have g0 := ((Touch.refl [] w).alloc (.cells (adr false xs).toArray 40)).alloc (.cells (adr false (List.replicate 16 0)).toArray 40)
 have g1 := ((Touch.refl [] (w.alloc (.cells (adr false xs).toArray 40))).alloc (.cells (adr false (List.replicate 16 0)).toArray 40)).at (heap_alloc_new w (.cells (adr false xs).toArray 40)) (by simp)
 have g2 := heap_alloc2_new w (.cells (adr false xs).toArray 40) (.cells (adr false (List.replicate 16 0)).toArray 40)
 have HL17 := Lib.hid (show (adr false xs).length = 17 by simp [adr, h.1])
 have HT := Lib.hid g0
 have HG1 := Lib.hid g1
 have HG2 := Lib.hid g2
 have HV := Lib.hid hv
 have HVA := Lib.hid (ipvalid_any false xs h)
 clear g0 g1 g2 h hv
 go_enter Tryz.func144, Tryz.ntmps144
 go_wp2_with (first
  | ((with_reducible refine at_build 40 ?_); refine wpList_built (by rfl) 40 _ (by rfl) _ _ (by rfl) built_one ?_)
  | ((with_reducible refine at_store 40 ?_); refine wpList_store_into rfl 40 _ _ rfl (w.heap.size + 1) 40 _ (adr true onev6) rfl rfl HG2.out rfl size31 (adr_one _ _) ?_))
 intro w1 h1 t1 z1
 have HT1 := Lib.hid (HT.out.trans t1 (by intro y hy; right; simp at hy; omega))
 have A1 := Lib.hid (t1.at HG1.out (by simp))
 have L1 := Lib.hid h1
 have RA := range_block A1.out
 have RL := range_block L1.out
 clear h1 t1 z1 HT HG1 HG2
 go_wp2_with (first
  | ((with_reducible refine at_load 40 ?_); refine wpList_load_mid rfl 40 _ rfl w.heap.size 0 rfl (adr false xs) _ RA Tryz.underlying40 rfl (by rw [size31, HL17.out]) ?_))
 refine (HVA.out _).mono ?_
 rintro e w2 ⟨he, t2⟩
 rw [HV.out] at he
 subst he
 have HT2 := Lib.hid (HT1.out.trans t2 (by simp))
 have A2 := Lib.hid (t2.at A1.out (by simp))
 have L2 := Lib.hid (t2.at L1.out (by simp))
 have RA := range_block A2.out
 have RL := range_block L2.out
 have CA := Lib.hid (adr_cell A2.out)
 clear t2 HT1 A1 L1
 obtain ⟨c0, cj⟩ := CA.out
 clear cj
 go_wp2_with (first
  | ((with_reducible refine at_load 40 ?_); refine wpList_load_mid rfl 40 _ rfl w.heap.size 0 rfl (adr false xs) _ RA Tryz.underlying40 rfl (by rw [size31, HL17.out]) ?_)
  | ((with_reducible refine at_load_g 40 3 true ?_); refine wpList_load_gg 3 true rfl (by rfl) 40 _ rfl w.heap.size 0 rfl (adr false xs) _ RA Tryz.underlying40 rfl (by rw [size31, HL17.out]) ?_)
  | ((with_reducible refine at_load 40 ?_); refine wpList_load_mid rfl 40 _ rfl (w.heap.size + 1) 0 rfl (adr true onev6) _ RL Tryz.underlying40 rfl (by rw [size31]; rfl) ?_)
  | ((with_reducible refine at_bin .eql 40 ?_); refine wpList_eql_agg rfl 40 _ _ _ rfl _ _ rfl rfl (by kernel_rfl) _ (HEQ.out _) ?_))
 refine (H1.out _ _ _ 5 (heap_alloc_new _ _)).mono ?_
 rintro e w3 ⟨he, t3⟩
 rw [P1.out] at he
 subst he
 have t3 := ((Touch.refl [] _).alloc _).trans t3 (by simp)
 have HT3 := Lib.hid (HT2.out.trans t3 (by simp))
 have A3 := Lib.hid (t3.at A2.out (by simp))
 have L3 := Lib.hid (t3.at L2.out (by simp))
 have RA := range_block A3.out
 have RL := range_block L3.out
 have CA := Lib.hid (adr_cell A3.out)
 clear t3 HT2 A2 L2
 obtain ⟨c0, cj⟩ := CA.out
 clear cj
 go_wp2_with (first
  | ((with_reducible refine at_load 40 ?_); refine wpList_load_mid rfl 40 _ rfl w.heap.size 0 rfl (adr false xs) _ RA Tryz.underlying40 rfl (by rw [size31, HL17.out]) ?_)
  | ((with_reducible refine at_load_g 40 7 false ?_); refine wpList_load_gg 7 false rfl (by rfl) 40 _ rfl w.heap.size 0 rfl (adr false xs) _ RA Tryz.underlying40 rfl (by rw [size31, HL17.out]) ?_)
  | ((with_reducible refine at_load 40 ?_); refine wpList_load_mid rfl 40 _ rfl (w.heap.size + 1) 0 rfl (adr true onev6) _ RL Tryz.underlying40 rfl (by rw [size31]; rfl) ?_)
  | ((with_reducible refine at_bin .eql 40 ?_); refine wpList_eql_agg rfl 40 _ _ _ rfl _ _ rfl rfl (by kernel_rfl) _ (HEQ.out _) ?_))
 refine (H2.out _ _ _ 5 (heap_alloc_new _ _)).mono ?_
 rintro e w4 ⟨he, t4⟩
 rw [P2.out] at he
 subst he
 have t4 := ((Touch.refl [] _).alloc _).trans t4 (by simp)
 have HT4 := Lib.hid (HT3.out.trans t4 (by simp))
 have A4 := Lib.hid (t4.at A3.out (by simp))
 have L4 := Lib.hid (t4.at L3.out (by simp))
 have RA := range_block A4.out
 have RL := range_block L4.out
 have CA := Lib.hid (adr_cell A4.out)
 clear t4 HT3 A3 L3
 obtain ⟨c0, cj⟩ := CA.out
 clear cj
 go_wp2_with (first
  | ((with_reducible refine at_load 40 ?_); refine wpList_load_mid rfl 40 _ rfl w.heap.size 0 rfl (adr false xs) _ RA Tryz.underlying40 rfl (by rw [size31, HL17.out]) ?_)
  | ((with_reducible refine at_load_g 40 3 true ?_); refine wpList_load_gg 3 true rfl (by rfl) 40 _ rfl w.heap.size 0 rfl (adr false xs) _ RA Tryz.underlying40 rfl (by rw [size31, HL17.out]) ?_)
  | ((with_reducible refine at_load 40 ?_); refine wpList_load_mid rfl 40 _ rfl (w.heap.size + 1) 0 rfl (adr true onev6) _ RL Tryz.underlying40 rfl (by rw [size31]; rfl) ?_)
  | ((with_reducible refine at_bin .eql 40 ?_); refine wpList_eql_agg rfl 40 _ _ _ rfl _ _ rfl rfl (by kernel_rfl) _ (HEQ.out _) ?_))
 go_ret
 exact ⟨by rw [HS.out]; rfl, HT4.out⟩
set_option maxRecDepth 100000 in
set_option maxHeartbeats 4000000 in
theorem sc_6a (xs : List Int) (h : okB xs) (hx : xs.headD 0 = 255) (w : World) :
  Calls Tryz.prog 144 #[.agg (adr true xs).toArray] w fun e w' => e = .returned (.int .i64 (scopeP true xs)) ∧ Touch [] w w' := by
 have hv : vld true xs = true := rfl
 obtain ⟨x0, hx0⟩ : ∃ x, xs[0]? = some x := ⟨_, List.getElem?_eq_getElem (by have := h.1; omega)⟩
 obtain ⟨x1, hx1⟩ : ∃ x, xs[1]? = some x := ⟨_, List.getElem?_eq_getElem (by have := h.1; omega)⟩
 have e0 : xs.headD 0 = x0 := by cases xs with | nil => simp at hx0 | cons y l => simpa using hx0
 have e1 : xs.tail.headD 0 = x1 := by cases xs with | nil => simp at hx0 | cons y l => cases l with | nil => simp at hx1 | cons z l => simpa using hx1
 have r1 := h.2 x1 (List.mem_of_getElem? hx1)
 have HS := Lib.hid (show scopeP true xs = x1 % 16 by unfold scopeP; rw [if_neg (by simp [hv]), if_neg (by simp), if_pos hx, e1])
 rw [e0] at hx
 subst hx
 clear e0 e1
 have g0 := ((Touch.refl [] w).alloc (.cells (adr true xs).toArray 40)).alloc (.cells (adr false (List.replicate 16 0)).toArray 40)
 have g1 := ((Touch.refl [] (w.alloc (.cells (adr true xs).toArray 40))).alloc (.cells (adr false (List.replicate 16 0)).toArray 40)).at (heap_alloc_new w (.cells (adr true xs).toArray 40)) (by simp)
 have g2 := heap_alloc2_new w (.cells (adr true xs).toArray 40) (.cells (adr false (List.replicate 16 0)).toArray 40)
 have HL17 := Lib.hid (show (adr true xs).length = 17 by simp [adr, h.1])
 have HT := Lib.hid g0
 have HG1 := Lib.hid g1
 have HG2 := Lib.hid g2
 have HV := Lib.hid hv
 have HVA := Lib.hid (ipvalid_any true xs h)
 clear g0 g1 g2 h hv
 go_enter Tryz.func144, Tryz.ntmps144
 go_wp2_with (first
  | ((with_reducible refine at_build 40 ?_); refine wpList_built (by rfl) 40 _ (by rfl) _ _ (by rfl) built_one ?_)
  | ((with_reducible refine at_store 40 ?_); refine wpList_store_into rfl 40 _ _ rfl (w.heap.size + 1) 40 _ (adr true onev6) rfl rfl HG2.out rfl size31 (adr_one _ _) ?_))
 intro w1 h1 t1 z1
 have HT1 := Lib.hid (HT.out.trans t1 (by intro y hy; right; simp at hy; omega))
 have A1 := Lib.hid (t1.at HG1.out (by simp))
 have L1 := Lib.hid h1
 have RA := range_block A1.out
 have RL := range_block L1.out
 clear h1 t1 z1 HT HG1 HG2
 go_wp2_with (first
  | ((with_reducible refine at_load 40 ?_); refine wpList_load_mid rfl 40 _ rfl w.heap.size 0 rfl (adr true xs) _ RA Tryz.underlying40 rfl (by rw [size31, HL17.out]) ?_))
 refine (HVA.out _).mono ?_
 rintro e w2 ⟨he, t2⟩
 rw [HV.out] at he
 subst he
 have HT2 := Lib.hid (HT1.out.trans t2 (by simp))
 have A2 := Lib.hid (t2.at A1.out (by simp))
 have L2 := Lib.hid (t2.at L1.out (by simp))
 have RA := range_block A2.out
 have RL := range_block L2.out
 have CA := Lib.hid (adr_cell A2.out)
 clear t2 HT1 A1 L1
 obtain ⟨c0, cj⟩ := CA.out
 have c1 : _ = some (Value.int IntKind.u8 255) := cj 0 255 hx0
 have c2 : _ = some (Value.int IntKind.u8 x1) := cj 1 x1 hx1
 simp only [Nat.add_zero, Nat.reduceAdd] at c1 c2
 clear cj
 go_wp2_with (first
  | ((with_reducible refine at_load 40 ?_); refine wpList_load_mid rfl 40 _ rfl w.heap.size 0 rfl (adr true xs) _ RA Tryz.underlying40 rfl (by rw [size31, HL17.out]) ?_)
  | ((with_reducible refine at_load_g 40 3 false ?_); refine wpList_load_gg 3 false rfl (by rfl) 40 _ rfl w.heap.size 0 rfl (adr true xs) _ RA Tryz.underlying40 rfl (by rw [size31, HL17.out]) ?_)
  | ((with_reducible refine at_load 40 ?_); refine wpList_load_mid rfl 40 _ rfl (w.heap.size + 1) 0 rfl (adr true onev6) _ RL Tryz.underlying40 rfl (by rw [size31]; rfl) ?_)
  | ((with_reducible refine at_bin .eql 40 ?_); refine wpList_eql_agg rfl 40 _ _ _ rfl _ _ rfl rfl (by kernel_rfl) _ (HEQ.out _) ?_))
 go_ret
 exact ⟨by rw [HS.out]; rfl, HT2.out⟩
set_option maxRecDepth 100000 in
set_option maxHeartbeats 4000000 in
theorem sc_6b (xs : List Int) (h : okB xs) (hx : xs.headD 0 ≠ 255) (ho : xs = onev6) (w : World) :
  Calls Tryz.prog 144 #[.agg (adr true xs).toArray] w fun e w' => e = .returned (.int .i64 (scopeP true xs)) ∧ Touch [] w w' := by
 have hv : vld true xs = true := rfl
 obtain ⟨x0, hx0⟩ : ∃ x, xs[0]? = some x := ⟨_, List.getElem?_eq_getElem (by have := h.1; omega)⟩
 obtain ⟨x1, hx1⟩ : ∃ x, xs[1]? = some x := ⟨_, List.getElem?_eq_getElem (by have := h.1; omega)⟩
 have e0 : xs.headD 0 = x0 := by cases xs with | nil => simp at hx0 | cons y l => simpa using hx0
 have e1 : xs.tail.headD 0 = x1 := by cases xs with | nil => simp at hx0 | cons y l => cases l with | nil => simp at hx1 | cons z l => simpa using hx1
 have r1 := h.2 x1 (List.mem_of_getElem? hx1)
 have HEQ := Lib.hid (fun w => (show (Op.equalIn 10000 40 (.agg (adr true xs).toArray) (.agg (adr true onev6).toArray)).run Tryz.prog w = .ok true w by rw [eq_ads _ _ _ _ h (okB_dec (by decide))]; simp [ho]))
 have hne : ¬ x0 = 255 := by rw [← e0]; exact hx
 have HS := Lib.hid (show scopeP true xs = 2 by unfold scopeP; rw [if_neg (by simp [hv]), if_neg (by simp), if_neg hx, if_pos (by simp [ho])])
 clear e0 e1 hx ho
 have g0 := ((Touch.refl [] w).alloc (.cells (adr true xs).toArray 40)).alloc (.cells (adr false (List.replicate 16 0)).toArray 40)
 have g1 := ((Touch.refl [] (w.alloc (.cells (adr true xs).toArray 40))).alloc (.cells (adr false (List.replicate 16 0)).toArray 40)).at (heap_alloc_new w (.cells (adr true xs).toArray 40)) (by simp)
 have g2 := heap_alloc2_new w (.cells (adr true xs).toArray 40) (.cells (adr false (List.replicate 16 0)).toArray 40)
 have HL17 := Lib.hid (show (adr true xs).length = 17 by simp [adr, h.1])
 have HT := Lib.hid g0
 have HG1 := Lib.hid g1
 have HG2 := Lib.hid g2
 have HV := Lib.hid hv
 have HVA := Lib.hid (ipvalid_any true xs h)
 clear g0 g1 g2 h hv
 go_enter Tryz.func144, Tryz.ntmps144
 go_wp2_with (first
  | ((with_reducible refine at_build 40 ?_); refine wpList_built (by rfl) 40 _ (by rfl) _ _ (by rfl) built_one ?_)
  | ((with_reducible refine at_store 40 ?_); refine wpList_store_into rfl 40 _ _ rfl (w.heap.size + 1) 40 _ (adr true onev6) rfl rfl HG2.out rfl size31 (adr_one _ _) ?_))
 intro w1 h1 t1 z1
 have HT1 := Lib.hid (HT.out.trans t1 (by intro y hy; right; simp at hy; omega))
 have A1 := Lib.hid (t1.at HG1.out (by simp))
 have L1 := Lib.hid h1
 have RA := range_block A1.out
 have RL := range_block L1.out
 clear h1 t1 z1 HT HG1 HG2
 go_wp2_with (first
  | ((with_reducible refine at_load 40 ?_); refine wpList_load_mid rfl 40 _ rfl w.heap.size 0 rfl (adr true xs) _ RA Tryz.underlying40 rfl (by rw [size31, HL17.out]) ?_))
 refine (HVA.out _).mono ?_
 rintro e w2 ⟨he, t2⟩
 rw [HV.out] at he
 subst he
 have HT2 := Lib.hid (HT1.out.trans t2 (by simp))
 have A2 := Lib.hid (t2.at A1.out (by simp))
 have L2 := Lib.hid (t2.at L1.out (by simp))
 have RA := range_block A2.out
 have RL := range_block L2.out
 have CA := Lib.hid (adr_cell A2.out)
 clear t2 HT1 A1 L1
 obtain ⟨c0, cj⟩ := CA.out
 have c1 : _ = some (Value.int IntKind.u8 x0) := cj 0 x0 hx0
 have c2 : _ = some (Value.int IntKind.u8 x1) := cj 1 x1 hx1
 simp only [Nat.add_zero, Nat.reduceAdd] at c1 c2
 clear cj
 go_wp2_with (first
  | ((with_reducible refine at_load 40 ?_); refine wpList_load_mid rfl 40 _ rfl w.heap.size 0 rfl (adr true xs) _ RA Tryz.underlying40 rfl (by rw [size31, HL17.out]) ?_)
  | ((with_reducible refine at_load_g 40 3 false ?_); refine wpList_load_gg 3 false rfl (by rfl) 40 _ rfl w.heap.size 0 rfl (adr true xs) _ RA Tryz.underlying40 rfl (by rw [size31, HL17.out]) ?_)
  | ((with_reducible refine at_load 40 ?_); refine wpList_load_mid rfl 40 _ rfl (w.heap.size + 1) 0 rfl (adr true onev6) _ RL Tryz.underlying40 rfl (by rw [size31]; rfl) ?_)
  | ((with_reducible refine at_bin .eql 40 ?_); refine wpList_eql_agg rfl 40 _ _ _ rfl _ _ rfl rfl (by kernel_rfl) _ (HEQ.out _) ?_))
 go_ret
 exact ⟨by rw [HS.out]; rfl, HT2.out⟩
set_option maxRecDepth 100000 in
set_option maxHeartbeats 4000000 in
theorem sc_6c (xs : List Int) (h : okB xs) (hx : xs.headD 0 ≠ 255) (ho : xs ≠ onev6) (hp1 : hpP 10 [254, 128] xs = true) (w : World) :
  Calls Tryz.prog 144 #[.agg (adr true xs).toArray] w fun e w' => e = .returned (.int .i64 (scopeP true xs)) ∧ Touch [] w w' := by
 have hv : vld true xs = true := rfl
 obtain ⟨x0, hx0⟩ : ∃ x, xs[0]? = some x := ⟨_, List.getElem?_eq_getElem (by have := h.1; omega)⟩
 obtain ⟨x1, hx1⟩ : ∃ x, xs[1]? = some x := ⟨_, List.getElem?_eq_getElem (by have := h.1; omega)⟩
 have e0 : xs.headD 0 = x0 := by cases xs with | nil => simp at hx0 | cons y l => simpa using hx0
 have e1 : xs.tail.headD 0 = x1 := by cases xs with | nil => simp at hx0 | cons y l => cases l with | nil => simp at hx1 | cons z l => simpa using hx1
 have r1 := h.2 x1 (List.mem_of_getElem? hx1)
 have HEQ := Lib.hid (fun w => (show (Op.equalIn 10000 40 (.agg (adr true xs).toArray) (.agg (adr true onev6).toArray)).run Tryz.prog w = .ok false w by rw [eq_ads _ _ _ _ h (okB_dec (by decide))]; simp [ho]))
 have hne : ¬ x0 = 255 := by rw [← e0]; exact hx
 have H1 := Lib.hid (hp_lit true 10 [254, 128] (by decide) (okB_dec (by decide)) (by decide) (by decide) (by decide) (by decide) xs h hv)
 have P1 := Lib.hid hp1
 have HS := Lib.hid (show scopeP true xs = 2 by unfold scopeP; rw [if_neg (by simp [hv]), if_neg (by simp), if_neg hx, if_pos (by simp [hp1])])
 clear e0 e1 hx ho hp1
 have g0 := ((Touch.refl [] w).alloc (.cells (adr true xs).toArray 40)).alloc (.cells (adr false (List.replicate 16 0)).toArray 40)
 have g1 := ((Touch.refl [] (w.alloc (.cells (adr true xs).toArray 40))).alloc (.cells (adr false (List.replicate 16 0)).toArray 40)).at (heap_alloc_new w (.cells (adr true xs).toArray 40)) (by simp)
 have g2 := heap_alloc2_new w (.cells (adr true xs).toArray 40) (.cells (adr false (List.replicate 16 0)).toArray 40)
 have HL17 := Lib.hid (show (adr true xs).length = 17 by simp [adr, h.1])
 have HT := Lib.hid g0
 have HG1 := Lib.hid g1
 have HG2 := Lib.hid g2
 have HV := Lib.hid hv
 have HVA := Lib.hid (ipvalid_any true xs h)
 clear g0 g1 g2 h hv
 go_enter Tryz.func144, Tryz.ntmps144
 go_wp2_with (first
  | ((with_reducible refine at_build 40 ?_); refine wpList_built (by rfl) 40 _ (by rfl) _ _ (by rfl) built_one ?_)
  | ((with_reducible refine at_store 40 ?_); refine wpList_store_into rfl 40 _ _ rfl (w.heap.size + 1) 40 _ (adr true onev6) rfl rfl HG2.out rfl size31 (adr_one _ _) ?_))
 intro w1 h1 t1 z1
 have HT1 := Lib.hid (HT.out.trans t1 (by intro y hy; right; simp at hy; omega))
 have A1 := Lib.hid (t1.at HG1.out (by simp))
 have L1 := Lib.hid h1
 have RA := range_block A1.out
 have RL := range_block L1.out
 clear h1 t1 z1 HT HG1 HG2
 go_wp2_with (first
  | ((with_reducible refine at_load 40 ?_); refine wpList_load_mid rfl 40 _ rfl w.heap.size 0 rfl (adr true xs) _ RA Tryz.underlying40 rfl (by rw [size31, HL17.out]) ?_))
 refine (HVA.out _).mono ?_
 rintro e w2 ⟨he, t2⟩
 rw [HV.out] at he
 subst he
 have HT2 := Lib.hid (HT1.out.trans t2 (by simp))
 have A2 := Lib.hid (t2.at A1.out (by simp))
 have L2 := Lib.hid (t2.at L1.out (by simp))
 have RA := range_block A2.out
 have RL := range_block L2.out
 have CA := Lib.hid (adr_cell A2.out)
 clear t2 HT1 A1 L1
 obtain ⟨c0, cj⟩ := CA.out
 have c1 : _ = some (Value.int IntKind.u8 x0) := cj 0 x0 hx0
 have c2 : _ = some (Value.int IntKind.u8 x1) := cj 1 x1 hx1
 simp only [Nat.add_zero, Nat.reduceAdd] at c1 c2
 clear cj
 go_wp2_with (first
  | ((with_reducible refine at_load 40 ?_); refine wpList_load_mid rfl 40 _ rfl w.heap.size 0 rfl (adr true xs) _ RA Tryz.underlying40 rfl (by rw [size31, HL17.out]) ?_)
  | ((with_reducible refine at_load_g 40 3 false ?_); refine wpList_load_gg 3 false rfl (by rfl) 40 _ rfl w.heap.size 0 rfl (adr true xs) _ RA Tryz.underlying40 rfl (by rw [size31, HL17.out]) ?_)
  | ((with_reducible refine at_load 40 ?_); refine wpList_load_mid rfl 40 _ rfl (w.heap.size + 1) 0 rfl (adr true onev6) _ RL Tryz.underlying40 rfl (by rw [size31]; rfl) ?_)
  | ((with_reducible refine at_bin .eql 40 ?_); refine wpList_eql_agg rfl 40 _ _ _ rfl _ _ rfl rfl (by kernel_rfl) _ (HEQ.out _) ?_))
 refine (H1.out _ _ _ 5 (heap_alloc_new _ _)).mono ?_
 rintro e w3 ⟨he, t3⟩
 rw [P1.out] at he
 subst he
 have t3 := ((Touch.refl [] _).alloc _).trans t3 (by simp)
 have HT3 := Lib.hid (HT2.out.trans t3 (by simp))
 have A3 := Lib.hid (t3.at A2.out (by simp))
 have L3 := Lib.hid (t3.at L2.out (by simp))
 have RA := range_block A3.out
 have RL := range_block L3.out
 have CA := Lib.hid (adr_cell A3.out)
 clear t3 HT2 A2 L2
 obtain ⟨c0, cj⟩ := CA.out
 clear cj
 go_wp2_with (first
  | ((with_reducible refine at_load 40 ?_); refine wpList_load_mid rfl 40 _ rfl w.heap.size 0 rfl (adr true xs) _ RA Tryz.underlying40 rfl (by rw [size31, HL17.out]) ?_)
  | ((with_reducible refine at_load_g 40 3 true ?_); refine wpList_load_gg 3 true rfl (by rfl) 40 _ rfl w.heap.size 0 rfl (adr true xs) _ RA Tryz.underlying40 rfl (by rw [size31, HL17.out]) ?_)
  | ((with_reducible refine at_load 40 ?_); refine wpList_load_mid rfl 40 _ rfl (w.heap.size + 1) 0 rfl (adr true onev6) _ RL Tryz.underlying40 rfl (by rw [size31]; rfl) ?_)
  | ((with_reducible refine at_bin .eql 40 ?_); refine wpList_eql_agg rfl 40 _ _ _ rfl _ _ rfl rfl (by kernel_rfl) _ (HEQ.out _) ?_))
 go_ret
 exact ⟨by rw [HS.out]; rfl, HT3.out⟩
set_option maxRecDepth 100000 in
set_option maxHeartbeats 4000000 in
theorem sc_6d (xs : List Int) (h : okB xs) (hx : xs.headD 0 ≠ 255) (ho : xs ≠ onev6) (hp1 : hpP 10 [254, 128] xs = false) (hp2 : hpP 10 [254, 192] xs = true) (w : World) :
  Calls Tryz.prog 144 #[.agg (adr true xs).toArray] w fun e w' => e = .returned (.int .i64 (scopeP true xs)) ∧ Touch [] w w' := by
 have hv : vld true xs = true := rfl
 obtain ⟨x0, hx0⟩ : ∃ x, xs[0]? = some x := ⟨_, List.getElem?_eq_getElem (by have := h.1; omega)⟩
 obtain ⟨x1, hx1⟩ : ∃ x, xs[1]? = some x := ⟨_, List.getElem?_eq_getElem (by have := h.1; omega)⟩
 have e0 : xs.headD 0 = x0 := by cases xs with | nil => simp at hx0 | cons y l => simpa using hx0
 have e1 : xs.tail.headD 0 = x1 := by cases xs with | nil => simp at hx0 | cons y l => cases l with | nil => simp at hx1 | cons z l => simpa using hx1
 have r1 := h.2 x1 (List.mem_of_getElem? hx1)
 have HEQ := Lib.hid (fun w => (show (Op.equalIn 10000 40 (.agg (adr true xs).toArray) (.agg (adr true onev6).toArray)).run Tryz.prog w = .ok false w by rw [eq_ads _ _ _ _ h (okB_dec (by decide))]; simp [ho]))
 have hne : ¬ x0 = 255 := by rw [← e0]; exact hx
 have H1 := Lib.hid (hp_lit true 10 [254, 128] (by decide) (okB_dec (by decide)) (by decide) (by decide) (by decide) (by decide) xs h hv)
 have H2 := Lib.hid (hp_lit true 10 [254, 192] (by decide) (okB_dec (by decide)) (by decide) (by decide) (by decide) (by decide) xs h hv)
 have P1 := Lib.hid hp1
 have P2 := Lib.hid hp2
 have HS := Lib.hid (show scopeP true xs = 5 by unfold scopeP; rw [if_neg (by simp [hv]), if_neg (by simp), if_neg hx, if_neg (by simp [ho, hp1]), if_pos hp2])
 clear e0 e1 hx ho hp1 hp2
 have g0 := ((Touch.refl [] w).alloc (.cells (adr true xs).toArray 40)).alloc (.cells (adr false (List.replicate 16 0)).toArray 40)
 have g1 := ((Touch.refl [] (w.alloc (.cells (adr true xs).toArray 40))).alloc (.cells (adr false (List.replicate 16 0)).toArray 40)).at (heap_alloc_new w (.cells (adr true xs).toArray 40)) (by simp)
 have g2 := heap_alloc2_new w (.cells (adr true xs).toArray 40) (.cells (adr false (List.replicate 16 0)).toArray 40)
 have HL17 := Lib.hid (show (adr true xs).length = 17 by simp [adr, h.1])
 have HT := Lib.hid g0
 have HG1 := Lib.hid g1
 have HG2 := Lib.hid g2
 have HV := Lib.hid hv
 have HVA := Lib.hid (ipvalid_any true xs h)
 clear g0 g1 g2 h hv
 go_enter Tryz.func144, Tryz.ntmps144
 go_wp2_with (first
  | ((with_reducible refine at_build 40 ?_); refine wpList_built (by rfl) 40 _ (by rfl) _ _ (by rfl) built_one ?_)
  | ((with_reducible refine at_store 40 ?_); refine wpList_store_into rfl 40 _ _ rfl (w.heap.size + 1) 40 _ (adr true onev6) rfl rfl HG2.out rfl size31 (adr_one _ _) ?_))
 intro w1 h1 t1 z1
 have HT1 := Lib.hid (HT.out.trans t1 (by intro y hy; right; simp at hy; omega))
 have A1 := Lib.hid (t1.at HG1.out (by simp))
 have L1 := Lib.hid h1
 have RA := range_block A1.out
 have RL := range_block L1.out
 clear h1 t1 z1 HT HG1 HG2
 go_wp2_with (first
  | ((with_reducible refine at_load 40 ?_); refine wpList_load_mid rfl 40 _ rfl w.heap.size 0 rfl (adr true xs) _ RA Tryz.underlying40 rfl (by rw [size31, HL17.out]) ?_))
 refine (HVA.out _).mono ?_
 rintro e w2 ⟨he, t2⟩
 rw [HV.out] at he
 subst he
 have HT2 := Lib.hid (HT1.out.trans t2 (by simp))
 have A2 := Lib.hid (t2.at A1.out (by simp))
 have L2 := Lib.hid (t2.at L1.out (by simp))
 have RA := range_block A2.out
 have RL := range_block L2.out
 have CA := Lib.hid (adr_cell A2.out)
 clear t2 HT1 A1 L1
 obtain ⟨c0, cj⟩ := CA.out
 have c1 : _ = some (Value.int IntKind.u8 x0) := cj 0 x0 hx0
 have c2 : _ = some (Value.int IntKind.u8 x1) := cj 1 x1 hx1
 simp only [Nat.add_zero, Nat.reduceAdd] at c1 c2
 clear cj
 go_wp2_with (first
  | ((with_reducible refine at_load 40 ?_); refine wpList_load_mid rfl 40 _ rfl w.heap.size 0 rfl (adr true xs) _ RA Tryz.underlying40 rfl (by rw [size31, HL17.out]) ?_)
  | ((with_reducible refine at_load_g 40 3 false ?_); refine wpList_load_gg 3 false rfl (by rfl) 40 _ rfl w.heap.size 0 rfl (adr true xs) _ RA Tryz.underlying40 rfl (by rw [size31, HL17.out]) ?_)
  | ((with_reducible refine at_load 40 ?_); refine wpList_load_mid rfl 40 _ rfl (w.heap.size + 1) 0 rfl (adr true onev6) _ RL Tryz.underlying40 rfl (by rw [size31]; rfl) ?_)
  | ((with_reducible refine at_bin .eql 40 ?_); refine wpList_eql_agg rfl 40 _ _ _ rfl _ _ rfl rfl (by kernel_rfl) _ (HEQ.out _) ?_))
 refine (H1.out _ _ _ 5 (heap_alloc_new _ _)).mono ?_
 rintro e w3 ⟨he, t3⟩
 rw [P1.out] at he
 subst he
 have t3 := ((Touch.refl [] _).alloc _).trans t3 (by simp)
 have HT3 := Lib.hid (HT2.out.trans t3 (by simp))
 have A3 := Lib.hid (t3.at A2.out (by simp))
 have L3 := Lib.hid (t3.at L2.out (by simp))
 have RA := range_block A3.out
 have RL := range_block L3.out
 have CA := Lib.hid (adr_cell A3.out)
 clear t3 HT2 A2 L2
 obtain ⟨c0, cj⟩ := CA.out
 clear cj
 go_wp2_with (first
  | ((with_reducible refine at_load 40 ?_); refine wpList_load_mid rfl 40 _ rfl w.heap.size 0 rfl (adr true xs) _ RA Tryz.underlying40 rfl (by rw [size31, HL17.out]) ?_)
  | ((with_reducible refine at_load_g 40 3 true ?_); refine wpList_load_gg 3 true rfl (by rfl) 40 _ rfl w.heap.size 0 rfl (adr true xs) _ RA Tryz.underlying40 rfl (by rw [size31, HL17.out]) ?_)
  | ((with_reducible refine at_load 40 ?_); refine wpList_load_mid rfl 40 _ rfl (w.heap.size + 1) 0 rfl (adr true onev6) _ RL Tryz.underlying40 rfl (by rw [size31]; rfl) ?_)
  | ((with_reducible refine at_bin .eql 40 ?_); refine wpList_eql_agg rfl 40 _ _ _ rfl _ _ rfl rfl (by kernel_rfl) _ (HEQ.out _) ?_))
 refine (H2.out _ _ _ 5 (heap_alloc_new _ _)).mono ?_
 rintro e w4 ⟨he, t4⟩
 rw [P2.out] at he
 subst he
 have t4 := ((Touch.refl [] _).alloc _).trans t4 (by simp)
 have HT4 := Lib.hid (HT3.out.trans t4 (by simp))
 have A4 := Lib.hid (t4.at A3.out (by simp))
 have L4 := Lib.hid (t4.at L3.out (by simp))
 have RA := range_block A4.out
 have RL := range_block L4.out
 have CA := Lib.hid (adr_cell A4.out)
 clear t4 HT3 A3 L3
 obtain ⟨c0, cj⟩ := CA.out
 clear cj
 go_wp2_with (first
  | ((with_reducible refine at_load 40 ?_); refine wpList_load_mid rfl 40 _ rfl w.heap.size 0 rfl (adr true xs) _ RA Tryz.underlying40 rfl (by rw [size31, HL17.out]) ?_)
  | ((with_reducible refine at_load_g 40 3 true ?_); refine wpList_load_gg 3 true rfl (by rfl) 40 _ rfl w.heap.size 0 rfl (adr true xs) _ RA Tryz.underlying40 rfl (by rw [size31, HL17.out]) ?_)
  | ((with_reducible refine at_load 40 ?_); refine wpList_load_mid rfl 40 _ rfl (w.heap.size + 1) 0 rfl (adr true onev6) _ RL Tryz.underlying40 rfl (by rw [size31]; rfl) ?_)
  | ((with_reducible refine at_bin .eql 40 ?_); refine wpList_eql_agg rfl 40 _ _ _ rfl _ _ rfl rfl (by kernel_rfl) _ (HEQ.out _) ?_))
 go_ret
 exact ⟨by rw [HS.out]; rfl, HT4.out⟩
set_option maxRecDepth 100000 in
set_option maxHeartbeats 4000000 in
theorem sc_6e (xs : List Int) (h : okB xs) (hx : xs.headD 0 ≠ 255) (ho : xs ≠ onev6) (hp1 : hpP 10 [254, 128] xs = false) (hp2 : hpP 10 [254, 192] xs = false) (w : World) :
  Calls Tryz.prog 144 #[.agg (adr true xs).toArray] w fun e w' => e = .returned (.int .i64 (scopeP true xs)) ∧ Touch [] w w' := by
 have hv : vld true xs = true := rfl
 obtain ⟨x0, hx0⟩ : ∃ x, xs[0]? = some x := ⟨_, List.getElem?_eq_getElem (by have := h.1; omega)⟩
 obtain ⟨x1, hx1⟩ : ∃ x, xs[1]? = some x := ⟨_, List.getElem?_eq_getElem (by have := h.1; omega)⟩
 have e0 : xs.headD 0 = x0 := by cases xs with | nil => simp at hx0 | cons y l => simpa using hx0
 have e1 : xs.tail.headD 0 = x1 := by cases xs with | nil => simp at hx0 | cons y l => cases l with | nil => simp at hx1 | cons z l => simpa using hx1
 have r1 := h.2 x1 (List.mem_of_getElem? hx1)
 have HEQ := Lib.hid (fun w => (show (Op.equalIn 10000 40 (.agg (adr true xs).toArray) (.agg (adr true onev6).toArray)).run Tryz.prog w = .ok false w by rw [eq_ads _ _ _ _ h (okB_dec (by decide))]; simp [ho]))
 have hne : ¬ x0 = 255 := by rw [← e0]; exact hx
 have H1 := Lib.hid (hp_lit true 10 [254, 128] (by decide) (okB_dec (by decide)) (by decide) (by decide) (by decide) (by decide) xs h hv)
 have H2 := Lib.hid (hp_lit true 10 [254, 192] (by decide) (okB_dec (by decide)) (by decide) (by decide) (by decide) (by decide) xs h hv)
 have P1 := Lib.hid hp1
 have P2 := Lib.hid hp2
 have HS := Lib.hid (show scopeP true xs = 14 by unfold scopeP; rw [if_neg (by simp [hv]), if_neg (by simp), if_neg hx, if_neg (by simp [ho, hp1]), if_neg (by simp [hp2])])
 clear e0 e1 hx ho hp1 hp2
 have g0 := ((Touch.refl [] w).alloc (.cells (adr true xs).toArray 40)).alloc (.cells (adr false (List.replicate 16 0)).toArray 40)
 have g1 := ((Touch.refl [] (w.alloc (.cells (adr true xs).toArray 40))).alloc (.cells (adr false (List.replicate 16 0)).toArray 40)).at (heap_alloc_new w (.cells (adr true xs).toArray 40)) (by simp)
 have g2 := heap_alloc2_new w (.cells (adr true xs).toArray 40) (.cells (adr false (List.replicate 16 0)).toArray 40)
 have HL17 := Lib.hid (show (adr true xs).length = 17 by simp [adr, h.1])
 have HT := Lib.hid g0
 have HG1 := Lib.hid g1
 have HG2 := Lib.hid g2
 have HV := Lib.hid hv
 have HVA := Lib.hid (ipvalid_any true xs h)
 clear g0 g1 g2 h hv
 go_enter Tryz.func144, Tryz.ntmps144
 go_wp2_with (first
  | ((with_reducible refine at_build 40 ?_); refine wpList_built (by rfl) 40 _ (by rfl) _ _ (by rfl) built_one ?_)
  | ((with_reducible refine at_store 40 ?_); refine wpList_store_into rfl 40 _ _ rfl (w.heap.size + 1) 40 _ (adr true onev6) rfl rfl HG2.out rfl size31 (adr_one _ _) ?_))
 intro w1 h1 t1 z1
 have HT1 := Lib.hid (HT.out.trans t1 (by intro y hy; right; simp at hy; omega))
 have A1 := Lib.hid (t1.at HG1.out (by simp))
 have L1 := Lib.hid h1
 have RA := range_block A1.out
 have RL := range_block L1.out
 clear h1 t1 z1 HT HG1 HG2
 go_wp2_with (first
  | ((with_reducible refine at_load 40 ?_); refine wpList_load_mid rfl 40 _ rfl w.heap.size 0 rfl (adr true xs) _ RA Tryz.underlying40 rfl (by rw [size31, HL17.out]) ?_))
 refine (HVA.out _).mono ?_
 rintro e w2 ⟨he, t2⟩
 rw [HV.out] at he
 subst he
 have HT2 := Lib.hid (HT1.out.trans t2 (by simp))
 have A2 := Lib.hid (t2.at A1.out (by simp))
 have L2 := Lib.hid (t2.at L1.out (by simp))
 have RA := range_block A2.out
 have RL := range_block L2.out
 have CA := Lib.hid (adr_cell A2.out)
 clear t2 HT1 A1 L1
 obtain ⟨c0, cj⟩ := CA.out
 have c1 : _ = some (Value.int IntKind.u8 x0) := cj 0 x0 hx0
 have c2 : _ = some (Value.int IntKind.u8 x1) := cj 1 x1 hx1
 simp only [Nat.add_zero, Nat.reduceAdd] at c1 c2
 clear cj
 go_wp2_with (first
  | ((with_reducible refine at_load 40 ?_); refine wpList_load_mid rfl 40 _ rfl w.heap.size 0 rfl (adr true xs) _ RA Tryz.underlying40 rfl (by rw [size31, HL17.out]) ?_)
  | ((with_reducible refine at_load_g 40 3 false ?_); refine wpList_load_gg 3 false rfl (by rfl) 40 _ rfl w.heap.size 0 rfl (adr true xs) _ RA Tryz.underlying40 rfl (by rw [size31, HL17.out]) ?_)
  | ((with_reducible refine at_load 40 ?_); refine wpList_load_mid rfl 40 _ rfl (w.heap.size + 1) 0 rfl (adr true onev6) _ RL Tryz.underlying40 rfl (by rw [size31]; rfl) ?_)
  | ((with_reducible refine at_bin .eql 40 ?_); refine wpList_eql_agg rfl 40 _ _ _ rfl _ _ rfl rfl (by kernel_rfl) _ (HEQ.out _) ?_))
 refine (H1.out _ _ _ 5 (heap_alloc_new _ _)).mono ?_
 rintro e w3 ⟨he, t3⟩
 rw [P1.out] at he
 subst he
 have t3 := ((Touch.refl [] _).alloc _).trans t3 (by simp)
 have HT3 := Lib.hid (HT2.out.trans t3 (by simp))
 have A3 := Lib.hid (t3.at A2.out (by simp))
 have L3 := Lib.hid (t3.at L2.out (by simp))
 have RA := range_block A3.out
 have RL := range_block L3.out
 have CA := Lib.hid (adr_cell A3.out)
 clear t3 HT2 A2 L2
 obtain ⟨c0, cj⟩ := CA.out
 clear cj
 go_wp2_with (first
  | ((with_reducible refine at_load 40 ?_); refine wpList_load_mid rfl 40 _ rfl w.heap.size 0 rfl (adr true xs) _ RA Tryz.underlying40 rfl (by rw [size31, HL17.out]) ?_)
  | ((with_reducible refine at_load_g 40 3 true ?_); refine wpList_load_gg 3 true rfl (by rfl) 40 _ rfl w.heap.size 0 rfl (adr true xs) _ RA Tryz.underlying40 rfl (by rw [size31, HL17.out]) ?_)
  | ((with_reducible refine at_load 40 ?_); refine wpList_load_mid rfl 40 _ rfl (w.heap.size + 1) 0 rfl (adr true onev6) _ RL Tryz.underlying40 rfl (by rw [size31]; rfl) ?_)
  | ((with_reducible refine at_bin .eql 40 ?_); refine wpList_eql_agg rfl 40 _ _ _ rfl _ _ rfl rfl (by kernel_rfl) _ (HEQ.out _) ?_))
 refine (H2.out _ _ _ 5 (heap_alloc_new _ _)).mono ?_
 rintro e w4 ⟨he, t4⟩
 rw [P2.out] at he
 subst he
 have t4 := ((Touch.refl [] _).alloc _).trans t4 (by simp)
 have HT4 := Lib.hid (HT3.out.trans t4 (by simp))
 have A4 := Lib.hid (t4.at A3.out (by simp))
 have L4 := Lib.hid (t4.at L3.out (by simp))
 have RA := range_block A4.out
 have RL := range_block L4.out
 have CA := Lib.hid (adr_cell A4.out)
 clear t4 HT3 A3 L3
 obtain ⟨c0, cj⟩ := CA.out
 clear cj
 go_wp2_with (first
  | ((with_reducible refine at_load 40 ?_); refine wpList_load_mid rfl 40 _ rfl w.heap.size 0 rfl (adr true xs) _ RA Tryz.underlying40 rfl (by rw [size31, HL17.out]) ?_)
  | ((with_reducible refine at_load_g 40 3 true ?_); refine wpList_load_gg 3 true rfl (by rfl) 40 _ rfl w.heap.size 0 rfl (adr true xs) _ RA Tryz.underlying40 rfl (by rw [size31, HL17.out]) ?_)
  | ((with_reducible refine at_load 40 ?_); refine wpList_load_mid rfl 40 _ rfl (w.heap.size + 1) 0 rfl (adr true onev6) _ RL Tryz.underlying40 rfl (by rw [size31]; rfl) ?_)
  | ((with_reducible refine at_bin .eql 40 ?_); refine wpList_eql_agg rfl 40 _ _ _ rfl _ _ rfl rfl (by kernel_rfl) _ (HEQ.out _) ?_))
 go_ret
 exact ⟨by rw [HS.out]; rfl, HT4.out⟩
theorem scope_any (b : Bool) (xs : List Int) (h : okB xs) (w : World) :
  Calls Tryz.prog 144 #[.agg (adr b xs).toArray] w fun e w' => e = .returned (.int .i64 (scopeP b xs)) ∧ Touch [] w w' := by
 cases b
 ·cases hv : vld false xs
  ·exact sc_bad xs h hv w
  ·cases hp1 : hpP 8 [127] xs
   ·cases hp2 : hpP 16 [169, 254] xs
    ·exact sc_4c xs h hv hp1 hp2 w
    ·exact sc_4b xs h hv hp1 hp2 w
   ·exact sc_4a xs h hv hp1 w
 ·by_cases hx : xs.headD 0 = 255
  ·exact sc_6a xs h hx w
  ·by_cases ho : xs = onev6
   ·exact sc_6b xs h hx ho w
   ·cases hp1 : hpP 10 [254, 128] xs
    ·cases hp2 : hpP 10 [254, 192] xs
     ·exact sc_6e xs h hx ho hp1 hp2 w
     ·exact sc_6d xs h hx ho hp1 hp2 w
    ·exact sc_6c xs h hx ho hp1 w
end Go.Proofs.YtiklhaajhdephaaGreatDoor

/-
 The contracts of cmp.Compare[int], cmp.Or[int].
-/
namespace Go.Proofs.YtiklhaajhdephaaGreatDoor
open Go.RowKit
set_option linter.unusedVariables false
set_option linter.unusedSimpArgs false

def cmpP (x y : Int) : Int := if x < y then -1 else if y < x then 1 else 0
theorem nan_any (x : Int) (w : World) : Calls Tryz.prog 133 #[.int .i64 x] w fun e w' => e = .returned (.bool false) ∧ w = w' := by
 go_enter Tryz.func133, Tryz.ntmps133
 go_wp2_with fail
 go_ret
 exact ⟨rfl, rfl⟩
set_option maxRecDepth 100000 in
theorem cmp_any (x y : Int) (w : World) : Calls Tryz.prog 142 #[.int .i64 x, .int .i64 y] w fun e w' => e = .returned (.int .i64 (cmpP x y)) ∧ w = w' := by
 rcases Int.lt_trichotomy x y with h | h | h
 ·have hs : cmpP x y = -1 := by simp [cmpP, h]
  rw [hs]
  clear hs
  go_enter Tryz.func142, Tryz.ntmps142
  go_wp2_with fail
  refine (nan_any _ _).mono ?_
  rintro e w1 ⟨rfl, rfl⟩
  go_wp2_with fail
  refine (nan_any _ _).mono ?_
  rintro e w1 ⟨rfl, rfl⟩
  go_wp2_with fail
  go_ret
  exact ⟨rfl, rfl⟩
 ·subst h
  have hs : cmpP x x = 0 := by simp [cmpP]
  rw [hs]
  clear hs
  go_enter Tryz.func142, Tryz.ntmps142
  go_wp2_with fail
  refine (nan_any _ _).mono ?_
  rintro e w1 ⟨rfl, rfl⟩
  go_wp2_with fail
  refine (nan_any _ _).mono ?_
  rintro e w1 ⟨rfl, rfl⟩
  go_wp2_with fail
  go_ret
  exact ⟨rfl, rfl⟩
 ·have hs : cmpP x y = 1 := by simp [cmpP, h]; omega
  have hn : ¬ x < y := by omega
  rw [hs]
  clear hs
  go_enter Tryz.func142, Tryz.ntmps142
  go_wp2_with fail
  refine (nan_any _ _).mono ?_
  rintro e w1 ⟨rfl, rfl⟩
  go_wp2_with fail
  refine (nan_any _ _).mono ?_
  rintro e w1 ⟨rfl, rfl⟩
  go_wp2_with fail
  go_ret
  exact ⟨rfl, rfl⟩
def orP (x y : Int) : Int := if x = 0 then y else x
set_option maxRecDepth 100000 in
theorem or_any (x y : Int) (g c : Nat) (w : World) (h0 : w.cell? ⟨g, 0, none⟩ = some (.int .i64 x)) (h1 : w.cell? ⟨g, 1, none⟩ = some (.int .i64 y)) :
  Calls Tryz.prog 141 #[.slice (some ⟨g, 0, none⟩) 2 c] w fun e w' => e = .returned (.int .i64 (orP x y)) ∧ w = w' := by
 go_enter Tryz.func141, Tryz.ntmps141
 go_wp2_with fail
 go_loopw [8] (fun vi wr => wr = w ∧ (vi = .int .i64 0 ∨ (vi = .int .i64 1 ∧ x = 0) ∨ (vi = .int .i64 2 ∧ x = 0 ∧ y = 0))) (fun vi _ => 2 - (intOf vi).toNat)
 case atStart => exact ⟨rfl, .inl rfl⟩
 case round =>
  obtain ⟨rfl, hrel⟩ := hrel
  rcases hrel with rfl | ⟨rfl, hx⟩ | ⟨rfl, hx, hy⟩
  ·by_cases hx : x = 0
   ·go_wp2_with fail
    go_roundw
    case rel => simp [hx]
    case measure => simp [intOf]
   ·have hs : orP x y = x := by simp [orP, hx]
    go_wp2_with fail
    go_ret
    exact ⟨by rw [hs]; rfl, rfl⟩
  ·have hs : orP x y = y := by simp [orP, hx]
   by_cases hy : y = 0
   ·go_wp2_with fail
    go_roundw
    case rel => simp [hx, hy]
    case measure => simp [intOf]
   ·go_wp2_with fail
    go_ret
    exact ⟨by rw [hs]; rfl, rfl⟩
  ·have hs : orP x y = 0 := by simp [orP, hx, hy]
   go_wp2_with fail
   go_ret
   exact ⟨by rw [hs]; rfl, rfl⟩
end Go.Proofs.YtiklhaajhdephaaGreatDoor

/-
 The contracts of compare and Less.
-/
namespace Go.Proofs.YtiklhaajhdephaaGreatDoor
open Go.RowKit
set_option linter.unusedVariables false
set_option linter.unusedSimpArgs false

def compP (b : Bool) (xs : List Int) (b2 : Bool) (ys : List Int) : Int := orP (cmpP (precP b2 ys) (precP b xs)) (cmpP (scopeP b xs) (scopeP b2 ys))
set_option maxRecDepth 100000 in
set_option maxHeartbeats 4000000 in
theorem comp_any (b : Bool) (xs : List Int) (b2 : Bool) (ys : List Int) (h : okB xs) (h2 : okB ys) (w : World) :
  Calls Tryz.prog 126 #[.agg (adr b xs).toArray, .agg (adr b2 ys).toArray] w fun e w' => e = .returned (.int .i64 (compP b xs b2 ys)) ∧ Touch [] w w' := by
 have R0 := World.rangeAt_alloc (range_new w (adr b xs) 40) (.cells (adr b2 ys).toArray 40)
 have R1 := range_block (heap_alloc2_new w (.cells (adr b xs).toArray 40) (.cells (adr b2 ys).toArray 40))
 have t0 := (((Touch.refl [] w).alloc (.cells (adr b xs).toArray 40)).alloc (.cells (adr b2 ys).toArray 40)).drew
 obtain ⟨c1, hc1⟩ : ∃ c, c = cmpP (precP b2 ys) (precP b xs) := ⟨_, rfl⟩
 obtain ⟨c2, hc2⟩ : ∃ c, c = cmpP (scopeP b xs) (scopeP b2 ys) := ⟨_, rfl⟩
 have HRES := Lib.hid (show compP b xs b2 ys = orP c1 c2 by rw [hc1, hc2]; rfl)
 have HLA := Lib.hid (show (adr b xs).length = 17 by simp [adr, h.1])
 have HLB := Lib.hid (show (adr b2 ys).length = 17 by simp [adr, h2.1])
 have HPA := Lib.hid (prec_any b xs h)
 have HPB := Lib.hid (prec_any b2 ys h2)
 have HSA := Lib.hid (scope_any b xs h)
 have HSB := Lib.hid (scope_any b2 ys h2)
 have HC1 := Lib.hid (cmp_any (precP b2 ys) (precP b xs))
 have HC2 := Lib.hid (cmp_any (scopeP b xs) (scopeP b2 ys))
 rw [← hc1] at HC1
 rw [← hc2] at HC2
 clear h h2 hc1 hc2
 go_enter Tryz.func126, Tryz.ntmps126
 go_wp2_with fail
 obtain ⟨W, hW⟩ : ∃ W, W = ((w.alloc (.cells (adr b xs).toArray 40)).alloc (.cells (adr b2 ys).toArray 40)).drew := ⟨_, rfl⟩
 have rA : W.rangeAt w.heap.size 0 (adr b xs) := by rw [hW]; exact R0
 have rB : W.rangeAt (w.heap.size + 1) 0 (adr b2 ys) := by rw [hW]; exact R1
 refine wp_region_held (S := Touch [] W) (by kernel_rfl) ?_
 change wpAnyH _ _ _ _ _ _ _ _ ((w.alloc (.cells (adr b xs).toArray 40)).alloc (.cells (adr b2 ys).toArray 40)).drew
 rw [← hW] at t0 ⊢
 clear hW R0 R1
 have T0 := Lib.hid t0
 clear t0
 have hS := Touch.refl [] W
 refine tkH 0 (.agg (adr b2 ys).toArray) ?_ (hy := Or.inl ⟨by rfl, fun w' hw => exec_load_agg _ 40 _ rfl _ _ rfl (adr b2 ys) _ (hw.range rB (by simp)) Tryz.underlying40 rfl (by rw [size31, HLB.out])⟩)
 refine tkH 2 (.agg (adr b xs).toArray) ?_ (hy := Or.inl ⟨by rfl, fun w' hw => exec_load_agg _ 40 _ rfl _ _ rfl (adr b xs) _ (hw.range rA (by simp)) Tryz.underlying40 rfl (by rw [size31, HLA.out])⟩)
 refine tkH 5 (.agg (adr b xs).toArray) ?_ (hy := Or.inl ⟨by rfl, fun w' hw => exec_load_agg _ 40 _ rfl _ _ rfl (adr b xs) _ (hw.range rA (by simp)) Tryz.underlying40 rfl (by rw [size31, HLA.out])⟩)
 refine tkH 7 (.agg (adr b2 ys).toArray) ?_ (hy := Or.inl ⟨by rfl, fun w' hw => exec_load_agg _ 40 _ rfl _ _ rfl (adr b2 ys) _ (hw.range rB (by simp)) Tryz.underlying40 rfl (by rw [size31, HLB.out])⟩)
 refine wpAnyH_ready (rs := [1]) (by kernel_rfl) (by simp) ?_
 refine cnH rfl (fun K hK => ?_) AllReadyH.nil
 go_simp
 refine (HPB.out _).mono ?_
 rintro e w1 ⟨rfl, t1⟩
 have hS2 := hS.trans t1 (by simp)
 refine hK.out _ _ hS2 (fun _ => ?_)
 clear hK K hS t1
 have hS := hS2
 clear hS2
 try simp only [Act.put, sT, s0, sS]
 refine wpAnyH_ready (rs := [3]) (by kernel_rfl) (by simp) ?_
 refine cnH rfl (fun K hK => ?_) AllReadyH.nil
 go_simp
 refine (HPA.out _).mono ?_
 rintro e w3 ⟨rfl, t3⟩
 have hS2 := hS.trans t3 (by simp)
 refine hK.out _ _ hS2 (fun _ => ?_)
 clear hK K hS t3
 have hS := hS2
 clear hS2
 try simp only [Act.put, sT, s0, sS]
 refine wpAnyH_ready (rs := [4]) (by kernel_rfl) (by simp) ?_
 refine cnH rfl (fun K hK => ?_) AllReadyH.nil
 go_simp
 refine (HC1.out _).mono ?_
 rintro e w4 ⟨rfl, rfl⟩
 refine hK.out _ _ hS (fun _ => ?_)
 clear hK K
 try simp only [Act.put, sT, s0, sS]
 refine wpAnyH_ready (rs := [6]) (by kernel_rfl) (by simp) ?_
 refine cnH rfl (fun K hK => ?_) AllReadyH.nil
 go_simp
 refine (HSA.out _).mono ?_
 rintro e w6 ⟨rfl, t6⟩
 have hS2 := hS.trans t6 (by simp)
 refine hK.out _ _ hS2 (fun _ => ?_)
 clear hK K hS t6
 have hS := hS2
 clear hS2
 try simp only [Act.put, sT, s0, sS]
 refine wpAnyH_ready (rs := [8]) (by kernel_rfl) (by simp) ?_
 refine cnH rfl (fun K hK => ?_) AllReadyH.nil
 go_simp
 refine (HSB.out _).mono ?_
 rintro e w8 ⟨rfl, t8⟩
 have hS2 := hS.trans t8 (by simp)
 refine hK.out _ _ hS2 (fun _ => ?_)
 clear hK K hS t8
 have hS := hS2
 clear hS2
 try simp only [Act.put, sT, s0, sS]
 refine wpAnyH_ready (rs := [9]) (by kernel_rfl) (by simp) ?_
 refine cnH rfl (fun K hK => ?_) AllReadyH.nil
 go_simp
 refine (HC2.out _).mono ?_
 rintro e w9 ⟨rfl, rfl⟩
 refine hK.out _ _ hS (fun _ => ?_)
 clear hK K
 try simp only [Act.put, sT, s0, sS]
 refine wpAnyH_ready (rs := [10]) (by kernel_rfl) (by simp) ?_
 refine cnH rfl (fun K hK => ?_) AllReadyH.nil
 go_simp
 have hS2 := hS.alloc (.cells #[.int .i64 c1, .int .i64 c2] 3)
 have k0 : (w8.alloc (.cells #[.int .i64 c1, .int .i64 c2] 3)).cell? ⟨w8.heap.size, 0, none⟩ = some (.int .i64 c1) := by rw [cell_of_row _ _ _ _ _ _ (heap_alloc_new w8 (.cells #[.int .i64 c1, .int .i64 c2] 3))]; rfl
 have k1 : (w8.alloc (.cells #[.int .i64 c1, .int .i64 c2] 3)).cell? ⟨w8.heap.size, 1, none⟩ = some (.int .i64 c2) := by rw [cell_of_row _ _ _ _ _ _ (heap_alloc_new w8 (.cells #[.int .i64 c1, .int .i64 c2] 3))]; rfl
 refine hK.out _ _ hS2 (fun _ => ?_)
 clear hK K hS
 have hS := hS2
 clear hS2
 try simp only [Act.put, sT, s0, sS]
 refine wpAnyH_ready (rs := [11]) (by kernel_rfl) (by simp) ?_
 refine cnH rfl (fun K hK => ?_) AllReadyH.nil
 go_simp
 refine (or_any c1 c2 w8.heap.size 2 _ k0 k1).mono ?_
 rintro e w11 ⟨rfl, rfl⟩
 refine hK.out _ _ hS (fun _ => ?_)
 clear hK K
 try simp only [Act.put, sT, s0, sS]
 refine tkH 12 (.int .i64 (orP c1 c2)) ?_
 refine wpAnyH_done (by kernel_rfl) ?_ _
 try simp only [Act.put, sT, s0, sS]
 go_wp2_with fail
 go_ret
 exact ⟨by rw [HRES.out]; rfl, T0.out.trans hS (by simp)⟩
def lessP (b : Bool) (xs : List Int) (b2 : Bool) (ys : List Int) : Bool := decide (compP b xs b2 ys < 0)
end Go.Proofs.YtiklhaajhdephaaGreatDoor

/-
 Addresses as a type; slices of addresses of the call's own.
-/
namespace Go.Proofs.YtiklhaajhdephaaGreatDoor
open Go.RowKit
set_option linter.unusedVariables false
set_option linter.unusedSimpArgs false

structure Ad where
 b : Bool
 xs : List Int
 ok : okB xs
def Ad.cells (a : Ad) : List Value := adr a.b a.xs
def Ad.comp (a c : Ad) : Int := compP a.b a.xs c.b c.xs
def Ad.less (a c : Ad) : Bool := lessP a.b a.xs c.b c.xs
theorem Ad.less_eq (a c : Ad) : a.less c = decide (a.comp c < 0) := rfl
theorem Ad.len (a : Ad) : a.cells.length = 17 := by simp [Ad.cells, adr, a.ok.1]
theorem Ad.one (a : Ad) : ∀ v ∈ a.cells, v.oneCell' = true := adr_one _ _
theorem Ad.is (a : Ad) : IsAd a.cells := ⟨a.b, a.xs, rfl, a.ok.1, a.ok.2⟩
theorem ad_of {cs : List Value} (h : IsAd cs) : ∃ a : Ad, cs = a.cells := by
 obtain ⟨b, xs, rfl, hl, hr⟩ := h
 exact ⟨⟨b, xs, ⟨hl, hr⟩⟩, rfl⟩
theorem ads_of : ∀ {xs : List (List Value)}, (∀ x ∈ xs, IsAd x) → ∃ l : List Ad, xs = l.map Ad.cells
 | [], _ => ⟨[], rfl⟩
 | x :: xs, h => by
  obtain ⟨a, rfl⟩ := ad_of (h x (by simp))
  obtain ⟨l, rfl⟩ := ads_of (xs := xs) (fun y hy => h y (by simp [hy]))
  exact ⟨a :: l, rfl⟩
theorem ads_len17 (l : List Ad) : ∀ x ∈ l.map Ad.cells, x.length = 17 := by
 intro x hx
 obtain ⟨a, _, rfl⟩ := List.mem_map.1 hx
 exact a.len
theorem ads_flat (l : List Ad) : (l.map Ad.cells).flatten.length = l.length * 17 := by rw [flat_len (ads_len17 l), List.length_map]
theorem ads_set : ∀ (l : List Ad) (j : Nat) (a : Ad), j < l.length → (l.map Ad.cells).flatten.take (j * 17) ++ a.cells ++ (l.map Ad.cells).flatten.drop (j * 17 + 17) = ((l.set j a).map Ad.cells).flatten
 | [], j, a, h => by simp at h
 | x :: l, 0, a, h => by
  have hx := x.len
  simp only [List.map_cons, List.flatten_cons, Nat.zero_mul, List.take_zero, List.nil_append, Nat.zero_add, List.set_cons_zero]
  rw [List.drop_append, List.drop_eq_nil_of_le (by omega)]
  simp [hx]
 | x :: l, j + 1, a, h => by
  have hx := x.len
  have ih := ads_set l j a (by simpa using h)
  simp only [List.map_cons, List.flatten_cons, List.set_cons_succ]
  rw [List.take_append, List.drop_append, List.take_of_length_le (l := x.cells) (by omega), List.drop_eq_nil_of_le (show x.cells.length ≤ (j + 1) * 17 + 17 by omega)]
  rw [show (j + 1) * 17 - x.cells.length = j * 17 by omega, show (j + 1) * 17 + 17 - x.cells.length = j * 17 + 17 by omega]
  rw [← ih]
  simp [List.append_assoc]
/-- A slice of addresses of the call's own, made since w0. -/
def OwnA (w0 w : World) (v : Value) (l : List Ad) : Prop := Own w0 w v (l.map Ad.cells)
theorem OwnA.row' {w0 w : World} {v : Value} {l : List Ad} (h : OwnA w0 w v l) : w.ownsRow 0 40 17 v l.length (l.map Ad.cells).flatten := by
 have := h.row
 rw [List.length_map] at this
 exact this
theorem own_at {w : World} {g n c : Nat} {l : List Ad} (hrow : w.ownsRow 0 40 17 (.slice (some ⟨g, 0, none⟩) n c) n (l.map Ad.cells).flatten) {i : Nat} {a : Ad} (h : l[i]? = some a) : w.rangeAt g (i * 17) a.cells := by
 obtain ⟨hlen, hr⟩ := hrow
 rcases hr with ⟨hv, hn⟩ | ⟨g', cap, cur, hv, hb, hg, hnc, hcm, hcs, htk⟩
 ·simp at hv
 ·simp only [Value.slice.injEq, Option.some.injEq, Addr.mk.injEq] at hv
  obtain ⟨⟨rfl, _⟩, _, rfl⟩ := hv
  intro j u hu
  have hf := flat_get (ads_len17 l) (i := i) (x := a.cells) (by simp [h]) hu
  rw [cell_of_row _ _ _ _ _ _ hg]
  rw [← htk, List.getElem?_take] at hf
  split at hf
  ·simpa using hf
  ·cases hf
theorem OwnA.form {w0 w : World} {v : Value} {l : List Ad} (h : OwnA w0 w v l) : ∃ a c, v = .slice a l.length c ∧ l.length ≤ c ∧ c ≤ maxLen ∧ (0 < l.length → ∃ g, a = some ⟨g, 0, none⟩) := owns_form h.row'
/-! ### sorting in place -/
def swp (L : List Ad) (k : Nat) (x y : Ad) : List Ad := (L.set (k + 1) y).set k x
def bubble (a : Nat) : Nat → List Ad → List Ad
 | 0, L => L
 | k + 1, L => match L[k + 1]?, L[k]? with
  | some x, some y => if a < k + 1 ∧ x.less y = true then bubble a k (swp L k x y) else L
  | _, _ => L
def isortN (l : List Ad) (a : Nat) : Nat → List Ad
 | 0 => l
 | k + 1 => bubble a (a + 1 + k) (isortN l a k)
theorem swp_len (L : List Ad) (k : Nat) (x y : Ad) : (swp L k x y).length = L.length := by simp [swp]
theorem bubble_len (a : Nat) : ∀ (j : Nat) (L : List Ad), (bubble a j L).length = L.length
 | 0, L => rfl
 | k + 1, L => by
  unfold bubble
  split
  ·split
   ·rw [bubble_len a k, swp_len]
   ·rfl
  ·rfl
theorem isortN_len (l : List Ad) (a k : Nat) : (isortN l a k).length = l.length := by
 induction k with
 | zero => rfl
 | succ k ih => rw [isortN, bubble_len, ih]
end Go.Proofs.YtiklhaajhdephaaGreatDoor

/-
 The contract of the library's insertion sort at addresses.
-/
namespace Go.Proofs.YtiklhaajhdephaaGreatDoor
open Go.RowKit
set_option linter.unusedVariables false
set_option linter.unusedSimpArgs false

theorem end0 {P : Program} {fn : Func} {R : Ending → World → Prop} {a : Act} {w : World} (hr : fn.results = #[]) (hd : a.defers = []) (hR : R (.returned (.tuple #[])) w) : bodyPost P fn R .normal a w :=
 bodyPost_end (v := .tuple #[]) (by simp [results, hr]) hd hR
theorem comp_ad (x y : Ad) (w : World) : Calls Tryz.prog 126 #[.agg x.cells.toArray, .agg y.cells.toArray] w fun e w' => e = .returned (.int .i64 (x.comp y)) ∧ Touch [] w w' := comp_any x.b x.xs y.b y.xs x.ok y.ok w
theorem bubble_stop (a j : Nat) (L : List Ad) (h : ¬ a < j) : bubble a j L = L := by
 cases j with
 | zero => rfl
 | succ k =>
  unfold bubble
  split
  ·rw [if_neg (fun q => h q.1)]
  ·rfl
theorem bubble_not (a k : Nat) (L : List Ad) (x y : Ad) (hx : L[k + 1]? = some x) (hy : L[k]? = some y) (h : x.less y = false) : bubble a (k + 1) L = L := by
 unfold bubble
 rw [hx, hy]
 simp [h]
theorem bubble_go (a k : Nat) (L : List Ad) (x y : Ad) (hx : L[k + 1]? = some x) (hy : L[k]? = some y) (ha : a < k + 1) (h : x.less y = true) : bubble a (k + 1) L = bubble a k (swp L k x y) := by
 conv => lhs; unfold bubble
 rw [hx, hy]
 simp [h, ha]
set_option maxRecDepth 100000 in
set_option maxHeartbeats 4000000 in
theorem ins_any (g n c : Nat) (l : List Ad) (a b : Nat) (hl : l.length = n) (hb : b ≤ n) (ha : a ≤ 1000000000) (hn : n ≤ 1000000000) (w : World) (hrow : w.ownsRow 0 40 17 (.slice (some ⟨g, 0, none⟩) n c) n (l.map Ad.cells).flatten) :
  Calls Tryz.prog 148 #[.slice (some ⟨g, 0, none⟩) n c, .int .i64 a, .int .i64 b, .func (.func 126) #[] #[]] w fun e w' => e = .returned (.tuple #[]) ∧ w'.ownsRow 0 40 17 (.slice (some ⟨g, 0, none⟩) n c) n ((isortN l a (b - (a + 1))).map Ad.cells).flatten ∧ Touch [g] w w' := by
 have hw1 : IntKind.i64.wrap ((a : Int) + 1) = (a : Int) + 1 := by rw [IntKind.wrap_i64] <;> omega
 have HR0 := Lib.hid hrow
 clear hrow
 go_enter Tryz.func148, Tryz.ntmps148
 go_wp2_with fail
 go_loopw [8] (fun vi wr => ∃ k0 : Nat, k0 ≤ b - (a + 1) ∧ vi = .int .i64 ((a + 1 + k0 : Nat) : Int) ∧ wr.ownsRow 0 40 17 (.slice (some ⟨g, 0, none⟩) n c) n ((isortN l a k0).map Ad.cells).flatten ∧ Touch [g] w wr) (fun vi _ => n + a + 1 - (intOf vi).toNat)
 case atStart => exact ⟨0, by omega, by simp, HR0.out, Touch.refl _ _⟩
 case round =>
  obtain ⟨k0, hk0, rfl, hrow, ht⟩ := hrel
  obtain ⟨I, hI⟩ : ∃ I : Nat, I = a + 1 + k0 := ⟨_, rfl⟩
  rw [← hI]
  have HI := Lib.hid hI
  have HT0 := Lib.hid ht
  have hIl : I ≤ n ∨ b ≤ a := by omega
  by_cases hlt : I < b
  ·have htar : isortN l a (k0 + 1) = bubble a I (isortN l a k0) := by rw [isortN, HI.out]
   have hlen0 := isortN_len l a k0
   generalize htq : isortN l a (k0 + 1) = tar at *
   have HTQ := Lib.hid htq
   clear htq
   generalize isortN l a k0 = L0 at *
   have HTAR := Lib.hid htar
   have HROW0 := Lib.hid hrow
   have hwI : IntKind.i64.wrap ((I : Int) + 1) = (I : Int) + 1 := by rw [IntKind.wrap_i64] <;> omega
   have hIb : I < n := by omega
   clear htar hrow ht hI
   go_wp2_with fail
   go_loopw [9] (fun vj wq => ∃ (J : Nat) (L : List Ad), J ≤ I ∧ vj = .int .i64 J ∧ bubble a J L = tar ∧ L.length = n ∧ wq.ownsRow 0 40 17 (.slice (some ⟨g, 0, none⟩) n c) n (L.map Ad.cells).flatten ∧ Touch [g] w wq) (fun vj _ => (intOf vj).toNat)
   case atStart => exact ⟨I, L0, Nat.le_refl _, rfl, HTAR.out.symm, by rw [hlen0, hl], HROW0.out, HT0.out⟩
   case round =>
    obtain ⟨J, L, hJ, rfl, hbub, hLl, hrow, ht⟩ := hrel
    have HBUB := Lib.hid hbub
    have HROW := Lib.hid hrow
    have HT := Lib.hid ht
    clear hbub hrow ht HROW0 HT0 HTAR
    by_cases hga : (a : Int) < (J : Int)
    ·obtain ⟨k, hk⟩ : ∃ k, J = k + 1 := ⟨J - 1, by omega⟩
     obtain ⟨x, hx⟩ : ∃ x, L[J]? = some x := ⟨_, List.getElem?_eq_getElem (by omega)⟩
     obtain ⟨y, hy⟩ : ∃ y, L[k]? = some y := ⟨_, List.getElem?_eq_getElem (by omega)⟩
     have rJ := own_at HROW.out hx
     have rK := own_at HROW.out hy
     have HLX := Lib.hid x.len
     have HLY := Lib.hid y.len
     have hwj : IntKind.i64.wrap ((J : Int) - 1) = (k : Int) := by rw [IntKind.wrap_i64] <;> omega
     have hJn : (J : Int) < (n : Int) := by omega
     have hkn : (k : Int) < (n : Int) := by omega
     have HKJ := Lib.hid hk
     have HCO := Lib.hid (comp_ad x y)
     have hle := x.less_eq y
     generalize x.comp y = cv at *
     have HX := Lib.hid hx
     have HY := Lib.hid hy
     have HJN := Lib.hid (show J < L.length by omega)
     have HKN := Lib.hid (show k < L.length by omega)
     clear hk hx hy
     by_cases hls : cv < 0
     ·have HLESS := Lib.hid (show x.less y = true by rw [hle]; simpa using hls)
      clear hle
      go_wp2_with fail
      refine wp_region_held (S := Touch [] wr.drew) (by kernel_rfl) ?_
      change wpAnyH _ _ _ _ _ _ _ _ wr.drew
      have rJ : wr.drew.rangeAt g (J * 17) x.cells := rJ
      have rK : wr.drew.rangeAt g (k * 17) y.cells := rK
      have HTd := Lib.hid (HT.out.drew)
      have HROWd := Lib.hid (show wr.drew.ownsRow 0 40 17 (.slice (some ⟨g, 0, none⟩) n c) n (L.map Ad.cells).flatten from HROW.out)
      clear HT HROW
      generalize wr.drew = W at *
      have hS := Touch.refl [] W
      refine tkH 0 (.int .i64 (J : Nat)) ?_
      refine tkH 1 (.int .i64 (a : Nat)) ?_
      refine tkH 2 (.bool true) ?_ (hy := Or.inl ⟨by rfl, fun w' hw => by (have q := hga; go_simp)⟩)
      refine tkH 3 (.bool true) ?_
      refine tkH 4 (.func (.func 126) #[] #[]) ?_
      refine tkH 5 (.slice (some ⟨g, 0, none⟩) n c) ?_
      refine tkH 6 (.int .i64 (J : Nat)) ?_
      refine tkH 7 (.pointer (some ⟨g, J * 17, none⟩)) ?_
      refine tkH 8 (.agg x.cells.toArray) ?_ (hy := Or.inl ⟨by rfl, fun w' hw => exec_load_agg _ 40 _ rfl _ _ rfl x.cells _ (hw.range rJ (by simp)) Tryz.underlying40 rfl (by rw [size31, HLX.out])⟩)
      refine tkH 9 (.slice (some ⟨g, 0, none⟩) n c) ?_
      refine tkH 10 (.int .i64 (J : Nat)) ?_
      refine tkH 11 (.int .i64 (k : Nat)) ?_
      refine tkH 12 (.pointer (some ⟨g, k * 17, none⟩)) ?_
      refine tkH 13 (.agg y.cells.toArray) ?_ (hy := Or.inl ⟨by rfl, fun w' hw => exec_load_agg _ 40 _ rfl _ _ rfl y.cells _ (hw.range rK (by simp)) Tryz.underlying40 rfl (by rw [size31, HLY.out])⟩)
      refine wpAnyH_ready (rs := [14]) (by kernel_rfl) (by simp) ?_
      refine cnH rfl (fun K hK => ?_) AllReadyH.nil
      go_simp
      refine (HCO.out _).mono ?_
      rintro e w14 ⟨rfl, t14⟩
      have hS2 := hS.trans t14 (by simp)
      refine hK.out _ _ hS2 (fun _ => ?_)
      clear hK K hS t14
      have hS := hS2
      clear hS2
      try simp only [Act.put, sT, s0, sS]
      refine tkH 15 (.bool true) ?_ (hy := Or.inl ⟨by rfl, fun w' hw => by (have q := hls; go_simp)⟩)
      refine tkH 16 (.bool true) ?_
      refine wpAnyH_done (by kernel_rfl) ?_ _
      try simp only [Act.put, sT, s0, sS]
      have HT2 := Lib.hid ((HTd.out.trans hS (by simp)).drew)
      have hrow2 := hS.owns HROWd.out (by simp)
      have HROW := Lib.hid (show w14.drew.ownsRow 0 40 17 (.slice (some ⟨g, 0, none⟩) n c) n (L.map Ad.cells).flatten from hrow2)
      clear hS HTd HROWd hrow2 rJ rK
      go_wp2_with fail
      refine wp_region_any (by kernel_rfl) ?_
      change wpAny _ _ _ _ _ _ _ w14.drew
      generalize w14.drew = W at *
      have rJ := own_at HROW.out HX.out
      have rK := own_at HROW.out HY.out
      have HNX := Lib.hid (show bubble a k ((L.set J y).set k x) = tar by
       have e := HKJ.out
       have h1 := bubble_go a k L x y (by rw [← e]; exact HX.out) HY.out (by omega) HLESS.out
       rw [← e, HBUB.out] at h1
       rw [h1, swp, ← e])
      have hkI : k ≤ I := by have := HKJ.out; omega
      refine tkA 0 (.slice (some ⟨g, 0, none⟩) n c) ?_
      refine tkA 1 (.int .i64 (J : Nat)) ?_
      refine tkA 2 (.slice (some ⟨g, 0, none⟩) n c) ?_
      refine tkA 3 (.int .i64 (J : Nat)) ?_
      refine tkA 4 (.int .i64 (k : Nat)) ?_
      refine tkA 5 (.slice (some ⟨g, 0, none⟩) n c) ?_
      refine tkA 6 (.int .i64 (J : Nat)) ?_
      refine tkA 7 (.int .i64 (k : Nat)) ?_
      refine tkA 8 (.pointer (some ⟨g, k * 17, none⟩)) ?_
      refine tkA 10 (.slice (some ⟨g, 0, none⟩) n c) ?_
      refine tkA 11 (.int .i64 (J : Nat)) ?_
      refine tkA 12 (.pointer (some ⟨g, J * 17, none⟩)) ?_
      refine wpAny_ready (rs := [9, 13]) (by kernel_rfl) (by simp) ?_
      refine cnA rfl (fun K hK0 => ?_) (cnA rfl (fun K hK0 => ?_) AllReady.nil)
      ·have hK := Lib.hid hK0
       clear hK0
       refine step_of_list rfl ?_
       refine wpList_load_mid rfl 40 _ rfl g (k * 17) rfl y.cells _ rK Tryz.underlying40 rfl (by rw [size31, HLY.out]) ?_
       refine ⟨rfl, hK.out _ _ ?_⟩
       clear hK K
       try simp only [Act.put, sT, s0, sS]
       refine wpAny_ready (rs := [13]) (by kernel_rfl) (by simp) ?_
       refine cnA rfl (fun K hK0 => ?_) AllReady.nil
       have hK := Lib.hid hK0
       clear hK0
       refine step_of_list rfl ?_
       refine wpList_load_mid rfl 40 _ rfl g (J * 17) rfl x.cells _ rJ Tryz.underlying40 rfl (by rw [size31, HLX.out]) ?_
       refine ⟨rfl, hK.out _ _ ?_⟩
       clear hK K
       try simp only [Act.put, sT, s0, sS]
       refine tkA 14 (.pointer (some ⟨g, J * 17, none⟩)) ?_
       refine wpAny_ready (rs := [15]) (by kernel_rfl) (by simp) ?_
       refine cnA rfl (fun K hK0 => ?_) AllReady.nil
       have hK := Lib.hid hK0
       clear hK0
       refine step_of_list rfl ?_
       refine wpList_store_own rfl 40 _ _ rfl g (J * 17) n c 40 17 _ y.cells HROW.out rfl rfl (by rw [ads_flat, y.len]; have := HJN.out; omega) (by rw [size31, HLY.out]) y.one ?_
       intro w15 row15 t15 z15
       rw [HLY.out, ads_set L J y HJN.out] at row15
       refine ⟨rfl, hK.out _ _ ?_⟩
       clear hK K
       try simp only [Act.put, sT, s0, sS]
       refine tkA 16 (.pointer (some ⟨g, k * 17, none⟩)) ?_
       refine wpAny_ready (rs := [17]) (by kernel_rfl) (by simp) ?_
       refine cnA rfl (fun K hK0 => ?_) AllReady.nil
       have hK := Lib.hid hK0
       clear hK0
       refine step_of_list rfl ?_
       refine wpList_store_own rfl 40 _ _ rfl g (k * 17) n c 40 17 _ x.cells row15 rfl rfl (by rw [ads_flat, x.len, List.length_set]; have := HKN.out; omega) (by rw [size31, HLX.out]) x.one ?_
       intro w17 row17 t17 z17
       rw [HLX.out, ads_set (L.set J y) k x (by rw [List.length_set]; exact HKN.out)] at row17
       refine ⟨rfl, hK.out _ _ ?_⟩
       clear hK K
       try simp only [Act.put, sT, s0, sS]
       refine wpAny_done (by kernel_rfl) ?_ _
       try simp only [Act.put, sT, s0, sS]
       go_wp2_with fail
       go_roundw
       case rel => exact ⟨k, (L.set J y).set k x, hkI, by go_num, HNX.out, by rw [List.length_set, List.length_set, hLl], row17, HT2.out.trans (t15.trans t17 (by simp)) (by simp)⟩
       case measure => simp [intOf]; have := HKJ.out; omega
      ·have hK := Lib.hid hK0
       clear hK0
       refine step_of_list rfl ?_
       refine wpList_load_mid rfl 40 _ rfl g (J * 17) rfl x.cells _ rJ Tryz.underlying40 rfl (by rw [size31, HLX.out]) ?_
       refine ⟨rfl, hK.out _ _ ?_⟩
       clear hK K
       try simp only [Act.put, sT, s0, sS]
       refine wpAny_ready (rs := [9]) (by kernel_rfl) (by simp) ?_
       refine cnA rfl (fun K hK0 => ?_) AllReady.nil
       have hK := Lib.hid hK0
       clear hK0
       refine step_of_list rfl ?_
       refine wpList_load_mid rfl 40 _ rfl g (k * 17) rfl y.cells _ rK Tryz.underlying40 rfl (by rw [size31, HLY.out]) ?_
       refine ⟨rfl, hK.out _ _ ?_⟩
       clear hK K
       try simp only [Act.put, sT, s0, sS]
       refine tkA 14 (.pointer (some ⟨g, J * 17, none⟩)) ?_
       refine wpAny_ready (rs := [15]) (by kernel_rfl) (by simp) ?_
       refine cnA rfl (fun K hK0 => ?_) AllReady.nil
       have hK := Lib.hid hK0
       clear hK0
       refine step_of_list rfl ?_
       refine wpList_store_own rfl 40 _ _ rfl g (J * 17) n c 40 17 _ y.cells HROW.out rfl rfl (by rw [ads_flat, y.len]; have := HJN.out; omega) (by rw [size31, HLY.out]) y.one ?_
       intro w15 row15 t15 z15
       rw [HLY.out, ads_set L J y HJN.out] at row15
       refine ⟨rfl, hK.out _ _ ?_⟩
       clear hK K
       try simp only [Act.put, sT, s0, sS]
       refine tkA 16 (.pointer (some ⟨g, k * 17, none⟩)) ?_
       refine wpAny_ready (rs := [17]) (by kernel_rfl) (by simp) ?_
       refine cnA rfl (fun K hK0 => ?_) AllReady.nil
       have hK := Lib.hid hK0
       clear hK0
       refine step_of_list rfl ?_
       refine wpList_store_own rfl 40 _ _ rfl g (k * 17) n c 40 17 _ x.cells row15 rfl rfl (by rw [ads_flat, x.len, List.length_set]; have := HKN.out; omega) (by rw [size31, HLX.out]) x.one ?_
       intro w17 row17 t17 z17
       rw [HLX.out, ads_set (L.set J y) k x (by rw [List.length_set]; exact HKN.out)] at row17
       refine ⟨rfl, hK.out _ _ ?_⟩
       clear hK K
       try simp only [Act.put, sT, s0, sS]
       refine wpAny_done (by kernel_rfl) ?_ _
       try simp only [Act.put, sT, s0, sS]
       go_wp2_with fail
       go_roundw
       case rel => exact ⟨k, (L.set J y).set k x, hkI, by go_num, HNX.out, by rw [List.length_set, List.length_set, hLl], row17, HT2.out.trans (t15.trans t17 (by simp)) (by simp)⟩
       case measure => simp [intOf]; have := HKJ.out; omega
     ·have HLESS := Lib.hid (show x.less y = false by rw [hle]; simpa using hls)
      have HFIN := Lib.hid (show L = tar by rw [← HBUB.out, HKJ.out]; exact (bubble_not a k L x y (by rw [← HKJ.out]; exact HX.out) HY.out HLESS.out).symm)
      clear hle
      go_wp2_with fail
      refine wp_region_held (S := Touch [] wr.drew) (by kernel_rfl) ?_
      change wpAnyH _ _ _ _ _ _ _ _ wr.drew
      have rJ : wr.drew.rangeAt g (J * 17) x.cells := rJ
      have rK : wr.drew.rangeAt g (k * 17) y.cells := rK
      have HTd := Lib.hid (HT.out.drew)
      have HROWd := Lib.hid (show wr.drew.ownsRow 0 40 17 (.slice (some ⟨g, 0, none⟩) n c) n (L.map Ad.cells).flatten from HROW.out)
      clear HT HROW
      generalize wr.drew = W at *
      have hS := Touch.refl [] W
      refine tkH 0 (.int .i64 (J : Nat)) ?_
      refine tkH 1 (.int .i64 (a : Nat)) ?_
      refine tkH 2 (.bool true) ?_ (hy := Or.inl ⟨by rfl, fun w' hw => by (have q := hga; go_simp)⟩)
      refine tkH 3 (.bool true) ?_
      refine tkH 4 (.func (.func 126) #[] #[]) ?_
      refine tkH 5 (.slice (some ⟨g, 0, none⟩) n c) ?_
      refine tkH 6 (.int .i64 (J : Nat)) ?_
      refine tkH 7 (.pointer (some ⟨g, J * 17, none⟩)) ?_
      refine tkH 8 (.agg x.cells.toArray) ?_ (hy := Or.inl ⟨by rfl, fun w' hw => exec_load_agg _ 40 _ rfl _ _ rfl x.cells _ (hw.range rJ (by simp)) Tryz.underlying40 rfl (by rw [size31, HLX.out])⟩)
      refine tkH 9 (.slice (some ⟨g, 0, none⟩) n c) ?_
      refine tkH 10 (.int .i64 (J : Nat)) ?_
      refine tkH 11 (.int .i64 (k : Nat)) ?_
      refine tkH 12 (.pointer (some ⟨g, k * 17, none⟩)) ?_
      refine tkH 13 (.agg y.cells.toArray) ?_ (hy := Or.inl ⟨by rfl, fun w' hw => exec_load_agg _ 40 _ rfl _ _ rfl y.cells _ (hw.range rK (by simp)) Tryz.underlying40 rfl (by rw [size31, HLY.out])⟩)
      refine wpAnyH_ready (rs := [14]) (by kernel_rfl) (by simp) ?_
      refine cnH rfl (fun K hK => ?_) AllReadyH.nil
      go_simp
      refine (HCO.out _).mono ?_
      rintro e w14 ⟨rfl, t14⟩
      have hS2 := hS.trans t14 (by simp)
      refine hK.out _ _ hS2 (fun _ => ?_)
      clear hK K hS t14
      have hS := hS2
      clear hS2
      try simp only [Act.put, sT, s0, sS]
      refine tkH 15 (.bool false) ?_ (hy := Or.inl ⟨by rfl, fun w' hw => by (have q := hls; go_simp)⟩)
      refine tkH 16 (.bool false) ?_
      refine wpAnyH_done (by kernel_rfl) ?_ _
      try simp only [Act.put, sT, s0, sS]
      have hrow2 := hS.owns HROWd.out (by simp)
      rw [HFIN.out] at hrow2
      go_wp2_with fail
      go_roundw
      case rel => exact ⟨k0 + 1, by have := HI.out; omega, by have := HI.out; simp; omega, by rw [HTQ.out]; exact hrow2, HTd.out.trans hS (by simp)⟩
      case measure => simp [intOf]; omega
    ·have hgaN : J ≤ a := by omega
     have HFIN := Lib.hid (show L = tar by rw [← HBUB.out]; exact (bubble_stop a J L (by omega)).symm)
     go_wp2_with fail
     refine wp_region_held (S := Touch [] wr.drew) (by kernel_rfl) ?_
     change wpAnyH _ _ _ _ _ _ _ _ wr.drew
     have HTd := Lib.hid (HT.out.drew)
     have HROWd := Lib.hid (show wr.drew.ownsRow 0 40 17 (.slice (some ⟨g, 0, none⟩) n c) n (L.map Ad.cells).flatten from HROW.out)
     clear HT HROW
     generalize wr.drew = W at *
     have hS := Touch.refl [] W
     refine tkH 0 (.int .i64 (J : Nat)) ?_
     refine tkH 1 (.int .i64 (a : Nat)) ?_
     refine tkH 2 (.bool false) ?_ (hy := Or.inl ⟨by rfl, fun w' hw => by (have q := hgaN; go_simp)⟩)
     refine tkH 3 (.bool false) ?_
     refine tkN 4 undef ?_
     refine tkN 5 undef ?_
     refine tkN 6 undef ?_
     refine tkN 7 undef ?_
     refine tkN 8 undef ?_
     refine tkN 9 undef ?_
     refine tkN 10 undef ?_
     refine tkN 11 undef ?_
     refine tkN 12 undef ?_
     refine tkN 13 undef ?_
     refine tkN 14 undef ?_
     refine tkN 15 undef ?_
     refine tkH 16 (.bool false) ?_
     refine wpAnyH_done (by kernel_rfl) ?_ _
     try simp only [Act.put, sT, s0, sS]
     have hrow2 := hS.owns HROWd.out (by simp)
     rw [HFIN.out] at hrow2
     go_wp2_with fail
     go_roundw
     case rel => exact ⟨k0 + 1, by have := HI.out; omega, by have := HI.out; simp; omega, by rw [HTQ.out]; exact hrow2, HTd.out.trans hS (by simp)⟩
     case measure => simp [intOf]; omega
  ·have hke : b - (a + 1) = k0 := by omega
   rw [← hke] at hrow
   go_wp2_with fail
   exact end0 rfl rfl ⟨rfl, hrow, HT0.out⟩
end Go.Proofs.YtiklhaajhdephaaGreatDoor

/-
 The contracts of Clone, SortStableFunc (at most twenty elements) and Sort.
-/
namespace Go.Proofs.YtiklhaajhdephaaGreatDoor
open Go.RowKit
set_option linter.unusedVariables false
set_option linter.unusedSimpArgs false

set_option maxRecDepth 100000 in
set_option maxHeartbeats 1000000 in
theorem clone_any (v : Value) (b : Nat) (l : List Ad) (w : World) (hv : Rd w 17 b v (l.map Ad.cells)) (hl : l.length ≤ 1000000) :
  Calls Tryz.prog 93 #[v] w fun e w' => ∃ v', e = .returned v' ∧ OwnA w w' v' l ∧ Touch [] w w' := by
 obtain ⟨iA, hiA, hzA, hsA, hbA⟩ := info_parts info40
 obtain ⟨a, cap, rfl, hlc, hcm⟩ := hv.form
 rw [List.length_map] at hv hlc ⊢
 obtain ⟨hnone, hnews⟩ := hv.news (by omega) (ads_len17 l)
 cases a with
 | none =>
  have hq1 := fun w => Lib.run_eql_slice_nil_nil (P := Tryz.prog) w 0 0 Tryz.underlying35
  obtain ⟨h0, hc0⟩ := hnone rfl
  have hl0 : l = [] := List.eq_nil_of_length_eq_zero h0
  subst hl0 hc0
  go_enter Tryz.func93, Tryz.ntmps93
  go_wp2_with fail
  go_ret
  exact ⟨_, rfl, Own.nil _ _, Touch.refl _ _⟩
 | some ad =>
  have hq1 := fun w => Lib.run_eql_slice_some_nil (P := Tryz.prog) w ad l.length cap Tryz.underlying35
  have HN := Lib.hid (hnews ad rfl)
  have HA := Lib.hid ((Touch.refl [] w).alloc (.cells #[] 40))
  have HG := Lib.hid (heap_alloc_new w (.cells #[] 40))
  have hrow : (w.alloc (.cells #[] 40)).ownsRow 0 40 17 (.slice (some ⟨w.heap.size, 0, none⟩) 0 0) 0 [] := ⟨rfl, .inr ⟨w.heap.size, 0, #[], rfl, by omega, HG.out, by omega, by simp [maxLen], rfl, rfl⟩⟩
  have HNN := Lib.hid (show ∀ ad', some ad = some ad' → ∀ j u, (l.map Ad.cells).flatten[j]? = some u → (w.alloc (.cells #[] 40)).cell? (ad'.add j) = some u from fun ad' e j u hu => by cases e; exact HA.out.cell (HN.out j u hu) (by simp))
  have hflat := ads_flat l
  have HFL := Lib.hid hflat
  clear hnone hnews hv hflat
  go_enter Tryz.func93, Tryz.ntmps93
  go_wp2_with (at_builtin; refine wpList_app _ (by rfl) _ _ 35 (by rfl) 40 iA _ 17 17 Tryz.underlying35 hiA hzA hsA hbA rfl (by omega) _ 0 [] (by rfl) hrow (some ad) l.length cap ((l.map Ad.cells).flatten) (by rfl) HFL.out (by intro h; cases h) HNN.out (ads_one (by intro x hx; obtain ⟨y, _, rfl⟩ := List.mem_map.1 hx; exact y.is)) (by unfold maxLen; omega) (by omega) ?_)
  intro vo w2 ho t2 hv2
  have hown : OwnA w w2 vo l := by
   refine ⟨?_, ?_⟩
   ·rw [List.length_map]
    simpa using ho
   ·intro g hg
    rcases hv2 with e | e
    ·rw [e] at hg
     simp [Value.ownBlock] at hg
     omega
    ·rw [e] at hg
     simp at hg
     omega
  have ht2 : Touch [] w w2 := HA.out.trans t2 (by intro y hy; right; simp [Value.ownBlock] at hy; omega)
  go_wp2_with fail
  go_ret
  exact ⟨_, rfl, hown, ht2⟩
set_option maxRecDepth 100000 in
set_option maxHeartbeats 1000000 in
theorem ins_nil (v cv : Value) (w : World) : Calls Tryz.prog 148 #[v, .int .i64 0, .int .i64 0, cv] w fun e w' => e = .returned (.tuple #[]) ∧ w = w' := by
 go_enter Tryz.func148, Tryz.ntmps148
 go_wp2_with fail
 go_loopw [8] (fun vi wr => vi = .int .i64 1 ∧ w = wr) (fun _ _ => 0)
 case atStart => exact ⟨rfl, rfl⟩
 case round =>
  obtain ⟨rfl, hwr⟩ := hrel
  subst hwr
  go_wp2_with fail
  exact end0 rfl rfl ⟨rfl, rfl⟩
/-- The sorted list. -/
def sortP (l : List Ad) : List Ad := isortN l 0 (l.length - 1)
set_option maxRecDepth 100000 in
set_option maxHeartbeats 1000000 in
theorem stable_any (w0 : World) (v : Value) (l : List Ad) (hl : l.length ≤ 20) (w : World) (hz0 : w0.heap.size ≤ w.heap.size) (ho : OwnA w0 w v l) :
  Calls Tryz.prog 140 #[v, .int .i64 l.length, .func (.func 126) #[] #[]] w fun e w' => e = .returned (.tuple #[]) ∧ OwnA w0 w' v (sortP l) ∧ Touch v.ownBlock.toList w w' := by
 obtain ⟨a, c, rfl, hlc, hcm, hat⟩ := ho.form
 have hslen : (sortP l).length = l.length := isortN_len _ _ _
 by_cases h0 : l.length = 0
 ·have hl0 : l = [] := List.eq_nil_of_length_eq_zero h0
  subst hl0
  have HO := Lib.hid ho
  clear ho hat hlc hslen h0 hl
  go_enter Tryz.func140, Tryz.ntmps140
  go_wp2_with fail
  go_loopw [7, 8] (fun va vi wr => va = .int .i64 0 ∧ vi = .int .i64 20 ∧ w = wr) (fun _ _ _ => 0)
  case atStart => exact ⟨rfl, rfl, rfl⟩
  case round =>
   obtain ⟨rfl, rfl, hwr⟩ := hrel
   subst hwr
   go_wp2_with fail
   refine (ins_nil _ _ _).mono ?_
   rintro e w2 ⟨rfl, rfl⟩
   go_wp2_with fail
   go_loopw [6] (fun vi wr => vi = .int .i64 20 ∧ w = wr) (fun _ _ => 0)
   case atStart => exact ⟨rfl, rfl⟩
   case round =>
    obtain ⟨rfl, hwr⟩ := hrel
    subst hwr
    go_wp2_with fail
    exact end0 rfl rfl ⟨rfl, HO.out, Touch.refl _ _⟩
 ·obtain ⟨g, rfl⟩ := hat (by omega)
  have HNEW := Lib.hid ho.new
  have hn20 := hl
  have hrow := ho.row'
  obtain ⟨n, hn⟩ : ∃ n, l.length = n := ⟨_, rfl⟩
  have hss : sortP l = isortN l 0 (n - 1) := by rw [← hn]; rfl
  have HN := Lib.hid hn
  rw [hn] at hl hn20 hlc hslen hrow h0 ⊢
  have HS := Lib.hid hss
  have HROW := Lib.hid hrow
  have HSL := Lib.hid hslen
  clear ho hat hrow hss hn hslen
  go_enter Tryz.func140, Tryz.ntmps140
  go_wp2_with fail
  go_loopw [7, 8] (fun va vi wr => Touch [g] w wr ∧ ((va = .int .i64 0 ∧ vi = .int .i64 20 ∧ w = wr) ∨ (va = .int .i64 20 ∧ vi = .int .i64 40 ∧ n = 20 ∧ wr.ownsRow 0 40 17 (.slice (some ⟨g, 0, none⟩) n c) n ((sortP l).map Ad.cells).flatten))) (fun _ vi _ => 60 - (intOf vi).toNat)
  case atStart => exact ⟨Touch.refl _ _, .inl ⟨rfl, rfl, rfl⟩⟩
  case round =>
   obtain ⟨ht, ⟨rfl, rfl, hwr⟩ | ⟨rfl, rfl, h20, hrow2⟩⟩ := hrel
   ·subst hwr
    have HINS := Lib.hid (ins_any g n c l 0 n HN.out (Nat.le_refl _) (by omega) (by omega) w HROW.out)
    by_cases h20 : n = 20
    ·have hge : (20 : Int) ≤ (n : Int) := by omega
     have H20 := Lib.hid h20
     have HINS := Lib.hid (ins_any g n c l 0 20 HN.out (by omega) (by omega) (by omega) w HROW.out)
     clear h20
     go_wp2_with fail
     refine HINS.out.mono ?_
     rintro e w2 ⟨rfl, hrow2, t2⟩
     rw [show 20 - (0 + 1) = n - 1 by have := H20.out; omega] at hrow2
     have HR2 := Lib.hid hrow2
     go_wp2_with fail
     go_roundw
     case rel => exact ⟨t2, .inr ⟨rfl, rfl, H20.out, by rw [HS.out]; exact HR2.out⟩⟩
     case measure => simp [intOf]
    ·have hnlt : (n : Int) < 20 := by omega
     go_wp2_with fail
     refine HINS.out.mono ?_
     rintro e w2 ⟨rfl, hrow2, t2⟩
     have HR2 := Lib.hid hrow2
     have HT2 := Lib.hid t2
     clear hrow2 t2
     go_wp2_with fail
     go_loopw [6] (fun vi wr => vi = .int .i64 20 ∧ w2 = wr) (fun _ _ => 0)
     case atStart => exact ⟨rfl, rfl⟩
     case round =>
      obtain ⟨rfl, hwr⟩ := hrel
      subst hwr
      go_wp2_with fail
      exact end0 rfl rfl ⟨rfl, ⟨by rw [List.length_map, HSL.out, HS.out]; exact HR2.out, HNEW.out⟩, by simpa [Value.ownBlock] using HT2.out⟩
   ·have hge : ¬ (40 : Int) ≤ (n : Int) := by omega
    have hlt : ¬ (20 : Int) < (n : Int) := by omega
    have H20 := Lib.hid h20
    have HR2 := Lib.hid hrow2
    have HT2 := Lib.hid ht
    have HINS := Lib.hid (ins_any g n c (sortP l) 20 n HSL.out (Nat.le_refl _) (by omega) (by omega) wr HR2.out)
    clear hrow2 ht h20
    go_wp2_with fail
    refine HINS.out.mono ?_
    rintro e w2 ⟨rfl, hrow3, t3⟩
    rw [show n - (20 + 1) = 0 by have := H20.out; omega] at hrow3
    have HR3 := Lib.hid hrow3
    have HT3 := Lib.hid (HT2.out.trans t3 (by simp))
    clear hrow3 t3
    go_wp2_with fail
    go_loopw [6] (fun vi wr => vi = .int .i64 20 ∧ w2 = wr) (fun _ _ => 0)
    case atStart => exact ⟨rfl, rfl⟩
    case round =>
     obtain ⟨rfl, hwr⟩ := hrel
     subst hwr
     go_wp2_with fail
     exact end0 rfl rfl ⟨rfl, ⟨by rw [List.length_map, HSL.out]; exact HR3.out, HNEW.out⟩, by simpa [Value.ownBlock] using HT3.out⟩
set_option maxRecDepth 100000 in
set_option maxHeartbeats 1000000 in
theorem ssf_any (w0 : World) (v : Value) (l : List Ad) (hl : l.length ≤ 20) (w : World) (hz0 : w0.heap.size ≤ w.heap.size) (ho : OwnA w0 w v l) :
  Calls Tryz.prog 125 #[v, .func (.func 126) #[] #[]] w fun e w' => e = .returned (.tuple #[]) ∧ OwnA w0 w' v (sortP l) ∧ Touch v.ownBlock.toList w w' := by
 have HST := Lib.hid (stable_any w0 v l hl w hz0 ho)
 obtain ⟨a, c, rfl, _⟩ := ho.form
 clear ho
 go_enter Tryz.func125, Tryz.ntmps125
 go_wp2_with fail
 refine HST.out.mono ?_
 rintro e w2 ⟨rfl, h2, t2⟩
 go_wp2_with fail
 exact end0 rfl rfl ⟨rfl, h2, t2⟩
set_option maxRecDepth 100000 in
set_option maxHeartbeats 1000000 in
theorem sort_any (v : Value) (b : Nat) (l : List Ad) (w : World) (hv : Rd w 17 b v (l.map Ad.cells)) (hl : l.length ≤ 20) :
  Calls Tryz.prog 105 #[v] w fun e w' => ∃ v', e = .returned v' ∧ OwnA w w' v' (sortP l) ∧ Touch [] w w' := by
 have HCL := Lib.hid (clone_any v b l w hv (by omega))
 go_enter Tryz.func105, Tryz.ntmps105
 go_wp2_with fail
 refine HCL.out.mono ?_
 rintro e w2 ⟨v2, rfl, h2, t2⟩
 have HSS := Lib.hid (ssf_any w v2 l hl w2 t2.size h2)
 go_wp2_with fail
 refine HSS.out.mono ?_
 rintro e w3 ⟨rfl, h3, t3⟩
 have ht3 : Touch [] w w3 := t2.trans t3 (fun y hy => .inr (h2.new y (by simpa using hy)))
 clear HSS HCL t2 t3 h2
 go_wp2_with fail
 go_ret
 exact ⟨_, rfl, h3, ht3⟩
end Go.Proofs.YtiklhaajhdephaaGreatDoor

/-
  Merged texts: V6, Pr, Ro, Co, T6, La, Pg, Ph, Pj.
-/
import Derived.Test.YtecaakgpogabjaaDoorKA2
import Derived.Laws.CopyRow
import Derived.Laws.IdiomCopy
import Derived.StillTail
import Derived.StillTailTactics

/-
  The contracts of ip.V6 and of policytable's rows.
-/
namespace Go.Proofs.YtecaakgpogabjaaDoor
open Go.RowKit
set_option linter.unusedVariables false
set_option linter.unusedSimpArgs false

def hi8 (x : Int) : Int := x / 256
def lo8 (x : Int) : Int := x % 256
def v6b (l : List Int) (i : Nat) : List Int := (l.take i).flatMap (fun x => [hi8 x, lo8 x]) ++ List.replicate (16 - 2 * i) 0
theorem eight {α : Type} (xs : List α) (h : xs.length = 8) : ∃ a b c d e f g i, xs = [a, b, c, d, e, f, g, i] := by
  match xs, h with
  | [a, b, c, d, e, f, g, i], _ => exact ⟨_, _, _, _, _, _, _, _, rfl⟩
theorem v6b_step (l : List Int) (hl : l.length = 8) (i : Nat) (x : Int) (hx : l[i]? = some x) : v6b l (i + 1) = ((v6b l i).set (2 * i) (hi8 x)).set (2 * i + 1) (lo8 x) := by
  obtain ⟨a, b, c, d, e, f, g, j, rfl⟩ := eight l hl
  have hi := (List.getElem?_eq_some_iff.1 hx).1
  simp at hi
  rcases (by omega : i = 0 ∨ i = 1 ∨ i = 2 ∨ i = 3 ∨ i = 4 ∨ i = 5 ∨ i = 6 ∨ i = 7) with rfl | rfl | rfl | rfl | rfl | rfl | rfl | rfl <;> (simp at hx; subst hx; rfl)
theorem v6b_len (l : List Int) (hl : l.length = 8) (i : Nat) (hi : i ≤ 8) : (v6b l i).length = 16 := by
  obtain ⟨a, b, c, d, e, f, g, j, rfl⟩ := eight l hl
  rcases (by omega : i = 0 ∨ i = 1 ∨ i = 2 ∨ i = 3 ∨ i = 4 ∨ i = 5 ∨ i = 6 ∨ i = 7 ∨ i = 8) with rfl | rfl | rfl | rfl | rfl | rfl | rfl | rfl | rfl <;> rfl
theorem ret_row_tmp {fn : Func} {p u : Tmp} {ty : TypeId} {k : Nat} {d : TypeDesc} (h : fn.results = #[.cell p ty, .tmp u]) (hsz : (Tryd.prog.info? ty).map (·.size) = some k) (hun : Tryd.prog.underlying ty = some d) (hd : d.isRow = true) {R : Ending → World → Prop} {tmps : Array Value} {w : World} {g : Nat} {T : TypeId} {cs : List Value} {v : Value} (hl : cs.length = k)
    (hp : tmps.getD p undef = .pointer (some ⟨g, 0, none⟩)) (hu : tmps.getD u undef = v) (hg : w.heap[g]? = some (.cells cs.toArray T (0, 0))) (hR : R (.returned (.tuple #[.agg cs.toArray, v])) w) : bodyPost Tryd.prog fn R .ret { tmps := tmps, defers := [] } w :=
  bodyPost_ret (by
    rw [results_cell_tmp h, hp, hu]
    simp only [asAddr, Sem.run_pure, Result.andThen_ok, run_loadVar_mid w g 0 ty cs d (range_block hg) hun hd (by rw [hsz, hl])]) rfl hR
set_option maxRecDepth 100000 in
set_option maxHeartbeats 4000000 in
theorem v6_any (l : List Int) (hl : l.length = 8) (hr : ∀ x ∈ l, 0 ≤ x ∧ x ≤ 65535) (g c : Nat) (w : World) (hc : ∀ j x, l[j]? = some x → w.cell? ⟨g, j, none⟩ = some (.int .u16 x)) :
    Calls Tryd.prog 70 #[.slice (some ⟨g, 0, none⟩) 8 c] w fun e w' => e = .returned (.tuple #[.agg (adr true (v6b l 8)).toArray, .bool true]) ∧ Touch [] w w' := by
  go_enter Tryd.func70, Tryd.ntmps70
  go_wp2_with (refine wpList_store_new rfl 28 _ _ rfl _ _ (adr true (List.replicate 16 0)) rfl rfl rfl size31 (adr_one _ _) ?_)
  have t0 := ((Touch.refl [] w).alloc (.cells (adr false (List.replicate 16 0)).toArray 28)).alloc (.cells (adr true (List.replicate 16 0)).toArray 28)
  have g0 := heap_alloc2_new w (.cells (adr false (List.replicate 16 0)).toArray 28) (.cells (adr true (List.replicate 16 0)).toArray 28)
  have g1 := ((Touch.refl [] (w.alloc (.cells (adr false (List.replicate 16 0)).toArray 28))).alloc (.cells (adr true (List.replicate 16 0)).toArray 28)).at (heap_alloc_new w (.cells (adr false (List.replicate 16 0)).toArray 28)) (by simp)
  have HL := Lib.hid hl
  have HR := Lib.hid hr
  have H0 := Lib.hid (show ∃ (i : Nat), Value.int .i64 0 = .int .i64 i ∧ i ≤ 8 ∧ Touch [] w ((w.alloc (.cells (adr false (List.replicate 16 0)).toArray 28)).alloc (.cells (adr true (List.replicate 16 0)).toArray 28)) ∧ ((w.alloc (.cells (adr false (List.replicate 16 0)).toArray 28)).alloc (.cells (adr true (List.replicate 16 0)).toArray 28)).heap[w.heap.size + 1]? = some (.cells (adr true (v6b l i)).toArray 28 (0, 0)) ∧ ((w.alloc (.cells (adr false (List.replicate 16 0)).toArray 28)).alloc (.cells (adr true (List.replicate 16 0)).toArray 28)).heap[w.heap.size]? = some (.cells (adr false (List.replicate 16 0)).toArray 28 (0, 0)) from ⟨0, rfl, by omega, t0, g0, g1⟩)
  clear t0 g0 g1
  go_wp2_with fail
  go_loopw [14] (fun vi wr => ∃ (i : Nat), vi = .int .i64 i ∧ i ≤ 8 ∧ Touch [] w wr ∧ wr.heap[w.heap.size + 1]? = some (.cells (adr true (v6b l i)).toArray 28 (0, 0)) ∧ wr.heap[w.heap.size]? = some (.cells (adr false (List.replicate 16 0)).toArray 28 (0, 0))) (fun vi _ => 8 - (intOf vi).toNat)
  case atStart => exact H0.out
  case round =>
    obtain ⟨i, rfl, hi, ht, hg, hz⟩ := hrel
    have HT := Lib.hid ht
    have HG := Lib.hid hg
    have HZ := Lib.hid hz
    clear ht hg hz
    by_cases hi2 : i < 8
    · have hx : l[i]? = some l[i] := List.getElem?_eq_getElem (by omega)
      have hxr := hr l[i] (List.getElem_mem _)
      have c0 := HT.out.cell (hc i l[i] hx) (by simp)
      have hvl := v6b_len l hl i (by omega)
      have c1 := (adr_cell HG.out).2 (2 * i) (v6b l i)[2 * i] (List.getElem?_eq_getElem (by omega))
      have c2 := (adr_cell HG.out).2 (2 * i + 1) (v6b l i)[2 * i + 1] (List.getElem?_eq_getElem (by omega))
      have f1 : ∀ j, wr.frozen? ⟨w.heap.size + 1, j, none⟩ = false := by intro j; simp [World.frozen?, HG.out]
      have hst := v6b_step l hl i l[i] hx
      have s1 := set_adr wr (w.heap.size + 1) (2 * i) 28 true (v6b l i) (hi8 l[i]) HG.out
      have s2 := set_adr _ (w.heap.size + 1) (2 * i + 1) 28 true _ (lo8 l[i]) s1
      rw [← hst] at s2
      have HS := Lib.hid s2
      generalize l[i] = x at *
      generalize (v6b l i)[2 * i] = y1 at *
      generalize (v6b l i)[2 * i + 1] = y2 at *
      have hw1 : IntKind.i64.wrap (2 * (i : Int)) = 2 * (i : Int) := by rw [IntKind.wrap_i64] <;> omega
      have hw2 : IntKind.i64.wrap (2 * (i : Int) + 1) = 2 * (i : Int) + 1 := by rw [IntKind.wrap_i64] <;> omega
      have f2 := f1 (1 + 2 * i)
      have f3 := f1 (1 + (2 * i + 1))
      clear hx hst s1 s2 f1
      go_wp2_with fail
      go_roundw
      case rel =>
        refine ⟨i + 1, by simp, by omega, ?_, HS.out, ?_⟩
        · exact (HT.out.setCell (p := ⟨w.heap.size + 1, _, none⟩) (by right; simp) _).setCell (p := ⟨w.heap.size + 1, _, none⟩) (by right; simp) _
        · exact (((Touch.refl [w.heap.size + 1] wr).setCell (p := ⟨w.heap.size + 1, 1 + 2 * i, none⟩) (by simp) (.int .u8 (hi8 x))).setCell (p := ⟨w.heap.size + 1, 1 + (2 * i + 1), none⟩) (by simp) (.int .u8 (lo8 x))).at HZ.out (by simp)
      case measure => simp [intOf]; omega
    · have hie : i = 8 := by omega
      subst hie
      have hvl := v6b_len l hl 8 (by omega)
      generalize hys : v6b l 8 = ys at *
      have HYS := Lib.hid hys
      have r1 := range_block HG.out
      have hl17 : (adr true ys).length = 17 := by simp [adr, hvl]
      have HL17 := Lib.hid hl17
      clear hl17 hys
      go_wp2_with (first
        | (refine wpList_load_mid rfl 28 _ rfl (w.heap.size + 1) 0 rfl (adr true ys) _ r1 Tryd.underlying28 rfl (by rw [size31, HL17.out]) ?_)
        | (refine wpList_store_into rfl 28 _ _ rfl w.heap.size 28 _ (adr true ys) rfl rfl HZ.out (by rw [HL17.out]; rfl) (by rw [size31, HL17.out]) (adr_one _ _) ?_))
      intro w3 hg3 t3 hz3
      go_wp2_with fail
      exact ret_row_tmp rfl size31 Tryd.underlying28 rfl HL17.out rfl rfl hg3 ⟨by rw [HYS.out]; rfl, HT.out.trans t3 (by simp)⟩
end Go.Proofs.YtecaakgpogabjaaDoor

/-
  The contracts of policyRow and Rows.
-/
namespace Go.Proofs.YtecaakgpogabjaaDoor
open Go.RowKit
set_option linter.unusedVariables false
set_option linter.unusedSimpArgs false

theorem infoU : ∃ i, Tryd.prog.info? 75 = some i ∧ i.zero = some (.int .u16 0) ∧ i.size = 1 ∧ i.bytes = 2 := by
  have h : (Tryd.prog.info? 75).map (fun i => (i.zero, i.size, i.bytes)) = some (some (.int .u16 0), 1, 2) := by kernel_rfl
  obtain ⟨i, hi, hz⟩ := Option.map_eq_some_iff.1 h
  simp only [Prod.mk.injEq] at hz
  exact ⟨i, hi, hz.1, hz.2.1, hz.2.2⟩
/-- A slice of u16s as it comes out of a literal: none, or a block of its own. -/
def Lit16 (w : World) (v : Value) (l : List Int) : Prop := (v = .slice none 0 0 ∧ l = []) ∨ ∃ g, v = .slice (some ⟨g, 0, none⟩) l.length l.length ∧ l ≠ [] ∧ w.heap[g]? = some (.cells (l.map (Value.int .u16)).toArray 75 (0, 0))
def pad8 (l : List Int) : List Int := l ++ List.replicate (8 - l.length) 0
theorem pad_run (w : World) (v : Value) (l : List Int) (h : Lit16 w v l) (hl : l.length ≤ 8) :
    ∃ g c w', (Builtin.append_ #[88, 3] 88 #[v, .int .i64 (8 - (l.length : Int))]).run Tryd.prog w = .ok (.slice (some ⟨g, 0, none⟩) 8 c) w' ∧ (∀ j x, (pad8 l)[j]? = some x → w'.cell? ⟨g, j, none⟩ = some (.int .u16 x)) ∧ Touch [] w w' := by
  obtain ⟨i, hi, hz, hs, hb⟩ := infoU
  have hwr : IntKind.i64.wrap (8 - (l.length : Int)) = 8 - (l.length : Int) := by rw [IntKind.wrap_i64] <;> omega
  have hzc : ∀ n, Builtin.zeroCells #[Value.int .u16 0] n = ((List.replicate n (0 : Int)).map (Value.int .u16)).toArray := by
    intro n
    apply Array.ext'
    simp [Builtin.zeroCells]
    apply List.ext_getElem?
    intro j
    by_cases hj : j < n
    · simp [hj, Nat.mod_one]
    · simp [hj]
  have fin : ∀ (n : Nat) (T : Nat), n = l.length → n < 8 → ∀ W : World, ∀ W' : World, W' = W.alloc (.cells ((l.map (Value.int .u16)).toArray ++ Builtin.zeroCells #[Value.int .u16 0] (8 - n) ++ Builtin.zeroCells #[Value.int .u16 0] T) 75) → ∀ j x, (pad8 l)[j]? = some x → W'.cell? ⟨W.heap.size, j, none⟩ = some (.int .u16 x) := by
    rintro n T rfl hn W W' rfl j x hj
    rw [cell_of_row _ _ _ _ _ _ (heap_alloc_new W _), hzc, hzc]
    have hj' : j < (pad8 l).length := (List.getElem?_eq_some_iff.1 hj).1
    have e : (l.map (Value.int .u16)).toArray ++ ((List.replicate (8 - l.length) (0 : Int)).map (Value.int .u16)).toArray = ((pad8 l).map (Value.int .u16)).toArray := by simp [pad8]
    rw [e, Array.getElem?_append_left (by simpa using hj')]
    simp [hj]
  have grow : ∀ (base : Option Addr) (n : Nat), n = l.length → n < 8 → (Builtin.firstCells 1 n (.slice base n n)).run Tryd.prog w.drew = .ok (l.map (Value.int .u16)).toArray w.drew →
      (Builtin.append_ #[88, 3] 88 #[.slice base n n, .int .i64 (8 - (n : Int))]).run Tryd.prog w = .ok (.slice (some ⟨w.heap.size, 0, none⟩) 8 (grownCap w 8 n 75)) (w.drew.alloc (.cells ((l.map (Value.int .u16)).toArray ++ Builtin.zeroCells #[Value.int .u16 0] (8 - n) ++ Builtin.zeroCells #[Value.int .u16 0] (grownCap w 8 n 75 - 8)) 75)) := by
    rintro base n rfl hn hold
    have e1 : (8 - (l.length : Int)).toNat = 8 - l.length := by omega
    have e2 : ¬ (8 - (l.length : Int) < 0) := by omega
    have e3 : ¬ (281474976710656 < (8 - (l.length : Int)) * 2) := by omega
    have e4 : ¬ (l.length + (8 - l.length) ≤ l.length) := by omega
    have e5 : l.length + (8 - l.length) = 8 := by omega
    have e6 : ¬ (8 - l.length = 0) := by omega
    have e7 : ¬ (281474976710656 < Builtin.nextslicecap 8 l.length * 2) := by
      rcases (by omega : l.length = 0 ∨ l.length = 1 ∨ l.length = 2 ∨ l.length = 3 ∨ l.length = 4 ∨ l.length = 5 ∨ l.length = 6 ∨ l.length = 7) with e | e | e | e | e | e | e | e <;> rw [e] <;> decide
    have e8 : ¬ (8 ≤ l.length) := by omega
    have e9 : ¬ (8 - (l.length : Int) ≤ 0) := by omega
    have e10 : ¬ (9223372036854775807 < (l.length : Int) + max (8 - (l.length : Int)) 0) := by omega
    simp [Builtin.append_, run_underlying Tryd.underlying88, run_underlying Tryd.underlying3, asInt, asIntOf, sizeOf, typeInfo, zeroValue, hi, hz, hs, hb, hwr, e1, e2, e3, e4, e5, e6, e7, e8, e9, e10, hold, Question.forced, newRow, grownCap, Value.cells]
  rcases h with ⟨rfl, rfl⟩ | ⟨g, rfl, hne, hg⟩
  · have hr := grow none 0 rfl (by omega) (by simp [Builtin.firstCells])
    exact ⟨_, _, _, hr, fin 0 _ rfl (by omega) w.drew _ rfl, (Touch.refl [] w).drew.alloc _⟩
  · by_cases h8 : l.length = 8
    · refine ⟨g, 8, w, ?_, ?_, Touch.refl _ _⟩
      · rw [h8]
        simp [Builtin.append_, run_underlying Tryd.underlying88, run_underlying Tryd.underlying3, asInt, asIntOf, sizeOf, typeInfo, zeroValue, hi, hz, hs, hb, show IntKind.i64.wrap 0 = 0 from rfl, storeCells]
      · intro j x hj
        have : pad8 l = l := by simp [pad8, h8]
        rw [this] at hj
        rw [cell_of_row _ _ _ _ _ _ hg]
        simp [hj]
    · have hr := grow (some ⟨g, 0, none⟩) l.length rfl (by omega) (run_firstCells_some (P := Tryd.prog) w.drew 1 l.length ⟨g, 0, none⟩ l.length l.length (l.map (Value.int .u16)) (by simp) (by
        intro j v hj
        rw [Addr.add_lit, Nat.zero_add]
        have : w.drew.heap[g]? = w.heap[g]? := rfl
        rw [cell_of_row w.drew g j _ _ _ hg]
        simpa using hj))
      exact ⟨_, _, _, hr, fin l.length _ rfl (by omega) w.drew _ rfl, (Touch.refl [] w).drew.alloc _⟩
theorem wpList_pad {ops : Array Oper} {rest : List Oper} {o : Oper} {a : Act} {Q : Exit → Act → World → Prop} (hgd : o.guard = none) (s x : Operand)
    (ho : o.op = .call { callee := .builtin .append, args := #[s, x], argTypes := #[88, 3] }) (hty : o.type = 88) (w : World) (v : Value) (l : List Int) (hs : a.eval s = v) (hx : a.eval x = .int .i64 (8 - (l.length : Int))) (h0 : Lit16 w v l) (hl : l.length ≤ 8)
    (h : ∀ g c w', (∀ j x, (pad8 l)[j]? = some x → w'.cell? ⟨g, j, none⟩ = some (.int .u16 x)) → Touch [] w w' → wpList Tryd.prog ops Q rest (a.put o.dst (.slice (some ⟨g, 0, none⟩) 8 c)) w') : wpList Tryd.prog ops Q (o :: rest) a w := by
  refine wpList_plain hgd fun K hK => ?_
  obtain ⟨g, c, w', hr, h2, h3⟩ := pad_run w v l h0 hl
  unfold Oper.wp execOp
  simp only [ho, hty, resolve, invoke, builtin, Sem.run_bind, Sem.run_pure, Result.andThen_ok, List.map_toArray, List.map_cons, List.map_nil, hs, hx, hr]
  exact hK _ _ (h g c w' h2 h3)
/-- The cells of a row. -/
def prw (b : Bool) (px : List Int) (bits prec label : Int) : List Value := pfx b px bits ++ [.int .i64 prec, .int .i64 label]
theorem sizeR : (Tryd.prog.info? 54).map (·.size) = some 20 := by kernel_rfl
theorem prw_one (b : Bool) (px : List Int) (bits prec label : Int) : ∀ v ∈ prw b px bits prec label, v.oneCell' = true := by
  intro v hv
  simp only [prw, pfx, List.mem_append] at hv
  rcases hv with (hv | hv) | hv
  · exact adr_one _ _ v hv
  · simp at hv; subst hv; rfl
  · simp at hv; rcases hv with rfl | rfl <;> rfl
theorem ret_row {fn : Func} {p : Tmp} {ty : TypeId} {k : Nat} {d : TypeDesc} (h : fn.results = #[.cell p ty]) (hsz : (Tryd.prog.info? ty).map (·.size) = some k) (hun : Tryd.prog.underlying ty = some d) (hd : d.isRow = true) {R : Ending → World → Prop} {tmps : Array Value} {w : World} {g : Nat} {T : TypeId} {cs : List Value} (hl : cs.length = k)
    (hp : tmps.getD p undef = .pointer (some ⟨g, 0, none⟩)) (hg : w.heap[g]? = some (.cells cs.toArray T (0, 0))) (hR : R (.returned (.agg cs.toArray)) w) : bodyPost Tryd.prog fn R .ret { tmps := tmps, defers := [] } w :=
  bodyPost_ret (by cases d <;> first | (exact results_cell_row h tmps w g T cs.toArray (0, 0) _ hp hg hun rfl (by rw [hsz]; simp [hl])) | (simp [TypeDesc.isRow] at hd)) rfl hR
theorem wpList_built {ops : Array Oper} {rest : List Oper} {o : Oper} {a : Act} {w : World} {Q : Exit → Act → World → Prop} (hgd : o.guard = none) (t : TypeId) (parts : Array (Nat × Operand)) (ho : o.op = .build t parts)
    (vals : List (Nat × Value)) (cells : Array Value) (hv : (parts.toList.map fun p => (p.1, a.eval p.2)) = vals) (hb : Tryd.prog.built t vals = some cells)
    (h : wpList Tryd.prog ops Q rest (a.put o.dst (.agg cells)) w) : wpList Tryd.prog ops Q (o :: rest) a w := by
  refine wpList_plain hgd fun _ hK => ?_
  have hr := run_build (P := Tryd.prog) w t (parts.map fun (i, x) => (i, a.eval x)) cells (by rw [Array.toList_map, ← hb, ← hv])
  unfold Oper.wp execOp
  simp only [ho, Sem.run_bind, hr, Result.andThen_ok]
  exact hK _ _ h
set_option maxRecDepth 100000 in
theorem built_pfx (b : Bool) (ys : List Int) (bits : Int) (h : ys.length = 16) : Tryd.prog.built 52 [(0, .agg (adr b ys).toArray), (1, .int .i64 bits)] = some (pfx b ys bits).toArray := by
  obtain ⟨x0, x1, x2, x3, x4, x5, x6, x7, x8, x9, x10, x11, x12, x13, x14, x15, rfl⟩ := sixteen ys h
  kernel_rfl
set_option maxRecDepth 100000 in
theorem built_prw (b : Bool) (ys : List Int) (bits prec label : Int) (h : ys.length = 16) : Tryd.prog.built 54 [(0, .agg (pfx b ys bits).toArray), (1, .int .i64 prec), (2, .int .i64 label)] = some (prw b ys bits prec label).toArray := by
  obtain ⟨x0, x1, x2, x3, x4, x5, x6, x7, x8, x9, x10, x11, x12, x13, x14, x15, rfl⟩ := sixteen ys h
  kernel_rfl
set_option maxRecDepth 100000 in
set_option maxHeartbeats 4000000 in
theorem policyRow_any (bits prec label : Int) (v : Value) (l : List Int) (w : World) (h : Lit16 w v l) (hl : l.length ≤ 8) (hr : ∀ x ∈ l, 0 ≤ x ∧ x ≤ 65535) :
    Calls Tryd.prog 56 #[.int .i64 bits, .int .i64 prec, .int .i64 label, v] w fun e w' => e = .returned (.agg (prw true (v6b (pad8 l) 8) bits prec label).toArray) ∧ Touch [] w w' := by
  have hform : ∃ a, v = .slice a l.length l.length := by
    rcases h with ⟨rfl, rfl⟩ | ⟨g, rfl, _⟩
    · exact ⟨none, rfl⟩
    · exact ⟨_, rfl⟩
  obtain ⟨av, rfl⟩ := hform
  have tA := (Touch.refl [] w).alloc (.cells (prw false (List.replicate 16 0) 0 0 0).toArray 54)
  have gA := heap_alloc_new w (.cells (prw false (List.replicate 16 0) 0 0 0).toArray 54)
  have hlit : Lit16 (w.alloc (.cells (prw false (List.replicate 16 0) 0 0 0).toArray 54)) (.slice av l.length l.length) l := by
    rcases h with h | ⟨g, h1, h2, h3⟩
    · exact .inl h
    · exact .inr ⟨g, h1, h2, tA.at h3 (by simp)⟩
  have HLIT := Lib.hid hlit
  have HL := Lib.hid hl
  have HR := Lib.hid hr
  have HG := Lib.hid gA
  have HT := Lib.hid tA
  have hwr : IntKind.i64.wrap (8 - (l.length : Int)) = 8 - (l.length : Int) := by rw [IntKind.wrap_i64] <;> omega
  clear h hlit hr tA gA
  go_enter Tryd.func56, Tryd.ntmps56
  go_wp2_with (at_builtin; refine wpList_pad (by rfl) _ _ (by rfl) (by rfl) _ _ l (by rfl) (by rfl) (by exact HLIT.out) HL.out ?_)
  intro g c w1 hc t1
  have HC := Lib.hid hc
  have hp8 : (pad8 l).length = 8 := by have := HL.out; simp [pad8]; omega
  have hpr : ∀ x ∈ pad8 l, 0 ≤ x ∧ x ≤ 65535 := by
    intro x hx
    rcases List.mem_append.1 hx with hx | hx
    · exact HR.out x hx
    · have := List.eq_of_mem_replicate hx
      omega
  have HV := Lib.hid (v6_any (pad8 l) hp8 hpr g c w1 hc)
  have hyl := v6b_len (pad8 l) hp8 8 (by omega)
  have HG1 := Lib.hid (t1.at HG.out (by simp))
  have HT1 := Lib.hid (HT.out.trans t1 (by simp))
  generalize hys : v6b (pad8 l) 8 = ys at *
  have HYS := Lib.hid hys
  clear hys
  clear hc hpr hp8 t1
  try simp only [Act.put]
  go_wp2_with fail
  refine HV.out.mono ?_
  rintro e w2 ⟨rfl, t2⟩
  have HG2 := Lib.hid (t2.at HG1.out (by simp))
  have HT2 := Lib.hid (HT1.out.trans t2 (by simp))
  have HY := Lib.hid hyl
  have hl17 : (adr true ys).length = 17 := by simp [adr, hyl]
  have HL17 := Lib.hid hl17
  have HNB := Lib.hid (heap_alloc_new w2 (.cells (adr true ys).toArray 28))
  have HN2 := Lib.hid (((Touch.refl [] w2).alloc (.cells (adr true ys).toArray 28)).at HG2.out (by simp))
  have HT3 := Lib.hid (HT2.out.alloc (.cells (adr true ys).toArray 28))
  clear t2 HV HG1 HT1 hl17 hyl
  go_wp2_with (first
    | (refine wpList_store_new rfl 28 _ _ rfl _ _ (adr true ys) rfl rfl (by rw [HL17.out]; rfl) (by rw [size31, HL17.out]) (adr_one _ _) ?_)
    | (refine wpList_load_mid rfl 28 _ rfl w2.heap.size 0 rfl (adr true ys) _ (range_block HNB.out) Tryd.underlying28 rfl (by rw [size31, HL17.out]) ?_)
    | (refine wpList_built (by rfl) 52 _ (by rfl) _ _ (by rfl) (built_pfx true ys bits HY.out) ?_)
    | (refine wpList_built (by rfl) 54 _ (by rfl) _ _ (by rfl) (built_prw true ys bits prec label HY.out) ?_)
    | (refine wpList_store_into rfl 54 _ _ rfl w.heap.size 54 _ (prw true ys bits prec label) rfl rfl HN2.out (by simp [prw, pfx, adr, HY.out]) (by rw [sizeR]; simp [prw, pfx, HL17.out]) (prw_one _ _ _ _ _) ?_))
  intro w5 h5 t5 z5
  go_wp2_with fail
  exact ret_row rfl sizeR Tryd.underlying54 rfl (by simp [prw, pfx, HL17.out]) rfl h5 ⟨by rw [HYS.out], HT3.out.trans t5 (by simp)⟩
end Go.Proofs.YtecaakgpogabjaaDoor

/-
  The contract of Rows.
-/
namespace Go.Proofs.YtecaakgpogabjaaDoor
open Go.RowKit
set_option linter.unusedVariables false
set_option linter.unusedSimpArgs false

/-- A row: groups, bits, precedence, label. -/
structure Pol where
  l : List Int
  bits : Int
  prec : Int
  label : Int
def Pol.px (r : Pol) : List Int := v6b (pad8 r.l) 8
def Pol.cells (r : Pol) : List Value := prw true r.px r.bits r.prec r.label
def pols : List Pol := [⟨[0, 0, 0, 0, 0, 0, 0, 1], 128, 50, 0⟩, ⟨[], 0, 40, 1⟩, ⟨[0, 0, 0, 0, 0, 65535], 96, 35, 4⟩, ⟨[8194], 16, 30, 2⟩, ⟨[8193], 32, 5, 5⟩, ⟨[64512], 7, 3, 13⟩, ⟨[], 96, 1, 3⟩, ⟨[65216], 10, 1, 11⟩, ⟨[16382], 16, 1, 12⟩]
theorem pol_len (r : Pol) (h : r.l.length ≤ 8) : r.cells.length = 20 := by
  have h1 : (pad8 r.l).length = 8 := by simp [pad8]; omega
  have h2 := v6b_len (pad8 r.l) h1 8 (by omega)
  simp [Pol.cells, prw, pfx, adr, Pol.px, h2]
theorem row_call (r : Pol) (v : Value) (w : World) (h : Lit16 w v r.l) (hl : r.l.length ≤ 8) (hr : ∀ x ∈ r.l, 0 ≤ x ∧ x ≤ 65535) :
    Calls Tryd.prog 56 #[.int .i64 r.bits, .int .i64 r.prec, .int .i64 r.label, v] w fun e w' => e = .returned (.agg r.cells.toArray) ∧ Touch [] w w' :=
  policyRow_any r.bits r.prec r.label v r.l w h hl hr
theorem infoR : ∃ i z, Tryd.prog.info? 54 = some i ∧ i.zero = some z ∧ i.size = 20 := by
  have h : (Tryd.prog.info? 54).map (fun i => (i.zero.isSome, i.size)) = some (true, 20) := by kernel_rfl
  obtain ⟨i, hi, hz⟩ := Option.map_eq_some_iff.1 h
  simp only [Prod.mk.injEq] at hz
  obtain ⟨z, hz2⟩ := Option.isSome_iff_exists.1 hz.1
  exact ⟨i, z, hi, hz2, hz.2⟩
set_option maxRecDepth 100000 in
set_option maxHeartbeats 4000000 in
theorem rows_any (w : World) :
    Calls Tryd.prog 49 #[] w fun e w' => ∃ g, e = .returned (.slice (some ⟨g, 0, none⟩) 9 9) ∧ w.heap.size ≤ g ∧ (∀ i x, (pols.map Pol.cells)[i]? = some x → w'.rangeAt g (i * 20) x) ∧ Touch [] w w' := by
  obtain ⟨iR, zR, hiR, hzR, hsR⟩ := infoR
  go_enter Tryd.func49, Tryd.ntmps49
  go_wp2_with fail
  refine (row_call ⟨[0, 0, 0, 0, 0, 0, 0, 1], 128, 50, 0⟩ _ _ (.inr ⟨_, rfl, by simp, heap_alloc_new _ _⟩) (by simp) (by simp)).mono ?_
  rintro e w1 ⟨rfl, t1⟩
  have T1 := Lib.hid (Touch.trans ((Touch.refl [] w).alloc _) t1 (by simp))
  clear t1
  go_wp2_with fail
  refine (row_call ⟨[], 0, 40, 1⟩ _ _ (.inl ⟨rfl, rfl⟩) (by simp) (by simp)).mono ?_
  rintro e w2 ⟨rfl, t2⟩
  have T2 := Lib.hid (Touch.trans T1.out t2 (by simp))
  clear t2
  go_wp2_with fail
  refine (row_call ⟨[0, 0, 0, 0, 0, 65535], 96, 35, 4⟩ _ _ (.inr ⟨_, rfl, by simp, heap_alloc_new _ _⟩) (by simp) (by simp)).mono ?_
  rintro e w3 ⟨rfl, t3⟩
  have T3 := Lib.hid (Touch.trans (T2.out.alloc _) t3 (by simp))
  clear t3
  go_wp2_with fail
  refine (row_call ⟨[8194], 16, 30, 2⟩ _ _ (.inr ⟨_, rfl, by simp, heap_alloc_new _ _⟩) (by simp) (by simp)).mono ?_
  rintro e w4 ⟨rfl, t4⟩
  have T4 := Lib.hid (Touch.trans (T3.out.alloc _) t4 (by simp))
  clear t4
  go_wp2_with fail
  refine (row_call ⟨[8193], 32, 5, 5⟩ _ _ (.inr ⟨_, rfl, by simp, heap_alloc_new _ _⟩) (by simp) (by simp)).mono ?_
  rintro e w5 ⟨rfl, t5⟩
  have T5 := Lib.hid (Touch.trans (T4.out.alloc _) t5 (by simp))
  clear t5
  go_wp2_with fail
  refine (row_call ⟨[64512], 7, 3, 13⟩ _ _ (.inr ⟨_, rfl, by simp, heap_alloc_new _ _⟩) (by simp) (by simp)).mono ?_
  rintro e w6 ⟨rfl, t6⟩
  have T6 := Lib.hid (Touch.trans (T5.out.alloc _) t6 (by simp))
  clear t6
  go_wp2_with fail
  refine (row_call ⟨[], 96, 1, 3⟩ _ _ (.inl ⟨rfl, rfl⟩) (by simp) (by simp)).mono ?_
  rintro e w7 ⟨rfl, t7⟩
  have T7 := Lib.hid (Touch.trans T6.out t7 (by simp))
  clear t7
  go_wp2_with fail
  refine (row_call ⟨[65216], 10, 1, 11⟩ _ _ (.inr ⟨_, rfl, by simp, heap_alloc_new _ _⟩) (by simp) (by simp)).mono ?_
  rintro e w8 ⟨rfl, t8⟩
  have T8 := Lib.hid (Touch.trans (T7.out.alloc _) t8 (by simp))
  clear t8
  go_wp2_with fail
  refine (row_call ⟨[16382], 16, 1, 12⟩ _ _ (.inr ⟨_, rfl, by simp, heap_alloc_new _ _⟩) (by simp) (by simp)).mono ?_
  rintro e w9 ⟨rfl, t9⟩
  have T9 := Lib.hid (Touch.trans (T8.out.alloc _) t9 (by simp))
  clear t9
  have hlen : ∀ x ∈ pols.map Pol.cells, x.length = 20 := by
    intro x hx
    obtain ⟨r, hr, rfl⟩ := List.mem_map.1 hx
    refine pol_len r ?_
    simp only [pols, List.mem_cons, List.not_mem_nil, or_false] at hr
    rcases hr with rfl | rfl | rfl | rfl | rfl | rfl | rfl | rfl | rfl <;> decide
  have HLEN := Lib.hid hlen
  clear hlen
  go_wp2_with (refine wpList_buildSlice_rows (by rfl) 64 9 _ (by rfl) 54 20 iR zR Tryd.underlying64 hiR hzR hsR (by omega) (pols.map Pol.cells) (by rfl) HLEN.out (by omega) (by rfl) ?_)
  go_ret
  refine ⟨w9.heap.size, rfl, T9.out.size, ?_, T9.out.alloc _⟩
  intro i x hx j v hv
  have := range_new w9 (pols.map Pol.cells).flatten 54 (i * 20 + j) v (flat_get HLEN.out hx hv)
  simpa using this
end Go.Proofs.YtecaakgpogabjaaDoor

/-
  copy into an address's bytes.
-/
namespace Go.Proofs.YtecaakgpogabjaaDoor
open Go.RowKit
set_option linter.unusedVariables false
set_option linter.unusedSimpArgs false

def splice (ys : List Int) (k : Nat) (cs : List Int) : List Int := ys.take k ++ cs ++ ys.drop (k + cs.length)
theorem set_row_adr (W : World) (g k : Nat) (T : TypeId) (b : Bool) (ys cs : List Int) (hg : W.heap[g]? = some (.cells (adr b ys).toArray T (0, 0))) (hl : k + cs.length ≤ ys.length) :
    ∃ W', (storeCells ⟨g, 1 + k, none⟩ (cs.map (Value.int .u8)) 0).run Tryd.prog W = .ok () W' ∧ W'.heap[g]? = some (.cells (adr b (splice ys k cs)).toArray T (0, 0)) ∧ Touch [g] W W' := by
  have hst := run_storeCells_at Tryd.prog g (1 + k) T (cs.map (Value.int .u8)) 0 (adr b ys).toArray W hg (by simp [adr]; omega) (by intro v hv; obtain ⟨x, _, rfl⟩ := List.mem_map.1 hv; rfl)
  refine ⟨_, hst, ?_, ⟨rfl, rfl, rfl, by simp, fun i hi hn => setRow_other W g i _ (by simpa using hn)⟩⟩
  rw [setRow_heap W g (adr b ys).toArray _ T _ hg]
  have e : (adr b ys).toArray.toList.take (1 + k + 0) ++ cs.map (Value.int .u8) ++ (adr b ys).toArray.toList.drop (1 + k + 0 + (cs.map (Value.int .u8)).length) = adr b (splice ys k cs) := by
    simp only [adr, splice, List.length_map, Nat.add_zero, Nat.add_comm 1 k, Nat.add_right_comm k 1, List.take_succ_cons, List.drop_succ_cons, List.map_append, List.map_take, List.map_drop, List.cons_append]
  rw [e]
theorem infoB : ∃ i, Tryd.prog.info? 5 = some i ∧ i.size = 1 := by
  have h : (Tryd.prog.info? 5).map (fun i => i.size) = some 1 := by kernel_rfl
  obtain ⟨i, hi, hz⟩ := Option.map_eq_some_iff.1 h
  exact ⟨i, hi, hz⟩
theorem copy_str (W : World) (g k n c : Nat) (T : TypeId) (b : Bool) (ys : List Int) (s : ByteArray) (hg : W.heap[g]? = some (.cells (adr b ys).toArray T (0, 0))) (hn : s.size ≤ n) (hl : k + s.size ≤ ys.length) :
    ∃ W', (Builtin.copy_ #[68, 9] 3 #[.slice (some ⟨g, 1 + k, none⟩) n c, .string s]).run Tryd.prog W = .ok (goInt s.size) W' ∧ W'.heap[g]? = some (.cells (adr b (splice ys k (s.data.toList.map fun x => (x.toNat : Int)))).toArray T (0, 0)) ∧ Touch [g] W W' := by
  obtain ⟨i, hi, hs⟩ := infoB
  obtain ⟨W', h1, h2, h3⟩ := set_row_adr W g k T b ys (s.data.toList.map fun x => (x.toNat : Int)) hg (by simpa using hl)
  refine ⟨W', ?_, h2, h3⟩
  have hmin : Nat.min s.size n = s.size := Nat.min_eq_left hn
  have e3 : (s.data.toList.map fun b => Value.int .u8 (b.toNat : Int)).take s.size = (s.data.toList.map fun x => (x.toNat : Int)).map (Value.int .u8) := by
    rw [List.take_of_length_le (by simp), List.map_map]
    rfl
  simp [Builtin.copy_, run_underlying Tryd.underlying68, Builtin.lenOf, Builtin.firstCells, sizeOf, typeInfo, hi, hs, hmin]
  rw [e3, h1]
  rfl
theorem copy_bytes (W : World) (g k n c g2 o m c2 : Nat) (T : TypeId) (b : Bool) (ys cs : List Int) (hg : W.heap[g]? = some (.cells (adr b ys).toArray T (0, 0))) (hm : cs.length = m) (hn : m ≤ n) (hl : k + m ≤ ys.length) (hc : ∀ j x, cs[j]? = some x → W.cell? ⟨g2, o + j, none⟩ = some (.int .u8 x)) :
    ∃ W', (Builtin.copy_ #[68, 68] 3 #[.slice (some ⟨g, 1 + k, none⟩) n c, .slice (some ⟨g2, o, none⟩) m c2]).run Tryd.prog W = .ok (goInt m) W' ∧ W'.heap[g]? = some (.cells (adr b (splice ys k cs)).toArray T (0, 0)) ∧ Touch [g] W W' := by
  obtain ⟨i, hi, hs⟩ := infoB
  subst hm
  obtain ⟨W', h1, h2, h3⟩ := set_row_adr W g k T b ys cs hg hl
  refine ⟨W', ?_, h2, h3⟩
  have hmin : Nat.min cs.length n = cs.length := Nat.min_eq_left hn
  have hld := run_loadCells_list (P := Tryd.prog) W ⟨g2, o, none⟩ (cs.map (Value.int .u8)) (by
    intro j v hj
    rw [Addr.add_lit]
    rw [List.getElem?_map, Option.map_eq_some_iff] at hj
    obtain ⟨x, hx, rfl⟩ := hj
    exact hc j x hx)
  simp only [List.length_map] at hld
  simp [Builtin.copy_, run_underlying Tryd.underlying68, Builtin.lenOf, Builtin.firstCells, sizeOf, typeInfo, hi, hs, hmin, hld, h1]
theorem wpList_copy_str {ops : Array Oper} {rest : List Oper} {o : Oper} {a : Act} {Q : Exit → Act → World → Prop} (hgd : o.guard = none) (d x : Operand)
    (ho : o.op = .call { callee := .builtin .copy, args := #[d, x], argTypes := #[68, 9] }) (hty : o.type = 3) (W : World) (g k n c : Nat) (T : TypeId) (b : Bool) (ys : List Int) (s : ByteArray) (hd : a.eval d = .slice (some ⟨g, 1 + k, none⟩) n c) (hx : a.eval x = .string s)
    (hg : W.heap[g]? = some (.cells (adr b ys).toArray T (0, 0))) (hn : s.size ≤ n) (hl : k + s.size ≤ ys.length)
    (h : ∀ W', W'.heap[g]? = some (.cells (adr b (splice ys k (s.data.toList.map fun x => (x.toNat : Int)))).toArray T (0, 0)) → Touch [g] W W' → wpList Tryd.prog ops Q rest (a.put o.dst (goInt s.size)) W') : wpList Tryd.prog ops Q (o :: rest) a W := by
  refine wpList_plain hgd fun K hK => ?_
  obtain ⟨W', hr, h2, h3⟩ := copy_str W g k n c T b ys s hg hn hl
  unfold Oper.wp execOp
  simp only [ho, hty, resolve, invoke, builtin, Sem.run_bind, Sem.run_pure, Result.andThen_ok, List.map_toArray, List.map_cons, List.map_nil, hd, hx, hr]
  exact hK _ _ (h W' h2 h3)
theorem wpList_copy_bytes {ops : Array Oper} {rest : List Oper} {op : Oper} {a : Act} {Q : Exit → Act → World → Prop} (hgd : op.guard = none) (d x : Operand)
    (ho : op.op = .call { callee := .builtin .copy, args := #[d, x], argTypes := #[68, 68] }) (hty : op.type = 3) (W : World) (g k n c g2 o m c2 : Nat) (T : TypeId) (b : Bool) (ys cs : List Int) (hd : a.eval d = .slice (some ⟨g, 1 + k, none⟩) n c) (hx : a.eval x = .slice (some ⟨g2, o, none⟩) m c2)
    (hg : W.heap[g]? = some (.cells (adr b ys).toArray T (0, 0))) (hm : cs.length = m) (hn : m ≤ n) (hl : k + m ≤ ys.length) (hc : ∀ j x, cs[j]? = some x → W.cell? ⟨g2, o + j, none⟩ = some (.int .u8 x))
    (h : ∀ W', W'.heap[g]? = some (.cells (adr b (splice ys k cs)).toArray T (0, 0)) → Touch [g] W W' → wpList Tryd.prog ops Q rest (a.put op.dst (goInt m)) W') : wpList Tryd.prog ops Q (op :: rest) a W := by
  refine wpList_plain hgd fun K hK => ?_
  obtain ⟨W', hr, h2, h3⟩ := copy_bytes W g k n c g2 o m c2 T b ys cs hg hm hn hl hc
  unfold Oper.wp execOp
  simp only [ho, hty, resolve, invoke, builtin, Sem.run_bind, Sem.run_pure, Result.andThen_ok, List.map_toArray, List.map_cons, List.map_nil, hd, hx, hr]
  exact hK _ _ (h W' h2 h3)
end Go.Proofs.YtecaakgpogabjaaDoor

/-
  The contract of toIPv6.
-/
namespace Go.Proofs.YtecaakgpogabjaaDoor
open Go.RowKit
set_option linter.unusedVariables false
set_option linter.unusedSimpArgs false

/-- An address of sixteen bytes in which an IPv4 address lies. -/
def map6 (b : Bool) (xs : List Int) : List Int := if b then xs else List.replicate 10 0 ++ [255, 255] ++ xs.take 4
theorem map6_ok {b : Bool} {xs : List Int} (h : okB xs) : okB (map6 b xs) := by
  cases b
  · refine ⟨by simp [map6, h.1], ?_⟩
    intro x hx
    simp only [map6, Bool.false_eq_true, if_false, List.mem_append] at hx
    rcases hx with (hx | hx) | hx
    · have := List.eq_of_mem_replicate hx
      omega
    · simp at hx
      omega
    · exact h.2 x (List.mem_of_mem_take hx)
  · exact h
set_option maxRecDepth 100000 in
set_option maxHeartbeats 4000000 in
theorem to6_true (xs : List Int) (h : okB xs) (w : World) :
    Calls Tryd.prog 48 #[.agg (adr true xs).toArray] w fun e w' => e = .returned (.agg (adr true xs).toArray) ∧ Touch [] w w' := by
  have hl17 : (adr true xs).length = 17 := by simp [adr, h.1]
  have HL17 := Lib.hid hl17
  have t0 := ((Touch.refl [] w).alloc (.cells (adr true xs).toArray 28)).alloc (.cells (adr false (List.replicate 16 0)).toArray 28)
  have g1 := ((Touch.refl [] (w.alloc (.cells (adr true xs).toArray 28))).alloc (.cells (adr false (List.replicate 16 0)).toArray 28)).at (heap_alloc_new w (.cells (adr true xs).toArray 28)) (by simp)
  have g2 := heap_alloc2_new w (.cells (adr true xs).toArray 28) (.cells (adr false (List.replicate 16 0)).toArray 28)
  obtain ⟨c0, cj⟩ := adr_cell g1
  have R1 := range_block g1
  have HG2 := Lib.hid g2
  have HT := Lib.hid t0
  have a0 : (adr true xs)[0]? = some (.bool true) := rfl
  clear hl17 cj g1 g2 t0 c0
  go_enter Tryd.func48, Tryd.ntmps48
  go_wp2_with (first
    | (refine wpList_load_mid rfl 28 _ rfl w.heap.size 0 rfl (adr true xs) _ R1 Tryd.underlying28 rfl (by rw [size31, HL17.out]) ?_)
    | (refine wpList_store_into rfl 28 _ _ rfl (w.heap.size + 1) 28 _ (adr true xs) rfl rfl HG2.out (by rw [HL17.out]; rfl) (by rw [size31, HL17.out]) (adr_one _ _) ?_))
  intro w5 h5 t5 z5
  go_wp2_with fail
  exact ret_row rfl size31 Tryd.underlying28 rfl HL17.out rfl h5 ⟨rfl, HT.out.trans t5 (by simp)⟩
set_option maxRecDepth 100000 in
set_option maxHeartbeats 4000000 in
theorem to6_false (xs : List Int) (h : okB xs) (w : World) :
    Calls Tryd.prog 48 #[.agg (adr false xs).toArray] w fun e w' => e = .returned (.agg (adr true (map6 false xs)).toArray) ∧ Touch [] w w' := by
  have hok := h
  obtain ⟨hlen, hr⟩ := h
  have HOK := Lib.hid hok
  clear hok
  have a0 : (adr false xs)[0]? = some (.bool false) := rfl
  have hl17 : (adr false xs).length = 17 := by simp [adr, hlen]
  obtain ⟨A, hA⟩ : ∃ A, A = Obj.cells (adr false xs).toArray 28 := ⟨_, rfl⟩
  obtain ⟨B, hB⟩ : ∃ B, B = Obj.cells (adr false (List.replicate 16 0)).toArray 28 := ⟨_, rfl⟩
  obtain ⟨C, hC⟩ : ∃ C, C = Obj.cells (adr true (List.replicate 16 0)).toArray 28 := ⟨_, rfl⟩
  have t0 := (((Touch.refl [] w).alloc A).alloc B).alloc C
  have g1 := (((Touch.refl [] (w.alloc A)).alloc B).alloc C).at (heap_alloc_new w A) (by simp)
  have g2 := ((Touch.refl [] ((w.alloc A).alloc B)).alloc C).at (heap_alloc2_new w A B) (by simp)
  have g3 := heap_alloc_new ((w.alloc A).alloc B) C
  have hz3 : ((w.alloc A).alloc B).heap.size = w.heap.size + 2 := by simp
  rw [hz3] at g3
  subst hA hB hC
  have HT := Lib.hid t0
  have HG1 := Lib.hid g1
  have HG2 := Lib.hid g2
  have HG3 := Lib.hid g3
  clear t0 g1 g2 g3 hr hl17 hz3
  go_enter Tryd.func48, Tryd.ntmps48
  go_wp2_with (first
    | (refine wpList_store_new rfl 28 _ _ rfl _ _ (adr true (List.replicate 16 0)) rfl rfl rfl size31 (adr_one _ _) ?_)
    | (refine wpList_copy_str (by rfl) _ _ (by rfl) (by rfl) _ (w.heap.size + 2) 10 6 6 28 true (List.replicate 16 0) ⟨#[255, 255]⟩ (by rfl) (by rfl) (by exact HG3.out) (by decide) (by decide) ?_))
  intro W1 hW1 tW1
  have T1 := Lib.hid (HT.out.trans tW1 (by intro y hy; right; simp at hy; omega))
  have K1 := Lib.hid (tW1.at HG1.out (by simp))
  have K2 := Lib.hid (tW1.at HG2.out (by simp))
  have K3 := Lib.hid hW1
  have c4 := (adr_cell K1.out).2
  have C4 := Lib.hid c4
  clear tW1 hW1 c4 HT HG1 HG2 HG3
  try simp only [Act.put]
  go_wp2_with fail
  refine wp_region_still_tail 4 (by kernel_rfl) (by kernel_rfl) ?_
  simp only [List.take_succ_cons, List.take_zero, List.drop_succ_cons, List.drop_zero]
  iterate 4 still_step
  refine wpStill_nil ?_
  change wpList _ _ _ _ _ W1.drew
  go_wp2_with (refine wpList_copy_bytes (by rfl) _ _ (by rfl) (by rfl) _ (w.heap.size + 2) 12 4 4 w.heap.size 1 4 16 28 true _ (xs.take 4) (by rfl) (by rfl) (by exact K3.out) (by simp [hlen]) (by decide) (by decide) (by intro j x hj; exact C4.out j x (by rw [List.getElem?_take] at hj; split at hj; exact hj; cases hj)) ?_)
  intro W2 hW2 tW2
  have T2 := Lib.hid (T1.out.drew.trans tW2 (by intro y hy; right; simp at hy; omega))
  have HB := Lib.hid (tW2.at (w := W1.drew) (show W1.drew.heap[w.heap.size + 1]? = _ from K2.out) (by simp))
  have hsp : splice (splice [0, 0, 0, 0, 0, 0, 0, 0, 0, 0, 0, 0, 0, 0, 0, 0] 10 [255, 255]) 12 (xs.take 4) = map6 false xs := by
    have h4 : (xs.take 4).length = 4 := by simp [hlen]
    simp [splice, map6, h4]
  have hw2 : W2.heap[w.heap.size + 2]? = some (.cells (adr true (map6 false xs)).toArray 28 (0, 0)) := by rw [← hsp]; exact hW2
  have hok6 := map6_ok (b := false) HOK.out
  have hl17 : (adr true (map6 false xs)).length = 17 := by simp [adr, hok6.1]
  have HL17 := Lib.hid hl17
  generalize hys : map6 false xs = ys at *
  have HYS := Lib.hid hys
  clear hys
  have R3 := range_block hw2
  try simp only [Act.put]
  clear hW2 tW2 hsp hok6 hl17 hw2 K1 K2 K3 C4 T1
  go_wp2_with (first
    | (refine wpList_load_mid rfl 28 _ rfl (w.heap.size + 2) 0 rfl (adr true ys) _ R3 Tryd.underlying28 rfl (by rw [size31, HL17.out]) ?_)
    | (refine wpList_store_into rfl 28 _ _ rfl (w.heap.size + 1) 28 _ (adr true ys) rfl rfl HB.out (by rw [HL17.out]; rfl) (by rw [size31, HL17.out]) (adr_one _ _) ?_))
  intro w5 h5 t5 z5
  go_wp2_with fail
  exact ret_row rfl size31 Tryd.underlying28 rfl HL17.out rfl h5 ⟨by rw [HYS.out], T2.out.trans t5 (by simp)⟩
/-- toIPv6 at either family. -/
theorem to6_any (b : Bool) (xs : List Int) (h : okB xs) (w : World) :
    Calls Tryd.prog 48 #[.agg (adr b xs).toArray] w fun e w' => e = .returned (.agg (adr true (map6 b xs)).toArray) ∧ Touch [] w w' := by
  cases b
  · exact to6_false xs h w
  · exact to6_true xs h w
end Go.Proofs.YtecaakgpogabjaaDoor

/-
  The contracts of lookup and Precedence.
-/
namespace Go.Proofs.YtecaakgpogabjaaDoor
open Go.RowKit
set_option linter.unusedVariables false
set_option linter.unusedSimpArgs false

/-- A row of the table. -/
structure PR where
  b : Bool
  px : List Int
  bits : Int
  prec : Int
  label : Int
def PR.cells (r : PR) : List Value := prw r.b r.px r.bits r.prec r.label
def polR (r : Pol) : PR := ⟨true, r.px, r.bits, r.prec, r.label⟩
def pr0 : PR := ⟨false, List.replicate 16 0, -1, -1, -1⟩
def prs : List PR := pols.map polR
theorem prs_cells : pols.map Pol.cells = prs.map PR.cells := by simp [prs, PR.cells, polR, Pol.cells]
def PR.good (r : PR) : Prop := r.b = true ∧ okB r.px ∧ 0 ≤ r.bits ∧ r.bits ≤ 128 ∧ trunc r.bits r.px = r.px
theorem prs_good : ∀ r ∈ prs, r.good := by
  have h : ∀ r ∈ prs, r.b = true ∧ (r.px.length = 16 ∧ (r.px.all fun x => decide (0 ≤ x ∧ x ≤ 255)) = true) ∧ 0 ≤ r.bits ∧ r.bits ≤ 128 ∧ trunc r.bits r.px = r.px := by decide
  intro r hr
  obtain ⟨h1, ⟨h2, h3⟩, h4⟩ := h r hr
  refine ⟨h1, ⟨h2, fun x hx => ?_⟩, h4⟩
  have := List.all_eq_true.1 h3 x hx
  simpa using this
def stepL (ys : List Int) (best r : PR) : PR := if best.bits < r.bits ∧ trunc r.bits ys = r.px then r else best
def bestL (ys : List Int) (k : Nat) : PR := (prs.take k).foldl (stepL ys) pr0
theorem bestL_succ (ys : List Int) (k : Nat) (r : PR) (h : prs[k]? = some r) : bestL ys (k + 1) = stepL ys (bestL ys k) r := by
  unfold bestL
  rw [List.take_add_one, h, List.foldl_append]
  rfl
theorem bestL_px (ys : List Int) (k : Nat) : (bestL ys k).px.length = 16 := by
  induction k with
  | zero => rfl
  | succ k ih =>
    cases h : prs[k]? with
    | none =>
      have : bestL ys (k + 1) = bestL ys k := by
        unfold bestL
        rw [List.take_add_one, h]
        simp
      rw [this]
      exact ih
    | some r =>
      rw [bestL_succ ys k r h]
      unfold stepL
      split
      · exact (prs_good r (List.mem_of_getElem? h)).2.1.1
      · exact ih
def lookP (b : Bool) (xs : List Int) : PR := if vld b xs then bestL (map6 b xs) 9 else pr0
theorem pr_len (r : PR) (h : r.px.length = 16) : r.cells.length = 20 := by simp [PR.cells, prw, pfx, adr, h]
theorem prw_rows {w : World} {g : Nat} {r : PR} (hl : r.px.length = 16) (h : w.rangeAt g 0 r.cells) : w.rangeAt g 0 (pfx r.b r.px r.bits) ∧ w.cell? ⟨g, 17, none⟩ = some (.int .i64 r.bits) := by
  have h1 : w.rangeAt g 0 (pfx r.b r.px r.bits) := by
    intro j v hj
    refine h j v ?_
    unfold PR.cells prw
    rw [List.getElem?_append_left (List.getElem?_eq_some_iff.1 hj).1]
    exact hj
  exact ⟨h1, (pfx_rows hl h1).2.2⟩
set_option maxRecDepth 100000 in
theorem built_none : Tryd.prog.built 52 [(1, .int .i64 (-1))] = some (pfx false (List.replicate 16 0) (-1)).toArray := by kernel_rfl
set_option maxRecDepth 100000 in
theorem pr0_form : ∃ zs, zs.length = 16 ∧ Tryd.prog.built 52 [(1, .int .i64 (-1))] = some (pfx false zs (-1)).toArray ∧ pr0 = ⟨false, zs, -1, -1, -1⟩ := ⟨List.replicate 16 0, by simp, built_none, rfl⟩
theorem three (w : World) (A B C : Obj) : Touch [] w (((w.alloc A).alloc B).alloc C) ∧ (((w.alloc A).alloc B).alloc C).heap[w.heap.size]? = some A ∧ (((w.alloc A).alloc B).alloc C).heap[w.heap.size + 1]? = some B ∧ (((w.alloc A).alloc B).alloc C).heap[w.heap.size + 1 + 1]? = some C := by
  have g3 := heap_alloc_new ((w.alloc A).alloc B) C
  have hz3 : ((w.alloc A).alloc B).heap.size = w.heap.size + 1 + 1 := by simp
  rw [hz3] at g3
  exact ⟨(((Touch.refl [] w).alloc A).alloc B).alloc C, (((Touch.refl [] (w.alloc A)).alloc B).alloc C).at (heap_alloc_new w A) (by simp), ((Touch.refl [] ((w.alloc A).alloc B)).alloc C).at (heap_alloc2_new w A B) (by simp), g3⟩
set_option maxRecDepth 100000 in
set_option maxHeartbeats 4000000 in
theorem look_bad (b : Bool) (xs : List Int) (h : okB xs) (hv : vld b xs = false) (w : World) :
    Calls Tryd.prog 42 #[.agg (adr b xs).toArray] w fun e w' => e = .returned (.agg pr0.cells.toArray) ∧ Touch [] w w' := by
  obtain ⟨zs, hzl, hbn, hp0⟩ := pr0_form
  obtain ⟨g0, g1, g2, g3⟩ := three w (.cells (adr b xs).toArray 28) (.cells (prw false (List.replicate 16 0) 0 0 0).toArray 54) (.cells (prw false (List.replicate 16 0) 0 0 0).toArray 54)
  have hl17 : (adr b xs).length = 17 := by simp [adr, h.1]
  have hl20 : (prw false zs (-1) (-1) (-1)).length = 20 := by simp [prw, pfx, adr, hzl]
  have HL17 := Lib.hid hl17
  have HL20 := Lib.hid hl20
  have HZ := Lib.hid hzl
  have HBN := Lib.hid hbn
  have HT := Lib.hid g0
  have HG1 := Lib.hid g1
  have HG2 := Lib.hid g2
  have HG3 := Lib.hid g3
  have HV := Lib.hid hv
  have HP0 := Lib.hid hp0
  have HVA := Lib.hid (ipvalid_any b xs h)
  clear g0 g1 g2 g3 hl17 hl20 h hv hzl hbn hp0
  go_enter Tryd.func42, Tryd.ntmps42
  go_wp2_with (first
    | (refine wpList_built (by rfl) 52 _ (by rfl) _ _ (by rfl) HBN.out ?_)
    | (refine wpList_built (by rfl) 54 _ (by rfl) _ _ (by rfl) (built_prw false zs (-1) (-1) (-1) HZ.out) ?_)
    | (refine wpList_store_into rfl 54 _ _ rfl (w.heap.size + 1 + 1) 54 _ (prw false zs (-1) (-1) (-1)) rfl rfl HG3.out (by rw [HL20.out]; rfl) (by rw [sizeR, HL20.out]) (prw_one _ _ _ _ _) ?_))
  intro W1 h1 t1 z1
  have HT1 := Lib.hid (HT.out.trans t1 (by intro y hy; right; simp at hy; omega))
  have HG21 := Lib.hid (t1.at HG2.out (by simp <;> omega))
  have R1 := (range_block (t1.at HG1.out (by simp <;> omega)))
  have HG31 := Lib.hid h1
  clear h1 t1 z1 HT HG1 HG2 HG3
  go_wp2_with (first
    | (refine wpList_load_mid rfl 28 _ rfl w.heap.size 0 rfl (adr b xs) _ R1 Tryd.underlying28 rfl (by rw [size31, HL17.out]) ?_))
  refine (HVA.out _).mono ?_
  rintro e w4 ⟨he, t4⟩
  rw [HV.out] at he
  subst he
  have HT4 := Lib.hid (HT1.out.trans t4 (by simp))
  have HG24 := Lib.hid (t4.at HG21.out (by simp <;> omega))
  have R3 := (range_block (t4.at HG31.out (by simp <;> omega)))
  clear t4 HG21 HG31 R1 HT1
  go_wp2_with (first
    | (refine wpList_load_mid rfl 54 _ rfl (w.heap.size + 1 + 1) 0 rfl (prw false zs (-1) (-1) (-1)) _ R3 Tryd.underlying54 rfl (by rw [sizeR, HL20.out]) ?_)
    | (refine wpList_store_into rfl 54 _ _ rfl (w.heap.size + 1) 54 _ (prw false zs (-1) (-1) (-1)) rfl rfl HG24.out (by rw [HL20.out]; rfl) (by rw [sizeR, HL20.out]) (prw_one _ _ _ _ _) ?_))
  intro w5 h5 t5 z5
  go_wp2_with fail
  exact ret_row rfl sizeR Tryd.underlying54 rfl HL20.out rfl h5 ⟨by rw [HP0.out]; rfl, HT4.out.trans t5 (by simp)⟩
set_option maxRecDepth 100000 in
set_option maxHeartbeats 4000000 in
theorem look_good (b : Bool) (xs : List Int) (h : okB xs) (hv : vld b xs = true) (w : World) :
    Calls Tryd.prog 42 #[.agg (adr b xs).toArray] w fun e w' => e = .returned (.agg (bestL (map6 b xs) 9).cells.toArray) ∧ Touch [] w w' := by
  obtain ⟨zs, hzl, hbn, hp0⟩ := pr0_form
  obtain ⟨g0, g1, g2, g3⟩ := three w (.cells (adr b xs).toArray 28) (.cells (prw false (List.replicate 16 0) 0 0 0).toArray 54) (.cells (prw false (List.replicate 16 0) 0 0 0).toArray 54)
  have hl17 : (adr b xs).length = 17 := by simp [adr, h.1]
  have hl20 : (prw false zs (-1) (-1) (-1)).length = 20 := by simp [prw, pfx, adr, hzl]
  have hz20 : (prw false (List.replicate 16 0) 0 0 0).toArray.size = 20 := rfl
  have HL17 := Lib.hid hl17
  have HL20 := Lib.hid hl20
  have HZ := Lib.hid hzl
  have HBN := Lib.hid hbn
  have HT := Lib.hid g0
  have HG1 := Lib.hid g1
  have HG2 := Lib.hid g2
  have HG3 := Lib.hid g3
  have HV := Lib.hid hv
  have HP0 := Lib.hid hp0
  have HVA := Lib.hid (ipvalid_any b xs h)
  have HT6 := Lib.hid (to6_any b xs h)
  have h6 := map6_ok (b := b) h
  have HYL := Lib.hid (show (adr true (map6 b xs)).length = 17 by simp [adr, h6.1])
  have HYO := Lib.hid h6
  have HYV := Lib.hid (show vld true (map6 b xs) = true by rfl)
  clear g0 g1 g2 g3 hl17 hl20 h hv hzl hbn hp0 h6
  generalize map6 b xs = ys at *
  go_enter Tryd.func42, Tryd.ntmps42
  go_wp2_with (first
    | (refine wpList_built (by rfl) 52 _ (by rfl) _ _ (by rfl) HBN.out ?_)
    | (refine wpList_built (by rfl) 54 _ (by rfl) _ _ (by rfl) (built_prw false zs (-1) (-1) (-1) HZ.out) ?_)
    | (refine wpList_store_into rfl 54 _ _ rfl (w.heap.size + 1 + 1) 54 _ (prw false zs (-1) (-1) (-1)) rfl rfl HG3.out (by rw [HL20.out]; rfl) (by rw [sizeR, HL20.out]) (prw_one _ _ _ _ _) ?_))
  intro W1 h1 t1 z1
  have HT1 := Lib.hid (HT.out.trans t1 (by intro y hy; right; simp at hy; omega))
  have HG21 := Lib.hid (t1.at HG2.out (by simp <;> omega))
  have HG11 := Lib.hid (t1.at HG1.out (by simp <;> omega))
  have R1 := range_block HG11.out
  have HG31 := Lib.hid h1
  clear h1 t1 z1 HT HG1 HG2 HG3
  go_wp2_with (first
    | (refine wpList_load_mid rfl 28 _ rfl w.heap.size 0 rfl (adr b xs) _ R1 Tryd.underlying28 rfl (by rw [size31, HL17.out]) ?_))
  refine (HVA.out _).mono ?_
  rintro e w4 ⟨he, t4⟩
  rw [HV.out] at he
  subst he
  have HT4 := Lib.hid (HT1.out.trans t4 (by simp))
  have HG14 := Lib.hid (t4.at HG11.out (by simp <;> omega))
  have HG24 := Lib.hid (t4.at HG21.out (by simp <;> omega))
  have HG34 := Lib.hid (t4.at HG31.out (by simp <;> omega))
  have R4 := range_block HG14.out
  clear t4 HG21 HG31 HG11 R1 HT1
  go_wp2_with (first
    | (refine wpList_load_mid rfl 28 _ rfl w.heap.size 0 rfl (adr b xs) _ R4 Tryd.underlying28 rfl (by rw [size31, HL17.out]) ?_))
  refine (HT6.out _).mono ?_
  rintro e w5 ⟨rfl, t5⟩
  have HT5 := Lib.hid (HT4.out.trans t5 (by simp))
  have HG15 := Lib.hid (t5.at HG14.out (by simp <;> omega))
  have HG25 := Lib.hid (t5.at HG24.out (by simp <;> omega))
  have HG35 := Lib.hid (t5.at HG34.out (by simp <;> omega))
  clear t5 HG14 HG24 HG34 R4 HT4
  go_wp2_with (first
    | (refine wpList_store_into rfl 28 _ _ rfl w.heap.size 28 _ (adr true ys) rfl rfl HG15.out (by rw [HYL.out]; exact HL17.out) (by rw [size31, HYL.out]) (adr_one _ _) ?_))
  intro w6 h6 t6 z6
  have HT6' := Lib.hid (HT5.out.trans t6 (by intro y hy; right; simp at hy; omega))
  have HG16 := Lib.hid h6
  have HG26 := Lib.hid (t6.at HG25.out (by simp <;> omega))
  have HG36 := Lib.hid (t6.at HG35.out (by simp <;> omega))
  clear h6 t6 z6 HG15 HG25 HG35 HT5
  go_wp2_with fail
  refine (rows_any _).mono ?_
  rintro e w7 ⟨g, rfl, hgs, hrows, t7⟩
  have HT7 := Lib.hid (HT6'.out.trans t7 (by simp))
  have HG17 := Lib.hid (t7.at HG16.out (by simp <;> omega))
  have HG27 := Lib.hid (t7.at HG26.out (by simp <;> omega))
  have HG37 := Lib.hid (t7.at HG36.out (by simp <;> omega))
  have hgn : w.heap.size + 1 + 1 < g := by
    have := (Array.getElem?_eq_some_iff.1 HG36.out).1
    omega
  clear hgs t7 HG16 HG26 HG36 HT6'
  rw [prs_cells] at hrows
  have HROWS := Lib.hid hrows
  have HB0 := Lib.hid (show w7.heap[w.heap.size + 1 + 1]? = some (.cells (bestL ys 0).cells.toArray 54 (0, 0)) by rw [show bestL ys 0 = pr0 from rfl, HP0.out]; exact HG37.out)
  clear hrows HG37
  have hpl : prs.length = 9 := by decide
  go_wp2_with fail
  go_loopw [16] (fun vi wr => ∃ (k : Nat), vi = .int .i64 k ∧ k ≤ 9 ∧ Touch [] w wr ∧ wr.heap[w.heap.size]? = some (.cells (adr true ys).toArray 28 (0, 0)) ∧ wr.heap[w.heap.size + 1]? = some (.cells (prw false (List.replicate 16 0) 0 0 0).toArray 54 (0, 0)) ∧ wr.heap[w.heap.size + 1 + 1]? = some (.cells (bestL ys k).cells.toArray 54 (0, 0)) ∧ (∀ i x, (prs.map PR.cells)[i]? = some x → wr.rangeAt g (i * 20) x)) (fun vi _ => 9 - (intOf vi).toNat)
  case atStart => exact ⟨0, rfl, by omega, HT7.out, HG17.out, HG27.out, HB0.out, HROWS.out⟩
  case round =>
    obtain ⟨k, rfl, hk, ht, ha1, ha2, ha3, hr⟩ := hrel
    have HT := Lib.hid ht
    have A1 := Lib.hid ha1
    have A2 := Lib.hid ha2
    have HR := Lib.hid hr
    clear ht ha1 ha2 hr HT7 HG17 HG27 HB0 HROWS
    by_cases hk2 : k < 9
    · obtain ⟨r, hrk⟩ : ∃ r, prs[k]? = some r := ⟨_, List.getElem?_eq_getElem (by omega)⟩
      obtain ⟨hgb, hpx, hb0, hb2, hpt⟩ := prs_good r (List.mem_of_getElem? hrk)
      have hstep := bestL_succ ys k r hrk
      have hbl := bestL_px ys k
      generalize hbk : bestL ys (k + 1) = bn at *
      generalize bestL ys k = bs at *
      have A3 := Lib.hid ha3
      have hrow := HR.out k r.cells (by rw [List.getElem?_map, hrk]; rfl)
      have hrl := pr_len r hpx.1
      have HRL := Lib.hid hrl
      have HPX := Lib.hid hpx
      have HBN := Lib.hid hbk
      have HPV := Lib.hid (show vld r.b r.px = true by rw [hgb]; rfl)
      have HPT := Lib.hid hpt
      have HYS := HYO
      have hb1 : r.bits ≤ blen r.b := by rw [hgb]; exact hb2
      have HCO := Lib.hid (fun w => cont_any r.b r.px r.bits ys hpx HPV.out hb0 hb1 hpt HYO.out (by rw [hgb]; rfl) w)
      have AL := Lib.hid ((Touch.refl [] wr).alloc (.cells r.cells.toArray 54))
      have A5 := Lib.hid (heap_alloc_new wr (.cells r.cells.toArray 54))
      obtain ⟨RP, CR⟩ := prw_rows hpx.1 (range_block A5.out)
      have HBL := Lib.hid hbl
      have B1 := Lib.hid (AL.out.at A1.out (by simp))
      have B2 := Lib.hid (AL.out.at A2.out (by simp))
      have B3 := Lib.hid (AL.out.at A3.out (by simp))
      have RA := range_block B1.out
      have D17 := (prw_rows hbl (range_block B3.out)).2
      rw [hgb] at HCO
      have HGB := Lib.hid hgb
      have HSTEP := Lib.hid hstep
      have HRB := Lib.hid hb1
      clear hpx ha3 hpt hbk hbl hstep hgb hrl hb1
      by_cases hlt : bs.bits < r.bits
      · by_cases hco : trunc r.bits ys = r.px
        · have HC := Lib.hid (show decide (trunc r.bits ys = r.px) = true by simp [hco])
          have HE := Lib.hid (show stepL ys bs r = r by simp [stepL, hlt, hco])
          clear hco
          go_wp2_with (first
            | (refine wpList_load_mid rfl 54 _ rfl g (k * 20) rfl r.cells _ hrow Tryd.underlying54 rfl (by rw [sizeR, HRL.out]) ?_)
            | (refine wpList_store_new rfl 54 _ _ rfl _ _ r.cells rfl rfl (by rw [HRL.out]; rfl) (by rw [sizeR, HRL.out]) (prw_one _ _ _ _ _) ?_)
            | (refine wpList_load_g (by rfl) 52 _ rfl wr.heap.size 0 rfl (pfx r.b r.px r.bits) _ RP Tryd.underlying52 rfl (by rw [sizeP]; simp [pfx, adr, HPX.out.1]) ?_)
            | (refine wpList_load_g (by rfl) 28 _ rfl w.heap.size 0 rfl (adr true ys) _ RA Tryd.underlying28 rfl (by rw [size31, HYL.out]) ?_))
          rw [HGB.out]
          refine (HCO.out _).mono ?_
          rintro e w8 ⟨he, t8⟩
          rw [HC.out] at he
          subst he
          have HT8 := Lib.hid (AL.out.trans t8 (by simp))
          have C1 := Lib.hid (t8.at B1.out (by simp))
          have C2 := Lib.hid (t8.at B2.out (by simp))
          have C3 := Lib.hid (t8.at B3.out (by simp))
          have C5 := range_block (t8.at A5.out (by simp))
          clear t8 RA RP CR D17
          go_wp2_with (first
            | (refine wpList_load_mid rfl 54 _ rfl wr.heap.size 0 rfl r.cells _ C5 Tryd.underlying54 rfl (by rw [sizeR, HRL.out]) ?_)
            | (refine wpList_store_into rfl 54 _ _ rfl (w.heap.size + 1 + 1) 54 _ r.cells rfl rfl C3.out (by rw [HRL.out]; simp [pr_len bs HBL.out]) (by rw [sizeR, HRL.out]) (prw_one _ _ _ _ _) ?_))
          intro w9 h9 t9 z9
          go_wp2_with fail
          go_roundw
          case rel =>
            have t89 := (HT8.out.mono (S' := [w.heap.size + 1 + 1]) (by simp)).trans t9 (by simp)
            refine ⟨k + 1, by simp, by omega, HT.out.trans t89 (by intro y hy; right; simp at hy; omega), t9.at C1.out (by simp <;> omega), t9.at C2.out (by simp <;> omega), ?_, ?_⟩
            · rw [HBN.out, HSTEP.out, HE.out]
              exact h9
            · intro i x hx
              exact t89.range (HR.out i x hx) (by simp <;> omega)
          case measure => simp [intOf]; omega
        · have HC := Lib.hid (show decide (trunc r.bits ys = r.px) = false by simp [hco])
          have HE := Lib.hid (show stepL ys bs r = bs by simp [stepL, hco])
          clear hco
          go_wp2_with (first
            | (refine wpList_load_mid rfl 54 _ rfl g (k * 20) rfl r.cells _ hrow Tryd.underlying54 rfl (by rw [sizeR, HRL.out]) ?_)
            | (refine wpList_store_new rfl 54 _ _ rfl _ _ r.cells rfl rfl (by rw [HRL.out]; rfl) (by rw [sizeR, HRL.out]) (prw_one _ _ _ _ _) ?_)
            | (refine wpList_load_g (by rfl) 52 _ rfl wr.heap.size 0 rfl (pfx r.b r.px r.bits) _ RP Tryd.underlying52 rfl (by rw [sizeP]; simp [pfx, adr, HPX.out.1]) ?_)
            | (refine wpList_load_g (by rfl) 28 _ rfl w.heap.size 0 rfl (adr true ys) _ RA Tryd.underlying28 rfl (by rw [size31, HYL.out]) ?_))
          rw [HGB.out]
          refine (HCO.out _).mono ?_
          rintro e w8 ⟨he, t8⟩
          rw [HC.out] at he
          subst he
          have HT8 := Lib.hid (AL.out.trans t8 (by simp))
          clear RA RP CR D17
          go_wp2_with fail
          go_roundw
          case rel =>
            refine ⟨k + 1, by simp, by omega, HT.out.trans HT8.out (by simp), t8.at B1.out (by simp), t8.at B2.out (by simp), ?_, ?_⟩
            · rw [HBN.out, HSTEP.out, HE.out]
              exact t8.at B3.out (by simp)
            · intro i x hx
              exact HT8.out.range (HR.out i x hx) (by simp)
          case measure => simp [intOf]; omega
      · have HE := Lib.hid (show stepL ys bs r = bs by simp [stepL, hlt])
        go_wp2_with (first
          | (refine wpList_load_mid rfl 54 _ rfl g (k * 20) rfl r.cells _ hrow Tryd.underlying54 rfl (by rw [sizeR, HRL.out]) ?_)
          | (refine wpList_store_new rfl 54 _ _ rfl _ _ r.cells rfl rfl (by rw [HRL.out]; rfl) (by rw [sizeR, HRL.out]) (prw_one _ _ _ _ _) ?_)
          | (refine wpList_load_g (by rfl) 52 _ rfl wr.heap.size 0 rfl (pfx r.b r.px r.bits) _ RP Tryd.underlying52 rfl (by rw [sizeP]; simp [pfx, adr, HPX.out.1]) ?_)
          | (refine wpList_load_g (by rfl) 28 _ rfl w.heap.size 0 rfl (adr true ys) _ RA Tryd.underlying28 rfl (by rw [size31, HYL.out]) ?_))
        go_roundw
        case rel =>
          refine ⟨k + 1, by simp, by omega, HT.out.trans AL.out (by simp), B1.out, B2.out, ?_, ?_⟩
          · rw [HBN.out, HSTEP.out, HE.out]
            exact B3.out
          · intro i x hx
            exact AL.out.range (HR.out i x hx) (by simp)
        case measure => simp [intOf]; omega
    · have hke : k = 9 := by omega
      subst hke
      have hbl := bestL_px ys 9
      generalize hbk : bestL ys 9 = bs at *
      have HBK := Lib.hid hbk
      have hrl := pr_len bs hbl
      have HRL := Lib.hid hrl
      have R3 := range_block ha3
      clear hbk hbl ha3 hrl
      go_wp2_with (first
        | (refine wpList_load_mid rfl 54 _ rfl (w.heap.size + 1 + 1) 0 rfl bs.cells _ R3 Tryd.underlying54 rfl (by rw [sizeR, HRL.out]) ?_)
        | (refine wpList_store_into rfl 54 _ _ rfl (w.heap.size + 1) 54 _ bs.cells rfl rfl A2.out (by rw [HRL.out]; rfl) (by rw [sizeR, HRL.out]) (prw_one _ _ _ _ _) ?_))
      intro w5 h5 t5 z5
      go_wp2_with fail
      exact ret_row rfl sizeR Tryd.underlying54 rfl HRL.out rfl h5 ⟨by rw [HBK.out], HT.out.trans t5 (by intro y hy; right; simp at hy; omega)⟩
theorem lookP_px (b : Bool) (xs : List Int) : (lookP b xs).px.length = 16 := by
  unfold lookP
  split
  · exact bestL_px _ _
  · rfl
theorem look_any (b : Bool) (xs : List Int) (h : okB xs) (w : World) :
    Calls Tryd.prog 42 #[.agg (adr b xs).toArray] w fun e w' => e = .returned (.agg (lookP b xs).cells.toArray) ∧ Touch [] w w' := by
  unfold lookP
  cases hv : vld b xs
  · exact look_bad b xs h hv w
  · exact look_good b xs h hv w
theorem wpList_field {P : Program} {ops : Array Oper} {rest : List Oper} {o : Oper} {a : Act} {w : World} {Q : Exit → Act → World → Prop} (hgd : o.guard = none) (t : TypeId) (x : Operand) (n : Nat) (ho : o.op = .field t x n)
    (u v : Value) (hx : a.eval x = u) (hf : ∀ w, (Instr.field t u n).run P w = .ok v w)
    (h : wpList P ops Q rest (a.put o.dst v) w) : wpList P ops Q (o :: rest) a w := by
  refine wpList_plain hgd fun K hK => ?_
  unfold Oper.wp execOp
  simp only [ho, hx, Sem.run_bind, Sem.run_pure, Result.andThen_ok, hf]
  exact hK _ _ h
set_option maxRecDepth 100000 in
theorem field_prec (r : PR) (h : r.px.length = 16) (w : World) : (Instr.field 54 (.agg r.cells.toArray) 1).run Tryd.prog w = .ok (.int .i64 r.prec) w := by
  obtain ⟨rb, rpx, rbits, rprec, rlabel⟩ := r
  obtain ⟨x0, x1, x2, x3, x4, x5, x6, x7, x8, x9, x10, x11, x12, x13, x14, x15, rfl⟩ := sixteen rpx h
  kernel_rfl
def precP (b : Bool) (xs : List Int) : Int := (lookP b xs).prec
set_option maxRecDepth 100000 in
set_option maxHeartbeats 4000000 in
theorem prec_any (b : Bool) (xs : List Int) (h : okB xs) (w : World) :
    Calls Tryd.prog 35 #[.agg (adr b xs).toArray] w fun e w' => e = .returned (.int .i64 (precP b xs)) ∧ Touch [] w w' := by
  have t0 := (Touch.refl [] w).alloc (.cells (adr b xs).toArray 28)
  have R1 := range_block (heap_alloc_new w (.cells (adr b xs).toArray 28))
  have HL17 := Lib.hid (show (adr b xs).length = 17 by simp [adr, h.1])
  have HT := Lib.hid t0
  have HLK := Lib.hid (look_any b xs h)
  have hpx := lookP_px b xs
  unfold precP
  generalize lookP b xs = r at *
  have HFD := Lib.hid (field_prec r hpx)
  clear t0 h hpx
  go_enter Tryd.func35, Tryd.ntmps35
  go_wp2_with (first
    | (refine wpList_load_mid rfl 28 _ rfl w.heap.size 0 rfl (adr b xs) _ R1 Tryd.underlying28 rfl (by rw [size31, HL17.out]) ?_))
  refine (HLK.out _).mono ?_
  rintro e w8 ⟨rfl, t8⟩
  have HT8 := Lib.hid (HT.out.trans t8 (by simp))
  clear t8
  go_wp2_with (refine wpList_field rfl _ _ _ rfl _ _ rfl (fun w => HFD.out w) ?_)
  go_ret
  exact ⟨rfl, HT8.out⟩
end Go.Proofs.YtecaakgpogabjaaDoor

/-
  The contracts of the reference's parseIPv4 (at what is none) and parseGroup.
-/
namespace Go.Proofs.YtecaakgpogabjaaDoor
open Go.RowKit
set_option linter.unusedVariables false
set_option linter.unusedSimpArgs false

theorem OwnS.form {w0 w : World} {v : Value} {xs : List (List UInt8)} (h : OwnS w0 w v xs) : ∃ a cap, v = .slice a xs.length cap ∧ xs.length ≤ cap ∧ cap ≤ maxLen ∧ ∀ i x, xs[i]? = some x → ∃ g, a = some ⟨g, 0, none⟩ ∧ w.cell? ⟨g, i, none⟩ = some (str x) := by
  obtain ⟨a, c, rfl, h1, h2, h3⟩ := owns_form h.row
  refine ⟨a, c, rfl, h1, h2, ?_⟩
  intro i x hx
  have hi := (List.getElem?_eq_some_iff.1 hx).1
  obtain ⟨hl, hr⟩ := h.row
  rcases hr with ⟨hv, hn⟩ | ⟨g, cap, cur, hv, hb, hg, hnc, hcm, hcs, htk⟩
  · omega
  · simp only [Value.slice.injEq] at hv
    obtain ⟨rfl, _, rfl⟩ := hv
    refine ⟨g, rfl, ?_⟩
    rw [cell_of_row _ _ _ _ _ _ hg]
    have h4 : (xs.map str)[i]? = some (str x) := by simp [hx]
    rw [← htk, List.getElem?_take] at h4
    split at h4
    · simpa using h4
    · cases h4
set_option maxRecDepth 100000 in
theorem built_zero : Tryd.prog.built 28 [] = some (adr false (List.replicate 16 0)).toArray := by kernel_rfl
set_option maxRecDepth 100000 in
set_option maxHeartbeats 1000000 in
theorem ip4_bad (l : List UInt8) (hl : l.length ≤ 1000) (h4 : (splitP l 46).length ≠ 4) (w : World) :
    Calls Tryd.prog 76 #[str l] w fun e w' => e = .returned (.tuple #[.agg (adr false (List.replicate 16 0)).toArray, .bool false]) ∧ Touch [] w w' := by
  obtain ⟨zs, hzs⟩ : ∃ zs : List Int, zs = List.replicate 16 0 := ⟨_, rfl⟩
  have hzl : (adr false zs).length = 17 := by rw [hzs]; rfl
  have HZS := Lib.hid hzs
  have HZL := Lib.hid hzl
  have HBZ := Lib.hid (show Tryd.prog.built 28 [] = some (adr false zs).toArray by rw [hzs]; exact built_zero)
  have HZ := Lib.hid (show (Obj.cells (adr false (List.replicate 16 0)).toArray 28) = Obj.cells (adr false zs).toArray 28 by rw [hzs])
  rw [← hzs]
  have t0 := (Touch.refl [] w).alloc (.cells (adr false (List.replicate 16 0)).toArray 28)
  have g0 := heap_alloc_new w (.cells (adr false (List.replicate 16 0)).toArray 28)
  have HT := Lib.hid t0
  have HG := Lib.hid g0
  have HSP := Lib.hid (split_any l 46 hl)
  have h4c : ¬ ((splitP l 46).length : Int) = 4 := by omega
  clear t0 g0 hzs hzl
  go_enter Tryd.func76, Tryd.ntmps76
  go_wp2_with fail
  refine (HSP.out _).mono ?_
  rintro e w1 ⟨v, rfl, ho, t1⟩
  obtain ⟨a, cap, rfl, _⟩ := ho.form
  have HT1 := Lib.hid (HT.out.trans t1 (by simp))
  have HG1 := Lib.hid (t1.at HG.out (by simp))
  have HT2 := Lib.hid (HT1.out.alloc (.cells (adr false (List.replicate 16 0)).toArray 28))
  have HG2 := Lib.hid (((Touch.refl [] w1).alloc (.cells (adr false (List.replicate 16 0)).toArray 28)).at HG1.out (by simp))
  have HN2 := Lib.hid (heap_alloc_new w1 (.cells (adr false (List.replicate 16 0)).toArray 28))
  clear t1 ho HT HG
  go_wp2_with (first
    | ((with_reducible refine at_build 28 ?_); refine wpList_built (by rfl) 28 _ (by rfl) _ _ (by rfl) HBZ.out ?_)
    | ((with_reducible refine at_store 28 ?_); refine wpList_store_into rfl 28 _ _ rfl w1.heap.size 28 _ (adr false zs) rfl rfl HN2.out (by rw [HZL.out]; rfl) (by rw [size31, HZL.out]) (adr_one _ _) ?_))
  intro w3 h3 t3 z3
  have HT3 := Lib.hid (HT2.out.trans t3 (by intro y hy; right; simp at hy; have := HT1.out.size; omega))
  have HG3 := Lib.hid (t3.at HG2.out (by simp; have := (Array.getElem?_eq_some_iff.1 HG1.out).1; omega))
  have R3 := range_block h3
  clear h3 t3 z3 HT2 HG2 HN2
  go_wp2_with (first
    | ((with_reducible refine at_load 28 ?_); refine wpList_load_mid rfl 28 _ rfl w1.heap.size 0 rfl (adr false zs) _ R3 Tryd.underlying28 rfl (by rw [size31, HZL.out]) ?_)
    | ((with_reducible refine at_store 28 ?_); refine wpList_store_into rfl 28 _ _ rfl w.heap.size 28 _ (adr false zs) rfl rfl HG3.out (by rw [HZL.out]; rfl) (by rw [size31, HZL.out]) (adr_one _ _) ?_))
  intro w4 h4 t4 z4
  go_wp2_with fail
  exact ret_row_tmp rfl size31 Tryd.underlying28 rfl HZL.out rfl rfl h4 ⟨rfl, HT3.out.trans t4 (by simp)⟩
end Go.Proofs.YtecaakgpogabjaaDoor

/-
  The contract of the reference's parseGroup at hexadecimal digits.
-/
namespace Go.Proofs.YtecaakgpogabjaaDoor
open Go.RowKit
set_option linter.unusedVariables false
set_option linter.unusedSimpArgs false

def hexv (x : UInt8) : Option Int := if 48 ≤ x.toNat ∧ x.toNat ≤ 57 then some (x.toNat - 48) else if 97 ≤ x.toNat ∧ x.toNat ≤ 102 then some (x.toNat - 97 + 10) else none
def hexs (l : List UInt8) : Nat → Option Int
  | 0 => some 0
  | i + 1 => match hexs l i, l[i]? with
    | some n, some x => (hexv x).map fun v => 16 * n + v
    | _, _ => none
theorem hexs_bound (l : List UInt8) (i : Nat) (n : Int) (h : hexs l i = some n) : 0 ≤ n ∧ n < 16 ^ i := by
  induction i generalizing n with
  | zero =>
    simp [hexs] at h
    subst h
    simp
  | succ i ih =>
    simp only [hexs] at h
    split at h
    · rename_i m x hm hx
      have := ih m hm
      rw [Int.pow_succ]
      unfold hexv at h
      split at h
      · simp at h; omega
      · split at h
        · simp at h; omega
        · cases h
    · cases h
theorem hexs_none (l : List UInt8) (i : Nat) (h : hexs l i = none) : ∀ j, i ≤ j → hexs l j = none := by
  intro j hj
  induction j with
  | zero =>
    have : i = 0 := by omega
    subst this
    exact h
  | succ j ih =>
    by_cases e : i = j + 1
    · subst e; exact h
    · simp only [hexs, ih (by omega)]
theorem hex4 (i : Nat) (h : i ≤ 4) : (16 : Int) ^ i ≤ 65536 := by
  rcases (by omega : i = 0 ∨ i = 1 ∨ i = 2 ∨ i = 3 ∨ i = 4) with rfl | rfl | rfl | rfl | rfl <;> decide
set_option maxRecDepth 100000 in
set_option maxHeartbeats 1000000 in
theorem group_any (l : List UInt8) (r : Int) (hr : hexs l l.length = some r) (hne : l ≠ []) (h4 : l.length ≤ 4) (w : World) :
    Calls Tryd.prog 82 #[str l] w fun e w' => e = .returned (.int .i64 r) ∧ w = w' := by
  obtain ⟨s, hs⟩ : ∃ s : ByteArray, s = ⟨l.toArray⟩ := ⟨_, rfl⟩
  have hsz : s.size = l.length := by rw [hs]; exact str_size l
  have hse : s.toList.isEmpty = false := by
    rw [hs]
    cases l with
    | nil => exact absurd rfl hne
    | cons y l => simp
  rw [show str l = .string s by rw [hs]; rfl]
  have HX := Lib.hid (show Value.string s = str l by rw [hs]; rfl)
  have h4c : decide ((4 : Int) < (l.length : Int)) = false := by simp; omega
  have HR := Lib.hid hr
  clear hs hr
  go_enter Tryd.func82, Tryd.ntmps82
  go_wp2_with fail
  go_loopw [3, 4] (fun vn vi wr => wr = w ∧ ∃ (i : Nat) (n : Int), i ≤ l.length ∧ vi = .int .i64 i ∧ vn = .int .i64 n ∧ hexs l i = some n) (fun _ vi _ => l.length - (intOf vi).toNat)
  case atStart => exact ⟨rfl, 0, 0, by omega, rfl, rfl, rfl⟩
  case round =>
    obtain ⟨hwr, i, n, hi, rfl, rfl, hd⟩ := hrel
    subst hwr
    obtain ⟨hn0, hn1⟩ := hexs_bound l i n hd
    by_cases hlt : i < l.length
    · obtain ⟨x, hx⟩ : ∃ x, l[i]? = some x := ⟨_, List.getElem?_eq_getElem hlt⟩
      have hx255 : x.toNat < 256 := x.toNat_lt
      have hp4 := hex4 (i + 1) (by omega)
      have hstep : hexs l (i + 1) = (hexv x).map fun v => 16 * n + v := by simp only [hexs, hd, hx]
      have hp5 : (16 : Int) ^ (i + 1) = 16 ^ i * 16 := Int.pow_succ _ _
      have w1 : IntKind.i64.wrap (16 * n) = 16 * n := by rw [IntKind.wrap_i64] <;> omega
      by_cases hb : 48 ≤ x.toNat ∧ x.toNat ≤ 57
      · have HD := Lib.hid (show hexs l (i + 1) = some (16 * n + (x.toNat - 48)) by rw [hstep]; unfold hexv; rw [if_pos hb]; rfl)
        have b1 : decide ((48 : Int) ≤ (x.toNat : Int)) = true := by simp; omega
        have b2 : decide ((x.toNat : Int) ≤ 57) = true := by simp; omega
        have w2 : IntKind.u8.wrap ((x.toNat : Int) - 48) = (x.toNat : Int) - 48 := by simp [IntKind.wrap, IntKind.signed, IntKind.bits]; omega
        have w3 : IntKind.i64.wrap ((x.toNat : Int) - 48) = (x.toNat : Int) - 48 := by rw [IntKind.wrap_i64] <;> omega
        have w4 : IntKind.i64.wrap (16 * n + ((x.toNat : Int) - 48)) = 16 * n + ((x.toNat : Int) - 48) := by rw [IntKind.wrap_i64] <;> omega
        clear hd hstep hp4 hp5 hn1
        go_wp2_with ((with_reducible refine at_index 9 ?_); refine wpList_strix (by rfl) 9 _ _ rfl Tryd.underlying9 l i x HX.out rfl hx ?_)
        go_roundw
        case rel => exact ⟨by trivial, i + 1, _, by omega, by go_num, rfl, HD.out⟩
        case measure => simp [intOf]; omega
      · by_cases hc : 97 ≤ x.toNat ∧ x.toNat ≤ 102
        · have HD := Lib.hid (show hexs l (i + 1) = some (16 * n + (x.toNat - 97 + 10)) by rw [hstep]; unfold hexv; rw [if_neg hb, if_pos hc]; rfl)
          have b1 : decide ((48 : Int) ≤ (x.toNat : Int)) = true := by simp; omega
          have b2 : decide ((x.toNat : Int) ≤ 57) = false := by simp; omega
          have b3 : decide ((97 : Int) ≤ (x.toNat : Int)) = true := by simp; omega
          have b4 : decide ((x.toNat : Int) ≤ 102) = true := by simp; omega
          have w2 : IntKind.u8.wrap ((x.toNat : Int) - 97) = (x.toNat : Int) - 97 := by simp [IntKind.wrap, IntKind.signed, IntKind.bits]; omega
          have w3 : IntKind.i64.wrap ((x.toNat : Int) - 97) = (x.toNat : Int) - 97 := by rw [IntKind.wrap_i64] <;> omega
          have w4 : IntKind.i64.wrap (16 * n + ((x.toNat : Int) - 97)) = 16 * n + ((x.toNat : Int) - 97) := by rw [IntKind.wrap_i64] <;> omega
          have w5 : IntKind.i64.wrap (16 * n + ((x.toNat : Int) - 97) + 10) = 16 * n + ((x.toNat : Int) - 97) + 10 := by rw [IntKind.wrap_i64] <;> omega
          clear hd hstep hp4 hp5 hn1
          go_wp2_with ((with_reducible refine at_index 9 ?_); refine wpList_strix (by rfl) 9 _ _ rfl Tryd.underlying9 l i x HX.out rfl hx ?_)
          go_roundw
          case rel => exact ⟨by trivial, i + 1, _, by omega, by go_num, rfl, by rw [HD.out]; congr 1; omega⟩
          case measure => simp [intOf]; omega
        · exfalso
          have := hexs_none l (i + 1) (by rw [hstep]; unfold hexv; rw [if_neg hb, if_neg hc]; rfl) l.length (by omega)
          rw [HR.out] at this
          cases this
    · have he : i = l.length := by omega
      subst he
      have hrn : n = r := by
        have := HR.out
        rw [hd] at this
        simpa using this
      subst hrn
      clear hd
      go_wp2_with fail
      go_ret
      exact ⟨rfl, rfl⟩
end Go.Proofs.YtecaakgpogabjaaDoor

/-
  The contract of the reference's parseGroups at hexadecimal groups.
-/
namespace Go.Proofs.YtecaakgpogabjaaDoor
open Go.RowKit
set_option linter.unusedVariables false
set_option linter.unusedSimpArgs false

/-- A piece that is a group of value n. -/
def GoodP (p : List UInt8) (n : Int) : Prop := (splitP p 46).length ≠ 4 ∧ hexs p p.length = some n ∧ p ≠ [] ∧ p.length ≤ 4
/-- A text of groups. -/
def GoodG (l : List UInt8) (ns : List Int) : Prop := l.length ≤ 1000 ∧ ((l = [] ∧ ns = []) ∨ (l ≠ [] ∧ (splitP l 58).length = ns.length ∧ ns.length ≤ 1000 ∧ ∀ (i : Nat) (p : List UInt8) (n : Int), (splitP l 58)[i]? = some p → ns[i]? = some n → GoodP p n))
theorem infoU16 : (Tryd.prog.info? 75).map (fun i => (i.zero, i.size, i.bytes)) = some (some (.int .u16 0), 1, 2) := by kernel_rfl
/-- A slice of u16s of the call's own, made since w0. -/
structure OwnU (w0 w : World) (v : Value) (xs : List Int) : Prop where
  row : w.ownsRow 0 75 1 v xs.length (xs.map (Value.int .u16))
  new : ∀ g, v.ownBlock = some g → w0.heap.size ≤ g
theorem OwnU.nil (w0 w : World) : OwnU w0 w (.slice none 0 0) [] := ⟨World.ownsRow_nil _ _ _ _, by simp [Value.ownBlock]⟩
theorem OwnU.touch {S : List Nat} {w0 w w' : World} {v : Value} {xs : List Int} (h : OwnU w0 w v xs) (t : Touch S w w') (hn : ∀ g, v.ownBlock = some g → g ∉ S) : OwnU w0 w' v xs := ⟨t.owns h.row hn, h.new⟩
theorem OwnU.lt {w0 w : World} {v : Value} {xs : List Int} (h : OwnU w0 w v xs) : ∀ g, v.ownBlock = some g → g < w.heap.size := fun g hg => (h.row.lt g hg).2
theorem OwnU.older {w0 w1 w : World} {v : Value} {xs : List Int} (h : OwnU w1 w v xs) (hz : w0.heap.size ≤ w1.heap.size) : OwnU w0 w v xs := ⟨h.row, fun g hg => Nat.le_trans hz (h.new g hg)⟩
theorem OwnU.snoc {w0 w1 w2 : World} {v vo : Value} {xs : List Int} {x : Int} (h : OwnU w0 w1 v xs) (hz : w0.heap.size ≤ w1.heap.size) (hr : w2.ownsRow 0 75 1 vo (xs.length + 1) (xs.map (Value.int .u16) ++ [.int .u16 x])) (hv : vo.ownBlock = v.ownBlock ∨ vo.ownBlock = some (w1.heap.size + 1)) : OwnU w0 w2 vo (xs ++ [x]) := by
  refine ⟨by rw [List.map_append, List.length_append]; exact hr, ?_⟩
  intro g hg
  rcases hv with e | e
  · rw [e] at hg; exact h.new g hg
  · rw [e] at hg; simp at hg; omega
set_option maxRecDepth 100000 in
set_option maxHeartbeats 1000000 in
theorem groups_any (l : List UInt8) (last : Bool) (ns : List Int) (hG : GoodG l ns) (w : World) :
    Calls Tryd.prog 77 #[str l, .bool last] w fun e w' => ∃ v, e = .returned (.tuple #[v, .bool true]) ∧ OwnU w w' v ns ∧ Touch [] w w' := by
  obtain ⟨iU, hiU, hzU, hsU, hbU⟩ := info_parts infoU16
  obtain ⟨hl, hG⟩ := hG
  rcases hG with ⟨rfl, rfl⟩ | ⟨hne, hlen, hn1000, hgood⟩
  · rw [show str [] = .string ⟨#[]⟩ from rfl]
    go_enter Tryd.func77, Tryd.ntmps77
    go_wp2_with fail
    go_ret2
    exact ⟨_, rfl, OwnU.nil _ _, Touch.refl _ _⟩
  · obtain ⟨s, hs⟩ : ∃ s : ByteArray, s = ⟨l.toArray⟩ := ⟨_, rfl⟩
    have hse : s.toList.isEmpty = false := by
      rw [hs]
      cases l with
      | nil => exact absurd rfl hne
      | cons y l => simp
    have HSP := Lib.hid (split_any l 58 hl)
    rw [show str l = .string s by rw [hs]; rfl] at *
    clear hs
    go_enter Tryd.func77, Tryd.ntmps77
    go_wp2_with fail
    refine (HSP.out _).mono ?_
    rintro e w1 ⟨v, rfl, ho, t1⟩
    obtain ⟨a, cap, rfl, hlc, hcm, hat⟩ := ho.form
    have hnew := ho.new
    generalize splitP l 58 = ps at *
    rw [hlen] at hlc ⊢
    go_wp2_with fail
    go_loopw [6, 8] (fun vo vi wr => ∃ i : Nat, i ≤ ns.length ∧ vi = .int .i64 i ∧ OwnU w1 wr vo (ns.take i) ∧ Touch [] w1 wr) (fun _ vi _ => ns.length - (intOf vi).toNat)
    case atStart => exact ⟨0, by omega, rfl, OwnU.nil _ _, Touch.refl _ _⟩
    case round =>
      obtain ⟨i, hi, rfl, hown, ht⟩ := hrel
      by_cases hlt : i < ns.length
      · obtain ⟨n, hn⟩ : ∃ n, ns[i]? = some n := ⟨_, List.getElem?_eq_getElem hlt⟩
        obtain ⟨p, hp⟩ : ∃ p, ps[i]? = some p := ⟨_, List.getElem?_eq_getElem (by omega)⟩
        obtain ⟨hp4, hph, hpne, hpl⟩ := hgood i p n hp hn
        obtain ⟨g, rfl, hc⟩ := hat i p hp
        have hc1 := ht.cell hc (by simp)
        have HB := hexs_bound p p.length n hph
        have hx4 := hex4 p.length hpl
        have HIP := Lib.hid (ip4_bad p (by omega) hp4)
        have HGR := Lib.hid (group_any p n hph hpne hpl)
        have htk : ns.take (i + 1) = ns.take i ++ [n] := by rw [List.take_add_one, hn]; rfl
        have hc2 : n < 65536 := by omega
        have hn0 : 0 ≤ n := HB.1
        have hwu : IntKind.u16.wrap n = n := by simp [IntKind.wrap, IntKind.signed, IntKind.bits]; omega
        have hgn : w.heap.size ≤ g := hnew g rfl
        have hlti : (ns.take i).length = i := by simp; omega
        clear hp4 hph hpne hpl HB hx4 hat hgood hnew hc
        go_wp2_with fail
        refine (HIP.out _).mono ?_
        rintro e w2 ⟨rfl, t2⟩
        have HT2 := Lib.hid (ht.trans t2 (by simp))
        have HC2 := Lib.hid (t2.cell hc1 (by simp))
        have hown2 := hown.touch t2 (by simp)
        have HN2 := Lib.hid (heap_alloc_new w2 (.cells (adr false (List.replicate 16 0)).toArray 28))
        have HA2 := Lib.hid ((Touch.refl [] w2).alloc (.cells (adr false (List.replicate 16 0)).toArray 28))
        clear t2 hc1 hown HIP
        go_wp2_with ((with_reducible refine at_store 28 ?_); refine wpList_store_into rfl 28 _ _ rfl w2.heap.size 28 _ (adr false (List.replicate 16 0)) rfl rfl HN2.out rfl size31 (adr_one _ _) ?_)
        intro w3 h3 t3 z3
        have HT23 := Lib.hid ((HA2.out.trans t3 (by intro y hy; right; simp at hy; omega)))
        have HT3 := Lib.hid (HT2.out.trans HT23.out (by simp))
        have hc3 := HT23.out.cell HC2.out (by simp)
        have hown3 := hown2.touch HT23.out (by simp)
        have hrow3 := hown3.row
        rw [hlti] at hrow3
        clear h3 t3 z3 hown2 HN2 HA2 HT2 HC2
        go_wp2_with fail
        refine (HGR.out _).mono ?_
        rintro e w4 ⟨rfl, rfl⟩
        go_wp2_with (at_builtin; refine wpList_app1 _ (by rfl) _ _ 88 (by rfl) 75 iU _ 2 Tryd.underlying88 hiU hzU hsU hbU rfl _ i _ (by rfl) hrow3 (.int .u16 n) 75 (by rfl) rfl (by unfold maxLen; omega) (by omega) ?_)
        intro vo w5 ho5 t5 hv5
        have hown5 : OwnU w1 w5 vo (ns.take (i + 1)) := by
          rw [htk]
          exact hown3.snoc HT3.out.size (by rw [hlti, List.map_take]; exact ho5) hv5
        have HT5 := Lib.hid (HT3.out.trans t5 (fun y hy => .inr (hown3.new y (by simpa using hy))))
        clear hv5 ho5 t5 hrow3
        go_wp2_with fail
        go_roundw
        case rel => exact ⟨i + 1, by omega, by go_num, hown5, HT5.out⟩
        case measure => simp [intOf]; omega
      · have he : i = ns.length := by omega
        subst he
        rw [List.take_length] at hown
        go_wp2_with fail
        go_ret2
        exact ⟨_, rfl, hown.older t1.size, t1.trans ht (by simp)⟩
end Go.Proofs.YtecaakgpogabjaaDoor

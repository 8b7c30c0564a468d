/-
  Merged texts: Eq, Arg, Gd, Str, Sp, Pd, Ky, LayP, Ip, Tc.
-/
import Derived.Test.YtecaakgpogabjaaDoorKB1
import Derived.DeepKeys4
import Derived.Lib.Hide
import Derived.Laws.Strings2
import Derived.Lib.Strings
import Derived.Maps.Keyed
import Derived.Shelf.Lays
import Derived.Test.YtecaakgpogabjaaDoorProg
import Derived.Shelf.Strings.Trim
import Derived.Laws.BytesArg
import Derived.StillTail
import Derived.StillTailTactics

/-
  The contract of Equal at slices of addresses: true at equal lists; and the laws' helpers' walks begin here.
-/
namespace Go.Proofs.YtecaakgpogabjaaDoor
open Go.RowKit Go.Deep
set_option linter.unusedVariables false
set_option linter.unusedSimpArgs false

theorem two8 {α : Type} (xs : List α) (h : xs.length = 16) : ∃ a b c d e f g i j k l m n o p q, xs = [a, b, c, d, e, f, g, i, j, k, l, m, n, o, p, q] := by
  match xs, h with
  | [a, b, c, d, e, f, g, i, j, k, l, m, n, o, p, q], _ => exact ⟨_, _, _, _, _, _, _, _, _, _, _, _, _, _, _, _, rfl⟩

set_option maxRecDepth 100000 in
theorem eq_self (x : List Value) (h : IsAd x) (w : World) : (Op.equalIn 10000 28 (.agg x.toArray) (.agg x.toArray)).run Tryd.prog w = .ok true w := by
  obtain ⟨b, xs, rfl, hl, hr⟩ := h
  obtain ⟨x0, x1, x2, x3, x4, x5, x6, x7, x8, x9, x10, x11, x12, x13, x14, x15, rfl⟩ := two8 xs hl
  have hwf : ∀ x : Int, 0 ≤ x ∧ x ≤ 255 → (Lit.int .u8 x).wf = true := by
    intro x hx
    simp [Lit.wf, IntKind.min, IntKind.max, IntKind.signed, IntKind.bits]
    omega
  have hk1 : ∀ x ∈ [x0, x1, x2, x3, x4, x5, x6, x7, x8, x9, x10, x11, x12, x13, x14, x15], ∀ d, Tryd.prog.keyLits (d + 1) 5 [.int .u8 x] = some [.int .u8 x] := by
    intro x hx d
    simp [Program.keyLits, Tryd.underlying5, hwf x (hr x hx)]
  simp only [List.mem_cons, List.not_mem_nil, or_false, forall_eq_or_imp, forall_eq] at hk1
  obtain ⟨k0, k1, k2, k3, k4, k5, k6, k7, k8, k9, k10, k11, k12, k13, k14, k15⟩ := hk1
  have c5 : Tryd.prog.cellsOf 5 = 1 := by kernel_rfl
  have c4 : Tryd.prog.cellsOf 4 = 1 := by kernel_rfl
  have c29 : Tryd.prog.cellsOf 26 = 16 := by kernel_rfl
  have c31 : Tryd.prog.cellsOf 28 = 17 := by kernel_rfl
  have hk2 : ∃ l, Tryd.prog.keyLits 4 26 ([x0, x1, x2, x3, x4, x5, x6, x7, x8, x9, x10, x11, x12, x13, x14, x15].map (Value.int .u8)) = some l := by
    unfold Program.keyLits
    simp [Tryd.underlying26, c5, c29, List.range, List.range.loop, k0, k1, k2, k3, k4, k5, k6, k7, k8, k9, k10, k11, k12, k13, k14, k15]
  obtain ⟨l2, hk2⟩ := hk2
  have hk3 : Tryd.prog.keyLits 4 4 [.bool b] = some [.bool b] := by
    simp [Program.keyLits, Tryd.underlying4]
  have hk : ∃ l, Tryd.prog.keyLits 5 28 (adr b [x0, x1, x2, x3, x4, x5, x6, x7, x8, x9, x10, x11, x12, x13, x14, x15]) = some l := by
    simp only [List.map_cons, List.map_nil] at hk2
    unfold Program.keyLits
    simp [Tryd.underlying28, adr, c4, c29, c31, hk2, hk3]
  obtain ⟨l, hk⟩ := hk
  obtain ⟨r, hrun, hi⟩ := run_equalIn_deep 9995 5 28 (by kernel_rfl) w 5 5 (.agg (adr b [x0, x1, x2, x3, x4, x5, x6, x7, x8, x9, x10, x11, x12, x13, x14, x15]).toArray) (.agg (adr b [x0, x1, x2, x3, x4, x5, x6, x7, x8, x9, x10, x11, x12, x13, x14, x15]).toArray) l l (by rfl) (by rfl) hk hk
  rw [hi.2 rfl] at hrun
  exact hrun

set_option maxRecDepth 100000 in
set_option maxHeartbeats 1000000 in
theorem eq21 (x : List Value) (w : World) (h : IsAd x) : Calls Tryd.prog 23 #[.agg x.toArray, .agg x.toArray] w fun e w' => e = .returned (.bool true) ∧ Touch [] w w' := by
  have hlen := h.len
  have HL := Lib.hid hlen
  clear hlen
  have h1 := World.rangeAt_alloc (range_new w x 28) (.cells x.toArray 28)
  have h2 := range_block (heap_alloc2_new w (.cells x.toArray 28) (.cells x.toArray 28))
  go_enter Tryd.func23, Tryd.ntmps23
  go_wp2_with (first
    | (refine wpList_load_mid rfl 28 _ rfl w.heap.size 0 rfl x _ h1 Tryd.underlying28 rfl (by rw [size31, HL.out]) ?_)
    | (refine wpList_load_mid rfl 28 _ rfl (w.heap.size + 1) 0 rfl x _ h2 Tryd.underlying28 rfl (by rw [size31, HL.out]) ?_)
    | (refine wpList_eql_agg rfl 28 _ _ _ rfl x.toArray x.toArray rfl rfl (by kernel_rfl) true (eq_self x h _) ?_))
  go_ret
  exact ⟨rfl, ((Touch.refl [] w).alloc _).alloc _⟩

set_option maxRecDepth 100000 in
set_option maxHeartbeats 1000000 in
theorem equal_self (v1 v2 : Value) (b1 b2 : Nat) (xs : List (List Value)) (w : World) (hl : xs.length ≤ 1000) (h1 : Rd w 17 b1 v1 xs) (h2 : Rd w 17 b2 v2 xs) (hxs : ∀ x ∈ xs, IsAd x) :
    Calls Tryd.prog 9 #[v1, v2] w fun e w' => e = .returned (.bool true) ∧ Touch [] w w' := by
  obtain ⟨a1, c1, rfl, hc1, hm1⟩ := h1.form
  obtain ⟨a2, c2, rfl, hc2, hm2⟩ := h2.form
  go_enter Tryd.func9, Tryd.ntmps9
  go_wp2_with fail
  go_enter Tryd.func22, Tryd.ntmps22
  go_wp2_with fail
  go_loopw [7] (fun vi wr => ∃ (i : Nat), i ≤ xs.length ∧ vi = .int .i64 i ∧ Touch [] w wr) (fun vi _ => xs.length - (intOf vi).toNat)
  case atStart => exact ⟨0, by omega, rfl, Touch.refl _ _⟩
  case round =>
    obtain ⟨i, hix, rfl, ht⟩ := hrel
    by_cases hlt : i < xs.length
    · obtain ⟨o1, rfl, hat1⟩ := h1.at (by intro e; subst e; simp at hlt)
      obtain ⟨o2, rfl, hat2⟩ := h2.at (by intro e; subst e; simp at hlt)
      have hx : xs[i]? = some xs[i] := List.getElem?_eq_getElem hlt
      have hadx := hxs _ (List.getElem_mem hlt)
      generalize xs[i] = x at hx hadx
      have hr1 := ht.range (hat1 i x hx) (by simp)
      have hr2 := ht.range (hat2 i x hx) (by simp)
      clear hat1 hat2 hx
      go_wp2_with fail
      refine wp_region_still_tail 9 (by kernel_rfl) (by kernel_rfl) ?_
      simp only [List.take_succ_cons, List.take_zero, List.drop_succ_cons, List.drop_zero]
      iterate 4 still_step
      refine wpStill_load_mid rfl 28 _ rfl b1 (o1 + i * 17) rfl x _ hr1 Tryd.underlying28 rfl (by rw [size31, hadx.len]) ?_
      iterate 3 still_step
      refine wpStill_load_mid rfl 28 _ rfl b2 (o2 + i * 17) rfl x _ hr2 Tryd.underlying28 rfl (by rw [size31, hadx.len]) ?_
      refine wpStill_nil ?_
      change wpList _ _ _ _ _ wr.drew
      go_wp2_with fail
      refine (eq21 x _ hadx).mono ?_
      rintro e w2 ⟨rfl, t2⟩
      have ht2 : Touch [] w w2 := ht.drew.trans t2 (by simp)
      go_wp2_with fail
      go_roundw
      case rel => exact ⟨i + 1, by omega, by go_num, ht2⟩
      case measure => simp [intOf]; omega
    · go_wp2_with fail
      go_ret
      exact ⟨rfl, ht⟩
end Go.Proofs.YtecaakgpogabjaaDoor

/-
  A slice that came in, told as a list of its elements' cells. Plain lemmas over any program.
-/
namespace Go.Proofs.YtecaakgpogabjaaDoor
open Go.ChangeShapes Go.WideShapes Go.Deep
set_option linter.unusedVariables false
set_option linter.unusedSimpArgs false

theorem slice_rows {H : Type} {enc : TypeId × Value → H} {P : Program} {w : World} {base : Nat} {spare : Nat → Bool} {held : Bool} {ts : List TypeId} {v : Value} (hpos : 0 < ts.length) (hv : IsSlice enc P w base spare held ts v) :
    ∃ b xs, Rd w ts.length b v xs ∧ ∀ x ∈ xs, CellsOk enc P w base spare held ts x := by
  rcases hv with rfl | ⟨a, len, cap, rfl, hl, hm, hc⟩
  · exact ⟨0, [], ⟨none, 0, rfl, Nat.le_refl _, by simp [maxLen], fun _ => rfl, fun h => absurd rfl h⟩, by simp⟩
  · obtain ⟨b, off, spot⟩ := a
    let el : Nat → List Value := fun i => (List.range ts.length).map fun j => (w.cell? ((⟨b, off, spot⟩ : Addr).add (i * ts.length + j))).getD undef
    have hel : ∀ i j, j < ts.length → (el i)[j]? = some ((w.cell? ((⟨b, off, spot⟩ : Addr).add (i * ts.length + j))).getD undef) := by
      intro i j hj
      simp [el, hj]
    refine ⟨b, (List.range len).map el, ⟨some ⟨b, off, spot⟩, cap, by simp, by simpa using hl, hm, (by intro h; cases h), fun hne => ?_⟩, ?_⟩
    · have h0 : 0 < len := by
        rcases Nat.eq_zero_or_pos len with h | h
        · subst h; simp at hne
        · exact h
      obtain ⟨u, hu, _⟩ := hc 0 0 (ts[0]) h0 (by simp)
      have hs : spot = none := by simpa [Addr.add] using World.cell?_spot hu
      subst hs
      refine ⟨off, rfl, fun i x hx => ?_⟩
      intro j u hj
      have hi : i < len := by
        have := (List.getElem?_eq_some_iff.1 hx).1
        simpa using this
      obtain rfl : el i = x := by simpa [hi] using hx
      have hjl : j < ts.length := by
        have := (List.getElem?_eq_some_iff.1 hj).1
        simpa [el] using this
      rw [hel i j hjl] at hj
      obtain ⟨u', hu', _⟩ := hc i j (ts[j]) hi (by simp [hjl])
      rw [hu'] at hj
      simp at hj
      subst hj
      rw [Addr.add_lit] at hu'
      rw [Nat.add_assoc]
      exact hu'
    · intro x hx
      obtain ⟨i, hi, rfl⟩ := List.mem_map.1 hx
      have hi' : i < len := by simpa using hi
      refine ⟨by simp [el], fun j t ht => ?_⟩
      obtain ⟨u, hu, hleaf⟩ := hc i j t hi' ht
      have hjl : j < ts.length := (List.getElem?_eq_some_iff.1 ht).1
      exact ⟨u, by rw [hel i j hjl, hu]; rfl, hleaf⟩
end Go.Proofs.YtecaakgpogabjaaDoor

/-
  Struct operations under a guard that is met. Plain lemmas over any program.
-/
namespace Go.Proofs.YtecaakgpogabjaaDoor
open Go.RowKit
set_option linter.unusedVariables false
set_option linter.unusedSimpArgs false

/-! Guards for the arms of a walk: 'with_reducible refine at_load 28 ?_' fails at once where the next operation is another. -/
section
variable {P : Program} {ops : Array Oper} {rest : List Oper} {a : Act} {w : World} {Q : Exit → Act → World → Prop} {d : Option Tmp} {x y : Operand} {t : TypeId} {p : String} {af : Array Edge}
theorem at_load (ty : TypeId) (h : wpList P ops Q ({ dst := d, op := .load ty x, type := t, pos := p, after := af, guard := none } :: rest) a w) : wpList P ops Q ({ dst := d, op := .load ty x, type := t, pos := p, after := af, guard := none } :: rest) a w := h
theorem at_load_g (ty : TypeId) (k : Nat) (s : Bool) (h : wpList P ops Q ({ dst := d, op := .load ty x, type := t, pos := p, after := af, guard := some (k, s) } :: rest) a w) : wpList P ops Q ({ dst := d, op := .load ty x, type := t, pos := p, after := af, guard := some (k, s) } :: rest) a w := h
theorem at_store (ty : TypeId) {g : Option (Nat × Bool)} (h : wpList P ops Q ({ dst := d, op := .store ty x y, type := t, pos := p, after := af, guard := g } :: rest) a w) : wpList P ops Q ({ dst := d, op := .store ty x y, type := t, pos := p, after := af, guard := g } :: rest) a w := h
theorem at_bin (b : BinOp) (ty : TypeId) {ty2 : TypeId} {g : Option (Nat × Bool)} (h : wpList P ops Q ({ dst := d, op := .binOp b ty x y ty2, type := t, pos := p, after := af, guard := g } :: rest) a w) : wpList P ops Q ({ dst := d, op := .binOp b ty x y ty2, type := t, pos := p, after := af, guard := g } :: rest) a w := h
theorem at_build (ty : TypeId) {ps : Array (Nat × Operand)} {g : Option (Nat × Bool)} (h : wpList P ops Q ({ dst := d, op := .build ty ps, type := t, pos := p, after := af, guard := g } :: rest) a w) : wpList P ops Q ({ dst := d, op := .build ty ps, type := t, pos := p, after := af, guard := g } :: rest) a w := h
theorem at_callb (b : Builtin) {ars : Array Operand} {ts : Array TypeId} {g : Option (Nat × Bool)} (h : wpList P ops Q ({ dst := d, op := .call { callee := .builtin b, args := ars, argTypes := ts }, type := t, pos := p, after := af, guard := g } :: rest) a w) : wpList P ops Q ({ dst := d, op := .call { callee := .builtin b, args := ars, argTypes := ts }, type := t, pos := p, after := af, guard := g } :: rest) a w := h
end
theorem wpList_want {P : Program} {ops : Array Oper} {rest : List Oper} {o : Oper} {a : Act} {w : World} {Q : Exit → Act → World → Prop} (hw : Region.wanted o (yielded ops a.tmps) = true)
    (h : ∀ K : Act → World → Prop, (∀ a w, wpList P ops Q rest a w → K a w) → o.wp P a w K Q) : wpList P ops Q (o :: rest) a w :=
  wpList_step fun K hK => by rw [if_pos hw]; exact h K hK
theorem wpList_load_g {P : Program} {ops : Array Oper} {rest : List Oper} {op : Oper} {a : Act} {w : World} {Q : Exit → Act → World → Prop} (hw : Region.wanted op (yielded ops a.tmps) = true) (ty : TypeId) (x : Operand) (ho : op.op = .load ty x)
    (b o : Nat) (hx : a.eval x = .pointer (some ⟨b, o, none⟩)) (cs : List Value) (d : TypeDesc) (hc : w.rangeAt b o cs)
    (hu : P.underlying ty = some d) (hd : d.isRow = true) (hi : (P.info? ty).map (·.size) = some cs.length)
    (h : wpList P ops Q rest (a.put op.dst (.agg cs.toArray)) w) : wpList P ops Q (op :: rest) a w :=
  wpList_want hw fun _ hK => wp_load_mid ty x ho b o hx cs d hc hu hd hi (hK _ _ h)
theorem wpList_load_gg {P : Program} {ops : Array Oper} {rest : List Oper} {op : Oper} {a : Act} {w : World} {Q : Exit → Act → World → Prop} (k : Nat) (s : Bool) (hgd : op.guard = some (k, s)) (hw : Region.wanted op (yielded ops a.tmps) = true) (ty : TypeId) (x : Operand) (ho : op.op = .load ty x)
    (b o : Nat) (hx : a.eval x = .pointer (some ⟨b, o, none⟩)) (cs : List Value) (d : TypeDesc) (hc : w.rangeAt b o cs)
    (hu : P.underlying ty = some d) (hd : d.isRow = true) (hi : (P.info? ty).map (·.size) = some cs.length)
    (h : wpList P ops Q rest (a.put op.dst (.agg cs.toArray)) w) : wpList P ops Q (op :: rest) a w :=
  wpList_want hw fun _ hK => wp_load_mid ty x ho b o hx cs d hc hu hd hi (hK _ _ h)
theorem wpList_eql_g {P : Program} {ops : Array Oper} {rest : List Oper} {op : Oper} {a : Act} {w : World} {Q : Exit → Act → World → Prop} (hw : Region.wanted op (yielded ops a.tmps) = true) (t t' : TypeId) (x y : Operand) (ho : op.op = .binOp .eql t x y t')
    (xs ys : Array Value) (hx : a.eval x = .agg xs) (hy : a.eval y = .agg ys) (hm : P.eqGuardType P.depth t = false) (r : Bool) (hr : (Op.equalIn 10000 t (.agg xs) (.agg ys)).run P w = .ok r w)
    (h : wpList P ops Q rest (a.put op.dst (.bool r)) w) : wpList P ops Q (op :: rest) a w := by
  refine wpList_want hw fun K hK => ?_
  have hb : (binOp .eql t (.agg xs) (.agg ys)).run P w = .ok (.bool r) w := by rw [run_eql_struct, hr]; rfl
  have := hK _ _ h
  unfold Oper.wp execOp
  simp only [ho, hx, hy, Sem.run_bind, run_eqGuard_agg w _ _ _ _ _ _ hm, Result.andThen_ok, hb, Sem.run_pure]
  exact this
theorem wpList_neq_g {P : Program} {ops : Array Oper} {rest : List Oper} {op : Oper} {a : Act} {w : World} {Q : Exit → Act → World → Prop} (hw : Region.wanted op (yielded ops a.tmps) = true) (t t' : TypeId) (x y : Operand) (ho : op.op = .binOp .neq t x y t')
    (xs ys : Array Value) (hx : a.eval x = .agg xs) (hy : a.eval y = .agg ys) (hm : P.eqGuardType P.depth t = false) (r : Bool) (hr : (Op.equalIn 10000 t (.agg xs) (.agg ys)).run P w = .ok r w)
    (h : wpList P ops Q rest (a.put op.dst (.bool (!r))) w) : wpList P ops Q (op :: rest) a w := by
  refine wpList_want hw fun K hK => ?_
  have hb : (binOp .neq t (.agg xs) (.agg ys)).run P w = .ok (.bool (!r)) w := by rw [run_neq_struct, hr]; rfl
  have := hK _ _ h
  unfold Oper.wp execOp
  simp only [ho, hx, hy, Sem.run_bind, run_eqGuard_agg w _ _ _ _ _ _ hm, Result.andThen_ok, hb, Sem.run_pure]
  exact this
end Go.Proofs.YtecaakgpogabjaaDoor

/-
  Strings as lists of bytes: index, cut, length. Plain lemmas over any program.
-/
namespace Go.Proofs.YtecaakgpogabjaaDoor
open Go.RowKit
set_option linter.unusedVariables false
set_option linter.unusedSimpArgs false

/-- A string out of its bytes. -/
def str (l : List UInt8) : Value := .string ⟨l.toArray⟩
section
variable {P : Program} {ops : Array Oper} {rest : List Oper} {a : Act} {w : World} {Q : Exit → Act → World → Prop} {d : Option Tmp} {x y : Operand} {t : TypeId} {p : String} {af : Array Edge}
theorem at_index (ty : TypeId) {g : Option (Nat × Bool)} (h : wpList P ops Q ({ dst := d, op := .index ty x y, type := t, pos := p, after := af, guard := g } :: rest) a w) : wpList P ops Q ({ dst := d, op := .index ty x y, type := t, pos := p, after := af, guard := g } :: rest) a w := h
theorem at_slice (ty : TypeId) {lo hi mx : Option Operand} {g : Option (Nat × Bool)} (h : wpList P ops Q ({ dst := d, op := .slice ty x lo hi mx, type := t, pos := p, after := af, guard := g } :: rest) a w) : wpList P ops Q ({ dst := d, op := .slice ty x lo hi mx, type := t, pos := p, after := af, guard := g } :: rest) a w := h
end
theorem run_strix {P : Program} (w : World) (t : TypeId) (ht : P.underlying t = some .string) (l : List UInt8) (k : Nat) (b : UInt8) (hb : l[k]? = some b) : (Instr.index t (str l) (.int .i64 k)).run P w = .ok (.int .u8 b.toNat) w := by
  have hk := (List.getElem?_eq_some_iff.1 hb).1
  have hs : (ByteArray.mk l.toArray).size = l.length := by simp [ByteArray.size]
  unfold str
  rw [run_index_string w t _ _ _ ht, dif_pos ⟨by omega, by rw [hs]; omega⟩]
  have : (ByteArray.mk l.toArray)[((k : Int)).toNat]'(by rw [hs]; omega) = b := by
    have h2 := (List.getElem?_eq_some_iff.1 hb).2
    rw [← h2]
    rfl
  rw [this]
theorem wpList_strix {P : Program} {ops : Array Oper} {rest : List Oper} {o : Oper} {a : Act} {w : World} {Q : Exit → Act → World → Prop} (hw : Region.wanted o (yielded ops a.tmps) = true) (t : TypeId) (x y : Operand) (ho : o.op = .index t x y) (ht : P.underlying t = some .string)
    (l : List UInt8) (k : Nat) (b : UInt8) (hx : a.eval x = str l) (hy : a.eval y = .int .i64 k) (hb : l[k]? = some b)
    (h : wpList P ops Q rest (a.put o.dst (.int .u8 b.toNat)) w) : wpList P ops Q (o :: rest) a w := by
  refine wpList_want hw fun K hK => ?_
  have := hK _ _ h
  unfold Oper.wp execOp
  simp only [ho, hx, hy, Sem.run_bind, Sem.run_pure, Result.andThen_ok, run_strix w t ht l k b hb]
  exact this
theorem extract_str (l : List UInt8) (i j : Nat) : Value.string ((ByteArray.mk l.toArray).extract i j) = str ((l.drop i).take (j - i)) := by
  rw [ByteArray.extract_mk]
  rfl
theorem str_size (l : List UInt8) : (ByteArray.mk l.toArray).size = l.length := by simp [ByteArray.size]
theorem run_strcut {P : Program} (w : World) (t : TypeId) (ht : P.underlying t = some .string) (l : List UInt8) (i j : Nat) (hij : i ≤ j) (hj : j ≤ l.length) :
    (Instr.slice t (str l) (some (.int .i64 i)) (some (.int .i64 j)) none).run P w = .ok (str ((l.drop i).take (j - i))) w := by
  unfold str
  rw [run_slice_string w t _ _ _ _ _ ht (by omega) (by omega) (by rw [str_size]; omega)]
  have := extract_str l i j
  unfold str at this
  simp only [Int.toNat_natCast]
  rw [this]
theorem run_strfrom {P : Program} (w : World) (t : TypeId) (ht : P.underlying t = some .string) (l : List UInt8) (i : Nat) (hi : i ≤ l.length) :
    (Instr.slice t (str l) (some (.int .i64 i)) none none).run P w = .ok (str (l.drop i)) w := by
  have h1 := extract_str l i l.length
  have h2 : (l.drop i).take (l.length - i) = l.drop i := List.take_of_length_le (by simp)
  have h3 : (0 : Int) ≤ i ∧ (i : Int) ≤ ((ByteArray.mk l.toArray).size : Int) := ⟨by omega, by rw [str_size]; omega⟩
  unfold str at *
  simp [Instr.slice, Instr.sliceBounds, Instr.sliceBound, asIntOf, run_underlying ht]
  rw [if_pos (by rw [str_size]; exact hi)]
  simp [str_size]
  have h4 := h1
  simp only [Value.string.injEq] at h4
  rw [h4, h2]
theorem run_strto {P : Program} (w : World) (t : TypeId) (ht : P.underlying t = some .string) (l : List UInt8) (j : Nat) (hj : j ≤ l.length) :
    (Instr.slice t (str l) none (some (.int .i64 j)) none).run P w = .ok (str (l.take j)) w := by
  have h1 := extract_str l 0 j
  unfold str at *
  simp [Instr.slice, Instr.sliceBounds, Instr.sliceBound, asIntOf, run_underlying ht]
  rw [if_pos (by rw [str_size]; exact hj)]
  simp only [Value.string.injEq] at h1
  simp [h1]
theorem wpList_strcut {P : Program} {ops : Array Oper} {rest : List Oper} {o : Oper} {a : Act} {w : World} {Q : Exit → Act → World → Prop} (hw : Region.wanted o (yielded ops a.tmps) = true) (t : TypeId) (x y z : Operand) (ho : o.op = .slice t x (some y) (some z) none) (ht : P.underlying t = some .string)
    (l : List UInt8) (i j : Nat) (hx : a.eval x = str l) (hy : a.eval y = .int .i64 i) (hz : a.eval z = .int .i64 j) (hij : i ≤ j) (hj : j ≤ l.length)
    (h : wpList P ops Q rest (a.put o.dst (str ((l.drop i).take (j - i)))) w) : wpList P ops Q (o :: rest) a w := by
  refine wpList_want hw fun K hK => ?_
  have := hK _ _ h
  unfold Oper.wp execOp
  simp only [ho, hx, hy, hz, Option.map_some, Option.map_none, Sem.run_bind, Sem.run_pure, Result.andThen_ok, run_sliceAt_string _ t _ _ _ _ ht, run_strcut w t ht l i j hij hj]
  exact this
theorem wpList_strfrom {P : Program} {ops : Array Oper} {rest : List Oper} {o : Oper} {a : Act} {w : World} {Q : Exit → Act → World → Prop} (hw : Region.wanted o (yielded ops a.tmps) = true) (t : TypeId) (x y : Operand) (ho : o.op = .slice t x (some y) none none) (ht : P.underlying t = some .string)
    (l : List UInt8) (i : Nat) (hx : a.eval x = str l) (hy : a.eval y = .int .i64 i) (hi : i ≤ l.length)
    (h : wpList P ops Q rest (a.put o.dst (str (l.drop i))) w) : wpList P ops Q (o :: rest) a w := by
  refine wpList_want hw fun K hK => ?_
  have := hK _ _ h
  unfold Oper.wp execOp
  simp only [ho, hx, hy, Option.map_some, Option.map_none, Sem.run_bind, Sem.run_pure, Result.andThen_ok, run_sliceAt_string _ t _ _ _ _ ht, run_strfrom w t ht l i hi]
  exact this
theorem wpList_strto {P : Program} {ops : Array Oper} {rest : List Oper} {o : Oper} {a : Act} {w : World} {Q : Exit → Act → World → Prop} (hw : Region.wanted o (yielded ops a.tmps) = true) (t : TypeId) (x z : Operand) (ho : o.op = .slice t x none (some z) none) (ht : P.underlying t = some .string)
    (l : List UInt8) (j : Nat) (hx : a.eval x = str l) (hz : a.eval z = .int .i64 j) (hj : j ≤ l.length)
    (h : wpList P ops Q rest (a.put o.dst (str (l.take j))) w) : wpList P ops Q (o :: rest) a w := by
  refine wpList_want hw fun K hK => ?_
  have := hK _ _ h
  unfold Oper.wp execOp
  simp only [ho, hx, hz, Option.map_some, Option.map_none, Sem.run_bind, Sem.run_pure, Result.andThen_ok, run_sliceAt_string _ t _ _ _ _ ht, run_strto w t ht l j hj]
  exact this
theorem str_one (l : List UInt8) : (str l).oneCell' = true := rfl
end Go.Proofs.YtecaakgpogabjaaDoor

/-
  The contracts of the reference's Split and ParseDecimal.
-/
namespace Go.Proofs.YtecaakgpogabjaaDoor
open Go.RowKit
set_option linter.unusedVariables false
set_option linter.unusedSimpArgs false

/-- What Split has after i bytes: the pieces, and where the next one begins. -/
def segs (l : List UInt8) (c : UInt8) : Nat → List (List UInt8) × Nat
  | 0 => ([], 0)
  | i + 1 => let p := segs l c i; if l[i]? = some c then (p.1 ++ [(l.drop p.2).take (i - p.2)], i + 1) else p
def splitP (l : List UInt8) (c : UInt8) : List (List UInt8) := let p := segs l c l.length; p.1 ++ [l.drop p.2]
theorem segs_le (l : List UInt8) (c : UInt8) (i : Nat) : (segs l c i).2 ≤ i ∧ (segs l c i).1.length ≤ i := by
  induction i with
  | zero => simp [segs]
  | succ i ih =>
    simp only [segs]
    split
    · simp; omega
    · omega
theorem u8_inj (a b : UInt8) : ((a.toNat : Int) = (b.toNat : Int)) ↔ a = b := by
  constructor
  · intro h
    exact UInt8.toNat_inj.1 (by omega)
  · rintro rfl; rfl
theorem infoS : (Tryd.prog.info? 9).map (fun i => (i.zero, i.size, i.bytes)) = some (some (.string ⟨#[]⟩), 1, 16) := by kernel_rfl
/-- A slice of strings of the call's own, made since w0. -/
structure OwnS (w0 w : World) (v : Value) (xs : List (List UInt8)) : Prop where
  row : w.ownsRow 0 9 1 v xs.length (xs.map str)
  new : ∀ g, v.ownBlock = some g → w0.heap.size ≤ g
theorem OwnS.nil (w0 w : World) : OwnS w0 w (.slice none 0 0) [] := ⟨World.ownsRow_nil _ _ _ _, by simp [Value.ownBlock]⟩
theorem OwnS.touch {S : List Nat} {w0 w w' : World} {v : Value} {xs : List (List UInt8)} (h : OwnS w0 w v xs) (t : Touch S w w') (hn : ∀ g, v.ownBlock = some g → g ∉ S) : OwnS w0 w' v xs := ⟨t.owns h.row hn, h.new⟩
theorem OwnS.lt {w0 w : World} {v : Value} {xs : List (List UInt8)} (h : OwnS w0 w v xs) : ∀ g, v.ownBlock = some g → g < w.heap.size := fun g hg => (h.row.lt g hg).2
theorem OwnS.older {w0 w1 w : World} {v : Value} {xs : List (List UInt8)} (h : OwnS w1 w v xs) (hz : w0.heap.size ≤ w1.heap.size) : OwnS w0 w v xs := ⟨h.row, fun g hg => Nat.le_trans hz (h.new g hg)⟩
set_option maxRecDepth 100000 in
set_option maxHeartbeats 1000000 in
theorem split_any (l : List UInt8) (c : UInt8) (hl : l.length ≤ 1000) (w : World) :
    Calls Tryd.prog 66 #[str l, .int .u8 c.toNat] w fun e w' => ∃ v, e = .returned v ∧ OwnS w w' v (splitP l c) ∧ Touch [] w w' := by
  obtain ⟨iS, hiS, hzS, hsS, hbS⟩ := info_parts infoS
  obtain ⟨C, hC⟩ : ∃ C : Int, C = c.toNat := ⟨_, rfl⟩
  rw [← hC]
  obtain ⟨s, hs⟩ : ∃ s : ByteArray, s = ⟨l.toArray⟩ := ⟨_, rfl⟩
  have hsz : s.size = l.length := by rw [hs]; exact str_size l
  rw [show str l = .string s by rw [hs]; rfl]
  have HX := Lib.hid (show Value.string s = str l by rw [hs]; rfl)
  have HC := Lib.hid hC
  have hcl : ∀ l, (str l).cells = #[str l] := fun _ => rfl
  simp only [Value.cells] at hcl
  clear hs hC
  go_enter Tryd.func66, Tryd.ntmps66
  go_wp2_with fail
  go_loopw [5, 6, 7] (fun vo vf vi wr => ∃ i : Nat, i ≤ l.length ∧ vi = .int .i64 i ∧ vf = .int .i64 (segs l c i).2 ∧ OwnS w wr vo (segs l c i).1 ∧ Touch [] w wr) (fun _ _ vi _ => l.length - (intOf vi).toNat)
  case atStart => exact ⟨0, by omega, rfl, rfl, OwnS.nil _ _, Touch.refl _ _⟩
  case round =>
    obtain ⟨i, hi, rfl, rfl, hown, ht⟩ := hrel
    obtain ⟨hf, hn⟩ := segs_le l c i
    by_cases hlt : i < l.length
    · obtain ⟨x, hx⟩ : ∃ x, l[i]? = some x := ⟨_, List.getElem?_eq_getElem hlt⟩
      have hseg : segs l c (i + 1) = if x = c then ((segs l c i).1 ++ [(l.drop (segs l c i).2).take (i - (segs l c i).2)], i + 1) else segs l c i := by
        simp only [segs, hx, Option.some.injEq]
      generalize hp : segs l c i = p at *
      obtain ⟨ps, fr⟩ := p
      simp only at *
      by_cases hxc : x = c
      · have HNE := (u8_inj x c).2 hxc
        rw [← HC.out] at HNE
        rw [if_pos hxc] at hseg
        have HSEG := Lib.hid hseg
        have hrow := hown.row
        have HP := Lib.hid hp
        clear hseg hp hxc
        go_wp2_with (first
          | ((with_reducible refine at_index 9 ?_); refine wpList_strix (by rfl) 9 _ _ rfl Tryd.underlying9 l i x HX.out rfl hx ?_)
          | ((with_reducible refine at_slice 9 ?_); refine wpList_strcut (by rfl) 9 _ _ _ rfl Tryd.underlying9 l fr i HX.out rfl rfl hf (by omega) ?_)
          | (at_builtin; refine wpList_app1 _ (by rfl) _ _ 69 (by rfl) 9 iS _ 16 Tryd.underlying69 hiS hzS hsS hbS rfl _ ps.length _ (by rfl) hrow (str ((l.drop fr).take (i - fr))) 9 (by rfl) (str_one _) (by unfold maxLen; omega) (by omega) ?_))
        intro vo w2 ho2 t2 hv2
        have hnew2 : ∀ g, vo.ownBlock = some g → w.heap.size ≤ g := by
          intro g hg
          have z1 := ht.size
          rcases hv2 with e | e
          · rw [e] at hg; exact hown.new g hg
          · rw [e] at hg; simp at hg; omega
        have hown2 : OwnS w w2 vo (ps ++ [(l.drop fr).take (i - fr)]) := ⟨by rw [List.map_append, List.length_append]; exact ho2, hnew2⟩
        have ht2 : Touch [] w w2 := ht.trans t2 (fun g hg => .inr (hown.new g (by simpa using hg)))
        clear hv2 hnew2 ho2 t2 hrow
        go_wp2_with fail
        go_roundw
        case rel => exact ⟨i + 1, by omega, by go_num, by rw [HSEG.out]; simp, by rw [HSEG.out]; exact hown2, ht2⟩
        case measure => simp [intOf]; omega
      · have HNE := (not_congr (u8_inj x c)).2 hxc
        rw [← HC.out] at HNE
        rw [if_neg hxc] at hseg
        have HSEG := Lib.hid hseg
        clear hseg hp hxc
        go_wp2_with ((with_reducible refine at_index 9 ?_); refine wpList_strix (by rfl) 9 _ _ rfl Tryd.underlying9 l i x HX.out rfl hx ?_)
        go_roundw
        case rel => exact ⟨i + 1, by omega, by go_num, by rw [HSEG.out], by rw [HSEG.out]; exact hown, ht⟩
        case measure => simp [intOf]; omega
    · have he : i = l.length := by omega
      subst he
      have hsp : splitP l c = (segs l c l.length).1 ++ [l.drop (segs l c l.length).2] := rfl
      generalize segs l c l.length = p at *
      obtain ⟨ps, fr⟩ := p
      simp only at *
      have HSP := Lib.hid hsp
      have hrow := hown.row
      clear hsp
      go_wp2_with (first
          | ((with_reducible refine at_slice 9 ?_); refine wpList_strfrom (by rfl) 9 _ _ rfl Tryd.underlying9 l fr HX.out rfl hf ?_)
          | (at_builtin; refine wpList_app1 _ (by rfl) _ _ 69 (by rfl) 9 iS _ 16 Tryd.underlying69 hiS hzS hsS hbS rfl _ ps.length _ (by rfl) hrow (str (l.drop fr)) 9 (by rfl) (str_one _) (by unfold maxLen; omega) (by omega) ?_))
      intro vo w2 ho2 t2 hv2
      have hnew2 : ∀ g, vo.ownBlock = some g → w.heap.size ≤ g := by
        intro g hg
        have z1 := ht.size
        rcases hv2 with e | e
        · rw [e] at hg; exact hown.new g hg
        · rw [e] at hg; simp at hg; omega
      have hown2 : OwnS w w2 vo (ps ++ [l.drop fr]) := ⟨by rw [List.map_append, List.length_append]; exact ho2, hnew2⟩
      have ht2 : Touch [] w w2 := ht.trans t2 (fun g hg => .inr (hown.new g (by simpa using hg)))
      clear hv2 hnew2 ho2 t2 hrow
      go_wp2_with fail
      go_ret
      exact ⟨_, rfl, by rw [HSP.out]; exact hown2, ht2⟩
end Go.Proofs.YtecaakgpogabjaaDoor

/-
  The contract of the reference's ParseDecimal.
-/
namespace Go.Proofs.YtecaakgpogabjaaDoor
open Go.RowKit
set_option linter.unusedVariables false
set_option linter.unusedSimpArgs false

/-- The number that the first i digits make. -/
def digs (l : List UInt8) : Nat → Option Int
  | 0 => some 0
  | i + 1 => match digs l i, l[i]? with
    | some n, some x => if x.toNat < 48 ∨ 57 < x.toNat then none else some (10 * n + (x.toNat - 48))
    | _, _ => none
def decP (l : List UInt8) (most : Int) : Int :=
  if l = [] ∨ 6 < l.length ∨ (l[0]? = some 48 ∧ 1 < l.length) then -1
  else match digs l l.length with
    | none => -1
    | some n => if most < n then -1 else n
theorem digs_bound (l : List UInt8) (i : Nat) (n : Int) (h : digs l i = some n) : 0 ≤ n ∧ n < 10 ^ i := by
  induction i generalizing n with
  | zero =>
    simp [digs] at h
    subst h
    simp
  | succ i ih =>
    simp only [digs] at h
    split at h
    · rename_i m x hm hx
      split at h
      · cases h
      · rename_i hb
        have := ih m hm
        simp only [Option.some.injEq] at h
        rw [Int.pow_succ]
        omega
    · cases h
theorem digs_none (l : List UInt8) (i : Nat) (h : digs l i = none) : ∀ j, i ≤ j → digs l j = none := by
  intro j hj
  induction j with
  | zero =>
    have : i = 0 := by omega
    subst this
    exact h
  | succ j ih =>
    by_cases e : i = j + 1
    · subst e; exact h
    · simp only [digs, ih (by omega)]
theorem pow6 (i : Nat) (h : i ≤ 6) : (10 : Int) ^ i ≤ 1000000 := by
  rcases (by omega : i = 0 ∨ i = 1 ∨ i = 2 ∨ i = 3 ∨ i = 4 ∨ i = 5 ∨ i = 6) with rfl | rfl | rfl | rfl | rfl | rfl | rfl <;> decide
set_option maxRecDepth 100000 in
set_option maxHeartbeats 1000000 in
theorem dec_any (l : List UInt8) (most : Int) (w : World) :
    Calls Tryd.prog 68 #[str l, .int .i64 most] w fun e w' => e = .returned (.int .i64 (decP l most)) ∧ w = w' := by
  obtain ⟨s, hs⟩ : ∃ s : ByteArray, s = ⟨l.toArray⟩ := ⟨_, rfl⟩
  have hsz : s.size = l.length := by rw [hs]; exact str_size l
  have hse : s.toList = l := by rw [hs]; simp
  rw [show str l = .string s by rw [hs]; rfl]
  have HX := Lib.hid (show Value.string s = str l by rw [hs]; rfl)
  clear hs
  cases l with
  | nil =>
    have HP := Lib.hid (show decP [] most = -1 by simp [decP])
    go_enter Tryd.func68, Tryd.ntmps68
    go_wp2_with fail
    go_ret
    exact ⟨by rw [HP.out]; rfl, rfl⟩
  | cons y l0 =>
    obtain ⟨l, hl⟩ : ∃ l, l = y :: l0 := ⟨_, rfl⟩
    rw [← hl] at hsz hse HX ⊢
    have hy : l[0]? = some y := by rw [hl]; rfl
    have hne : s.toList.isEmpty = false := by rw [hse, hl]; rfl
    have hne2 : l ≠ [] := by rw [hl]; simp
    clear hl hse
    by_cases h6 : 6 < l.length
    · have HP := Lib.hid (show decP l most = -1 by simp [decP, h6])
      go_enter Tryd.func68, Tryd.ntmps68
      go_wp2_with fail
      go_ret
      exact ⟨by rw [HP.out]; rfl, rfl⟩
    · have h6c : decide ((6 : Int) < (l.length : Int)) = false := by simp; omega
      by_cases h48 : y = 48
      · subst h48
        have c48 : ((48 : UInt8).toNat : Int) = 48 := rfl
        by_cases h1 : 1 < l.length
        · have HP := Lib.hid (show decP l most = -1 by unfold decP; rw [if_pos (Or.inr (Or.inr ⟨hy, h1⟩))])
          go_enter Tryd.func68, Tryd.ntmps68
          go_wp2_with ((with_reducible refine at_index 9 ?_); refine wpList_strix (by rfl) 9 _ _ rfl Tryd.underlying9 l 0 48 HX.out rfl hy ?_)
          go_ret
          exact ⟨by rw [HP.out]; rfl, rfl⟩
        · have hcond : ¬ (l = [] ∨ 6 < l.length ∨ (l[0]? = some 48 ∧ 1 < l.length)) := by
            rintro (h | h | h)
            · exact hne2 h
            · exact h6 h
            · exact h1 h.2
          go_enter Tryd.func68, Tryd.ntmps68
          go_wp2_with ((with_reducible refine at_index 9 ?_); refine wpList_strix (by rfl) 9 _ _ rfl Tryd.underlying9 l 0 48 HX.out rfl hy ?_)
          go_loopw [5, 6] (fun vn vi wr => wr = w ∧ ∃ (i : Nat) (n : Int), i ≤ l.length ∧ vi = .int .i64 i ∧ vn = .int .i64 n ∧ digs l i = some n) (fun _ vi _ => l.length - (intOf vi).toNat)
          case atStart => exact ⟨rfl, 0, 0, by omega, rfl, rfl, rfl⟩
          case round =>
            obtain ⟨hwr, i, n, hi, rfl, rfl, hd⟩ := hrel
            subst hwr
            obtain ⟨hn0, hn1⟩ := digs_bound l i n hd
            have hp6 := pow6 i (by omega)
            by_cases hlt : i < l.length
            · obtain ⟨x, hx⟩ : ∃ x, l[i]? = some x := ⟨_, List.getElem?_eq_getElem hlt⟩
              have hx255 : x.toNat < 256 := x.toNat_lt
              by_cases hb : x.toNat < 48 ∨ 57 < x.toNat
              · have HD := Lib.hid (digs_none l (i + 1) (by simp only [digs, hd, hx]; rw [if_pos hb]) l.length (by omega))
                have HP := Lib.hid (show decP l most = -1 by unfold decP; rw [if_neg hcond, HD.out])
                clear hd hcond
                rcases hb with hb | hb
                · have hb2 : ((x.toNat : Int) < 48) := by omega
                  go_wp2_with ((with_reducible refine at_index 9 ?_); refine wpList_strix (by rfl) 9 _ _ rfl Tryd.underlying9 l i x HX.out rfl hx ?_)
                  go_ret
                  exact ⟨by rw [HP.out]; rfl, rfl⟩
                · have hb2 : ¬ ((x.toNat : Int) < 48) := by omega
                  have hb3 : (57 < (x.toNat : Int)) := by omega
                  go_wp2_with ((with_reducible refine at_index 9 ?_); refine wpList_strix (by rfl) 9 _ _ rfl Tryd.underlying9 l i x HX.out rfl hx ?_)
                  go_ret
                  exact ⟨by rw [HP.out]; rfl, rfl⟩
              · have HD := Lib.hid (show digs l (i + 1) = some (10 * n + (x.toNat - 48)) by simp only [digs, hd, hx]; rw [if_neg hb])
                have hb2 : ¬ ((x.toNat : Int) < 48) := by omega
                have hb3 : ¬ (57 < (x.toNat : Int)) := by omega
                have w1 : IntKind.i64.wrap (10 * n) = 10 * n := by rw [IntKind.wrap_i64] <;> omega
                have w2 : IntKind.u8.wrap ((x.toNat : Int) - 48) = (x.toNat : Int) - 48 := by simp [IntKind.wrap, IntKind.signed, IntKind.bits]; omega
                have w3 : IntKind.i64.wrap ((x.toNat : Int) - 48) = (x.toNat : Int) - 48 := by rw [IntKind.wrap_i64] <;> omega
                have w4 : IntKind.i64.wrap (10 * n + ((x.toNat : Int) - 48)) = 10 * n + ((x.toNat : Int) - 48) := by rw [IntKind.wrap_i64] <;> omega
                clear hd
                go_wp2_with ((with_reducible refine at_index 9 ?_); refine wpList_strix (by rfl) 9 _ _ rfl Tryd.underlying9 l i x HX.out rfl hx ?_)
                go_roundw
                case rel => exact ⟨by trivial, i + 1, _, by omega, by go_num, rfl, HD.out⟩
                case measure => simp [intOf]; omega
            · have he : i = l.length := by omega
              subst he
              by_cases hm : most < n
              · have HP := Lib.hid (show decP l most = -1 by unfold decP; rw [if_neg hcond, hd]; simp [hm])
                clear hd hcond
                go_wp2_with fail
                go_ret
                exact ⟨by rw [HP.out]; rfl, rfl⟩
              · have HP := Lib.hid (show decP l most = n by unfold decP; rw [if_neg hcond, hd]; simp [hm])
                clear hd hcond
                go_wp2_with fail
                go_ret
                exact ⟨by rw [HP.out]; rfl, rfl⟩
      · have hcond : ¬ (l = [] ∨ 6 < l.length ∨ (l[0]? = some 48 ∧ 1 < l.length)) := by
          rintro (h | h | h)
          · exact hne2 h
          · exact h6 h
          · rw [hy] at h
            exact h48 (by simpa using h.1)
        have hn48 : ¬ ((y.toNat : Int) = 48) := fun h => h48 ((u8_inj y 48).1 h)
        go_enter Tryd.func68, Tryd.ntmps68
        go_wp2_with ((with_reducible refine at_index 9 ?_); refine wpList_strix (by rfl) 9 _ _ rfl Tryd.underlying9 l 0 y HX.out rfl hy ?_)
        go_loopw [5, 6] (fun vn vi wr => wr = w ∧ ∃ (i : Nat) (n : Int), i ≤ l.length ∧ vi = .int .i64 i ∧ vn = .int .i64 n ∧ digs l i = some n) (fun _ vi _ => l.length - (intOf vi).toNat)
        case atStart => exact ⟨rfl, 0, 0, by omega, rfl, rfl, rfl⟩
        case round =>
          obtain ⟨hwr, i, n, hi, rfl, rfl, hd⟩ := hrel
          subst hwr
          obtain ⟨hn0, hn1⟩ := digs_bound l i n hd
          have hp6 := pow6 i (by omega)
          by_cases hlt : i < l.length
          · obtain ⟨x, hx⟩ : ∃ x, l[i]? = some x := ⟨_, List.getElem?_eq_getElem hlt⟩
            have hx255 : x.toNat < 256 := x.toNat_lt
            by_cases hb : x.toNat < 48 ∨ 57 < x.toNat
            · have HD := Lib.hid (digs_none l (i + 1) (by simp only [digs, hd, hx]; rw [if_pos hb]) l.length (by omega))
              have HP := Lib.hid (show decP l most = -1 by unfold decP; rw [if_neg hcond, HD.out])
              clear hd hcond
              rcases hb with hb | hb
              · have hb2 : ((x.toNat : Int) < 48) := by omega
                go_wp2_with ((with_reducible refine at_index 9 ?_); refine wpList_strix (by rfl) 9 _ _ rfl Tryd.underlying9 l i x HX.out rfl hx ?_)
                go_ret
                exact ⟨by rw [HP.out]; rfl, rfl⟩
              · have hb2 : ¬ ((x.toNat : Int) < 48) := by omega
                have hb3 : (57 < (x.toNat : Int)) := by omega
                go_wp2_with ((with_reducible refine at_index 9 ?_); refine wpList_strix (by rfl) 9 _ _ rfl Tryd.underlying9 l i x HX.out rfl hx ?_)
                go_ret
                exact ⟨by rw [HP.out]; rfl, rfl⟩
            · have HD := Lib.hid (show digs l (i + 1) = some (10 * n + (x.toNat - 48)) by simp only [digs, hd, hx]; rw [if_neg hb])
              have hb2 : ¬ ((x.toNat : Int) < 48) := by omega
              have hb3 : ¬ (57 < (x.toNat : Int)) := by omega
              have w1 : IntKind.i64.wrap (10 * n) = 10 * n := by rw [IntKind.wrap_i64] <;> omega
              have w2 : IntKind.u8.wrap ((x.toNat : Int) - 48) = (x.toNat : Int) - 48 := by simp [IntKind.wrap, IntKind.signed, IntKind.bits]; omega
              have w3 : IntKind.i64.wrap ((x.toNat : Int) - 48) = (x.toNat : Int) - 48 := by rw [IntKind.wrap_i64] <;> omega
              have w4 : IntKind.i64.wrap (10 * n + ((x.toNat : Int) - 48)) = 10 * n + ((x.toNat : Int) - 48) := by rw [IntKind.wrap_i64] <;> omega
              clear hd
              go_wp2_with ((with_reducible refine at_index 9 ?_); refine wpList_strix (by rfl) 9 _ _ rfl Tryd.underlying9 l i x HX.out rfl hx ?_)
              go_roundw
              case rel => exact ⟨by trivial, i + 1, _, by omega, by go_num, rfl, HD.out⟩
              case measure => simp [intOf]; omega
          · have he : i = l.length := by omega
            subst he
            by_cases hm : most < n
            · have HP := Lib.hid (show decP l most = -1 by unfold decP; rw [if_neg hcond, hd]; simp [hm])
              clear hd hcond
              go_wp2_with fail
              go_ret
              exact ⟨by rw [HP.out]; rfl, rfl⟩
            · have HP := Lib.hid (show decP l most = n by unfold decP; rw [if_neg hcond, hd]; simp [hm])
              clear hd hcond
              go_wp2_with fail
              go_ret
              exact ⟨by rw [HP.out]; rfl, rfl⟩
end Go.Proofs.YtecaakgpogabjaaDoor

/-
  Addresses as literals: equality and keys of maps.
-/
namespace Go.Proofs.YtecaakgpogabjaaDoor
open Go.RowKit
set_option linter.unusedVariables false
set_option linter.unusedSimpArgs false

def okB (xs : List Int) : Prop := xs.length = 16 ∧ ∀ x ∈ xs, 0 ≤ x ∧ x ≤ 255
theorem sixteen {α : Type} (xs : List α) (h : xs.length = 16) : ∃ a b c d e f g i j k l m n o p q, xs = [a, b, c, d, e, f, g, i, j, k, l, m, n, o, p, q] := by
  match xs, h with
  | [a, b, c, d, e, f, g, i, j, k, l, m, n, o, p, q], _ => exact ⟨_, _, _, _, _, _, _, _, _, _, _, _, _, _, _, _, rfl⟩
def lits (b : Bool) (xs : List Int) : List Lit := .bool b :: xs.map (Lit.int .u8)
theorem lits_inj {b b' : Bool} {xs ys : List Int} : lits b xs = lits b' ys ↔ b = b' ∧ xs = ys := by
  unfold lits
  rw [List.cons.injEq]
  constructor
  · rintro ⟨h1, h2⟩
    refine ⟨by simpa using h1, ?_⟩
    exact (List.map_inj_right (fun a b h => by simpa using h)).1 h2
  · rintro ⟨rfl, rfl⟩
    exact ⟨rfl, rfl⟩
theorem key_ad (b : Bool) (xs : List Int) (h : okB xs) : Tryd.prog.keyLits 5 28 (adr b xs) = some (lits b xs) := by
  obtain ⟨hl, hr⟩ := h
  obtain ⟨x0, x1, x2, x3, x4, x5, x6, x7, x8, x9, x10, x11, x12, x13, x14, x15, rfl⟩ := sixteen xs hl
  have hwf : ∀ x : Int, 0 ≤ x ∧ x ≤ 255 → (Lit.int .u8 x).wf = true := by
    intro x hx
    simp [Lit.wf, IntKind.min, IntKind.max, IntKind.signed, IntKind.bits]
    omega
  have hk1 : ∀ x ∈ [x0, x1, x2, x3, x4, x5, x6, x7, x8, x9, x10, x11, x12, x13, x14, x15], ∀ d, Tryd.prog.keyLits (d + 1) 5 [.int .u8 x] = some [.int .u8 x] := by
    intro x hx d
    simp [Program.keyLits, Tryd.underlying5, hwf x (hr x hx)]
  simp only [List.mem_cons, List.not_mem_nil, or_false, forall_eq_or_imp, forall_eq] at hk1
  obtain ⟨k0, k1, k2, k3, k4, k5, k6, k7, k8, k9, k10, k11, k12, k13, k14, k15⟩ := hk1
  have c5 : Tryd.prog.cellsOf 5 = 1 := by kernel_rfl
  have c4 : Tryd.prog.cellsOf 4 = 1 := by kernel_rfl
  have c29 : Tryd.prog.cellsOf 26 = 16 := by kernel_rfl
  have c31 : Tryd.prog.cellsOf 28 = 17 := by kernel_rfl
  have hk2 : Tryd.prog.keyLits 4 26 ([x0, x1, x2, x3, x4, x5, x6, x7, x8, x9, x10, x11, x12, x13, x14, x15].map (Value.int .u8)) = some ([x0, x1, x2, x3, x4, x5, x6, x7, x8, x9, x10, x11, x12, x13, x14, x15].map (Lit.int .u8)) := by
    unfold Program.keyLits
    simp [Tryd.underlying26, c5, c29, List.range, List.range.loop, k0, k1, k2, k3, k4, k5, k6, k7, k8, k9, k10, k11, k12, k13, k14, k15]
  have hk3 : Tryd.prog.keyLits 4 4 [.bool b] = some [.bool b] := by
    simp [Program.keyLits, Tryd.underlying4]
  simp only [List.map_cons, List.map_nil] at hk2
  unfold Program.keyLits
  simp [Tryd.underlying28, adr, lits, c4, c29, c31, hk2, hk3]
set_option maxRecDepth 100000 in
theorem eq_ads (b b' : Bool) (xs ys : List Int) (h : okB xs) (h' : okB ys) (w : World) : (Op.equalIn 10000 28 (.agg (adr b xs).toArray) (.agg (adr b' ys).toArray)).run Tryd.prog w = .ok (decide (b = b' ∧ xs = ys)) w := by
  have key : ∃ r, (Op.equalIn 10000 28 (.agg (adr b xs).toArray) (.agg (adr b' ys).toArray)).run Tryd.prog w = .ok r w ∧ (r = true ↔ lits b xs = lits b' ys) := by
    have k1 := key_ad b xs h
    have k2 := key_ad b' ys h'
    generalize lits b xs = l1 at *
    generalize lits b' ys = l2 at *
    obtain ⟨x0, x1, x2, x3, x4, x5, x6, x7, x8, x9, x10, x11, x12, x13, x14, x15, rfl⟩ := sixteen xs h.1
    obtain ⟨y0, y1, y2, y3, y4, y5, y6, y7, y8, y9, y10, y11, y12, y13, y14, y15, rfl⟩ := sixteen ys h'.1
    exact run_equalIn_deep 9995 5 28 (by kernel_rfl) w 5 5 _ _ l1 l2 (by rfl) (by rfl) k1 k2
  obtain ⟨r, hrun, hi⟩ := key
  rw [lits_inj] at hi
  rw [hrun]
  by_cases e : b = b' ∧ xs = ys
  · rw [hi.2 e]
    simp [e]
  · have hf : r = false := by
      cases r
      · rfl
      · exact absurd (hi.1 rfl) e
    rw [hf, decide_eq_false e]
end Go.Proofs.YtecaakgpogabjaaDoor

/-
  DERIVED: THE SHELF's CONTRACTS AT THIS DUMP, IN PLAIN WORDS (tools/lay-plain.mjs out of 'YtecaakgpogabjaaDoorLayT.lean', which tools/lay-shelf.mjs wrote): THE SAME DECLARATIONS UNDER THE SAME NAMES: 'import', 'namespace', 'open', 'def', 'theorem' AND NOTHING ELSE: no command of the shelf's: FOR A HAND-IN. Each laying: the table of numbers ('.._ren') and one theorem, a field a fact of the dump's own or the kernel's comparison; each contract: ONE APPLICATION.
-/
namespace Go.Proofs
open Go.Shelf
def Tryd.trimL_ren : Go.Shelf.Ren := ⟨fun | 160 => 51 | 232 => 60 | 231 => 59 | 227 => 61 | 234 => 63 | 233 => 62 | 236 => 65 | 235 => 64 | 228 => 72 | 271 => 75 | 151 => 74 | 197 => 73 | 120 => 81 | 152 => 80 | 260 => 79 | 137 => 83 | 119 => 84 | 224 => 85 | 225 => 86 | 217 => 87 | 266 => 88 | n => n, fun | 9 => 9 | 4 => 4 | 3 => 3 | 5 => 5 | 117 => 80 | 116 => 79 | 0 => 0 | 124 => 83 | 21 => 21 | 105 => 91 | 46 => 46 | 119 => 99 | 139 => 102 | 138 => 101 | n => n, fun | 3 => 0 | 4 => 1 | n => n⟩
theorem Tryd.trimL : Go.Proofs.Lays.n160 Tryd.prog Tryd.trimL_ren := {
  mixed := by kernel_rfl
  f119 := Tryd.func84.trans (congrArg some (by kernel_rfl))
  f120 := Tryd.func81.trans (congrArg some (by kernel_rfl))
  f137 := Tryd.func83.trans (congrArg some (by kernel_rfl))
  f151 := Tryd.func74.trans (congrArg some (by kernel_rfl))
  f152 := Tryd.func80.trans (congrArg some (by kernel_rfl))
  f160 := Tryd.func51.trans (congrArg some (by kernel_rfl))
  f197 := Tryd.func73.trans (congrArg some (by kernel_rfl))
  f217 := Tryd.func87.trans (congrArg some (by kernel_rfl))
  f224 := Tryd.func85.trans (congrArg some (by kernel_rfl))
  f225 := Tryd.func86.trans (congrArg some (by kernel_rfl))
  f227 := Tryd.func61.trans (congrArg some (by kernel_rfl))
  f228 := Tryd.func72.trans (congrArg some (by kernel_rfl))
  f231 := Tryd.func59.trans (congrArg some (by kernel_rfl))
  f232 := Tryd.func60.trans (congrArg some (by kernel_rfl))
  f233 := Tryd.func62.trans (congrArg some (by kernel_rfl))
  f234 := Tryd.func63.trans (congrArg some (by kernel_rfl))
  f235 := Tryd.func64.trans (congrArg some (by kernel_rfl))
  f236 := Tryd.func65.trans (congrArg some (by kernel_rfl))
  f260 := Tryd.func79.trans (congrArg some (by kernel_rfl))
  f266 := Tryd.func88.trans (congrArg some (by kernel_rfl))
  f271 := Tryd.func75.trans (congrArg some (by kernel_rfl))
  t0 := Tryd.underlying0
  a0 := Tryd.isAgg0
  z0 := Tryd.sizeOf0
  v0 := Tryd.zeroValue0
  t3 := Tryd.underlying3
  a3 := Tryd.isAgg3
  z3 := Tryd.sizeOf3
  v3 := Tryd.zeroValue3
  t4 := Tryd.underlying4
  a4 := Tryd.isAgg4
  z4 := Tryd.sizeOf4
  v4 := Tryd.zeroValue4
  t5 := Tryd.underlying5
  a5 := Tryd.isAgg5
  z5 := Tryd.sizeOf5
  v5 := Tryd.zeroValue5
  t9 := Tryd.underlying9
  a9 := Tryd.isAgg9
  z9 := Tryd.sizeOf9
  v9 := Tryd.zeroValue9
  t21 := Tryd.underlying21
  a21 := Tryd.isAgg21
  z21 := Tryd.sizeOf21
  v21 := Tryd.zeroValue21
  t46 := Tryd.underlying46
  a46 := Tryd.isAgg46
  z46 := Tryd.sizeOf46
  v46 := Tryd.zeroValue46
  t105 := Tryd.underlying91
  a105 := Tryd.isAgg91
  z105 := Tryd.sizeOf91
  v105 := Tryd.zeroValue91
  t116 := Tryd.underlying79
  a116 := Tryd.isAgg79
  z116 := Tryd.sizeOf79
  t117 := Tryd.underlying80
  a117 := Tryd.isAgg80
  z117 := Tryd.sizeOf80
  v117 := Tryd.zeroValue80
  t119 := Tryd.underlying99
  a119 := Tryd.isAgg99
  z119 := Tryd.sizeOf99
  t124 := Tryd.underlying83
  a124 := Tryd.isAgg83
  z124 := Tryd.sizeOf83
  v124 := Tryd.zeroValue83
  t138 := Tryd.underlying101
  a138 := Tryd.isAgg101
  z138 := Tryd.sizeOf101
  v138 := Tryd.zeroValue101
  t139 := Tryd.underlying102
  a139 := Tryd.isAgg102
  z139 := Tryd.sizeOf102
  v139 := Tryd.zeroValue102
  g3 := by kernel_rfl
  g4 := by kernel_rfl }
end Go.Proofs

/-
  The contracts of ip.Valid and ip.BitLen.
-/
namespace Go.Proofs.YtecaakgpogabjaaDoor
open Go.RowKit Go.Shelf
set_option linter.unusedVariables false
set_option linter.unusedSimpArgs false

/-- An IPv4 address uses only the first four bytes. -/
def vld (b : Bool) (xs : List Int) : Bool := b || (xs.drop 4).all (· == 0)
theorem dropWhile_none {α : Type} (p : α → Bool) : ∀ l : List α, l.dropWhile p = [] ↔ ∀ x ∈ l, p x = true
  | [] => by simp
  | a :: l => by
    cases h : p a
    · simp [List.dropWhile, h]
    · simp [List.dropWhile, h, dropWhile_none p l]
theorem dropWhile_last {α : Type} (p : α → Bool) : ∀ l : List α, ∀ x m, l.dropWhile p = x :: m → p x = false
  | [], x, m, h => by simp at h
  | a :: l, x, m, h => by
    cases h2 : p a
    · simp [List.dropWhile, h2] at h
      rw [← h.1]
      exact h2
    · simp [List.dropWhile, h2] at h
      exact dropWhile_last p l x m h
theorem dropWhile_mem {α : Type} (p : α → Bool) : ∀ l : List α, ∀ x ∈ l.dropWhile p, x ∈ l
  | [], x, h => by simp at h
  | a :: l, x, h => by
    cases h2 : p a
    · simp [List.dropWhile, h2] at h
      simpa using h
    · simp [List.dropWhile, h2] at h
      exact List.mem_cons_of_mem _ (dropWhile_mem p l x h)
theorem trim_empty {l : List UInt8} {c : UInt8} : Lib.trimB l c = [] ↔ ∀ x ∈ l, x = c := by
  unfold Lib.trimB Lib.trimLeftB Lib.trimRightB
  rw [dropWhile_none]
  constructor
  · intro h
    have h2 : l.reverse.dropWhile (· == c) = [] := by
      cases h3 : l.reverse.dropWhile (· == c) with
      | nil => rfl
      | cons x m =>
        have h4 := dropWhile_last _ _ x m h3
        have h5 := h x (by rw [h3]; simp)
        rw [h5] at h4
        cases h4
    rw [dropWhile_none] at h2
    intro x hx
    simpa using h2 x (by simpa using hx)
  · intro h x hx
    have h2 := dropWhile_mem _ _ x (List.mem_reverse.1 hx)
    simpa using h x (by simpa using h2)
theorem bytes_zero {xs : List Int} (hr : ∀ x ∈ xs, 0 ≤ x ∧ x ≤ 255) : (∀ y ∈ (xs.map fun n => UInt8.ofNat n.toNat), y = 0) ↔ xs.all (· == 0) = true := by
  rw [List.all_eq_true]
  constructor
  · intro h x hx
    have h1 := h _ (List.mem_map.2 ⟨x, hx, rfl⟩)
    have h2 := hr x hx
    have h3 := congrArg UInt8.toNat h1
    simp at h3
    simp
    omega
  · intro h y hy
    obtain ⟨x, hx, rfl⟩ := List.mem_map.1 hy
    have := h x hx
    simp at this
    subst this
    rfl
theorem adr_cell {w : World} {g : Nat} {T : TypeId} {b : Bool} {xs : List Int} (h : w.heap[g]? = some (.cells (adr b xs).toArray T (0, 0))) : w.cell? ⟨g, 0, none⟩ = some (.bool b) ∧ ∀ j x, xs[j]? = some x → w.cell? ⟨g, 1 + j, none⟩ = some (.int .u8 x) := by
  constructor
  · simp [World.cell?, h, adr]
  · intro j x hj
    simp [World.cell?, h, adr, Nat.add_comm 1 j, hj]
theorem trim_zero (ys : List Int) (hr : ∀ x ∈ ys, 0 ≤ x ∧ x ≤ 255) (hl : ys.length ≤ 1000) (w : World) :
    Calls Tryd.prog 51 #[.string (strOfNums ys), .string ⟨#[0]⟩] w fun e w' => ∃ s : ByteArray, e = .returned (.string s) ∧ s.toList.isEmpty = ys.all (· == 0) ∧ Touch [] w w' := by
  have h1 : (strOfNums ys).data.toList = ys.map fun n => UInt8.ofNat n.toNat := by simp [strOfNums]
  refine (Any.strings_Trim_one Tryd.trimL (strOfNums ys) 0 (by decide) w (by simp [strOfNums, ByteArray.size]; omega)).mono ?_
  rintro e w' ⟨rfl, hw⟩
  refine ⟨_, rfl, ?_, ?_⟩
  · rw [h1, ByteArray.toList_eq]
    have hz := (bytes_zero hr).symm.trans (trim_empty (l := ys.map fun n => UInt8.ofNat n.toNat) (c := 0)).symm
    by_cases e : ys.all (· == 0) = true
    · rw [e, hz.1 e]
      rfl
    · have e2 : Lib.trimB (ys.map fun n => UInt8.ofNat n.toNat) 0 ≠ [] := fun q => e (hz.2 q)
      have e3 : ys.all (· == 0) = false := by simpa using e
      rw [e3]
      cases hq : Lib.trimB (ys.map fun n => UInt8.ofNat n.toNat) 0 with
      | nil => exact absurd hq e2
      | cons x m =>
        rfl
  · rcases hw with rfl | rfl
    · exact Touch.refl _ _
    · exact (Touch.refl _ _).drew
set_option maxRecDepth 100000 in
set_option maxHeartbeats 1000000 in
theorem ipvalid_any (b : Bool) (xs : List Int) (h : okB xs) (w : World) :
    Calls Tryd.prog 43 #[.agg (adr b xs).toArray] w fun e w' => e = .returned (.bool (vld b xs)) ∧ Touch [] w w' := by
  have gA := heap_alloc_new w (.cells (adr b xs).toArray 28)
  have tA := (Touch.refl [] w).alloc (.cells (adr b xs).toArray 28)
  obtain ⟨c0, cj⟩ := adr_cell gA
  have hcv := run_convert_bytes_arg (P := Tryd.prog) (w.alloc (.cells (adr b xs).toArray 28)) 68 5 Tryd.underlying68 Tryd.underlying5 w.heap.size 5 12 12 (xs.drop 4) (by simp [h.1]) (by
    intro i hi
    have hlt : 4 + i < xs.length := by rw [h.1]; omega
    have := cj (4 + i) xs[4 + i] (by rw [List.getElem?_eq_getElem])
    rw [show 5 + i = 1 + (4 + i) by omega, this]
    simp [List.getD_eq_getElem?_getD, List.getElem?_drop, List.getElem?_eq_getElem hlt]) 9 Tryd.underlying9
  have hr4 : ∀ x ∈ xs.drop 4, 0 ≤ x ∧ x ≤ 255 := fun x hx => h.2 x (List.mem_of_mem_drop hx)
  have HR4 := Lib.hid (trim_zero (xs.drop 4) hr4 (by simp; have := h.1; omega))
  cases b with
  | true =>
    have HV := Lib.hid (show vld true xs = true from rfl)
    clear hr4 cj hcv gA
    go_enter Tryd.func43, Tryd.ntmps43
    go_wp2_with fail
    go_ret
    exact ⟨by rw [HV.out]; rfl, tA⟩
  | false =>
    have HV := Lib.hid (show vld false xs = (xs.drop 4).all (· == 0) from rfl)
    clear hr4 cj gA
    go_enter Tryd.func43, Tryd.ntmps43
    go_wp2_with fail
    refine (HR4.out _).mono ?_
    rintro e w' ⟨s, rfl, hs, ht⟩
    have HT := Lib.hid (tA.trans ht (by simp))
    have HS := Lib.hid hs
    clear hs ht tA
    go_wp2_with fail
    go_ret
    exact ⟨by rw [HV.out, ← HS.out]; simp, HT.out⟩
def blen (b : Bool) : Int := if b then 128 else 32
set_option maxRecDepth 100000 in
theorem bitlen_any (b : Bool) (xs : List Int) (w : World) :
    Calls Tryd.prog 71 #[.agg (adr b xs).toArray] w fun e w' => e = .returned (.int .i64 (blen b)) ∧ Touch [] w w' := by
  have gA := heap_alloc_new w (.cells (adr b xs).toArray 28)
  have tA := (Touch.refl [] w).alloc (.cells (adr b xs).toArray 28)
  obtain ⟨c0, cj⟩ := adr_cell gA
  clear cj gA
  cases b
  · go_enter Tryd.func71, Tryd.ntmps71
    go_wp2_with fail
    go_ret
    exact ⟨rfl, tA⟩
  · go_enter Tryd.func71, Tryd.ntmps71
    go_wp2_with fail
    go_ret
    exact ⟨rfl, tA⟩
end Go.Proofs.YtecaakgpogabjaaDoor

/-
  The contract of cidr.truncate.
-/
namespace Go.Proofs.YtecaakgpogabjaaDoor
open Go.RowKit
set_option linter.unusedVariables false
set_option linter.unusedSimpArgs false

/-- How many bits of byte i are kept; the byte's mask; the byte's rest; the bytes. -/
def keep (bits : Int) (i : Nat) : Int := max 0 (min (bits - 8 * i) 8)
def cutB (bits : Int) (i : Nat) (x : Int) : Int := Go.bits BinOp.and IntKind.u8 x (255 * 2 ^ (8 - keep bits i).toNat % 256)
def trunc (bits : Int) (xs : List Int) : List Int := xs.mapIdx fun i x => cutB bits i x
def trunk (bits : Int) (xs : List Int) (k : Nat) : List Int := xs.mapIdx fun i x => if i < k then cutB bits i x else x
theorem trunk_zero (bits : Int) (xs : List Int) : trunk bits xs 0 = xs := by
  unfold trunk
  apply List.ext_getElem?
  intro j
  simp [List.getElem?_mapIdx]
theorem trunk_all (bits : Int) (xs : List Int) : trunk bits xs xs.length = trunc bits xs := by
  unfold trunk trunc
  apply List.ext_getElem?
  intro j
  simp only [List.getElem?_mapIdx]
  cases h : xs[j]? with
  | none => rfl
  | some x =>
    have := (List.getElem?_eq_some_iff.1 h).1
    simp [this]
theorem trunk_step (bits : Int) (xs : List Int) (k : Nat) (x : Int) (hx : xs[k]? = some x) : trunk bits xs (k + 1) = (trunk bits xs k).set k (cutB bits k x) := by
  unfold trunk
  apply List.ext_getElem?
  intro j
  rw [List.getElem?_set]
  simp only [List.getElem?_mapIdx, List.length_mapIdx]
  have hk := (List.getElem?_eq_some_iff.1 hx).1
  by_cases e : k = j
  · subst e
    have hx' := (List.getElem?_eq_some_iff.1 hx).2
    simp [hk, hx']
  · simp [e]
    cases h : xs[j]? with
    | none => rfl
    | some y =>
      simp
      have : j < k + 1 ↔ j < k := by omega
      simp [this]
theorem trunk_at (bits : Int) (xs : List Int) (k : Nat) : (trunk bits xs k)[k]? = xs[k]? := by
  unfold trunk
  simp [List.getElem?_mapIdx]
theorem trunk_len (bits : Int) (xs : List Int) (k : Nat) : (trunk bits xs k).length = xs.length := by simp [trunk]
theorem cutB_ok (bits : Int) (i : Nat) (x : Int) : 0 ≤ cutB bits i x ∧ cutB bits i x ≤ 255 := by
  unfold cutB Go.bits
  simp [IntKind.wrap, IntKind.signed, IntKind.bits]
  omega
theorem trunc_ok {bits : Int} {xs : List Int} (h : okB xs) : okB (trunc bits xs) := by
  refine ⟨by simp [trunc, h.1], fun y hy => ?_⟩
  obtain ⟨i, hi⟩ := List.getElem?_of_mem hy
  simp only [trunc, List.getElem?_mapIdx, Option.map_eq_some_iff] at hi
  obtain ⟨x, _, rfl⟩ := hi
  exact cutB_ok bits i x
theorem set_adr (w : World) (g k : Nat) (T : TypeId) (b : Bool) (xs : List Int) (y : Int) (h : w.heap[g]? = some (.cells (adr b xs).toArray T (0, 0))) :
    (w.setCell ⟨g, 1 + k, none⟩ (.int .u8 y)).heap[g]? = some (.cells (adr b (xs.set k y)).toArray T (0, 0)) := by
  simp [World.setCell, Array.getElem?_modify, h, adr, List.map_set, Nat.add_comm 1 k]
set_option maxRecDepth 100000 in
set_option maxHeartbeats 4000000 in
theorem trunc_any (b : Bool) (xs : List Int) (h : okB xs) (bits : Int) (hb0 : 0 ≤ bits) (hb1 : bits ≤ 128) (w : World) :
    Calls Tryd.prog 58 #[.agg (adr b xs).toArray, .int .i64 bits] w fun e w' => e = .returned (.agg (adr b (trunc bits xs)).toArray) ∧ Touch [] w w' := by
  have gA := heap_alloc_new w (.cells (adr b xs).toArray 28)
  have tA := (Touch.refl [] w).alloc (.cells (adr b xs).toArray 28)
  have hz : ∃ z, ((w.alloc (.cells (adr b xs).toArray 28)).alloc (.cells z 28)).heap[w.heap.size + 1]? = some (.cells z 28 (0, 0)) ∧ z = (adr false (List.replicate 16 0)).toArray := ⟨_, heap_alloc2_new w _ _, rfl⟩
  obtain ⟨z, hz1, hz2⟩ := hz
  have gB := ((Touch.refl [] (w.alloc (.cells (adr b xs).toArray 28))).alloc (.cells z 28)).at gA (by simp)
  have tB := tA.alloc (.cells z 28)
  have hlen := h.1
  have HZ := Lib.hid hz1
  have HG := Lib.hid gB
  have HT := Lib.hid tB
  have HL := Lib.hid hlen
  have hzs : z.size = 17 := by rw [hz2]; rfl
  clear gA tA gB tB hz1
  go_enter Tryd.func58, Tryd.ntmps58
  go_wp2_with fail
  go_loopw [7] (fun vi wr => ∃ (k : Nat), vi = .int .i64 k ∧ k ≤ 16 ∧ Touch [] w wr ∧ wr.heap[w.heap.size]? = some (.cells (adr b (trunk bits xs k)).toArray 28 (0, 0)) ∧ wr.heap[w.heap.size + 1]? = some (.cells z 28 (0, 0))) (fun vi _ => 16 - (intOf vi).toNat)
  case atStart => exact ⟨0, rfl, by omega, by subst hz2; exact HT.out, by subst hz2; rw [trunk_zero]; exact HG.out, by have := HZ.out; subst hz2; exact this⟩
  case round =>
    obtain ⟨k, rfl, hk, ht, hg, hz⟩ := hrel
    have HT := Lib.hid ht
    have HG := Lib.hid hg
    have HZ := Lib.hid hz
    clear ht hg hz
    by_cases hk2 : k < 16
    · have hx : xs[k]? = some xs[k] := List.getElem?_eq_getElem (by omega)
      have c1 := (adr_cell HG.out).2 k xs[k] (by rw [trunk_at]; exact hx)
      have f1 : wr.frozen? ⟨w.heap.size, 1 + k, none⟩ = false := by simp [World.frozen?, HG.out]
      have hst := trunk_step bits xs k xs[k] hx
      have hsa := set_adr wr w.heap.size k 28 b (trunk bits xs k) (cutB bits k xs[k]) HG.out
      rw [← hst] at hsa
      have HSA := Lib.hid hsa
      generalize xs[k] = x at *
      have hw8 : IntKind.i64.wrap (8 * (k : Int)) = 8 * (k : Int) := by rw [IntKind.wrap_i64] <;> omega
      have hwb : IntKind.i64.wrap (bits - 8 * (k : Int)) = bits - 8 * (k : Int) := by rw [IntKind.wrap_i64] <;> omega
      have hkp : max 0 (min (bits - 8 * (k : Int)) 8) = keep bits k := rfl
      have hk0 : 0 ≤ keep bits k := by unfold keep; omega
      have hk8 : keep bits k ≤ 8 := by unfold keep; omega
      have hwk : IntKind.i64.wrap (8 - keep bits k) = 8 - keep bits k := by rw [IntKind.wrap_i64] <;> omega
      clear hx hst hsa
      go_wp2_with fail
      refine wp_region_still_tail 10 (by kernel_rfl) (by kernel_rfl) ?_
      simp only [List.take_succ_cons, List.take_zero, List.drop_succ_cons, List.drop_zero]
      iterate 10 still_step
      refine wpStill_nil ?_
      change wpList _ _ _ _ _ wr.drew
      go_wp2_with fail
      go_roundw
      case rel =>
        refine ⟨k + 1, by simp, by omega, ?_, HSA.out, ?_⟩
        · exact ((HT.out.setCell (p := ⟨w.heap.size, 1 + k, none⟩) (by right; exact Nat.le_refl _) _).drew)
        · exact ((Touch.refl [w.heap.size] wr).setCell (p := ⟨w.heap.size, 1 + k, none⟩) (by simp) (.int .u8 (cutB bits k x))).at HZ.out (by simp)
      case measure => simp [intOf]; omega
    · have hke : k = 16 := by omega
      subst hke
      have hta := trunk_all bits xs
      rw [hlen] at hta
      have hg := HG.out
      rw [hta] at hg
      have HR := Lib.hid (trunc_ok (bits := bits) h)
      generalize hys : trunc bits xs = ys at *
      have HG2 := Lib.hid hg
      have r1 := range_block hg
      have hl17 : (adr b ys).length = 17 := by simp [adr, HR.out.1]
      have HL17 := Lib.hid hl17
      have HYS := Lib.hid hys
      clear hg hta hl17 hys
      go_wp2_with (first
        | (refine wpList_load_mid rfl 28 _ rfl w.heap.size 0 rfl (adr b ys) _ r1 Tryd.underlying28 rfl (by rw [size31, HL17.out]) ?_)
        | (refine wpList_store_into rfl 28 _ _ rfl (w.heap.size + 1) 28 z (adr b ys) rfl rfl HZ.out (by rw [hzs, HL17.out]) (by rw [size31, HL17.out]) (adr_one _ _) ?_))
      intro w3 hg3 t3 hz3
      go_wp2_with fail
      exact ret_adr rfl HL17.out rfl hg3 ⟨by rw [HYS.out], HT.out.trans t3 (by simp)⟩
end Go.Proofs.YtecaakgpogabjaaDoor

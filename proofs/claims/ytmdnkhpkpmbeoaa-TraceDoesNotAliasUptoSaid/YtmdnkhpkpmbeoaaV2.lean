/-
  Merged texts: Oo, Rec4, HeldF, Iv, So, Rw.
-/
import Derived.Test.YtmdnkhpkpmbeoaaV1
import Derived.Test.YtmdnkhpkpmbeoaaRows
import Derived.Deep.QuietTactic
import Derived.BigQuiet
import Derived.Outline
import Derived.IntWalk
import Derived.Deep.RegionHeld3
import Derived.Deep.CutRange
import Derived.Deep.CutBlock

/-
  Outputs, endpoints and targets as plain data, and how they lie in memory.
-/
namespace Go.Proofs.Ytmdnkhpkpmbeoaa
open Go.RowKit
set_option linter.unusedVariables false
set_option linter.unusedSimpArgs false

theorem laidOut : laidOutB Try.prog = true := by kernel_rfl
abbrev Key := Int × Int
def wf (x : Int) : Prop := (Lit.int .i64 x).wf = true
def encK (p : Key) : Value := .agg #[.int .i64 p.1, .int .i64 p.2]
def okK (p : Key) : Prop := wf p.1 ∧ wf p.2
theorem keyK : KE Try.prog 30 encK okK where
  K := Go.Maps.Keyed.of_law (deep_law_laid laidOut (m := 9) (by omega) (of_decide_eq_true (by kernel_rfl)) (by kernel_rfl) (by kernel_rfl))
  lit := by
    rintro ⟨c, a⟩ ⟨h1, h2⟩
    have c3 : Try.prog.cellsOf 3 = 1 := by kernel_rfl
    have c23 : Try.prog.cellsOf 30 = 2 := by kernel_rfl
    have hkt : Try.prog.keyType 30 = true := by kernel_rfl
    have hk : ∃ l, Try.prog.keyLits (Try.prog.types.size + 1) 30 [.int .i64 c, .int .i64 a] = some l := by
      obtain ⟨n, hn⟩ : ∃ n, Try.prog.types.size + 1 = n + 2 := ⟨Try.prog.types.size - 1, by have : 1 ≤ Try.prog.types.size := of_decide_eq_true (by kernel_rfl); omega⟩
      rw [hn]
      simp [wf] at h1 h2
      simp [Program.keyLits, Try.underlying30, Try.underlying3, c3, c23, h1, h2]
    obtain ⟨l, hl⟩ := hk
    have hf : (Value.agg #[.int .i64 c, .int .i64 a]).formed Try.prog 30 = true := by
      simp [Value.formed, Try.underlying30, c23]
    unfold keyOf
    simp only [Try.underlying30, encK, hkt, hf, Bool.and_true, Bool.and_self, if_true, Value.cells]
    rw [hl]
    exact ⟨_, rfl⟩
  inj := by
    rintro ⟨a, b⟩ ⟨c, d⟩ h
    simp [encK] at h
    simp [h]
def encZ (i : Int) : Value := .int .i64 i
theorem keyZ : KE Try.prog 3 encZ wf where
  K := Go.Maps.int_keyed Try.underlying3
  lit := by
    intro c h1
    exact ⟨_, Go.Maps.keyOf_int_mk Try.underlying3 h1⟩
  inj := by
    intro a b h
    simpa [encZ] using h

/-- An address's cells. -/
def adr (b : Bool) (xs : List Int) : List Value := .bool b :: xs.map (Value.int .u8)
def IsAd (cs : List Value) : Prop := ∃ b xs, cs = adr b xs ∧ xs.length = 16 ∧ ∀ x ∈ xs, 0 ≤ x ∧ x ≤ 255
theorem IsAd.len {cs : List Value} (h : IsAd cs) : cs.length = 17 := by
  obtain ⟨b, xs, rfl, h1, _⟩ := h
  simp [adr, h1]
theorem IsAd.one {cs : List Value} (h : IsAd cs) : ∀ u ∈ cs, u.oneCell' = true := by
  obtain ⟨b, xs, rfl, h1, _⟩ := h
  intro u hu
  rcases List.mem_cons.1 hu with rfl | hu
  · rfl
  · obtain ⟨x, _, rfl⟩ := List.mem_map.1 hu
    rfl
def noAd : List Value := adr false [0, 0, 0, 0, 0, 0, 0, 0, 0, 0, 0, 0, 0, 0, 0, 0]
theorem noAd_is : IsAd noAd := ⟨false, _, rfl, rfl, by simp⟩
/-- An output. -/
structure O where
  k : Int
  c : Int
  a : Int
  d : ByteArray
  ad : List Value
  p : Int
  v : Bool
def encO (o : O) : List Value := .int .i64 o.k :: .int .i64 o.c :: .int .i64 o.a :: .string o.d :: (o.ad ++ [.int .i64 o.p, .bool o.v])
structure OkO (o : O) : Prop where
  k : wf o.k
  c : wf o.c
  a : wf o.a
  p : wf o.p
  d : o.d.size ≤ 1048576
  ad : IsAd o.ad
theorem OkO.len {o : O} (h : OkO o) : (encO o).length = 23 := by
  simp [encO, h.ad.len]
theorem OkO.one {o : O} (h : OkO o) : ∀ u ∈ encO o, u.oneCell' = true := by
  intro u hu
  simp only [encO, List.mem_cons, List.mem_append, List.not_mem_nil, or_false] at hu
  rcases hu with rfl | rfl | rfl | rfl | hu | rfl | rfl
  · rfl
  · rfl
  · rfl
  · rfl
  · exact h.ad.one u hu
  · rfl
  · rfl
theorem encO_lens {l : List O} (h : ∀ o ∈ l, OkO o) : ∀ x ∈ l.map encO, x.length = 23 := by
  intro x hx
  obtain ⟨o, ho, rfl⟩ := List.mem_map.1 hx
  exact (h o ho).len
theorem encO_ones {l : List O} (h : ∀ o ∈ l, OkO o) : ∀ u ∈ (l.map encO).flatten, u.oneCell' = true := by
  intro u hu
  obtain ⟨x, hx, hu⟩ := List.mem_flatten.1 hu
  obtain ⟨o, ho, rfl⟩ := List.mem_map.1 hx
  exact (h o ho).one u hu
/-- The cells of an output that lies at a place. -/
theorem O.cells {w : World} {g f : Nat} {o : O} (ok : OkO o) (h : w.rangeAt g f (encO o)) :
    w.cell? ⟨g, f, none⟩ = some (.int .i64 o.k) ∧ w.cell? ⟨g, f + 1, none⟩ = some (.int .i64 o.c) ∧ w.cell? ⟨g, f + 2, none⟩ = some (.int .i64 o.a) ∧ w.cell? ⟨g, f + 3, none⟩ = some (.string o.d) ∧
      w.rangeAt g (f + 4) o.ad ∧ w.cell? ⟨g, f + 21, none⟩ = some (.int .i64 o.p) ∧ w.cell? ⟨g, f + 22, none⟩ = some (.bool o.v) := by
  have hl := ok.ad.len
  have h0 := h 0 _ rfl
  refine ⟨by simpa using h0, h 1 _ rfl, h 2 _ rfl, h 3 _ rfl, fun i u hu => ?_, h 21 _ ?_, h 22 _ ?_⟩
  · have hi := (List.getElem?_eq_some_iff.1 hu).1
    have := h (4 + i) u (by
      simp only [encO]
      rw [show 4 + i = i + 1 + 1 + 1 + 1 from by omega]
      simp only [List.getElem?_cons_succ]
      rw [List.getElem?_append_left hi]
      exact hu)
    rw [← Nat.add_assoc] at this
    exact this
  · simp only [encO]
    rw [show 21 = 17 + 1 + 1 + 1 + 1 from rfl]
    simp only [List.getElem?_cons_succ]
    rw [List.getElem?_append_right (by omega), hl]
    rfl
  · simp only [encO]
    rw [show 22 = 18 + 1 + 1 + 1 + 1 from rfl]
    simp only [List.getElem?_cons_succ]
    rw [List.getElem?_append_right (by omega), hl]
    rfl
theorem O.gets {o : O} (ok : OkO o) : (encO o)[0]? = some (.int .i64 o.k) ∧ (encO o)[1]? = some (.int .i64 o.c) ∧ (encO o)[2]? = some (.int .i64 o.a) ∧ (encO o)[3]? = some (.string o.d) ∧ (encO o)[21]? = some (.int .i64 o.p) ∧ (encO o)[22]? = some (.bool o.v) := by
  have hl := ok.ad.len
  refine ⟨rfl, rfl, rfl, rfl, ?_, ?_⟩
  · simp only [encO]
    rw [show 21 = 17 + 1 + 1 + 1 + 1 from rfl]
    simp only [List.getElem?_cons_succ]
    rw [List.getElem?_append_right (by omega), hl]
    rfl
  · simp only [encO]
    rw [show 22 = 18 + 1 + 1 + 1 + 1 from rfl]
    simp only [List.getElem?_cons_succ]
    rw [List.getElem?_append_right (by omega), hl]
    rfl
/-- A call's answer out of a variable that is a row. -/
theorem ret_row {fn : Func} {p : Tmp} {ty : TypeId} {k : Nat} {d : TypeDesc} (h : fn.results = #[.cell p ty]) (hsz : (Try.prog.info? ty).map (·.size) = some k) (hun : Try.prog.underlying ty = some d) (hd : d.isRow = true) {R : Ending → World → Prop} {tmps : Array Value} {w : World} {g : Nat} {T : TypeId} {cs : List Value} (hl : cs.length = k)
    (hp : tmps.getD p undef = .pointer (some ⟨g, 0, none⟩)) (hg : w.heap[g]? = some (.cells cs.toArray T (0, 0))) (hR : R (.returned (.agg cs.toArray)) w) : bodyPost Try.prog fn R .ret { tmps := tmps, defers := [] } w :=
  bodyPost_ret (by cases d <;> first | (exact results_cell_row h tmps w g T cs.toArray (0, 0) _ hp hg hun rfl (by rw [hsz]; simp [hl])) | (simp [TypeDesc.isRow] at hd)) rfl hR
/-- Endpoints as rows. -/
def encE (p : Key) : List Value := [.int .i64 p.1, .int .i64 p.2]
theorem encE_lens (l : List Key) : ∀ x ∈ l.map encE, x.length = 2 := by
  intro x hx
  obtain ⟨_, _, rfl⟩ := List.mem_map.1 hx
  rfl
theorem encE_ones (l : List Key) : ∀ u ∈ (l.map encE).flatten, u.oneCell' = true := by
  intro u hu
  obtain ⟨x, hx, hu⟩ := List.mem_flatten.1 hu
  obtain ⟨o, ho, rfl⟩ := List.mem_map.1 hx
  simp only [encE, List.mem_cons, List.not_mem_nil, or_false] at hu
  rcases hu with rfl | rfl <;> rfl
/-- Targets. -/
structure Tg where
  ad : List Value
  p : Int
def encT (t : Tg) : List Value := .string ⟨#[]⟩ :: (t.ad ++ [.int .i64 t.p])
structure OkT (t : Tg) : Prop where
  ad : IsAd t.ad
  p : wf t.p
theorem OkT.len {t : Tg} (h : OkT t) : (encT t).length = 19 := by
  simp [encT, h.ad.len]
theorem OkT.one {t : Tg} (h : OkT t) : ∀ u ∈ encT t, u.oneCell' = true := by
  intro u hu
  simp only [encT, List.mem_cons, List.mem_append, List.not_mem_nil, or_false] at hu
  rcases hu with rfl | hu | rfl
  · rfl
  · exact h.ad.one u hu
  · rfl
theorem encT_lens {l : List Tg} (h : ∀ o ∈ l, OkT o) : ∀ x ∈ l.map encT, x.length = 19 := by
  intro x hx
  obtain ⟨o, ho, rfl⟩ := List.mem_map.1 hx
  exact (h o ho).len
theorem encT_ones {l : List Tg} (h : ∀ o ∈ l, OkT o) : ∀ u ∈ (l.map encT).flatten, u.oneCell' = true := by
  intro u hu
  obtain ⟨x, hx, hu⟩ := List.mem_flatten.1 hu
  obtain ⟨o, ho, rfl⟩ := List.mem_map.1 hx
  exact (h o ho).one u hu
theorem infoO : (Try.prog.info? 36).map (·.size) = some 23 := by kernel_rfl
theorem infoE : (Try.prog.info? 30).map (·.size) = some 2 := by kernel_rfl
theorem infoT : (Try.prog.info? 46).map (·.size) = some 19 := by kernel_rfl
theorem infoA : (Try.prog.info? 34).map (·.size) = some 17 := by kernel_rfl

/-- A row of one's own, made behind w0. -/
structure OwnR (T k : Nat) (w0 w : World) (v : Value) (xs : List (List Value)) : Prop where
  row : w.ownsRow 0 T k v xs.length xs.flatten
  new : ∀ g, v.ownBlock = some g → w0.heap.size ≤ g
theorem OwnR.touch {T k : Nat} {w0 w w' : World} {v : Value} {xs : List (List Value)} {S : List Nat} (h : OwnR T k w0 w v xs) (t : Touch S w w') (hS : ∀ g, v.ownBlock = some g → g ∉ S) : OwnR T k w0 w' v xs := ⟨t.owns h.row hS, h.new⟩
theorem OwnR.touch0 {T k : Nat} {w0 w w' : World} {v : Value} {xs : List (List Value)} (h : OwnR T k w0 w v xs) (t : Touch [] w w') : OwnR T k w0 w' v xs := h.touch t (by simp)
theorem OwnR.rebase {T k : Nat} {w0 w1 w : World} {v : Value} {xs : List (List Value)} (h : OwnR T k w1 w v xs) (hs : w0.heap.size ≤ w1.heap.size) : OwnR T k w0 w v xs := ⟨h.row, fun g hg => Nat.le_trans hs (h.new g hg)⟩
theorem OwnR.rd {T k : Nat} {w0 w : World} {v : Value} {xs : List (List Value)} (h : OwnR T k w0 w v xs) (hk : ∀ x ∈ xs, x.length = k) : Rd w k (v.ownBlock.getD 0) v xs :=
  Rd.of_owns hk h.row (fun b hb => by simp [hb])
theorem OwnR.nil (T k : Nat) (w0 w : World) : OwnR T k w0 w (.slice none 0 0) [] := ⟨⟨by simp, .inl ⟨rfl, rfl⟩⟩, by simp [Value.ownBlock]⟩

def gmod (v n : Int) : Int := (v % 18446744073709551616) % n
theorem gmod_lo (v n : Int) (hn : 1 ≤ n) : 0 ≤ gmod v n := Int.emod_nonneg _ (by omega)
theorem gmod_hi (v n : Int) (hn : 1 ≤ n) : gmod v n < n := Int.emod_lt_of_pos _ (by omega)
theorem mod_eq (v n : Int) (hn : 1 ≤ n) (hn2 : n ≤ 2000000) : wrap64 ((IntKind.u64.wrap v).tmod n) = gmod v n := by
  have h0 : 0 ≤ IntKind.u64.wrap v := by simp [IntKind.wrap, IntKind.signed, IntKind.bits]; omega
  rw [Int.tmod_eq_emod_of_nonneg h0]
  have h1 := Int.emod_nonneg (IntKind.u64.wrap v) (show n ≠ 0 by omega)
  have h2 := Int.emod_lt_of_pos (IntKind.u64.wrap v) (show 0 < n by omega)
  rw [IntWalk.wrap64_in _ ⟨by omega, by omega⟩]
  unfold gmod
  congr 1
theorem mod_any (v n : Int) (w : World) (hn : 1 ≤ n) (hn2 : n ≤ 2000000) :
    Calls Try.prog 8 #[.int .i64 v, .int .i64 n] w fun e w' => e = .returned (.int .i64 (gmod v n)) ∧ w = w' := by
  have H := mod_eq v n hn hn2
  go_enter Try.func8, Try.ntmps8
  go_wp2
  go_ret
  exact ⟨by simp [← H], rfl⟩
/-- The endpoint that an output concerns. -/
def epO (o : O) : Key := if o.k = 1 ∨ o.k = 3 ∨ o.k = 2 then (o.c, 0) else (o.c, o.a)
set_option maxRecDepth 100000 in
set_option maxHeartbeats 1000000 in
theorem client_any (c : Int) (w : World) : Calls Try.prog 57 #[.int .i64 c] w fun e w' => e = .returned (encK (c, 0)) ∧ Touch [] w w' := by
  go_enter Try.func57, Try.ntmps57
  go_wp2_with fail
  exact ret_row rfl infoE Try.underlying30 rfl (cs := [.int .i64 c, .int .i64 0]) rfl rfl (heap_alloc_new w _) ⟨rfl, (Touch.refl _ _).alloc _⟩
set_option maxRecDepth 100000 in
set_option maxHeartbeats 1000000 in
theorem ep_any (o : O) (ok : OkO o) (w : World) : Calls Try.prog 42 #[.agg (encO o).toArray] w fun e w' => e = .returned (encK (epO o)) ∧ Touch [] w w' := by
  have T0 := Lib.hid ((Touch.refl [] w).alloc (.cells (encO o).toArray 36))
  obtain ⟨c0, c1, c2, _, _, _⟩ := O.gets ok
  by_cases h1 : o.k = 1
  · have q1 : (o.k == 1) = true := by simp [h1]
    have he : epO o = (o.c, 0) := by simp [epO, h1]
    rw [he]
    clear h1 he
    go_enter Try.func42, Try.ntmps42
    go_wp2_with fail
    refine (client_any _ _).mono ?_
    rintro e w' ⟨rfl, t⟩
    have g1 := t.at (heap_alloc2_new w (.cells (encO o).toArray 36) (.cells #[.int .i64 0, .int .i64 0] 30)) (by simp)
    have T1 := Lib.hid ((T0.out.alloc (.cells #[.int .i64 0, .int .i64 0] 30)).trans t (by simp))
    have HG1 := Lib.hid g1
    clear t g1
    unfold encK
    go_wp2_with ((with_reducible refine at_store 30 ?_); refine wpList_store_into rfl 30 _ _ rfl (w.heap.size + 1) 30 _ [.int .i64 o.c, .int .i64 0] rfl rfl HG1.out rfl (by rw [infoE]; rfl) (by simp [Value.oneCell']) ?_)
    intro w5 h5 t5 z5
    go_wp2_with fail
    exact ret_row rfl infoE Try.underlying30 rfl (cs := [.int .i64 o.c, .int .i64 0]) rfl rfl h5 ⟨rfl, T1.out.trans t5 (by simp)⟩
  by_cases h3 : o.k = 3
  · have q1 : (o.k == 1) = false := by simp [h1]
    have q3 : (o.k == 3) = true := by simp [h3]
    have he : epO o = (o.c, 0) := by simp [epO, h3]
    rw [he]
    clear h1 h3 he
    go_enter Try.func42, Try.ntmps42
    go_wp2_with fail
    refine (client_any _ _).mono ?_
    rintro e w' ⟨rfl, t⟩
    have g1 := t.at (heap_alloc2_new w (.cells (encO o).toArray 36) (.cells #[.int .i64 0, .int .i64 0] 30)) (by simp)
    have T1 := Lib.hid ((T0.out.alloc (.cells #[.int .i64 0, .int .i64 0] 30)).trans t (by simp))
    have HG1 := Lib.hid g1
    clear t g1
    unfold encK
    go_wp2_with ((with_reducible refine at_store 30 ?_); refine wpList_store_into rfl 30 _ _ rfl (w.heap.size + 1) 30 _ [.int .i64 o.c, .int .i64 0] rfl rfl HG1.out rfl (by rw [infoE]; rfl) (by simp [Value.oneCell']) ?_)
    intro w5 h5 t5 z5
    go_wp2_with fail
    exact ret_row rfl infoE Try.underlying30 rfl (cs := [.int .i64 o.c, .int .i64 0]) rfl rfl h5 ⟨rfl, T1.out.trans t5 (by simp)⟩
  by_cases h2 : o.k = 2
  · have q1 : (o.k == 1) = false := by simp [h1]
    have q3 : (o.k == 3) = false := by simp [h3]
    have q2 : (o.k == 2) = true := by simp [h2]
    have he : epO o = (o.c, 0) := by simp [epO, h2]
    rw [he]
    clear h1 h3 h2 he
    go_enter Try.func42, Try.ntmps42
    go_wp2_with fail
    refine (client_any _ _).mono ?_
    rintro e w' ⟨rfl, t⟩
    have g1 := t.at (heap_alloc2_new w (.cells (encO o).toArray 36) (.cells #[.int .i64 0, .int .i64 0] 30)) (by simp)
    have T1 := Lib.hid ((T0.out.alloc (.cells #[.int .i64 0, .int .i64 0] 30)).trans t (by simp))
    have HG1 := Lib.hid g1
    clear t g1
    unfold encK
    go_wp2_with ((with_reducible refine at_store 30 ?_); refine wpList_store_into rfl 30 _ _ rfl (w.heap.size + 1) 30 _ [.int .i64 o.c, .int .i64 0] rfl rfl HG1.out rfl (by rw [infoE]; rfl) (by simp [Value.oneCell']) ?_)
    intro w5 h5 t5 z5
    go_wp2_with fail
    exact ret_row rfl infoE Try.underlying30 rfl (cs := [.int .i64 o.c, .int .i64 0]) rfl rfl h5 ⟨rfl, T1.out.trans t5 (by simp)⟩
  have q1 : (o.k == 1) = false := by simp [h1]
  have q3 : (o.k == 3) = false := by simp [h3]
  have q2 : (o.k == 2) = false := by simp [h2]
  have he : epO o = (o.c, o.a) := by simp [epO, h1, h2, h3]
  rw [he]
  clear h1 h3 h2 he
  go_enter Try.func42, Try.ntmps42
  go_wp2_with fail
  refine ret_row rfl infoE Try.underlying30 rfl (cs := [.int .i64 o.c, .int .i64 o.a]) rfl rfl (g := w.heap.size + 1) (T := 30) ?_ ⟨rfl, T0.out.alloc _⟩
  exact heap_alloc2_new _ _ _
end Go.Proofs.Ytmdnkhpkpmbeoaa

/-
  A slice cut from an index on, taken first in a region that draws. Plain lemmas over any program.
-/
namespace Go.Proofs.Ytmdnkhpkpmbeoaa
open Go.RowKit
set_option linter.unusedVariables false
set_option linter.unusedSimpArgs false
theorem yieldsIf_from {P : Program} {ops : Array Oper} {S : World → Prop} {op : Oper} {a : Act} (hw : Region.wanted op (yielded ops a.tmps) = true) (t : TypeId) (x lo : Operand) (ho : op.op = .slice t x (some lo) none none)
    (e : TypeId) (s : Nat) (ht : P.underlying t = some (.slice e)) (hs : (P.info? e).map (·.size) = some s) (b : Option Addr) (k c n : Nat) (hx : a.eval x = .slice b k c) (hlo : a.eval lo = .int .i64 n) (hn : n ≤ k) : YieldsIf P ops S op (cutv b k c n s) a :=
  .inl ⟨hw, fun w _ => by
    unfold execOp
    simp only [ho, hx, hlo, Option.map_some, Option.map_none, Sem.run_bind, Sem.run_pure, Result.andThen_ok, run_from w t e s ht hs b k c n hn]⟩
end Go.Proofs.Ytmdnkhpkpmbeoaa

/-
  A region that draws its order and whose last operations write what its loads read: the set S of worlds is asked till one of the operations F has come, each of which waits for every load. Plain lemmas over any program.
-/
namespace Go.Proofs.Ytmdnkhpkpmbeoaa
open Go.RowKit
set_option linter.unusedVariables false
set_option linter.unusedSimpArgs false
section
variable {P : Program} {ops : Array Oper} {Q : Exit → Act → World → Prop} {md : Region.Mode} {S : World → Prop} {F : List Nat}

def wpAnyF (P : Program) (md : Region.Mode) (ops : Array Oper) (Q : Exit → Act → World → Prop) (S : World → Prop) (F : List Nat) : Nat → Array Bool → Act → World → Prop
  | 0, listed, a, w => Region.ready md ops listed = [] ∧ Q .normal a w
  | fuel + 1, listed, a, w =>
    (Region.ready md ops listed = [] → Q .normal a w) ∧
    ∀ i ∈ Region.ready md ops listed, wpOp P ops Q i (fun a' w' => (i ∉ F → S w') ∧ wpAnyF P md ops Q S F fuel (listed.setIfInBounds i true) a' w') a w
theorem wpAny_of_F : ∀ (fuel : Nat) (listed : Array Bool) (a : Act) (w : World), wpAnyF P md ops Q S F fuel listed a w → wpAny P md ops Q fuel listed a w
  | 0, _, _, _, h => h
  | fuel + 1, _, _, _, h => ⟨h.1, fun i hi => wpOp_mono (fun a' w' h' => wpAny_of_F fuel _ a' w' h'.2) (h.2 i hi)⟩
/-- Each operation that has come has been waited for. -/
def Closed (md : Region.Mode) (ops : Array Oper) (listed : Array Bool) : Prop :=
  ∀ k ok, ops[k]? = some ok → listed.getD k true = true → k < listed.size → ∀ e ∈ ok.after, Region.binds md e = true → listed.getD e.on false = true
theorem getD_set_true (l : Array Bool) (i j : Nat) (h : l.getD j false = true) : (l.setIfInBounds i true).getD j false = true := by
  simp only [Array.getD_eq_getD_getElem?, Array.getElem?_setIfInBounds] at *
  split
  · split <;> simp_all
  · exact h
theorem Closed.step {listed : Array Bool} (h : Closed md ops listed) {j : Nat} (hj : j ∈ Region.ready md ops listed) : Closed md ops (listed.setIfInBounds j true) := by
  intro k ok hk hl hs e he hb
  refine getD_set_true _ _ _ ?_
  by_cases hkj : j = k
  · subst hkj
    obtain ⟨_, oj, hoj, hall⟩ := mem_ready.1 hj
    rw [hk] at hoj
    cases hoj
    exact hall e he hb
  · refine h k ok hk ?_ (by simpa using hs) e he hb
    rw [getD_set_ne true hkj] at hl
    exact hl
theorem wpAnyF_first {i : Nat} {oi : Oper} {v : Value} (hi : ops[i]? = some oi) (hsel : ∀ (j : Nat) (o : Oper) cs b, ops[j]? = some o → o.op ≠ .select cs b)
    (hQ : ∀ c a w, Q (.panic c) (a.put oi.dst v) w → Q (.panic c) a w) (hF : ∀ j ∈ F, ∀ oj, ops[j]? = some oj → ∃ e ∈ oj.after, Region.binds md e = true ∧ (e.on = i ∨ ∃ o2, ops[e.on]? = some o2 ∧ ∃ e2 ∈ o2.after, Region.binds md e2 = true ∧ e2.on = i)) :
    ∀ (fuel : Nat) (listed : Array Bool) (a : Act) (w : World), Closed md ops listed → 
      (∀ j oj, ops[j]? = some oj → j ≠ i → listed.getD j true = false → (∀ e ∈ oj.after, Region.binds md e = true → e.on ≠ i) → oi.apart ops oj = true) →
      i ∈ Region.ready md ops listed → YieldsIf P ops S oi v a → S w →
      wpAnyF P md ops Q S F fuel (listed.setIfInBounds i true) (a.put oi.dst v) w → wpAnyF P md ops Q S F (fuel + 1) listed a w := by
  intro fuel
  induction fuel with
  | zero =>
    intro listed a w _ _ hr hy hS H
    refine ⟨fun h => (by rw [h] at hr; cases hr), fun j hj => ?_⟩
    by_cases hji : j = i
    · subst hji
      exact hy.wpOp hi hS ⟨fun _ => hS, H⟩
    · have := ready_mono hj hji
      rw [H.1] at this
      cases this
  | succ fuel ih =>
    intro listed a w hcl hfree hr hy hS H
    refine ⟨fun h => (by rw [h] at hr; cases hr), fun j hj => ?_⟩
    by_cases hji : j = i
    · subst hji
      exact hy.wpOp hi hS ⟨fun _ => hS, H⟩
    · have h1 := H.2 j (ready_mono hj hji)
      obtain ⟨hjun, oj, hoj, hall⟩ := mem_ready.1 hj
      have hnot : ∀ e ∈ oj.after, Region.binds md e = true → e.on ≠ i := fun e he hb heq => by
        have h1 := hall e he hb
        have h0 := (mem_ready.1 hr).1
        rw [heq] at h1
        rcases Nat.lt_or_ge i listed.size with h' | h'
        · simp [h'] at h0 h1
          rw [h0] at h1
          cases h1
        · simp [Array.getElem?_eq_none h'] at h1
      have hjF : j ∉ F := fun hm => by
        obtain ⟨e, he, hb, hon | ⟨o2, ho2, e2, he2, hb2, hon⟩⟩ := hF j hm oj hoj
        · exact hnot e he hb hon
        · have h1 := hall e he hb
          have hs : e.on < listed.size := by
            rcases Nat.lt_or_ge e.on listed.size with h' | h'
            · exact h'
            · simp [Array.getElem?_eq_none h'] at h1
          have h2 : listed.getD e.on true = true := by
            simp [hs] at h1 ⊢
            exact h1
          have h3 := hcl e.on o2 ho2 h2 hs e2 he2 hb2
          have h0 := (mem_ready.1 hr).1
          rw [hon] at h3
          rcases Nat.lt_or_ge i listed.size with h' | h'
          · simp [h'] at h0 h3
            rw [h0] at h3
            cases h3
          · simp [Array.getElem?_eq_none h'] at h3
      have h2 := wpOp_putIf hoj (hfree j oj hoj hji hjun hnot) (fun cs b => hsel i oi cs b hi) (fun cs b => hsel j oj cs b hoj) hQ hy h1
      have hfree' : ∀ k ok, ops[k]? = some ok → k ≠ i → (listed.setIfInBounds j true).getD k true = false →
          (∀ e ∈ ok.after, Region.binds md e = true → e.on ≠ i) → oi.apart ops ok = true := fun k ok hk hki hun hno => by
        refine hfree k ok hk hki ?_ hno
        by_cases hjk : j = k
        · subst hjk
          exact hjun
        · rw [getD_set_ne true hjk] at hun
          exact hun
      refine wpOp_mono (fun a' w' h3 => ⟨fun _ => h3.2.1 hjF, ih (listed.setIfInBounds j true) a' w' (hcl.step hj) hfree' (ready_mono hr (Ne.symm hji)) h3.1 (h3.2.1 hjF) ?_⟩) h2
      rw [Array.setIfInBounds_comm _ _ hji]
      exact h3.2.2
/-- Whether each of F waits for i. -/
def waits (md : Region.Mode) (ops : Array Oper) (F : List Nat) (i : Nat) : Bool :=
  F.all fun j => match ops[j]? with
    | some o => o.after.toList.any fun e => Region.binds md e && (e.on == i || match ops[e.on]? with
      | some o2 => o2.after.toList.any fun e2 => Region.binds md e2 && e2.on == i
      | none => false)
    | none => true
def closed (md : Region.Mode) (ops : Array Oper) (listed : Array Bool) : Bool :=
  (List.range listed.size).all fun k => !listed.getD k true || match ops[k]? with
    | some o => o.after.toList.all fun e => !Region.binds md e || listed.getD e.on false
    | none => true
theorem closed_spec {listed : Array Bool} (h : closed md ops listed = true) : Closed md ops listed := by
  intro k ok hk hl hs e he hb
  have := List.all_eq_true.1 h k (by simpa using hs)
  rw [hl, hk] at this
  simp only [Bool.not_true, Bool.false_or] at this
  have := List.all_eq_true.1 this e (by simpa using he)
  rw [hb] at this
  simpa using this
theorem wpAnyF_take {i : Nat} {oi : Oper} {v : Value} {fuel : Nat} {listed : Array Bool} {a : Act} {w : World} (hi : ops[i]? = some oi)
    (hs : Region.noSelect ops = true) (hf : Region.free md ops listed i = true) (hr : (Region.ready md ops listed).contains i = true) (hw : waits md ops F i = true) (hc : closed md ops listed = true)
    (hQ : ∀ c a w, Q (.panic c) (a.put oi.dst v) w → Q (.panic c) a w) (hy : YieldsIf P ops S oi v a) (hS : S w)
    (h : wpAnyF P md ops Q S F fuel (listed.setIfInBounds i true) (a.put oi.dst v) w) : wpAnyF P md ops Q S F (fuel + 1) listed a w := by
  refine wpAnyF_first hi (Region.noSelect_spec hs) hQ ?_ fuel listed a w (closed_spec hc) (Region.free_spec hi hf) (by simpa using hr) hy hS h
  intro j hj oj hoj
  have := List.all_eq_true.1 hw j hj
  rw [hoj] at this
  obtain ⟨e, he, h1⟩ := List.any_eq_true.1 this
  simp only [Bool.and_eq_true, Bool.or_eq_true, beq_iff_eq] at h1
  refine ⟨e, by simpa using he, h1.1, ?_⟩
  rcases h1.2 with h2 | h2
  · exact .inl h2
  · cases ho : ops[e.on]? with
    | none => rw [ho] at h2; cases h2
    | some o2 =>
      rw [ho] at h2
      obtain ⟨e2, he2, h3⟩ := List.any_eq_true.1 h2
      simp only [Bool.and_eq_true, beq_iff_eq] at h3
      exact .inr ⟨o2, rfl, e2, by simpa using he2, h3.1, h3.2⟩
theorem wpAnyF_done {listed : Array Bool} {a : Act} {w : World} (hr : Region.ready md ops listed = []) (h : Q .normal a w) :
    ∀ fuel, wpAnyF P md ops Q S F fuel listed a w
  | 0 => ⟨hr, h⟩
  | _ + 1 => ⟨fun _ => h, by rw [hr]; simp⟩
def AllReadyF (P : Program) (md : Region.Mode) (ops : Array Oper) (Q : Exit → Act → World → Prop) (S : World → Prop) (F : List Nat) (fuel : Nat) (listed : Array Bool) (a : Act) (w : World) (rs : List Nat) : Prop :=
  ∀ i ∈ rs, wpOp P ops Q i (fun a' w' => (i ∉ F → S w') ∧ wpAnyF P md ops Q S F fuel (listed.setIfInBounds i true) a' w') a w
theorem AllReadyF.nil {fuel : Nat} {listed : Array Bool} {a : Act} {w : World} : AllReadyF P md ops Q S F fuel listed a w [] := fun _ h => by cases h
theorem AllReadyF.cons {fuel : Nat} {listed : Array Bool} {a : Act} {w : World} {i : Nat} {o : Oper} {rs : List Nat} (ho : ops[i]? = some o)
    (h : ∀ K' : Act → World → Prop, Shut (∀ a w, S w → (S w → wpAnyF P md ops Q S F fuel (listed.setIfInBounds i true) a w) → K' a w) → if Region.wanted o (yielded ops a.tmps) = true then Oper.wp P o a w K' Q else K' (a.put o.dst undef) w)
    (hs : AllReadyF P md ops Q S F fuel listed a w rs) : AllReadyF P md ops Q S F fuel listed a w (i :: rs) := fun j hj => by
  rcases List.mem_cons.1 hj with rfl | hj
  · exact wpOp_step ho (fun K' hK => h K' (fun a w hS hW => hK a w ⟨fun _ => hS, hW hS⟩))
  · exact hs j hj
theorem AllReadyF.last {fuel : Nat} {listed : Array Bool} {a : Act} {w : World} {i : Nat} {o : Oper} {rs : List Nat} (ho : ops[i]? = some o) (hF : i ∈ F)
    (h : ∀ K' : Act → World → Prop, Shut (∀ a w, (wpAnyF P md ops Q S F fuel (listed.setIfInBounds i true) a w) → K' a w) → if Region.wanted o (yielded ops a.tmps) = true then Oper.wp P o a w K' Q else K' (a.put o.dst undef) w)
    (hs : AllReadyF P md ops Q S F fuel listed a w rs) : AllReadyF P md ops Q S F fuel listed a w (i :: rs) := fun j hj => by
  rcases List.mem_cons.1 hj with rfl | hj
  · exact wpOp_step ho (fun K' hK => h K' (fun a w hW => hK a w ⟨fun hn => absurd hF hn, hW⟩))
  · exact hs j hj
theorem wpAnyF_ready {rs : List Nat} {fuel : Nat} {listed : Array Bool} {a : Act} {w : World} (hr : Region.ready md ops listed = rs) (hne : rs ≠ [])
    (h : AllReadyF P md ops Q S F fuel listed a w rs) : wpAnyF P md ops Q S F (fuel + 1) listed a w :=
  ⟨fun h0 => absurd (hr ▸ h0) hne, hr ▸ h⟩
end
theorem wp_region_F {P : Program} {ops : Array Oper} {Q : Exit → Act → World → Prop} {S : World → Prop} (F : List Nat) {id : Nat} {a : Act} {w : World} (hm : P.follows .mixedOrders = true)
    (h : wpAnyF P .any ops Q S F ops.size (Array.replicate ops.size false) a { w with drawn := w.drawn + 1 }) : (Code.region id ops true).wp P Q a w :=
  wp_region_any hm (wpAny_of_F _ _ _ _ h)
end Go.Proofs.Ytmdnkhpkpmbeoaa

/-
  A region that draws its order, by an invariant: each operation once, whatever came before it. Plain lemmas over any program.
-/
namespace Go.Proofs.Ytmdnkhpkpmbeoaa
open Go.RowKit
set_option linter.unusedVariables false
set_option linter.unusedSimpArgs false

def ordB (ops : Array Oper) : Bool := (List.range ops.size).all fun i => match ops[i]? with | some o => o.after.all fun e => decide (e.on < i) | none => true

theorem all_listed {md : Region.Mode} {ops : Array Oper} (ho : ordB ops = true) {listed : Array Bool} (hl : listed.size = ops.size) (hr : Region.ready md ops listed = []) : ∀ i, i < ops.size → listed.getD i false = true := by
  intro i
  induction i using Nat.strongRecOn with
  | _ i ih =>
    intro hi
    cases hb : listed.getD i false with
    | true => rfl
    | false =>
      exfalso
      have hil : i < listed.size := by omega
      have h1 := List.all_eq_true.1 ho i (List.mem_range.2 hi)
      have h2 : ops[i]? = some ops[i] := Array.getElem?_eq_getElem hi
      rw [h2] at h1
      have hm : i ∈ Region.ready md ops listed := mem_ready.2 ⟨by simp [hil] at hb ⊢; exact hb, _, h2, fun e he _ => by
        have h3 := of_decide_eq_true (Array.all_eq_true'.1 h1 e he)
        exact ih _ h3 (by omega)⟩
      rw [hr] at hm
      cases hm

theorem count_set {l : Array Bool} {i : Nat} (h : l.getD i true = false) (hi : i < l.size) : (l.setIfInBounds i true).toList.count false + 1 = l.toList.count false := by
  have h2 : l.toList[i]'(by simpa using hi) = false := by simpa [hi] using h
  have h3 : 0 < l.toList.count false := List.count_pos_iff.2 (h2 ▸ List.getElem_mem _)
  rw [Array.toList_setIfInBounds, List.count_set (by simpa using hi)]
  have e : (l.toList[i]'(by simpa using hi) == false) = true := by rw [h2]; rfl
  have e2 : (true == false) = false := rfl
  rw [e, e2, if_pos rfl, if_neg (by simp)]
  omega

theorem wpAny_inv {P : Program} {md : Region.Mode} {ops : Array Oper} {Q : Exit → Act → World → Prop} (Inv : (Nat → Bool) → Act → World → Prop) (ho : ordB ops = true)
    (hstep : ∀ i o, ops[i]? = some o → ∀ L a w, L i = false → (∀ e ∈ o.after, Region.binds md e = true → L e.on = true) → Inv L a w → ∀ K' : Act → World → Prop, Shut (∀ a w, Inv (fun j => decide (j = i) || L j) a w → K' a w) → if Region.wanted o (yielded ops a.tmps) = true then Oper.wp P o a w K' Q else K' (a.put o.dst undef) w)
    (hdone : ∀ L a w, (∀ i, i < ops.size → L i = true) → Inv L a w → Q .normal a w) :
    ∀ (fuel : Nat) (listed : Array Bool) (a : Act) (w : World), listed.size = ops.size → listed.toList.count false = fuel → Inv (fun j => listed.getD j false) a w → wpAny P md ops Q fuel listed a w := by
  intro fuel
  induction fuel with
  | zero =>
    intro listed a w hs hc hI
    have hall : ∀ i, i < ops.size → listed.getD i false = true := by
      intro i hi
      have hil : i < listed.size := by omega
      cases hb : listed.getD i false with
      | true => rfl
      | false =>
        have := List.count_eq_zero.1 hc
        exact absurd (by rw [← hb]; simp [hil]) this
    refine ⟨?_, hdone _ _ _ hall hI⟩
    cases hr : Region.ready md ops listed with
    | nil => rfl
    | cons x xs =>
      obtain ⟨h1, o, h2, _⟩ := mem_ready.1 (hr ▸ List.mem_cons_self : x ∈ Region.ready md ops listed)
      have hx : x < ops.size := (Array.getElem?_eq_some_iff.1 h2).1
      have := hall x hx
      have hil : x < listed.size := by omega
      simp [hil] at this h1
      rw [this] at h1
      cases h1
  | succ fuel ih =>
    intro listed a w hs hc hI
    refine ⟨fun hr => hdone _ _ _ (all_listed ho hs hr) hI, fun i hi => ?_⟩
    obtain ⟨h1, o, h2, h3⟩ := mem_ready.1 hi
    have hx : i < ops.size := (Array.getElem?_eq_some_iff.1 h2).1
    have hil : i < listed.size := by omega
    refine wpOp_step h2 (fun K' hK => hstep i o h2 _ a w (by simp [hil] at h1 ⊢; exact h1) h3 hI K' (fun a' w' hI' => hK a' w' (ih _ a' w' (by simpa using hs) (by have := count_set h1 hil; omega) ?_)))
    have e : (fun j => (listed.setIfInBounds i true).getD j false) = fun j => decide (j = i) || listed.getD j false := by
      funext j
      by_cases hj : j = i
      · subst hj; simp [hil]
      · have : ¬ i = j := fun h => hj h.symm
        simp only [Array.getD_eq_getD_getElem?, Array.getElem?_setIfInBounds, hj, this, if_false, decide_false, Bool.false_or]
    rw [e]
    exact hI'

theorem wp_region_inv {P : Program} {ops : Array Oper} {Q : Exit → Act → World → Prop} (Inv : (Nat → Bool) → Act → World → Prop) {id : Nat} {a : Act} {w : World} (hm : P.follows .mixedOrders = true) (ho : ordB ops = true)
    (h0 : Inv (fun _ => false) a w.drew)
    (hstep : ∀ i o, ops[i]? = some o → ∀ L a w, L i = false → (∀ e ∈ o.after, Region.binds .any e = true → L e.on = true) → Inv L a w → ∀ K' : Act → World → Prop, Shut (∀ a w, Inv (fun j => decide (j = i) || L j) a w → K' a w) → if Region.wanted o (yielded ops a.tmps) = true then Oper.wp P o a w K' Q else K' (a.put o.dst undef) w)
    (hdone : ∀ L a w, (∀ i, i < ops.size → L i = true) → Inv L a w → Q .normal a w) : (Code.region id ops true).wp P Q a w := by
  refine wp_region_any hm (wpAny_inv Inv ho hstep hdone _ _ _ _ (by simp) (by simp) ?_)
  have e : (fun j => (Array.replicate ops.size false).getD j false) = fun _ => false := by
    funext j
    simp only [Array.getD_eq_getD_getElem?, Array.getElem?_replicate]
    split <;> rfl
  rw [e]
  exact h0
end Go.Proofs.Ytmdnkhpkpmbeoaa

/-
  The statements' someOutput.
-/
namespace Go.Proofs.Ytmdnkhpkpmbeoaa
open Go.RowKit
set_option linter.unusedVariables false
set_option linter.unusedSimpArgs false

def zO : List Value := encO ⟨0, 0, 0, ⟨#[]⟩, noAd, 0, false⟩
/-- What someOutput makes of an output. -/
def someO0 (o : O) : O := ⟨1 + gmod o.k 7, gmod o.c 2, gmod o.a 3, o.d, noAd, 80, false⟩
def someO (o : O) : O := if gmod o.p 11 = 10 then o else if 1 + gmod o.k 7 = 4 ∧ gmod o.a 3 = 0 then { someO0 o with a := 1 } else someO0 o
theorem wf_small {x : Int} (h : -1000000 ≤ x) (h2 : x ≤ 1000000) : wf x := by
  simp [wf, Lit.wf, IntKind.min, IntKind.max, IntKind.signed, IntKind.bits]
  omega
theorem someO0_ok {o : O} (ok : OkO o) : OkO (someO0 o) := by
  have h1 := gmod_lo o.k 7 (by omega)
  have h2 := gmod_hi o.k 7 (by omega)
  have h3 := gmod_lo o.c 2 (by omega)
  have h4 := gmod_hi o.c 2 (by omega)
  have h5 := gmod_lo o.a 3 (by omega)
  have h6 := gmod_hi o.a 3 (by omega)
  exact ⟨wf_small (by simp [someO0]; omega) (by simp [someO0]; omega), wf_small (by simp [someO0]; omega) (by simp [someO0]; omega), wf_small (by simp [someO0]; omega) (by simp [someO0]; omega), wf_small (by simp [someO0]) (by simp [someO0]), ok.d, noAd_is⟩
theorem someO_ok {o : O} (ok : OkO o) : OkO (someO o) := by
  unfold someO
  split
  · exact ok
  · split
    · exact ⟨(someO0_ok ok).k, (someO0_ok ok).c, wf_small (by simp) (by simp), (someO0_ok ok).p, (someO0_ok ok).d, (someO0_ok ok).ad⟩
    · exact someO0_ok ok
theorem built_some (k c a : Int) (d : ByteArray) : Try.prog.built 36 [(0, .int .i64 k), (1, .int .i64 c), (2, .int .i64 a), (3, .string d), (5, .int .i64 80)] = some (encO ⟨k, c, a, d, noAd, 80, false⟩).toArray := by kernel_rfl
theorem exec_builtY {a : Act} {w : World} (op : Oper) (t : TypeId) (parts : Array (Nat × Operand)) (ho : op.op = .build t parts)
    (vals : List (Nat × Value)) (cells : Array Value) (hv : (parts.toList.map fun p => (p.1, a.eval p.2)) = vals) (hb : Try.prog.built t vals = some cells) : (execOp a.eval op).run Try.prog w = .ok (.value (.agg cells)) w := by
  have hr := run_build (P := Try.prog) w t (parts.map fun (i, x) => (i, a.eval x)) cells (by rw [Array.toList_map, ← hb, ← hv])
  unfold execOp
  simp only [ho, Sem.run_bind, hr, Result.andThen_ok, Sem.run_pure]
set_option maxRecDepth 100000 in
set_option maxHeartbeats 4000000 in
theorem some_any (o : O) (ok : OkO o) (w : World) : Calls Try.prog 32 #[.agg (encO o).toArray] w fun e w' => e = .returned (.agg (encO (someO o)).toArray) ∧ Touch [] w w' := by
  have T1 := Lib.hid (((Touch.refl [] w).alloc (.cells (encO o).toArray 36)).alloc (.cells #[.int .i64 0, .int .i64 0, .int .i64 0, .string ⟨#[]⟩, .bool false, .int .u8 0, .int .u8 0, .int .u8 0, .int .u8 0, .int .u8 0, .int .u8 0, .int .u8 0, .int .u8 0, .int .u8 0, .int .u8 0, .int .u8 0, .int .u8 0, .int .u8 0, .int .u8 0, .int .u8 0, .int .u8 0, .int .i64 0, .bool false] 36))
  have HA := Lib.hid (((Touch.refl [] (w.alloc (.cells (encO o).toArray 36))).alloc (.cells #[.int .i64 0, .int .i64 0, .int .i64 0, .string ⟨#[]⟩, .bool false, .int .u8 0, .int .u8 0, .int .u8 0, .int .u8 0, .int .u8 0, .int .u8 0, .int .u8 0, .int .u8 0, .int .u8 0, .int .u8 0, .int .u8 0, .int .u8 0, .int .u8 0, .int .u8 0, .int .u8 0, .int .u8 0, .int .i64 0, .bool false] 36)).at (heap_alloc_new w (.cells (encO o).toArray 36)) (by simp))
  have HZ := Lib.hid (heap_alloc2_new w (.cells (encO o).toArray 36) (.cells #[.int .i64 0, .int .i64 0, .int .i64 0, .string ⟨#[]⟩, .bool false, .int .u8 0, .int .u8 0, .int .u8 0, .int .u8 0, .int .u8 0, .int .u8 0, .int .u8 0, .int .u8 0, .int .u8 0, .int .u8 0, .int .u8 0, .int .u8 0, .int .u8 0, .int .u8 0, .int .u8 0, .int .u8 0, .int .i64 0, .bool false] 36))
  obtain ⟨c0, c1, c2, c3, c21, _⟩ := O.gets ok
  have OK := Lib.hid ok
  by_cases h1 : gmod o.p 11 = 10
  · have q1 : (gmod o.p 11 == 10) = true := by simp [h1]
    have he : someO o = o := by simp [someO, h1]
    rw [he]
    clear h1 he ok
    go_enter Try.func32, Try.ntmps32
    go_wp2_with fail
    refine (mod_any _ _ _ (by omega) (by omega)).mono ?_
    rintro e w' ⟨rfl, rfl⟩
    have r1 := range_block HA.out
    go_wp2_with (first
      | ((with_reducible refine at_load 36 ?_); refine wpList_load_mid rfl 36 _ rfl w.heap.size 0 rfl (encO o) _ r1 Try.underlying36 rfl (by rw [infoO, OK.out.len]) ?_)
      | ((with_reducible refine at_store 36 ?_); refine wpList_store_into rfl 36 _ _ rfl (w.heap.size + 1) 36 _ (encO o) rfl rfl HZ.out (by rw [OK.out.len]; rfl) (by rw [infoO, OK.out.len]) OK.out.one ?_))
    intro w5 h5 t5 z5
    go_wp2_with fail
    exact ret_row rfl infoO Try.underlying36 rfl OK.out.len rfl h5 ⟨rfl, T1.out.trans t5 (by simp)⟩
  have q1 : (gmod o.p 11 == 10) = false := by simp [h1]
  go_enter Try.func32, Try.ntmps32
  go_wp2_with fail
  refine (mod_any _ _ _ (by omega) (by omega)).mono ?_
  rintro e w' ⟨rfl, rfl⟩
  go_wp2_with fail
  clear c0 c1 c2 c3 c21
  obtain ⟨g0, hg0⟩ : ∃ g0, g0 = w.heap.size := ⟨_, rfl⟩
  rw [← hg0] at HA HZ ⊢
  generalize hW1 : ((w.alloc (.cells (encO o).toArray 36)).alloc (.cells #[.int .i64 0, .int .i64 0, .int .i64 0, .string ⟨#[]⟩, .bool false, .int .u8 0, .int .u8 0, .int .u8 0, .int .u8 0, .int .u8 0, .int .u8 0, .int .u8 0, .int .u8 0, .int .u8 0, .int .u8 0, .int .u8 0, .int .u8 0, .int .u8 0, .int .u8 0, .int .u8 0, .int .u8 0, .int .i64 0, .bool false] 36)) = W1 at *
  have HG0 := Lib.hid hg0
  clear hW1 hg0
  have tD := (Touch.refl [] W1).drew
  have HRA := Lib.hid (range_block (tD.at HA.out (by simp)))
  have HZD := Lib.hid (tD.at HZ.out (by simp))
  have T2 := Lib.hid (T1.out.trans tD (by simp))
  obtain ⟨W, hW⟩ : ∃ W, W = W1.drew := ⟨_, rfl⟩
  refine wp_region_held (S := Touch [] W) (by kernel_rfl) ?_
  change wpAnyH _ _ _ _ _ _ _ _ W1.drew
  rw [← hW] at HRA HZD T2 ⊢
  clear hW tD HA HZ T1 ok
  have hS := Touch.refl [] W
  have hk1 : IntKind.i64.wrap (1 + gmod o.k 7) = 1 + gmod o.k 7 := by
    have h1 := gmod_lo o.k 7 (by omega)
    have h2 := gmod_hi o.k 7 (by omega)
    rw [IntKind.wrap_i64] <;> omega
  have HBL := Lib.hid (built_some (1 + gmod o.k 7) (gmod o.c 2) (gmod o.a 3) o.d)
  obtain ⟨c0, c1, c2, c3, _, _, _⟩ := O.cells OK.out HRA.out
  simp only [Nat.zero_add] at c0 c1 c2 c3
  refine wpAnyH_take (i := 0) (oi := { dst := some 9, op := Op.fieldAddr 36 (Operand.tmp 1) 0, type := 0, pos := "law.go:24", after := #[], guard := none }) (v := .pointer (some ⟨g0, 0, none⟩)) rfl (by kernel_rfl) (by kernel_rfl) (by kernel_rfl) (fun _ _ _ h => h) (Or.inl ⟨by rfl, fun w' hw => by go_simp⟩) hS ?_
  try simp only [Act.put, List.setIfInBounds_toArray, List.set_cons_zero, List.set_cons_succ]
  refine wpAnyH_take (i := 1) (oi := { dst := some 10, op := Op.load 3 (Operand.tmp 9), type := 3, pos := "law.go:24", after := #[{ on := 0, ground := Ground.data }], guard := none }) (v := .int .i64 o.k) rfl (by kernel_rfl) (by kernel_rfl) (by kernel_rfl) (fun _ _ _ h => h) (Or.inl ⟨by rfl, fun w' hw => by (have q := hw.cell c0 (by simp); go_simp)⟩) hS ?_
  try simp only [Act.put, List.setIfInBounds_toArray, List.set_cons_zero, List.set_cons_succ]
  refine wpAnyH_take (i := 4) (oi := { dst := some 13, op := Op.fieldAddr 36 (Operand.tmp 1) 1, type := 0, pos := "law.go:24", after := #[], guard := none }) (v := .pointer (some ⟨g0, 1, none⟩)) rfl (by kernel_rfl) (by kernel_rfl) (by kernel_rfl) (fun _ _ _ h => h) (Or.inl ⟨by rfl, fun w' hw => by go_simp⟩) hS ?_
  try simp only [Act.put, List.setIfInBounds_toArray, List.set_cons_zero, List.set_cons_succ]
  refine wpAnyH_take (i := 5) (oi := { dst := some 14, op := Op.load 3 (Operand.tmp 13), type := 3, pos := "law.go:24", after := #[{ on := 4, ground := Ground.data }], guard := none }) (v := .int .i64 o.c) rfl (by kernel_rfl) (by kernel_rfl) (by kernel_rfl) (fun _ _ _ h => h) (Or.inl ⟨by rfl, fun w' hw => by (have q := hw.cell c1 (by simp); go_simp)⟩) hS ?_
  try simp only [Act.put, List.setIfInBounds_toArray, List.set_cons_zero, List.set_cons_succ]
  refine wpAnyH_take (i := 7) (oi := { dst := some 16, op := Op.fieldAddr 36 (Operand.tmp 1) 2, type := 0, pos := "law.go:24", after := #[], guard := none }) (v := .pointer (some ⟨g0, 2, none⟩)) rfl (by kernel_rfl) (by kernel_rfl) (by kernel_rfl) (fun _ _ _ h => h) (Or.inl ⟨by rfl, fun w' hw => by go_simp⟩) hS ?_
  try simp only [Act.put, List.setIfInBounds_toArray, List.set_cons_zero, List.set_cons_succ]
  refine wpAnyH_take (i := 8) (oi := { dst := some 17, op := Op.load 3 (Operand.tmp 16), type := 3, pos := "law.go:24", after := #[{ on := 7, ground := Ground.data }], guard := none }) (v := .int .i64 o.a) rfl (by kernel_rfl) (by kernel_rfl) (by kernel_rfl) (fun _ _ _ h => h) (Or.inl ⟨by rfl, fun w' hw => by (have q := hw.cell c2 (by simp); go_simp)⟩) hS ?_
  try simp only [Act.put, List.setIfInBounds_toArray, List.set_cons_zero, List.set_cons_succ]
  refine wpAnyH_take (i := 10) (oi := { dst := some 19, op := Op.fieldAddr 36 (Operand.tmp 1) 3, type := 0, pos := "law.go:24", after := #[], guard := none }) (v := .pointer (some ⟨g0, 3, none⟩)) rfl (by kernel_rfl) (by kernel_rfl) (by kernel_rfl) (fun _ _ _ h => h) (Or.inl ⟨by rfl, fun w' hw => by go_simp⟩) hS ?_
  try simp only [Act.put, List.setIfInBounds_toArray, List.set_cons_zero, List.set_cons_succ]
  refine wpAnyH_take (i := 11) (oi := { dst := some 20, op := Op.load 9 (Operand.tmp 19), type := 9, pos := "law.go:24", after := #[{ on := 10, ground := Ground.data }], guard := none }) (v := .string o.d) rfl (by kernel_rfl) (by kernel_rfl) (by kernel_rfl) (fun _ _ _ h => h) (Or.inl ⟨by rfl, fun w' hw => by (have q := hw.cell c3 (by simp); go_simp)⟩) hS ?_
  try simp only [Act.put, List.setIfInBounds_toArray, List.set_cons_zero, List.set_cons_succ]
  refine wpAnyH_ready (rs := [2, 13]) (by kernel_rfl) (by simp) ?_
  refine AllReadyH.cons (o := { dst := some 11, op := Op.call { callee := Callee.value (Operand.func 8), args := #[Operand.tmp 10, Operand.const (Value.int IntKind.i64 7)], argTypes := #[3, 3] }, type := 3, pos := "law.go:24", after := #[{ on := 1, ground := Ground.data }], guard := none }) rfl (fun K hK => ?_) (AllReadyH.cons (o := { dst := some 3, op := Op.alloc 36, type := 0, pos := "law.go:24", after := #[], guard := none }) rfl (fun K hK => ?_) AllReadyH.nil)
  · go_simp
    refine (mod_any _ _ _ (by omega) (by omega)).mono ?_
    rintro e w' ⟨rfl, rfl⟩
    refine hK.out _ _ hS (fun _ => ?_)
    clear hK K
    try simp only [Act.put, List.setIfInBounds_toArray, List.set_cons_zero, List.set_cons_succ]
    refine wpAnyH_take (i := 3) (oi := { dst := some 12, op := Op.binOp BinOp.add 3 (Operand.const (Value.int IntKind.i64 1)) (Operand.tmp 11) 3, type := 3, pos := "law.go:24", after := #[{ on := 2, ground := Ground.data }], guard := none }) (v := .int .i64 (1 + gmod o.k 7)) rfl (by kernel_rfl) (by kernel_rfl) (by kernel_rfl) (fun _ _ _ h => h) (Or.inl ⟨by rfl, fun w' hw => by go_simp⟩) hS ?_
    try simp only [Act.put, List.setIfInBounds_toArray, List.set_cons_zero, List.set_cons_succ]
    refine wpAnyH_ready (rs := [6, 13]) (by kernel_rfl) (by simp) ?_
    refine AllReadyH.cons (o := { dst := some 15, op := Op.call { callee := Callee.value (Operand.func 8), args := #[Operand.tmp 14, Operand.const (Value.int IntKind.i64 2)], argTypes := #[3, 3] }, type := 3, pos := "law.go:24", after := #[{ on := 5, ground := Ground.data }, { on := 2, ground := Ground.chain }], guard := none }) rfl (fun K hK => ?_) (AllReadyH.cons (o := { dst := some 3, op := Op.alloc 36, type := 0, pos := "law.go:24", after := #[], guard := none }) rfl (fun K hK => ?_) AllReadyH.nil)
    · go_simp
      refine (mod_any _ _ _ (by omega) (by omega)).mono ?_
      rintro e w' ⟨rfl, rfl⟩
      refine hK.out _ _ hS (fun _ => ?_)
      clear hK K
      try simp only [Act.put, List.setIfInBounds_toArray, List.set_cons_zero, List.set_cons_succ]
      refine wpAnyH_ready (rs := [9, 13]) (by kernel_rfl) (by simp) ?_
      refine AllReadyH.cons (o := { dst := some 18, op := Op.call { callee := Callee.value (Operand.func 8), args := #[Operand.tmp 17, Operand.const (Value.int IntKind.i64 3)], argTypes := #[3, 3] }, type := 3, pos := "law.go:24", after := #[{ on := 8, ground := Ground.data }, { on := 6, ground := Ground.chain }], guard := none }) rfl (fun K hK => ?_) (AllReadyH.cons (o := { dst := some 3, op := Op.alloc 36, type := 0, pos := "law.go:24", after := #[], guard := none }) rfl (fun K hK => ?_) AllReadyH.nil)
      · go_simp
        refine (mod_any _ _ _ (by omega) (by omega)).mono ?_
        rintro e w' ⟨rfl, rfl⟩
        refine hK.out _ _ hS (fun _ => ?_)
        clear hK K
        try simp only [Act.put, List.setIfInBounds_toArray, List.set_cons_zero, List.set_cons_succ]
        refine wpAnyH_take (i := 12) (oi := { dst := some 21, op := Op.build 36 #[(0, Operand.tmp 12), (1, Operand.tmp 15), (2, Operand.tmp 18), (3, Operand.tmp 20), (5, Operand.const (Value.int IntKind.i64 80))], type := 36, pos := "law.go:24", after := #[{ on := 3, ground := Ground.data }, { on := 6, ground := Ground.data }, { on := 9, ground := Ground.data }, { on := 11, ground := Ground.data }], guard := none }) (v := .agg (encO (someO0 o)).toArray) rfl (by kernel_rfl) (by kernel_rfl) (by kernel_rfl) (fun _ _ _ h => h) (Or.inl ⟨by rfl, fun w' hw => exec_builtY _ 36 _ rfl [(0, .int .i64 (1 + gmod o.k 7)), (1, .int .i64 (gmod o.c 2)), (2, .int .i64 (gmod o.a 3)), (3, .string o.d), (5, .int .i64 80)] _ rfl HBL.out⟩) hS ?_
        try simp only [Act.put, List.setIfInBounds_toArray, List.set_cons_zero, List.set_cons_succ]
        refine wpAnyH_ready (rs := [13]) (by kernel_rfl) (by simp) ?_
        refine AllReadyH.cons (o := { dst := some 3, op := Op.alloc 36, type := 0, pos := "law.go:24", after := #[], guard := none }) rfl (fun K hK => ?_) AllReadyH.nil
        go_simp
        have hS2 := hS.alloc (.cells #[.int .i64 0, .int .i64 0, .int .i64 0, .string ⟨#[]⟩, .bool false, .int .u8 0, .int .u8 0, .int .u8 0, .int .u8 0, .int .u8 0, .int .u8 0, .int .u8 0, .int .u8 0, .int .u8 0, .int .u8 0, .int .u8 0, .int .u8 0, .int .u8 0, .int .u8 0, .int .u8 0, .int .u8 0, .int .i64 0, .bool false] 36)
        have HX := Lib.hid (heap_alloc_new W (.cells #[.int .i64 0, .int .i64 0, .int .i64 0, .string ⟨#[]⟩, .bool false, .int .u8 0, .int .u8 0, .int .u8 0, .int .u8 0, .int .u8 0, .int .u8 0, .int .u8 0, .int .u8 0, .int .u8 0, .int .u8 0, .int .u8 0, .int .u8 0, .int .u8 0, .int .u8 0, .int .u8 0, .int .u8 0, .int .i64 0, .bool false] 36))
        have HZ2 := Lib.hid (((Touch.refl [] W).alloc (.cells #[.int .i64 0, .int .i64 0, .int .i64 0, .string ⟨#[]⟩, .bool false, .int .u8 0, .int .u8 0, .int .u8 0, .int .u8 0, .int .u8 0, .int .u8 0, .int .u8 0, .int .u8 0, .int .u8 0, .int .u8 0, .int .u8 0, .int .u8 0, .int .u8 0, .int .u8 0, .int .u8 0, .int .u8 0, .int .i64 0, .bool false] 36)).at HZD.out (by simp))
        refine hK.out _ _ hS2 (fun _ => ?_)
        clear hK K hS
        have hS := hS2
        clear hS2
        try simp only [Act.put, List.setIfInBounds_toArray, List.set_cons_zero, List.set_cons_succ]
        refine wpAnyH_ready (rs := [14]) (by kernel_rfl) (by simp) ?_
        refine AllReadyH.cons (o := { dst := none, op := Op.store 36 (Operand.tmp 3) (Operand.tmp 21), type := 0, pos := "law.go:24", after := #[{ on := 13, ground := Ground.data }, { on := 12, ground := Ground.data }, { on := 9, ground := Ground.chain }, { on := 0, ground := Ground.phase }, { on := 1, ground := Ground.phase }, { on := 2, ground := Ground.phase }, { on := 3, ground := Ground.phase }, { on := 4, ground := Ground.phase }, { on := 5, ground := Ground.phase }, { on := 6, ground := Ground.phase }, { on := 7, ground := Ground.phase }, { on := 8, ground := Ground.phase }, { on := 9, ground := Ground.phase }, { on := 10, ground := Ground.phase }, { on := 11, ground := Ground.phase }, { on := 12, ground := Ground.phase }, { on := 13, ground := Ground.phase }], guard := none }) rfl (fun K hK => ?_) AllReadyH.nil
        refine step_of_list rfl ?_
        refine wpList_store_into rfl 36 _ _ rfl W.heap.size 36 _ (encO (someO0 o)) rfl rfl HX.out (by rw [(someO0_ok OK.out).len]; rfl) (by rw [infoO, (someO0_ok OK.out).len]) (someO0_ok OK.out).one ?_
        intro w5 h5 t5 z5
        have hS2 := hS.trans t5 (by simp)
        refine ⟨rfl, hK.out _ _ hS2 (fun _ => ?_)⟩
        clear hK K hS
        have hS := hS2
        clear hS2
        try simp only [Act.put, List.setIfInBounds_toArray, List.set_cons_zero, List.set_cons_succ]
        refine wpAnyH_done (by kernel_rfl) ?_ _
        try simp only [Act.put, List.setIfInBounds_toArray, List.set_cons_zero, List.set_cons_succ]
        have hgl := (Array.getElem?_eq_some_iff.1 HZD.out).1
        have HZ5 := Lib.hid (t5.at HZ2.out (by simp; omega))
        have T5 := Lib.hid (T2.out.trans hS (by simp))
        have H5 := Lib.hid h5
        have OK0 := Lib.hid (someO0_ok OK.out)
        have hwg := T2.out.size
        have hgw : w.heap.size ≤ g0 := by have := HG0.out; omega
        obtain ⟨d0, _, d2, _, _, _, _⟩ := O.cells OK0.out (range_block H5.out)
        simp only [Nat.zero_add, someO0] at d0 d2
        clear h5 t5 z5 hS c0 c1 c2 c3
        generalize W.heap.size = X at *
        by_cases h4 : 1 + gmod o.k 7 = 4
        · have q4 : (1 + gmod o.k 7 == 4) = true := by simp [h4]
          by_cases h0 : gmod o.a 3 = 0
          · have q0 : (gmod o.a 3 == 0) = true := by simp [h0]
            have f2 : w5.frozen? ⟨X, 2, none⟩ = false := by simp [World.frozen?, H5.out]
            have HE := Lib.hid (show someO o = { someO0 o with a := 1 } by simp [someO, h1, h4, h0])
            have OK1 := Lib.hid (show OkO { someO0 o with a := 1 } by have := someO_ok OK.out; rwa [HE.out] at this)
            clear h4 h0 h1
            go_upto_region 6 with (fail)
            have t6 := (Touch.refl [X] w5).setCell (p := ⟨X, 2, none⟩) (by simp) (.int .i64 1)
            have H6 := Lib.hid (show (w5.setCell ⟨X, 2, none⟩ (.int .i64 1)).heap[X]? = some (.cells (encO { someO0 o with a := 1 }).toArray 36 (0, 0)) by
              simp [World.setCell, Array.getElem?_modify, H5.out]
              rfl)
            have HZ6 := Lib.hid (t6.at HZ5.out (by simp; omega))
            have T6 := Lib.hid (T5.out.trans t6 (by intro y hy; right; simp at hy; omega))
            have r5 := range_block H6.out
            clear d0 d2 f2 t6
            generalize w5.setCell ⟨X, 2, none⟩ (.int .i64 1) = w7 at *
            go_wp2_with (first
              | ((with_reducible refine at_load 36 ?_); refine wpList_load_mid rfl 36 _ rfl X 0 rfl (encO { someO0 o with a := 1 }) _ r5 Try.underlying36 rfl (by rw [infoO, OK1.out.len]) ?_)
              | ((with_reducible refine at_store 36 ?_); refine wpList_store_into rfl 36 _ _ rfl (g0 + 1) 36 _ (encO { someO0 o with a := 1 }) rfl rfl HZ6.out (by rw [OK1.out.len]; rfl) (by rw [infoO, OK1.out.len]) OK1.out.one ?_))
            intro w6 h6 t6 z6
            go_wp2_with fail
            exact ret_row rfl infoO Try.underlying36 rfl OK1.out.len rfl h6 ⟨by rw [HE.out], T6.out.trans t6 (by intro y hy; right; simp at hy; omega)⟩
          · have q0 : (gmod o.a 3 == 0) = false := by simp [h0]
            have HE := Lib.hid (show someO o = someO0 o by simp [someO, h1, h0])
            have r5 := range_block H5.out
            clear h4 h0 h1
            go_wp2_with (first
              | ((with_reducible refine at_load 36 ?_); refine wpList_load_mid rfl 36 _ rfl X 0 rfl (encO (someO0 o)) _ r5 Try.underlying36 rfl (by rw [infoO, OK0.out.len]) ?_)
              | ((with_reducible refine at_store 36 ?_); refine wpList_store_into rfl 36 _ _ rfl (g0 + 1) 36 _ (encO (someO0 o)) rfl rfl HZ5.out (by rw [OK0.out.len]; rfl) (by rw [infoO, OK0.out.len]) OK0.out.one ?_))
            intro w6 h6 t6 z6
            go_wp2_with fail
            exact ret_row rfl infoO Try.underlying36 rfl OK0.out.len rfl h6 ⟨by rw [HE.out], T5.out.trans t6 (by intro y hy; right; simp at hy; omega)⟩
        · have q4 : (1 + gmod o.k 7 == 4) = false := by simp [h4]
          have HE := Lib.hid (show someO o = someO0 o by simp [someO, h1, h4])
          have r5 := range_block H5.out
          clear h4 h1
          go_wp2_with (first
            | ((with_reducible refine at_load 36 ?_); refine wpList_load_mid rfl 36 _ rfl X 0 rfl (encO (someO0 o)) _ r5 Try.underlying36 rfl (by rw [infoO, OK0.out.len]) ?_)
            | ((with_reducible refine at_store 36 ?_); refine wpList_store_into rfl 36 _ _ rfl (g0 + 1) 36 _ (encO (someO0 o)) rfl rfl HZ5.out (by rw [OK0.out.len]; rfl) (by rw [infoO, OK0.out.len]) OK0.out.one ?_))
          intro w6 h6 t6 z6
          go_wp2_with fail
          exact ret_row rfl infoO Try.underlying36 rfl OK0.out.len rfl h6 ⟨by rw [HE.out], T5.out.trans t6 (by intro y hy; right; simp at hy; omega)⟩
      · go_simp
        have hS2 := hS.alloc (.cells #[.int .i64 0, .int .i64 0, .int .i64 0, .string ⟨#[]⟩, .bool false, .int .u8 0, .int .u8 0, .int .u8 0, .int .u8 0, .int .u8 0, .int .u8 0, .int .u8 0, .int .u8 0, .int .u8 0, .int .u8 0, .int .u8 0, .int .u8 0, .int .u8 0, .int .u8 0, .int .u8 0, .int .u8 0, .int .i64 0, .bool false] 36)
        have HX := Lib.hid (heap_alloc_new W (.cells #[.int .i64 0, .int .i64 0, .int .i64 0, .string ⟨#[]⟩, .bool false, .int .u8 0, .int .u8 0, .int .u8 0, .int .u8 0, .int .u8 0, .int .u8 0, .int .u8 0, .int .u8 0, .int .u8 0, .int .u8 0, .int .u8 0, .int .u8 0, .int .u8 0, .int .u8 0, .int .u8 0, .int .u8 0, .int .i64 0, .bool false] 36))
        have HZ2 := Lib.hid (((Touch.refl [] W).alloc (.cells #[.int .i64 0, .int .i64 0, .int .i64 0, .string ⟨#[]⟩, .bool false, .int .u8 0, .int .u8 0, .int .u8 0, .int .u8 0, .int .u8 0, .int .u8 0, .int .u8 0, .int .u8 0, .int .u8 0, .int .u8 0, .int .u8 0, .int .u8 0, .int .u8 0, .int .u8 0, .int .u8 0, .int .u8 0, .int .i64 0, .bool false] 36)).at HZD.out (by simp))
        refine hK.out _ _ hS2 (fun _ => ?_)
        clear hK K hS
        have hS := hS2
        clear hS2
        try simp only [Act.put, List.setIfInBounds_toArray, List.set_cons_zero, List.set_cons_succ]
        refine wpAnyH_ready (rs := [9]) (by kernel_rfl) (by simp) ?_
        refine AllReadyH.cons (o := { dst := some 18, op := Op.call { callee := Callee.value (Operand.func 8), args := #[Operand.tmp 17, Operand.const (Value.int IntKind.i64 3)], argTypes := #[3, 3] }, type := 3, pos := "law.go:24", after := #[{ on := 8, ground := Ground.data }, { on := 6, ground := Ground.chain }], guard := none }) rfl (fun K hK => ?_) AllReadyH.nil
        go_simp
        refine (mod_any _ _ _ (by omega) (by omega)).mono ?_
        rintro e w' ⟨rfl, rfl⟩
        refine hK.out _ _ hS (fun _ => ?_)
        clear hK K
        try simp only [Act.put, List.setIfInBounds_toArray, List.set_cons_zero, List.set_cons_succ]
        refine wpAnyH_take (i := 12) (oi := { dst := some 21, op := Op.build 36 #[(0, Operand.tmp 12), (1, Operand.tmp 15), (2, Operand.tmp 18), (3, Operand.tmp 20), (5, Operand.const (Value.int IntKind.i64 80))], type := 36, pos := "law.go:24", after := #[{ on := 3, ground := Ground.data }, { on := 6, ground := Ground.data }, { on := 9, ground := Ground.data }, { on := 11, ground := Ground.data }], guard := none }) (v := .agg (encO (someO0 o)).toArray) rfl (by kernel_rfl) (by kernel_rfl) (by kernel_rfl) (fun _ _ _ h => h) (Or.inl ⟨by rfl, fun w' hw => exec_builtY _ 36 _ rfl [(0, .int .i64 (1 + gmod o.k 7)), (1, .int .i64 (gmod o.c 2)), (2, .int .i64 (gmod o.a 3)), (3, .string o.d), (5, .int .i64 80)] _ rfl HBL.out⟩) hS ?_
        try simp only [Act.put, List.setIfInBounds_toArray, List.set_cons_zero, List.set_cons_succ]
        refine wpAnyH_ready (rs := [14]) (by kernel_rfl) (by simp) ?_
        refine AllReadyH.cons (o := { dst := none, op := Op.store 36 (Operand.tmp 3) (Operand.tmp 21), type := 0, pos := "law.go:24", after := #[{ on := 13, ground := Ground.data }, { on := 12, ground := Ground.data }, { on := 9, ground := Ground.chain }, { on := 0, ground := Ground.phase }, { on := 1, ground := Ground.phase }, { on := 2, ground := Ground.phase }, { on := 3, ground := Ground.phase }, { on := 4, ground := Ground.phase }, { on := 5, ground := Ground.phase }, { on := 6, ground := Ground.phase }, { on := 7, ground := Ground.phase }, { on := 8, ground := Ground.phase }, { on := 9, ground := Ground.phase }, { on := 10, ground := Ground.phase }, { on := 11, ground := Ground.phase }, { on := 12, ground := Ground.phase }, { on := 13, ground := Ground.phase }], guard := none }) rfl (fun K hK => ?_) AllReadyH.nil
        refine step_of_list rfl ?_
        refine wpList_store_into rfl 36 _ _ rfl W.heap.size 36 _ (encO (someO0 o)) rfl rfl HX.out (by rw [(someO0_ok OK.out).len]; rfl) (by rw [infoO, (someO0_ok OK.out).len]) (someO0_ok OK.out).one ?_
        intro w5 h5 t5 z5
        have hS2 := hS.trans t5 (by simp)
        refine ⟨rfl, hK.out _ _ hS2 (fun _ => ?_)⟩
        clear hK K hS
        have hS := hS2
        clear hS2
        try simp only [Act.put, List.setIfInBounds_toArray, List.set_cons_zero, List.set_cons_succ]
        refine wpAnyH_done (by kernel_rfl) ?_ _
        try simp only [Act.put, List.setIfInBounds_toArray, List.set_cons_zero, List.set_cons_succ]
        have hgl := (Array.getElem?_eq_some_iff.1 HZD.out).1
        have HZ5 := Lib.hid (t5.at HZ2.out (by simp; omega))
        have T5 := Lib.hid (T2.out.trans hS (by simp))
        have H5 := Lib.hid h5
        have OK0 := Lib.hid (someO0_ok OK.out)
        have hwg := T2.out.size
        have hgw : w.heap.size ≤ g0 := by have := HG0.out; omega
        obtain ⟨d0, _, d2, _, _, _, _⟩ := O.cells OK0.out (range_block H5.out)
        simp only [Nat.zero_add, someO0] at d0 d2
        clear h5 t5 z5 hS c0 c1 c2 c3
        generalize W.heap.size = X at *
        by_cases h4 : 1 + gmod o.k 7 = 4
        · have q4 : (1 + gmod o.k 7 == 4) = true := by simp [h4]
          by_cases h0 : gmod o.a 3 = 0
          · have q0 : (gmod o.a 3 == 0) = true := by simp [h0]
            have f2 : w5.frozen? ⟨X, 2, none⟩ = false := by simp [World.frozen?, H5.out]
            have HE := Lib.hid (show someO o = { someO0 o with a := 1 } by simp [someO, h1, h4, h0])
            have OK1 := Lib.hid (show OkO { someO0 o with a := 1 } by have := someO_ok OK.out; rwa [HE.out] at this)
            clear h4 h0 h1
            go_upto_region 6 with (fail)
            have t6 := (Touch.refl [X] w5).setCell (p := ⟨X, 2, none⟩) (by simp) (.int .i64 1)
            have H6 := Lib.hid (show (w5.setCell ⟨X, 2, none⟩ (.int .i64 1)).heap[X]? = some (.cells (encO { someO0 o with a := 1 }).toArray 36 (0, 0)) by
              simp [World.setCell, Array.getElem?_modify, H5.out]
              rfl)
            have HZ6 := Lib.hid (t6.at HZ5.out (by simp; omega))
            have T6 := Lib.hid (T5.out.trans t6 (by intro y hy; right; simp at hy; omega))
            have r5 := range_block H6.out
            clear d0 d2 f2 t6
            generalize w5.setCell ⟨X, 2, none⟩ (.int .i64 1) = w7 at *
            go_wp2_with (first
              | ((with_reducible refine at_load 36 ?_); refine wpList_load_mid rfl 36 _ rfl X 0 rfl (encO { someO0 o with a := 1 }) _ r5 Try.underlying36 rfl (by rw [infoO, OK1.out.len]) ?_)
              | ((with_reducible refine at_store 36 ?_); refine wpList_store_into rfl 36 _ _ rfl (g0 + 1) 36 _ (encO { someO0 o with a := 1 }) rfl rfl HZ6.out (by rw [OK1.out.len]; rfl) (by rw [infoO, OK1.out.len]) OK1.out.one ?_))
            intro w6 h6 t6 z6
            go_wp2_with fail
            exact ret_row rfl infoO Try.underlying36 rfl OK1.out.len rfl h6 ⟨by rw [HE.out], T6.out.trans t6 (by intro y hy; right; simp at hy; omega)⟩
          · have q0 : (gmod o.a 3 == 0) = false := by simp [h0]
            have HE := Lib.hid (show someO o = someO0 o by simp [someO, h1, h0])
            have r5 := range_block H5.out
            clear h4 h0 h1
            go_wp2_with (first
              | ((with_reducible refine at_load 36 ?_); refine wpList_load_mid rfl 36 _ rfl X 0 rfl (encO (someO0 o)) _ r5 Try.underlying36 rfl (by rw [infoO, OK0.out.len]) ?_)
              | ((with_reducible refine at_store 36 ?_); refine wpList_store_into rfl 36 _ _ rfl (g0 + 1) 36 _ (encO (someO0 o)) rfl rfl HZ5.out (by rw [OK0.out.len]; rfl) (by rw [infoO, OK0.out.len]) OK0.out.one ?_))
            intro w6 h6 t6 z6
            go_wp2_with fail
            exact ret_row rfl infoO Try.underlying36 rfl OK0.out.len rfl h6 ⟨by rw [HE.out], T5.out.trans t6 (by intro y hy; right; simp at hy; omega)⟩
        · have q4 : (1 + gmod o.k 7 == 4) = false := by simp [h4]
          have HE := Lib.hid (show someO o = someO0 o by simp [someO, h1, h4])
          have r5 := range_block H5.out
          clear h4 h1
          go_wp2_with (first
            | ((with_reducible refine at_load 36 ?_); refine wpList_load_mid rfl 36 _ rfl X 0 rfl (encO (someO0 o)) _ r5 Try.underlying36 rfl (by rw [infoO, OK0.out.len]) ?_)
            | ((with_reducible refine at_store 36 ?_); refine wpList_store_into rfl 36 _ _ rfl (g0 + 1) 36 _ (encO (someO0 o)) rfl rfl HZ5.out (by rw [OK0.out.len]; rfl) (by rw [infoO, OK0.out.len]) OK0.out.one ?_))
          intro w6 h6 t6 z6
          go_wp2_with fail
          exact ret_row rfl infoO Try.underlying36 rfl OK0.out.len rfl h6 ⟨by rw [HE.out], T5.out.trans t6 (by intro y hy; right; simp at hy; omega)⟩
    · go_simp
      have hS2 := hS.alloc (.cells #[.int .i64 0, .int .i64 0, .int .i64 0, .string ⟨#[]⟩, .bool false, .int .u8 0, .int .u8 0, .int .u8 0, .int .u8 0, .int .u8 0, .int .u8 0, .int .u8 0, .int .u8 0, .int .u8 0, .int .u8 0, .int .u8 0, .int .u8 0, .int .u8 0, .int .u8 0, .int .u8 0, .int .u8 0, .int .i64 0, .bool false] 36)
      have HX := Lib.hid (heap_alloc_new W (.cells #[.int .i64 0, .int .i64 0, .int .i64 0, .string ⟨#[]⟩, .bool false, .int .u8 0, .int .u8 0, .int .u8 0, .int .u8 0, .int .u8 0, .int .u8 0, .int .u8 0, .int .u8 0, .int .u8 0, .int .u8 0, .int .u8 0, .int .u8 0, .int .u8 0, .int .u8 0, .int .u8 0, .int .u8 0, .int .i64 0, .bool false] 36))
      have HZ2 := Lib.hid (((Touch.refl [] W).alloc (.cells #[.int .i64 0, .int .i64 0, .int .i64 0, .string ⟨#[]⟩, .bool false, .int .u8 0, .int .u8 0, .int .u8 0, .int .u8 0, .int .u8 0, .int .u8 0, .int .u8 0, .int .u8 0, .int .u8 0, .int .u8 0, .int .u8 0, .int .u8 0, .int .u8 0, .int .u8 0, .int .u8 0, .int .u8 0, .int .i64 0, .bool false] 36)).at HZD.out (by simp))
      refine hK.out _ _ hS2 (fun _ => ?_)
      clear hK K hS
      have hS := hS2
      clear hS2
      try simp only [Act.put, List.setIfInBounds_toArray, List.set_cons_zero, List.set_cons_succ]
      refine wpAnyH_ready (rs := [6]) (by kernel_rfl) (by simp) ?_
      refine AllReadyH.cons (o := { dst := some 15, op := Op.call { callee := Callee.value (Operand.func 8), args := #[Operand.tmp 14, Operand.const (Value.int IntKind.i64 2)], argTypes := #[3, 3] }, type := 3, pos := "law.go:24", after := #[{ on := 5, ground := Ground.data }, { on := 2, ground := Ground.chain }], guard := none }) rfl (fun K hK => ?_) AllReadyH.nil
      go_simp
      refine (mod_any _ _ _ (by omega) (by omega)).mono ?_
      rintro e w' ⟨rfl, rfl⟩
      refine hK.out _ _ hS (fun _ => ?_)
      clear hK K
      try simp only [Act.put, List.setIfInBounds_toArray, List.set_cons_zero, List.set_cons_succ]
      refine wpAnyH_ready (rs := [9]) (by kernel_rfl) (by simp) ?_
      refine AllReadyH.cons (o := { dst := some 18, op := Op.call { callee := Callee.value (Operand.func 8), args := #[Operand.tmp 17, Operand.const (Value.int IntKind.i64 3)], argTypes := #[3, 3] }, type := 3, pos := "law.go:24", after := #[{ on := 8, ground := Ground.data }, { on := 6, ground := Ground.chain }], guard := none }) rfl (fun K hK => ?_) AllReadyH.nil
      go_simp
      refine (mod_any _ _ _ (by omega) (by omega)).mono ?_
      rintro e w' ⟨rfl, rfl⟩
      refine hK.out _ _ hS (fun _ => ?_)
      clear hK K
      try simp only [Act.put, List.setIfInBounds_toArray, List.set_cons_zero, List.set_cons_succ]
      refine wpAnyH_take (i := 12) (oi := { dst := some 21, op := Op.build 36 #[(0, Operand.tmp 12), (1, Operand.tmp 15), (2, Operand.tmp 18), (3, Operand.tmp 20), (5, Operand.const (Value.int IntKind.i64 80))], type := 36, pos := "law.go:24", after := #[{ on := 3, ground := Ground.data }, { on := 6, ground := Ground.data }, { on := 9, ground := Ground.data }, { on := 11, ground := Ground.data }], guard := none }) (v := .agg (encO (someO0 o)).toArray) rfl (by kernel_rfl) (by kernel_rfl) (by kernel_rfl) (fun _ _ _ h => h) (Or.inl ⟨by rfl, fun w' hw => exec_builtY _ 36 _ rfl [(0, .int .i64 (1 + gmod o.k 7)), (1, .int .i64 (gmod o.c 2)), (2, .int .i64 (gmod o.a 3)), (3, .string o.d), (5, .int .i64 80)] _ rfl HBL.out⟩) hS ?_
      try simp only [Act.put, List.setIfInBounds_toArray, List.set_cons_zero, List.set_cons_succ]
      refine wpAnyH_ready (rs := [14]) (by kernel_rfl) (by simp) ?_
      refine AllReadyH.cons (o := { dst := none, op := Op.store 36 (Operand.tmp 3) (Operand.tmp 21), type := 0, pos := "law.go:24", after := #[{ on := 13, ground := Ground.data }, { on := 12, ground := Ground.data }, { on := 9, ground := Ground.chain }, { on := 0, ground := Ground.phase }, { on := 1, ground := Ground.phase }, { on := 2, ground := Ground.phase }, { on := 3, ground := Ground.phase }, { on := 4, ground := Ground.phase }, { on := 5, ground := Ground.phase }, { on := 6, ground := Ground.phase }, { on := 7, ground := Ground.phase }, { on := 8, ground := Ground.phase }, { on := 9, ground := Ground.phase }, { on := 10, ground := Ground.phase }, { on := 11, ground := Ground.phase }, { on := 12, ground := Ground.phase }, { on := 13, ground := Ground.phase }], guard := none }) rfl (fun K hK => ?_) AllReadyH.nil
      refine step_of_list rfl ?_
      refine wpList_store_into rfl 36 _ _ rfl W.heap.size 36 _ (encO (someO0 o)) rfl rfl HX.out (by rw [(someO0_ok OK.out).len]; rfl) (by rw [infoO, (someO0_ok OK.out).len]) (someO0_ok OK.out).one ?_
      intro w5 h5 t5 z5
      have hS2 := hS.trans t5 (by simp)
      refine ⟨rfl, hK.out _ _ hS2 (fun _ => ?_)⟩
      clear hK K hS
      have hS := hS2
      clear hS2
      try simp only [Act.put, List.setIfInBounds_toArray, List.set_cons_zero, List.set_cons_succ]
      refine wpAnyH_done (by kernel_rfl) ?_ _
      try simp only [Act.put, List.setIfInBounds_toArray, List.set_cons_zero, List.set_cons_succ]
      have hgl := (Array.getElem?_eq_some_iff.1 HZD.out).1
      have HZ5 := Lib.hid (t5.at HZ2.out (by simp; omega))
      have T5 := Lib.hid (T2.out.trans hS (by simp))
      have H5 := Lib.hid h5
      have OK0 := Lib.hid (someO0_ok OK.out)
      have hwg := T2.out.size
      have hgw : w.heap.size ≤ g0 := by have := HG0.out; omega
      obtain ⟨d0, _, d2, _, _, _, _⟩ := O.cells OK0.out (range_block H5.out)
      simp only [Nat.zero_add, someO0] at d0 d2
      clear h5 t5 z5 hS c0 c1 c2 c3
      generalize W.heap.size = X at *
      by_cases h4 : 1 + gmod o.k 7 = 4
      · have q4 : (1 + gmod o.k 7 == 4) = true := by simp [h4]
        by_cases h0 : gmod o.a 3 = 0
        · have q0 : (gmod o.a 3 == 0) = true := by simp [h0]
          have f2 : w5.frozen? ⟨X, 2, none⟩ = false := by simp [World.frozen?, H5.out]
          have HE := Lib.hid (show someO o = { someO0 o with a := 1 } by simp [someO, h1, h4, h0])
          have OK1 := Lib.hid (show OkO { someO0 o with a := 1 } by have := someO_ok OK.out; rwa [HE.out] at this)
          clear h4 h0 h1
          go_upto_region 6 with (fail)
          have t6 := (Touch.refl [X] w5).setCell (p := ⟨X, 2, none⟩) (by simp) (.int .i64 1)
          have H6 := Lib.hid (show (w5.setCell ⟨X, 2, none⟩ (.int .i64 1)).heap[X]? = some (.cells (encO { someO0 o with a := 1 }).toArray 36 (0, 0)) by
            simp [World.setCell, Array.getElem?_modify, H5.out]
            rfl)
          have HZ6 := Lib.hid (t6.at HZ5.out (by simp; omega))
          have T6 := Lib.hid (T5.out.trans t6 (by intro y hy; right; simp at hy; omega))
          have r5 := range_block H6.out
          clear d0 d2 f2 t6
          generalize w5.setCell ⟨X, 2, none⟩ (.int .i64 1) = w7 at *
          go_wp2_with (first
            | ((with_reducible refine at_load 36 ?_); refine wpList_load_mid rfl 36 _ rfl X 0 rfl (encO { someO0 o with a := 1 }) _ r5 Try.underlying36 rfl (by rw [infoO, OK1.out.len]) ?_)
            | ((with_reducible refine at_store 36 ?_); refine wpList_store_into rfl 36 _ _ rfl (g0 + 1) 36 _ (encO { someO0 o with a := 1 }) rfl rfl HZ6.out (by rw [OK1.out.len]; rfl) (by rw [infoO, OK1.out.len]) OK1.out.one ?_))
          intro w6 h6 t6 z6
          go_wp2_with fail
          exact ret_row rfl infoO Try.underlying36 rfl OK1.out.len rfl h6 ⟨by rw [HE.out], T6.out.trans t6 (by intro y hy; right; simp at hy; omega)⟩
        · have q0 : (gmod o.a 3 == 0) = false := by simp [h0]
          have HE := Lib.hid (show someO o = someO0 o by simp [someO, h1, h0])
          have r5 := range_block H5.out
          clear h4 h0 h1
          go_wp2_with (first
            | ((with_reducible refine at_load 36 ?_); refine wpList_load_mid rfl 36 _ rfl X 0 rfl (encO (someO0 o)) _ r5 Try.underlying36 rfl (by rw [infoO, OK0.out.len]) ?_)
            | ((with_reducible refine at_store 36 ?_); refine wpList_store_into rfl 36 _ _ rfl (g0 + 1) 36 _ (encO (someO0 o)) rfl rfl HZ5.out (by rw [OK0.out.len]; rfl) (by rw [infoO, OK0.out.len]) OK0.out.one ?_))
          intro w6 h6 t6 z6
          go_wp2_with fail
          exact ret_row rfl infoO Try.underlying36 rfl OK0.out.len rfl h6 ⟨by rw [HE.out], T5.out.trans t6 (by intro y hy; right; simp at hy; omega)⟩
      · have q4 : (1 + gmod o.k 7 == 4) = false := by simp [h4]
        have HE := Lib.hid (show someO o = someO0 o by simp [someO, h1, h4])
        have r5 := range_block H5.out
        clear h4 h1
        go_wp2_with (first
          | ((with_reducible refine at_load 36 ?_); refine wpList_load_mid rfl 36 _ rfl X 0 rfl (encO (someO0 o)) _ r5 Try.underlying36 rfl (by rw [infoO, OK0.out.len]) ?_)
          | ((with_reducible refine at_store 36 ?_); refine wpList_store_into rfl 36 _ _ rfl (g0 + 1) 36 _ (encO (someO0 o)) rfl rfl HZ5.out (by rw [OK0.out.len]; rfl) (by rw [infoO, OK0.out.len]) OK0.out.one ?_))
        intro w6 h6 t6 z6
        go_wp2_with fail
        exact ret_row rfl infoO Try.underlying36 rfl OK0.out.len rfl h6 ⟨by rw [HE.out], T5.out.trans t6 (by intro y hy; right; simp at hy; omega)⟩
  · go_simp
    have hS2 := hS.alloc (.cells #[.int .i64 0, .int .i64 0, .int .i64 0, .string ⟨#[]⟩, .bool false, .int .u8 0, .int .u8 0, .int .u8 0, .int .u8 0, .int .u8 0, .int .u8 0, .int .u8 0, .int .u8 0, .int .u8 0, .int .u8 0, .int .u8 0, .int .u8 0, .int .u8 0, .int .u8 0, .int .u8 0, .int .u8 0, .int .i64 0, .bool false] 36)
    have HX := Lib.hid (heap_alloc_new W (.cells #[.int .i64 0, .int .i64 0, .int .i64 0, .string ⟨#[]⟩, .bool false, .int .u8 0, .int .u8 0, .int .u8 0, .int .u8 0, .int .u8 0, .int .u8 0, .int .u8 0, .int .u8 0, .int .u8 0, .int .u8 0, .int .u8 0, .int .u8 0, .int .u8 0, .int .u8 0, .int .u8 0, .int .u8 0, .int .i64 0, .bool false] 36))
    have HZ2 := Lib.hid (((Touch.refl [] W).alloc (.cells #[.int .i64 0, .int .i64 0, .int .i64 0, .string ⟨#[]⟩, .bool false, .int .u8 0, .int .u8 0, .int .u8 0, .int .u8 0, .int .u8 0, .int .u8 0, .int .u8 0, .int .u8 0, .int .u8 0, .int .u8 0, .int .u8 0, .int .u8 0, .int .u8 0, .int .u8 0, .int .u8 0, .int .u8 0, .int .i64 0, .bool false] 36)).at HZD.out (by simp))
    refine hK.out _ _ hS2 (fun _ => ?_)
    clear hK K hS
    have hS := hS2
    clear hS2
    try simp only [Act.put, List.setIfInBounds_toArray, List.set_cons_zero, List.set_cons_succ]
    refine wpAnyH_ready (rs := [2]) (by kernel_rfl) (by simp) ?_
    refine AllReadyH.cons (o := { dst := some 11, op := Op.call { callee := Callee.value (Operand.func 8), args := #[Operand.tmp 10, Operand.const (Value.int IntKind.i64 7)], argTypes := #[3, 3] }, type := 3, pos := "law.go:24", after := #[{ on := 1, ground := Ground.data }], guard := none }) rfl (fun K hK => ?_) AllReadyH.nil
    go_simp
    refine (mod_any _ _ _ (by omega) (by omega)).mono ?_
    rintro e w' ⟨rfl, rfl⟩
    refine hK.out _ _ hS (fun _ => ?_)
    clear hK K
    try simp only [Act.put, List.setIfInBounds_toArray, List.set_cons_zero, List.set_cons_succ]
    refine wpAnyH_take (i := 3) (oi := { dst := some 12, op := Op.binOp BinOp.add 3 (Operand.const (Value.int IntKind.i64 1)) (Operand.tmp 11) 3, type := 3, pos := "law.go:24", after := #[{ on := 2, ground := Ground.data }], guard := none }) (v := .int .i64 (1 + gmod o.k 7)) rfl (by kernel_rfl) (by kernel_rfl) (by kernel_rfl) (fun _ _ _ h => h) (Or.inl ⟨by rfl, fun w' hw => by go_simp⟩) hS ?_
    try simp only [Act.put, List.setIfInBounds_toArray, List.set_cons_zero, List.set_cons_succ]
    refine wpAnyH_ready (rs := [6]) (by kernel_rfl) (by simp) ?_
    refine AllReadyH.cons (o := { dst := some 15, op := Op.call { callee := Callee.value (Operand.func 8), args := #[Operand.tmp 14, Operand.const (Value.int IntKind.i64 2)], argTypes := #[3, 3] }, type := 3, pos := "law.go:24", after := #[{ on := 5, ground := Ground.data }, { on := 2, ground := Ground.chain }], guard := none }) rfl (fun K hK => ?_) AllReadyH.nil
    go_simp
    refine (mod_any _ _ _ (by omega) (by omega)).mono ?_
    rintro e w' ⟨rfl, rfl⟩
    refine hK.out _ _ hS (fun _ => ?_)
    clear hK K
    try simp only [Act.put, List.setIfInBounds_toArray, List.set_cons_zero, List.set_cons_succ]
    refine wpAnyH_ready (rs := [9]) (by kernel_rfl) (by simp) ?_
    refine AllReadyH.cons (o := { dst := some 18, op := Op.call { callee := Callee.value (Operand.func 8), args := #[Operand.tmp 17, Operand.const (Value.int IntKind.i64 3)], argTypes := #[3, 3] }, type := 3, pos := "law.go:24", after := #[{ on := 8, ground := Ground.data }, { on := 6, ground := Ground.chain }], guard := none }) rfl (fun K hK => ?_) AllReadyH.nil
    go_simp
    refine (mod_any _ _ _ (by omega) (by omega)).mono ?_
    rintro e w' ⟨rfl, rfl⟩
    refine hK.out _ _ hS (fun _ => ?_)
    clear hK K
    try simp only [Act.put, List.setIfInBounds_toArray, List.set_cons_zero, List.set_cons_succ]
    refine wpAnyH_take (i := 12) (oi := { dst := some 21, op := Op.build 36 #[(0, Operand.tmp 12), (1, Operand.tmp 15), (2, Operand.tmp 18), (3, Operand.tmp 20), (5, Operand.const (Value.int IntKind.i64 80))], type := 36, pos := "law.go:24", after := #[{ on := 3, ground := Ground.data }, { on := 6, ground := Ground.data }, { on := 9, ground := Ground.data }, { on := 11, ground := Ground.data }], guard := none }) (v := .agg (encO (someO0 o)).toArray) rfl (by kernel_rfl) (by kernel_rfl) (by kernel_rfl) (fun _ _ _ h => h) (Or.inl ⟨by rfl, fun w' hw => exec_builtY _ 36 _ rfl [(0, .int .i64 (1 + gmod o.k 7)), (1, .int .i64 (gmod o.c 2)), (2, .int .i64 (gmod o.a 3)), (3, .string o.d), (5, .int .i64 80)] _ rfl HBL.out⟩) hS ?_
    try simp only [Act.put, List.setIfInBounds_toArray, List.set_cons_zero, List.set_cons_succ]
    refine wpAnyH_ready (rs := [14]) (by kernel_rfl) (by simp) ?_
    refine AllReadyH.cons (o := { dst := none, op := Op.store 36 (Operand.tmp 3) (Operand.tmp 21), type := 0, pos := "law.go:24", after := #[{ on := 13, ground := Ground.data }, { on := 12, ground := Ground.data }, { on := 9, ground := Ground.chain }, { on := 0, ground := Ground.phase }, { on := 1, ground := Ground.phase }, { on := 2, ground := Ground.phase }, { on := 3, ground := Ground.phase }, { on := 4, ground := Ground.phase }, { on := 5, ground := Ground.phase }, { on := 6, ground := Ground.phase }, { on := 7, ground := Ground.phase }, { on := 8, ground := Ground.phase }, { on := 9, ground := Ground.phase }, { on := 10, ground := Ground.phase }, { on := 11, ground := Ground.phase }, { on := 12, ground := Ground.phase }, { on := 13, ground := Ground.phase }], guard := none }) rfl (fun K hK => ?_) AllReadyH.nil
    refine step_of_list rfl ?_
    refine wpList_store_into rfl 36 _ _ rfl W.heap.size 36 _ (encO (someO0 o)) rfl rfl HX.out (by rw [(someO0_ok OK.out).len]; rfl) (by rw [infoO, (someO0_ok OK.out).len]) (someO0_ok OK.out).one ?_
    intro w5 h5 t5 z5
    have hS2 := hS.trans t5 (by simp)
    refine ⟨rfl, hK.out _ _ hS2 (fun _ => ?_)⟩
    clear hK K hS
    have hS := hS2
    clear hS2
    try simp only [Act.put, List.setIfInBounds_toArray, List.set_cons_zero, List.set_cons_succ]
    refine wpAnyH_done (by kernel_rfl) ?_ _
    try simp only [Act.put, List.setIfInBounds_toArray, List.set_cons_zero, List.set_cons_succ]
    have hgl := (Array.getElem?_eq_some_iff.1 HZD.out).1
    have HZ5 := Lib.hid (t5.at HZ2.out (by simp; omega))
    have T5 := Lib.hid (T2.out.trans hS (by simp))
    have H5 := Lib.hid h5
    have OK0 := Lib.hid (someO0_ok OK.out)
    have hwg := T2.out.size
    have hgw : w.heap.size ≤ g0 := by have := HG0.out; omega
    obtain ⟨d0, _, d2, _, _, _, _⟩ := O.cells OK0.out (range_block H5.out)
    simp only [Nat.zero_add, someO0] at d0 d2
    clear h5 t5 z5 hS c0 c1 c2 c3
    generalize W.heap.size = X at *
    by_cases h4 : 1 + gmod o.k 7 = 4
    · have q4 : (1 + gmod o.k 7 == 4) = true := by simp [h4]
      by_cases h0 : gmod o.a 3 = 0
      · have q0 : (gmod o.a 3 == 0) = true := by simp [h0]
        have f2 : w5.frozen? ⟨X, 2, none⟩ = false := by simp [World.frozen?, H5.out]
        have HE := Lib.hid (show someO o = { someO0 o with a := 1 } by simp [someO, h1, h4, h0])
        have OK1 := Lib.hid (show OkO { someO0 o with a := 1 } by have := someO_ok OK.out; rwa [HE.out] at this)
        clear h4 h0 h1
        go_upto_region 6 with (fail)
        have t6 := (Touch.refl [X] w5).setCell (p := ⟨X, 2, none⟩) (by simp) (.int .i64 1)
        have H6 := Lib.hid (show (w5.setCell ⟨X, 2, none⟩ (.int .i64 1)).heap[X]? = some (.cells (encO { someO0 o with a := 1 }).toArray 36 (0, 0)) by
          simp [World.setCell, Array.getElem?_modify, H5.out]
          rfl)
        have HZ6 := Lib.hid (t6.at HZ5.out (by simp; omega))
        have T6 := Lib.hid (T5.out.trans t6 (by intro y hy; right; simp at hy; omega))
        have r5 := range_block H6.out
        clear d0 d2 f2 t6
        generalize w5.setCell ⟨X, 2, none⟩ (.int .i64 1) = w7 at *
        go_wp2_with (first
          | ((with_reducible refine at_load 36 ?_); refine wpList_load_mid rfl 36 _ rfl X 0 rfl (encO { someO0 o with a := 1 }) _ r5 Try.underlying36 rfl (by rw [infoO, OK1.out.len]) ?_)
          | ((with_reducible refine at_store 36 ?_); refine wpList_store_into rfl 36 _ _ rfl (g0 + 1) 36 _ (encO { someO0 o with a := 1 }) rfl rfl HZ6.out (by rw [OK1.out.len]; rfl) (by rw [infoO, OK1.out.len]) OK1.out.one ?_))
        intro w6 h6 t6 z6
        go_wp2_with fail
        exact ret_row rfl infoO Try.underlying36 rfl OK1.out.len rfl h6 ⟨by rw [HE.out], T6.out.trans t6 (by intro y hy; right; simp at hy; omega)⟩
      · have q0 : (gmod o.a 3 == 0) = false := by simp [h0]
        have HE := Lib.hid (show someO o = someO0 o by simp [someO, h1, h0])
        have r5 := range_block H5.out
        clear h4 h0 h1
        go_wp2_with (first
          | ((with_reducible refine at_load 36 ?_); refine wpList_load_mid rfl 36 _ rfl X 0 rfl (encO (someO0 o)) _ r5 Try.underlying36 rfl (by rw [infoO, OK0.out.len]) ?_)
          | ((with_reducible refine at_store 36 ?_); refine wpList_store_into rfl 36 _ _ rfl (g0 + 1) 36 _ (encO (someO0 o)) rfl rfl HZ5.out (by rw [OK0.out.len]; rfl) (by rw [infoO, OK0.out.len]) OK0.out.one ?_))
        intro w6 h6 t6 z6
        go_wp2_with fail
        exact ret_row rfl infoO Try.underlying36 rfl OK0.out.len rfl h6 ⟨by rw [HE.out], T5.out.trans t6 (by intro y hy; right; simp at hy; omega)⟩
    · have q4 : (1 + gmod o.k 7 == 4) = false := by simp [h4]
      have HE := Lib.hid (show someO o = someO0 o by simp [someO, h1, h4])
      have r5 := range_block H5.out
      clear h4 h1
      go_wp2_with (first
        | ((with_reducible refine at_load 36 ?_); refine wpList_load_mid rfl 36 _ rfl X 0 rfl (encO (someO0 o)) _ r5 Try.underlying36 rfl (by rw [infoO, OK0.out.len]) ?_)
        | ((with_reducible refine at_store 36 ?_); refine wpList_store_into rfl 36 _ _ rfl (g0 + 1) 36 _ (encO (someO0 o)) rfl rfl HZ5.out (by rw [OK0.out.len]; rfl) (by rw [infoO, OK0.out.len]) OK0.out.one ?_))
      intro w6 h6 t6 z6
      go_wp2_with fail
      exact ret_row rfl infoO Try.underlying36 rfl OK0.out.len rfl h6 ⟨by rw [HE.out], T5.out.trans t6 (by intro y hy; right; simp at hy; omega)⟩
end Go.Proofs.Ytmdnkhpkpmbeoaa

/-
  Rows of structs of this program: built, appended, read.
-/
namespace Go.Proofs.Ytmdnkhpkpmbeoaa
open Go.RowKit
set_option linter.unusedVariables false
set_option linter.unusedSimpArgs false

theorem exec_load_agg {P : Program} {a : Act} {w : World} (op : Oper) (ty : TypeId) (x : Operand) (ho : op.op = .load ty x)
    (b o : Nat) (hx : a.eval x = .pointer (some ⟨b, o, none⟩)) (cs : List Value) (d : TypeDesc) (hc : w.rangeAt b o cs)
    (hu : P.underlying ty = some d) (hd : d.isRow = true) (hi : (P.info? ty).map (·.size) = some cs.length) : (execOp a.eval op).run P w = .ok (.value (.agg cs.toArray)) w := by
  unfold execOp
  simp only [ho, hx, Instr.loadAt, Instr.sureAddr, Sem.run_bind, Sem.run_pure, Result.andThen_ok, run_loadVar_mid w b o ty cs d hc hu hd hi]
/-- A slice type t of structs e of k cells. -/
structure RT (t e k bytes : Nat) : Prop where
  ht : Try.prog.underlying t = some (.slice e)
  hi : ∃ i z, Try.prog.info? e = some i ∧ i.zero = some z ∧ i.size = k ∧ i.bytes = bytes ∧ z.cells.size = k
  k0 : 0 < k
  k1 : k ≤ 100
  sm : bytes ≤ 128
theorem info_parts {T k bytes : Nat} (h : (Try.prog.info? T).map (fun i => (i.size, i.bytes, i.zero.map fun z => z.cells.size)) = some (k, bytes, some k)) : ∃ i z, Try.prog.info? T = some i ∧ i.zero = some z ∧ i.size = k ∧ i.bytes = bytes ∧ z.cells.size = k := by
  cases hi : Try.prog.info? T with
  | none => simp [hi] at h
  | some i =>
    simp only [hi, Option.map_some, Option.some.injEq, Prod.mk.injEq] at h
    obtain ⟨h1, h2, h3⟩ := h
    cases hz : i.zero with
    | none => simp [hz] at h3
    | some z => exact ⟨i, z, rfl, hz, h1, h2, by simpa [hz] using h3⟩
theorem rtO : RT 22 36 23 80 := ⟨Try.underlying22, info_parts (by kernel_rfl), by omega, by omega, by omega⟩
theorem rtE : RT 27 30 2 16 := ⟨Try.underlying27, info_parts (by kernel_rfl), by omega, by omega, by omega⟩
theorem rtT : RT 47 46 19 48 := ⟨Try.underlying47, info_parts (by kernel_rfl), by omega, by omega, by omega⟩
theorem at_bs (ty : TypeId) (m : Nat) {P : Program} {ops : Array Oper} {rest : List Oper} {a : Act} {w : World} {Q : Exit → Act → World → Prop} {d : Option Tmp} {t : TypeId} {p : String} {af : Array Edge} {ps : Array (Nat × Operand)} {g : Option (Nat × Bool)} (h : wpList P ops Q ({ dst := d, op := .buildSlice ty m ps, type := t, pos := p, after := af, guard := g } :: rest) a w) : wpList P ops Q ({ dst := d, op := .buildSlice ty m ps, type := t, pos := p, after := af, guard := g } :: rest) a w := h
section
variable {t e k bytes : Nat} {ops : Array Oper} {rest : List Oper} {op : Oper} {a : Act} {w w0 : World} {Q : Exit → Act → World → Prop}
/-- A slice of one struct. -/
theorem wpList_build1 (R : RT t e k bytes) (hgd : op.guard = none) (x : Operand) (ho : op.op = .buildSlice t 1 #[(0, x)]) (cs : List Value) (hl : cs.length = k) (hx : a.eval x = .agg cs.toArray)
    (h : wpList Try.prog ops Q rest (a.put op.dst (.slice (some ⟨w.heap.size, 0, none⟩) 1 1)) (w.alloc (.cells cs.toArray e))) : wpList Try.prog ops Q (op :: rest) a w := by
  obtain ⟨i, z, hi, hz, hs, hb, hc⟩ := R.hi
  refine wpList_buildSlice_rows hgd t 1 _ ho e k i z R.ht hi hz hs R.k0 [cs] rfl (by simp [hl]) (by have := R.k1; omega) (by simp [hx]) ?_
  simpa using h
/-- One struct behind a row of one's own. -/
theorem wpList_app1R (R : RT t e k bytes) (w : World) (hgd : op.guard = none) (s x : Operand) (ho : op.op = .call { callee := .builtin .append, args := #[s, x], argTypes := #[t, t] })
    (v : Value) (xs : List (List Value)) (hs : a.eval s = v) (hown : OwnR e k w0 w v xs) (h0 : w0.heap.size ≤ w.heap.size) (cs : List Value) (T : TypeId) (hx : a.eval x = .slice (some ⟨w.heap.size, 0, none⟩) 1 1) (hl : cs.length = k) (h1 : ∀ u ∈ cs, u.oneCell' = true) (hn : xs.length ≤ 100000000)
    (h : ∀ v' w', OwnR e k w0 w' v' (xs ++ [cs]) → Touch v.ownBlock.toList w w' → wpList Try.prog ops Q rest (a.put op.dst v') w') : wpList Try.prog ops Q (op :: rest) a (w.alloc (.cells cs.toArray T)) := by
  obtain ⟨i, z, hi, hz, hsz, hb, hc⟩ := R.hi
  refine wpList_app_rec w hgd s x t ho e i z k bytes R.ht hi hz hsz hb hc R.k0 v xs.length _ hs hown.row cs T hx hl h1 (by unfold maxLen; omega) ?_ ?_
  · have := R.sm
    calc (xs.length + 1) * bytes ≤ 100000001 * 128 := Nat.mul_le_mul (by omega) this
      _ ≤ _ := by omega
  · intro v' w' o' t' b'
    refine h v' w' ⟨by simpa using o', fun g hg => ?_⟩ t'
    rcases b' with e | e
    · exact hown.new g (by rw [← e]; exact hg)
    · rw [hg] at e
      injection e with e
      omega
/-- A row that can be read behind a row of one's own. -/
theorem wpList_appR (R : RT t e k bytes) (w : World) (hgd : op.guard = none) (s x : Operand) (ho : op.op = .call { callee := .builtin .append, args := #[s, x], argTypes := #[t, t] })
    (v : Value) (xs : List (List Value)) (hs : a.eval s = v) (hown : OwnR e k w0 w v xs) (h0 : w0.heap.size ≤ w.heap.size) (b : Nat) (u : Value) (ys : List (List Value)) (hx : a.eval x = u) (hr : Rd w k b u ys) (hk : ∀ y ∈ ys, y.length = k) (h1 : ∀ u ∈ ys.flatten, u.oneCell' = true) (hn : xs.length + ys.length ≤ 100000000)
    (h : ∀ v' w', OwnR e k w0 w' v' (xs ++ ys) → Touch v.ownBlock.toList w w' → wpList Try.prog ops Q rest (a.put op.dst v') w') : wpList Try.prog ops Q (op :: rest) a w := by
  obtain ⟨i, z, hi, hz, hsz, hb, hc⟩ := R.hi
  obtain ⟨ao, c, rfl, hc1, hc2⟩ := hr.form
  refine wpList_app w hgd s x t ho e i z k bytes R.ht hi hz hsz hb hc R.k0 v xs.length _ hs hown.row ao ys.length c ys.flatten hx (flat_len hk) ?_ (hr.news R.k0 hk).2 h1 (by unfold maxLen; omega) ?_ ?_
  · intro e
    have := (hr.news R.k0 hk).1 e
    have := hc1
    omega
  · have := R.sm
    calc (xs.length + ys.length) * bytes ≤ 100000000 * 128 := Nat.mul_le_mul hn this
      _ ≤ _ := by omega
  · intro v' w' o' t' b'
    refine h v' w' ⟨by simpa using o', fun g hg => ?_⟩ t'
    rcases b' with e | e
    · exact hown.new g (by rw [← e]; exact hg)
    · rw [hg] at e
      injection e with e
      omega
end
end Go.Proofs.Ytmdnkhpkpmbeoaa

/-
  Merged texts: Mem, Rec, Gen, GenA, GenB, Flat, RecS, Sl, Rec2, Rec3.
-/
import Derived.WalkKit
import Derived.Conc.LoneCalls
import Derived.Deep.MidRow
import Derived.Deep.Draws
import Derived.Test.YtecaakgpogabjaaDoorRows
import Derived.Lib.Hide
import Derived.Deep.Slices
import Derived.OpenShut
import Derived.WideShapes
import Derived.StillTailTactics
import Derived.DeepKeys4
import Derived.Deep.RegionLaw
import Derived.Deep.RegionHeld3
import Derived.Deep.AppendLies
import Derived.ChangeKeysEq

/-
  What a step leaves of memory: 'Touch S w w'': w' is w but for the blocks of the list S, and new ones. Plain lemmas; no program in sight.
-/
namespace Go.Proofs.YtecaakgpogabjaaDoor
open Go.RowKit
set_option linter.unusedVariables false
set_option linter.unusedSimpArgs false

structure Touch (S : List Nat) (w w' : World) : Prop where
  os : w'.os = w.os
  tape : w'.tape = w.tape
  output : w'.output = w.output
  size : w.heap.size ≤ w'.heap.size
  block : ∀ k, k < w.heap.size → k ∉ S → w'.heap[k]? = w.heap[k]?

theorem Touch.refl (S : List Nat) (w : World) : Touch S w w := ⟨rfl, rfl, rfl, Nat.le_refl _, fun _ _ _ => rfl⟩
theorem Touch.trans {S S' : List Nat} {a b c : World} (h : Touch S a b) (k : Touch S' b c) (hs : ∀ x ∈ S', x ∈ S ∨ a.heap.size ≤ x) : Touch S a c :=
  ⟨k.os.trans h.os, k.tape.trans h.tape, k.output.trans h.output, Nat.le_trans h.size k.size, fun i hi hn =>
    (k.block i (Nat.lt_of_lt_of_le hi h.size) (fun hm => by rcases hs i hm with h1 | h1; exact hn h1; omega)).trans (h.block i hi hn)⟩
theorem Touch.mono {S S' : List Nat} {w w' : World} (h : Touch S w w') (hs : ∀ x ∈ S, x ∈ S' ∨ w.heap.size ≤ x) : Touch S' w w' :=
  ⟨h.os, h.tape, h.output, h.size, fun i hi hn => h.block i hi (fun hm => by rcases hs i hm with h1 | h1; exact hn h1; omega)⟩
theorem Touch.alloc {S : List Nat} {a w : World} (h : Touch S a w) (o : Obj) : Touch S a (w.alloc o) :=
  h.trans (S' := []) ⟨rfl, rfl, rfl, by simp, fun k hk _ => Below.heap_alloc _ _ _ hk⟩ (by simp)
theorem Touch.drew {S : List Nat} {a w : World} (h : Touch S a w) : Touch S a w.drew := ⟨h.os, h.tape, h.output, h.size, h.block⟩
theorem Touch.setCell {S : List Nat} {a w : World} (h : Touch S a w) {p : Addr} (hp : p.block ∈ S ∨ a.heap.size ≤ p.block) (u : Value) : Touch S a (w.setCell p u) :=
  h.trans (S' := [p.block]) ⟨rfl, rfl, rfl, by simp [World.setCell], fun k hk hn => Below.heap_setCell _ _ _ _ (by simpa using hn)⟩ (by simpa using hp)
theorem Touch.grown {S : List Nat} {a w w' : World} {row : Option Nat} (h : Touch S a w) (hg : w.grownBy w' row) (hr : ∀ k, row = some k → k ∈ S ∨ a.heap.size ≤ k) : Touch S a w' :=
  h.trans (S' := row.toList) ⟨hg.os, hg.tape, hg.output, hg.size, fun k hk hn => hg.block k hk (fun e => hn (by simp [← e]))⟩ (by intro x hx; exact hr x (by simpa using hx))
theorem Touch.below {S : List Nat} {B : Nat} {w w' : World} (h : Touch S w w') (hs : ∀ k ∈ S, B ≤ k) (hB : B ≤ w.heap.size) : Below B w w' :=
  ⟨h.os, h.tape, h.output, h.size, fun k hk => h.block k (by omega) (fun hm => by have := hs k hm; omega)⟩
theorem Touch.of_below {w w' : World} (h : Below w.heap.size w w') : Touch [] w w' := ⟨h.os, h.tape, h.output, h.size, fun k hk _ => h.block k hk⟩
theorem Touch.at {S : List Nat} {w w' : World} (h : Touch S w w') {b : Nat} {o : Obj} (hb : w.heap[b]? = some o) (hn : b ∉ S) : w'.heap[b]? = some o := by
  rw [h.block b (Array.getElem?_eq_some_iff.1 hb).1 hn]; exact hb
theorem Touch.cell {S : List Nat} {w w' : World} (h : Touch S w w') {p : Addr} {v : Value} (hp : w.cell? p = some v) (hn : p.block ∉ S) : w'.cell? p = some v := by
  rw [World.cell?_of_block (w := w) (h.block _ (World.block_lt_of_cell? w p hp) hn)]; exact hp
theorem Touch.owns {S : List Nat} {w w' : World} (h : Touch S w w') {base : Nat} {E k : Nat} {v : Value} {n : Nat} {xs : List Value} (ho : w.ownsRow base E k v n xs) (hn : ∀ g, v.ownBlock = some g → g ∉ S) : w'.ownsRow base E k v n xs := by
  obtain ⟨h1, h2⟩ := ho
  refine ⟨h1, ?_⟩
  rcases h2 with h2 | ⟨g, cap, cur, rfl, hg, hh, rest⟩
  · exact .inl h2
  · exact .inr ⟨g, cap, cur, rfl, hg, h.at hh (hn g rfl), rest⟩

theorem owns_form {w : World} {base e size n : Nat} {v : Value} {xs : List Value} (h : w.ownsRow base e size v n xs) : ∃ a c, v = .slice a n c ∧ n ≤ c ∧ c ≤ maxLen ∧ (0 < n → ∃ g, a = some ⟨g, 0, none⟩) := by
  rcases h.2 with ⟨rfl, rfl⟩ | ⟨g, cap, cur, rfl, _, _, h1, h2, _⟩
  · exact ⟨none, 0, rfl, by omega, by simp [maxLen], by omega⟩
  · exact ⟨_, _, rfl, h1, h2, fun _ => ⟨g, rfl⟩⟩
/-- The cells of an owned row at its block g. -/
theorem owns_cell {w : World} {base e size n g c : Nat} {xs : List Value} (h : w.ownsRow base e size (.slice (some ⟨g, 0, none⟩) n c) n xs) (j : Nat) (u : Value) (hu : xs[j]? = some u) : w.cell? ⟨g, j, none⟩ = some u := by
  have := h.cells (g := g) rfl j u hu
  rw [Addr.add_lit, Nat.zero_add] at this
  exact this
theorem owns_frozen {w : World} {base e size n g c : Nat} {xs : List Value} (h : w.ownsRow base e size (.slice (some ⟨g, 0, none⟩) n c) n xs) (j : Nat) : w.frozen? ⟨g, j, none⟩ = false := by
  rcases h.2 with ⟨h1, _⟩ | ⟨g', cap, cur, h1, _, hg, _⟩
  · simp at h1
  · simp at h1
    obtain ⟨rfl, rfl⟩ := h1
    simp [World.frozen?, hg]
theorem one_new (w : World) (v : Value) (T : TypeId) : ∀ j u, [v][j]? = some u → (w.alloc (.cells #[v] T)).cell? ((⟨w.heap.size, 0, none⟩ : Addr).add j) = some u := by
  intro j u h
  match j, h with
  | 0, h => simp at h; subst h; simp [Addr.add]
theorem one_int (k : IntKind) (n : Int) : ∀ u ∈ [Value.int k n], u.oneCell' = true := by
  intro u h; simp at h; subst h; rfl
theorem one_ptr (a : Option Addr) : ∀ u ∈ [Value.pointer a], u.oneCell' = true := by
  intro u h; simp at h; subst h; rfl
/-- One cell of an owned row is written. -/
theorem owns_set {w : World} {base e size n g c : Nat} {xs : List Value} (h : w.ownsRow base e size (.slice (some ⟨g, 0, none⟩) n c) n xs) (j : Nat) (u : Value) :
    (w.setCell ⟨g, j, none⟩ u).ownsRow base e size (.slice (some ⟨g, 0, none⟩) n c) n (xs.set j u) := by
  obtain ⟨h1, h2⟩ := h
  refine ⟨by simpa using h1, ?_⟩
  rcases h2 with ⟨h2, _⟩ | ⟨g', cap, cur, hv, hb, hh, hn, hm, hs, ht⟩
  · simp at h2
  · simp at hv
    obtain ⟨rfl, rfl⟩ := hv
    refine .inr ⟨g, c, cur.setIfInBounds j u, rfl, hb, ?_, hn, hm, by simpa using hs, ?_⟩
    · simp [World.setCell, Array.getElem?_modify, hh]
    · rw [← ht]
      simp [List.take_set]

/-- append onto a row of the call's own, the source nil or not; where the result lies: in the old block, or in a new one. -/
theorem run_app {P : Program} (w : World) (t ty e : TypeId) (i : TypeInfo) (z : Value) (size bytes : Nat) (ht : P.underlying t = some (.slice e)) (hi : P.info? e = some i) (hz : i.zero = some z)
    (hsize : i.size = size) (hby : i.bytes = bytes) (hzs : z.cells.size = size) (hsz : 0 < size)
    (v : Value) (n : Nat) (xs : List Value) (hown : w.ownsRow 0 e size v n xs)
    (ao : Option Addr) (m c : Nat) (news : List Value) (hl : news.length = m * size) (hnone : ao = none → m = 0 ∧ c = 0) (hnews : ∀ ad, ao = some ad → ∀ j u, news[j]? = some u → w.cell? (ad.add j) = some u) (h1 : ∀ u ∈ news, u.oneCell' = true)
    (h63 : n + m ≤ maxLen) (hbytes : (n + m) * bytes ≤ 140737488355328) :
    ∃ v' w', (Builtin.append_ #[t, t] ty #[v, .slice ao m c]).run P w = .ok v' w' ∧ w'.ownsRow 0 e size v' (n + m) (xs ++ news) ∧ Touch v.ownBlock.toList w w' ∧ (v'.ownBlock = v.ownBlock ∨ v'.ownBlock = some w.heap.size) := by
  cases ao with
  | none =>
    obtain ⟨rfl, rfl⟩ := hnone rfl
    obtain rfl : news = [] := List.eq_nil_of_length_eq_zero (by simpa using hl)
    refine ⟨v, w, run_append_owned_none w 0 t ty e i size ht hi v n xs hown, by simpa using hown, Touch.refl _ _, .inl rfl⟩
  | some ad =>
    obtain ⟨v', w', hr, ho, hg, hnil⟩ := run_append_own (P := P) w 0 t ty e i z size bytes ht hi hz hsize hby hzs hsz v n xs hown ad m c news hl (hnews ad rfl) h1 h63 hbytes (Nat.zero_le _)
    refine ⟨v', w', hr, ho, (Touch.refl _ _).grown hg (by intro k hk; simp [hk]), ?_⟩
    subst hsize
    subst hby
    have hs63 : n + m ≤ 9223372036854775807 := by simp only [maxLen] at h63; omega
    rcases hown.2 with ⟨rfl, rfl⟩ | ⟨g, cap, cur, rfl, _, hgg, hnc, hcm, hcs, htake⟩
    · by_cases hm : m = 0
      · subst hm
        have := hnil.2 ⟨rfl, rfl⟩
        rw [this]
        exact .inl rfl
      · have hr2 := run_append_nil (P := P) w t ty e i z ht hi hz ad m c news hl (hnews ad rfl) (by omega) (by omega) (by have hb := hbytes; simp only [Nat.zero_add] at hb; omega)
        rw [hr] at hr2
        simp only [Result.ok.injEq] at hr2
        rw [hr2.1]
        exact .inr rfl
    · by_cases hroom : n + m ≤ cap
      · have hr2 := run_append_room (P := P) w t ty e i ht hi g n cap cur hgg ad m c news hl (hnews ad rfl) h1 hroom (by rw [hl, hcs, ← Nat.add_mul]; exact Nat.mul_le_mul_right _ hroom)
        rw [hr] at hr2
        simp only [Result.ok.injEq] at hr2
        rw [hr2.1]
        exact .inl rfl
      · have hr2 := run_append_grow (P := P) w t ty e i z ht hi hz ⟨g, 0, none⟩ n cap xs hown.1 (hown.cells (g := g) rfl) ad m c news hl (hnews ad rfl) (by omega) (by omega) (growslice_fits (by omega) hbytes)
        rw [hr] at hr2
        simp only [Result.ok.injEq] at hr2
        rw [hr2.1]
        exact .inr rfl

theorem wpList_app {P : Program} (w : World) {ops : Array Oper} {rest : List Oper} {o : Oper} {a : Act} {Q : Exit → Act → World → Prop} (hgd : o.guard = none) (s x : Operand) (t : TypeId)
    (ho : o.op = .call { callee := .builtin .append, args := #[s, x], argTypes := #[t, t] })
    (e : TypeId) (i : TypeInfo) (z : Value) (size bytes : Nat) (ht : P.underlying t = some (.slice e)) (hi : P.info? e = some i) (hz : i.zero = some z)
    (hsize : i.size = size) (hby : i.bytes = bytes) (hzs : z.cells.size = size) (hsz : 0 < size)
    (v : Value) (n : Nat) (xs : List Value) (hs : a.eval s = v) (hown : w.ownsRow 0 e size v n xs)
    (ao : Option Addr) (m c : Nat) (news : List Value) (hx : a.eval x = .slice ao m c) (hl : news.length = m * size) (hnone : ao = none → m = 0 ∧ c = 0) (hnews : ∀ ad, ao = some ad → ∀ j u, news[j]? = some u → w.cell? (ad.add j) = some u) (h1 : ∀ u ∈ news, u.oneCell' = true)
    (h63 : n + m ≤ maxLen) (hbytes : (n + m) * bytes ≤ 140737488355328)
    (h : ∀ v' w', w'.ownsRow 0 e size v' (n + m) (xs ++ news) → Touch v.ownBlock.toList w w' → (v'.ownBlock = v.ownBlock ∨ v'.ownBlock = some w.heap.size) → wpList P ops Q rest (a.put o.dst v') w') : wpList P ops Q (o :: rest) a w := by
  refine wpList_plain hgd fun K hK => ?_
  obtain ⟨v', w', hr, h2, h3, h4⟩ := run_app (P := P) w t o.type e i z size bytes ht hi hz hsize hby hzs hsz v n xs hown ao m c news hl hnone hnews h1 h63 hbytes
  unfold Oper.wp execOp
  simp only [ho, resolve, invoke, builtin, Sem.run_bind, Sem.run_pure, Result.andThen_ok, List.map_toArray, List.map_cons, List.map_nil, hs, hx, hr]
  exact hK _ _ (h v' w' h2 h3 h4)
/-- .. of one new cell: append(s, x). -/
theorem wpList_app1 {P : Program} (w : World) {ops : Array Oper} {rest : List Oper} {o : Oper} {a : Act} {Q : Exit → Act → World → Prop} (hgd : o.guard = none) (s x : Operand) (t : TypeId)
    (ho : o.op = .call { callee := .builtin .append, args := #[s, x], argTypes := #[t, t] })
    (e : TypeId) (i : TypeInfo) (z : Value) (bytes : Nat) (ht : P.underlying t = some (.slice e)) (hi : P.info? e = some i) (hz : i.zero = some z)
    (hsize : i.size = 1) (hby : i.bytes = bytes) (hzs : z.cells.size = 1)
    (v : Value) (n : Nat) (xs : List Value) (hs : a.eval s = v) (hown : w.ownsRow 0 e 1 v n xs)
    (u : Value) (T : TypeId) (hx : a.eval x = .slice (some ⟨w.heap.size, 0, none⟩) 1 1) (h1 : u.oneCell' = true) (h63 : n + 1 ≤ maxLen) (hbytes : (n + 1) * bytes ≤ 140737488355328)
    (h : ∀ v' w', w'.ownsRow 0 e 1 v' (n + 1) (xs ++ [u]) → Touch v.ownBlock.toList w w' → (v'.ownBlock = v.ownBlock ∨ v'.ownBlock = some (w.heap.size + 1)) → wpList P ops Q rest (a.put o.dst v') w') : wpList P ops Q (o :: rest) a (w.alloc (.cells #[u] T)) :=
  wpList_app _ hgd s x t ho e i z 1 bytes ht hi hz hsize hby hzs (by omega) v n xs hs (hown.alloc _) _ 1 1 [u] hx rfl (by intro h; cases h) (by intro ad h; cases h; exact one_new w u T) (by intro y hy; simp at hy; subst hy; exact h1) h63 hbytes
    fun v' w' h2 h3 h4 => h v' w' h2 (Touch.trans ((Touch.refl _ _).alloc _) h3 (fun x hx => .inl hx)) (by simpa using h4)
end Go.Proofs.YtecaakgpogabjaaDoor

/-
  Loads and stores of a whole struct. Plain lemmas over any program.
-/
namespace Go.Proofs.YtecaakgpogabjaaDoor
open Go.RowKit
set_option linter.unusedVariables false
set_option linter.unusedSimpArgs false

theorem Touch.range {S : List Nat} {w w' : World} (t : Touch S w w') {b o : Nat} {cs : List Value} (h : w.rangeAt b o cs) (hb : b ∉ S) : w'.rangeAt b o cs :=
  fun j v hv => t.cell (h j v hv) hb
theorem range_draws {w : World} {b o : Nat} {cs : List Value} (h : w.rangeAt b o cs) (n : Nat) : (w.drewN n).rangeAt b o cs := h
theorem range_new (w : World) (cs : List Value) (T : TypeId) : (w.alloc (.cells cs.toArray T)).rangeAt w.heap.size 0 cs := by
  intro j v hv
  rw [Nat.zero_add, cell_of_row (w.alloc (.cells cs.toArray T)) w.heap.size j cs.toArray T (0, 0) (heap_alloc_new w _)]
  simpa using hv

theorem setCells_new (w : World) (z : Array Value) (T : TypeId) (cs : List Value) (h : z.size = cs.length) : (w.alloc (.cells z T)).setCells w.heap.size 0 cs = w.alloc (.cells cs.toArray T) := by
  have key : ∀ (l pre : List Value) (o : Nat) (suf : List Value), o = pre.length → suf.length = l.length → (w.alloc (.cells (pre ++ suf).toArray T)).setCells w.heap.size o l = w.alloc (.cells (pre ++ l).toArray T) := by
    intro l
    induction l with
    | nil => intro pre o suf ho hs; obtain rfl : suf = [] := List.eq_nil_of_length_eq_zero (by simpa using hs); rfl
    | cons x l ih =>
      intro pre o suf ho hs
      cases suf with
      | nil => simp at hs
      | cons y suf =>
        have e : (w.alloc (.cells (pre ++ y :: suf).toArray T)).setCell ⟨w.heap.size, o, none⟩ x = w.alloc (.cells ((pre ++ [x]) ++ suf).toArray T) := by
          rw [World.setCell_alloc_at _ _ _ _ _ rfl]
          congr 2
          subst ho
          simp
        show ((w.alloc (.cells (pre ++ y :: suf).toArray T)).setCell ⟨w.heap.size, o, none⟩ x).setCells w.heap.size (o + 1) l = _
        rw [e, ih (pre ++ [x]) (o + 1) suf (by simp [ho]) (by simpa using hs)]
        simp
  obtain ⟨zl⟩ := z
  have := key cs [] 0 zl rfl (by simpa using h)
  simpa using this

/-- A struct is stored into the variable that the call has just made. -/
theorem wpList_store_new {P : Program} {ops : Array Oper} {rest : List Oper} {op : Oper} {a : Act} {w : World} {Q : Exit → Act → World → Prop} (hgd : op.guard = none) (ty : TypeId) (x y : Operand) (ho : op.op = .store ty x y)
    (z : Array Value) (T : TypeId) (cs : List Value) (hx : a.eval x = .pointer (some ⟨w.heap.size, 0, none⟩)) (hy : a.eval y = .agg cs.toArray) (hz : z.size = cs.length) (hi : (P.info? ty).map (·.size) = some cs.length) (h1 : ∀ v ∈ cs, v.oneCell' = true)
    (h : wpList P ops Q rest (a.put op.dst undef) (w.alloc (.cells cs.toArray T))) : wpList P ops Q (op :: rest) a (w.alloc (.cells z T)) := by
  refine wpList_store_mid hgd ty x y ho w.heap.size 0 cs.toArray hx hy ?_ (by simpa using hi) (all_oneCell_toArray h1) ?_
  · intro j hj
    have hb := heap_alloc_new w (.cells z T)
    rw [cell_of_row _ _ _ z T (0, 0) hb]
    constructor
    · have : j < z.size := by simp at hj; omega
      simp [this]
    · exact frozen_of_row _ _ _ _ _ hb
  · rw [show cs.toArray.toList = cs by simp, setCells_new w z T cs hz]
    exact h

/-- A struct is stored into a whole block. -/
theorem wpList_store_into {P : Program} {ops : Array Oper} {rest : List Oper} {op : Oper} {a : Act} {w : World} {Q : Exit → Act → World → Prop} (hgd : op.guard = none) (ty : TypeId) (x y : Operand) (ho : op.op = .store ty x y)
    (g : Nat) (T : TypeId) (old : Array Value) (cs : List Value) (hx : a.eval x = .pointer (some ⟨g, 0, none⟩)) (hy : a.eval y = .agg cs.toArray) (hg : w.heap[g]? = some (.cells old T (0, 0)))
    (hz : old.size = cs.length) (hi : (P.info? ty).map (·.size) = some cs.length) (h1 : ∀ v ∈ cs, v.oneCell' = true)
    (h : ∀ w', w'.heap[g]? = some (.cells cs.toArray T (0, 0)) → Touch [g] w w' → w'.heap.size = w.heap.size → wpList P ops Q rest (a.put op.dst undef) w') : wpList P ops Q (op :: rest) a w := by
  refine wpList_store_row hgd ty x y ho g cs.toArray hx hy T old hg (by simpa using hi) (by simpa using hz) (all_oneCell_toArray h1) (h _ (setRow_heap w g old _ T _ hg) ⟨rfl, rfl, rfl, by simp, fun k hk hn => setRow_other w g k _ (by simpa using hn)⟩ (by simp))

/-- Cells are stored into the midst of a block. -/
theorem wpList_store_part {P : Program} {ops : Array Oper} {rest : List Oper} {op : Oper} {a : Act} {w : World} {Q : Exit → Act → World → Prop} (hgd : op.guard = none) (ty : TypeId) (x y : Operand) (ho : op.op = .store ty x y)
    (g o : Nat) (T : TypeId) (old : List Value) (cs : List Value) (hx : a.eval x = .pointer (some ⟨g, o, none⟩)) (hy : a.eval y = .agg cs.toArray) (hg : w.heap[g]? = some (.cells old.toArray T (0, 0)))
    (hz : o + cs.length ≤ old.length) (hi : (P.info? ty).map (·.size) = some cs.length) (h1 : ∀ v ∈ cs, v.oneCell' = true)
    (h : ∀ w', w'.heap[g]? = some (.cells (old.take o ++ cs ++ old.drop (o + cs.length)).toArray T (0, 0)) → Touch [g] w w' → w'.heap.size = w.heap.size → wpList P ops Q rest (a.put op.dst undef) w') : wpList P ops Q (op :: rest) a w := by
  refine wpList_plain hgd fun K hK => ?_
  have hr := run_storeCells_at (P := P) g o T cs 0 old.toArray w hg (by simpa using hz) h1
  simp only [Nat.add_zero] at hr
  have hv : (storeVar ty ⟨g, o, none⟩ (.agg cs.toArray)).run P w = .ok () (w.setRow g (old.take o ++ cs ++ old.drop (o + cs.length)).toArray) := by
    cases hq : P.info? ty with
    | none => simp [hq] at hi
    | some i =>
      have hs : cs.length = i.size := by simp [hq] at hi; omega
      simp [storeVar, sizeOf, typeInfo, hq, Value.cells, hs, hr]
  have := hK _ _ (h _ (setRow_heap w g _ _ T _ hg) ⟨rfl, rfl, rfl, by simp, fun k hk hn => setRow_other w g k _ (by simpa using hn)⟩ (by simp))
  unfold Oper.wp execOp
  simp only [ho, hx, hy, Instr.storeAt, Instr.sureAddr, Sem.run_bind, Sem.run_pure, Result.andThen_ok, hv]
  exact this
theorem range_block {w : World} {g : Nat} {T : TypeId} {cs : List Value} (h : w.heap[g]? = some (.cells cs.toArray T (0, 0))) : w.rangeAt g 0 cs := by
  intro j v hv
  rw [cell_of_row w g _ cs.toArray T (0, 0) h]
  simpa using hv

end Go.Proofs.YtecaakgpogabjaaDoor

/-
  The contracts of the address makers of the statements (V4, Addr, ValidAddr, SomeAddr): each hands back an address of 17 cells: a flag and sixteen bytes.
-/
namespace Go.Proofs.YtecaakgpogabjaaDoor
open Go.RowKit
set_option linter.unusedVariables false
set_option linter.unusedSimpArgs false

/-- The cells of an address: a flag, sixteen bytes. -/
def adr (b : Bool) (xs : List Int) : List Value := .bool b :: xs.map (Value.int .u8)
def IsAd (cs : List Value) : Prop := ∃ b xs, cs = adr b xs ∧ xs.length = 16 ∧ ∀ x ∈ xs, 0 ≤ x ∧ x ≤ 255
theorem IsAd.len {cs : List Value} (h : IsAd cs) : cs.length = 17 := by
  obtain ⟨b, xs, rfl, hl, _⟩ := h
  simp [adr, hl]
theorem IsAd.one {cs : List Value} (h : IsAd cs) : ∀ v ∈ cs, v.oneCell' = true := by
  obtain ⟨b, xs, rfl, hl, _⟩ := h
  intro v hv
  simp only [adr, List.mem_cons, List.mem_map] at hv
  rcases hv with rfl | ⟨x, _, rfl⟩ <;> rfl
theorem adr_one (b : Bool) (xs : List Int) : ∀ v ∈ adr b xs, v.oneCell' = true := by
  intro v hv
  simp only [adr, List.mem_cons, List.mem_map] at hv
  rcases hv with rfl | ⟨x, _, rfl⟩ <;> rfl

theorem size31 : (Tryd.prog.info? 28).map (·.size) = some 17 := by kernel_rfl

/-- The end of a function that hands back an address out of its block. -/
theorem ret_adr {fn : Func} {p : Tmp} (h : fn.results = #[.cell p 28]) {R : Ending → World → Prop} {tmps : Array Value} {w : World} {g : Nat} {T : TypeId} {cs : List Value} (hl : cs.length = 17)
    (hp : tmps.getD p undef = .pointer (some ⟨g, 0, none⟩)) (hg : w.heap[g]? = some (.cells cs.toArray T (0, 0))) (hR : R (.returned (.agg cs.toArray)) w) : bodyPost Tryd.prog fn R .ret { tmps := tmps, defers := [] } w :=
  bodyPost_ret (results_cell_row h tmps w g T cs.toArray (0, 0) _ hp hg Tryd.underlying28 rfl (by rw [size31]; simp [hl])) rfl hR

set_option maxRecDepth 100000 in
theorem v4_any (x0 x1 x2 x3 : Int) (w : World) :
    Calls Tryd.prog 20 #[.int .u8 x0, .int .u8 x1, .int .u8 x2, .int .u8 x3] w fun e w' => e = .returned (.agg (adr false [x0, x1, x2, x3, 0, 0, 0, 0, 0, 0, 0, 0, 0, 0, 0, 0]).toArray) ∧ Touch [] w w' := by
  go_enter Tryd.func20, Tryd.ntmps20
  go_wp2_with (refine wpList_store_new rfl 28 _ _ rfl _ _ (adr false [x0, x1, x2, x3, 0, 0, 0, 0, 0, 0, 0, 0, 0, 0, 0, 0]) rfl rfl rfl size31 (adr_one _ _) ?_)
  exact ret_adr rfl rfl rfl (heap_alloc_new w _) ⟨rfl, (Touch.refl _ _).alloc _⟩
/-- What Mod(v, n) is: v taken modulo 2^64, then modulo n. -/
def gmod (v n : Int) : Int := (v % 18446744073709551616) % n
theorem gmod_lo (v n : Int) (hn : 1 ≤ n) : 0 ≤ gmod v n := Int.emod_nonneg _ (by omega)
theorem gmod_hi (v n : Int) (hn : 1 ≤ n) : gmod v n < n := Int.emod_lt_of_pos _ (by omega)
theorem mod_eq (v n : Int) (hn : 1 ≤ n) (hn2 : n ≤ 1000000) : wrap64 ((IntKind.u64.wrap v).tmod n) = gmod v n := by
  have h0 : 0 ≤ IntKind.u64.wrap v := by simp [IntKind.wrap, IntKind.signed, IntKind.bits]; omega
  rw [Int.tmod_eq_emod_of_nonneg h0]
  have h1 := Int.emod_nonneg (IntKind.u64.wrap v) (show n ≠ 0 by omega)
  have h2 := Int.emod_lt_of_pos (IntKind.u64.wrap v) (show 0 < n by omega)
  rw [IntWalk.wrap64_in _ ⟨by omega, by omega⟩]
  unfold gmod
  congr 1
theorem mod_any (v n : Int) (w : World) (hn : 1 ≤ n) (hn2 : n ≤ 1000000) :
    Calls Tryd.prog 31 #[.int .i64 v, .int .i64 n] w fun e w' => e = .returned (.int .i64 (gmod v n)) ∧ w = w' := by
  have H := mod_eq v n hn hn2
  go_enter Tryd.func31, Tryd.ntmps31
  go_wp2
  go_ret
  exact ⟨by simp [← H], rfl⟩

end Go.Proofs.YtecaakgpogabjaaDoor

/-
  The fourteen cases of the address maker Addr: an IPv4 address at 0 to 5, an IPv6 address at 6 to 13.
-/
namespace Go.Proofs.YtecaakgpogabjaaDoor
open Go.RowKit
set_option linter.unusedVariables false
set_option linter.unusedSimpArgs false

set_option maxRecDepth 100000 in
set_option maxHeartbeats 1000000 in
theorem addr_0 (n : Int) (w : World) (hk : gmod n 14 = 0) :
    Calls Tryd.prog 21 #[.int .i64 n] w fun e w' => ∃ xs : List Int, (xs.length = 16 ∧ ∀ x ∈ xs, 0 ≤ x ∧ x ≤ 255) ∧ e = .returned (.agg (adr false xs).toArray) ∧ Touch [] w w' := by
  have HK := Lib.hid hk
  clear hk
  go_enter Tryd.func21, Tryd.ntmps21
  go_wp2_with fail
  refine (mod_any _ _ _ (by omega) (by omega)).mono ?_
  rintro e w' ⟨rfl, rfl⟩
  rw [HK.out]

  go_wp2_with fail
  refine (v4_any _ _ _ _ _).mono ?_
  rintro e w1 ⟨rfl, t1⟩
  have hg := t1.at (heap_alloc_new w _) (by simp)
  go_wp2_with (refine wpList_store_into rfl 28 _ _ rfl w.heap.size 28 _ (adr false _) rfl rfl hg rfl size31 (adr_one _ _) ?_)
  intro w2 hg2 t2 _
  go_wp2_with fail
  refine ret_adr rfl (cs := adr false _) rfl rfl hg2 ⟨_, ⟨rfl, by simp⟩, rfl, ?_⟩
  exact Touch.trans ((Touch.refl [] w).alloc _) (Touch.trans (t1.mono (S' := [w.heap.size]) (by simp)) t2 (by simp)) (by simp)

set_option maxRecDepth 100000 in
set_option maxHeartbeats 1000000 in
theorem addr_1 (n : Int) (w : World) (hk : gmod n 14 = 1) :
    Calls Tryd.prog 21 #[.int .i64 n] w fun e w' => ∃ xs : List Int, (xs.length = 16 ∧ ∀ x ∈ xs, 0 ≤ x ∧ x ≤ 255) ∧ e = .returned (.agg (adr false xs).toArray) ∧ Touch [] w w' := by
  have HK := Lib.hid hk
  clear hk
  go_enter Tryd.func21, Tryd.ntmps21
  go_wp2_with fail
  refine (mod_any _ _ _ (by omega) (by omega)).mono ?_
  rintro e w' ⟨rfl, rfl⟩
  rw [HK.out]

  go_wp2_with fail
  refine (v4_any _ _ _ _ _).mono ?_
  rintro e w1 ⟨rfl, t1⟩
  have hg := t1.at (heap_alloc_new w _) (by simp)
  go_wp2_with (refine wpList_store_into rfl 28 _ _ rfl w.heap.size 28 _ (adr false _) rfl rfl hg rfl size31 (adr_one _ _) ?_)
  intro w2 hg2 t2 _
  go_wp2_with fail
  refine ret_adr rfl (cs := adr false _) rfl rfl hg2 ⟨_, ⟨rfl, by simp⟩, rfl, ?_⟩
  exact Touch.trans ((Touch.refl [] w).alloc _) (Touch.trans (t1.mono (S' := [w.heap.size]) (by simp)) t2 (by simp)) (by simp)

set_option maxRecDepth 100000 in
set_option maxHeartbeats 1000000 in
theorem addr_2 (n : Int) (w : World) (hk : gmod n 14 = 2) :
    Calls Tryd.prog 21 #[.int .i64 n] w fun e w' => ∃ xs : List Int, (xs.length = 16 ∧ ∀ x ∈ xs, 0 ≤ x ∧ x ≤ 255) ∧ e = .returned (.agg (adr false xs).toArray) ∧ Touch [] w w' := by
  have HK := Lib.hid hk
  clear hk
  go_enter Tryd.func21, Tryd.ntmps21
  go_wp2_with fail
  refine (mod_any _ _ _ (by omega) (by omega)).mono ?_
  rintro e w' ⟨rfl, rfl⟩
  rw [HK.out]

  go_wp2_with fail
  refine (v4_any _ _ _ _ _).mono ?_
  rintro e w1 ⟨rfl, t1⟩
  have hg := t1.at (heap_alloc_new w _) (by simp)
  go_wp2_with (refine wpList_store_into rfl 28 _ _ rfl w.heap.size 28 _ (adr false _) rfl rfl hg rfl size31 (adr_one _ _) ?_)
  intro w2 hg2 t2 _
  go_wp2_with fail
  refine ret_adr rfl (cs := adr false _) rfl rfl hg2 ⟨_, ⟨rfl, by simp⟩, rfl, ?_⟩
  exact Touch.trans ((Touch.refl [] w).alloc _) (Touch.trans (t1.mono (S' := [w.heap.size]) (by simp)) t2 (by simp)) (by simp)

set_option maxRecDepth 100000 in
set_option maxHeartbeats 1000000 in
theorem addr_3 (n : Int) (w : World) (hk : gmod n 14 = 3) :
    Calls Tryd.prog 21 #[.int .i64 n] w fun e w' => ∃ xs : List Int, (xs.length = 16 ∧ ∀ x ∈ xs, 0 ≤ x ∧ x ≤ 255) ∧ e = .returned (.agg (adr false xs).toArray) ∧ Touch [] w w' := by
  have HK := Lib.hid hk
  clear hk
  go_enter Tryd.func21, Tryd.ntmps21
  go_wp2_with fail
  refine (mod_any _ _ _ (by omega) (by omega)).mono ?_
  rintro e w' ⟨rfl, rfl⟩
  rw [HK.out]

  go_wp2_with fail
  refine (v4_any _ _ _ _ _).mono ?_
  rintro e w1 ⟨rfl, t1⟩
  have hg := t1.at (heap_alloc_new w _) (by simp)
  go_wp2_with (refine wpList_store_into rfl 28 _ _ rfl w.heap.size 28 _ (adr false _) rfl rfl hg rfl size31 (adr_one _ _) ?_)
  intro w2 hg2 t2 _
  go_wp2_with fail
  refine ret_adr rfl (cs := adr false _) rfl rfl hg2 ⟨_, ⟨rfl, by simp⟩, rfl, ?_⟩
  exact Touch.trans ((Touch.refl [] w).alloc _) (Touch.trans (t1.mono (S' := [w.heap.size]) (by simp)) t2 (by simp)) (by simp)

set_option maxRecDepth 100000 in
set_option maxHeartbeats 1000000 in
theorem addr_4 (n : Int) (w : World) (hk : gmod n 14 = 4) :
    Calls Tryd.prog 21 #[.int .i64 n] w fun e w' => ∃ xs : List Int, (xs.length = 16 ∧ ∀ x ∈ xs, 0 ≤ x ∧ x ≤ 255) ∧ e = .returned (.agg (adr false xs).toArray) ∧ Touch [] w w' := by
  have HK := Lib.hid hk
  clear hk
  go_enter Tryd.func21, Tryd.ntmps21
  go_wp2_with fail
  refine (mod_any _ _ _ (by omega) (by omega)).mono ?_
  rintro e w' ⟨rfl, rfl⟩
  rw [HK.out]

  go_wp2_with fail
  refine (v4_any _ _ _ _ _).mono ?_
  rintro e w1 ⟨rfl, t1⟩
  have hg := t1.at (heap_alloc_new w _) (by simp)
  go_wp2_with (refine wpList_store_into rfl 28 _ _ rfl w.heap.size 28 _ (adr false _) rfl rfl hg rfl size31 (adr_one _ _) ?_)
  intro w2 hg2 t2 _
  go_wp2_with fail
  refine ret_adr rfl (cs := adr false _) rfl rfl hg2 ⟨_, ⟨rfl, by simp⟩, rfl, ?_⟩
  exact Touch.trans ((Touch.refl [] w).alloc _) (Touch.trans (t1.mono (S' := [w.heap.size]) (by simp)) t2 (by simp)) (by simp)

set_option maxRecDepth 100000 in
set_option maxHeartbeats 1000000 in
theorem addr_5 (n : Int) (w : World) (hk : gmod n 14 = 5) :
    Calls Tryd.prog 21 #[.int .i64 n] w fun e w' => ∃ xs : List Int, (xs.length = 16 ∧ ∀ x ∈ xs, 0 ≤ x ∧ x ≤ 255) ∧ e = .returned (.agg (adr false xs).toArray) ∧ Touch [] w w' := by
  have HK := Lib.hid hk
  clear hk
  go_enter Tryd.func21, Tryd.ntmps21
  go_wp2_with fail
  refine (mod_any _ _ _ (by omega) (by omega)).mono ?_
  rintro e w' ⟨rfl, rfl⟩
  rw [HK.out]

  go_wp2_with fail
  refine (v4_any _ _ _ _ _).mono ?_
  rintro e w1 ⟨rfl, t1⟩
  have hg := t1.at (heap_alloc_new w _) (by simp)
  go_wp2_with (refine wpList_store_into rfl 28 _ _ rfl w.heap.size 28 _ (adr false _) rfl rfl hg rfl size31 (adr_one _ _) ?_)
  intro w2 hg2 t2 _
  go_wp2_with fail
  refine ret_adr rfl (cs := adr false _) rfl rfl hg2 ⟨_, ⟨rfl, by simp; try omega⟩, rfl, ?_⟩
  exact Touch.trans ((Touch.refl [] w).alloc _) (Touch.trans (t1.mono (S' := [w.heap.size]) (by simp)) t2 (by simp)) (by simp)

set_option maxRecDepth 100000 in
set_option maxHeartbeats 1000000 in
theorem addr_6 (n : Int) (w : World) (hk : gmod n 14 = 6) :
    Calls Tryd.prog 21 #[.int .i64 n] w fun e w' => ∃ xs : List Int, (xs.length = 16 ∧ ∀ x ∈ xs, 0 ≤ x ∧ x ≤ 255) ∧ e = .returned (.agg (adr true xs).toArray) ∧ Touch [] w w' := by
  have HK := Lib.hid hk
  clear hk
  go_enter Tryd.func21, Tryd.ntmps21
  go_wp2_with fail
  refine (mod_any _ _ _ (by omega) (by omega)).mono ?_
  rintro e w' ⟨rfl, rfl⟩
  rw [HK.out]

  go_wp2_with (refine wpList_store_new rfl 28 _ _ rfl _ _ _ rfl rfl rfl size31 (by simp [Value.oneCell']) ?_)
  refine ret_adr rfl (cs := adr true [32, 1, 13, 184, 0, 0, 0, 0, 0, 0, 0, 0, 0, 0, 0, _]) rfl rfl (heap_alloc_new w _) ⟨_, ⟨rfl, by simp; try omega⟩, rfl, (Touch.refl _ _).alloc _⟩

set_option maxRecDepth 100000 in
set_option maxHeartbeats 1000000 in
theorem addr_7 (n : Int) (w : World) (hk : gmod n 14 = 7) :
    Calls Tryd.prog 21 #[.int .i64 n] w fun e w' => ∃ xs : List Int, (xs.length = 16 ∧ ∀ x ∈ xs, 0 ≤ x ∧ x ≤ 255) ∧ e = .returned (.agg (adr true xs).toArray) ∧ Touch [] w w' := by
  have HK := Lib.hid hk
  clear hk
  go_enter Tryd.func21, Tryd.ntmps21
  go_wp2_with fail
  refine (mod_any _ _ _ (by omega) (by omega)).mono ?_
  rintro e w' ⟨rfl, rfl⟩
  rw [HK.out]

  go_wp2_with (refine wpList_store_new rfl 28 _ _ rfl _ _ _ rfl rfl rfl size31 (by simp [Value.oneCell']) ?_)
  refine ret_adr rfl (cs := adr true [42, 0, 0, 0, 0, 0, 0, 0, 0, 0, 0, 0, 0, 0, 0, 5]) rfl rfl (heap_alloc_new w _) ⟨_, ⟨rfl, by simp; try omega⟩, rfl, (Touch.refl _ _).alloc _⟩

set_option maxRecDepth 100000 in
set_option maxHeartbeats 1000000 in
theorem addr_8 (n : Int) (w : World) (hk : gmod n 14 = 8) :
    Calls Tryd.prog 21 #[.int .i64 n] w fun e w' => ∃ xs : List Int, (xs.length = 16 ∧ ∀ x ∈ xs, 0 ≤ x ∧ x ≤ 255) ∧ e = .returned (.agg (adr true xs).toArray) ∧ Touch [] w w' := by
  have HK := Lib.hid hk
  clear hk
  go_enter Tryd.func21, Tryd.ntmps21
  go_wp2_with fail
  refine (mod_any _ _ _ (by omega) (by omega)).mono ?_
  rintro e w' ⟨rfl, rfl⟩
  rw [HK.out]

  go_wp2_with (refine wpList_store_new rfl 28 _ _ rfl _ _ _ rfl rfl rfl size31 (by simp [Value.oneCell']) ?_)
  refine ret_adr rfl (cs := adr true [254, 128, 0, 0, 0, 0, 0, 0, 0, 0, 0, 0, 0, 0, 0, 1]) rfl rfl (heap_alloc_new w _) ⟨_, ⟨rfl, by simp; try omega⟩, rfl, (Touch.refl _ _).alloc _⟩

set_option maxRecDepth 100000 in
set_option maxHeartbeats 1000000 in
theorem addr_9 (n : Int) (w : World) (hk : gmod n 14 = 9) :
    Calls Tryd.prog 21 #[.int .i64 n] w fun e w' => ∃ xs : List Int, (xs.length = 16 ∧ ∀ x ∈ xs, 0 ≤ x ∧ x ≤ 255) ∧ e = .returned (.agg (adr true xs).toArray) ∧ Touch [] w w' := by
  have HK := Lib.hid hk
  clear hk
  go_enter Tryd.func21, Tryd.ntmps21
  go_wp2_with fail
  refine (mod_any _ _ _ (by omega) (by omega)).mono ?_
  rintro e w' ⟨rfl, rfl⟩
  rw [HK.out]

  go_wp2_with (refine wpList_store_new rfl 28 _ _ rfl _ _ _ rfl rfl rfl size31 (by simp [Value.oneCell']) ?_)
  refine ret_adr rfl (cs := adr true [0, 0, 0, 0, 0, 0, 0, 0, 0, 0, 255, 255, 8, 8, 8, 8]) rfl rfl (heap_alloc_new w _) ⟨_, ⟨rfl, by simp; try omega⟩, rfl, (Touch.refl _ _).alloc _⟩

set_option maxRecDepth 100000 in
set_option maxHeartbeats 1000000 in
theorem addr_10 (n : Int) (w : World) (hk : gmod n 14 = 10) :
    Calls Tryd.prog 21 #[.int .i64 n] w fun e w' => ∃ xs : List Int, (xs.length = 16 ∧ ∀ x ∈ xs, 0 ≤ x ∧ x ≤ 255) ∧ e = .returned (.agg (adr true xs).toArray) ∧ Touch [] w w' := by
  have HK := Lib.hid hk
  clear hk
  go_enter Tryd.func21, Tryd.ntmps21
  go_wp2_with fail
  refine (mod_any _ _ _ (by omega) (by omega)).mono ?_
  rintro e w' ⟨rfl, rfl⟩
  rw [HK.out]

  go_wp2_with (refine wpList_store_new rfl 28 _ _ rfl _ _ _ rfl rfl rfl size31 (by simp [Value.oneCell']) ?_)
  refine ret_adr rfl (cs := adr true [32, 2, 0, 0, 0, 0, 0, 0, 0, 0, 0, 0, 0, 0, 0, 1]) rfl rfl (heap_alloc_new w _) ⟨_, ⟨rfl, by simp; try omega⟩, rfl, (Touch.refl _ _).alloc _⟩

set_option maxRecDepth 100000 in
set_option maxHeartbeats 1000000 in
theorem addr_11 (n : Int) (w : World) (hk : gmod n 14 = 11) :
    Calls Tryd.prog 21 #[.int .i64 n] w fun e w' => ∃ xs : List Int, (xs.length = 16 ∧ ∀ x ∈ xs, 0 ≤ x ∧ x ≤ 255) ∧ e = .returned (.agg (adr true xs).toArray) ∧ Touch [] w w' := by
  have HK := Lib.hid hk
  clear hk
  go_enter Tryd.func21, Tryd.ntmps21
  go_wp2_with fail
  refine (mod_any _ _ _ (by omega) (by omega)).mono ?_
  rintro e w' ⟨rfl, rfl⟩
  rw [HK.out]

  go_wp2_with (refine wpList_store_new rfl 28 _ _ rfl _ _ _ rfl rfl rfl size31 (by simp [Value.oneCell']) ?_)
  refine ret_adr rfl (cs := adr true [0, 0, 0, 0, 0, 0, 0, 0, 0, 0, 0, 0, 0, 0, 0, 1]) rfl rfl (heap_alloc_new w _) ⟨_, ⟨rfl, by simp; try omega⟩, rfl, (Touch.refl _ _).alloc _⟩

set_option maxRecDepth 100000 in
set_option maxHeartbeats 1000000 in
theorem addr_12 (n : Int) (w : World) (hk : gmod n 14 = 12) :
    Calls Tryd.prog 21 #[.int .i64 n] w fun e w' => ∃ xs : List Int, (xs.length = 16 ∧ ∀ x ∈ xs, 0 ≤ x ∧ x ≤ 255) ∧ e = .returned (.agg (adr true xs).toArray) ∧ Touch [] w w' := by
  have HK := Lib.hid hk
  clear hk
  go_enter Tryd.func21, Tryd.ntmps21
  go_wp2_with fail
  refine (mod_any _ _ _ (by omega) (by omega)).mono ?_
  rintro e w' ⟨rfl, rfl⟩
  rw [HK.out]

  go_wp2_with (refine wpList_store_new rfl 28 _ _ rfl _ _ _ rfl rfl rfl size31 (by simp [Value.oneCell']) ?_)
  refine ret_adr rfl (cs := adr true [32, 1, 0, 0, 0, 0, 0, 0, 0, 0, 0, 0, 0, 0, 0, _]) rfl rfl (heap_alloc_new w _) ⟨_, ⟨rfl, by simp; try omega⟩, rfl, (Touch.refl _ _).alloc _⟩

set_option maxRecDepth 100000 in
set_option maxHeartbeats 1000000 in
theorem addr_13 (n : Int) (w : World) (hk : gmod n 14 = 13) :
    Calls Tryd.prog 21 #[.int .i64 n] w fun e w' => ∃ xs : List Int, (xs.length = 16 ∧ ∀ x ∈ xs, 0 ≤ x ∧ x ≤ 255) ∧ e = .returned (.agg (adr true xs).toArray) ∧ Touch [] w w' := by
  have HK := Lib.hid hk
  clear hk
  go_enter Tryd.func21, Tryd.ntmps21
  go_wp2_with fail
  refine (mod_any _ _ _ (by omega) (by omega)).mono ?_
  rintro e w' ⟨rfl, rfl⟩
  rw [HK.out]

  go_wp2_with (refine wpList_store_new rfl 28 _ _ rfl _ _ _ rfl rfl rfl size31 (by simp [Value.oneCell']) ?_)
  refine ret_adr rfl (cs := adr true [42, 0, 0, 0, 0, 0, 0, 0, 0, 0, 0, 0, 0, 0, 0, _]) rfl rfl (heap_alloc_new w _) ⟨_, ⟨rfl, by simp; try omega⟩, rfl, (Touch.refl _ _).alloc _⟩

theorem addr_flag (n : Int) (w : World) (b : Bool) (hb : decide (6 ≤ gmod n 14) = b) :
    Calls Tryd.prog 21 #[.int .i64 n] w fun e w' => ∃ xs : List Int, (xs.length = 16 ∧ ∀ x ∈ xs, 0 ≤ x ∧ x ≤ 255) ∧ e = .returned (.agg (adr b xs).toArray) ∧ Touch [] w w' := by
  have h0 := gmod_lo n 14 (by omega)
  have h1 := gmod_hi n 14 (by omega)
  have hc : gmod n 14 = 0 ∨ gmod n 14 = 1 ∨ gmod n 14 = 2 ∨ gmod n 14 = 3 ∨ gmod n 14 = 4 ∨ gmod n 14 = 5 ∨ gmod n 14 = 6 ∨ gmod n 14 = 7 ∨ gmod n 14 = 8 ∨ gmod n 14 = 9 ∨ gmod n 14 = 10 ∨ gmod n 14 = 11 ∨ gmod n 14 = 12 ∨ gmod n 14 = 13 := by omega
  subst hb
  rcases hc with h | h | h | h | h | h | h | h | h | h | h | h | h | h
  · rw [h]; exact addr_0 n w h
  · rw [h]; exact addr_1 n w h
  · rw [h]; exact addr_2 n w h
  · rw [h]; exact addr_3 n w h
  · rw [h]; exact addr_4 n w h
  · rw [h]; exact addr_5 n w h
  · rw [h]; exact addr_6 n w h
  · rw [h]; exact addr_7 n w h
  · rw [h]; exact addr_8 n w h
  · rw [h]; exact addr_9 n w h
  · rw [h]; exact addr_10 n w h
  · rw [h]; exact addr_11 n w h
  · rw [h]; exact addr_12 n w h
  · rw [h]; exact addr_13 n w h

theorem addr_any (n : Int) (w : World) :
    Calls Tryd.prog 21 #[.int .i64 n] w fun e w' => ∃ cs, IsAd cs ∧ e = .returned (.agg cs.toArray) ∧ Touch [] w w' :=
  (addr_flag n w _ rfl).mono fun _ _ ⟨xs, hx, he, t⟩ => ⟨_, ⟨_, xs, rfl, hx.1, hx.2⟩, he, t⟩
end Go.Proofs.YtecaakgpogabjaaDoor

/-
  The contracts of ValidAddr and SomeAddr: an address in, an address out.
-/
namespace Go.Proofs.YtecaakgpogabjaaDoor
open Go.RowKit
set_option linter.unusedVariables false
set_option linter.unusedSimpArgs false

theorem size29 : (Tryd.prog.info? 26).map (·.size) = some 16 := by kernel_rfl
theorem IsAd.flag {cs : List Value} (h : IsAd cs) : ∃ b, cs[0]? = some (.bool b) ∧ cs.take 1 = [.bool b] := by
  obtain ⟨b, xs, rfl, _, _⟩ := h
  exact ⟨b, rfl, rfl⟩
theorem IsAd.byte {cs : List Value} (h : IsAd cs) (j : Nat) (hj : j < 16) : ∃ n, cs[j + 1]? = some (.int .u8 n) ∧ 0 ≤ n ∧ n ≤ 255 := by
  obtain ⟨b, xs, rfl, hl, hr⟩ := h
  refine ⟨xs[j], by simp [adr, hl, hj], hr _ (List.getElem_mem _)⟩

set_option maxRecDepth 100000 in
set_option maxHeartbeats 2000000 in
theorem valid_any (cs : List Value) (w : World) (h : IsAd cs) :
    Calls Tryd.prog 28 #[.agg cs.toArray] w fun e w' => ∃ cs', IsAd cs' ∧ e = .returned (.agg cs'.toArray) ∧ Touch [] w w' := by
  obtain ⟨b, hb, htk⟩ := h.flag
  obtain ⟨x0, e0, r0⟩ := h.byte 0 (by omega)
  obtain ⟨x1, e1, r1⟩ := h.byte 1 (by omega)
  obtain ⟨x2, e2, r2⟩ := h.byte 2 (by omega)
  obtain ⟨x3, e3, r3⟩ := h.byte 3 (by omega)
  simp only [Nat.reduceAdd] at e0 e1 e2 e3
  have hlen := h.len
  have HL := Lib.hid hlen
  have HT := Lib.hid htk
  clear hlen htk
  cases b
  · go_enter Tryd.func28, Tryd.ntmps28
    go_wp2_with (refine wpList_store_part rfl 26 _ _ rfl w.heap.size 1 28 cs _ rfl rfl (heap_alloc2_old w _ _) (by rw [HL.out]; simp) size29 (by simp [Value.oneCell']) ?_)
    intro w2 hg2 t2 hz2
    have hres := t2.at (heap_alloc2_new w _ _) (by simp)
    have hrg := range_block hg2
    rw [HT.out, List.drop_of_length_le (by rw [HL.out]; simp)] at hrg
    go_wp2_with (first
      | (refine wpList_load_mid rfl 28 _ rfl _ _ rfl _ _ hrg Tryd.underlying28 rfl size31 ?_)
      | (refine wpList_store_into rfl 28 _ _ rfl (w.heap.size + 1) 28 _ _ rfl rfl hres rfl size31 (by simp [Value.oneCell']) ?_))
    intro w3 hg3 t3 hz3
    go_wp2_with fail
    refine ret_adr rfl (cs := adr false [x0, x1, x2, x3, 0, 0, 0, 0, 0, 0, 0, 0, 0, 0, 0, 0]) rfl rfl hg3 ⟨_, ⟨false, _, rfl, rfl, ?_⟩, rfl, ?_⟩
    · intro x hx
      simp at hx
      rcases hx with rfl | rfl | rfl | rfl | rfl <;> omega
    · exact ((((Touch.refl [] w).alloc _).alloc _).trans t2 (by simp)).trans t3 (by simp)
  · have hrg := World.rangeAt_alloc (range_new w cs 28) (.cells #[.bool false, .int .u8 0, .int .u8 0, .int .u8 0, .int .u8 0, .int .u8 0, .int .u8 0, .int .u8 0, .int .u8 0, .int .u8 0, .int .u8 0, .int .u8 0, .int .u8 0, .int .u8 0, .int .u8 0, .int .u8 0, .int .u8 0] 28)
    go_enter Tryd.func28, Tryd.ntmps28
    go_wp2_with (first
      | (refine wpList_load_mid rfl 28 _ rfl _ _ rfl cs _ hrg Tryd.underlying28 rfl (by rw [size31, HL.out]) ?_)
      | (refine wpList_store_into rfl 28 _ _ rfl (w.heap.size + 1) 28 _ cs rfl rfl (heap_alloc2_new w _ _) (by rw [HL.out]; rfl) (by rw [size31, HL.out]) h.one ?_))
    intro w3 hg3 t3 hz3
    go_wp2_with fail
    exact ret_adr rfl HL.out rfl hg3 ⟨cs, h, rfl, (((Touch.refl [] w).alloc _).alloc _).trans t3 (by simp)⟩

set_option maxRecDepth 100000 in
set_option maxHeartbeats 2000000 in
theorem some_any (cs : List Value) (w : World) (h : IsAd cs) :
    Calls Tryd.prog 15 #[.agg cs.toArray] w fun e w' => ∃ cs', IsAd cs' ∧ e = .returned (.agg cs'.toArray) ∧ Touch [] w w' := by
  obtain ⟨x0, e0, r0⟩ := h.byte 0 (by omega)
  obtain ⟨x1, e1, r1⟩ := h.byte 1 (by omega)
  obtain ⟨x7, e7, r7⟩ := h.byte 7 (by omega)
  simp only [Nat.reduceAdd] at e0 e1 e7
  have hlen := h.len
  have HL := Lib.hid hlen
  clear hlen
  have hrg := World.rangeAt_alloc (range_new w cs 28) (.cells #[.bool false, .int .u8 0, .int .u8 0, .int .u8 0, .int .u8 0, .int .u8 0, .int .u8 0, .int .u8 0, .int .u8 0, .int .u8 0, .int .u8 0, .int .u8 0, .int .u8 0, .int .u8 0, .int .u8 0, .int .u8 0, .int .u8 0] 28)
  obtain ⟨r70, r71⟩ := r7
  by_cases c0 : (x7 % 5 == 0) = true
  · go_enter Tryd.func15, Tryd.ntmps15
    go_wp2_with (first
      | (refine wpList_load_mid rfl 28 _ rfl _ _ rfl cs _ hrg Tryd.underlying28 rfl (by rw [size31, HL.out]) ?_)
      | (refine wpList_store_into rfl 28 _ _ rfl (w.heap.size + 1) 28 _ cs rfl rfl (heap_alloc2_new w _ _) (by rw [HL.out]; rfl) (by rw [size31, HL.out]) h.one ?_))
    intro w3 hg3 t3 hz3
    go_wp2_with fail
    exact ret_adr rfl HL.out rfl hg3 ⟨cs, h, rfl, (((Touch.refl [] w).alloc _).alloc _).trans t3 (by simp)⟩
  · have c0' : (x7 % 5 == 0) = false := by simpa using c0
    clear c0
    by_cases c1 : (x7 % 5 == 1) = true
    · go_enter Tryd.func15, Tryd.ntmps15
      go_wp2_with (refine wpList_load_mid rfl 28 _ rfl _ _ rfl cs _ hrg Tryd.underlying28 rfl (by rw [size31, HL.out]) ?_)
      refine (valid_any cs _ h).mono ?_
      rintro e w1 ⟨cs', h', rfl, t1⟩
      have hres := t1.at (heap_alloc2_new w _ _) (by simp)
      go_wp2_with (refine wpList_store_into rfl 28 _ _ rfl (w.heap.size + 1) 28 _ cs' rfl rfl hres (by rw [h'.len]; rfl) (by rw [size31, h'.len]) h'.one ?_)
      intro w3 hg3 t3 hz3
      go_wp2_with fail
      exact ret_adr rfl h'.len rfl hg3 ⟨cs', h', rfl, ((((Touch.refl [] w).alloc _).alloc _).trans t1 (by simp)).trans t3 (by simp)⟩
    · have c1' : (x7 % 5 == 1) = false := by simpa using c1
      clear c1
      go_enter Tryd.func15, Tryd.ntmps15
      go_wp2_with fail
      refine (addr_any _ _).mono ?_
      rintro e w1 ⟨cs', h', rfl, t1⟩
      have hres := t1.at (heap_alloc2_new w _ _) (by simp)
      go_wp2_with (refine wpList_store_into rfl 28 _ _ rfl (w.heap.size + 1) 28 _ cs' rfl rfl hres (by rw [h'.len]; rfl) (by rw [size31, h'.len]) h'.one ?_)
      intro w3 hg3 t3 hz3
      go_wp2_with fail
      exact ret_adr rfl h'.len rfl hg3 ⟨cs', h', rfl, ((((Touch.refl [] w).alloc _).alloc _).trans t1 (by simp)).trans t3 (by simp)⟩
end Go.Proofs.YtecaakgpogabjaaDoor

/-
  A slice or a struct that came in, of elements whose type is flat but for its leaves (structs and arrays taken apart, whatever else is a leaf): every cell of it lies in memory and reads by its own leaf's type. Over any program; no condition of our own.
-/
namespace Go.Proofs.YtecaakgpogabjaaDoor
open Go.ChangeShapes Go.WideShapes Go.Deep
set_option linter.unusedVariables false
set_option linter.unusedSimpArgs false

def flatFs (P : Program) (f : TypeId → Option (List TypeId)) : List Field → Nat → Option (List TypeId)
  | [], _ => some []
  | x :: r, off => if x.offset = off then (f x.type).bind fun l => if l.length = P.cellsOf x.type then (flatFs P f r (off + l.length)).map (l ++ ·) else none else none

/-- The leaves of a type, cell by cell. -/
def flatT (P : Program) : Nat → TypeId → Option (List TypeId)
  | 0, _ => none
  | d + 1, t => match P.underlying t with
    | some (.struct fs) => (flatFs P (flatT P d) fs.toList 0).bind fun l => if l.length = P.cellsOf t then some l else none
    | some (.array n e) => (flatT P d e).bind fun l => if l.length = P.cellsOf e ∧ n * l.length = P.cellsOf t then some (List.replicate n l).flatten else none
    | _ => some [t]

section
variable {H : Type} {enc : TypeId × Value → H} {P : Program} {w : World} {base : Nat} {spare : Nat → Bool} {held : Bool}

/-- The value v reads by its own type t. -/
def Leaf (enc : TypeId × Value → H) (P : Program) (w : World) (base : Nat) (spare : Nat → Bool) (held : Bool) (t : TypeId) (v : Value) : Prop := ∃ m y, DataW.trod enc P w base spare held m t [v] = some y

theorem leaf_one {t : TypeId} {fuel : Nat} {cs : List Value} {x : DataW H × List MemPlace} (hs : ∀ fs, P.underlying t ≠ some (.struct fs)) (ha : ∀ n e, P.underlying t ≠ some (.array n e))
    (h : DataW.trod enc P w base spare held fuel t cs = some x) : ∃ v, cs = [v] := by
  cases fuel with
  | zero => simp [DataW.trod] at h
  | succ m =>
    unfold DataW.trod at h
    split at h <;> first
      | exact ⟨_, rfl⟩
      | (rename_i h1; exact absurd h1 (hs _))
      | (rename_i h1; exact absurd h1 (ha _ _))
      | simp at h

/-- What the reading of a value of type t says of its cells. -/
def CellsOk (enc : TypeId × Value → H) (P : Program) (w : World) (base : Nat) (spare : Nat → Bool) (held : Bool) (ts : List TypeId) (cs : List Value) : Prop :=
  cs.length = ts.length ∧ ∀ (i : Nat) (t : TypeId), ts[i]? = some t → ∃ v, cs[i]? = some v ∧ Leaf enc P w base spare held t v

theorem flatFs_ok {f : TypeId → Option (List TypeId)} {cs : List Value} (hrec : ∀ t cs x m ts, f t = some ts → DataW.trod enc P w base spare held m t cs = some x → CellsOk enc P w base spare held ts cs) :
    ∀ (l : List Field) (off : Nat) (ts : List TypeId), flatFs P f l off = some ts →
      (∀ fd ∈ l, ∃ m x, DataW.trod enc P w base spare held m fd.type ((cs.drop fd.offset).take (P.cellsOf fd.type)) = some x) →
      ∀ (i : Nat) (t : TypeId), ts[i]? = some t → ∃ v, cs[off + i]? = some v ∧ Leaf enc P w base spare held t v := by
  intro l
  induction l with
  | nil => intro off ts h _ i t hi; simp [flatFs] at h; subst h; simp at hi
  | cons fd r ih =>
    intro off ts h hall i t hi
    simp only [flatFs] at h
    split at h
    · rename_i ho
      obtain ⟨l1, h1, h2⟩ := Option.bind_eq_some_iff.1 h
      split at h2
      · rename_i hl
        obtain ⟨l2, h3, rfl⟩ := Option.map_eq_some_iff.1 h2
        obtain ⟨m, x, hx⟩ := hall fd (List.mem_cons_self)
        obtain ⟨k1, k2⟩ := hrec _ _ _ _ _ h1 hx
        by_cases hlt : i < l1.length
        · rw [List.getElem?_append_left hlt] at hi
          obtain ⟨v, hv, hleaf⟩ := k2 i t hi
          refine ⟨v, ?_, hleaf⟩
          rw [List.getElem?_take] at hv
          split at hv
          · rw [List.getElem?_drop, ho] at hv
            exact hv
          · cases hv
        · rw [List.getElem?_append_right (by omega)] at hi
          obtain ⟨v, hv, hleaf⟩ := ih _ _ h3 (fun fd' hfd => hall fd' (List.mem_cons_of_mem _ hfd)) _ _ hi
          exact ⟨v, by rw [← hv]; congr 1; omega, hleaf⟩
      · cases h2
    · cases h

theorem getElem?_flatten_replicate {α : Type} (l : List α) (n i : Nat) : (List.replicate n l).flatten[i]? = if i < n * l.length then l[i % l.length]? else none := by
  induction n generalizing i with
  | zero => simp
  | succ n ih =>
    rw [List.replicate_succ, List.flatten_cons]
    by_cases h : i < l.length
    · rw [List.getElem?_append_left h, Nat.mod_eq_of_lt h, if_pos]
      rw [Nat.succ_mul]; omega
    · rw [List.getElem?_append_right (by omega), ih]
      have e : (i - l.length) % l.length = i % l.length := by
        rw [← Nat.mod_eq_sub_mod (by omega)]
      rw [e]
      by_cases h2 : i - l.length < n * l.length
      · rw [if_pos h2, if_pos (by rw [Nat.succ_mul]; omega)]
      · rw [if_neg h2, if_neg (by rw [Nat.succ_mul]; omega)]

theorem flat_ok : ∀ (d : Nat) (t : TypeId) (cs : List Value) (x : DataW H × List MemPlace) (m : Nat) (ts : List TypeId), flatT P d t = some ts →
    DataW.trod enc P w base spare held m t cs = some x → CellsOk enc P w base spare held ts cs := by
  intro d
  induction d with
  | zero => intro t cs x m ts h; simp [flatT] at h
  | succ d ih =>
    intro t cs x m ts h hx
    simp only [flatT] at h
    split at h
    · rename_i fs hfs
      obtain ⟨l, h1, h2⟩ := Option.bind_eq_some_iff.1 h
      split at h2
      · rename_i hl
        obtain rfl := Option.some.inj h2
        obtain ⟨xs, k, _, _, hcl, hxl, hf⟩ := DataW.trod_struct hfs hx
        refine ⟨by rw [hcl, hl], ?_⟩
        have := flatFs_ok (cs := cs) ih fs.toList 0 l h1 (fun fd hfd => by
          obtain ⟨i, hi, rfl⟩ := List.getElem_of_mem hfd
          have h3 := hf i (fs.toList[i]) (by simp)
          rw [List.getElem?_eq_getElem (by rw [hxl]; simpa using hi)] at h3
          exact ⟨_, _, h3⟩)
        intro i t hi
        have := this i t hi
        simpa using this
      · cases h2
    · rename_i n e hne
      obtain ⟨l, h1, h2⟩ := Option.bind_eq_some_iff.1 h
      split at h2
      · rename_i hl
        obtain rfl := Option.some.inj h2
        obtain ⟨xs, k, _, _, hcl, hxl, hf⟩ := DataW.trod_array hne hx
        refine ⟨by rw [hcl, ← hl.2]; simp, ?_⟩
        intro i t hi
        rw [getElem?_flatten_replicate] at hi
        split at hi
        · rename_i hlt
          have hpos : 0 < l.length := by
            rcases Nat.eq_zero_or_pos l.length with h0 | h0
            · rw [h0] at hlt; omega
            · exact h0
          have hq : i / l.length < n := (Nat.div_lt_iff_lt_mul hpos).2 hlt
          have h3 := hf (i / l.length) hq
          rw [List.getElem?_eq_getElem (by rw [hxl]; exact hq)] at h3
          obtain ⟨_, k2⟩ := ih _ _ _ _ _ h1 h3
          obtain ⟨v, hv, hleaf⟩ := k2 _ _ hi
          refine ⟨v, ?_, hleaf⟩
          rw [List.getElem?_take] at hv
          split at hv
          · rw [List.getElem?_drop, ← hl.1] at hv
            rw [← hv]
            congr 1
            rw [Nat.mul_comm]
            exact (Nat.div_add_mod i l.length).symm
          · cases hv
        · cases hi
      · cases h2
    · rename_i hns hna
      obtain rfl := Option.some.inj h
      obtain ⟨v, rfl⟩ := leaf_one (fun fs hfs => hns fs hfs) (fun n e he => hna n e he) hx
      refine ⟨rfl, ?_⟩
      intro i t' hi
      match i, hi with
      | 0, hi => simp at hi; subst hi; exact ⟨v, rfl, m, x, hx⟩

theorem Leaf.int {t : TypeId} {k : IntKind} {v : Value} (ht : P.underlying t = some (.int k)) (h : Leaf enc P w base spare held t v) : ∃ n, v = .int k n ∧ (Lit.int k n).wf = true := by
  obtain ⟨m, y, h⟩ := h
  obtain ⟨n, h1, _, h2⟩ := DataW.trod_int ht h
  exact ⟨n, by simpa using h1, h2⟩
theorem Leaf.bool {t : TypeId} {v : Value} (ht : P.underlying t = some .bool) (h : Leaf enc P w base spare held t v) : ∃ b, v = .bool b := by
  obtain ⟨m, y, h⟩ := h
  obtain ⟨n, h1, _⟩ := DataW.trod_bool ht h
  exact ⟨n, by simpa using h1⟩
theorem Leaf.string {t : TypeId} {v : Value} (ht : P.underlying t = some .string) (h : Leaf enc P w base spare held t v) : ∃ s : ByteArray, v = .string s ∧ s.size ≤ maxLen := by
  obtain ⟨m, y, h⟩ := h
  obtain ⟨s, h1, _, h2⟩ := DataW.trod_string ht h
  exact ⟨s, by simpa using h1, h2⟩

/-- A slice that came in: nil; or 'cap' elements lie at ⟨b, off⟩, each of as many cells as its type has leaves. -/
def IsSlice (enc : TypeId × Value → H) (P : Program) (w : World) (base : Nat) (spare : Nat → Bool) (held : Bool) (ts : List TypeId) (v : Value) : Prop :=
  v = .slice none 0 0 ∨ ∃ (a : Addr) (len cap : Nat), v = .slice (some a) len cap ∧ len ≤ cap ∧ cap ≤ maxLen ∧
    ∀ i j t, i < len → ts[j]? = some t → ∃ u, w.cell? (a.add (i * ts.length + j)) = some u ∧ Leaf enc P w base spare held t u

theorem slice_ok {t e : TypeId} {fuel d : Nat} {v : Value} {x : DataW H × List MemPlace} {ts : List TypeId} (ht : P.underlying t = some (.slice e)) (hts : flatT P d e = some ts) (hn : ts.length = P.cellsOf e)
    (h : DataW.trod enc P w base spare held fuel t [v] = some x) : IsSlice enc P w base spare held ts v := by
  rcases open_slice ht h with ⟨h0, _⟩ | ⟨a, len, cap, m, n, D, Pl, h0, hb, hl, hm, hmm, _, hx⟩
  · exact .inl (by simpa using h0)
  · refine .inr ⟨a, len, cap, by simpa using h0, hl, hm, fun i j t' hi hj => ?_⟩
    obtain ⟨cs', h1, h2⟩ := hx i (by rw [hmm]; split <;> omega)
    obtain ⟨k1, k2⟩ := flat_ok d e cs' _ n ts hts h2
    obtain ⟨u, hu, hleaf⟩ := k2 j t' hj
    obtain ⟨_, hlen, hcell⟩ := World.cells?_some h1
    refine ⟨u, ?_, hleaf⟩
    have hjlt : j < ts.length := (List.getElem?_eq_some_iff.1 hj).1
    have := hcell j (by omega)
    rw [add_add, ← hn] at this
    rw [this, hu]

/-- .. with the address taken apart, where it has an element. -/
theorem IsSlice.at {ts : List TypeId} {v : Value} (h : IsSlice enc P w base spare held ts v) (hpos : 0 < ts.length) :
    ∃ (a : Option Addr) (len cap : Nat), v = .slice a len cap ∧ len ≤ cap ∧ cap ≤ maxLen ∧
      (len = 0 ∨ ∃ b off, a = some ⟨b, off, none⟩ ∧ ∀ i j t, i < len → ts[j]? = some t → ∃ u, w.cell? ⟨b, off + (i * ts.length + j), none⟩ = some u ∧ Leaf enc P w base spare held t u) := by
  rcases h with rfl | ⟨a, len, cap, rfl, hl, hm, hc⟩
  · exact ⟨none, 0, 0, rfl, Nat.le_refl _, by simp [maxLen], .inl rfl⟩
  · refine ⟨some a, len, cap, rfl, hl, hm, ?_⟩
    by_cases h0 : len = 0
    · exact .inl h0
    · right
      obtain ⟨b, off, spot⟩ := a
      obtain ⟨u, hu, _⟩ := hc 0 0 (ts[0]) (by omega) (by simp)
      have hs : spot = none := by simpa [Addr.add] using World.cell?_spot hu
      subst hs
      refine ⟨b, off, rfl, fun i j t hi hj => ?_⟩
      obtain ⟨u, hu, hleaf⟩ := hc i j t hi hj
      exact ⟨u, by rw [Addr.add_lit] at hu; exact hu, hleaf⟩

theorem okWide_struct {r : Reach} {t : TypeId} {fs : Array Field} {v : Value} (ht : P.underlying t = some (.struct fs)) (h : Value.okWide P w r base t v) : ∃ cs, v = .agg cs := by
  simp only [Value.okWide, ht] at h
  obtain ⟨cs, hv, _⟩ := h
  exact ⟨cs, hv⟩
theorem okWide_array {r : Reach} {t n e : Nat} {v : Value} (ht : P.underlying t = some (.array n e)) (h : Value.okWide P w r base t v) : ∃ cs, v = .agg cs := by
  simp only [Value.okWide, ht] at h
  obtain ⟨cs, hv, _⟩ := h
  exact ⟨cs, hv⟩

/-- A struct or an array by value. -/
theorem agg_ok {t : TypeId} {fuel d : Nat} {cs : Array Value} {x : DataW H × List MemPlace} {ts : List TypeId} (hts : flatT P d t = some ts)
    (h : DataW.trod enc P w base spare held fuel t cs.toList = some x) : CellsOk enc P w base spare held ts cs.toList := flat_ok d t _ _ _ _ hts h
end
end Go.Proofs.YtecaakgpogabjaaDoor

/-
  Slices of elements of k cells each, told as lists of lists of cells. Plain lemmas over any program.
-/
namespace Go.Proofs.YtecaakgpogabjaaDoor
open Go.RowKit
set_option linter.unusedVariables false
set_option linter.unusedSimpArgs false

/-! ### a slice literal of structs -/
theorem set_run : ∀ (l pre suf : List Value) (off j0 : Nat), off + j0 = pre.length → l.length ≤ suf.length →
    (l.zipIdx j0).foldl (fun (cs : Array Value) (p : Value × Nat) => cs.setIfInBounds (off + p.2) p.1) (pre ++ suf).toArray = (pre ++ l ++ suf.drop l.length).toArray := by
  intro l
  induction l with
  | nil => intro pre suf off j0 h1 h2; simp
  | cons x l ih =>
    intro pre suf off j0 h1 h2
    cases suf with
    | nil => simp at h2
    | cons y suf =>
      simp only [List.zipIdx_cons, List.foldl_cons]
      have e : (pre ++ y :: suf).toArray.setIfInBounds (off + j0) x = ((pre ++ [x]) ++ suf).toArray := by
        rw [h1]
        simp
      rw [e, ih (pre ++ [x]) suf off (j0 + 1) (by simp; omega) (by simpa using h2)]
      simp

theorem fill_step (place : Nat → Option (Nat × Nat)) (cells : Array Value) (i off k : Nat) (x : List Value) (rest : List (Nat × Value)) (hp : place i = some (off, k)) (hx : x.length = k) (hfit : off + k ≤ cells.size) :
    Instr.fill place cells ((i, Value.agg x.toArray) :: rest) = Instr.fill place (x.toArray.zipIdx.foldl (fun (cs : Array Value) (p : Value × Nat) => cs.setIfInBounds (off + p.2) p.1) cells) rest := by
  simp only [Instr.fill, hp]
  split
  · rename_i h
    exfalso
    simp [Value.cells, hx] at h
    omega
  · rfl

theorem fill_rows (k : Nat) : ∀ (xs : List (List Value)) (pre suf : List Value) (i : Nat), pre.length = i * k → suf.length = xs.length * k → (∀ x ∈ xs, x.length = k) →
    Instr.fill (fun i => some (i * k, k)) (pre ++ suf).toArray ((xs.zipIdx i).map fun p => (p.2, Value.agg p.1.toArray)) = some (pre ++ xs.flatten).toArray := by
  intro xs
  induction xs with
  | nil => intro pre suf i h1 h2 h3; simp at h2; subst h2; simp [Instr.fill]
  | cons x xs ih =>
    intro pre suf i h1 h2 h3
    have hx : x.length = k := h3 x (List.mem_cons_self)
    have hs : k ≤ suf.length := by rw [h2, List.length_cons, Nat.succ_mul]; omega
    rw [List.zipIdx_cons, List.map_cons, fill_step _ _ i (i * k) k x _ rfl hx (by simp [h1]; omega)]
    have e : x.toArray.zipIdx.foldl (fun (cs : Array Value) (p : Value × Nat) => cs.setIfInBounds (i * k + p.2) p.1) (pre ++ suf).toArray = ((pre ++ x) ++ suf.drop k).toArray := by
      have := set_run x pre suf (i * k) 0 (by omega) (by omega)
      rw [hx] at this
      rw [← this]
      simp
    rw [e, ih (pre ++ x) (suf.drop k) (i + 1) (by simp [h1, hx, Nat.succ_mul]) (by rw [List.length_drop, h2, List.length_cons, Nat.succ_mul]; omega) (fun y hy => h3 y (List.mem_cons_of_mem _ hy))]
    simp

theorem wpList_buildSlice_rows {P : Program} {ops : Array Oper} {rest : List Oper} {op : Oper} {a : Act} {w : World} {Q : Exit → Act → World → Prop} (hgd : op.guard = none) (t n : Nat) (parts : Array (Nat × Operand)) (ho : op.op = .buildSlice t n parts)
    (e k : Nat) (i : TypeInfo) (z : Value) (ht : P.underlying t = some (.slice e)) (hi : P.info? e = some i) (hz : i.zero = some z) (hs : i.size = k) (hk : 0 < k)
    (xs : List (List Value)) (hn : xs.length = n) (hx : ∀ x ∈ xs, x.length = k) (hsmall : n * k ≤ 16777216)
    (hp' : (parts.toList.map fun p => (p.1, a.eval p.2)) = (xs.zipIdx).map fun p => (p.2, Value.agg p.1.toArray))
    (h : wpList P ops Q rest (a.put op.dst (.slice (some ⟨w.heap.size, 0, none⟩) n n)) (w.alloc (.cells xs.flatten.toArray e))) : wpList P ops Q (op :: rest) a w := by
  refine wpList_plain hgd fun K hK => ?_
  have hp : (parts.map fun p => (p.1, a.eval p.2)).toList = (xs.zipIdx).map fun p => (p.2, Value.agg p.1.toArray) := by rw [Array.toList_map]; exact hp'
  subst hs
  have hf : ∀ zero : Array Value, Instr.fill (fun j => some (j * i.size, i.size)) ((Array.range (n * i.size)).map (fun j => zero[j % zero.size]!)) ((xs.zipIdx).map fun p => (p.2, Value.agg p.1.toArray)) = some xs.flatten.toArray := by
    intro zero
    have := fill_rows i.size xs [] ((Array.range (n * i.size)).map (fun j => zero[j % zero.size]!)).toList 0 (by simp) (by simp [hn]) hx
    rw [List.nil_append, List.nil_append, Array.toArray_toList] at this
    exact this
  have hrun : (Instr.buildSlice t n (parts.map fun p => (p.1, a.eval p.2))).run P w = .ok (.slice (some ⟨w.heap.size, 0, none⟩) n n) (w.alloc (.cells xs.flatten.toArray e)) := by
    have hn0 : ¬ (16777216 < n * i.size) := by omega
    by_cases hz0 : n * i.size = 0
    · have hn1 : n = 0 := by
        rcases Nat.mul_eq_zero.1 hz0 with h | h
        · exact h
        · omega
      subst hn1
      obtain rfl : xs = [] := List.eq_nil_of_length_eq_zero hn
      have hp0 : (parts.map fun p => (p.1, a.eval p.2)) = #[] := by
        have : (parts.map fun p => (p.1, a.eval p.2)).toList = [] := by rw [hp]; rfl
        simpa using this
      rw [hp0]
      have hr0 : ∀ f : Nat → Value, Array.map f (Array.range 0) = #[] := fun f => by apply Array.eq_empty_of_size_eq_zero; simp
      simp [Instr.buildSlice, run_underlying ht, sizeOf, typeInfo, hi, Instr.fill, newRow, hr0]
    · simp only [Instr.buildSlice, Sem.run_bind, run_underlying ht, Result.andThen_ok]
      simp [sizeOf, typeInfo, hi, hn0, hz0, zeroValue, hz]
      have h1 := hf z.cells
      rw [Array.toList_map] at hp
      rw [hp, h1]
      simp [newRow]
  have := hK _ _ h
  unfold Oper.wp execOp
  simp only [ho, Sem.run_bind]
  rw [show (parts.map fun x => match x with | (i, x) => (i, a.eval x)) = parts.map fun p => (p.1, a.eval p.2) from rfl, hrun]
  exact this

/-- append of one struct, which the call has just laid into a block of its own. -/
theorem wpList_app_rec {P : Program} (w : World) {ops : Array Oper} {rest : List Oper} {o : Oper} {a : Act} {Q : Exit → Act → World → Prop} (hgd : o.guard = none) (s x : Operand) (t : TypeId)
    (ho : o.op = .call { callee := .builtin .append, args := #[s, x], argTypes := #[t, t] })
    (e : TypeId) (i : TypeInfo) (z : Value) (size bytes : Nat) (ht : P.underlying t = some (.slice e)) (hi : P.info? e = some i) (hz : i.zero = some z)
    (hsize : i.size = size) (hby : i.bytes = bytes) (hzs : z.cells.size = size) (hsz : 0 < size)
    (v : Value) (n : Nat) (xs : List Value) (hs : a.eval s = v) (hown : w.ownsRow 0 e size v n xs)
    (cs : List Value) (T : TypeId) (hx : a.eval x = .slice (some ⟨w.heap.size, 0, none⟩) 1 1) (hl : cs.length = size) (h1 : ∀ u ∈ cs, u.oneCell' = true) (h63 : n + 1 ≤ maxLen) (hbytes : (n + 1) * bytes ≤ 140737488355328)
    (h : ∀ v' w', w'.ownsRow 0 e size v' (n + 1) (xs ++ cs) → Touch v.ownBlock.toList w w' → (v'.ownBlock = v.ownBlock ∨ v'.ownBlock = some (w.heap.size + 1)) → wpList P ops Q rest (a.put o.dst v') w') : wpList P ops Q (o :: rest) a (w.alloc (.cells cs.toArray T)) :=
  wpList_app _ hgd s x t ho e i z size bytes ht hi hz hsize hby hzs hsz v n xs hs (hown.alloc _) _ 1 1 cs hx (by rw [hl, Nat.one_mul]) (by intro h; cases h) (by intro ad h j u hu; cases h; rw [Addr.add_lit]; exact range_new w cs T j u hu) h1 h63 hbytes
    fun v' w' h2 h3 h4 => h v' w' h2 (Touch.trans ((Touch.refl _ _).alloc _) h3 (fun x hx => .inl hx)) (by simpa using h4)

/-! ### slices of elements of k cells -/
theorem flat_get {k : Nat} {xs : List (List Value)} (hk : ∀ x ∈ xs, x.length = k) {i j : Nat} {x : List Value} {u : Value} (hx : xs[i]? = some x) (hu : x[j]? = some u) : xs.flatten[i * k + j]? = some u := by
  induction xs generalizing i with
  | nil => simp at hx
  | cons y ys ih =>
    have hy : y.length = k := hk y (List.mem_cons_self)
    rw [List.flatten_cons]
    cases i with
    | zero =>
      simp at hx
      subst hx
      have hj : j < y.length := (List.getElem?_eq_some_iff.1 hu).1
      rw [Nat.zero_mul, Nat.zero_add, List.getElem?_append_left hj]
      exact hu
    | succ i =>
      simp at hx
      have := ih (fun x hx => hk x (List.mem_cons_of_mem _ hx)) hx
      rw [List.getElem?_append_right (by rw [hy, Nat.succ_mul]; omega), hy, Nat.succ_mul]
      rw [← this]
      congr 1
      omega
theorem flat_len {k : Nat} {xs : List (List Value)} (hk : ∀ x ∈ xs, x.length = k) : xs.flatten.length = xs.length * k := by
  induction xs with
  | nil => simp
  | cons y ys ih => rw [List.flatten_cons, List.length_append, ih (fun x hx => hk x (List.mem_cons_of_mem _ hx)), hk y (List.mem_cons_self), List.length_cons, Nat.succ_mul, Nat.add_comm]
theorem flat_inv {k : Nat} (hk0 : 0 < k) {xs : List (List Value)} (hk : ∀ x ∈ xs, x.length = k) {j : Nat} {u : Value} (hu : xs.flatten[j]? = some u) : ∃ x, xs[j / k]? = some x ∧ x[j % k]? = some u := by
  have hj : j < xs.flatten.length := (List.getElem?_eq_some_iff.1 hu).1
  rw [flat_len hk] at hj
  have hq : j / k < xs.length := (Nat.div_lt_iff_lt_mul hk0).2 hj
  have hx : xs[j / k]? = some xs[j / k] := List.getElem?_eq_getElem hq
  have hl : (xs[j / k]).length = k := hk _ (List.getElem_mem hq)
  have hr : j % k < (xs[j / k]).length := by rw [hl]; exact Nat.mod_lt _ hk0
  refine ⟨_, hx, ?_⟩
  have h2 := flat_get hk hx (List.getElem?_eq_getElem hr)
  rw [Nat.div_add_mod' j k] at h2
  rw [List.getElem?_eq_getElem hr, ← h2, hu]

/-- The slice value v reads, in w, as the elements xs, of k cells each, in block b. -/
def Rd (w : World) (k b : Nat) (v : Value) (xs : List (List Value)) : Prop :=
  ∃ (a : Option Addr) (cap : Nat), v = .slice a xs.length cap ∧ xs.length ≤ cap ∧ cap ≤ maxLen ∧ (a = none → cap = 0) ∧
    (xs ≠ [] → ∃ off, a = some ⟨b, off, none⟩ ∧ ∀ i x, xs[i]? = some x → w.rangeAt b (off + i * k) x)

theorem Rd.touch {S : List Nat} {w w' : World} {k b : Nat} {v : Value} {xs : List (List Value)} (t : Touch S w w') (h : Rd w k b v xs) (hb : b ∉ S) : Rd w' k b v xs := by
  obtain ⟨a, cap, hv, h1, h2, h3, h4⟩ := h
  refine ⟨a, cap, hv, h1, h2, h3, fun hne => ?_⟩
  obtain ⟨off, ha, hr⟩ := h4 hne
  exact ⟨off, ha, fun i x hx => t.range (hr i x hx) hb⟩
theorem Rd.draws {w : World} {k b : Nat} {v : Value} {xs : List (List Value)} (h : Rd w k b v xs) (n : Nat) : Rd (w.drewN n) k b v xs := h
theorem Rd.nil (w : World) (k b : Nat) : Rd w k b (.slice none 0 0) [] := ⟨none, 0, rfl, Nat.le_refl _, by simp [maxLen], fun _ => rfl, fun h => absurd rfl h⟩
theorem Rd.form {w : World} {k b : Nat} {v : Value} {xs : List (List Value)} (h : Rd w k b v xs) : ∃ a cap, v = .slice a xs.length cap ∧ xs.length ≤ cap ∧ cap ≤ maxLen := by
  obtain ⟨a, cap, hv, h1, h2, _⟩ := h
  exact ⟨a, cap, hv, h1, h2⟩
theorem Rd.of_owns {w : World} {k g : Nat} {T : TypeId} {v : Value} {xs : List (List Value)} (hk : ∀ x ∈ xs, x.length = k) (ho : w.ownsRow 0 T k v xs.length xs.flatten) (hg : ∀ b, v.ownBlock = some b → b = g) : Rd w k g v xs := by
  obtain ⟨a, c, rfl, h1, h2, h3⟩ := owns_form ho
  refine ⟨a, c, rfl, h1, h2, fun ha => ?_, fun hne => ?_⟩
  · subst ha
    rcases ho.2 with ⟨h4, _⟩ | ⟨_, _, _, h4, _⟩
    · simp at h4; omega
    · simp at h4
  · obtain ⟨b, rfl⟩ := h3 (List.length_pos_iff.2 hne)
    obtain rfl := hg b rfl
    refine ⟨0, rfl, fun i x hx j u hu => ?_⟩
    have := owns_cell ho (i * k + j) u (flat_get hk hx hu)
    rw [Nat.zero_add]
    exact this

/-- v[i:] -/
theorem Rd.drop {P : Program} {w : World} {k b T e : Nat} {a : Option Addr} {n cap : Nat} {xs : List (List Value)} (h : Rd w k b (.slice a n cap) xs) (i : Nat) (hi : i ≤ xs.length) :
    Rd w k b (.slice (if cap = i then a else a.map (·.add (i * k))) (n - i) (cap - i)) (xs.drop i) := by
  obtain ⟨a', cap', hv, h1, h2, h3, h4⟩ := h
  simp only [Value.slice.injEq] at hv
  obtain ⟨rfl, rfl, rfl⟩ := hv
  refine ⟨_, _, by rw [List.length_drop], by rw [List.length_drop]; omega, by omega, fun hn => ?_, fun hne => ?_⟩
  · split at hn
    · rename_i hc; omega
    · cases a with
      | none => have := h3 rfl; omega
      | some x => simp at hn
  · have hlt : i < xs.length := by
      rcases Nat.lt_or_ge i xs.length with h | h
      · exact h
      · exact absurd (List.drop_eq_nil_of_le h) hne
    obtain ⟨off, rfl, hr⟩ := h4 (by intro e; subst e; simp at hlt)
    refine ⟨off + i * k, ?_, fun j x hx => ?_⟩
    · rw [if_neg (by omega)]
      simp [Addr.add_lit]
    · rw [List.getElem?_drop] at hx
      have := hr _ _ hx
      rw [Nat.add_assoc, ← Nat.add_mul]
      exact this
/-- v[:i] -/
theorem Rd.take {w : World} {k b : Nat} {a : Option Addr} {n cap : Nat} {xs : List (List Value)} (h : Rd w k b (.slice a n cap) xs) (i : Nat) (hi : i ≤ xs.length) : Rd w k b (.slice a i cap) (xs.take i) := by
  obtain ⟨a', cap', hv, h1, h2, h3, h4⟩ := h
  simp only [Value.slice.injEq] at hv
  obtain ⟨rfl, rfl, rfl⟩ := hv
  refine ⟨a, cap, by rw [List.length_take, Nat.min_eq_left hi], by rw [List.length_take]; omega, h2, h3, fun hne => ?_⟩
  obtain ⟨off, ha, hr⟩ := h4 (by intro e; subst e; simp at hne)
  refine ⟨off, ha, fun j x hx => ?_⟩
  rw [List.getElem?_take] at hx
  split at hx
  · exact hr _ _ hx
  · cases hx
/-- The cells of such a slice, one behind the other: what append copies. -/
theorem Rd.news {w : World} {k b : Nat} (hk0 : 0 < k) {a : Option Addr} {n cap : Nat} {xs : List (List Value)} (hk : ∀ x ∈ xs, x.length = k) (h : Rd w k b (.slice a n cap) xs) :
    (a = none → n = 0 ∧ cap = 0) ∧ ∀ ad, a = some ad → ∀ j u, xs.flatten[j]? = some u → w.cell? (ad.add j) = some u := by
  obtain ⟨a', cap', hv, h1, h2, h3, h4⟩ := h
  simp only [Value.slice.injEq] at hv
  obtain ⟨rfl, rfl, rfl⟩ := hv
  refine ⟨fun ha => by have := h3 ha; omega, fun ad had j u hu => ?_⟩
  have hne : xs ≠ [] := by intro e; subst e; simp at hu
  obtain ⟨off, rfl, hr⟩ := h4 hne
  simp at had
  subst had
  obtain ⟨x, hx, hxu⟩ := flat_inv hk0 hk hu
  have := hr _ _ hx _ _ hxu
  rw [Addr.add_lit, ← this]
  congr 2
  rw [Nat.add_assoc, Nat.div_add_mod']
/-- Where element i lies. -/
theorem Rd.at {w : World} {k b : Nat} {a : Option Addr} {n cap : Nat} {xs : List (List Value)} (h : Rd w k b (.slice a n cap) xs) (hne : xs ≠ []) : ∃ off, a = some ⟨b, off, none⟩ ∧ ∀ i x, xs[i]? = some x → w.rangeAt b (off + i * k) x := by
  obtain ⟨a', cap', hv, h1, h2, h3, h4⟩ := h
  simp only [Value.slice.injEq] at hv
  obtain ⟨rfl, rfl, rfl⟩ := hv
  exact h4 hne
end Go.Proofs.YtecaakgpogabjaaDoor

/-
  The contracts over slices of addresses: SomeAddrs, SplitFamilies (the program's and the reference's).
-/
namespace Go.Proofs.YtecaakgpogabjaaDoor
open Go.RowKit Go.Deep
set_option linter.unusedVariables false
set_option linter.unusedSimpArgs false

theorem info28 : (Tryd.prog.info? 28).map (fun i => (i.zero, i.size, i.bytes)) = some (some (.agg #[.bool false, .int .u8 0, .int .u8 0, .int .u8 0, .int .u8 0, .int .u8 0, .int .u8 0, .int .u8 0, .int .u8 0, .int .u8 0, .int .u8 0, .int .u8 0, .int .u8 0, .int .u8 0, .int .u8 0, .int .u8 0, .int .u8 0]), 17, 17) := by kernel_rfl

/-- A slice of addresses of the call's own, made since w0. -/
structure Own (w0 w : World) (v : Value) (xs : List (List Value)) : Prop where
  row : w.ownsRow 0 28 17 v xs.length xs.flatten
  new : ∀ g, v.ownBlock = some g → w0.heap.size ≤ g
theorem Own.nil (w0 w : World) : Own w0 w (.slice none 0 0) [] := ⟨World.ownsRow_nil _ _ _ _, by simp [Value.ownBlock]⟩
theorem Own.touch {S : List Nat} {w0 w w' : World} {v : Value} {xs : List (List Value)} (h : Own w0 w v xs) (t : Touch S w w') (hn : ∀ g, v.ownBlock = some g → g ∉ S) : Own w0 w' v xs := ⟨t.owns h.row hn, h.new⟩
theorem Own.lt {w0 w : World} {v : Value} {xs : List (List Value)} (h : Own w0 w v xs) : ∀ g, v.ownBlock = some g → g < w.heap.size := fun g hg => (h.row.lt g hg).2
theorem Own.older {w0 w1 w : World} {v : Value} {xs : List (List Value)} (h : Own w1 w v xs) (hz : w0.heap.size ≤ w1.heap.size) : Own w0 w v xs := ⟨h.row, fun g hg => Nat.le_trans hz (h.new g hg)⟩

theorem flatten_snoc (xs : List (List Value)) (x : List Value) : (xs ++ [x]).flatten = xs.flatten ++ x := by simp
theorem ads_len {xs : List (List Value)} (h : ∀ x ∈ xs, IsAd x) : ∀ x ∈ xs, x.length = 17 := fun x hx => (h x hx).len
theorem ads_one {xs : List (List Value)} (h : ∀ x ∈ xs, IsAd x) : ∀ u ∈ xs.flatten, u.oneCell' = true := by
  intro u hu
  obtain ⟨x, hx, hux⟩ := List.mem_flatten.1 hu
  exact (h x hx).one u hux
theorem ads_snoc {xs : List (List Value)} {x : List Value} (h : ∀ x ∈ xs, IsAd x) (hx : IsAd x) : ∀ y ∈ xs ++ [x], IsAd y := by
  intro y hy
  rcases List.mem_append.1 hy with h1 | h1
  · exact h y h1
  · simp at h1; subst h1; exact hx

set_option maxRecDepth 100000 in
set_option maxHeartbeats 4000000 in
theorem someAddrs_any (v : Value) (b most : Nat) (xs : List (List Value)) (w : World) (hm : most ≤ 100) (hv : Rd w 17 b v xs) (hxs : ∀ x ∈ xs, IsAd x) :
    Calls Tryd.prog 7 #[v, .int .i64 most] w fun e w' => ∃ v' ys, e = .returned v' ∧ (∀ y ∈ ys, IsAd y) ∧ ys.length ≤ most ∧ Own w w' v' ys ∧ Touch [] w w' := by
  obtain ⟨i28, hi28, hz28, hs28, hb28⟩ := info_parts info28
  obtain ⟨a, cap, rfl, hlc, hcm⟩ := hv.form
  have hcm2 : cap ≤ 9223372036854775807 := by unfold maxLen at hcm; omega
  go_enter Tryd.func7, Tryd.ntmps7
  go_wp2_with fail
  go_loopw [5, 6] (fun vo vi wr => ∃ (i : Nat) (ys : List (List Value)), i ≤ xs.length ∧ i ≤ most ∧ vi = .int .i64 i ∧ ys.length = i ∧ (∀ y ∈ ys, IsAd y) ∧ Own w wr vo ys ∧ Touch [] w wr)
    (fun _ vi _ => xs.length - (intOf vi).toNat)
  case atStart => exact ⟨0, [], by omega, by omega, rfl, rfl, by simp, Own.nil _ _, Touch.refl _ _⟩
  case round =>
    obtain ⟨i, ys, hix, him, rfl, hyl, hys, hown, ht⟩ := hrel
    have HYL := Lib.hid hyl
    clear hyl
    by_cases hlt : i < xs.length
    · by_cases hlm : i < most
      · obtain ⟨off, rfl, hat⟩ := hv.at (by intro e; subst e; simp at hlt)
        have hx : xs[i]? = some xs[i] := List.getElem?_eq_getElem hlt
        have hadx := hxs _ (List.getElem_mem hlt)
        generalize xs[i] = x at hx hadx
        have hrg := ht.range (hat i x hx) (by simp)
        clear hat
        go_wp2_with (refine wpList_load_mid rfl 28 _ rfl b (off + i * 17) rfl x _ hrg Tryd.underlying28 rfl (by rw [size31, hadx.len]) ?_)
        refine (some_any x _ hadx).mono ?_
        rintro e w1 ⟨cs', h', rfl, t1⟩
        have hown1 := hown.touch t1 (by simp)
        have hrow1 := hown1.row
        go_wp2_with (first
          | (refine wpList_buildSlice_rows rfl 22 1 _ rfl 28 17 i28 _ Tryd.underlying22 hi28 hz28 hs28 (by omega) [cs'] rfl (by simp [h'.len]) (by omega) (by rfl) ?_)
          | (at_builtin; refine wpList_app_rec _ (by rfl) _ _ 22 (by rfl) 28 i28 _ 17 17 Tryd.underlying22 hi28 hz28 hs28 hb28 rfl (by omega) _ ys.length _ (by rfl) hrow1 ([cs'].flatten) 28 (by rfl) (by simp [h'.len]) (by simpa using h'.one) (by rw [HYL.out]; unfold maxLen; omega) (by rw [HYL.out]; omega) ?_))
        intro vo w2 ho2 t2 hv2
        have hnew2 : ∀ g, vo.ownBlock = some g → w.heap.size ≤ g := by
          intro g hg
          have z1 := ht.size
          have z2 := t1.size
          rcases hv2 with e | e
          · rw [e] at hg; exact hown.new g hg
          · rw [e] at hg; simp at hg; omega
        have hown2 : Own w w2 vo (ys ++ [cs']) := ⟨by rw [flatten_snoc, List.length_append]; exact ho2, hnew2⟩
        have ht2 : Touch [] w w2 := (ht.trans t1 (by simp)).trans t2 (fun g hg => .inr (hown.new g (by simpa using hg)))
        clear hv2 hnew2 ho2 t2 hrow1 hown1 hrg
        go_wp2_with fail
        go_roundw
        case rel => exact ⟨i + 1, ys ++ [cs'], by omega, by omega, by go_num, by simp [HYL.out], ads_snoc hys h', hown2, ht2⟩
        case measure => simp [intOf]; omega
      · go_wp2_with fail
        go_ret
        exact ⟨_, ys, rfl, hys, by rw [HYL.out]; omega, hown, ht⟩
    · go_wp2_with fail
      go_ret
      exact ⟨_, ys, rfl, hys, by rw [HYL.out]; omega, hown, ht⟩
end Go.Proofs.YtecaakgpogabjaaDoor

/-
  A struct loaded among the operations that only read of a region that draws; two structs compared. Plain lemmas over any program.
-/
namespace Go.Proofs.YtecaakgpogabjaaDoor
open Go.RowKit
set_option linter.unusedVariables false
set_option linter.unusedSimpArgs false

theorem wpStill_load_mid {P : Program} {ops : Array Oper} {rest : List Oper} {op : Oper} {a : Act} {w : World} {Q : Act → Prop} (hgd : op.guard = none) (ty : TypeId) (x : Operand) (ho : op.op = .load ty x)
    (b o : Nat) (hx : a.eval x = .pointer (some ⟨b, o, none⟩)) (cs : List Value) (d : TypeDesc) (hc : w.rangeAt b o cs)
    (hu : P.underlying ty = some d) (hd : d.isRow = true) (hi : (P.info? ty).map (·.size) = some cs.length)
    (h : wpStill P ops w Q rest (a.put op.dst (.agg cs.toArray))) : wpStill P ops w Q (op :: rest) a := by
  refine wpStill_step fun K hK => ?_
  rw [if_pos (by simp [Region.wanted, hgd])]
  unfold Oper.still execOp
  simp only [ho, hx, Instr.loadAt, Instr.sureAddr, Sem.run_bind, Sem.run_pure, Result.andThen_ok, run_loadVar_mid w b o ty cs d hc hu hd hi]
  exact (Oper.stillUpon_value _ _ _ _ _).mpr (hK _ h)

/-- x == y on two structs. -/
theorem wpList_eql_agg {P : Program} {ops : Array Oper} {rest : List Oper} {op : Oper} {a : Act} {w : World} {Q : Exit → Act → World → Prop} (hgd : op.guard = none) (t t' : TypeId) (x y : Operand) (ho : op.op = .binOp .eql t x y t')
    (xs ys : Array Value) (hx : a.eval x = .agg xs) (hy : a.eval y = .agg ys) (hm : P.eqGuardType P.depth t = false) (r : Bool) (hr : (Op.equalIn 10000 t (.agg xs) (.agg ys)).run P w = .ok r w)
    (h : wpList P ops Q rest (a.put op.dst (.bool r)) w) : wpList P ops Q (op :: rest) a w := by
  refine wpList_plain hgd fun K hK => ?_
  have hb : (binOp .eql t (.agg xs) (.agg ys)).run P w = .ok (.bool r) w := by rw [run_eql_struct, hr]; rfl
  have := hK _ _ h
  unfold Oper.wp execOp
  simp only [ho, hx, hy, Sem.run_bind, run_eqGuard_agg w _ _ _ _ _ _ hm, Result.andThen_ok, hb, Sem.run_pure]
  exact this
theorem wpList_neq_agg {P : Program} {ops : Array Oper} {rest : List Oper} {op : Oper} {a : Act} {w : World} {Q : Exit → Act → World → Prop} (hgd : op.guard = none) (t t' : TypeId) (x y : Operand) (ho : op.op = .binOp .neq t x y t')
    (xs ys : Array Value) (hx : a.eval x = .agg xs) (hy : a.eval y = .agg ys) (hm : P.eqGuardType P.depth t = false) (r : Bool) (hr : (Op.equalIn 10000 t (.agg xs) (.agg ys)).run P w = .ok r w)
    (h : wpList P ops Q rest (a.put op.dst (.bool (!r))) w) : wpList P ops Q (op :: rest) a w := by
  refine wpList_plain hgd fun K hK => ?_
  have hb : (binOp .neq t (.agg xs) (.agg ys)).run P w = .ok (.bool (!r)) w := by rw [run_neq_struct, hr]; rfl
  have := hK _ _ h
  unfold Oper.wp execOp
  simp only [ho, hx, hy, Sem.run_bind, run_eqGuard_agg w _ _ _ _ _ _ hm, Result.andThen_ok, hb, Sem.run_pure]
  exact this
theorem wpStill_neq_agg {P : Program} {ops : Array Oper} {rest : List Oper} {op : Oper} {a : Act} {w : World} {Q : Act → Prop} (hgd : op.guard = none) (t t' : TypeId) (x y : Operand) (ho : op.op = .binOp .neq t x y t')
    (xs ys : Array Value) (hx : a.eval x = .agg xs) (hy : a.eval y = .agg ys) (hm : P.eqGuardType P.depth t = false) (r : Bool) (hr : (Op.equalIn 10000 t (.agg xs) (.agg ys)).run P w = .ok r w)
    (h : wpStill P ops w Q rest (a.put op.dst (.bool (!r)))) : wpStill P ops w Q (op :: rest) a := by
  refine wpStill_step fun K hK => ?_
  rw [if_pos (by simp [Region.wanted, hgd])]
  have hb : (binOp .neq t (.agg xs) (.agg ys)).run P w = .ok (.bool (!r)) w := by rw [run_neq_struct, hr]; rfl
  unfold Oper.still execOp
  simp only [ho, hx, hy, Sem.run_bind, run_eqGuard_agg w _ _ _ _ _ _ hm, Result.andThen_ok, hb, Sem.run_pure]
  exact (Oper.stillUpon_value _ _ _ _ _).mpr (hK _ h)
end Go.Proofs.YtecaakgpogabjaaDoor

/-
  A slice cut from an index on, the value kept as one letter: in a plain region, in a region that only reads, at a step of a region that draws; and append at such a step. Plain lemmas over any program.
-/
namespace Go.Proofs.YtecaakgpogabjaaDoor
open Go.RowKit
set_option linter.unusedVariables false
set_option linter.unusedSimpArgs false

/-- s[n:], as a value. -/
def cutv (a : Option Addr) (k c n s : Nat) : Value := .slice (if c = n then a else a.map (·.add (n * s))) (k - n) (c - n)
theorem run_from {P : Program} (w : World) (t e : TypeId) (s : Nat) (ht : P.underlying t = some (.slice e)) (hs : (P.info? e).map (·.size) = some s) (a : Option Addr) (k c n : Nat) (hn : n ≤ k) :
    (Instr.sliceAt t (.slice a k c) (some (.int .i64 n)) none none).run P w = .ok (cutv a k c n s) w := by
  have he : P.elem t = e := by simp [Program.elem, ht]
  have ht' : P.underlying t = some (.slice (P.elem t)) := by rw [he]; exact ht
  rw [run_sliceAt_slice _ _ _ _ _ _ ht', run_slice_l w t a k c ht' .i64 n (by omega) (by omega), he]
  obtain ⟨i, hi, rfl⟩ : ∃ i, P.info? e = some i ∧ i.size = s := by
    cases h : P.info? e with
    | none => simp [h] at hs
    | some i => exact ⟨i, rfl, by simpa [h] using hs⟩
  rw [run_sizeOf w hi]
  simp [Program.cellsOf, hi, sliced, cutv, Result.andThen, Int.toNat_natCast]
theorem wpList_from {P : Program} {ops : Array Oper} {rest : List Oper} {op : Oper} {a : Act} {w : World} {Q : Exit → Act → World → Prop} (hgd : op.guard = none) (t : TypeId) (x lo : Operand) (ho : op.op = .slice t x (some lo) none none)
    (e : TypeId) (s : Nat) (ht : P.underlying t = some (.slice e)) (hs : (P.info? e).map (·.size) = some s) (b : Option Addr) (k c n : Nat) (hx : a.eval x = .slice b k c) (hlo : a.eval lo = .int .i64 n) (hn : n ≤ k)
    (h : wpList P ops Q rest (a.put op.dst (cutv b k c n s)) w) : wpList P ops Q (op :: rest) a w := by
  refine wpList_plain hgd fun K hK => ?_
  have := hK _ _ h
  unfold Oper.wp execOp
  simp only [ho, hx, hlo, Option.map_some, Option.map_none, Sem.run_bind, Sem.run_pure, Result.andThen_ok, run_from w t e s ht hs b k c n hn]
  exact this
theorem wpStill_from {P : Program} {ops : Array Oper} {rest : List Oper} {op : Oper} {a : Act} {w : World} {Q : Act → Prop} (hgd : op.guard = none) (t : TypeId) (x lo : Operand) (ho : op.op = .slice t x (some lo) none none)
    (e : TypeId) (s : Nat) (ht : P.underlying t = some (.slice e)) (hs : (P.info? e).map (·.size) = some s) (b : Option Addr) (k c n : Nat) (hx : a.eval x = .slice b k c) (hlo : a.eval lo = .int .i64 n) (hn : n ≤ k)
    (h : wpStill P ops w Q rest (a.put op.dst (cutv b k c n s))) : wpStill P ops w Q (op :: rest) a := by
  refine wpStill_step fun K hK => ?_
  rw [if_pos (by simp [Region.wanted, hgd])]
  unfold Oper.still execOp
  simp only [ho, hx, hlo, Option.map_some, Option.map_none, Sem.run_bind, Sem.run_pure, Result.andThen_ok, run_from w t e s ht hs b k c n hn]
  exact (Oper.stillUpon_value _ _ _ _ _).mpr (hK _ h)
theorem step_from {P : Program} {ops : Array Oper} {o : Oper} {a : Act} {w : World} {K : Act → World → Prop} {Q : Exit → Act → World → Prop} {E : Prop} (hgd : o.guard = none) (t : TypeId) (x lo : Operand) (ho : o.op = .slice t x (some lo) none none)
    (e : TypeId) (s : Nat) (ht : P.underlying t = some (.slice e)) (hs : (P.info? e).map (·.size) = some s) (b : Option Addr) (k c n : Nat) (hx : a.eval x = .slice b k c) (hlo : a.eval lo = .int .i64 n) (hn : n ≤ k)
    (h : K (a.put o.dst (cutv b k c n s)) w) : if Region.wanted o (yielded ops a.tmps) = true then Oper.wp P o a w K Q else E := by
  have hw : Region.wanted o (yielded ops a.tmps) = true := by simp [Region.wanted, hgd]
  rw [if_pos hw]
  have := h
  unfold Oper.wp execOp
  simp only [ho, hx, hlo, Option.map_some, Option.map_none, Sem.run_bind, Sem.run_pure, Result.andThen_ok, run_from w t e s ht hs b k c n hn]
  exact this
theorem step_app {P : Program} (w : World) {ops : Array Oper} {o : Oper} {a : Act} {K : Act → World → Prop} {Q : Exit → Act → World → Prop} {E : Prop} (hgd : o.guard = none) (s x : Operand) (t : TypeId)
    (ho : o.op = .call { callee := .builtin .append, args := #[s, x], argTypes := #[t, t] })
    (e : TypeId) (i : TypeInfo) (z : Value) (size bytes : Nat) (ht : P.underlying t = some (.slice e)) (hi : P.info? e = some i) (hz : i.zero = some z)
    (hsize : i.size = size) (hby : i.bytes = bytes) (hzs : z.cells.size = size) (hsz : 0 < size)
    (v : Value) (n : Nat) (xs : List Value) (hs : a.eval s = v) (hown : w.ownsRow 0 e size v n xs)
    (ao : Option Addr) (m c : Nat) (news : List Value) (hx : a.eval x = .slice ao m c) (hl : news.length = m * size) (hnone : ao = none → m = 0 ∧ c = 0) (hnews : ∀ ad, ao = some ad → ∀ j u, news[j]? = some u → w.cell? (ad.add j) = some u) (h1 : ∀ u ∈ news, u.oneCell' = true)
    (h63 : n + m ≤ maxLen) (hbytes : (n + m) * bytes ≤ 140737488355328)
    (h : ∀ v' w', w'.ownsRow 0 e size v' (n + m) (xs ++ news) → Touch v.ownBlock.toList w w' → (v'.ownBlock = v.ownBlock ∨ v'.ownBlock = some w.heap.size) → K (a.put o.dst v') w') : if Region.wanted o (yielded ops a.tmps) = true then Oper.wp P o a w K Q else E := by
  have hw : Region.wanted o (yielded ops a.tmps) = true := by simp [Region.wanted, hgd]
  rw [if_pos hw]
  obtain ⟨v', w', hr, h2, h3, h4⟩ := run_app (P := P) w t o.type e i z size bytes ht hi hz hsize hby hzs hsz v n xs hown ao m c news hl hnone hnews h1 h63 hbytes
  unfold Oper.wp execOp
  simp only [ho, resolve, invoke, builtin, Sem.run_bind, Sem.run_pure, Result.andThen_ok, List.map_toArray, List.map_cons, List.map_nil, hs, hx, hr]
  exact h v' w' h2 h3 h4
theorem wp_post {P : Program} {o : Oper} {a : Act} {w : World} {K : Act → World → Prop} {Q' Q : Exit → Act → World → Prop} (hQ : ∀ e a w, Q' e a w → e = .normal)
    (hh : o.wp P a w K Q') : o.wp P a w K Q := by
  unfold Oper.wp at *
  generalize (execOp a.eval o).run P w = r at *
  cases r with
  | ok n w' =>
    cases n <;> simp only [Oper.upon] at hh ⊢
    case value u => exact hh
    case skip => exact hh
    case defer d => exact hh
    case enter f args =>
      refine Calls.mono hh fun e w'' he => ?_
      cases e with
      | returned u => exact he
      | panicked c => have := hQ _ _ _ he; cases this
      | outgrown => obtain ⟨_, _, he⟩ := he; have := hQ _ _ _ he; cases this
    case row row args => exact hh
  | halt x w' =>
    cases x <;> simp only [Oper.upon] at hh ⊢
    case panic u => have := hQ _ _ _ hh; cases this
theorem step_of_list {P : Program} {ops : Array Oper} {o : Oper} {a : Act} {w : World} {K : Act → World → Prop} {Q : Exit → Act → World → Prop} {E : Prop} (hgd : o.guard = none)
    (h : wpList P ops (fun e a w => e = .normal ∧ K a w) [o] a w) : if Region.wanted o (yielded ops a.tmps) = true then Oper.wp P o a w K Q else E := by
  have hw : Region.wanted o (yielded ops a.tmps) = true := by simp [Region.wanted, hgd]
  rw [if_pos hw]
  unfold wpList at h
  rw [if_pos hw] at h
  rcases h with h | ⟨_, a', w', h, _⟩
  · exact Oper.wp_mono (fun a w hk => hk.2) (wp_post (fun e a w he => he.1) h)
  · cases h
end Go.Proofs.YtecaakgpogabjaaDoor

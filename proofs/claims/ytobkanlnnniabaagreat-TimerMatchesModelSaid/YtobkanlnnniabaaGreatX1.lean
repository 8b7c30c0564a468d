/-
  Merged texts: Mem, Mp, Rec, RecS, Rec2, Rec3, Hl, Hk, Ho, Rec5, Rec4.
-/
import Derived.WalkKit
import Derived.Conc.LoneCalls
import Derived.Maps.Keyed
import Derived.Maps.RangeRun
import Derived.Deep.MidRow
import Derived.Deep.Draws
import Derived.StillTailTactics
import Derived.DeepKeys4
import Derived.Lib.Hide
import Derived.Deep.RegionLaw
import Derived.Deep.RegionHeld3
import Derived.Deep.AppendLies
import Derived.ChangeKeysEq
import Derived.Test.YtobkanlnnniabaaGreatRows
import Derived.Deep.QuietTactic
import Derived.BigQuiet
import Derived.Outline

/-
  What a step leaves of memory: 'Touch S w w'': w' is w but for the blocks of the list S, and new ones. Plain lemmas; no program in sight.
-/
namespace Go.Proofs.YtobkanlnnniabaaGreat
open Go.RowKit
set_option linter.unusedVariables false
set_option linter.unusedSimpArgs false

structure Touch (S : List Nat) (w w' : World) : Prop where
  os : w'.os = w.os
  tape : w'.tape = w.tape
  output : w'.output = w.output
  size : w.heap.size ≤ w'.heap.size
  block : ∀ k, k < w.heap.size → k ∉ S → w'.heap[k]? = w.heap[k]?

theorem Touch.refl (S : List Nat) (w : World) : Touch S w w := ⟨rfl, rfl, rfl, Nat.le_refl _, fun _ _ _ => rfl⟩
theorem Touch.trans {S S' : List Nat} {a b c : World} (h : Touch S a b) (k : Touch S' b c) (hs : ∀ x ∈ S', x ∈ S ∨ a.heap.size ≤ x) : Touch S a c :=
  ⟨k.os.trans h.os, k.tape.trans h.tape, k.output.trans h.output, Nat.le_trans h.size k.size, fun i hi hn =>
    (k.block i (Nat.lt_of_lt_of_le hi h.size) (fun hm => by rcases hs i hm with h1 | h1; exact hn h1; omega)).trans (h.block i hi hn)⟩
theorem Touch.mono {S S' : List Nat} {w w' : World} (h : Touch S w w') (hs : ∀ x ∈ S, x ∈ S' ∨ w.heap.size ≤ x) : Touch S' w w' :=
  ⟨h.os, h.tape, h.output, h.size, fun i hi hn => h.block i hi (fun hm => by rcases hs i hm with h1 | h1; exact hn h1; omega)⟩
theorem Touch.alloc {S : List Nat} {a w : World} (h : Touch S a w) (o : Obj) : Touch S a (w.alloc o) :=
  h.trans (S' := []) ⟨rfl, rfl, rfl, by simp, fun k hk _ => Below.heap_alloc _ _ _ hk⟩ (by simp)
theorem Touch.drew {S : List Nat} {a w : World} (h : Touch S a w) : Touch S a w.drew := ⟨h.os, h.tape, h.output, h.size, h.block⟩
theorem Touch.setCell {S : List Nat} {a w : World} (h : Touch S a w) {p : Addr} (hp : p.block ∈ S ∨ a.heap.size ≤ p.block) (u : Value) : Touch S a (w.setCell p u) :=
  h.trans (S' := [p.block]) ⟨rfl, rfl, rfl, by simp [World.setCell], fun k hk hn => Below.heap_setCell _ _ _ _ (by simpa using hn)⟩ (by simpa using hp)
theorem Touch.grown {S : List Nat} {a w w' : World} {row : Option Nat} (h : Touch S a w) (hg : w.grownBy w' row) (hr : ∀ k, row = some k → k ∈ S ∨ a.heap.size ≤ k) : Touch S a w' :=
  h.trans (S' := row.toList) ⟨hg.os, hg.tape, hg.output, hg.size, fun k hk hn => hg.block k hk (fun e => hn (by simp [← e]))⟩ (by intro x hx; exact hr x (by simpa using hx))
theorem Touch.below {S : List Nat} {B : Nat} {w w' : World} (h : Touch S w w') (hs : ∀ k ∈ S, B ≤ k) (hB : B ≤ w.heap.size) : Below B w w' :=
  ⟨h.os, h.tape, h.output, h.size, fun k hk => h.block k (by omega) (fun hm => by have := hs k hm; omega)⟩
theorem Touch.of_below {w w' : World} (h : Below w.heap.size w w') : Touch [] w w' := ⟨h.os, h.tape, h.output, h.size, fun k hk _ => h.block k hk⟩
theorem Touch.at {S : List Nat} {w w' : World} (h : Touch S w w') {b : Nat} {o : Obj} (hb : w.heap[b]? = some o) (hn : b ∉ S) : w'.heap[b]? = some o := by
  rw [h.block b (Array.getElem?_eq_some_iff.1 hb).1 hn]; exact hb
theorem Touch.cell {S : List Nat} {w w' : World} (h : Touch S w w') {p : Addr} {v : Value} (hp : w.cell? p = some v) (hn : p.block ∉ S) : w'.cell? p = some v := by
  rw [World.cell?_of_block (w := w) (h.block _ (World.block_lt_of_cell? w p hp) hn)]; exact hp
theorem Touch.owns {S : List Nat} {w w' : World} (h : Touch S w w') {base : Nat} {E k : Nat} {v : Value} {n : Nat} {xs : List Value} (ho : w.ownsRow base E k v n xs) (hn : ∀ g, v.ownBlock = some g → g ∉ S) : w'.ownsRow base E k v n xs := by
  obtain ⟨h1, h2⟩ := ho
  refine ⟨h1, ?_⟩
  rcases h2 with h2 | ⟨g, cap, cur, rfl, hg, hh, rest⟩
  · exact .inl h2
  · exact .inr ⟨g, cap, cur, rfl, hg, h.at hh (hn g rfl), rest⟩

theorem owns_form {w : World} {base e size n : Nat} {v : Value} {xs : List Value} (h : w.ownsRow base e size v n xs) : ∃ a c, v = .slice a n c ∧ n ≤ c ∧ c ≤ maxLen ∧ (0 < n → ∃ g, a = some ⟨g, 0, none⟩) := by
  rcases h.2 with ⟨rfl, rfl⟩ | ⟨g, cap, cur, rfl, _, _, h1, h2, _⟩
  · exact ⟨none, 0, rfl, by omega, by simp [maxLen], by omega⟩
  · exact ⟨_, _, rfl, h1, h2, fun _ => ⟨g, rfl⟩⟩
/-- The cells of an owned row at its block g. -/
theorem owns_cell {w : World} {base e size n g c : Nat} {xs : List Value} (h : w.ownsRow base e size (.slice (some ⟨g, 0, none⟩) n c) n xs) (j : Nat) (u : Value) (hu : xs[j]? = some u) : w.cell? ⟨g, j, none⟩ = some u := by
  have := h.cells (g := g) rfl j u hu
  rw [Addr.add_lit, Nat.zero_add] at this
  exact this
theorem owns_frozen {w : World} {base e size n g c : Nat} {xs : List Value} (h : w.ownsRow base e size (.slice (some ⟨g, 0, none⟩) n c) n xs) (j : Nat) : w.frozen? ⟨g, j, none⟩ = false := by
  rcases h.2 with ⟨h1, _⟩ | ⟨g', cap, cur, h1, _, hg, _⟩
  · simp at h1
  · simp at h1
    obtain ⟨rfl, rfl⟩ := h1
    simp [World.frozen?, hg]
theorem one_new (w : World) (v : Value) (T : TypeId) : ∀ j u, [v][j]? = some u → (w.alloc (.cells #[v] T)).cell? ((⟨w.heap.size, 0, none⟩ : Addr).add j) = some u := by
  intro j u h
  match j, h with
  | 0, h => simp at h; subst h; simp [Addr.add]
theorem one_int (k : IntKind) (n : Int) : ∀ u ∈ [Value.int k n], u.oneCell' = true := by
  intro u h; simp at h; subst h; rfl
theorem one_ptr (a : Option Addr) : ∀ u ∈ [Value.pointer a], u.oneCell' = true := by
  intro u h; simp at h; subst h; rfl
/-- One cell of an owned row is written. -/
theorem owns_set {w : World} {base e size n g c : Nat} {xs : List Value} (h : w.ownsRow base e size (.slice (some ⟨g, 0, none⟩) n c) n xs) (j : Nat) (u : Value) :
    (w.setCell ⟨g, j, none⟩ u).ownsRow base e size (.slice (some ⟨g, 0, none⟩) n c) n (xs.set j u) := by
  obtain ⟨h1, h2⟩ := h
  refine ⟨by simpa using h1, ?_⟩
  rcases h2 with ⟨h2, _⟩ | ⟨g', cap, cur, hv, hb, hh, hn, hm, hs, ht⟩
  · simp at h2
  · simp at hv
    obtain ⟨rfl, rfl⟩ := hv
    refine .inr ⟨g, c, cur.setIfInBounds j u, rfl, hb, ?_, hn, hm, by simpa using hs, ?_⟩
    · simp [World.setCell, Array.getElem?_modify, hh]
    · rw [← ht]
      simp [List.take_set]

/-- append onto a row of the call's own, the source nil or not; where the result lies: in the old block, or in a new one. -/
theorem run_app {P : Program} (w : World) (t ty e : TypeId) (i : TypeInfo) (z : Value) (size bytes : Nat) (ht : P.underlying t = some (.slice e)) (hi : P.info? e = some i) (hz : i.zero = some z)
    (hsize : i.size = size) (hby : i.bytes = bytes) (hzs : z.cells.size = size) (hsz : 0 < size)
    (v : Value) (n : Nat) (xs : List Value) (hown : w.ownsRow 0 e size v n xs)
    (ao : Option Addr) (m c : Nat) (news : List Value) (hl : news.length = m * size) (hnone : ao = none → m = 0 ∧ c = 0) (hnews : ∀ ad, ao = some ad → ∀ j u, news[j]? = some u → w.cell? (ad.add j) = some u) (h1 : ∀ u ∈ news, u.oneCell' = true)
    (h63 : n + m ≤ maxLen) (hbytes : (n + m) * bytes ≤ 140737488355328) :
    ∃ v' w', (Builtin.append_ #[t, t] ty #[v, .slice ao m c]).run P w = .ok v' w' ∧ w'.ownsRow 0 e size v' (n + m) (xs ++ news) ∧ Touch v.ownBlock.toList w w' ∧ (v'.ownBlock = v.ownBlock ∨ v'.ownBlock = some w.heap.size) := by
  cases ao with
  | none =>
    obtain ⟨rfl, rfl⟩ := hnone rfl
    obtain rfl : news = [] := List.eq_nil_of_length_eq_zero (by simpa using hl)
    refine ⟨v, w, run_append_owned_none w 0 t ty e i size ht hi v n xs hown, by simpa using hown, Touch.refl _ _, .inl rfl⟩
  | some ad =>
    obtain ⟨v', w', hr, ho, hg, hnil⟩ := run_append_own (P := P) w 0 t ty e i z size bytes ht hi hz hsize hby hzs hsz v n xs hown ad m c news hl (hnews ad rfl) h1 h63 hbytes (Nat.zero_le _)
    refine ⟨v', w', hr, ho, (Touch.refl _ _).grown hg (by intro k hk; simp [hk]), ?_⟩
    subst hsize
    subst hby
    have hs63 : n + m ≤ 9223372036854775807 := by simp only [maxLen] at h63; omega
    rcases hown.2 with ⟨rfl, rfl⟩ | ⟨g, cap, cur, rfl, _, hgg, hnc, hcm, hcs, htake⟩
    · by_cases hm : m = 0
      · subst hm
        have := hnil.2 ⟨rfl, rfl⟩
        rw [this]
        exact .inl rfl
      · have hr2 := run_append_nil (P := P) w t ty e i z ht hi hz ad m c news hl (hnews ad rfl) (by omega) (by omega) (by have hb := hbytes; simp only [Nat.zero_add] at hb; omega)
        rw [hr] at hr2
        simp only [Result.ok.injEq] at hr2
        rw [hr2.1]
        exact .inr rfl
    · by_cases hroom : n + m ≤ cap
      · have hr2 := run_append_room (P := P) w t ty e i ht hi g n cap cur hgg ad m c news hl (hnews ad rfl) h1 hroom (by rw [hl, hcs, ← Nat.add_mul]; exact Nat.mul_le_mul_right _ hroom)
        rw [hr] at hr2
        simp only [Result.ok.injEq] at hr2
        rw [hr2.1]
        exact .inl rfl
      · have hr2 := run_append_grow (P := P) w t ty e i z ht hi hz ⟨g, 0, none⟩ n cap xs hown.1 (hown.cells (g := g) rfl) ad m c news hl (hnews ad rfl) (by omega) (by omega) (growslice_fits (by omega) hbytes)
        rw [hr] at hr2
        simp only [Result.ok.injEq] at hr2
        rw [hr2.1]
        exact .inr rfl

theorem wpList_app {P : Program} (w : World) {ops : Array Oper} {rest : List Oper} {o : Oper} {a : Act} {Q : Exit → Act → World → Prop} (hgd : o.guard = none) (s x : Operand) (t : TypeId)
    (ho : o.op = .call { callee := .builtin .append, args := #[s, x], argTypes := #[t, t] })
    (e : TypeId) (i : TypeInfo) (z : Value) (size bytes : Nat) (ht : P.underlying t = some (.slice e)) (hi : P.info? e = some i) (hz : i.zero = some z)
    (hsize : i.size = size) (hby : i.bytes = bytes) (hzs : z.cells.size = size) (hsz : 0 < size)
    (v : Value) (n : Nat) (xs : List Value) (hs : a.eval s = v) (hown : w.ownsRow 0 e size v n xs)
    (ao : Option Addr) (m c : Nat) (news : List Value) (hx : a.eval x = .slice ao m c) (hl : news.length = m * size) (hnone : ao = none → m = 0 ∧ c = 0) (hnews : ∀ ad, ao = some ad → ∀ j u, news[j]? = some u → w.cell? (ad.add j) = some u) (h1 : ∀ u ∈ news, u.oneCell' = true)
    (h63 : n + m ≤ maxLen) (hbytes : (n + m) * bytes ≤ 140737488355328)
    (h : ∀ v' w', w'.ownsRow 0 e size v' (n + m) (xs ++ news) → Touch v.ownBlock.toList w w' → (v'.ownBlock = v.ownBlock ∨ v'.ownBlock = some w.heap.size) → wpList P ops Q rest (a.put o.dst v') w') : wpList P ops Q (o :: rest) a w := by
  refine wpList_plain hgd fun K hK => ?_
  obtain ⟨v', w', hr, h2, h3, h4⟩ := run_app (P := P) w t o.type e i z size bytes ht hi hz hsize hby hzs hsz v n xs hown ao m c news hl hnone hnews h1 h63 hbytes
  unfold Oper.wp execOp
  simp only [ho, resolve, invoke, builtin, Sem.run_bind, Sem.run_pure, Result.andThen_ok, List.map_toArray, List.map_cons, List.map_nil, hs, hx, hr]
  exact hK _ _ (h v' w' h2 h3 h4)
/-- .. of one new cell: append(s, x). -/
theorem wpList_app1 {P : Program} (w : World) {ops : Array Oper} {rest : List Oper} {o : Oper} {a : Act} {Q : Exit → Act → World → Prop} (hgd : o.guard = none) (s x : Operand) (t : TypeId)
    (ho : o.op = .call { callee := .builtin .append, args := #[s, x], argTypes := #[t, t] })
    (e : TypeId) (i : TypeInfo) (z : Value) (bytes : Nat) (ht : P.underlying t = some (.slice e)) (hi : P.info? e = some i) (hz : i.zero = some z)
    (hsize : i.size = 1) (hby : i.bytes = bytes) (hzs : z.cells.size = 1)
    (v : Value) (n : Nat) (xs : List Value) (hs : a.eval s = v) (hown : w.ownsRow 0 e 1 v n xs)
    (u : Value) (T : TypeId) (hx : a.eval x = .slice (some ⟨w.heap.size, 0, none⟩) 1 1) (h1 : u.oneCell' = true) (h63 : n + 1 ≤ maxLen) (hbytes : (n + 1) * bytes ≤ 140737488355328)
    (h : ∀ v' w', w'.ownsRow 0 e 1 v' (n + 1) (xs ++ [u]) → Touch v.ownBlock.toList w w' → (v'.ownBlock = v.ownBlock ∨ v'.ownBlock = some (w.heap.size + 1)) → wpList P ops Q rest (a.put o.dst v') w') : wpList P ops Q (o :: rest) a (w.alloc (.cells #[u] T)) :=
  wpList_app _ hgd s x t ho e i z 1 bytes ht hi hz hsize hby hzs (by omega) v n xs hs (hown.alloc _) _ 1 1 [u] hx rfl (by intro h; cases h) (by intro ad h; cases h; exact one_new w u T) (by intro y hy; simp at hy; subst hy; exact h1) h63 hbytes
    fun v' w' h2 h3 h4 => h v' w' h2 (Touch.trans ((Touch.refl _ _).alloc _) h3 (fun x hx => .inl hx)) (by simpa using h4)
end Go.Proofs.YtobkanlnnniabaaGreat

/-
  Maps told as lists of pairs (a key of a Lean type, the element's value), in the map's own order. Plain lemmas over any program: make, look up, store, mapEntry and entryStore, delete, len, range and next.
-/
namespace Go.Proofs.YtobkanlnnniabaaGreat
open Go.RowKit
open Go.Maps (Keyed)
open Go.MapKept (Stamped)
open Go.ChangeMaps (setBlock heap_setBlock_same heap_setBlock_other)
set_option linter.unusedVariables false
set_option linter.unusedSimpArgs false
set_option linter.unusedSectionVars false

theorem nodup_inj {β : Type} {l : List β} (h : l.Nodup) {i j : Nat} {hi : i < l.length} {hj : j < l.length} (e : l[i] = l[j]) : i = j := by
  rcases Nat.lt_trichotomy i j with h1 | h1 | h1
  · exact absurd e (List.pairwise_iff_getElem.1 h i j hi hj h1)
  · exact h1
  · exact absurd e.symm (List.pairwise_iff_getElem.1 h j i hj hi h1)

/-- A key type: Lean's keys, how they lie, which of them the model reads. -/
structure KE {α : Type} (P : Program) (k : TypeId) (enc : α → Value) (ok : α → Prop) : Prop where
  K : Keyed P k
  lit : ∀ a, ok a → ∃ l, keyOf P k (enc a) = some l
  inj : ∀ a b, enc a = enc b → a = b

structure MpE {α : Type} (enc : α → Value) (ok : α → Prop) (w : World) (b : Nat) (es : Array MapEntry) (clock : Nat) (kv : List (α × Value)) : Prop where
  blk : w.heap[b]? = some (.map es clock)
  st : Stamped es clock
  eq : es.toList.map (fun e => (e.key, e.val)) = kv.map (fun p => (enc p.1, p.2))
  oks : ∀ p ∈ kv, ok p.1

def Mp {α : Type} (enc : α → Value) (ok : α → Prop) (w : World) (b : Nat) (kv : List (α × Value)) : Prop := ∃ es clock, MpE enc ok w b es clock kv

section
variable {α : Type} [DecidableEq α] {P : Program} {k : TypeId} {enc : α → Value} {ok : α → Prop} {w : World} {b : Nat} {es : Array MapEntry} {clock : Nat} {kv : List (α × Value)}

def look (kv : List (α × Value)) (a : α) : Option Value := (kv.find? fun p => decide (p.1 = a)).map Prod.snd
def put (kv : List (α × Value)) (a : α) (v : Value) : List (α × Value) := if (look kv a).isSome then kv.map (fun p => if p.1 = a then (a, v) else p) else kv ++ [(a, v)]
def del (kv : List (α × Value)) (a : α) : List (α × Value) := kv.filter fun p => !decide (p.1 = a)

theorem look_none {a : α} : look kv a = none ↔ ∀ p ∈ kv, p.1 ≠ a := by
  unfold look
  rw [Option.map_eq_none_iff, List.find?_eq_none]
  simp
theorem look_some {a : α} {v : Value} (hn : (kv.map Prod.fst).Nodup) : look kv a = some v ↔ (a, v) ∈ kv := by
  induction kv with
  | nil => simp [look]
  | cons p r ih =>
    simp only [List.map_cons, List.nodup_cons] at hn
    have ih' := ih hn.2
    unfold look at ih' ⊢
    rw [List.find?_cons]
    by_cases h : p.1 = a
    · simp only [h, decide_true, Option.map_some, Option.some.injEq, List.mem_cons]
      subst h
      constructor
      · intro e; left; rw [← e]
      · rintro (e | e)
        · rw [← e]
        · exact absurd (List.mem_map.2 ⟨_, e, rfl⟩) hn.1
    · simp only [h, decide_false, List.mem_cons]
      rw [ih']
      constructor
      · exact .inr
      · rintro (e | e)
        · rw [← e] at h; exact absurd rfl h
        · exact e

theorem MpE.get (h : MpE enc ok w b es clock kv) {j : Nat} {e : MapEntry} (he : es[j]? = some e) : ∃ p, kv[j]? = some p ∧ e.key = enc p.1 ∧ e.val = p.2 := by
  have := congrArg (fun l => l[j]?) h.eq
  simp only [List.getElem?_map, Array.getElem?_toList, he, Option.map_some] at this
  cases hp : kv[j]? with
  | none => simp [hp] at this
  | some p =>
    simp only [hp, Option.map_some, Option.some.injEq, Prod.mk.injEq] at this
    exact ⟨p, rfl, this.1, this.2⟩
theorem MpE.put (h : MpE enc ok w b es clock kv) {j : Nat} {p : α × Value} (hp : kv[j]? = some p) : ∃ e, es[j]? = some e ∧ e.key = enc p.1 ∧ e.val = p.2 := by
  have := congrArg (fun l => l[j]?) h.eq
  simp only [List.getElem?_map, Array.getElem?_toList, hp, Option.map_some] at this
  cases he : es[j]? with
  | none => simp [he] at this
  | some e =>
    simp only [he, Option.map_some, Option.some.injEq, Prod.mk.injEq] at this
    exact ⟨e, rfl, this.1, this.2⟩
theorem MpE.size (h : MpE enc ok w b es clock kv) : es.size = kv.length := by
  have := congrArg List.length h.eq
  simpa using this
theorem MpE.keys (h : MpE enc ok w b es clock kv) : es.toList.map (·.key) = kv.map (fun p => enc p.1) := by
  have := congrArg (List.map Prod.fst) h.eq
  simpa [List.map_map, Function.comp_def] using this
theorem MpE.nodup (h : MpE enc ok w b es clock kv) : (kv.map Prod.fst).Nodup := by
  have h1 := h.st.2.2
  rw [h.keys] at h1
  have : (kv.map fun p => enc p.1) = (kv.map Prod.fst).map enc := by simp [List.map_map, Function.comp_def]
  rw [this] at h1
  exact (List.pairwise_map.1 h1).imp fun {a b} hab e => hab (by rw [e])
theorem Mp.nodup (h : Mp enc ok w b kv) : (kv.map Prod.fst).Nodup := by obtain ⟨_, _, h⟩ := h; exact h.nodup
theorem MpE.find (E : KE P k enc ok) (h : MpE enc ok w b es clock kv) {a : α} (ha : ok a) (w' : World) :
    ((Instr.findKey k (enc a) es.toList).run P w' = .ok none w' ∧ look kv a = none) ∨
    ∃ j e, (Instr.findKey k (enc a) es.toList).run P w' = .ok (some (j, e.val)) w' ∧ es[j]? = some e ∧ e.key = enc a ∧ kv[j]? = some (a, e.val) ∧ look kv a = some e.val := by
  obtain ⟨l, hl⟩ := E.lit a ha
  have hk : ∀ e ∈ es.toList, ∃ l, keyOf P k e.key = some l := by
    intro e he
    obtain ⟨j, hj⟩ := List.getElem?_of_mem he
    obtain ⟨p, hp, h1, _⟩ := h.get (by simpa using hj)
    rw [h1]
    exact E.lit _ (h.oks _ (List.mem_of_getElem? hp))
  rcases E.K.find w' hl es.toList hk with ⟨h1, h2⟩ | ⟨j, e, h1, h2, h3⟩
  · refine .inl ⟨h1, look_none.2 fun p hp e => ?_⟩
    obtain ⟨j, hj⟩ := List.getElem?_of_mem hp
    obtain ⟨e', he', h4, _⟩ := h.put hj
    rw [e] at h4
    exact h2 e' (List.mem_of_getElem? (by simpa using he')) h4
  · obtain ⟨p, hp, h4, h5⟩ := h.get (by simpa using h2)
    have : p.1 = a := E.inj _ _ (by rw [← h4, h3])
    have hpe : p = (a, e.val) := by rw [h5, ← this]
    subst hpe
    exact .inr ⟨j, e, h1, by simpa using h2, h3, hp, (look_some h.nodup).2 (List.mem_of_getElem? hp)⟩

theorem Touch.setBlock (w : World) (b : Nat) (o : Obj) : Touch [b] w (setBlock w b o) :=
  ⟨rfl, rfl, rfl, by simp [Go.ChangeMaps.setBlock], fun k hk hn => by
    simp only [List.mem_singleton] at hn
    simp [Go.ChangeMaps.setBlock, Array.getElem?_setIfInBounds, Ne.symm hn]⟩
theorem setBlock_size (w : World) (b : Nat) (o : Obj) : (setBlock w b o).heap.size = w.heap.size := by simp [setBlock]

theorem MpE.touch {S : List Nat} {w' : World} (h : MpE enc ok w b es clock kv) (t : Touch S w w') (hb : b ∉ S) : MpE enc ok w' b es clock kv := ⟨t.at h.blk hb, h.st, h.eq, h.oks⟩
theorem Mp.touch {S : List Nat} {w' : World} (h : Mp enc ok w b kv) (t : Touch S w w') (hb : b ∉ S) : Mp enc ok w' b kv := by
  obtain ⟨es, clock, h⟩ := h
  exact ⟨es, clock, h.touch t hb⟩
theorem Mp.lt (h : Mp enc ok w b kv) : b < w.heap.size := by
  obtain ⟨es, clock, h⟩ := h
  exact (Array.getElem?_eq_some_iff.1 h.blk).1
theorem Mp.made (w : World) : Mp enc ok (w.alloc (.map #[] 0)) w.heap.size [] := ⟨#[], 0, heap_alloc_new w _, Go.MapKept.stamped_empty 0, by simp, by simp⟩

theorem Mp.lookup (E : KE P k enc ok) {t e : TypeId} (ht : P.underlying t = some (.map k e)) {z : Value} (hz : (zeroValue e).run P w = .ok z w) (h : Mp enc ok w b kv) {a : α} (ha : ok a) (c : Bool) :
    (Instr.lookup t (.map (some b)) (enc a) c).run P w = .ok (if c then .tuple #[(look kv a).getD z, .bool (look kv a).isSome] else (look kv a).getD z) w := by
  obtain ⟨es, clock, h⟩ := h
  obtain ⟨l, hl⟩ := E.lit a ha
  rcases h.find E ha w with ⟨h1, h2⟩ | ⟨j, e0, h1, _, _, _, h2⟩
  · simp [Instr.lookup, run_underlying ht, MapKept.run_getObj_map h.blk, E.K.check w _ hl, h1, hz, Result.andThen, h2]
  · simp [Instr.lookup, run_underlying ht, MapKept.run_getObj_map h.blk, E.K.check w _ hl, h1, Result.andThen, h2]

theorem MpE.push (E : KE P k enc ok) (h : MpE enc ok w b es clock kv) {a : α} (ha : ok a) (hn : look kv a = none) (v : Value) :
    MpE enc ok (setBlock w b (.map (es.push ⟨enc a, v, clock⟩) (clock + 1))) b (es.push ⟨enc a, v, clock⟩) (clock + 1) (kv ++ [(a, v)]) := by
  refine ⟨heap_setBlock_same h.blk _, Go.MapKept.stamped_push h.st fun x hx e => ?_, by simp [h.eq], ?_⟩
  · obtain ⟨j, hj⟩ := List.getElem?_of_mem hx
    obtain ⟨p, hp, h4, _⟩ := h.get (by simpa using hj)
    exact look_none.1 hn p (List.mem_of_getElem? hp) (E.inj _ _ (by rw [← h4, e]))
  · intro p hp
    rcases List.mem_append.1 hp with hp | hp
    · exact h.oks p hp
    · simp at hp; subst hp; exact ha

theorem Mp.store (E : KE P k enc ok) {t e : TypeId} (ht : P.underlying t = some (.map k e)) (h : Mp enc ok w b kv) {a : α} (ha : ok a) (v : Value) :
    ∃ w', (Instr.mapUpdate t (.map (some b)) (enc a) v).run P w = .ok () w' ∧ Mp enc ok w' b (put kv a v) ∧ Touch [b] w w' ∧ w'.heap.size = w.heap.size := by
  obtain ⟨es, clock, h⟩ := h
  obtain ⟨l, hl⟩ := E.lit a ha
  rcases h.find E ha w with ⟨h1, h2⟩ | ⟨j, e0, h1, hj, h3, hkj, h2⟩
  · refine ⟨setBlock w b (.map (es.push ⟨enc a, v, clock⟩) (clock + 1)), by simp [Instr.mapUpdate, run_underlying ht, MapKept.run_getObj_map h.blk, E.K.check w false hl, h1, MapKept.run_setObj_map _ h.blk, Result.andThen, setBlock], ⟨es.push ⟨enc a, v, clock⟩, clock + 1, ?_⟩, Touch.setBlock w b _, setBlock_size _ _ _⟩
    simp only [Go.Proofs.YtobkanlnnniabaaGreat.put, h2, Option.isSome_none, Bool.false_eq_true, if_false]
    exact h.push E ha h2 v
  · have hlist : (es.modify j (fun e' => { e' with key := enc a, val := v })).toList = es.toList.set j { e0 with key := enc a, val := v } := by rw [Array.toList_modify, Go.ChangeMaps.modify_eq_set _ _ _ _ (by simpa using hj)]
    refine ⟨setBlock w b (.map (es.modify j (fun e' => { e' with key := enc a, val := v })) clock), by simp [Instr.mapUpdate, run_underlying ht, MapKept.run_getObj_map h.blk, E.K.check w false hl, h1, hj, h3, E.K.stays w hl, MapKept.run_setObj_map _ h.blk, Result.andThen, setBlock], ⟨es.modify j (fun e' => { e' with key := enc a, val := v }), clock, heap_setBlock_same h.blk _, Go.MapKept.stamped_modify h.st _ _ (fun _ _ => rfl) (fun e' _ he' => by rw [hj] at he'; cases he'; exact h3.symm), ?_, ?_⟩, Touch.setBlock w b _, setBlock_size _ _ _⟩
    · rw [hlist, List.map_set, h.eq]
      simp only [Go.Proofs.YtobkanlnnniabaaGreat.put, h2, Option.isSome_some, if_true]
      apply List.ext_getElem?
      intro i
      rw [List.getElem?_set]
      by_cases hij : j = i
      · subst hij
        have hjl : j < kv.length := (List.getElem?_eq_some_iff.1 hkj).1
        have hkj2 := (List.getElem?_eq_some_iff.1 hkj).2
        simp [hjl, hkj2]
      · simp only [hij, if_false, List.getElem?_map]
        cases hi : kv[i]? with
        | none => simp
        | some p =>
          have hne : p.1 ≠ a := by
            intro e
            have hnd := h.nodup
            have e1 : (kv.map Prod.fst)[i]? = some a := by simp [hi, e]
            have e2 : (kv.map Prod.fst)[j]? = some a := by simp [hkj]
            obtain ⟨l1, q1⟩ := List.getElem?_eq_some_iff.1 e1
            obtain ⟨l2, q2⟩ := List.getElem?_eq_some_iff.1 e2
            exact hij (nodup_inj hnd (q2.trans q1.symm))
          simp [hne]
    · intro p hp
      simp only [Go.Proofs.YtobkanlnnniabaaGreat.put, h2, Option.isSome_some, if_true] at hp
      obtain ⟨q, hq, rfl⟩ := List.mem_map.1 hp
      split
      · exact ha
      · exact h.oks q hq

theorem Mp.drop (E : KE P k enc ok) {t e : TypeId} (ht : P.underlying t = some (.map k e)) (h : Mp enc ok w b kv) {a : α} (ha : ok a) (ty : TypeId) :
    ∃ w', (Builtin.delete_ #[t, k] ty #[.map (some b), enc a]).run P w = .ok (.tuple #[]) w' ∧ Mp enc ok w' b (del kv a) ∧ Touch [b] w w' ∧ w'.heap.size = w.heap.size := by
  obtain ⟨es, clock, h⟩ := h
  obtain ⟨l, hl⟩ := E.lit a ha
  rcases h.find E ha w with ⟨h1, h2⟩ | ⟨j, e0, h1, hj, h3, hkj, h2⟩
  · have hd : del kv a = kv := by
      unfold del
      rw [List.filter_eq_self]
      intro p hp
      simpa using look_none.1 h2 p hp
    rw [hd]
    exact ⟨setBlock w b (.map es clock), by simp [Builtin.delete_, run_underlying ht, MapKept.run_getObj_map h.blk, E.K.check w _ hl, h1, MapKept.run_setObj_map _ h.blk, Result.andThen, setBlock], ⟨es, clock, heap_setBlock_same h.blk _, h.st, h.eq, h.oks⟩, Touch.setBlock w b _, setBlock_size _ _ _⟩
  · have hjs : j < es.size := (Array.getElem?_eq_some_iff.1 hj).1
    have hsub : (es.eraseIdxIfInBounds j).toList = es.toList.eraseIdx j := by
      unfold Array.eraseIdxIfInBounds
      rw [dif_pos hjs]
      simp
    have hd : del kv a = kv.eraseIdx j := by
      unfold del
      refine Go.ChangeMaps.filter_eq_eraseIdx (fun p => decide (p.1 = a)) kv j (a, e0.val) hkj (by simp) ?_
      have := h.nodup
      rw [List.Nodup, List.pairwise_map] at this
      refine this.imp fun {p q} hpq hh => ?_
      simp only [decide_eq_true_eq] at hh
      exact hpq (hh.1.trans hh.2.symm)
    rw [hd]
    refine ⟨setBlock w b (.map (es.eraseIdxIfInBounds j) clock), by simp [Builtin.delete_, run_underlying ht, MapKept.run_getObj_map h.blk, E.K.check w _ hl, h1, MapKept.run_setObj_map _ h.blk, Result.andThen, setBlock], ⟨es.eraseIdxIfInBounds j, clock, heap_setBlock_same h.blk _, Go.MapKept.stamped_erase h.st j, ?_, ?_⟩, Touch.setBlock w b _, setBlock_size _ _ _⟩
    · rw [hsub, Go.ChangeMaps.map_eraseIdx, h.eq, Go.ChangeMaps.map_eraseIdx]
    · intro p hp
      exact h.oks p ((List.eraseIdx_sublist _ _).subset hp)

theorem Mp.len {t e : TypeId} (ht : P.underlying t = some (.map k e)) (h : Mp enc ok w b kv) (ty : TypeId) :
    (Builtin.len_ #[t] ty #[.map (some b)]).run P w = .ok (.int .i64 kv.length) w := by
  obtain ⟨es, clock, h⟩ := h
  simp [Builtin.len_, run_underlying ht, MapKept.run_getObj_map h.blk, Result.andThen, h.size, goInt]

/-- m[k] = f(..) at a key that is not there: its two halves. -/
theorem MpE.entry (E : KE P k enc ok) {t e : TypeId} (ht : P.underlying t = some (.map k e)) {z : Value} (hz : (zeroValue e).run P w = .ok z w) (h : MpE enc ok w b es clock kv) {a : α} (ha : ok a) (hn : look kv a = none) :
    (Instr.mapEntry t (.map (some b)) (enc a)).run P w = .ok (.tuple #[z, .int .i64 clock]) (setBlock w b (.map (es.push ⟨enc a, z, clock⟩) (clock + 1))) := by
  obtain ⟨l, hl⟩ := E.lit a ha
  rcases h.find E ha w with ⟨h1, h2⟩ | ⟨j, e0, h1, hj, h3, hkj, h2⟩
  · simp [Instr.mapEntry, run_underlying ht, MapKept.run_getObj_map h.blk, E.K.check w false hl, h1, hz, MapKept.run_setObj_map _ h.blk, Result.andThen, goInt, setBlock]
  · rw [hn] at h2; cases h2
theorem MpE.entryW (E : KE P k enc ok) {t e : TypeId} (ht : P.underlying t = some (.map k e)) {z : Value} (hz : (zeroValue e).run P w = .ok z w) (h : MpE enc ok w b es clock kv) {a : α} (ha : ok a) (hn : look kv a = none) :
    ∃ w', (Instr.mapEntry t (.map (some b)) (enc a)).run P w = .ok (.tuple #[z, .int .i64 clock]) w' ∧ MpE enc ok w' b (es.push ⟨enc a, z, clock⟩) (clock + 1) (kv ++ [(a, z)]) ∧ Touch [b] w w' ∧ w'.heap.size = w.heap.size :=
  ⟨_, h.entry E ht hz ha hn, h.push E ha hn z, Touch.setBlock w b _, setBlock_size _ _ _⟩
theorem MpE.fill (E : KE P k enc ok) {t : TypeId} {z : Value} {a : α} (hs : Stamped es clock) (h : MpE enc ok w b (es.push ⟨enc a, z, clock⟩) (clock + 1) (kv ++ [(a, z)])) (v : Value) :
    ∃ w', (Instr.entryStore t (.map (some b)) (.int .i64 clock) v).run P w = .ok () w' ∧ MpE enc ok w' b (es.push ⟨enc a, v, clock⟩) (clock + 1) (kv ++ [(a, v)]) ∧ Touch [b] w w' ∧ w'.heap.size = w.heap.size := by
  have hf : (es.push ⟨enc a, z, clock⟩).findIdx? (fun e => (e.born : Int) == (clock : Int)) = some es.size := by
    rw [Array.findIdx?_eq_some_iff_getElem]
    refine ⟨by simp, by simp, fun j hj => ?_⟩
    have := hs.1 (es[j]) (by simp)
    simp [Array.getElem_push_lt hj]
    omega
  have hm : (es.push ⟨enc a, z, clock⟩).modify es.size (fun e => { e with val := v }) = es.push ⟨enc a, v, clock⟩ := by
    apply Array.ext_getElem?
    intro i
    rw [Array.getElem?_modify]
    by_cases hi : es.size = i
    · subst hi; simp
    · simp only [hi, if_false, Array.getElem?_push]
      split
      · rename_i h1; exact absurd h1.symm hi
      · rfl
  refine ⟨setBlock w b (.map (es.push ⟨enc a, v, clock⟩) (clock + 1)), by simp [Instr.entryStore, MapKept.run_getObj_map h.blk, asInt, asIntOf, hf, hm, MapKept.run_setObj_map _ h.blk, Result.andThen, setBlock], ⟨heap_setBlock_same h.blk _, ?_, ?_, ?_⟩, Touch.setBlock w b _, setBlock_size _ _ _⟩
  · have := Go.MapKept.stamped_modify h.st es.size (fun e => { e with val := v }) (fun _ _ => rfl) (fun _ _ _ => rfl)
    rw [hm] at this
    exact this
  · have := h.eq
    simp at this ⊢
    exact this
  · intro p hp
    rcases List.mem_append.1 hp with hp | hp
    · exact h.oks p (List.mem_append_left _ hp)
    · simp at hp; subst hp; exact h.oks (a, z) (by simp)

/-! ### ranging over a map that no round writes -/
/-- Block r is an iterator over the map in block b; the entries at the places S have come. -/
def It (w : World) (r b : Nat) (es : Array MapEntry) (clock : Nat) (S : List Nat) : Prop :=
  ∃ seen : Array Nat, w.heap[r]? = some (.mapIter (some b) clock seen clock) ∧ (∀ j e, es[j]? = some e → (e.born ∈ seen.toList ↔ j ∈ S)) ∧ S.Nodup ∧ ∀ j ∈ S, j < es.size
theorem It.touch {w w' : World} {r : Nat} {S : List Nat} {T : List Nat} (h : It w r b es clock S) (t : Touch T w w') (hr : r ∉ T) : It w' r b es clock S := by
  obtain ⟨seen, h1, h2⟩ := h
  exact ⟨seen, t.at h1 hr, h2⟩
theorem It.lt {r : Nat} {S : List Nat} (h : It w r b es clock S) : r < w.heap.size := by
  obtain ⟨seen, h1, _⟩ := h
  exact (Array.getElem?_eq_some_iff.1 h1).1
theorem MpE.range {t e : TypeId} (ht : P.underlying t = some (.map k e)) (h : MpE enc ok w b es clock kv) :
    (Instr.range t (.map (some b))).run P w = .ok (.pointer (some ⟨w.heap.size, 0, none⟩)) (w.alloc (.mapIter (some b) clock #[] clock)) ∧ It (w.alloc (.mapIter (some b) clock #[] clock)) w.heap.size b es clock [] := by
  refine ⟨?_, ⟨#[], heap_alloc_new w _, by simp, by simp, by simp⟩⟩
  simp [Instr.range, run_underlying ht, MapKept.run_getObj_map h.blk, Result.andThen]
theorem born_inj (hs : Stamped es clock) {i j : Nat} {e e' : MapEntry} (hi : es[i]? = some e) (hj : es[j]? = some e') (hb : e.born = e'.born) : i = j := by
  have e1 : (es.toList.map (·.born))[i]? = some e.born := by simp [hi]
  have e2 : (es.toList.map (·.born))[j]? = some e.born := by simp [hj, hb]
  obtain ⟨l1, q1⟩ := List.getElem?_eq_some_iff.1 e1
  obtain ⟨l2, q2⟩ := List.getElem?_eq_some_iff.1 e2
  exact nodup_inj hs.2.1 (q1.trans q2.symm)
theorem MpE.next (h : MpE enc ok w b es clock kv) {r : Nat} {S : List Nat} (hi : It w r b es clock S) (hrb : r ≠ b) (ty : TypeId) :
    ((∀ j < kv.length, j ∈ S) ∧ (Instr.next (.pointer (some ⟨r, 0, none⟩)) false ty).run P w = .ok (.tuple #[.bool false]) w) ∨
    ∃ j p w', j ∉ S ∧ kv[j]? = some p ∧ (Instr.next (.pointer (some ⟨r, 0, none⟩)) false ty).run P w = .ok (.tuple #[.bool true, enc p.1, p.2]) w' ∧ Touch [r] w w' ∧ w'.heap.size = w.heap.size ∧ It w' r b es clock (S ++ [j]) ∧
      (Instr.entry (.pointer (some ⟨r, 0, none⟩))).run P w' = .ok (.tuple #[enc p.1, p.2]) w' := by
  obtain ⟨seen, h1, h2, h3, h4⟩ := hi
  rcases run_next_at (P := P) w ty r b clock clock seen es clock h1 h.blk (fun x hx => h.st.1 x hx) (Nat.le_refl _) with ⟨h5, h6⟩ | ⟨e, he, w1, hw1, hrun⟩
  · refine .inl ⟨fun j hj => ?_, h6⟩
    rw [← h.size] at hj
    have hje : es[j]? = some es[j] := Array.getElem?_eq_getElem hj
    rw [← h2 j _ hje]
    have hem : leftOf es seen = #[] := Array.eq_empty_of_size_eq_zero h5
    unfold leftOf at hem
    rw [Array.filter_eq_empty_iff] at hem
    have := hem es[j] (by simp)
    simpa using this
  · right
    unfold leftOf at he
    simp at he
    obtain ⟨hm, hns⟩ := he
    obtain ⟨j, hj⟩ := Array.getElem?_of_mem hm
    obtain ⟨p, hp, hk1, hv1⟩ := h.get hj
    have hjS : j ∉ S := by
      rw [← h2 j e hj]
      simpa using hns
    have hr1 : w1.heap[r]? = some (.mapIter (some b) clock seen clock) := by rcases hw1 with rfl | rfl <;> exact h1
    have t1 : Touch [r] w w1 := by
      rcases hw1 with rfl | rfl
      · exact Touch.refl _ _
      · exact (Touch.refl _ _).drew
    have z1 : w1.heap.size = w.heap.size := by rcases hw1 with rfl | rfl <;> rfl
    have t2 : Touch [r] w (setBlock w1 r (.mapIter (some b) clock (seen.push e.born) clock)) := t1.trans (Touch.setBlock w1 r _) (by simp)
    have hlt : r < w1.heap.size := (Array.getElem?_eq_some_iff.1 hr1).1
    have hr2 : (setBlock w1 r (.mapIter (some b) clock (seen.push e.born) clock)).heap[r]? = some (.mapIter (some b) clock (seen.push e.born) clock) := by
      simp [setBlock, hlt]
    refine ⟨j, p, _, hjS, hp, by rw [hrun, hk1, hv1], t2, by rw [setBlock_size, z1], ⟨_, hr2, ?_, ?_, ?_⟩, ?_⟩
    · intro i e' he'
      simp only [Array.toList_push, List.mem_append, List.mem_singleton]
      rw [h2 i e' he']
      constructor
      · rintro (q | q)
        · exact .inl q
        · exact .inr (born_inj h.st he' hj q)
      · rintro (q | q)
        · exact .inl q
        · subst q
          rw [hj] at he'
          cases he'
          exact .inr rfl
    · exact List.nodup_append.2 ⟨h3, by simp, by intro a ha c hc; simp at hc; subst hc; intro e; exact hjS (e ▸ ha)⟩
    · intro i hi
      rcases List.mem_append.1 hi with q | q
      · exact h4 i q
      · simp at q; subst q; exact (Array.getElem?_eq_some_iff.1 hj).1
    · have hb2 := t2.at h.blk (by simpa using hrb.symm)
      rw [run_entry_at (P := P) _ r b clock seen es clock e hr2 hb2 (by simpa using hm) h.st.2.1, hk1, hv1]
theorem few_of_lt : ∀ (n : Nat) (S : List Nat), S.Nodup → (∀ j ∈ S, j < n) → S.length ≤ n
  | 0, S, _, h => by
    cases S with
    | nil => simp
    | cons a r => exact absurd (h a List.mem_cons_self) (by omega)
  | n + 1, S, hn, h => by
    by_cases hm : n ∈ S
    · have h1 := few_of_lt n (S.erase n) (hn.erase n) (fun j hj => by
        have := (List.Nodup.mem_erase_iff hn).1 hj
        have := h j this.2
        omega)
      rw [List.length_erase_of_mem hm] at h1
      omega
    · have := few_of_lt n S hn (fun j hj => by
        have := h j hj
        have : j ≠ n := fun e => hm (e ▸ hj)
        omega)
      omega
/-- What has come, the places S having come. -/
def came {β : Type} (l : List β) (S : List Nat) : List β := S.filterMap fun j => l[j]?
theorem came_snoc {β : Type} {l : List β} {S : List Nat} {j : Nat} {p : β} (h : l[j]? = some p) : came l (S ++ [j]) = came l S ++ [p] := by simp [came, h]
theorem came_len {β : Type} {l : List β} {S : List Nat} (h : ∀ j ∈ S, j < l.length) : (came l S).length = S.length := by
  induction S with
  | nil => rfl
  | cons a r ih =>
    have ha := h a List.mem_cons_self
    unfold came at ih ⊢
    rw [List.filterMap_cons, List.getElem?_eq_getElem ha]
    simp [ih (fun j hj => h j (List.mem_cons_of_mem _ hj))]
theorem came_all {β : Type} {l : List β} {S : List Nat} (hn : S.Nodup) (h : ∀ j ∈ S, j < l.length) (ha : ∀ j < l.length, j ∈ S) : (came l S).Perm l := by
  have hp : S.Perm (List.range l.length) := (List.perm_ext_iff_of_nodup hn List.nodup_range).2 fun a => by
    rw [List.mem_range]
    exact ⟨h a, ha a⟩
  have h1 : (came l S).Perm (came l (List.range l.length)) := hp.filterMap _
  have h2 : came l (List.range l.length) = l := by
    unfold came
    have : ∀ n, n ≤ l.length → (List.range n).filterMap (fun j => l[j]?) = l.take n := by
      intro n
      induction n with
      | zero => intro _; simp
      | succ n ih =>
        intro hnl
        rw [List.range_succ, List.filterMap_append, ih (by omega), List.take_add_one]
        simp [List.filterMap_cons, List.getElem?_eq_getElem (show n < l.length by omega)]
    rw [this _ (Nat.le_refl _), List.take_length]
  rw [h2] at h1
  exact h1
theorem It.nodup {r : Nat} {S : List Nat} (h : It w r b es clock S) : S.Nodup := by obtain ⟨_, _, _, h, _⟩ := h; exact h
theorem It.bound (hm : MpE enc ok w b es clock kv) {r : Nat} {S : List Nat} {w' : World} (h : It w' r b es clock S) : ∀ j ∈ S, j < kv.length := by
  obtain ⟨_, _, _, _, h⟩ := h
  intro j hj
  rw [← hm.size]
  exact h j hj
end
end Go.Proofs.YtobkanlnnniabaaGreat

/-
  Loads and stores of a whole struct. Plain lemmas over any program.
-/
namespace Go.Proofs.YtobkanlnnniabaaGreat
open Go.RowKit
set_option linter.unusedVariables false
set_option linter.unusedSimpArgs false

theorem Touch.drews {S : List Nat} {a w : World} (h : Touch S a w) (n : Nat) : Touch S a (w.drewN n) := ⟨h.os, h.tape, h.output, h.size, h.block⟩
theorem Touch.range {S : List Nat} {w w' : World} (t : Touch S w w') {b o : Nat} {cs : List Value} (h : w.rangeAt b o cs) (hb : b ∉ S) : w'.rangeAt b o cs :=
  fun j v hv => t.cell (h j v hv) hb
theorem range_draws {w : World} {b o : Nat} {cs : List Value} (h : w.rangeAt b o cs) (n : Nat) : (w.drewN n).rangeAt b o cs := h
theorem range_new (w : World) (cs : List Value) (T : TypeId) : (w.alloc (.cells cs.toArray T)).rangeAt w.heap.size 0 cs := by
  intro j v hv
  rw [Nat.zero_add, cell_of_row (w.alloc (.cells cs.toArray T)) w.heap.size j cs.toArray T (0, 0) (heap_alloc_new w _)]
  simpa using hv

theorem setCells_new (w : World) (z : Array Value) (T : TypeId) (cs : List Value) (h : z.size = cs.length) : (w.alloc (.cells z T)).setCells w.heap.size 0 cs = w.alloc (.cells cs.toArray T) := by
  have key : ∀ (l pre : List Value) (o : Nat) (suf : List Value), o = pre.length → suf.length = l.length → (w.alloc (.cells (pre ++ suf).toArray T)).setCells w.heap.size o l = w.alloc (.cells (pre ++ l).toArray T) := by
    intro l
    induction l with
    | nil => intro pre o suf ho hs; obtain rfl : suf = [] := List.eq_nil_of_length_eq_zero (by simpa using hs); rfl
    | cons x l ih =>
      intro pre o suf ho hs
      cases suf with
      | nil => simp at hs
      | cons y suf =>
        have e : (w.alloc (.cells (pre ++ y :: suf).toArray T)).setCell ⟨w.heap.size, o, none⟩ x = w.alloc (.cells ((pre ++ [x]) ++ suf).toArray T) := by
          rw [World.setCell_alloc_at _ _ _ _ _ rfl]
          congr 2
          subst ho
          simp
        show ((w.alloc (.cells (pre ++ y :: suf).toArray T)).setCell ⟨w.heap.size, o, none⟩ x).setCells w.heap.size (o + 1) l = _
        rw [e, ih (pre ++ [x]) (o + 1) suf (by simp [ho]) (by simpa using hs)]
        simp
  obtain ⟨zl⟩ := z
  have := key cs [] 0 zl rfl (by simpa using h)
  simpa using this

/-- A struct is stored into the variable that the call has just made. -/
theorem wpList_store_new {P : Program} {ops : Array Oper} {rest : List Oper} {op : Oper} {a : Act} {w : World} {Q : Exit → Act → World → Prop} (hgd : op.guard = none) (ty : TypeId) (x y : Operand) (ho : op.op = .store ty x y)
    (z : Array Value) (T : TypeId) (cs : List Value) (hx : a.eval x = .pointer (some ⟨w.heap.size, 0, none⟩)) (hy : a.eval y = .agg cs.toArray) (hz : z.size = cs.length) (hi : (P.info? ty).map (·.size) = some cs.length) (h1 : ∀ v ∈ cs, v.oneCell' = true)
    (h : wpList P ops Q rest (a.put op.dst undef) (w.alloc (.cells cs.toArray T))) : wpList P ops Q (op :: rest) a (w.alloc (.cells z T)) := by
  refine wpList_store_mid hgd ty x y ho w.heap.size 0 cs.toArray hx hy ?_ (by simpa using hi) (all_oneCell_toArray h1) ?_
  · intro j hj
    have hb := heap_alloc_new w (.cells z T)
    rw [cell_of_row _ _ _ z T (0, 0) hb]
    constructor
    · have : j < z.size := by simp at hj; omega
      simp [this]
    · exact frozen_of_row _ _ _ _ _ hb
  · rw [show cs.toArray.toList = cs by simp, setCells_new w z T cs hz]
    exact h

/-- A struct is stored into a whole block. -/
theorem wpList_store_into {P : Program} {ops : Array Oper} {rest : List Oper} {op : Oper} {a : Act} {w : World} {Q : Exit → Act → World → Prop} (hgd : op.guard = none) (ty : TypeId) (x y : Operand) (ho : op.op = .store ty x y)
    (g : Nat) (T : TypeId) (old : Array Value) (cs : List Value) (hx : a.eval x = .pointer (some ⟨g, 0, none⟩)) (hy : a.eval y = .agg cs.toArray) (hg : w.heap[g]? = some (.cells old T (0, 0)))
    (hz : old.size = cs.length) (hi : (P.info? ty).map (·.size) = some cs.length) (h1 : ∀ v ∈ cs, v.oneCell' = true)
    (h : ∀ w', w'.heap[g]? = some (.cells cs.toArray T (0, 0)) → Touch [g] w w' → w'.heap.size = w.heap.size → wpList P ops Q rest (a.put op.dst undef) w') : wpList P ops Q (op :: rest) a w := by
  refine wpList_store_row hgd ty x y ho g cs.toArray hx hy T old hg (by simpa using hi) (by simpa using hz) (all_oneCell_toArray h1) (h _ (setRow_heap w g old _ T _ hg) ⟨rfl, rfl, rfl, by simp, fun k hk hn => setRow_other w g k _ (by simpa using hn)⟩ (by simp))

/-- Cells are stored into the midst of a block. -/
theorem wpList_store_part {P : Program} {ops : Array Oper} {rest : List Oper} {op : Oper} {a : Act} {w : World} {Q : Exit → Act → World → Prop} (hgd : op.guard = none) (ty : TypeId) (x y : Operand) (ho : op.op = .store ty x y)
    (g o : Nat) (T : TypeId) (old : List Value) (cs : List Value) (hx : a.eval x = .pointer (some ⟨g, o, none⟩)) (hy : a.eval y = .agg cs.toArray) (hg : w.heap[g]? = some (.cells old.toArray T (0, 0)))
    (hz : o + cs.length ≤ old.length) (hi : (P.info? ty).map (·.size) = some cs.length) (h1 : ∀ v ∈ cs, v.oneCell' = true)
    (h : ∀ w', w'.heap[g]? = some (.cells (old.take o ++ cs ++ old.drop (o + cs.length)).toArray T (0, 0)) → Touch [g] w w' → w'.heap.size = w.heap.size → wpList P ops Q rest (a.put op.dst undef) w') : wpList P ops Q (op :: rest) a w := by
  refine wpList_plain hgd fun K hK => ?_
  have hr := run_storeCells_at (P := P) g o T cs 0 old.toArray w hg (by simpa using hz) h1
  simp only [Nat.add_zero] at hr
  have hv : (storeVar ty ⟨g, o, none⟩ (.agg cs.toArray)).run P w = .ok () (w.setRow g (old.take o ++ cs ++ old.drop (o + cs.length)).toArray) := by
    cases hq : P.info? ty with
    | none => simp [hq] at hi
    | some i =>
      have hs : cs.length = i.size := by simp [hq] at hi; omega
      simp [storeVar, sizeOf, typeInfo, hq, Value.cells, hs, hr]
  have := hK _ _ (h _ (setRow_heap w g _ _ T _ hg) ⟨rfl, rfl, rfl, by simp, fun k hk hn => setRow_other w g k _ (by simpa using hn)⟩ (by simp))
  unfold Oper.wp execOp
  simp only [ho, hx, hy, Instr.storeAt, Instr.sureAddr, Sem.run_bind, Sem.run_pure, Result.andThen_ok, hv]
  exact this
theorem range_block {w : World} {g : Nat} {T : TypeId} {cs : List Value} (h : w.heap[g]? = some (.cells cs.toArray T (0, 0))) : w.rangeAt g 0 cs := by
  intro j v hv
  rw [cell_of_row w g _ cs.toArray T (0, 0) h]
  simpa using hv

end Go.Proofs.YtobkanlnnniabaaGreat

/-
  Slices of elements of k cells each, told as lists of lists of cells. Plain lemmas over any program.
-/
namespace Go.Proofs.YtobkanlnnniabaaGreat
open Go.RowKit
set_option linter.unusedVariables false
set_option linter.unusedSimpArgs false

/-! ### a slice literal of structs -/
theorem set_run : ∀ (l pre suf : List Value) (off j0 : Nat), off + j0 = pre.length → l.length ≤ suf.length →
    (l.zipIdx j0).foldl (fun (cs : Array Value) (p : Value × Nat) => cs.setIfInBounds (off + p.2) p.1) (pre ++ suf).toArray = (pre ++ l ++ suf.drop l.length).toArray := by
  intro l
  induction l with
  | nil => intro pre suf off j0 h1 h2; simp
  | cons x l ih =>
    intro pre suf off j0 h1 h2
    cases suf with
    | nil => simp at h2
    | cons y suf =>
      simp only [List.zipIdx_cons, List.foldl_cons]
      have e : (pre ++ y :: suf).toArray.setIfInBounds (off + j0) x = ((pre ++ [x]) ++ suf).toArray := by
        rw [h1]
        simp
      rw [e, ih (pre ++ [x]) suf off (j0 + 1) (by simp; omega) (by simpa using h2)]
      simp

theorem fill_step (place : Nat → Option (Nat × Nat)) (cells : Array Value) (i off k : Nat) (x : List Value) (rest : List (Nat × Value)) (hp : place i = some (off, k)) (hx : x.length = k) (hfit : off + k ≤ cells.size) :
    Instr.fill place cells ((i, Value.agg x.toArray) :: rest) = Instr.fill place (x.toArray.zipIdx.foldl (fun (cs : Array Value) (p : Value × Nat) => cs.setIfInBounds (off + p.2) p.1) cells) rest := by
  simp only [Instr.fill, hp]
  split
  · rename_i h
    exfalso
    simp [Value.cells, hx] at h
    omega
  · rfl

theorem fill_rows (k : Nat) : ∀ (xs : List (List Value)) (pre suf : List Value) (i : Nat), pre.length = i * k → suf.length = xs.length * k → (∀ x ∈ xs, x.length = k) →
    Instr.fill (fun i => some (i * k, k)) (pre ++ suf).toArray ((xs.zipIdx i).map fun p => (p.2, Value.agg p.1.toArray)) = some (pre ++ xs.flatten).toArray := by
  intro xs
  induction xs with
  | nil => intro pre suf i h1 h2 h3; simp at h2; subst h2; simp [Instr.fill]
  | cons x xs ih =>
    intro pre suf i h1 h2 h3
    have hx : x.length = k := h3 x (List.mem_cons_self)
    have hs : k ≤ suf.length := by rw [h2, List.length_cons, Nat.succ_mul]; omega
    rw [List.zipIdx_cons, List.map_cons, fill_step _ _ i (i * k) k x _ rfl hx (by simp [h1]; omega)]
    have e : x.toArray.zipIdx.foldl (fun (cs : Array Value) (p : Value × Nat) => cs.setIfInBounds (i * k + p.2) p.1) (pre ++ suf).toArray = ((pre ++ x) ++ suf.drop k).toArray := by
      have := set_run x pre suf (i * k) 0 (by omega) (by omega)
      rw [hx] at this
      rw [← this]
      simp
    rw [e, ih (pre ++ x) (suf.drop k) (i + 1) (by simp [h1, hx, Nat.succ_mul]) (by rw [List.length_drop, h2, List.length_cons, Nat.succ_mul]; omega) (fun y hy => h3 y (List.mem_cons_of_mem _ hy))]
    simp

theorem wpList_buildSlice_rows {P : Program} {ops : Array Oper} {rest : List Oper} {op : Oper} {a : Act} {w : World} {Q : Exit → Act → World → Prop} (hgd : op.guard = none) (t n : Nat) (parts : Array (Nat × Operand)) (ho : op.op = .buildSlice t n parts)
    (e k : Nat) (i : TypeInfo) (z : Value) (ht : P.underlying t = some (.slice e)) (hi : P.info? e = some i) (hz : i.zero = some z) (hs : i.size = k) (hk : 0 < k)
    (xs : List (List Value)) (hn : xs.length = n) (hx : ∀ x ∈ xs, x.length = k) (hsmall : n * k ≤ 16777216)
    (hp' : (parts.toList.map fun p => (p.1, a.eval p.2)) = (xs.zipIdx).map fun p => (p.2, Value.agg p.1.toArray))
    (h : wpList P ops Q rest (a.put op.dst (.slice (some ⟨w.heap.size, 0, none⟩) n n)) (w.alloc (.cells xs.flatten.toArray e))) : wpList P ops Q (op :: rest) a w := by
  refine wpList_plain hgd fun K hK => ?_
  have hp : (parts.map fun p => (p.1, a.eval p.2)).toList = (xs.zipIdx).map fun p => (p.2, Value.agg p.1.toArray) := by rw [Array.toList_map]; exact hp'
  subst hs
  have hf : ∀ zero : Array Value, Instr.fill (fun j => some (j * i.size, i.size)) ((Array.range (n * i.size)).map (fun j => zero[j % zero.size]!)) ((xs.zipIdx).map fun p => (p.2, Value.agg p.1.toArray)) = some xs.flatten.toArray := by
    intro zero
    have := fill_rows i.size xs [] ((Array.range (n * i.size)).map (fun j => zero[j % zero.size]!)).toList 0 (by simp) (by simp [hn]) hx
    rw [List.nil_append, List.nil_append, Array.toArray_toList] at this
    exact this
  have hrun : (Instr.buildSlice t n (parts.map fun p => (p.1, a.eval p.2))).run P w = .ok (.slice (some ⟨w.heap.size, 0, none⟩) n n) (w.alloc (.cells xs.flatten.toArray e)) := by
    have hn0 : ¬ (16777216 < n * i.size) := by omega
    by_cases hz0 : n * i.size = 0
    · have hn1 : n = 0 := by
        rcases Nat.mul_eq_zero.1 hz0 with h | h
        · exact h
        · omega
      subst hn1
      obtain rfl : xs = [] := List.eq_nil_of_length_eq_zero hn
      have hp0 : (parts.map fun p => (p.1, a.eval p.2)) = #[] := by
        have : (parts.map fun p => (p.1, a.eval p.2)).toList = [] := by rw [hp]; rfl
        simpa using this
      rw [hp0]
      have hr0 : ∀ f : Nat → Value, Array.map f (Array.range 0) = #[] := fun f => by apply Array.eq_empty_of_size_eq_zero; simp
      simp [Instr.buildSlice, run_underlying ht, sizeOf, typeInfo, hi, Instr.fill, newRow, hr0]
    · simp only [Instr.buildSlice, Sem.run_bind, run_underlying ht, Result.andThen_ok]
      simp [sizeOf, typeInfo, hi, hn0, hz0, zeroValue, hz]
      have h1 := hf z.cells
      rw [Array.toList_map] at hp
      rw [hp, h1]
      simp [newRow]
  have := hK _ _ h
  unfold Oper.wp execOp
  simp only [ho, Sem.run_bind]
  rw [show (parts.map fun x => match x with | (i, x) => (i, a.eval x)) = parts.map fun p => (p.1, a.eval p.2) from rfl, hrun]
  exact this

/-- append of one struct, which the call has just laid into a block of its own. -/
theorem wpList_app_rec {P : Program} (w : World) {ops : Array Oper} {rest : List Oper} {o : Oper} {a : Act} {Q : Exit → Act → World → Prop} (hgd : o.guard = none) (s x : Operand) (t : TypeId)
    (ho : o.op = .call { callee := .builtin .append, args := #[s, x], argTypes := #[t, t] })
    (e : TypeId) (i : TypeInfo) (z : Value) (size bytes : Nat) (ht : P.underlying t = some (.slice e)) (hi : P.info? e = some i) (hz : i.zero = some z)
    (hsize : i.size = size) (hby : i.bytes = bytes) (hzs : z.cells.size = size) (hsz : 0 < size)
    (v : Value) (n : Nat) (xs : List Value) (hs : a.eval s = v) (hown : w.ownsRow 0 e size v n xs)
    (cs : List Value) (T : TypeId) (hx : a.eval x = .slice (some ⟨w.heap.size, 0, none⟩) 1 1) (hl : cs.length = size) (h1 : ∀ u ∈ cs, u.oneCell' = true) (h63 : n + 1 ≤ maxLen) (hbytes : (n + 1) * bytes ≤ 140737488355328)
    (h : ∀ v' w', w'.ownsRow 0 e size v' (n + 1) (xs ++ cs) → Touch v.ownBlock.toList w w' → (v'.ownBlock = v.ownBlock ∨ v'.ownBlock = some (w.heap.size + 1)) → wpList P ops Q rest (a.put o.dst v') w') : wpList P ops Q (o :: rest) a (w.alloc (.cells cs.toArray T)) :=
  wpList_app _ hgd s x t ho e i z size bytes ht hi hz hsize hby hzs hsz v n xs hs (hown.alloc _) _ 1 1 cs hx (by rw [hl, Nat.one_mul]) (by intro h; cases h) (by intro ad h j u hu; cases h; rw [Addr.add_lit]; exact range_new w cs T j u hu) h1 h63 hbytes
    fun v' w' h2 h3 h4 => h v' w' h2 (Touch.trans ((Touch.refl _ _).alloc _) h3 (fun x hx => .inl hx)) (by simpa using h4)

/-! ### slices of elements of k cells -/
theorem flat_get {k : Nat} {xs : List (List Value)} (hk : ∀ x ∈ xs, x.length = k) {i j : Nat} {x : List Value} {u : Value} (hx : xs[i]? = some x) (hu : x[j]? = some u) : xs.flatten[i * k + j]? = some u := by
  induction xs generalizing i with
  | nil => simp at hx
  | cons y ys ih =>
    have hy : y.length = k := hk y (List.mem_cons_self)
    rw [List.flatten_cons]
    cases i with
    | zero =>
      simp at hx
      subst hx
      have hj : j < y.length := (List.getElem?_eq_some_iff.1 hu).1
      rw [Nat.zero_mul, Nat.zero_add, List.getElem?_append_left hj]
      exact hu
    | succ i =>
      simp at hx
      have := ih (fun x hx => hk x (List.mem_cons_of_mem _ hx)) hx
      rw [List.getElem?_append_right (by rw [hy, Nat.succ_mul]; omega), hy, Nat.succ_mul]
      rw [← this]
      congr 1
      omega
theorem flat_len {k : Nat} {xs : List (List Value)} (hk : ∀ x ∈ xs, x.length = k) : xs.flatten.length = xs.length * k := by
  induction xs with
  | nil => simp
  | cons y ys ih => rw [List.flatten_cons, List.length_append, ih (fun x hx => hk x (List.mem_cons_of_mem _ hx)), hk y (List.mem_cons_self), List.length_cons, Nat.succ_mul, Nat.add_comm]
theorem flat_inv {k : Nat} (hk0 : 0 < k) {xs : List (List Value)} (hk : ∀ x ∈ xs, x.length = k) {j : Nat} {u : Value} (hu : xs.flatten[j]? = some u) : ∃ x, xs[j / k]? = some x ∧ x[j % k]? = some u := by
  have hj : j < xs.flatten.length := (List.getElem?_eq_some_iff.1 hu).1
  rw [flat_len hk] at hj
  have hq : j / k < xs.length := (Nat.div_lt_iff_lt_mul hk0).2 hj
  have hx : xs[j / k]? = some xs[j / k] := List.getElem?_eq_getElem hq
  have hl : (xs[j / k]).length = k := hk _ (List.getElem_mem hq)
  have hr : j % k < (xs[j / k]).length := by rw [hl]; exact Nat.mod_lt _ hk0
  refine ⟨_, hx, ?_⟩
  have h2 := flat_get hk hx (List.getElem?_eq_getElem hr)
  rw [Nat.div_add_mod' j k] at h2
  rw [List.getElem?_eq_getElem hr, ← h2, hu]

/-- The slice value v reads, in w, as the elements xs, of k cells each, in block b. -/
def Rd (w : World) (k b : Nat) (v : Value) (xs : List (List Value)) : Prop :=
  ∃ (a : Option Addr) (cap : Nat), v = .slice a xs.length cap ∧ xs.length ≤ cap ∧ cap ≤ maxLen ∧ (a = none → cap = 0) ∧
    (xs ≠ [] → ∃ off, a = some ⟨b, off, none⟩ ∧ ∀ i x, xs[i]? = some x → w.rangeAt b (off + i * k) x)

theorem Rd.touch {S : List Nat} {w w' : World} {k b : Nat} {v : Value} {xs : List (List Value)} (t : Touch S w w') (h : Rd w k b v xs) (hb : b ∉ S) : Rd w' k b v xs := by
  obtain ⟨a, cap, hv, h1, h2, h3, h4⟩ := h
  refine ⟨a, cap, hv, h1, h2, h3, fun hne => ?_⟩
  obtain ⟨off, ha, hr⟩ := h4 hne
  exact ⟨off, ha, fun i x hx => t.range (hr i x hx) hb⟩
theorem Rd.draws {w : World} {k b : Nat} {v : Value} {xs : List (List Value)} (h : Rd w k b v xs) (n : Nat) : Rd (w.drewN n) k b v xs := h
theorem Rd.nil (w : World) (k b : Nat) : Rd w k b (.slice none 0 0) [] := ⟨none, 0, rfl, Nat.le_refl _, by simp [maxLen], fun _ => rfl, fun h => absurd rfl h⟩
theorem Rd.form {w : World} {k b : Nat} {v : Value} {xs : List (List Value)} (h : Rd w k b v xs) : ∃ a cap, v = .slice a xs.length cap ∧ xs.length ≤ cap ∧ cap ≤ maxLen := by
  obtain ⟨a, cap, hv, h1, h2, _⟩ := h
  exact ⟨a, cap, hv, h1, h2⟩
theorem Rd.of_owns {w : World} {k g : Nat} {T : TypeId} {v : Value} {xs : List (List Value)} (hk : ∀ x ∈ xs, x.length = k) (ho : w.ownsRow 0 T k v xs.length xs.flatten) (hg : ∀ b, v.ownBlock = some b → b = g) : Rd w k g v xs := by
  obtain ⟨a, c, rfl, h1, h2, h3⟩ := owns_form ho
  refine ⟨a, c, rfl, h1, h2, fun ha => ?_, fun hne => ?_⟩
  · subst ha
    rcases ho.2 with ⟨h4, _⟩ | ⟨_, _, _, h4, _⟩
    · simp at h4; omega
    · simp at h4
  · obtain ⟨b, rfl⟩ := h3 (List.length_pos_iff.2 hne)
    obtain rfl := hg b rfl
    refine ⟨0, rfl, fun i x hx j u hu => ?_⟩
    have := owns_cell ho (i * k + j) u (flat_get hk hx hu)
    rw [Nat.zero_add]
    exact this

/-- v[i:] -/
theorem Rd.drop {P : Program} {w : World} {k b T e : Nat} {a : Option Addr} {n cap : Nat} {xs : List (List Value)} (h : Rd w k b (.slice a n cap) xs) (i : Nat) (hi : i ≤ xs.length) :
    Rd w k b (.slice (if cap = i then a else a.map (·.add (i * k))) (n - i) (cap - i)) (xs.drop i) := by
  obtain ⟨a', cap', hv, h1, h2, h3, h4⟩ := h
  simp only [Value.slice.injEq] at hv
  obtain ⟨rfl, rfl, rfl⟩ := hv
  refine ⟨_, _, by rw [List.length_drop], by rw [List.length_drop]; omega, by omega, fun hn => ?_, fun hne => ?_⟩
  · split at hn
    · rename_i hc; omega
    · cases a with
      | none => have := h3 rfl; omega
      | some x => simp at hn
  · have hlt : i < xs.length := by
      rcases Nat.lt_or_ge i xs.length with h | h
      · exact h
      · exact absurd (List.drop_eq_nil_of_le h) hne
    obtain ⟨off, rfl, hr⟩ := h4 (by intro e; subst e; simp at hlt)
    refine ⟨off + i * k, ?_, fun j x hx => ?_⟩
    · rw [if_neg (by omega)]
      simp [Addr.add_lit]
    · rw [List.getElem?_drop] at hx
      have := hr _ _ hx
      rw [Nat.add_assoc, ← Nat.add_mul]
      exact this
/-- v[:i] -/
theorem Rd.take {w : World} {k b : Nat} {a : Option Addr} {n cap : Nat} {xs : List (List Value)} (h : Rd w k b (.slice a n cap) xs) (i : Nat) (hi : i ≤ xs.length) : Rd w k b (.slice a i cap) (xs.take i) := by
  obtain ⟨a', cap', hv, h1, h2, h3, h4⟩ := h
  simp only [Value.slice.injEq] at hv
  obtain ⟨rfl, rfl, rfl⟩ := hv
  refine ⟨a, cap, by rw [List.length_take, Nat.min_eq_left hi], by rw [List.length_take]; omega, h2, h3, fun hne => ?_⟩
  obtain ⟨off, ha, hr⟩ := h4 (by intro e; subst e; simp at hne)
  refine ⟨off, ha, fun j x hx => ?_⟩
  rw [List.getElem?_take] at hx
  split at hx
  · exact hr _ _ hx
  · cases hx
/-- The cells of such a slice, one behind the other: what append copies. -/
theorem Rd.news {w : World} {k b : Nat} (hk0 : 0 < k) {a : Option Addr} {n cap : Nat} {xs : List (List Value)} (hk : ∀ x ∈ xs, x.length = k) (h : Rd w k b (.slice a n cap) xs) :
    (a = none → n = 0 ∧ cap = 0) ∧ ∀ ad, a = some ad → ∀ j u, xs.flatten[j]? = some u → w.cell? (ad.add j) = some u := by
  obtain ⟨a', cap', hv, h1, h2, h3, h4⟩ := h
  simp only [Value.slice.injEq] at hv
  obtain ⟨rfl, rfl, rfl⟩ := hv
  refine ⟨fun ha => by have := h3 ha; omega, fun ad had j u hu => ?_⟩
  have hne : xs ≠ [] := by intro e; subst e; simp at hu
  obtain ⟨off, rfl, hr⟩ := h4 hne
  simp at had
  subst had
  obtain ⟨x, hx, hxu⟩ := flat_inv hk0 hk hu
  have := hr _ _ hx _ _ hxu
  rw [Addr.add_lit, ← this]
  congr 2
  rw [Nat.add_assoc, Nat.div_add_mod']
/-- Where element i lies. -/
theorem Rd.at {w : World} {k b : Nat} {a : Option Addr} {n cap : Nat} {xs : List (List Value)} (h : Rd w k b (.slice a n cap) xs) (hne : xs ≠ []) : ∃ off, a = some ⟨b, off, none⟩ ∧ ∀ i x, xs[i]? = some x → w.rangeAt b (off + i * k) x := by
  obtain ⟨a', cap', hv, h1, h2, h3, h4⟩ := h
  simp only [Value.slice.injEq] at hv
  obtain ⟨rfl, rfl, rfl⟩ := hv
  exact h4 hne
end Go.Proofs.YtobkanlnnniabaaGreat

/-
  A struct loaded among the operations that only read of a region that draws; two structs compared. Plain lemmas over any program.
-/
namespace Go.Proofs.YtobkanlnnniabaaGreat
open Go.RowKit
set_option linter.unusedVariables false
set_option linter.unusedSimpArgs false

theorem wpStill_load_mid {P : Program} {ops : Array Oper} {rest : List Oper} {op : Oper} {a : Act} {w : World} {Q : Act → Prop} (hgd : op.guard = none) (ty : TypeId) (x : Operand) (ho : op.op = .load ty x)
    (b o : Nat) (hx : a.eval x = .pointer (some ⟨b, o, none⟩)) (cs : List Value) (d : TypeDesc) (hc : w.rangeAt b o cs)
    (hu : P.underlying ty = some d) (hd : d.isRow = true) (hi : (P.info? ty).map (·.size) = some cs.length)
    (h : wpStill P ops w Q rest (a.put op.dst (.agg cs.toArray))) : wpStill P ops w Q (op :: rest) a := by
  refine wpStill_step fun K hK => ?_
  rw [if_pos (by simp [Region.wanted, hgd])]
  unfold Oper.still execOp
  simp only [ho, hx, Instr.loadAt, Instr.sureAddr, Sem.run_bind, Sem.run_pure, Result.andThen_ok, run_loadVar_mid w b o ty cs d hc hu hd hi]
  exact (Oper.stillUpon_value _ _ _ _ _).mpr (hK _ h)

/-- x == y on two structs. -/
theorem wpList_eql_agg {P : Program} {ops : Array Oper} {rest : List Oper} {op : Oper} {a : Act} {w : World} {Q : Exit → Act → World → Prop} (hgd : op.guard = none) (t t' : TypeId) (x y : Operand) (ho : op.op = .binOp .eql t x y t')
    (xs ys : Array Value) (hx : a.eval x = .agg xs) (hy : a.eval y = .agg ys) (hm : P.eqGuardType P.depth t = false) (r : Bool) (hr : (Op.equalIn 10000 t (.agg xs) (.agg ys)).run P w = .ok r w)
    (h : wpList P ops Q rest (a.put op.dst (.bool r)) w) : wpList P ops Q (op :: rest) a w := by
  refine wpList_plain hgd fun K hK => ?_
  have hb : (binOp .eql t (.agg xs) (.agg ys)).run P w = .ok (.bool r) w := by rw [run_eql_struct, hr]; rfl
  have := hK _ _ h
  unfold Oper.wp execOp
  simp only [ho, hx, hy, Sem.run_bind, run_eqGuard_agg w _ _ _ _ _ _ hm, Result.andThen_ok, hb, Sem.run_pure]
  exact this
theorem wpList_neq_agg {P : Program} {ops : Array Oper} {rest : List Oper} {op : Oper} {a : Act} {w : World} {Q : Exit → Act → World → Prop} (hgd : op.guard = none) (t t' : TypeId) (x y : Operand) (ho : op.op = .binOp .neq t x y t')
    (xs ys : Array Value) (hx : a.eval x = .agg xs) (hy : a.eval y = .agg ys) (hm : P.eqGuardType P.depth t = false) (r : Bool) (hr : (Op.equalIn 10000 t (.agg xs) (.agg ys)).run P w = .ok r w)
    (h : wpList P ops Q rest (a.put op.dst (.bool (!r))) w) : wpList P ops Q (op :: rest) a w := by
  refine wpList_plain hgd fun K hK => ?_
  have hb : (binOp .neq t (.agg xs) (.agg ys)).run P w = .ok (.bool (!r)) w := by rw [run_neq_struct, hr]; rfl
  have := hK _ _ h
  unfold Oper.wp execOp
  simp only [ho, hx, hy, Sem.run_bind, run_eqGuard_agg w _ _ _ _ _ _ hm, Result.andThen_ok, hb, Sem.run_pure]
  exact this
theorem wpStill_neq_agg {P : Program} {ops : Array Oper} {rest : List Oper} {op : Oper} {a : Act} {w : World} {Q : Act → Prop} (hgd : op.guard = none) (t t' : TypeId) (x y : Operand) (ho : op.op = .binOp .neq t x y t')
    (xs ys : Array Value) (hx : a.eval x = .agg xs) (hy : a.eval y = .agg ys) (hm : P.eqGuardType P.depth t = false) (r : Bool) (hr : (Op.equalIn 10000 t (.agg xs) (.agg ys)).run P w = .ok r w)
    (h : wpStill P ops w Q rest (a.put op.dst (.bool (!r)))) : wpStill P ops w Q (op :: rest) a := by
  refine wpStill_step fun K hK => ?_
  rw [if_pos (by simp [Region.wanted, hgd])]
  have hb : (binOp .neq t (.agg xs) (.agg ys)).run P w = .ok (.bool (!r)) w := by rw [run_neq_struct, hr]; rfl
  unfold Oper.still execOp
  simp only [ho, hx, hy, Sem.run_bind, run_eqGuard_agg w _ _ _ _ _ _ hm, Result.andThen_ok, hb, Sem.run_pure]
  exact (Oper.stillUpon_value _ _ _ _ _).mpr (hK _ h)
end Go.Proofs.YtobkanlnnniabaaGreat

/-
  A slice cut from an index on, the value kept as one letter: in a plain region, in a region that only reads, at a step of a region that draws; and append at such a step. Plain lemmas over any program.
-/
namespace Go.Proofs.YtobkanlnnniabaaGreat
open Go.RowKit
set_option linter.unusedVariables false
set_option linter.unusedSimpArgs false

/-- s[n:], as a value. -/
def cutv (a : Option Addr) (k c n s : Nat) : Value := .slice (if c = n then a else a.map (·.add (n * s))) (k - n) (c - n)
theorem run_from {P : Program} (w : World) (t e : TypeId) (s : Nat) (ht : P.underlying t = some (.slice e)) (hs : (P.info? e).map (·.size) = some s) (a : Option Addr) (k c n : Nat) (hn : n ≤ k) :
    (Instr.sliceAt t (.slice a k c) (some (.int .i64 n)) none none).run P w = .ok (cutv a k c n s) w := by
  have he : P.elem t = e := by simp [Program.elem, ht]
  have ht' : P.underlying t = some (.slice (P.elem t)) := by rw [he]; exact ht
  rw [run_sliceAt_slice _ _ _ _ _ _ ht', run_slice_l w t a k c ht' .i64 n (by omega) (by omega), he]
  obtain ⟨i, hi, rfl⟩ : ∃ i, P.info? e = some i ∧ i.size = s := by
    cases h : P.info? e with
    | none => simp [h] at hs
    | some i => exact ⟨i, rfl, by simpa [h] using hs⟩
  rw [run_sizeOf w hi]
  simp [Program.cellsOf, hi, sliced, cutv, Result.andThen, Int.toNat_natCast]
theorem wpList_from {P : Program} {ops : Array Oper} {rest : List Oper} {op : Oper} {a : Act} {w : World} {Q : Exit → Act → World → Prop} (hgd : op.guard = none) (t : TypeId) (x lo : Operand) (ho : op.op = .slice t x (some lo) none none)
    (e : TypeId) (s : Nat) (ht : P.underlying t = some (.slice e)) (hs : (P.info? e).map (·.size) = some s) (b : Option Addr) (k c n : Nat) (hx : a.eval x = .slice b k c) (hlo : a.eval lo = .int .i64 n) (hn : n ≤ k)
    (h : wpList P ops Q rest (a.put op.dst (cutv b k c n s)) w) : wpList P ops Q (op :: rest) a w := by
  refine wpList_plain hgd fun K hK => ?_
  have := hK _ _ h
  unfold Oper.wp execOp
  simp only [ho, hx, hlo, Option.map_some, Option.map_none, Sem.run_bind, Sem.run_pure, Result.andThen_ok, run_from w t e s ht hs b k c n hn]
  exact this
theorem wpStill_from {P : Program} {ops : Array Oper} {rest : List Oper} {op : Oper} {a : Act} {w : World} {Q : Act → Prop} (hgd : op.guard = none) (t : TypeId) (x lo : Operand) (ho : op.op = .slice t x (some lo) none none)
    (e : TypeId) (s : Nat) (ht : P.underlying t = some (.slice e)) (hs : (P.info? e).map (·.size) = some s) (b : Option Addr) (k c n : Nat) (hx : a.eval x = .slice b k c) (hlo : a.eval lo = .int .i64 n) (hn : n ≤ k)
    (h : wpStill P ops w Q rest (a.put op.dst (cutv b k c n s))) : wpStill P ops w Q (op :: rest) a := by
  refine wpStill_step fun K hK => ?_
  rw [if_pos (by simp [Region.wanted, hgd])]
  unfold Oper.still execOp
  simp only [ho, hx, hlo, Option.map_some, Option.map_none, Sem.run_bind, Sem.run_pure, Result.andThen_ok, run_from w t e s ht hs b k c n hn]
  exact (Oper.stillUpon_value _ _ _ _ _).mpr (hK _ h)
theorem step_from {P : Program} {ops : Array Oper} {o : Oper} {a : Act} {w : World} {K : Act → World → Prop} {Q : Exit → Act → World → Prop} {E : Prop} (hgd : o.guard = none) (t : TypeId) (x lo : Operand) (ho : o.op = .slice t x (some lo) none none)
    (e : TypeId) (s : Nat) (ht : P.underlying t = some (.slice e)) (hs : (P.info? e).map (·.size) = some s) (b : Option Addr) (k c n : Nat) (hx : a.eval x = .slice b k c) (hlo : a.eval lo = .int .i64 n) (hn : n ≤ k)
    (h : K (a.put o.dst (cutv b k c n s)) w) : if Region.wanted o (yielded ops a.tmps) = true then Oper.wp P o a w K Q else E := by
  have hw : Region.wanted o (yielded ops a.tmps) = true := by simp [Region.wanted, hgd]
  rw [if_pos hw]
  have := h
  unfold Oper.wp execOp
  simp only [ho, hx, hlo, Option.map_some, Option.map_none, Sem.run_bind, Sem.run_pure, Result.andThen_ok, run_from w t e s ht hs b k c n hn]
  exact this
theorem step_app {P : Program} (w : World) {ops : Array Oper} {o : Oper} {a : Act} {K : Act → World → Prop} {Q : Exit → Act → World → Prop} {E : Prop} (hgd : o.guard = none) (s x : Operand) (t : TypeId)
    (ho : o.op = .call { callee := .builtin .append, args := #[s, x], argTypes := #[t, t] })
    (e : TypeId) (i : TypeInfo) (z : Value) (size bytes : Nat) (ht : P.underlying t = some (.slice e)) (hi : P.info? e = some i) (hz : i.zero = some z)
    (hsize : i.size = size) (hby : i.bytes = bytes) (hzs : z.cells.size = size) (hsz : 0 < size)
    (v : Value) (n : Nat) (xs : List Value) (hs : a.eval s = v) (hown : w.ownsRow 0 e size v n xs)
    (ao : Option Addr) (m c : Nat) (news : List Value) (hx : a.eval x = .slice ao m c) (hl : news.length = m * size) (hnone : ao = none → m = 0 ∧ c = 0) (hnews : ∀ ad, ao = some ad → ∀ j u, news[j]? = some u → w.cell? (ad.add j) = some u) (h1 : ∀ u ∈ news, u.oneCell' = true)
    (h63 : n + m ≤ maxLen) (hbytes : (n + m) * bytes ≤ 140737488355328)
    (h : ∀ v' w', w'.ownsRow 0 e size v' (n + m) (xs ++ news) → Touch v.ownBlock.toList w w' → (v'.ownBlock = v.ownBlock ∨ v'.ownBlock = some w.heap.size) → K (a.put o.dst v') w') : if Region.wanted o (yielded ops a.tmps) = true then Oper.wp P o a w K Q else E := by
  have hw : Region.wanted o (yielded ops a.tmps) = true := by simp [Region.wanted, hgd]
  rw [if_pos hw]
  obtain ⟨v', w', hr, h2, h3, h4⟩ := run_app (P := P) w t o.type e i z size bytes ht hi hz hsize hby hzs hsz v n xs hown ao m c news hl hnone hnews h1 h63 hbytes
  unfold Oper.wp execOp
  simp only [ho, resolve, invoke, builtin, Sem.run_bind, Sem.run_pure, Result.andThen_ok, List.map_toArray, List.map_cons, List.map_nil, hs, hx, hr]
  exact h v' w' h2 h3 h4
theorem wp_post {P : Program} {o : Oper} {a : Act} {w : World} {K : Act → World → Prop} {Q' Q : Exit → Act → World → Prop} (hQ : ∀ e a w, Q' e a w → e = .normal)
    (hh : o.wp P a w K Q') : o.wp P a w K Q := by
  unfold Oper.wp at *
  generalize (execOp a.eval o).run P w = r at *
  cases r with
  | ok n w' =>
    cases n <;> simp only [Oper.upon] at hh ⊢
    case value u => exact hh
    case skip => exact hh
    case defer d => exact hh
    case enter f args =>
      refine Calls.mono hh fun e w'' he => ?_
      cases e with
      | returned u => exact he
      | panicked c => have := hQ _ _ _ he; cases this
      | outgrown => obtain ⟨_, _, he⟩ := he; have := hQ _ _ _ he; cases this
    case row row args => exact hh
  | halt x w' =>
    cases x <;> simp only [Oper.upon] at hh ⊢
    case panic u => have := hQ _ _ _ hh; cases this
theorem step_of_list {P : Program} {ops : Array Oper} {o : Oper} {a : Act} {w : World} {K : Act → World → Prop} {Q : Exit → Act → World → Prop} {E : Prop} (hgd : o.guard = none)
    (h : wpList P ops (fun e a w => e = .normal ∧ K a w) [o] a w) : if Region.wanted o (yielded ops a.tmps) = true then Oper.wp P o a w K Q else E := by
  have hw : Region.wanted o (yielded ops a.tmps) = true := by simp [Region.wanted, hgd]
  rw [if_pos hw]
  unfold wpList at h
  rw [if_pos hw] at h
  rcases h with h | ⟨_, a', w', h, _⟩
  · exact Oper.wp_mono (fun a w hk => hk.2) (wp_post (fun e a w he => he.1) h)
  · cases h
end Go.Proofs.YtobkanlnnniabaaGreat

/-
  Binary heaps as lists: what sifting up and down does to them. Plain law; no program in sight.
-/
namespace Go.Proofs.YtobkanlnnniabaaGreat
set_option linter.unusedVariables false
set_option linter.unusedSimpArgs false

/-- An entry's handle and due time (its value goes along). -/
structure Key where
  id : Int
  due : Int
def le (a b : Key) : Prop := a.due < b.due ∨ (a.due = b.due ∧ a.id ≤ b.id)
def lt (a b : Key) : Prop := a.due < b.due ∨ (a.due = b.due ∧ a.id < b.id)
theorem le_refl (a : Key) : le a a := .inr ⟨rfl, Int.le_refl _⟩
theorem le_trans {a b c : Key} (h : le a b) (k : le b c) : le a c := by unfold le at *; omega
theorem le_total (a b : Key) : le a b ∨ lt b a := by unfold le lt; omega
theorem lt_le {a b : Key} (h : lt a b) : le a b := by unfold le lt at *; omega
theorem not_lt {a b : Key} : ¬ lt a b ↔ le b a := by unfold le lt; omega

section
variable {α : Type} (key : α → Key)
def par (b : Nat) : Nat := (b - 1) / 2
/-- The edge from b to its parent. -/
def Edge (C : List α) (b : Nat) : Prop := ∀ x y, C[par b]? = some x → C[b]? = some y → le (key x) (key y)
def Heap (C : List α) : Prop := ∀ b, 1 ≤ b → Edge key C b
/-- Past i: what lies above i is at most what lies below it. -/
def Gp (C : List α) (i : Nat) : Prop := 1 ≤ i → ∀ b, 1 ≤ b → par b = i → ∀ x y, C[par i]? = some x → C[b]? = some y → le (key x) (key y)
/-- All edges that do not meet i. -/
structure Up (C : List α) (i : Nat) : Prop where
  rest : ∀ b, 1 ≤ b → b ≠ i → par b ≠ i → Edge key C b
  gp : Gp key C i
/-- All edges but those down from i. -/
structure Down (C : List α) (i : Nat) : Prop where
  rest : ∀ b, 1 ≤ b → par b ≠ i → Edge key C b
  gp : Gp key C i
variable {key}
variable {C : List α} {i : Nat}
/-- What a heap is once its entry at i has been changed. -/
theorem Heap.up {x : α} (h : Heap key C) : Up key (C.set i x) i := by
  refine ⟨?_, ?_⟩
  · intro b hb h1 h2 u v hu hv
    rw [List.getElem?_set_ne (Ne.symm h2)] at hu
    rw [List.getElem?_set_ne (Ne.symm h1)] at hv
    exact h b hb u v hu hv
  · intro hi b hb hp u v hu hv
    have h1 : par i ≠ i := by unfold par; omega
    have h2 : b ≠ i := by unfold par at hp; omega
    rw [List.getElem?_set_ne (Ne.symm h1)] at hu
    rw [List.getElem?_set_ne (Ne.symm h2)] at hv
    have hil : i < C.length := by
      have := (List.getElem?_eq_some_iff.1 hv).1
      unfold par at hp
      omega
    have hm := List.getElem?_eq_getElem hil
    exact le_trans (h i hi u _ hu hm) (h b hb _ v (by rw [hp]; exact hm) hv)
theorem Heap.snoc {x : α} (h : Heap key C) : Up key (C ++ [x]) C.length := by
  refine ⟨?_, ?_⟩
  · intro b hb h1 h2 u v hu hv
    have hbl : b < C.length := by
      have := (List.getElem?_eq_some_iff.1 hv).1
      simp at this
      omega
    have hpl : par b < C.length := by unfold par; omega
    rw [List.getElem?_append_left hpl] at hu
    rw [List.getElem?_append_left hbl] at hv
    exact h b hb u v hu hv
  · intro hi b hb hp u v hu hv
    have := (List.getElem?_eq_some_iff.1 hv).1
    simp at this
    unfold par at hp
    omega
theorem Heap.take (h : Heap key C) (n : Nat) : Heap key (C.take n) := by
  intro b hb u v hu hv
  rw [List.getElem?_take] at hu hv
  split at hu
  · split at hv
    · exact h b hb u v hu hv
    · cases hv
  · cases hu
/-- The entry at i stays: sifting up is at its end. -/
theorem Up.stop (h : Up key C i) (he : i = 0 ∨ Edge key C i) : Down key C i := by
  refine ⟨?_, h.gp⟩
  intro b hb hp
  by_cases hbi : b = i
  · subst hbi
    rcases he with he | he
    · omega
    · exact he
  · exact h.rest b hb hbi hp
/-- x at the place i is less than its parent y: they change places. -/
theorem Up.step {x y : α} (h : Up key C i) (hi : 1 ≤ i) (hx : C[i]? = some x) (hy : C[par i]? = some y) (hlt : lt (key x) (key y)) : Up key ((C.set i y).set (par i) x) (par i) := by
  have hpi : par i < i := by unfold par; omega
  have hil := (List.getElem?_eq_some_iff.1 hx).1
  have at_i : ((C.set i y).set (par i) x)[i]? = some y := by
    rw [List.getElem?_set_ne (by omega), List.getElem?_set_self hil]
  have other : ∀ b, b ≠ i → b ≠ par i → ((C.set i y).set (par i) x)[b]? = C[b]? := by
    intro b h1 h2
    rw [List.getElem?_set_ne (Ne.symm h2), List.getElem?_set_ne (Ne.symm h1)]
  refine ⟨?_, ?_⟩
  · intro b hb h1 h2 u v hu hv
    by_cases hbi : b = i
    · exact absurd (by rw [hbi]) h2
    rw [other b hbi h1] at hv
    by_cases hp : par b = i
    · rw [hp, at_i] at hu
      cases hu
      exact h.gp hi b hb hp y v hy hv
    · rw [other _ hp h2] at hu
      exact h.rest b hb hbi hp u v hu hv
  · intro hp1 b hb hp u v hu hv
    have hpp : par (par i) < par i := by unfold par at *; omega
    rw [other _ (by omega) (by omega)] at hu
    have e1 : le (key u) (key y) := h.rest (par i) hp1 (by omega) (by omega) u y hu hy
    by_cases hbi : b = i
    · rw [hbi, at_i] at hv
      cases hv
      exact e1
    · have hbp : b ≠ par i := by
        intro e
        rw [e] at hp
        omega
      rw [other b hbi hbp] at hv
      exact le_trans e1 (h.rest b hb hbi (by omega) y v (by rw [hp]; exact hy) hv)
/-- The edges down from i. -/
def Kids (key : α → Key) (C : List α) (i : Nat) : Prop := ∀ b, 1 ≤ b → par b = i → Edge key C b
/-- x at the place i is less than its parent y: they change places, and x is at most its children. -/
theorem Up.kids {x y : α} (h : Up key C i) (hi : 1 ≤ i) (hx : C[i]? = some x) (hy : C[par i]? = some y) (hlt : lt (key x) (key y)) : Kids key ((C.set i y).set (par i) x) (par i) := by
  have hpi : par i < i := by unfold par; omega
  have hil := (List.getElem?_eq_some_iff.1 hx).1
  have hpl := (List.getElem?_eq_some_iff.1 hy).1
  have at_i : ((C.set i y).set (par i) x)[i]? = some y := by
    rw [List.getElem?_set_ne (by omega), List.getElem?_set_self hil]
  have at_p : ((C.set i y).set (par i) x)[par i]? = some x := by
    rw [List.getElem?_set_self (by simpa using hpl)]
  intro b hb hp u v hu hv
  rw [hp, at_p] at hu
  cases hu
  have hbp : par b < b := by unfold par; omega
  by_cases hbi : b = i
  · subst hbi
    rw [at_i] at hv
    cases hv
    exact lt_le hlt
  · rw [List.getElem?_set_ne (by omega), List.getElem?_set_ne (Ne.symm hbi)] at hv
    exact le_trans (lt_le hlt) (h.rest b hb hbi (by omega) y v (by rw [hp]; exact hy) hv)
/-- i has no child, or none less than itself: a heap. -/
theorem Down.stop (h : Down key C i) (hc : ∀ b, 1 ≤ b → par b = i → Edge key C b) : Heap key C := by
  intro b hb
  by_cases hp : par b = i
  · exact hc b hb hp
  · exact h.rest b hb hp
/-- The least child y of i is less than x: they change places. -/
theorem Down.step {c : Nat} {x y : α} (h : Down key C i) (hc1 : 1 ≤ c) (hc : par c = i) (hx : C[i]? = some x) (hy : C[c]? = some y) (hlt : lt (key y) (key x)) (hmin : ∀ b z, 1 ≤ b → par b = i → C[b]? = some z → le (key y) (key z)) :
    Down key ((C.set i y).set c x) c := by
  have hic : i < c := by unfold par at hc; omega
  have hil := (List.getElem?_eq_some_iff.1 hx).1
  have hcl := (List.getElem?_eq_some_iff.1 hy).1
  have at_i : ((C.set i y).set c x)[i]? = some y := by
    rw [List.getElem?_set_ne (by omega), List.getElem?_set_self hil]
  have at_c : ((C.set i y).set c x)[c]? = some x := by
    rw [List.getElem?_set_self (by simpa using hcl)]
  have other : ∀ b, b ≠ i → b ≠ c → ((C.set i y).set c x)[b]? = C[b]? := by
    intro b h1 h2
    rw [List.getElem?_set_ne (Ne.symm h2), List.getElem?_set_ne (Ne.symm h1)]
  refine ⟨?_, ?_⟩
  · intro b hb hp u v hu hv
    by_cases hbc : b = c
    · subst hbc
      rw [hc, at_i] at hu
      rw [at_c] at hv
      cases hu
      cases hv
      exact lt_le hlt
    by_cases hbi : b = i
    · subst hbi
      have hpb : par b < b := by unfold par; omega
      rw [at_i] at hv
      cases hv
      rw [other _ (by omega) hp] at hu
      exact h.gp hb c hc1 hc u y hu hy
    rw [other b hbi hbc] at hv
    by_cases hpi : par b = i
    · rw [hpi, at_i] at hu
      cases hu
      exact hmin b v hb hpi hv
    · rw [other _ hpi hp] at hu
      exact h.rest b hb hpi u v hu hv
  · intro _ b hb hp u v hu hv
    rw [hc, at_i] at hu
    cases hu
    have hbi : b ≠ i := by unfold par at hp; omega
    have hbc : b ≠ c := by unfold par at hp; omega
    rw [other b hbi hbc] at hv
    exact h.rest b hb (by omega) y v (by rw [hp]; exact hy) hv
/-- Two entries change places: a permutation. -/
theorem swap_perm {c : Nat} {x y : α} (hne : i ≠ c) (hx : C[i]? = some x) (hy : C[c]? = some y) : ((C.set i y).set c x).Perm C := by
  obtain ⟨h1, e1⟩ := List.getElem?_eq_some_iff.1 hx
  obtain ⟨h2, e2⟩ := List.getElem?_eq_some_iff.1 hy
  have : ((C.set i C[c]).set c C[i]).Perm C := List.set_set_perm h1 h2
  rwa [e1, e2] at this
/-- The first entry of a heap is the least. -/
theorem Heap.least {x : α} (h : Heap key C) (h0 : C[0]? = some x) : ∀ (b : Nat) (y : α), C[b]? = some y → le (key x) (key y) := by
  intro b
  induction b using Nat.strongRecOn with
  | _ b ih =>
    intro y hb
    rcases Nat.eq_zero_or_pos b with rfl | hpos
    · rw [h0] at hb
      cases hb
      exact le_refl _
    · have hpb : par b < b := by unfold par; omega
      have hlt := (List.getElem?_eq_some_iff.1 hb).1
      have hm := List.getElem?_eq_getElem (l := C) (i := par b) (by omega)
      exact le_trans (ih (par b) hpb _ hm) (h b hpos _ _ hm hb)
end
end Go.Proofs.YtobkanlnnniabaaGreat

/-
  The heap's key type, and its entries as plain data.
-/
namespace Go.Proofs.YtobkanlnnniabaaGreat
open Go.RowKit
set_option linter.unusedVariables false
set_option linter.unusedSimpArgs false

theorem laidOut : laidOutB Tryz.prog = true := by kernel_rfl
def encK (i : Int) : Value := .int .i64 i
def okK (i : Int) : Prop := (Lit.int .i64 i).wf = true
theorem key3 : KE Tryz.prog 3 encK okK where
  K := Go.Maps.int_keyed Tryz.underlying3
  lit := by
    intro c h1
    exact ⟨_, Go.Maps.keyOf_int_mk Tryz.underlying3 h1⟩
  inj := by
    intro a b h
    simpa [encK] using h
/-- An entry: its handle, its due time, its value (one cell). -/
structure Itm where
  id : Int
  due : Int
  x : Value
def Itm.key (it : Itm) : Key := ⟨it.id, it.due⟩
def encI (it : Itm) : List Value := [.int .i64 it.id, .int .u64 it.due, it.x]
theorem encI_len (its : List Itm) : ∀ x ∈ its.map encI, x.length = 3 := by
  intro x hx
  obtain ⟨_, _, rfl⟩ := List.mem_map.1 hx
  rfl
/-- The index tells each place but that of i. -/
def IxB (kv : List (Int × Value)) (C : List Itm) (i : Nat) : Prop := ∀ j y, j ≠ i → C[j]? = some y → look kv y.id = some (.int .i64 j)
/-- The index tells each place, and no other handle. -/
structure Ix (kv : List (Int × Value)) (C : List Itm) : Prop where
  at_ : ∀ (j : Nat) y, C[j]? = some y → look kv y.id = some (.int .i64 j)
  no : ∀ id, (∀ y ∈ C, y.id ≠ id) → look kv id = none
theorem look_put_same (kv : List (Int × Value)) (a : Int) (v : Value) : look (put kv a v) a = some v := by
  unfold put
  split
  · rename_i h
    unfold look at h ⊢
    rw [List.find?_map]
    have : (fun p : Int × Value => decide (p.1 = a)) ∘ (fun p : Int × Value => if p.1 = a then (a, v) else p) = fun p => decide (p.1 = a) := by
      funext p
      simp only [Function.comp]
      split <;> simp_all
    rw [this]
    cases hf : kv.find? fun p => decide (p.1 = a) with
    | none => simp [hf] at h
    | some p =>
      have := List.find?_some hf
      simp at this
      simp [this]
  · rename_i h
    unfold look at h ⊢
    rw [List.find?_append]
    cases hf : kv.find? fun p => decide (p.1 = a) with
    | none => simp
    | some p => simp [hf] at h
theorem look_put_other (kv : List (Int × Value)) (a b : Int) (v : Value) (h : b ≠ a) : look (put kv a v) b = look kv b := by
  unfold put
  split
  · unfold look
    rw [List.find?_map]
    have : (fun p : Int × Value => decide (p.1 = b)) ∘ (fun p : Int × Value => if p.1 = a then (a, v) else p) = fun p => decide (p.1 = b) := by
      funext p
      simp only [Function.comp]
      split
      · rename_i e
        rw [e]
      · rfl
    rw [this, Option.map_map]
    cases hf : kv.find? fun p => decide (p.1 = b) with
    | none => rfl
    | some p =>
      have := List.find?_some hf
      simp at this
      have : p.1 ≠ a := by omega
      simp [this]
  · unfold look
    rw [List.find?_append]
    have : (List.find? (fun p : Int × Value => decide (p.1 = b)) [(a, v)]) = none := by
      simp
      omega
    rw [this]
    simp
end Go.Proofs.YtobkanlnnniabaaGreat

/-
  Sifting with a hole: what the array, the index and the entry in the hand are together. Plain law.
-/
namespace Go.Proofs.YtobkanlnnniabaaGreat
set_option linter.unusedVariables false
set_option linter.unusedSimpArgs false

theorem ids_ne {C : List Itm} (h : (C.map Itm.id).Nodup) {j k : Nat} {a b : Itm} (hj : C[j]? = some a) (hk : C[k]? = some b) (hne : j ≠ k) : a.id ≠ b.id := by
  intro e
  have e1 : (C.map Itm.id)[j]? = some a.id := by simp [hj]
  have e2 : (C.map Itm.id)[k]? = some a.id := by simp [hk, e]
  obtain ⟨q1, r1⟩ := List.getElem?_eq_some_iff.1 e1
  obtain ⟨q2, r2⟩ := List.getElem?_eq_some_iff.1 e2
  exact hne (nodup_inj h (r1.trans r2.symm))
/-- The array A, with x put at the place i, is the list C: a permutation of 'its'; the index is right but at i. -/
structure Hole (its A C : List Itm) (kv0 kv : List (Int × Value)) (i : Nat) (x : Itm) : Prop where
  c : C = A.set i x
  il : i < A.length
  perm : C.Perm its
  ix : IxB kv C i
  oth : ∀ id, (∀ y ∈ its, y.id ≠ id) → look kv id = look kv0 id
variable {its A C : List Itm} {kv0 kv : List (Int × Value)} {i : Nat} {x : Itm}
theorem Hole.nodup (h : Hole its A C kv0 kv i x) (hn : (its.map Itm.id).Nodup) : (C.map Itm.id).Nodup := (h.perm.map Itm.id).nodup_iff.2 hn
theorem Hole.at_i (h : Hole its A C kv0 kv i x) : C[i]? = some x := by rw [h.c, List.getElem?_set_self h.il]
theorem Hole.other (h : Hole its A C kv0 kv i x) {j : Nat} (hj : j ≠ i) : C[j]? = A[j]? := by rw [h.c, List.getElem?_set_ne (Ne.symm hj)]
theorem Hole.len (h : Hole its A C kv0 kv i x) : A.length = its.length := by
  have := h.perm.length_eq
  rw [h.c, List.length_set] at this
  exact this
/-- The entry y at the place p is laid at i; the hole is now at p. -/
theorem Hole.move (h : Hole its A C kv0 kv i x) (hn : (its.map Itm.id).Nodup) {p : Nat} {y : Itm} (hp : p ≠ i) (hy : A[p]? = some y) : Hole its (A.set i y) ((C.set i y).set p x) kv0 (put kv y.id (.int .i64 i)) p x := by
  have hy' : C[p]? = some y := by rw [h.other hp]; exact hy
  have hpl := (List.getElem?_eq_some_iff.1 hy).1
  have hil := (List.getElem?_eq_some_iff.1 h.at_i).1
  have hpC := (List.getElem?_eq_some_iff.1 hy').1
  refine ⟨?_, by rw [List.length_set]; exact hpl, (swap_perm (Ne.symm hp) h.at_i hy').trans h.perm, ?_, ?_⟩
  · rw [h.c, List.set_set]
  · intro j z hj hz
    rw [List.getElem?_set_ne (Ne.symm hj)] at hz
    by_cases hji : j = i
    · subst hji
      rw [List.getElem?_set_self hil] at hz
      cases hz
      exact look_put_same _ _ _
    · rw [List.getElem?_set_ne (Ne.symm hji)] at hz
      rw [look_put_other _ _ _ _ (ids_ne (h.nodup hn) hz hy' hj)]
      exact h.ix j z hji hz
  · intro id hid
    have hm : y ∈ its := h.perm.mem_iff.1 (List.mem_of_getElem? hy')
    rw [look_put_other _ _ _ _ (Ne.symm (hid y hm))]
    exact h.oth id hid
/-- x is laid at i: the index is right. -/
theorem Hole.fin (h : Hole its A C kv0 kv i x) (hn : (its.map Itm.id).Nodup) :
    (∀ (j : Nat) y, C[j]? = some y → look (put kv x.id (.int .i64 i)) y.id = some (.int .i64 j)) ∧ ∀ id, (∀ y ∈ its, y.id ≠ id) → look (put kv x.id (.int .i64 i)) id = look kv0 id := by
  refine ⟨fun j y hy => ?_, fun id hid => ?_⟩
  · by_cases hji : j = i
    · subst hji
      rw [h.at_i] at hy
      cases hy
      exact look_put_same _ _ _
    · rw [look_put_other _ _ _ _ (ids_ne (h.nodup hn) hy h.at_i hji)]
      exact h.ix j y hji hy
  · have hm : x ∈ its := h.perm.mem_iff.1 (List.mem_of_getElem? h.at_i)
    rw [look_put_other _ _ _ _ (Ne.symm (hid x hm))]
    exact h.oth id hid
theorem Hole.start {its : List Itm} {kv : List (Int × Value)} {i : Nat} {x : Itm} (hx : its[i]? = some x) (hix : IxB kv its i) : Hole its its its kv kv i x := by
  obtain ⟨h1, h2⟩ := List.getElem?_eq_some_iff.1 hx
  refine ⟨?_, h1, List.Perm.refl _, hix, fun _ _ => rfl⟩
  subst h2
  exact (List.set_getElem_self h1).symm
end Go.Proofs.YtobkanlnnniabaaGreat

/-
  A struct is stored into an element of an owned row. Plain lemma over any program.
-/
namespace Go.Proofs.YtobkanlnnniabaaGreat
open Go.RowKit
set_option linter.unusedVariables false
set_option linter.unusedSimpArgs false
theorem wpList_store_own {P : Program} {ops : Array Oper} {rest : List Oper} {op : Oper} {a : Act} {w : World} {Q : Exit → Act → World → Prop} (hgd : op.guard = none) (ty : TypeId) (x y : Operand) (ho : op.op = .store ty x y)
    (g o n c e k : Nat) (xs cs : List Value) (row : w.ownsRow 0 e k (.slice (some ⟨g, 0, none⟩) n c) n xs) (hx : a.eval x = .pointer (some ⟨g, o, none⟩)) (hy : a.eval y = .agg cs.toArray)
    (hz : o + cs.length ≤ xs.length) (hi : (P.info? ty).map (·.size) = some cs.length) (h1 : ∀ v ∈ cs, v.oneCell' = true)
    (h : ∀ w', w'.ownsRow 0 e k (.slice (some ⟨g, 0, none⟩) n c) n (xs.take o ++ cs ++ xs.drop (o + cs.length)) → Touch [g] w w' → w'.heap.size = w.heap.size → wpList P ops Q rest (a.put op.dst undef) w') : wpList P ops Q (op :: rest) a w := by
  obtain ⟨r1, r2⟩ := row
  rcases r2 with ⟨h2, _⟩ | ⟨g', cap, cur, hv, hb, hh, hn, hm, hs, ht⟩
  · simp at h2
  · simp at hv
    obtain ⟨rfl, rfl⟩ := hv
    have hxl : xs.length ≤ cur.toList.length := by rw [← ht]; exact List.length_take_le' _ _
    refine wpList_store_part hgd ty x y ho g o e cur.toList cs hx hy (by simpa using hh) (by omega) hi h1 (fun w' hw' t z => h w' ⟨?_, .inr ⟨g, c, _, rfl, hb, hw', hn, hm, ?_, ?_⟩⟩ t z)
    · simp only [List.length_append, List.length_take, List.length_drop]
      omega
    · have : cur.toList.length = cur.size := by simp
      simp only [List.size_toArray, List.length_append, List.length_take, List.length_drop]
      omega
    · have hlen : (cur.toList.take o ++ cs).length = o + cs.length := by
        simp only [List.length_append, List.length_take]
        omega
      have e1 : xs.take o = cur.toList.take o := by
        rw [← ht, List.take_take]
        congr 1
        omega
      have e2 : xs.drop (o + cs.length) = (cur.toList.drop (o + cs.length)).take (n * k - (o + cs.length)) := by
        rw [← ht, List.drop_take]
      rw [e1, e2]
      show List.take (n * k) (cur.toList.take o ++ cs ++ cur.toList.drop (o + cs.length)) = _
      rw [List.take_append, hlen, List.take_of_length_le (by rw [hlen]; omega)]
end Go.Proofs.YtobkanlnnniabaaGreat

/-
  A slice cut from an index on, taken first in a region that draws. Plain lemmas over any program.
-/
namespace Go.Proofs.YtobkanlnnniabaaGreat
open Go.RowKit
set_option linter.unusedVariables false
set_option linter.unusedSimpArgs false
theorem yieldsIf_from {P : Program} {ops : Array Oper} {S : World → Prop} {op : Oper} {a : Act} (hw : Region.wanted op (yielded ops a.tmps) = true) (t : TypeId) (x lo : Operand) (ho : op.op = .slice t x (some lo) none none)
    (e : TypeId) (s : Nat) (ht : P.underlying t = some (.slice e)) (hs : (P.info? e).map (·.size) = some s) (b : Option Addr) (k c n : Nat) (hx : a.eval x = .slice b k c) (hlo : a.eval lo = .int .i64 n) (hn : n ≤ k) : YieldsIf P ops S op (cutv b k c n s) a :=
  .inl ⟨hw, fun w _ => by
    unfold execOp
    simp only [ho, hx, hlo, Option.map_some, Option.map_none, Sem.run_bind, Sem.run_pure, Result.andThen_ok, run_from w t e s ht hs b k c n hn]⟩
end Go.Proofs.YtobkanlnnniabaaGreat

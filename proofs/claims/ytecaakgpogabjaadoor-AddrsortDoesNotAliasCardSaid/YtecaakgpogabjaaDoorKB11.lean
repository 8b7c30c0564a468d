/-
  Merged texts: Mp, Mk, Dd.
-/
import Derived.Test.YtecaakgpogabjaaDoorKB10
import Derived.Maps.Keyed
import Derived.Maps.RangeRun
import Derived.DeepKeys4

/-
  Maps told as lists of pairs (a key of a Lean type, the element's value), in the map's own order. Plain lemmas over any program: make, look up, store, mapEntry and entryStore, delete, len, range and next.
-/
namespace Go.Proofs.YtecaakgpogabjaaDoor
open Go.RowKit
open Go.Maps (Keyed)
open Go.MapKept (Stamped)
open Go.ChangeMaps (setBlock heap_setBlock_same heap_setBlock_other)
set_option linter.unusedVariables false
set_option linter.unusedSimpArgs false
set_option linter.unusedSectionVars false

theorem nodup_inj {β : Type} {l : List β} (h : l.Nodup) {i j : Nat} {hi : i < l.length} {hj : j < l.length} (e : l[i] = l[j]) : i = j := by
  rcases Nat.lt_trichotomy i j with h1 | h1 | h1
  · exact absurd e (List.pairwise_iff_getElem.1 h i j hi hj h1)
  · exact h1
  · exact absurd e.symm (List.pairwise_iff_getElem.1 h j i hj hi h1)

/-- A key type: Lean's keys, how they lie, which of them the model reads. -/
structure KE {α : Type} (P : Program) (k : TypeId) (enc : α → Value) (ok : α → Prop) : Prop where
  K : Keyed P k
  lit : ∀ a, ok a → ∃ l, keyOf P k (enc a) = some l
  inj : ∀ a b, enc a = enc b → a = b

structure MpE {α : Type} (enc : α → Value) (ok : α → Prop) (w : World) (b : Nat) (es : Array MapEntry) (clock : Nat) (kv : List (α × Value)) : Prop where
  blk : w.heap[b]? = some (.map es clock)
  st : Stamped es clock
  eq : es.toList.map (fun e => (e.key, e.val)) = kv.map (fun p => (enc p.1, p.2))
  oks : ∀ p ∈ kv, ok p.1

def Mp {α : Type} (enc : α → Value) (ok : α → Prop) (w : World) (b : Nat) (kv : List (α × Value)) : Prop := ∃ es clock, MpE enc ok w b es clock kv

section
variable {α : Type} [DecidableEq α] {P : Program} {k : TypeId} {enc : α → Value} {ok : α → Prop} {w : World} {b : Nat} {es : Array MapEntry} {clock : Nat} {kv : List (α × Value)}

def look (kv : List (α × Value)) (a : α) : Option Value := (kv.find? fun p => decide (p.1 = a)).map Prod.snd
def put (kv : List (α × Value)) (a : α) (v : Value) : List (α × Value) := if (look kv a).isSome then kv.map (fun p => if p.1 = a then (a, v) else p) else kv ++ [(a, v)]
def del (kv : List (α × Value)) (a : α) : List (α × Value) := kv.filter fun p => !decide (p.1 = a)

theorem look_none {a : α} : look kv a = none ↔ ∀ p ∈ kv, p.1 ≠ a := by
  unfold look
  rw [Option.map_eq_none_iff, List.find?_eq_none]
  simp
theorem look_some {a : α} {v : Value} (hn : (kv.map Prod.fst).Nodup) : look kv a = some v ↔ (a, v) ∈ kv := by
  induction kv with
  | nil => simp [look]
  | cons p r ih =>
    simp only [List.map_cons, List.nodup_cons] at hn
    have ih' := ih hn.2
    unfold look at ih' ⊢
    rw [List.find?_cons]
    by_cases h : p.1 = a
    · simp only [h, decide_true, Option.map_some, Option.some.injEq, List.mem_cons]
      subst h
      constructor
      · intro e; left; rw [← e]
      · rintro (e | e)
        · rw [← e]
        · exact absurd (List.mem_map.2 ⟨_, e, rfl⟩) hn.1
    · simp only [h, decide_false, List.mem_cons]
      rw [ih']
      constructor
      · exact .inr
      · rintro (e | e)
        · rw [← e] at h; exact absurd rfl h
        · exact e

theorem MpE.get (h : MpE enc ok w b es clock kv) {j : Nat} {e : MapEntry} (he : es[j]? = some e) : ∃ p, kv[j]? = some p ∧ e.key = enc p.1 ∧ e.val = p.2 := by
  have := congrArg (fun l => l[j]?) h.eq
  simp only [List.getElem?_map, Array.getElem?_toList, he, Option.map_some] at this
  cases hp : kv[j]? with
  | none => simp [hp] at this
  | some p =>
    simp only [hp, Option.map_some, Option.some.injEq, Prod.mk.injEq] at this
    exact ⟨p, rfl, this.1, this.2⟩
theorem MpE.put (h : MpE enc ok w b es clock kv) {j : Nat} {p : α × Value} (hp : kv[j]? = some p) : ∃ e, es[j]? = some e ∧ e.key = enc p.1 ∧ e.val = p.2 := by
  have := congrArg (fun l => l[j]?) h.eq
  simp only [List.getElem?_map, Array.getElem?_toList, hp, Option.map_some] at this
  cases he : es[j]? with
  | none => simp [he] at this
  | some e =>
    simp only [he, Option.map_some, Option.some.injEq, Prod.mk.injEq] at this
    exact ⟨e, rfl, this.1, this.2⟩
theorem MpE.size (h : MpE enc ok w b es clock kv) : es.size = kv.length := by
  have := congrArg List.length h.eq
  simpa using this
theorem MpE.keys (h : MpE enc ok w b es clock kv) : es.toList.map (·.key) = kv.map (fun p => enc p.1) := by
  have := congrArg (List.map Prod.fst) h.eq
  simpa [List.map_map, Function.comp_def] using this
theorem MpE.nodup (h : MpE enc ok w b es clock kv) : (kv.map Prod.fst).Nodup := by
  have h1 := h.st.2.2
  rw [h.keys] at h1
  have : (kv.map fun p => enc p.1) = (kv.map Prod.fst).map enc := by simp [List.map_map, Function.comp_def]
  rw [this] at h1
  exact (List.pairwise_map.1 h1).imp fun {a b} hab e => hab (by rw [e])
theorem Mp.nodup (h : Mp enc ok w b kv) : (kv.map Prod.fst).Nodup := by obtain ⟨_, _, h⟩ := h; exact h.nodup
theorem MpE.find (E : KE P k enc ok) (h : MpE enc ok w b es clock kv) {a : α} (ha : ok a) (w' : World) :
    ((Instr.findKey k (enc a) es.toList).run P w' = .ok none w' ∧ look kv a = none) ∨
    ∃ j e, (Instr.findKey k (enc a) es.toList).run P w' = .ok (some (j, e.val)) w' ∧ es[j]? = some e ∧ e.key = enc a ∧ kv[j]? = some (a, e.val) ∧ look kv a = some e.val := by
  obtain ⟨l, hl⟩ := E.lit a ha
  have hk : ∀ e ∈ es.toList, ∃ l, keyOf P k e.key = some l := by
    intro e he
    obtain ⟨j, hj⟩ := List.getElem?_of_mem he
    obtain ⟨p, hp, h1, _⟩ := h.get (by simpa using hj)
    rw [h1]
    exact E.lit _ (h.oks _ (List.mem_of_getElem? hp))
  rcases E.K.find w' hl es.toList hk with ⟨h1, h2⟩ | ⟨j, e, h1, h2, h3⟩
  · refine .inl ⟨h1, look_none.2 fun p hp e => ?_⟩
    obtain ⟨j, hj⟩ := List.getElem?_of_mem hp
    obtain ⟨e', he', h4, _⟩ := h.put hj
    rw [e] at h4
    exact h2 e' (List.mem_of_getElem? (by simpa using he')) h4
  · obtain ⟨p, hp, h4, h5⟩ := h.get (by simpa using h2)
    have : p.1 = a := E.inj _ _ (by rw [← h4, h3])
    have hpe : p = (a, e.val) := by rw [h5, ← this]
    subst hpe
    exact .inr ⟨j, e, h1, by simpa using h2, h3, hp, (look_some h.nodup).2 (List.mem_of_getElem? hp)⟩

theorem Touch.setBlock (w : World) (b : Nat) (o : Obj) : Touch [b] w (setBlock w b o) :=
  ⟨rfl, rfl, rfl, by simp [Go.ChangeMaps.setBlock], fun k hk hn => by
    simp only [List.mem_singleton] at hn
    simp [Go.ChangeMaps.setBlock, Array.getElem?_setIfInBounds, Ne.symm hn]⟩
theorem setBlock_size (w : World) (b : Nat) (o : Obj) : (setBlock w b o).heap.size = w.heap.size := by simp [setBlock]

theorem MpE.touch {S : List Nat} {w' : World} (h : MpE enc ok w b es clock kv) (t : Touch S w w') (hb : b ∉ S) : MpE enc ok w' b es clock kv := ⟨t.at h.blk hb, h.st, h.eq, h.oks⟩
theorem Mp.touch {S : List Nat} {w' : World} (h : Mp enc ok w b kv) (t : Touch S w w') (hb : b ∉ S) : Mp enc ok w' b kv := by
  obtain ⟨es, clock, h⟩ := h
  exact ⟨es, clock, h.touch t hb⟩
theorem Mp.lt (h : Mp enc ok w b kv) : b < w.heap.size := by
  obtain ⟨es, clock, h⟩ := h
  exact (Array.getElem?_eq_some_iff.1 h.blk).1
theorem Mp.made (w : World) : Mp enc ok (w.alloc (.map #[] 0)) w.heap.size [] := ⟨#[], 0, heap_alloc_new w _, Go.MapKept.stamped_empty 0, by simp, by simp⟩

theorem Mp.lookup (E : KE P k enc ok) {t e : TypeId} (ht : P.underlying t = some (.map k e)) {z : Value} (hz : (zeroValue e).run P w = .ok z w) (h : Mp enc ok w b kv) {a : α} (ha : ok a) (c : Bool) :
    (Instr.lookup t (.map (some b)) (enc a) c).run P w = .ok (if c then .tuple #[(look kv a).getD z, .bool (look kv a).isSome] else (look kv a).getD z) w := by
  obtain ⟨es, clock, h⟩ := h
  obtain ⟨l, hl⟩ := E.lit a ha
  rcases h.find E ha w with ⟨h1, h2⟩ | ⟨j, e0, h1, _, _, _, h2⟩
  · simp [Instr.lookup, run_underlying ht, MapKept.run_getObj_map h.blk, E.K.check w _ hl, h1, hz, Result.andThen, h2]
  · simp [Instr.lookup, run_underlying ht, MapKept.run_getObj_map h.blk, E.K.check w _ hl, h1, Result.andThen, h2]

theorem MpE.push (E : KE P k enc ok) (h : MpE enc ok w b es clock kv) {a : α} (ha : ok a) (hn : look kv a = none) (v : Value) :
    MpE enc ok (setBlock w b (.map (es.push ⟨enc a, v, clock⟩) (clock + 1))) b (es.push ⟨enc a, v, clock⟩) (clock + 1) (kv ++ [(a, v)]) := by
  refine ⟨heap_setBlock_same h.blk _, Go.MapKept.stamped_push h.st fun x hx e => ?_, by simp [h.eq], ?_⟩
  · obtain ⟨j, hj⟩ := List.getElem?_of_mem hx
    obtain ⟨p, hp, h4, _⟩ := h.get (by simpa using hj)
    exact look_none.1 hn p (List.mem_of_getElem? hp) (E.inj _ _ (by rw [← h4, e]))
  · intro p hp
    rcases List.mem_append.1 hp with hp | hp
    · exact h.oks p hp
    · simp at hp; subst hp; exact ha

theorem Mp.store (E : KE P k enc ok) {t e : TypeId} (ht : P.underlying t = some (.map k e)) (h : Mp enc ok w b kv) {a : α} (ha : ok a) (v : Value) :
    ∃ w', (Instr.mapUpdate t (.map (some b)) (enc a) v).run P w = .ok () w' ∧ Mp enc ok w' b (put kv a v) ∧ Touch [b] w w' ∧ w'.heap.size = w.heap.size := by
  obtain ⟨es, clock, h⟩ := h
  obtain ⟨l, hl⟩ := E.lit a ha
  rcases h.find E ha w with ⟨h1, h2⟩ | ⟨j, e0, h1, hj, h3, hkj, h2⟩
  · refine ⟨setBlock w b (.map (es.push ⟨enc a, v, clock⟩) (clock + 1)), by simp [Instr.mapUpdate, run_underlying ht, MapKept.run_getObj_map h.blk, E.K.check w false hl, h1, MapKept.run_setObj_map _ h.blk, Result.andThen, setBlock], ⟨es.push ⟨enc a, v, clock⟩, clock + 1, ?_⟩, Touch.setBlock w b _, setBlock_size _ _ _⟩
    simp only [Go.Proofs.YtecaakgpogabjaaDoor.put, h2, Option.isSome_none, Bool.false_eq_true, if_false]
    exact h.push E ha h2 v
  · have hlist : (es.modify j (fun e' => { e' with key := enc a, val := v })).toList = es.toList.set j { e0 with key := enc a, val := v } := by rw [Array.toList_modify, Go.ChangeMaps.modify_eq_set _ _ _ _ (by simpa using hj)]
    refine ⟨setBlock w b (.map (es.modify j (fun e' => { e' with key := enc a, val := v })) clock), by simp [Instr.mapUpdate, run_underlying ht, MapKept.run_getObj_map h.blk, E.K.check w false hl, h1, hj, h3, E.K.stays w hl, MapKept.run_setObj_map _ h.blk, Result.andThen, setBlock], ⟨es.modify j (fun e' => { e' with key := enc a, val := v }), clock, heap_setBlock_same h.blk _, Go.MapKept.stamped_modify h.st _ _ (fun _ _ => rfl) (fun e' _ he' => by rw [hj] at he'; cases he'; exact h3.symm), ?_, ?_⟩, Touch.setBlock w b _, setBlock_size _ _ _⟩
    · rw [hlist, List.map_set, h.eq]
      simp only [Go.Proofs.YtecaakgpogabjaaDoor.put, h2, Option.isSome_some, if_true]
      apply List.ext_getElem?
      intro i
      rw [List.getElem?_set]
      by_cases hij : j = i
      · subst hij
        have hjl : j < kv.length := (List.getElem?_eq_some_iff.1 hkj).1
        have hkj2 := (List.getElem?_eq_some_iff.1 hkj).2
        simp [hjl, hkj2]
      · simp only [hij, if_false, List.getElem?_map]
        cases hi : kv[i]? with
        | none => simp
        | some p =>
          have hne : p.1 ≠ a := by
            intro e
            have hnd := h.nodup
            have e1 : (kv.map Prod.fst)[i]? = some a := by simp [hi, e]
            have e2 : (kv.map Prod.fst)[j]? = some a := by simp [hkj]
            obtain ⟨l1, q1⟩ := List.getElem?_eq_some_iff.1 e1
            obtain ⟨l2, q2⟩ := List.getElem?_eq_some_iff.1 e2
            exact hij (nodup_inj hnd (q2.trans q1.symm))
          simp [hne]
    · intro p hp
      simp only [Go.Proofs.YtecaakgpogabjaaDoor.put, h2, Option.isSome_some, if_true] at hp
      obtain ⟨q, hq, rfl⟩ := List.mem_map.1 hp
      split
      · exact ha
      · exact h.oks q hq

theorem Mp.drop (E : KE P k enc ok) {t e : TypeId} (ht : P.underlying t = some (.map k e)) (h : Mp enc ok w b kv) {a : α} (ha : ok a) (ty : TypeId) :
    ∃ w', (Builtin.delete_ #[t, k] ty #[.map (some b), enc a]).run P w = .ok (.tuple #[]) w' ∧ Mp enc ok w' b (del kv a) ∧ Touch [b] w w' ∧ w'.heap.size = w.heap.size := by
  obtain ⟨es, clock, h⟩ := h
  obtain ⟨l, hl⟩ := E.lit a ha
  rcases h.find E ha w with ⟨h1, h2⟩ | ⟨j, e0, h1, hj, h3, hkj, h2⟩
  · have hd : del kv a = kv := by
      unfold del
      rw [List.filter_eq_self]
      intro p hp
      simpa using look_none.1 h2 p hp
    rw [hd]
    exact ⟨setBlock w b (.map es clock), by simp [Builtin.delete_, run_underlying ht, MapKept.run_getObj_map h.blk, E.K.check w _ hl, h1, MapKept.run_setObj_map _ h.blk, Result.andThen, setBlock], ⟨es, clock, heap_setBlock_same h.blk _, h.st, h.eq, h.oks⟩, Touch.setBlock w b _, setBlock_size _ _ _⟩
  · have hjs : j < es.size := (Array.getElem?_eq_some_iff.1 hj).1
    have hsub : (es.eraseIdxIfInBounds j).toList = es.toList.eraseIdx j := by
      unfold Array.eraseIdxIfInBounds
      rw [dif_pos hjs]
      simp
    have hd : del kv a = kv.eraseIdx j := by
      unfold del
      refine Go.ChangeMaps.filter_eq_eraseIdx (fun p => decide (p.1 = a)) kv j (a, e0.val) hkj (by simp) ?_
      have := h.nodup
      rw [List.Nodup, List.pairwise_map] at this
      refine this.imp fun {p q} hpq hh => ?_
      simp only [decide_eq_true_eq] at hh
      exact hpq (hh.1.trans hh.2.symm)
    rw [hd]
    refine ⟨setBlock w b (.map (es.eraseIdxIfInBounds j) clock), by simp [Builtin.delete_, run_underlying ht, MapKept.run_getObj_map h.blk, E.K.check w _ hl, h1, MapKept.run_setObj_map _ h.blk, Result.andThen, setBlock], ⟨es.eraseIdxIfInBounds j, clock, heap_setBlock_same h.blk _, Go.MapKept.stamped_erase h.st j, ?_, ?_⟩, Touch.setBlock w b _, setBlock_size _ _ _⟩
    · rw [hsub, Go.ChangeMaps.map_eraseIdx, h.eq, Go.ChangeMaps.map_eraseIdx]
    · intro p hp
      exact h.oks p ((List.eraseIdx_sublist _ _).subset hp)

theorem Mp.len {t e : TypeId} (ht : P.underlying t = some (.map k e)) (h : Mp enc ok w b kv) (ty : TypeId) :
    (Builtin.len_ #[t] ty #[.map (some b)]).run P w = .ok (.int .i64 kv.length) w := by
  obtain ⟨es, clock, h⟩ := h
  simp [Builtin.len_, run_underlying ht, MapKept.run_getObj_map h.blk, Result.andThen, h.size, goInt]

/-- m[k] = f(..) at a key that is not there: its two halves. -/
theorem MpE.entry (E : KE P k enc ok) {t e : TypeId} (ht : P.underlying t = some (.map k e)) {z : Value} (hz : (zeroValue e).run P w = .ok z w) (h : MpE enc ok w b es clock kv) {a : α} (ha : ok a) (hn : look kv a = none) :
    (Instr.mapEntry t (.map (some b)) (enc a)).run P w = .ok (.tuple #[z, .int .i64 clock]) (setBlock w b (.map (es.push ⟨enc a, z, clock⟩) (clock + 1))) := by
  obtain ⟨l, hl⟩ := E.lit a ha
  rcases h.find E ha w with ⟨h1, h2⟩ | ⟨j, e0, h1, hj, h3, hkj, h2⟩
  · simp [Instr.mapEntry, run_underlying ht, MapKept.run_getObj_map h.blk, E.K.check w false hl, h1, hz, MapKept.run_setObj_map _ h.blk, Result.andThen, goInt, setBlock]
  · rw [hn] at h2; cases h2
theorem MpE.entryW (E : KE P k enc ok) {t e : TypeId} (ht : P.underlying t = some (.map k e)) {z : Value} (hz : (zeroValue e).run P w = .ok z w) (h : MpE enc ok w b es clock kv) {a : α} (ha : ok a) (hn : look kv a = none) :
    ∃ w', (Instr.mapEntry t (.map (some b)) (enc a)).run P w = .ok (.tuple #[z, .int .i64 clock]) w' ∧ MpE enc ok w' b (es.push ⟨enc a, z, clock⟩) (clock + 1) (kv ++ [(a, z)]) ∧ Touch [b] w w' ∧ w'.heap.size = w.heap.size :=
  ⟨_, h.entry E ht hz ha hn, h.push E ha hn z, Touch.setBlock w b _, setBlock_size _ _ _⟩
theorem MpE.fill (E : KE P k enc ok) {t : TypeId} {z : Value} {a : α} (hs : Stamped es clock) (h : MpE enc ok w b (es.push ⟨enc a, z, clock⟩) (clock + 1) (kv ++ [(a, z)])) (v : Value) :
    ∃ w', (Instr.entryStore t (.map (some b)) (.int .i64 clock) v).run P w = .ok () w' ∧ MpE enc ok w' b (es.push ⟨enc a, v, clock⟩) (clock + 1) (kv ++ [(a, v)]) ∧ Touch [b] w w' ∧ w'.heap.size = w.heap.size := by
  have hf : (es.push ⟨enc a, z, clock⟩).findIdx? (fun e => (e.born : Int) == (clock : Int)) = some es.size := by
    rw [Array.findIdx?_eq_some_iff_getElem]
    refine ⟨by simp, by simp, fun j hj => ?_⟩
    have := hs.1 (es[j]) (by simp)
    simp [Array.getElem_push_lt hj]
    omega
  have hm : (es.push ⟨enc a, z, clock⟩).modify es.size (fun e => { e with val := v }) = es.push ⟨enc a, v, clock⟩ := by
    apply Array.ext_getElem?
    intro i
    rw [Array.getElem?_modify]
    by_cases hi : es.size = i
    · subst hi; simp
    · simp only [hi, if_false, Array.getElem?_push]
      split
      · rename_i h1; exact absurd h1.symm hi
      · rfl
  refine ⟨setBlock w b (.map (es.push ⟨enc a, v, clock⟩) (clock + 1)), by simp [Instr.entryStore, MapKept.run_getObj_map h.blk, asInt, asIntOf, hf, hm, MapKept.run_setObj_map _ h.blk, Result.andThen, setBlock], ⟨heap_setBlock_same h.blk _, ?_, ?_, ?_⟩, Touch.setBlock w b _, setBlock_size _ _ _⟩
  · have := Go.MapKept.stamped_modify h.st es.size (fun e => { e with val := v }) (fun _ _ => rfl) (fun _ _ _ => rfl)
    rw [hm] at this
    exact this
  · have := h.eq
    simp at this ⊢
    exact this
  · intro p hp
    rcases List.mem_append.1 hp with hp | hp
    · exact h.oks p (List.mem_append_left _ hp)
    · simp at hp; subst hp; exact h.oks (a, z) (by simp)

/-! ### ranging over a map that no round writes -/
/-- Block r is an iterator over the map in block b; the entries at the places S have come. -/
def It (w : World) (r b : Nat) (es : Array MapEntry) (clock : Nat) (S : List Nat) : Prop :=
  ∃ seen : Array Nat, w.heap[r]? = some (.mapIter (some b) clock seen clock) ∧ (∀ j e, es[j]? = some e → (e.born ∈ seen.toList ↔ j ∈ S)) ∧ S.Nodup ∧ ∀ j ∈ S, j < es.size
theorem It.touch {w w' : World} {r : Nat} {S : List Nat} {T : List Nat} (h : It w r b es clock S) (t : Touch T w w') (hr : r ∉ T) : It w' r b es clock S := by
  obtain ⟨seen, h1, h2⟩ := h
  exact ⟨seen, t.at h1 hr, h2⟩
theorem It.lt {r : Nat} {S : List Nat} (h : It w r b es clock S) : r < w.heap.size := by
  obtain ⟨seen, h1, _⟩ := h
  exact (Array.getElem?_eq_some_iff.1 h1).1
theorem MpE.range {t e : TypeId} (ht : P.underlying t = some (.map k e)) (h : MpE enc ok w b es clock kv) :
    (Instr.range t (.map (some b))).run P w = .ok (.pointer (some ⟨w.heap.size, 0, none⟩)) (w.alloc (.mapIter (some b) clock #[] clock)) ∧ It (w.alloc (.mapIter (some b) clock #[] clock)) w.heap.size b es clock [] := by
  refine ⟨?_, ⟨#[], heap_alloc_new w _, by simp, by simp, by simp⟩⟩
  simp [Instr.range, run_underlying ht, MapKept.run_getObj_map h.blk, Result.andThen]
theorem born_inj (hs : Stamped es clock) {i j : Nat} {e e' : MapEntry} (hi : es[i]? = some e) (hj : es[j]? = some e') (hb : e.born = e'.born) : i = j := by
  have e1 : (es.toList.map (·.born))[i]? = some e.born := by simp [hi]
  have e2 : (es.toList.map (·.born))[j]? = some e.born := by simp [hj, hb]
  obtain ⟨l1, q1⟩ := List.getElem?_eq_some_iff.1 e1
  obtain ⟨l2, q2⟩ := List.getElem?_eq_some_iff.1 e2
  exact nodup_inj hs.2.1 (q1.trans q2.symm)
theorem MpE.next (h : MpE enc ok w b es clock kv) {r : Nat} {S : List Nat} (hi : It w r b es clock S) (hrb : r ≠ b) (ty : TypeId) :
    ((∀ j < kv.length, j ∈ S) ∧ (Instr.next (.pointer (some ⟨r, 0, none⟩)) false ty).run P w = .ok (.tuple #[.bool false]) w) ∨
    ∃ j p w', j ∉ S ∧ kv[j]? = some p ∧ (Instr.next (.pointer (some ⟨r, 0, none⟩)) false ty).run P w = .ok (.tuple #[.bool true, enc p.1, p.2]) w' ∧ Touch [r] w w' ∧ w'.heap.size = w.heap.size ∧ It w' r b es clock (S ++ [j]) ∧
      (Instr.entry (.pointer (some ⟨r, 0, none⟩))).run P w' = .ok (.tuple #[enc p.1, p.2]) w' := by
  obtain ⟨seen, h1, h2, h3, h4⟩ := hi
  rcases run_next_at (P := P) w ty r b clock clock seen es clock h1 h.blk (fun x hx => h.st.1 x hx) (Nat.le_refl _) with ⟨h5, h6⟩ | ⟨e, he, w1, hw1, hrun⟩
  · refine .inl ⟨fun j hj => ?_, h6⟩
    rw [← h.size] at hj
    have hje : es[j]? = some es[j] := Array.getElem?_eq_getElem hj
    rw [← h2 j _ hje]
    have hem : leftOf es seen = #[] := Array.eq_empty_of_size_eq_zero h5
    unfold leftOf at hem
    rw [Array.filter_eq_empty_iff] at hem
    have := hem es[j] (by simp)
    simpa using this
  · right
    unfold leftOf at he
    simp at he
    obtain ⟨hm, hns⟩ := he
    obtain ⟨j, hj⟩ := Array.getElem?_of_mem hm
    obtain ⟨p, hp, hk1, hv1⟩ := h.get hj
    have hjS : j ∉ S := by
      rw [← h2 j e hj]
      simpa using hns
    have hr1 : w1.heap[r]? = some (.mapIter (some b) clock seen clock) := by rcases hw1 with rfl | rfl <;> exact h1
    have t1 : Touch [r] w w1 := by
      rcases hw1 with rfl | rfl
      · exact Touch.refl _ _
      · exact (Touch.refl _ _).drew
    have z1 : w1.heap.size = w.heap.size := by rcases hw1 with rfl | rfl <;> rfl
    have t2 : Touch [r] w (setBlock w1 r (.mapIter (some b) clock (seen.push e.born) clock)) := t1.trans (Touch.setBlock w1 r _) (by simp)
    have hlt : r < w1.heap.size := (Array.getElem?_eq_some_iff.1 hr1).1
    have hr2 : (setBlock w1 r (.mapIter (some b) clock (seen.push e.born) clock)).heap[r]? = some (.mapIter (some b) clock (seen.push e.born) clock) := by
      simp [setBlock, hlt]
    refine ⟨j, p, _, hjS, hp, by rw [hrun, hk1, hv1], t2, by rw [setBlock_size, z1], ⟨_, hr2, ?_, ?_, ?_⟩, ?_⟩
    · intro i e' he'
      simp only [Array.toList_push, List.mem_append, List.mem_singleton]
      rw [h2 i e' he']
      constructor
      · rintro (q | q)
        · exact .inl q
        · exact .inr (born_inj h.st he' hj q)
      · rintro (q | q)
        · exact .inl q
        · subst q
          rw [hj] at he'
          cases he'
          exact .inr rfl
    · exact List.nodup_append.2 ⟨h3, by simp, by intro a ha c hc; simp at hc; subst hc; intro e; exact hjS (e ▸ ha)⟩
    · intro i hi
      rcases List.mem_append.1 hi with q | q
      · exact h4 i q
      · simp at q; subst q; exact (Array.getElem?_eq_some_iff.1 hj).1
    · have hb2 := t2.at h.blk (by simpa using hrb.symm)
      rw [run_entry_at (P := P) _ r b clock seen es clock e hr2 hb2 (by simpa using hm) h.st.2.1, hk1, hv1]
theorem few_of_lt : ∀ (n : Nat) (S : List Nat), S.Nodup → (∀ j ∈ S, j < n) → S.length ≤ n
  | 0, S, _, h => by
    cases S with
    | nil => simp
    | cons a r => exact absurd (h a List.mem_cons_self) (by omega)
  | n + 1, S, hn, h => by
    by_cases hm : n ∈ S
    · have h1 := few_of_lt n (S.erase n) (hn.erase n) (fun j hj => by
        have := (List.Nodup.mem_erase_iff hn).1 hj
        have := h j this.2
        omega)
      rw [List.length_erase_of_mem hm] at h1
      omega
    · have := few_of_lt n S hn (fun j hj => by
        have := h j hj
        have : j ≠ n := fun e => hm (e ▸ hj)
        omega)
      omega
/-- What has come, the places S having come. -/
def came {β : Type} (l : List β) (S : List Nat) : List β := S.filterMap fun j => l[j]?
theorem came_snoc {β : Type} {l : List β} {S : List Nat} {j : Nat} {p : β} (h : l[j]? = some p) : came l (S ++ [j]) = came l S ++ [p] := by simp [came, h]
theorem came_len {β : Type} {l : List β} {S : List Nat} (h : ∀ j ∈ S, j < l.length) : (came l S).length = S.length := by
  induction S with
  | nil => rfl
  | cons a r ih =>
    have ha := h a List.mem_cons_self
    unfold came at ih ⊢
    rw [List.filterMap_cons, List.getElem?_eq_getElem ha]
    simp [ih (fun j hj => h j (List.mem_cons_of_mem _ hj))]
theorem came_all {β : Type} {l : List β} {S : List Nat} (hn : S.Nodup) (h : ∀ j ∈ S, j < l.length) (ha : ∀ j < l.length, j ∈ S) : (came l S).Perm l := by
  have hp : S.Perm (List.range l.length) := (List.perm_ext_iff_of_nodup hn List.nodup_range).2 fun a => by
    rw [List.mem_range]
    exact ⟨h a, ha a⟩
  have h1 : (came l S).Perm (came l (List.range l.length)) := hp.filterMap _
  have h2 : came l (List.range l.length) = l := by
    unfold came
    have : ∀ n, n ≤ l.length → (List.range n).filterMap (fun j => l[j]?) = l.take n := by
      intro n
      induction n with
      | zero => intro _; simp
      | succ n ih =>
        intro hnl
        rw [List.range_succ, List.filterMap_append, ih (by omega), List.take_add_one]
        simp [List.filterMap_cons, List.getElem?_eq_getElem (show n < l.length by omega)]
    rw [this _ (Nat.le_refl _), List.take_length]
  rw [h2] at h1
  exact h1
theorem It.nodup {r : Nat} {S : List Nat} (h : It w r b es clock S) : S.Nodup := by obtain ⟨_, _, _, h, _⟩ := h; exact h
theorem It.bound (hm : MpE enc ok w b es clock kv) {r : Nat} {S : List Nat} {w' : World} (h : It w' r b es clock S) : ∀ j ∈ S, j < kv.length := by
  obtain ⟨_, _, _, _, h⟩ := h
  intro j hj
  rw [← hm.size]
  exact h j hj
end
end Go.Proofs.YtecaakgpogabjaaDoor

/-
  Maps whose keys are addresses.
-/
namespace Go.Proofs.YtecaakgpogabjaaDoor
open Go.RowKit
set_option linter.unusedVariables false
set_option linter.unusedSimpArgs false

def encA (p : Bool × List Int) : Value := .agg (adr p.1 p.2).toArray
def okA (p : Bool × List Int) : Prop := okB p.2
theorem laidOutA : laidOutB Tryd.prog = true := by kernel_rfl
theorem adr_inj {b b' : Bool} {xs ys : List Int} (h : adr b xs = adr b' ys) : b = b' ∧ xs = ys := by
  unfold adr at h
  simp only [List.cons.injEq, Value.bool.injEq] at h
  exact ⟨h.1, (List.map_inj_right (fun a b h => by simpa using h)).1 h.2⟩
theorem keyA : KE Tryd.prog 28 encA okA where
  K := Go.Maps.Keyed.of_law (deep_law_laid laidOutA (m := 9) (by omega) (of_decide_eq_true (by kernel_rfl)) (by kernel_rfl) (by kernel_rfl))
  lit := by
    rintro ⟨b, xs⟩ h
    obtain ⟨hl, hr⟩ := (show okB xs from h)
    obtain ⟨x0, x1, x2, x3, x4, x5, x6, x7, x8, x9, x10, x11, x12, x13, x14, x15, rfl⟩ := sixteen xs hl
    have hwf : ∀ x : Int, 0 ≤ x ∧ x ≤ 255 → (Lit.int .u8 x).wf = true := by
      intro x hx
      simp [Lit.wf, IntKind.min, IntKind.max, IntKind.signed, IntKind.bits]
      omega
    have hk1 : ∀ x ∈ [x0, x1, x2, x3, x4, x5, x6, x7, x8, x9, x10, x11, x12, x13, x14, x15], ∀ d, Tryd.prog.keyLits (d + 1) 5 [.int .u8 x] = some [.int .u8 x] := by
      intro x hx d
      simp [Program.keyLits, Tryd.underlying5, hwf x (hr x hx)]
    simp only [List.mem_cons, List.not_mem_nil, or_false, forall_eq_or_imp, forall_eq] at hk1
    obtain ⟨k0, k1, k2, k3, k4, k5, k6, k7, k8, k9, k10, k11, k12, k13, k14, k15⟩ := hk1
    have c5 : Tryd.prog.cellsOf 5 = 1 := by kernel_rfl
    have c4 : Tryd.prog.cellsOf 4 = 1 := by kernel_rfl
    have c29 : Tryd.prog.cellsOf 26 = 16 := by kernel_rfl
    have c31 : Tryd.prog.cellsOf 28 = 17 := by kernel_rfl
    have hkt : Tryd.prog.keyType 28 = true := by kernel_rfl
    have hs : (Tryd.prog.info? 28).map (·.size) = some 17 := by kernel_rfl
    have hk : ∃ l, Tryd.prog.keyLits (Tryd.prog.types.size + 1) 28 (adr b [x0, x1, x2, x3, x4, x5, x6, x7, x8, x9, x10, x11, x12, x13, x14, x15]) = some l := by
      obtain ⟨n, hn⟩ : ∃ n, Tryd.prog.types.size + 1 = n + 3 := ⟨Tryd.prog.types.size - 2, by have : 2 ≤ Tryd.prog.types.size := of_decide_eq_true (by kernel_rfl); omega⟩
      rw [hn]
      have hk2 : Tryd.prog.keyLits (n + 2) 26 ([x0, x1, x2, x3, x4, x5, x6, x7, x8, x9, x10, x11, x12, x13, x14, x15].map (Value.int .u8)) = some ([x0, x1, x2, x3, x4, x5, x6, x7, x8, x9, x10, x11, x12, x13, x14, x15].map (Lit.int .u8)) := by
        unfold Program.keyLits
        simp [Tryd.underlying26, c5, c29, List.range, List.range.loop, k0, k1, k2, k3, k4, k5, k6, k7, k8, k9, k10, k11, k12, k13, k14, k15]
      have hk3 : Tryd.prog.keyLits (n + 2) 4 [.bool b] = some [.bool b] := by
        simp [Program.keyLits, Tryd.underlying4]
      simp only [List.map_cons, List.map_nil] at hk2
      unfold Program.keyLits
      simp [Tryd.underlying28, adr, c4, c29, c31, hk2, hk3]
    obtain ⟨l, hl⟩ := hk
    have hf : (Value.agg (adr b [x0, x1, x2, x3, x4, x5, x6, x7, x8, x9, x10, x11, x12, x13, x14, x15]).toArray).formed Tryd.prog 28 = true := by
      simp [Value.formed, Tryd.underlying28, c31, adr]
    unfold keyOf
    simp only [Tryd.underlying28, encA, hkt, hf, Bool.and_true, Bool.and_self, if_true, Value.cells]
    rw [hl]
    exact ⟨_, rfl⟩
  inj := by
    rintro ⟨b, xs⟩ ⟨b', ys⟩ h
    simp only [encA, Value.agg.injEq] at h
    obtain ⟨rfl, rfl⟩ := adr_inj (by simpa using h)
    rfl
def Ad.key (a : Ad) : Bool × List Int := (a.b, a.xs)
theorem Ad.key_inj {a c : Ad} (h : a.key = c.key) : a = c := by
  obtain ⟨b, xs, ok⟩ := a
  obtain ⟨b', xs', ok'⟩ := c
  simp only [Ad.key, Prod.mk.injEq] at h
  obtain ⟨rfl, rfl⟩ := h
  rfl
/-- The list without what came before. -/
def dedN (l : List Ad) : Nat → List Ad
  | 0 => []
  | k + 1 => match l[k]? with
    | some a => if (dedN l k).any (fun c => decide (c.key = a.key)) then dedN l k else dedN l k ++ [a]
    | none => dedN l k
def dedP (l : List Ad) : List Ad := dedN l l.length
theorem dedN_len (l : List Ad) (k : Nat) : (dedN l k).length ≤ k := by
  induction k with
  | zero => simp [dedN]
  | succ k ih =>
    simp only [dedN]
    split
    · split
      · omega
      · simp; omega
    · omega
theorem dedN_mem (l : List Ad) (k : Nat) (q : Bool × List Int) : (dedN l k).any (fun c => decide (c.key = q)) = true ↔ ∃ i a, i < k ∧ l[i]? = some a ∧ a.key = q := by
  induction k with
  | zero => simp [dedN]
  | succ k ih =>
    simp only [dedN]
    cases hk : l[k]? with
    | none =>
      simp only
      rw [ih]
      constructor
      · rintro ⟨i, a, h1, h2, h3⟩
        exact ⟨i, a, by omega, h2, h3⟩
      · rintro ⟨i, a, h1, h2, h3⟩
        by_cases e : i = k
        · subst e; rw [hk] at h2; cases h2
        · exact ⟨i, a, by omega, h2, h3⟩
    | some a =>
      simp only
      by_cases hin : (dedN l k).any (fun c => decide (c.key = a.key)) = true
      · rw [if_pos hin, ih]
        constructor
        · rintro ⟨i, x, h1, h2, h3⟩
          exact ⟨i, x, by omega, h2, h3⟩
        · rintro ⟨i, x, h1, h2, h3⟩
          by_cases e : i = k
          · subst e
            rw [hk] at h2
            cases h2
            have hi2 := hin
            rw [List.any_eq_true] at hi2
            have ih2 : (dedN l i).any (fun c => decide (c.key = q)) = true := by rw [← h3]; exact hin
            exact ih.1 ih2
          · exact ⟨i, x, by omega, h2, h3⟩
      · rw [if_neg hin, List.any_append, Bool.or_eq_true, ih]
        constructor
        · rintro (⟨i, x, h1, h2, h3⟩ | h)
          · exact ⟨i, x, by omega, h2, h3⟩
          · simp at h
            exact ⟨k, a, by omega, hk, h⟩
        · rintro ⟨i, x, h1, h2, h3⟩
          by_cases e : i = k
          · subst e
            rw [hk] at h2
            cases h2
            right
            simp [h3]
          · exact .inl ⟨i, x, by omega, h2, h3⟩
end Go.Proofs.YtecaakgpogabjaaDoor

/-
  The contract of Dedup.
-/
namespace Go.Proofs.YtecaakgpogabjaaDoor
open Go.RowKit
set_option linter.unusedVariables false
set_option linter.unusedSimpArgs false

theorem look_put_same {α : Type} [DecidableEq α] (kv : List (α × Value)) (a : α) (v : Value) : look (put kv a v) a = some v := by
  unfold put
  split
  · rename_i h
    unfold look at *
    rw [Option.isSome_map] at h
    obtain ⟨p, hp⟩ := Option.isSome_iff_exists.1 h
    have h1 := List.find?_some hp
    simp only [decide_eq_true_eq] at h1
    clear h
    induction kv with
    | nil => simp at hp
    | cons q r ih =>
      by_cases e : q.1 = a
      · simp [e]
      · rw [List.find?_cons_of_neg (by simpa using e)] at hp
        simp only [List.map_cons, if_neg e]
        rw [List.find?_cons_of_neg (by simpa using e)]
        exact ih hp
  · rename_i h
    unfold look at *
    rw [List.find?_append]
    cases hf : kv.find? (fun p => decide (p.1 = a)) with
    | none => simp
    | some p => rw [hf] at h; simp at h
theorem look_put_other {α : Type} [DecidableEq α] (kv : List (α × Value)) (a c : α) (v : Value) (h : a ≠ c) : look (put kv a v) c = look kv c := by
  unfold put
  split
  · unfold look
    congr 1
    rename_i hs
    clear hs
    induction kv with
    | nil => rfl
    | cons q r ih =>
      by_cases e : q.1 = a
      · have e2 : ¬ q.1 = c := fun x => h (e.symm.trans x)
        simp only [List.map_cons, if_pos e]
        rw [List.find?_cons_of_neg (by simpa using h), List.find?_cons_of_neg (by simpa using e2)]
        exact ih
      · simp only [List.map_cons, if_neg e]
        by_cases e2 : q.1 = c
        · rw [List.find?_cons_of_pos (by simpa using e2), List.find?_cons_of_pos (by simpa using e2)]
        · rw [List.find?_cons_of_neg (by simpa using e2), List.find?_cons_of_neg (by simpa using e2)]
          exact ih
  · unfold look
    rw [List.find?_append]
    cases kv.find? (fun p => decide (p.1 = c)) with
    | none => simp [h]
    | some p => simp
def seenP (l : List Ad) (k : Nat) (q : Bool × List Int) : Bool := (dedN l k).any (fun c => decide (c.key = q))
theorem zeroB (w : World) : (zeroValue 4).run Tryd.prog w = .ok (.bool false) w := by kernel_rfl
set_option maxRecDepth 100000 in
set_option maxHeartbeats 2000000 in
theorem dedup_any (v : Value) (b : Nat) (l : List Ad) (w : World) (hv : Rd w 17 b v (l.map Ad.cells)) (hl : l.length ≤ 1000000) :
    Calls Tryd.prog 12 #[v] w fun e w' => ∃ v', e = .returned v' ∧ OwnA w w' v' (dedP l) ∧ Touch [] w w' := by
  obtain ⟨iA, hiA, hzA, hsA, hbA⟩ := info_parts info28
  obtain ⟨a, cap, rfl, hlc, hcm⟩ := hv.form
  rw [List.length_map] at hv hlc ⊢
  have hcm2 : cap ≤ 9223372036854775807 := by unfold maxLen at hcm; omega
  obtain ⟨W0, hW0⟩ : ∃ W0, W0 = w.alloc (.map #[] 0) := ⟨_, rfl⟩
  have HM0 := Lib.hid (show Mp encA okA W0 w.heap.size [] by rw [hW0]; exact Mp.made w)
  have T0 := Lib.hid (show Touch [] w W0 by rw [hW0]; exact (Touch.refl [] w).alloc _)
  have HW0 := Lib.hid hW0
  clear hW0
  have hmm : ∀ w, (Instr.makeMap 44 none).run Tryd.prog w = .ok (.map (some w.heap.size)) (w.alloc (.map #[] 0)) := fun _ => rfl
  go_enter Tryd.func12, Tryd.ntmps12
  go_wp2_with fail
  rw [← HW0.out]
  go_loopw [3, 10] (fun vo vi wr => ∃ (i : Nat) (kv : List ((Bool × List Int) × Value)), i ≤ l.length ∧ vi = .int .i64 i ∧ OwnA W0 wr vo (dedN l i) ∧ Mp encA okA wr w.heap.size kv ∧ (∀ q, look kv q = if seenP l i q then some (.bool true) else none) ∧ Touch [] w wr ∧ W0.heap.size ≤ wr.heap.size) (fun _ vi _ => l.length - (intOf vi).toNat)
  case atStart => exact ⟨0, [], by omega, rfl, Own.nil _ _, HM0.out, by intro q; simp [look, seenP, dedN], T0.out, Nat.le_refl _⟩
  case round =>
    obtain ⟨i, kv, hi, rfl, hown, hmp, hlook, ht, hz⟩ := hrel
    by_cases hlt : i < l.length
    · obtain ⟨x, hx⟩ : ∃ x, l[i]? = some x := ⟨_, List.getElem?_eq_getElem hlt⟩
      obtain ⟨off, rfl, hat⟩ := hv.at (by intro e; rw [List.map_eq_nil_iff] at e; subst e; simp at hlt)
      have hrg := ht.range (hat i x.cells (by simp [hx])) (by simp)
      have hdl := dedN_len l i
      have HLX := Lib.hid x.len
      have HDX := Lib.hid (show dedN l (i + 1) = if seenP l i x.key then dedN l i else dedN l i ++ [x] by simp only [dedN, hx]; rfl)
      have HSX := Lib.hid (fun q => (show seenP l (i + 1) q = (decide (x.key = q) || seenP l i q) by
        have h1 := dedN_mem l (i + 1) q
        have h2 := dedN_mem l i q
        rw [Bool.eq_iff_iff]
        unfold seenP
        rw [h1, Bool.or_eq_true, h2]
        constructor
        · rintro ⟨j, y, hj, hy, hk⟩
          by_cases e : j = i
          · subst e
            rw [hx] at hy
            cases hy
            left
            simpa using hk
          · exact .inr ⟨j, y, by omega, hy, hk⟩
        · rintro (hk | ⟨j, y, hj, hy, hk⟩)
          · exact ⟨i, x, by omega, hx, by simpa using hk⟩
          · exact ⟨j, y, by omega, hy, hk⟩))
      have HLK := Lib.hid hlook
      have HN := Lib.hid (heap_alloc_new wr (.cells (adr false (List.replicate 16 0)).toArray 28))
      have HNT := Lib.hid ((Touch.refl [] wr).alloc (.cells (adr false (List.replicate 16 0)).toArray 28))
      have hm0 : w.heap.size < W0.heap.size := by rw [HW0.out]; simp
      clear hat hx hlook
      go_wp2_with (first
        | ((with_reducible refine at_load 28 ?_); refine wpList_load_mid rfl 28 _ rfl b (off + i * 17) rfl x.cells _ hrg Tryd.underlying28 rfl (by rw [size31, HLX.out]) ?_)
        | ((with_reducible refine at_store 28 ?_); refine wpList_store_into rfl 28 _ _ rfl wr.heap.size 28 _ x.cells rfl rfl HN.out (by rw [HLX.out]; rfl) (by rw [size31, HLX.out]) x.one ?_))
      intro A hA tA0 zA
      have tA := HNT.out.trans tA0 (by intro y hy; right; simp at hy; omega)
      have hrx := range_block hA
      have HX1 := Lib.hid hA
      have hmpA := hmp.touch tA (by simp)
      have hlk' := hmpA.lookup keyA Tryd.underlying44 (zeroB _) (a := x.key) x.ok false
      have hownA : OwnA W0 A u3 (dedN l i) := hown.touch tA (by simp)
      have hrowA := hownA.row'
      have htA := ht.trans tA (by simp)
      have zA2 : A.heap.size = wr.heap.size + 1 := by simpa using zA
      rw [HLK.out] at hlk'
      clear hmp hA tA0 HN HNT hrg zA ht
      by_cases hs : seenP l i x.key = true
      · rw [if_pos hs] at hlk'
        have hlk : (Instr.lookup 44 (.map (some w.heap.size)) (.agg x.cells.toArray) false).run Tryd.prog A = .ok (.bool true) A := hlk'
        obtain ⟨w3, hst', M3, t3, z3⟩ := hmpA.store keyA Tryd.underlying44 (a := x.key) x.ok (.bool true)
        have hst : (Instr.mapUpdate 44 (.map (some w.heap.size)) (.agg x.cells.toArray) (.bool true)).run Tryd.prog A = .ok () w3 := hst'
        have HD2 := Lib.hid (show dedN l (i + 1) = dedN l i by rw [HDX.out, if_pos hs])
        have hown3 : OwnA W0 w3 u3 (dedN l i) := Own.touch hownA t3 (by intro g hg; have := hown.new g hg; simp; omega)
        have ht3 : Touch [] w w3 := htA.trans t3 (by simp)
        have hlook3 : ∀ q, look (put kv x.key (.bool true)) q = if seenP l (i + 1) q then some (.bool true) else none := by
          intro q
          rw [HSX.out]
          by_cases e : x.key = q
          · subst e
            rw [look_put_same]
            simp
          · rw [look_put_other _ _ _ _ e, HLK.out]
            simp [e]
        have FIN := Lib.hid (And.intro hown3 (And.intro M3 (And.intro hlook3 (And.intro ht3 (show W0.heap.size ≤ w3.heap.size by omega)))))
        clear hown3 M3 hlook3 ht3 t3 hrowA hownA hmpA hlk' hst' hown
        go_wp2_with ((with_reducible refine at_load 28 ?_); refine wpList_load_mid rfl 28 _ rfl wr.heap.size 0 rfl x.cells _ hrx Tryd.underlying28 rfl (by rw [size31, HLX.out]) ?_)
        go_roundw
        case rel =>
          obtain ⟨f1, f2, f3, f4, f5⟩ := FIN.out
          exact ⟨i + 1, _, by omega, by go_num, by rw [HD2.out]; exact f1, f2, f3, f4, f5⟩
        case measure => simp [intOf]; omega
      · rw [if_neg hs] at hlk'
        have hlk : (Instr.lookup 44 (.map (some w.heap.size)) (.agg x.cells.toArray) false).run Tryd.prog A = .ok (.bool false) A := hlk'
        have HD2 := Lib.hid (show dedN l (i + 1) = dedN l i ++ [x] by rw [HDX.out, if_neg hs])
        go_wp2_with (first
          | ((with_reducible refine at_load 28 ?_); refine wpList_load_mid rfl 28 _ rfl wr.heap.size 0 rfl x.cells _ hrx Tryd.underlying28 rfl (by rw [size31, HLX.out]) ?_)
          | (refine wpList_buildSlice_rows rfl 22 1 _ rfl 28 17 iA _ Tryd.underlying22 hiA hzA hsA (by omega) [x.cells] rfl (by simp [HLX.out]) (by omega) (by rfl) ?_)
          | (at_builtin; refine wpList_app_rec _ (by rfl) _ _ 22 (by rfl) 28 iA _ 17 17 Tryd.underlying22 hiA hzA hsA hbA rfl (by omega) _ (dedN l i).length _ (by rfl) hrowA ([x.cells].flatten) 28 (by rfl) (by simp [HLX.out]) (by simpa using x.one) (by unfold maxLen; omega) (by omega) ?_))
        intro vo w2 ho2 t2 hv2
        have hown2 : OwnA W0 w2 vo (dedN l i ++ [x]) := by
          refine ⟨?_, ?_⟩
          · rw [List.map_append, List.flatten_append, List.length_append, List.length_map, List.length_map]
            simpa using ho2
          · intro g hg
            rcases hv2 with e | e
            · rw [e] at hg; exact hown.new g hg
            · rw [e] at hg; simp at hg; omega
        have nM : w.heap.size ∉ u3.ownBlock.toList := by
          intro hm
          have := hown.new _ (by simpa using hm)
          omega
        have hmp2 := hmpA.touch t2 nM
        have hrx2 := t2.range hrx (by intro hm; have := hown.lt _ (by simpa using hm); omega)
        have ht2 : Touch [] w w2 := htA.trans t2 (fun g hg => .inr (by have := hown.new g (by simpa using hg); omega))
        have z2 := t2.size
        obtain ⟨w3, hst', M3, t3, z3⟩ := hmp2.store keyA Tryd.underlying44 (a := x.key) x.ok (.bool true)
        have hst : (Instr.mapUpdate 44 (.map (some w.heap.size)) (.agg x.cells.toArray) (.bool true)).run Tryd.prog w2 = .ok () w3 := hst'
        have hown3 : OwnA W0 w3 vo (dedN l i ++ [x]) := Own.touch hown2 t3 (by intro g hg; have := hown2.new g hg; simp; omega)
        have ht3 : Touch [] w w3 := ht2.trans t3 (by simp)
        have hlook3 : ∀ q, look (put kv x.key (.bool true)) q = if seenP l (i + 1) q then some (.bool true) else none := by
          intro q
          rw [HSX.out]
          by_cases e : x.key = q
          · subst e
            rw [look_put_same]
            simp
          · rw [look_put_other _ _ _ _ e, HLK.out]
            simp [e]
        have FIN := Lib.hid (And.intro hown3 (And.intro M3 (And.intro hlook3 (And.intro ht3 (show W0.heap.size ≤ w3.heap.size by omega)))))
        clear hown3 M3 hlook3 ht3 t3 hrowA hownA hmpA hlk' hst' hown hlk hown2 hmp2 ht2 t2 ho2 hv2 hrx
        go_wp2_with ((with_reducible refine at_load 28 ?_); refine wpList_load_mid rfl 28 _ rfl wr.heap.size 0 rfl x.cells _ hrx2 Tryd.underlying28 rfl (by rw [size31, HLX.out]) ?_)
        go_roundw
        case rel =>
          obtain ⟨f1, f2, f3, f4, f5⟩ := FIN.out
          exact ⟨i + 1, _, by omega, by go_num, by rw [HD2.out]; exact f1, f2, f3, f4, f5⟩
        case measure => simp [intOf]; omega
    · have hie : i = l.length := by omega
      subst hie
      go_wp2_with fail
      go_ret
      exact ⟨_, rfl, Own.older hown T0.out.size, ht⟩
end Go.Proofs.YtecaakgpogabjaaDoor

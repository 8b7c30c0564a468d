/-
  Maps told as lists of pairs (a key of a Lean type, the element's value), in the map's own order. Plain lemmas over any program: make, look up, store, mapEntry and entryStore, delete, len, range and next.
-/
import Derived.Test.YtpbabdoecjlifaaMem
import Derived.Maps.Keyed
import Derived.Maps.RangeRun
namespace Go.Proofs.Ytpbabdoecjlifaa
open Go.RowKit
open Go.Maps (Keyed)
open Go.MapKept (Stamped)
open Go.ChangeMaps (setBlock heap_setBlock_same heap_setBlock_other)
set_option linter.unusedVariables false
set_option linter.unusedSimpArgs false
set_option linter.unusedSectionVars false

theorem nodup_inj {β : Type} {l : List β} (h : l.Nodup) {i j : Nat} {hi : i < l.length} {hj : j < l.length} (e : l[i] = l[j]) : i = j := by
  rcases Nat.lt_trichotomy i j with h1 | h1 | h1
  · exact absurd e (List.pairwise_iff_getElem.1 h i j hi hj h1)
  · exact h1
  · exact absurd e.symm (List.pairwise_iff_getElem.1 h j i hj hi h1)

/-- A key type: Lean's keys, how they lie, which of them the model reads. -/
structure KE {α : Type} (P : Program) (k : TypeId) (enc : α → Value) (ok : α → Prop) : Prop where
  K : Keyed P k
  lit : ∀ a, ok a → ∃ l, keyOf P k (enc a) = some l
  inj : ∀ a b, enc a = enc b → a = b

structure MpE {α : Type} (enc : α → Value) (ok : α → Prop) (w : World) (b : Nat) (es : Array MapEntry) (clock : Nat) (kv : List (α × Value)) : Prop where
  blk : w.heap[b]? = some (.map es clock)
  st : Stamped es clock
  eq : es.toList.map (fun e => (e.key, e.val)) = kv.map (fun p => (enc p.1, p.2))
  oks : ∀ p ∈ kv, ok p.1

def Mp {α : Type} (enc : α → Value) (ok : α → Prop) (w : World) (b : Nat) (kv : List (α × Value)) : Prop := ∃ es clock, MpE enc ok w b es clock kv

section
variable {α : Type} [DecidableEq α] {P : Program} {k : TypeId} {enc : α → Value} {ok : α → Prop} {w : World} {b : Nat} {es : Array MapEntry} {clock : Nat} {kv : List (α × Value)}

def look (kv : List (α × Value)) (a : α) : Option Value := (kv.find? fun p => decide (p.1 = a)).map Prod.snd
def put (kv : List (α × Value)) (a : α) (v : Value) : List (α × Value) := if (look kv a).isSome then kv.map (fun p => if p.1 = a then (a, v) else p) else kv ++ [(a, v)]
def del (kv : List (α × Value)) (a : α) : List (α × Value) := kv.filter fun p => !decide (p.1 = a)

theorem look_none {a : α} : look kv a = none ↔ ∀ p ∈ kv, p.1 ≠ a := by
  unfold look
  rw [Option.map_eq_none_iff, List.find?_eq_none]
  simp
theorem look_some {a : α} {v : Value} (hn : (kv.map Prod.fst).Nodup) : look kv a = some v ↔ (a, v) ∈ kv := by
  induction kv with
  | nil => simp [look]
  | cons p r ih =>
    simp only [List.map_cons, List.nodup_cons] at hn
    have ih' := ih hn.2
    unfold look at ih' ⊢
    rw [List.find?_cons]
    by_cases h : p.1 = a
    · simp only [h, decide_true, Option.map_some, Option.some.injEq, List.mem_cons]
      subst h
      constructor
      · intro e; left; rw [← e]
      · rintro (e | e)
        · rw [← e]
        · exact absurd (List.mem_map.2 ⟨_, e, rfl⟩) hn.1
    · simp only [h, decide_false, List.mem_cons]
      rw [ih']
      constructor
      · exact .inr
      · rintro (e | e)
        · rw [← e] at h; exact absurd rfl h
        · exact e

theorem MpE.get (h : MpE enc ok w b es clock kv) {j : Nat} {e : MapEntry} (he : es[j]? = some e) : ∃ p, kv[j]? = some p ∧ e.key = enc p.1 ∧ e.val = p.2 := by
  have := congrArg (fun l => l[j]?) h.eq
  simp only [List.getElem?_map, Array.getElem?_toList, he, Option.map_some] at this
  cases hp : kv[j]? with
  | none => simp [hp] at this
  | some p =>
    simp only [hp, Option.map_some, Option.some.injEq, Prod.mk.injEq] at this
    exact ⟨p, rfl, this.1, this.2⟩
theorem MpE.put (h : MpE enc ok w b es clock kv) {j : Nat} {p : α × Value} (hp : kv[j]? = some p) : ∃ e, es[j]? = some e ∧ e.key = enc p.1 ∧ e.val = p.2 := by
  have := congrArg (fun l => l[j]?) h.eq
  simp only [List.getElem?_map, Array.getElem?_toList, hp, Option.map_some] at this
  cases he : es[j]? with
  | none => simp [he] at this
  | some e =>
    simp only [he, Option.map_some, Option.some.injEq, Prod.mk.injEq] at this
    exact ⟨e, rfl, this.1, this.2⟩
theorem MpE.size (h : MpE enc ok w b es clock kv) : es.size = kv.length := by
  have := congrArg List.length h.eq
  simpa using this
theorem MpE.keys (h : MpE enc ok w b es clock kv) : es.toList.map (·.key) = kv.map (fun p => enc p.1) := by
  have := congrArg (List.map Prod.fst) h.eq
  simpa [List.map_map, Function.comp_def] using this
theorem MpE.nodup (h : MpE enc ok w b es clock kv) : (kv.map Prod.fst).Nodup := by
  have h1 := h.st.2.2
  rw [h.keys] at h1
  have : (kv.map fun p => enc p.1) = (kv.map Prod.fst).map enc := by simp [List.map_map, Function.comp_def]
  rw [this] at h1
  exact (List.pairwise_map.1 h1).imp fun {a b} hab e => hab (by rw [e])
theorem Mp.nodup (h : Mp enc ok w b kv) : (kv.map Prod.fst).Nodup := by obtain ⟨_, _, h⟩ := h; exact h.nodup
theorem MpE.find (E : KE P k enc ok) (h : MpE enc ok w b es clock kv) {a : α} (ha : ok a) (w' : World) :
    ((Instr.findKey k (enc a) es.toList).run P w' = .ok none w' ∧ look kv a = none) ∨
    ∃ j e, (Instr.findKey k (enc a) es.toList).run P w' = .ok (some (j, e.val)) w' ∧ es[j]? = some e ∧ e.key = enc a ∧ kv[j]? = some (a, e.val) ∧ look kv a = some e.val := by
  obtain ⟨l, hl⟩ := E.lit a ha
  have hk : ∀ e ∈ es.toList, ∃ l, keyOf P k e.key = some l := by
    intro e he
    obtain ⟨j, hj⟩ := List.getElem?_of_mem he
    obtain ⟨p, hp, h1, _⟩ := h.get (by simpa using hj)
    rw [h1]
    exact E.lit _ (h.oks _ (List.mem_of_getElem? hp))
  rcases E.K.find w' hl es.toList hk with ⟨h1, h2⟩ | ⟨j, e, h1, h2, h3⟩
  · refine .inl ⟨h1, look_none.2 fun p hp e => ?_⟩
    obtain ⟨j, hj⟩ := List.getElem?_of_mem hp
    obtain ⟨e', he', h4, _⟩ := h.put hj
    rw [e] at h4
    exact h2 e' (List.mem_of_getElem? (by simpa using he')) h4
  · obtain ⟨p, hp, h4, h5⟩ := h.get (by simpa using h2)
    have : p.1 = a := E.inj _ _ (by rw [← h4, h3])
    have hpe : p = (a, e.val) := by rw [h5, ← this]
    subst hpe
    exact .inr ⟨j, e, h1, by simpa using h2, h3, hp, (look_some h.nodup).2 (List.mem_of_getElem? hp)⟩

theorem Touch.setBlock (w : World) (b : Nat) (o : Obj) : Touch [b] w (setBlock w b o) :=
  ⟨rfl, rfl, rfl, by simp [Go.ChangeMaps.setBlock], fun k hk hn => by
    simp only [List.mem_singleton] at hn
    simp [Go.ChangeMaps.setBlock, Array.getElem?_setIfInBounds, Ne.symm hn]⟩
theorem setBlock_size (w : World) (b : Nat) (o : Obj) : (setBlock w b o).heap.size = w.heap.size := by simp [setBlock]

theorem MpE.touch {S : List Nat} {w' : World} (h : MpE enc ok w b es clock kv) (t : Touch S w w') (hb : b ∉ S) : MpE enc ok w' b es clock kv := ⟨t.at h.blk hb, h.st, h.eq, h.oks⟩
theorem Mp.touch {S : List Nat} {w' : World} (h : Mp enc ok w b kv) (t : Touch S w w') (hb : b ∉ S) : Mp enc ok w' b kv := by
  obtain ⟨es, clock, h⟩ := h
  exact ⟨es, clock, h.touch t hb⟩
theorem Mp.lt (h : Mp enc ok w b kv) : b < w.heap.size := by
  obtain ⟨es, clock, h⟩ := h
  exact (Array.getElem?_eq_some_iff.1 h.blk).1
theorem Mp.made (w : World) : Mp enc ok (w.alloc (.map #[] 0)) w.heap.size [] := ⟨#[], 0, heap_alloc_new w _, Go.MapKept.stamped_empty 0, by simp, by simp⟩

theorem Mp.lookup (E : KE P k enc ok) {t e : TypeId} (ht : P.underlying t = some (.map k e)) {z : Value} (hz : (zeroValue e).run P w = .ok z w) (h : Mp enc ok w b kv) {a : α} (ha : ok a) (c : Bool) :
    (Instr.lookup t (.map (some b)) (enc a) c).run P w = .ok (if c then .tuple #[(look kv a).getD z, .bool (look kv a).isSome] else (look kv a).getD z) w := by
  obtain ⟨es, clock, h⟩ := h
  obtain ⟨l, hl⟩ := E.lit a ha
  rcases h.find E ha w with ⟨h1, h2⟩ | ⟨j, e0, h1, _, _, _, h2⟩
  · simp [Instr.lookup, run_underlying ht, MapKept.run_getObj_map h.blk, E.K.check w _ hl, h1, hz, Result.andThen, h2]
  · simp [Instr.lookup, run_underlying ht, MapKept.run_getObj_map h.blk, E.K.check w _ hl, h1, Result.andThen, h2]

theorem MpE.push (E : KE P k enc ok) (h : MpE enc ok w b es clock kv) {a : α} (ha : ok a) (hn : look kv a = none) (v : Value) :
    MpE enc ok (setBlock w b (.map (es.push ⟨enc a, v, clock⟩) (clock + 1))) b (es.push ⟨enc a, v, clock⟩) (clock + 1) (kv ++ [(a, v)]) := by
  refine ⟨heap_setBlock_same h.blk _, Go.MapKept.stamped_push h.st fun x hx e => ?_, by simp [h.eq], ?_⟩
  · obtain ⟨j, hj⟩ := List.getElem?_of_mem hx
    obtain ⟨p, hp, h4, _⟩ := h.get (by simpa using hj)
    exact look_none.1 hn p (List.mem_of_getElem? hp) (E.inj _ _ (by rw [← h4, e]))
  · intro p hp
    rcases List.mem_append.1 hp with hp | hp
    · exact h.oks p hp
    · simp at hp; subst hp; exact ha

theorem Mp.store (E : KE P k enc ok) {t e : TypeId} (ht : P.underlying t = some (.map k e)) (h : Mp enc ok w b kv) {a : α} (ha : ok a) (v : Value) :
    ∃ w', (Instr.mapUpdate t (.map (some b)) (enc a) v).run P w = .ok () w' ∧ Mp enc ok w' b (put kv a v) ∧ Touch [b] w w' ∧ w'.heap.size = w.heap.size := by
  obtain ⟨es, clock, h⟩ := h
  obtain ⟨l, hl⟩ := E.lit a ha
  rcases h.find E ha w with ⟨h1, h2⟩ | ⟨j, e0, h1, hj, h3, hkj, h2⟩
  · refine ⟨setBlock w b (.map (es.push ⟨enc a, v, clock⟩) (clock + 1)), by simp [Instr.mapUpdate, run_underlying ht, MapKept.run_getObj_map h.blk, E.K.check w false hl, h1, MapKept.run_setObj_map _ h.blk, Result.andThen, setBlock], ⟨es.push ⟨enc a, v, clock⟩, clock + 1, ?_⟩, Touch.setBlock w b _, setBlock_size _ _ _⟩
    simp only [Go.Proofs.Ytpbabdoecjlifaa.put, h2, Option.isSome_none, Bool.false_eq_true, if_false]
    exact h.push E ha h2 v
  · have hlist : (es.modify j (fun e' => { e' with key := enc a, val := v })).toList = es.toList.set j { e0 with key := enc a, val := v } := by rw [Array.toList_modify, Go.ChangeMaps.modify_eq_set _ _ _ _ (by simpa using hj)]
    refine ⟨setBlock w b (.map (es.modify j (fun e' => { e' with key := enc a, val := v })) clock), by simp [Instr.mapUpdate, run_underlying ht, MapKept.run_getObj_map h.blk, E.K.check w false hl, h1, hj, h3, E.K.stays w hl, MapKept.run_setObj_map _ h.blk, Result.andThen, setBlock], ⟨es.modify j (fun e' => { e' with key := enc a, val := v }), clock, heap_setBlock_same h.blk _, Go.MapKept.stamped_modify h.st _ _ (fun _ _ => rfl) (fun e' _ he' => by rw [hj] at he'; cases he'; exact h3.symm), ?_, ?_⟩, Touch.setBlock w b _, setBlock_size _ _ _⟩
    · rw [hlist, List.map_set, h.eq]
      simp only [Go.Proofs.Ytpbabdoecjlifaa.put, h2, Option.isSome_some, if_true]
      apply List.ext_getElem?
      intro i
      rw [List.getElem?_set]
      by_cases hij : j = i
      · subst hij
        have hjl : j < kv.length := (List.getElem?_eq_some_iff.1 hkj).1
        have hkj2 := (List.getElem?_eq_some_iff.1 hkj).2
        simp [hjl, hkj2]
      · simp only [hij, if_false, List.getElem?_map]
        cases hi : kv[i]? with
        | none => simp
        | some p =>
          have hne : p.1 ≠ a := by
            intro e
            have hnd := h.nodup
            have e1 : (kv.map Prod.fst)[i]? = some a := by simp [hi, e]
            have e2 : (kv.map Prod.fst)[j]? = some a := by simp [hkj]
            obtain ⟨l1, q1⟩ := List.getElem?_eq_some_iff.1 e1
            obtain ⟨l2, q2⟩ := List.getElem?_eq_some_iff.1 e2
            exact hij (nodup_inj hnd (q2.trans q1.symm))
          simp [hne]
    · intro p hp
      simp only [Go.Proofs.Ytpbabdoecjlifaa.put, h2, Option.isSome_some, if_true] at hp
      obtain ⟨q, hq, rfl⟩ := List.mem_map.1 hp
      split
      · exact ha
      · exact h.oks q hq

theorem Mp.drop (E : KE P k enc ok) {t e : TypeId} (ht : P.underlying t = some (.map k e)) (h : Mp enc ok w b kv) {a : α} (ha : ok a) (ty : TypeId) :
    ∃ w', (Builtin.delete_ #[t, k] ty #[.map (some b), enc a]).run P w = .ok (.tuple #[]) w' ∧ Mp enc ok w' b (del kv a) ∧ Touch [b] w w' ∧ w'.heap.size = w.heap.size := by
  obtain ⟨es, clock, h⟩ := h
  obtain ⟨l, hl⟩ := E.lit a ha
  rcases h.find E ha w with ⟨h1, h2⟩ | ⟨j, e0, h1, hj, h3, hkj, h2⟩
  · have hd : del kv a = kv := by
      unfold del
      rw [List.filter_eq_self]
      intro p hp
      simpa using look_none.1 h2 p hp
    rw [hd]
    exact ⟨setBlock w b (.map es clock), by simp [Builtin.delete_, run_underlying ht, MapKept.run_getObj_map h.blk, E.K.check w _ hl, h1, MapKept.run_setObj_map _ h.blk, Result.andThen, setBlock], ⟨es, clock, heap_setBlock_same h.blk _, h.st, h.eq, h.oks⟩, Touch.setBlock w b _, setBlock_size _ _ _⟩
  · have hjs : j < es.size := (Array.getElem?_eq_some_iff.1 hj).1
    have hsub : (es.eraseIdxIfInBounds j).toList = es.toList.eraseIdx j := by
      unfold Array.eraseIdxIfInBounds
      rw [dif_pos hjs]
      simp
    have hd : del kv a = kv.eraseIdx j := by
      unfold del
      refine Go.ChangeMaps.filter_eq_eraseIdx (fun p => decide (p.1 = a)) kv j (a, e0.val) hkj (by simp) ?_
      have := h.nodup
      rw [List.Nodup, List.pairwise_map] at this
      refine this.imp fun {p q} hpq hh => ?_
      simp only [decide_eq_true_eq] at hh
      exact hpq (hh.1.trans hh.2.symm)
    rw [hd]
    refine ⟨setBlock w b (.map (es.eraseIdxIfInBounds j) clock), by simp [Builtin.delete_, run_underlying ht, MapKept.run_getObj_map h.blk, E.K.check w _ hl, h1, MapKept.run_setObj_map _ h.blk, Result.andThen, setBlock], ⟨es.eraseIdxIfInBounds j, clock, heap_setBlock_same h.blk _, Go.MapKept.stamped_erase h.st j, ?_, ?_⟩, Touch.setBlock w b _, setBlock_size _ _ _⟩
    · rw [hsub, Go.ChangeMaps.map_eraseIdx, h.eq, Go.ChangeMaps.map_eraseIdx]
    · intro p hp
      exact h.oks p ((List.eraseIdx_sublist _ _).subset hp)

theorem Mp.len {t e : TypeId} (ht : P.underlying t = some (.map k e)) (h : Mp enc ok w b kv) (ty : TypeId) :
    (Builtin.len_ #[t] ty #[.map (some b)]).run P w = .ok (.int .i64 kv.length) w := by
  obtain ⟨es, clock, h⟩ := h
  simp [Builtin.len_, run_underlying ht, MapKept.run_getObj_map h.blk, Result.andThen, h.size, goInt]

/-- m[k] = f(..) at a key that is not there: its two halves. -/
theorem MpE.entry (E : KE P k enc ok) {t e : TypeId} (ht : P.underlying t = some (.map k e)) {z : Value} (hz : (zeroValue e).run P w = .ok z w) (h : MpE enc ok w b es clock kv) {a : α} (ha : ok a) (hn : look kv a = none) :
    (Instr.mapEntry t (.map (some b)) (enc a)).run P w = .ok (.tuple #[z, .int .i64 clock]) (setBlock w b (.map (es.push ⟨enc a, z, clock⟩) (clock + 1))) := by
  obtain ⟨l, hl⟩ := E.lit a ha
  rcases h.find E ha w with ⟨h1, h2⟩ | ⟨j, e0, h1, hj, h3, hkj, h2⟩
  · simp [Instr.mapEntry, run_underlying ht, MapKept.run_getObj_map h.blk, E.K.check w false hl, h1, hz, MapKept.run_setObj_map _ h.blk, Result.andThen, goInt, setBlock]
  · rw [hn] at h2; cases h2
theorem MpE.entryW (E : KE P k enc ok) {t e : TypeId} (ht : P.underlying t = some (.map k e)) {z : Value} (hz : (zeroValue e).run P w = .ok z w) (h : MpE enc ok w b es clock kv) {a : α} (ha : ok a) (hn : look kv a = none) :
    ∃ w', (Instr.mapEntry t (.map (some b)) (enc a)).run P w = .ok (.tuple #[z, .int .i64 clock]) w' ∧ MpE enc ok w' b (es.push ⟨enc a, z, clock⟩) (clock + 1) (kv ++ [(a, z)]) ∧ Touch [b] w w' ∧ w'.heap.size = w.heap.size :=
  ⟨_, h.entry E ht hz ha hn, h.push E ha hn z, Touch.setBlock w b _, setBlock_size _ _ _⟩
theorem MpE.fill (E : KE P k enc ok) {t : TypeId} {z : Value} {a : α} (hs : Stamped es clock) (h : MpE enc ok w b (es.push ⟨enc a, z, clock⟩) (clock + 1) (kv ++ [(a, z)])) (v : Value) :
    ∃ w', (Instr.entryStore t (.map (some b)) (.int .i64 clock) v).run P w = .ok () w' ∧ MpE enc ok w' b (es.push ⟨enc a, v, clock⟩) (clock + 1) (kv ++ [(a, v)]) ∧ Touch [b] w w' ∧ w'.heap.size = w.heap.size := by
  have hf : (es.push ⟨enc a, z, clock⟩).findIdx? (fun e => (e.born : Int) == (clock : Int)) = some es.size := by
    rw [Array.findIdx?_eq_some_iff_getElem]
    refine ⟨by simp, by simp, fun j hj => ?_⟩
    have := hs.1 (es[j]) (by simp)
    simp [Array.getElem_push_lt hj]
    omega
  have hm : (es.push ⟨enc a, z, clock⟩).modify es.size (fun e => { e with val := v }) = es.push ⟨enc a, v, clock⟩ := by
    apply Array.ext_getElem?
    intro i
    rw [Array.getElem?_modify]
    by_cases hi : es.size = i
    · subst hi; simp
    · simp only [hi, if_false, Array.getElem?_push]
      split
      · rename_i h1; exact absurd h1.symm hi
      · rfl
  refine ⟨setBlock w b (.map (es.push ⟨enc a, v, clock⟩) (clock + 1)), by simp [Instr.entryStore, MapKept.run_getObj_map h.blk, asInt, asIntOf, hf, hm, MapKept.run_setObj_map _ h.blk, Result.andThen, setBlock], ⟨heap_setBlock_same h.blk _, ?_, ?_, ?_⟩, Touch.setBlock w b _, setBlock_size _ _ _⟩
  · have := Go.MapKept.stamped_modify h.st es.size (fun e => { e with val := v }) (fun _ _ => rfl) (fun _ _ _ => rfl)
    rw [hm] at this
    exact this
  · have := h.eq
    simp at this ⊢
    exact this
  · intro p hp
    rcases List.mem_append.1 hp with hp | hp
    · exact h.oks p (List.mem_append_left _ hp)
    · simp at hp; subst hp; exact h.oks (a, z) (by simp)

/-! ### ranging over a map that no round writes -/
/-- Block r is an iterator over the map in block b; the entries at the places S have come. -/
def It (w : World) (r b : Nat) (es : Array MapEntry) (clock : Nat) (S : List Nat) : Prop :=
  ∃ seen : Array Nat, w.heap[r]? = some (.mapIter (some b) clock seen clock) ∧ (∀ j e, es[j]? = some e → (e.born ∈ seen.toList ↔ j ∈ S)) ∧ S.Nodup ∧ ∀ j ∈ S, j < es.size
theorem It.touch {w w' : World} {r : Nat} {S : List Nat} {T : List Nat} (h : It w r b es clock S) (t : Touch T w w') (hr : r ∉ T) : It w' r b es clock S := by
  obtain ⟨seen, h1, h2⟩ := h
  exact ⟨seen, t.at h1 hr, h2⟩
theorem It.lt {r : Nat} {S : List Nat} (h : It w r b es clock S) : r < w.heap.size := by
  obtain ⟨seen, h1, _⟩ := h
  exact (Array.getElem?_eq_some_iff.1 h1).1
theorem MpE.range {t e : TypeId} (ht : P.underlying t = some (.map k e)) (h : MpE enc ok w b es clock kv) :
    (Instr.range t (.map (some b))).run P w = .ok (.pointer (some ⟨w.heap.size, 0, none⟩)) (w.alloc (.mapIter (some b) clock #[] clock)) ∧ It (w.alloc (.mapIter (some b) clock #[] clock)) w.heap.size b es clock [] := by
  refine ⟨?_, ⟨#[], heap_alloc_new w _, by simp, by simp, by simp⟩⟩
  simp [Instr.range, run_underlying ht, MapKept.run_getObj_map h.blk, Result.andThen]
theorem born_inj (hs : Stamped es clock) {i j : Nat} {e e' : MapEntry} (hi : es[i]? = some e) (hj : es[j]? = some e') (hb : e.born = e'.born) : i = j := by
  have e1 : (es.toList.map (·.born))[i]? = some e.born := by simp [hi]
  have e2 : (es.toList.map (·.born))[j]? = some e.born := by simp [hj, hb]
  obtain ⟨l1, q1⟩ := List.getElem?_eq_some_iff.1 e1
  obtain ⟨l2, q2⟩ := List.getElem?_eq_some_iff.1 e2
  exact nodup_inj hs.2.1 (q1.trans q2.symm)
theorem MpE.next (h : MpE enc ok w b es clock kv) {r : Nat} {S : List Nat} (hi : It w r b es clock S) (hrb : r ≠ b) (ty : TypeId) :
    ((∀ j < kv.length, j ∈ S) ∧ (Instr.next (.pointer (some ⟨r, 0, none⟩)) false ty).run P w = .ok (.tuple #[.bool false]) w) ∨
    ∃ j p w', j ∉ S ∧ kv[j]? = some p ∧ (Instr.next (.pointer (some ⟨r, 0, none⟩)) false ty).run P w = .ok (.tuple #[.bool true, enc p.1, p.2]) w' ∧ Touch [r] w w' ∧ w'.heap.size = w.heap.size ∧ It w' r b es clock (S ++ [j]) ∧
      (Instr.entry (.pointer (some ⟨r, 0, none⟩))).run P w' = .ok (.tuple #[enc p.1, p.2]) w' := by
  obtain ⟨seen, h1, h2, h3, h4⟩ := hi
  rcases run_next_at (P := P) w ty r b clock clock seen es clock h1 h.blk (fun x hx => h.st.1 x hx) (Nat.le_refl _) with ⟨h5, h6⟩ | ⟨e, he, w1, hw1, hrun⟩
  · refine .inl ⟨fun j hj => ?_, h6⟩
    rw [← h.size] at hj
    have hje : es[j]? = some es[j] := Array.getElem?_eq_getElem hj
    rw [← h2 j _ hje]
    have hem : leftOf es seen = #[] := Array.eq_empty_of_size_eq_zero h5
    unfold leftOf at hem
    rw [Array.filter_eq_empty_iff] at hem
    have := hem es[j] (by simp)
    simpa using this
  · right
    unfold leftOf at he
    simp at he
    obtain ⟨hm, hns⟩ := he
    obtain ⟨j, hj⟩ := Array.getElem?_of_mem hm
    obtain ⟨p, hp, hk1, hv1⟩ := h.get hj
    have hjS : j ∉ S := by
      rw [← h2 j e hj]
      simpa using hns
    have hr1 : w1.heap[r]? = some (.mapIter (some b) clock seen clock) := by rcases hw1 with rfl | rfl <;> exact h1
    have t1 : Touch [r] w w1 := by
      rcases hw1 with rfl | rfl
      · exact Touch.refl _ _
      · exact (Touch.refl _ _).drew
    have z1 : w1.heap.size = w.heap.size := by rcases hw1 with rfl | rfl <;> rfl
    have t2 : Touch [r] w (setBlock w1 r (.mapIter (some b) clock (seen.push e.born) clock)) := t1.trans (Touch.setBlock w1 r _) (by simp)
    have hlt : r < w1.heap.size := (Array.getElem?_eq_some_iff.1 hr1).1
    have hr2 : (setBlock w1 r (.mapIter (some b) clock (seen.push e.born) clock)).heap[r]? = some (.mapIter (some b) clock (seen.push e.born) clock) := by
      simp [setBlock, hlt]
    refine ⟨j, p, _, hjS, hp, by rw [hrun, hk1, hv1], t2, by rw [setBlock_size, z1], ⟨_, hr2, ?_, ?_, ?_⟩, ?_⟩
    · intro i e' he'
      simp only [Array.toList_push, List.mem_append, List.mem_singleton]
      rw [h2 i e' he']
      constructor
      · rintro (q | q)
        · exact .inl q
        · exact .inr (born_inj h.st he' hj q)
      · rintro (q | q)
        · exact .inl q
        · subst q
          rw [hj] at he'
          cases he'
          exact .inr rfl
    · exact List.nodup_append.2 ⟨h3, by simp, by intro a ha c hc; simp at hc; subst hc; intro e; exact hjS (e ▸ ha)⟩
    · intro i hi
      rcases List.mem_append.1 hi with q | q
      · exact h4 i q
      · simp at q; subst q; exact (Array.getElem?_eq_some_iff.1 hj).1
    · have hb2 := t2.at h.blk (by simpa using hrb.symm)
      rw [run_entry_at (P := P) _ r b clock seen es clock e hr2 hb2 (by simpa using hm) h.st.2.1, hk1, hv1]
theorem few_of_lt : ∀ (n : Nat) (S : List Nat), S.Nodup → (∀ j ∈ S, j < n) → S.length ≤ n
  | 0, S, _, h => by
    cases S with
    | nil => simp
    | cons a r => exact absurd (h a List.mem_cons_self) (by omega)
  | n + 1, S, hn, h => by
    by_cases hm : n ∈ S
    · have h1 := few_of_lt n (S.erase n) (hn.erase n) (fun j hj => by
        have := (List.Nodup.mem_erase_iff hn).1 hj
        have := h j this.2
        omega)
      rw [List.length_erase_of_mem hm] at h1
      omega
    · have := few_of_lt n S hn (fun j hj => by
        have := h j hj
        have : j ≠ n := fun e => hm (e ▸ hj)
        omega)
      omega
/-- What has come, the places S having come. -/
def came {β : Type} (l : List β) (S : List Nat) : List β := S.filterMap fun j => l[j]?
theorem came_snoc {β : Type} {l : List β} {S : List Nat} {j : Nat} {p : β} (h : l[j]? = some p) : came l (S ++ [j]) = came l S ++ [p] := by simp [came, h]
theorem came_len {β : Type} {l : List β} {S : List Nat} (h : ∀ j ∈ S, j < l.length) : (came l S).length = S.length := by
  induction S with
  | nil => rfl
  | cons a r ih =>
    have ha := h a List.mem_cons_self
    unfold came at ih ⊢
    rw [List.filterMap_cons, List.getElem?_eq_getElem ha]
    simp [ih (fun j hj => h j (List.mem_cons_of_mem _ hj))]
theorem came_all {β : Type} {l : List β} {S : List Nat} (hn : S.Nodup) (h : ∀ j ∈ S, j < l.length) (ha : ∀ j < l.length, j ∈ S) : (came l S).Perm l := by
  have hp : S.Perm (List.range l.length) := (List.perm_ext_iff_of_nodup hn List.nodup_range).2 fun a => by
    rw [List.mem_range]
    exact ⟨h a, ha a⟩
  have h1 : (came l S).Perm (came l (List.range l.length)) := hp.filterMap _
  have h2 : came l (List.range l.length) = l := by
    unfold came
    have : ∀ n, n ≤ l.length → (List.range n).filterMap (fun j => l[j]?) = l.take n := by
      intro n
      induction n with
      | zero => intro _; simp
      | succ n ih =>
        intro hnl
        rw [List.range_succ, List.filterMap_append, ih (by omega), List.take_add_one]
        simp [List.filterMap_cons, List.getElem?_eq_getElem (show n < l.length by omega)]
    rw [this _ (Nat.le_refl _), List.take_length]
  rw [h2] at h1
  exact h1
theorem It.nodup {r : Nat} {S : List Nat} (h : It w r b es clock S) : S.Nodup := by obtain ⟨_, _, _, h, _⟩ := h; exact h
theorem It.bound (hm : MpE enc ok w b es clock kv) {r : Nat} {S : List Nat} {w' : World} (h : It w' r b es clock S) : ∀ j ∈ S, j < kv.length := by
  obtain ⟨_, _, _, _, h⟩ := h
  intro j hj
  rw [← hm.size]
  exact h j hj
end
end Go.Proofs.Ytpbabdoecjlifaa

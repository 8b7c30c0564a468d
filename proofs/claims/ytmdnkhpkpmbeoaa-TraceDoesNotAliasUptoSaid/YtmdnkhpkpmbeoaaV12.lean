/-
  The statement 'TraceDoesNotAliasUptoSaid' of the seat: the frame of the row round the walk of the law's Go function (YtmdnkhpkpmbeoaaWk5): for every input of bulk at most the row's own bound the call returns true and each argument reads as it did.
-/
import Derived.Test.YtmdnkhpkpmbeoaaV11
import Derived.Deep.Slices
import Derived.OpenShut
import Derived.WideShapes
import Derived.Test.YtmdnkhpkpmbeoaaRows
import Derived.WalkKit
import Derived.ProofKit
import Derived.ShutString
import Derived.ChangeOld
import Derived.Below
import Derived.JoinedCond

/-
  A slice or a struct that came in, of elements whose type is flat but for its leaves (structs and arrays taken apart, whatever else is a leaf): every cell of it lies in memory and reads by its own leaf's type. Over any program; no condition of our own.
-/
namespace Go.Proofs.Ytmdnkhpkpmbeoaa
open Go.ChangeShapes Go.WideShapes Go.Deep
set_option linter.unusedVariables false
set_option linter.unusedSimpArgs false

def flatFs (P : Program) (f : TypeId → Option (List TypeId)) : List Field → Nat → Option (List TypeId)
  | [], _ => some []
  | x :: r, off => if x.offset = off then (f x.type).bind fun l => if l.length = P.cellsOf x.type then (flatFs P f r (off + l.length)).map (l ++ ·) else none else none

/-- The leaves of a type, cell by cell. -/
def flatT (P : Program) : Nat → TypeId → Option (List TypeId)
  | 0, _ => none
  | d + 1, t => match P.underlying t with
    | some (.struct fs) => (flatFs P (flatT P d) fs.toList 0).bind fun l => if l.length = P.cellsOf t then some l else none
    | some (.array n e) => (flatT P d e).bind fun l => if l.length = P.cellsOf e ∧ n * l.length = P.cellsOf t then some (List.replicate n l).flatten else none
    | _ => some [t]

section
variable {H : Type} {enc : TypeId × Value → H} {P : Program} {w : World} {base : Nat} {spare : Nat → Bool} {held : Bool}

/-- The value v reads by its own type t. -/
def Leaf (enc : TypeId × Value → H) (P : Program) (w : World) (base : Nat) (spare : Nat → Bool) (held : Bool) (t : TypeId) (v : Value) : Prop := ∃ m y, DataW.trod enc P w base spare held m t [v] = some y

theorem leaf_one {t : TypeId} {fuel : Nat} {cs : List Value} {x : DataW H × List MemPlace} (hs : ∀ fs, P.underlying t ≠ some (.struct fs)) (ha : ∀ n e, P.underlying t ≠ some (.array n e))
    (h : DataW.trod enc P w base spare held fuel t cs = some x) : ∃ v, cs = [v] := by
  cases fuel with
  | zero => simp [DataW.trod] at h
  | succ m =>
    unfold DataW.trod at h
    split at h <;> first
      | exact ⟨_, rfl⟩
      | (rename_i h1; exact absurd h1 (hs _))
      | (rename_i h1; exact absurd h1 (ha _ _))
      | simp at h

/-- What the reading of a value of type t says of its cells. -/
def CellsOk (enc : TypeId × Value → H) (P : Program) (w : World) (base : Nat) (spare : Nat → Bool) (held : Bool) (ts : List TypeId) (cs : List Value) : Prop :=
  cs.length = ts.length ∧ ∀ (i : Nat) (t : TypeId), ts[i]? = some t → ∃ v, cs[i]? = some v ∧ Leaf enc P w base spare held t v

theorem flatFs_ok {f : TypeId → Option (List TypeId)} {cs : List Value} (hrec : ∀ t cs x m ts, f t = some ts → DataW.trod enc P w base spare held m t cs = some x → CellsOk enc P w base spare held ts cs) :
    ∀ (l : List Field) (off : Nat) (ts : List TypeId), flatFs P f l off = some ts →
      (∀ fd ∈ l, ∃ m x, DataW.trod enc P w base spare held m fd.type ((cs.drop fd.offset).take (P.cellsOf fd.type)) = some x) →
      ∀ (i : Nat) (t : TypeId), ts[i]? = some t → ∃ v, cs[off + i]? = some v ∧ Leaf enc P w base spare held t v := by
  intro l
  induction l with
  | nil => intro off ts h _ i t hi; simp [flatFs] at h; subst h; simp at hi
  | cons fd r ih =>
    intro off ts h hall i t hi
    simp only [flatFs] at h
    split at h
    · rename_i ho
      obtain ⟨l1, h1, h2⟩ := Option.bind_eq_some_iff.1 h
      split at h2
      · rename_i hl
        obtain ⟨l2, h3, rfl⟩ := Option.map_eq_some_iff.1 h2
        obtain ⟨m, x, hx⟩ := hall fd (List.mem_cons_self)
        obtain ⟨k1, k2⟩ := hrec _ _ _ _ _ h1 hx
        by_cases hlt : i < l1.length
        · rw [List.getElem?_append_left hlt] at hi
          obtain ⟨v, hv, hleaf⟩ := k2 i t hi
          refine ⟨v, ?_, hleaf⟩
          rw [List.getElem?_take] at hv
          split at hv
          · rw [List.getElem?_drop, ho] at hv
            exact hv
          · cases hv
        · rw [List.getElem?_append_right (by omega)] at hi
          obtain ⟨v, hv, hleaf⟩ := ih _ _ h3 (fun fd' hfd => hall fd' (List.mem_cons_of_mem _ hfd)) _ _ hi
          exact ⟨v, by rw [← hv]; congr 1; omega, hleaf⟩
      · cases h2
    · cases h

theorem getElem?_flatten_replicate {α : Type} (l : List α) (n i : Nat) : (List.replicate n l).flatten[i]? = if i < n * l.length then l[i % l.length]? else none := by
  induction n generalizing i with
  | zero => simp
  | succ n ih =>
    rw [List.replicate_succ, List.flatten_cons]
    by_cases h : i < l.length
    · rw [List.getElem?_append_left h, Nat.mod_eq_of_lt h, if_pos]
      rw [Nat.succ_mul]; omega
    · rw [List.getElem?_append_right (by omega), ih]
      have e : (i - l.length) % l.length = i % l.length := by
        rw [← Nat.mod_eq_sub_mod (by omega)]
      rw [e]
      by_cases h2 : i - l.length < n * l.length
      · rw [if_pos h2, if_pos (by rw [Nat.succ_mul]; omega)]
      · rw [if_neg h2, if_neg (by rw [Nat.succ_mul]; omega)]

theorem flat_ok : ∀ (d : Nat) (t : TypeId) (cs : List Value) (x : DataW H × List MemPlace) (m : Nat) (ts : List TypeId), flatT P d t = some ts →
    DataW.trod enc P w base spare held m t cs = some x → CellsOk enc P w base spare held ts cs := by
  intro d
  induction d with
  | zero => intro t cs x m ts h; simp [flatT] at h
  | succ d ih =>
    intro t cs x m ts h hx
    simp only [flatT] at h
    split at h
    · rename_i fs hfs
      obtain ⟨l, h1, h2⟩ := Option.bind_eq_some_iff.1 h
      split at h2
      · rename_i hl
        obtain rfl := Option.some.inj h2
        obtain ⟨xs, k, _, _, hcl, hxl, hf⟩ := DataW.trod_struct hfs hx
        refine ⟨by rw [hcl, hl], ?_⟩
        have := flatFs_ok (cs := cs) ih fs.toList 0 l h1 (fun fd hfd => by
          obtain ⟨i, hi, rfl⟩ := List.getElem_of_mem hfd
          have h3 := hf i (fs.toList[i]) (by simp)
          rw [List.getElem?_eq_getElem (by rw [hxl]; simpa using hi)] at h3
          exact ⟨_, _, h3⟩)
        intro i t hi
        have := this i t hi
        simpa using this
      · cases h2
    · rename_i n e hne
      obtain ⟨l, h1, h2⟩ := Option.bind_eq_some_iff.1 h
      split at h2
      · rename_i hl
        obtain rfl := Option.some.inj h2
        obtain ⟨xs, k, _, _, hcl, hxl, hf⟩ := DataW.trod_array hne hx
        refine ⟨by rw [hcl, ← hl.2]; simp, ?_⟩
        intro i t hi
        rw [getElem?_flatten_replicate] at hi
        split at hi
        · rename_i hlt
          have hpos : 0 < l.length := by
            rcases Nat.eq_zero_or_pos l.length with h0 | h0
            · rw [h0] at hlt; omega
            · exact h0
          have hq : i / l.length < n := (Nat.div_lt_iff_lt_mul hpos).2 hlt
          have h3 := hf (i / l.length) hq
          rw [List.getElem?_eq_getElem (by rw [hxl]; exact hq)] at h3
          obtain ⟨_, k2⟩ := ih _ _ _ _ _ h1 h3
          obtain ⟨v, hv, hleaf⟩ := k2 _ _ hi
          refine ⟨v, ?_, hleaf⟩
          rw [List.getElem?_take] at hv
          split at hv
          · rw [List.getElem?_drop, ← hl.1] at hv
            rw [← hv]
            congr 1
            rw [Nat.mul_comm]
            exact (Nat.div_add_mod i l.length).symm
          · cases hv
        · cases hi
      · cases h2
    · rename_i hns hna
      obtain rfl := Option.some.inj h
      obtain ⟨v, rfl⟩ := leaf_one (fun fs hfs => hns fs hfs) (fun n e he => hna n e he) hx
      refine ⟨rfl, ?_⟩
      intro i t' hi
      match i, hi with
      | 0, hi => simp at hi; subst hi; exact ⟨v, rfl, m, x, hx⟩

theorem Leaf.int {t : TypeId} {k : IntKind} {v : Value} (ht : P.underlying t = some (.int k)) (h : Leaf enc P w base spare held t v) : ∃ n, v = .int k n ∧ (Lit.int k n).wf = true := by
  obtain ⟨m, y, h⟩ := h
  obtain ⟨n, h1, _, h2⟩ := DataW.trod_int ht h
  exact ⟨n, by simpa using h1, h2⟩
theorem Leaf.bool {t : TypeId} {v : Value} (ht : P.underlying t = some .bool) (h : Leaf enc P w base spare held t v) : ∃ b, v = .bool b := by
  obtain ⟨m, y, h⟩ := h
  obtain ⟨n, h1, _⟩ := DataW.trod_bool ht h
  exact ⟨n, by simpa using h1⟩
theorem Leaf.string {t : TypeId} {v : Value} (ht : P.underlying t = some .string) (h : Leaf enc P w base spare held t v) : ∃ s : ByteArray, v = .string s ∧ s.size ≤ maxLen := by
  obtain ⟨m, y, h⟩ := h
  obtain ⟨s, h1, _, h2⟩ := DataW.trod_string ht h
  exact ⟨s, by simpa using h1, h2⟩

/-- A slice that came in: nil; or 'cap' elements lie at ⟨b, off⟩, each of as many cells as its type has leaves. -/
def IsSlice (enc : TypeId × Value → H) (P : Program) (w : World) (base : Nat) (spare : Nat → Bool) (held : Bool) (ts : List TypeId) (v : Value) : Prop :=
  v = .slice none 0 0 ∨ ∃ (a : Addr) (len cap : Nat), v = .slice (some a) len cap ∧ len ≤ cap ∧ cap ≤ maxLen ∧
    ∀ i j t, i < len → ts[j]? = some t → ∃ u, w.cell? (a.add (i * ts.length + j)) = some u ∧ Leaf enc P w base spare held t u

theorem slice_ok {t e : TypeId} {fuel d : Nat} {v : Value} {x : DataW H × List MemPlace} {ts : List TypeId} (ht : P.underlying t = some (.slice e)) (hts : flatT P d e = some ts) (hn : ts.length = P.cellsOf e)
    (h : DataW.trod enc P w base spare held fuel t [v] = some x) : IsSlice enc P w base spare held ts v := by
  rcases open_slice ht h with ⟨h0, _⟩ | ⟨a, len, cap, m, n, D, Pl, h0, hb, hl, hm, hmm, _, hx⟩
  · exact .inl (by simpa using h0)
  · refine .inr ⟨a, len, cap, by simpa using h0, hl, hm, fun i j t' hi hj => ?_⟩
    obtain ⟨cs', h1, h2⟩ := hx i (by rw [hmm]; split <;> omega)
    obtain ⟨k1, k2⟩ := flat_ok d e cs' _ n ts hts h2
    obtain ⟨u, hu, hleaf⟩ := k2 j t' hj
    obtain ⟨_, hlen, hcell⟩ := World.cells?_some h1
    refine ⟨u, ?_, hleaf⟩
    have hjlt : j < ts.length := (List.getElem?_eq_some_iff.1 hj).1
    have := hcell j (by omega)
    rw [add_add, ← hn] at this
    rw [this, hu]

/-- .. with the address taken apart, where it has an element. -/
theorem IsSlice.at {ts : List TypeId} {v : Value} (h : IsSlice enc P w base spare held ts v) (hpos : 0 < ts.length) :
    ∃ (a : Option Addr) (len cap : Nat), v = .slice a len cap ∧ len ≤ cap ∧ cap ≤ maxLen ∧
      (len = 0 ∨ ∃ b off, a = some ⟨b, off, none⟩ ∧ ∀ i j t, i < len → ts[j]? = some t → ∃ u, w.cell? ⟨b, off + (i * ts.length + j), none⟩ = some u ∧ Leaf enc P w base spare held t u) := by
  rcases h with rfl | ⟨a, len, cap, rfl, hl, hm, hc⟩
  · exact ⟨none, 0, 0, rfl, Nat.le_refl _, by simp [maxLen], .inl rfl⟩
  · refine ⟨some a, len, cap, rfl, hl, hm, ?_⟩
    by_cases h0 : len = 0
    · exact .inl h0
    · right
      obtain ⟨b, off, spot⟩ := a
      obtain ⟨u, hu, _⟩ := hc 0 0 (ts[0]) (by omega) (by simp)
      have hs : spot = none := by simpa [Addr.add] using World.cell?_spot hu
      subst hs
      refine ⟨b, off, rfl, fun i j t hi hj => ?_⟩
      obtain ⟨u, hu, hleaf⟩ := hc i j t hi hj
      exact ⟨u, by rw [Addr.add_lit] at hu; exact hu, hleaf⟩

theorem okWide_struct {r : Reach} {t : TypeId} {fs : Array Field} {v : Value} (ht : P.underlying t = some (.struct fs)) (h : Value.okWide P w r base t v) : ∃ cs, v = .agg cs := by
  simp only [Value.okWide, ht] at h
  obtain ⟨cs, hv, _⟩ := h
  exact ⟨cs, hv⟩
theorem okWide_array {r : Reach} {t n e : Nat} {v : Value} (ht : P.underlying t = some (.array n e)) (h : Value.okWide P w r base t v) : ∃ cs, v = .agg cs := by
  simp only [Value.okWide, ht] at h
  obtain ⟨cs, hv, _⟩ := h
  exact ⟨cs, hv⟩

/-- A struct or an array by value. -/
theorem agg_ok {t : TypeId} {fuel d : Nat} {cs : Array Value} {x : DataW H × List MemPlace} {ts : List TypeId} (hts : flatT P d t = some ts)
    (h : DataW.trod enc P w base spare held fuel t cs.toList = some x) : CellsOk enc P w base spare held ts cs.toList := flat_ok d t _ _ _ _ hts h
end
end Go.Proofs.Ytmdnkhpkpmbeoaa

/-
  A slice of flat elements that came in, with its bulk: no string of it is longer than the reading's bulk.
-/
namespace Go.Proofs.Ytmdnkhpkpmbeoaa
open Go.ChangeShapes Go.WideShapes Go.Deep
set_option linter.unusedVariables false
set_option linter.unusedSimpArgs false

theorem bulk_part_le {H : Type} {d : DataW H} {l : List (DataW H)} (h : d ∈ l) : Rows.uptoBulk d ≤ Rows.uptoBulkAll l := by
  induction l with
  | nil => cases h
  | cons x r ih =>
    simp only [Rows.uptoBulkAll]
    cases List.mem_cons.1 h with
    | inl e => subst e; omega
    | inr e => have := ih e; omega
theorem bulk_one {H : Type} (d : DataW H) : 1 ≤ Rows.uptoBulk d := by
  cases d with
  | lit l => cases l <;> simp [Rows.uptoBulk]
  | nil => simp [Rows.uptoBulk]
  | ptr d => simp [Rows.uptoBulk]
  | slice elems spare => simp [Rows.uptoBulk]
  | agg parts => simp [Rows.uptoBulk]
  | iface t d => simp [Rows.uptoBulk]
  | map entries => simp [Rows.uptoBulk]
  | held h => simp [Rows.uptoBulk]
theorem bulk_len {H : Type} (l : List (DataW H)) : l.length ≤ Rows.uptoBulkAll l := by
  induction l with
  | nil => simp [Rows.uptoBulkAll]
  | cons x r ih => have := bulk_one x; simp only [Rows.uptoBulkAll, List.length_cons]; omega
theorem bulk_part {H : Type} {N : Nat} {y : DataW H × List MemPlace} {xs : List (DataW H × List MemPlace)} (h : y ∈ xs) (hb : Rows.uptoBulk (.agg (xs.map (·.1))) ≤ N) : Rows.uptoBulk y.1 ≤ N := by
  have := bulk_part_le (List.mem_map.2 ⟨y, h, rfl⟩ : y.1 ∈ xs.map (·.1))
  simp only [Rows.uptoBulk] at hb
  omega
section
variable {H : Type} {enc : TypeId × Value → H} {P : Program} {w : World} {base : Nat} {spare : Nat → Bool} {held : Bool} {N : Nat}
def LeafB (N : Nat) (enc : TypeId × Value → H) (P : Program) (w : World) (base : Nat) (spare : Nat → Bool) (held : Bool) (t : TypeId) (v : Value) : Prop := ∃ m y, DataW.trod enc P w base spare held m t [v] = some y ∧ Rows.uptoBulk y.1 ≤ N
def CellsB (N : Nat) (enc : TypeId × Value → H) (P : Program) (w : World) (base : Nat) (spare : Nat → Bool) (held : Bool) (ts : List TypeId) (cs : List Value) : Prop :=
  cs.length = ts.length ∧ ∀ (i : Nat) (t : TypeId), ts[i]? = some t → ∃ v, cs[i]? = some v ∧ LeafB N enc P w base spare held t v
theorem flatFs_b {f : TypeId → Option (List TypeId)} {cs : List Value} (hrec : ∀ t cs x m ts, f t = some ts → DataW.trod enc P w base spare held m t cs = some x → Rows.uptoBulk x.1 ≤ N → CellsB N enc P w base spare held ts cs) :
    ∀ (l : List Field) (off : Nat) (ts : List TypeId), flatFs P f l off = some ts →
      (∀ fd ∈ l, ∃ m x, DataW.trod enc P w base spare held m fd.type ((cs.drop fd.offset).take (P.cellsOf fd.type)) = some x ∧ Rows.uptoBulk x.1 ≤ N) →
      ∀ (i : Nat) (t : TypeId), ts[i]? = some t → ∃ v, cs[off + i]? = some v ∧ LeafB N enc P w base spare held t v := by
  intro l
  induction l with
  | nil => intro off ts h _ i t hi; simp [flatFs] at h; subst h; simp at hi
  | cons fd r ih =>
    intro off ts h hall i t hi
    simp only [flatFs] at h
    split at h
    · rename_i ho
      obtain ⟨l1, h1, h2⟩ := Option.bind_eq_some_iff.1 h
      split at h2
      · rename_i hl
        obtain ⟨l2, h3, rfl⟩ := Option.map_eq_some_iff.1 h2
        obtain ⟨m, x, hx, hxb⟩ := hall fd (List.mem_cons_self)
        obtain ⟨k1, k2⟩ := hrec _ _ _ _ _ h1 hx hxb
        by_cases hlt : i < l1.length
        · rw [List.getElem?_append_left hlt] at hi
          obtain ⟨v, hv, hleaf⟩ := k2 i t hi
          refine ⟨v, ?_, hleaf⟩
          rw [List.getElem?_take] at hv
          split at hv
          · rw [List.getElem?_drop, ho] at hv
            exact hv
          · cases hv
        · rw [List.getElem?_append_right (by omega)] at hi
          obtain ⟨v, hv, hleaf⟩ := ih _ _ h3 (fun fd' hfd => hall fd' (List.mem_cons_of_mem _ hfd)) _ _ hi
          exact ⟨v, by rw [← hv]; congr 1; omega, hleaf⟩
      · cases h2
    · cases h

theorem flat_b : ∀ (d : Nat) (t : TypeId) (cs : List Value) (x : DataW H × List MemPlace) (m : Nat) (ts : List TypeId), flatT P d t = some ts →
    DataW.trod enc P w base spare held m t cs = some x → Rows.uptoBulk x.1 ≤ N → CellsB N enc P w base spare held ts cs := by
  intro d
  induction d with
  | zero => intro t cs x m ts h; simp [flatT] at h
  | succ d ih =>
    intro t cs x m ts h hx hxb
    simp only [flatT] at h
    split at h
    · rename_i fs hfs
      obtain ⟨l, h1, h2⟩ := Option.bind_eq_some_iff.1 h
      split at h2
      · rename_i hl
        obtain rfl := Option.some.inj h2
        obtain ⟨xs, k, _, hxe, hcl, hxl, hf⟩ := DataW.trod_struct hfs hx
        refine ⟨by rw [hcl, hl], ?_⟩
        have := flatFs_b (cs := cs) ih fs.toList 0 l h1 (fun fd hfd => by
          obtain ⟨i, hi, rfl⟩ := List.getElem_of_mem hfd
          have h3 := hf i (fs.toList[i]) (by simp)
          rw [List.getElem?_eq_getElem (by rw [hxl]; simpa using hi)] at h3
          exact ⟨_, _, h3, Nat.le_trans (bulk_part (List.getElem_mem _) (by rw [hxe] at hxb; exact hxb)) (Nat.le_refl _)⟩)
        intro i t hi
        have := this i t hi
        simpa using this
      · cases h2
    · rename_i n e hne
      obtain ⟨l, h1, h2⟩ := Option.bind_eq_some_iff.1 h
      split at h2
      · rename_i hl
        obtain rfl := Option.some.inj h2
        obtain ⟨xs, k, _, hxe, hcl, hxl, hf⟩ := DataW.trod_array hne hx
        refine ⟨by rw [hcl, ← hl.2]; simp, ?_⟩
        intro i t hi
        rw [getElem?_flatten_replicate] at hi
        split at hi
        · rename_i hlt
          have hpos : 0 < l.length := by
            rcases Nat.eq_zero_or_pos l.length with h0 | h0
            · rw [h0] at hlt; omega
            · exact h0
          have hq : i / l.length < n := (Nat.div_lt_iff_lt_mul hpos).2 hlt
          have h3 := hf (i / l.length) hq
          rw [List.getElem?_eq_getElem (by rw [hxl]; exact hq)] at h3
          obtain ⟨_, k2⟩ := ih _ _ _ _ _ h1 h3 (bulk_part (List.getElem_mem _) (by rw [hxe] at hxb; exact hxb))
          obtain ⟨v, hv, hleaf⟩ := k2 _ _ hi
          refine ⟨v, ?_, hleaf⟩
          rw [List.getElem?_take] at hv
          split at hv
          · rw [List.getElem?_drop, ← hl.1] at hv
            rw [← hv]
            congr 1
            rw [Nat.mul_comm]
            exact (Nat.div_add_mod i l.length).symm
          · cases hv
        · cases hi
      · cases h2
    · rename_i hns hna
      obtain rfl := Option.some.inj h
      obtain ⟨v, rfl⟩ := leaf_one (fun fs hfs => hns fs hfs) (fun n e he => hna n e he) hx
      refine ⟨rfl, ?_⟩
      intro i t' hi
      match i, hi with
      | 0, hi => simp at hi; subst hi; exact ⟨v, rfl, m, x, hx, hxb⟩

theorem LeafB.leaf {t : TypeId} {v : Value} (h : LeafB N enc P w base spare held t v) : Leaf enc P w base spare held t v := by
  obtain ⟨m, y, h, _⟩ := h
  exact ⟨m, y, h⟩
theorem LeafB.string {t : TypeId} {v : Value} (ht : P.underlying t = some .string) (h : LeafB N enc P w base spare held t v) : ∃ s : ByteArray, v = .string s ∧ s.size ≤ N := by
  obtain ⟨m, y, h, hb⟩ := h
  obtain ⟨s, h1, h2, _⟩ := DataW.trod_string ht h
  refine ⟨s, by simpa using h1, ?_⟩
  rw [h2] at hb
  simp only [Rows.uptoBulk, Array.length_toList] at hb
  have : s.data.size = s.size := rfl
  omega
def IsSliceB (N : Nat) (enc : TypeId × Value → H) (P : Program) (w : World) (base : Nat) (spare : Nat → Bool) (held : Bool) (ts : List TypeId) (v : Value) : Prop :=
  v = .slice none 0 0 ∨ ∃ (a : Addr) (len cap : Nat), v = .slice (some a) len cap ∧ len ≤ cap ∧ cap ≤ maxLen ∧ len ≤ N ∧
    ∀ i j t, i < len → ts[j]? = some t → ∃ u, w.cell? (a.add (i * ts.length + j)) = some u ∧ LeafB N enc P w base spare held t u
theorem slice_b {t e : TypeId} {fuel d : Nat} {v : Value} {x : DataW H × List MemPlace} {ts : List TypeId} (ht : P.underlying t = some (.slice e)) (hts : flatT P d e = some ts) (hn : ts.length = P.cellsOf e)
    (h : DataW.trod enc P w base spare held fuel t [v] = some x) (hb0 : Rows.uptoBulk x.1 ≤ N) : IsSliceB N enc P w base spare held ts v := by
  rcases open_slice ht h with ⟨h0, _⟩ | ⟨a, len, cap, m, n, D, Pl, h0, hb, hl, hm, hmm, hxe, hx⟩
  · exact .inl (by simpa using h0)
  · rw [hxe] at hb0
    simp only [Rows.uptoBulk] at hb0
    refine .inr ⟨a, len, cap, by simpa using h0, hl, hm, ?_, fun i j t' hi hj => ?_⟩
    · have h1 := bulk_len ((List.range len).map D)
      simp only [List.length_map, List.length_range] at h1
      omega
    · obtain ⟨cs', h1, h2⟩ := hx i (by rw [hmm]; split <;> omega)
      obtain ⟨k1, k2⟩ := flat_b d e cs' _ n ts hts h2 (by have h3 := bulk_part_le (List.mem_map.2 ⟨i, List.mem_range.2 hi, rfl⟩ : D i ∈ (List.range len).map D); show Rows.uptoBulk (D i) ≤ N; omega)
      obtain ⟨u, hu, hleaf⟩ := k2 j t' hj
      obtain ⟨_, hlen, hcell⟩ := World.cells?_some h1
      refine ⟨u, ?_, hleaf⟩
      have hjlt : j < ts.length := (List.getElem?_eq_some_iff.1 hj).1
      have := hcell j (by omega)
      rw [add_add, ← hn] at this
      rw [this, hu]
end
theorem slice_rowsB {H : Type} {enc : TypeId × Value → H} {P : Program} {w : World} {base : Nat} {spare : Nat → Bool} {held : Bool} {ts : List TypeId} {v : Value} {N : Nat} (hpos : 0 < ts.length) (hv : IsSliceB N enc P w base spare held ts v) :
    ∃ b xs, Rd w ts.length b v xs ∧ xs.length ≤ N ∧ ∀ x ∈ xs, CellsB N enc P w base spare held ts x := by
  rcases hv with rfl | ⟨a, len, cap, rfl, hl, hm, hN, hc⟩
  · exact ⟨0, [], ⟨none, 0, rfl, Nat.le_refl _, by simp [maxLen], fun _ => rfl, fun h => absurd rfl h⟩, by simp, by simp⟩
  · obtain ⟨b, off, spot⟩ := a
    let el : Nat → List Value := fun i => (List.range ts.length).map fun j => (w.cell? ((⟨b, off, spot⟩ : Addr).add (i * ts.length + j))).getD undef
    have hel : ∀ i j, j < ts.length → (el i)[j]? = some ((w.cell? ((⟨b, off, spot⟩ : Addr).add (i * ts.length + j))).getD undef) := by
      intro i j hj
      simp [el, hj]
    refine ⟨b, (List.range len).map el, ⟨some ⟨b, off, spot⟩, cap, by simp, by simpa using hl, hm, (by intro h; cases h), fun hne => ?_⟩, by simpa using hN, ?_⟩
    · have h0 : 0 < len := by
        rcases Nat.eq_zero_or_pos len with h | h
        · subst h; simp at hne
        · exact h
      obtain ⟨u, hu, _⟩ := hc 0 0 (ts[0]) h0 (by simp)
      have hs : spot = none := by simpa [Addr.add] using World.cell?_spot hu
      subst hs
      refine ⟨off, rfl, fun i x hx => ?_⟩
      intro j u hj
      have hi : i < len := by
        have := (List.getElem?_eq_some_iff.1 hx).1
        simpa using this
      obtain rfl : el i = x := by simpa [hi] using hx
      have hjl : j < ts.length := by
        have := (List.getElem?_eq_some_iff.1 hj).1
        simpa [el] using this
      rw [hel i j hjl] at hj
      obtain ⟨u', hu', _⟩ := hc i j (ts[j]) hi (by simp [hjl])
      rw [hu'] at hj
      simp at hj
      subst hj
      rw [Addr.add_lit] at hu'
      rw [Nat.add_assoc]
      exact hu'
    · intro x hx
      obtain ⟨i, hi, rfl⟩ := List.mem_map.1 hx
      have hi' : i < len := by simpa using hi
      refine ⟨by simp [el], fun j t ht => ?_⟩
      obtain ⟨u, hu, hleaf⟩ := hc i j t hi' ht
      have hjl : j < ts.length := (List.getElem?_eq_some_iff.1 ht).1
      exact ⟨u, by rw [hel i j hjl, hu]; rfl, hleaf⟩
end Go.Proofs.Ytmdnkhpkpmbeoaa

/-
  Outputs that came in.
-/
namespace Go.Proofs.Ytmdnkhpkpmbeoaa
open Go.RowKit Go.ChangeShapes Go.WideShapes Go.Deep
set_option linter.unusedVariables false
set_option linter.unusedSimpArgs false

theorem twentythree {α : Type} (l : List α) (h : l.length = 23) : ∃ x0 x1 x2 x3 x4 x5 x6 x7 x8 x9 x10 x11 x12 x13 x14 x15 x16 x17 x18 x19 x20 x21 x22, l = [x0, x1, x2, x3, x4, x5, x6, x7, x8, x9, x10, x11, x12, x13, x14, x15, x16, x17, x18, x19, x20, x21, x22] := by
  match l, h with
  | [x0, x1, x2, x3, x4, x5, x6, x7, x8, x9, x10, x11, x12, x13, x14, x15, x16, x17, x18, x19, x20, x21, x22], _ => exact ⟨_, _, _, _, _, _, _, _, _, _, _, _, _, _, _, _, _, _, _, _, _, _, _, rfl⟩
theorem u8_range {x : Int} (h : (Lit.int .u8 x).wf = true) : 0 ≤ x ∧ x ≤ 255 := by
  simp [Lit.wf, IntKind.min, IntKind.max, IntKind.signed, IntKind.bits] at h
  omega
def tsO : List TypeId := [3, 3, 3, 9, 4, 5, 5, 5, 5, 5, 5, 5, 5, 5, 5, 5, 5, 5, 5, 5, 5, 3, 4]
set_option maxRecDepth 100000 in
set_option maxHeartbeats 4000000 in
theorem out_of {H : Type} {enc : TypeId × Value → H} {w : World} {x : List Value} (h : CellsB 1048576 enc Try.prog w 0 (fun _ => true) true [3, 3, 3, 9, 4, 5, 5, 5, 5, 5, 5, 5, 5, 5, 5, 5, 5, 5, 5, 5, 5, 3, 4] x) : ∃ o, OkO o ∧ x = encO o := by
  obtain ⟨hl, hc⟩ := h
  obtain ⟨v0, e0, l0⟩ := hc 0 3 rfl
  obtain ⟨v1, e1, l1⟩ := hc 1 3 rfl
  obtain ⟨v2, e2, l2⟩ := hc 2 3 rfl
  obtain ⟨v3, e3, l3⟩ := hc 3 9 rfl
  obtain ⟨v4, e4, l4⟩ := hc 4 4 rfl
  obtain ⟨v5, e5, l5⟩ := hc 5 5 rfl
  obtain ⟨v6, e6, l6⟩ := hc 6 5 rfl
  obtain ⟨v7, e7, l7⟩ := hc 7 5 rfl
  obtain ⟨v8, e8, l8⟩ := hc 8 5 rfl
  obtain ⟨v9, e9, l9⟩ := hc 9 5 rfl
  obtain ⟨v10, e10, l10⟩ := hc 10 5 rfl
  obtain ⟨v11, e11, l11⟩ := hc 11 5 rfl
  obtain ⟨v12, e12, l12⟩ := hc 12 5 rfl
  obtain ⟨v13, e13, l13⟩ := hc 13 5 rfl
  obtain ⟨v14, e14, l14⟩ := hc 14 5 rfl
  obtain ⟨v15, e15, l15⟩ := hc 15 5 rfl
  obtain ⟨v16, e16, l16⟩ := hc 16 5 rfl
  obtain ⟨v17, e17, l17⟩ := hc 17 5 rfl
  obtain ⟨v18, e18, l18⟩ := hc 18 5 rfl
  obtain ⟨v19, e19, l19⟩ := hc 19 5 rfl
  obtain ⟨v20, e20, l20⟩ := hc 20 5 rfl
  obtain ⟨v21, e21, l21⟩ := hc 21 3 rfl
  obtain ⟨v22, e22, l22⟩ := hc 22 4 rfl
  obtain ⟨x0, x1, x2, x3, x4, x5, x6, x7, x8, x9, x10, x11, x12, x13, x14, x15, x16, x17, x18, x19, x20, x21, x22, rfl⟩ := twentythree x hl
  simp only [List.getElem?_cons_zero, List.getElem?_cons_succ, Option.some.injEq] at e0 e1 e2 e3 e4 e5 e6 e7 e8 e9 e10 e11 e12 e13 e14 e15 e16 e17 e18 e19 e20 e21 e22
  subst e0 e1 e2 e3 e4 e5 e6 e7 e8 e9 e10 e11 e12 e13 e14 e15 e16 e17 e18 e19 e20 e21 e22
  obtain ⟨a0, rfl, w0⟩ := Leaf.int Try.underlying3 l0.leaf
  obtain ⟨a1, rfl, w1⟩ := Leaf.int Try.underlying3 l1.leaf
  obtain ⟨a2, rfl, w2⟩ := Leaf.int Try.underlying3 l2.leaf
  obtain ⟨a3, rfl, w3⟩ := LeafB.string Try.underlying9 l3
  obtain ⟨a4, rfl⟩ := Leaf.bool Try.underlying4 l4.leaf
  obtain ⟨a5, rfl, w5⟩ := Leaf.int Try.underlying5 l5.leaf
  obtain ⟨a6, rfl, w6⟩ := Leaf.int Try.underlying5 l6.leaf
  obtain ⟨a7, rfl, w7⟩ := Leaf.int Try.underlying5 l7.leaf
  obtain ⟨a8, rfl, w8⟩ := Leaf.int Try.underlying5 l8.leaf
  obtain ⟨a9, rfl, w9⟩ := Leaf.int Try.underlying5 l9.leaf
  obtain ⟨a10, rfl, w10⟩ := Leaf.int Try.underlying5 l10.leaf
  obtain ⟨a11, rfl, w11⟩ := Leaf.int Try.underlying5 l11.leaf
  obtain ⟨a12, rfl, w12⟩ := Leaf.int Try.underlying5 l12.leaf
  obtain ⟨a13, rfl, w13⟩ := Leaf.int Try.underlying5 l13.leaf
  obtain ⟨a14, rfl, w14⟩ := Leaf.int Try.underlying5 l14.leaf
  obtain ⟨a15, rfl, w15⟩ := Leaf.int Try.underlying5 l15.leaf
  obtain ⟨a16, rfl, w16⟩ := Leaf.int Try.underlying5 l16.leaf
  obtain ⟨a17, rfl, w17⟩ := Leaf.int Try.underlying5 l17.leaf
  obtain ⟨a18, rfl, w18⟩ := Leaf.int Try.underlying5 l18.leaf
  obtain ⟨a19, rfl, w19⟩ := Leaf.int Try.underlying5 l19.leaf
  obtain ⟨a20, rfl, w20⟩ := Leaf.int Try.underlying5 l20.leaf
  obtain ⟨a21, rfl, w21⟩ := Leaf.int Try.underlying3 l21.leaf
  obtain ⟨a22, rfl⟩ := Leaf.bool Try.underlying4 l22.leaf
  refine ⟨⟨a0, a1, a2, a3, adr a4 [a5, a6, a7, a8, a9, a10, a11, a12, a13, a14, a15, a16, a17, a18, a19, a20], a21, a22⟩, ⟨w0, w1, w2, w21, w3, ⟨a4, [a5, a6, a7, a8, a9, a10, a11, a12, a13, a14, a15, a16, a17, a18, a19, a20], rfl, rfl, ?_⟩⟩, rfl⟩
  intro y hy
  simp only [List.mem_cons, List.not_mem_nil, or_false] at hy
  rcases hy with rfl | rfl | rfl | rfl | rfl | rfl | rfl | rfl | rfl | rfl | rfl | rfl | rfl | rfl | rfl | rfl
  · exact u8_range w5
  · exact u8_range w6
  · exact u8_range w7
  · exact u8_range w8
  · exact u8_range w9
  · exact u8_range w10
  · exact u8_range w11
  · exact u8_range w12
  · exact u8_range w13
  · exact u8_range w14
  · exact u8_range w15
  · exact u8_range w16
  · exact u8_range w17
  · exact u8_range w18
  · exact u8_range w19
  · exact u8_range w20
theorem outs_of {H : Type} {enc : TypeId × Value → H} {w : World} : ∀ {xs : List (List Value)}, (∀ x ∈ xs, CellsB 1048576 enc Try.prog w 0 (fun _ => true) true [3, 3, 3, 9, 4, 5, 5, 5, 5, 5, 5, 5, 5, 5, 5, 5, 5, 5, 5, 5, 5, 3, 4] x) → ∃ l : List O, (∀ o ∈ l, OkO o) ∧ xs = rO l
  | [], _ => ⟨[], by simp, rfl⟩
  | x :: xs, h => by
    obtain ⟨o, ho, rfl⟩ := out_of (h x List.mem_cons_self)
    obtain ⟨l, hl, rfl⟩ := outs_of (fun x hx => h x (List.mem_cons_of_mem _ hx))
    exact ⟨o :: l, by intro y hy; rcases List.mem_cons.1 hy with rfl | hy; exact ho; exact hl y hy, rfl⟩
theorem outs_in {H : Type} {enc : TypeId × Value → H} {w : World} {v : Value} (hv : IsSliceB 1048576 enc Try.prog w 0 (fun _ => true) true [3, 3, 3, 9, 4, 5, 5, 5, 5, 5, 5, 5, 5, 5, 5, 5, 5, 5, 5, 5, 5, 3, 4] v) : ∃ b l, Rd w 23 b v (rO l) ∧ (∀ o ∈ l, OkO o) ∧ l.length ≤ 1048576 := by
  obtain ⟨b, xs, hr, hn, hx⟩ := slice_rowsB (by simp) hv
  obtain ⟨l, hl, rfl⟩ := outs_of hx
  exact ⟨b, l, hr, hl, by rwa [rO_len] at hn⟩
end Go.Proofs.Ytmdnkhpkpmbeoaa

/-
  A slice that came in, with a bulk of its own for every row: the rows' bulks together are no more than the reading's.
-/
namespace Go.Proofs.Ytmdnkhpkpmbeoaa
open Go.ChangeShapes Go.WideShapes Go.Deep
set_option linter.unusedVariables false
set_option linter.unusedSimpArgs false

theorem bulk_all_sum {H : Type} (f : Nat → DataW H) : ∀ l : List Nat, Rows.uptoBulkAll (l.map f) = (l.map fun i => Rows.uptoBulk (f i)).sum
  | [] => by simp [Rows.uptoBulkAll]
  | x :: l => by simp [Rows.uptoBulkAll, bulk_all_sum f l]
section
variable {H : Type} {enc : TypeId × Value → H} {P : Program} {w : World} {base : Nat} {spare : Nat → Bool} {held : Bool} {N : Nat}
def IsSliceBs (N : Nat) (enc : TypeId × Value → H) (P : Program) (w : World) (base : Nat) (spare : Nat → Bool) (held : Bool) (ts : List TypeId) (v : Value) : Prop :=
  v = .slice none 0 0 ∨ ∃ (a : Addr) (len cap : Nat) (bud : Nat → Nat), v = .slice (some a) len cap ∧ len ≤ cap ∧ cap ≤ maxLen ∧ len ≤ N ∧ ((List.range len).map bud).sum ≤ N ∧
    ∀ i j t, i < len → ts[j]? = some t → ∃ u, w.cell? (a.add (i * ts.length + j)) = some u ∧ LeafB (bud i) enc P w base spare held t u
theorem slice_bs {t e : TypeId} {fuel d : Nat} {v : Value} {x : DataW H × List MemPlace} {ts : List TypeId} (ht : P.underlying t = some (.slice e)) (hts : flatT P d e = some ts) (hn : ts.length = P.cellsOf e)
    (h : DataW.trod enc P w base spare held fuel t [v] = some x) (hb0 : Rows.uptoBulk x.1 ≤ N) : IsSliceBs N enc P w base spare held ts v := by
  rcases open_slice ht h with ⟨h0, _⟩ | ⟨a, len, cap, m, n, D, Pl, h0, hb, hl, hm, hmm, hxe, hx⟩
  · exact .inl (by simpa using h0)
  · rw [hxe] at hb0
    simp only [Rows.uptoBulk] at hb0
    refine .inr ⟨a, len, cap, fun i => Rows.uptoBulk (D i), by simpa using h0, hl, hm, ?_, ?_, fun i j t' hi hj => ?_⟩
    · have h1 := bulk_len ((List.range len).map D)
      simp only [List.length_map, List.length_range] at h1
      omega
    · have h1 := bulk_all_sum D (List.range len)
      omega
    · obtain ⟨cs', h1, h2⟩ := hx i (by rw [hmm]; split <;> omega)
      obtain ⟨k1, k2⟩ := flat_b d e cs' _ n ts hts h2 (Nat.le_refl _)
      obtain ⟨u, hu, hleaf⟩ := k2 j t' hj
      obtain ⟨_, hlen, hcell⟩ := World.cells?_some h1
      refine ⟨u, ?_, hleaf⟩
      have hjlt : j < ts.length := (List.getElem?_eq_some_iff.1 hj).1
      have := hcell j (by omega)
      rw [add_add, ← hn] at this
      rw [this, hu]
theorem LeafB.mono {M : Nat} {t : TypeId} {v : Value} (h : LeafB N enc P w base spare held t v) (hM : N ≤ M) : LeafB M enc P w base spare held t v := by
  obtain ⟨m, y, h1, h2⟩ := h
  exact ⟨m, y, h1, Nat.le_trans h2 hM⟩
theorem CellsB.mono {M : Nat} {ts : List TypeId} {cs : List Value} (h : CellsB N enc P w base spare held ts cs) (hM : N ≤ M) : CellsB M enc P w base spare held ts cs :=
  ⟨h.1, fun i t hi => by obtain ⟨v, h1, h2⟩ := h.2 i t hi; exact ⟨v, h1, h2.mono hM⟩⟩
end
theorem slice_rowsBs {H : Type} {enc : TypeId × Value → H} {P : Program} {w : World} {base : Nat} {spare : Nat → Bool} {held : Bool} {ts : List TypeId} {v : Value} {N : Nat} (hpos : 0 < ts.length) (hv : IsSliceBs N enc P w base spare held ts v) :
    ∃ (b : Nat) (ys : List (Nat × List Value)), Rd w ts.length b v (ys.map (·.2)) ∧ ys.length ≤ N ∧ (ys.map (·.1)).sum ≤ N ∧ ∀ y ∈ ys, CellsB y.1 enc P w base spare held ts y.2 := by
  rcases hv with rfl | ⟨a, len, cap, bud, rfl, hl, hm, hN, hsum, hc⟩
  · exact ⟨0, [], ⟨none, 0, rfl, Nat.le_refl _, by simp [maxLen], fun _ => rfl, fun h => absurd rfl h⟩, by simp, by simp, by simp⟩
  · obtain ⟨b, off, spot⟩ := a
    let el : Nat → List Value := fun i => (List.range ts.length).map fun j => (w.cell? ((⟨b, off, spot⟩ : Addr).add (i * ts.length + j))).getD undef
    have hel : ∀ i j, j < ts.length → (el i)[j]? = some ((w.cell? ((⟨b, off, spot⟩ : Addr).add (i * ts.length + j))).getD undef) := by
      intro i j hj
      simp [el, hj]
    have hm2 : ((List.range len).map fun i => (bud i, el i)).map (·.2) = (List.range len).map el := by simp
    refine ⟨b, (List.range len).map fun i => (bud i, el i), ?_, by simpa using hN, ?_, ?_⟩
    · rw [hm2]
      refine ⟨some ⟨b, off, spot⟩, cap, by simp, by simpa using hl, hm, (by intro h; cases h), fun hne => ?_⟩
      have h0 : 0 < len := by
        rcases Nat.eq_zero_or_pos len with h | h
        · subst h; simp at hne
        · exact h
      obtain ⟨u, hu, _⟩ := hc 0 0 (ts[0]) h0 (by simp)
      have hs : spot = none := by simpa [Addr.add] using World.cell?_spot hu
      subst hs
      refine ⟨off, rfl, fun i x hx => ?_⟩
      intro j u hj
      have hi : i < len := by
        have := (List.getElem?_eq_some_iff.1 hx).1
        simpa using this
      obtain rfl : el i = x := by simpa [hi] using hx
      have hjl : j < ts.length := by
        have := (List.getElem?_eq_some_iff.1 hj).1
        simpa [el] using this
      rw [hel i j hjl] at hj
      obtain ⟨u', hu', _⟩ := hc i j (ts[j]) hi (by simp [hjl])
      rw [hu'] at hj
      simp at hj
      subst hj
      rw [Addr.add_lit] at hu'
      rw [Nat.add_assoc]
      exact hu'
    · have : ((List.range len).map fun i => (bud i, el i)).map (·.1) = (List.range len).map bud := by simp
      rw [this]
      exact hsum
    · intro y hy
      obtain ⟨i, hi, rfl⟩ := List.mem_map.1 hy
      have hi' : i < len := by simpa using hi
      refine ⟨by simp [el], fun j t ht => ?_⟩
      obtain ⟨u, hu, hleaf⟩ := hc i j t hi' ht
      have hjl : j < ts.length := (List.getElem?_eq_some_iff.1 ht).1
      exact ⟨u, by rw [hel i j hjl, hu]; rfl, hleaf⟩
end Go.Proofs.Ytmdnkhpkpmbeoaa

/-
  Results that came in.
-/
namespace Go.Proofs.Ytmdnkhpkpmbeoaa
open Go.RowKit Go.ChangeShapes Go.WideShapes Go.Deep
set_option linter.unusedVariables false
set_option linter.unusedSimpArgs false

section
variable {H : Type} {enc : TypeId × Value → H} {w : World}
theorem res_of {B : Nat} {x : List Value} (hB : B ≤ 1048576) (h : CellsB B enc Try.prog w 0 (fun _ => true) true [50, 3, 22] x) : ∃ r : RsV, x = encS r ∧ ((∃ b, Rd w 23 b r.s (rO r.l)) ∧ (∀ o ∈ r.l, OkO o) ∧ r.s.oneCell' = true) ∧ r.l.length ≤ B := by
  obtain ⟨hl, hc⟩ := h
  obtain ⟨v0, e0, l0⟩ := hc 0 50 rfl
  obtain ⟨v1, e1, l1⟩ := hc 1 3 rfl
  obtain ⟨v2, e2, l2⟩ := hc 2 22 rfl
  match x, hl with
  | [x0, x1, x2], _ =>
    simp only [List.getElem?_cons_zero, List.getElem?_cons_succ, Option.some.injEq] at e0 e1 e2
    subst e0 e1 e2
    obtain ⟨a0, rfl, w0⟩ := Leaf.int Try.underlying50 l0.leaf
    obtain ⟨a1, rfl, w1⟩ := Leaf.int Try.underlying3 l1.leaf
    obtain ⟨m, y, hy, hb⟩ := l2
    have hs := slice_b (ts := [3, 3, 3, 9, 4, 5, 5, 5, 5, 5, 5, 5, 5, 5, 5, 5, 5, 5, 5, 5, 5, 3, 4]) (d := 8) Try.underlying22 (by kernel_rfl) (by kernel_rfl) hy hb
    have h1 : x2.oneCell' = true := by
      rcases hs with rfl | ⟨a, len, cap, rfl, _⟩ <;> rfl
    obtain ⟨b, xs, hr, hn, hx⟩ := slice_rowsB (by simp) hs
    obtain ⟨l, hlo, rfl⟩ := outs_of (fun x hxm => (hx x hxm).mono hB)
    exact ⟨⟨a0, a1, x2, l⟩, rfl, ⟨⟨b, hr⟩, hlo, h1⟩, by rwa [rO_len] at hn⟩
theorem ress_of : ∀ {ys : List (Nat × List Value)}, (ys.map (·.1)).sum ≤ 1048576 → (∀ y ∈ ys, CellsB y.1 enc Try.prog w 0 (fun _ => true) true [50, 3, 22] y.2) → ∃ rs : List RsV, RsOK w rs ∧ ys.map (·.2) = rS rs ∧ (catS rs).length ≤ (ys.map (·.1)).sum
  | [], _, _ => ⟨[], by simp [RsOK], rfl, by simp [catS]⟩
  | y :: ys, hs, h => by
    simp only [List.map_cons, List.sum_cons] at hs
    obtain ⟨r, hr, hro, hrl⟩ := res_of (by omega) (h y List.mem_cons_self)
    obtain ⟨rs, h1, h2, h3⟩ := ress_of (by omega) (fun z hz => h z (List.mem_cons_of_mem _ hz))
    refine ⟨r :: rs, ?_, ?_, ?_⟩
    · intro q hq
      rcases List.mem_cons.1 hq with rfl | hq
      · exact hro
      · exact h1 q hq
    · simp only [List.map_cons, rS, hr]
      rw [h2]
      rfl
    · simp only [catS, List.map_cons, List.flatten_cons, List.length_append, List.sum_cons] at h3 ⊢
      omega
theorem ress_in {v : Value} (hv : IsSliceBs 1048576 enc Try.prog w 0 (fun _ => true) true [50, 3, 22] v) : ∃ b rs, Rd w 3 b v (rS rs) ∧ RsOK w rs ∧ rs.length ≤ 1048576 ∧ (catS rs).length ≤ 1048576 := by
  obtain ⟨b, ys, hr, hn, hs, hy⟩ := slice_rowsBs (by simp) hv
  obtain ⟨rs, h1, h2, h3⟩ := ress_of hs hy
  rw [h2] at hr
  refine ⟨b, rs, hr, h1, ?_, by omega⟩
  have := congrArg List.length h2
  rw [rS_len] at this
  simp at this
  omega
end
end Go.Proofs.Ytmdnkhpkpmbeoaa

/-
  The walk of TraceDoesNotAlias, over the frame's arguments.
-/
namespace Go.Proofs.Ytmdnkhpkpmbeoaa.traceDoesNotAlias
open Go.RowKit
set_option linter.unusedVariables false

theorem walk {H : Type} {enc : TypeId × Value → H} {w : World} (v : Value) (hv : IsSliceB 1048576 enc Try.prog w 0 (fun _ => true) true [3, 3, 3, 9, 4, 5, 5, 5, 5, 5, 5, 5, 5, 5, 5, 5, 5, 5, 5, 5, 5, 3, 4] v) (t : Value) (ht : IsSliceBs 1048576 enc Try.prog w 0 (fun _ => true) true [50, 3, 22] t) :
    Calls Try.prog 5 #[v, t] w fun e w' => e = .returned (.bool true) ∧ Below w.heap.size w w' := by
  obtain ⟨b, l, hr, hok, _⟩ := outs_in hv
  obtain ⟨bt, rs, hrt, hrs, hn, hc⟩ := ress_in ht
  exact (walk5 v b l t bt rs w hr hok hrt hrs (by omega) (by omega)).mono fun e w' ⟨h1, h2⟩ => ⟨h1, h2.below (by simp) (Nat.le_refl _)⟩
end Go.Proofs.Ytmdnkhpkpmbeoaa.traceDoesNotAlias

/-
  The statement 'TraceDoesNotAliasUptoSaid' of the seat: the frame of the row round the walk of the law's Go function (YtmdnkhpkpmbeoaaWk5): for every input of bulk at most the row's own bound the call returns true and each argument reads as it did.
-/
namespace Go.Proofs.Ytmdnkhpkpmbeoaa.traceDoesNotAlias
open Go.ChangeShapes Go.WideShapes Go.Deep Go.ChangeAt Go.RowKit
open Go.ChangeMaps (open_string shut_string)
set_option linter.unusedVariables false

theorem own : ownKnob Try.prog.godebug = none := by kernel_rfl
theorem laidOut : laidOutB Try.prog = true := by kernel_rfl

set_option maxRecDepth 100000 in
theorem contract (H : Type) (enc : TypeId × Value → H) (W : World) (base : Nat) (args : Array Value) (ds gs : List (DataW H)) (before : List MemPlace)
    (hval0 : ∀ (j : Nat) t v, Try.f5.params[j]? = some t → args[j]? = some v → Value.okWide Try.prog W .any base t v)
    (hW : DataW.Whole enc Try.prog Try.f5.params.toList Rows.traceDoesNotAliasSpec.vars false W args.toList ds gs before) (hk : Rows.uptoSmall H (ds ++ gs) = true) :
    Calls Try.prog 5 args W fun e W' => ∃ v, e = .returned v ∧ Rows.traceDoesNotAliasSpec.post enc Try.prog Try.f5 false true false false W args v W' := by
  have hval : ∀ (j : Nat) t v, Try.f5.params[j]? = some t → args[j]? = some v → Value.okWide Try.prog W .any base t v := hval0
  have hW' := hW
  obtain ⟨p, q, hA0, hV, rfl, hfz, hnd⟩ := hW
  have hA : DataW.TrodAll enc Try.prog W 0 (fun _ => true) true Try.f5.params.toList args.toList ds p := hA0
  rw [Try.params5] at hA hval
  obtain ⟨v0, vs0, d0, ds0, p0, q0, hargs, rfl, rfl, h0, r0⟩ := trodAll_cons hA
  obtain ⟨v1, vs1, d1, ds1, p1, q1, rfl, rfl, rfl, h1, r1⟩ := trodAll_cons r0
  obtain ⟨rfl, rfl, rfl⟩ := trodAll_nil r1
  obtain rfl : args = #[v0, v1] := by cases args; simp_all
  obtain ⟨rfl, rfl⟩ := trodVars_none hV
  have k0 := h0
  have lt0 : ∀ x ∈ p0, x.block < W.heap.size := by obtain ⟨m, hm⟩ := k0; exact DataW.trod_lt m _ _ _ hm
  have k1 := h1
  have lt1 : ∀ x ∈ p1, x.block < W.heap.size := by obtain ⟨m, hm⟩ := k1; exact DataW.trod_lt m _ _ _ hm
  obtain ⟨b0, len0, cap0, hv0⟩ := okWide_slice Try.underlying22 (hval 0 22 v0 rfl rfl)
  have s0 : IsSliceB 1048576 enc Try.prog W 0 (fun _ => true) true [3, 3, 3, 9, 4, 5, 5, 5, 5, 5, 5, 5, 5, 5, 5, 5, 5, 5, 5, 5, 5, 3, 4] v0 := by
    have hb := hk
    unfold Rows.uptoSmall at hb
    replace hb := of_decide_eq_true hb
    simp only [List.append_nil, Rows.uptoBulkAll] at hb
    obtain ⟨fuel, hf⟩ := h0
    rw [hv0] at hf ⊢
    exact slice_b (d := 8) Try.underlying22 (by kernel_rfl) (by kernel_rfl) (by simpa [Value.cells] using hf) (show Rows.uptoBulk d0 ≤ 1048576 by omega)
  obtain ⟨b1, len1, cap1, hv1⟩ := okWide_slice Try.underlying41 (hval 1 41 v1 rfl rfl)
  have s1 : IsSliceBs 1048576 enc Try.prog W 0 (fun _ => true) true [50, 3, 22] v1 := by
    have hb := hk
    unfold Rows.uptoSmall at hb
    replace hb := of_decide_eq_true hb
    simp only [List.append_nil, Rows.uptoBulkAll] at hb
    obtain ⟨fuel, hf⟩ := h1
    rw [hv1] at hf ⊢
    exact slice_bs (d := 8) Try.underlying41 (by kernel_rfl) (by kernel_rfl) (by simpa [Value.cells] using hf) (show Rows.uptoBulk d1 ≤ 1048576 by omega)
  clear hA0 hval0
  refine (walk (H := H) (enc := enc) (w := W) v0 s0 v1 s1).mono fun e W' ⟨he, bel⟩ => ?_
  subst he
  exact ⟨_, rfl, _, _, _, [], _, [], hW', trodAll_mk1 (shut_bool Try.underlying4 _), (trodAll_cons_mk (Below.trod laidOut (by kernel_rfl) (of_decide_eq_true (by kernel_rfl)) k0 bel lt0) (trodAll_cons_mk (Below.trod laidOut (by kernel_rfl) (of_decide_eq_true (by kernel_rfl)) k1 bel lt1) trodAll_mk0)), rfl, bel.frame _, fun h => by cases h⟩

set_option maxRecDepth 100000 in
theorem lifted (os : Os) (started : os.Started) (H : Type) (enc : TypeId × Value → H) (F : Stop.Interp) :
    ReturnsInHanded {} Try.checked os 5 .any ((Rows.OpenSpec.upto Rows.traceDoesNotAliasSpec).pre6 enc Try.prog Try.f5 Rows.traceDoesNotAliasUptoRow.domain false) (((Rows.OpenSpec.upto Rows.traceDoesNotAliasSpec).at F).post enc Try.prog Try.f5 false true false false) := by
  refine returnsInHanded_of_cond (C := Try.checked) (s := Rows.OpenSpec.upto Rows.traceDoesNotAliasSpec) (k := Rows.uptoSmall) rfl own started (by kernel_rfl) Try.func5
    (OpenSpec.witness (enc := enc) (C := Try.checked) (s := Rows.OpenSpec.upto Rows.traceDoesNotAliasSpec) (k := Rows.uptoSmall) rfl false ⟨#[], #[.slice none 0 0, .slice none 0 0], []⟩ 8 (by kernel_rfl) (by kernel_rfl) (by kernel_rfl)
      (x := ([.nil, .nil], [], [])) (by kernel_rfl) rfl (by kernel_rfl)) ?_
  intro W base args ds gs before hval hW _ hk _
  exact contract H enc W base args ds gs before hval hW hk

theorem proved : Rows.TraceDoesNotAliasUptoSaid :=
  OpenClaim.holds_of_cond 5 Try.f5 rfl rfl rfl rfl rfl rfl rfl ⟨rfl, rfl, rfl, rfl, rfl⟩ rfl rfl rfl rfl rfl (by kernel_rfl) Try.func5 (by kernel_rfl)
    (of_decide_eq_true (by kernel_rfl)) (by unfold Func.isWrapper; first | (rw [if_pos (by decide +kernel)]; kernel_rfl) | (rw [if_neg (by decide +kernel)]; exact ⟨rfl, rfl⟩))
    (fun os started H enc _ F => lifted os started H enc F)
#print axioms proved
end Go.Proofs.Ytmdnkhpkpmbeoaa.traceDoesNotAlias

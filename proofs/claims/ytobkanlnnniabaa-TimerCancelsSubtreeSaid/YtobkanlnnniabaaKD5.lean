/-
  Merged texts: Flat, Arg, Ar, Md, Ai, HsI, StI, CiI, SuI, SdI, HbI.
-/
import Derived.Test.YtobkanlnnniabaaKD4
import Derived.Deep.Slices
import Derived.OpenShut
import Derived.WideShapes
import Derived.IntWalk
import Derived.StillTail
import Derived.Sort.Grow

/-
  A slice or a struct that came in, of elements whose type is flat but for its leaves (structs and arrays taken apart, whatever else is a leaf): every cell of it lies in memory and reads by its own leaf's type. Over any program; no condition of our own.
-/
namespace Go.Proofs.Ytobkanlnnniabaa
open Go.ChangeShapes Go.WideShapes Go.Deep
set_option linter.unusedVariables false
set_option linter.unusedSimpArgs false

def flatFs (P : Program) (f : TypeId → Option (List TypeId)) : List Field → Nat → Option (List TypeId)
  | [], _ => some []
  | x :: r, off => if x.offset = off then (f x.type).bind fun l => if l.length = P.cellsOf x.type then (flatFs P f r (off + l.length)).map (l ++ ·) else none else none

/-- The leaves of a type, cell by cell. -/
def flatT (P : Program) : Nat → TypeId → Option (List TypeId)
  | 0, _ => none
  | d + 1, t => match P.underlying t with
    | some (.struct fs) => (flatFs P (flatT P d) fs.toList 0).bind fun l => if l.length = P.cellsOf t then some l else none
    | some (.array n e) => (flatT P d e).bind fun l => if l.length = P.cellsOf e ∧ n * l.length = P.cellsOf t then some (List.replicate n l).flatten else none
    | _ => some [t]

section
variable {H : Type} {enc : TypeId × Value → H} {P : Program} {w : World} {base : Nat} {spare : Nat → Bool} {held : Bool}

/-- The value v reads by its own type t. -/
def Leaf (enc : TypeId × Value → H) (P : Program) (w : World) (base : Nat) (spare : Nat → Bool) (held : Bool) (t : TypeId) (v : Value) : Prop := ∃ m y, DataW.trod enc P w base spare held m t [v] = some y

theorem leaf_one {t : TypeId} {fuel : Nat} {cs : List Value} {x : DataW H × List MemPlace} (hs : ∀ fs, P.underlying t ≠ some (.struct fs)) (ha : ∀ n e, P.underlying t ≠ some (.array n e))
    (h : DataW.trod enc P w base spare held fuel t cs = some x) : ∃ v, cs = [v] := by
  cases fuel with
  | zero => simp [DataW.trod] at h
  | succ m =>
    unfold DataW.trod at h
    split at h <;> first
      | exact ⟨_, rfl⟩
      | (rename_i h1; exact absurd h1 (hs _))
      | (rename_i h1; exact absurd h1 (ha _ _))
      | simp at h

/-- What the reading of a value of type t says of its cells. -/
def CellsOk (enc : TypeId × Value → H) (P : Program) (w : World) (base : Nat) (spare : Nat → Bool) (held : Bool) (ts : List TypeId) (cs : List Value) : Prop :=
  cs.length = ts.length ∧ ∀ (i : Nat) (t : TypeId), ts[i]? = some t → ∃ v, cs[i]? = some v ∧ Leaf enc P w base spare held t v

theorem flatFs_ok {f : TypeId → Option (List TypeId)} {cs : List Value} (hrec : ∀ t cs x m ts, f t = some ts → DataW.trod enc P w base spare held m t cs = some x → CellsOk enc P w base spare held ts cs) :
    ∀ (l : List Field) (off : Nat) (ts : List TypeId), flatFs P f l off = some ts →
      (∀ fd ∈ l, ∃ m x, DataW.trod enc P w base spare held m fd.type ((cs.drop fd.offset).take (P.cellsOf fd.type)) = some x) →
      ∀ (i : Nat) (t : TypeId), ts[i]? = some t → ∃ v, cs[off + i]? = some v ∧ Leaf enc P w base spare held t v := by
  intro l
  induction l with
  | nil => intro off ts h _ i t hi; simp [flatFs] at h; subst h; simp at hi
  | cons fd r ih =>
    intro off ts h hall i t hi
    simp only [flatFs] at h
    split at h
    · rename_i ho
      obtain ⟨l1, h1, h2⟩ := Option.bind_eq_some_iff.1 h
      split at h2
      · rename_i hl
        obtain ⟨l2, h3, rfl⟩ := Option.map_eq_some_iff.1 h2
        obtain ⟨m, x, hx⟩ := hall fd (List.mem_cons_self)
        obtain ⟨k1, k2⟩ := hrec _ _ _ _ _ h1 hx
        by_cases hlt : i < l1.length
        · rw [List.getElem?_append_left hlt] at hi
          obtain ⟨v, hv, hleaf⟩ := k2 i t hi
          refine ⟨v, ?_, hleaf⟩
          rw [List.getElem?_take] at hv
          split at hv
          · rw [List.getElem?_drop, ho] at hv
            exact hv
          · cases hv
        · rw [List.getElem?_append_right (by omega)] at hi
          obtain ⟨v, hv, hleaf⟩ := ih _ _ h3 (fun fd' hfd => hall fd' (List.mem_cons_of_mem _ hfd)) _ _ hi
          exact ⟨v, by rw [← hv]; congr 1; omega, hleaf⟩
      · cases h2
    · cases h

theorem getElem?_flatten_replicate {α : Type} (l : List α) (n i : Nat) : (List.replicate n l).flatten[i]? = if i < n * l.length then l[i % l.length]? else none := by
  induction n generalizing i with
  | zero => simp
  | succ n ih =>
    rw [List.replicate_succ, List.flatten_cons]
    by_cases h : i < l.length
    · rw [List.getElem?_append_left h, Nat.mod_eq_of_lt h, if_pos]
      rw [Nat.succ_mul]; omega
    · rw [List.getElem?_append_right (by omega), ih]
      have e : (i - l.length) % l.length = i % l.length := by
        rw [← Nat.mod_eq_sub_mod (by omega)]
      rw [e]
      by_cases h2 : i - l.length < n * l.length
      · rw [if_pos h2, if_pos (by rw [Nat.succ_mul]; omega)]
      · rw [if_neg h2, if_neg (by rw [Nat.succ_mul]; omega)]

theorem flat_ok : ∀ (d : Nat) (t : TypeId) (cs : List Value) (x : DataW H × List MemPlace) (m : Nat) (ts : List TypeId), flatT P d t = some ts →
    DataW.trod enc P w base spare held m t cs = some x → CellsOk enc P w base spare held ts cs := by
  intro d
  induction d with
  | zero => intro t cs x m ts h; simp [flatT] at h
  | succ d ih =>
    intro t cs x m ts h hx
    simp only [flatT] at h
    split at h
    · rename_i fs hfs
      obtain ⟨l, h1, h2⟩ := Option.bind_eq_some_iff.1 h
      split at h2
      · rename_i hl
        obtain rfl := Option.some.inj h2
        obtain ⟨xs, k, _, _, hcl, hxl, hf⟩ := DataW.trod_struct hfs hx
        refine ⟨by rw [hcl, hl], ?_⟩
        have := flatFs_ok (cs := cs) ih fs.toList 0 l h1 (fun fd hfd => by
          obtain ⟨i, hi, rfl⟩ := List.getElem_of_mem hfd
          have h3 := hf i (fs.toList[i]) (by simp)
          rw [List.getElem?_eq_getElem (by rw [hxl]; simpa using hi)] at h3
          exact ⟨_, _, h3⟩)
        intro i t hi
        have := this i t hi
        simpa using this
      · cases h2
    · rename_i n e hne
      obtain ⟨l, h1, h2⟩ := Option.bind_eq_some_iff.1 h
      split at h2
      · rename_i hl
        obtain rfl := Option.some.inj h2
        obtain ⟨xs, k, _, _, hcl, hxl, hf⟩ := DataW.trod_array hne hx
        refine ⟨by rw [hcl, ← hl.2]; simp, ?_⟩
        intro i t hi
        rw [getElem?_flatten_replicate] at hi
        split at hi
        · rename_i hlt
          have hpos : 0 < l.length := by
            rcases Nat.eq_zero_or_pos l.length with h0 | h0
            · rw [h0] at hlt; omega
            · exact h0
          have hq : i / l.length < n := (Nat.div_lt_iff_lt_mul hpos).2 hlt
          have h3 := hf (i / l.length) hq
          rw [List.getElem?_eq_getElem (by rw [hxl]; exact hq)] at h3
          obtain ⟨_, k2⟩ := ih _ _ _ _ _ h1 h3
          obtain ⟨v, hv, hleaf⟩ := k2 _ _ hi
          refine ⟨v, ?_, hleaf⟩
          rw [List.getElem?_take] at hv
          split at hv
          · rw [List.getElem?_drop, ← hl.1] at hv
            rw [← hv]
            congr 1
            rw [Nat.mul_comm]
            exact (Nat.div_add_mod i l.length).symm
          · cases hv
        · cases hi
      · cases h2
    · rename_i hns hna
      obtain rfl := Option.some.inj h
      obtain ⟨v, rfl⟩ := leaf_one (fun fs hfs => hns fs hfs) (fun n e he => hna n e he) hx
      refine ⟨rfl, ?_⟩
      intro i t' hi
      match i, hi with
      | 0, hi => simp at hi; subst hi; exact ⟨v, rfl, m, x, hx⟩

theorem Leaf.int {t : TypeId} {k : IntKind} {v : Value} (ht : P.underlying t = some (.int k)) (h : Leaf enc P w base spare held t v) : ∃ n, v = .int k n ∧ (Lit.int k n).wf = true := by
  obtain ⟨m, y, h⟩ := h
  obtain ⟨n, h1, _, h2⟩ := DataW.trod_int ht h
  exact ⟨n, by simpa using h1, h2⟩
theorem Leaf.bool {t : TypeId} {v : Value} (ht : P.underlying t = some .bool) (h : Leaf enc P w base spare held t v) : ∃ b, v = .bool b := by
  obtain ⟨m, y, h⟩ := h
  obtain ⟨n, h1, _⟩ := DataW.trod_bool ht h
  exact ⟨n, by simpa using h1⟩
theorem Leaf.string {t : TypeId} {v : Value} (ht : P.underlying t = some .string) (h : Leaf enc P w base spare held t v) : ∃ s : ByteArray, v = .string s ∧ s.size ≤ maxLen := by
  obtain ⟨m, y, h⟩ := h
  obtain ⟨s, h1, _, h2⟩ := DataW.trod_string ht h
  exact ⟨s, by simpa using h1, h2⟩

/-- A slice that came in: nil; or 'cap' elements lie at ⟨b, off⟩, each of as many cells as its type has leaves. -/
def IsSlice (enc : TypeId × Value → H) (P : Program) (w : World) (base : Nat) (spare : Nat → Bool) (held : Bool) (ts : List TypeId) (v : Value) : Prop :=
  v = .slice none 0 0 ∨ ∃ (a : Addr) (len cap : Nat), v = .slice (some a) len cap ∧ len ≤ cap ∧ cap ≤ maxLen ∧
    ∀ i j t, i < len → ts[j]? = some t → ∃ u, w.cell? (a.add (i * ts.length + j)) = some u ∧ Leaf enc P w base spare held t u

theorem slice_ok {t e : TypeId} {fuel d : Nat} {v : Value} {x : DataW H × List MemPlace} {ts : List TypeId} (ht : P.underlying t = some (.slice e)) (hts : flatT P d e = some ts) (hn : ts.length = P.cellsOf e)
    (h : DataW.trod enc P w base spare held fuel t [v] = some x) : IsSlice enc P w base spare held ts v := by
  rcases open_slice ht h with ⟨h0, _⟩ | ⟨a, len, cap, m, n, D, Pl, h0, hb, hl, hm, hmm, _, hx⟩
  · exact .inl (by simpa using h0)
  · refine .inr ⟨a, len, cap, by simpa using h0, hl, hm, fun i j t' hi hj => ?_⟩
    obtain ⟨cs', h1, h2⟩ := hx i (by rw [hmm]; split <;> omega)
    obtain ⟨k1, k2⟩ := flat_ok d e cs' _ n ts hts h2
    obtain ⟨u, hu, hleaf⟩ := k2 j t' hj
    obtain ⟨_, hlen, hcell⟩ := World.cells?_some h1
    refine ⟨u, ?_, hleaf⟩
    have hjlt : j < ts.length := (List.getElem?_eq_some_iff.1 hj).1
    have := hcell j (by omega)
    rw [add_add, ← hn] at this
    rw [this, hu]

/-- .. with the address taken apart, where it has an element. -/
theorem IsSlice.at {ts : List TypeId} {v : Value} (h : IsSlice enc P w base spare held ts v) (hpos : 0 < ts.length) :
    ∃ (a : Option Addr) (len cap : Nat), v = .slice a len cap ∧ len ≤ cap ∧ cap ≤ maxLen ∧
      (len = 0 ∨ ∃ b off, a = some ⟨b, off, none⟩ ∧ ∀ i j t, i < len → ts[j]? = some t → ∃ u, w.cell? ⟨b, off + (i * ts.length + j), none⟩ = some u ∧ Leaf enc P w base spare held t u) := by
  rcases h with rfl | ⟨a, len, cap, rfl, hl, hm, hc⟩
  · exact ⟨none, 0, 0, rfl, Nat.le_refl _, by simp [maxLen], .inl rfl⟩
  · refine ⟨some a, len, cap, rfl, hl, hm, ?_⟩
    by_cases h0 : len = 0
    · exact .inl h0
    · right
      obtain ⟨b, off, spot⟩ := a
      obtain ⟨u, hu, _⟩ := hc 0 0 (ts[0]) (by omega) (by simp)
      have hs : spot = none := by simpa [Addr.add] using World.cell?_spot hu
      subst hs
      refine ⟨b, off, rfl, fun i j t hi hj => ?_⟩
      obtain ⟨u, hu, hleaf⟩ := hc i j t hi hj
      exact ⟨u, by rw [Addr.add_lit] at hu; exact hu, hleaf⟩

theorem okWide_struct {r : Reach} {t : TypeId} {fs : Array Field} {v : Value} (ht : P.underlying t = some (.struct fs)) (h : Value.okWide P w r base t v) : ∃ cs, v = .agg cs := by
  simp only [Value.okWide, ht] at h
  obtain ⟨cs, hv, _⟩ := h
  exact ⟨cs, hv⟩
theorem okWide_array {r : Reach} {t n e : Nat} {v : Value} (ht : P.underlying t = some (.array n e)) (h : Value.okWide P w r base t v) : ∃ cs, v = .agg cs := by
  simp only [Value.okWide, ht] at h
  obtain ⟨cs, hv, _⟩ := h
  exact ⟨cs, hv⟩

/-- A struct or an array by value. -/
theorem agg_ok {t : TypeId} {fuel d : Nat} {cs : Array Value} {x : DataW H × List MemPlace} {ts : List TypeId} (hts : flatT P d t = some ts)
    (h : DataW.trod enc P w base spare held fuel t cs.toList = some x) : CellsOk enc P w base spare held ts cs.toList := flat_ok d t _ _ _ _ hts h
end
end Go.Proofs.Ytobkanlnnniabaa

/-
  A slice that came in, told as a list of its elements' cells. Plain lemmas over any program.
-/
namespace Go.Proofs.Ytobkanlnnniabaa
open Go.ChangeShapes Go.WideShapes Go.Deep
set_option linter.unusedVariables false
set_option linter.unusedSimpArgs false

theorem slice_rows {H : Type} {enc : TypeId × Value → H} {P : Program} {w : World} {base : Nat} {spare : Nat → Bool} {held : Bool} {ts : List TypeId} {v : Value} (hpos : 0 < ts.length) (hv : IsSlice enc P w base spare held ts v) :
    ∃ b xs, Rd w ts.length b v xs ∧ ∀ x ∈ xs, CellsOk enc P w base spare held ts x := by
  rcases hv with rfl | ⟨a, len, cap, rfl, hl, hm, hc⟩
  · exact ⟨0, [], ⟨none, 0, rfl, Nat.le_refl _, by simp [maxLen], fun _ => rfl, fun h => absurd rfl h⟩, by simp⟩
  · obtain ⟨b, off, spot⟩ := a
    let el : Nat → List Value := fun i => (List.range ts.length).map fun j => (w.cell? ((⟨b, off, spot⟩ : Addr).add (i * ts.length + j))).getD undef
    have hel : ∀ i j, j < ts.length → (el i)[j]? = some ((w.cell? ((⟨b, off, spot⟩ : Addr).add (i * ts.length + j))).getD undef) := by
      intro i j hj
      simp [el, hj]
    refine ⟨b, (List.range len).map el, ⟨some ⟨b, off, spot⟩, cap, by simp, by simpa using hl, hm, (by intro h; cases h), fun hne => ?_⟩, ?_⟩
    · have h0 : 0 < len := by
        rcases Nat.eq_zero_or_pos len with h | h
        · subst h; simp at hne
        · exact h
      obtain ⟨u, hu, _⟩ := hc 0 0 (ts[0]) h0 (by simp)
      have hs : spot = none := by simpa [Addr.add] using World.cell?_spot hu
      subst hs
      refine ⟨off, rfl, fun i x hx => ?_⟩
      intro j u hj
      have hi : i < len := by
        have := (List.getElem?_eq_some_iff.1 hx).1
        simpa using this
      obtain rfl : el i = x := by simpa [hi] using hx
      have hjl : j < ts.length := by
        have := (List.getElem?_eq_some_iff.1 hj).1
        simpa [el] using this
      rw [hel i j hjl] at hj
      obtain ⟨u', hu', _⟩ := hc i j (ts[j]) hi (by simp [hjl])
      rw [hu'] at hj
      simp at hj
      subst hj
      rw [Addr.add_lit] at hu'
      rw [Nat.add_assoc]
      exact hu'
    · intro x hx
      obtain ⟨i, hi, rfl⟩ := List.mem_map.1 hx
      have hi' : i < len := by simpa using hi
      refine ⟨by simp [el], fun j t ht => ?_⟩
      obtain ⟨u, hu, hleaf⟩ := hc i j t hi' ht
      have hjl : j < ts.length := (List.getElem?_eq_some_iff.1 ht).1
      exact ⟨u, by rw [hel i j hjl, hu]; rfl, hleaf⟩
end Go.Proofs.Ytobkanlnnniabaa

/-
  A slice of due times that came in.
-/
namespace Go.Proofs.Ytobkanlnnniabaa
open Go.ChangeShapes Go.WideShapes Go.RowKit
set_option linter.unusedVariables false
set_option linter.unusedSimpArgs false

/-- The cells of a uint64. -/
def encU (x : Int) : List Value := [.int .u64 x]
def U64 (x : Int) : Prop := (Lit.int .u64 x).wf = true
theorem u64_rows {H : Type} {enc : TypeId × Value → H} {w : World} {base : Nat} {spare : Nat → Bool} {held : Bool} {v : Value} (hv : IsSlice enc Try.prog w base spare held [23] v) : ∃ (b : Nat) (l : List Int), Rd w 1 b v (l.map encU) ∧ ∀ x ∈ l, U64 x := by
  obtain ⟨b, xs, hr, hx⟩ := slice_rows (by simp) hv
  have h : ∃ l : List Int, xs = l.map encU ∧ ∀ x ∈ l, U64 x := by
    clear hr
    induction xs with
    | nil => exact ⟨[], rfl, by simp⟩
    | cons x xs ih =>
      obtain ⟨l, rfl, hl⟩ := ih (fun y hy => hx y (List.mem_cons_of_mem _ hy))
      obtain ⟨hlen, hc⟩ := hx x List.mem_cons_self
      obtain ⟨v0, e0, l0⟩ := hc 0 23 rfl
      obtain ⟨a, rfl, wa⟩ := l0.int Try.underlying23
      refine ⟨a :: l, ?_, ?_⟩
      · match x, hlen with
        | [y], _ => simp at e0; rw [e0]; rfl
      · intro y hy
        rcases List.mem_cons.1 hy with rfl | hy
        · exact wa
        · exact hl y hy
  obtain ⟨l, rfl, hl⟩ := h
  exact ⟨b, l, hr, hl⟩
theorem rd_u64 {w : World} {b n cap : Nat} {a : Option Addr} {l : List Int} (h : Rd w 1 b (.slice a n cap) (l.map encU)) {i : Nat} {x : Int} (hi : l[i]? = some x) :
    ∃ off, a = some ⟨b, off, none⟩ ∧ w.cell? ⟨b, off + i, none⟩ = some (.int .u64 x) := by
  obtain ⟨off, ha, hat⟩ := h.at (by intro e; simp at e; subst e; simp at hi)
  have := hat i (encU x) (by simp [hi])
  have h0 := this 0 _ rfl
  rw [Nat.mul_one] at h0
  exact ⟨off, ha, h0⟩
theorem u64_lo {x : Int} (h : U64 x) : 0 ≤ x := by
  unfold U64 at h
  simp [Lit.wf] at h
  have : IntKind.u64.min = 0 := rfl
  omega
end Go.Proofs.Ytobkanlnnniabaa

/-
  The statements' Mod.
-/
namespace Go.Proofs.Ytobkanlnnniabaa
open Go.RowKit
set_option linter.unusedVariables false
set_option linter.unusedSimpArgs false

def gmod (v n : Int) : Int := (v % 18446744073709551616) % n
theorem gmod_lo (v n : Int) (hn : 1 ≤ n) : 0 ≤ gmod v n := Int.emod_nonneg _ (by omega)
theorem gmod_hi (v n : Int) (hn : 1 ≤ n) : gmod v n < n := Int.emod_lt_of_pos _ (by omega)
theorem mod_eq (v n : Int) (hn : 1 ≤ n) (hn2 : n ≤ 2000000) : wrap64 ((IntKind.u64.wrap v).tmod n) = gmod v n := by
  have h0 : 0 ≤ IntKind.u64.wrap v := by simp [IntKind.wrap, IntKind.signed, IntKind.bits]; omega
  rw [Int.tmod_eq_emod_of_nonneg h0]
  have h1 := Int.emod_nonneg (IntKind.u64.wrap v) (show n ≠ 0 by omega)
  have h2 := Int.emod_lt_of_pos (IntKind.u64.wrap v) (show 0 < n by omega)
  rw [IntWalk.wrap64_in _ ⟨by omega, by omega⟩]
  unfold gmod
  congr 1
theorem mod_any (v n : Int) (w : World) (hn : 1 ≤ n) (hn2 : n ≤ 2000000) :
    Calls Try.prog 17 #[.int .i64 v, .int .i64 n] w fun e w' => e = .returned (.int .i64 (gmod v n)) ∧ w = w' := by
  have H := mod_eq v n hn hn2
  go_enter Try.func17, Try.ntmps17
  go_wp2
  go_ret
  exact ⟨by simp [← H], rfl⟩
end Go.Proofs.Ytobkanlnnniabaa

/-
  A slice of ints that came in; someHandle.
-/
namespace Go.Proofs.Ytobkanlnnniabaa
open Go.ChangeShapes Go.WideShapes Go.RowKit
set_option linter.unusedVariables false
set_option linter.unusedSimpArgs false

/-- The cells of an int. -/
def encN (x : Int) : List Value := [.int .i64 x]
theorem i64_rows {H : Type} {enc : TypeId × Value → H} {w : World} {base : Nat} {spare : Nat → Bool} {held : Bool} {v : Value} (hv : IsSlice enc Try.prog w base spare held [3] v) : ∃ (b : Nat) (l : List Int), Rd w 1 b v (l.map encN) ∧ ∀ x ∈ l, okK x := by
  obtain ⟨b, xs, hr, hx⟩ := slice_rows (by simp) hv
  have h : ∃ l : List Int, xs = l.map encN ∧ ∀ x ∈ l, okK x := by
    clear hr
    induction xs with
    | nil => exact ⟨[], rfl, by simp⟩
    | cons x xs ih =>
      obtain ⟨l, rfl, hl⟩ := ih (fun y hy => hx y (List.mem_cons_of_mem _ hy))
      obtain ⟨hlen, hc⟩ := hx x List.mem_cons_self
      obtain ⟨v0, e0, l0⟩ := hc 0 3 rfl
      obtain ⟨a, rfl, wa⟩ := l0.int Try.underlying3
      refine ⟨a :: l, ?_, ?_⟩
      · match x, hlen with
        | [y], _ => simp at e0; rw [e0]; rfl
      · intro y hy
        rcases List.mem_cons.1 hy with rfl | hy
        · exact wa
        · exact hl y hy
  obtain ⟨l, rfl, hl⟩ := h
  exact ⟨b, l, hr, hl⟩
theorem rd_i64 {w : World} {b n cap : Nat} {a : Option Addr} {l : List Int} (h : Rd w 1 b (.slice a n cap) (l.map encN)) {i : Nat} {x : Int} (hi : l[i]? = some x) :
    ∃ off, a = some ⟨b, off, none⟩ ∧ w.cell? ⟨b, off + i, none⟩ = some (.int .i64 x) := by
  obtain ⟨off, ha, hat⟩ := h.at (by intro e; simp at e; subst e; simp at hi)
  have := hat i (encN x) (by simp [hi])
  have h0 := this 0 _ rfl
  rw [Nat.mul_one] at h0
  exact ⟨off, ha, h0⟩
theorem u64_max {x : Int} (h : U64 x) : 0 ≤ x ∧ x ≤ maxT := by
  refine ⟨u64_lo h, ?_⟩
  unfold U64 at h
  simp [Lit.wf] at h
  have : IntKind.u64.max = 18446744073709551615 := rfl
  unfold maxT
  omega
theorem okN_of {i : Int} (h0 : -9223372036854775808 ≤ i) (h1 : i ≤ 9223372036854775807) : okK i := by
  unfold okK
  simp [Lit.wf]
  have : IntKind.i64.min = -9223372036854775808 := rfl
  omega
theorem okN_bd {i : Int} (h : okK i) : -9223372036854775808 ≤ i ∧ i ≤ 9223372036854775807 := by
  unfold okK at h
  simp [Lit.wf] at h
  have : IntKind.i64.min = -9223372036854775808 := rfl
  have : IntKind.i64.max = 9223372036854775807 := rfl
  omega
end Go.Proofs.Ytobkanlnnniabaa

/-
  A heap in memory (items of type 82), and the contract of 'set'.
-/
namespace Go.Proofs.Ytobkanlnnniabaa.I
open Go.RowKit
set_option linter.unusedVariables false
set_option linter.unusedSimpArgs false

theorem infoE : (Try.prog.info? 82).map (·.size) = some 3 := by kernel_rfl
structure Hp (w : World) (h m : Nat) (v : Value) (its : List Itm) (kv : List (Int × Value)) (last : Int) : Prop where
  hdr : w.heap[h]? = some (.cells #[v, .map (some m), .int .i64 last] 80 (0, 0))
  row : w.ownsRow 0 82 3 v its.length (its.map encI).flatten
  mp : Mp encK okK w m kv
  one : ∀ it ∈ its, it.x.oneCell' = true
  oks : ∀ it ∈ its, okK it.id
  hm : h ≠ m
  hv : v.ownBlock ≠ some h ∧ v.ownBlock ≠ some m
  few : its.length ≤ 1000
def Hp.foot (h m : Nat) (v : Value) : List Nat := h :: m :: v.ownBlock.toList
section
variable {w : World} {h m : Nat} {v : Value} {its : List Itm} {kv : List (Int × Value)} {last : Int}
theorem Hp.touch {S : List Nat} {w' : World} (k : Hp w h m v its kv last) (t : Touch S w w') (hS : ∀ y ∈ Hp.foot h m v, y ∉ S) : Hp w' h m v its kv last :=
  ⟨t.at k.hdr (hS _ (by simp [Hp.foot])), t.owns k.row (fun g hg => hS g (by simp [Hp.foot, hg])), k.mp.touch t (hS _ (by simp [Hp.foot])), k.one, k.oks, k.hm, k.hv, k.few⟩
theorem Hp.lt (k : Hp w h m v its kv last) : ∀ y ∈ Hp.foot h m v, y < w.heap.size := by
  intro y hy
  simp only [Hp.foot, List.mem_cons, Option.mem_toList] at hy
  rcases hy with rfl | rfl | hy
  · exact (Array.getElem?_eq_some_iff.1 k.hdr).1
  · exact k.mp.lt
  · exact (k.row.lt y hy).2
theorem Hp.cells (k : Hp w h m v its kv last) : w.cell? ⟨h, 0, none⟩ = some v ∧ w.cell? ⟨h, 1, none⟩ = some (.map (some m)) ∧ w.cell? ⟨h, 2, none⟩ = some (.int .i64 last) := by
  simp [World.cell?, k.hdr]
theorem Hp.form (k : Hp w h m v its kv last) : ∃ a c, v = .slice a its.length c ∧ its.length ≤ c ∧ c ≤ 9223372036854775807 ∧ (0 < its.length → ∃ g, a = some ⟨g, 0, none⟩ ∧ g ≠ h ∧ g ≠ m) := by
  obtain ⟨a, c, rfl, h1, h2, h3⟩ := owns_form k.row
  refine ⟨a, c, rfl, h1, by unfold maxLen at h2; omega, fun h0 => ?_⟩
  obtain ⟨g, rfl⟩ := h3 h0
  exact ⟨g, rfl, fun e => k.hv.1 (by rw [e]; rfl), fun e => k.hv.2 (by rw [e]; rfl)⟩
theorem Hp.elem {g n c : Nat} (k : Hp w h m (.slice (some ⟨g, 0, none⟩) n c) its kv last) {i : Nat} {it : Itm} (hi : its[i]? = some it) :
    w.cell? ⟨g, i * 3, none⟩ = some (.int .i64 it.id) ∧ w.cell? ⟨g, i * 3 + 1, none⟩ = some (.int .u64 it.due) ∧ w.cell? ⟨g, i * 3 + 2, none⟩ = some it.x := by
  have hn : n = its.length := by
    obtain ⟨a', c', hv, _⟩ := owns_form k.row
    simp at hv
    exact hv.2.1
  subst hn
  have h1 : (its.map encI)[i]? = some (encI it) := by simp [hi]
  have := fun j u hu => owns_cell k.row (i * 3 + j) u (flat_get (encI_len its) h1 (j := j) (u := u) hu)
  exact ⟨this 0 _ rfl, this 1 _ rfl, this 2 _ rfl⟩
end
end Go.Proofs.Ytobkanlnnniabaa.I

/-
  The contract of the heap's 'set'.
-/
namespace Go.Proofs.Ytobkanlnnniabaa.I
open Go.RowKit
set_option linter.unusedVariables false
set_option linter.unusedSimpArgs false

theorem flatI_set (its : List Itm) (i : Nat) (it : Itm) (h : i < its.length) : ((its.set i it).map encI).flatten = (its.map encI).flatten.take (i * 3) ++ encI it ++ (its.map encI).flatten.drop (i * 3 + 3) := by
  induction its generalizing i with
  | nil => simp at h
  | cons a r ih =>
    cases i with
    | zero => simp [encI]
    | succ i =>
      have := ih i (by simpa using h)
      simp only [List.set_cons_succ, List.map_cons, List.flatten_cons, this]
      have e : (i + 1) * 3 = i * 3 + 3 := by omega
      rw [e]
      simp only [encI, List.cons_append, List.nil_append]
      rfl
theorem Hp.set {w w2 w3 : World} {h m g n c : Nat} {its : List Itm} {kv : List (Int × Value)} {last : Int} (k : Hp w h m (.slice (some ⟨g, 0, none⟩) n c) its kv last) {i : Nat} {it : Itm} (hi : i < its.length) (h1 : it.x.oneCell' = true) (h2 : okK it.id) (t1 : Touch [g] w w2)
    (row : w2.ownsRow 0 82 3 (.slice (some ⟨g, 0, none⟩) n c) n ((its.map encI).flatten.take (i * 3) ++ encI it ++ (its.map encI).flatten.drop (i * 3 + 3)))
    (hmp : Mp encK okK w3 m (put kv it.id (.int .i64 i))) (t3 : Touch [m] w2 w3) :
    Hp w3 h m (.slice (some ⟨g, 0, none⟩) n c) (its.set i it) (put kv it.id (.int .i64 i)) last ∧ Touch [m, g] w w3 := by
  have hg1 : g ≠ h := fun e => k.hv.1 (by rw [e]; rfl)
  have hg2 : g ≠ m := fun e => k.hv.2 (by rw [e]; rfl)
  have hn : n = its.length := by
    obtain ⟨a', c', hv, _⟩ := owns_form k.row
    simp at hv
    exact hv.2.1
  subst hn
  rw [← flatI_set its i it hi] at row
  have T : Touch [m, g] w w3 := (t1.mono (S' := [m, g]) (by simp)).trans t3 (by simp)
  refine ⟨⟨?_, ?_, hmp, ?_, ?_, k.hm, k.hv, by rw [List.length_set]; exact k.few⟩, T⟩
  · exact T.at k.hdr (by simp; exact ⟨k.hm, Ne.symm hg1⟩)
  · rw [List.length_set]
    exact t3.owns row (by intro g2 hg2'; simp [Value.ownBlock] at hg2'; subst hg2'; simpa using hg2)
  · intro y hy
    rcases List.mem_or_eq_of_mem_set hy with hy | rfl
    · exact k.one y hy
    · exact h1
  · intro y hy
    rcases List.mem_or_eq_of_mem_set hy with hy | rfl
    · exact k.oks y hy
    · exact h2
theorem end0 {P : Program} {fn : Func} {R : Ending → World → Prop} {a : Act} {w : World} (hr : fn.results = #[]) (hd : a.defers = []) (hR : R (.returned (.tuple #[])) w) : bodyPost P fn R .normal a w :=
  bodyPost_end (v := .tuple #[]) (by simp [results, hr]) hd hR
theorem cells_three {w : World} {B : Nat} {x y z : Value} {T : TypeId} (h : w.heap[B]? = some (.cells #[x, y, z] T (0, 0))) : w.cell? ⟨B, 0, none⟩ = some x ∧ w.cell? ⟨B, 1, none⟩ = some y ∧ w.cell? ⟨B, 2, none⟩ = some z := by
  simp [World.cell?, h]
set_option maxRecDepth 100000 in
set_option maxHeartbeats 2000000 in
theorem set_any (h m : Nat) (v : Value) (its : List Itm) (kv : List (Int × Value)) (last : Int) (i : Nat) (id due : Int) (x : Value) (w : World) (k : Hp w h m v its kv last) (hi : i < its.length) (h1 : x.oneCell' = true) (h2 : okK id) :
    Calls Try.prog 51 #[.pointer (some ⟨h, 0, none⟩), .int .i64 i, .agg #[.int .i64 id, .int .u64 due, x]] w fun e w' => e = .returned (.tuple #[]) ∧ Hp w' h m v (its.set i ⟨id, due, x⟩) (put kv id (.int .i64 i)) last ∧ Touch (m :: v.ownBlock.toList) w w' := by
  obtain ⟨av, cv, rfl, hv1, hv2, hv3⟩ := k.form
  obtain ⟨g, rfl, hgh, hgm⟩ := hv3 (by omega)
  obtain ⟨c0, c1, c2⟩ := k.cells
  have tB := (Touch.refl [] w).alloc (.cells #[.int .i64 id, .int .u64 due, x] 82)
  obtain ⟨b0, b1, b2⟩ := cells_three (heap_alloc_new w (.cells #[.int .i64 id, .int .u64 due, x] 82))
  have kB := k.touch tB (by simp)
  obtain ⟨c0, c1, c2⟩ := kB.cells
  have hli := List.getElem?_eq_getElem hi
  obtain ⟨e0, e1, e2⟩ := kB.elem hli
  have HK := Lib.hid kB
  have HK0 := k
  clear hli kB k
  go_enter Try.func51, Try.ntmps51
  go_wp2_with fail
  have zB : (w.alloc (.cells #[.int .i64 id, .int .u64 due, x] 82)).heap.size = w.heap.size + 1 := by simp
  generalize w.alloc (.cells #[.int .i64 id, .int .u64 due, x] 82) = W at *
  have HBg : w.heap.size ≠ g := fun e => by have := (HK0.row.lt g rfl).2; omega
  clear HK0
  generalize w.heap.size = B at *
  refine wp_region_still_tail 7 (by kernel_rfl) (by kernel_rfl) ?_
  simp only [List.take_succ_cons, List.take_zero, List.drop_succ_cons, List.drop_zero]
  iterate 7 still_step
  refine wpStill_nil ?_
  change wpList _ _ _ _ _ W.drew
  have tD := (Touch.refl [] W).drew
  have HD := Lib.hid (HK.out.touch tD (by simp))
  clear c0 e0 e1 e2 b1 b2 c2
  have hlen : (its.map encI).flatten.length = its.length * 3 := by rw [flat_len (encI_len its), List.length_map]
  refine wpList_store_own rfl 82 _ _ rfl g (i * 3) its.length cv 82 3 _ [.int .i64 id, .int .u64 due, x] HD.out.row (by rfl) (by rfl) (by rw [hlen]; simp; omega) infoE (by intro u hu; simp at hu; rcases hu with rfl | rfl | rfl; rfl; rfl; exact h1) ?_
  intro w2 row2 t2 z2
  have T2 : Touch [g] W w2 := (tD.mono (by simp)).trans t2 (by simp)
  have c1 := T2.cell c1 (by simpa using Ne.symm hgh)
  have b0 := T2.cell b0 (by simpa using HBg)
  have M2 := (HK.out.mp.touch T2 (by simpa using Ne.symm hgm)).touch ((Touch.refl [] w2).drew) (by simp)
  obtain ⟨w3, hst, M3, t3, z3⟩ := M2.store key3 Try.underlying77 h2 (.int .i64 i)
  have TD2 : Touch [m] w2 w3 := ((Touch.refl [m] w2).drew).trans t3 (by simp)
  have FIN := Lib.hid (Hp.set HK.out hi (it := ⟨id, due, x⟩) h1 h2 T2 row2 M3 TD2)
  clear row2 t2 T2 M2 M3
  simp only [encK] at hst
  have TF := (tB.mono (S' := [m, g]) (by simp)).trans (FIN.out).2 (by simp)
  go_wp2_with fail
  refine wp_region_still_tail 7 (by kernel_rfl) (by kernel_rfl) ?_
  simp only [List.take_succ_cons, List.take_zero, List.drop_succ_cons, List.drop_zero]
  iterate 7 still_step
  refine wpStill_nil ?_
  change wpList _ _ _ _ _ w2.drew
  go_wp2_with fail
  exact end0 rfl rfl ⟨rfl, FIN.out.1, TF⟩
end Go.Proofs.Ytobkanlnnniabaa.I

/-
  The comparison of heap items.
-/
namespace Go.Proofs.Ytobkanlnnniabaa.I
open Go.RowKit Go.Sort Go.Lib
set_option linter.unusedVariables false
set_option linter.unusedSimpArgs false

set_option maxRecDepth 100000 in
set_option maxHeartbeats 1000000 in
theorem cmp_any (x y : Itm) (w : World) : Calls Try.prog 55 #[.agg #[.int .i64 x.id, .int .u64 x.due, x.x], .agg #[.int .i64 y.id, .int .u64 y.due, y.x]] w fun e w' => e = .returned (.int .i64 (cmpT x.key y.key)) ∧ ∃ q os', w' = grow (w.drewN q) os' := by
  have gA := ((Touch.refl [] (w.alloc (.cells #[.int .i64 x.id, .int .u64 x.due, x.x] 82))).alloc (.cells #[.int .i64 y.id, .int .u64 y.due, y.x] 82)).at (heap_alloc_new w (.cells #[.int .i64 x.id, .int .u64 x.due, x.x] 82)) (by simp)
  have gB := heap_alloc_new (w.alloc (.cells #[.int .i64 x.id, .int .u64 x.due, x.x] 82)) (.cells #[.int .i64 y.id, .int .u64 y.due, y.x] 82)
  rw [World.size_alloc] at gB
  have hfin : ∃ q os', ((w.alloc (.cells #[.int .i64 x.id, .int .u64 x.due, x.x] 82)).alloc (.cells #[.int .i64 y.id, .int .u64 y.due, y.x] 82)).drew.alloc (.cells #[.int .i64 (cmpI x.due y.due), .int .i64 (cmpI x.id y.id)] 3) = grow (w.drewN q) os' :=
    ⟨1, _, by simp only [alloc_eq_grow, drew_grow, grow_grow]; rfl⟩
  go_enter Try.func55, Try.ntmps55
  go_wp2_with fail
  have gA' := ((Touch.refl [] ((w.alloc (.cells #[.int .i64 x.id, .int .u64 x.due, x.x] 82)).alloc (.cells #[.int .i64 y.id, .int .u64 y.due, y.x] 82))).drew).at gA (by simp)
  have gB' := ((Touch.refl [] ((w.alloc (.cells #[.int .i64 x.id, .int .u64 x.due, x.x] 82)).alloc (.cells #[.int .i64 y.id, .int .u64 y.due, y.x] 82))).drew).at gB (by simp)
  obtain ⟨a0, a1, a2⟩ := cells_three gA'
  obtain ⟨b0, b1, b2⟩ := cells_three gB'
  clear gA gB gA' gB'
  obtain ⟨W, hW⟩ : ∃ W, W = (((w.alloc (.cells #[.int .i64 x.id, .int .u64 x.due, x.x] 82)).alloc (.cells #[.int .i64 y.id, .int .u64 y.due, y.x] 82)).drew) := ⟨_, rfl⟩
  rw [← hW] at a0 a1 b0 b1 hfin
  have HW := Lib.hid hW
  clear hW
  apply once
  · intro REST
    refine wp_region_held (S := Touch [] W) (by kernel_rfl) ?_
    change wpAnyH _ _ _ _ _ _ _ _ (((w.alloc (.cells #[.int .i64 x.id, .int .u64 x.due, x.x] 82)).alloc (.cells #[.int .i64 y.id, .int .u64 y.due, y.x] 82)).drew)
    rw [← HW.out]
    have hS := Touch.refl [] W
    refine wpAnyH_take (i := 0) (oi := { dst := some 5, op := Op.fieldAddr 82 (Operand.tmp 2) 1, type := 0, pos := "heap.go:18", after := #[], guard := none }) (v := .pointer (some ⟨w.heap.size, 1, none⟩)) rfl (by kernel_rfl) (by kernel_rfl) (by kernel_rfl) (fun _ _ _ h => h) (Or.inl ⟨by rfl, fun w' hw => by go_simp⟩) hS ?_
    try simp only [Act.put, List.setIfInBounds_toArray, List.set_cons_zero, List.set_cons_succ]
    refine wpAnyH_take (i := 1) (oi := { dst := some 6, op := Op.load 23 (Operand.tmp 5), type := 23, pos := "heap.go:18", after := #[{ on := 0, ground := Ground.data }], guard := none }) (v := .int .u64 x.due) rfl (by kernel_rfl) (by kernel_rfl) (by kernel_rfl) (fun _ _ _ h => h) (Or.inl ⟨by rfl, fun w' hw => by (have q := hw.cell a1 (by simp); go_simp)⟩) hS ?_
    try simp only [Act.put, List.setIfInBounds_toArray, List.set_cons_zero, List.set_cons_succ]
    refine wpAnyH_take (i := 2) (oi := { dst := some 7, op := Op.fieldAddr 82 (Operand.tmp 3) 1, type := 0, pos := "heap.go:18", after := #[], guard := none }) (v := .pointer (some ⟨w.heap.size + 1, 1, none⟩)) rfl (by kernel_rfl) (by kernel_rfl) (by kernel_rfl) (fun _ _ _ h => h) (Or.inl ⟨by rfl, fun w' hw => by go_simp⟩) hS ?_
    try simp only [Act.put, List.setIfInBounds_toArray, List.set_cons_zero, List.set_cons_succ]
    refine wpAnyH_take (i := 3) (oi := { dst := some 8, op := Op.load 23 (Operand.tmp 7), type := 23, pos := "heap.go:18", after := #[{ on := 2, ground := Ground.data }], guard := none }) (v := .int .u64 y.due) rfl (by kernel_rfl) (by kernel_rfl) (by kernel_rfl) (fun _ _ _ h => h) (Or.inl ⟨by rfl, fun w' hw => by (have q := hw.cell b1 (by simp); go_simp)⟩) hS ?_
    try simp only [Act.put, List.setIfInBounds_toArray, List.set_cons_zero, List.set_cons_succ]
    refine wpAnyH_take (i := 5) (oi := { dst := some 10, op := Op.fieldAddr 82 (Operand.tmp 2) 0, type := 0, pos := "heap.go:18", after := #[], guard := none }) (v := .pointer (some ⟨w.heap.size, 0, none⟩)) rfl (by kernel_rfl) (by kernel_rfl) (by kernel_rfl) (fun _ _ _ h => h) (Or.inl ⟨by rfl, fun w' hw => by go_simp⟩) hS ?_
    try simp only [Act.put, List.setIfInBounds_toArray, List.set_cons_zero, List.set_cons_succ]
    refine wpAnyH_take (i := 6) (oi := { dst := some 11, op := Op.load 3 (Operand.tmp 10), type := 3, pos := "heap.go:18", after := #[{ on := 5, ground := Ground.data }], guard := none }) (v := .int .i64 x.id) rfl (by kernel_rfl) (by kernel_rfl) (by kernel_rfl) (fun _ _ _ h => h) (Or.inl ⟨by rfl, fun w' hw => by (have q := hw.cell a0 (by simp); go_simp)⟩) hS ?_
    try simp only [Act.put, List.setIfInBounds_toArray, List.set_cons_zero, List.set_cons_succ]
    refine wpAnyH_take (i := 7) (oi := { dst := some 12, op := Op.fieldAddr 82 (Operand.tmp 3) 0, type := 0, pos := "heap.go:18", after := #[], guard := none }) (v := .pointer (some ⟨w.heap.size + 1, 0, none⟩)) rfl (by kernel_rfl) (by kernel_rfl) (by kernel_rfl) (fun _ _ _ h => h) (Or.inl ⟨by rfl, fun w' hw => by go_simp⟩) hS ?_
    try simp only [Act.put, List.setIfInBounds_toArray, List.set_cons_zero, List.set_cons_succ]
    refine wpAnyH_take (i := 8) (oi := { dst := some 13, op := Op.load 3 (Operand.tmp 12), type := 3, pos := "heap.go:18", after := #[{ on := 7, ground := Ground.data }], guard := none }) (v := .int .i64 y.id) rfl (by kernel_rfl) (by kernel_rfl) (by kernel_rfl) (fun _ _ _ h => h) (Or.inl ⟨by rfl, fun w' hw => by (have q := hw.cell b0 (by simp); go_simp)⟩) hS ?_
    try simp only [Act.put, List.setIfInBounds_toArray, List.set_cons_zero, List.set_cons_succ]
    refine wpAnyH_ready (rs := [4]) (by kernel_rfl) (by simp) ?_
    refine AllReadyH.cons (o := { dst := some 9, op := Op.call { callee := Callee.value (Operand.func 71), args := #[Operand.tmp 6, Operand.tmp 8], argTypes := #[23, 23] }, type := 3, pos := "heap.go:18", after := #[{ on := 1, ground := Ground.data }, { on := 3, ground := Ground.data }], guard := none }) rfl (fun K hK => ?_) AllReadyH.nil
    go_simp
    refine (compare_U _ _ _).mono ?_
    rintro e w' ⟨rfl, rfl⟩
    refine hK.out _ _ hS (fun _ => ?_)
    clear hK K
    try simp only [Act.put, List.setIfInBounds_toArray, List.set_cons_zero, List.set_cons_succ]
    refine wpAnyH_ready (rs := [9]) (by kernel_rfl) (by simp) ?_
    refine AllReadyH.cons (o := { dst := some 14, op := Op.call { callee := Callee.value (Operand.func 72), args := #[Operand.tmp 11, Operand.tmp 13], argTypes := #[3, 3] }, type := 3, pos := "heap.go:18", after := #[{ on := 6, ground := Ground.data }, { on := 8, ground := Ground.data }, { on := 4, ground := Ground.chain }], guard := none }) rfl (fun K hK => ?_) AllReadyH.nil
    go_simp
    refine (compare_I _ _ _).mono ?_
    rintro e w' ⟨rfl, rfl⟩
    refine hK.out _ _ hS (fun _ => ?_)
    clear hK K
    try simp only [Act.put, List.setIfInBounds_toArray, List.set_cons_zero, List.set_cons_succ]
    refine wpAnyH_ready (rs := [10]) (by kernel_rfl) (by simp) ?_
    refine AllReadyH.cons (o := { dst := some 15, op := Op.buildSlice 33 2 #[(0, Operand.tmp 9), (1, Operand.tmp 14)], type := 33, pos := "heap.go:18", after := #[{ on := 4, ground := Ground.data }, { on := 9, ground := Ground.data }], guard := none }) rfl (fun K hK => ?_) AllReadyH.nil
    go_simp
    have hS2 := hS.alloc (.cells #[.int .i64 (cmpI x.due y.due), .int .i64 (cmpI x.id y.id)] 3)
    have gC := heap_alloc_new W (.cells #[.int .i64 (cmpI x.due y.due), .int .i64 (cmpI x.id y.id)] 3)
    refine hK.out _ (W.alloc (.cells #[.int .i64 (cmpI x.due y.due), .int .i64 (cmpI x.id y.id)] 3)) hS2 (fun _ => ?_)
    clear hK K hS
    have hS := hS2
    clear hS2
    try simp only [Act.put, List.setIfInBounds_toArray, List.set_cons_zero, List.set_cons_succ]
    refine wpAnyH_ready (rs := [11]) (by kernel_rfl) (by simp) ?_
    refine AllReadyH.cons (o := { dst := some 16, op := Op.call { callee := Callee.value (Operand.func 70), args := #[Operand.tmp 15], argTypes := #[33] }, type := 3, pos := "heap.go:18", after := #[{ on := 10, ground := Ground.data }, { on := 9, ground := Ground.chain }], guard := none }) rfl (fun K hK => ?_) AllReadyH.nil
    go_simp
    refine (or_two W.heap.size _ _ _ gC).mono ?_
    rintro e w' ⟨rfl, rfl⟩
    rw [show (if cmpI x.due y.due = 0 then cmpI x.id y.id else cmpI x.due y.due) = cmpT x.key y.key from rfl]
    refine hK.out _ (W.alloc (.cells #[.int .i64 (cmpI x.due y.due), .int .i64 (cmpI x.id y.id)] 3)) hS (fun _ => ?_)
    clear hK K
    try simp only [Act.put, List.setIfInBounds_toArray, List.set_cons_zero, List.set_cons_succ]
    refine wpAnyH_take (i := 12) (oi := { dst := some 4, op := Op.assign (Operand.tmp 16), type := 3, pos := "heap.go:18", after := #[{ on := 11, ground := Ground.data }, { on := 11, ground := Ground.chain }, { on := 0, ground := Ground.phase }, { on := 1, ground := Ground.phase }, { on := 2, ground := Ground.phase }, { on := 3, ground := Ground.phase }, { on := 4, ground := Ground.phase }, { on := 5, ground := Ground.phase }, { on := 6, ground := Ground.phase }, { on := 7, ground := Ground.phase }, { on := 8, ground := Ground.phase }, { on := 9, ground := Ground.phase }, { on := 10, ground := Ground.phase }, { on := 11, ground := Ground.phase }], guard := none }) (v := .int .i64 (cmpT x.key y.key)) rfl (by kernel_rfl) (by kernel_rfl) (by kernel_rfl) (fun _ _ _ h => h) (Or.inl ⟨by rfl, fun w' hw => by go_simp⟩) hS ?_
    try simp only [Act.put, List.setIfInBounds_toArray, List.set_cons_zero, List.set_cons_succ]
    refine wpAnyH_done (by kernel_rfl) ?_ _
    exact REST.out
  · go_wp2_with fail
    go_ret
    exact ⟨rfl, hfin⟩
theorem cmp_quiet (x y : Itm) (w : World) : Calls Try.prog 55 #[.agg #[.int .i64 x.id, .int .u64 x.due, x.x], .agg #[.int .i64 y.id, .int .u64 y.due, y.x]] w fun e w' => e = .returned (.int .i64 (cmpT x.key y.key)) ∧ Touch [] w w' :=
  (cmp_any x y w).mono fun e w' ⟨h1, q, os', h2⟩ => ⟨h1, by
    subst h2
    exact ⟨rfl, rfl, rfl, by simp [grow], fun i hi hn => by rw [heap_grow_old _ _ (by simpa using hi)]; rfl⟩⟩
end Go.Proofs.Ytobkanlnnniabaa.I

/-
  The contract of siftUp.
-/
namespace Go.Proofs.Ytobkanlnnniabaa.I
open Go.RowKit
set_option linter.unusedVariables false
set_option linter.unusedSimpArgs false

set_option maxRecDepth 100000 in
set_option maxHeartbeats 4000000 in
theorem up_any (h m : Nat) (v : Value) (its : List Itm) (kv : List (Int × Value)) (last : Int) (i : Nat) (x : Itm) (w : World) (k : Hp w h m v its kv last) (hx : its[i]? = some x) (hn : (its.map Itm.id).Nodup) (hix : IxB kv its i) (hu : Up Itm.key its i) :
    Calls Try.prog 44 #[.pointer (some ⟨h, 0, none⟩), .int .i64 i] w fun e w' => ∃ (j : Nat) (its' : List Itm) (kv' : List (Int × Value)), e = .returned (.int .i64 j) ∧ j < its.length ∧ Hp w' h m v its' kv' last ∧ its'.Perm its ∧ Down Itm.key its' j ∧ (Kids Itm.key its i → Heap Itm.key its') ∧
      (∀ (j : Nat) y, its'[j]? = some y → look kv' y.id = some (.int .i64 j)) ∧ (∀ id, (∀ y ∈ its, y.id ≠ id) → look kv' id = look kv id) ∧ Touch (m :: v.ownBlock.toList) w w' := by
  have hil := (List.getElem?_eq_some_iff.1 hx).1
  obtain ⟨av, cv, rfl, hv1, hv2, hv3⟩ := k.form
  obtain ⟨g, rfl, hgh, hgm⟩ := hv3 (by omega)
  obtain ⟨c0, c1, c2⟩ := k.cells
  obtain ⟨e0, e1, e2⟩ := k.elem hx
  have tB := (Touch.refl [] w).alloc (.cells #[.int .i64 x.id, .int .u64 x.due, x.x] 82)
  have gB := heap_alloc_new w (.cells #[.int .i64 x.id, .int .u64 x.due, x.x] 82)
  have kB := Lib.hid (k.touch tB (by simp))
  have hfew := k.few
  have hlt := k.lt
  have hgl : g < w.heap.size := hlt g (by simp [Hp.foot, Value.ownBlock])
  have hml : m < w.heap.size := hlt m (by simp [Hp.foot])
  have HST := Lib.hid (Hole.start hx hix)
  have HU := Lib.hid hu
  have h1x := k.one x (List.mem_of_getElem? hx)
  have okx := k.oks x (List.mem_of_getElem? hx)
  have HN := Lib.hid hn
  clear hu hix hlt k hn hx
  go_enter Try.func44, Try.ntmps44
  go_wp2_with (refine wpList_store_new rfl 82 _ _ rfl _ _ [.int .i64 x.id, .int .u64 x.due, x.x] (by rfl) (by rfl) rfl infoE (by intro u hu; simp at hu; rcases hu with rfl | rfl | rfl; rfl; rfl; exact h1x) ?_)
  have zB : (w.alloc (.cells #[.int .i64 x.id, .int .u64 x.due, x.x] 82)).heap.size = w.heap.size + 1 := by simp
  generalize w.alloc (.cells #[.int .i64 x.id, .int .u64 x.due, x.x] 82) = W at *
  generalize hB : w.heap.size = B at *
  have hBg : B ≠ g := by omega
  have hBm : B ≠ m := by omega
  clear c0 c1 c2 e0 e1 e2
  simp only [Act.put]
  go_loopw [1] (fun vi wr => ∃ (q : Nat) (A C : List Itm) (kv' : List (Int × Value)), vi = .int .i64 q ∧ Hp wr h m (.slice (some ⟨g, 0, none⟩) its.length cv) A kv' last ∧ Hole its A C kv kv' q x ∧ Up Itm.key C q ∧ (Kids Itm.key its i → Kids Itm.key C q) ∧ Touch [m, g] W wr) (fun vi _ => (intOf vi).toNat)
  case atStart => exact ⟨i, its, its, kv, rfl, kB.out, HST.out, HU.out, fun h => h, Touch.refl _ _⟩
  case round =>
    obtain ⟨q, A, C, kv', rfl, hp, hh, hup, hkd, ht⟩ := hrel
    have HP := Lib.hid hp
    have HH := Lib.hid hh
    have HUP := Lib.hid hup
    have HKD := Lib.hid hkd
    have hAl := hh.len
    have hql := hh.il
    obtain ⟨b0, b1, b2⟩ := cells_three (ht.at gB (by simp; exact ⟨hBm, hBg⟩))
    clear hp hh hup hkd
    by_cases hq : 0 < q
    · have hpq : par q < q := by unfold par; omega
      have hpl : par q < A.length := by omega
      have hpi : par q < its.length := by omega
      have hy := List.getElem?_eq_getElem hpl
      generalize A[par q] = y at hy
      obtain ⟨y0, y1, y2⟩ := HP.out.elem hy
      obtain ⟨c0, c1, c2⟩ := HP.out.cells
      have hpar : ((q : Int) - 1).tdiv 2 = ((par q : Nat) : Int) := by unfold par; rw [Int.tdiv_eq_ediv_of_nonneg (by omega)]; omega
      have HY := Lib.hid hy
      clear hy
      go_wp2_with fail
      refine wp_region_still_tail 8 (by kernel_rfl) (by kernel_rfl) ?_
      simp only [List.take_succ_cons, List.take_zero, List.drop_succ_cons, List.drop_zero]
      iterate 8 still_step
      refine wpStill_nil ?_
      change wpList _ _ _ _ _ wr.drew
      go_wp2_with fail
      refine (cmp_quiet y x _).mono ?_
      rintro e w5 ⟨rfl, t5⟩
      have t6 : Touch [] wr w5 := ((Touch.refl [] wr).drew).trans t5 (by simp)
      have HP5 := Lib.hid (HP.out.touch t6 (by simp))
      have T6 : Touch [m, g] W w5 := ht.trans t6 (by simp)
      obtain ⟨b0, b1, b2⟩ := cells_three (T6.at gB (by simp; exact ⟨hBm, hBg⟩))
      clear t5 t6 HP ht y0 y1 y2 c0 c1 c2
      by_cases hle : cmpT y.key x.key ≤ 0
      · go_wp2_with fail
        refine (set_any h m _ A kv' last q x.id x.due x.x w5 HP5.out (by omega) h1x okx).mono ?_
        rintro e w2 ⟨rfl, hp2, t2⟩
        have T2 : Touch [m, g] w w2 := ((tB.mono (S' := [m, g]) (by simp)).trans T6 (by simp)).trans t2 (by intro y hy; simp [Value.ownBlock] at hy; rcases hy with rfl | rfl <;> simp)
        have HP2 := Lib.hid hp2
        clear hp2 t2 b0 b1 b2
        have hedge : Edge Itm.key C q := by
          intro a b ha hb
          rw [HH.out.other (by omega), HY.out] at ha
          rw [HH.out.at_i] at hb
          cases ha
          cases hb
          exact (cmpT_le _ _).1 hle
        have HE := Lib.hid hedge
        clear hedge
        go_wp2_with fail
        go_ret
        exact ⟨q, C, _, rfl, by omega, by rw [HH.out.c]; exact HP2.out, HH.out.perm, HUP.out.stop (.inr HE.out), fun hs => (HUP.out.stop (.inr HE.out)).stop (HKD.out hs), (HH.out.fin HN.out).1, (HH.out.fin HN.out).2, T2⟩
      · obtain ⟨c0, c1, c2⟩ := HP5.out.cells
        obtain ⟨y0, y1, y2⟩ := HP5.out.elem HY.out
        have hym := List.mem_of_getElem? HY.out
        have hltk : lt x.key y.key := by
          rcases le_total y.key x.key with h1 | h1
          · exact absurd ((cmpT_le _ _).2 h1) hle
          · exact h1
        have HL := Lib.hid hltk
        clear hltk
        go_wp2_with fail
        refine (set_any h m _ A kv' last q y.id y.due y.x w5 HP5.out (by omega) (HP5.out.one y hym) (HP5.out.oks y hym)).mono ?_
        rintro e w2 ⟨rfl, hp2, t2⟩
        have T2 : Touch [m, g] W w2 := T6.trans t2 (by intro y hy; simp [Value.ownBlock] at hy; rcases hy with rfl | rfl <;> simp)
        have HP2 := Lib.hid hp2
        have HM := Lib.hid (HH.out.move HN.out (p := par q) (by omega) HY.out)
        have HS := Lib.hid (HUP.out.step (by omega) HH.out.at_i (by rw [HH.out.other (by omega)]; exact HY.out) HL.out)
        have HK2 := Lib.hid (HUP.out.kids (by omega) HH.out.at_i (by rw [HH.out.other (by omega)]; exact HY.out) HL.out)
        clear hp2 t2 b0 b1 b2 c0 c1 c2 y0 y1 y2
        go_wp2_with fail
        go_roundw
        case rel => exact ⟨par q, _, _, _, rfl, HP2.out, HM.out, HS.out, fun _ => HK2.out, T2⟩
        case measure => simp [intOf]; omega
    · go_wp2_with fail
      refine (set_any h m _ A kv' last q x.id x.due x.x wr HP.out (by omega) h1x okx).mono ?_
      rintro e w2 ⟨rfl, hp2, t2⟩
      have T2 : Touch [m, g] w w2 := ((tB.mono (S' := [m, g]) (by simp)).trans ht (by simp)).trans t2 (by intro y hy; simp [Value.ownBlock] at hy; rcases hy with rfl | rfl <;> simp)
      have HP2 := Lib.hid hp2
      clear hp2 t2 b0 b1 b2
      go_wp2_with fail
      go_ret
      exact ⟨q, C, _, rfl, by omega, by rw [HH.out.c]; exact HP2.out, HH.out.perm, HUP.out.stop (.inl (by omega)), fun hs => (HUP.out.stop (.inl (by omega))).stop (HKD.out hs), (HH.out.fin HN.out).1, (HH.out.fin HN.out).2, T2⟩
end Go.Proofs.Ytobkanlnnniabaa.I

/-
  The contract of siftDown.
-/
namespace Go.Proofs.Ytobkanlnnniabaa.I
open Go.RowKit
set_option linter.unusedVariables false
set_option linter.unusedSimpArgs false

set_option maxRecDepth 100000 in
set_option maxHeartbeats 4000000 in
theorem down_any (h m : Nat) (v : Value) (its : List Itm) (kv : List (Int × Value)) (last : Int) (i : Nat) (x : Itm) (w : World) (k : Hp w h m v its kv last) (hx : its[i]? = some x) (hn : (its.map Itm.id).Nodup) (hix : IxB kv its i) (hu : Down Itm.key its i) :
    Calls Try.prog 58 #[.pointer (some ⟨h, 0, none⟩), .int .i64 i] w fun e w' => ∃ (its' : List Itm) (kv' : List (Int × Value)), e = .returned (.tuple #[]) ∧ Hp w' h m v its' kv' last ∧ its'.Perm its ∧ Heap Itm.key its' ∧
      (∀ (j : Nat) y, its'[j]? = some y → look kv' y.id = some (.int .i64 j)) ∧ (∀ id, (∀ y ∈ its, y.id ≠ id) → look kv' id = look kv id) ∧ Touch (m :: v.ownBlock.toList) w w' := by
  have hil := (List.getElem?_eq_some_iff.1 hx).1
  obtain ⟨av, cv, rfl, hv1, hv2, hv3⟩ := k.form
  obtain ⟨g, rfl, hgh, hgm⟩ := hv3 (by omega)
  obtain ⟨c0, c1, c2⟩ := k.cells
  obtain ⟨e0, e1, e2⟩ := k.elem hx
  have tB := (Touch.refl [] w).alloc (.cells #[.int .i64 x.id, .int .u64 x.due, x.x] 82)
  have gB := heap_alloc_new w (.cells #[.int .i64 x.id, .int .u64 x.due, x.x] 82)
  have kB := Lib.hid (k.touch tB (by simp))
  have hfew := k.few
  have hlt := k.lt
  have hgl : g < w.heap.size := hlt g (by simp [Hp.foot, Value.ownBlock])
  have hml : m < w.heap.size := hlt m (by simp [Hp.foot])
  have HST := Lib.hid (Hole.start hx hix)
  have HU := Lib.hid hu
  have h1x := k.one x (List.mem_of_getElem? hx)
  have okx := k.oks x (List.mem_of_getElem? hx)
  have HN := Lib.hid hn
  clear hu hix hlt k hn hx
  go_enter Try.func58, Try.ntmps58
  go_wp2_with (refine wpList_store_new rfl 82 _ _ rfl _ _ [.int .i64 x.id, .int .u64 x.due, x.x] (by rfl) (by rfl) rfl infoE (by intro u hu; simp at hu; rcases hu with rfl | rfl | rfl; rfl; rfl; exact h1x) ?_)
  have zB : (w.alloc (.cells #[.int .i64 x.id, .int .u64 x.due, x.x] 82)).heap.size = w.heap.size + 1 := by simp
  generalize w.alloc (.cells #[.int .i64 x.id, .int .u64 x.due, x.x] 82) = W at *
  generalize hB : w.heap.size = B at *
  have hBg : B ≠ g := by omega
  have hBm : B ≠ m := by omega
  clear c0 c1 c2 e0 e1 e2
  simp only [Act.put]
  go_loopw [1] (fun vi wr => ∃ (q : Nat) (A C : List Itm) (kv' : List (Int × Value)), vi = .int .i64 q ∧ Hp wr h m (.slice (some ⟨g, 0, none⟩) its.length cv) A kv' last ∧ Hole its A C kv kv' q x ∧ Down Itm.key C q ∧ Touch [m, g] W wr) (fun vi _ => its.length - (intOf vi).toNat)
  case atStart => exact ⟨i, its, its, kv, rfl, kB.out, HST.out, HU.out, Touch.refl _ _⟩
  case round =>
    obtain ⟨q, A, C, kv', rfl, hp, hh, hup, ht⟩ := hrel
    have HP := Lib.hid hp
    have HH := Lib.hid hh
    have HUP := Lib.hid hup
    have hAl := hh.len
    have hql := hh.il
    clear hp hh hup
    obtain ⟨c, hc⟩ : ∃ c, c = 2 * q + 1 := ⟨_, rfl⟩
    obtain ⟨d, hd⟩ : ∃ d, d = c + 1 := ⟨_, rfl⟩
    have hcI : 2 * (q : Int) + 1 = (c : Int) := by omega
    have hdI : IntKind.i64.wrap ((c : Int) + 1) = (d : Int) := by rw [IntKind.wrap_i64] <;> omega
    have hcw : IntKind.i64.wrap (2 * (q : Int) + 1) = (c : Int) := by rw [IntKind.wrap_i64] <;> omega
    have hq2 : IntKind.i64.wrap (2 * (q : Int)) = 2 * (q : Int) := by rw [IntKind.wrap_i64] <;> omega
    have HC := Lib.hid hc
    have HD := Lib.hid hd
    clear hc hd hcI
    go_wp2_with fail
    have hc := HC.out
    have hd := HD.out
    by_cases h1 : d < its.length
    · have hy := List.getElem?_eq_getElem (l := A) (i := c) (by omega)
      have hz := List.getElem?_eq_getElem (l := A) (i := d) (by omega)
      generalize A[c]'(by omega) = y at hy
      generalize A[d]'(by omega) = z at hz
      have HY := Lib.hid hy
      have HZ := Lib.hid hz
      clear hy hz
      obtain ⟨c0, c1, c2⟩ := HP.out.cells
      obtain ⟨y0, y1, y2⟩ := HP.out.elem HY.out
      obtain ⟨z0, z1, z2⟩ := HP.out.elem HZ.out
      have hd1 : decide ((d : Int) < (its.length : Int)) = true := by simpa using h1
      have hd2 : (d : Int) < (its.length : Int) := by omega
      have hd3 : (c : Int) < (its.length : Int) := by omega
      have hd4 : c < its.length := by omega
      clear hc hd
      refine wp_region_still_tail 24 (by kernel_rfl) (by kernel_rfl) ?_
      simp only [List.take_succ_cons, List.take_zero, List.drop_succ_cons, List.drop_zero]
      iterate 24 still_step
      refine wpStill_nil ?_
      change wpList _ _ _ _ _ wr.drew
      go_wp2_with fail
      refine (cmp_quiet z y _).mono ?_
      rintro e w5 ⟨rfl, t5⟩
      have t6 : Touch [] wr w5 := ((Touch.refl [] wr).drew).trans t5 (by simp)
      have HP5 := Lib.hid (HP.out.touch t6 (by simp))
      have T6 : Touch [m, g] W w5 := ht.trans t6 (by simp)
      obtain ⟨b0, b1, b2⟩ := cells_three (T6.at gB (by simp; exact ⟨hBm, hBg⟩))
      clear t5 t6 HP ht y0 y1 y2 z0 z1 z2 c0 c1 c2
      by_cases hlz : cmpT z.key y.key < 0
      · have HMIN := Lib.hid (show ∀ (b : Nat) (u : Itm), 1 ≤ b → par b = q → C[b]? = some u → le z.key u.key by
          intro b u hb hpb hu
          have e1 : b = c ∨ b = d := by (have := HC.out; have := HD.out; unfold par at hpb; omega)
          rcases e1 with rfl | rfl
          · rw [HH.out.other (by have := HC.out; omega), HY.out] at hu
            cases hu
            exact lt_le ((cmpT_lt _ _).1 hlz)
          · rw [HH.out.other (by have := HC.out; have := HD.out; omega), HZ.out] at hu
            cases hu
            exact le_refl _)
        go_wp2_with fail

        obtain ⟨c0, c1, c2⟩ := HP5.out.cells
        obtain ⟨y0, y1, y2⟩ := HP5.out.elem HZ.out
        have hdl : d < its.length := by exact h1
        have hdi : (d : Int) < (its.length : Int) := by omega
        have hge : decide ((its.length : Int) ≤ (d : Int)) = false := by simpa using hdl
        refine wp_region_still_tail 16 (by kernel_rfl) (by kernel_rfl) ?_
        simp only [List.take_succ_cons, List.take_zero, List.drop_succ_cons, List.drop_zero]
        iterate 16 still_step
        refine wpStill_nil ?_
        change wpList _ _ _ _ _ w5.drew
        go_wp2_with fail
        refine (cmp_quiet x z _).mono ?_
        rintro e w6 ⟨rfl, t6⟩
        have t7 : Touch [] w5 w6 := ((Touch.refl [] w5).drew).trans t6 (by simp)
        have HP6 := Lib.hid (HP5.out.touch t7 (by simp))
        have T7 : Touch [m, g] W w6 := T6.trans t7 (by simp)
        obtain ⟨b0, b1, b2⟩ := cells_three (T7.at gB (by simp; exact ⟨hBm, hBg⟩))
        clear t6 t7 HP5 T6 y0 y1 y2 c0 c1 c2
        have HX := Lib.hid (show d = 2 * q + 1 ∨ d = 2 * q + 2 by (have := HC.out; have := HD.out; omega))
        have hpc : par d = q ∧ 1 ≤ d ∧ q < d := by (have := HX.out; unfold par; omega)
        have HPC := Lib.hid hpc
        clear hpc
        by_cases hle : cmpT x.key z.key ≤ 0
        · go_wp2_with fail
          refine (set_any h m _ A kv' last q x.id x.due x.x w6 HP6.out (by omega) h1x okx).mono ?_
          rintro e w2 ⟨rfl, hp2, t2⟩
          have T2 : Touch [m, g] w w2 := ((tB.mono (S' := [m, g]) (by simp)).trans T7 (by simp)).trans t2 (by intro y hy; simp [Value.ownBlock] at hy; rcases hy with rfl | rfl <;> simp)
          have HP2 := Lib.hid hp2
          clear hp2 t2 b0 b1 b2
          have HE := Lib.hid (HUP.out.stop (by
            intro b hb hpb a u ha hu
            rw [hpb, HH.out.at_i] at ha
            cases ha
            exact le_trans ((cmpT_le _ _).1 hle) (HMIN.out b u hb hpb hu)))
          go_wp2_with fail
          exact end0 rfl rfl ⟨C, _, rfl, by rw [HH.out.c]; exact HP2.out, HH.out.perm, HE.out, (HH.out.fin HN.out).1, (HH.out.fin HN.out).2, T2⟩
        · obtain ⟨c0, c1, c2⟩ := HP6.out.cells
          obtain ⟨y0, y1, y2⟩ := HP6.out.elem HZ.out
          have hym := List.mem_of_getElem? HZ.out
          have hltk : lt z.key x.key := by
            rcases le_total x.key z.key with h1 | h1
            · exact absurd ((cmpT_le _ _).2 h1) hle
            · exact h1
          have HL := Lib.hid hltk
          clear hltk
          go_wp2_with fail
          refine (set_any h m _ A kv' last q z.id z.due z.x w6 HP6.out (by omega) (HP6.out.one z hym) (HP6.out.oks z hym)).mono ?_
          rintro e w2 ⟨rfl, hp2, t2⟩
          have T2 : Touch [m, g] W w2 := T7.trans t2 (by intro y hy; simp [Value.ownBlock] at hy; rcases hy with rfl | rfl <;> simp)
          have HP2 := Lib.hid hp2
          have HM := Lib.hid (HH.out.move HN.out (p := d) (by have := HPC.out; omega) HZ.out)
          have HS := Lib.hid (HUP.out.step HPC.out.2.1 HPC.out.1 HH.out.at_i (by rw [HH.out.other (by have := HPC.out; omega)]; exact HZ.out) HL.out HMIN.out)
          clear hp2 t2 b0 b1 b2 c0 c1 c2 y0 y1 y2
          go_wp2_with fail
          go_roundw
          case rel => exact ⟨d, _, _, _, rfl, HP2.out, HM.out, HS.out, T2⟩
          case measure => (have := HPC.out; simp [intOf]; omega)

      · have HMIN := Lib.hid (show ∀ (b : Nat) (u : Itm), 1 ≤ b → par b = q → C[b]? = some u → le y.key u.key by
          intro b u hb hpb hu
          have e1 : b = c ∨ b = d := by (have := HC.out; have := HD.out; unfold par at hpb; omega)
          rcases e1 with rfl | rfl
          · rw [HH.out.other (by have := HC.out; omega), HY.out] at hu
            cases hu
            exact le_refl _
          · rw [HH.out.other (by have := HC.out; have := HD.out; omega), HZ.out] at hu
            cases hu
            rcases le_total y.key z.key with h1 | h1
            · exact h1
            · exact absurd ((cmpT_lt _ _).2 h1) hlz)
        go_wp2_with fail

        obtain ⟨c0, c1, c2⟩ := HP5.out.cells
        obtain ⟨y0, y1, y2⟩ := HP5.out.elem HY.out
        have hdl : c < its.length := by exact hd4
        have hdi : (c : Int) < (its.length : Int) := by omega
        have hge : decide ((its.length : Int) ≤ (c : Int)) = false := by simpa using hdl
        refine wp_region_still_tail 16 (by kernel_rfl) (by kernel_rfl) ?_
        simp only [List.take_succ_cons, List.take_zero, List.drop_succ_cons, List.drop_zero]
        iterate 16 still_step
        refine wpStill_nil ?_
        change wpList _ _ _ _ _ w5.drew
        go_wp2_with fail
        refine (cmp_quiet x y _).mono ?_
        rintro e w6 ⟨rfl, t6⟩
        have t7 : Touch [] w5 w6 := ((Touch.refl [] w5).drew).trans t6 (by simp)
        have HP6 := Lib.hid (HP5.out.touch t7 (by simp))
        have T7 : Touch [m, g] W w6 := T6.trans t7 (by simp)
        obtain ⟨b0, b1, b2⟩ := cells_three (T7.at gB (by simp; exact ⟨hBm, hBg⟩))
        clear t6 t7 HP5 T6 y0 y1 y2 c0 c1 c2
        have HX := Lib.hid (show c = 2 * q + 1 ∨ c = 2 * q + 2 by (have := HC.out; have := HD.out; omega))
        have hpc : par c = q ∧ 1 ≤ c ∧ q < c := by (have := HX.out; unfold par; omega)
        have HPC := Lib.hid hpc
        clear hpc
        by_cases hle : cmpT x.key y.key ≤ 0
        · go_wp2_with fail
          refine (set_any h m _ A kv' last q x.id x.due x.x w6 HP6.out (by omega) h1x okx).mono ?_
          rintro e w2 ⟨rfl, hp2, t2⟩
          have T2 : Touch [m, g] w w2 := ((tB.mono (S' := [m, g]) (by simp)).trans T7 (by simp)).trans t2 (by intro y hy; simp [Value.ownBlock] at hy; rcases hy with rfl | rfl <;> simp)
          have HP2 := Lib.hid hp2
          clear hp2 t2 b0 b1 b2
          have HE := Lib.hid (HUP.out.stop (by
            intro b hb hpb a u ha hu
            rw [hpb, HH.out.at_i] at ha
            cases ha
            exact le_trans ((cmpT_le _ _).1 hle) (HMIN.out b u hb hpb hu)))
          go_wp2_with fail
          exact end0 rfl rfl ⟨C, _, rfl, by rw [HH.out.c]; exact HP2.out, HH.out.perm, HE.out, (HH.out.fin HN.out).1, (HH.out.fin HN.out).2, T2⟩
        · obtain ⟨c0, c1, c2⟩ := HP6.out.cells
          obtain ⟨y0, y1, y2⟩ := HP6.out.elem HY.out
          have hym := List.mem_of_getElem? HY.out
          have hltk : lt y.key x.key := by
            rcases le_total x.key y.key with h1 | h1
            · exact absurd ((cmpT_le _ _).2 h1) hle
            · exact h1
          have HL := Lib.hid hltk
          clear hltk
          go_wp2_with fail
          refine (set_any h m _ A kv' last q y.id y.due y.x w6 HP6.out (by omega) (HP6.out.one y hym) (HP6.out.oks y hym)).mono ?_
          rintro e w2 ⟨rfl, hp2, t2⟩
          have T2 : Touch [m, g] W w2 := T7.trans t2 (by intro y hy; simp [Value.ownBlock] at hy; rcases hy with rfl | rfl <;> simp)
          have HP2 := Lib.hid hp2
          have HM := Lib.hid (HH.out.move HN.out (p := c) (by have := HPC.out; omega) HY.out)
          have HS := Lib.hid (HUP.out.step HPC.out.2.1 HPC.out.1 HH.out.at_i (by rw [HH.out.other (by have := HPC.out; omega)]; exact HY.out) HL.out HMIN.out)
          clear hp2 t2 b0 b1 b2 c0 c1 c2 y0 y1 y2
          go_wp2_with fail
          go_roundw
          case rel => exact ⟨c, _, _, _, rfl, HP2.out, HM.out, HS.out, T2⟩
          case measure => (have := HPC.out; simp [intOf]; omega)

    · obtain ⟨c0, c1, c2⟩ := HP.out.cells
      have HD1 := Lib.hid h1
      have hd1 : decide (d < its.length) = false := by simpa using h1
      clear h1 hc hd
      go_quiet (fail)
      clear hd1
      have t6 : Touch [] wr (wr.drewN nq) := (Touch.refl [] wr).drews _
      have HP5 := Lib.hid (HP.out.touch t6 (by simp))
      have T6 : Touch [m, g] W (wr.drewN nq) := ht.trans t6 (by simp)
      generalize wr.drewN nq = w5 at *
      obtain ⟨b0, b1, b2⟩ := cells_three (T6.at gB (by simp; exact ⟨hBm, hBg⟩))
      clear t6 HP ht c0 c1 c2
      by_cases h2 : c < its.length
      · have hy := List.getElem?_eq_getElem (l := A) (i := c) (by omega)
        generalize A[c]'(by omega) = y at hy
        have HY := Lib.hid hy
        clear hy
        have HMIN := Lib.hid (show ∀ (b : Nat) (u : Itm), 1 ≤ b → par b = q → C[b]? = some u → le y.key u.key by
          intro b u hb hpb hu
          have hbl := (List.getElem?_eq_some_iff.1 hu).1
          have e1 : b = c := by (have := HC.out; have := HD.out; have := HD1.out; have := HH.out.c; have e2 : C.length = its.length := HH.out.perm.length_eq; unfold par at hpb; omega)
          subst e1
          rw [HH.out.other (by have := HC.out; omega), HY.out] at hu
          cases hu
          exact le_refl _)
        go_wp2_with fail

        obtain ⟨c0, c1, c2⟩ := HP5.out.cells
        obtain ⟨y0, y1, y2⟩ := HP5.out.elem HY.out
        have hdl : c < its.length := by exact h2
        have hdi : (c : Int) < (its.length : Int) := by omega
        have hge : decide ((its.length : Int) ≤ (c : Int)) = false := by simpa using hdl
        refine wp_region_still_tail 16 (by kernel_rfl) (by kernel_rfl) ?_
        simp only [List.take_succ_cons, List.take_zero, List.drop_succ_cons, List.drop_zero]
        iterate 16 still_step
        refine wpStill_nil ?_
        change wpList _ _ _ _ _ w5.drew
        go_wp2_with fail
        refine (cmp_quiet x y _).mono ?_
        rintro e w6 ⟨rfl, t6⟩
        have t7 : Touch [] w5 w6 := ((Touch.refl [] w5).drew).trans t6 (by simp)
        have HP6 := Lib.hid (HP5.out.touch t7 (by simp))
        have T7 : Touch [m, g] W w6 := T6.trans t7 (by simp)
        obtain ⟨b0, b1, b2⟩ := cells_three (T7.at gB (by simp; exact ⟨hBm, hBg⟩))
        clear t6 t7 HP5 T6 y0 y1 y2 c0 c1 c2
        have HX := Lib.hid (show c = 2 * q + 1 ∨ c = 2 * q + 2 by (have := HC.out; have := HD.out; omega))
        have hpc : par c = q ∧ 1 ≤ c ∧ q < c := by (have := HX.out; unfold par; omega)
        have HPC := Lib.hid hpc
        clear hpc
        by_cases hle : cmpT x.key y.key ≤ 0
        · go_wp2_with fail
          refine (set_any h m _ A kv' last q x.id x.due x.x w6 HP6.out (by omega) h1x okx).mono ?_
          rintro e w2 ⟨rfl, hp2, t2⟩
          have T2 : Touch [m, g] w w2 := ((tB.mono (S' := [m, g]) (by simp)).trans T7 (by simp)).trans t2 (by intro y hy; simp [Value.ownBlock] at hy; rcases hy with rfl | rfl <;> simp)
          have HP2 := Lib.hid hp2
          clear hp2 t2 b0 b1 b2
          have HE := Lib.hid (HUP.out.stop (by
            intro b hb hpb a u ha hu
            rw [hpb, HH.out.at_i] at ha
            cases ha
            exact le_trans ((cmpT_le _ _).1 hle) (HMIN.out b u hb hpb hu)))
          go_wp2_with fail
          exact end0 rfl rfl ⟨C, _, rfl, by rw [HH.out.c]; exact HP2.out, HH.out.perm, HE.out, (HH.out.fin HN.out).1, (HH.out.fin HN.out).2, T2⟩
        · obtain ⟨c0, c1, c2⟩ := HP6.out.cells
          obtain ⟨y0, y1, y2⟩ := HP6.out.elem HY.out
          have hym := List.mem_of_getElem? HY.out
          have hltk : lt y.key x.key := by
            rcases le_total x.key y.key with h1 | h1
            · exact absurd ((cmpT_le _ _).2 h1) hle
            · exact h1
          have HL := Lib.hid hltk
          clear hltk
          go_wp2_with fail
          refine (set_any h m _ A kv' last q y.id y.due y.x w6 HP6.out (by omega) (HP6.out.one y hym) (HP6.out.oks y hym)).mono ?_
          rintro e w2 ⟨rfl, hp2, t2⟩
          have T2 : Touch [m, g] W w2 := T7.trans t2 (by intro y hy; simp [Value.ownBlock] at hy; rcases hy with rfl | rfl <;> simp)
          have HP2 := Lib.hid hp2
          have HM := Lib.hid (HH.out.move HN.out (p := c) (by have := HPC.out; omega) HY.out)
          have HS := Lib.hid (HUP.out.step HPC.out.2.1 HPC.out.1 HH.out.at_i (by rw [HH.out.other (by have := HPC.out; omega)]; exact HY.out) HL.out HMIN.out)
          clear hp2 t2 b0 b1 b2 c0 c1 c2 y0 y1 y2
          go_wp2_with fail
          go_roundw
          case rel => exact ⟨c, _, _, _, rfl, HP2.out, HM.out, HS.out, T2⟩
          case measure => (have := HPC.out; simp [intOf]; omega)

      · have hge : decide (its.length ≤ c) = true := by simpa using h2
        have HMIN := Lib.hid (show ∀ (b : Nat), 1 ≤ b → par b = q → Edge Itm.key C b by
          intro b hb hpb a u ha hu
          have hbl := (List.getElem?_eq_some_iff.1 hu).1
          exfalso
          have := HC.out
          have e2 : C.length = its.length := HH.out.perm.length_eq
          unfold par at hpb
          omega)
        have HE := Lib.hid (HUP.out.stop HMIN.out)
        obtain ⟨c0, c1, c2⟩ := HP5.out.cells
        clear h2
        go_wp2_with fail
        go_quiet (fail)
        have t6 : Touch [] w5 (w5.drewN nq) := (Touch.refl [] w5).drews _
        have HP6 := Lib.hid (HP5.out.touch t6 (by simp))
        have T7 : Touch [m, g] W (w5.drewN nq) := T6.trans t6 (by simp)
        generalize w5.drewN nq = w6 at *
        obtain ⟨b0, b1, b2⟩ := cells_three (T7.at gB (by simp; exact ⟨hBm, hBg⟩))
        clear t6 HP5 T6 c0 c1 c2
        go_wp2_with fail
        refine (set_any h m _ A kv' last q x.id x.due x.x w6 HP6.out (by omega) h1x okx).mono ?_
        rintro e w2 ⟨rfl, hp2, t2⟩
        have T2 : Touch [m, g] w w2 := ((tB.mono (S' := [m, g]) (by simp)).trans T7 (by simp)).trans t2 (by intro y hy; simp [Value.ownBlock] at hy; rcases hy with rfl | rfl <;> simp)
        have HP2 := Lib.hid hp2
        clear hp2 t2 b0 b1 b2
        go_wp2_with fail
        exact end0 rfl rfl ⟨C, _, rfl, by rw [HH.out.c]; exact HP2.out, HH.out.perm, HE.out, (HH.out.fin HN.out).1, (HH.out.fin HN.out).2, T2⟩
end Go.Proofs.Ytobkanlnnniabaa.I

/-
  A heap in order, in memory; the contract of 'fix'.
-/
namespace Go.Proofs.Ytobkanlnnniabaa.I
open Go.RowKit
set_option linter.unusedVariables false
set_option linter.unusedSimpArgs false

theorem wpList_delete_mp {P : Program} {α : Type} [DecidableEq α] {enc : α → Value} {ok : α → Prop} {w : World} {b : Nat} {kv : List (α × Value)} {o : Oper} {ops : Array Oper} {rest : List Oper} {a : Act} {Q : Exit → Act → World → Prop} (hg : o.guard = none) (m x : Operand) (t k : TypeId) (hop : o.op = Op.call { callee := Callee.builtin Builtin.delete, args := #[m, x], argTypes := #[t, k] })
    (e : TypeId) (E : KE P k enc ok) (ht : P.underlying t = some (.map k e)) (h : Mp enc ok w b kv) (y : α) (hy : ok y) (hm : a.eval m = .map (some b)) (hx : a.eval x = enc y)
    (hK : ∀ w', Mp enc ok w' b (del kv y) → Touch [b] w w' → w'.heap.size = w.heap.size → wpList P ops Q rest (a.put o.dst (.tuple #[])) w') : wpList P ops Q (o :: rest) a w := by
  refine wpList_plain hg fun K' hK' => ?_
  obtain ⟨w', hrun, r1, r2, r3⟩ := h.drop E ht hy o.type
  unfold Oper.wp
  simp [execOp, hop, resolve, invoke, builtin, hm, hx, hrun, Result.andThen]
  exact hK' _ _ (hK w' r1 r2 r3)
theorem look_del_same (kv : List (Int × Value)) (a : Int) : look (del kv a) a = none := by
  rw [look_none]
  intro p hp
  unfold del at hp
  simpa using (List.mem_filter.1 hp).2
theorem look_del_other (kv : List (Int × Value)) (a b : Int) (h : b ≠ a) : look (del kv a) b = look kv b := by
  unfold look del
  rw [List.find?_filter]
  congr 2
  funext p
  by_cases e : p.1 = b
  · have : p.1 ≠ a := by omega
    simp [e, h]
  · simp [e]
/-- A heap in order. -/
structure HB (w : World) (h m : Nat) (v : Value) (its : List Itm) (kv : List (Int × Value)) (last : Int) : Prop where
  hp : Hp w h m v its kv last
  ids : (its.map Itm.id).Nodup
  ix : Ix kv its
  heap : Heap Itm.key its
  top : ∀ y ∈ its, 1 ≤ y.id ∧ y.id ≤ last
  lo : 0 ≤ last
  hi : last ≤ 1000
/-- What a step leaves of the heap's own blocks: its own, or new ones. -/
def Foot (h m : Nat) (v v' : Value) (w : World) : Prop := ∀ y ∈ Hp.foot h m v', y ∈ Hp.foot h m v ∨ w.heap.size ≤ y
theorem okK_of {i : Int} (h0 : -9223372036854775808 ≤ i) (h1 : i ≤ 9223372036854775807) : okK i := by
  unfold okK
  simp [Lit.wf]
  have : IntKind.i64.min = -9223372036854775808 := rfl
  omega
theorem HB.touch {S : List Nat} {w w' : World} {h m : Nat} {v : Value} {its : List Itm} {kv : List (Int × Value)} {last : Int} (k : HB w h m v its kv last) (t : Touch S w w') (hS : ∀ y ∈ Hp.foot h m v, y ∉ S) : HB w' h m v its kv last :=
  ⟨k.hp.touch t hS, k.ids, k.ix, k.heap, k.top, k.lo, k.hi⟩
/-- After sifting: in order. -/
theorem HB.sifted {w : World} {h m : Nat} {v : Value} {its its' : List Itm} {kv kv' : List (Int × Value)} {last : Int} (hp : Hp w h m v its' kv' last) (hperm : its'.Perm its) (hn : (its.map Itm.id).Nodup) (hh : Heap Itm.key its')
    (h1 : ∀ (j : Nat) y, its'[j]? = some y → look kv' y.id = some (.int .i64 j)) (h2 : ∀ id, (∀ y ∈ its, y.id ≠ id) → look kv' id = look kv id) (h3 : ∀ id, (∀ y ∈ its, y.id ≠ id) → look kv id = none)
    (h4 : ∀ y ∈ its, 1 ≤ y.id ∧ y.id ≤ last) (h5 : 0 ≤ last) (h6 : last ≤ 1000) : HB w h m v its' kv' last :=
  ⟨hp, (hperm.map Itm.id).nodup_iff.2 hn, ⟨h1, fun id hid => by
    have hid' : ∀ y ∈ its, y.id ≠ id := fun y hy => hid y (hperm.mem_iff.2 hy)
    rw [h2 id hid', h3 id hid']⟩, hh, fun y hy => h4 y (hperm.mem_iff.1 hy), h5, h6⟩
set_option maxRecDepth 100000 in
set_option maxHeartbeats 1000000 in
theorem fix_any (h m : Nat) (v : Value) (its : List Itm) (kv : List (Int × Value)) (last : Int) (i : Nat) (x : Itm) (w : World) (k : Hp w h m v its kv last) (hx : its[i]? = some x) (hn : (its.map Itm.id).Nodup) (hix : IxB kv its i) (hu : Up Itm.key its i) :
    Calls Try.prog 52 #[.pointer (some ⟨h, 0, none⟩), .int .i64 i] w fun e w' => ∃ (its' : List Itm) (kv' : List (Int × Value)), e = .returned (.tuple #[]) ∧ Hp w' h m v its' kv' last ∧ its'.Perm its ∧ Heap Itm.key its' ∧
      (∀ (j : Nat) y, its'[j]? = some y → look kv' y.id = some (.int .i64 j)) ∧ (∀ id, (∀ y ∈ its, y.id ≠ id) → look kv' id = look kv id) ∧ Touch (m :: v.ownBlock.toList) w w' := by
  have HU := Lib.hid (up_any h m v its kv last i x w k hx hn hix hu)
  have HN := Lib.hid hn
  clear k hx hn hix hu
  go_enter Try.func52, Try.ntmps52
  go_wp2_with fail
  refine HU.out.mono ?_
  rintro e w1 ⟨j, its1, kv1, rfl, hj, hp1, hperm1, hd1, _, ha1, ho1, t1⟩
  have hjl : j < its1.length := by rw [hperm1.length_eq]; exact hj
  have hx1 := List.getElem?_eq_getElem hjl
  have HD := Lib.hid (down_any h m v its1 kv1 last j _ w1 hp1 hx1 ((hperm1.map Itm.id).nodup_iff.2 HN.out) (fun j' y _ hy => ha1 j' y hy) hd1)
  have HP := Lib.hid (⟨hperm1, ho1, t1⟩ : _ ∧ _ ∧ _)
  clear hp1 hd1 ha1 hx1 hjl t1 ho1 hperm1
  go_wp2_with fail
  refine HD.out.mono ?_
  rintro e w2 ⟨its2, kv2, rfl, hp2, hperm2, hh2, ha2, ho2, t2⟩
  obtain ⟨p1, p2, p3⟩ := HP.out
  have FIN := Lib.hid (show Hp w2 h m v its2 kv2 last ∧ its2.Perm its ∧ Heap Itm.key its2 ∧ (∀ (j : Nat) y, its2[j]? = some y → look kv2 y.id = some (.int .i64 j)) ∧ (∀ id, (∀ y ∈ its, y.id ≠ id) → look kv2 id = look kv id) ∧ Touch (m :: v.ownBlock.toList) w w2 from
    ⟨hp2, hperm2.trans p1, hh2, ha2, fun id hid => by rw [ho2 id (fun y hy => hid y (p1.mem_iff.1 hy)), p2 id hid], p3.trans t2 (fun y hy => .inl hy)⟩)
  clear hp2 hperm2 hh2 ha2 ho2 t2 p1 p2 p3 HP
  go_wp2_with fail
  exact end0 rfl rfl ⟨its2, kv2, rfl, FIN.out⟩
end Go.Proofs.Ytobkanlnnniabaa.I

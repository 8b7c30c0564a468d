/-
  The statement 'TimerHandlesUniqueSaid' of the seat: the frame of the row round the walk of the law's Go function (YtobkanlnnniabaaW4): for every input the call returns true and each argument reads as it did.
-/
import Derived.Test.YtobkanlnnniabaaKB4
import Derived.Deep.Slices
import Derived.OpenShut
import Derived.WideShapes
import Derived.IntWalk
import Derived.WalkKit
import Derived.ProofKit
import Derived.ShutString
import Derived.ChangeOld
import Derived.Below

/-
  A slice or a struct that came in, of elements whose type is flat but for its leaves (structs and arrays taken apart, whatever else is a leaf): every cell of it lies in memory and reads by its own leaf's type. Over any program; no condition of our own.
-/
namespace Go.Proofs.Ytobkanlnnniabaa
open Go.ChangeShapes Go.WideShapes Go.Deep
set_option linter.unusedVariables false
set_option linter.unusedSimpArgs false

def flatFs (P : Program) (f : TypeId → Option (List TypeId)) : List Field → Nat → Option (List TypeId)
  | [], _ => some []
  | x :: r, off => if x.offset = off then (f x.type).bind fun l => if l.length = P.cellsOf x.type then (flatFs P f r (off + l.length)).map (l ++ ·) else none else none

/-- The leaves of a type, cell by cell. -/
def flatT (P : Program) : Nat → TypeId → Option (List TypeId)
  | 0, _ => none
  | d + 1, t => match P.underlying t with
    | some (.struct fs) => (flatFs P (flatT P d) fs.toList 0).bind fun l => if l.length = P.cellsOf t then some l else none
    | some (.array n e) => (flatT P d e).bind fun l => if l.length = P.cellsOf e ∧ n * l.length = P.cellsOf t then some (List.replicate n l).flatten else none
    | _ => some [t]

section
variable {H : Type} {enc : TypeId × Value → H} {P : Program} {w : World} {base : Nat} {spare : Nat → Bool} {held : Bool}

/-- The value v reads by its own type t. -/
def Leaf (enc : TypeId × Value → H) (P : Program) (w : World) (base : Nat) (spare : Nat → Bool) (held : Bool) (t : TypeId) (v : Value) : Prop := ∃ m y, DataW.trod enc P w base spare held m t [v] = some y

theorem leaf_one {t : TypeId} {fuel : Nat} {cs : List Value} {x : DataW H × List MemPlace} (hs : ∀ fs, P.underlying t ≠ some (.struct fs)) (ha : ∀ n e, P.underlying t ≠ some (.array n e))
    (h : DataW.trod enc P w base spare held fuel t cs = some x) : ∃ v, cs = [v] := by
  cases fuel with
  | zero => simp [DataW.trod] at h
  | succ m =>
    unfold DataW.trod at h
    split at h <;> first
      | exact ⟨_, rfl⟩
      | (rename_i h1; exact absurd h1 (hs _))
      | (rename_i h1; exact absurd h1 (ha _ _))
      | simp at h

/-- What the reading of a value of type t says of its cells. -/
def CellsOk (enc : TypeId × Value → H) (P : Program) (w : World) (base : Nat) (spare : Nat → Bool) (held : Bool) (ts : List TypeId) (cs : List Value) : Prop :=
  cs.length = ts.length ∧ ∀ (i : Nat) (t : TypeId), ts[i]? = some t → ∃ v, cs[i]? = some v ∧ Leaf enc P w base spare held t v

theorem flatFs_ok {f : TypeId → Option (List TypeId)} {cs : List Value} (hrec : ∀ t cs x m ts, f t = some ts → DataW.trod enc P w base spare held m t cs = some x → CellsOk enc P w base spare held ts cs) :
    ∀ (l : List Field) (off : Nat) (ts : List TypeId), flatFs P f l off = some ts →
      (∀ fd ∈ l, ∃ m x, DataW.trod enc P w base spare held m fd.type ((cs.drop fd.offset).take (P.cellsOf fd.type)) = some x) →
      ∀ (i : Nat) (t : TypeId), ts[i]? = some t → ∃ v, cs[off + i]? = some v ∧ Leaf enc P w base spare held t v := by
  intro l
  induction l with
  | nil => intro off ts h _ i t hi; simp [flatFs] at h; subst h; simp at hi
  | cons fd r ih =>
    intro off ts h hall i t hi
    simp only [flatFs] at h
    split at h
    · rename_i ho
      obtain ⟨l1, h1, h2⟩ := Option.bind_eq_some_iff.1 h
      split at h2
      · rename_i hl
        obtain ⟨l2, h3, rfl⟩ := Option.map_eq_some_iff.1 h2
        obtain ⟨m, x, hx⟩ := hall fd (List.mem_cons_self)
        obtain ⟨k1, k2⟩ := hrec _ _ _ _ _ h1 hx
        by_cases hlt : i < l1.length
        · rw [List.getElem?_append_left hlt] at hi
          obtain ⟨v, hv, hleaf⟩ := k2 i t hi
          refine ⟨v, ?_, hleaf⟩
          rw [List.getElem?_take] at hv
          split at hv
          · rw [List.getElem?_drop, ho] at hv
            exact hv
          · cases hv
        · rw [List.getElem?_append_right (by omega)] at hi
          obtain ⟨v, hv, hleaf⟩ := ih _ _ h3 (fun fd' hfd => hall fd' (List.mem_cons_of_mem _ hfd)) _ _ hi
          exact ⟨v, by rw [← hv]; congr 1; omega, hleaf⟩
      · cases h2
    · cases h

theorem getElem?_flatten_replicate {α : Type} (l : List α) (n i : Nat) : (List.replicate n l).flatten[i]? = if i < n * l.length then l[i % l.length]? else none := by
  induction n generalizing i with
  | zero => simp
  | succ n ih =>
    rw [List.replicate_succ, List.flatten_cons]
    by_cases h : i < l.length
    · rw [List.getElem?_append_left h, Nat.mod_eq_of_lt h, if_pos]
      rw [Nat.succ_mul]; omega
    · rw [List.getElem?_append_right (by omega), ih]
      have e : (i - l.length) % l.length = i % l.length := by
        rw [← Nat.mod_eq_sub_mod (by omega)]
      rw [e]
      by_cases h2 : i - l.length < n * l.length
      · rw [if_pos h2, if_pos (by rw [Nat.succ_mul]; omega)]
      · rw [if_neg h2, if_neg (by rw [Nat.succ_mul]; omega)]

theorem flat_ok : ∀ (d : Nat) (t : TypeId) (cs : List Value) (x : DataW H × List MemPlace) (m : Nat) (ts : List TypeId), flatT P d t = some ts →
    DataW.trod enc P w base spare held m t cs = some x → CellsOk enc P w base spare held ts cs := by
  intro d
  induction d with
  | zero => intro t cs x m ts h; simp [flatT] at h
  | succ d ih =>
    intro t cs x m ts h hx
    simp only [flatT] at h
    split at h
    · rename_i fs hfs
      obtain ⟨l, h1, h2⟩ := Option.bind_eq_some_iff.1 h
      split at h2
      · rename_i hl
        obtain rfl := Option.some.inj h2
        obtain ⟨xs, k, _, _, hcl, hxl, hf⟩ := DataW.trod_struct hfs hx
        refine ⟨by rw [hcl, hl], ?_⟩
        have := flatFs_ok (cs := cs) ih fs.toList 0 l h1 (fun fd hfd => by
          obtain ⟨i, hi, rfl⟩ := List.getElem_of_mem hfd
          have h3 := hf i (fs.toList[i]) (by simp)
          rw [List.getElem?_eq_getElem (by rw [hxl]; simpa using hi)] at h3
          exact ⟨_, _, h3⟩)
        intro i t hi
        have := this i t hi
        simpa using this
      · cases h2
    · rename_i n e hne
      obtain ⟨l, h1, h2⟩ := Option.bind_eq_some_iff.1 h
      split at h2
      · rename_i hl
        obtain rfl := Option.some.inj h2
        obtain ⟨xs, k, _, _, hcl, hxl, hf⟩ := DataW.trod_array hne hx
        refine ⟨by rw [hcl, ← hl.2]; simp, ?_⟩
        intro i t hi
        rw [getElem?_flatten_replicate] at hi
        split at hi
        · rename_i hlt
          have hpos : 0 < l.length := by
            rcases Nat.eq_zero_or_pos l.length with h0 | h0
            · rw [h0] at hlt; omega
            · exact h0
          have hq : i / l.length < n := (Nat.div_lt_iff_lt_mul hpos).2 hlt
          have h3 := hf (i / l.length) hq
          rw [List.getElem?_eq_getElem (by rw [hxl]; exact hq)] at h3
          obtain ⟨_, k2⟩ := ih _ _ _ _ _ h1 h3
          obtain ⟨v, hv, hleaf⟩ := k2 _ _ hi
          refine ⟨v, ?_, hleaf⟩
          rw [List.getElem?_take] at hv
          split at hv
          · rw [List.getElem?_drop, ← hl.1] at hv
            rw [← hv]
            congr 1
            rw [Nat.mul_comm]
            exact (Nat.div_add_mod i l.length).symm
          · cases hv
        · cases hi
      · cases h2
    · rename_i hns hna
      obtain rfl := Option.some.inj h
      obtain ⟨v, rfl⟩ := leaf_one (fun fs hfs => hns fs hfs) (fun n e he => hna n e he) hx
      refine ⟨rfl, ?_⟩
      intro i t' hi
      match i, hi with
      | 0, hi => simp at hi; subst hi; exact ⟨v, rfl, m, x, hx⟩

theorem Leaf.int {t : TypeId} {k : IntKind} {v : Value} (ht : P.underlying t = some (.int k)) (h : Leaf enc P w base spare held t v) : ∃ n, v = .int k n ∧ (Lit.int k n).wf = true := by
  obtain ⟨m, y, h⟩ := h
  obtain ⟨n, h1, _, h2⟩ := DataW.trod_int ht h
  exact ⟨n, by simpa using h1, h2⟩
theorem Leaf.bool {t : TypeId} {v : Value} (ht : P.underlying t = some .bool) (h : Leaf enc P w base spare held t v) : ∃ b, v = .bool b := by
  obtain ⟨m, y, h⟩ := h
  obtain ⟨n, h1, _⟩ := DataW.trod_bool ht h
  exact ⟨n, by simpa using h1⟩
theorem Leaf.string {t : TypeId} {v : Value} (ht : P.underlying t = some .string) (h : Leaf enc P w base spare held t v) : ∃ s : ByteArray, v = .string s ∧ s.size ≤ maxLen := by
  obtain ⟨m, y, h⟩ := h
  obtain ⟨s, h1, _, h2⟩ := DataW.trod_string ht h
  exact ⟨s, by simpa using h1, h2⟩

/-- A slice that came in: nil; or 'cap' elements lie at ⟨b, off⟩, each of as many cells as its type has leaves. -/
def IsSlice (enc : TypeId × Value → H) (P : Program) (w : World) (base : Nat) (spare : Nat → Bool) (held : Bool) (ts : List TypeId) (v : Value) : Prop :=
  v = .slice none 0 0 ∨ ∃ (a : Addr) (len cap : Nat), v = .slice (some a) len cap ∧ len ≤ cap ∧ cap ≤ maxLen ∧
    ∀ i j t, i < len → ts[j]? = some t → ∃ u, w.cell? (a.add (i * ts.length + j)) = some u ∧ Leaf enc P w base spare held t u

theorem slice_ok {t e : TypeId} {fuel d : Nat} {v : Value} {x : DataW H × List MemPlace} {ts : List TypeId} (ht : P.underlying t = some (.slice e)) (hts : flatT P d e = some ts) (hn : ts.length = P.cellsOf e)
    (h : DataW.trod enc P w base spare held fuel t [v] = some x) : IsSlice enc P w base spare held ts v := by
  rcases open_slice ht h with ⟨h0, _⟩ | ⟨a, len, cap, m, n, D, Pl, h0, hb, hl, hm, hmm, _, hx⟩
  · exact .inl (by simpa using h0)
  · refine .inr ⟨a, len, cap, by simpa using h0, hl, hm, fun i j t' hi hj => ?_⟩
    obtain ⟨cs', h1, h2⟩ := hx i (by rw [hmm]; split <;> omega)
    obtain ⟨k1, k2⟩ := flat_ok d e cs' _ n ts hts h2
    obtain ⟨u, hu, hleaf⟩ := k2 j t' hj
    obtain ⟨_, hlen, hcell⟩ := World.cells?_some h1
    refine ⟨u, ?_, hleaf⟩
    have hjlt : j < ts.length := (List.getElem?_eq_some_iff.1 hj).1
    have := hcell j (by omega)
    rw [add_add, ← hn] at this
    rw [this, hu]

/-- .. with the address taken apart, where it has an element. -/
theorem IsSlice.at {ts : List TypeId} {v : Value} (h : IsSlice enc P w base spare held ts v) (hpos : 0 < ts.length) :
    ∃ (a : Option Addr) (len cap : Nat), v = .slice a len cap ∧ len ≤ cap ∧ cap ≤ maxLen ∧
      (len = 0 ∨ ∃ b off, a = some ⟨b, off, none⟩ ∧ ∀ i j t, i < len → ts[j]? = some t → ∃ u, w.cell? ⟨b, off + (i * ts.length + j), none⟩ = some u ∧ Leaf enc P w base spare held t u) := by
  rcases h with rfl | ⟨a, len, cap, rfl, hl, hm, hc⟩
  · exact ⟨none, 0, 0, rfl, Nat.le_refl _, by simp [maxLen], .inl rfl⟩
  · refine ⟨some a, len, cap, rfl, hl, hm, ?_⟩
    by_cases h0 : len = 0
    · exact .inl h0
    · right
      obtain ⟨b, off, spot⟩ := a
      obtain ⟨u, hu, _⟩ := hc 0 0 (ts[0]) (by omega) (by simp)
      have hs : spot = none := by simpa [Addr.add] using World.cell?_spot hu
      subst hs
      refine ⟨b, off, rfl, fun i j t hi hj => ?_⟩
      obtain ⟨u, hu, hleaf⟩ := hc i j t hi hj
      exact ⟨u, by rw [Addr.add_lit] at hu; exact hu, hleaf⟩

theorem okWide_struct {r : Reach} {t : TypeId} {fs : Array Field} {v : Value} (ht : P.underlying t = some (.struct fs)) (h : Value.okWide P w r base t v) : ∃ cs, v = .agg cs := by
  simp only [Value.okWide, ht] at h
  obtain ⟨cs, hv, _⟩ := h
  exact ⟨cs, hv⟩
theorem okWide_array {r : Reach} {t n e : Nat} {v : Value} (ht : P.underlying t = some (.array n e)) (h : Value.okWide P w r base t v) : ∃ cs, v = .agg cs := by
  simp only [Value.okWide, ht] at h
  obtain ⟨cs, hv, _⟩ := h
  exact ⟨cs, hv⟩

/-- A struct or an array by value. -/
theorem agg_ok {t : TypeId} {fuel d : Nat} {cs : Array Value} {x : DataW H × List MemPlace} {ts : List TypeId} (hts : flatT P d t = some ts)
    (h : DataW.trod enc P w base spare held fuel t cs.toList = some x) : CellsOk enc P w base spare held ts cs.toList := flat_ok d t _ _ _ _ hts h
end
end Go.Proofs.Ytobkanlnnniabaa

/-
  A slice that came in, told as a list of its elements' cells. Plain lemmas over any program.
-/
namespace Go.Proofs.Ytobkanlnnniabaa
open Go.ChangeShapes Go.WideShapes Go.Deep
set_option linter.unusedVariables false
set_option linter.unusedSimpArgs false

theorem slice_rows {H : Type} {enc : TypeId × Value → H} {P : Program} {w : World} {base : Nat} {spare : Nat → Bool} {held : Bool} {ts : List TypeId} {v : Value} (hpos : 0 < ts.length) (hv : IsSlice enc P w base spare held ts v) :
    ∃ b xs, Rd w ts.length b v xs ∧ ∀ x ∈ xs, CellsOk enc P w base spare held ts x := by
  rcases hv with rfl | ⟨a, len, cap, rfl, hl, hm, hc⟩
  · exact ⟨0, [], ⟨none, 0, rfl, Nat.le_refl _, by simp [maxLen], fun _ => rfl, fun h => absurd rfl h⟩, by simp⟩
  · obtain ⟨b, off, spot⟩ := a
    let el : Nat → List Value := fun i => (List.range ts.length).map fun j => (w.cell? ((⟨b, off, spot⟩ : Addr).add (i * ts.length + j))).getD undef
    have hel : ∀ i j, j < ts.length → (el i)[j]? = some ((w.cell? ((⟨b, off, spot⟩ : Addr).add (i * ts.length + j))).getD undef) := by
      intro i j hj
      simp [el, hj]
    refine ⟨b, (List.range len).map el, ⟨some ⟨b, off, spot⟩, cap, by simp, by simpa using hl, hm, (by intro h; cases h), fun hne => ?_⟩, ?_⟩
    · have h0 : 0 < len := by
        rcases Nat.eq_zero_or_pos len with h | h
        · subst h; simp at hne
        · exact h
      obtain ⟨u, hu, _⟩ := hc 0 0 (ts[0]) h0 (by simp)
      have hs : spot = none := by simpa [Addr.add] using World.cell?_spot hu
      subst hs
      refine ⟨off, rfl, fun i x hx => ?_⟩
      intro j u hj
      have hi : i < len := by
        have := (List.getElem?_eq_some_iff.1 hx).1
        simpa using this
      obtain rfl : el i = x := by simpa [hi] using hx
      have hjl : j < ts.length := by
        have := (List.getElem?_eq_some_iff.1 hj).1
        simpa [el] using this
      rw [hel i j hjl] at hj
      obtain ⟨u', hu', _⟩ := hc i j (ts[j]) hi (by simp [hjl])
      rw [hu'] at hj
      simp at hj
      subst hj
      rw [Addr.add_lit] at hu'
      rw [Nat.add_assoc]
      exact hu'
    · intro x hx
      obtain ⟨i, hi, rfl⟩ := List.mem_map.1 hx
      have hi' : i < len := by simpa using hi
      refine ⟨by simp [el], fun j t ht => ?_⟩
      obtain ⟨u, hu, hleaf⟩ := hc i j t hi' ht
      have hjl : j < ts.length := (List.getElem?_eq_some_iff.1 ht).1
      exact ⟨u, by rw [hel i j hjl, hu]; rfl, hleaf⟩
end Go.Proofs.Ytobkanlnnniabaa

/-
  A slice of due times that came in.
-/
namespace Go.Proofs.Ytobkanlnnniabaa
open Go.ChangeShapes Go.WideShapes Go.RowKit
set_option linter.unusedVariables false
set_option linter.unusedSimpArgs false

/-- The cells of a uint64. -/
def encU (x : Int) : List Value := [.int .u64 x]
def U64 (x : Int) : Prop := (Lit.int .u64 x).wf = true
theorem u64_rows {H : Type} {enc : TypeId × Value → H} {w : World} {base : Nat} {spare : Nat → Bool} {held : Bool} {v : Value} (hv : IsSlice enc Try.prog w base spare held [23] v) : ∃ (b : Nat) (l : List Int), Rd w 1 b v (l.map encU) ∧ ∀ x ∈ l, U64 x := by
  obtain ⟨b, xs, hr, hx⟩ := slice_rows (by simp) hv
  have h : ∃ l : List Int, xs = l.map encU ∧ ∀ x ∈ l, U64 x := by
    clear hr
    induction xs with
    | nil => exact ⟨[], rfl, by simp⟩
    | cons x xs ih =>
      obtain ⟨l, rfl, hl⟩ := ih (fun y hy => hx y (List.mem_cons_of_mem _ hy))
      obtain ⟨hlen, hc⟩ := hx x List.mem_cons_self
      obtain ⟨v0, e0, l0⟩ := hc 0 23 rfl
      obtain ⟨a, rfl, wa⟩ := l0.int Try.underlying23
      refine ⟨a :: l, ?_, ?_⟩
      · match x, hlen with
        | [y], _ => simp at e0; rw [e0]; rfl
      · intro y hy
        rcases List.mem_cons.1 hy with rfl | hy
        · exact wa
        · exact hl y hy
  obtain ⟨l, rfl, hl⟩ := h
  exact ⟨b, l, hr, hl⟩
theorem rd_u64 {w : World} {b n cap : Nat} {a : Option Addr} {l : List Int} (h : Rd w 1 b (.slice a n cap) (l.map encU)) {i : Nat} {x : Int} (hi : l[i]? = some x) :
    ∃ off, a = some ⟨b, off, none⟩ ∧ w.cell? ⟨b, off + i, none⟩ = some (.int .u64 x) := by
  obtain ⟨off, ha, hat⟩ := h.at (by intro e; simp at e; subst e; simp at hi)
  have := hat i (encU x) (by simp [hi])
  have h0 := this 0 _ rfl
  rw [Nat.mul_one] at h0
  exact ⟨off, ha, h0⟩
theorem u64_lo {x : Int} (h : U64 x) : 0 ≤ x := by
  unfold U64 at h
  simp [Lit.wf] at h
  have : IntKind.u64.min = 0 := rfl
  omega
end Go.Proofs.Ytobkanlnnniabaa

/-
  The statements' Mod.
-/
namespace Go.Proofs.Ytobkanlnnniabaa
open Go.RowKit
set_option linter.unusedVariables false
set_option linter.unusedSimpArgs false

def gmod (v n : Int) : Int := (v % 18446744073709551616) % n
theorem gmod_lo (v n : Int) (hn : 1 ≤ n) : 0 ≤ gmod v n := Int.emod_nonneg _ (by omega)
theorem gmod_hi (v n : Int) (hn : 1 ≤ n) : gmod v n < n := Int.emod_lt_of_pos _ (by omega)
theorem mod_eq (v n : Int) (hn : 1 ≤ n) (hn2 : n ≤ 2000000) : wrap64 ((IntKind.u64.wrap v).tmod n) = gmod v n := by
  have h0 : 0 ≤ IntKind.u64.wrap v := by simp [IntKind.wrap, IntKind.signed, IntKind.bits]; omega
  rw [Int.tmod_eq_emod_of_nonneg h0]
  have h1 := Int.emod_nonneg (IntKind.u64.wrap v) (show n ≠ 0 by omega)
  have h2 := Int.emod_lt_of_pos (IntKind.u64.wrap v) (show 0 < n by omega)
  rw [IntWalk.wrap64_in _ ⟨by omega, by omega⟩]
  unfold gmod
  congr 1
theorem mod_any (v n : Int) (w : World) (hn : 1 ≤ n) (hn2 : n ≤ 2000000) :
    Calls Try.prog 17 #[.int .i64 v, .int .i64 n] w fun e w' => e = .returned (.int .i64 (gmod v n)) ∧ w = w' := by
  have H := mod_eq v n hn hn2
  go_enter Try.func17, Try.ntmps17
  go_wp2
  go_ret
  exact ⟨by simp [← H], rfl⟩
end Go.Proofs.Ytobkanlnnniabaa

/-
  A slice of ints that came in; someHandle.
-/
namespace Go.Proofs.Ytobkanlnnniabaa
open Go.ChangeShapes Go.WideShapes Go.RowKit
set_option linter.unusedVariables false
set_option linter.unusedSimpArgs false

/-- The cells of an int. -/
def encN (x : Int) : List Value := [.int .i64 x]
theorem i64_rows {H : Type} {enc : TypeId × Value → H} {w : World} {base : Nat} {spare : Nat → Bool} {held : Bool} {v : Value} (hv : IsSlice enc Try.prog w base spare held [3] v) : ∃ (b : Nat) (l : List Int), Rd w 1 b v (l.map encN) ∧ ∀ x ∈ l, okK x := by
  obtain ⟨b, xs, hr, hx⟩ := slice_rows (by simp) hv
  have h : ∃ l : List Int, xs = l.map encN ∧ ∀ x ∈ l, okK x := by
    clear hr
    induction xs with
    | nil => exact ⟨[], rfl, by simp⟩
    | cons x xs ih =>
      obtain ⟨l, rfl, hl⟩ := ih (fun y hy => hx y (List.mem_cons_of_mem _ hy))
      obtain ⟨hlen, hc⟩ := hx x List.mem_cons_self
      obtain ⟨v0, e0, l0⟩ := hc 0 3 rfl
      obtain ⟨a, rfl, wa⟩ := l0.int Try.underlying3
      refine ⟨a :: l, ?_, ?_⟩
      · match x, hlen with
        | [y], _ => simp at e0; rw [e0]; rfl
      · intro y hy
        rcases List.mem_cons.1 hy with rfl | hy
        · exact wa
        · exact hl y hy
  obtain ⟨l, rfl, hl⟩ := h
  exact ⟨b, l, hr, hl⟩
theorem rd_i64 {w : World} {b n cap : Nat} {a : Option Addr} {l : List Int} (h : Rd w 1 b (.slice a n cap) (l.map encN)) {i : Nat} {x : Int} (hi : l[i]? = some x) :
    ∃ off, a = some ⟨b, off, none⟩ ∧ w.cell? ⟨b, off + i, none⟩ = some (.int .i64 x) := by
  obtain ⟨off, ha, hat⟩ := h.at (by intro e; simp at e; subst e; simp at hi)
  have := hat i (encN x) (by simp [hi])
  have h0 := this 0 _ rfl
  rw [Nat.mul_one] at h0
  exact ⟨off, ha, h0⟩
theorem u64_max {x : Int} (h : U64 x) : 0 ≤ x ∧ x ≤ maxT := by
  refine ⟨u64_lo h, ?_⟩
  unfold U64 at h
  simp [Lit.wf] at h
  have : IntKind.u64.max = 18446744073709551615 := rfl
  unfold maxT
  omega
theorem okN_of {i : Int} (h0 : -9223372036854775808 ≤ i) (h1 : i ≤ 9223372036854775807) : okK i := by
  unfold okK
  simp [Lit.wf]
  have : IntKind.i64.min = -9223372036854775808 := rfl
  omega
theorem okN_bd {i : Int} (h : okK i) : -9223372036854775808 ≤ i ∧ i ≤ 9223372036854775807 := by
  unfold okK at h
  simp [Lit.wf] at h
  have : IntKind.i64.min = -9223372036854775808 := rfl
  have : IntKind.i64.max = 9223372036854775807 := rfl
  omega
end Go.Proofs.Ytobkanlnnniabaa

/-
  The walk of TimerHandlesUnique: true at every slice of handles and every due time. No condition.
-/
namespace Go.Proofs.Ytobkanlnnniabaa
open Go.ChangeShapes Go.WideShapes Go.RowKit
set_option linter.unusedVariables false
set_option linter.unusedSimpArgs false

def someH (n : Int) : Int := if gmod n 11 = 10 then n else gmod n 24
theorem someH_ok {n : Int} (h : okK n) : okK (someH n) := by
  unfold someH
  split
  · exact h
  · have h1 := gmod_lo n 24 (by omega)
    have h2 := gmod_hi n 24 (by omega)
    exact okN_of (by omega) (by omega)
set_option maxRecDepth 100000 in
set_option maxHeartbeats 1000000 in
theorem some_any (n : Int) (w : World) : Calls Try.prog 13 #[.int .i64 n] w fun e w' => e = .returned (.int .i64 (someH n)) ∧ w = w' := by
  by_cases h : gmod n 11 = 10
  · have HE := Lib.hid (show someH n = n by unfold someH; rw [if_pos h])
    have h1 : (gmod n 11 == 10) = true := by simpa using h
    clear h
    go_enter Try.func13, Try.ntmps13
    go_wp2_with fail
    refine (mod_any n 11 _ (by omega) (by omega)).mono ?_
    rintro e w' ⟨rfl, rfl⟩
    go_wp2_with fail
    go_ret
    exact ⟨by rw [HE.out]; rfl, rfl⟩
  · have HE := Lib.hid (show someH n = gmod n 24 by unfold someH; rw [if_neg h])
    have h1 : (gmod n 11 == 10) = false := by simpa using h
    clear h
    go_enter Try.func13, Try.ntmps13
    go_wp2_with fail
    refine (mod_any n 11 _ (by omega) (by omega)).mono ?_
    rintro e w' ⟨rfl, rfl⟩
    go_wp2_with fail
    refine (mod_any n 24 _ (by omega) (by omega)).mono ?_
    rintro e w' ⟨rfl, rfl⟩
    go_wp2_with fail
    go_ret
    exact ⟨by rw [HE.out]; rfl, rfl⟩
/-- What a round leaves. -/
def St4 (w wr : World) (t h i : Nat) (last : Int) : Prop := ∃ A, S.Abv w wr t h A last ∧ 0 ≤ last ∧ last ≤ i ∧ A.length ≤ i
/-- Cancel, either way. -/
theorem St4.cancel {w wr : World} {t h i : Nat} {last : Int} (k : St4 w wr t h i last) (hi : i ≤ 1000) : Calls Try.prog 16 #[.pointer (some ⟨t, 0, none⟩), .int .i64 last] wr fun e w' => ∃ m : Int, e = .returned (.int .i64 m) ∧ St4 w w' t h i last := by
  obtain ⟨A, ha, h0, h1, h2⟩ := k
  by_cases hm : last ∈ tids (A.map Prod.fst)
  · refine (ha.cancel last hm).mono ?_
    rintro e w' ⟨l, rfl, hs, hc⟩
    exact ⟨_, rfl, _, hc, h0, h1, Nat.le_trans (List.length_filter_le _ _) h2⟩
  · refine (ha.cancel_no last (okN_of (by omega) (by omega)) hm).mono ?_
    rintro e w' ⟨rfl, hc⟩
    exact ⟨_, rfl, A, hc, h0, h1, h2⟩
set_option maxRecDepth 100000 in
set_option maxHeartbeats 4000000 in
theorem walk4 (v : Value) (b : Nat) (l : List Int) (due : Int) (w : World) (hr : Rd w 1 b v (l.map encN)) (hl : ∀ x ∈ l, okK x) (hd : 0 ≤ due ∧ due ≤ maxT) :
    Calls Try.prog 4 #[v, .int .u64 due] w fun e w' => e = .returned (.bool true) ∧ Touch [] w w' := by
  obtain ⟨a, cap, rfl, hc, hm⟩ := hr.form
  rw [List.length_map] at hc hr ⊢
  have hll : (l.length : Int) ≤ 9223372036854775807 := by unfold maxLen at hm; omega
  have HD := Lib.hid hd
  clear hd
  go_enter Try.func4, Try.ntmps4
  go_wp2_with fail
  refine (S.Abv.new w).mono ?_
  rintro e w1 ⟨t, h, rfl, k1⟩
  have H1 := Lib.hid (show St4 w w1 t h 0 0 from ⟨[], k1, by omega, by omega, by simp⟩)
  clear k1
  go_wp2_with fail
  go_loopw [6, 7] (fun vn vi wr => ∃ (i : Nat) (last : Int), vi = .int .i64 i ∧ i ≤ 50 ∧ vn = .int .i64 (last + 1) ∧ St4 w wr t h i last) (fun _ vi _ => 50 - (intOf vi).toNat)
  case atStart => exact ⟨0, 0, rfl, by omega, rfl, H1.out⟩
  case round =>
    obtain ⟨i, last, rfl, hi, rfl, hs⟩ := hrel
    have HS := Lib.hid hs
    obtain ⟨A, ha, h0, h1, h2⟩ := hs
    have HA := Lib.hid ha
    clear ha
    by_cases hlt : i < l.length ∧ i < 50
    · obtain ⟨hlt, hi2⟩ := hlt
      have hx : l[i]? = some l[i] := List.getElem?_eq_getElem hlt
      have hok := hl l[i] (List.getElem_mem _)
      generalize l[i] = x at hx hok
      obtain ⟨off, rfl, p1⟩ := rd_i64 (hr.touch HA.out.tt (by simp)) hx
      have HOK := Lib.hid (someH_ok hok)
      have hwi : IntKind.i64.wrap ((i : Int) + 1) = (i : Int) + 1 := by rw [IntKind.wrap_i64] <;> omega
      have hwl : IntKind.i64.wrap (last + 1 + 1) = last + 1 + 1 := by rw [IntKind.wrap_i64] <;> omega
      have hwm : IntKind.i64.wrap (last + 1 - 1) = last := by rw [IntKind.wrap_i64] <;> omega
      have hwm2 : IntKind.i64.wrap (last + 1 + 1 - 1) = last + 1 := by rw [IntKind.wrap_i64] <;> omega
      have hb1 : (i : Int) < (l.length : Int) := by omega
      have hb2 : (i : Int) < 50 := by omega
      have htm : (i : Int).tmod 5 = (i : Int) % 5 := Int.tmod_eq_emod_of_nonneg (by omega)
      clear hx hok
      go_wp2_with fail
      refine (some_any x _).mono ?_
      rintro e w2 ⟨rfl, rfl⟩
      generalize someH x = o at *
      have hcase : o ∈ tids (A.map Prod.fst) ∨ (o = 0 ∧ o ∉ tids (A.map Prod.fst)) ∨ (o ≠ 0 ∧ o ∉ tids (A.map Prod.fst)) := by
        by_cases e1 : o ∈ tids (A.map Prod.fst)
        · exact .inl e1
        · by_cases e2 : o = 0
          · exact .inr (.inl ⟨e2, e1⟩)
          · exact .inr (.inr ⟨e2, e1⟩)
      rcases hcase with ho | ⟨rfl, ho⟩ | ⟨ho0, ho⟩
      · obtain ⟨s, hs, rfl⟩ := List.mem_map.1 ho
        have hz := HA.out.tree.top s hs
        have q0 : (s.id == 0) = false := beq_eq_false_iff_ne.2 (by omega)
        have HSS := Lib.hid hs
        have HO := Lib.hid ho
        clear hs ho
        go_wp2_with fail
        refine (HA.out.deadline s HSS.out).mono ?_
        rintro e w3 ⟨rfl, k3⟩
        have H3 := Lib.hid k3
        clear k3 p1
        go_wp2_with fail
        refine (H3.out.start s.id due _ (by rfl) HD.out (by omega) (by omega) (.inr HO.out)).mono ?_
        rintro e w4 ⟨rfl, k4⟩
        have H4 := Lib.hid (show St4 w w4 t h (i + 1) (last + 1) from ⟨_, k4, by omega, by omega, by simp; omega⟩)
        clear k4
        by_cases h5 : (i : Int) % 5 = 4
        · have h5b : ((i : Int) % 5 == 4) = true := by simpa using h5
          clear h5
          go_wp2_with fail
          refine (H4.out.cancel (by omega)).mono ?_
          rintro e w5 ⟨m, rfl, k5⟩
          have H5 := Lib.hid k5
          clear k5
          go_wp2_with fail
          go_roundw
          case rel => exact ⟨i + 1, last + 1, by simp, by omega, rfl, H5.out⟩
          case measure => simp [intOf]; omega
        · have h5b : ((i : Int) % 5 == 4) = false := by simpa using h5
          clear h5
          go_wp2_with fail
          go_roundw
          case rel => exact ⟨i + 1, last + 1, by simp, by omega, rfl, H4.out⟩
          case measure => simp [intOf]; omega
      · have HO := Lib.hid ho
        clear ho
        go_wp2_with fail
        refine (HA.out.deadline_no 0 HOK.out HO.out).mono ?_
        rintro e w3 ⟨rfl, k3⟩
        have H3 := Lib.hid k3
        clear k3 p1
        go_wp2_with fail
        refine (H3.out.start 0 due _ (by rfl) HD.out (by omega) (by omega) (.inl rfl)).mono ?_
        rintro e w4 ⟨rfl, k4⟩
        have H4 := Lib.hid (show St4 w w4 t h (i + 1) (last + 1) from ⟨_, k4, by omega, by omega, by simp; omega⟩)
        clear k4
        by_cases h5 : (i : Int) % 5 = 4
        · have h5b : ((i : Int) % 5 == 4) = true := by simpa using h5
          clear h5
          go_wp2_with fail
          refine (H4.out.cancel (by omega)).mono ?_
          rintro e w5 ⟨m, rfl, k5⟩
          have H5 := Lib.hid k5
          clear k5
          go_wp2_with fail
          go_roundw
          case rel => exact ⟨i + 1, last + 1, by simp, by omega, rfl, H5.out⟩
          case measure => simp [intOf]; omega
        · have h5b : ((i : Int) % 5 == 4) = false := by simpa using h5
          clear h5
          go_wp2_with fail
          go_roundw
          case rel => exact ⟨i + 1, last + 1, by simp, by omega, rfl, H4.out⟩
          case measure => simp [intOf]; omega
      · have HO := Lib.hid ho
        have HO0 := Lib.hid ho0
        have q0 : (o == 0) = false := beq_eq_false_iff_ne.2 ho0
        clear ho ho0
        go_wp2_with fail
        refine (HA.out.deadline_no o HOK.out HO.out).mono ?_
        rintro e w3 ⟨rfl, k3⟩
        have H3 := Lib.hid k3
        clear k3 p1
        go_wp2_with fail
        refine (H3.out.start_no o due _ HOK.out HO0.out HO.out).mono ?_
        rintro e w4 ⟨rfl, k4⟩
        have H4 := Lib.hid (show St4 w w4 t h (i + 1) last from ⟨_, k4, by omega, by omega, by omega⟩)
        clear k4
        by_cases h5 : (i : Int) % 5 = 4
        · have h5b : ((i : Int) % 5 == 4) = true := by simpa using h5
          clear h5
          go_wp2_with fail
          refine (H4.out.cancel (by omega)).mono ?_
          rintro e w5 ⟨m, rfl, k5⟩
          have H5 := Lib.hid k5
          clear k5
          go_wp2_with fail
          go_roundw
          case rel => exact ⟨i + 1, last, by simp, by omega, rfl, H5.out⟩
          case measure => simp [intOf]; omega
        · have h5b : ((i : Int) % 5 == 4) = false := by simpa using h5
          clear h5
          go_wp2_with fail
          go_roundw
          case rel => exact ⟨i + 1, last, by simp, by omega, rfl, H4.out⟩
          case measure => simp [intOf]; omega
    · by_cases hlt2 : i < l.length
      · have hb1 : (i : Int) < (l.length : Int) := by omega
        have hb2 : ¬ (i : Int) < 50 := by omega
        clear hlt
        go_wp2_with fail
        refine (awake_any _).mono ?_
        rintro e w4 ⟨rfl, t5⟩
        have T := HA.out.tt.trans t5 (by simp)
        clear t5
        go_wp2_with fail
        go_ret
        exact ⟨rfl, T⟩
      · have hb1 : ¬ (i : Int) < (l.length : Int) := by omega
        clear hlt
        go_wp2_with fail
        refine (awake_any _).mono ?_
        rintro e w4 ⟨rfl, t5⟩
        have T := HA.out.tt.trans t5 (by simp)
        clear t5
        go_wp2_with fail
        go_ret
        exact ⟨rfl, T⟩
namespace timerHandlesUnique
theorem walk {H : Type} {enc : TypeId × Value → H} {w : World} (v : Value) (hv : IsSlice enc Try.prog w 0 (fun _ => true) true [3] v) (due : Int) (hn : (Lit.int .u64 due).wf = true) :
    Calls Try.prog 4 #[v, .int .u64 due] w fun e w' => e = .returned (.bool true) ∧ Below w.heap.size w w' := by
  obtain ⟨b, l, hr, hl⟩ := i64_rows hv
  exact (walk4 v b l due w hr hl (u64_max hn)).mono fun e w' ⟨h1, h2⟩ => ⟨h1, h2.below (by simp) (Nat.le_refl _)⟩
end timerHandlesUnique
end Go.Proofs.Ytobkanlnnniabaa

/-
  The statement 'TimerHandlesUniqueSaid' of the seat: the frame of the row round the walk of the law's Go function (YtobkanlnnniabaaW4): for every input the call returns true and each argument reads as it did.
-/
namespace Go.Proofs.Ytobkanlnnniabaa.timerHandlesUnique
open Go.ChangeShapes Go.WideShapes Go.ChangeAt Go.RowKit
open Go.ChangeMaps (open_string shut_string)
set_option linter.unusedVariables false

theorem own : ownKnob Try.prog.godebug = none := by kernel_rfl
theorem laidOut : laidOutB Try.prog = true := by kernel_rfl

set_option maxRecDepth 100000 in
theorem lifted (os : Os) (started : os.Started) (H : Type) (enc : TypeId × Value → H) :
    ReturnsInHanded {} Try.checked os 4 .any (Rows.timerHandlesUniqueSpec.pre6 enc Try.prog Try.f4 Rows.timerHandlesUniqueRow.domain false) (Rows.timerHandlesUniqueSpec.post enc Try.prog Try.f4 false true false false) := by
  refine returnsInHanded_of_change (C := Try.checked) own started (by kernel_rfl) Try.func4
    (ChangeSpec.witness6 (enc := enc) (C := Try.checked) false ⟨#[], #[.slice none 0 0, .int .u64 0], []⟩ 8 (by kernel_rfl) (by kernel_rfl) (by kernel_rfl) (by kernel_rfl)) ?_
  intro W base args ds gs before hval0 hW hcnd _
  have hval : ∀ (j : Nat) t v, Try.f4.params[j]? = some t → args[j]? = some v → Value.okWide Try.prog W .any base t v := hval0
  have hW' := hW
  obtain ⟨p, q, hA0, hV, rfl, hfz, hnd⟩ := hW
  have hA : DataW.TrodAll enc Try.prog W 0 (fun _ => true) true Try.f4.params.toList args.toList ds p := hA0
  rw [Try.params4] at hA hval
  obtain ⟨v0, vs0, d0, ds0, p0, q0, hargs, rfl, rfl, h0, r0⟩ := trodAll_cons hA
  obtain ⟨v1, vs1, d1, ds1, p1, q1, rfl, rfl, rfl, h1, r1⟩ := trodAll_cons r0
  obtain ⟨rfl, rfl, rfl⟩ := trodAll_nil r1
  obtain rfl : args = #[v0, v1] := by cases args; simp_all
  obtain ⟨rfl, rfl⟩ := trodVars_none hV
  have k0 := h0
  have lt0 : ∀ x ∈ p0, x.block < W.heap.size := by obtain ⟨m, hm⟩ := k0; exact DataW.trod_lt m _ _ _ hm
  have k1 := h1
  have lt1 : ∀ x ∈ p1, x.block < W.heap.size := by obtain ⟨m, hm⟩ := k1; exact DataW.trod_lt m _ _ _ hm
  obtain ⟨b0, len0, cap0, hv0⟩ := okWide_slice Try.underlying33 (hval 0 33 v0 rfl rfl)
  have s0 : IsSlice enc Try.prog W 0 (fun _ => true) true [3] v0 := by
    obtain ⟨fuel, hf⟩ := h0
    rw [hv0] at hf ⊢
    exact slice_ok (d := 8) Try.underlying33 (by kernel_rfl) (by kernel_rfl) (by simpa [Value.cells] using hf)
  obtain ⟨a1, rfl, e1, ee1, w1⟩ := open_int Try.underlying23 (hval 1 23 v1 rfl rfl) h1
  clear hA0 hval0
  refine (walk (H := H) (enc := enc) (w := W) v0 s0 a1 w1).mono fun e W' ⟨he, bel⟩ => ?_
  subst he
  exact ⟨_, rfl, _, _, _, [], _, [], hW', trodAll_mk1 (shut_bool Try.underlying4 _), (trodAll_cons_mk (Below.trod laidOut (by kernel_rfl) (of_decide_eq_true (by kernel_rfl)) k0 bel lt0) (trodAll_cons_mk (Below.trod laidOut (by kernel_rfl) (of_decide_eq_true (by kernel_rfl)) k1 bel lt1) trodAll_mk0)), rfl, bel.frame _, fun h => by cases h⟩

theorem over : Rows.timerHandlesUniqueRow.holds Try.pinned (OpenSpec.ofChange Rows.timerHandlesUniqueSpec) :=
  OpenClaim.holds_of_wide 4 Try.f4 rfl rfl rfl rfl rfl rfl rfl ⟨rfl, rfl, rfl, rfl, rfl⟩ rfl rfl rfl rfl rfl (by kernel_rfl) Try.func4 (by kernel_rfl)
    (of_decide_eq_true (by kernel_rfl)) (by unfold Func.isWrapper; first | (rw [if_pos (by decide +kernel)]; kernel_rfl) | (rw [if_neg (by decide +kernel)]; exact ⟨rfl, rfl⟩))
    (fun os started H enc _ => lifted os started H enc)

theorem proved : Rows.TimerHandlesUniqueSaid := over
#print axioms proved
end Go.Proofs.Ytobkanlnnniabaa.timerHandlesUnique

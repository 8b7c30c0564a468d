/-
  The heap's key type, and its entries as plain data.
-/
import Derived.Test.YtpbabdoecjlifaaMp
import Derived.Test.YtpbabdoecjlifaaRec3
import Derived.Test.YtpbabdoecjlifaaHl
import Derived.Test.YtpbabdoecjlifaaRows
import Derived.Deep.QuietTactic
import Derived.BigQuiet
import Derived.Outline
namespace Go.Proofs.Ytpbabdoecjlifaa
open Go.RowKit
set_option linter.unusedVariables false
set_option linter.unusedSimpArgs false

theorem laidOut : laidOutB Try.prog = true := by kernel_rfl
def encK (i : Int) : Value := .int .i64 i
def okK (i : Int) : Prop := (Lit.int .i64 i).wf = true
theorem key3 : KE Try.prog 3 encK okK where
  K := Go.Maps.int_keyed Try.underlying3
  lit := by
    intro c h1
    exact ⟨_, Go.Maps.keyOf_int_mk Try.underlying3 h1⟩
  inj := by
    intro a b h
    simpa [encK] using h
/-- An entry: its handle, its due time, its value (one cell). -/
structure Itm where
  id : Int
  due : Int
  x : Value
def Itm.key (it : Itm) : Key := ⟨it.id, it.due⟩
def encI (it : Itm) : List Value := [.int .i64 it.id, .int .u64 it.due, it.x]
theorem encI_len (its : List Itm) : ∀ x ∈ its.map encI, x.length = 3 := by
  intro x hx
  obtain ⟨_, _, rfl⟩ := List.mem_map.1 hx
  rfl
/-- The index tells each place but that of i. -/
def IxB (kv : List (Int × Value)) (C : List Itm) (i : Nat) : Prop := ∀ j y, j ≠ i → C[j]? = some y → look kv y.id = some (.int .i64 j)
/-- The index tells each place, and no other handle. -/
structure Ix (kv : List (Int × Value)) (C : List Itm) : Prop where
  at_ : ∀ (j : Nat) y, C[j]? = some y → look kv y.id = some (.int .i64 j)
  no : ∀ id, (∀ y ∈ C, y.id ≠ id) → look kv id = none
theorem look_put_same (kv : List (Int × Value)) (a : Int) (v : Value) : look (put kv a v) a = some v := by
  unfold put
  split
  · rename_i h
    unfold look at h ⊢
    rw [List.find?_map]
    have : (fun p : Int × Value => decide (p.1 = a)) ∘ (fun p : Int × Value => if p.1 = a then (a, v) else p) = fun p => decide (p.1 = a) := by
      funext p
      simp only [Function.comp]
      split <;> simp_all
    rw [this]
    cases hf : kv.find? fun p => decide (p.1 = a) with
    | none => simp [hf] at h
    | some p =>
      have := List.find?_some hf
      simp at this
      simp [this]
  · rename_i h
    unfold look at h ⊢
    rw [List.find?_append]
    cases hf : kv.find? fun p => decide (p.1 = a) with
    | none => simp
    | some p => simp [hf] at h
theorem look_put_other (kv : List (Int × Value)) (a b : Int) (v : Value) (h : b ≠ a) : look (put kv a v) b = look kv b := by
  unfold put
  split
  · unfold look
    rw [List.find?_map]
    have : (fun p : Int × Value => decide (p.1 = b)) ∘ (fun p : Int × Value => if p.1 = a then (a, v) else p) = fun p => decide (p.1 = b) := by
      funext p
      simp only [Function.comp]
      split
      · rename_i e
        rw [e]
      · rfl
    rw [this, Option.map_map]
    cases hf : kv.find? fun p => decide (p.1 = b) with
    | none => rfl
    | some p =>
      have := List.find?_some hf
      simp at this
      have : p.1 ≠ a := by omega
      simp [this]
  · unfold look
    rw [List.find?_append]
    have : (List.find? (fun p : Int × Value => decide (p.1 = b)) [(a, v)]) = none := by
      simp
      omega
    rw [this]
    simp
end Go.Proofs.Ytpbabdoecjlifaa

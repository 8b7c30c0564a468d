/-
  The string heap as a bag, and the two heaps of HeapInstancesIndependent side by side.
-/
import Derived.Test.YtpbabdoecjlifaaOvA
import Derived.Test.YtpbabdoecjlifaaAw
namespace Go.Proofs.Ytpbabdoecjlifaa.A
open Go.RowKit Go.Sort Go.Shelf
set_option linter.unusedVariables false
set_option linter.unusedSimpArgs false

/-- The string heap at h lies in the blocks f and bears the entries L. -/
def BagS (w : World) (h : Nat) (f : List Nat) (L : List Itm) (last : Int) : Prop := ∃ m v its kv, S.HB w h m v its kv last ∧ its.Perm L ∧ f = S.Hp.foot h m v
def NextS (w : World) (h : Nat) (f : List Nat) (L : List Itm) (last : Int) (w' : World) : Prop := ∃ f', BagS w' h f' L last ∧ (∀ y ∈ f', y ∈ f ∨ w.heap.size ≤ y) ∧ Touch f w w'
section
variable {w : World} {h : Nat} {f : List Nat} {L : List Itm} {last : Int}
theorem BagS.lt (k : BagS w h f L last) : ∀ y ∈ f, y < w.heap.size := by
  obtain ⟨m, v, its, kv, hb, hp, rfl⟩ := k
  exact hb.hp.lt
theorem BagS.touch {S : List Nat} {w' : World} (k : BagS w h f L last) (t : Touch S w w') (hS : ∀ y ∈ f, y ∉ S) : BagS w' h f L last := by
  obtain ⟨m, v, its, kv, hb, hp, rfl⟩ := k
  exact ⟨m, v, its, kv, hb.touch t hS, hp, rfl⟩
theorem BagS.push (k : BagS w h f L last) (due : Int) (x : Value) (h1 : x.oneCell' = true) (hl : last < 1000) (hL : L.length < 1000) :
    Calls Try.prog 29 #[.pointer (some ⟨h, 0, none⟩), .int .u64 due, x] w fun e w' => e = .returned (.int .i64 (last + 1)) ∧ NextS w h f (L ++ [⟨last + 1, due, x⟩]) (last + 1) w' := by
  obtain ⟨m, v, its, kv, hb, hp, rfl⟩ := k
  refine (S.push_any h m v its kv last due x w hb h1 hl (by rw [hp.length_eq]; exact hL)).mono ?_
  rintro e w' ⟨v', its', kv', rfl, hb', hp', hf', ht'⟩
  exact ⟨rfl, _, ⟨m, v', its', kv', hb', hp'.trans (hp.append_right _), rfl⟩, hf', ht'⟩
end
/-- The two heaps, both above w0 and apart from one another. -/
def Two (w0 w : World) (h h2 : Nat) (L M : List Itm) (last last2 : Int) : Prop := ∃ f f2, Bag w h f L last ∧ BagS w h2 f2 M last2 ∧ (∀ y ∈ f, y ∉ f2) ∧ (∀ y ∈ f, w0.heap.size ≤ y) ∧ (∀ y ∈ f2, w0.heap.size ≤ y) ∧ Touch [] w0 w
theorem Two.touch {w0 w w' : World} {h h2 : Nat} {L M : List Itm} {n n2 : Int} (k : Two w0 w h h2 L M n n2) (t : Touch [] w w') : Two w0 w' h h2 L M n n2 := by
  obtain ⟨f, f2, a, b, c, d, e, g⟩ := k
  exact ⟨f, f2, a.touch t (by simp), b.touch t (by simp), c, d, e, g.trans t (by simp)⟩
theorem Two.nextA {w0 w w' : World} {h h2 : Nat} {L L' M : List Itm} {n n' n2 : Int} {f f2 : List Nat} (hb : BagS w h2 f2 M n2) (c : ∀ y ∈ f, y ∉ f2) (d : ∀ y ∈ f, w0.heap.size ≤ y) (e : ∀ y ∈ f2, w0.heap.size ≤ y) (g : Touch [] w0 w) (k : Next w h f L' n' w') : Two w0 w' h h2 L' M n' n2 := by
  obtain ⟨f', a, i, t⟩ := k
  refine ⟨f', f2, a, hb.touch t (fun y hy hy2 => c y hy2 hy), ?_, ?_, e, g.trans t (fun y hy => .inr (d y hy))⟩
  · intro y hy hy2
    rcases i y hy with h1 | h1
    · exact c y h1 hy2
    · have := hb.lt y hy2
      omega
  · intro y hy
    rcases i y hy with h1 | h1
    · exact d y h1
    · exact Nat.le_trans g.size h1
theorem Two.nextS {w0 w w' : World} {h h2 : Nat} {L M M' : List Itm} {n n2 n2' : Int} {f f2 : List Nat} (hb : Bag w h f L n) (c : ∀ y ∈ f, y ∉ f2) (d : ∀ y ∈ f, w0.heap.size ≤ y) (e : ∀ y ∈ f2, w0.heap.size ≤ y) (g : Touch [] w0 w) (k : NextS w h2 f2 M' n2' w') : Two w0 w' h h2 L M' n n2' := by
  obtain ⟨f', a, i, t⟩ := k
  refine ⟨f, f', hb.touch t (fun y hy hy2 => c y hy hy2), a, ?_, d, ?_, g.trans t (fun y hy => .inr (e y hy))⟩
  · intro y hy hy2
    rcases i y hy2 with h1 | h1
    · exact c y hy h1
    · have := hb.lt y hy
      omega
  · intro y hy
    rcases i y hy with h1 | h1
    · exact e y h1
    · exact Nat.le_trans g.size h1
theorem Two.hasS {w0 w : World} {h h2 : Nat} {L M : List Itm} {n n2 : Int} (k : Two w0 w h h2 L M n n2) : HasS w0 w h2 M n2 := by
  obtain ⟨f, f2, a, ⟨m, v, its, kv, hb, hp, rfl⟩, c, d, e, g⟩ := k
  exact ⟨m, v, its, kv, hb, hp, e, g⟩
end Go.Proofs.Ytpbabdoecjlifaa.A

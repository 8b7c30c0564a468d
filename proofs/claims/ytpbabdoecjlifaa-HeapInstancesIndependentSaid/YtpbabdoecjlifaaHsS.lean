/-
  A heap in memory (items of type 97), and the contract of 'set'.
-/
import Derived.Test.YtpbabdoecjlifaaHk
namespace Go.Proofs.Ytpbabdoecjlifaa.S
open Go.RowKit
set_option linter.unusedVariables false
set_option linter.unusedSimpArgs false

theorem infoE : (Try.prog.info? 97).map (·.size) = some 3 := by kernel_rfl
structure Hp (w : World) (h m : Nat) (v : Value) (its : List Itm) (kv : List (Int × Value)) (last : Int) : Prop where
  hdr : w.heap[h]? = some (.cells #[v, .map (some m), .int .i64 last] 93 (0, 0))
  row : w.ownsRow 0 97 3 v its.length (its.map encI).flatten
  mp : Mp encK okK w m kv
  one : ∀ it ∈ its, it.x.oneCell' = true
  oks : ∀ it ∈ its, okK it.id
  hm : h ≠ m
  hv : v.ownBlock ≠ some h ∧ v.ownBlock ≠ some m
  few : its.length ≤ 1000
def Hp.foot (h m : Nat) (v : Value) : List Nat := h :: m :: v.ownBlock.toList
section
variable {w : World} {h m : Nat} {v : Value} {its : List Itm} {kv : List (Int × Value)} {last : Int}
theorem Hp.touch {S : List Nat} {w' : World} (k : Hp w h m v its kv last) (t : Touch S w w') (hS : ∀ y ∈ Hp.foot h m v, y ∉ S) : Hp w' h m v its kv last :=
  ⟨t.at k.hdr (hS _ (by simp [Hp.foot])), t.owns k.row (fun g hg => hS g (by simp [Hp.foot, hg])), k.mp.touch t (hS _ (by simp [Hp.foot])), k.one, k.oks, k.hm, k.hv, k.few⟩
theorem Hp.lt (k : Hp w h m v its kv last) : ∀ y ∈ Hp.foot h m v, y < w.heap.size := by
  intro y hy
  simp only [Hp.foot, List.mem_cons, Option.mem_toList] at hy
  rcases hy with rfl | rfl | hy
  · exact (Array.getElem?_eq_some_iff.1 k.hdr).1
  · exact k.mp.lt
  · exact (k.row.lt y hy).2
theorem Hp.cells (k : Hp w h m v its kv last) : w.cell? ⟨h, 0, none⟩ = some v ∧ w.cell? ⟨h, 1, none⟩ = some (.map (some m)) ∧ w.cell? ⟨h, 2, none⟩ = some (.int .i64 last) := by
  simp [World.cell?, k.hdr]
theorem Hp.form (k : Hp w h m v its kv last) : ∃ a c, v = .slice a its.length c ∧ its.length ≤ c ∧ c ≤ 9223372036854775807 ∧ (0 < its.length → ∃ g, a = some ⟨g, 0, none⟩ ∧ g ≠ h ∧ g ≠ m) := by
  obtain ⟨a, c, rfl, h1, h2, h3⟩ := owns_form k.row
  refine ⟨a, c, rfl, h1, by unfold maxLen at h2; omega, fun h0 => ?_⟩
  obtain ⟨g, rfl⟩ := h3 h0
  exact ⟨g, rfl, fun e => k.hv.1 (by rw [e]; rfl), fun e => k.hv.2 (by rw [e]; rfl)⟩
theorem Hp.elem {g n c : Nat} (k : Hp w h m (.slice (some ⟨g, 0, none⟩) n c) its kv last) {i : Nat} {it : Itm} (hi : its[i]? = some it) :
    w.cell? ⟨g, i * 3, none⟩ = some (.int .i64 it.id) ∧ w.cell? ⟨g, i * 3 + 1, none⟩ = some (.int .u64 it.due) ∧ w.cell? ⟨g, i * 3 + 2, none⟩ = some it.x := by
  have hn : n = its.length := by
    obtain ⟨a', c', hv, _⟩ := owns_form k.row
    simp at hv
    exact hv.2.1
  subst hn
  have h1 : (its.map encI)[i]? = some (encI it) := by simp [hi]
  have := fun j u hu => owns_cell k.row (i * 3 + j) u (flat_get (encI_len its) h1 (j := j) (u := u) hu)
  exact ⟨this 0 _ rfl, this 1 _ rfl, this 2 _ rfl⟩
end
end Go.Proofs.Ytpbabdoecjlifaa.S

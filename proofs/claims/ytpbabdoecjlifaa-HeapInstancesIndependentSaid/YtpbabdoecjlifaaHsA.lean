/-
  The heap whose values are addresses, in memory: an entry is nineteen cells.
-/
import Derived.Test.YtpbabdoecjlifaaHk
import Derived.Test.YtpbabdoecjlifaaRec
import Derived.Test.YtpbabdoecjlifaaRec5
import Derived.Test.YtpbabdoecjlifaaGd
import Derived.Lib.Hide
namespace Go.Proofs.Ytpbabdoecjlifaa.A
open Go.RowKit
set_option linter.unusedVariables false
set_option linter.unusedSimpArgs false

def cx (it : Itm) : List Value := match it.x with
  | .agg c => c.toList
  | v => [v]
/-- The cells of an entry. -/
def encA (it : Itm) : List Value := .int .i64 it.id :: .int .u64 it.due :: cx it
/-- An entry whose value is seventeen cells. -/
structure Ok1 (it : Itm) : Prop where
  x : it.x = .agg (cx it).toArray
  len : (cx it).length = 17
  one : ∀ u ∈ cx it, u.oneCell' = true
theorem Ok1.enc {it : Itm} (h : Ok1 it) : (encA it).length = 19 := by simp [encA, h.len]
theorem Ok1.cells {it : Itm} (h : Ok1 it) : ∀ u ∈ encA it, u.oneCell' = true := by
  intro u hu
  simp only [encA, List.mem_cons] at hu
  rcases hu with rfl | rfl | hu
  · rfl
  · rfl
  · exact h.one u hu
theorem Ok1.mk' (id due : Int) {cs : List Value} (hl : cs.length = 17) (h1 : ∀ u ∈ cs, u.oneCell' = true) : Ok1 ⟨id, due, .agg cs.toArray⟩ ∧ cx ⟨id, due, .agg cs.toArray⟩ = cs := by
  have e : cx ⟨id, due, .agg cs.toArray⟩ = cs := by simp [cx]
  exact ⟨⟨by rw [e], by rw [e]; exact hl, by rw [e]; exact h1⟩, e⟩
theorem encA_len {its : List Itm} (h : ∀ it ∈ its, Ok1 it) : ∀ x ∈ its.map encA, x.length = 19 := by
  intro x hx
  obtain ⟨it, hit, rfl⟩ := List.mem_map.1 hx
  exact (h it hit).enc
theorem rows_set (k : Nat) (r : List Value) : ∀ (L : List (List Value)) (i : Nat), (∀ x ∈ L, x.length = k) → i < L.length → (L.set i r).flatten = L.flatten.take (i * k) ++ r ++ L.flatten.drop (i * k + k)
  | [], i, _, h => by simp at h
  | a :: L, 0, hl, _ => by
    have := hl a (by simp)
    simp [← this]
  | a :: L, i + 1, hl, h => by
    have ha := hl a (by simp)
    have := rows_set k r L i (fun x hx => hl x (by simp [hx])) (by simpa using h)
    have e : (i + 1) * k = a.length + i * k := by rw [ha, Nat.add_mul]; omega
    rw [List.set_cons_succ, List.flatten_cons, List.flatten_cons, this, e, Nat.add_assoc]
    rw [List.take_length_add_append, List.drop_length_add_append]
    simp [List.append_assoc]
theorem rows_take (k : Nat) : ∀ (L : List (List Value)) (j : Nat), (∀ x ∈ L, x.length = k) → L.flatten.take (j * k) = (L.take j).flatten
  | [], j, _ => by simp
  | a :: L, 0, _ => by simp
  | a :: L, j + 1, hl => by
    have ha := hl a (by simp)
    have := rows_take k L j (fun x hx => hl x (by simp [hx]))
    have e : (j + 1) * k = a.length + j * k := by rw [ha, Nat.add_mul]; omega
    rw [List.flatten_cons, e, List.take_length_add_append, this, List.take_succ_cons, List.flatten_cons]
theorem infoA : (Try.prog.info? 95).map (·.size) = some 19 := by kernel_rfl
structure Hp (w : World) (h m : Nat) (v : Value) (its : List Itm) (kv : List (Int × Value)) (last : Int) : Prop where
  hdr : w.heap[h]? = some (.cells #[v, .map (some m), .int .i64 last] 90 (0, 0))
  row : w.ownsRow 0 95 19 v its.length (its.map encA).flatten
  mp : Mp encK okK w m kv
  one : ∀ it ∈ its, Ok1 it
  oks : ∀ it ∈ its, okK it.id
  hm : h ≠ m
  hv : v.ownBlock ≠ some h ∧ v.ownBlock ≠ some m
  few : its.length ≤ 1000
def Hp.foot (h m : Nat) (v : Value) : List Nat := h :: m :: v.ownBlock.toList
section
variable {w : World} {h m : Nat} {v : Value} {its : List Itm} {kv : List (Int × Value)} {last : Int}
theorem Hp.touch {S : List Nat} {w' : World} (k : Hp w h m v its kv last) (t : Touch S w w') (hS : ∀ y ∈ Hp.foot h m v, y ∉ S) : Hp w' h m v its kv last :=
  ⟨t.at k.hdr (hS _ (by simp [Hp.foot])), t.owns k.row (fun g hg => hS g (by simp [Hp.foot, hg])), k.mp.touch t (hS _ (by simp [Hp.foot])), k.one, k.oks, k.hm, k.hv, k.few⟩
theorem Hp.lt (k : Hp w h m v its kv last) : ∀ y ∈ Hp.foot h m v, y < w.heap.size := by
  intro y hy
  simp only [Hp.foot, List.mem_cons, Option.mem_toList] at hy
  rcases hy with rfl | rfl | hy
  · exact (Array.getElem?_eq_some_iff.1 k.hdr).1
  · exact k.mp.lt
  · exact (k.row.lt y hy).2
theorem Hp.cells (k : Hp w h m v its kv last) : w.cell? ⟨h, 0, none⟩ = some v ∧ w.cell? ⟨h, 1, none⟩ = some (.map (some m)) ∧ w.cell? ⟨h, 2, none⟩ = some (.int .i64 last) := by
  simp [World.cell?, k.hdr]
theorem Hp.form (k : Hp w h m v its kv last) : ∃ a c, v = .slice a its.length c ∧ its.length ≤ c ∧ c ≤ 9223372036854775807 ∧ (0 < its.length → ∃ g, a = some ⟨g, 0, none⟩ ∧ g ≠ h ∧ g ≠ m) := by
  obtain ⟨a, c, rfl, h1, h2, h3⟩ := owns_form k.row
  refine ⟨a, c, rfl, h1, by unfold maxLen at h2; omega, fun h0 => ?_⟩
  obtain ⟨g, rfl⟩ := h3 h0
  exact ⟨g, rfl, fun e => k.hv.1 (by rw [e]; rfl), fun e => k.hv.2 (by rw [e]; rfl)⟩
theorem Hp.elem {g n c : Nat} (k : Hp w h m (.slice (some ⟨g, 0, none⟩) n c) its kv last) {i : Nat} {it : Itm} (hi : its[i]? = some it) : w.rangeAt g (i * 19) (encA it) := by
  have hn : n = its.length := by
    obtain ⟨a', c', hv, _⟩ := owns_form k.row
    simp at hv
    exact hv.2.1
  subst hn
  have h1 : (its.map encA)[i]? = some (encA it) := by simp [hi]
  exact fun j u hu => owns_cell k.row (i * 19 + j) u (flat_get (encA_len k.one) h1 (j := j) (u := u) hu)
end
end Go.Proofs.Ytpbabdoecjlifaa.A

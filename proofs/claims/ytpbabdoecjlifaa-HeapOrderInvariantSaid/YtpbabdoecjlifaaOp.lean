/-
  Operations that came in; what the two heaps' common steps leave.
-/
import Derived.Test.YtpbabdoecjlifaaBo
import Derived.Test.YtpbabdoecjlifaaAr
namespace Go.Proofs.Ytpbabdoecjlifaa
open Go.ChangeShapes Go.WideShapes Go.RowKit Go.Sort
set_option linter.unusedVariables false
set_option linter.unusedSimpArgs false

/-- An operation. -/
structure Opn where
  kind : Int
  id : Int
  due : Int
  x : Int
def encO (o : Opn) : List Value := [.int .i64 o.kind, .int .i64 o.id, .int .u64 o.due, .int .i64 o.x]
def OkO (o : Opn) : Prop := okK o.id ∧ U64 o.due
theorem opn_rows {H : Type} {enc : TypeId × Value → H} {w : World} {base : Nat} {spare : Nat → Bool} {held : Bool} {v : Value} (hv : IsSlice enc Try.prog w base spare held [3, 3, 29, 3] v) : ∃ (b : Nat) (l : List Opn), Rd w 4 b v (l.map encO) ∧ ∀ o ∈ l, OkO o := by
  obtain ⟨b, xs, hr, hx⟩ := slice_rows (by simp) hv
  have h : ∃ l : List Opn, xs = l.map encO ∧ ∀ o ∈ l, OkO o := by
    clear hr
    induction xs with
    | nil => exact ⟨[], rfl, by simp⟩
    | cons x xs ih =>
      obtain ⟨l, rfl, hl⟩ := ih (fun y hy => hx y (List.mem_cons_of_mem _ hy))
      obtain ⟨hlen, hc⟩ := hx x List.mem_cons_self
      obtain ⟨v0, e0, l0⟩ := hc 0 3 rfl
      obtain ⟨v1, e1, l1⟩ := hc 1 3 rfl
      obtain ⟨v2, e2, l2⟩ := hc 2 29 rfl
      obtain ⟨v3, e3, l3⟩ := hc 3 3 rfl
      obtain ⟨k, rfl, _⟩ := l0.int Try.underlying3
      obtain ⟨i, rfl, wi⟩ := l1.int Try.underlying3
      obtain ⟨d, rfl, wd⟩ := l2.int Try.underlying29
      obtain ⟨y, rfl, _⟩ := l3.int Try.underlying3
      refine ⟨⟨k, i, d, y⟩ :: l, ?_, ?_⟩
      · match x, hlen with
        | [a0, a1, a2, a3], _ => simp at e0 e1 e2 e3; rw [e0, e1, e2, e3]; rfl
      · intro z hz
        rcases List.mem_cons.1 hz with rfl | hz
        · exact ⟨wi, wd⟩
        · exact hl z hz
  obtain ⟨l, rfl, hl⟩ := h
  exact ⟨b, l, hr, hl⟩
theorem rd_opn {w : World} {b n cap : Nat} {a : Option Addr} {l : List Opn} (h : Rd w 4 b (.slice a n cap) (l.map encO)) {i : Nat} {o : Opn} (hi : l[i]? = some o) :
    ∃ off, a = some ⟨b, off, none⟩ ∧ w.cell? ⟨b, off + i * 4, none⟩ = some (.int .i64 o.kind) ∧ w.cell? ⟨b, off + i * 4 + 1, none⟩ = some (.int .i64 o.id) ∧ w.cell? ⟨b, off + i * 4 + 2, none⟩ = some (.int .u64 o.due) ∧ w.cell? ⟨b, off + i * 4 + 3, none⟩ = some (.int .i64 o.x) := by
  obtain ⟨off, ha, hat⟩ := h.at (by intro e; simp at e; subst e; simp at hi)
  have := hat i (encO o) (by simp [hi])
  exact ⟨off, ha, this 0 _ rfl, this 1 _ rfl, this 2 _ rfl, this 3 _ rfl⟩
theorem u64_hi {x : Int} (h : U64 x) : x ≤ 18446744073709551615 := by
  unfold U64 at h
  simp [Lit.wf] at h
  have : IntKind.u64.max = 18446744073709551615 := rfl
  omega
theorem sd_u64 {x : Int} (h : U64 x) : 0 ≤ sd x ∧ sd x ≤ 18446744073709551615 := by
  have h0 := u64_lo h
  have h1 := u64_hi h
  unfold sd
  split <;> omega
theorem cells_four {w : World} {B : Nat} {x y z u : Value} {T : TypeId} (h : w.heap[B]? = some (.cells #[x, y, z, u] T (0, 0))) : w.cell? ⟨B, 0, none⟩ = some x ∧ w.cell? ⟨B, 1, none⟩ = some y ∧ w.cell? ⟨B, 2, none⟩ = some z ∧ w.cell? ⟨B, 3, none⟩ = some u := by
  simp [World.cell?, h]
theorem info31 : (Try.prog.info? 31).map (·.size) = some 4 := by kernel_rfl
theorem asc_snoc {L : List Itm} (ha : Asc L) {w : World} {h : Nat} {f : List Nat} {last : Int} (hb : Bag w h f L last) (d : Int) (y : Value) : Asc (L ++ [⟨last + 1, d, y⟩]) := by
  unfold Asc
  rw [List.pairwise_append]
  refine ⟨ha, by simp, fun a ha' b hb' => ?_⟩
  simp at hb'
  subst hb'
  have := (hb.oks a ha').2.2
  show a.id < last + 1
  omega
theorem Bag.least {w : World} {h : Nat} {f : List Nat} {L : List Itm} {last : Int} (k : Bag w h f L last) (hL : L ≠ []) : ∃ y ∈ L, ∀ z ∈ L, le y.key z.key := by
  obtain ⟨m, v, its, kv, hb, hp, rfl⟩ := k
  have h0 : 0 < its.length := by
    rw [hp.length_eq]
    exact List.length_pos_iff.2 hL
  refine ⟨its[0], hp.mem_iff.1 (List.getElem_mem h0), fun z hz => ?_⟩
  obtain ⟨j, hj⟩ := mem_at hp hz
  exact hb.heap.least (List.getElem?_eq_getElem h0) j z hj
theorem rfirst_at (x : Nat) (v : Value) (L : List Itm) (last : Int) (w : World) (k : Rh w x v L last) (ha : Asc L) (q : Nat) (y : Itm) (hq : L[q]? = some y) (hm : ∀ z ∈ L, le y.key z.key) :
    Calls Try.prog 16 #[.pointer (some ⟨x, 0, none⟩)] w fun e w' => e = .returned (.int .i64 q) ∧ Touch [] w w' := by
  refine (rfirst_any x v L last w k).mono ?_
  rintro e w' ⟨at_, rfl, hf, t⟩
  refine ⟨?_, t⟩
  rcases first_le ha hf with ⟨h1, _⟩ | ⟨q', u, rfl, hq', hu⟩
  · rw [h1] at hq
    simp at hq
  · by_cases hqq : q = q'
    · rw [hqq]
    · exfalso
      have l1 := hu y (List.mem_of_getElem? hq)
      have l2 := hm u (List.mem_of_getElem? hq')
      refine ids_ne ha.nodup hq hq' hqq ?_
      have : y.key.id = u.key.id := by unfold le at l1 l2; omega
      exact this
theorem rem_full {w0 w1 w2 w3 w' : World} {h x q : Nat} {f f' : List Nat} {v v' : Value} {L : List Itm} {last : Int} {y : Itm} (k : Both w0 w1 h x f v L last)
    (hh : Bag w2 h f' (L.filter fun z => decide (z.id ≠ y.id)) last ∧ (∀ z ∈ f', z ∉ Rh.foot x v) ∧ (∀ z ∈ f', w0.heap.size ≤ z) ∧ Touch [] w0 w2) (hq : L[q]? = some y) (t3 : Touch [] w2 w3)
    (hr : Rh w' x v' (L.eraseIdx q) last) (hv : ∀ g, v'.ownBlock = some g → w3.heap.size ≤ g) (ht : Touch [x] w3 w') : Both w0 w' h x f' v' (L.eraseIdx q) last := by
  obtain ⟨h1, h2, h3, h4⟩ := hh
  rw [← erase_filter L q y k.asc.nodup hq] at h1
  refine Both.full k.hr ⟨h1.touch t3 (by simp), h2, h3, h4.trans t3 (by simp)⟩ (k.asc.erase q) hr (fun z hz => ?_) ht (by simp [Rh.foot])
  simp only [Rh.foot, List.mem_cons, Option.mem_toList] at hz ⊢
  rcases hz with rfl | hz
  · exact .inl (.inl rfl)
  · exact .inr (hv z hz)
theorem asc_set {L : List Itm} (ha : Asc L) {q : Nat} {y z : Itm} (hq : L[q]? = some y) (hz : z.id = y.id) : Asc (L.set q z) := by
  have h1 := ids_set hq hz
  have h2 : (L.map Itm.id).Pairwise (· < ·) := by rw [List.pairwise_map]; exact ha
  rw [← h1, List.pairwise_map] at h2
  exact h2
theorem upd_full {w0 w1 w2 w' : World} {h x q g n c : Nat} {f f' : List Nat} {L : List Itm} {last d : Int} {y : Itm} (k : Both w0 w1 h x f (.slice (some ⟨g, 0, none⟩) n c) L last)
    (hh : Bag w2 h f' (L.map (upd y.id d)) last ∧ (∀ z ∈ f', z ∉ Rh.foot x (.slice (some ⟨g, 0, none⟩) n c)) ∧ (∀ z ∈ f', w0.heap.size ≤ z) ∧ Touch [] w0 w2) (hq : L[q]? = some y)
    (hr : Rh w' x (.slice (some ⟨g, 0, none⟩) n c) (L.set q ⟨y.id, d, y.x⟩) last) (ht : Touch [g] w2 w') : Both w0 w' h x f' (.slice (some ⟨g, 0, none⟩) n c) (L.set q ⟨y.id, d, y.x⟩) last := by
  obtain ⟨h1, h2, h3, h4⟩ := hh
  rw [← set_upd k.asc.nodup hq] at h1
  exact Both.full k.hr ⟨h1, h2, h3, h4⟩ (asc_set k.asc hq rfl) hr (fun z hz => .inl hz) ht (by simp [Rh.foot, Value.ownBlock])
def Rel3 (w wr : World) (h x i : Nat) : Prop := ∃ f v L last, Both w wr h x f v L last ∧ last ≤ i ∧ L.length ≤ i
theorem both_start {w w1 : World} {h : Nat} {f : List Nat} (hb : Bag w1 h f [] 0) (hf : ∀ y ∈ f, w.heap.size ≤ y) (ht : Touch [] w w1) : Rel3 w (w1.alloc (.cells #[.slice none 0 0, .int .i64 0] 28)) h w1.heap.size 0 := by
  have t := (Touch.refl [] w1).alloc (.cells #[.slice none 0 0, .int .i64 0] 28)
  have hlt := hb.lt
  refine ⟨f, .slice none 0 0, [], 0, ⟨hb.touch t (by simp), ⟨heap_alloc_new w1 _, World.ownsRow_nil _ _ _ _, by simp, by simp [Value.ownBlock], by simp⟩, List.Pairwise.nil, ?_, hf, ?_, ht.trans t (by simp)⟩, by omega, by simp⟩
  · intro y hy hm
    simp [Rh.foot, Value.ownBlock] at hm
    have := hlt y hy
    omega
  · intro y hy
    simp [Rh.foot, Value.ownBlock] at hy
    have := ht.size
    omega
end Go.Proofs.Ytpbabdoecjlifaa

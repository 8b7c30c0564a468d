/-
  A heap of the Addr instance as a bag of entries.
-/
import Derived.Test.YtpbabdoecjlifaaHdA
namespace Go.Proofs.Ytpbabdoecjlifaa.A
open Go.RowKit Go.Sort Go.Shelf
set_option linter.unusedVariables false
set_option linter.unusedSimpArgs false

theorem mem_at {its L : List Itm} (hp : its.Perm L) {x : Itm} (hx : x ∈ L) : ∃ i : Nat, its[i]? = some x := by
  obtain ⟨i, hi, e⟩ := List.getElem_of_mem (hp.mem_iff.2 hx)
  exact ⟨i, by rw [List.getElem?_eq_getElem hi, e]⟩
theorem erase_filter : ∀ (its : List Itm) (i : Nat) (x : Itm), (its.map Itm.id).Nodup → its[i]? = some x → its.eraseIdx i = its.filter fun y => decide (y.id ≠ x.id)
  | [], i, x, _, h => by simp at h
  | a :: r, 0, x, hn, h => by
    simp at h
    subst h
    simp only [List.map_cons, List.nodup_cons] at hn
    have : ∀ y ∈ r, decide (y.id ≠ a.id) = true := by
      intro y hy
      simp only [decide_eq_true_eq]
      intro e
      exact hn.1 (by rw [← e]; exact List.mem_map.2 ⟨y, hy, rfl⟩)
    rw [List.eraseIdx_cons_zero, List.filter_cons_of_neg (by simp), List.filter_eq_self.2 this]
  | a :: r, i + 1, x, hn, h => by
    have hx : r[i]? = some x := by simpa using h
    simp only [List.map_cons, List.nodup_cons] at hn
    have hax : a.id ≠ x.id := fun e => hn.1 (by rw [e]; exact List.mem_map.2 ⟨x, List.mem_of_getElem? hx, rfl⟩)
    rw [List.eraseIdx_cons_succ, List.filter_cons_of_pos (by simpa using hax), erase_filter r i x hn.2 hx]
/-- The heap at h lies in the blocks f and bears the entries L. -/
def Bag (w : World) (h : Nat) (f : List Nat) (L : List Itm) (last : Int) : Prop := ∃ m v its kv, HB w h m v its kv last ∧ its.Perm L ∧ f = Hp.foot h m v
/-- What a call leaves. -/
def Next (w : World) (h : Nat) (f : List Nat) (L : List Itm) (last : Int) (w' : World) : Prop := ∃ f', Bag w' h f' L last ∧ (∀ y ∈ f', y ∈ f ∨ w.heap.size ≤ y) ∧ Touch f w w'
theorem sorted_unique_ids : ∀ {A M : List Itm}, A.Perm M → A.Pairwise (fun x y => le x.key y.key) → M.Pairwise (fun x y => le x.key y.key) → (A.map Itm.id).Nodup → A = M
  | [], M, h1, _, _, _ => (List.nil_perm.1 h1).symm
  | a :: A, M, h1, h2, h3, h4 => by
    cases M with
    | nil => simp at h1
    | cons b M =>
      have hb : b ∈ a :: A := h1.symm.subset List.mem_cons_self
      have ha : a ∈ b :: M := h1.subset List.mem_cons_self
      have e : a = b := by
        rcases List.mem_cons.1 hb with e | hb
        · exact e.symm
        rcases List.mem_cons.1 ha with e | ha
        · exact e
        exfalso
        have l1 := (List.pairwise_cons.1 h2).1 b hb
        have l2 := (List.pairwise_cons.1 h3).1 a ha
        have l3 : a.id = b.id := by
          have : a.key.id = b.key.id := by unfold le at l1 l2; omega
          exact this
        simp only [List.map_cons, List.nodup_cons] at h4
        exact h4.1 (by rw [l3]; exact List.mem_map.2 ⟨b, hb, rfl⟩)
      subst e
      simp only [List.map_cons, List.nodup_cons] at h4
      rw [sorted_unique_ids (List.Perm.cons_inv h1) (List.pairwise_cons.1 h2).2 (List.pairwise_cons.1 h3).2 h4.2]
section
variable {w : World} {h : Nat} {f : List Nat} {L : List Itm} {last : Int}
theorem Bag.lt (k : Bag w h f L last) : ∀ y ∈ f, y < w.heap.size := by
  obtain ⟨m, v, its, kv, hb, hp, rfl⟩ := k
  exact hb.hp.lt
theorem Bag.touch {S : List Nat} {w' : World} (k : Bag w h f L last) (t : Touch S w w') (hS : ∀ y ∈ f, y ∉ S) : Bag w' h f L last := by
  obtain ⟨m, v, its, kv, hb, hp, rfl⟩ := k
  exact ⟨m, v, its, kv, hb.touch t hS, hp, rfl⟩
theorem Bag.ids (k : Bag w h f L last) : (L.map Itm.id).Nodup := by
  obtain ⟨m, v, its, kv, hb, hp, rfl⟩ := k
  exact (hp.map Itm.id).nodup_iff.1 hb.ids
theorem Bag.oks (k : Bag w h f L last) : ∀ y ∈ L, okK y.id ∧ 1 ≤ y.id ∧ y.id ≤ last := by
  obtain ⟨m, v, its, kv, hb, hp, rfl⟩ := k
  intro y hy
  have hy' := hp.mem_iff.2 hy
  exact ⟨hb.hp.oks y hy', hb.top y hy'⟩
theorem Bag.lo (k : Bag w h f L last) : 0 ≤ last ∧ last ≤ 1000 := by
  obtain ⟨m, v, its, kv, hb, hp, rfl⟩ := k
  exact ⟨hb.lo, hb.hi⟩
theorem Bag.perm {L' : List Itm} (k : Bag w h f L last) (hp' : L.Perm L') : Bag w h f L' last := by
  obtain ⟨m, v, its, kv, hb, hp, rfl⟩ := k
  exact ⟨m, v, its, kv, hb, hp.trans hp', rfl⟩
theorem Bag.new (w : World) : Calls Try.prog 26 #[] w fun e w' => ∃ h f, e = .returned (.pointer (some ⟨h, 0, none⟩)) ∧ Bag w' h f [] 0 ∧ (∀ y ∈ f, w.heap.size ≤ y) ∧ Touch [] w w' := by
  refine (new_any w).mono ?_
  rintro e w' ⟨h, m, v, rfl, hb, hf, ht⟩
  exact ⟨h, _, rfl, ⟨m, v, [], [], hb, List.Perm.refl _, rfl⟩, hf, ht⟩
theorem Bag.push (k : Bag w h f L last) (due : Int) (cs : List Value) (hcl : cs.length = 17) (hc1 : ∀ u ∈ cs, u.oneCell' = true) (hl : last < 1000) (hL : L.length < 1000) :
    Calls Try.prog 28 #[.pointer (some ⟨h, 0, none⟩), .int .u64 due, .agg cs.toArray] w fun e w' => e = .returned (.int .i64 (last + 1)) ∧ Next w h f (L ++ [⟨last + 1, due, .agg cs.toArray⟩]) (last + 1) w' := by
  obtain ⟨m, v, its, kv, hb, hp, rfl⟩ := k
  refine (push_any h m v its kv last due cs hcl hc1 w hb hl (by rw [hp.length_eq]; exact hL)).mono ?_
  rintro e w' ⟨v', its', kv', rfl, hb', hp', hf', ht'⟩
  exact ⟨rfl, _, ⟨m, v', its', kv', hb', hp'.trans (hp.append_right _), rfl⟩, hf', ht'⟩
theorem Left.next {m : Nat} {v : Value} {L' : List Itm} {w' : World} (k : Left h m v L' last w w') (hp : L'.Perm L) : Next w h (Hp.foot h m v) L last w' := by
  obtain ⟨v', its', kv', hb', hp', hf', ht'⟩ := k
  exact ⟨_, ⟨m, v', its', kv', hb', hp'.trans hp, rfl⟩, hf', ht'⟩
/-- The least entry. -/
theorem Bag.pop (k : Bag w h f L last) (x : Itm) (hx : x ∈ L) (hm : ∀ y ∈ L, le x.key y.key) :
    Calls Try.prog 32 #[.pointer (some ⟨h, 0, none⟩)] w fun e w' => e = .returned (.tuple #[.int .i64 x.id, .int .u64 x.due, .agg (cx x).toArray, .bool true]) ∧ Next w h f (L.filter fun y => decide (y.id ≠ x.id)) last w' := by
  obtain ⟨m, v, its, kv, hb, hp, rfl⟩ := k
  obtain ⟨i, hi⟩ := mem_at hp hx
  have h0 : 0 < its.length := by have := (List.getElem?_eq_some_iff.1 hi).1; omega
  have hz := List.getElem?_eq_getElem h0
  generalize its[0] = z at hz
  have hzi : i = 0 := by
    rcases Nat.eq_zero_or_pos i with e | e
    · exact e
    exfalso
    have l1 := hb.heap.least hz i x hi
    have l2 := hm z (hp.mem_iff.1 (List.mem_of_getElem? hz))
    refine ids_ne hb.ids hi hz (by omega) ?_
    have : x.key.id = z.key.id := by unfold le at l1 l2; omega
    exact this
  subst hzi
  refine (pop_some h m v its kv last w hb x hi).mono ?_
  rintro e w' ⟨rfl, hl⟩
  refine ⟨rfl, hl.next ?_⟩
  rw [erase_filter its 0 x hb.ids hi]
  exact hp.filter _
theorem Bag.len (k : Bag w h f L last) : Calls Try.prog 33 #[.pointer (some ⟨h, 0, none⟩)] w fun e w' => e = .returned (.int .i64 L.length) ∧ w = w' := by
  obtain ⟨m, v, its, kv, hb, hp, rfl⟩ := k
  rw [← hp.length_eq]
  exact len_any h m v its kv last w hb
theorem Bag.handles (k : Bag w h f L last) : Calls Try.prog 31 #[.pointer (some ⟨h, 0, none⟩)] w fun e w' => ∃ (v : Value) (M : List Itm), e = .returned v ∧ M.Perm L ∧ M.Pairwise (fun x y => le x.key y.key) ∧ OwnN w w' v (M.map Itm.id) ∧ Touch [] w w' := by
  obtain ⟨m, v, its, kv, hb, hp, rfl⟩ := k
  refine (handles_any h m v its kv last w hb).mono ?_
  rintro e w' ⟨v', rfl, ho, ht⟩
  exact ⟨v', sortI its, rfl, (sortI_perm its).trans hp, sortI_sorted its, ho, ht⟩
end
end Go.Proofs.Ytpbabdoecjlifaa.A

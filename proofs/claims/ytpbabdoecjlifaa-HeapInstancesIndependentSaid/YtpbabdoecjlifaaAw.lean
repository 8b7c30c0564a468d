/-
  The statements' sanity check is true.
-/
import Derived.Test.YtpbabdoecjlifaaHdS
import Derived.Test.YtpbabdoecjlifaaEqn
namespace Go.Proofs.Ytpbabdoecjlifaa
open Go.RowKit Go.Sort Go.Shelf
set_option linter.unusedVariables false
set_option linter.unusedSimpArgs false

/-- A heap of the string instance that lies above w0 and bears the entries L. -/
def HasS (w0 w : World) (h : Nat) (L : List Itm) (last : Int) : Prop := ∃ m v its kv, S.HB w h m v its kv last ∧ its.Perm L ∧ (∀ y ∈ S.Hp.foot h m v, w0.heap.size ≤ y) ∧ Touch [] w0 w
theorem HasS.push {w0 w : World} {h : Nat} {L : List Itm} {last : Int} (k : HasS w0 w h L last) (due : Int) (x : Value) (h1 : x.oneCell' = true) (hl : last < 1000) (hL : L.length < 1000) :
    Calls Try.prog 29 #[.pointer (some ⟨h, 0, none⟩), .int .u64 due, x] w fun e w' => e = .returned (.int .i64 (last + 1)) ∧ HasS w0 w' h (L ++ [⟨last + 1, due, x⟩]) (last + 1) := by
  obtain ⟨m, v, its, kv, hb, hp, hf, ht⟩ := k
  refine (S.push_any h m v its kv last due x w hb h1 hl (by rw [hp.length_eq]; exact hL)).mono ?_
  rintro e w' ⟨v', its', kv', rfl, hb', hp', hf', ht'⟩
  exact ⟨rfl, m, v', its', kv', hb', hp'.trans (hp.append_right _), fun y hy => by
    rcases hf' y hy with h2 | h2
    · exact hf y h2
    · exact Nat.le_trans ht.size h2, ht.trans ht' (fun y hy => .inr (hf y hy))⟩
def upd (id due : Int) (z : Itm) : Itm := if z.id = id then ⟨id, due, z.x⟩ else z
theorem set_upd {its : List Itm} {i : Nat} {x : Itm} (hn : (its.map Itm.id).Nodup) (hx : its[i]? = some x) (due : Int) : its.set i ⟨x.id, due, x.x⟩ = its.map (upd x.id due) := by
  apply List.ext_getElem?
  intro j
  rw [List.getElem?_map]
  by_cases hj : j = i
  · subst hj
    rw [List.getElem?_set_self (List.getElem?_eq_some_iff.1 hx).1, hx]
    simp [upd]
  · rw [List.getElem?_set_ne (Ne.symm hj)]
    cases hy : its[j]? with
    | none => rfl
    | some y =>
      have := ids_ne hn hy hx hj
      simp [upd, this]
theorem mem_at {its L : List Itm} (hp : its.Perm L) {x : Itm} (hx : x ∈ L) : ∃ i : Nat, its[i]? = some x := by
  obtain ⟨i, hi, e⟩ := List.getElem_of_mem (hp.mem_iff.2 hx)
  exact ⟨i, by rw [List.getElem?_eq_getElem hi, e]⟩
theorem HasS.update {w0 w : World} {h : Nat} {L : List Itm} {last : Int} (k : HasS w0 w h L last) (x : Itm) (due : Int) (hx : x ∈ L) :
    Calls Try.prog 50 #[.pointer (some ⟨h, 0, none⟩), .int .i64 x.id, .int .u64 due] w fun e w' => e = .returned (.bool true) ∧ HasS w0 w' h (L.map (upd x.id due)) last := by
  obtain ⟨m, v, its, kv, hb, hp, hf, ht⟩ := k
  obtain ⟨i, hi⟩ := mem_at hp hx
  refine (S.update_some h m v its kv last w hb i x due hi).mono ?_
  rintro e w' ⟨its', kv', rfl, hb', hp', ht'⟩
  rw [set_upd hb.ids hi] at hp'
  exact ⟨rfl, m, v, its', kv', hb', hp'.trans (hp.map _), hf, ht.trans ht' (fun y hy => .inr (hf y hy))⟩
theorem HasS.touch {w0 w w' : World} {h : Nat} {L : List Itm} {last : Int} (k : HasS w0 w h L last) (t : Touch [] w w') : HasS w0 w' h L last := by
  obtain ⟨m, v, its, kv, hb, hp, hf, ht⟩ := k
  exact ⟨m, v, its, kv, hb.touch t (by simp), hp, hf, ht.trans t (by simp)⟩
theorem HasS.min {w0 w : World} {h : Nat} {L : List Itm} {last : Int} (k : HasS w0 w h L last) (hL : L ≠ []) :
    Calls Try.prog 51 #[.pointer (some ⟨h, 0, none⟩)] w fun e w' => (∃ x ∈ L, e = .returned (.tuple #[.int .i64 x.id, .int .u64 x.due, x.x, .bool true]) ∧ ∀ y ∈ L, le x.key y.key) ∧ Touch [] w w' := by
  obtain ⟨m, v, its, kv, hb, hp, hf, ht⟩ := k
  have h0 : 0 < its.length := by
    rw [hp.length_eq]
    exact List.length_pos_iff.2 hL
  have hx := List.getElem?_eq_getElem h0
  refine (S.min_some h m v its kv last w hb _ hx).mono ?_
  rintro e w' ⟨rfl, ht'⟩
  refine ⟨⟨its[0], hp.mem_iff.1 (List.getElem_mem h0), rfl, fun y hy => ?_⟩, ht'⟩
  obtain ⟨j, hj⟩ := mem_at hp hy
  exact hb.heap.least hx j y hj
theorem HasS.len {w0 w : World} {h : Nat} {L : List Itm} {last : Int} (k : HasS w0 w h L last) :
    Calls Try.prog 34 #[.pointer (some ⟨h, 0, none⟩)] w fun e w' => e = .returned (.int .i64 L.length) ∧ w = w' := by
  obtain ⟨m, v, its, kv, hb, hp, hf, ht⟩ := k
  rw [← hp.length_eq]
  exact S.len_any h m v its kv last w hb
theorem owns_lit (w : World) (l : List Value) (hl : l.length ≤ maxLen) : (w.alloc (.cells l.toArray 3)).ownsRow 0 3 1 (.slice (some ⟨w.heap.size, 0, none⟩) l.length l.length) l.length l :=
  ⟨by simp, .inr ⟨w.heap.size, l.length, l.toArray, rfl, Nat.zero_le _, heap_alloc_new w _, Nat.le_refl _, hl, by simp, by simp⟩⟩
theorem sorted_ids {L : List Itm} {ids : List Int} (its : List Itm) (hn : (its.map Itm.id).Nodup) (hp : its.Perm L) (M : List Itm) (hM : M.Perm L) (hs : M.Pairwise fun x y => le x.key y.key) : (S.sortI its).map Itm.id = M.map Itm.id := by
  have h1 : (S.sortI its).Perm M := ((S.sortI_perm its).trans hp).trans hM.symm
  have h2 := S.sortI_sorted its
  have h3 : ((S.sortI its).map Itm.id).Nodup := ((S.sortI_perm its).map Itm.id).nodup_iff.2 hn
  generalize S.sortI its = A at *
  clear hp hM hn
  have key : ∀ (A M : List Itm), A.Perm M → A.Pairwise (fun x y => le x.key y.key) → M.Pairwise (fun x y => le x.key y.key) → (A.map Itm.id).Nodup → A.map Itm.id = M.map Itm.id := by
    intro A
    induction A with
    | nil =>
      intro M h1 _ _ _
      rw [List.nil_perm.1 h1]
    | cons a A ih =>
      intro M h1 h2 h3 h4
      cases M with
      | nil => simp at h1
      | cons b M =>
        have hb : b ∈ a :: A := h1.symm.subset List.mem_cons_self
        have ha : a ∈ b :: M := h1.subset List.mem_cons_self
        have e : a = b := by
          rcases List.mem_cons.1 hb with e | hb
          · exact e.symm
          rcases List.mem_cons.1 ha with e | ha
          · exact e
          exfalso
          have l1 := (List.pairwise_cons.1 h2).1 b hb
          have l2 := (List.pairwise_cons.1 h3).1 a ha
          have l3 : a.id = b.id := by
            have : a.key.id = b.key.id := by unfold le at l1 l2; omega
            exact this
          simp only [List.map_cons, List.nodup_cons] at h4
          exact h4.1 (by rw [l3]; exact List.mem_map.2 ⟨b, hb, rfl⟩)
        subst e
        simp only [List.map_cons, List.cons.injEq, true_and]
        simp only [List.map_cons, List.nodup_cons] at h4
        exact ih M (List.Perm.cons_inv h1) (List.pairwise_cons.1 h2).2 (List.pairwise_cons.1 h3).2 h4.2
  exact key A M h1 h2 hs h3
theorem HasS.handles {w0 w : World} {h : Nat} {L M : List Itm} {last : Int} (k : HasS w0 w h L last) (hM : M.Perm L) (hs : M.Pairwise fun x y => le x.key y.key) :
    Calls Try.prog 35 #[.pointer (some ⟨h, 0, none⟩)] w fun e w' => ∃ v, e = .returned v ∧ OwnN w w' v (M.map Itm.id) ∧ Touch [] w w' := by
  obtain ⟨m, v, its, kv, hb, hp, hf, ht⟩ := k
  have := S.handles_any h m v its kv last w hb
  rw [sorted_ids its hb.ids hp M hM hs (ids := [])] at this
  exact this
set_option maxRecDepth 100000 in
set_option maxHeartbeats 2000000 in
theorem awake_any (w : World) : Calls Try.prog 25 #[] w fun e w' => e = .returned (.bool true) ∧ Touch [] w w' := by
  go_enter Try.func25, Try.ntmps25
  go_wp2_with fail
  refine (S.new_any w).mono ?_
  rintro e w1 ⟨h, m, v, rfl, hb, hf, ht⟩
  have H1 := Lib.hid (show HasS w w1 h [] 0 from ⟨m, v, [], [], hb, List.Perm.refl _, hf, ht⟩)
  clear hb hf ht
  go_wp2_with fail
  refine (H1.out.push 7 _ rfl (by omega) (by simp)).mono ?_
  rintro e w2 ⟨rfl, h2⟩
  have H2 := Lib.hid h2
  clear h2 H1
  go_wp2_with fail
  refine (H2.out.push 5 _ rfl (by omega) (by simp)).mono ?_
  rintro e w3 ⟨rfl, h3⟩
  have H3 := Lib.hid h3
  clear h3 H2
  go_wp2_with fail
  refine (H3.out.push 5 _ rfl (by omega) (by simp)).mono ?_
  rintro e w4 ⟨rfl, h4⟩
  have H4 := Lib.hid h4
  clear h4 H3
  go_wp2_with fail
  refine (H4.out.handles (M := [⟨2, 5, .string ⟨#[98]⟩⟩, ⟨3, 5, .string ⟨#[99]⟩⟩, ⟨1, 7, .string ⟨#[97]⟩⟩]) (List.perm_append_comm (l₁ := [(⟨2, 5, .string ⟨#[98]⟩⟩ : Itm), (⟨3, 5, .string ⟨#[99]⟩⟩ : Itm)]) (l₂ := [(⟨1, 7, .string ⟨#[97]⟩⟩ : Itm)])) (by simp [le, Itm.key])).mono ?_
  rintro e w5 ⟨v5, rfl, o5, t5⟩
  have H5 := Lib.hid ((H4.out.touch t5).touch ((Touch.refl [] w5).alloc (.cells #[.int .i64 2, .int .i64 3, .int .i64 1] 3)))
  obtain ⟨b5, r5⟩ := (o5.touch ((Touch.refl [] w5).alloc (.cells #[.int .i64 2, .int .i64 3, .int .i64 1] 3)) (by simp)).rd
  have R5 := Lib.hid r5
  have o6 : OwnN w5 (w5.alloc (.cells #[.int .i64 2, .int .i64 3, .int .i64 1] 3)) (.slice (some ⟨w5.heap.size, 0, none⟩) 3 3) [2, 3, 1] := ⟨owns_lit w5 [.int .i64 2, .int .i64 3, .int .i64 1] (by unfold maxLen; simp), by simp [Value.ownBlock]⟩
  obtain ⟨b6, r6⟩ := o6.rd
  have R6 := Lib.hid r6
  clear o5 t5 r5 o6 r6 H4
  go_wp2_with fail
  refine (equal_self _ _ b5 b6 [2, 3, 1] _ (by simp) R5.out R6.out).mono ?_
  rintro e w6 ⟨rfl, t6⟩
  have H6 := Lib.hid (H5.out.touch t6)
  clear t6 H5 R5 R6
  go_wp2_with fail
  refine (H6.out.update ⟨1, 7, .string ⟨#[97]⟩⟩ 4 (by simp)).mono ?_
  rintro e w7 ⟨rfl, h7⟩
  simp [upd] at h7
  have H7 := Lib.hid h7
  clear h7 H6
  go_wp2_with fail
  refine (H7.out.min (by simp)).mono ?_
  rintro e w8 ⟨⟨x, hx, rfl, hle⟩, t8⟩
  have hxe : x = ⟨1, 4, .string ⟨#[97]⟩⟩ := by
    have h1 := hle ⟨1, 4, .string ⟨#[97]⟩⟩ (by simp)
    simp at hx
    rcases hx with rfl | rfl | rfl
    · rfl
    · simp [le, Itm.key] at h1
    · simp [le, Itm.key] at h1
  subst hxe
  have H8 := Lib.hid (H7.out.touch t8)
  clear t8 H7 hx hle
  go_wp2_with fail
  refine (H8.out.len).mono ?_
  rintro e w9 ⟨rfl, rfl⟩
  have T8 : Touch [] w w8 := by
    obtain ⟨_, _, _, _, _, _, _, ht⟩ := H8.out
    exact ht
  go_wp2_with fail
  go_ret
  exact ⟨rfl, T8⟩
end Go.Proofs.Ytpbabdoecjlifaa

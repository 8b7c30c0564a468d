/-
  The contract of the descriptor table's Close.
-/
import Derived.Test.YtnglkdpmkgehoaaTr
import Derived.StillTailTactics
namespace Go.Proofs.Ytnglkdpmkgehoaa
open Go.RowKit
set_option linter.unusedVariables false
set_option linter.unusedSimpArgs false

def drop (live : List Fd) (k : Key) : List Fd := live.filter fun f => !decide (f.key = k)
theorem drop_fdv (live : List Fd) (k : Key) : del (live.map fdv) k = (drop live k).map fdv := by
  unfold del drop
  rw [List.filter_map]
  rfl
theorem drop_eraseIdx {live : List Fd} (hn : (live.map (·.key)).Nodup) {k : Key} {f : Fd} {j : Nat} (hj : live[j]? = some f) (hf : f.key = k) : drop live k = live.eraseIdx j := by
  unfold drop
  refine Go.ChangeMaps.filter_eq_eraseIdx (fun f : Fd => decide (f.key = k)) live j f hj (by simpa using hf) ?_
  rw [List.Nodup, List.pairwise_map] at hn
  exact hn.imp fun {p q} hpq hh => by
    simp only [decide_eq_true_eq] at hh
    exact hpq (hh.1.trans hh.2.symm)
theorem Tab.drop {w w2 : World} {t m u : Nat} {live : List Fd} {used : List Bool} {total : Int} (h : Tab w t m u live used total) {k : Key} {f : Fd} (hf : fdAt live k = some f) (hS : Touch [m, u] w w2)
    (hm : Mp encK okK w2 m (del (live.map fdv) k)) (hr : w2.heap[u]? = some (.cells ((used.set f.no false).map Value.bool).toArray 4 (0, 0))) : Tab w2 t m u (drop live k) (used.set f.no false) total := by
  obtain ⟨hfl, hfk⟩ := fdAt_some hf
  have hap := h.apart
  simp only [List.nodup_cons, List.mem_cons, not_or] at hap
  obtain ⟨⟨n1, n2, n3⟩, ⟨n4, n5⟩, n6, n7⟩ := hap
  obtain ⟨j, hj⟩ := List.getElem?_of_mem hfl
  have hd := drop_eraseIdx h.keys hj hfk
  have hsub : (Go.Proofs.Ytnglkdpmkgehoaa.drop live k).Sublist live := List.filter_sublist
  have hjl := (List.getElem?_eq_some_iff.1 hj).1
  refine ⟨by rw [List.length_set]; exact hS.at h.hdr (by simp [n1, n2]), hr, by rw [← drop_fdv]; exact hm, ?_, ?_, by simpa using h.room, ?_, (hsub.map _).nodup h.nod, ?_⟩
  · intro f' hf'
    have hf2 := hsub.subset hf'
    have hg : f'.g ∈ live.map (·.g) := List.mem_map.2 ⟨f', hf2, rfl⟩
    refine hS.at (h.fds f' hf2) ?_
    simp only [List.mem_cons, List.not_mem_nil, or_false, not_or]
    exact ⟨fun e => n5 (e ▸ hg), fun e => n6 (e ▸ hg)⟩
  · have : (t :: m :: u :: (Go.Proofs.Ytnglkdpmkgehoaa.drop live k).map (·.g)).Sublist (t :: m :: u :: live.map (·.g)) := (((hsub.map _).cons_cons _).cons_cons _).cons_cons _
    exact this.nodup h.apart
  · intro f' hf'
    have hf2 := hsub.subset hf'
    have h1 := h.nos f' hf2
    have : f.no ≠ f'.no := by
      intro e
      have hij : f = f' := by
        obtain ⟨i, hi⟩ := List.getElem?_of_mem hf2
        obtain ⟨li, ei⟩ := List.getElem?_eq_some_iff.1 hi
        obtain ⟨lj, ej⟩ := List.getElem?_eq_some_iff.1 hj
        have := nodup_inj (l := live.map (·.no)) (hi := by simpa using lj) (hj := by simpa using li) h.nod (by simp [ei, ej, e])
        subst this
        rw [← ei, ← ej]
      subst hij
      have := (List.mem_filter.1 hf').2
      simp [hfk] at this
    rw [List.getElem?_set_ne this]
    exact h1
  · have h1 := count_set_false used f.no (h.nos f hfl)
    rw [h.cnt] at h1
    rw [hd, List.length_eraseIdx_of_lt hjl]
    omega

theorem wpList_delete_mp {P : Program} {α : Type} [DecidableEq α] {enc : α → Value} {ok : α → Prop} {w : World} {b : Nat} {kv : List (α × Value)} {o : Oper} {ops : Array Oper} {rest : List Oper} {a : Act} {Q : Exit → Act → World → Prop} (hg : o.guard = none) (m x : Operand) (t k : TypeId) (hop : o.op = Op.call { callee := Callee.builtin Builtin.delete, args := #[m, x], argTypes := #[t, k] })
    (e : TypeId) (E : KE P k enc ok) (ht : P.underlying t = some (.map k e)) (h : Mp enc ok w b kv) (y : α) (hy : ok y) (hm : a.eval m = .map (some b)) (hx : a.eval x = enc y)
    (hK : ∀ w', Mp enc ok w' b (del kv y) → Touch [b] w w' → w'.heap.size = w.heap.size → wpList P ops Q rest (a.put o.dst (.tuple #[])) w') : wpList P ops Q (o :: rest) a w := by
  refine wpList_plain hg fun K' hK' => ?_
  obtain ⟨w', hrun, r1, r2, r3⟩ := h.drop E ht hy o.type
  unfold Oper.wp
  simp [execOp, hop, resolve, invoke, builtin, hm, hx, hrun, Result.andThen]
  exact hK' _ _ (hK w' r1 r2 r3)

set_option maxRecDepth 100000 in
set_option maxHeartbeats 1000000 in
theorem close_no (t m u : Nat) (live : List Fd) (used : List Bool) (total c a : Int) (w : World) (h : Tab w t m u live used total) (hk : okK (c, a)) (hf : fdAt live (c, a) = none) :
    Calls Try.prog 18 #[.pointer (some ⟨t, 0, none⟩), .agg #[.int .i64 c, .int .i64 a]] w fun e w' => e = .returned (.int .i64 4) ∧ Touch [] w w' := by
  have tA := (Touch.refl [] w).alloc (.cells #[.int .i64 c, .int .i64 a] 23)
  have hA := h.touch tA (by simp)
  obtain ⟨c0, c1, c2⟩ := hA.cells
  have hl := (hA.look hk).2 hf
  clear hA h hf
  go_enter Try.func18, Try.ntmps18
  go_wp2_with fail
  go_quiet (fail)
  go_wp2_with fail
  go_ret
  exact ⟨rfl, tA.drews _⟩
set_option maxRecDepth 100000 in
set_option maxHeartbeats 1000000 in
theorem close_ok (t m u : Nat) (live : List Fd) (used : List Bool) (total c a : Int) (w : World) (h : Tab w t m u live used total) (hk : okK (c, a)) (f : Fd) (hf : fdAt live (c, a) = some f) :
    Calls Try.prog 18 #[.pointer (some ⟨t, 0, none⟩), .agg #[.int .i64 c, .int .i64 a]] w fun e w' => e = .returned (.int .i64 0) ∧ Tab w' t m u (drop live (c, a)) (used.set f.no false) total ∧ Touch [m, u] w w' := by
  have tA := (Touch.refl [] w).alloc (.cells #[.int .i64 c, .int .i64 a] 23)
  have bA := heap_alloc_new w (.cells #[.int .i64 c, .int .i64 a] 23)
  have hA := h.touch tA (by simp)
  obtain ⟨c0, c1, c2⟩ := hA.cells
  have hl := (hA.look hk).1 f hf
  have hlt := h.lt
  have hm1 := hlt m (by simp [Tab.foot])
  have hu1 := hlt u (by simp [Tab.foot])
  have ht1 := hlt t (by simp [Tab.foot])
  have hfl := fdAt_some hf
  have hg1 := hlt f.g (by simp only [Tab.foot, List.mem_cons]; exact .inr (.inr (.inr (List.mem_map.2 ⟨f, hfl.1, rfl⟩))))
  have hap := h.apart
  simp only [List.nodup_cons, List.mem_cons, not_or] at hap
  obtain ⟨⟨n1, n2, n3⟩, ⟨n4, n5⟩, n6, n7⟩ := hap
  have hfg : f.g ∈ live.map (·.g) := List.mem_map.2 ⟨f, hfl.1, rfl⟩
  have n8 : ¬ f.g = m := fun e => n5 (e ▸ hfg)
  have n9 : ¬ u = m := Ne.symm n4
  have hno := (List.getElem?_eq_some_iff.1 (h.nos f hfl.1)).1
  have hrl := h.room
  have HF := Lib.hid hf
  clear hf hfl n3 n5 n6 n7 hfg hlt
  go_enter Try.func18, Try.ntmps18
  go_wp2_with fail
  go_quiet (fail)
  clear hl c0 c1 c2
  go_wp2_with fail
  have T1 := (tA.drews nq).drew
  have hB := (hA.touch (drewN_touch _ nq) (by simp)).touch ((Touch.refl [] _).drew) (by simp)
  have bB := ((drewN_touch _ nq).drew).at bA (by simp)
  generalize hW : (w.alloc (.cells #[.int .i64 c, .int .i64 a] 23)).drewN nq = W0 at *
  clear hW hA bA tA
  obtain ⟨c0, c1, c2⟩ := hB.cells
  have b0 : W0.drew.cell? ⟨w.heap.size, 0, none⟩ = some (.int .i64 c) := by simp [World.cell?, bB]
  have b1 : W0.drew.cell? ⟨w.heap.size, 1, none⟩ = some (.int .i64 a) := by simp [World.cell?, bB]
  go_still_tail 5, (by kernel_rfl)
  change wpList _ _ _ _ _ W0.drew
  generalize W0.drew = W at *
  go_wp2_with (refine wpList_delete_mp rfl _ _ 57 23 rfl 61 key23 Try.underlying57 hB.mp (c, a) hk rfl rfl ?_)
  intro w2 hm2 t2 z2
  have hH := t2.drew.at hB.hdr (by simp [n1])
  have hR := t2.drew.at hB.row (by simp [n9])
  have hG := t2.drew.at (hB.fds f (fdAt_some HF.out).1) (by simp [n8])
  have d0 : w2.drew.cell? ⟨t, 1, none⟩ = some (.slice (some ⟨u, 0, none⟩) used.length used.length) := by simp [World.cell?, hH]
  have d1 : w2.drew.cell? ⟨f.g, 0, none⟩ = some (.int .i64 f.no) := by simp [World.cell?, hG]
  have d2 : w2.drew.cell? ⟨u, f.no, none⟩ = some (.bool true) := by
    have := hB.nos f (fdAt_some HF.out).1
    simp [World.cell?, hR, this]
  have d3 : w2.drew.frozen? ⟨u, f.no, none⟩ = false := by simp [World.frozen?, hR]
  generalize hN : used.length = n at *
  have HN := Lib.hid hN
  have hno1 : (0 : Int) ≤ (f.no : Int) := by omega
  have hno2 : (f.no : Int) < (n : Int) := by omega
  clear hN c0 c1 c2 b0 b1 bB
  go_wp2_with fail
  go_still_tail 9, (by kernel_rfl)
  change wpList _ _ _ _ _ w2.drew
  have t3 : Touch [m] W w2.drew := t2.drew
  have hm3 : Mp encK okK w2.drew m (del (live.map fdv) (c, a)) := hm2.touch ((Touch.refl [] w2).drew) (by simp)
  have hR3 : w2.drew.heap[u]? = some (.cells (used.map Value.bool).toArray 4 (0, 0)) := hR
  generalize w2.drew = w3 at *
  go_wp2_with fail
  go_ret
  have t4 := (Touch.refl [u] w3).setCell (p := ⟨u, f.no, none⟩) (by simp) (.bool false)
  have hS : Touch [m, u] W (w3.setCell ⟨u, f.no, none⟩ (.bool false)) := (t3.mono (S' := [m, u]) (by simp)).trans t4 (by simp)
  exact ⟨rfl, hB.drop HF.out hS (hm3.touch t4 (by simp [n4])) (set_row _ _ _ _ _ hR3), (T1.mono (by simp)).trans hS (by simp)⟩
end Go.Proofs.Ytnglkdpmkgehoaa

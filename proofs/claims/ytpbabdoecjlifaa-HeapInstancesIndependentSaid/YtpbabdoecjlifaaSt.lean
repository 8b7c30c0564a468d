/-
  The contract of the heap's 'set'.
-/
import Derived.Test.YtpbabdoecjlifaaHs
import Derived.Test.YtpbabdoecjlifaaRec5
import Derived.StillTail
namespace Go.Proofs.Ytpbabdoecjlifaa
open Go.RowKit
set_option linter.unusedVariables false
set_option linter.unusedSimpArgs false

theorem flatI_set (its : List Itm) (i : Nat) (it : Itm) (h : i < its.length) : ((its.set i it).map encI).flatten = (its.map encI).flatten.take (i * 3) ++ encI it ++ (its.map encI).flatten.drop (i * 3 + 3) := by
  induction its generalizing i with
  | nil => simp at h
  | cons a r ih =>
    cases i with
    | zero => simp [encI]
    | succ i =>
      have := ih i (by simpa using h)
      simp only [List.set_cons_succ, List.map_cons, List.flatten_cons, this]
      have e : (i + 1) * 3 = i * 3 + 3 := by omega
      rw [e]
      simp only [encI, List.cons_append, List.nil_append]
      rfl
theorem Hp.set {w w2 w3 : World} {h m g n c : Nat} {its : List Itm} {kv : List (Int × Value)} {last : Int} (k : Hp w h m (.slice (some ⟨g, 0, none⟩) n c) its kv last) {i : Nat} {it : Itm} (hi : i < its.length) (h1 : it.x.oneCell' = true) (h2 : okK it.id) (t1 : Touch [g] w w2)
    (row : w2.ownsRow 0 78 3 (.slice (some ⟨g, 0, none⟩) n c) n ((its.map encI).flatten.take (i * 3) ++ encI it ++ (its.map encI).flatten.drop (i * 3 + 3)))
    (hmp : Mp encK okK w3 m (put kv it.id (.int .i64 i))) (t3 : Touch [m] w2 w3) :
    Hp w3 h m (.slice (some ⟨g, 0, none⟩) n c) (its.set i it) (put kv it.id (.int .i64 i)) last ∧ Touch [m, g] w w3 := by
  have hg1 : g ≠ h := fun e => k.hv.1 (by rw [e]; rfl)
  have hg2 : g ≠ m := fun e => k.hv.2 (by rw [e]; rfl)
  have hn : n = its.length := by
    obtain ⟨a', c', hv, _⟩ := owns_form k.row
    simp at hv
    exact hv.2.1
  subst hn
  rw [← flatI_set its i it hi] at row
  have T : Touch [m, g] w w3 := (t1.mono (S' := [m, g]) (by simp)).trans t3 (by simp)
  refine ⟨⟨?_, ?_, hmp, ?_, ?_, k.hm, k.hv, by rw [List.length_set]; exact k.few⟩, T⟩
  · exact T.at k.hdr (by simp; exact ⟨k.hm, Ne.symm hg1⟩)
  · rw [List.length_set]
    exact t3.owns row (by intro g2 hg2'; simp [Value.ownBlock] at hg2'; subst hg2'; simpa using hg2)
  · intro y hy
    rcases List.mem_or_eq_of_mem_set hy with hy | rfl
    · exact k.one y hy
    · exact h1
  · intro y hy
    rcases List.mem_or_eq_of_mem_set hy with hy | rfl
    · exact k.oks y hy
    · exact h2
theorem end0 {P : Program} {fn : Func} {R : Ending → World → Prop} {a : Act} {w : World} (hr : fn.results = #[]) (hd : a.defers = []) (hR : R (.returned (.tuple #[])) w) : bodyPost P fn R .normal a w :=
  bodyPost_end (v := .tuple #[]) (by simp [results, hr]) hd hR
theorem cells_three {w : World} {B : Nat} {x y z : Value} {T : TypeId} (h : w.heap[B]? = some (.cells #[x, y, z] T (0, 0))) : w.cell? ⟨B, 0, none⟩ = some x ∧ w.cell? ⟨B, 1, none⟩ = some y ∧ w.cell? ⟨B, 2, none⟩ = some z := by
  simp [World.cell?, h]
set_option maxRecDepth 100000 in
set_option maxHeartbeats 2000000 in
theorem set_any (h m : Nat) (v : Value) (its : List Itm) (kv : List (Int × Value)) (last : Int) (i : Nat) (id due : Int) (x : Value) (w : World) (k : Hp w h m v its kv last) (hi : i < its.length) (h1 : x.oneCell' = true) (h2 : okK id) :
    Calls Try.prog 44 #[.pointer (some ⟨h, 0, none⟩), .int .i64 i, .agg #[.int .i64 id, .int .u64 due, x]] w fun e w' => e = .returned (.tuple #[]) ∧ Hp w' h m v (its.set i ⟨id, due, x⟩) (put kv id (.int .i64 i)) last ∧ Touch (m :: v.ownBlock.toList) w w' := by
  obtain ⟨av, cv, rfl, hv1, hv2, hv3⟩ := k.form
  obtain ⟨g, rfl, hgh, hgm⟩ := hv3 (by omega)
  obtain ⟨c0, c1, c2⟩ := k.cells
  have tB := (Touch.refl [] w).alloc (.cells #[.int .i64 id, .int .u64 due, x] 78)
  obtain ⟨b0, b1, b2⟩ := cells_three (heap_alloc_new w (.cells #[.int .i64 id, .int .u64 due, x] 78))
  have kB := k.touch tB (by simp)
  obtain ⟨c0, c1, c2⟩ := kB.cells
  have hli := List.getElem?_eq_getElem hi
  obtain ⟨e0, e1, e2⟩ := kB.elem hli
  have HK := Lib.hid kB
  have HK0 := k
  clear hli kB k
  go_enter Try.func44, Try.ntmps44
  go_wp2_with fail
  have zB : (w.alloc (.cells #[.int .i64 id, .int .u64 due, x] 78)).heap.size = w.heap.size + 1 := by simp
  generalize w.alloc (.cells #[.int .i64 id, .int .u64 due, x] 78) = W at *
  have HBg : w.heap.size ≠ g := fun e => by have := (HK0.row.lt g rfl).2; omega
  clear HK0
  generalize w.heap.size = B at *
  refine wp_region_still_tail 7 (by kernel_rfl) (by kernel_rfl) ?_
  simp only [List.take_succ_cons, List.take_zero, List.drop_succ_cons, List.drop_zero]
  iterate 7 still_step
  refine wpStill_nil ?_
  change wpList _ _ _ _ _ W.drew
  have tD := (Touch.refl [] W).drew
  have HD := Lib.hid (HK.out.touch tD (by simp))
  clear c0 e0 e1 e2 b1 b2 c2
  have hlen : (its.map encI).flatten.length = its.length * 3 := by rw [flat_len (encI_len its), List.length_map]
  refine wpList_store_own rfl 78 _ _ rfl g (i * 3) its.length cv 78 3 _ [.int .i64 id, .int .u64 due, x] HD.out.row (by rfl) (by rfl) (by rw [hlen]; simp; omega) infoE (by intro u hu; simp at hu; rcases hu with rfl | rfl | rfl; rfl; rfl; exact h1) ?_
  intro w2 row2 t2 z2
  have T2 : Touch [g] W w2 := (tD.mono (by simp)).trans t2 (by simp)
  have c1 := T2.cell c1 (by simpa using Ne.symm hgh)
  have b0 := T2.cell b0 (by simpa using HBg)
  have M2 := (HK.out.mp.touch T2 (by simpa using Ne.symm hgm)).touch ((Touch.refl [] w2).drew) (by simp)
  obtain ⟨w3, hst, M3, t3, z3⟩ := M2.store key3 Try.underlying72 h2 (.int .i64 i)
  have TD2 : Touch [m] w2 w3 := ((Touch.refl [m] w2).drew).trans t3 (by simp)
  have FIN := Lib.hid (Hp.set HK.out hi (it := ⟨id, due, x⟩) h1 h2 T2 row2 M3 TD2)
  clear row2 t2 T2 M2 M3
  simp only [encK] at hst
  have TF := (tB.mono (S' := [m, g]) (by simp)).trans (FIN.out).2 (by simp)
  go_wp2_with fail
  refine wp_region_still_tail 7 (by kernel_rfl) (by kernel_rfl) ?_
  simp only [List.take_succ_cons, List.take_zero, List.drop_succ_cons, List.drop_zero]
  iterate 7 still_step
  refine wpStill_nil ?_
  change wpList _ _ _ _ _ w2.drew
  go_wp2_with fail
  exact end0 rfl rfl ⟨rfl, FIN.out.1, TF⟩
end Go.Proofs.Ytpbabdoecjlifaa

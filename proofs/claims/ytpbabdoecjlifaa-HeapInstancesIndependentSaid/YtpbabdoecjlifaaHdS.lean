/-
  The contract of Handles.
-/
import Derived.Test.YtpbabdoecjlifaaSrS
import Derived.Test.YtpbabdoecjlifaaGn
namespace Go.Proofs.Ytpbabdoecjlifaa.S
open Go.RowKit Go.Sort Go.Shelf
set_option linter.unusedVariables false
set_option linter.unusedSimpArgs false

theorem OwnI.touch {w0 w w' : World} {v : Value} {ks : List Itm} {S : List Nat} (h : OwnI w0 w v ks) (t : Touch S w w') (hS : ∀ g, v.ownBlock = some g → g ∉ S) : OwnI w0 w' v ks := ⟨t.owns h.row hS, h.new, h.one⟩
theorem OwnI.elem {w0 w : World} {g n c : Nat} {ks : List Itm} (k : OwnI w0 w (.slice (some ⟨g, 0, none⟩) n c) ks) {i : Nat} {it : Itm} (hi : ks[i]? = some it) :
    w.cell? ⟨g, i * 3, none⟩ = some (.int .i64 it.id) ∧ w.cell? ⟨g, i * 3 + 1, none⟩ = some (.int .u64 it.due) ∧ w.cell? ⟨g, i * 3 + 2, none⟩ = some it.x := by
  have hn : n = ks.length := by
    obtain ⟨a', c', hv, _⟩ := owns_form k.row
    simp at hv
    exact hv.2.1
  subst hn
  have h1 : (ks.map encI)[i]? = some (encI it) := by simp [hi]
  have := fun j u hu => owns_cell k.row (i * 3 + j) u (flat_get (encI_len ks) h1 (j := j) (u := u) hu)
  exact ⟨this 0 _ rfl, this 1 _ rfl, this 2 _ rfl⟩
theorem info3' : (Try.prog.info? 3).map (fun i => (i.size, i.bytes, i.zero.map fun z => z.cells.size)) = some (1, 8, some 1) := by kernel_rfl
set_option maxRecDepth 100000 in
set_option maxHeartbeats 2000000 in
theorem handles_any (h m : Nat) (v : Value) (its : List Itm) (kv : List (Int × Value)) (last : Int) (w : World) (k : HB w h m v its kv last) :
    Calls Try.prog 35 #[.pointer (some ⟨h, 0, none⟩)] w fun e w' => ∃ v', e = .returned v' ∧ OwnN w w' v' ((sortI its).map Itm.id) ∧ Touch [] w w' := by
  obtain ⟨i3, z3, hi3, hz3, hs3, hb3, hc3⟩ := info_parts info3'
  obtain ⟨c0, c1, c2⟩ := k.hp.cells
  have HC := Lib.hid (clone_any v its w k.hp.row k.hp.one k.hp.few)
  have hfew := k.hp.few
  have HN := Lib.hid k.ids
  have HR := Lib.hid k
  clear k
  go_enter Try.func35, Try.ntmps35
  go_wp2_with fail
  refine HC.out.mono ?_
  rintro e w1 ⟨v1, rfl, o1, t1⟩
  have HO1 := Lib.hid o1
  have T1 := Lib.hid t1
  clear o1 t1 c0 c1 c2
  go_wp2_with fail
  refine (sort_any v1 its w w1 HO1.out hfew HN.out).mono ?_
  rintro e w2 ⟨rfl, o2, t2⟩
  have T2 : Touch [] w w2 := T1.out.trans t2 (by intro y hy; right; exact HO1.out.new y (by simpa using hy))
  have hlen : (sortI its).length = its.length := (sortI_perm its).length_eq
  obtain ⟨ks, hks⟩ : ∃ ks, ks = sortI its := ⟨_, rfl⟩
  rw [← hks] at o2 hlen
  have HKS := Lib.hid hks
  clear hks
  obtain ⟨a1, c1, rfl, hc1, hc2, h3⟩ := owns_form o2.row
  have HO := Lib.hid o2
  have hfew2 : ks.length ≤ 1000 := by omega
  clear o2 t2 HO1 T1 hlen HC
  go_wp2_with fail
  go_loopw [4, 16] (fun v4 v16 wr => ∃ (j : Nat), v16 = .int .i64 j ∧ j ≤ ks.length ∧ OwnI w wr (.slice a1 ks.length c1) ks ∧ OwnN w wr v4 ((ks.take j).map Itm.id) ∧ (∀ g, v4.ownBlock = some g → ∀ g', a1 = some ⟨g', 0, none⟩ → g ≠ g') ∧ Touch [] w wr) (fun _ v16 _ => ks.length - (intOf v16).toNat)
  case atStart => exact ⟨0, rfl, by omega, HO.out, ⟨World.ownsRow_nil _ _ _ _, by simp [Value.ownBlock]⟩, by simp [Value.ownBlock], T2⟩
  case round =>
    obtain ⟨j, rfl, hj, ho, hn, hne, ht⟩ := hrel
    by_cases hjl : j < ks.length
    · have hx := List.getElem?_eq_getElem hjl
      generalize ks[j] = x at hx
      obtain ⟨g, rfl⟩ := h3 (by omega)
      obtain ⟨e0, e1, e2⟩ := ho.elem hx
      have h1x := ho.one x (List.mem_of_getElem? hx)
      have tB := (Touch.refl [] wr).alloc (.cells #[.int .i64 x.id, .int .u64 x.due, x.x] 97)
      obtain ⟨b0, b1, b2⟩ := cells_three (heap_alloc_new wr (.cells #[.int .i64 x.id, .int .u64 x.due, x.x] 97))
      have hrow := (hn.touch tB (by simp)).row
      have hlj : ((ks.take j).map Itm.id).length = j := by simp; omega
      rw [hlj] at hrow
      have HOo := Lib.hid ho
      have HNn := Lib.hid hn
      have HNE := Lib.hid hne
      have HX := Lib.hid hx
      have HT := Lib.hid ht
      have hjb : (j : Int) < (ks.length : Int) := by omega
      clear ho hn hne ht hx hlj
      have tC := tB.alloc (.cells #[.int .i64 x.id] 3)
      have hrow2 := hrow.alloc (.cells #[.int .i64 x.id] 3)
      have hnew := one_new (wr.alloc (.cells #[.int .i64 x.id, .int .u64 x.due, x.x] 97)) (.int .i64 x.id) 3
      rw [World.size_alloc] at hnew
      have hnews : ∀ ad, (some ⟨wr.heap.size + 1, 0, none⟩ : Option Addr) = some ad → ∀ j u, [Value.int .i64 x.id][j]? = some u → ((wr.alloc (.cells #[.int .i64 x.id, .int .u64 x.due, x.x] 97)).alloc (.cells #[.int .i64 x.id] 3)).cell? (ad.add j) = some u := by
        intro ad had
        cases had
        exact hnew
      clear hnew hrow
      go_wp2_with (first
        | (refine wpList_store_new rfl 97 _ _ rfl _ _ [.int .i64 x.id, .int .u64 x.due, x.x] (by rfl) (by rfl) rfl infoE (by intro u hu; simp at hu; rcases hu with rfl | rfl | rfl; rfl; rfl; exact h1x) ?_)
        | (at_builtin; refine wpList_app _ (by rfl) _ _ 46 (by rfl) 3 i3 z3 1 8 Try.underlying46 hi3 hz3 hs3 hb3 hc3 (by omega) _ j _ (by rfl) hrow2 (some ⟨wr.heap.size + 1, 0, none⟩) 1 1 [.int .i64 x.id] (by rfl) rfl (by intro h; cases h) hnews (by intro u hu; simp at hu; subst hu; rfl) (by unfold maxLen; omega) (by omega) ?_))
      intro vo w3 o3 t3 b3
      have hz : ((wr.alloc (.cells #[.int .i64 x.id, .int .u64 x.due, x.x] 97)).alloc (.cells #[.int .i64 x.id] 3)).heap.size = wr.heap.size + 2 := by simp
      have htk : (ks.take (j + 1)).map Itm.id = (ks.take j).map Itm.id ++ [x.id] := by
        rw [List.take_add_one, HX.out]
        simp
      have hlk : ((ks.take (j + 1)).map Itm.id).length = j + 1 := by simp; omega
      have hws := HT.out.size
      have hnew3 : ∀ g', vo.ownBlock = some g' → w.heap.size ≤ g' ∧ g' ≠ g := by
        intro g' hg'
        have hgl := HOo.out.lt g rfl
        rcases b3 with e | e
        · rw [e] at hg'
          exact ⟨HNn.out.new g' hg', HNE.out g' hg' g rfl⟩
        · rw [e] at hg'
          simp at hg'
          omega
      have hon : OwnN w w3 vo ((ks.take (j + 1)).map Itm.id) := ⟨by
        rw [hlk, htk, List.map_append]
        simpa [List.map_take] using o3, fun g' hg' => (hnew3 g' hg').1⟩
      have hoi : OwnI w w3 (.slice (some ⟨g, 0, none⟩) ks.length c1) ks := (HOo.out.touch tC (by simp)).touch t3 (by
        intro g' hg' hm
        cases hg'
        exact HNE.out g (by simpa using hm) g rfl rfl)
      have T3 : Touch [] w w3 := (HT.out.trans tC (by simp)).trans t3 (by intro y hy; right; exact HNn.out.new y (by simpa using hy))
      have HF := Lib.hid (show OwnI w w3 (.slice (some ⟨g, 0, none⟩) ks.length c1) ks ∧ OwnN w w3 vo ((ks.take (j + 1)).map Itm.id) ∧ (∀ g1, vo.ownBlock = some g1 → ∀ g', (some ⟨g, 0, none⟩ : Option Addr) = some ⟨g', 0, none⟩ → g1 ≠ g') ∧ Touch [] w w3 from
        ⟨hoi, hon, fun g1 hg1 g' hg' => by cases hg'; exact (hnew3 g1 hg1).2, T3⟩)
      clear o3 t3 b3 hz htk hlk hws hnew3 hon hoi T3 hrow2 hnews tC tB b0 b1 b2 e0 e1 e2
      obtain ⟨ao, co, rfl, _⟩ := owns_form HF.out.2.1.row
      have hwj : IntKind.i64.wrap ((j : Int) + 1) = (j : Int) + 1 := by rw [IntKind.wrap_i64] <;> omega
      try simp only [Act.put]
      go_wp2_with fail
      go_roundw
      case rel => exact ⟨j + 1, by simp, by omega, HF.out⟩
      case measure => simp [intOf]; omega
    · have hje : j = ks.length := by omega
      have hjb : ¬ (j : Int) < (ks.length : Int) := by omega
      have HNn := Lib.hid hn
      have HT := Lib.hid ht
      have HJ := Lib.hid hje
      clear hn ht hje ho hne
      go_wp2_with fail
      go_ret
      have hfin := HNn.out
      rw [HJ.out, List.take_length, HKS.out] at hfin
      exact ⟨_, rfl, hfin, HT.out⟩
end Go.Proofs.Ytpbabdoecjlifaa.S

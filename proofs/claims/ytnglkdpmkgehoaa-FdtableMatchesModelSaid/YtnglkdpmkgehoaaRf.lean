/-
  The reference table in memory; the contract of its Find.
-/
import Derived.Test.YtnglkdpmkgehoaaEs
namespace Go.Proofs.Ytnglkdpmkgehoaa
open Go.RowKit
set_option linter.unusedVariables false
set_option linter.unusedSimpArgs false

theorem info56 : (Try.prog.info? 56).map (fun i => (i.zero, i.size, i.bytes)) = some (some (.agg #[.int .i64 0, .int .i64 0, .int .i64 0, .int .i64 0]), 4, 32) := by kernel_rfl
theorem size56 : (Try.prog.info? 56).map (·.size) = some 4 := by kernel_rfl
def encF (f : Fd) : List Value := [.int .i64 f.key.1, .int .i64 f.key.2, .int .i64 f.no, .int .i64 f.st]
theorem encF_len (f : Fd) : (encF f).length = 4 := rfl
theorem encF_all (live : List Fd) : ∀ x ∈ live.map encF, x.length = 4 := by
  intro x hx
  obtain ⟨f, _, rfl⟩ := List.mem_map.1 hx
  rfl
theorem encF_one (live : List Fd) : ∀ u ∈ (live.map encF).flatten, u.oneCell' = true := by
  intro u hu
  obtain ⟨x, hx, hux⟩ := List.mem_flatten.1 hu
  obtain ⟨f, _, rfl⟩ := List.mem_map.1 hx
  simp only [encF, List.mem_cons, List.not_mem_nil, or_false] at hux
  rcases hux with rfl | rfl | rfl | rfl <;> rfl

/-- The reference table at block x: its list is v. -/
structure Rf (w : World) (x : Nat) (limit : Int) (v : Value) (live : List Fd) (total : Int) : Prop where
  hdr : w.heap[x]? = some (.cells #[.int .i64 limit, v, .int .i64 total] 46 (0, 0))
  row : w.ownsRow 0 56 4 v live.length (live.map encF).flatten
  ne : v.ownBlock ≠ some x
  few : live.length ≤ 1000
def Rf.foot (x : Nat) (v : Value) : List Nat := x :: v.ownBlock.toList
theorem Rf.touch {S : List Nat} {w w' : World} {x : Nat} {limit : Int} {v : Value} {live : List Fd} {total : Int} (h : Rf w x limit v live total) (t : Touch S w w') (hS : ∀ y ∈ Rf.foot x v, y ∉ S) : Rf w' x limit v live total :=
  ⟨t.at h.hdr (hS _ (by simp [Rf.foot])), t.owns h.row (fun g hg => hS g (by simp [Rf.foot, hg])), h.ne, h.few⟩
theorem Rf.lt {w : World} {x : Nat} {limit : Int} {v : Value} {live : List Fd} {total : Int} (h : Rf w x limit v live total) : ∀ y ∈ Rf.foot x v, y < w.heap.size := by
  intro y hy
  simp only [Rf.foot, List.mem_cons, Option.mem_toList] at hy
  rcases hy with rfl | hy
  · exact (Array.getElem?_eq_some_iff.1 h.hdr).1
  · exact (h.row.lt y hy).2
theorem Rf.cells {w : World} {x : Nat} {limit : Int} {v : Value} {live : List Fd} {total : Int} (h : Rf w x limit v live total) :
    w.cell? ⟨x, 0, none⟩ = some (.int .i64 limit) ∧ w.cell? ⟨x, 1, none⟩ = some v ∧ w.cell? ⟨x, 2, none⟩ = some (.int .i64 total) := by
  simp [World.cell?, h.hdr]
/-- Element i: where it lies, what its cells hold. -/
theorem Rf.elem {w : World} {x g c n : Nat} {limit : Int} {live : List Fd} {total : Int} (h : Rf w x limit (.slice (some ⟨g, 0, none⟩) n c) live total) {i : Nat} {f : Fd} (hi : live[i]? = some f) :
    w.rangeAt g (i * 4) (encF f) := by
  intro j u hu
  have hn : n = live.length := by
    obtain ⟨a', c', hv, _⟩ := owns_form h.row
    simp at hv
    exact hv.2.1
  subst hn
  have h1 : (live.map encF)[i]? = some (encF f) := by simp [hi]
  exact owns_cell h.row (i * 4 + j) u (flat_get (encF_all live) h1 hu)
theorem Rf.elems {w : World} {x g c n : Nat} {limit : Int} {live : List Fd} {total : Int} (h : Rf w x limit (.slice (some ⟨g, 0, none⟩) n c) live total) {i : Nat} {f : Fd} (hi : live[i]? = some f) :
    w.cell? ⟨g, i * 4, none⟩ = some (.int .i64 f.key.1) ∧ w.cell? ⟨g, i * 4 + 1, none⟩ = some (.int .i64 f.key.2) ∧ w.cell? ⟨g, i * 4 + 2, none⟩ = some (.int .i64 f.no) ∧ w.cell? ⟨g, i * 4 + 3, none⟩ = some (.int .i64 f.st) := by
  have := h.elem hi
  exact ⟨this 0 _ rfl, this 1 _ rfl, this 2 _ rfl, this 3 _ rfl⟩
theorem Rf.form {w : World} {x : Nat} {limit : Int} {v : Value} {live : List Fd} {total : Int} (h : Rf w x limit v live total) : ∃ a c, v = .slice a live.length c ∧ live.length ≤ c ∧ c ≤ 9223372036854775807 ∧ (0 < live.length → ∃ g, a = some ⟨g, 0, none⟩ ∧ g ≠ x) := by
  obtain ⟨a, c, rfl, h1, h2, h3⟩ := owns_form h.row
  refine ⟨a, c, rfl, h1, by unfold maxLen at h2; omega, fun h0 => ?_⟩
  obtain ⟨g, rfl⟩ := h3 h0
  exact ⟨g, rfl, fun e => h.ne (by simp [Value.ownBlock, e])⟩

/-- The place of an endpoint, or the length. -/
def fdIx (live : List Fd) (k : Key) : Nat := live.findIdx fun f => decide (f.key = k)
theorem fdIx_le (live : List Fd) (k : Key) : fdIx live k ≤ live.length := List.findIdx_le_length
theorem fdIx_before {live : List Fd} {k : Key} {i : Nat} {f : Fd} (hi : i < fdIx live k) (hf : live[i]? = some f) : f.key ≠ k := by
  have := List.not_of_lt_findIdx (p := fun f : Fd => decide (f.key = k)) (xs := live) hi
  obtain ⟨hl, rfl⟩ := List.getElem?_eq_some_iff.1 hf
  simpa using this
theorem fdIx_at {live : List Fd} {k : Key} {f : Fd} (hf : live[fdIx live k]? = some f) : f.key = k := by
  obtain ⟨hl, rfl⟩ := List.getElem?_eq_some_iff.1 hf
  exact of_decide_eq_true (List.findIdx_getElem (p := fun f : Fd => decide (f.key = k)) (xs := live) (w := hl))
theorem fdAt_ix (live : List Fd) (k : Key) : fdAt live k = live[fdIx live k]? := by
  unfold fdAt fdIx
  exact List.find?_eq_getElem?_findIdx ..
theorem fdAt_lt {live : List Fd} {k : Key} {f : Fd} (h : fdAt live k = some f) : fdIx live k < live.length := by
  rw [fdAt_ix] at h
  exact (List.getElem?_eq_some_iff.1 h).1
theorem fdAt_not {live : List Fd} {k : Key} (h : fdAt live k = none) : fdIx live k = live.length := by
  rw [fdAt_ix, List.getElem?_eq_none_iff] at h
  have := fdIx_le live k
  omega

set_option maxRecDepth 100000 in
set_option maxHeartbeats 1000000 in
theorem find_any (x : Nat) (limit : Int) (v : Value) (live : List Fd) (total c a : Int) (w : World) (h : Rf w x limit v live total) (hk : okK (c, a)) (hks : ∀ f ∈ live, okK f.key) :
    Calls Try.prog 30 #[.pointer (some ⟨x, 0, none⟩), .agg #[.int .i64 c, .int .i64 a]] w fun e w' => e = .returned (.int .i64 (if fdIx live (c, a) < live.length then (fdIx live (c, a) : Int) else -1)) ∧ Touch [] w w' := by
  have tA := (Touch.refl [] w).alloc (.cells #[.int .i64 c, .int .i64 a] 23)
  have bA := heap_alloc_new w (.cells #[.int .i64 c, .int .i64 a] 23)
  have hA := h.touch tA (by simp)
  have hfew := h.few
  have hle := fdIx_le live (c, a)
  generalize hW : w.alloc (.cells #[.int .i64 c, .int .i64 a] 23) = W at *
  obtain ⟨av, cv, rfl, hv1, hv2, hv3⟩ := hA.form
  have HW := Lib.hid hW
  clear h hW
  go_enter Try.func30, Try.ntmps30
  go_wp2_with fail
  rw [HW.out]
  go_loopw [5] (fun vi wr => ∃ k : Nat, k ≤ fdIx live (c, a) ∧ vi = .int .i64 k ∧ Touch [] W wr) (fun vi _ => live.length - (intOf vi).toNat)
  case atStart => exact ⟨0, by omega, rfl, Touch.refl _ _⟩
  case round =>
    obtain ⟨k, hkle, rfl, ht⟩ := hrel
    have hR := hA.touch ht (by simp)
    obtain ⟨c0, c1, c2⟩ := hR.cells
    by_cases hlt : k < live.length
    · obtain ⟨g, rfl, hg⟩ := hv3 (by omega)
      have hf : live[k]? = some live[k] := List.getElem?_eq_getElem hlt
      have hkf := hks _ (List.getElem_mem hlt)
      have hbefore : k < fdIx live (c, a) → live[k].key ≠ (c, a) := fun hq => fdIx_before hq hf
      have hat : ¬ k < fdIx live (c, a) → live[k].key = (c, a) := fun hq => by
        have e : k = fdIx live (c, a) := by omega
        exact fdIx_at (by rw [← e]; exact hf)
      generalize live[k] = f at *
      have hrg : wr.rangeAt g (k * 4) [.int .i64 f.key.1, .int .i64 f.key.2] := by
        obtain ⟨q0, q1, _, _⟩ := hR.elems hf
        intro j u hu
        match j, hu with
        | 0, hu => simp at hu; subst hu; exact q0
        | 1, hu => simp at hu; subst hu; exact q1
      have hrb : wr.rangeAt w.heap.size 0 [.int .i64 c, .int .i64 a] := by
        have := ht.at bA (by simp)
        exact range_block this
      have hR' := Lib.hid hR
      have HF := Lib.hid hf
      clear hR hf
      by_cases hq : k < fdIx live (c, a)
      · have hne := hbefore hq
        have e1 : decide (f.key.1 = c ∧ f.key.2 = a) = false := by
          simp only [decide_eq_false_iff_not]
          rintro ⟨e1, e2⟩
          exact hne (by rw [← e1, ← e2])
        have heq := fun w => eq23 f.key.1 f.key.2 c a hkf hk w
        rw [e1] at heq
        clear hbefore hat hne e1 c0 c2
        go_wp2_with fail
        refine wp_region_still_tail 9 (by kernel_rfl) (by kernel_rfl) ?_
        simp only [List.take_succ_cons, List.take_zero, List.drop_succ_cons, List.drop_zero]
        iterate 7 still_step
        refine wpStill_load_mid rfl 23 _ rfl g (k * 4) rfl _ _ hrg Try.underlying23 rfl (by rw [size23]; rfl) ?_
        refine wpStill_load_mid rfl 23 _ rfl w.heap.size 0 rfl _ _ hrb Try.underlying23 rfl (by rw [size23]; rfl) ?_
        refine wpStill_nil ?_
        change wpList _ _ _ _ _ wr.drew
        go_wp2_with (refine wpList_eql_agg rfl 23 _ _ _ rfl #[.int .i64 f.key.1, .int .i64 f.key.2] #[.int .i64 c, .int .i64 a] (by rfl) (by rfl) (by kernel_rfl) false (heq _) ?_)
        go_roundw
        case rel => exact ⟨k + 1, by omega, by go_num, ht.drew⟩
        case measure => simp [intOf]; omega
      · have e1 : decide (f.key.1 = c ∧ f.key.2 = a) = true := by
          have := hat hq
          simp [this]
        have heq := fun w => eq23 f.key.1 f.key.2 c a hkf hk w
        rw [e1] at heq
        obtain rfl : k = fdIx live (c, a) := by omega
        clear hbefore hat e1 c0 c2
        go_wp2_with fail
        refine wp_region_still_tail 9 (by kernel_rfl) (by kernel_rfl) ?_
        simp only [List.take_succ_cons, List.take_zero, List.drop_succ_cons, List.drop_zero]
        iterate 7 still_step
        refine wpStill_load_mid rfl 23 _ rfl g (fdIx live (c, a) * 4) rfl _ _ hrg Try.underlying23 rfl (by rw [size23]; rfl) ?_
        refine wpStill_load_mid rfl 23 _ rfl w.heap.size 0 rfl _ _ hrb Try.underlying23 rfl (by rw [size23]; rfl) ?_
        refine wpStill_nil ?_
        change wpList _ _ _ _ _ wr.drew
        go_wp2_with (refine wpList_eql_agg rfl 23 _ _ _ rfl #[.int .i64 f.key.1, .int .i64 f.key.2] #[.int .i64 c, .int .i64 a] (by rfl) (by rfl) (by kernel_rfl) true (heq _) ?_)
        go_ret
        exact ⟨rfl, tA.trans ht.drew (by simp)⟩
    · have hn : ¬ fdIx live (c, a) < live.length := by omega
      go_wp2_with fail
      go_ret
      exact ⟨rfl, tA.trans ht (by simp)⟩
end Go.Proofs.Ytnglkdpmkgehoaa

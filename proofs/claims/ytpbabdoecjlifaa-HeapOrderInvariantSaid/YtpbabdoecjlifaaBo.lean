/-
  someDue, reportsFirst; a heap and the reference heap side by side.
-/
import Derived.Test.YtpbabdoecjlifaaRn
import Derived.Test.YtpbabdoecjlifaaMd
namespace Go.Proofs.Ytpbabdoecjlifaa
open Go.RowKit Go.Sort
set_option linter.unusedVariables false
set_option linter.unusedSimpArgs false

def sd (n : Int) : Int := if n % 7 = 6 then n else n % 9
theorem someDue_any (n : Int) (w : World) (h0 : 0 ≤ n) (h1 : n ≤ 18446744073709551615) : Calls Try.prog 12 #[.int .u64 n] w fun e w' => e = .returned (.int .u64 (sd n)) ∧ w' = w := by
  have e1 : n.tmod 7 = n % 7 := Int.tmod_eq_emod_of_nonneg h0
  have e2 : n.tmod 9 = n % 9 := Int.tmod_eq_emod_of_nonneg h0
  have w1 : IntKind.u64.wrap (n % 7) = n % 7 := by simp [IntKind.wrap, IntKind.signed, IntKind.bits]; omega
  have w2 : IntKind.u64.wrap (n % 9) = n % 9 := by simp [IntKind.wrap, IntKind.signed, IntKind.bits]; omega
  by_cases h : n % 7 = 6
  · have hs : sd n = n := by simp [sd, h]
    rw [hs]
    have hb : (n % 7 == 6) = true := by simpa using h
    go_enter Try.func12, Try.ntmps12
    go_wp2_with fail
    go_ret
    exact ⟨rfl, by first | rfl | trivial⟩
  · have hs : sd n = n % 9 := by simp [sd, h]
    rw [hs]
    have hb : (n % 7 == 6) = false := by simpa using h
    go_enter Try.func12, Try.ntmps12
    go_wp2_with fail
    go_ret
    exact ⟨rfl, by first | rfl | trivial⟩
section
variable (x : Nat) (v : Value) (L : List Itm) (last : Int) (w : World) (k : Rh w x v L last)
include k
set_option maxRecDepth 100000 in
set_option maxHeartbeats 2000000 in
theorem reports_none (hL : L = []) : Calls Try.prog 15 #[.int .i64 0, .int .u64 0, .int .i64 0, .bool false, .pointer (some ⟨x, 0, none⟩)] w fun e w' => e = .returned (.bool true) ∧ Touch [] w w' := by
  subst hL
  have HF := Lib.hid (rfirst_any x v [] last w k)
  clear k
  go_enter Try.func15, Try.ntmps15
  go_wp2_with fail
  refine HF.out.mono ?_
  rintro e w1 ⟨at_, rfl, hf, t1⟩
  have hat : at_ = -1 := by
    rcases hf with ⟨_, e⟩ | ⟨q, y, _, hq, _⟩
    · exact e
    · simp at hq
  subst hat
  clear hf
  go_wp2_with fail
  go_ret
  exact ⟨rfl, t1⟩
set_option maxRecDepth 100000 in
set_option maxHeartbeats 2000000 in
theorem reports_some (ha : Asc L) (y : Itm) (z : Int) (hz : y.x = .int .i64 z) (hy : y ∈ L) (hm : ∀ u ∈ L, le y.key u.key) : Calls Try.prog 15 #[.int .i64 y.id, .int .u64 y.due, .int .i64 z, .bool true, .pointer (some ⟨x, 0, none⟩)] w fun e w' => e = .returned (.bool true) ∧ Touch [] w w' := by
  have HF := Lib.hid (rfirst_any x v L last w k)
  have HK := Lib.hid k
  have HA := Lib.hid ha
  have HY := Lib.hid hy
  have HM := Lib.hid hm
  clear k ha hy hm
  go_enter Try.func15, Try.ntmps15
  go_wp2_with fail
  refine HF.out.mono ?_
  rintro e w1 ⟨at_, rfl, hf, t1⟩
  have hq : ∃ q : Nat, at_ = q ∧ L[q]? = some y := by
    rcases first_le HA.out hf with ⟨h1, _⟩ | ⟨q, u, rfl, hq, hu⟩
    · have := HY.out
      rw [h1] at this
      simp at this
    · refine ⟨q, rfl, ?_⟩
      have l1 := hu y HY.out
      have l2 := HM.out u (List.mem_of_getElem? hq)
      obtain ⟨j, hj⟩ := List.mem_iff_getElem?.1 HY.out
      by_cases hjq : j = q
      · rw [← hjq]
        exact hj
      · exfalso
        refine ids_ne HA.out.nodup hj hq hjq ?_
        have : y.key.id = u.key.id := by unfold le at l1 l2; omega
        exact this
  obtain ⟨q, rfl, hq⟩ := hq
  have hql := (List.getElem?_eq_some_iff.1 hq).1
  have HK1 := Lib.hid (HK.out.touch t1 (by simp))
  obtain ⟨av, cv, rfl, hv1, hv2, hv3⟩ := HK1.out.form
  obtain ⟨g, rfl, hgx⟩ := hv3 (by omega)
  obtain ⟨c0, c1⟩ := HK1.out.cells
  obtain ⟨e0, e1, e2⟩ := HK1.out.elem hq
  rw [hz] at e2
  have hq0 : ¬ (q : Int) < 0 := by omega
  have hqb : (q : Int) < (L.length : Int) := by omega
  clear hf hv3 hq
  go_wp2_with fail
  go_ret
  exact ⟨rfl, t1⟩
end
theorem Rh.due {w : World} {x g n c : Nat} {L : List Itm} {last : Int} (k : Rh w x (.slice (some ⟨g, 0, none⟩) n c) L last) {i : Nat} {y : Itm} (hy : L[i]? = some y) (d : Int) :
    Rh (w.setCell ⟨g, i * 3 + 1, none⟩ (.int .u64 d)) x (.slice (some ⟨g, 0, none⟩) n c) (L.set i ⟨y.id, d, y.x⟩) last ∧ Touch [g] w (w.setCell ⟨g, i * 3 + 1, none⟩ (.int .u64 d)) := by
  have t := (Touch.refl [g] w).setCell (p := ⟨g, i * 3 + 1, none⟩) (by simp) (.int .u64 d)
  have hg1 : g ≠ x := fun e => k.hv (by rw [e]; rfl)
  have hn : n = L.length := by
    obtain ⟨a', c', hv, _⟩ := owns_form k.row
    simp at hv
    exact hv.2.1
  subst hn
  have hrow := owns_set k.row (i * 3 + 1) (.int .u64 d)
  rw [flatI_due L i y d hy] at hrow
  refine ⟨⟨t.at k.hdr (by simpa using Ne.symm hg1), by rw [List.length_set]; exact hrow, ?_, k.hv, by rw [List.length_set]; exact k.few⟩, t⟩
  intro z hz
  rcases List.mem_or_eq_of_mem_set hz with hz | rfl
  · exact k.one z hz
  · exact k.one y (List.mem_of_getElem? hy)
/-- The heap at h and the reference heap at x, both above w0, bear the same entries. -/
structure Both (w0 w : World) (h x : Nat) (f : List Nat) (v : Value) (L : List Itm) (last : Int) : Prop where
  bag : Bag w h f L last
  rh : Rh w x v L last
  asc : Asc L
  ap : ∀ y ∈ f, y ∉ Rh.foot x v
  hf : ∀ y ∈ f, w0.heap.size ≤ y
  hr : ∀ y ∈ Rh.foot x v, w0.heap.size ≤ y
  t : Touch [] w0 w
section
variable {w0 w w' : World} {h x : Nat} {f : List Nat} {v : Value} {L L' : List Itm} {last last' : Int}
theorem Both.touch (k : Both w0 w h x f v L last) (t : Touch [] w w') : Both w0 w' h x f v L last :=
  ⟨k.bag.touch t (by simp), k.rh.touch t (by simp), k.asc, k.ap, k.hf, k.hr, k.t.trans t (by simp)⟩
/-- The heap has moved on, the reference heap has not. -/
theorem Both.half (k : Both w0 w h x f v L last) (n : Next w h f L' last' w') : ∃ f', Bag w' h f' L' last' ∧ Rh w' x v L last ∧ (∀ y ∈ f', y ∉ Rh.foot x v) ∧ (∀ y ∈ f', w0.heap.size ≤ y) ∧ Touch [] w0 w' := by
  obtain ⟨f', hb, hf', ht'⟩ := n
  have hlt := k.rh.lt
  refine ⟨f', hb, k.rh.touch ht' (fun y hy hm => k.ap y hm hy), fun y hy hm => ?_, fun y hy => ?_, k.t.trans ht' (fun y hy => .inr (k.hf y hy))⟩
  · rcases hf' y hy with h2 | h2
    · exact k.ap y h2 hm
    · have := hlt y hm
      omega
  · rcases hf' y hy with h2 | h2
    · exact k.hf y h2
    · exact Nat.le_trans k.t.size h2
/-- Then the reference heap follows. -/
theorem Both.full {f' : List Nat} {v' : Value} (kr : ∀ y ∈ Rh.foot x v, w0.heap.size ≤ y) {w1 : World} (k : Bag w1 h f' L' last' ∧ (∀ y ∈ f', y ∉ Rh.foot x v) ∧ (∀ y ∈ f', w0.heap.size ≤ y) ∧ Touch [] w0 w1) (ha : Asc L') (n : Rh w' x v' L' last') (hv : ∀ y ∈ Rh.foot x v', y ∈ Rh.foot x v ∨ w1.heap.size ≤ y) {S : List Nat} (ht : Touch S w1 w') (hS : ∀ y ∈ S, y ∈ Rh.foot x v) : Both w0 w' h x f' v' L' last' := by
  obtain ⟨k1, k2, k3, k4⟩ := k
  have hlt := k1.lt
  refine ⟨k1.touch ht (fun y hy hm => k2 y hy (hS y hm)), n, ha, fun y hy hm => ?_, k3, fun y hy => ?_, k4.trans ht (fun y hy => .inr (kr y (hS y hy)))⟩
  · rcases hv y hm with h2 | h2
    · exact k2 y hy h2
    · have := hlt y hy
      omega
  · rcases hv y hy with h2 | h2
    · exact kr y h2
    · exact Nat.le_trans k4.size h2
end
end Go.Proofs.Ytpbabdoecjlifaa

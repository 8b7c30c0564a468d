/-
  The walk of InterleaveKeepsOrder: true at every list, count and family. No condition.
-/
import Derived.Test.YtdpjfhogkllajaaAw
import Derived.Test.YtdpjfhogkllajaaAr
namespace Go.Proofs.Ytdpjfhogkllajaa.interleaveKeepsOrder
open Go.RowKit Go.Deep
set_option linter.unusedVariables false
set_option linter.unusedSimpArgs false

set_option maxRecDepth 100000 in
set_option maxHeartbeats 2000000 in
theorem walk0 (v : Value) (b : Nat) (first : Int) (v6 : Bool) (xs : List (List Value)) (w : World) (hv : Rd w 17 b v xs) (hxs : ∀ x ∈ xs, IsAd x) :
    Calls Try.prog 4 #[v, .int .i64 first, .bool v6] w fun e w' => e = .returned (.bool true) ∧ Touch [] w w' := by
  go_enter Try.func4, Try.ntmps4
  go_wp2_with fail
  refine (someAddrs_any v b 30 xs _ (by omega) hv hxs).mono ?_
  rintro e w1 ⟨vx, ys, rfl, hys, hyl, ho, t1⟩
  obtain ⟨bx, d1, _⟩ := ho.rd hys
  have hyl2 : ys.length ≤ 100 := by omega
  clear ho hxs hv
  go_wp2_with fail
  refine (inter13 _ bx first v6 ys _ hyl2 d1 hys).mono ?_
  rintro e w2 ⟨v2, rfl, o2, t2⟩
  have d2 := d1.touch t2 (by simp)
  obtain ⟨b2, e2, _⟩ := o2.rd (inter_mem first v6 hys)
  have hil : (inter ys first v6).length ≤ 100 := by rw [inter_len]; omega
  go_wp2_with fail
  refine (split9 _ b2 _ _ hil e2 (inter_mem first v6 hys)).mono ?_
  rintro e w3 ⟨va, vb, rfl, hoa, hob, _, t3⟩
  have d3 := d2.touch t3 (by simp)
  have e3 := e2.touch t3 (by simp)
  rw [fam_inter] at hoa hob
  go_wp2_with fail
  refine (split9 _ bx ys _ hyl2 d3 hys).mono ?_
  rintro e w4 ⟨vc, vd, rfl, hoc, hod, _, t4⟩
  obtain ⟨ba, da, _⟩ := (hoa.touch t4 (by simp)).rd (fam_mem hys)
  obtain ⟨bb, db, _⟩ := (hob.touch t4 (by simp)).rd (fam_mem hys)
  obtain ⟨bc, dc, _⟩ := hoc.rd (fam_mem hys)
  obtain ⟨bd, dd, _⟩ := hod.rd (fam_mem hys)
  have T4 := ((t1.trans t2 (by simp)).trans t3 (by simp)).trans t4 (by simp)
  have f2 := e2.form
  rw [inter_len] at f2
  obtain ⟨a2, c2, rfl, _⟩ := f2
  obtain ⟨ax, cx, rfl, _⟩ := d1.form
  have fl : ∀ b, (fam b ys).length ≤ 1000 := fun b => by have := fam_le b ys; omega
  clear hoa hob hoc hod t1 t2 t3 t4 d1 d2 d3 e2 e3 o2 hil hyl hyl2
  go_wp2_with fail
  refine (awake_ok _).mono ?_
  rintro e w5 ⟨rfl, t5⟩
  go_wp2_with fail
  refine (equal_self _ _ ba bc _ _ (fl _) (da.touch t5 (by simp)) (dc.touch t5 (by simp)) (fam_mem hys)).mono ?_
  rintro e w6 ⟨rfl, t6⟩
  have U := t5.trans t6 (by simp)
  go_wp2_with fail
  refine (equal_self _ _ bb bd _ _ (fl _) (db.touch U (by simp)) (dd.touch U (by simp)) (fam_mem hys)).mono ?_
  rintro e w7 ⟨rfl, t7⟩
  go_wp2_with fail
  go_ret
  exact ⟨rfl, (T4.trans U (by simp)).trans t7 (by simp)⟩

theorem walk {H : Type} {enc : TypeId × Value → H} {w : World} (v : Value) (hv : IsSlice enc Try.prog w 0 (fun _ => true) true [4, 5, 5, 5, 5, 5, 5, 5, 5, 5, 5, 5, 5, 5, 5, 5, 5] v) (n : Int) (hn : (Lit.int .i64 n).wf = true) (v6 : Bool) :
    Calls Try.prog 4 #[v, .int .i64 n, .bool v6] w fun e w' => e = .returned (.bool true) ∧ Below w.heap.size w w' := by
  obtain ⟨b, xs, hr, hx⟩ := slice_rows (by simp) hv
  exact (walk0 v b n v6 xs w hr (fun x h => isAd_cells (hx x h))).mono fun e w' ⟨h1, h2⟩ => ⟨h1, h2.below (by simp) (Nat.le_refl _)⟩
end Go.Proofs.Ytdpjfhogkllajaa.interleaveKeepsOrder

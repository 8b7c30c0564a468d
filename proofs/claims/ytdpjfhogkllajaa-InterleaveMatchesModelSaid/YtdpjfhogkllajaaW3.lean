/-
  The walk of InterleaveMatchesModel: true at every list, count and family. No condition.
-/
import Derived.Test.YtdpjfhogkllajaaAw
import Derived.Test.YtdpjfhogkllajaaAr
namespace Go.Proofs.Ytdpjfhogkllajaa.interleaveMatchesModel
open Go.RowKit Go.Deep
set_option linter.unusedVariables false
set_option linter.unusedSimpArgs false

set_option maxRecDepth 100000 in
set_option maxHeartbeats 2000000 in
theorem walk0 (v : Value) (b : Nat) (first : Int) (v6 : Bool) (xs : List (List Value)) (w : World) (hv : Rd w 17 b v xs) (hxs : ∀ x ∈ xs, IsAd x) :
    Calls Try.prog 3 #[v, .int .i64 first, .bool v6] w fun e w' => e = .returned (.bool true) ∧ Touch [] w w' := by
  have hg0 := gmod_lo first 12 (by omega)
  have hg1 := gmod_hi first 12 (by omega)
  go_enter Try.func3, Try.ntmps3
  go_wp2_with fail
  refine (someAddrs_any v b 24 xs _ (by omega) hv hxs).mono ?_
  rintro e w1 ⟨vx, ys, rfl, hys, hyl, ho, t1⟩
  obtain ⟨bx, d1, _⟩ := ho.rd hys
  have hyl2 : ys.length ≤ 100 := by omega
  clear ho hxs hv
  go_wp2_with fail
  refine (split8 _ bx ys _ hyl2 d1 hys).mono ?_
  rintro e w2 ⟨va, vb, rfl, hoa, hob, _, t2⟩
  have d2 := d1.touch t2 (by simp)
  go_wp2_with fail
  refine (split9 _ bx ys _ hyl2 d2 hys).mono ?_
  rintro e w3 ⟨vc, vd, rfl, hoc, hod, _, t3⟩
  have d3 := d2.touch t3 (by simp)
  obtain ⟨ba, da, _⟩ := (hoa.touch t3 (by simp)).rd (fam_mem hys)
  obtain ⟨bb, db, _⟩ := (hob.touch t3 (by simp)).rd (fam_mem hys)
  obtain ⟨bc, dc, _⟩ := hoc.rd (fam_mem hys)
  obtain ⟨bd, dd, _⟩ := hod.rd (fam_mem hys)
  have T3 := (t1.trans t2 (by simp)).trans t3 (by simp)
  clear hoa hob hoc hod t1 t2 t3 d1 d2
  go_wp2_with fail
  refine (mod_any _ _ _ (by omega) (by omega)).mono ?_
  rintro e w' ⟨rfl, rfl⟩
  generalize gmod first 12 = g at *
  go_wp2_with fail
  refine (awake_ok _).mono ?_
  rintro e w4 ⟨rfl, t4⟩
  have d4 := d3.touch t4 (by simp)
  have T4 := T3.trans t4 (by simp)
  go_wp2_with fail
  refine (inter13 _ bx first v6 ys _ hyl2 d4 hys).mono ?_
  rintro e w5 ⟨v5, rfl, o5, t5⟩
  have d5 := d4.touch t5 (by simp)
  go_wp2_with fail
  refine (inter14 _ bx first v6 ys _ hyl2 d5 hys).mono ?_
  rintro e w6 ⟨u6, rfl, o6, t6⟩
  have d6 := d5.touch t6 (by simp)
  obtain ⟨b5, e5, _⟩ := (o5.touch t6 (by simp)).rd (inter_mem first v6 hys)
  obtain ⟨b6, e6, _⟩ := o6.rd (inter_mem first v6 hys)
  have hil : ∀ k, (inter ys k v6).length ≤ 1000 := by intro k; rw [inter_len]; omega
  have T6 := (T4.trans t5 (by simp)).trans t6 (by simp)
  clear o5 o6 d5 d4
  go_wp2_with fail
  refine (equal_self _ _ b5 b6 _ _ (hil _) e5 e6 (inter_mem first v6 hys)).mono ?_
  rintro e w7 ⟨rfl, t7⟩
  have d7 := d6.touch t7 (by simp)
  go_wp2_with fail
  refine (inter13 _ bx _ v6 ys _ hyl2 d7 hys).mono ?_
  rintro e w8 ⟨v8, rfl, o8, t8⟩
  have d8 := d7.touch t8 (by simp)
  go_wp2_with fail
  refine (inter14 _ bx _ v6 ys _ hyl2 d8 hys).mono ?_
  rintro e w9 ⟨u9, rfl, o9, t9⟩
  obtain ⟨b8, e8, _⟩ := (o8.touch t9 (by simp)).rd (inter_mem _ v6 hys)
  obtain ⟨b9, e9, _⟩ := o9.rd (inter_mem _ v6 hys)
  clear o8 o9 d8 d7 d6
  go_wp2_with fail
  refine (equal_self _ _ b8 b9 _ _ (hil _) e8 e9 (inter_mem _ v6 hys)).mono ?_
  rintro e w10 ⟨rfl, t10⟩
  have U := (((((t4.trans t5 (by simp)).trans t6 (by simp)).trans t7 (by simp)).trans t8 (by simp)).trans t9 (by simp)).trans t10 (by simp)
  have fl : ∀ b, (fam b ys).length ≤ 1000 := fun b => by have := fam_le b ys; omega
  clear t4 t5 t6 t7 t8 t9 t10 e8 e9 e5 e6 hil T4 T6
  go_wp2_with fail
  refine (equal_self _ _ ba bc _ _ (fl _) (da.touch U (by simp)) (dc.touch U (by simp)) (fam_mem hys)).mono ?_
  rintro e w11 ⟨rfl, t11⟩
  have U2 := U.trans t11 (by simp)
  go_wp2_with fail
  refine (equal_self _ _ bb bd _ _ (fl _) (db.touch U2 (by simp)) (dd.touch U2 (by simp)) (fam_mem hys)).mono ?_
  rintro e w12 ⟨rfl, t12⟩
  go_wp2_with fail
  go_ret
  exact ⟨rfl, (T3.trans U2 (by simp)).trans t12 (by simp)⟩

theorem walk {H : Type} {enc : TypeId × Value → H} {w : World} (v : Value) (hv : IsSlice enc Try.prog w 0 (fun _ => true) true [4, 5, 5, 5, 5, 5, 5, 5, 5, 5, 5, 5, 5, 5, 5, 5, 5] v) (n : Int) (hn : (Lit.int .i64 n).wf = true) (v6 : Bool) :
    Calls Try.prog 3 #[v, .int .i64 n, .bool v6] w fun e w' => e = .returned (.bool true) ∧ Below w.heap.size w w' := by
  obtain ⟨b, xs, hr, hx⟩ := slice_rows (by simp) hv
  exact (walk0 v b n v6 xs w hr (fun x h => isAd_cells (hx x h))).mono fun e w' ⟨h1, h2⟩ => ⟨h1, h2.below (by simp) (Nat.le_refl _)⟩
end Go.Proofs.Ytdpjfhogkllajaa.interleaveMatchesModel

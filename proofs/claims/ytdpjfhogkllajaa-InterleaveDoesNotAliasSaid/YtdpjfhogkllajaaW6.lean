/-
  The walk of InterleaveDoesNotAlias: true at every list, count and family. No condition.
-/
import Derived.Test.YtdpjfhogkllajaaHp
namespace Go.Proofs.Ytdpjfhogkllajaa.interleaveDoesNotAlias
open Go.RowKit Go.Deep
set_option linter.unusedVariables false
set_option linter.unusedSimpArgs false

set_option maxRecDepth 100000 in
set_option maxHeartbeats 2000000 in
theorem walk0 (v : Value) (b : Nat) (first : Int) (v6 : Bool) (xs : List (List Value)) (w : World) (hv : Rd w 17 b v xs) (hxs : ∀ x ∈ xs, IsAd x) :
    Calls Try.prog 6 #[v, .int .i64 first, .bool v6] w fun e w' => e = .returned (.bool true) ∧ Touch [] w w' := by
  have hf : IsAd (adr true [0, 0, 0, 0, 0, 0, 0, 0, 0, 0, 0, 0, 0, 0, 0, 0]) := ⟨_, _, rfl, rfl, by simp⟩
  go_enter Try.func6, Try.ntmps6
  go_wp2_with fail
  refine (someAddrs_any v b 16 xs _ (by omega) hv hxs).mono ?_
  rintro e w1 ⟨vx, ys, rfl, hys, hyl, ho, t1⟩
  obtain ⟨bx, d1, hb1⟩ := ho.rd hys
  have hyl2 : ys.length ≤ 100 := by omega
  clear hxs hv hb1
  go_wp2_with fail
  refine (spare_any _ bx ys (adr true [0, 0, 0, 0, 0, 0, 0, 0, 0, 0, 0, 0, 0, 0, 0, 0]) _ hyl2 d1 hys hf).mono ?_
  rintro e w2 ⟨g, rfl, hg, dg, t2⟩
  have d2 := d1.touch t2 (by simp)
  have dt : Rd w2 17 g (.slice (some ⟨g, 0, none⟩) ys.length (ys.length + 3)) ys := by
    have := dg.take ys.length (by simp)
    rw [List.take_left' rfl] at this
    exact this
  clear d1 ho
  go_wp2_with fail
  refine (inter13 _ g first v6 ys _ hyl2 dt hys).mono ?_
  rintro e w3 ⟨v3, rfl, o3, t3⟩
  go_wp2_with fail
  refine (over_any v3 _ w2 _ o3 (by rw [inter_len]; omega)).mono ?_
  rintro e w4 ⟨rfl, t4⟩
  have T4 : Touch [] w2 w4 := t3.trans t4 (fun x hx => .inr (o3.new x (by simpa using hx)))
  have dt4 := dt.touch T4 (by simp)
  clear o3 t3 t4
  go_wp2_with fail
  refine (split8 _ g ys _ hyl2 dt4 hys).mono ?_
  rintro e w5 ⟨va, vb, rfl, hoa, hob, hab, t5⟩
  go_wp2_with fail
  refine (over_any va _ w4 _ hoa (by have := fam_le false ys; omega)).mono ?_
  rintro e w6 ⟨rfl, t6⟩
  have hob6 := hob.touch t6 (by intro q hq hm; exact hab q (by simpa using hm) hq)
  go_wp2_with fail
  refine (over_any vb _ w4 _ hob6 (by have := fam_le true ys; omega)).mono ?_
  rintro e w7 ⟨rfl, t7⟩
  have T7 : Touch [] w4 w7 := (t5.trans t6 (fun x hx => .inr (hoa.new x (by simpa using hx)))).trans t7 (fun x hx => .inr (hob.new x (by simpa using hx)))
  have U := T4.trans T7 (by simp)
  clear hoa hob hob6 hab t5 t6 t7 T4 T7 dt4 dt
  go_wp2_with fail
  refine (awake_ok _).mono ?_
  rintro e w8 ⟨rfl, t8⟩
  have V := U.trans t8 (by simp)
  go_wp2_with fail
  refine (unchanged_any g bx _ ys (adr true [0, 0, 0, 0, 0, 0, 0, 0, 0, 0, 0, 0, 0, 0, 0, 0]) _ hyl2 (dg.touch V (by simp)) (d2.touch V (by simp)) hys hf).mono ?_
  rintro e w9 ⟨rfl, t9⟩
  go_wp2_with fail
  go_ret
  exact ⟨rfl, ((t1.trans t2 (by simp)).trans V (by simp)).trans t9 (by simp)⟩

theorem walk {H : Type} {enc : TypeId × Value → H} {w : World} (v : Value) (hv : IsSlice enc Try.prog w 0 (fun _ => true) true [4, 5, 5, 5, 5, 5, 5, 5, 5, 5, 5, 5, 5, 5, 5, 5, 5] v) (n : Int) (hn : (Lit.int .i64 n).wf = true) (v6 : Bool) :
    Calls Try.prog 6 #[v, .int .i64 n, .bool v6] w fun e w' => e = .returned (.bool true) ∧ Below w.heap.size w w' := by
  obtain ⟨b, xs, hr, hx⟩ := slice_rows (by simp) hv
  exact (walk0 v b n v6 xs w hr (fun x h => isAd_cells (hx x h))).mono fun e w' ⟨h1, h2⟩ => ⟨h1, h2.below (by simp) (Nat.le_refl _)⟩
end Go.Proofs.Ytdpjfhogkllajaa.interleaveDoesNotAlias

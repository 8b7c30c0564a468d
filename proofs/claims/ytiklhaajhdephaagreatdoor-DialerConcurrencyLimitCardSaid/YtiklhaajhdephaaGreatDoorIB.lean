/-
  Merged texts: Rxr, Rxc, Rxd, Rxn.
-/
import Derived.Test.YtiklhaajhdephaaGreatDoorIA
import Derived.Test.YtiklhaajhdephaaGreatDoorHB
import Derived.Test.YtiklhaajhdephaaGreatDoorHC

/-
 The reference pair's DelayDeadline and Ready; the reference dialer's recordReason and IsActive.
-/
namespace Go.Proofs.YtiklhaajhdephaaGreatDoor
open Go.RowKit
set_option linter.unusedVariables false
set_option linter.unusedSimpArgs false

/-- What an unanswered query holds. -/
structure PS.Fit (p : PS) : Prop where
 f4 : p.q4.a = false → p.q4.l = []
 f6 : p.q6.a = false → p.q6.l = []
theorem PS.Fit.four {p : PS} (f : p.Fit) (h : p.q4.l ≠ []) : p.q4.a = true := by
 cases e : p.q4.a with
 | true => rfl
 | false => exact absurd (f.f4 e) h
set_option maxRecDepth 100000 in
set_option maxHeartbeats 2000000 in
theorem rdl_no (w0 w : World) (h : Nat) (b : RV) (s : DS) (T : List Ad) (d : Rdl w0 w h b s T) (hr : s.p.dl = none) :
  Calls Tryz.prog 81 #[.pointer (some ⟨h, 6, none⟩)] w fun e w' => e = .returned (.tuple #[.int .u64 0, .bool false]) ∧ w = w' := by
 have c8 := d.at 8 _ rfl
 have c9 := d.at 9 _ rfl
 have c12 := d.at 12 _ rfl
 obtain ⟨a4, k4, hv4, _, _, _⟩ := d.ov4.form
 rw [hv4] at c12
 unfold PS.dl at hr
 have hc : s.p.q6.a = true ∨ s.p.q4.l = [] := by
  by_cases hc : s.p.q6.a = true ∨ s.p.q4.l = []
  ·exact hc
  ·rw [if_neg hc] at hr; cases hr
 clear hr d hv4
 cases h4 : s.p.q4.a with
 | false =>
  rw [h4] at c8
  clear h4 hc
  generalize s.p.q4.l.length = n4 at *
  go_enter Tryz.func81, Tryz.ntmps81
  go_wp2_with fail
  go_ret2
  exact ⟨rfl, rfl⟩
 | true =>
  rw [h4] at c8
  clear h4
  cases h6 : s.p.q6.a with
  | true =>
   rw [h6] at c9
   clear h6 hc
   generalize s.p.q4.l.length = n4 at *
   go_enter Tryz.func81, Tryz.ntmps81
   go_wp2_with fail
   go_ret2
   exact ⟨rfl, rfl⟩
  | false =>
   have hl : s.p.q4.l.length = 0 := by
    rcases hc with hc | hc
    ·rw [h6] at hc; cases hc
    ·rw [hc]; rfl
   rw [h6] at c9
   rw [hl] at c12
   clear h6 hc hl
   go_enter Tryz.func81, Tryz.ntmps81
   go_wp2_with fail
   go_ret2
   exact ⟨rfl, rfl⟩
set_option maxRecDepth 100000 in
set_option maxHeartbeats 2000000 in
theorem rdl_yes (w0 w : World) (h : Nat) (b : RV) (s : DS) (T : List Ad) (dd : Rdl w0 w h b s T) (hf : s.p.Fit) (d : Int) (hr : s.p.dl = some d) :
  Calls Tryz.prog 81 #[.pointer (some ⟨h, 6, none⟩)] w fun e w' => e = .returned (.tuple #[.int .u64 d, .bool true]) ∧ Touch [] w w' := by
 have c6 := dd.at 6 _ rfl
 have c8 := dd.at 8 _ rfl
 have c9 := dd.at 9 _ rfl
 have c10 := dd.at 10 _ rfl
 have c12 := dd.at 12 _ rfl
 obtain ⟨a4, k4, hv4, _, _, _⟩ := dd.ov4.form
 rw [hv4] at c12
 have HD := Lib.hid dd.d
 have HE := Lib.hid dd.e4
 unfold PS.dl at hr
 by_cases hc : s.p.q6.a = true ∨ s.p.q4.l = []
 ·rw [if_pos hc] at hr; cases hr
 ·rw [if_neg hc] at hr
  cases hr
  obtain ⟨h6, h4⟩ := not_or.1 hc
  have h6 : s.p.q6.a = false := by simpa using h6
  have h40 : 0 < s.p.q4.l.length := List.length_pos_iff.2 h4
  rw [hf.four h4] at c8
  rw [h6] at c9
  generalize s.p.q4.l.length = n4 at *
  have h41 : ((n4 : Int) == 0) = false := by simp; omega
  clear h6 h4 hc h40 hf dd hv4
  go_enter Tryz.func81, Tryz.ntmps81
  go_wp2_with fail
  clear c8 c9 c12
  refine wp_region_held (S := Touch [] w.drew) (by kernel_rfl) ?_
  change wpAnyH _ _ _ _ _ _ _ _ w.drew
  have tD := (Touch.refl [] w).drew
  have c6 := tD.cell c6 (by simp)
  have c10 := tD.cell c10 (by simp)
  have HTD := Lib.hid tD
  generalize w.drew = W at *
  clear tD
  have hS := Touch.refl [] W
  refine tkH 0 (.pointer (some ⟨h, 6, none⟩)) ?_
  refine tkH 1 (.pointer (some ⟨h, 6, none⟩)) ?_
  refine tkH 2 (.pointer (some ⟨h, 10, none⟩)) ?_
  refine tkH 3 (.pointer (some ⟨h, 10, none⟩)) ?_
  refine tkH 4 (.int .u64 s.p.q4.t) ?_ (hy := Or.inl ⟨by rfl, fun w' hw => by (have q := hw.cell c10 (by simp); go_simp)⟩)
  refine tkH 5 (.pointer (some ⟨h, 6, none⟩)) ?_
  refine tkH 6 (.pointer (some ⟨h, 6, none⟩)) ?_
  refine tkH 7 (.pointer (some ⟨h, 6, none⟩)) ?_
  refine tkH 8 (.int .u64 s.p.delay) ?_ (hy := Or.inl ⟨by rfl, fun w' hw => by (have q := hw.cell c6 (by simp); go_simp)⟩)
  refine wpAnyH_ready (rs := [9]) (by kernel_rfl) (by simp) ?_
  refine cnH rfl (fun K hK => ?_) AllReadyH.nil
  go_simp
  refine (radd01 s.p.q4.t s.p.delay _ HE.out HD.out).mono ?_
  rintro e _ ⟨rfl, rfl⟩
  refine hK.out _ _ hS (fun _ => ?_)
  clear hK K
  try simp only [Act.put, sT, s0, sS]
  refine tkH 10 (.int .u64 (addT s.p.q4.t s.p.delay)) ?_
  refine tkH 11 (.bool true) ?_
  refine wpAnyH_done (by kernel_rfl) ?_ _
  try simp only [Act.put, sT, s0, sS]
  have HTZ := Lib.hid (HTD.out.trans hS (by simp))
  clear hS
  go_wp2_with fail
  go_ret2
  exact ⟨rfl, HTZ.out⟩
set_option maxRecDepth 100000 in
set_option maxHeartbeats 4000000 in
theorem rready_any (w0 w : World) (h : Nat) (b : RV) (s : DS) (T : List Ad) (d : Rdl w0 w h b s T) (hf : s.p.Fit) (now : Int) (r : Bool) (hr : s.p.ready now = r) :
  Calls Tryz.prog 77 #[.pointer (some ⟨h, 6, none⟩), .int .u64 now] w fun e w' => e = .returned (.bool r) ∧ Touch [] w w' := by
 have c9 := d.at 9 _ rfl
 have c13 := d.at 13 _ rfl
 obtain ⟨a6, k6, hv6, _, _, _⟩ := d.ov6.form
 rw [hv6] at c13
 have HQ := Lib.hid d
 obtain ⟨n6, hn6⟩ : ∃ n, n = s.p.q6.l.length := ⟨_, rfl⟩
 rw [← hn6] at c13
 have f6 : decide (s.p.q6.l ≠ []) = decide (0 < n6) := by rw [hn6]; cases s.p.q6.l <;> simp
 have HF := Lib.hid hf
 have HC := Lib.hid (show s.p.complete = (s.p.q4.a && s.p.q6.a) from rfl)
 unfold PS.ready at hr
 rw [f6] at hr
 clear d hv6
 cases hdl : s.p.dl with
 | none =>
  have HDL := Lib.hid (rdl_no w0 w h b s T HQ.out hdl)
  have hx : (s.p.complete || (decide (0 < n6) || false)) = r := by
   rw [← hr]
   have e : s.p.complete = true ∨ (decide (s.p.q4.l ≠ []) && decide (addT s.p.q4.t s.p.delay ≤ now)) = false := by
    unfold PS.dl at hdl
    by_cases hc : s.p.q6.a = true ∨ s.p.q4.l = []
    ·rcases hc with hc | hc
     ·by_cases h4 : s.p.q4.l = []
      ·exact .inr (by simp [h4])
      ·exact .inl (by rw [HC.out, HF.out.four h4, hc]; rfl)
     ·exact .inr (by simp [hc])
    ·rw [if_neg hc] at hdl; cases hdl
   rcases e with e | e
   ·rw [e]; rfl
   ·rw [e]
  clear hr hdl f6
  cases hco : s.p.complete with
  | true =>
   have HCO := Lib.hid (rcomplete_any w0 w h b s T HQ.out true hco)
   have HR := Lib.hid (show r = true by rw [← hx, hco]; rfl)
   clear hco hx hn6
   go_enter Tryz.func77, Tryz.ntmps77
   go_wp2_with fail
   refine HDL.out.mono ?_
   rintro e _ ⟨rfl, rfl⟩
   go_wp2_with fail
   refine HCO.out.mono ?_
   rintro e _ ⟨rfl, rfl⟩
   go_wp2_with fail
   go_ret
   exact ⟨by rw [HR.out]; rfl, Touch.refl _ _⟩
  | false =>
   have HCO := Lib.hid (rcomplete_any w0 w h b s T HQ.out false hco)
   cases h6 : s.p.q6.a with
   | true =>
    rw [h6] at c9
    have HR := Lib.hid (show r = decide (0 < n6) by rw [← hx, hco]; simp)
    clear hco hx h6 hn6
    by_cases h0 : 0 < n6
    ·have HR2 := Lib.hid (show r = true by rw [HR.out]; simpa using h0)
     have h1 : (0 : Int) < (n6 : Int) := by omega
     clear h0
     go_enter Tryz.func77, Tryz.ntmps77
     go_wp2_with fail
     refine HDL.out.mono ?_
     rintro e _ ⟨rfl, rfl⟩
     go_wp2_with fail
     refine HCO.out.mono ?_
     rintro e _ ⟨rfl, rfl⟩
     go_wp2_with fail
     go_ret
     exact ⟨by rw [HR2.out]; rfl, Touch.refl _ _⟩
    ·have HR2 := Lib.hid (show r = false by rw [HR.out]; simpa using h0)
     have h1 : (n6 : Int) ≤ 0 := by omega
     clear h0
     go_enter Tryz.func77, Tryz.ntmps77
     go_wp2_with fail
     refine HDL.out.mono ?_
     rintro e _ ⟨rfl, rfl⟩
     go_wp2_with fail
     refine HCO.out.mono ?_
     rintro e _ ⟨rfl, rfl⟩
     go_wp2_with fail
     go_ret
     exact ⟨by rw [HR2.out]; rfl, Touch.refl _ _⟩
   | false =>
    rw [h6] at c9
    have HR := Lib.hid (show r = false by rw [← hx, hco, hn6, HF.out.f6 h6]; rfl)
    clear hco hx h6 hn6
    go_enter Tryz.func77, Tryz.ntmps77
    go_wp2_with fail
    refine HDL.out.mono ?_
    rintro e _ ⟨rfl, rfl⟩
    go_wp2_with fail
    refine HCO.out.mono ?_
    rintro e _ ⟨rfl, rfl⟩
    go_wp2_with fail
    go_ret
    exact ⟨by rw [HR.out]; rfl, Touch.refl _ _⟩
 | some u =>
  have HDL := Lib.hid (rdl_yes w0 w h b s T HQ.out hf u hdl)
  have hu : s.p.q6.a = false ∧ s.p.q4.l ≠ [] ∧ addT s.p.q4.t s.p.delay = u := by
   unfold PS.dl at hdl
   by_cases hc : s.p.q6.a = true ∨ s.p.q4.l = []
   ·rw [if_pos hc] at hdl; cases hdl
   ·rw [if_neg hc] at hdl; cases hdl
    obtain ⟨h6, h4⟩ := not_or.1 hc
    exact ⟨by simpa using h6, h4, rfl⟩
  have HR := Lib.hid (show r = decide (u ≤ now) by
   rw [← hr, HC.out, hu.1, hn6, HF.out.f6 hu.1, hu.2.2]
   simp [hu.2.1])
  rw [hu.1] at c9
  have hco : s.p.complete = false := by rw [HC.out, hu.1]; simp
  clear hr hdl f6 hn6 hu
  by_cases hun : u ≤ now
  ·have HR2 := Lib.hid (show r = true by rw [HR.out]; simpa using hun)
   go_enter Tryz.func77, Tryz.ntmps77
   go_wp2_with fail
   refine HDL.out.mono ?_
   rintro e w1 ⟨rfl, t1⟩
   have HT1 := Lib.hid t1
   have HCO := Lib.hid (rcomplete_any w0 w1 h b s T (HQ.out.touch0 t1) false hco)
   have d9 := t1.cell c9 (by simp)
   clear t1 c9 c13 hco
   go_wp2_with fail
   refine HCO.out.mono ?_
   rintro e _ ⟨rfl, rfl⟩
   go_wp2_with fail
   go_ret
   exact ⟨by rw [HR2.out]; rfl, HT1.out⟩
  ·have HR2 := Lib.hid (show r = false by rw [HR.out]; simpa using hun)
   have hun2 : decide (u ≤ now) = false := by simpa using hun
   clear hun
   go_enter Tryz.func77, Tryz.ntmps77
   go_wp2_with fail
   refine HDL.out.mono ?_
   rintro e w1 ⟨rfl, t1⟩
   have HT1 := Lib.hid t1
   have HCO := Lib.hid (rcomplete_any w0 w1 h b s T (HQ.out.touch0 t1) false hco)
   have d9 := t1.cell c9 (by simp)
   clear t1 c9 c13 hco
   go_wp2_with fail
   refine HCO.out.mono ?_
   rintro e _ ⟨rfl, rfl⟩
   go_wp2_with fail
   go_ret
   exact ⟨by rw [HR2.out]; rfl, HT1.out⟩
set_option maxRecDepth 100000 in
set_option maxHeartbeats 2000000 in
theorem rrec_any (w0 w : World) (h : Nat) (b : RV) (s : DS) (T : List Ad) (d : Rdl w0 w h b s T) (hz : w0.heap.size ≤ w.heap.size) (hl : s.rs.length ≤ 1000000) (x : Int) :
  Calls Tryz.prog 64 #[.pointer (some ⟨h, 0, none⟩), .int .i64 x] w fun e w' => e = .returned (.tuple #[]) ∧ ∃ b', Rdl w0 w' h b' { s with rs := s.rs ++ [whyN x] } T ∧ RStep w w' h b b' := by
 have c20 := d.at 20 _ rfl
 obtain ⟨aR, kR, hvr, _, _, _⟩ := d.ovr.form
 have HD := Lib.hid d
 have HVR := Lib.hid hvr
 have HZ := Lib.hid hz
 have HL := Lib.hid hl
 rw [hvr] at c20
 have HO := Lib.hid (show OwnK w0 w (.slice aR s.rs.length kR) s.rs by rw [← hvr]; exact d.ovr)
 obtain ⟨k, hk⟩ : ∃ k, k = whyN x := ⟨_, rfl⟩
 have HK := Lib.hid hk
 rw [← hk]
 obtain ⟨n, hn⟩ : ∃ n, n = s.rs.length := ⟨_, rfl⟩
 have HNN := Lib.hid hn
 rw [← hn] at c20 HO HVR
 clear d hvr hk hz hl hn
 by_cases h1 : x < 1
 ·have HX := Lib.hid (show k = 4 by rw [HK.out]; unfold whyN; rw [if_neg (by unfold isWhy; simp; omega)])
  have HB := Lib.hid (show (w.alloc (.cells #[.int .i64 4] 3)).cell? ⟨w.heap.size, 0, none⟩ = some (.int .i64 (k : Int)) by rw [cell_of_row _ _ _ _ _ _ (heap_alloc_new w _)]; rw [HX.out]; rfl)
  go_enter Tryz.func64, Tryz.ntmps64
  have HTB := Lib.hid ((Touch.refl [] w).alloc (.cells #[.int .i64 4] 3))
  have HOB := Lib.hid (HO.out.touch HTB.out (by simp))
  go_wp2_with (at_builtin; refine wpList_app_k w0 (w.alloc (.cells #[.int .i64 4] 3)) (by rfl) _ _ (by rfl) _ s.rs (by rfl) HOB.out (by have := HZ.out; simp; omega) w.heap.size k (by rfl) HB.out (by have := HL.out; omega) ?_)
  intro v7 w7 o7 t7 h7
  obtain ⟨a7, k7, hv7, _, _, _⟩ := o7.form
  rw [List.length_append, List.length_singleton, ← HNN.out] at hv7
  subst hv7
  have T7 : Touch b.vr.ownBlock.toList w w7 := by rw [HVR.out]; exact (HTB.out.mono (by simp)).trans t7 (fun y hy => .inl hy)
  have h8 : (Value.slice a7 (n + 1) k7).ownBlock = b.vr.ownBlock ∨ ∃ k, (Value.slice a7 (n + 1) k7).ownBlock = some k ∧ w.heap.size ≤ k := by rw [HVR.out]; rcases h7 with e | e; exact .inl e; exact .inr ⟨_, e, by simp⟩
  have HSR := Lib.hid (HD.out.set_vr T7 o7 h8)
  have hhb : h ∉ b.vr.ownBlock.toList := by intro hm; exact HD.out.apart 0 7 (by decide) h (by simp [rpart]) (by simpa [rpart] using hm)
  have d20 := T7.cell c20 hhb
  have f20 : w7.frozen? ⟨h, 20, none⟩ = false := by simp [World.frozen?, T7.at HD.out.cell hhb]
  have HST := Lib.hid (show RStep w (w7.setCell ⟨h, 20, none⟩ (.slice a7 (n + 1) k7)) h b { b with vr := .slice a7 (n + 1) k7 } from RStep.own 7 HSR.out.2 (fun j hj => by match j, hj with | 0, _ => rfl | 1, _ => rfl | 2, _ => rfl | 3, _ => rfl | 4, _ => rfl | 5, _ => rfl | 6, _ => rfl | 7, hj => exact absurd rfl hj | _ + 8, _ => rfl) (own_new h8))
  clear t7 o7 h7 T7 h8 hhb c20
  go_wp2_with fail
  exact end0 rfl rfl ⟨rfl, _, HSR.out.1, HST.out⟩
 ·by_cases h7 : 7 < x
  ·have h1' : decide (x < 1) = false := by simpa using h1
   have HX := Lib.hid (show k = 4 by rw [HK.out]; unfold whyN; rw [if_neg (by unfold isWhy; simp; omega)])
   have HB := Lib.hid (show (w.alloc (.cells #[.int .i64 4] 3)).cell? ⟨w.heap.size, 0, none⟩ = some (.int .i64 (k : Int)) by rw [cell_of_row _ _ _ _ _ _ (heap_alloc_new w _)]; rw [HX.out]; rfl)
   go_enter Tryz.func64, Tryz.ntmps64
   have HTB := Lib.hid ((Touch.refl [] w).alloc (.cells #[.int .i64 4] 3))
   have HOB := Lib.hid (HO.out.touch HTB.out (by simp))
   go_wp2_with (at_builtin; refine wpList_app_k w0 (w.alloc (.cells #[.int .i64 4] 3)) (by rfl) _ _ (by rfl) _ s.rs (by rfl) HOB.out (by have := HZ.out; simp; omega) w.heap.size k (by rfl) HB.out (by have := HL.out; omega) ?_)
   intro v7 w7 o7 t7 h7
   obtain ⟨a7, k7, hv7, _, _, _⟩ := o7.form
   rw [List.length_append, List.length_singleton, ← HNN.out] at hv7
   subst hv7
   have T7 : Touch b.vr.ownBlock.toList w w7 := by rw [HVR.out]; exact (HTB.out.mono (by simp)).trans t7 (fun y hy => .inl hy)
   have h8 : (Value.slice a7 (n + 1) k7).ownBlock = b.vr.ownBlock ∨ ∃ k, (Value.slice a7 (n + 1) k7).ownBlock = some k ∧ w.heap.size ≤ k := by rw [HVR.out]; rcases h7 with e | e; exact .inl e; exact .inr ⟨_, e, by simp⟩
   have HSR := Lib.hid (HD.out.set_vr T7 o7 h8)
   have hhb : h ∉ b.vr.ownBlock.toList := by intro hm; exact HD.out.apart 0 7 (by decide) h (by simp [rpart]) (by simpa [rpart] using hm)
   have d20 := T7.cell c20 hhb
   have f20 : w7.frozen? ⟨h, 20, none⟩ = false := by simp [World.frozen?, T7.at HD.out.cell hhb]
   have HST := Lib.hid (show RStep w (w7.setCell ⟨h, 20, none⟩ (.slice a7 (n + 1) k7)) h b { b with vr := .slice a7 (n + 1) k7 } from RStep.own 7 HSR.out.2 (fun j hj => by match j, hj with | 0, _ => rfl | 1, _ => rfl | 2, _ => rfl | 3, _ => rfl | 4, _ => rfl | 5, _ => rfl | 6, _ => rfl | 7, hj => exact absurd rfl hj | _ + 8, _ => rfl) (own_new h8))
   clear t7 o7 h7 T7 h8 hhb c20
   go_wp2_with fail
   exact end0 rfl rfl ⟨rfl, _, HSR.out.1, HST.out⟩
  ·have h1' : decide (x < 1) = false := by simpa using h1
   have h7' : decide (7 < x) = false := by simpa using h7
   have HX := Lib.hid (show x = (k : Int) by rw [HK.out]; unfold whyN; rw [if_pos (by unfold isWhy; simp; omega)]; omega)
   have HB := Lib.hid (show (w.alloc (.cells #[.int .i64 x] 3)).cell? ⟨w.heap.size, 0, none⟩ = some (.int .i64 (k : Int)) by rw [cell_of_row _ _ _ _ _ _ (heap_alloc_new w _)]; rw [HX.out]; rfl)
   go_enter Tryz.func64, Tryz.ntmps64
   have HTB := Lib.hid ((Touch.refl [] w).alloc (.cells #[.int .i64 x] 3))
   have HOB := Lib.hid (HO.out.touch HTB.out (by simp))
   go_wp2_with (at_builtin; refine wpList_app_k w0 (w.alloc (.cells #[.int .i64 x] 3)) (by rfl) _ _ (by rfl) _ s.rs (by rfl) HOB.out (by have := HZ.out; simp; omega) w.heap.size k (by rfl) HB.out (by have := HL.out; omega) ?_)
   intro v7 w7 o7 t7 h7
   obtain ⟨a7, k7, hv7, _, _, _⟩ := o7.form
   rw [List.length_append, List.length_singleton, ← HNN.out] at hv7
   subst hv7
   have T7 : Touch b.vr.ownBlock.toList w w7 := by rw [HVR.out]; exact (HTB.out.mono (by simp)).trans t7 (fun y hy => .inl hy)
   have h8 : (Value.slice a7 (n + 1) k7).ownBlock = b.vr.ownBlock ∨ ∃ k, (Value.slice a7 (n + 1) k7).ownBlock = some k ∧ w.heap.size ≤ k := by rw [HVR.out]; rcases h7 with e | e; exact .inl e; exact .inr ⟨_, e, by simp⟩
   have HSR := Lib.hid (HD.out.set_vr T7 o7 h8)
   have hhb : h ∉ b.vr.ownBlock.toList := by intro hm; exact HD.out.apart 0 7 (by decide) h (by simp [rpart]) (by simpa [rpart] using hm)
   have d20 := T7.cell c20 hhb
   have f20 : w7.frozen? ⟨h, 20, none⟩ = false := by simp [World.frozen?, T7.at HD.out.cell hhb]
   have HST := Lib.hid (show RStep w (w7.setCell ⟨h, 20, none⟩ (.slice a7 (n + 1) k7)) h b { b with vr := .slice a7 (n + 1) k7 } from RStep.own 7 HSR.out.2 (fun j hj => by match j, hj with | 0, _ => rfl | 1, _ => rfl | 2, _ => rfl | 3, _ => rfl | 4, _ => rfl | 5, _ => rfl | 6, _ => rfl | 7, hj => exact absurd rfl hj | _ + 8, _ => rfl) (own_new h8))
   clear t7 o7 h7 T7 h8 hhb c20
   go_wp2_with fail
   exact end0 rfl rfl ⟨rfl, _, HSR.out.1, HST.out⟩
set_option maxHeartbeats 1000000 in
theorem ract_any (w0 w : World) (h : Nat) (b : RV) (s : DS) (T : List Ad) (d : Rdl w0 w h b s T) (x : Int) (r : Bool) (hr : s.has x = r) :
  Calls Tryz.prog 70 #[.pointer (some ⟨h, 0, none⟩), .int .i64 x] w fun e w' => e = .returned (.bool r) ∧ w = w' := by
 have c18 := d.at 18 _ rfl
 obtain ⟨a, c, hva, hc, hm, hat⟩ := d.ova.form
 rw [hva] at c18
 obtain ⟨n, hn⟩ : ∃ n, n = s.act.length := ⟨_, rfl⟩
 have HN := Lib.hid hn
 have H1 := Lib.hid (show OwnK w0 w (.slice a s.act.length c) s.act by rw [← hva]; exact d.ova)
 have HR := Lib.hid (show decide (∃ k ∈ s.act, (k : Int) = x) = r from hr)
 rw [← hn] at c18 hc hat H1
 unfold maxLen at hm
 clear hn d hva hr
 go_enter Tryz.func70, Tryz.ntmps70
 go_wp2_with fail
 go_loop [5] (fun v5 => ∃ i : Nat, i ≤ n ∧ v5 = .int .i64 i ∧ ∀ k ∈ s.act.take i, (k : Int) ≠ x) (fun v5 => n - (intOf v5).toNat)
 case atStart => exact ⟨0, by omega, rfl, by simp⟩
 case round =>
  obtain ⟨i, hin, rfl, hno⟩ := hrel
  have HNO := Lib.hid hno
  clear hno
  by_cases hlt : i < n
  ·obtain ⟨y, hy⟩ : ∃ y, s.act[i]? = some y := ⟨_, List.getElem?_eq_getElem (by rw [← HN.out]; exact hlt)⟩
   obtain ⟨g, rfl⟩ := hat (by omega)
   have hcx := H1.out.cell HN.out hy
   have HY := Lib.hid hy
   have hwi : IntKind.i64.wrap ((i : Int) + 1) = (i : Int) + 1 := by rw [IntKind.wrap_i64] <;> omega
   have hin2 : (i : Int) < (n : Int) := by omega
   clear hy
   by_cases hxy : (y : Int) = x
   ·have HT := Lib.hid (show r = true by rw [← HR.out]; simp; exact ⟨y, List.mem_of_getElem? HY.out, hxy⟩)
    subst hxy
    go_wp2_with fail
    go_ret
    exact ⟨by rw [HT.out]; rfl, rfl⟩
   ·have hb : ((y : Int) == x) = false := by simpa using hxy
    have HS := Lib.hid (show ∀ k ∈ s.act.take (i + 1), (k : Int) ≠ x by
     intro k hk
     rw [List.take_add_one, HY.out, Option.toList_some] at hk
     rcases List.mem_append.1 hk with e | e
     ·exact HNO.out k e
     ·simp at e; subst e; exact hxy)
    clear hxy
    go_wp2_with fail
    go_round
    case rel => exact ⟨i + 1, by omega, by go_num, HS.out⟩
    case measure => simp [intOf]; omega
  ·have HT := Lib.hid (show r = false by
    rw [← HR.out]
    simp
    intro k hk
    exact HNO.out k (by rw [List.take_of_length_le (by rw [← HN.out]; omega)]; exact hk))
   go_wp2_with fail
   go_ret
   exact ⟨by rw [HT.out]; rfl, rfl⟩
end Go.Proofs.YtiklhaajhdephaaGreatDoor

/-
 The contract of the reference dialer's Candidate.
-/
namespace Go.Proofs.YtiklhaajhdephaaGreatDoor
open Go.RowKit
set_option linter.unusedVariables false
set_option linter.unusedSimpArgs false

/-- The queue of the reference leaves what the program's leaves. -/
structure Ref (s : DS) (T : List Ad) : Prop where
 rem : remR s.c.ff s.A T = remP s.c.ff s.A s.K
 fit : s.p.Fit
 nA : s.A.length ≤ 1000000
 nT : T.length ≤ 1000000
theorem cand_e {s : DS} {now : Int} {R : List Ad} (hR : remP s.c.ff s.A s.K = R) (hne : R ≠ []) {r c3 c4 c5 e : Bool} (hr : s.ready now = r) (h3 : decide (s.c.mc ≤ (s.act.length : Int)) = c3) (h4 : decide (64 ≤ s.S.length) = c4) (h5 : decide (now < s.nb) = c5) (he : (((!r || c3) || c4) || c5) = e) :
  s.cand now = if e = true then [] else R := by
 unfold DS.cand DS.next
 rw [hR, hr]
 subst h3 h4 h5 he
 by_cases a : s.c.mc ≤ (s.act.length : Int) <;> by_cases b : 64 ≤ s.S.length <;> by_cases c : now < s.nb <;> cases r <;> simp [a, b, c]
theorem cand_nil {s : DS} {now : Int} (hR : remP s.c.ff s.A s.K = []) : s.cand now = [] := by
 unfold DS.cand DS.next
 rw [hR]
 split
 ·rfl
 ·split <;> rfl
set_option maxRecDepth 100000 in
set_option maxHeartbeats 8000000 in
theorem rcand_any (w0 w : World) (h : Nat) (b : RV) (s : DS) (T : List Ad) (d : Rdl w0 w h b s T) (rf : Ref s T) (now : Int) :
  Calls Tryz.prog 47 #[.pointer (some ⟨h, 0, none⟩), .int .u64 now] w fun e w' => e = .returned (.tuple #[.agg (headA (s.cand now)).cells.toArray, .bool (!(s.cand now).isEmpty)]) ∧ Touch [] w w' := by
 have HT := Lib.hid ((Touch.refl [] w).alloc (.cells (adr false (List.replicate 16 0)).toArray 40))
 have HG := Lib.hid (heap_alloc_new w (.cells (adr false (List.replicate 16 0)).toArray 40))
 have HD0 := Lib.hid (d.touch0 HT.out)
 have HRM := Lib.hid (rrem_any (rowF b s) w0 (w.alloc (.cells (adr false (List.replicate 16 0)).toArray 40)) h b.vs b.vt s.c.ff s.A T HD0.out.queue rf.nA rf.nT)
 rw [rf.rem] at HRM
 have HFIT := Lib.hid rf.fit
 have HZL := Lib.hid zAd.len
 obtain ⟨R, hR⟩ : ∃ R, remP s.c.ff s.A s.K = R := ⟨_, rfl⟩
 have HR := Lib.hid hR
 rw [hR] at HRM
 clear d rf hR
 go_enter Tryz.func47, Tryz.ntmps47
 go_wp2_with fail
 refine HRM.out.mono ?_
 rintro e w1 ⟨v, rfl, ho, t1⟩
 have HD := Lib.hid (HD0.out.touch0 t1)
 have HT1 := Lib.hid (HT.out.trans t1 (by simp))
 have HG1 := Lib.hid (t1.at HG.out (by simp))
 cases R with
 | nil =>
  have HC := Lib.hid (cand_nil (now := now) HR.out)
  obtain ⟨a0, c0, rfl, _, _, _⟩ := ho.form
  clear ho t1 HRM
  go_wp2_with fail
  refine wp_region_held (S := Touch [] w1.drew) (by kernel_rfl) ?_
  change wpAnyH _ _ _ _ _ _ _ _ w1.drew
  have tD := (Touch.refl [] w1).drew
  have HTD := Lib.hid tD
  generalize w1.drew = W at *
  clear tD
  have hS := Touch.refl [] W
  refine tkH 0 (.slice a0 0 c0) ?_
  refine tkH 1 (.int .i64 0) ?_
  refine tkH 2 (.bool true) ?_
  refine tkH 3 (.bool true) ?_
  refine tkN 4 undef ?_
  refine tkN 5 undef ?_
  refine tkN 6 undef ?_
  refine tkN 7 undef ?_
  refine tkN 8 undef ?_
  refine tkN 9 undef ?_
  refine tkN 10 undef ?_
  refine tkN 11 undef ?_
  refine tkN 12 undef ?_
  refine tkN 13 undef ?_
  refine tkN 14 undef ?_
  refine tkN 15 undef ?_
  refine tkN 16 undef ?_
  refine tkH 17 (.bool true) ?_
  refine tkH 18 (.bool true) ?_
  refine tkN 19 undef ?_
  refine tkN 20 undef ?_
  refine tkN 21 undef ?_
  refine tkN 22 undef ?_
  refine tkN 23 undef ?_
  refine tkN 24 undef ?_
  refine tkN 25 undef ?_
  refine tkN 26 undef ?_
  refine tkN 27 undef ?_
  refine tkN 28 undef ?_
  refine tkN 29 undef ?_
  refine tkH 30 (.bool true) ?_
  refine tkH 31 (.bool true) ?_
  refine tkN 32 undef ?_
  refine tkN 33 undef ?_
  refine tkN 34 undef ?_
  refine tkN 35 undef ?_
  refine tkN 36 undef ?_
  refine tkN 37 undef ?_
  refine tkH 38 (.bool true) ?_
  refine tkH 39 (.bool true) ?_
  refine tkN 40 undef ?_
  refine tkN 41 undef ?_
  refine tkN 42 undef ?_
  refine tkN 43 undef ?_
  refine tkN 44 undef ?_
  refine tkN 45 undef ?_
  refine tkH 46 (.bool true) ?_
  refine wpAnyH_done (by kernel_rfl) ?_ _
  try simp only [Act.put, sT, s0, sS]
  have HTZ := Lib.hid (HTD.out.trans hS (by simp))
  clear hS
  have HGZ := Lib.hid (HTZ.out.at HG1.out (by simp))
  have HT2 := Lib.hid (HT1.out.trans HTZ.out (by simp))
  go_wp2_with (first | ((with_reducible refine at_build 40 ?_); refine wpList_built (by rfl) 40 _ (by rfl) _ _ (by rfl) built_zAd ?_) | ((with_reducible refine at_store 40 ?_); refine wpList_store_into rfl 40 _ _ rfl w.heap.size 40 _ zAd.cells rfl rfl HGZ.out (by rw [HZL.out]; rfl) (by rw [size31, HZL.out]) zAd.one ?_))
  intro w4 h4 t4 z4
  go_wp2_with fail
  exact ret_row_tmp rfl size31 Tryz.underlying40 rfl HZL.out rfl rfl h4 ⟨by rw [HC.out]; rfl, HT2.out.trans t4 (by intro y hy; right; simp at hy; omega)⟩
 | cons a r =>
  obtain ⟨n, hn⟩ : ∃ n, n = s.act.length := ⟨_, rfl⟩
  obtain ⟨m, hm⟩ : ∃ m, m = s.S.length := ⟨_, rfl⟩
  have HN := Lib.hid hn
  have HM := Lib.hid hm
  obtain ⟨aS, kS, hvs, _, _, _⟩ := HD.out.ovp.form
  obtain ⟨aA, kA, hva, _, _, _⟩ := HD.out.ova.form
  have c4 := HD.out.at 4 _ rfl
  have c5 := HD.out.at 5 _ rfl
  have c17 := HD.out.at 17 _ rfl
  have c18 := HD.out.at 18 _ rfl
  have c19 := HD.out.at 19 _ rfl
  rw [hvs, ← hm] at c17
  rw [hva, ← hn] at c18
  obtain ⟨a0, c0, hv, hl, hc, hat⟩ := ho.form
  obtain ⟨g, rfl⟩ := hat (by simp)
  obtain ⟨ls, hls⟩ : ∃ ls, ls = (a :: r).length := ⟨_, rfl⟩
  have hls0 : 0 < ls := by rw [hls]; simp
  have hlq : ((ls : Int) == 0) = false := by simp only [beq_eq_false_iff_ne, ne_eq]; omega
  rw [← hls] at hv hl
  subst hv
  have ra := own_at (l := a :: r) (i := 0) (a := a) (by have := ho.row'; rw [← hls] at this; exact this) rfl
  simp only [Nat.zero_mul] at ra
  have HLA := Lib.hid a.len
  have HRA := Lib.hid ra
  obtain ⟨q3, h3⟩ : ∃ q3, decide (s.c.mc ≤ (n : Int)) = q3 := ⟨_, rfl⟩
  obtain ⟨q4, h4⟩ : ∃ q4, decide (64 ≤ (m : Int)) = q4 := ⟨_, rfl⟩
  obtain ⟨q5, h5⟩ : ∃ q5, decide (now < s.nb) = q5 := ⟨_, rfl⟩
  obtain ⟨rr, hrr⟩ : ∃ rr, s.ready now = rr := ⟨_, rfl⟩
  have h4n : decide (64 ≤ s.S.length) = q4 := by rw [← h4, hm]; exact decide_eq_decide.2 (by omega)
  have HC0 := Lib.hid (show ∀ e, (((!rr || q3) || q4) || q5) = e → s.cand now = if e = true then [] else a :: r from fun e he => cand_e HR.out (by simp) hrr (by rw [← hn]; exact h3) h4n h5 he)
  clear h4n
  clear ho t1 HRM hat hls hn hm hvs hva hl hc ra
  cases hlit : s.lit with
  | true =>
   have hrt : rr = true := by rw [← hrr]; unfold DS.ready; rw [hlit]; rfl
   subst hrt
   rw [hlit] at c5
   obtain ⟨e1, he1⟩ : ∃ e1, (q3 || q4) = e1 := ⟨_, rfl⟩
   obtain ⟨e2, he2⟩ : ∃ e2, (e1 || q5) = e2 := ⟨_, rfl⟩
   have HC := Lib.hid (HC0.out e2 (by rw [← he2, ← he1]; rfl))
   clear hrr hlit HC0 HR
   go_wp2_with fail
   refine wp_region_held (S := Touch [] w1.drew) (by kernel_rfl) ?_
   change wpAnyH _ _ _ _ _ _ _ _ w1.drew
   have tD := (Touch.refl [] w1).drew
   have c4 := tD.cell c4 (by simp)
   have c5 := tD.cell c5 (by simp)
   have c17 := tD.cell c17 (by simp)
   have c18 := tD.cell c18 (by simp)
   have c19 := tD.cell c19 (by simp)
   have HTD := Lib.hid tD
   generalize w1.drew = W at *
   clear tD
   have hS := Touch.refl [] W
   refine tkH 0 (.slice (some ⟨g, 0, none⟩) ls c0) ?_
   refine tkH 1 (.int .i64 (ls : Nat)) ?_
   refine tkH 2 (.bool false) ?_
   refine tkH 3 (.bool false) ?_
   refine tkH 4 (.pointer (some ⟨h, 0, none⟩)) ?_
   refine tkH 5 (.pointer (some ⟨h, 0, none⟩)) ?_
   refine tkH 6 (.pointer (some ⟨h, 5, none⟩)) ?_
   refine tkH 7 (.bool true) ?_ (hy := Or.inl ⟨by rfl, fun w' hw => by (have q := hw.cell c5 (by simp); go_simp)⟩)
   refine tkH 8 (.bool false) ?_
   refine tkH 9 (.bool false) ?_
   refine tkN 10 undef ?_
   refine tkN 11 undef ?_
   refine tkN 12 undef ?_
   refine tkN 13 undef ?_
   refine tkN 14 undef ?_
   refine tkN 15 undef ?_
   refine tkH 16 (.bool false) ?_
   refine tkH 17 (.bool false) ?_
   refine tkH 18 (.bool false) ?_
   refine tkH 19 (.pointer (some ⟨h, 0, none⟩)) ?_
   refine tkH 20 (.pointer (some ⟨h, 0, none⟩)) ?_
   refine tkH 21 (.pointer (some ⟨h, 18, none⟩)) ?_
   refine tkH 22 (.slice aA n kA) ?_ (hy := Or.inl ⟨by rfl, fun w' hw => by (have q := hw.cell c18 (by simp); go_simp)⟩)
   refine tkH 23 (.int .i64 (n : Nat)) ?_
   refine tkH 24 (.pointer (some ⟨h, 0, none⟩)) ?_
   refine tkH 25 (.pointer (some ⟨h, 0, none⟩)) ?_
   refine tkH 26 (.pointer (some ⟨h, 0, none⟩)) ?_
   refine tkH 27 (.pointer (some ⟨h, 4, none⟩)) ?_
   refine tkH 28 (.int .i64 s.c.mc) ?_ (hy := Or.inl ⟨by rfl, fun w' hw => by (have q := hw.cell c4 (by simp); go_simp)⟩)
   refine tkH 29 (.bool q3) ?_ (hy := Or.inl ⟨by rfl, fun w' hw => by (have q0 := h3; go_simp)⟩)
   refine tkH 30 (.bool q3) ?_
   refine tkH 31 (.bool q3) ?_
   refine tkH 32 ((bif q3 then undef else .pointer (some ⟨h, 0, none⟩))) ?_ (hy := by cases q3; (simp only [cond_false, cond_true]; exact Or.inl ⟨by rfl, fun w' hw => by go_simp⟩); (simp only [cond_false, cond_true]; exact Or.inr ⟨by rfl, rfl⟩))
   refine tkH 33 ((bif q3 then undef else .pointer (some ⟨h, 0, none⟩))) ?_ (hy := by cases q3; (simp only [cond_false, cond_true]; exact Or.inl ⟨by rfl, fun w' hw => by go_simp⟩); (simp only [cond_false, cond_true]; exact Or.inr ⟨by rfl, rfl⟩))
   refine tkH 34 ((bif q3 then undef else .pointer (some ⟨h, 17, none⟩))) ?_ (hy := by cases q3; (simp only [cond_false, cond_true]; exact Or.inl ⟨by rfl, fun w' hw => by go_simp⟩); (simp only [cond_false, cond_true]; exact Or.inr ⟨by rfl, rfl⟩))
   refine tkH 35 ((bif q3 then undef else .slice aS m kS)) ?_ (hy := by cases q3; (simp only [cond_false, cond_true]; exact Or.inl ⟨by rfl, fun w' hw => by (have q := hw.cell c17 (by simp); go_simp)⟩); (simp only [cond_false, cond_true]; exact Or.inr ⟨by rfl, rfl⟩))
   refine tkH 36 ((bif q3 then undef else .int .i64 (m : Nat))) ?_ (hy := by cases q3; (simp only [cond_false, cond_true]; exact Or.inl ⟨by rfl, fun w' hw => by go_simp⟩); (simp only [cond_false, cond_true]; exact Or.inr ⟨by rfl, rfl⟩))
   refine tkH 37 ((bif q3 then undef else .bool q4)) ?_ (hy := by cases q3; (simp only [cond_false, cond_true]; exact Or.inl ⟨by rfl, fun w' hw => by (have q0 := h4; go_simp)⟩); (simp only [cond_false, cond_true]; exact Or.inr ⟨by rfl, rfl⟩))
   refine tkH 38 (.bool e1) ?_ (hy := by cases q3; (simp only [cond_false, cond_true]; exact Or.inl ⟨by rfl, fun w' hw => by (subst he1; go_simp)⟩); (simp only [cond_false, cond_true]; exact Or.inl ⟨by rfl, fun w' hw => by (subst he1; go_simp)⟩))
   refine tkH 39 (.bool e1) ?_
   refine tkH 40 ((bif e1 then undef else .int .u64 now)) ?_ (hy := by cases e1; (simp only [cond_false, cond_true]; exact Or.inl ⟨by rfl, fun w' hw => by go_simp⟩); (simp only [cond_false, cond_true]; exact Or.inr ⟨by rfl, rfl⟩))
   refine tkH 41 ((bif e1 then undef else .pointer (some ⟨h, 0, none⟩))) ?_ (hy := by cases e1; (simp only [cond_false, cond_true]; exact Or.inl ⟨by rfl, fun w' hw => by go_simp⟩); (simp only [cond_false, cond_true]; exact Or.inr ⟨by rfl, rfl⟩))
   refine tkH 42 ((bif e1 then undef else .pointer (some ⟨h, 0, none⟩))) ?_ (hy := by cases e1; (simp only [cond_false, cond_true]; exact Or.inl ⟨by rfl, fun w' hw => by go_simp⟩); (simp only [cond_false, cond_true]; exact Or.inr ⟨by rfl, rfl⟩))
   refine tkH 43 ((bif e1 then undef else .pointer (some ⟨h, 19, none⟩))) ?_ (hy := by cases e1; (simp only [cond_false, cond_true]; exact Or.inl ⟨by rfl, fun w' hw => by go_simp⟩); (simp only [cond_false, cond_true]; exact Or.inr ⟨by rfl, rfl⟩))
   refine tkH 44 ((bif e1 then undef else .int .u64 s.nb)) ?_ (hy := by cases e1; (simp only [cond_false, cond_true]; exact Or.inl ⟨by rfl, fun w' hw => by (have q := hw.cell c19 (by simp); go_simp)⟩); (simp only [cond_false, cond_true]; exact Or.inr ⟨by rfl, rfl⟩))
   refine tkH 45 ((bif e1 then undef else .bool q5)) ?_ (hy := by cases e1; (simp only [cond_false, cond_true]; exact Or.inl ⟨by rfl, fun w' hw => by (have q0 := h5; go_simp)⟩); (simp only [cond_false, cond_true]; exact Or.inr ⟨by rfl, rfl⟩))
   refine tkH 46 (.bool e2) ?_ (hy := by cases e1; (simp only [cond_false, cond_true]; exact Or.inl ⟨by rfl, fun w' hw => by (subst he2; go_simp)⟩); (simp only [cond_false, cond_true]; exact Or.inl ⟨by rfl, fun w' hw => by (subst he2; go_simp)⟩))
   refine wpAnyH_done (by kernel_rfl) ?_ _
   try simp only [Act.put, sT, s0, sS]
   have HTZ := Lib.hid (HTD.out.trans hS (by simp))
   clear hS
   have HGZ := Lib.hid (HTZ.out.at HG1.out (by simp))
   have HT2 := Lib.hid (HT1.out.trans HTZ.out (by simp))
   have r5 := HTZ.out.range HRA.out (by simp)
   clear c4 c5 c17 c18 c19
   cases e2 with
   | true =>
    clear he1 he2 r5
    go_wp2_with (first | ((with_reducible refine at_build 40 ?_); refine wpList_built (by rfl) 40 _ (by rfl) _ _ (by rfl) built_zAd ?_) | ((with_reducible refine at_store 40 ?_); refine wpList_store_into rfl 40 _ _ rfl w.heap.size 40 _ zAd.cells rfl rfl HGZ.out (by rw [HZL.out]; rfl) (by rw [size31, HZL.out]) zAd.one ?_))
    intro w4 h4 t4 z4
    go_wp2_with fail
    exact ret_row_tmp rfl size31 Tryz.underlying40 rfl HZL.out rfl rfl h4 ⟨by rw [HC.out]; rfl, HT2.out.trans t4 (by intro y hy; right; simp at hy; omega)⟩
   | false =>
    have hZ : w.heap.size < w1.heap.size := by have h1 := HG1.out; exact (Array.getElem?_eq_some_iff.1 h1).1
    go_wp2_with (first
     | ((with_reducible refine at_load 40 ?_); refine wpList_load_mid rfl 40 _ rfl g 0 rfl a.cells _ r5 Tryz.underlying40 rfl (by rw [size31, HLA.out]) ?_)
     | ((with_reducible refine at_store 40 ?_); refine wpList_store_into rfl 40 _ _ rfl w.heap.size 40 _ a.cells rfl rfl HGZ.out (by rw [HLA.out]; rfl) (by rw [size31, HLA.out]) a.one ?_))
    intro w4 h4 t4 z4
    go_wp2_with fail
    exact ret_row_tmp rfl size31 Tryz.underlying40 rfl HLA.out rfl rfl h4 ⟨by rw [HC.out]; rfl, HT2.out.trans t4 (by intro y hy; right; simp at hy; omega)⟩
  | false =>
   have HRD := Lib.hid (fun W (hW : Rdl w0 W h b s T) => rready_any w0 W h b s T hW HFIT.out now rr (by rw [← hrr]; unfold DS.ready; rw [hlit]; rfl))
   rw [hlit] at c5
   obtain ⟨e0, he0⟩ : ∃ e0, (!rr) = e0 := ⟨_, rfl⟩
   obtain ⟨e3, he3⟩ : ∃ e3, (e0 || q3) = e3 := ⟨_, rfl⟩
   obtain ⟨e1, he1⟩ : ∃ e1, (e3 || q4) = e1 := ⟨_, rfl⟩
   obtain ⟨e2, he2⟩ : ∃ e2, (e1 || q5) = e2 := ⟨_, rfl⟩
   have HC := Lib.hid (HC0.out e2 (by rw [← he2, ← he1, ← he3, ← he0]))
   clear hrr hlit HC0 HR
   go_wp2_with fail
   refine wp_region_held (S := Touch [] w1.drew) (by kernel_rfl) ?_
   change wpAnyH _ _ _ _ _ _ _ _ w1.drew
   have tD := (Touch.refl [] w1).drew
   have c4 := tD.cell c4 (by simp)
   have c5 := tD.cell c5 (by simp)
   have c17 := tD.cell c17 (by simp)
   have c18 := tD.cell c18 (by simp)
   have c19 := tD.cell c19 (by simp)
   have HDW := Lib.hid (HD.out.touch0 tD)
   have HTD := Lib.hid tD
   generalize w1.drew = W at *
   clear tD
   have hS := Touch.refl [] W
   refine tkH 0 (.slice (some ⟨g, 0, none⟩) ls c0) ?_
   refine tkH 1 (.int .i64 (ls : Nat)) ?_
   refine tkH 2 (.bool false) ?_
   refine tkH 3 (.bool false) ?_
   refine tkH 4 (.pointer (some ⟨h, 0, none⟩)) ?_
   refine tkH 5 (.pointer (some ⟨h, 0, none⟩)) ?_
   refine tkH 6 (.pointer (some ⟨h, 5, none⟩)) ?_
   refine tkH 7 (.bool false) ?_ (hy := Or.inl ⟨by rfl, fun w' hw => by (have q := hw.cell c5 (by simp); go_simp)⟩)
   refine tkH 8 (.bool true) ?_
   refine tkH 9 (.bool true) ?_
   refine tkH 10 (.pointer (some ⟨h, 0, none⟩)) ?_
   refine tkH 11 (.pointer (some ⟨h, 0, none⟩)) ?_
   refine tkH 12 (.pointer (some ⟨h, 6, none⟩)) ?_
   refine tkH 13 (.int .u64 now) ?_
   refine wpAnyH_ready (rs := [14]) (by kernel_rfl) (by simp) ?_
   refine cnH rfl (fun K hK => ?_) AllReadyH.nil
   go_simp
   refine (HRD.out _ HDW.out).mono ?_
   rintro e wQ ⟨rfl, tQ⟩
   have hS2 := hS.trans tQ (by simp)
   refine hK.out _ _ hS2 (fun _ => ?_)
   clear hK K hS tQ
   have hS := hS2
   clear hS2
   try simp only [Act.put, sT, s0, sS]
   refine tkH 15 (.bool e0) ?_ (hy := Or.inl ⟨by rfl, fun w' hw => by (have q0 := he0; go_simp)⟩)
   refine tkH 16 (.bool e0) ?_
   refine tkH 17 (.bool e0) ?_
   refine tkH 18 (.bool e0) ?_
   refine tkH 19 ((bif e0 then undef else .pointer (some ⟨h, 0, none⟩))) ?_ (hy := by cases e0; (simp only [cond_false, cond_true]; exact Or.inl ⟨by rfl, fun w' hw => by go_simp⟩); (simp only [cond_false, cond_true]; exact Or.inr ⟨by rfl, rfl⟩))
   refine tkH 20 ((bif e0 then undef else .pointer (some ⟨h, 0, none⟩))) ?_ (hy := by cases e0; (simp only [cond_false, cond_true]; exact Or.inl ⟨by rfl, fun w' hw => by go_simp⟩); (simp only [cond_false, cond_true]; exact Or.inr ⟨by rfl, rfl⟩))
   refine tkH 21 ((bif e0 then undef else .pointer (some ⟨h, 18, none⟩))) ?_ (hy := by cases e0; (simp only [cond_false, cond_true]; exact Or.inl ⟨by rfl, fun w' hw => by go_simp⟩); (simp only [cond_false, cond_true]; exact Or.inr ⟨by rfl, rfl⟩))
   refine tkH 22 ((bif e0 then undef else .slice aA n kA)) ?_ (hy := by cases e0; (simp only [cond_false, cond_true]; exact Or.inl ⟨by rfl, fun w' hw => by (have q := hw.cell c18 (by simp); go_simp)⟩); (simp only [cond_false, cond_true]; exact Or.inr ⟨by rfl, rfl⟩))
   refine tkH 23 ((bif e0 then undef else .int .i64 (n : Nat))) ?_ (hy := by cases e0; (simp only [cond_false, cond_true]; exact Or.inl ⟨by rfl, fun w' hw => by go_simp⟩); (simp only [cond_false, cond_true]; exact Or.inr ⟨by rfl, rfl⟩))
   refine tkH 24 ((bif e0 then undef else .pointer (some ⟨h, 0, none⟩))) ?_ (hy := by cases e0; (simp only [cond_false, cond_true]; exact Or.inl ⟨by rfl, fun w' hw => by go_simp⟩); (simp only [cond_false, cond_true]; exact Or.inr ⟨by rfl, rfl⟩))
   refine tkH 25 ((bif e0 then undef else .pointer (some ⟨h, 0, none⟩))) ?_ (hy := by cases e0; (simp only [cond_false, cond_true]; exact Or.inl ⟨by rfl, fun w' hw => by go_simp⟩); (simp only [cond_false, cond_true]; exact Or.inr ⟨by rfl, rfl⟩))
   refine tkH 26 ((bif e0 then undef else .pointer (some ⟨h, 0, none⟩))) ?_ (hy := by cases e0; (simp only [cond_false, cond_true]; exact Or.inl ⟨by rfl, fun w' hw => by go_simp⟩); (simp only [cond_false, cond_true]; exact Or.inr ⟨by rfl, rfl⟩))
   refine tkH 27 ((bif e0 then undef else .pointer (some ⟨h, 4, none⟩))) ?_ (hy := by cases e0; (simp only [cond_false, cond_true]; exact Or.inl ⟨by rfl, fun w' hw => by go_simp⟩); (simp only [cond_false, cond_true]; exact Or.inr ⟨by rfl, rfl⟩))
   refine tkH 28 ((bif e0 then undef else .int .i64 s.c.mc)) ?_ (hy := by cases e0; (simp only [cond_false, cond_true]; exact Or.inl ⟨by rfl, fun w' hw => by (have q := hw.cell c4 (by simp); go_simp)⟩); (simp only [cond_false, cond_true]; exact Or.inr ⟨by rfl, rfl⟩))
   refine tkH 29 ((bif e0 then undef else .bool q3)) ?_ (hy := by cases e0; (simp only [cond_false, cond_true]; exact Or.inl ⟨by rfl, fun w' hw => by (have q0 := h3; go_simp)⟩); (simp only [cond_false, cond_true]; exact Or.inr ⟨by rfl, rfl⟩))
   refine tkH 30 (.bool e3) ?_ (hy := by cases e0; (simp only [cond_false, cond_true]; exact Or.inl ⟨by rfl, fun w' hw => by (subst he3; go_simp)⟩); (simp only [cond_false, cond_true]; exact Or.inl ⟨by rfl, fun w' hw => by (subst he3; go_simp)⟩))
   refine tkH 31 (.bool e3) ?_
   refine tkH 32 ((bif e3 then undef else .pointer (some ⟨h, 0, none⟩))) ?_ (hy := by cases e3; (simp only [cond_false, cond_true]; exact Or.inl ⟨by rfl, fun w' hw => by go_simp⟩); (simp only [cond_false, cond_true]; exact Or.inr ⟨by rfl, rfl⟩))
   refine tkH 33 ((bif e3 then undef else .pointer (some ⟨h, 0, none⟩))) ?_ (hy := by cases e3; (simp only [cond_false, cond_true]; exact Or.inl ⟨by rfl, fun w' hw => by go_simp⟩); (simp only [cond_false, cond_true]; exact Or.inr ⟨by rfl, rfl⟩))
   refine tkH 34 ((bif e3 then undef else .pointer (some ⟨h, 17, none⟩))) ?_ (hy := by cases e3; (simp only [cond_false, cond_true]; exact Or.inl ⟨by rfl, fun w' hw => by go_simp⟩); (simp only [cond_false, cond_true]; exact Or.inr ⟨by rfl, rfl⟩))
   refine tkH 35 ((bif e3 then undef else .slice aS m kS)) ?_ (hy := by cases e3; (simp only [cond_false, cond_true]; exact Or.inl ⟨by rfl, fun w' hw => by (have q := hw.cell c17 (by simp); go_simp)⟩); (simp only [cond_false, cond_true]; exact Or.inr ⟨by rfl, rfl⟩))
   refine tkH 36 ((bif e3 then undef else .int .i64 (m : Nat))) ?_ (hy := by cases e3; (simp only [cond_false, cond_true]; exact Or.inl ⟨by rfl, fun w' hw => by go_simp⟩); (simp only [cond_false, cond_true]; exact Or.inr ⟨by rfl, rfl⟩))
   refine tkH 37 ((bif e3 then undef else .bool q4)) ?_ (hy := by cases e3; (simp only [cond_false, cond_true]; exact Or.inl ⟨by rfl, fun w' hw => by (have q0 := h4; go_simp)⟩); (simp only [cond_false, cond_true]; exact Or.inr ⟨by rfl, rfl⟩))
   refine tkH 38 (.bool e1) ?_ (hy := by cases e3; (simp only [cond_false, cond_true]; exact Or.inl ⟨by rfl, fun w' hw => by (subst he1; go_simp)⟩); (simp only [cond_false, cond_true]; exact Or.inl ⟨by rfl, fun w' hw => by (subst he1; go_simp)⟩))
   refine tkH 39 (.bool e1) ?_
   refine tkH 40 ((bif e1 then undef else .int .u64 now)) ?_ (hy := by cases e1; (simp only [cond_false, cond_true]; exact Or.inl ⟨by rfl, fun w' hw => by go_simp⟩); (simp only [cond_false, cond_true]; exact Or.inr ⟨by rfl, rfl⟩))
   refine tkH 41 ((bif e1 then undef else .pointer (some ⟨h, 0, none⟩))) ?_ (hy := by cases e1; (simp only [cond_false, cond_true]; exact Or.inl ⟨by rfl, fun w' hw => by go_simp⟩); (simp only [cond_false, cond_true]; exact Or.inr ⟨by rfl, rfl⟩))
   refine tkH 42 ((bif e1 then undef else .pointer (some ⟨h, 0, none⟩))) ?_ (hy := by cases e1; (simp only [cond_false, cond_true]; exact Or.inl ⟨by rfl, fun w' hw => by go_simp⟩); (simp only [cond_false, cond_true]; exact Or.inr ⟨by rfl, rfl⟩))
   refine tkH 43 ((bif e1 then undef else .pointer (some ⟨h, 19, none⟩))) ?_ (hy := by cases e1; (simp only [cond_false, cond_true]; exact Or.inl ⟨by rfl, fun w' hw => by go_simp⟩); (simp only [cond_false, cond_true]; exact Or.inr ⟨by rfl, rfl⟩))
   refine tkH 44 ((bif e1 then undef else .int .u64 s.nb)) ?_ (hy := by cases e1; (simp only [cond_false, cond_true]; exact Or.inl ⟨by rfl, fun w' hw => by (have q := hw.cell c19 (by simp); go_simp)⟩); (simp only [cond_false, cond_true]; exact Or.inr ⟨by rfl, rfl⟩))
   refine tkH 45 ((bif e1 then undef else .bool q5)) ?_ (hy := by cases e1; (simp only [cond_false, cond_true]; exact Or.inl ⟨by rfl, fun w' hw => by (have q0 := h5; go_simp)⟩); (simp only [cond_false, cond_true]; exact Or.inr ⟨by rfl, rfl⟩))
   refine tkH 46 (.bool e2) ?_ (hy := by cases e1; (simp only [cond_false, cond_true]; exact Or.inl ⟨by rfl, fun w' hw => by (subst he2; go_simp)⟩); (simp only [cond_false, cond_true]; exact Or.inl ⟨by rfl, fun w' hw => by (subst he2; go_simp)⟩))
   refine wpAnyH_done (by kernel_rfl) ?_ _
   try simp only [Act.put, sT, s0, sS]
   have HTZ := Lib.hid (HTD.out.trans hS (by simp))
   clear hS
   have HGZ := Lib.hid (HTZ.out.at HG1.out (by simp))
   have HT2 := Lib.hid (HT1.out.trans HTZ.out (by simp))
   have r5 := HTZ.out.range HRA.out (by simp)
   clear c4 c5 c17 c18 c19
   cases e2 with
   | true =>
    clear he1 he2 r5
    go_wp2_with (first | ((with_reducible refine at_build 40 ?_); refine wpList_built (by rfl) 40 _ (by rfl) _ _ (by rfl) built_zAd ?_) | ((with_reducible refine at_store 40 ?_); refine wpList_store_into rfl 40 _ _ rfl w.heap.size 40 _ zAd.cells rfl rfl HGZ.out (by rw [HZL.out]; rfl) (by rw [size31, HZL.out]) zAd.one ?_))
    intro w4 h4 t4 z4
    go_wp2_with fail
    exact ret_row_tmp rfl size31 Tryz.underlying40 rfl HZL.out rfl rfl h4 ⟨by rw [HC.out]; rfl, HT2.out.trans t4 (by intro y hy; right; simp at hy; omega)⟩
   | false =>
    have hZ : w.heap.size < w1.heap.size := by have h1 := HG1.out; exact (Array.getElem?_eq_some_iff.1 h1).1
    go_wp2_with (first
     | ((with_reducible refine at_load 40 ?_); refine wpList_load_mid rfl 40 _ rfl g 0 rfl a.cells _ r5 Tryz.underlying40 rfl (by rw [size31, HLA.out]) ?_)
     | ((with_reducible refine at_store 40 ?_); refine wpList_store_into rfl 40 _ _ rfl w.heap.size 40 _ a.cells rfl rfl HGZ.out (by rw [HLA.out]; rfl) (by rw [size31, HLA.out]) a.one ?_))
    intro w4 h4 t4 z4
    go_wp2_with fail
    exact ret_row_tmp rfl size31 Tryz.underlying40 rfl HLA.out rfl rfl h4 ⟨by rw [HC.out]; rfl, HT2.out.trans t4 (by intro y hy; right; simp at hy; omega)⟩
end Go.Proofs.YtiklhaajhdephaaGreatDoor

/-
 The contracts of the reference dialer's Skip, Fail and Start.
-/
namespace Go.Proofs.YtiklhaajhdephaaGreatDoor
open Go.RowKit
set_option linter.unusedVariables false
set_option linter.unusedSimpArgs false

set_option maxRecDepth 100000 in
set_option maxHeartbeats 4000000 in
theorem rskip_no (w0 w : World) (h : Nat) (b : RV) (s : DS) (T : List Ad) (d : Rdl w0 w h b s T) (rf : Ref s T) (now : Int) (y : Int) (hc : s.cand now = []) :
  Calls Tryz.prog 38 #[.pointer (some ⟨h, 0, none⟩), .int .u64 now, .int .i64 y] w fun e w' => e = .returned (.bool false) ∧ Touch [] w w' := by
 have HC := Lib.hid (rcand_any w0 w h b s T d rf now)
 rw [hc] at HC
 have HZL := Lib.hid (headA []).len
 have HZO := Lib.hid (headA []).one
 clear d hc rf
 generalize headA [] = za at *
 go_enter Tryz.func38, Tryz.ntmps38
 go_wp2_with fail
 refine HC.out.mono ?_
 rintro e w1 ⟨rfl, t1⟩
 have HT1 := Lib.hid t1
 have HN := Lib.hid (heap_alloc_new w1 (.cells (adr false (List.replicate 16 0)).toArray 40))
 have HA := Lib.hid ((Touch.refl [] w1).alloc (.cells (adr false (List.replicate 16 0)).toArray 40))
 clear t1 HC
 go_wp2_with ((with_reducible refine at_store 40 ?_); refine wpList_store_into rfl 40 _ _ rfl w1.heap.size 40 _ za.cells rfl rfl HN.out (by rw [HZL.out]; rfl) (by rw [size31, HZL.out]) HZO.out ?_)
 intro w2 h2 t2 z2
 have HT2 := Lib.hid (HT1.out.trans (HA.out.trans t2 (by intro y hy; right; simp at hy; omega)) (by simp))
 clear h2 t2 z2 HN HA
 go_wp2_with fail
 go_ret
 exact ⟨rfl, HT2.out⟩
set_option maxRecDepth 100000 in
set_option maxHeartbeats 4000000 in
theorem rskip_yes (w0 w : World) (h : Nat) (b : RV) (s : DS) (T : List Ad) (d : Rdl w0 w h b s T) (rf : Ref s T) (hz : w0.heap.size ≤ w.heap.size) (hl : s.rs.length ≤ 1000000) (now : Int) (y : Int) (a : Ad) (r : List Ad) (hc : s.cand now = a :: r) :
  Calls Tryz.prog 38 #[.pointer (some ⟨h, 0, none⟩), .int .u64 now, .int .i64 y] w fun e w' => e = .returned (.bool true) ∧ ∃ b', Rdl w0 w' h b' (s.skip a y) (T ++ [a]) ∧ RStep w w' h b b' := by
 have HC := Lib.hid (rcand_any w0 w h b s T d rf now)
 have HR := Lib.hid (show remR s.c.ff s.A T = a :: r by rw [rf.rem]; exact (cand_rem hc).1)
 rw [hc] at HC
 have HXL := Lib.hid a.len
 have HD := Lib.hid d
 have HZ := Lib.hid hz
 have HL := Lib.hid hl
 have HNA := Lib.hid rf.nA
 have HNT := Lib.hid rf.nT
 simp only [headA, List.isEmpty_cons, Bool.not_false] at HC
 clear d hc hz hl rf
 go_enter Tryz.func38, Tryz.ntmps38
 go_wp2_with fail
 refine HC.out.mono ?_
 rintro e w1 ⟨rfl, t1⟩
 have HT1 := Lib.hid t1
 have HN := Lib.hid (heap_alloc_new w1 (.cells (adr false (List.replicate 16 0)).toArray 40))
 have HA := Lib.hid ((Touch.refl [] w1).alloc (.cells (adr false (List.replicate 16 0)).toArray 40))
 clear t1 HC
 go_wp2_with ((with_reducible refine at_store 40 ?_); refine wpList_store_into rfl 40 _ _ rfl w1.heap.size 40 _ a.cells rfl rfl HN.out (by rw [HXL.out]; rfl) (by rw [size31, HXL.out]) a.one ?_)
 intro w2 h2 t2 z2
 have HT2 := Lib.hid (HT1.out.trans (HA.out.trans t2 (by intro y hy; right; simp at hy; omega)) (by simp))
 have HD2 := Lib.hid (HD.out.touch0 HT2.out)
 have HTK := Lib.hid (rtake_any (rowF b s) w0 w2 h b.vs b.vt s.c.ff s.A T HD2.out.queue (by have := HZ.out; have := HT2.out.size; omega) HNA.out HNT.out)
 rw [HR.out] at HTK
 simp only [headA, List.isEmpty_cons, Bool.not_false, Bool.false_eq_true, if_false] at HTK
 clear h2 t2 z2 HN HA
 go_wp2_with fail
 refine HTK.out.mono ?_
 rintro e w3 ⟨rfl, vt3, q3, t3, hv3⟩
 have d3 := HD2.out.ofTake q3 t3 hv3
 have HD3 := Lib.hid (d3.1.setK (takeK s.A s.K a))
 have HS3 := Lib.hid ((RStep.of0 (h := h) (b := b) HT2.out).trans d3.2)
 have HRC := Lib.hid (rrec_any w0 w3 h _ _ _ HD3.out (by have := HZ.out; have := HT2.out.size; have := t3.size; omega) HL.out y)
 clear q3 t3 hv3 HTK d3
 go_wp2_with fail
 refine HRC.out.mono ?_
 rintro e w4 ⟨rfl, b4, d4, s4⟩
 have HD4 := Lib.hid d4
 have HS4 := Lib.hid (HS3.out.trans s4)
 clear d4 s4
 go_wp2_with fail
 go_ret
 exact ⟨rfl, _, HD4.out, HS4.out⟩
set_option maxRecDepth 100000 in
set_option maxHeartbeats 400000 in
theorem rfail_no (w0 w : World) (h : Nat) (b : RV) (s : DS) (T : List Ad) (d : Rdl w0 w h b s T) (x y : Int) (hh : s.has x = false) :
  Calls Tryz.prog 40 #[.pointer (some ⟨h, 0, none⟩), .int .i64 x, .int .i64 y] w fun e w' => e = .returned (.bool false) ∧ w = w' := by
 have HA := Lib.hid (ract_any w0 w h b s T d x false hh)
 clear d hh
 go_enter Tryz.func40, Tryz.ntmps40
 go_wp2_with fail
 refine HA.out.mono ?_
 rintro e _ ⟨rfl, rfl⟩
 go_wp2_with fail
 go_ret
 exact ⟨rfl, rfl⟩
/-- The attempts that stay. -/
def stay (l : List Nat) (x : Int) : List Nat := l.filter fun k => !decide ((k : Int) = x)
theorem stay_step (l : List Nat) (x : Int) (i k : Nat) (h : l[i]? = some k) : stay (l.take (i + 1)) x = if (k : Int) = x then stay (l.take i) x else stay (l.take i) x ++ [k] := by
 unfold stay
 rw [List.take_add_one, h, Option.toList_some, List.filter_append]
 by_cases e : (k : Int) = x <;> simp [e]
theorem stay_len (l : List Nat) (x : Int) : (stay l x).length ≤ l.length := List.length_filter_le _ _
set_option maxRecDepth 100000 in
set_option maxHeartbeats 4000000 in
theorem rfail_yes (w0 w : World) (h : Nat) (b : RV) (s : DS) (T : List Ad) (d : Rdl w0 w h b s T) (hz : w0.heap.size ≤ w.heap.size) (hl : s.rs.length ≤ 1000000) (ha : s.act.length ≤ 1000000) (x y : Int) (hh : s.has x = true) :
  Calls Tryz.prog 40 #[.pointer (some ⟨h, 0, none⟩), .int .i64 x, .int .i64 y] w fun e w' => e = .returned (.bool true) ∧ ∃ b', Rdl w0 w' h b' (s.fail x y) T ∧ RStep w w' h b b' := by
 have HAC := Lib.hid (ract_any w0 w h b s T d x true hh)
 have HD := Lib.hid d
 have HZ := Lib.hid hz
 have HL := Lib.hid hl
 obtain ⟨aA, cA, hva, hc, hm, hat⟩ := d.ova.form
 obtain ⟨n, hn⟩ : ∃ n, n = s.act.length := ⟨_, rfl⟩
 have HN := Lib.hid hn
 have c18 := d.at 18 _ rfl
 rw [hva, ← hn] at c18
 have H1 := Lib.hid (show OwnK w0 w (.slice aA n cA) s.act by rw [hn, ← hva]; exact d.ova)
 have C18 := Lib.hid c18
 rw [← hn] at hat ha
 clear d hh hz hl hva hc hm hn c18
 go_enter Tryz.func40, Tryz.ntmps40
 go_wp2_with fail
 refine HAC.out.mono ?_
 rintro e _ ⟨rfl, rfl⟩
 go_wp2_with fail
 go_loopw [7, 8] (fun v7 v8 wr => ∃ i : Nat, i ≤ n ∧ v8 = .int .i64 i ∧ OwnK w wr v7 (stay (s.act.take i) x) ∧ Touch [] w wr) (fun _ v8 _ => n - (intOf v8).toNat)
 case atStart => exact ⟨0, by omega, rfl, by simpa [stay] using OwnK.nil w w, Touch.refl _ _⟩
 case round =>
  obtain ⟨i, hin, rfl, ho, ht⟩ := hrel
  have HO := Lib.hid ho
  have HT := Lib.hid ht
  have d18 := ht.cell C18.out (by simp)
  have H1R := Lib.hid (H1.out.touch ht (by simp))
  clear ho ht
  by_cases hlt : i < n
  ·obtain ⟨k, hk⟩ : ∃ k, s.act[i]? = some k := ⟨_, List.getElem?_eq_getElem (by rw [← HN.out]; exact hlt)⟩
   obtain ⟨g, rfl⟩ := hat (by omega)
   have hcx := H1R.out.cell HN.out hk
   have HST := Lib.hid (stay_step s.act x i k hk)
   have hwi : IntKind.i64.wrap ((i : Int) + 1) = (i : Int) + 1 := by rw [IntKind.wrap_i64] <;> omega
   have hin2 : (i : Int) < (n : Int) := by omega
   clear hk
   by_cases hxk : (k : Int) = x
   ·have HS := Lib.hid (show stay (s.act.take (i + 1)) x = stay (s.act.take i) x by rw [HST.out, if_pos hxk])
    have hb : ((k : Int) == x) = true := by simpa using hxk
    have hb2 : ((k : Int) != x) = false := by simpa using hxk
    subst hxk
    go_wp2_with fail
    go_roundw
    case rel => exact ⟨i + 1, by omega, by go_num, by rw [HS.out]; exact HO.out, HT.out⟩
    case measure => simp [intOf]; omega
   ·have HS := Lib.hid (show stay (s.act.take (i + 1)) x = stay (s.act.take i) x ++ [k] by rw [HST.out, if_neg hxk])
    have hb : ((k : Int) == x) = false := by simpa using hxk
    have hb2 : ((k : Int) != x) = true := by simpa using hxk
    have hlen := stay_len (s.act.take i) x
    have HLN := Lib.hid (show (stay (s.act.take i) x).length ≤ 1000000 by have h1 := List.length_take_le i s.act; omega)
    have HB := Lib.hid (show (wr.alloc (.cells #[.int .i64 (k : Int)] 3)).cell? ⟨wr.heap.size, 0, none⟩ = some (.int .i64 (k : Int)) by rw [cell_of_row _ _ _ _ _ _ (heap_alloc_new wr _)]; rfl)
    have HTB := Lib.hid ((Touch.refl [] wr).alloc (.cells #[.int .i64 (k : Int)] 3))
    have HOB := Lib.hid (HO.out.touch HTB.out (by simp))
    clear hxk hlen
    go_wp2_with (at_builtin; refine wpList_app_k w (wr.alloc (.cells #[.int .i64 (k : Int)] 3)) (by rfl) _ _ (by rfl) _ _ (by rfl) HOB.out (by have := HT.out.size; simp; omega) wr.heap.size k (by rfl) HB.out (by have := HLN.out; omega) ?_)
    intro v7 w7 o7 t7 h7
    have HO7 := Lib.hid o7
    have HT7 := Lib.hid ((HT.out.trans HTB.out (by simp)).trans t7 (fun y hy => .inr (HO.out.2 y (by simpa using hy))))
    clear o7 t7 h7
    go_wp2_with fail
    go_roundw
    case rel => exact ⟨i + 1, by omega, by go_num, by rw [HS.out]; exact HO7.out, HT7.out⟩
    case measure => simp [intOf]; omega
  ·have HFI := Lib.hid (show s.act.take i = s.act from List.take_of_length_le (by rw [← HN.out]; omega))
   rw [HFI.out] at HO
   have HD1 := Lib.hid (HD.out.touch0 HT.out)
   obtain ⟨aK, kK, hvk, _, _, _⟩ := HO.out.form
   subst hvk
   have HV := Lib.hid (HD.out.set_vaN (HT.out.mono (by simp)) (show OwnK w0 wr (Value.slice aK (stay s.act x).length kK) (stay s.act x) from ⟨HO.out.1, fun g hg => by have := HO.out.2 g hg; have := HZ.out; omega⟩) (fun g hg => .inr (HO.out.2 g (by simpa using hg))))
   have HVS := Lib.hid (show RStep w (wr.setCell ⟨h, 18, none⟩ (Value.slice aK (stay s.act x).length kK)) h b { b with va := (Value.slice aK (stay s.act x).length kK) } from RStep.own 6 HV.out.2 (fun j hj => by match j, hj with | 0, _ => rfl | 1, _ => rfl | 2, _ => rfl | 3, _ => rfl | 4, _ => rfl | 5, _ => rfl | 6, hj => exact absurd rfl hj | 7, _ => rfl | _ + 8, _ => rfl) (fun g hg => .inr (HO.out.2 g (by simpa [rpart] using hg))))
   have HNB := Lib.hid (HV.out.1.set_nb 0)
   have HNS := Lib.hid (HVS.out.trans (RStep.here HNB.out.2))
   have HRC := Lib.hid (rrec_any w0 _ h _ _ _ HNB.out.1 (by have := HNS.out.t.size; have := HZ.out; omega) HL.out y)
   have f18 := HD1.out.free 18
   have f19 := HD1.out.free 19
   have d19 := HD1.out.at 19 _ rfl
   clear hat
   go_wp2_with fail
   refine HRC.out.mono ?_
   rintro e w4 ⟨rfl, b4, d4, s4⟩
   have HD4 := Lib.hid d4
   have HS4 := Lib.hid (HNS.out.trans s4)
   clear d4 s4
   go_wp2_with fail
   go_ret
   exact ⟨rfl, _, HD4.out, HS4.out⟩
set_option maxRecDepth 100000 in
set_option maxHeartbeats 4000000 in
theorem rstart_no (w0 w : World) (h : Nat) (b : RV) (s : DS) (T : List Ad) (d : Rdl w0 w h b s T) (rf : Ref s T) (now : Int) (draw : Int) (hc : s.cand now = []) :
  Calls Tryz.prog 36 #[.pointer (some ⟨h, 0, none⟩), .int .u64 now, .int .u64 draw] w fun e w' => e = .returned (.tuple #[.int .i64 0, .bool false]) ∧ Touch [] w w' := by
 have HC := Lib.hid (rcand_any w0 w h b s T d rf now)
 rw [hc] at HC
 have HZL := Lib.hid (headA []).len
 have HZO := Lib.hid (headA []).one
 clear d hc rf
 generalize headA [] = za at *
 go_enter Tryz.func36, Tryz.ntmps36
 go_wp2_with fail
 refine HC.out.mono ?_
 rintro e w1 ⟨rfl, t1⟩
 have HT1 := Lib.hid t1
 have HN := Lib.hid (heap_alloc_new w1 (.cells (adr false (List.replicate 16 0)).toArray 40))
 have HA := Lib.hid ((Touch.refl [] w1).alloc (.cells (adr false (List.replicate 16 0)).toArray 40))
 clear t1 HC
 go_wp2_with ((with_reducible refine at_store 40 ?_); refine wpList_store_into rfl 40 _ _ rfl w1.heap.size 40 _ za.cells rfl rfl HN.out (by rw [HZL.out]; rfl) (by rw [size31, HZL.out]) HZO.out ?_)
 intro w2 h2 t2 z2
 have HT2 := Lib.hid (HT1.out.trans (HA.out.trans t2 (by intro y hy; right; simp at hy; omega)) (by simp))
 clear h2 t2 z2 HN HA
 go_wp2_with fail
 go_ret2
 exact ⟨rfl, HT2.out⟩
set_option maxRecDepth 100000 in
set_option maxHeartbeats 8000000 in
theorem rstart_yes (w0 w : World) (h : Nat) (b : RV) (s : DS) (T : List Ad) (d : Rdl w0 w h b s T) (rf : Ref s T) (hz : w0.heap.size ≤ w.heap.size) (hal : s.act.length ≤ 1000000) (hcf : s.c.valid = true) (now draw : Int) (hn : 0 ≤ now ∧ now ≤ maxT) (hd : 0 ≤ draw ∧ draw ≤ maxT) (a : Ad) (r : List Ad) (hc : s.cand now = a :: r) :
  Calls Tryz.prog 36 #[.pointer (some ⟨h, 0, none⟩), .int .u64 now, .int .u64 draw] w fun e w' => e = .returned (.tuple #[.int .i64 ((s.S.length + 1 : Nat) : Int), .bool true]) ∧ ∃ b', Rdl w0 w' h b' (s.startS now draw a) (T ++ [a]) ∧ RStep w w' h b b' := by
 have HC := Lib.hid (rcand_any w0 w h b s T d rf now)
 obtain ⟨hrem, hS64, _⟩ := cand_rem hc
 have HR := Lib.hid (show remR s.c.ff s.A T = a :: r by rw [rf.rem]; exact hrem)
 rw [hc] at HC
 have HXL := Lib.hid a.len
 have HD := Lib.hid d
 have HZ := Lib.hid hz
 have HNW := Lib.hid hn
 have HDR := Lib.hid hd
 have HCF := Lib.hid (s.c.valid_iff hcf)
 have HAL := Lib.hid hal
 have HNA := Lib.hid rf.nA
 have HNT := Lib.hid rf.nT
 simp only [headA, List.isEmpty_cons, Bool.not_false] at HC
 obtain ⟨m, hm⟩ : ∃ m, m = s.S.length := ⟨_, rfl⟩
 obtain ⟨n, hn0⟩ : ∃ n, n = s.act.length := ⟨_, rfl⟩
 rw [← hm] at hS64 ⊢
 have HM := Lib.hid hm
 have HNN := Lib.hid hn0
 clear d hc hn hz hd hcf hrem hm rf hn0 hal
 go_enter Tryz.func36, Tryz.ntmps36
 go_wp2_with fail
 refine HC.out.mono ?_
 rintro e w1 ⟨rfl, t1⟩
 have HT1 := Lib.hid t1
 have HN := Lib.hid (heap_alloc_new w1 (.cells (adr false (List.replicate 16 0)).toArray 40))
 have HA := Lib.hid ((Touch.refl [] w1).alloc (.cells (adr false (List.replicate 16 0)).toArray 40))
 clear t1 HC
 go_wp2_with ((with_reducible refine at_store 40 ?_); refine wpList_store_into rfl 40 _ _ rfl w1.heap.size 40 _ a.cells rfl rfl HN.out (by rw [HXL.out]; rfl) (by rw [size31, HXL.out]) a.one ?_)
 intro w2 h2 t2 z2
 have t2' := HA.out.trans t2 (by intro y hy; right; simp at hy; omega)
 have HT2 := Lib.hid (HT1.out.trans t2' (by simp))
 have HD2 := Lib.hid (HD.out.touch0 HT2.out)
 have HR2 := Lib.hid (range_block h2)
 have HHW := Lib.hid (show ∀ i, ∀ g ∈ rpart h b i, g ≠ w1.heap.size from fun i g hg => by have := ((HD.out.touch0 HT1.out).lt i g hg).2; omega)
 have HTK := Lib.hid (rtake_any (rowF b s) w0 w2 h b.vs b.vt s.c.ff s.A T HD2.out.queue (by have := HZ.out; have := HT2.out.size; omega) HNA.out HNT.out)
 rw [HR.out] at HTK
 simp only [headA, List.isEmpty_cons, Bool.not_false, Bool.false_eq_true, if_false] at HTK
 have hgs : w1.heap.size < w2.heap.size := (Array.getElem?_eq_some_iff.1 h2).1
 have HGS := Lib.hid hgs
 generalize w1.heap.size = g10 at *
 clear h2 t2 z2 t2' HN HA hgs
 go_wp2_with fail
 refine HTK.out.mono ?_
 rintro e w4 ⟨rfl, vt3, q3, t3, hv3⟩
 have d3 := HD2.out.ofTake q3 t3 hv3
 have HD4 := Lib.hid (d3.1.setK (takeK s.A s.K a))
 have HS4 := Lib.hid ((RStep.of0 (h := h) (b := b) HT2.out).trans d3.2)
 have HZ4 := Lib.hid (show w0.heap.size ≤ w4.heap.size by have := HZ.out; have := HT2.out.size; have := t3.size; omega)
 have HR4 := Lib.hid (t3.range HR2.out (by intro hm; simp only [List.mem_cons, Option.mem_toList] at hm; rcases hm with e | e; (exact HHW.out 0 g10 (by simp [rpart, e]) rfl); (exact HHW.out 4 g10 (by simp [rpart, e]) rfl)))
 have HBN := Lib.hid (show ∀ i, ∀ g ∈ rpart h { b with vt := vt3 } i, g ≠ g10 from by
  intro i g hg e
  by_cases hi : i = 4
  ·subst hi
   simp [rpart] at hg
   rcases hv3 with e2 | ⟨k, e2, hk⟩
   ·exact HHW.out 4 g (by rw [e2] at hg; simp [rpart, hg]) e
   ·rw [e2] at hg; cases hg; have := HGS.out; omega
  ·exact HHW.out i g (by match i, hi with | 0, _ => exact hg | 1, _ => exact hg | 2, _ => exact hg | 3, _ => exact hg | 4, hi => exact absurd rfl hi | 5, _ => exact hg | 6, _ => exact hg | 7, _ => exact hg | _ + 8, _ => exact hg) e)
 clear q3 t3 hv3 HTK d3 HD2 HR2 HHW
 go_wp2_with fail
 obtain ⟨aS, kS, hvs, _, _, _⟩ := HD4.out.ovp.form
 rw [← HM.out] at hvs
 have HBF := Lib.hid hvs
 refine wp_region_F (S := Touch b.vp.ownBlock.toList w4.drew) [10] (by kernel_rfl) ?_
 change wpAnyF _ _ _ _ _ _ _ _ _ w4.drew
 have HDX := Lib.hid (HD4.out.touch0 ((Touch.refl [] w4).drew))
 have HRX := Lib.hid (((Touch.refl [] w4).drew).range HR4.out (by simp))
 have HSX := Lib.hid (HS4.out.trans (RStep.of0 ((Touch.refl [] w4).drew)))
 have hzX : w0.heap.size ≤ w4.drew.heap.size := HZ4.out
 have HZX := Lib.hid hzX
 generalize w4.drew = X at *
 have hS := Touch.refl b.vp.ownBlock.toList X
 have c9 := HDX.out.at 17 _ rfl
 rw [HBF.out] at c9
 have hhb : h ∉ b.vp.ownBlock.toList := by intro hm; exact HDX.out.apart 0 5 (by decide) h (by simp [rpart]) (by simpa [rpart] using hm)
 have hgb2 : g10 ∉ b.vp.ownBlock.toList := by intro hm; exact HBN.out 5 g10 (by simpa [rpart] using hm) rfl
 have HO := Lib.hid (show OwnA w0 X b.vp s.S from HDX.out.ovp)
 have hl1 : (s.S.length + 1) * 17 ≤ 140737488355328 := by rw [← HM.out]; omega
 clear hvs
 refine tkF 0 (.pointer (some ⟨h, 0, none⟩)) ?_
 refine tkF 1 (.pointer (some ⟨h, 0, none⟩)) ?_
 refine tkF 2 (.pointer (some ⟨h, 0, none⟩)) ?_
 refine tkF 3 (.pointer (some ⟨h, 17, none⟩)) ?_
 refine tkF 4 (.slice aS m kS) ?_ (hy := Or.inl ⟨by rfl, fun w' hw => by (have q := hw.cell c9 hhb; go_simp)⟩)
 refine tkF 5 (.agg a.cells.toArray) ?_ (hy := Or.inl ⟨by rfl, fun w' hw => exec_load_agg _ 40 _ rfl _ _ rfl a.cells _ (hw.range HRX.out hgb2) Tryz.underlying40 rfl (by rw [size31, HXL.out])⟩)
 refine wpAnyF_ready (rs := [6]) (by kernel_rfl) (by simp) ?_
 refine cnF rfl (fun K hK => ?_) AllReadyF.nil
 refine step_of_list rfl ?_
 refine wpList_build_ad rfl _ rfl a (by rfl) ?_
 have r6 := rd_newA X a 40
 have tA := (Touch.refl [] X).alloc (.cells [a.cells].flatten.toArray 40)
 have hS2 := hS.trans tA (by simp)
 have hO6 := (show OwnA w0 _ b.vp s.S from Own.touch HO.out tA (by simp))
 have zA : (X.alloc (.cells [a.cells].flatten.toArray 40)).heap.size = X.heap.size + 1 := by simp
 refine ⟨rfl, hK.out _ _ hS2 (fun _ => ?_)⟩
 clear hK K hS
 have hS := hS2
 clear hS2
 generalize hX1 : X.alloc (.cells [a.cells].flatten.toArray 40) = X1 at *
 clear hX1
 try simp only [Act.put, sT, s0, sS]
 refine wpAnyF_ready (rs := [7]) (by kernel_rfl) (by simp) ?_
 refine cnF rfl (fun K hK => ?_) AllReadyF.nil
 refine step_of_list rfl ?_
 refine wpList_app_ads w0 X1 rfl _ _ rfl b.vp s.S (by rw [HBF.out]; rfl) hO6 (by omega) _ _ [a] rfl r6 (by simp only [List.length_singleton]; exact hl1) ?_
 intro v7 w7 o7 t7 h7
 have hS2 := hS.trans t7 (fun y hy => .inl hy)
 refine ⟨rfl, hK.out _ _ hS2 (fun _ => ?_)⟩
 clear hK K hS
 have hS := hS2
 clear hS2
 try simp only [Act.put, sT, s0, sS]
 refine tkF 8 (.pointer (some ⟨h, 0, none⟩)) ?_
 refine tkF 9 (.pointer (some ⟨h, 17, none⟩)) ?_
 refine wpAnyF_ready (rs := [10]) (by kernel_rfl) (by simp) ?_
 refine clF rfl (by simp) (fun K hK => ?_) AllReadyF.nil
 have q1 := hS.cell c9 hhb
 have g0 : w7.frozen? ⟨h, 17, none⟩ = false := by simp [World.frozen?, hS.at HDX.out.cell hhb]
 obtain ⟨a7, k7, hv7, _, _, _⟩ := o7.form
 rw [List.length_append, List.length_singleton, ← HM.out] at hv7
 have h8 : v7.ownBlock = b.vp.ownBlock ∨ ∃ k, v7.ownBlock = some k ∧ X.heap.size ≤ k := by rcases h7 with e | e; exact .inl e; exact .inr ⟨_, e, by omega⟩
 have HPU := HDX.out.set_vp hS o7 h8
 subst hv7
 have HFIN := Lib.hid (And.intro HPU.1 (HSX.out.trans (RStep.own (b' := { b with vt := vt3, vp := .slice a7 (m + 1) k7 }) 5 HPU.2 (fun j hj => by match j, hj with | 0, _ => rfl | 1, _ => rfl | 2, _ => rfl | 3, _ => rfl | 4, _ => rfl | 5, hj => exact absurd rfl hj | 6, _ => rfl | 7, _ => rfl | _ + 8, _ => rfl) (own_new h8))))
 clear HPU h7 t7
 go_simp
 refine hK.out _ _ ?_
 clear hK K
 try simp only [Act.put, sT, s0, sS]
 refine wpAnyF_done (by kernel_rfl) ?_ _
 try simp only [Act.put, sT, s0, sS]
 clear c9 hhb hgb2 hl1 hzX
 generalize w7.setCell ⟨h, 17, none⟩ (.slice a7 (m + 1) k7) = w5 at *
 have HD5 := Lib.hid HFIN.out.1
 have HS5 := Lib.hid HFIN.out.2
 have HZ5 := Lib.hid (show w0.heap.size ≤ w5.heap.size by have := HZ.out; have := HS5.out.t.size; omega)
 clear HFIN
 go_wp2_with fail
 obtain ⟨aA, kA, hva, _, _, _⟩ := HD5.out.ova.form
 rw [← HNN.out] at hva
 have HBF := Lib.hid hva
 refine wp_region_F (S := Touch b.va.ownBlock.toList w5.drew) [14] (by kernel_rfl) ?_
 change wpAnyF _ _ _ _ _ _ _ _ _ w5.drew
 have HDY := Lib.hid (HD5.out.touch0 ((Touch.refl [] w5).drew))
 have HSY := Lib.hid (HS5.out.trans (RStep.of0 ((Touch.refl [] w5).drew)))
 have hzX : w0.heap.size ≤ w5.drew.heap.size := HZ5.out
 generalize w5.drew = X at *
 have hS := Touch.refl b.va.ownBlock.toList X
 have c9 := HDY.out.at 18 _ rfl
 have c17 := HDY.out.at 17 _ rfl
 have hvb : (show RV from { b with vt := vt3, vp := .slice a7 (m + 1) k7 }).va = .slice aA n kA := HBF.out
 have HO := Lib.hid (show OwnK w0 X (.slice aA n kA) s.act by rw [← HBF.out]; exact HDY.out.ova)
 have c9 : X.cell? ⟨h, 18, none⟩ = some (.slice aA n kA) := by rw [← HBF.out]; exact c9
 have hhb : h ∉ b.va.ownBlock.toList := by intro hm; exact HDY.out.apart 0 6 (by decide) h (by simp [rpart]) (by simpa [rpart] using hm)
 clear hva hvb
 refine tkF 0 (.pointer (some ⟨h, 0, none⟩)) ?_
 refine tkF 1 (.pointer (some ⟨h, 0, none⟩)) ?_
 refine tkF 2 (.pointer (some ⟨h, 0, none⟩)) ?_
 refine tkF 3 (.pointer (some ⟨h, 18, none⟩)) ?_
 refine tkF 4 (.slice aA n kA) ?_ (hy := Or.inl ⟨by rfl, fun w' hw => by (have q := hw.cell c9 hhb; go_simp)⟩)
 refine tkF 5 (.pointer (some ⟨h, 0, none⟩)) ?_
 refine tkF 6 (.pointer (some ⟨h, 0, none⟩)) ?_
 refine tkF 7 (.pointer (some ⟨h, 17, none⟩)) ?_
 refine tkF 8 (.slice a7 (m + 1) k7) ?_ (hy := Or.inl ⟨by rfl, fun w' hw => by (have q := hw.cell c17 hhb; go_simp)⟩)
 refine tkF 9 (.int .i64 ((m + 1 : Nat) : Int)) ?_
 refine wpAnyF_ready (rs := [10]) (by kernel_rfl) (by simp) ?_
 refine cnF rfl (fun K hK => ?_) AllReadyF.nil
 go_simp
 have tA := (Touch.refl [] X).alloc (.cells #[.int .i64 ((m : Int) + 1)] 3)
 have hB : (X.alloc (.cells #[.int .i64 ((m : Int) + 1)] 3)).cell? ⟨X.heap.size, 0, none⟩ = some (.int .i64 ((m : Int) + 1)) := by rw [cell_of_row _ _ _ _ _ _ (heap_alloc_new X _)]; rfl
 have hS2 := hS.trans tA (by simp)
 have hO6 := HO.out.touch tA (by simp)
 have zA : (X.alloc (.cells #[.int .i64 ((m : Int) + 1)] 3)).heap.size = X.heap.size + 1 := by simp
 refine hK.out _ _ hS2 (fun _ => ?_)
 clear hK K hS
 have hS := hS2
 clear hS2
 generalize hX1 : X.alloc (.cells #[.int .i64 ((m : Int) + 1)] 3) = X1 at *
 clear hX1
 try simp only [Act.put, sT, s0, sS]
 refine wpAnyF_ready (rs := [11]) (by kernel_rfl) (by simp) ?_
 refine cnF rfl (fun K hK => ?_) AllReadyF.nil
 refine step_of_list rfl ?_
 refine wpList_app_k w0 X1 (by rfl) _ _ (by rfl) (.slice aA n kA) s.act (by rfl) hO6 (by omega) X.heap.size (m + 1) (by rfl) (by rw [hB]; simp) (by have := HAL.out; omega) ?_
 intro v8 w8 o8 t8 h8
 have t8 : Touch b.va.ownBlock.toList X1 w8 := by rw [HBF.out]; exact t8
 have hS2 := hS.trans t8 (fun y hy => .inl hy)
 refine ⟨rfl, hK.out _ _ hS2 (fun _ => ?_)⟩
 clear hK K hS
 have hS := hS2
 clear hS2
 try simp only [Act.put, sT, s0, sS]
 refine tkF 12 (.pointer (some ⟨h, 0, none⟩)) ?_
 refine tkF 13 (.pointer (some ⟨h, 18, none⟩)) ?_
 refine wpAnyF_ready (rs := [14]) (by kernel_rfl) (by simp) ?_
 refine clF rfl (by simp) (fun K hK => ?_) AllReadyF.nil
 have q1 := hS.cell c9 hhb
 have g0 : w8.frozen? ⟨h, 18, none⟩ = false := by simp [World.frozen?, hS.at HDY.out.cell hhb]
 obtain ⟨a8, k8, hv8, _, _, _⟩ := o8.form
 rw [List.length_append, List.length_singleton, ← HNN.out] at hv8
 have h9 : v8.ownBlock = b.va.ownBlock ∨ ∃ k, v8.ownBlock = some k ∧ X.heap.size ≤ k := by rw [HBF.out]; rcases h8 with e | e; exact .inl e; exact .inr ⟨_, e, by omega⟩
 have HPU := HDY.out.set_va hS o8 h9
 subst hv8
 have HFI2 := Lib.hid (And.intro HPU.1 (HSY.out.trans (RStep.own (b' := { b with vt := vt3, vp := .slice a7 (m + 1) k7, va := .slice a8 (n + 1) k8 }) 6 HPU.2 (fun j hj => by match j, hj with | 0, _ => rfl | 1, _ => rfl | 2, _ => rfl | 3, _ => rfl | 4, _ => rfl | 5, _ => rfl | 6, hj => exact absurd rfl hj | 7, _ => rfl | _ + 8, _ => rfl) (own_new h9))))
 clear HPU h8 t8
 go_simp
 refine hK.out _ _ ?_
 clear hK K
 try simp only [Act.put, sT, s0, sS]
 refine wpAnyF_done (by kernel_rfl) ?_ _
 try simp only [Act.put, sT, s0, sS]
 clear c9 c17 hhb hzX
 generalize w8.setCell ⟨h, 18, none⟩ (.slice a8 (n + 1) k8) = w6 at *
 have HD6 := Lib.hid HFI2.out.1
 have HS6 := Lib.hid HFI2.out.2
 clear HFI2
 go_wp2_with fail
 refine wp_region_F (S := Touch [] w6.drew) [19] (by kernel_rfl) ?_
 change wpAnyF _ _ _ _ _ _ _ _ _ w6.drew
 have HDV := Lib.hid (HD6.out.touch0 ((Touch.refl [] w6).drew))
 have HSV := Lib.hid (HS6.out.trans (RStep.of0 ((Touch.refl [] w6).drew)))
 generalize w6.drew = V at *
 have hS := Touch.refl [] V
 have c1 := HDV.out.at 1 _ rfl
 have c2 := HDV.out.at 2 _ rfl
 have c8 := HDV.out.at 19 _ rfl
 obtain ⟨_, ⟨ha1, ha2⟩, ⟨hj1, hj2⟩, _, _⟩ := HCF.out
 have hdr := HDR.out
 have wj := wrap_u64 (n := s.c.jit + 1) (by omega) (by unfold maxT; omega)
 have hm1 := Int.emod_nonneg draw (show s.c.jit + 1 ≠ 0 by omega)
 have hm2 := Int.emod_lt_of_pos draw (show 0 < s.c.jit + 1 by omega)
 have tm := Int.tmod_eq_emod_of_nonneg (b := s.c.jit + 1) hdr.1
 have wa := wrap_u64 (n := s.c.ad + draw % (s.c.jit + 1)) (by omega) (by unfold maxT; omega)
 have hj0 : (s.c.jit + 1 == 0) = false := by simp; omega
 have hj3 : ¬ (s.c.jit + 1 = 0) := by omega
 have HAT := Lib.hid (radd01 now (s.c.ad + draw % (s.c.jit + 1)) V HNW.out ⟨by omega, by unfold maxT; omega⟩)
 refine tkF 0 (.pointer (some ⟨h, 0, none⟩)) ?_
 refine tkF 1 (.int .u64 now) ?_
 refine tkF 2 (.pointer (some ⟨h, 0, none⟩)) ?_
 refine tkF 3 (.pointer (some ⟨h, 0, none⟩)) ?_
 refine tkF 4 (.pointer (some ⟨h, 0, none⟩)) ?_
 refine tkF 5 (.pointer (some ⟨h, 1, none⟩)) ?_
 refine tkF 6 (.int .u64 s.c.ad) ?_ (hy := Or.inl ⟨by rfl, fun w' hw => by (have q := hw.cell c1 (by simp); go_simp)⟩)
 refine tkF 7 (.int .u64 draw) ?_
 refine tkF 8 (.pointer (some ⟨h, 0, none⟩)) ?_
 refine tkF 9 (.pointer (some ⟨h, 0, none⟩)) ?_
 refine tkF 10 (.pointer (some ⟨h, 0, none⟩)) ?_
 refine tkF 11 (.pointer (some ⟨h, 2, none⟩)) ?_
 refine tkF 12 (.int .u64 s.c.jit) ?_ (hy := Or.inl ⟨by rfl, fun w' hw => by (have q := hw.cell c2 (by simp); go_simp)⟩)
 refine tkF 13 (.int .u64 (s.c.jit + 1)) ?_ (hy := Or.inl ⟨by rfl, fun w' hw => by (have q0 := wj; go_simp)⟩)
 refine tkF 14 (.int .u64 (draw % (s.c.jit + 1))) ?_ (hy := Or.inl ⟨by rfl, fun w' hw => by (have q0 := tm; have q1 := hj0; have q2 := hj3; have q3 := hdr.1; go_simp)⟩)
 refine tkF 15 (.int .u64 (s.c.ad + draw % (s.c.jit + 1))) ?_ (hy := Or.inl ⟨by rfl, fun w' hw => by (have q0 := wa; go_simp)⟩)
 refine wpAnyF_ready (rs := [16]) (by kernel_rfl) (by simp) ?_
 refine cnF rfl (fun K hK => ?_) AllReadyF.nil
 go_simp
 refine HAT.out.mono ?_
 rintro e _ ⟨rfl, rfl⟩
 refine hK.out _ _ hS (fun _ => ?_)
 clear hK K
 try simp only [Act.put, sT, s0, sS]
 refine tkF 17 (.pointer (some ⟨h, 0, none⟩)) ?_
 refine tkF 18 (.pointer (some ⟨h, 19, none⟩)) ?_
 refine wpAnyF_ready (rs := [19]) (by kernel_rfl) (by simp) ?_
 refine clF rfl (by simp) (fun K hK => ?_) AllReadyF.nil
 have HPU := HDV.out.set_nb (addT now (s.c.ad + draw % (s.c.jit + 1)))
 have q1 := c8
 have g0 := HDV.out.free 19
 have HFI3 := Lib.hid (And.intro HPU.1 (HSV.out.trans (RStep.here (b := { b with vt := vt3, vp := .slice a7 (m + 1) k7, va := .slice a8 (n + 1) k8 }) HPU.2)))
 clear HPU
 go_simp
 refine hK.out _ _ ?_
 clear hK K
 try simp only [Act.put, sT, s0, sS]
 refine wpAnyF_done (by kernel_rfl) ?_ _
 try simp only [Act.put, sT, s0, sS]
 clear c1 c2 c8 ha1 ha2 hj1 hj2 hdr wj hm1 hm2 tm wa hj0 hj3 HAT
 have c17 := HFI3.out.1.at 17 _ rfl
 go_wp2_with fail
 go_ret2
 refine ⟨rfl, _, ?_, HFI3.out.2⟩
 unfold DS.startS
 rw [← HM.out]
 exact HFI3.out.1
end Go.Proofs.YtiklhaajhdephaaGreatDoor

/-
 The contracts of the reference dialer's NextStart and Exhausted.
-/
namespace Go.Proofs.YtiklhaajhdephaaGreatDoor
open Go.RowKit
set_option linter.unusedVariables false
set_option linter.unusedSimpArgs false

theorem next_e {s : DS} {R : List Ad} (hR : remP s.c.ff s.A s.K = R) {c0 c3 c4 e : Bool} (h0 : R.isEmpty = c0) (h3 : decide (s.c.mc ≤ (s.act.length : Int)) = c3) (h4 : decide (64 ≤ s.S.length) = c4) (he : ((c0 || c3) || c4) = e) :
  s.next.isEmpty = e := by
 unfold DS.next
 rw [hR]
 subst h0 h3 h4 he
 by_cases a : s.c.mc ≤ (s.act.length : Int) <;> by_cases b : 64 ≤ s.S.length <;> simp [a, b]
theorem addT_ge {a : Int} (h : a ≤ maxT) : a ≤ addT a 1 := by unfold addT maxT at *; split <;> omega
theorem ns_ref {s : DS} {now : Int} (hf : s.p.Fit) (hn : now ≤ maxT) (hne : s.next.isEmpty = false) :
  s.nextStart now = if s.ready (max s.nb (addT now 1)) = true then max s.nb (addT now 1) else match s.p.dl with | none => maxT | some u => max (max s.nb (addT now 1)) u := by
 have hM : now ≤ max s.nb (addT now 1) := by have := addT_ge hn; omega
 unfold DS.nextStart
 rw [hne]
 generalize max s.nb (addT now 1) = M at *
 simp only [Bool.false_eq_true, if_false]
 unfold DS.ready PS.ready
 cases hl : s.lit with
 | true => simp
 | false =>
  cases hc : s.p.complete with
  | true => simp
  | false =>
   by_cases h6 : s.p.q6.l = []
   ·by_cases h4 : s.p.q4.l = []
    ·simp [h6, h4]
     cases s.p.dl <;> rfl
    ·have h4a := hf.four h4
     have h6a : s.p.q6.a = false := by
      unfold PS.complete at hc
      rw [h4a] at hc
      simpa using hc
     have hd : s.p.dl = some (addT s.p.q4.t s.p.delay) := by
      unfold PS.dl
      rw [if_neg (by simp [h6a, h4])]
     rw [hd]
     by_cases a : addT s.p.q4.t s.p.delay ≤ now
     ·have b : addT s.p.q4.t s.p.delay ≤ M := by omega
      simp [h6, h4, a, b]
     ·by_cases b : addT s.p.q4.t s.p.delay ≤ M
      ·have e : max M (addT s.p.q4.t s.p.delay) = M := by omega
       simp [h6, h4, a, b, e]
      ·simp [h6, h4, a, b]
   ·simp [h6]
set_option maxRecDepth 100000 in
set_option maxHeartbeats 8000000 in
theorem rns_any (w0 w : World) (h : Nat) (b : RV) (s : DS) (T : List Ad) (d : Rdl w0 w h b s T) (rf : Ref s T) (now : Int) (hn : 0 ≤ now ∧ now ≤ maxT) (r : Int) (hr : s.nextStart now = r) :
  Calls Tryz.prog 51 #[.pointer (some ⟨h, 0, none⟩), .int .u64 now] w fun e w' => e = .returned (.int .u64 r) ∧ Touch [] w w' := by
 have HRM := Lib.hid (fun (W : World) (D : Rdl w0 W h b s T) => (rrem_any (rowF b s) w0 W h b.vs b.vt s.c.ff s.A T D.queue rf.nA rf.nT))
 rw [rf.rem] at HRM
 have HFIT := Lib.hid rf.fit
 have HD := Lib.hid d
 have HHN := Lib.hid hn
 obtain ⟨R, hR⟩ : ∃ R, remP s.c.ff s.A s.K = R := ⟨_, rfl⟩
 have HR := Lib.hid hR
 rw [hR] at HRM
 obtain ⟨n, hn0⟩ : ∃ n, n = s.act.length := ⟨_, rfl⟩
 obtain ⟨m, hm⟩ : ∃ m, m = s.S.length := ⟨_, rfl⟩
 obtain ⟨nR, hnR⟩ : ∃ nR, nR = R.length := ⟨_, rfl⟩
 have HNR := Lib.hid hnR
 obtain ⟨aS, kS, hvs, _, _, _⟩ := HD.out.ovp.form
 obtain ⟨aA, kA, hva, _, _, _⟩ := HD.out.ova.form
 have c4 := HD.out.at 4 _ rfl
 have c17 := HD.out.at 17 _ rfl
 have c18 := HD.out.at 18 _ rfl
 rw [hvs, ← hm] at c17
 rw [hva, ← hn0] at c18
 obtain ⟨q0, h0⟩ : ∃ q0, ((nR : Int) == 0) = q0 := ⟨_, rfl⟩
 obtain ⟨q3, h3⟩ : ∃ q3, decide (s.c.mc ≤ (n : Int)) = q3 := ⟨_, rfl⟩
 obtain ⟨q4, h4⟩ : ∃ q4, decide (64 ≤ (m : Int)) = q4 := ⟨_, rfl⟩
 obtain ⟨e1, he1⟩ : ∃ e1, (q0 || q3) = e1 := ⟨_, rfl⟩
 obtain ⟨e2, he2⟩ : ∃ e2, (e1 || q4) = e2 := ⟨_, rfl⟩
 have h4n : decide (64 ≤ s.S.length) = q4 := by rw [← h4, hm]; exact decide_eq_decide.2 (by omega)
 have h0n : R.isEmpty = q0 := by rw [← h0, hnR]; cases R <;> simp; omega
 have HE := Lib.hid (next_e hR h0n (by rw [← hn0]; exact h3) h4n (show ((q0 || q3) || q4) = e2 by rw [← he2, ← he1]))
 have HNX := Lib.hid (fun hne => ns_ref (s := s) (now := now) rf.fit hn.2 hne)
 have HRR := Lib.hid hr
 clear d rf hR hn hnR hn0 hm hvs hva h4n h0n hr
 go_enter Tryz.func51, Tryz.ntmps51
 go_wp2_with fail
 refine wp_region_held (S := Touch [] w.drew) (by kernel_rfl) ?_
 change wpAnyH _ _ _ _ _ _ _ _ w.drew
 have tD := (Touch.refl [] w).drew
 have c4 := tD.cell c4 (by simp)
 have c17 := tD.cell c17 (by simp)
 have c18 := tD.cell c18 (by simp)
 have HDX := Lib.hid (HD.out.touch0 tD)
 have HTD := Lib.hid tD
 generalize w.drew = W at *
 clear tD
 have hS := Touch.refl [] W
 refine tkH 0 (.pointer (some ⟨h, 0, none⟩)) ?_
 refine tkH 1 (.pointer (some ⟨h, 0, none⟩)) ?_
 refine tkH 2 (.pointer (some ⟨h, 14, none⟩)) ?_
 refine wpAnyH_ready (rs := [3]) (by kernel_rfl) (by simp) ?_
 refine cnH rfl (fun K hK => ?_) AllReadyH.nil
 go_simp
 refine (HRM.out _ (HDX.out.touch0 hS)).mono ?_
 rintro e wQ ⟨vQ, rfl, oQ, tQ⟩
 have hS2 := hS.trans tQ (by simp)
 obtain ⟨aR, kR, hvR, _, _, _⟩ := oQ.form
 rw [← HNR.out] at hvR
 subst hvR
 refine hK.out _ _ hS2 (fun _ => ?_)
 clear hK K hS tQ oQ
 have hS := hS2
 clear hS2
 try simp only [Act.put, sT, s0, sS]
 refine tkH 4 (.int .i64 (nR : Nat)) ?_
 refine tkH 5 (.bool q0) ?_ (hy := Or.inl ⟨by rfl, fun w' hw => by (have q0 := h0; go_simp)⟩)
 refine tkH 6 (.bool q0) ?_
 refine tkH 7 ((bif q0 then undef else .pointer (some ⟨h, 0, none⟩))) ?_ (hy := by cases q0; (simp only [cond_false, cond_true]; exact Or.inl ⟨by rfl, fun w' hw => by go_simp⟩); (simp only [cond_false, cond_true]; exact Or.inr ⟨by rfl, rfl⟩))
 refine tkH 8 ((bif q0 then undef else .pointer (some ⟨h, 0, none⟩))) ?_ (hy := by cases q0; (simp only [cond_false, cond_true]; exact Or.inl ⟨by rfl, fun w' hw => by go_simp⟩); (simp only [cond_false, cond_true]; exact Or.inr ⟨by rfl, rfl⟩))
 refine tkH 9 ((bif q0 then undef else .pointer (some ⟨h, 18, none⟩))) ?_ (hy := by cases q0; (simp only [cond_false, cond_true]; exact Or.inl ⟨by rfl, fun w' hw => by go_simp⟩); (simp only [cond_false, cond_true]; exact Or.inr ⟨by rfl, rfl⟩))
 refine tkH 10 ((bif q0 then undef else .slice aA n kA)) ?_ (hy := by cases q0; (simp only [cond_false, cond_true]; exact Or.inl ⟨by rfl, fun w' hw => by (have q := hw.cell c18 (by simp); go_simp)⟩); (simp only [cond_false, cond_true]; exact Or.inr ⟨by rfl, rfl⟩))
 refine tkH 11 ((bif q0 then undef else .int .i64 (n : Nat))) ?_ (hy := by cases q0; (simp only [cond_false, cond_true]; exact Or.inl ⟨by rfl, fun w' hw => by go_simp⟩); (simp only [cond_false, cond_true]; exact Or.inr ⟨by rfl, rfl⟩))
 refine tkH 12 ((bif q0 then undef else .pointer (some ⟨h, 0, none⟩))) ?_ (hy := by cases q0; (simp only [cond_false, cond_true]; exact Or.inl ⟨by rfl, fun w' hw => by go_simp⟩); (simp only [cond_false, cond_true]; exact Or.inr ⟨by rfl, rfl⟩))
 refine tkH 13 ((bif q0 then undef else .pointer (some ⟨h, 0, none⟩))) ?_ (hy := by cases q0; (simp only [cond_false, cond_true]; exact Or.inl ⟨by rfl, fun w' hw => by go_simp⟩); (simp only [cond_false, cond_true]; exact Or.inr ⟨by rfl, rfl⟩))
 refine tkH 14 ((bif q0 then undef else .pointer (some ⟨h, 0, none⟩))) ?_ (hy := by cases q0; (simp only [cond_false, cond_true]; exact Or.inl ⟨by rfl, fun w' hw => by go_simp⟩); (simp only [cond_false, cond_true]; exact Or.inr ⟨by rfl, rfl⟩))
 refine tkH 15 ((bif q0 then undef else .pointer (some ⟨h, 4, none⟩))) ?_ (hy := by cases q0; (simp only [cond_false, cond_true]; exact Or.inl ⟨by rfl, fun w' hw => by go_simp⟩); (simp only [cond_false, cond_true]; exact Or.inr ⟨by rfl, rfl⟩))
 refine tkH 16 ((bif q0 then undef else .int .i64 s.c.mc)) ?_ (hy := by cases q0; (simp only [cond_false, cond_true]; exact Or.inl ⟨by rfl, fun w' hw => by (have q := hw.cell c4 (by simp); go_simp)⟩); (simp only [cond_false, cond_true]; exact Or.inr ⟨by rfl, rfl⟩))
 refine tkH 17 ((bif q0 then undef else .bool q3)) ?_ (hy := by cases q0; (simp only [cond_false, cond_true]; exact Or.inl ⟨by rfl, fun w' hw => by (have q0 := h3; go_simp)⟩); (simp only [cond_false, cond_true]; exact Or.inr ⟨by rfl, rfl⟩))
 refine tkH 18 (.bool e1) ?_ (hy := by cases q0; (simp only [cond_false, cond_true]; exact Or.inl ⟨by rfl, fun w' hw => by (subst he1; go_simp)⟩); (simp only [cond_false, cond_true]; exact Or.inl ⟨by rfl, fun w' hw => by (subst he1; go_simp)⟩))
 refine tkH 19 (.bool e1) ?_
 refine tkH 20 ((bif e1 then undef else .pointer (some ⟨h, 0, none⟩))) ?_ (hy := by cases e1; (simp only [cond_false, cond_true]; exact Or.inl ⟨by rfl, fun w' hw => by go_simp⟩); (simp only [cond_false, cond_true]; exact Or.inr ⟨by rfl, rfl⟩))
 refine tkH 21 ((bif e1 then undef else .pointer (some ⟨h, 0, none⟩))) ?_ (hy := by cases e1; (simp only [cond_false, cond_true]; exact Or.inl ⟨by rfl, fun w' hw => by go_simp⟩); (simp only [cond_false, cond_true]; exact Or.inr ⟨by rfl, rfl⟩))
 refine tkH 22 ((bif e1 then undef else .pointer (some ⟨h, 17, none⟩))) ?_ (hy := by cases e1; (simp only [cond_false, cond_true]; exact Or.inl ⟨by rfl, fun w' hw => by go_simp⟩); (simp only [cond_false, cond_true]; exact Or.inr ⟨by rfl, rfl⟩))
 refine tkH 23 ((bif e1 then undef else .slice aS m kS)) ?_ (hy := by cases e1; (simp only [cond_false, cond_true]; exact Or.inl ⟨by rfl, fun w' hw => by (have q := hw.cell c17 (by simp); go_simp)⟩); (simp only [cond_false, cond_true]; exact Or.inr ⟨by rfl, rfl⟩))
 refine tkH 24 ((bif e1 then undef else .int .i64 (m : Nat))) ?_ (hy := by cases e1; (simp only [cond_false, cond_true]; exact Or.inl ⟨by rfl, fun w' hw => by go_simp⟩); (simp only [cond_false, cond_true]; exact Or.inr ⟨by rfl, rfl⟩))
 refine tkH 25 ((bif e1 then undef else .bool q4)) ?_ (hy := by cases e1; (simp only [cond_false, cond_true]; exact Or.inl ⟨by rfl, fun w' hw => by (have q0 := h4; go_simp)⟩); (simp only [cond_false, cond_true]; exact Or.inr ⟨by rfl, rfl⟩))
 refine tkH 26 (.bool e2) ?_ (hy := by cases e1; (simp only [cond_false, cond_true]; exact Or.inl ⟨by rfl, fun w' hw => by (subst he2; go_simp)⟩); (simp only [cond_false, cond_true]; exact Or.inl ⟨by rfl, fun w' hw => by (subst he2; go_simp)⟩))
 refine wpAnyH_done (by kernel_rfl) ?_ _
 try simp only [Act.put, sT, s0, sS]
 have HTZ := Lib.hid (HTD.out.trans hS (by simp))
 clear hS
 clear h0 h3 h4 c4 c17 c18
 cases e2 with
 | true =>
  have HR2 := Lib.hid (show r = 18446744073709551615 by have h := HRR.out; unfold DS.nextStart at h; rw [if_pos HE.out] at h; exact h.symm)
  clear he1 he2
  go_wp2_with fail
  go_ret
  exact ⟨by rw [HR2.out]; rfl, HTZ.out⟩
 | false =>
  have HR2 := Lib.hid ((HNX.out HE.out).symm.trans HRR.out)
  clear he1 he2 HNX
  have HDW := Lib.hid (HD.out.touch0 HTZ.out)
  have c19 := HDW.out.at 19 _ rfl
  go_wp2_with fail
  refine wp_region_held (S := Touch [] wQ.drew) (by kernel_rfl) ?_
  change wpAnyH _ _ _ _ _ _ _ _ wQ.drew
  have tD := (Touch.refl [] wQ).drew
  have c19 := tD.cell c19 (by simp)
  have HTE := Lib.hid tD
  generalize wQ.drew = V at *
  clear tD
  have hS := Touch.refl [] V
  refine tkH 0 (.pointer (some ⟨h, 0, none⟩)) ?_
  refine tkH 1 (.pointer (some ⟨h, 0, none⟩)) ?_
  refine tkH 2 (.pointer (some ⟨h, 19, none⟩)) ?_
  refine tkH 3 (.int .u64 s.nb) ?_ (hy := Or.inl ⟨by rfl, fun w' hw => by (have q := hw.cell c19 (by simp); go_simp)⟩)
  refine tkH 4 (.int .u64 now) ?_
  refine wpAnyH_ready (rs := [5]) (by kernel_rfl) (by simp) ?_
  refine cnH rfl (fun K hK => ?_) AllReadyH.nil
  go_simp
  refine (radd01 now 1 _ HHN.out ⟨by decide, by decide⟩).mono ?_
  rintro e _ ⟨rfl, rfl⟩
  refine hK.out _ _ hS (fun _ => ?_)
  clear hK K
  try simp only [Act.put, sT, s0, sS]
  refine tkH 6 (.int .u64 (max s.nb (addT now 1))) ?_
  refine tkH 7 (.int .u64 (max s.nb (addT now 1))) ?_
  refine wpAnyH_done (by kernel_rfl) ?_ _
  try simp only [Act.put, sT, s0, sS]
  have HTY := Lib.hid (HTE.out.trans hS (by simp))
  clear hS
  generalize max s.nb (addT now 1) = M at *
  clear c19
  have HTV := Lib.hid (HTZ.out.trans HTY.out (by simp))
  have HDV := Lib.hid (HDW.out.touch0 HTY.out)
  have c5 := HDV.out.at 5 _ rfl
  cases hl : s.lit with
  | true =>
   rw [hl] at c5
   have HR3 := Lib.hid (show M = r by have h := HR2.out; rw [if_pos (by unfold DS.ready; rw [hl]; rfl)] at h; exact h)
   clear hl
   go_wp2_with fail
   go_ret
   exact ⟨by rw [← HR3.out]; rfl, HTV.out⟩
  | false =>
   rw [hl] at c5
   cases hrd : s.p.ready M with
   | true =>
    have HR3 := Lib.hid (show M = r by have h := HR2.out; rw [if_pos (by unfold DS.ready; rw [hrd]; simp)] at h; exact h)
    have HRD := Lib.hid (rready_any w0 V h b s T HDV.out HFIT.out M true hrd)
    clear hl hrd
    go_wp2_with fail
    refine HRD.out.mono ?_
    rintro e w3 ⟨rfl, t3⟩
    have HT3 := Lib.hid (HTV.out.trans t3 (by simp))
    clear t3
    go_wp2_with fail
    go_ret
    exact ⟨by rw [← HR3.out]; rfl, HT3.out⟩
   | false =>
    have HR3 := Lib.hid (show (match s.p.dl with | none => maxT | some u => max M u) = r by have h := HR2.out; rw [if_neg (by unfold DS.ready; rw [hl, hrd]; simp)] at h; exact h)
    have HRD := Lib.hid (rready_any w0 V h b s T HDV.out HFIT.out M false hrd)
    clear hl hrd
    go_wp2_with fail
    refine HRD.out.mono ?_
    rintro e w3 ⟨rfl, t3⟩
    have HT3 := Lib.hid (HTV.out.trans t3 (by simp))
    have HD3 := Lib.hid (HDV.out.touch0 t3)
    clear t3 c5
    cases hdl : s.p.dl with
    | none =>
     have HR4 := Lib.hid (show (18446744073709551615 : Int) = r by have h := HR3.out; rw [hdl] at h; exact h)
     have HDL := Lib.hid (rdl_no w0 w3 h b s T HD3.out hdl)
     clear hdl
     go_wp2_with fail
     refine HDL.out.mono ?_
     rintro e _ ⟨rfl, rfl⟩
     go_wp2_with fail
     go_ret
     exact ⟨by rw [← HR4.out]; rfl, HT3.out⟩
    | some u =>
     have HR4 := Lib.hid (show max M u = r by have h := HR3.out; rw [hdl] at h; exact h)
     have HDL := Lib.hid (rdl_yes w0 w3 h b s T HD3.out HFIT.out u hdl)
     clear hdl
     go_wp2_with fail
     refine HDL.out.mono ?_
     rintro e w4 ⟨rfl, t4⟩
     have HT4 := Lib.hid (HT3.out.trans t4 (by simp))
     clear t4
     go_wp2_with fail
     go_ret
     exact ⟨by rw [← HR4.out]; rfl, HT4.out⟩
set_option maxRecDepth 100000 in
set_option maxHeartbeats 8000000 in
theorem rexh_any (w0 w : World) (h : Nat) (b : RV) (s : DS) (T : List Ad) (d : Rdl w0 w h b s T) (rf : Ref s T) (hR : ∀ x ∈ s.rs, 1 ≤ x ∧ x ≤ 7) (o : Bool) (ho : s.over = o) (r : Nat) (hrr : (if o = true then primN s.rs else 0) = r) :
  Calls Tryz.prog 49 #[.pointer (some ⟨h, 0, none⟩)] w fun e w' => e = .returned (.tuple #[.int .i64 (r : Int), .bool o]) ∧ Touch [] w w' := by
 have HRM := Lib.hid (rrem_any (rowF b s) w0 w h b.vs b.vt s.c.ff s.A T d.queue rf.nA rf.nT)
 rw [rf.rem] at HRM
 have HD := Lib.hid d
 have HRS := Lib.hid hR
 have HO := Lib.hid (show o = (s.resolved && (decide (s.act.length = 0) && !(!(remP s.c.ff s.A s.K).isEmpty && decide (s.S.length < 64)))) from ho.symm)
 have HRR := Lib.hid hrr
 clear ho hrr hR rf
 obtain ⟨R, hR⟩ : ∃ R, remP s.c.ff s.A s.K = R := ⟨_, rfl⟩
 rw [hR] at HRM HO
 obtain ⟨n, hn⟩ : ∃ n, n = s.act.length := ⟨_, rfl⟩
 obtain ⟨m, hm⟩ : ∃ m, m = s.S.length := ⟨_, rfl⟩
 rw [← hn, ← hm] at HO
 obtain ⟨aS, kS, hvs, _, _, _⟩ := HD.out.ovp.form
 obtain ⟨aA, kA, hva, _, _, _⟩ := HD.out.ova.form
 have c17 := HD.out.at 17 _ rfl
 have c18 := HD.out.at 18 _ rfl
 have c20 := HD.out.at 20 _ rfl
 rw [hvs, ← hm] at c17
 rw [hva, ← hn] at c18
 clear d hn hm hvs hva hR
 cases hr : s.resolved with
 | false =>
  have HO2 := Lib.hid (show o = false by rw [HO.out, hr]; rfl)
  have HRV := Lib.hid (rres_any w0 w h b s T HD.out false hr)
  clear hr
  go_enter Tryz.func49, Tryz.ntmps49
  go_wp2_with fail
  refine HRV.out.mono ?_
  rintro e _ ⟨rfl, rfl⟩
  go_wp2_with fail
  go_ret2
  exact ⟨by rw [HO2.out, show r = 0 by have h := HRR.out; rw [if_neg (by rw [HO2.out]; simp)] at h; exact h.symm]; rfl, Touch.refl _ _⟩
 | true =>
  have HRV := Lib.hid (rres_any w0 w h b s T HD.out true hr)
  have HO2 := Lib.hid (show o = (decide (n = 0) && !(!R.isEmpty && decide (m < 64))) by rw [HO.out, hr]; rfl)
  clear hr
  by_cases hn0 : n = 0
  ·subst hn0
   go_enter Tryz.func49, Tryz.ntmps49
   go_wp2_with fail
   refine HRV.out.mono ?_
   rintro e _ ⟨rfl, rfl⟩
   go_wp2_with fail
   refine HRM.out.mono ?_
   rintro e w2 ⟨v2, rfl, o2, t2⟩
   have HT2 := Lib.hid t2
   have HD2 := Lib.hid (HD.out.touch0 t2)
   have d17 := t2.cell c17 (by simp)
   have d20 := t2.cell c20 (by simp)
   obtain ⟨a0, c0, rfl, _, _, _⟩ := o2.form
   have HRS2 := Lib.hid (rprim_any w0 b.vr s.rs w2 HD2.out.ovr HRS.out)
   clear o2 t2 c17 c18 c20
   cases R with
   | nil =>
    have HO3 := Lib.hid (show o = true by rw [HO2.out]; rfl)
    go_wp2_with fail
    refine HRS2.out.mono ?_
    rintro e _ ⟨rfl, rfl⟩
    go_wp2_with fail
    go_ret2
    exact ⟨by rw [HO3.out, show r = primN s.rs by have h := HRR.out; rw [if_pos HO3.out] at h; exact h.symm]; rfl, HT2.out⟩
   | cons a l =>
    have hl0 : (0 : Int) < (((a :: l).length : Nat) : Int) := by rw [List.length_cons]; omega
    by_cases hm64 : m < 64
    ·have HO3 := Lib.hid (show o = false by rw [HO2.out]; simp [hm64])
     have hm65 : (m : Int) < 64 := by omega
     generalize (a :: l).length = nR at *
     go_wp2_with fail
     go_ret2
     exact ⟨by rw [HO3.out, show r = 0 by have h := HRR.out; rw [if_neg (by rw [HO3.out]; simp)] at h; exact h.symm]; rfl, HT2.out⟩
    ·have HO3 := Lib.hid (show o = true by rw [HO2.out]; simp [hm64])
     have hm65 : decide ((m : Int) < 64) = false := by simp; omega
     have hm66 : decide (m < 64) = false := by simpa using hm64
     clear hm64
     generalize (a :: l).length = nR at *
     go_wp2_with fail
     refine HRS2.out.mono ?_
     rintro e _ ⟨rfl, rfl⟩
     go_wp2_with fail
     go_ret2
     exact ⟨by rw [HO3.out, show r = primN s.rs by have h := HRR.out; rw [if_pos HO3.out] at h; exact h.symm]; rfl, HT2.out⟩
  ·have HO3 := Lib.hid (show o = false by rw [HO2.out]; simp [hn0])
   have hn1 : 0 < n := by omega
   have hn2 : (0 : Int) < (n : Int) := by omega
   clear hn0
   go_enter Tryz.func49, Tryz.ntmps49
   go_wp2_with fail
   refine HRV.out.mono ?_
   rintro e _ ⟨rfl, rfl⟩
   go_wp2_with fail
   go_ret2
   exact ⟨by rw [HO3.out, show r = 0 by have h := HRR.out; rw [if_neg (by rw [HO3.out]; simp)] at h; exact h.symm]; rfl, Touch.refl _ _⟩
end Go.Proofs.YtiklhaajhdephaaGreatDoor

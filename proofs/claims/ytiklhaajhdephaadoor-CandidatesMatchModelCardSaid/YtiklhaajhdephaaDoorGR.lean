/-
  Merged texts: Rq, Rqm, Rqt, Rqv.
-/
import Derived.Test.YtiklhaajhdephaaDoorGQ
import Derived.Test.YtiklhaajhdephaaDoorGP
import Derived.Test.YtiklhaajhdephaaDoorGN
import Derived.Test.YtiklhaajhdephaaDoorGJ

/-
  The reference's queue in memory; the contract of its Add.
-/
namespace Go.Proofs.YtiklhaajhdephaaDoor
open Go.RowKit
set_option linter.unusedVariables false
set_option linter.unusedSimpArgs false

theorem rvalidB (a : Ad) (r : Bool) (h : a.valid = r) (w : World) : Calls Tryd.prog 31 #[.agg a.cells.toArray] w fun e w' => e = .returned (.bool r) ∧ Touch [] w w' := by
  subst h
  exact rvalid_any a.b a.xs a.ok w
theorem rhasB (v : Value) (b : Nat) (l : List Ad) (a : Ad) (r : Bool) (h : inL l a = r) (w : World) (h1 : Rd w 17 b v (l.map Ad.cells)) :
    Calls Tryd.prog 32 #[v, .agg a.cells.toArray] w fun e w' => e = .returned (.bool r) ∧ Touch [] w w' := by
  subst h
  exact rhas_any v b l a w h1
/-- The reference's queue at block h: its count, all its addresses in the slice vs, those that were taken in the slice vt. -/
structure Rqu (w0 w : World) (h : Nat) (vs vt : Value) (first : Int) (A T : List Ad) : Prop where
  cell : w.heap[h]? = some (.cells #[.int .i64 first, vs, vt] 40 (0, 0))
  new : w0.heap.size ≤ h
  seen : OwnA w0 w vs A
  take : OwnA w0 w vt T
  ha : vs.ownBlock ≠ some h
  ht : vt.ownBlock ≠ some h
  hat : ∀ g, vs.ownBlock = some g → vt.ownBlock ≠ some g
theorem Rqu.touch {w0 w w' : World} {h : Nat} {vs vt : Value} {first : Int} {A T : List Ad} {S : List Nat} (q : Rqu w0 w h vs vt first A T) (t : Touch S w w') (hd : ∀ g ∈ qfoot h vs vt, g ∉ S) : Rqu w0 w' h vs vt first A T :=
  ⟨t.at q.cell (hd h (by simp [qfoot])), q.new, Own.touch q.seen t (fun g hg => hd g (by simp [qfoot, hg])), Own.touch q.take t (fun g hg => hd g (by simp [qfoot, hg])), q.ha, q.ht, q.hat⟩
theorem Rqu.lt {w0 w : World} {h : Nat} {vs vt : Value} {first : Int} {A T : List Ad} (q : Rqu w0 w h vs vt first A T) : ∀ g ∈ qfoot h vs vt, w0.heap.size ≤ g ∧ g < w.heap.size := by
  intro g hg
  simp only [qfoot, List.mem_cons, List.mem_append, Option.mem_toList] at hg
  rcases hg with rfl | hg | hg
  · exact ⟨q.new, (Array.getElem?_eq_some_iff.1 q.cell).1⟩
  · exact ⟨q.seen.new g hg, Own.lt q.seen g hg⟩
  · exact ⟨q.take.new g hg, Own.lt q.take g hg⟩
theorem Rqu.cells {w0 w : World} {h : Nat} {vs vt : Value} {first : Int} {A T : List Ad} (q : Rqu w0 w h vs vt first A T) :
    w.cell? ⟨h, 0, none⟩ = some (.int .i64 first) ∧ w.cell? ⟨h, 1, none⟩ = some vs ∧ w.cell? ⟨h, 2, none⟩ = some vt := by
  refine ⟨?_, ?_, ?_⟩ <;> rw [cell_of_row _ _ _ _ _ _ q.cell] <;> rfl
theorem Rqu.push {w0 w w2 : World} {h : Nat} {vs vt v2 : Value} {first : Int} {A A2 T : List Ad} (q : Rqu w0 w h vs vt first A T) (t : Touch vs.ownBlock.toList w w2) (o : OwnA w0 w2 v2 A2) (hv : v2.ownBlock = vs.ownBlock ∨ ∃ k, v2.ownBlock = some k ∧ w.heap.size ≤ k) :
    Rqu w0 (w2.setCell ⟨h, 1, none⟩ v2) h v2 vt first A2 T ∧ Touch (h :: vs.ownBlock.toList) w (w2.setCell ⟨h, 1, none⟩ v2) := by
  have hlt : h < w.heap.size := (Array.getElem?_eq_some_iff.1 q.cell).1
  have hc := t.at q.cell (by intro hm; exact q.ha (by simpa using hm))
  have t2 : Touch [h] w2 (w2.setCell ⟨h, 1, none⟩ v2) := (Touch.refl [h] w2).setCell (p := ⟨h, 1, none⟩) (.inl (by simp)) _
  have hne : v2.ownBlock ≠ some h := by
    rcases hv with e | ⟨k, e, hk⟩
    · rw [e]; exact q.ha
    · rw [e]; intro e2; cases e2; omega
  refine ⟨⟨?_, q.new, Own.touch o t2 (fun g hg => by simp; intro e; subst e; exact hne hg), ?_, hne, q.ht, ?_⟩, ?_⟩
  · simp [World.setCell, Array.getElem?_modify, hc]
  · have h1 : OwnA w0 w2 vt T := Own.touch q.take t (fun g hg => by simp; intro e; exact q.hat g e hg)
    exact Own.touch h1 t2 (fun g hg => by simp; intro e; subst e; exact q.ht hg)
  · intro g hg
    rcases hv with e | ⟨k, e, hk⟩
    · exact q.hat g (by rw [← e]; exact hg)
    · rw [e] at hg; cases hg
      intro e2
      have := Own.lt q.take _ e2
      omega
  · exact (t.mono (fun x hx => .inl (by simp; right; simpa using hx))).trans t2 (fun x hx => .inl (by simp at hx; simp [hx]))
theorem Rqu.pushT {w0 w w2 : World} {h : Nat} {vs vt v2 : Value} {first : Int} {A T T2 : List Ad} (q : Rqu w0 w h vs vt first A T) (t : Touch vt.ownBlock.toList w w2) (o : OwnA w0 w2 v2 T2) (hv : v2.ownBlock = vt.ownBlock ∨ ∃ k, v2.ownBlock = some k ∧ w.heap.size ≤ k) :
    Rqu w0 (w2.setCell ⟨h, 2, none⟩ v2) h vs v2 first A T2 ∧ Touch (h :: vt.ownBlock.toList) w (w2.setCell ⟨h, 2, none⟩ v2) := by
  have hlt : h < w.heap.size := (Array.getElem?_eq_some_iff.1 q.cell).1
  have hc := t.at q.cell (by intro hm; exact q.ht (by simpa using hm))
  have t2 : Touch [h] w2 (w2.setCell ⟨h, 2, none⟩ v2) := (Touch.refl [h] w2).setCell (p := ⟨h, 2, none⟩) (.inl (by simp)) _
  have hne : v2.ownBlock ≠ some h := by
    rcases hv with e | ⟨k, e, hk⟩
    · rw [e]; exact q.ht
    · rw [e]; intro e2; cases e2; omega
  refine ⟨⟨?_, q.new, ?_, Own.touch o t2 (fun g hg => by simp; intro e; subst e; exact hne hg), q.ha, hne, ?_⟩, ?_⟩
  · simp [World.setCell, Array.getElem?_modify, hc]
  · have h1 : OwnA w0 w2 vs A := Own.touch q.seen t (fun g hg => by simp; intro e; exact q.hat g hg e)
    exact Own.touch h1 t2 (fun g hg => by simp; intro e; subst e; exact q.ha hg)
  · intro g hg
    rcases hv with e | ⟨k, e, hk⟩
    · rw [e]; exact q.hat g hg
    · rw [e]; intro e2; cases e2
      have := Own.lt q.seen _ hg
      omega
  · exact (t.mono (fun x hx => .inl (by simp; right; simpa using hx))).trans t2 (fun x hx => .inl (by simp at hx; simp [hx]))
set_option maxRecDepth 100000 in
set_option maxHeartbeats 4000000 in
theorem radd_any (w0 w : World) (h : Nat) (va vt : Value) (first : Int) (A T : List Ad) (q : Rqu w0 w h va vt first A T) (hz : w0.heap.size ≤ w.heap.size) (v : Value) (b : Nat) (l : List Ad) (hv : Rd w 17 b v (l.map Ad.cells)) (hb : l ≠ [] → b ∉ qfoot h va vt) (hl : (A.length + l.length) * 17 ≤ 140737488351232) :
    Calls Tryd.prog 23 #[.pointer (some ⟨h, 0, none⟩), v] w fun e w' => ∃ va', e = .returned (.int .i64 (((addL A l).length - A.length : Nat) : Int)) ∧ Rqu w0 w' h va' vt first (addL A l) T ∧ Touch (h :: va.ownBlock.toList) w w' ∧ (va'.ownBlock = va.ownBlock ∨ ∃ k, va'.ownBlock = some k ∧ w.heap.size ≤ k) := by
  obtain ⟨a, cap, rfl, hlc, hcm⟩ := hv.form
  simp only [List.length_map] at *
  obtain ⟨n, hn⟩ : ∃ n, n = l.length := ⟨_, rfl⟩
  obtain ⟨m, hm⟩ : ∃ m, m = A.length := ⟨_, rfl⟩
  have HN := Lib.hid hn
  have HM := Lib.hid hm
  have HV := Lib.hid hv
  have HQ := Lib.hid q
  have HHB := Lib.hid hb
  rw [← hn] at HV ⊢
  rw [← hn, ← hm] at hl
  clear hv hn hm hlc hcm q hb
  go_enter Tryd.func23, Tryd.ntmps23
  go_wp2_with fail
  go_loopw [5, 6] (fun vn vi wr => ∃ (i : Nat) (vb : Value), i ≤ n ∧ vi = .int .i64 i ∧ vn = .int .i64 (((addL A (l.take i)).length - A.length : Nat) : Int) ∧ Rqu w0 wr h vb vt first (addL A (l.take i)) T ∧ Touch (h :: va.ownBlock.toList) w wr ∧ (vb.ownBlock = va.ownBlock ∨ ∃ k, vb.ownBlock = some k ∧ w.heap.size ≤ k)) (fun _ vi _ => n - (intOf vi).toNat)
  case atStart => exact ⟨0, va, by omega, rfl, by simp [addL], by simpa [addL] using HQ.out, Touch.refl _ _, .inl rfl⟩
  case round =>
    obtain ⟨i, vb, hin, rfl, rfl, hq, ht, hvb⟩ := hrel
    have HQI := Lib.hid hq
    have HT := Lib.hid ht
    have HVB := Lib.hid hvb
    have hlen := addL_len A (l.take i)
    obtain ⟨aB, cB, hvbf, hlB, hcB, _⟩ := hq.seen.form
    have HBF := Lib.hid hvbf
    obtain ⟨k, hk⟩ : ∃ k, k = (addL A (l.take i)).length := ⟨_, rfl⟩
    have HK := Lib.hid hk
    have hkb : m ≤ k ∧ k ≤ m + i := by rw [hk, HM.out]; refine ⟨hlen.1, ?_⟩; have := hlen.2; rw [List.length_take] at this; omega
    obtain ⟨d, hd⟩ : ∃ d, d = k - m := ⟨_, rfl⟩
    have HD := Lib.hid hd
    rw [← hk] at hlB HBF ⊢
    rw [← HM.out, ← hd]
    clear hq ht hvb hlen hvbf hk hd
    by_cases hlt : i < n
    · obtain ⟨x, hx⟩ : ∃ x, l[i]? = some x := ⟨_, List.getElem?_eq_getElem (by rw [← HN.out]; exact hlt)⟩
      obtain ⟨o1, rfl, hat1⟩ := HV.out.at (by intro e; rw [List.map_eq_nil_iff] at e; rw [e] at hx; simp at hx)
      have hbn := HHB.out (by intro e; rw [e] at hx; simp at hx)
      have r1 := HT.out.range (hat1 i x.cells (by simp [hx])) (by intro hm; apply hbn; simp only [qfoot, List.mem_cons, List.mem_append] at hm ⊢; rcases hm with e | e; exact .inl e; exact .inr (.inl e))
      have HBN := Lib.hid (show b ∉ vb.ownBlock.toList from by
        intro hm
        rcases HVB.out with e | ⟨q, e, hq⟩
        · rw [e] at hm
          exact hbn (by simp only [qfoot, List.mem_cons, List.mem_append]; exact .inr (.inl hm))
        · rw [e] at hm
          simp at hm
          have h0 := World.block_lt_of_cell? w _ (hat1 i x.cells (by simp [hx]) 0 _ (List.getElem?_eq_getElem (by rw [x.len]; omega)))
          simp only at h0
          omega)
      have HLX := Lib.hid x.len
      have HST := Lib.hid (addL_step A l i x hx)
      have hwi : IntKind.i64.wrap ((i : Int) + 1) = (i : Int) + 1 := by rw [IntKind.wrap_i64] <;> omega
      have hwd : IntKind.i64.wrap ((d : Int) + 1) = (d : Int) + 1 := by have := HD.out; rw [IntKind.wrap_i64] <;> omega
      have hin2 : (i : Int) < (n : Int) := by omega
      have HRX := Lib.hid r1
      clear hx hat1 hbn r1
      go_wp2_with fail
      generalize hA0 : addL A (l.take i) = A0 at *
      clear hA0
      cases hval : x.valid with
      | false =>
        have HVL := Lib.hid (rvalidB x false hval)
        have HS := Lib.hid (show addL A (l.take (i + 1)) = A0 by rw [HST.out]; unfold addS; rw [if_neg (by simp [hval])])
        clear hval
        refine wp_region_held (S := Touch [] wr.drew) (by kernel_rfl) ?_
        change wpAnyH _ _ _ _ _ _ _ _ wr.drew
        have HQW := Lib.hid (HQI.out.touch ((Touch.refl [] wr).drew) (by simp))
        have HRW := Lib.hid (((Touch.refl [] wr).drew).range HRX.out (by simp))
        have HTW := Lib.hid (HT.out.drew)
        generalize wr.drew = W at *
        have hS := Touch.refl [] W
        have c1 := HQW.out.cells.2.1
        rw [HBF.out] at c1
        obtain ⟨bB, hrB, _⟩ := HQW.out.seen.rd
        have HRB := Lib.hid hrB
        clear hrB
        refine tkH 0 (.slice (some ⟨b, o1, none⟩) n cap) rfl ?_
        try simp only [Act.put, sT, s0, sS]
        refine tkH 1 (.int .i64 (i : Nat)) rfl ?_
        try simp only [Act.put, sT, s0, sS]
        refine tkH 2 (.pointer (some ⟨b, o1 + i * 17, none⟩)) rfl ?_
        try simp only [Act.put, sT, s0, sS]
        refine tkH 3 (.agg x.cells.toArray) rfl ?_ (hy := Or.inl ⟨by rfl, fun w' hw => exec_load_agg _ 28 _ rfl _ _ rfl x.cells _ (hw.range HRW.out (by simp)) Tryd.underlying28 rfl (by rw [size31, HLX.out])⟩)
        try simp only [Act.put, sT, s0, sS]
        refine wpAnyH_ready (rs := [4]) (by kernel_rfl) (by simp) ?_
        refine cnH rfl (fun K hK => ?_) AllReadyH.nil
        go_simp
        refine (HVL.out _).mono ?_
        rintro e w4 ⟨rfl, t4⟩
        have hS2 := hS.trans t4 (by simp)
        refine hK.out _ _ hS2 (fun _ => ?_)
        clear hK K hS t4
        have hS := hS2
        clear hS2
        try simp only [Act.put, sT, s0, sS]
        refine tkH 5 (.bool false) rfl ?_
        try simp only [Act.put, sT, s0, sS]
        refine tkN 6 undef rfl ?_
        try simp only [Act.put, sT, s0, sS]
        refine tkN 7 undef rfl ?_
        try simp only [Act.put, sT, s0, sS]
        refine tkN 8 undef rfl ?_
        try simp only [Act.put, sT, s0, sS]
        refine tkN 9 undef rfl ?_
        try simp only [Act.put, sT, s0, sS]
        refine tkN 10 undef rfl ?_
        try simp only [Act.put, sT, s0, sS]
        refine tkN 11 undef rfl ?_
        try simp only [Act.put, sT, s0, sS]
        refine tkN 12 undef rfl ?_
        try simp only [Act.put, sT, s0, sS]
        refine tkN 13 undef rfl ?_
        try simp only [Act.put, sT, s0, sS]
        refine tkN 14 undef rfl ?_
        try simp only [Act.put, sT, s0, sS]
        refine tkN 15 undef rfl ?_
        try simp only [Act.put, sT, s0, sS]
        refine tkH 16 (.bool false) rfl ?_
        try simp only [Act.put, sT, s0, sS]
        refine wpAnyH_done (by kernel_rfl) ?_ _
        try simp only [Act.put, sT, s0, sS]
        clear c1
        have HT3 := Lib.hid (hS)
        clear hS
        go_wp2_with fail
        go_roundw
        case rel => exact ⟨i + 1, vb, by omega, by go_num, by rw [HS.out, ← HK.out, ← HD.out], by rw [HS.out]; exact HQW.out.touch HT3.out (by simp), HTW.out.trans HT3.out (by simp), HVB.out⟩
        case measure => simp [intOf]; omega
      | true =>
        have HVL := Lib.hid (rvalidB x true hval)
        cases hin3 : inL A0 x with
        | true =>
          have HS := Lib.hid (show addL A (l.take (i + 1)) = A0 by rw [HST.out]; unfold addS; rw [if_neg (by simp [hin3])])
          have HIN := Lib.hid hin3
          clear hval hin3
          refine wp_region_held (S := Touch [] wr.drew) (by kernel_rfl) ?_
          change wpAnyH _ _ _ _ _ _ _ _ wr.drew
          have HQW := Lib.hid (HQI.out.touch ((Touch.refl [] wr).drew) (by simp))
          have HRW := Lib.hid (((Touch.refl [] wr).drew).range HRX.out (by simp))
          have HTW := Lib.hid (HT.out.drew)
          generalize wr.drew = W at *
          have hS := Touch.refl [] W
          have c1 := HQW.out.cells.2.1
          rw [HBF.out] at c1
          obtain ⟨bB, hrB, _⟩ := HQW.out.seen.rd
          have HRB := Lib.hid hrB
          clear hrB
          refine tkH 0 (.slice (some ⟨b, o1, none⟩) n cap) rfl ?_
          try simp only [Act.put, sT, s0, sS]
          refine tkH 1 (.int .i64 (i : Nat)) rfl ?_
          try simp only [Act.put, sT, s0, sS]
          refine tkH 2 (.pointer (some ⟨b, o1 + i * 17, none⟩)) rfl ?_
          try simp only [Act.put, sT, s0, sS]
          refine tkH 3 (.agg x.cells.toArray) rfl ?_ (hy := Or.inl ⟨by rfl, fun w' hw => exec_load_agg _ 28 _ rfl _ _ rfl x.cells _ (hw.range HRW.out (by simp)) Tryd.underlying28 rfl (by rw [size31, HLX.out])⟩)
          try simp only [Act.put, sT, s0, sS]
          refine wpAnyH_ready (rs := [4]) (by kernel_rfl) (by simp) ?_
          refine cnH rfl (fun K hK => ?_) AllReadyH.nil
          go_simp
          refine (HVL.out _).mono ?_
          rintro e w4 ⟨rfl, t4⟩
          have hS2 := hS.trans t4 (by simp)
          refine hK.out _ _ hS2 (fun _ => ?_)
          clear hK K hS t4
          have hS := hS2
          clear hS2
          try simp only [Act.put, sT, s0, sS]
          refine tkH 5 (.bool true) rfl ?_
          try simp only [Act.put, sT, s0, sS]
          refine tkH 6 (.pointer (some ⟨h, 0, none⟩)) rfl ?_
          try simp only [Act.put, sT, s0, sS]
          refine tkH 7 (.pointer (some ⟨h, 0, none⟩)) rfl ?_
          try simp only [Act.put, sT, s0, sS]
          refine tkH 8 (.pointer (some ⟨h, 1, none⟩)) rfl ?_
          try simp only [Act.put, sT, s0, sS]
          refine tkH 9 (.slice aB k cB) rfl ?_ (hy := Or.inl ⟨by rfl, fun w' hw => by (have q := hw.cell c1 (by simp); go_simp)⟩)
          try simp only [Act.put, sT, s0, sS]
          refine tkH 10 (.slice (some ⟨b, o1, none⟩) n cap) rfl ?_
          try simp only [Act.put, sT, s0, sS]
          refine tkH 11 (.int .i64 (i : Nat)) rfl ?_
          try simp only [Act.put, sT, s0, sS]
          refine tkH 12 (.pointer (some ⟨b, o1 + i * 17, none⟩)) rfl ?_
          try simp only [Act.put, sT, s0, sS]
          refine tkH 13 (.agg x.cells.toArray) rfl ?_ (hy := Or.inl ⟨by rfl, fun w' hw => exec_load_agg _ 28 _ rfl _ _ rfl x.cells _ (hw.range HRW.out (by simp)) Tryd.underlying28 rfl (by rw [size31, HLX.out])⟩)
          try simp only [Act.put, sT, s0, sS]
          refine wpAnyH_ready (rs := [14]) (by kernel_rfl) (by simp) ?_
          refine cnH rfl (fun K hK => ?_) AllReadyH.nil
          go_simp
          refine (rhasB _ bB A0 x true HIN.out _ (by rw [← HBF.out]; exact HRB.out.touch hS (by simp))).mono ?_
          rintro e w14 ⟨rfl, t14⟩
          have hS2 := hS.trans t14 (by simp)
          refine hK.out _ _ hS2 (fun _ => ?_)
          clear hK K hS t14
          have hS := hS2
          clear hS2
          try simp only [Act.put, sT, s0, sS]
          refine tkH 15 (.bool false) rfl ?_
          try simp only [Act.put, sT, s0, sS]
          refine tkH 16 (.bool false) rfl ?_
          try simp only [Act.put, sT, s0, sS]
          refine wpAnyH_done (by kernel_rfl) ?_ _
          try simp only [Act.put, sT, s0, sS]
          clear c1
          have HT3 := Lib.hid (hS)
          clear hS
          go_wp2_with fail
          go_roundw
          case rel => exact ⟨i + 1, vb, by omega, by go_num, by rw [HS.out, ← HK.out, ← HD.out], by rw [HS.out]; exact HQW.out.touch HT3.out (by simp), HTW.out.trans HT3.out (by simp), HVB.out⟩
          case measure => simp [intOf]; omega
        | false =>
          have HS := Lib.hid (show addL A (l.take (i + 1)) = A0 ++ [x] by rw [HST.out]; unfold addS; rw [if_pos ⟨hval, hin3⟩])
          have HIN := Lib.hid hin3
          clear hval hin3
          refine wp_region_held (S := Touch [] wr.drew) (by kernel_rfl) ?_
          change wpAnyH _ _ _ _ _ _ _ _ wr.drew
          have HQW := Lib.hid (HQI.out.touch ((Touch.refl [] wr).drew) (by simp))
          have HRW := Lib.hid (((Touch.refl [] wr).drew).range HRX.out (by simp))
          have HTW := Lib.hid (HT.out.drew)
          generalize wr.drew = W at *
          have hS := Touch.refl [] W
          have c1 := HQW.out.cells.2.1
          rw [HBF.out] at c1
          obtain ⟨bB, hrB, _⟩ := HQW.out.seen.rd
          have HRB := Lib.hid hrB
          clear hrB
          refine tkH 0 (.slice (some ⟨b, o1, none⟩) n cap) rfl ?_
          try simp only [Act.put, sT, s0, sS]
          refine tkH 1 (.int .i64 (i : Nat)) rfl ?_
          try simp only [Act.put, sT, s0, sS]
          refine tkH 2 (.pointer (some ⟨b, o1 + i * 17, none⟩)) rfl ?_
          try simp only [Act.put, sT, s0, sS]
          refine tkH 3 (.agg x.cells.toArray) rfl ?_ (hy := Or.inl ⟨by rfl, fun w' hw => exec_load_agg _ 28 _ rfl _ _ rfl x.cells _ (hw.range HRW.out (by simp)) Tryd.underlying28 rfl (by rw [size31, HLX.out])⟩)
          try simp only [Act.put, sT, s0, sS]
          refine wpAnyH_ready (rs := [4]) (by kernel_rfl) (by simp) ?_
          refine cnH rfl (fun K hK => ?_) AllReadyH.nil
          go_simp
          refine (HVL.out _).mono ?_
          rintro e w4 ⟨rfl, t4⟩
          have hS2 := hS.trans t4 (by simp)
          refine hK.out _ _ hS2 (fun _ => ?_)
          clear hK K hS t4
          have hS := hS2
          clear hS2
          try simp only [Act.put, sT, s0, sS]
          refine tkH 5 (.bool true) rfl ?_
          try simp only [Act.put, sT, s0, sS]
          refine tkH 6 (.pointer (some ⟨h, 0, none⟩)) rfl ?_
          try simp only [Act.put, sT, s0, sS]
          refine tkH 7 (.pointer (some ⟨h, 0, none⟩)) rfl ?_
          try simp only [Act.put, sT, s0, sS]
          refine tkH 8 (.pointer (some ⟨h, 1, none⟩)) rfl ?_
          try simp only [Act.put, sT, s0, sS]
          refine tkH 9 (.slice aB k cB) rfl ?_ (hy := Or.inl ⟨by rfl, fun w' hw => by (have q := hw.cell c1 (by simp); go_simp)⟩)
          try simp only [Act.put, sT, s0, sS]
          refine tkH 10 (.slice (some ⟨b, o1, none⟩) n cap) rfl ?_
          try simp only [Act.put, sT, s0, sS]
          refine tkH 11 (.int .i64 (i : Nat)) rfl ?_
          try simp only [Act.put, sT, s0, sS]
          refine tkH 12 (.pointer (some ⟨b, o1 + i * 17, none⟩)) rfl ?_
          try simp only [Act.put, sT, s0, sS]
          refine tkH 13 (.agg x.cells.toArray) rfl ?_ (hy := Or.inl ⟨by rfl, fun w' hw => exec_load_agg _ 28 _ rfl _ _ rfl x.cells _ (hw.range HRW.out (by simp)) Tryd.underlying28 rfl (by rw [size31, HLX.out])⟩)
          try simp only [Act.put, sT, s0, sS]
          refine wpAnyH_ready (rs := [14]) (by kernel_rfl) (by simp) ?_
          refine cnH rfl (fun K hK => ?_) AllReadyH.nil
          go_simp
          refine (rhasB _ bB A0 x false HIN.out _ (by rw [← HBF.out]; exact HRB.out.touch hS (by simp))).mono ?_
          rintro e w14 ⟨rfl, t14⟩
          have hS2 := hS.trans t14 (by simp)
          refine hK.out _ _ hS2 (fun _ => ?_)
          clear hK K hS t14
          have hS := hS2
          clear hS2
          try simp only [Act.put, sT, s0, sS]
          refine tkH 15 (.bool true) rfl ?_
          try simp only [Act.put, sT, s0, sS]
          refine tkH 16 (.bool true) rfl ?_
          try simp only [Act.put, sT, s0, sS]
          refine wpAnyH_done (by kernel_rfl) ?_ _
          try simp only [Act.put, sT, s0, sS]
          clear c1
          have HT3 := Lib.hid hS
          have HQ3 := Lib.hid (HQW.out.touch HT3.out (by simp))
          have HX3 := Lib.hid (HT3.out.range HRW.out (by simp))
          have HTT := Lib.hid (HTW.out.trans HT3.out (by simp))
          clear hS
          go_wp2_with fail
          refine wp_region_F (S := Touch vb.ownBlock.toList w14.drew) [13] (by kernel_rfl) ?_
          change wpAnyF _ _ _ _ _ _ _ _ _ w14.drew
          have HQX := Lib.hid (HQ3.out.touch ((Touch.refl [] w14).drew) (by simp))
          have HRX3 := Lib.hid (((Touch.refl [] w14).drew).range HX3.out (by simp))
          have HTX := Lib.hid (HTT.out.drew)
          generalize w14.drew = X at *
          have hS := Touch.refl vb.ownBlock.toList X
          have c1 := HQX.out.cells.2.1
          rw [HBF.out] at c1
          have hhb : h ∉ vb.ownBlock.toList := by intro hm; exact HQX.out.ha (by simpa using hm)
          have HO := Lib.hid HQX.out.seen
          have hzX : w0.heap.size ≤ X.heap.size := by have := HTX.out.size; omega
          have hl1 : (A0.length + 1) * 17 ≤ 140737488355328 := by rw [← HK.out]; omega
          refine tkF 0 (.pointer (some ⟨h, 0, none⟩)) rfl ?_
          try simp only [Act.put, sT, s0, sS]
          refine tkF 1 (.pointer (some ⟨h, 0, none⟩)) rfl ?_
          try simp only [Act.put, sT, s0, sS]
          refine tkF 2 (.pointer (some ⟨h, 0, none⟩)) rfl ?_
          try simp only [Act.put, sT, s0, sS]
          refine tkF 3 (.pointer (some ⟨h, 1, none⟩)) rfl ?_
          try simp only [Act.put, sT, s0, sS]
          refine tkF 4 (.slice aB k cB) rfl ?_ (hy := Or.inl ⟨by rfl, fun w' hw => by (have q := hw.cell c1 hhb; go_simp)⟩)
          try simp only [Act.put, sT, s0, sS]
          refine tkF 5 (.slice (some ⟨b, o1, none⟩) n cap) rfl ?_
          try simp only [Act.put, sT, s0, sS]
          refine tkF 6 (.int .i64 (i : Nat)) rfl ?_
          try simp only [Act.put, sT, s0, sS]
          refine tkF 7 (.pointer (some ⟨b, o1 + i * 17, none⟩)) rfl ?_
          try simp only [Act.put, sT, s0, sS]
          refine tkF 8 (.agg x.cells.toArray) rfl ?_ (hy := Or.inl ⟨by rfl, fun w' hw => exec_load_agg _ 28 _ rfl _ _ rfl x.cells _ (hw.range HRX3.out HBN.out) Tryd.underlying28 rfl (by rw [size31, HLX.out])⟩)
          try simp only [Act.put, sT, s0, sS]
          refine wpAnyF_ready (rs := [9]) (by kernel_rfl) (by simp) ?_
          refine cnF rfl (fun K hK => ?_) AllReadyF.nil
          refine step_of_list rfl ?_
          refine wpList_build_ad rfl _ rfl x (by rfl) ?_
          have r6 := rd_newA X x 28
          have tA := (Touch.refl [] X).alloc (.cells [x.cells].flatten.toArray 28)
          have hS2 := hS.trans tA (by simp)
          have hO6 := (show OwnA w0 _ vb A0 from Own.touch HO.out tA (by simp))
          have zA : (X.alloc (.cells [x.cells].flatten.toArray 28)).heap.size = X.heap.size + 1 := by simp
          refine ⟨rfl, hK.out _ _ hS2 (fun _ => ?_)⟩
          clear hK K hS
          have hS := hS2
          clear hS2
          generalize hX1 : X.alloc (.cells [x.cells].flatten.toArray 28) = X1 at *
          clear hX1
          try simp only [Act.put, sT, s0, sS]
          refine wpAnyF_ready (rs := [10]) (by kernel_rfl) (by simp) ?_
          refine cnF rfl (fun K hK => ?_) AllReadyF.nil
          refine step_of_list rfl ?_
          refine wpList_app_ads w0 X1 rfl _ _ rfl vb A0 (by rw [HBF.out]; rfl) hO6 (by omega) _ _ [x] rfl r6 (by simp only [List.length_singleton]; exact hl1) ?_
          intro v7 w7 o7 t7 h7
          have hS2 := hS.trans t7 (fun y hy => .inl hy)
          refine ⟨rfl, hK.out _ _ hS2 (fun _ => ?_)⟩
          clear hK K hS
          have hS := hS2
          clear hS2
          try simp only [Act.put, sT, s0, sS]
          refine tkF 11 (.pointer (some ⟨h, 0, none⟩)) rfl ?_
          try simp only [Act.put, sT, s0, sS]
          refine tkF 12 (.pointer (some ⟨h, 1, none⟩)) rfl ?_
          try simp only [Act.put, sT, s0, sS]
          refine wpAnyF_ready (rs := [13]) (by kernel_rfl) (by simp) ?_
          refine clF rfl (by simp) (fun K hK => ?_) AllReadyF.nil
          have q1 := hS.cell c1 hhb
          have g0 : w7.frozen? ⟨h, 1, none⟩ = false := by simp [World.frozen?, hS.at HQX.out.cell hhb]
          obtain ⟨a7, c7, hv7, _, _, _⟩ := o7.form
          have HPU := HQX.out.push hS o7 (by rcases h7 with e | e; exact .inl e; exact .inr ⟨_, e, by omega⟩)
          have HFIN := Lib.hid (show Rqu w0 (w7.setCell ⟨h, 1, none⟩ v7) h v7 vt first (A0 ++ [x]) T ∧ Touch (h :: va.ownBlock.toList) w (w7.setCell ⟨h, 1, none⟩ v7) ∧ (v7.ownBlock = va.ownBlock ∨ ∃ k, v7.ownBlock = some k ∧ w.heap.size ≤ k) from ⟨HPU.1, HTX.out.trans HPU.2 (by intro y hy; simp only [List.mem_cons, Option.mem_toList] at hy ⊢; rcases hy with e | e; exact .inl (.inl e); rcases HVB.out with e2 | ⟨q, e2, hq⟩; rw [e2] at e; exact .inl (.inr e); rw [e2] at e; cases e; exact .inr hq), by rcases h7 with e | e; rw [e]; exact HVB.out; exact .inr ⟨_, e, by have := HTX.out.size; omega⟩⟩)
          clear HPU h7 t7
          rw [List.length_append, List.length_singleton] at hv7
          subst hv7
          go_simp
          refine hK.out _ _ ?_
          clear hK K
          try simp only [Act.put, sT, s0, sS]
          refine wpAnyF_done (by kernel_rfl) ?_ _
          try simp only [Act.put, sT, s0, sS]
          go_wp2_with fail
          go_roundw
          case rel => exact ⟨i + 1, _, by omega, by go_num, by rw [HS.out, List.length_append, List.length_singleton, ← HK.out, show k + 1 - m = d + 1 by have := HD.out; omega]; go_num, by rw [HS.out]; exact HFIN.out.1, HFIN.out.2.1, HFIN.out.2.2⟩
          case measure => simp [intOf]; omega
    · have HFIN := Lib.hid (show l.take i = l from List.take_of_length_le (by rw [← HN.out]; omega))
      go_wp2_with fail
      go_ret
      refine ⟨vb, ?_, by have h := HQI.out; rw [HFIN.out] at h; exact h, HT.out, HVB.out⟩
      have h := HK.out
      rw [HFIN.out] at h
      rw [← h, ← HM.out, ← HD.out]
      first | done | rfl
end Go.Proofs.YtiklhaajhdephaaDoor

/-
  The contract of the reference's Remaining.
-/
namespace Go.Proofs.YtiklhaajhdephaaDoor
open Go.RowKit
set_option linter.unusedVariables false
set_option linter.unusedSimpArgs false

/-- The first i addresses without those of T. -/
def leftF (A T : List Ad) (i : Nat) : List Ad := (A.take i).filter (fun x => !inL T x)
theorem leftF_step (A T : List Ad) (i : Nat) (x : Ad) (hx : A[i]? = some x) : leftF A T (i + 1) = if inL T x = true then leftF A T i else leftF A T i ++ [x] := by
  unfold leftF
  rw [List.take_add_one, hx, Option.toList_some, List.filter_append]
  cases h : inL T x <;> simp [h]
theorem leftF_len (A T : List Ad) (i : Nat) : (leftF A T i).length ≤ i := by
  unfold leftF
  refine Nat.le_trans (List.length_filter_le _ _) ?_
  rw [List.length_take]; omega
/-- What the reference's Remaining returns. -/
def remR (first : Int) (A T : List Ad) : List Ad :=
  match sortS Ad.less (leftF A T A.length) with
  | [] => []
  | a :: r => match T.getLast? with
    | none => interA (a :: r) first a.b
    | some t => interA (a :: r) 1 (!t.b)
set_option maxRecDepth 100000 in
set_option maxHeartbeats 4000000 in
theorem rrem_any (w0 w : World) (h : Nat) (va vt : Value) (first : Int) (A T : List Ad) (q : Rqu w0 w h va vt first A T) (hA : A.length ≤ 1000000) (hT : T.length ≤ 1000000) :
    Calls Tryd.prog 27 #[.pointer (some ⟨h, 0, none⟩)] w fun e w' => ∃ v', e = .returned v' ∧ OwnA w w' v' (remR first A T) ∧ Touch [] w w' := by
  obtain ⟨aA, cA, hva, hlA, hcA, _⟩ := q.seen.form
  obtain ⟨aT, cT, hvt, hlT, hcT, hatT⟩ := q.take.form
  obtain ⟨n, hn⟩ : ∃ n, n = A.length := ⟨_, rfl⟩
  obtain ⟨k, hk⟩ : ∃ k, k = T.length := ⟨_, rfl⟩
  have HN := Lib.hid hn
  have HK := Lib.hid hk
  have HQ := Lib.hid q
  obtain ⟨c0, c1, c2⟩ := q.cells
  rw [hva, ← hn] at c1
  rw [hvt, ← hk] at c2
  rw [← hn] at hA hlA hva
  rw [← hk] at hvt hatT hT
  have HVA := Lib.hid hva
  have HVT := Lib.hid hvt
  have HC := Lib.hid (And.intro c0 (And.intro c1 c2))
  clear hn hk hlT hcT hcA q hva hvt
  go_enter Tryd.func27, Tryd.ntmps27
  go_wp2_with fail
  clear c0 c1 c2
  go_loopw [3, 4] (fun vl vi wr => ∃ i : Nat, i ≤ n ∧ vi = .int .i64 i ∧ OwnA w wr vl (leftF A T i) ∧ Touch [] w wr) (fun _ vi _ => n - (intOf vi).toNat)
  case atStart => exact ⟨0, by omega, rfl, Own.nil _ _, Touch.refl _ _⟩
  case round =>
    obtain ⟨i, hin, rfl, hown, ht⟩ := hrel
    have HT := Lib.hid ht
    have HO := Lib.hid hown
    obtain ⟨c0, c1, c2⟩ := HC.out
    have d0 := ht.cell c0 (by simp)
    have d1 := ht.cell c1 (by simp)
    have d2 := ht.cell c2 (by simp)
    clear hown ht c0 c1 c2
    by_cases hlt : i < n
    · obtain ⟨x, hx⟩ : ∃ x, A[i]? = some x := ⟨_, List.getElem?_eq_getElem (by rw [← HN.out]; exact hlt)⟩
      obtain ⟨bA, hrA, _⟩ := (HQ.out.touch HT.out (by simp)).seen.rd
      rw [HVA.out] at hrA
      obtain ⟨oA, rfl, hatA⟩ := hrA.at (by intro e; rw [List.map_eq_nil_iff] at e; rw [e] at hx; simp at hx)
      have HRX := Lib.hid (hatA i x.cells (by simp [hx]))
      obtain ⟨bT, hrT, _⟩ := (HQ.out.touch HT.out (by simp)).take.rd
      rw [HVT.out] at hrT
      have HRT := Lib.hid hrT
      have HLX := Lib.hid x.len
      have HST := Lib.hid (leftF_step A T i x hx)
      have hwi : IntKind.i64.wrap ((i : Int) + 1) = (i : Int) + 1 := by rw [IntKind.wrap_i64] <;> omega
      have hin2 : (i : Int) < (n : Int) := by omega
      have hll := leftF_len A T i
      have HLL := Lib.hid (show ((leftF A T i).length + 1) * 17 ≤ 140737488355328 by omega)
      clear hx hrA hatA hll hrT
      cases hk : inL T x with
      | true =>
        have HHK := Lib.hid hk
        have HS := Lib.hid (show leftF A T (i + 1) = leftF A T i by rw [HST.out, if_pos hk])
        clear hk
        go_wp2_with fail
        refine wp_region_held (S := Touch [] wr.drew) (by kernel_rfl) ?_
        change wpAnyH _ _ _ _ _ _ _ _ wr.drew
        have HTW := Lib.hid (HT.out.drew)
        have HW := Lib.hid ((Touch.refl [] wr).drew)
        have e1 := HW.out.cell d1 (by simp)
        have e2 := HW.out.cell d2 (by simp)
        have HRW := Lib.hid (HW.out.range HRX.out (by simp))
        generalize wr.drew = W at *
        have hS := Touch.refl [] W
        refine tkH 0 (.pointer (some ⟨h, 0, none⟩)) rfl ?_
        try simp only [Act.put, sT, s0, sS]
        refine tkH 1 (.pointer (some ⟨h, 0, none⟩)) rfl ?_
        try simp only [Act.put, sT, s0, sS]
        refine tkH 2 (.pointer (some ⟨h, 2, none⟩)) rfl ?_
        try simp only [Act.put, sT, s0, sS]
        refine tkH 3 (.slice aT k cT) rfl ?_ (hy := Or.inl ⟨by rfl, fun w' hw => by (have q := hw.cell e2 (by simp); go_simp)⟩)
        try simp only [Act.put, sT, s0, sS]
        refine tkH 4 (.pointer (some ⟨h, 0, none⟩)) rfl ?_
        try simp only [Act.put, sT, s0, sS]
        refine tkH 5 (.pointer (some ⟨h, 0, none⟩)) rfl ?_
        try simp only [Act.put, sT, s0, sS]
        refine tkH 6 (.pointer (some ⟨h, 1, none⟩)) rfl ?_
        try simp only [Act.put, sT, s0, sS]
        refine tkH 7 (.slice (some ⟨bA, oA, none⟩) n cA) rfl ?_ (hy := Or.inl ⟨by rfl, fun w' hw => by (have q := hw.cell e1 (by simp); go_simp)⟩)
        try simp only [Act.put, sT, s0, sS]
        refine tkH 8 (.int .i64 (i : Nat)) rfl ?_
        try simp only [Act.put, sT, s0, sS]
        refine tkH 9 (.pointer (some ⟨bA, oA + i * 17, none⟩)) rfl ?_
        try simp only [Act.put, sT, s0, sS]
        refine tkH 10 (.agg x.cells.toArray) rfl ?_ (hy := Or.inl ⟨by rfl, fun w' hw => exec_load_agg _ 28 _ rfl _ _ rfl x.cells _ (hw.range HRW.out (by simp)) Tryd.underlying28 rfl (by rw [size31, HLX.out])⟩)
        try simp only [Act.put, sT, s0, sS]
        refine wpAnyH_ready (rs := [11]) (by kernel_rfl) (by simp) ?_
        refine cnH rfl (fun K hK => ?_) AllReadyH.nil
        go_simp
        refine (rhasB _ bT T x true HHK.out _ ((HRT.out.touch HW.out (by simp)).touch hS (by simp))).mono ?_
        rintro e w11 ⟨rfl, t11⟩
        have hS2 := hS.trans t11 (by simp)
        refine hK.out _ _ hS2 (fun _ => ?_)
        clear hK K hS t11
        have hS := hS2
        clear hS2
        try simp only [Act.put, sT, s0, sS]
        refine tkH 12 (.bool false) rfl ?_
        try simp only [Act.put, sT, s0, sS]
        refine wpAnyH_done (by kernel_rfl) ?_ _
        try simp only [Act.put, sT, s0, sS]
        clear e1 e2
        have HT2 := Lib.hid (HTW.out.trans hS (by simp))
        have HO2 := Lib.hid (show OwnA w _ u3 (leftF A T i) from Own.touch (Own.touch HO.out HW.out (by simp)) hS (by simp))
        clear hS
        go_wp2_with fail
        go_roundw
        case rel => exact ⟨i + 1, by omega, by go_num, by rw [HS.out]; exact HO2.out, HT2.out⟩
        case measure => simp [intOf]; omega
      | false =>
        have HHK := Lib.hid hk
        have HS := Lib.hid (show leftF A T (i + 1) = leftF A T i ++ [x] by rw [HST.out, if_neg (by simp [hk])])
        clear hk
        go_wp2_with fail
        refine wp_region_held (S := Touch [] wr.drew) (by kernel_rfl) ?_
        change wpAnyH _ _ _ _ _ _ _ _ wr.drew
        have HTW := Lib.hid (HT.out.drew)
        have HW := Lib.hid ((Touch.refl [] wr).drew)
        have e1 := HW.out.cell d1 (by simp)
        have e2 := HW.out.cell d2 (by simp)
        have HRW := Lib.hid (HW.out.range HRX.out (by simp))
        generalize wr.drew = W at *
        have hS := Touch.refl [] W
        refine tkH 0 (.pointer (some ⟨h, 0, none⟩)) rfl ?_
        try simp only [Act.put, sT, s0, sS]
        refine tkH 1 (.pointer (some ⟨h, 0, none⟩)) rfl ?_
        try simp only [Act.put, sT, s0, sS]
        refine tkH 2 (.pointer (some ⟨h, 2, none⟩)) rfl ?_
        try simp only [Act.put, sT, s0, sS]
        refine tkH 3 (.slice aT k cT) rfl ?_ (hy := Or.inl ⟨by rfl, fun w' hw => by (have q := hw.cell e2 (by simp); go_simp)⟩)
        try simp only [Act.put, sT, s0, sS]
        refine tkH 4 (.pointer (some ⟨h, 0, none⟩)) rfl ?_
        try simp only [Act.put, sT, s0, sS]
        refine tkH 5 (.pointer (some ⟨h, 0, none⟩)) rfl ?_
        try simp only [Act.put, sT, s0, sS]
        refine tkH 6 (.pointer (some ⟨h, 1, none⟩)) rfl ?_
        try simp only [Act.put, sT, s0, sS]
        refine tkH 7 (.slice (some ⟨bA, oA, none⟩) n cA) rfl ?_ (hy := Or.inl ⟨by rfl, fun w' hw => by (have q := hw.cell e1 (by simp); go_simp)⟩)
        try simp only [Act.put, sT, s0, sS]
        refine tkH 8 (.int .i64 (i : Nat)) rfl ?_
        try simp only [Act.put, sT, s0, sS]
        refine tkH 9 (.pointer (some ⟨bA, oA + i * 17, none⟩)) rfl ?_
        try simp only [Act.put, sT, s0, sS]
        refine tkH 10 (.agg x.cells.toArray) rfl ?_ (hy := Or.inl ⟨by rfl, fun w' hw => exec_load_agg _ 28 _ rfl _ _ rfl x.cells _ (hw.range HRW.out (by simp)) Tryd.underlying28 rfl (by rw [size31, HLX.out])⟩)
        try simp only [Act.put, sT, s0, sS]
        refine wpAnyH_ready (rs := [11]) (by kernel_rfl) (by simp) ?_
        refine cnH rfl (fun K hK => ?_) AllReadyH.nil
        go_simp
        refine (rhasB _ bT T x false HHK.out _ ((HRT.out.touch HW.out (by simp)).touch hS (by simp))).mono ?_
        rintro e w11 ⟨rfl, t11⟩
        have hS2 := hS.trans t11 (by simp)
        refine hK.out _ _ hS2 (fun _ => ?_)
        clear hK K hS t11
        have hS := hS2
        clear hS2
        try simp only [Act.put, sT, s0, sS]
        refine tkH 12 (.bool true) rfl ?_
        try simp only [Act.put, sT, s0, sS]
        refine wpAnyH_done (by kernel_rfl) ?_ _
        try simp only [Act.put, sT, s0, sS]
        clear e1 e2
        have HT2 := Lib.hid (HTW.out.trans hS (by simp))
        have HO2 := Lib.hid (show OwnA w _ u3 (leftF A T i) from Own.touch (Own.touch HO.out HW.out (by simp)) hS (by simp))
        have rx2 := hS.range (HW.out.range HRX.out (by simp)) (by simp)
        have d1b := hS.cell (HW.out.cell d1 (by simp)) (by simp)
        clear hS
        go_wp2_with (first
          | ((with_reducible refine at_load 28 ?_); refine wpList_load_mid rfl 28 _ rfl bA (oA + i * 17) rfl x.cells _ rx2 Tryd.underlying28 rfl (by rw [size31, HLX.out]) ?_)
          | (refine wpList_build_ad rfl _ rfl x (by rfl) ?_)
          | (at_builtin; refine wpList_app_ad w _ (by rfl) _ _ (by rfl) _ (leftF A T i) (by rfl) HO2.out HT2.out.size x (by rfl) HLL.out ?_))
        intro v3 w3 ho3 t3 hv3
        have HO3 := Lib.hid ho3
        have HT3 := Lib.hid (HT2.out.trans t3 (fun g hg => .inr (by have := HO2.out.new g (by simpa using hg); omega)))
        clear ho3 t3 hv3 rx2
        go_wp2_with fail
        go_roundw
        case rel => exact ⟨i + 1, by omega, by go_num, by rw [HS.out]; exact HO3.out, HT3.out⟩
        case measure => simp [intOf]; omega
    · have HLP := Lib.hid (show leftF A T i = leftF A T A.length by rw [show i = A.length by rw [← HN.out]; omega])
      obtain ⟨bl, hrl, _⟩ := HO.out.rd
      have HSO := Lib.hid (rsort_any u3 bl (leftF A T i) wr hrl (by have := leftF_len A T i; omega))
      rw [HLP.out] at HSO
      clear hrl
      go_wp2_with fail
      clear d0 d1 d2
      refine HSO.out.mono ?_
      rintro e w2 ⟨vs, rfl, os, t2⟩
      have HT2 := Lib.hid (HT.out.trans t2 (by simp))
      have HOS := Lib.hid (show OwnA w w2 vs (sortS Ad.less (leftF A T A.length)) from Own.older os HT.out.size)
      obtain ⟨c0, c1, c2⟩ := HC.out
      have d0 := HT2.out.cell c0 (by simp)
      have d1 := HT2.out.cell c1 (by simp)
      have d2 := HT2.out.cell c2 (by simp)
      have HQ2 := Lib.hid (HQ.out.touch HT2.out (by simp))
      clear os t2 c0 c1 c2 HSO HC
      have hres : remR first A T = match sortS Ad.less (leftF A T A.length) with
        | [] => []
        | a :: r => match T.getLast? with
          | none => interA (a :: r) first a.b
          | some t => interA (a :: r) 1 (!t.b) := rfl
      have hsl : (sortS Ad.less (leftF A T A.length)).length ≤ 1000000 := by rw [sortS_len]; have := leftF_len A T A.length; rw [← HN.out] at this ⊢; omega
      cases hs : sortS Ad.less (leftF A T A.length) with
      | nil =>
        rw [hs] at hres HOS
        obtain ⟨a0, c0', rfl, _, _, _⟩ := HOS.out.form
        have HRES := Lib.hid hres
        clear hres hs hsl
        go_wp2_with fail
        go_ret
        exact ⟨_, rfl, by rw [HRES.out]; exact Own.nil _ _, HT2.out⟩
      | cons a r =>
        rw [hs] at hres HOS hsl
        obtain ⟨a0, cS, hvs, hlS, hcS, hat0⟩ := HOS.out.form
        obtain ⟨gs, rfl⟩ := hat0 (by simp)
        obtain ⟨bs, hrs, _⟩ := HOS.out.rd
        have HRS := Lib.hid hrs
        obtain ⟨ls, hls⟩ : ∃ ls, ls = (a :: r).length := ⟨_, rfl⟩
        have hls0 : 0 < ls := by rw [hls]; simp
        have hlq : ((ls : Int) == 0) = false := by simp only [beq_eq_false_iff_ne, ne_eq]; omega
        rw [← hls] at hvs hlS
        subst hvs
        have hra := own_at (l := a :: r) (i := 0) (a := a) (by have := HOS.out.row'; rw [← hls] at this; exact this) rfl
        have hfl : w2.cell? ⟨gs, 0, none⟩ = some (.bool a.b) := by
          have := hra 0 (.bool a.b) rfl
          simpa using this
        have HIN := fun (f : Int) (b6 : Bool) (W : World) (tW : Touch [] w2 W) => inter14 (.slice (some ⟨gs, 0, none⟩) ls cS) bs f b6 ((a :: r).map Ad.cells) W (by rw [List.length_map]; exact hsl) (hrs.touch tW (by simp)) (fun x hx => by obtain ⟨y, _, rfl⟩ := List.mem_map.1 hx; exact y.is)
        have HIN := Lib.hid HIN
        have HRES := Lib.hid hres
        clear hres hs hsl hra hrs hat0 hls
        by_cases hk0 : k = 0
        · have hK0 : T = [] := List.eq_nil_of_length_eq_zero (by rw [← HK.out]; exact hk0)
          have HL := Lib.hid (show remR first A T = interA (a :: r) first a.b by rw [HRES.out, hK0]; rfl)
          have hkq : ((k : Int) == 0) = true := by simp only [beq_iff_eq]; omega
          clear hk0 hK0
          go_wp2_with fail
          refine wp_region_held (S := Touch [] w2.drew) (by kernel_rfl) ?_
          change wpAnyH _ _ _ _ _ _ _ _ w2.drew
          have hTd := Lib.hid (HT2.out.drew)
          have HId := Lib.hid ((Touch.refl [] w2).drew)
          have e0 : w2.drew.cell? ⟨h, 0, none⟩ = some (.int .i64 first) := d0
          have e3 : w2.drew.cell? ⟨gs, 0, none⟩ = some (.bool a.b) := hfl
          generalize w2.drew = W at *
          have hS := Touch.refl [] W
          refine tkH 0 (.slice (some ⟨gs, 0, none⟩) ls cS) rfl ?_
          try simp only [Act.put, sT, s0, sS]
          refine tkH 1 (.pointer (some ⟨h, 0, none⟩)) rfl ?_
          try simp only [Act.put, sT, s0, sS]
          refine tkH 2 (.pointer (some ⟨h, 0, none⟩)) rfl ?_
          try simp only [Act.put, sT, s0, sS]
          refine tkH 3 (.pointer (some ⟨h, 0, none⟩)) rfl ?_
          try simp only [Act.put, sT, s0, sS]
          refine tkH 4 (.int .i64 first) rfl ?_ (hy := Or.inl ⟨by rfl, fun w' hw => by (have q := hw.cell e0 (by simp); go_simp)⟩)
          try simp only [Act.put, sT, s0, sS]
          refine tkH 5 (.slice (some ⟨gs, 0, none⟩) ls cS) rfl ?_
          try simp only [Act.put, sT, s0, sS]
          refine tkH 6 (.pointer (some ⟨gs, 0, none⟩)) rfl ?_
          try simp only [Act.put, sT, s0, sS]
          refine tkH 7 (.pointer (some ⟨gs, 0, none⟩)) rfl ?_
          try simp only [Act.put, sT, s0, sS]
          refine tkH 8 (.bool a.b) rfl ?_ (hy := Or.inl ⟨by rfl, fun w' hw => by (have q := hw.cell e3 (by simp); go_simp)⟩)
          try simp only [Act.put, sT, s0, sS]
          refine wpAnyH_ready (rs := [9]) (by kernel_rfl) (by simp) ?_
          refine cnH rfl (fun K hK => ?_) AllReadyH.nil
          go_simp
          refine ((HIN.out first a.b _ (HId.out.trans hS (by simp))).mono) ?_
          rintro e wF ⟨vF, rfl, oF, tF⟩
          have hS2 := hS.trans tF (by simp)
          have oF := Own.older oF hS.size
          refine hK.out _ _ hS2 (fun _ => ?_)
          clear hK K hS tF
          have hS := hS2
          clear hS2
          try simp only [Act.put, sT, s0, sS]
          refine tkH 10 vF rfl ?_
          try simp only [Act.put, sT, s0, sS]
          refine wpAnyH_done (by kernel_rfl) ?_ _
          try simp only [Act.put, sT, s0, sS]
          have HOF := Lib.hid (show OwnA w wF vF (interA (a :: r) first a.b) by have h := (show Own W wF vF _ from oF); rw [inter_ad] at h; exact Own.older h hTd.out.size)
          have HTF := Lib.hid (hTd.out.trans hS (by simp))
          clear hS oF
          go_wp2_with fail
          go_ret
          exact ⟨_, rfl, by rw [HL.out]; exact HOF.out, HTF.out⟩
        · obtain ⟨k1, hk1⟩ : ∃ k1, k1 = k - 1 := ⟨_, rfl⟩
          obtain ⟨tl, htl⟩ : ∃ tl, T[k1]? = some tl := ⟨_, List.getElem?_eq_getElem (by rw [← HK.out]; omega)⟩
          have HL := Lib.hid (show remR first A T = interA (a :: r) 1 (!tl.b) by rw [HRES.out, List.getLast?_eq_getElem?, ← HK.out, ← hk1, htl])
          have hkq : ((k : Int) == 0) = false := by simp only [beq_eq_false_iff_ne, ne_eq]; omega
          obtain ⟨gt, rfl⟩ := hatT (by omega)
          have hwk1 : IntKind.i64.wrap ((k : Int) - 1) = (k1 : Int) := by rw [IntKind.wrap_i64] <;> omega
          have hft : w2.cell? ⟨gt, k1 * 17, none⟩ = some (.bool tl.b) := by
            have h := HQ2.out.take
            rw [HVT.out] at h
            have h2 := own_at (l := T) (i := k1) (a := tl) (by have := h.row'; rw [← HK.out] at this; exact this) htl
            have := h2 0 (.bool tl.b) rfl
            simpa using this
          have hk1k : (k1 : Int) < (k : Int) := by omega
          clear hk0 htl hk1
          go_wp2_with fail
          refine wp_region_held (S := Touch [] w2.drew) (by kernel_rfl) ?_
          change wpAnyH _ _ _ _ _ _ _ _ w2.drew
          have hTd := Lib.hid (HT2.out.drew)
          have HId := Lib.hid ((Touch.refl [] w2).drew)
          have e0 : w2.drew.cell? ⟨h, 0, none⟩ = some (.int .i64 first) := d0
          have e2 : w2.drew.cell? ⟨h, 2, none⟩ = some (.slice (some ⟨gt, 0, none⟩) k cT) := d2
          have e5 : w2.drew.cell? ⟨gt, k1 * 17, none⟩ = some (.bool tl.b) := hft
          generalize w2.drew = W at *
          have hS := Touch.refl [] W
          refine tkH 0 (.slice (some ⟨gs, 0, none⟩) ls cS) rfl ?_
          try simp only [Act.put, sT, s0, sS]
          refine tkH 1 (.pointer (some ⟨h, 0, none⟩)) rfl ?_
          try simp only [Act.put, sT, s0, sS]
          refine tkH 2 (.pointer (some ⟨h, 0, none⟩)) rfl ?_
          try simp only [Act.put, sT, s0, sS]
          refine tkH 3 (.pointer (some ⟨h, 2, none⟩)) rfl ?_
          try simp only [Act.put, sT, s0, sS]
          refine tkH 4 (.slice (some ⟨gt, 0, none⟩) k cT) rfl ?_ (hy := Or.inl ⟨by rfl, fun w' hw => by (have q := hw.cell e2 (by simp); go_simp)⟩)
          try simp only [Act.put, sT, s0, sS]
          refine tkH 5 (.pointer (some ⟨h, 0, none⟩)) rfl ?_
          try simp only [Act.put, sT, s0, sS]
          refine tkH 6 (.pointer (some ⟨h, 0, none⟩)) rfl ?_
          try simp only [Act.put, sT, s0, sS]
          refine tkH 7 (.pointer (some ⟨h, 2, none⟩)) rfl ?_
          try simp only [Act.put, sT, s0, sS]
          refine tkH 8 (.slice (some ⟨gt, 0, none⟩) k cT) rfl ?_ (hy := Or.inl ⟨by rfl, fun w' hw => by (have q := hw.cell e2 (by simp); go_simp)⟩)
          try simp only [Act.put, sT, s0, sS]
          refine tkH 9 (.int .i64 (k : Nat)) rfl ?_
          try simp only [Act.put, sT, s0, sS]
          refine tkH 10 (.int .i64 (k1 : Nat)) rfl ?_
          try simp only [Act.put, sT, s0, sS]
          refine tkH 11 (.pointer (some ⟨gt, k1 * 17, none⟩)) rfl ?_
          try simp only [Act.put, sT, s0, sS]
          refine tkH 12 (.pointer (some ⟨gt, k1 * 17, none⟩)) rfl ?_
          try simp only [Act.put, sT, s0, sS]
          refine tkH 13 (.bool tl.b) rfl ?_ (hy := Or.inl ⟨by rfl, fun w' hw => by (have q := hw.cell e5 (by simp); go_simp)⟩)
          try simp only [Act.put, sT, s0, sS]
          refine tkH 14 (.bool (!tl.b)) rfl ?_
          try simp only [Act.put, sT, s0, sS]
          refine wpAnyH_ready (rs := [15]) (by kernel_rfl) (by simp) ?_
          refine cnH rfl (fun K hK => ?_) AllReadyH.nil
          go_simp
          refine ((HIN.out 1 (!tl.b) _ (HId.out.trans hS (by simp))).mono) ?_
          rintro e wF ⟨vF, rfl, oF, tF⟩
          have hS2 := hS.trans tF (by simp)
          have oF := Own.older oF hS.size
          refine hK.out _ _ hS2 (fun _ => ?_)
          clear hK K hS tF
          have hS := hS2
          clear hS2
          try simp only [Act.put, sT, s0, sS]
          refine tkH 16 vF rfl ?_
          try simp only [Act.put, sT, s0, sS]
          refine wpAnyH_done (by kernel_rfl) ?_ _
          try simp only [Act.put, sT, s0, sS]
          have HOF := Lib.hid (show OwnA w wF vF (interA (a :: r) 1 (!tl.b)) by have h := (show Own W wF vF _ from oF); rw [inter_ad] at h; exact Own.older h hTd.out.size)
          have HTF := Lib.hid (hTd.out.trans hS (by simp))
          clear hS oF
          go_wp2_with fail
          go_ret
          exact ⟨_, rfl, by rw [HL.out]; exact HOF.out, HTF.out⟩
end Go.Proofs.YtiklhaajhdephaaDoor

/-
  The contract of the reference's Take.
-/
namespace Go.Proofs.YtiklhaajhdephaaDoor
open Go.RowKit
set_option linter.unusedVariables false
set_option linter.unusedSimpArgs false

set_option maxRecDepth 100000 in
set_option maxHeartbeats 8000000 in
theorem rtake_any (w0 w : World) (h : Nat) (va vt : Value) (first : Int) (A T : List Ad) (q : Rqu w0 w h va vt first A T) (hz : w0.heap.size ≤ w.heap.size) (hA : A.length ≤ 1000000) (hT : T.length ≤ 1000000) :
    Calls Tryd.prog 25 #[.pointer (some ⟨h, 0, none⟩)] w fun e w' => e = .returned (.tuple #[.agg (headA (remR first A T)).cells.toArray, .bool (!(remR first A T).isEmpty)]) ∧
      ∃ vt', Rqu w0 w' h va vt' first A (if (remR first A T).isEmpty then T else T ++ [headA (remR first A T)]) ∧ Touch (h :: vt.ownBlock.toList) w w' ∧ (vt'.ownBlock = vt.ownBlock ∨ ∃ k, vt'.ownBlock = some k ∧ w.heap.size ≤ k) := by
  have HT := Lib.hid ((Touch.refl [] w).alloc (.cells (adr false (List.replicate 16 0)).toArray 28))
  have HG := Lib.hid (heap_alloc_new w (.cells (adr false (List.replicate 16 0)).toArray 28))
  have HR := Lib.hid (rrem_any w0 (w.alloc (.cells (adr false (List.replicate 16 0)).toArray 28)) h va vt first A T (q.touch HT.out (by simp)) hA hT)
  have HQ := Lib.hid q
  clear q
  generalize remR first A T = R at *
  go_enter Tryd.func25, Tryd.ntmps25
  go_wp2_with fail
  refine HR.out.mono ?_
  rintro e w1 ⟨v, rfl, ho, t1⟩
  have HT1 := Lib.hid (HT.out.trans t1 (by simp))
  have HG1 := Lib.hid (t1.at HG.out (by simp))
  cases R with
  | nil =>
    obtain ⟨a0, c0, rfl, _, _, _⟩ := ho.form
    have HZL := Lib.hid zAd.len
    clear ho t1 HR HT HG
    go_wp2_with (first
      | ((with_reducible refine at_build 28 ?_); refine wpList_built (by rfl) 28 _ (by rfl) _ _ (by rfl) built_zAd ?_)
      | ((with_reducible refine at_store 28 ?_); refine wpList_store_into rfl 28 _ _ rfl w.heap.size 28 _ zAd.cells rfl rfl HG1.out (by rw [HZL.out]; rfl) (by rw [size31, HZL.out]) zAd.one ?_))
    intro w4 h4 t4 z4
    have HT4 := Lib.hid (HT1.out.trans t4 (by intro y hy; right; simp at hy; omega))
    go_wp2_with fail
    exact ret_row_tmp rfl size31 Tryd.underlying28 rfl HZL.out rfl rfl h4 ⟨rfl, vt, HQ.out.touch HT4.out (by simp), HT4.out.mono (by simp), .inl rfl⟩
  | cons a r =>
    obtain ⟨a0, c0, hv, hl, hc, hat⟩ := ho.form
    obtain ⟨g, rfl⟩ := hat (by simp)
    obtain ⟨ls, hls⟩ : ∃ ls, ls = (a :: r).length := ⟨_, rfl⟩
    have hls0 : 0 < ls := by rw [hls]; simp
    have hlq : ((ls : Int) == 0) = false := by simp only [beq_eq_false_iff_ne, ne_eq]; omega
    rw [← hls] at hv hl
    have hgn := ho.new g (by rw [hv]; rfl)
    have zw : (w.alloc (.cells (adr false (List.replicate 16 0)).toArray 28)).heap.size = w.heap.size + 1 := by simp
    rw [zw] at hgn
    subst hv
    have ra := own_at (l := a :: r) (i := 0) (a := a) (by have := ho.row'; rw [← hls] at this; exact this) rfl
    simp only [Nat.zero_mul] at ra
    have HLA := Lib.hid a.len
    have HRA := Lib.hid ra
    obtain ⟨aT, cT, hvt, hlT, hcT, _⟩ := HQ.out.take.form
    obtain ⟨kT, hkT⟩ : ∃ kT, kT = T.length := ⟨_, rfl⟩
    have HK := Lib.hid hkT
    rw [← hkT] at hvt hT
    have HVT := Lib.hid hvt
    have HQ1 := Lib.hid (HQ.out.touch HT1.out (by simp))
    have hsz1 : w.heap.size < w1.heap.size := by have := t1.size; rw [zw] at this; omega
    simp only [headA, List.isEmpty_cons, Bool.not_false, Bool.false_eq_true, if_false]
    clear ho t1 HR HT HG hat hls hvt hkT hlT ra
    go_wp2_with fail
    refine wp_region_F (S := Touch vt.ownBlock.toList w1.drew) [12] (by kernel_rfl) ?_
    change wpAnyF _ _ _ _ _ _ _ _ _ w1.drew
    have HQX := Lib.hid (HQ1.out.touch ((Touch.refl [] w1).drew) (by simp))
    have HRX := Lib.hid (((Touch.refl [] w1).drew).range HRA.out (by simp))
    have HTX := Lib.hid (HT1.out.drew)
    have HGX := Lib.hid (((Touch.refl [] w1).drew).at HG1.out (by simp))
    have zX : w1.drew.heap.size = w1.heap.size := by simp
    generalize w1.drew = X at *
    have hS := Touch.refl vt.ownBlock.toList X
    have c2 := HQX.out.cells.2.2
    rw [HVT.out] at c2
    have hhb : h ∉ vt.ownBlock.toList := by intro hm; exact HQX.out.ht (by simpa using hm)
    have hgb : g ∉ vt.ownBlock.toList := by intro hm; have := Own.lt HQ.out.take _ (by simpa using hm); omega
    have hwb : w.heap.size ∉ vt.ownBlock.toList := by intro hm; have := Own.lt HQ.out.take _ (by simpa using hm); omega
    have HO := Lib.hid HQX.out.take
    have hl1 : (T.length + 1) * 17 ≤ 140737488355328 := by rw [← HK.out]; omega
    refine tkF 0 (.pointer (some ⟨h, 0, none⟩)) rfl ?_
    try simp only [Act.put, sT, s0, sS]
    refine tkF 1 (.pointer (some ⟨h, 0, none⟩)) rfl ?_
    try simp only [Act.put, sT, s0, sS]
    refine tkF 2 (.pointer (some ⟨h, 0, none⟩)) rfl ?_
    try simp only [Act.put, sT, s0, sS]
    refine tkF 3 (.pointer (some ⟨h, 2, none⟩)) rfl ?_
    try simp only [Act.put, sT, s0, sS]
    refine tkF 4 (.slice aT kT cT) rfl ?_ (hy := Or.inl ⟨by rfl, fun w' hw => by (have q := hw.cell c2 hhb; go_simp)⟩)
    try simp only [Act.put, sT, s0, sS]
    refine tkF 5 (.slice (some ⟨g, 0, none⟩) ls c0) rfl ?_
    try simp only [Act.put, sT, s0, sS]
    refine tkF 6 (.pointer (some ⟨g, 0, none⟩)) rfl ?_
    try simp only [Act.put, sT, s0, sS]
    refine tkF 7 (.agg a.cells.toArray) rfl ?_ (hy := Or.inl ⟨by rfl, fun w' hw => exec_load_agg _ 28 _ rfl _ _ rfl a.cells _ (hw.range HRX.out hgb) Tryd.underlying28 rfl (by rw [size31, HLA.out])⟩)
    try simp only [Act.put, sT, s0, sS]
    refine wpAnyF_ready (rs := [8]) (by kernel_rfl) (by simp) ?_
    refine cnF rfl (fun K hK => ?_) AllReadyF.nil
    refine step_of_list rfl ?_
    refine wpList_build_ad rfl _ rfl a (by rfl) ?_
    have r6 := rd_newA X a 28
    have tA := (Touch.refl [] X).alloc (.cells [a.cells].flatten.toArray 28)
    have hS2 := hS.trans tA (by simp)
    have hO6 := (show OwnA w0 _ vt T from Own.touch HO.out tA (by simp))
    have zA : (X.alloc (.cells [a.cells].flatten.toArray 28)).heap.size = X.heap.size + 1 := by simp
    refine ⟨rfl, hK.out _ _ hS2 (fun _ => ?_)⟩
    clear hK K hS
    have hS := hS2
    clear hS2
    generalize hX1 : X.alloc (.cells [a.cells].flatten.toArray 28) = X1 at *
    clear hX1
    try simp only [Act.put, sT, s0, sS]
    refine wpAnyF_ready (rs := [9]) (by kernel_rfl) (by simp) ?_
    refine cnF rfl (fun K hK => ?_) AllReadyF.nil
    refine step_of_list rfl ?_
    refine wpList_app_ads w0 X1 rfl _ _ rfl vt T (by rw [HVT.out]; rfl) hO6 (by omega) _ _ [a] rfl r6 (by simp only [List.length_singleton]; exact hl1) ?_
    intro v7 w7 o7 t7 h7
    have hS2 := hS.trans t7 (fun y hy => .inl hy)
    refine ⟨rfl, hK.out _ _ hS2 (fun _ => ?_)⟩
    clear hK K hS
    have hS := hS2
    clear hS2
    try simp only [Act.put, sT, s0, sS]
    refine tkF 10 (.pointer (some ⟨h, 0, none⟩)) rfl ?_
    try simp only [Act.put, sT, s0, sS]
    refine tkF 11 (.pointer (some ⟨h, 2, none⟩)) rfl ?_
    try simp only [Act.put, sT, s0, sS]
    refine wpAnyF_ready (rs := [12]) (by kernel_rfl) (by simp) ?_
    refine clF rfl (by simp) (fun K hK => ?_) AllReadyF.nil
    have q1 := hS.cell c2 hhb
    have g0 : w7.frozen? ⟨h, 2, none⟩ = false := by simp [World.frozen?, hS.at HQX.out.cell hhb]
    obtain ⟨a7, c7, hv7, _, _, _⟩ := o7.form
    have HPU := HQX.out.pushT hS o7 (by rcases h7 with e | e; exact .inl e; exact .inr ⟨_, e, by omega⟩)
    have HF5 := Lib.hid (show Rqu w0 (w7.setCell ⟨h, 2, none⟩ v7) h va v7 first A (T ++ [a]) ∧ Touch (h :: vt.ownBlock.toList) w (w7.setCell ⟨h, 2, none⟩ v7) ∧ (v7.ownBlock = vt.ownBlock ∨ ∃ k, v7.ownBlock = some k ∧ w.heap.size ≤ k) from ⟨HPU.1, (HTX.out.mono (by simp)).trans HPU.2 (fun y hy => .inl hy), by rcases h7 with e | e; exact .inl e; exact .inr ⟨_, e, by omega⟩⟩)
    have HNW := Lib.hid (show ∀ g ∈ qfoot h va v7, g ≠ w.heap.size from by intro g hg e; subst e; simp only [qfoot, List.mem_cons, List.mem_append, Option.mem_toList] at hg; rcases hg with e | e | e; (have := (Array.getElem?_eq_some_iff.1 HQ.out.cell).1; omega); (have := Own.lt HQ.out.seen _ e; omega); (rcases h7 with e2 | e2; (rw [e2] at e; have := Own.lt HQ.out.take _ e; omega); (rw [e2] at e; simp at e; omega)))
    have t5 : Touch (h :: vt.ownBlock.toList) X (w7.setCell ⟨h, 2, none⟩ v7) := HPU.2
    have r5 := t5.range HRX.out (by intro hm; simp only [List.mem_cons] at hm; rcases hm with e | e; (have := (Array.getElem?_eq_some_iff.1 HQ.out.cell).1; omega); exact hgb e)
    have HG5 := Lib.hid (t5.at HGX.out (by intro hm; simp only [List.mem_cons] at hm; rcases hm with e | e; (have := (Array.getElem?_eq_some_iff.1 HQ.out.cell).1; omega); exact hwb e))
    clear HPU h7 t7 t5
    rw [List.length_append, List.length_singleton] at hv7
    subst hv7
    go_simp
    refine hK.out _ _ ?_
    clear hK K
    try simp only [Act.put, sT, s0, sS]
    refine wpAnyF_done (by kernel_rfl) ?_ _
    try simp only [Act.put, sT, s0, sS]
    go_wp2_with (first
      | ((with_reducible refine at_load 28 ?_); refine wpList_load_mid rfl 28 _ rfl g 0 rfl a.cells _ r5 Tryd.underlying28 rfl (by rw [size31, HLA.out]) ?_)
      | ((with_reducible refine at_store 28 ?_); refine wpList_store_into rfl 28 _ _ rfl w.heap.size 28 _ a.cells rfl rfl HG5.out (by rw [HLA.out]; rfl) (by rw [size31, HLA.out]) a.one ?_))
    intro w6 h6 t6 z6
    go_wp2_with fail
    refine ret_row_tmp rfl size31 Tryd.underlying28 rfl HLA.out rfl rfl h6 ⟨rfl, ?_⟩
    have hfoot := HNW.out
    exact ⟨_, HF5.out.1.touch t6 (by intro g hg; simp; exact hfoot g hg), HF5.out.2.1.trans t6 (by intro y hy; right; simp at hy; omega), HF5.out.2.2⟩
end Go.Proofs.YtiklhaajhdephaaDoor

/-
  Plain: the reference's queue and the program's leave the same addresses.
-/
namespace Go.Proofs.YtiklhaajhdephaaDoor
open Go.RowKit
set_option linter.unusedVariables false
set_option linter.unusedSimpArgs false

theorem inL_tkn {A : List Ad} {K : List Nat} (h : Inv A K) {n : Nat} {x : Ad} (hx : A[n]? = some x) : (inL (tknP A K) x = true) ↔ n ∈ K := by
  have e : (inL (tknP A K) x = true) ↔ x ∈ tknP A K := by simp [inL]
  rw [e, tknP_mem]
  constructor
  · rintro ⟨i, hi, hxi⟩
    rw [← nodup_at h.nodA hxi hx]
    exact hi
  · intro hn
    exact ⟨n, hn, hx⟩
theorem leftF_eq {A : List Ad} {K : List Nat} (h : Inv A K) : ∀ n, n ≤ A.length → leftF A (tknP A K) n = leftN A K n
  | 0, _ => by simp [leftF, leftN]
  | n + 1, hn => by
    have hx : A[n]? = some (A[n]'(by omega)) := List.getElem?_eq_getElem (by omega)
    rw [leftF_step A _ n _ hx, leftN_step A K n _ hx, leftF_eq h n (by omega)]
    by_cases hk : n ∈ K
    · rw [if_pos ((inL_tkn h hx).2 hk), if_pos hk]
    · rw [if_neg (fun e => hk ((inL_tkn h hx).1 e)), if_neg hk]
theorem tkn_last {A : List Ad} {K : List Nat} (hb : ∀ i ∈ K, i < A.length) : (tknP A K).getLast? = lastT A K := by
  rcases List.eq_nil_or_concat K with rfl | ⟨K', k, rfl⟩
  · simp [tknP, lastT]
  · rw [List.concat_eq_append] at hb ⊢
    have hk : A[k]? = some (A[k]'(hb k (by simp))) := List.getElem?_eq_getElem (hb k (by simp))
    unfold tknP lastT
    rw [List.filterMap_append]
    simp [hk]
theorem remR_eq {A : List Ad} {K : List Nat} (h : Inv A K) (first : Int) : remR first A (tknP A K) = remP first A K := by
  unfold remR remP
  rw [leftF_eq h _ (Nat.le_refl _), tkn_last h.bound]
  rfl
/-- What a take leaves of the reference's queue. -/
theorem tkn_take {A : List Ad} {K : List Nat} {k : Nat} {a : Ad} (ha : A[k]? = some a) : tknP A (K ++ [k]) = tknP A K ++ [a] := by
  unfold tknP
  rw [List.filterMap_append]
  simp [ha]
end Go.Proofs.YtiklhaajhdephaaDoor

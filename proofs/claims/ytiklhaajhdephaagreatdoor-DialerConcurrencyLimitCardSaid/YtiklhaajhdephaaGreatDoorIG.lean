/-
  Merged texts: Rys.
-/
import Derived.Test.YtiklhaajhdephaaGreatDoorIF
import Derived.Test.YtiklhaajhdephaaGreatDoorIE
import Derived.Test.YtiklhaajhdephaaGreatDoorIB

/-
 The contract of sameState: a dialer and its reference that are alike show the same.
-/
namespace Go.Proofs.YtiklhaajhdephaaGreatDoor
open Go.RowKit
set_option linter.unusedVariables false
set_option linter.unusedSimpArgs false

theorem exec_neqY {P : Program} {a : Act} {w : World} (op : Oper) (t t' : TypeId) (x y : Operand) (ho : op.op = .binOp .neq t x y t')
  (xs ys : Array Value) (hx : a.eval x = .agg xs) (hy : a.eval y = .agg ys) (hm : P.eqGuardType P.depth t = false) (r : Bool) (hr : (Op.equalIn 10000 t (.agg xs) (.agg ys)).run P w = .ok r w) : (execOp a.eval op).run P w = .ok (.value (.bool (!r))) w := by
 have hb : (binOp .neq t (.agg xs) (.agg ys)).run P w = .ok (.bool (!r)) w := by rw [run_neq_struct, hr]; rfl
 unfold execOp
 simp only [ho, hx, hy, Sem.run_bind, run_eqGuard_agg w _ _ _ _ _ _ hm, Result.andThen_ok, hb, Sem.run_pure]
theorem exec_builtY {a : Act} {w : World} (op : Oper) (t : TypeId) (parts : Array (Nat × Operand)) (ho : op.op = .build t parts)
  (vals : List (Nat × Value)) (cells : Array Value) (hv : (parts.toList.map fun p => (p.1, a.eval p.2)) = vals) (hb : Tryz.prog.built t vals = some cells) : (execOp a.eval op).run Tryz.prog w = .ok (.value (.agg cells)) w := by
 have hr := run_build (P := Tryz.prog) w t (parts.map fun (i, x) => (i, a.eval x)) cells (by rw [Array.toList_map, ← hb, ← hv])
 unfold execOp
 simp only [ho, Sem.run_bind, hr, Result.andThen_ok, Sem.run_pure]
set_option maxRecDepth 100000 in
set_option maxHeartbeats 16000000 in
theorem same_any (w0 : World) (hI : Nat) (bI : DV) (hR : Nat) (bR : RV) (s : DS) (N : Nat) (w : World) (B : Two w0 w hI bI hR bR s s N) (now : Int) (hn : 0 ≤ now ∧ now ≤ maxT) :
  Calls Tryz.prog 18 #[.agg #[.pointer (some ⟨hI, 0, none⟩), .pointer (some ⟨hR, 0, none⟩)], .int .u64 now] w fun e w' => e = .returned (.bool true) ∧ Touch [] w w' := by
 have G2 := heap_alloc_new w (.cells #[.pointer (some ⟨hI, 0, none⟩), .pointer (some ⟨hR, 0, none⟩)] 34)
 have TW := (Touch.refl [] w).alloc (.cells #[.pointer (some ⟨hI, 0, none⟩), .pointer (some ⟨hR, 0, none⟩)] 34)
 have HG := Lib.hid G2
 have HT := Lib.hid TW
 have HB := Lib.hid (B.touch0 TW)
 have HG2 := Lib.hid (show w.heap.size ∉ bfoot hI bI hR bR from fun hm => by have := (B.lt _ hm).2; omega)
 have HA := Lib.hid (show s.A.length ≤ 20 by have := B.oi.a17; omega)
 have HN := Lib.hid hn
 obtain ⟨x, hx⟩ : ∃ x, headA (s.cand now) = x := ⟨_, rfl⟩
 obtain ⟨k, hk⟩ : ∃ k, (!(s.cand now).isEmpty) = k := ⟨_, rfl⟩
 obtain ⟨o, ho⟩ : ∃ o, s.over = o := ⟨_, rfl⟩
 obtain ⟨r, hr⟩ : ∃ r, (if o = true then primN s.rs else 0) = r := ⟨_, rfl⟩
 obtain ⟨rv, hrv⟩ : ∃ rv, s.resolved = rv := ⟨_, rfl⟩
 obtain ⟨ns, hns⟩ : ∃ ns, s.nextStart now = ns := ⟨_, rfl⟩
 have HRV := Lib.hid hrv
 have HNS := Lib.hid hns
 have HXL := Lib.hid x.len
 have HCI := Lib.hid (fun (w : World) (d : Dl w0 w hI bI s) => dcand_any w0 w hI bI s d HA.out now hn)
 have HCR := Lib.hid (fun (w : World) (d : Rdl w0 w hR bR s (tknP s.A s.K)) => rcand_any w0 w hR bR s _ d B.or.ref now)
 rw [hx, hk] at HCI HCR
 have HEI := Lib.hid (fun (w : World) (d : Dl w0 w hI bI s) => dexh_any w0 w hI bI s d HA.out B.oi.rs o ho r hr)
 have HER := Lib.hid (fun (w : World) (d : Rdl w0 w hR bR s (tknP s.A s.K)) => rexh_any w0 w hR bR s _ d B.or.ref B.oi.rs o ho r hr)
 have c0 := cellAt G2 (k := 0) rfl
 clear B hn hx hk ho hr hrv hns G2 TW
 go_enter Tryz.func18, Tryz.ntmps18
 go_wp2_with fail
 generalize w.alloc (.cells #[.pointer (some ⟨hI, 0, none⟩), .pointer (some ⟨hR, 0, none⟩)] 34) = W at *
 generalize w.heap.size = g2 at *
 refine (HCI.out W HB.out.di).mono ?_
 rintro e w1 ⟨rfl, t1⟩
 have HT1 := Lib.hid t1
 have HN1 := Lib.hid (heap_alloc_new w1 (.cells (adr false (List.replicate 16 0)).toArray 40))
 have HA1 := Lib.hid ((Touch.refl [] w1).alloc (.cells (adr false (List.replicate 16 0)).toArray 40))
 have HGA0 := Lib.hid (show w.heap.size ≤ w1.heap.size from Nat.le_trans HT.out.size t1.size)
 have HGN := Lib.hid (show g2 ≠ w1.heap.size from fun e => by have h1 := (Array.getElem?_eq_some_iff.1 HG.out).1; have := t1.size; omega)
 have HGA := Lib.hid (show w1.heap.size ∉ bfoot hI bI hR bR from fun hm => by have := (HB.out.lt _ hm).2; have := t1.size; omega)
 clear t1 c0 HCI
 go_wp2_with ((with_reducible refine at_store 40 ?_); refine wpList_store_into rfl 40 _ _ rfl w1.heap.size 40 _ x.cells rfl rfl HN1.out (by rw [HXL.out]; rfl) (by rw [size31, HXL.out]) x.one ?_)
 intro w2 h2 t2 z2
 have t2' := HT1.out.trans (HA1.out.trans t2 (by intro y hy; right; simp at hy; omega)) (by simp)
 have HB2 := Lib.hid (HB.out.touch0 t2')
 have HT2 := Lib.hid (HT.out.trans t2' (by simp))
 have HR2 := Lib.hid (t2'.at HG.out (by simp))
 have HA2 := Lib.hid h2
 have c1 := cellAt HR2.out (k := 1) rfl
 generalize w1.heap.size = gA at *
 clear h2 t2 z2 t2' HT1 HN1 HA1 HB HT HG
 go_wp2_with fail
 refine (HCR.out w2 HB2.out.dr).mono ?_
 rintro e w3 ⟨rfl, t3⟩
 have HT3 := Lib.hid t3
 have HN3 := Lib.hid (heap_alloc_new w3 (.cells (adr false (List.replicate 16 0)).toArray 40))
 have HA3 := Lib.hid ((Touch.refl [] w3).alloc (.cells (adr false (List.replicate 16 0)).toArray 40))
 clear t3 c1 HCR
 go_wp2_with ((with_reducible refine at_store 40 ?_); refine wpList_store_into rfl 40 _ _ rfl w3.heap.size 40 _ x.cells rfl rfl HN3.out (by rw [HXL.out]; rfl) (by rw [size31, HXL.out]) x.one ?_)
 intro w4 h4 t4 z4
 have t4' := HT3.out.trans (HA3.out.trans t4 (by intro y hy; right; simp at hy; omega)) (by simp)
 have HB4 := Lib.hid (HB2.out.touch0 t4')
 have HT4 := Lib.hid (HT2.out.trans t4' (by simp))
 have HR4 := Lib.hid (t4'.at HR2.out (by simp))
 have HA4 := Lib.hid (t4'.at HA2.out (by simp))
 have HB4r := Lib.hid h4
 have c0 := cellAt HR4.out (k := 0) rfl
 generalize w3.heap.size = gB at *
 clear h4 t4 z4 t4' HT3 HN3 HA3 HB2 HT2 HR2 HA2
 go_wp2_with fail
 refine (HEI.out w4 HB4.out.di).mono ?_
 rintro e w5 ⟨rfl, t5⟩
 have HB5 := Lib.hid (HB4.out.touch0 t5)
 have HT5 := Lib.hid (HT4.out.trans t5 (by simp))
 have HR5 := Lib.hid (t5.at HR4.out (by simp))
 have HA5 := Lib.hid (t5.at HA4.out (by simp))
 have HB5r := Lib.hid (t5.at HB4r.out (by simp))
 have c1 := cellAt HR5.out (k := 1) rfl
 clear t5 c0 HEI HB4 HT4 HR4 HA4 HB4r
 go_wp2_with fail
 refine (HER.out w5 HB5.out.dr).mono ?_
 rintro e w6 ⟨rfl, t6⟩
 have HB6 := Lib.hid (HB5.out.touch0 t6)
 have HT6 := Lib.hid (HT5.out.trans t6 (by simp))
 have HR6 := Lib.hid (t6.at HR5.out (by simp))
 have HA6 := Lib.hid (t6.at HA5.out (by simp))
 have HB6r := Lib.hid (t6.at HB5r.out (by simp))
 clear t6 c1 HER HB5 HT5 HR5 HA5 HB5r
 go_wp2_with fail
 refine wp_region_held (S := Touch ([]) w6.drew) (by kernel_rfl) ?_
 change wpAnyH _ _ _ _ _ _ _ _ w6.drew
 have tD := (Touch.refl [] w6).drew
 have HBX := Lib.hid (HB6.out.touch0 tD)
 have HTX := Lib.hid (HT6.out.trans tD (by simp))
 have HRX := Lib.hid (tD.at HR6.out (by simp))
 have HAX0 := Lib.hid (tD.at HA6.out (by simp))
 have HBX0 := Lib.hid (tD.at HB6r.out (by simp))
 have HAX := Lib.hid (range_block HAX0.out)
 have HBXr := Lib.hid (range_block HBX0.out)
 have HGO := Lib.hid (show w.heap.size ≤ gA from HGA0.out)
 generalize w6.drew = X at *
 clear tD HB6 HT6 HR6 HA6 HB6r
 have hS := Touch.refl [] X
 obtain ⟨va, hva⟩ : ∃ va, va = bR.va := ⟨_, rfl⟩
 have HVA := Lib.hid (show OwnK w0 X va s.act by rw [hva]; exact HBX.out.dr.ova)
 have c18 := HBX.out.dr.at 18 _ rfl
 rw [← hva] at c18
 clear hva
 refine tkH 0 (.agg x.cells.toArray) ?_ (hy := Or.inl ⟨by rfl, fun w' hw => exec_load_agg _ 40 _ rfl _ _ rfl x.cells _ (hw.range HAX.out (by simp)) Tryz.underlying40 rfl (by rw [size31, HXL.out])⟩)
 refine tkH 1 (.agg x.cells.toArray) ?_ (hy := Or.inl ⟨by rfl, fun w' hw => exec_load_agg _ 40 _ rfl _ _ rfl x.cells _ (hw.range HBXr.out (by simp)) Tryz.underlying40 rfl (by rw [size31, HXL.out])⟩)
 refine tkH 2 (.bool false) ?_ (hy := Or.inl ⟨by rfl, fun w' hw => exec_neqY _ 40 _ _ _ rfl x.cells.toArray x.cells.toArray rfl rfl (by kernel_rfl) true (eq_ad_t x x rfl w')⟩)
 refine tkH 3 (.bool false) ?_
 refine tkH 4 (.bool k) ?_
 refine tkH 5 (.bool k) ?_
 refine tkH 6 (.bool false) ?_
 refine tkH 7 (.bool false) ?_
 refine tkH 8 (.bool false) ?_
 refine tkH 9 (.int .i64 (r : Int)) ?_
 refine tkH 10 (.int .i64 (r : Int)) ?_
 refine tkH 11 (.bool false) ?_
 refine tkH 12 (.bool false) ?_
 refine tkH 13 (.bool false) ?_
 refine tkH 14 (.bool o) ?_
 refine tkH 15 (.bool o) ?_
 refine tkH 16 (.bool false) ?_
 refine tkH 17 (.bool false) ?_
 refine tkH 18 (.bool false) ?_
 refine tkH 19 (.pointer (some ⟨g2, 0, none⟩)) ?_
 refine tkH 20 (.pointer (some ⟨hI, 0, none⟩)) ?_ (hy := Or.inl ⟨by rfl, fun w' hw => by (have q := hw.cell (cellAt HRX.out (k := 0) rfl) (by simp); go_simp)⟩)
 refine tkH 22 (.pointer (some ⟨g2, 1, none⟩)) ?_
 refine tkH 23 (.pointer (some ⟨hR, 0, none⟩)) ?_ (hy := Or.inl ⟨by rfl, fun w' hw => by (have q := hw.cell (cellAt HRX.out (k := 1) rfl) (by simp); go_simp)⟩)
 refine wpAnyH_ready (rs := [21]) (by kernel_rfl) (by simp) ?_
 refine cnH rfl (fun K hK => ?_) AllReadyH.nil
 go_simp
 refine (dres_any w0 _ hI bI s (HBX.out.di.touch0 hS) rv HRV.out).mono ?_
 rintro e _ ⟨rfl, rfl⟩
 refine hK.out _ _ hS (fun _ => ?_)
 clear hK K
 try simp only [Act.put, sT, s0, sS]
 refine wpAnyH_ready (rs := [24]) (by kernel_rfl) (by simp) ?_
 refine cnH rfl (fun K hK => ?_) AllReadyH.nil
 go_simp
 refine (rres_any w0 _ hR bR s _ (HBX.out.dr.touch0 hS) rv HRV.out).mono ?_
 rintro e _ ⟨rfl, rfl⟩
 refine hK.out _ _ hS (fun _ => ?_)
 clear hK K
 try simp only [Act.put, sT, s0, sS]
 refine tkH 25 (.bool false) ?_
 refine tkH 26 (.bool false) ?_
 refine tkH 27 (.bool false) ?_
 refine tkH 28 (.pointer (some ⟨g2, 0, none⟩)) ?_
 refine tkH 29 (.pointer (some ⟨hI, 0, none⟩)) ?_ (hy := Or.inl ⟨by rfl, fun w' hw => by (have q := hw.cell (cellAt HRX.out (k := 0) rfl) (by simp); go_simp)⟩)
 refine tkH 30 (.int .u64 now) ?_
 refine tkH 32 (.pointer (some ⟨g2, 1, none⟩)) ?_
 refine tkH 33 (.pointer (some ⟨hR, 0, none⟩)) ?_ (hy := Or.inl ⟨by rfl, fun w' hw => by (have q := hw.cell (cellAt HRX.out (k := 1) rfl) (by simp); go_simp)⟩)
 refine tkH 34 (.int .u64 now) ?_
 refine wpAnyH_ready (rs := [31]) (by kernel_rfl) (by simp) ?_
 refine cnH rfl (fun K hK => ?_) AllReadyH.nil
 go_simp
 refine (dns_any w0 _ hI bI s (HBX.out.di.touch0 hS) HA.out now HN.out ns HNS.out).mono ?_
 rintro e u31 ⟨rfl, t31⟩
 have hS2 := hS.trans t31 (by simp)
 refine hK.out _ _ hS2 (fun _ => ?_)
 clear hK K hS t31
 have hS := hS2
 clear hS2
 try simp only [Act.put, sT, s0, sS]
 refine wpAnyH_ready (rs := [35]) (by kernel_rfl) (by simp) ?_
 refine cnH rfl (fun K hK => ?_) AllReadyH.nil
 go_simp
 refine (rns_any w0 _ hR bR s _ (HBX.out.dr.touch0 hS) HBX.out.or.ref now HN.out ns HNS.out).mono ?_
 rintro e u35 ⟨rfl, t35⟩
 have hS2 := hS.trans t35 (by simp)
 refine hK.out _ _ hS2 (fun _ => ?_)
 clear hK K hS t35
 have hS := hS2
 clear hS2
 try simp only [Act.put, sT, s0, sS]
 refine tkH 36 (.bool false) ?_
 refine tkH 37 (.bool false) ?_
 refine tkH 38 (.bool false) ?_
 refine tkH 39 (.pointer (some ⟨g2, 0, none⟩)) ?_
 refine tkH 40 (.pointer (some ⟨hI, 0, none⟩)) ?_ (hy := Or.inl ⟨by rfl, fun w' hw => by (have q := hw.cell (cellAt HRX.out (k := 0) rfl) (by simp); go_simp)⟩)
 refine tkH 42 (.pointer (some ⟨g2, 1, none⟩)) ?_
 refine tkH 43 (.pointer (some ⟨hR, 0, none⟩)) ?_ (hy := Or.inl ⟨by rfl, fun w' hw => by (have q := hw.cell (cellAt HRX.out (k := 1) rfl) (by simp); go_simp)⟩)
 refine tkH 44 (.pointer (some ⟨hR, 0, none⟩)) ?_
 refine tkH 45 (.pointer (some ⟨hR, 18, none⟩)) ?_
 refine tkH 46 va ?_ (hy := Or.inl ⟨by rfl, fun w' hw => by (have q := hw.cell c18 (by simp); go_simp)⟩)
 refine wpAnyH_ready (rs := [41]) (by kernel_rfl) (by simp) ?_
 refine cnH rfl (fun K hK => ?_) AllReadyH.nil
 go_simp
 refine (dact_any w0 _ hI bI s (HBX.out.di.touch0 hS) HBX.out.oi.srt (by have := HBX.out.oi.act; omega)).mono ?_
 rintro e u41 ⟨v41, rfl, o41, t41⟩
 have hS2 := hS.trans t41 (by simp)
 have HO := Lib.hid o41
 clear o41
 refine hK.out _ _ hS2 (fun _ => ?_)
 clear hK K hS t41
 have hS := hS2
 clear hS2
 try simp only [Act.put, sT, s0, sS]
 refine wpAnyH_ready (rs := [47]) (by kernel_rfl) (by simp) ?_
 refine cnH rfl (fun K hK => ?_) AllReadyH.nil
 go_simp
 refine (equalI _ w0 _ _ _ s.act HO.out (HVA.out.touch hS (by simp))).mono ?_
 rintro e u47 ⟨rfl, t47⟩
 have hS2 := hS.trans t47 (by simp)
 refine hK.out _ _ hS2 (fun _ => ?_)
 clear hK K hS t47
 have hS := hS2
 clear hS2
 try simp only [Act.put, sT, s0, sS]
 refine tkH 48 (.bool false) ?_
 refine tkH 49 (.bool false) ?_
 refine wpAnyH_done (by kernel_rfl) ?_ _
 try simp only [Act.put, sT, s0, sS]
 have HB8 := Lib.hid (HBX.out.touch0 hS)
 have HT8 := Lib.hid (HTX.out.trans hS (by simp))
 have HR8 := Lib.hid (hS.at HRX.out (by simp))
 have HA8 := Lib.hid (hS.at HAX0.out (by simp))
 clear hS c18 HBX HTX HRX HAX0 HBX0 HAX HBXr HVA HO
 generalize u47 = Y at *
 go_wp2_with fail
 go_loopw [6, 13] (fun v6 vi wr => ∃ (i : Int) (q : Bool) (z : Ad), -1 ≤ i ∧ i ≤ 10 ∧ vi = .int .i64 i ∧ v6 = .bool q ∧ wr.heap[gA]? = some (.cells z.cells.toArray 40 (0, 0)) ∧ Touch [gA] Y wr) (fun _ vi _ => (10 - (intOf vi)).toNat)
 case atStart => exact ⟨-1, k, x, by omega, by omega, rfl, rfl, HA8.out, Touch.refl _ _⟩
 case round =>
  obtain ⟨i, q, z, hi1, hi2, rfl, rfl, hgA, ht⟩ := hrel
  have HTR := Lib.hid ht
  have HGR := Lib.hid hgA
  have HBR := Lib.hid (HB8.out.touch ht (fun g hg hm => by simp at hm; subst hm; exact HGA.out hg))
  have HR9 := Lib.hid (ht.at HR8.out (by simpa using HGN.out))
  have HZL := Lib.hid z.len
  clear ht hgA
  by_cases hlt : i < 10
  ·have hwi : IntKind.i64.wrap (i + 1) = i + 1 := by rw [IntKind.wrap_i64] <;> omega
   have c0 := cellAt HR9.out (k := 0) rfl
   by_cases hC : 1 ≤ i ∧ i ≤ (s.S.length : Int)
   ·obtain ⟨j, rfl⟩ : ∃ j : Nat, i = (j : Int) + 1 := ⟨(i - 1).toNat, by omega⟩
    obtain ⟨a, ha⟩ : ∃ a, s.S[j]? = some a := ⟨_, List.getElem?_eq_getElem (by omega)⟩
    have HAD := Lib.hid (daddr_yes w0 wr hI bI s HBR.out.di (by have := HBR.out.oi.st; omega) j a ha)
    have HAL := Lib.hid a.len
    have HAA := Lib.hid ha
    obtain ⟨n, hn⟩ : ∃ n, n = s.S.length := ⟨_, rfl⟩
    have hjn : (j : Int) + 1 ≤ (n : Int) := by omega
    have HNL := Lib.hid hn
    clear ha hC hn
    go_wp2_with fail
    refine HAD.out.mono ?_
    rintro e u1 ⟨rfl, t1⟩
    have HG1 := Lib.hid (t1.at HGR.out (by simp))
    have HT1 := Lib.hid (HTR.out.trans t1 (by simp))
    clear t1 c0 HAD
    go_wp2_with ((with_reducible refine at_store 40 ?_); refine wpList_store_into rfl 40 _ _ rfl gA 40 _ a.cells rfl rfl HG1.out (by simp only [List.size_toArray]; rw [HZL.out, HAL.out]) (by rw [size31, HAL.out]) a.one ?_)
    intro u2 h2 t2 z2
    have HG2r := Lib.hid h2
    have HT2 := Lib.hid (HT1.out.trans t2 (fun y hy => .inl hy))
    clear h2 t2 z2 HG1 HT1 HGR HTR HBR HR9
    go_wp2_with fail
    refine wp_region_held (S := Touch [] u2.drew) (by kernel_rfl) ?_
    change wpAnyH _ _ _ _ _ _ _ _ u2.drew
    have tD := (Touch.refl [] u2).drew
    have TX := HT2.out.trans tD (by simp)
    have HBX := Lib.hid (HB8.out.touch TX (fun g hg hm => by simp at hm; subst hm; exact HGA.out hg))
    have HRX := Lib.hid (TX.at HR8.out (by simpa using HGN.out))
    have HGX0 := Lib.hid (tD.at HG2r.out (by simp))
    have HGX := Lib.hid (range_block HGX0.out)
    have HTX := Lib.hid TX
    generalize u2.drew = X at *
    clear tD TX HG2r HT2
    have hS := Touch.refl [] X
    obtain ⟨aP, cP, hvP, _, _, hat⟩ := HBX.out.dr.ovp.form
    obtain ⟨gP, rfl⟩ := hat (by rw [← HNL.out]; omega)
    rw [← HNL.out] at hvP
    have rP := own_at (l := s.S) (i := j) (a := a) (by have := (show OwnA w0 X bR.vp s.S from HBX.out.dr.ovp).row'; rw [hvP, ← HNL.out] at this; exact this) HAA.out
    have c17 := HBX.out.dr.at 17 _ rfl
    rw [hvP] at c17
    have wS : IntKind.i64.wrap (j : Int) = (j : Int) := by rw [IntKind.wrap_i64] <;> omega
    clear hat hvP
    refine tkH 0 (.bool true) ?_
    refine tkH 1 (.int .i64 ((j : Int) + 1)) ?_
    refine tkH 2 (.bool true) ?_ (hy := Or.inl ⟨by rfl, fun w' hw => by (have q0 := (show (1 : Int) ≤ (j : Int) + 1 by omega); go_simp)⟩)
    refine tkH 3 (.bool true) ?_
    refine tkH 4 (.int .i64 ((j : Int) + 1)) ?_
    refine tkH 5 (.pointer (some ⟨g2, 1, none⟩)) ?_
    refine tkH 6 (.pointer (some ⟨hR, 0, none⟩)) ?_ (hy := Or.inl ⟨by rfl, fun w' hw => by (have q := hw.cell (cellAt HRX.out (k := 1) rfl) (by simp); go_simp)⟩)
    refine tkH 7 (.pointer (some ⟨hR, 0, none⟩)) ?_
    refine tkH 8 (.pointer (some ⟨hR, 17, none⟩)) ?_
    refine tkH 9 (.slice (some ⟨gP, 0, none⟩) n cP) ?_ (hy := Or.inl ⟨by rfl, fun w' hw => by (have q := hw.cell c17 (by simp); go_simp)⟩)
    refine tkH 10 (.int .i64 (n : Int)) ?_
    refine tkH 11 (.bool true) ?_ (hy := Or.inl ⟨by rfl, fun w' hw => by (have q0 := hjn; go_simp)⟩)
    refine tkH 12 (.bool true) ?_
    refine tkH 13 (.bool false) ?_
    refine tkH 14 (.bool false) ?_
    refine tkH 15 (.bool true) ?_
    refine tkH 16 (.bool true) ?_
    refine tkH 17 (.agg a.cells.toArray) ?_ (hy := Or.inl ⟨by rfl, fun w' hw => exec_load_agg _ 40 _ rfl _ _ rfl a.cells _ (hw.range HGX.out (by simp)) Tryz.underlying40 rfl (by rw [size31, HAL.out])⟩)
    refine tkH 18 (.pointer (some ⟨g2, 1, none⟩)) ?_
    refine tkH 19 (.pointer (some ⟨hR, 0, none⟩)) ?_ (hy := Or.inl ⟨by rfl, fun w' hw => by (have q := hw.cell (cellAt HRX.out (k := 1) rfl) (by simp); go_simp)⟩)
    refine tkH 20 (.pointer (some ⟨hR, 0, none⟩)) ?_
    refine tkH 21 (.pointer (some ⟨hR, 17, none⟩)) ?_
    refine tkH 22 (.slice (some ⟨gP, 0, none⟩) n cP) ?_ (hy := Or.inl ⟨by rfl, fun w' hw => by (have q := hw.cell c17 (by simp); go_simp)⟩)
    refine tkH 23 (.int .i64 ((j : Int) + 1)) ?_
    refine tkH 24 (.int .i64 (j : Int)) ?_ (hy := Or.inl ⟨by rfl, fun w' hw => by (have q0 := wS; go_simp)⟩)
    refine tkH 25 (.pointer (some ⟨gP, j * 17, none⟩)) ?_ (hy := Or.inl ⟨by rfl, fun w' hw => by (have q0 := (show (j : Int) < (n : Int) by omega); have q1 := (show j < n by omega); go_simp)⟩)
    refine tkH 26 (.agg a.cells.toArray) ?_ (hy := Or.inl ⟨by rfl, fun w' hw => exec_load_agg _ 40 _ rfl _ _ rfl a.cells _ (hw.range rP (by simp)) Tryz.underlying40 rfl (by rw [size31, HAL.out])⟩)
    refine tkH 27 (.bool false) ?_ (hy := Or.inl ⟨by rfl, fun w' hw => exec_neqY _ 40 _ _ _ rfl a.cells.toArray a.cells.toArray rfl rfl (by kernel_rfl) true (eq_ad_t a a rfl w')⟩)
    refine tkH 28 (.bool false) ?_
    refine tkH 29 (.bool false) ?_
    refine tkH 30 (.bool false) ?_
    refine tkH 31 (.bool true) ?_
    refine tkH 32 (.bool false) ?_
    refine tkH 33 (.bool false) ?_
    refine tkN 34 undef ?_
    refine tkN 35 undef ?_
    refine tkN 36 undef ?_
    refine tkH 37 (.bool false) ?_
    refine tkH 38 (.bool false) ?_
    refine wpAnyH_done (by kernel_rfl) ?_ _
    try simp only [Act.put, sT, s0, sS]
    have HG9 := Lib.hid (hS.at HGX0.out (by simp))
    have HT9 := Lib.hid (HTX.out.trans hS (by simp))
    clear hS
    go_wp2_with fail
    go_roundw
    case rel => exact ⟨(j : Int) + 1 + 1, _, a, by omega, by omega, by go_num, rfl, HG9.out, HT9.out⟩
    case measure => simp [intOf]; omega
   ·have HAD := Lib.hid (daddr_no w0 wr hI bI s HBR.out.di i (by omega))
    have HAL := Lib.hid zAd.len
    obtain ⟨n, hn⟩ : ∃ n, n = s.S.length := ⟨_, rfl⟩
    have HNL := Lib.hid hn
    rw [← hn] at hC
    clear hn
    go_wp2_with fail
    refine HAD.out.mono ?_
    rintro e u1 ⟨rfl, t1⟩
    have HG1 := Lib.hid (t1.at HGR.out (by simp))
    have HT1 := Lib.hid (HTR.out.trans t1 (by simp))
    clear t1 c0 HAD
    obtain ⟨a, hza⟩ : ∃ a, a = zAd := ⟨_, rfl⟩
    rw [← hza] at HAL ⊢
    have HZA := Lib.hid hza
    clear hza
    go_wp2_with ((with_reducible refine at_store 40 ?_); refine wpList_store_into rfl 40 _ _ rfl gA 40 _ a.cells rfl rfl HG1.out (by simp only [List.size_toArray]; rw [HZL.out, HAL.out]) (by rw [size31, HAL.out]) a.one ?_)
    intro u2 h2 t2 z2
    have HG2r := Lib.hid h2
    have HT2 := Lib.hid (HT1.out.trans t2 (fun y hy => .inl hy))
    clear h2 t2 z2 HG1 HT1 HGR HTR HBR HR9
    go_wp2_with fail
    refine wp_region_held (S := Touch [] u2.drew) (by kernel_rfl) ?_
    change wpAnyH _ _ _ _ _ _ _ _ u2.drew
    have tD := (Touch.refl [] u2).drew
    have TX := HT2.out.trans tD (by simp)
    have HBX := Lib.hid (HB8.out.touch TX (fun g hg hm => by simp at hm; subst hm; exact HGA.out hg))
    have HRX := Lib.hid (TX.at HR8.out (by simpa using HGN.out))
    have HGX0 := Lib.hid (tD.at HG2r.out (by simp))
    have HGX := Lib.hid (range_block HGX0.out)
    have HTX := Lib.hid TX
    generalize u2.drew = X at *
    clear tD TX HG2r HT2
    have hS := Touch.refl [] X
    obtain ⟨aP, cP, hvP, _, _, _⟩ := HBX.out.dr.ovp.form
    rw [← HNL.out] at hvP
    have c17 := HBX.out.dr.at 17 _ rfl
    rw [hvP] at c17
    clear hvP
    have HBZ := Lib.hid built_zAd
    have HEZ := Lib.hid (fun w => eq_ad_t zAd zAd rfl w)
    rw [← HZA.out] at HBZ HEZ
    by_cases h1 : 1 ≤ i
    ·have hin : ¬ i ≤ (n : Int) := by omega
     clear hC
     refine tkH 0 (.bool false) ?_
     refine tkH 1 (.int .i64 i) ?_
     refine tkH 2 (.bool true) ?_ (hy := Or.inl ⟨by rfl, fun w' hw => by (have q0 := h1; go_simp)⟩)
     refine tkH 3 (.bool true) ?_
     refine tkH 4 (.int .i64 i) ?_
     refine tkH 5 (.pointer (some ⟨g2, 1, none⟩)) ?_
     refine tkH 6 (.pointer (some ⟨hR, 0, none⟩)) ?_ (hy := Or.inl ⟨by rfl, fun w' hw => by (have q := hw.cell (cellAt HRX.out (k := 1) rfl) (by simp); go_simp)⟩)
     refine tkH 7 (.pointer (some ⟨hR, 0, none⟩)) ?_
     refine tkH 8 (.pointer (some ⟨hR, 17, none⟩)) ?_
     refine tkH 9 (.slice aP n cP) ?_ (hy := Or.inl ⟨by rfl, fun w' hw => by (have q := hw.cell c17 (by simp); go_simp)⟩)
     refine tkH 10 (.int .i64 (n : Int)) ?_
     refine tkH 11 (.bool false) ?_ (hy := Or.inl ⟨by rfl, fun w' hw => by (have q0 := hin; go_simp)⟩)
     refine tkH 12 (.bool false) ?_
     refine tkH 13 (.bool false) ?_
     refine tkH 14 (.bool false) ?_
     refine tkH 15 (.bool false) ?_
     refine tkH 16 (.bool false) ?_
     refine tkN 17 undef ?_
     refine tkN 18 undef ?_
     refine tkN 19 undef ?_
     refine tkN 20 undef ?_
     refine tkN 21 undef ?_
     refine tkN 22 undef ?_
     refine tkN 23 undef ?_
     refine tkN 24 undef ?_
     refine tkN 25 undef ?_
     refine tkN 26 undef ?_
     refine tkN 27 undef ?_
     refine tkH 28 (.bool false) ?_
     refine tkH 29 (.bool false) ?_
     refine tkH 30 (.bool false) ?_
     refine tkH 31 (.bool false) ?_
     refine tkH 32 (.bool true) ?_
     refine tkH 33 (.bool true) ?_
     refine tkH 34 (.agg a.cells.toArray) ?_ (hy := Or.inl ⟨by rfl, fun w' hw => exec_load_agg _ 40 _ rfl _ _ rfl a.cells _ (hw.range HGX.out (by simp)) Tryz.underlying40 rfl (by rw [size31, HAL.out])⟩)
     refine tkH 35 (.agg a.cells.toArray) ?_ (hy := Or.inl ⟨by rfl, fun w' hw => exec_builtY _ 40 _ rfl [] _ rfl HBZ.out⟩)
     refine tkH 36 (.bool false) ?_ (hy := Or.inl ⟨by rfl, fun w' hw => exec_neqY _ 40 _ _ _ rfl a.cells.toArray a.cells.toArray rfl rfl (by kernel_rfl) true (HEZ.out w')⟩)
     refine tkH 37 (.bool false) ?_
     refine tkH 38 (.bool false) ?_
     refine wpAnyH_done (by kernel_rfl) ?_ _
     try simp only [Act.put, sT, s0, sS]
     have HG9 := Lib.hid (hS.at HGX0.out (by simp))
     have HT9 := Lib.hid (HTX.out.trans hS (by simp))
     clear hS
     go_wp2_with fail
     go_roundw
     case rel => exact ⟨i + 1, _, a, by omega, by omega, by go_num, rfl, HG9.out, HT9.out⟩
     case measure => simp [intOf]; omega
    ·clear hC
     refine tkH 0 (.bool false) ?_
     refine tkH 1 (.int .i64 i) ?_
     refine tkH 2 (.bool false) ?_ (hy := Or.inl ⟨by rfl, fun w' hw => by (have q0 := h1; go_simp)⟩)
     refine tkH 3 (.bool false) ?_
     refine tkN 4 undef ?_
     refine tkN 5 undef ?_
     refine tkN 6 undef ?_
     refine tkN 7 undef ?_
     refine tkN 8 undef ?_
     refine tkN 9 undef ?_
     refine tkN 10 undef ?_
     refine tkN 11 undef ?_
     refine tkH 12 (.bool false) ?_
     refine tkH 13 (.bool false) ?_
     refine tkH 14 (.bool false) ?_
     refine tkH 15 (.bool false) ?_
     refine tkH 16 (.bool false) ?_
     refine tkN 17 undef ?_
     refine tkN 18 undef ?_
     refine tkN 19 undef ?_
     refine tkN 20 undef ?_
     refine tkN 21 undef ?_
     refine tkN 22 undef ?_
     refine tkN 23 undef ?_
     refine tkN 24 undef ?_
     refine tkN 25 undef ?_
     refine tkN 26 undef ?_
     refine tkN 27 undef ?_
     refine tkH 28 (.bool false) ?_
     refine tkH 29 (.bool false) ?_
     refine tkH 30 (.bool false) ?_
     refine tkH 31 (.bool false) ?_
     refine tkH 32 (.bool true) ?_
     refine tkH 33 (.bool true) ?_
     refine tkH 34 (.agg a.cells.toArray) ?_ (hy := Or.inl ⟨by rfl, fun w' hw => exec_load_agg _ 40 _ rfl _ _ rfl a.cells _ (hw.range HGX.out (by simp)) Tryz.underlying40 rfl (by rw [size31, HAL.out])⟩)
     refine tkH 35 (.agg a.cells.toArray) ?_ (hy := Or.inl ⟨by rfl, fun w' hw => exec_builtY _ 40 _ rfl [] _ rfl HBZ.out⟩)
     refine tkH 36 (.bool false) ?_ (hy := Or.inl ⟨by rfl, fun w' hw => exec_neqY _ 40 _ _ _ rfl a.cells.toArray a.cells.toArray rfl rfl (by kernel_rfl) true (HEZ.out w')⟩)
     refine tkH 37 (.bool false) ?_
     refine tkH 38 (.bool false) ?_
     refine wpAnyH_done (by kernel_rfl) ?_ _
     try simp only [Act.put, sT, s0, sS]
     have HG9 := Lib.hid (hS.at HGX0.out (by simp))
     have HT9 := Lib.hid (HTX.out.trans hS (by simp))
     clear hS
     go_wp2_with fail
     go_roundw
     case rel => exact ⟨i + 1, _, a, by omega, by omega, by go_num, rfl, HG9.out, HT9.out⟩
     case measure => simp [intOf]; omega
  ·go_wp2_with fail
   go_ret
   exact ⟨rfl, HT8.out.trans HTR.out (by intro y hy; right; simp at hy; subst hy; exact HGO.out)⟩
end Go.Proofs.YtiklhaajhdephaaGreatDoor

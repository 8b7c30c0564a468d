/-
  The statement 'DialerValidatesConfigSaid' of the seat: the frame of the row round the walk of the law's Go function (YtiklhaajhdephaaDoorW9): for every input the call returns true and each argument reads as it did.
-/
import Derived.Test.YtiklhaajhdephaaDoorHD
import Derived.Test.YtiklhaajhdephaaDoorGP
import Derived.Test.YtiklhaajhdephaaDoorGG
import Derived.Test.YtiklhaajhdephaaDoorGA
import Derived.WalkKit
import Derived.ProofKit
import Derived.OpenShut
import Derived.ShutString
import Derived.ChangeOld
import Derived.Below
import Derived.SizedLaws
import Derived.Test.YtiklhaajhdephaaDoorTie
import Derived.Test.YtiklhaajhdephaaDoorCards
import Derived.LaidMore
import Derived.Lay
import Derived.SevenTiedAt
import Derived.Stop.Joined
import Derived.MakeChecks

/-
  The walk of DialerValidatesConfig: true at every configuration and every list of addresses.
-/
namespace Go.Proofs.YtiklhaajhdephaaDoor.dialerValidatesConfig
open Go.RowKit Go.Deep
set_option linter.unusedVariables false
set_option linter.unusedSimpArgs false

theorem vcfg_t (c : Cfg) (h : c.valid = true) (w : World) : Calls Tryd.prog 40 #[.agg c.cells.toArray] w fun e w' => e = .returned (.bool true) ∧ Touch [] w w' := by
  have := vcfg_any c w
  rwa [h] at this
theorem u64_of {n : Int} (h : (Lit.int .u64 n).wf = true) : 0 ≤ n ∧ n ≤ maxT := by
  have m1 : IntKind.u64.max = 18446744073709551615 := rfl
  have m2 : IntKind.u64.min = 0 := rfl
  simp [Lit.wf] at h
  unfold maxT
  omega
theorem i64_of {n : Int} (h : (Lit.int .i64 n).wf = true) : -9223372036854775808 ≤ n ∧ n ≤ 9223372036854775807 := by
  have m1 : IntKind.i64.max = 9223372036854775807 := rfl
  have m2 : IntKind.i64.min = -9223372036854775808 := rfl
  simp [Lit.wf] at h
  omega
theorem cfg_of {H : Type} {enc : TypeId × Value → H} {w : World} {base : Nat} {spare : Nat → Bool} {held : Bool} {cs : Array Value} (h : CellsOk enc Tryd.prog w base spare held [57, 57, 57, 3, 3] cs.toList) : ∃ c : Cfg, cs = c.cells.toArray ∧ c.Ok := by
  obtain ⟨hlen, hc⟩ := h
  obtain ⟨v0, e0, l0⟩ := hc 0 57 rfl
  obtain ⟨v1, e1, l1⟩ := hc 1 57 rfl
  obtain ⟨v2, e2, l2⟩ := hc 2 57 rfl
  obtain ⟨v3, e3, l3⟩ := hc 3 3 rfl
  obtain ⟨v4, e4, l4⟩ := hc 4 3 rfl
  obtain ⟨a, rfl, ha⟩ := l0.int Tryd.underlying57
  obtain ⟨b, rfl, hb⟩ := l1.int Tryd.underlying57
  obtain ⟨c, rfl, hcc⟩ := l2.int Tryd.underlying57
  obtain ⟨d, rfl, hd⟩ := l3.int Tryd.underlying3
  obtain ⟨e, rfl, he⟩ := l4.int Tryd.underlying3
  refine ⟨⟨a, b, c, d, e⟩, ?_, ?_⟩
  · obtain ⟨L⟩ := cs
    simp only at hlen e0 e1 e2 e3 e4
    match L, hlen with
    | [x0, x1, x2, x3, x4], _ => simp at e0 e1 e2 e3 e4; rw [e0, e1, e2, e3, e4]; rfl
  · exact ⟨u64_of ha, u64_of hb, u64_of hcc, i64_of hd, i64_of he⟩
theorem new_no (c : Cfg) (w : World) (v : Value) (bl : Nat) (l : List Ad) (hv : Rd w 17 bl v (l.map Ad.cells)) (h : (c.valid && allV l) = false) :
    Calls Tryd.prog 37 #[.agg c.cells.toArray, v] w fun e w' => e = .returned (.tuple #[.pointer none, .int .i64 1]) ∧ Touch [] w w' := by
  cases hc : c.valid with
  | false => exact dnew_cfg c w v hc
  | true => exact dnew_bad c w v bl l hv hc (by rw [hc] at h; simpa using h)
theorem rvalidW (a : Ad) (r : Bool) (h : a.valid = r) (w : World) : Calls Tryd.prog 31 #[.agg a.cells.toArray] w fun e w' => e = .returned (.bool r) ∧ Touch [] w w' := by
  subst h
  exact rvalid_any a.b a.xs a.ok w
theorem allV_step (l : List Ad) (i : Nat) (x : Ad) (hx : l[i]? = some x) : allV (l.take (i + 1)) = (allV (l.take i) && x.valid) := by
  unfold allV
  rw [List.take_add_one, hx, Option.toList_some, List.all_append]
  simp
set_option maxRecDepth 100000 in
set_option maxHeartbeats 8000000 in
theorem walk0 (c : Cfg) (ok : c.Ok) (v : Value) (bl : Nat) (l : List Ad) (w : World) (hv : Rd w 17 bl v (l.map Ad.cells)) (hlz : l.length * 17 ≤ 140737488351232) (hlb : bl < w.heap.size ∨ l = []) :
    Calls Tryd.prog 9 #[.agg c.cells.toArray, v] w fun e w' => e = .returned (.bool true) ∧ Touch [] w w' := by
  have HT := Lib.hid ((Touch.refl [] w).alloc (.cells c.cells.toArray 59))
  have hrow := range_new w c.cells 59
  have HRV := Lib.hid (rvcfg_any c ok (w.alloc (.cells c.cells.toArray 59)))
  have HOK := Lib.hid ok
  have HCL := Lib.hid c.len
  obtain ⟨a, cap, rfl, hlc, hcm⟩ := hv.form
  have HV := Lib.hid hv
  simp only [List.length_map] at *
  have HLZ := Lib.hid hlz
  have HLB := Lib.hid hlb
  obtain ⟨n, hn⟩ : ∃ n, n = l.length := ⟨_, rfl⟩
  have HN := Lib.hid hn
  have hnm : n ≤ 9223372036854775807 := by unfold maxLen at hcm; omega
  rw [← hn]
  rw [← hn] at HV
  clear hlc hcm hv ok hlz hlb hn
  go_enter Tryd.func9, Tryd.ntmps9
  go_wp2_with ((with_reducible refine at_load 59 ?_); refine wpList_load_mid rfl 59 _ rfl w.heap.size 0 rfl c.cells _ hrow Tryd.underlying59 rfl (by rw [sizeCf, HCL.out]) ?_)
  refine HRV.out.mono ?_
  rintro e w1 ⟨rfl, t1⟩
  have HT1 := Lib.hid (HT.out.trans t1 (by simp))
  have HR1 := Lib.hid (t1.range hrow (by simp))
  clear t1 hrow HRV HT
  go_wp2_with fail
  go_loopw [5, 6] (fun v5 v6 wr => ∃ i : Nat, i ≤ n ∧ v6 = .int .i64 i ∧ v5 = .bool (c.valid && allV (l.take i)) ∧ Touch [] w wr ∧ wr.rangeAt w.heap.size 0 c.cells) (fun _ v6 _ => n - (intOf v6).toNat)
  case atStart => exact ⟨0, by omega, rfl, by simp [allV], HT1.out, HR1.out⟩
  case round =>
    obtain ⟨i, hik, rfl, rfl, ht, hrw⟩ := hrel
    have HTR := Lib.hid ht
    have HRW := Lib.hid hrw
    by_cases hin : i < n
    · obtain ⟨x, hx⟩ : ∃ x, l[i]? = some x := ⟨_, List.getElem?_eq_getElem (by rw [← HN.out]; omega)⟩
      obtain ⟨o1, ha1, hat1⟩ := HV.out.at (by intro e; rw [List.map_eq_nil_iff] at e; rw [e] at hx; simp at hx)
      subst ha1
      have r1 := ht.range (hat1 i x.cells (by simp [hx])) (by simp)
      have HLX := Lib.hid x.len
      have HST := Lib.hid (show (c.valid && allV (l.take (i + 1))) = ((c.valid && allV (l.take i)) && x.valid) by rw [allV_step l i x hx]; cases c.valid <;> simp)
      have hwi : IntKind.i64.wrap ((i : Int) + 1) = (i : Int) + 1 := by rw [IntKind.wrap_i64] <;> omega
      have hin2 : (i : Int) < (n : Int) := by omega
      generalize hoo : (c.valid && allV (l.take i)) = oo at *
      clear hx hat1 ht hrw hoo
      cases oo with
      | false =>
        go_wp2_with fail
        go_roundw
        case rel => exact ⟨i + 1, by omega, by go_num, by rw [HST.out]; rfl, HTR.out, HRW.out⟩
        case measure => simp [intOf]; omega
      | true =>
        have HVL := Lib.hid (rvalidW x x.valid rfl wr)
        generalize x.valid = xv at *
        go_wp2_with ((with_reducible refine at_load_g 28 _ _ ?_); refine wpList_load_gg _ _ rfl (by rfl) 28 _ rfl bl (o1 + i * 17) rfl x.cells _ r1 Tryd.underlying28 rfl (by rw [size31, HLX.out]) ?_)
        refine HVL.out.mono ?_
        rintro e w3 ⟨rfl, t3⟩
        have HT3 := Lib.hid (HTR.out.trans t3 (by simp))
        have HR3 := Lib.hid (t3.range HRW.out (by simp))
        clear t3 r1
        go_wp2_with fail
        go_roundw
        case rel => exact ⟨i + 1, by omega, by go_num, by rw [HST.out]; first | rfl | simp, HT3.out, HR3.out⟩
        case measure => simp [intOf]; omega
    · have HFI := Lib.hid (show l.take i = l from List.take_of_length_le (by rw [← HN.out]; omega))
      rw [HFI.out]
      have hin2 : (n : Int) ≤ (i : Int) := by omega
      have HVW := Lib.hid (HV.out.touch ht (by simp))
      have HZW := Lib.hid (show w.heap.size ≤ wr.heap.size from ht.size)
      obtain ⟨R, hR⟩ : ∃ R, R = (c.valid && allV l) := ⟨_, rfl⟩
      have HRR := Lib.hid hR
      rw [← hR]
      clear ht hR
      cases R with
      | true =>
        have HVC := Lib.hid (show c.valid = true by have h := HRR.out; cases hc : c.valid <;> simp [hc] at h <;> rfl)
        have HVA := Lib.hid (show allV l = true by have h := HRR.out; rw [HVC.out] at h; simpa using h.symm)
        have HNW := Lib.hid (dnew_ok c wr (.slice a n cap) bl l HVW.out HVC.out HVA.out (by rcases HLB.out with h | h; exact .inl (by have := HZW.out; omega); exact .inr h) HLZ.out)
        go_wp2_with ((with_reducible refine at_load 59 ?_); refine wpList_load_mid rfl 59 _ rfl w.heap.size 0 rfl c.cells _ HRW.out Tryd.underlying59 rfl (by rw [sizeCf, HCL.out]) ?_)
        refine HNW.out.mono ?_
        rintro e w3 ⟨h3, b3, rfl, d3, t3⟩
        have HD3 := Lib.hid d3
        have HIS := Lib.hid (show (initS c l).resolved = decide (0 < n) by rw [HN.out]; simp [initS, DS.resolved, PS.complete, initP])
        clear d3
        have HT3 := Lib.hid (HTR.out.trans t3 (by simp))
        have r3 := t3.range HRW.out (by simp)
        have HGC := Lib.hid (gcfg_any c HOK.out w3)
        clear t3 HNW hrw
        go_wp2_with ((with_reducible refine at_load 59 ?_); refine wpList_load_mid rfl 59 _ rfl w.heap.size 0 rfl c.cells _ r3 Tryd.underlying59 rfl (by rw [sizeCf, HCL.out]) ?_)
        refine HGC.out.mono ?_
        rintro e w4 ⟨rfl, t4⟩
        have r4 := t4.range r3 (by simp)
        have HT4 := Lib.hid (HT3.out.trans t4 (by simp))
        have HNG := Lib.hid (dnew_ok c.gen w4 (.slice none 0 0) 0 [] (by simpa using Rd.nil w4 17 0) c.gen_valid rfl (.inr rfl) (by simp))
        have T4 := Lib.hid t4
        clear t4 r3
        go_wp2_with fail
        refine HNG.out.mono ?_
        rintro e w5 ⟨h5, b5, rfl, d5, t5⟩
        have HR5 := Lib.hid (t5.range r4 (by simp))
        have HT5 := Lib.hid (HT4.out.trans t5 (by simp))
        have T5 := Lib.hid t5
        clear t5 d5 r4 HNG HGC
        go_wp2_with fail
        refine wp_region_held (S := Touch [] w5.drew) (by kernel_rfl) ?_
        change wpAnyH _ _ _ _ _ _ _ _ w5.drew
        have tD := (Touch.refl [] w5).drew
        have HRX := Lib.hid (tD.range HR5.out (by simp))
        have HTX := Lib.hid (HT5.out.trans tD (by simp))
        have HDX := Lib.hid (((HD3.out.touch0 T4.out).touch0 T5.out).touch0 tD)
        generalize w5.drew = X at *
        clear tD
        have hS := Touch.refl [] X
        refine wpAnyH_ready (rs := [0]) (by kernel_rfl) (by simp) ?_
        refine cnH rfl (fun K hK => ?_) AllReadyH.nil
        go_simp
        refine (awake29_ok _).mono ?_
        rintro e u0 ⟨rfl, t0⟩
        have hS2 := hS.trans t0 (by simp)
        refine hK.out _ _ hS2 (fun _ => ?_)
        clear hK K hS t0
        have hS := hS2
        clear hS2
        try simp only [Act.put, sT, s0, sS]
        refine tkH 1 (.bool true) rfl ?_
        try simp only [Act.put, sT, s0, sS]
        refine tkH 2 (.agg c.cells.toArray) rfl ?_ (hy := Or.inl ⟨by rfl, fun w' hw => exec_load_agg _ 59 _ rfl _ _ rfl c.cells _ (hw.range HRX.out (by simp)) Tryd.underlying59 rfl (by rw [sizeCf, HCL.out])⟩)
        try simp only [Act.put, sT, s0, sS]
        refine tkH 4 (.agg c.cells.toArray) rfl ?_ (hy := Or.inl ⟨by rfl, fun w' hw => exec_load_agg _ 59 _ rfl _ _ rfl c.cells _ (hw.range HRX.out (by simp)) Tryd.underlying59 rfl (by rw [sizeCf, HCL.out])⟩)
        try simp only [Act.put, sT, s0, sS]
        refine wpAnyH_ready (rs := [3]) (by kernel_rfl) (by simp) ?_
        refine cnH rfl (fun K hK => ?_) AllReadyH.nil
        go_simp
        refine (vcfg_any c _).mono ?_
        rintro e u3 ⟨rfl, t3⟩
        have hS2 := hS.trans t3 (by simp)
        refine hK.out _ _ hS2 (fun _ => ?_)
        clear hK K hS t3
        have hS := hS2
        clear hS2
        try simp only [Act.put, sT, s0, sS]
        refine wpAnyH_ready (rs := [5]) (by kernel_rfl) (by simp) ?_
        refine cnH rfl (fun K hK => ?_) AllReadyH.nil
        go_simp
        refine (rvcfg_any c HOK.out _).mono ?_
        rintro e u5 ⟨rfl, t5⟩
        have hS2 := hS.trans t5 (by simp)
        refine hK.out _ _ hS2 (fun _ => ?_)
        clear hK K hS t5
        have hS := hS2
        clear hS2
        try simp only [Act.put, sT, s0, sS]
        refine tkH 6 (.bool true) rfl ?_
        try simp only [Act.put, sT, s0, sS]
        refine tkH 7 (.bool true) rfl ?_
        try simp only [Act.put, sT, s0, sS]
        refine tkH 8 (.bool true) rfl ?_
        try simp only [Act.put, sT, s0, sS]
        refine tkH 9 (.int .i64 0) rfl ?_
        try simp only [Act.put, sT, s0, sS]
        refine tkH 10 (.bool true) rfl ?_
        try simp only [Act.put, sT, s0, sS]
        refine tkH 11 (.bool true) rfl ?_
        try simp only [Act.put, sT, s0, sS]
        refine tkH 12 (.bool true) rfl ?_
        try simp only [Act.put, sT, s0, sS]
        refine tkH 13 (.bool true) rfl ?_
        try simp only [Act.put, sT, s0, sS]
        refine tkH 14 (.bool true) rfl ?_
        try simp only [Act.put, sT, s0, sS]
        refine tkH 15 (.pointer (some ⟨h3, 0, none⟩)) rfl ?_
        try simp only [Act.put, sT, s0, sS]
        refine tkH 16 (.bool true) rfl ?_
        try simp only [Act.put, sT, s0, sS]
        refine tkH 17 (.bool true) rfl ?_
        try simp only [Act.put, sT, s0, sS]
        refine tkH 18 (.bool true) rfl ?_
        try simp only [Act.put, sT, s0, sS]
        refine tkH 19 (.bool true) rfl ?_
        try simp only [Act.put, sT, s0, sS]
        refine tkH 20 (.bool true) rfl ?_
        try simp only [Act.put, sT, s0, sS]
        refine tkH 21 (.bool true) rfl ?_
        try simp only [Act.put, sT, s0, sS]
        refine tkH 22 (.bool true) rfl ?_
        try simp only [Act.put, sT, s0, sS]
        refine tkN 23 undef rfl ?_
        try simp only [Act.put, sT, s0, sS]
        refine tkN 24 undef rfl ?_
        try simp only [Act.put, sT, s0, sS]
        refine tkH 25 (.bool true) rfl ?_
        try simp only [Act.put, sT, s0, sS]
        refine tkH 26 (.bool true) rfl ?_
        try simp only [Act.put, sT, s0, sS]
        refine tkH 27 (.bool true) rfl ?_
        try simp only [Act.put, sT, s0, sS]
        refine tkH 28 (.int .i64 0) rfl ?_
        try simp only [Act.put, sT, s0, sS]
        refine tkH 29 (.bool true) rfl ?_
        try simp only [Act.put, sT, s0, sS]
        refine tkH 30 (.bool true) rfl ?_
        try simp only [Act.put, sT, s0, sS]
        refine tkH 31 (.bool true) rfl ?_
        try simp only [Act.put, sT, s0, sS]
        refine tkH 32 (.pointer (some ⟨h5, 0, none⟩)) rfl ?_
        try simp only [Act.put, sT, s0, sS]
        refine tkH 33 (.bool true) rfl ?_
        try simp only [Act.put, sT, s0, sS]
        refine tkH 34 (.bool true) rfl ?_
        try simp only [Act.put, sT, s0, sS]
        refine tkH 35 (.bool true) rfl ?_
        try simp only [Act.put, sT, s0, sS]
        refine tkH 36 (.agg c.cells.toArray) rfl ?_ (hy := Or.inl ⟨by rfl, fun w' hw => exec_load_agg _ 59 _ rfl _ _ rfl c.cells _ (hw.range HRX.out (by simp)) Tryd.underlying59 rfl (by rw [sizeCf, HCL.out])⟩)
        try simp only [Act.put, sT, s0, sS]
        refine wpAnyH_ready (rs := [37]) (by kernel_rfl) (by simp) ?_
        refine cnH rfl (fun K hK => ?_) AllReadyH.nil
        go_simp
        refine (gcfg_any c HOK.out _).mono ?_
        rintro e u37 ⟨rfl, t37⟩
        have hS2 := hS.trans t37 (by simp)
        refine hK.out _ _ hS2 (fun _ => ?_)
        clear hK K hS t37
        have hS := hS2
        clear hS2
        try simp only [Act.put, sT, s0, sS]
        refine wpAnyH_ready (rs := [38]) (by kernel_rfl) (by simp) ?_
        refine cnH rfl (fun K hK => ?_) AllReadyH.nil
        go_simp
        refine (vcfg_t c.gen c.gen_valid _).mono ?_
        rintro e u38 ⟨rfl, t38⟩
        have hS2 := hS.trans t38 (by simp)
        refine hK.out _ _ hS2 (fun _ => ?_)
        clear hK K hS t38
        have hS := hS2
        clear hS2
        try simp only [Act.put, sT, s0, sS]
        refine tkH 39 (.bool true) rfl ?_
        try simp only [Act.put, sT, s0, sS]
        refine tkH 40 (.bool true) rfl ?_
        try simp only [Act.put, sT, s0, sS]
        refine tkH 41 (.bool true) rfl ?_
        try simp only [Act.put, sT, s0, sS]
        refine tkH 42 (.bool false) rfl ?_
        try simp only [Act.put, sT, s0, sS]
        refine tkH 43 (.bool false) rfl ?_
        try simp only [Act.put, sT, s0, sS]
        refine tkH 44 (.pointer (some ⟨h3, 0, none⟩)) rfl ?_
        try simp only [Act.put, sT, s0, sS]
        refine tkH 46 (.slice a n cap) rfl ?_
        try simp only [Act.put, sT, s0, sS]
        refine tkH 47 (.int .i64 (n : Nat)) rfl ?_
        try simp only [Act.put, sT, s0, sS]
        refine tkH 48 (.bool (decide (0 < n))) rfl ?_
        try simp only [Act.put, sT, s0, sS]
        refine wpAnyH_ready (rs := [45]) (by kernel_rfl) (by simp) ?_
        refine cnH rfl (fun K hK => ?_) AllReadyH.nil
        go_simp
        refine (dres_any wr _ h3 b3 (initS c l) (HDX.out.touch0 hS) (decide (0 < n)) HIS.out).mono ?_
        rintro e _ ⟨rfl, rfl⟩
        refine hK.out _ _ hS (fun _ => ?_)
        clear hK K
        try simp only [Act.put, sT, s0, sS]
        refine tkH 49 (.bool true) rfl ?_
        try simp only [Act.put, sT, s0, sS]
        refine tkH 50 (.bool true) rfl ?_
        try simp only [Act.put, sT, s0, sS]
        refine tkH 51 (.bool true) rfl ?_
        try simp only [Act.put, sT, s0, sS]
        refine tkH 52 (.bool true) rfl ?_
        try simp only [Act.put, sT, s0, sS]
        refine wpAnyH_done (by kernel_rfl) ?_ _
        try simp only [Act.put, sT, s0, sS]
        have HTZ := Lib.hid (HTX.out.trans hS (by simp))
        clear hS
        go_wp2_with fail
        go_ret
        exact ⟨rfl, HTZ.out⟩
      | false =>
        have HNW := Lib.hid (new_no c wr (.slice a n cap) bl l HVW.out HRR.out.symm)
        go_wp2_with ((with_reducible refine at_load 59 ?_); refine wpList_load_mid rfl 59 _ rfl w.heap.size 0 rfl c.cells _ HRW.out Tryd.underlying59 rfl (by rw [sizeCf, HCL.out]) ?_)
        refine HNW.out.mono ?_
        rintro e w3 ⟨rfl, t3⟩
        have HT3 := Lib.hid (HTR.out.trans t3 (by simp))
        have r3 := t3.range HRW.out (by simp)
        have HGC := Lib.hid (gcfg_any c HOK.out w3)
        clear t3 HNW hrw
        go_wp2_with ((with_reducible refine at_load 59 ?_); refine wpList_load_mid rfl 59 _ rfl w.heap.size 0 rfl c.cells _ r3 Tryd.underlying59 rfl (by rw [sizeCf, HCL.out]) ?_)
        refine HGC.out.mono ?_
        rintro e w4 ⟨rfl, t4⟩
        have r4 := t4.range r3 (by simp)
        have HT4 := Lib.hid (HT3.out.trans t4 (by simp))
        have HNG := Lib.hid (dnew_ok c.gen w4 (.slice none 0 0) 0 [] (by simpa using Rd.nil w4 17 0) c.gen_valid rfl (.inr rfl) (by simp))
        have T4 := Lib.hid t4
        clear t4 r3
        go_wp2_with fail
        refine HNG.out.mono ?_
        rintro e w5 ⟨h5, b5, rfl, d5, t5⟩
        have HR5 := Lib.hid (t5.range r4 (by simp))
        have HT5 := Lib.hid (HT4.out.trans t5 (by simp))
        have T5 := Lib.hid t5
        clear t5 d5 r4 HNG HGC
        go_wp2_with fail
        refine wp_region_held (S := Touch [] w5.drew) (by kernel_rfl) ?_
        change wpAnyH _ _ _ _ _ _ _ _ w5.drew
        have tD := (Touch.refl [] w5).drew
        have HRX := Lib.hid (tD.range HR5.out (by simp))
        have HTX := Lib.hid (HT5.out.trans tD (by simp))
        generalize w5.drew = X at *
        clear tD
        have hS := Touch.refl [] X
        refine wpAnyH_ready (rs := [0]) (by kernel_rfl) (by simp) ?_
        refine cnH rfl (fun K hK => ?_) AllReadyH.nil
        go_simp
        refine (awake29_ok _).mono ?_
        rintro e u0 ⟨rfl, t0⟩
        have hS2 := hS.trans t0 (by simp)
        refine hK.out _ _ hS2 (fun _ => ?_)
        clear hK K hS t0
        have hS := hS2
        clear hS2
        try simp only [Act.put, sT, s0, sS]
        refine tkH 1 (.bool true) rfl ?_
        try simp only [Act.put, sT, s0, sS]
        refine tkH 2 (.agg c.cells.toArray) rfl ?_ (hy := Or.inl ⟨by rfl, fun w' hw => exec_load_agg _ 59 _ rfl _ _ rfl c.cells _ (hw.range HRX.out (by simp)) Tryd.underlying59 rfl (by rw [sizeCf, HCL.out])⟩)
        try simp only [Act.put, sT, s0, sS]
        refine tkH 4 (.agg c.cells.toArray) rfl ?_ (hy := Or.inl ⟨by rfl, fun w' hw => exec_load_agg _ 59 _ rfl _ _ rfl c.cells _ (hw.range HRX.out (by simp)) Tryd.underlying59 rfl (by rw [sizeCf, HCL.out])⟩)
        try simp only [Act.put, sT, s0, sS]
        refine wpAnyH_ready (rs := [3]) (by kernel_rfl) (by simp) ?_
        refine cnH rfl (fun K hK => ?_) AllReadyH.nil
        go_simp
        refine (vcfg_any c _).mono ?_
        rintro e u3 ⟨rfl, t3⟩
        have hS2 := hS.trans t3 (by simp)
        refine hK.out _ _ hS2 (fun _ => ?_)
        clear hK K hS t3
        have hS := hS2
        clear hS2
        try simp only [Act.put, sT, s0, sS]
        refine wpAnyH_ready (rs := [5]) (by kernel_rfl) (by simp) ?_
        refine cnH rfl (fun K hK => ?_) AllReadyH.nil
        go_simp
        refine (rvcfg_any c HOK.out _).mono ?_
        rintro e u5 ⟨rfl, t5⟩
        have hS2 := hS.trans t5 (by simp)
        refine hK.out _ _ hS2 (fun _ => ?_)
        clear hK K hS t5
        have hS := hS2
        clear hS2
        try simp only [Act.put, sT, s0, sS]
        refine tkH 6 (.bool true) rfl ?_
        try simp only [Act.put, sT, s0, sS]
        refine tkH 7 (.bool true) rfl ?_
        try simp only [Act.put, sT, s0, sS]
        refine tkH 8 (.bool true) rfl ?_
        try simp only [Act.put, sT, s0, sS]
        refine tkH 9 (.int .i64 1) rfl ?_
        try simp only [Act.put, sT, s0, sS]
        refine tkH 10 (.bool false) rfl ?_
        try simp only [Act.put, sT, s0, sS]
        refine tkH 11 (.bool false) rfl ?_
        try simp only [Act.put, sT, s0, sS]
        refine tkH 12 (.bool true) rfl ?_
        try simp only [Act.put, sT, s0, sS]
        refine tkH 13 (.bool true) rfl ?_
        try simp only [Act.put, sT, s0, sS]
        refine tkH 14 (.bool true) rfl ?_
        try simp only [Act.put, sT, s0, sS]
        refine tkH 15 (.pointer none) rfl ?_
        try simp only [Act.put, sT, s0, sS]
        refine tkH 16 (.bool false) rfl ?_
        try simp only [Act.put, sT, s0, sS]
        refine tkH 17 (.bool false) rfl ?_
        try simp only [Act.put, sT, s0, sS]
        refine tkH 18 (.bool true) rfl ?_
        try simp only [Act.put, sT, s0, sS]
        refine tkH 19 (.bool true) rfl ?_
        try simp only [Act.put, sT, s0, sS]
        refine tkH 20 (.bool true) rfl ?_
        try simp only [Act.put, sT, s0, sS]
        refine tkH 21 (.bool false) rfl ?_
        try simp only [Act.put, sT, s0, sS]
        refine tkH 22 (.bool false) rfl ?_
        try simp only [Act.put, sT, s0, sS]
        refine tkH 23 (.int .i64 1) rfl ?_
        try simp only [Act.put, sT, s0, sS]
        refine tkH 24 (.bool true) rfl ?_
        try simp only [Act.put, sT, s0, sS]
        refine tkH 25 (.bool true) rfl ?_
        try simp only [Act.put, sT, s0, sS]
        refine tkH 26 (.bool true) rfl ?_
        try simp only [Act.put, sT, s0, sS]
        refine tkH 27 (.bool true) rfl ?_
        try simp only [Act.put, sT, s0, sS]
        refine tkH 28 (.int .i64 0) rfl ?_
        try simp only [Act.put, sT, s0, sS]
        refine tkH 29 (.bool true) rfl ?_
        try simp only [Act.put, sT, s0, sS]
        refine tkH 30 (.bool true) rfl ?_
        try simp only [Act.put, sT, s0, sS]
        refine tkH 31 (.bool true) rfl ?_
        try simp only [Act.put, sT, s0, sS]
        refine tkH 32 (.pointer (some ⟨h5, 0, none⟩)) rfl ?_
        try simp only [Act.put, sT, s0, sS]
        refine tkH 33 (.bool true) rfl ?_
        try simp only [Act.put, sT, s0, sS]
        refine tkH 34 (.bool true) rfl ?_
        try simp only [Act.put, sT, s0, sS]
        refine tkH 35 (.bool true) rfl ?_
        try simp only [Act.put, sT, s0, sS]
        refine tkH 36 (.agg c.cells.toArray) rfl ?_ (hy := Or.inl ⟨by rfl, fun w' hw => exec_load_agg _ 59 _ rfl _ _ rfl c.cells _ (hw.range HRX.out (by simp)) Tryd.underlying59 rfl (by rw [sizeCf, HCL.out])⟩)
        try simp only [Act.put, sT, s0, sS]
        refine wpAnyH_ready (rs := [37]) (by kernel_rfl) (by simp) ?_
        refine cnH rfl (fun K hK => ?_) AllReadyH.nil
        go_simp
        refine (gcfg_any c HOK.out _).mono ?_
        rintro e u37 ⟨rfl, t37⟩
        have hS2 := hS.trans t37 (by simp)
        refine hK.out _ _ hS2 (fun _ => ?_)
        clear hK K hS t37
        have hS := hS2
        clear hS2
        try simp only [Act.put, sT, s0, sS]
        refine wpAnyH_ready (rs := [38]) (by kernel_rfl) (by simp) ?_
        refine cnH rfl (fun K hK => ?_) AllReadyH.nil
        go_simp
        refine (vcfg_t c.gen c.gen_valid _).mono ?_
        rintro e u38 ⟨rfl, t38⟩
        have hS2 := hS.trans t38 (by simp)
        refine hK.out _ _ hS2 (fun _ => ?_)
        clear hK K hS t38
        have hS := hS2
        clear hS2
        try simp only [Act.put, sT, s0, sS]
        refine tkH 39 (.bool true) rfl ?_
        try simp only [Act.put, sT, s0, sS]
        refine tkH 40 (.bool true) rfl ?_
        try simp only [Act.put, sT, s0, sS]
        refine tkH 41 (.bool false) rfl ?_
        try simp only [Act.put, sT, s0, sS]
        refine tkH 42 (.bool true) rfl ?_
        try simp only [Act.put, sT, s0, sS]
        refine tkH 43 (.bool true) rfl ?_
        try simp only [Act.put, sT, s0, sS]
        refine tkN 44 undef rfl ?_
        try simp only [Act.put, sT, s0, sS]
        refine tkN 45 undef rfl ?_
        try simp only [Act.put, sT, s0, sS]
        refine tkN 46 undef rfl ?_
        try simp only [Act.put, sT, s0, sS]
        refine tkN 47 undef rfl ?_
        try simp only [Act.put, sT, s0, sS]
        refine tkN 48 undef rfl ?_
        try simp only [Act.put, sT, s0, sS]
        refine tkN 49 undef rfl ?_
        try simp only [Act.put, sT, s0, sS]
        refine tkH 50 (.bool true) rfl ?_
        try simp only [Act.put, sT, s0, sS]
        refine tkH 51 (.bool true) rfl ?_
        try simp only [Act.put, sT, s0, sS]
        refine tkH 52 (.bool true) rfl ?_
        try simp only [Act.put, sT, s0, sS]
        refine wpAnyH_done (by kernel_rfl) ?_ _
        try simp only [Act.put, sT, s0, sS]
        have HTZ := Lib.hid (HTX.out.trans hS (by simp))
        clear hS
        go_wp2_with fail
        go_ret
        exact ⟨rfl, HTZ.out⟩
theorem walk {H : Type} {enc : TypeId × Value → H} {w : World} (cs : Array Value) (hs : CellsOk enc Tryd.prog w 0 (fun _ => true) true [57, 57, 57, 3, 3] cs.toList) (v : Value) (hv : IsSlice enc Tryd.prog w 0 (fun _ => true) true [4, 5, 5, 5, 5, 5, 5, 5, 5, 5, 5, 5, 5, 5, 5, 5, 5] v) (hz : ∀ a len cap, v = .slice a len cap → len * 17 ≤ 140737488351232) :
    Calls Tryd.prog 9 #[.agg cs, v] w fun e w' => e = .returned (.bool true) ∧ Below w.heap.size w w' := by
  obtain ⟨c, rfl, hok⟩ := cfg_of hs
  obtain ⟨b, xs, hr, hx⟩ := slice_rows (by simp) hv
  obtain ⟨l, rfl⟩ := ads_of (fun x h => isAd_cells (hx x h))
  obtain ⟨a, cap, hvf, _, _⟩ := hr.form
  have hl := hz a _ cap hvf
  refine (walk0 c hok v b l w hr (by simpa using hl) ?_).mono fun e w' ⟨h1, h2⟩ => ⟨h1, h2.below (by simp) (Nat.le_refl _)⟩
  cases l with
  | nil => exact .inr rfl
  | cons x r =>
    left
    rw [hvf] at hr
    obtain ⟨off, rfl, hat⟩ := hr.at (by simp)
    exact World.block_lt_of_cell? w _ (hat 0 x.cells rfl 0 _ (List.getElem?_eq_getElem (by rw [x.len]; omega)))
end Go.Proofs.YtiklhaajhdephaaDoor.dialerValidatesConfig

/-
  The statement 'DialerValidatesConfigSaid' of the seat: the frame of the row round the walk of the law's Go function (YtiklhaajhdephaaDoorW9): for every input the call returns true and each argument reads as it did.
-/
namespace Go.Proofs.YtiklhaajhdephaaDoor.dialerValidatesConfig
open Go.ChangeShapes Go.WideShapes Go.Deep Go.ChangeAt Go.RowKit
open Go.ChangeMaps (open_string shut_string)
set_option linter.unusedVariables false

theorem own : ownKnob Tryd.prog.godebug = none := by kernel_rfl
theorem slice_sized {H : Type} {enc : TypeId × Value → H} {P : Program} {w : World} {base : Nat} {spare : Nat → Bool} {held : Bool} {ts : List TypeId} {ds : List (DataW H)} {t e fuel by_ : Nat} {v : Value} {d : DataW H} {pl : List MemPlace}
    (hsz : (DataW.weightsEach P ts ds).all (· ≤ reachBytes) = true) {j : Nat} (ht : ts[j]? = some t) (hd : ds[j]? = some d) (hu : P.underlying t = some (.slice e)) (hb : P.bytesOf e = by_)
    (h : DataW.trod enc P w base spare held fuel t [v] = some (d, pl)) : ∀ a len cap, v = .slice a len cap → len * by_ ≤ 140737488351232 := by
  intro a len cap hv
  rcases open_slice hu h with ⟨h0, _⟩ | ⟨a', len', cap', m, n, D, Pl, h0, hb', hl, hm, hmm, hx, _⟩
  · have : v = .slice none 0 0 := by simpa using h0
    rw [hv] at this
    simp only [Value.slice.injEq] at this
    rw [this.2.1]
    omega
  · have h1 : v = .slice (some a') len' cap' := by simpa using h0
    rw [hv] at h1
    simp only [Value.slice.injEq] at h1
    obtain ⟨_, rfl, _⟩ := h1
    simp only [Prod.mk.injEq] at hx
    rw [hx.1] at hd
    have := sized_slice hsz ht hd hu
    rw [hb] at this
    simp only [List.length_map, List.length_range, reachBytes] at this
    have h2 : len * by_ ≤ (len + (m - len)) * by_ := Nat.mul_le_mul_right _ (by omega)
    omega
theorem laidOut : laidOutB Tryd.prog = true := by kernel_rfl

set_option maxRecDepth 100000 in
theorem lifted (os : Os) (started : os.Started) (H : Type) (enc : TypeId × Value → H) :
    ReturnsInHanded {} Tryd.checked os 9 .any (fun w args => (Rows.dialerValidatesConfigSpec.pre enc Tryd.prog Tryd.f9 Rows.dialerValidatesConfigRow.domain false w args ∧ laidMetH Tryd.prog Rows.dialerValidatesConfigRow.laid w) ∧ sizedMet enc Tryd.prog Tryd.f9 (OpenSpec.ofChange Rows.dialerValidatesConfigSpec) false w args)
      (Rows.dialerValidatesConfigSpec.post enc Tryd.prog Tryd.f9 false true false false) := by
  refine returnsInHanded_of_change_and (C := Tryd.checked) (X := fun w _ => laidMetH Tryd.prog Rows.dialerValidatesConfigRow.laid w) (fun _ _ _ hh h => h.of_heap hh) own started (by kernel_rfl) Tryd.func9
    (ChangeSpec.witness_shaped (enc := enc) (C := Tryd.checked) (os := os) (X := fun w _ => laidMetH Tryd.prog Rows.dialerValidatesConfigRow.laid w) false (World.laidAll Tryd.prog os Rows.dialerValidatesConfigRow.laid) #[.agg #[.int .u64 0, .int .u64 0, .int .u64 0, .int .i64 0, .int .i64 0], .slice none 0 0] 8 (World.laidAll_os _ _ _)
      (World.shaped_of_ZipB (by kernel_rfl) (by kernel_rfl)) (by kernel_rfl) (by kernel_rfl) (by kernel_rfl)
      (by rw [MakeChecks.laidMetH_plain _ _ _ (by kernel_rfl)]; exact laidMet_laidAll _ (by kernel_rfl) (by kernel_rfl))) ?_
  intro W base args ds gs before hval0 hW hcnd hsz0 hL _
  have hsz : (DataW.weightsEach Tryd.prog (Tryd.f9.params.toList ++ Rows.dialerValidatesConfigSpec.plain.varTypes Tryd.prog) (ds ++ gs)).all (· ≤ reachBytes) = true := hsz0
  rw [Tryd.params9] at hsz
  have hval : ∀ (j : Nat) t v, Tryd.f9.params[j]? = some t → args[j]? = some v → Value.okWide Tryd.prog W .any base t v := hval0
  have hW' := hW
  obtain ⟨p, q, hA0, hV, rfl, hfz, hnd⟩ := hW
  have hA : DataW.TrodAll enc Tryd.prog W 0 (fun _ => true) true Tryd.f9.params.toList args.toList ds p := hA0
  rw [Tryd.params9] at hA hval
  obtain ⟨v0, vs0, d0, ds0, p0, q0, hargs, rfl, rfl, h0, r0⟩ := trodAll_cons hA
  obtain ⟨v1, vs1, d1, ds1, p1, q1, rfl, rfl, rfl, h1, r1⟩ := trodAll_cons r0
  obtain ⟨rfl, rfl, rfl⟩ := trodAll_nil r1
  obtain rfl : args = #[v0, v1] := by cases args; simp_all
  obtain ⟨rfl, rfl⟩ := trodVars_none hV
  have k0 := h0
  have lt0 : ∀ x ∈ p0, x.block < W.heap.size := by obtain ⟨m, hm⟩ := k0; exact DataW.trod_lt m _ _ _ hm
  have k1 := h1
  have lt1 : ∀ x ∈ p1, x.block < W.heap.size := by obtain ⟨m, hm⟩ := k1; exact DataW.trod_lt m _ _ _ hm
  obtain ⟨c0, rfl⟩ := okWide_struct Tryd.underlying59 (hval 0 59 v0 rfl rfl)
  have s0 : CellsOk enc Tryd.prog W 0 (fun _ => true) true [57, 57, 57, 3, 3] c0.toList := by
    obtain ⟨fuel, hf⟩ := h0
    exact agg_ok (d := 8) (by kernel_rfl) (by simpa [Value.cells] using hf)
  obtain ⟨b1, len1, cap1, hv1⟩ := okWide_slice Tryd.underlying22 (hval 1 22 v1 rfl rfl)
  have s1 : IsSlice enc Tryd.prog W 0 (fun _ => true) true [4, 5, 5, 5, 5, 5, 5, 5, 5, 5, 5, 5, 5, 5, 5, 5, 5] v1 := by
    obtain ⟨fuel, hf⟩ := h1
    rw [hv1] at hf ⊢
    exact slice_ok (d := 8) Tryd.underlying22 (by kernel_rfl) (by kernel_rfl) (by simpa [Value.cells] using hf)
  have z1 : ∀ a len cap, v1 = .slice a len cap → len * 17 ≤ 140737488351232 := by
    obtain ⟨fuel, hf⟩ := k1
    rw [hv1] at hf ⊢
    exact slice_sized hsz (j := 1) rfl rfl Tryd.underlying22 (by kernel_rfl) (by simpa [Value.cells] using hf)
  clear hA0 hval0
  refine (walk (H := H) (enc := enc) (w := W) c0 s0 v1 s1 z1).mono fun e W' ⟨he, bel⟩ => ?_
  subst he
  exact ⟨_, rfl, _, _, _, [], _, [], hW', trodAll_mk1 (shut_bool Tryd.underlying4 _), (trodAll_cons_mk (Below.trod laidOut (by kernel_rfl) (of_decide_eq_true (by kernel_rfl)) k0 bel lt0) (trodAll_cons_mk (Below.trod laidOut (by kernel_rfl) (of_decide_eq_true (by kernel_rfl)) k1 bel lt1) trodAll_mk0)), rfl, bel.frame _, fun h => by cases h⟩

theorem over : Rows.dialerValidatesConfigRow.holds Tryd.pinned (OpenSpec.ofChange Rows.dialerValidatesConfigSpec) :=
  OpenClaim.holds_of_wide 9 Tryd.f9 rfl rfl rfl rfl rfl rfl rfl ⟨rfl, rfl, rfl, rfl, rfl⟩ rfl rfl rfl rfl rfl (by kernel_rfl) Tryd.func9 (by kernel_rfl)
    (of_decide_eq_true (by kernel_rfl)) (by unfold Func.isWrapper; first | (rw [if_pos (by decide +kernel)]; kernel_rfl) | (rw [if_neg (by decide +kernel)]; exact ⟨rfl, rfl⟩))
    (fun os started H enc _ => lifted os started H enc)

theorem proved : Rows.DialerValidatesConfigCardSaid :=
  Claim7.holds_tied_plain_at .later [] [.data, .pinned] true (true, "5befad24a3e9b3d9c688acd4ea44020d752db1b22d3d70f9edc34305006425d2") false over (fun _ h => by cases h) (by kernel_rfl) (fun _ h => by cases h) dialerValidatesConfig_row_tie rfl ⟨rfl, rfl⟩ (by kernel_rfl) rfl
    (fun f fn hf hfn => by
      obtain rfl : f = 9 := Option.some.inj ((show Tryd.prog.funcNamed "ginnel/ginnellaw29.DialerValidatesConfig" = some 9 by kernel_rfl).symm.trans hf) |>.symm
      obtain rfl : fn = Tryd.f9 := (Option.some.inj (Tryd.func9.symm.trans hfn)).symm
      exact ⟨by kernel_rfl, fun j t ht => by
        rw [Tryd.params9] at ht
        have hm : t ∈ [59, 22] := by simpa using Array.mem_of_getElem? ht
        have hall : ([59, 22].all fun u => !Tryd.prog.wantsStandIn u) = true := by kernel_rfl
        exact (show Tryd.prog.wantsStandIn t = false by simpa using List.all_eq_true.1 hall t hm)⟩)
    (by kernel_rfl)
#print axioms proved
end Go.Proofs.YtiklhaajhdephaaDoor.dialerValidatesConfig

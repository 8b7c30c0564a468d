/-
  The statement 'DialerStaggersAttemptsSaid' of the seat: the frame of the row round the walk of the law's Go function (YtiklhaajhdephaaDoorW10): for every input the call returns true and each argument reads as it did.
-/
import Derived.Test.YtiklhaajhdephaaDoorHE
import Derived.Test.YtiklhaajhdephaaDoorGG
import Derived.Test.YtiklhaajhdephaaDoorGA
import Derived.WalkKit
import Derived.ProofKit
import Derived.OpenShut
import Derived.ShutString
import Derived.ChangeOld
import Derived.Below
import Derived.Test.YtiklhaajhdephaaDoorTie
import Derived.Test.YtiklhaajhdephaaDoorCards
import Derived.LaidMore
import Derived.Lay
import Derived.SevenTiedAt
import Derived.Stop.Joined
import Derived.MakeChecks

/-
  The walk of DialerStaggersAttempts: true at every configuration and every list of draws.
-/
namespace Go.Proofs.YtiklhaajhdephaaDoor.dialerStaggersAttempts
open Go.RowKit Go.Deep
set_option linter.unusedVariables false
set_option linter.unusedSimpArgs false

theorem u64_of {n : Int} (h : (Lit.int .u64 n).wf = true) : 0 ≤ n ∧ n ≤ maxT := by
  have m1 : IntKind.u64.max = 18446744073709551615 := rfl
  have m2 : IntKind.u64.min = 0 := rfl
  simp [Lit.wf] at h
  unfold maxT
  omega
theorem i64_of {n : Int} (h : (Lit.int .i64 n).wf = true) : -9223372036854775808 ≤ n ∧ n ≤ 9223372036854775807 := by
  have m1 : IntKind.i64.max = 9223372036854775807 := rfl
  have m2 : IntKind.i64.min = -9223372036854775808 := rfl
  simp [Lit.wf] at h
  omega
theorem cfg_of {H : Type} {enc : TypeId × Value → H} {w : World} {base : Nat} {spare : Nat → Bool} {held : Bool} {cs : Array Value} (h : CellsOk enc Tryd.prog w base spare held [57, 57, 57, 3, 3] cs.toList) : ∃ c : Cfg, cs = c.cells.toArray ∧ c.Ok := by
  obtain ⟨hlen, hc⟩ := h
  obtain ⟨v0, e0, l0⟩ := hc 0 57 rfl
  obtain ⟨v1, e1, l1⟩ := hc 1 57 rfl
  obtain ⟨v2, e2, l2⟩ := hc 2 57 rfl
  obtain ⟨v3, e3, l3⟩ := hc 3 3 rfl
  obtain ⟨v4, e4, l4⟩ := hc 4 3 rfl
  obtain ⟨a, rfl, ha⟩ := l0.int Tryd.underlying57
  obtain ⟨b, rfl, hb⟩ := l1.int Tryd.underlying57
  obtain ⟨c, rfl, hcc⟩ := l2.int Tryd.underlying57
  obtain ⟨d, rfl, hd⟩ := l3.int Tryd.underlying3
  obtain ⟨e, rfl, he⟩ := l4.int Tryd.underlying3
  refine ⟨⟨a, b, c, d, e⟩, ?_, ?_⟩
  · obtain ⟨L⟩ := cs
    simp only at hlen e0 e1 e2 e3 e4
    match L, hlen with
    | [x0, x1, x2, x3, x4], _ => simp at e0 e1 e2 e3 e4; rw [e0, e1, e2, e3, e4]; rfl
  · exact ⟨u64_of ha, u64_of hb, u64_of hcc, i64_of hd, i64_of he⟩
theorem exec_neq_agg9 {P : Program} {a : Act} {w : World} (op : Oper) (t t' : TypeId) (x y : Operand) (ho : op.op = .binOp .neq t x y t')
    (xs ys : Array Value) (hx : a.eval x = .agg xs) (hy : a.eval y = .agg ys) (hm : P.eqGuardType P.depth t = false) (r : Bool) (hr : (Op.equalIn 10000 t (.agg xs) (.agg ys)).run P w = .ok r w) : (execOp a.eval op).run P w = .ok (.value (.bool (!r))) w := by
  have hb : (binOp .neq t (.agg xs) (.agg ys)).run P w = .ok (.bool (!r)) w := by rw [run_neq_struct, hr]; rfl
  unfold execOp
  simp only [ho, hx, hy, Sem.run_bind, run_eqGuard_agg w _ _ _ _ _ _ hm, Result.andThen_ok, hb, Sem.run_pure]
/-- The draws, as the law's slice holds them. -/
def Draws (w : World) (a : Option Addr) (n : Nat) : Prop := ∀ i, i < n → ∃ b o x, a = some ⟨b, o, none⟩ ∧ w.cell? ⟨b, o + i, none⟩ = some (.int .u64 x) ∧ 0 ≤ x ∧ x ≤ maxT
/-- The draw of one attempt. -/
def Drawn (w : World) (a : Option Addr) (n i : Nat) (x : Int) : Prop := (n ≤ i ∧ x = 0) ∨ (i < n ∧ ∃ b o, a = some ⟨b, o, none⟩ ∧ w.cell? ⟨b, o + i, none⟩ = some (.int .u64 x))
set_option maxRecDepth 100000 in
set_option maxHeartbeats 8000000 in
theorem walk0 (c : Cfg) (ok : c.Ok) (ad : Option Addr) (nd cd : Nat) (w : World) (hd : Draws w ad nd) (hnd : nd ≤ 9223372036854775807) :
    Calls Tryd.prog 10 #[.agg c.cells.toArray, .slice ad nd cd] w fun e w' => e = .returned (.bool true) ∧ Touch [] w w' := by
  have HT := Lib.hid ((Touch.refl [] w).alloc (.cells c.cells.toArray 59))
  have hrow := range_new w c.cells 59
  have HBX := Lib.hid (heap_alloc_new w (.cells c.cells.toArray 59))
  have HGC := Lib.hid (gcfg_any c ok (w.alloc (.cells c.cells.toArray 59)))
  have HDW := Lib.hid hd
  have HSM := Lib.hid c.gen_small
  have HCL := Lib.hid c.len
  clear ok hd
  generalize c.gen = g at *
  go_enter Tryd.func10, Tryd.ntmps10
  go_wp2_with ((with_reducible refine at_load 59 ?_); refine wpList_load_mid rfl 59 _ rfl w.heap.size 0 rfl c.cells _ hrow Tryd.underlying59 rfl (by rw [sizeCf, HCL.out]) ?_)
  refine HGC.out.mono ?_
  rintro e w1 ⟨rfl, t1⟩
  have HB1 := Lib.hid (t1.at HBX.out (by simp))
  have HT1 := Lib.hid (HT.out.trans t1 (by simp))
  clear t1 hrow HBX HGC HT
  go_wp2_with ((with_reducible refine at_store 59 ?_); refine wpList_store_into rfl 59 _ _ rfl w.heap.size 59 _ g.cells rfl rfl HB1.out (by rfl) sizeCf g.one ?_)
  intro w2 h2 t2 z2
  have HT2 := Lib.hid (HT1.out.trans t2 (by intro y hy; right; simp at hy; omega))
  have HB2 := Lib.hid h2
  have hcm : w2.cell? ⟨w.heap.size, 4, none⟩ = some (.int .i64 g.mc) := by rw [cell_of_row _ _ _ _ _ _ h2]; rfl
  have hfm : w2.frozen? ⟨w.heap.size, 4, none⟩ = false := by simp [World.frozen?, h2]
  obtain ⟨c1, hc1⟩ : ∃ c1 : Cfg, c1 = { g with mc := 8 } := ⟨_, rfl⟩
  have HSC := Lib.hid (show Sgc c1 from by
    have h := HSM.out
    rw [hc1]
    exact ⟨by simp only; omega, by simp only; omega, rfl, Cfg.valid_of _ (by simp only; omega)⟩)
  have HB3 := Lib.hid (show (w2.setCell ⟨w.heap.size, 4, none⟩ (.int .i64 8)).heap[w.heap.size]? = some (.cells c1.cells.toArray 59 (0, 0)) by rw [hc1]; simp [World.setCell, Array.getElem?_modify, h2, Cfg.cells])
  have HT3 := Lib.hid (show Touch [] w (w2.setCell ⟨w.heap.size, 4, none⟩ (.int .i64 8)) from HT2.out.trans ((Touch.refl [w.heap.size] w2).setCell (p := ⟨w.heap.size, 4, none⟩) (.inl (by simp)) _) (by intro y hy; right; simp at hy; omega))
  clear h2 t2 z2 HB1 HT1 hc1
  go_wp2_with fail
  generalize w2.setCell ⟨w.heap.size, 4, none⟩ (.int .i64 8) = w3 at *
  clear hcm hfm HB2 HT2
  go_loopw [5, 6] (fun v5 v6 wr => ∃ i : Nat, i ≤ 6 ∧ v6 = .int .i64 i ∧ OwnA w3 wr v5 (gL.take i) ∧ Touch [] w3 wr) (fun _ v6 _ => 6 - (intOf v6).toNat)
  case atStart => exact ⟨0, by omega, rfl, Own.nil _ _, Touch.refl _ _⟩
  case round =>
    obtain ⟨i, hi6, rfl, hown, ht⟩ := hrel
    have HO := Lib.hid hown
    have HTR := Lib.hid ht
    clear hown ht
    by_cases hlt : i < 6
    · have hwi : IntKind.i64.wrap ((i : Int) + 1) = (i : Int) + 1 := by rw [IntKind.wrap_i64] <;> omega
      have hw8 : IntKind.u8.wrap (i : Int) = (i : Int) := by show (i : Int) % 256 = i; omega
      have hlt2 : (i : Int) < 6 := by omega
      have HST := Lib.hid (gL_step hlt)
      have HGA := Lib.hid (gA_cells hlt)
      have hlen := sg_len (show i ≤ 6 by omega)
      have HLL := Lib.hid (show ((gL.take i).length + 1) * 17 ≤ 140737488355328 by omega)
      clear hlen
      go_wp2_with fail
      refine (v4_any 8 1 1 (i : Int) wr).mono ?_
      rintro e w4 ⟨rfl, t4⟩
      rw [HGA.out]
      obtain ⟨x, hx⟩ : ∃ x, x = gA i := ⟨_, rfl⟩
      rw [← hx] at HST ⊢
      have HO4 := Lib.hid (show OwnA w3 w4 u5 (gL.take i) from Own.touch HO.out t4 (by simp))
      have HT4 := Lib.hid (HTR.out.trans t4 (by simp))
      clear t4 hx HGA
      go_wp2_with (first
        | (refine wpList_build_ad rfl _ rfl x (by rfl) ?_)
        | (at_builtin; refine wpList_app_ad w3 w4 (by rfl) _ _ (by rfl) _ (gL.take i) (by rfl) HO4.out HT4.out.size x (by rfl) HLL.out ?_))
      intro v5 w5 ho5 t5 hv5
      have HO5 := Lib.hid ho5
      have HT5 := Lib.hid (HT4.out.trans t5 (fun q hq => .inr (HO4.out.new q (by simpa using hq))))
      clear ho5 t5 hv5
      go_wp2_with fail
      go_roundw
      case rel => exact ⟨i + 1, by omega, by go_num, by rw [HST.out]; exact HO5.out, HT5.out⟩
      case measure => simp [intOf]; omega
    · have h6 : i = 6 := by omega
      subst h6
      obtain ⟨wN, rfl⟩ : ∃ wN : World, wN = wr := ⟨_, rfl⟩
      have HO6 := Lib.hid (show OwnA w3 wN u5 gL from HO.out)
      have HBR := Lib.hid (HTR.out.at HB3.out (by simp))
      have hrr := range_block HBR.out
      have HTW := Lib.hid (HT3.out.trans HTR.out (by simp))
      obtain ⟨bg, hrd, hbg⟩ := HO6.out.rdn
      obtain ⟨aG, cG, hvG, _, _, hatG⟩ := HO6.out.form
      have hl6 : gL.length = 6 := rfl
      rw [hl6] at hvG hatG
      obtain ⟨gg, rfl⟩ := hatG (by omega)
      subst hvG
      have hbl : bg < wN.heap.size := Own.lt HO6.out bg (hbg (by simp [gL]))
      have HBL := Lib.hid hbl
      have HNW := Lib.hid (dnew_ok c1 wN _ bg gL hrd HSC.out.valid gL_valid (.inl hbl) (by rw [hl6]; omega))
      rw [sg_init] at HNW
      have HGB := Lib.hid (show gg < wN.heap.size from Own.lt HO6.out gg rfl)
      have hB0 : w.heap.size < wN.heap.size := (Array.getElem?_eq_some_iff.1 HBR.out).1
      have HB0 := Lib.hid hB0
      clear hrd hbg hatG hl6 hbl hB0 HO HB3 HT3
      go_wp2_with ((with_reducible refine at_load 59 ?_); refine wpList_load_mid rfl 59 _ rfl w.heap.size 0 rfl c1.cells _ hrr Tryd.underlying59 rfl (by rw [sizeCf]; rfl) ?_)
      refine HNW.out.mono ?_
      rintro e w6 ⟨h, b, rfl, d6, t6⟩
      have HD6 := Lib.hid d6
      have HT6 := Lib.hid t6
      clear d6 t6 HNW hrr
      go_wp2_with fail
      go_loopw [9, 10] (fun v9 v10 wr => ∃ (i : Nat) (now : Int) (b : DV), i ≤ 5 ∧ v10 = .int .i64 i ∧ v9 = .int .u64 now ∧ 0 ≤ now ∧ now ≤ 20 * i ∧ Dl wN wr h b (sgS c1 i now) ∧ Touch [] wN wr) (fun _ v10 _ => 6 - (intOf v10).toNat)
      case atStart => exact ⟨0, 0, b, by omega, rfl, rfl, by omega, by omega, HD6.out, HT6.out⟩
      case round =>
        obtain ⟨i, now, b, hi5, rfl, rfl, hn0, hn1, hdl, ht⟩ := hrel
        have HD := Lib.hid hdl
        have HTQ := Lib.hid ht
        have HTA := Lib.hid (HTW.out.trans ht (by simp))
        have HBQ := Lib.hid (ht.at HBR.out (by simp))
        have hi6 : i < 6 := by omega
        have hi7 : (i : Int) < 6 := by omega
        have hdr : ∃ x, Drawn wr ad nd i x ∧ 0 ≤ x ∧ x ≤ maxT := by
          by_cases hnd2 : i < nd
          · obtain ⟨bd, od, x, h1, h2, h3, h4⟩ := HDW.out i hnd2
            exact ⟨x, .inr ⟨hnd2, bd, od, h1, HTA.out.cell h2 (by simp)⟩, h3, h4⟩
          · exact ⟨0, .inl ⟨by omega, rfl⟩, by omega, by decide⟩
        obtain ⟨draw, hdrw, hdw1, hdw2⟩ := hdr
        have HDN := Lib.hid (show 0 ≤ draw ∧ draw ≤ maxT from ⟨hdw1, hdw2⟩)
        have HLA := Lib.hid (gA i).len
        have HCN := Lib.hid (sg_cand HSC.out (show i ≤ 6 by omega) (n := now) (now := now) (Int.le_refl _))
        rw [gL_drop hi6] at HCN
        have HNN := Lib.hid (show 0 ≤ now ∧ now ≤ maxT from ⟨hn0, by unfold maxT; omega⟩)
        have HST := Lib.hid (sg_start HSC.out hi6 (now := now) (draw := draw) ⟨hn0, by omega⟩)
        have HSC1 := Lib.hid HSC.out.ad
        have HSC2 := Lib.hid HSC.out.jit
        clear hdl ht hdw1 hdw2
        have hwi : IntKind.i64.wrap ((i : Int) + 1) = (i : Int) + 1 := by rw [IntKind.wrap_i64] <;> omega
        rcases hdrw with ⟨hge, hd0⟩ | ⟨hlt, bd, od, rfl, hcd⟩
        · have hge2 : decide (i < nd) = false := by simp; omega
          have HD0 := Lib.hid hd0
          clear hge hd0
          have HCA := Lib.hid (dcand_any wN wr h b _ HD.out (by simp [sgS, gL]) now HNN.out)
          rw [HCN.out] at HCA
          simp only [headA, List.isEmpty_cons, Bool.not_false] at HCA
          obtain ⟨x, hx⟩ : ∃ x, x = gA i := ⟨_, rfl⟩
          rw [← hx] at HCA HCN HST HLA
          have HX := Lib.hid hx
          clear hx
          go_wp2_with fail
          rw [show (Value.int .u64 0) = Value.int .u64 draw by rw [HD0.out]]
          refine HCA.out.mono ?_
          rintro e w7 ⟨rfl, t7⟩
          have HN := Lib.hid (heap_alloc_new w7 (.cells (adr false (List.replicate 16 0)).toArray 28))
          have HA := Lib.hid ((Touch.refl [] w7).alloc (.cells (adr false (List.replicate 16 0)).toArray 28))
          have HT7 := Lib.hid t7
          clear t7 HCA
          go_wp2_with ((with_reducible refine at_store 28 ?_); refine wpList_store_into rfl 28 _ _ rfl w7.heap.size 28 _ x.cells rfl rfl HN.out (by rw [HLA.out]; rfl) (by rw [size31, HLA.out]) x.one ?_)
          intro w8 h8 t8 z8
          have t8' := HT7.out.trans (HA.out.trans t8 (by intro y hy; right; simp at hy; omega)) (by simp)
          have HD8 := Lib.hid (HD.out.touch0 t8')
          have HT8 := Lib.hid (HTQ.out.trans t8' (by simp))
          have HR8 := Lib.hid (range_block h8)
          have HB8 := Lib.hid (t8'.at HBQ.out (by simp))
          have HG12 := Lib.hid (show wN.heap.size ≤ w7.heap.size from Nat.le_trans HTQ.out.size HT7.out.size)
          have HF12 := Lib.hid (show ∀ q ∈ dfoot h b, q ≠ w7.heap.size from fun q hq => by obtain ⟨j, hj⟩ := mem_dfoot.1 hq; have := (HD.out.lt j q hj).2; have := HT7.out.size; omega)
          generalize w7.heap.size = g12 at *
          clear h8 t8 z8 t8' HN HA HT7 HD HTQ HBQ
          have HSR := Lib.hid (dstart_yes wN w8 h b _ HD8.out HT8.out.size (by simp [sgS, gL]) (by simp only [sgS, List.length_range]; omega) (by intro k hk; simp only [sgS, List.mem_map, List.mem_range] at hk; obtain ⟨j, hj, rfl⟩ := hk; simp only [sgS]; rw [sg_len (by omega)]; omega) HSC.out.valid now draw HNN.out HDN.out x _ HCN.out)
          rw [HST.out] at HSR
          have HSL := Lib.hid (show (sgS c1 i now).S.length = i from sg_len (by omega))
          rw [HSL.out] at HSR
          obtain ⟨gt, hgt⟩ : ∃ gt, gt = now + c1.ad + draw % (c1.jit + 1) := ⟨_, rfl⟩
          have hm1 := Int.emod_nonneg draw (show c1.jit + 1 ≠ 0 by have := HSC2.out; omega)
          have hm2 := Int.emod_lt_of_pos draw (show 0 < c1.jit + 1 by have := HSC2.out; omega)
          have hgr : now + 1 ≤ gt ∧ gt ≤ now + 20 ∧ gt ≤ now + c1.ad + c1.jit := by have h1 := HSC1.out; have h2 := HSC2.out; rw [hgt]; omega
          have HMD := Lib.hid (And.intro hm1 hm2)
          rw [← hgt] at HSR
          have HGT := Lib.hid hgt
          clear hm1 hm2 hgt HST HSL
          go_wp2_with fail
          refine HSR.out.mono ?_
          rintro e w9 ⟨rfl, b9, d9, s9⟩
          have HD9 := Lib.hid d9
          have HT9 := Lib.hid (s9.out HD8.out HT8.out)
          have HR9 := Lib.hid (s9.t.range HR8.out (fun hm => HF12.out g12 hm rfl))
          have HB9 := Lib.hid (s9.t.at HB8.out (fun hm => by obtain ⟨j, hj⟩ := mem_dfoot.1 hm; have := (HD8.out.lt j _ hj).1; have := HB0.out; omega))
          clear d9 s9 HSR HD8 HT8 HR8 HB8
          go_wp2_with fail
          have HXA := Lib.hid (show gL[i]? = some x by rw [HX.out]; exact gL_at hi6)
          have hgr0 := own_at (l := gL) (i := i) (a := x) (show OwnA w3 w9 (.slice (some ⟨gg, 0, none⟩) 6 cG) gL from Own.touch HO6.out HT9.out (by simp)).row' HXA.out
          refine wp_region_held (S := Touch [] w9.drew) (by kernel_rfl) ?_
          change wpAnyH _ _ _ _ _ _ _ _ w9.drew
          have tD := (Touch.refl [] w9).drew
          have HRX := Lib.hid (tD.range HR9.out (by simp))
          have HRG := Lib.hid (tD.range hgr0 (by simp))
          have HDX := Lib.hid (HD9.out.touch0 tD)
          have HTX := Lib.hid (HT9.out.trans tD (by simp))
          have HBX2 := Lib.hid (tD.at HB9.out (by simp))
          generalize w9.drew = X at *
          clear tD hgr0
          have hS := Touch.refl [] X
          refine tkH 0 (.bool true) rfl ?_
          try simp only [Act.put, sT, s0, sS]
          refine tkH 1 (.bool false) rfl ?_
          try simp only [Act.put, sT, s0, sS]
          refine tkH 2 (.bool false) rfl ?_
          try simp only [Act.put, sT, s0, sS]
          refine tkH 3 (.bool true) rfl ?_
          try simp only [Act.put, sT, s0, sS]
          refine tkH 4 (.bool false) rfl ?_
          try simp only [Act.put, sT, s0, sS]
          refine tkH 5 (.bool false) rfl ?_
          try simp only [Act.put, sT, s0, sS]
          refine tkH 6 (.bool false) rfl ?_
          try simp only [Act.put, sT, s0, sS]
          refine tkH 7 (.agg x.cells.toArray) rfl ?_ (hy := Or.inl ⟨by rfl, fun w' hw => exec_load_agg _ 28 _ rfl _ _ rfl x.cells _ (hw.range HRX.out (by simp)) Tryd.underlying28 rfl (by rw [size31, HLA.out])⟩)
          try simp only [Act.put, sT, s0, sS]
          refine tkH 8 (.slice (some ⟨gg, 0, none⟩) 6 cG) rfl ?_
          try simp only [Act.put, sT, s0, sS]
          refine tkH 9 (.int .i64 (i : Nat)) rfl ?_
          try simp only [Act.put, sT, s0, sS]
          refine tkH 10 (.pointer (some ⟨gg, i * 17, none⟩)) rfl ?_ (hy := Or.inl ⟨by rfl, fun w' hw => by (have q0 := hi7; have q1 := hi6; go_simp)⟩)
          try simp only [Act.put, sT, s0, sS]
          refine tkH 11 (.agg x.cells.toArray) rfl ?_ (hy := Or.inl ⟨by rfl, fun w' hw => exec_load_agg _ 28 _ rfl _ _ rfl x.cells _ (hw.range HRG.out (by simp)) Tryd.underlying28 rfl (by rw [size31, HLA.out])⟩)
          try simp only [Act.put, sT, s0, sS]
          refine tkH 12 (.bool false) rfl ?_ (hy := Or.inl ⟨by rfl, fun w' hw => exec_neq_agg9 _ 28 _ _ _ rfl x.cells.toArray x.cells.toArray rfl rfl (by kernel_rfl) true (eq_ad_t x x rfl w')⟩)
          try simp only [Act.put, sT, s0, sS]
          refine tkH 13 (.bool false) rfl ?_
          try simp only [Act.put, sT, s0, sS]
          refine tkH 14 (.bool false) rfl ?_
          try simp only [Act.put, sT, s0, sS]
          refine tkH 15 (.int .i64 ((i : Int) + 1)) rfl ?_
          try simp only [Act.put, sT, s0, sS]
          refine tkH 16 (.int .i64 (i : Nat)) rfl ?_
          try simp only [Act.put, sT, s0, sS]
          refine tkH 17 (.int .i64 ((i : Int) + 1)) rfl ?_ (hy := Or.inl ⟨by rfl, fun w' hw => by (have q0 := hwi; go_simp)⟩)
          try simp only [Act.put, sT, s0, sS]
          refine tkH 18 (.bool false) rfl ?_
          try simp only [Act.put, sT, s0, sS]
          refine tkH 19 (.bool false) rfl ?_
          try simp only [Act.put, sT, s0, sS]
          refine wpAnyH_done (by kernel_rfl) ?_ _
          try simp only [Act.put, sT, s0, sS]
          clear hS HR9 HD9 HT9 HB9
          go_wp2_with fail
          refine wp_region_held (S := Touch [] X.drew) (by kernel_rfl) ?_
          change wpAnyH _ _ _ _ _ _ _ _ X.drew
          have tD := (Touch.refl [] X).drew
          have HDZ := Lib.hid (HDX.out.touch0 tD)
          have HTZ := Lib.hid (HTX.out.trans tD (by simp))
          have HBZ := Lib.hid (tD.at HBX2.out (by simp))
          generalize X.drew = wz at *
          clear tD HDX HTX HBX2
          have hS := Touch.refl [] wz
          obtain ⟨_, e1, e2, _, _⟩ := cells_five HBZ.out
          have hs1 := HSC1.out
          have hs2 := HSC2.out
          have hmd := HMD.out
          have hdn := HDN.out.1
          have hgt3 := HGT.out
          have wx1 := wrap_u64 (n := now + c1.ad) (by omega) (by unfold maxT; omega)
          have wj := wrap_u64 (n := c1.jit + 1) (by omega) (by unfold maxT; omega)
          have wx3 := wrap_u64 (n := now + c1.ad + draw % (c1.jit + 1)) (by omega) (by unfold maxT; omega)
          have tm := Int.tmod_eq_emod_of_nonneg (b := c1.jit + 1) hdn
          have hj0 : (c1.jit + 1 == 0) = false := by simp; omega
          have hj3 : ¬ (c1.jit + 1 = 0) := by omega
          have hgt2 := hgt3.symm
          have wgt := wrap_u64 (n := gt) (by omega) (by unfold maxT; omega)
          clear hgt3
          refine tkH 0 (.int .u64 now) rfl ?_
          try simp only [Act.put, sT, s0, sS]
          refine tkH 1 (.pointer (some ⟨w.heap.size, 1, none⟩)) rfl ?_
          try simp only [Act.put, sT, s0, sS]
          refine tkH 2 (.int .u64 c1.ad) rfl ?_ (hy := Or.inl ⟨by rfl, fun w' hw => by (have q := hw.cell e1 (by simp); go_simp)⟩)
          try simp only [Act.put, sT, s0, sS]
          refine tkH 3 (.int .u64 (now + c1.ad)) rfl ?_ (hy := Or.inl ⟨by rfl, fun w' hw => by (have q0 := wx1; go_simp)⟩)
          try simp only [Act.put, sT, s0, sS]
          refine tkH 4 (.int .u64 draw) rfl ?_
          try simp only [Act.put, sT, s0, sS]
          refine tkH 5 (.pointer (some ⟨w.heap.size, 2, none⟩)) rfl ?_
          try simp only [Act.put, sT, s0, sS]
          refine tkH 6 (.int .u64 c1.jit) rfl ?_ (hy := Or.inl ⟨by rfl, fun w' hw => by (have q := hw.cell e2 (by simp); go_simp)⟩)
          try simp only [Act.put, sT, s0, sS]
          refine tkH 7 (.int .u64 (c1.jit + 1)) rfl ?_ (hy := Or.inl ⟨by rfl, fun w' hw => by (have q0 := wj; go_simp)⟩)
          try simp only [Act.put, sT, s0, sS]
          refine tkH 8 (.int .u64 (draw % (c1.jit + 1))) rfl ?_ (hy := Or.inl ⟨by rfl, fun w' hw => by (have q0 := tm; have q1 := hj0; have q2 := hj3; have q3 := hdn; go_simp)⟩)
          try simp only [Act.put, sT, s0, sS]
          refine tkH 9 (.int .u64 gt) rfl ?_ (hy := Or.inl ⟨by rfl, fun w' hw => by (have q0 := wx3; have q1 := hgt2; have q2 := wgt; go_simp)⟩)
          try simp only [Act.put, sT, s0, sS]
          refine tkH 10 (.int .u64 gt) rfl ?_
          try simp only [Act.put, sT, s0, sS]
          refine wpAnyH_done (by kernel_rfl) ?_ _
          try simp only [Act.put, sT, s0, sS]
          clear hS e1 e2 hs1 hs2 hmd hdn hgt2 wgt wx1 wj wx3 tm hj0 hj3
          by_cases h5 : i = 5
          · subst h5
            go_wp2_with fail
            refine (awake29_ok _).mono ?_
            rintro e wa ⟨rfl, ta⟩
            have HNS := Lib.hid (dns_any wN wa h b9 _ (HDZ.out.touch0 ta) (by simp [sgS, gL]) now HNN.out 18446744073709551615 (sg_end HSC.out gt now))
            have HTa := Lib.hid (HTZ.out.trans ta (by simp))
            clear ta
            go_wp2_with fail
            refine HNS.out.mono ?_
            rintro e wb ⟨rfl, tb⟩
            have HTb := Lib.hid (HTW.out.trans (HTa.out.trans tb (by simp)) (by simp))
            clear tb
            go_wp2_with fail
            go_ret
            exact ⟨rfl, HTb.out⟩
          · have h6 : ((i : Int) == 5) = false := by simp; omega
            have h8 : i + 1 < 6 := by omega
            have hwg := wrap_u64 (n := gt - 1) (by omega) (by unfold maxT; omega)
            have HCA := Lib.hid (dcand_any wN wz h b9 _ HDZ.out (by simp [sgS, gL]) (gt - 1) ⟨by omega, by unfold maxT; omega⟩)
            rw [sg_wait c1 (i + 1) (show gt - 1 < gt by omega)] at HCA
            have HZL := Lib.hid (headA []).len
            have HZO := Lib.hid (headA []).one
            generalize headA [] = za at *
            go_wp2_with fail
            refine HCA.out.mono ?_
            rintro e wa ⟨rfl, ta⟩
            have HN := Lib.hid (heap_alloc_new wa (.cells (adr false (List.replicate 16 0)).toArray 28))
            have HA := Lib.hid ((Touch.refl [] wa).alloc (.cells (adr false (List.replicate 16 0)).toArray 28))
            have HTa := Lib.hid ta
            clear ta HCA
            go_wp2_with ((with_reducible refine at_store 28 ?_); refine wpList_store_into rfl 28 _ _ rfl wa.heap.size 28 _ za.cells rfl rfl HN.out (by rw [HZL.out]; rfl) (by rw [size31, HZL.out]) HZO.out ?_)
            intro wb hb tb zb
            have tb' := HTa.out.trans (HA.out.trans tb (by intro y hy; right; simp at hy; omega)) (by simp)
            have HDb := Lib.hid (HDZ.out.touch0 tb')
            have HTb := Lib.hid (HTZ.out.trans tb' (by simp))
            have HBb := Lib.hid (tb'.at HBZ.out (by simp))
            clear hb tb zb tb' HN HA HTa
            have HNS := Lib.hid (dns_any wN wb h b9 _ HDb.out (by simp [sgS, gL]) now HNN.out gt (sg_ns HSC.out h8 hn0 hgr.1 (by omega)))
            go_wp2_with fail
            refine HNS.out.mono ?_
            rintro e wc ⟨rfl, tc⟩
            have HDc := Lib.hid (HDb.out.touch0 tc)
            have HTc := Lib.hid (HTb.out.trans tc (by simp))
            obtain ⟨_, e1, e2, _, _⟩ := cells_five (tc.at HBb.out (by simp))
            have hs1 := HSC1.out
            have hs2 := HSC2.out
            have wx1 := wrap_u64 (n := now + c1.ad) (by omega) (by unfold maxT; omega)
            have wx2 := wrap_u64 (n := now + c1.ad + c1.jit) (by omega) (by unfold maxT; omega)
            have hng : ((gt != gt) = false) := by simp
            have hgg2 : decide (now + c1.ad + c1.jit < gt) = false := by simp; omega
            clear tc
            go_wp2_with fail
            go_roundw
            case rel => exact ⟨i + 1, gt, b9, by omega, by go_num, rfl, by omega, by omega, HDc.out, HTc.out⟩
            case measure => simp [intOf]; omega
        · have HCA := Lib.hid (dcand_any wN wr h b _ HD.out (by simp [sgS, gL]) now HNN.out)
          rw [HCN.out] at HCA
          simp only [headA, List.isEmpty_cons, Bool.not_false] at HCA
          obtain ⟨x, hx⟩ : ∃ x, x = gA i := ⟨_, rfl⟩
          rw [← hx] at HCA HCN HST HLA
          have HX := Lib.hid hx
          clear hx
          go_wp2_with fail
          refine HCA.out.mono ?_
          rintro e w7 ⟨rfl, t7⟩
          have HN := Lib.hid (heap_alloc_new w7 (.cells (adr false (List.replicate 16 0)).toArray 28))
          have HA := Lib.hid ((Touch.refl [] w7).alloc (.cells (adr false (List.replicate 16 0)).toArray 28))
          have HT7 := Lib.hid t7
          clear t7 HCA
          go_wp2_with ((with_reducible refine at_store 28 ?_); refine wpList_store_into rfl 28 _ _ rfl w7.heap.size 28 _ x.cells rfl rfl HN.out (by rw [HLA.out]; rfl) (by rw [size31, HLA.out]) x.one ?_)
          intro w8 h8 t8 z8
          have t8' := HT7.out.trans (HA.out.trans t8 (by intro y hy; right; simp at hy; omega)) (by simp)
          have HD8 := Lib.hid (HD.out.touch0 t8')
          have HT8 := Lib.hid (HTQ.out.trans t8' (by simp))
          have HR8 := Lib.hid (range_block h8)
          have HB8 := Lib.hid (t8'.at HBQ.out (by simp))
          have HG12 := Lib.hid (show wN.heap.size ≤ w7.heap.size from Nat.le_trans HTQ.out.size HT7.out.size)
          have HF12 := Lib.hid (show ∀ q ∈ dfoot h b, q ≠ w7.heap.size from fun q hq => by obtain ⟨j, hj⟩ := mem_dfoot.1 hq; have := (HD.out.lt j q hj).2; have := HT7.out.size; omega)
          generalize w7.heap.size = g12 at *
          clear h8 t8 z8 t8' HN HA HT7 HD HTQ HBQ
          have HSR := Lib.hid (dstart_yes wN w8 h b _ HD8.out HT8.out.size (by simp [sgS, gL]) (by simp only [sgS, List.length_range]; omega) (by intro k hk; simp only [sgS, List.mem_map, List.mem_range] at hk; obtain ⟨j, hj, rfl⟩ := hk; simp only [sgS]; rw [sg_len (by omega)]; omega) HSC.out.valid now draw HNN.out HDN.out x _ HCN.out)
          rw [HST.out] at HSR
          have HSL := Lib.hid (show (sgS c1 i now).S.length = i from sg_len (by omega))
          rw [HSL.out] at HSR
          obtain ⟨gt, hgt⟩ : ∃ gt, gt = now + c1.ad + draw % (c1.jit + 1) := ⟨_, rfl⟩
          have hm1 := Int.emod_nonneg draw (show c1.jit + 1 ≠ 0 by have := HSC2.out; omega)
          have hm2 := Int.emod_lt_of_pos draw (show 0 < c1.jit + 1 by have := HSC2.out; omega)
          have hgr : now + 1 ≤ gt ∧ gt ≤ now + 20 ∧ gt ≤ now + c1.ad + c1.jit := by have h1 := HSC1.out; have h2 := HSC2.out; rw [hgt]; omega
          have HMD := Lib.hid (And.intro hm1 hm2)
          rw [← hgt] at HSR
          have HGT := Lib.hid hgt
          clear hm1 hm2 hgt HST HSL
          go_wp2_with fail
          refine HSR.out.mono ?_
          rintro e w9 ⟨rfl, b9, d9, s9⟩
          have HD9 := Lib.hid d9
          have HT9 := Lib.hid (s9.out HD8.out HT8.out)
          have HR9 := Lib.hid (s9.t.range HR8.out (fun hm => HF12.out g12 hm rfl))
          have HB9 := Lib.hid (s9.t.at HB8.out (fun hm => by obtain ⟨j, hj⟩ := mem_dfoot.1 hm; have := (HD8.out.lt j _ hj).1; have := HB0.out; omega))
          clear d9 s9 HSR HD8 HT8 HR8 HB8
          go_wp2_with fail
          have HXA := Lib.hid (show gL[i]? = some x by rw [HX.out]; exact gL_at hi6)
          have hgr0 := own_at (l := gL) (i := i) (a := x) (show OwnA w3 w9 (.slice (some ⟨gg, 0, none⟩) 6 cG) gL from Own.touch HO6.out HT9.out (by simp)).row' HXA.out
          refine wp_region_held (S := Touch [] w9.drew) (by kernel_rfl) ?_
          change wpAnyH _ _ _ _ _ _ _ _ w9.drew
          have tD := (Touch.refl [] w9).drew
          have HRX := Lib.hid (tD.range HR9.out (by simp))
          have HRG := Lib.hid (tD.range hgr0 (by simp))
          have HDX := Lib.hid (HD9.out.touch0 tD)
          have HTX := Lib.hid (HT9.out.trans tD (by simp))
          have HBX2 := Lib.hid (tD.at HB9.out (by simp))
          generalize w9.drew = X at *
          clear tD hgr0
          have hS := Touch.refl [] X
          refine tkH 0 (.bool true) rfl ?_
          try simp only [Act.put, sT, s0, sS]
          refine tkH 1 (.bool false) rfl ?_
          try simp only [Act.put, sT, s0, sS]
          refine tkH 2 (.bool false) rfl ?_
          try simp only [Act.put, sT, s0, sS]
          refine tkH 3 (.bool true) rfl ?_
          try simp only [Act.put, sT, s0, sS]
          refine tkH 4 (.bool false) rfl ?_
          try simp only [Act.put, sT, s0, sS]
          refine tkH 5 (.bool false) rfl ?_
          try simp only [Act.put, sT, s0, sS]
          refine tkH 6 (.bool false) rfl ?_
          try simp only [Act.put, sT, s0, sS]
          refine tkH 7 (.agg x.cells.toArray) rfl ?_ (hy := Or.inl ⟨by rfl, fun w' hw => exec_load_agg _ 28 _ rfl _ _ rfl x.cells _ (hw.range HRX.out (by simp)) Tryd.underlying28 rfl (by rw [size31, HLA.out])⟩)
          try simp only [Act.put, sT, s0, sS]
          refine tkH 8 (.slice (some ⟨gg, 0, none⟩) 6 cG) rfl ?_
          try simp only [Act.put, sT, s0, sS]
          refine tkH 9 (.int .i64 (i : Nat)) rfl ?_
          try simp only [Act.put, sT, s0, sS]
          refine tkH 10 (.pointer (some ⟨gg, i * 17, none⟩)) rfl ?_ (hy := Or.inl ⟨by rfl, fun w' hw => by (have q0 := hi7; have q1 := hi6; go_simp)⟩)
          try simp only [Act.put, sT, s0, sS]
          refine tkH 11 (.agg x.cells.toArray) rfl ?_ (hy := Or.inl ⟨by rfl, fun w' hw => exec_load_agg _ 28 _ rfl _ _ rfl x.cells _ (hw.range HRG.out (by simp)) Tryd.underlying28 rfl (by rw [size31, HLA.out])⟩)
          try simp only [Act.put, sT, s0, sS]
          refine tkH 12 (.bool false) rfl ?_ (hy := Or.inl ⟨by rfl, fun w' hw => exec_neq_agg9 _ 28 _ _ _ rfl x.cells.toArray x.cells.toArray rfl rfl (by kernel_rfl) true (eq_ad_t x x rfl w')⟩)
          try simp only [Act.put, sT, s0, sS]
          refine tkH 13 (.bool false) rfl ?_
          try simp only [Act.put, sT, s0, sS]
          refine tkH 14 (.bool false) rfl ?_
          try simp only [Act.put, sT, s0, sS]
          refine tkH 15 (.int .i64 ((i : Int) + 1)) rfl ?_
          try simp only [Act.put, sT, s0, sS]
          refine tkH 16 (.int .i64 (i : Nat)) rfl ?_
          try simp only [Act.put, sT, s0, sS]
          refine tkH 17 (.int .i64 ((i : Int) + 1)) rfl ?_ (hy := Or.inl ⟨by rfl, fun w' hw => by (have q0 := hwi; go_simp)⟩)
          try simp only [Act.put, sT, s0, sS]
          refine tkH 18 (.bool false) rfl ?_
          try simp only [Act.put, sT, s0, sS]
          refine tkH 19 (.bool false) rfl ?_
          try simp only [Act.put, sT, s0, sS]
          refine wpAnyH_done (by kernel_rfl) ?_ _
          try simp only [Act.put, sT, s0, sS]
          clear hS HR9 HD9 HT9 HB9
          go_wp2_with fail
          refine wp_region_held (S := Touch [] X.drew) (by kernel_rfl) ?_
          change wpAnyH _ _ _ _ _ _ _ _ X.drew
          have tD := (Touch.refl [] X).drew
          have HDZ := Lib.hid (HDX.out.touch0 tD)
          have HTZ := Lib.hid (HTX.out.trans tD (by simp))
          have HBZ := Lib.hid (tD.at HBX2.out (by simp))
          generalize X.drew = wz at *
          clear tD HDX HTX HBX2
          have hS := Touch.refl [] wz
          obtain ⟨_, e1, e2, _, _⟩ := cells_five HBZ.out
          have hs1 := HSC1.out
          have hs2 := HSC2.out
          have hmd := HMD.out
          have hdn := HDN.out.1
          have hgt3 := HGT.out
          have wx1 := wrap_u64 (n := now + c1.ad) (by omega) (by unfold maxT; omega)
          have wj := wrap_u64 (n := c1.jit + 1) (by omega) (by unfold maxT; omega)
          have wx3 := wrap_u64 (n := now + c1.ad + draw % (c1.jit + 1)) (by omega) (by unfold maxT; omega)
          have tm := Int.tmod_eq_emod_of_nonneg (b := c1.jit + 1) hdn
          have hj0 : (c1.jit + 1 == 0) = false := by simp; omega
          have hj3 : ¬ (c1.jit + 1 = 0) := by omega
          have hgt2 := hgt3.symm
          have wgt := wrap_u64 (n := gt) (by omega) (by unfold maxT; omega)
          clear hgt3
          refine tkH 0 (.int .u64 now) rfl ?_
          try simp only [Act.put, sT, s0, sS]
          refine tkH 1 (.pointer (some ⟨w.heap.size, 1, none⟩)) rfl ?_
          try simp only [Act.put, sT, s0, sS]
          refine tkH 2 (.int .u64 c1.ad) rfl ?_ (hy := Or.inl ⟨by rfl, fun w' hw => by (have q := hw.cell e1 (by simp); go_simp)⟩)
          try simp only [Act.put, sT, s0, sS]
          refine tkH 3 (.int .u64 (now + c1.ad)) rfl ?_ (hy := Or.inl ⟨by rfl, fun w' hw => by (have q0 := wx1; go_simp)⟩)
          try simp only [Act.put, sT, s0, sS]
          refine tkH 4 (.int .u64 draw) rfl ?_
          try simp only [Act.put, sT, s0, sS]
          refine tkH 5 (.pointer (some ⟨w.heap.size, 2, none⟩)) rfl ?_
          try simp only [Act.put, sT, s0, sS]
          refine tkH 6 (.int .u64 c1.jit) rfl ?_ (hy := Or.inl ⟨by rfl, fun w' hw => by (have q := hw.cell e2 (by simp); go_simp)⟩)
          try simp only [Act.put, sT, s0, sS]
          refine tkH 7 (.int .u64 (c1.jit + 1)) rfl ?_ (hy := Or.inl ⟨by rfl, fun w' hw => by (have q0 := wj; go_simp)⟩)
          try simp only [Act.put, sT, s0, sS]
          refine tkH 8 (.int .u64 (draw % (c1.jit + 1))) rfl ?_ (hy := Or.inl ⟨by rfl, fun w' hw => by (have q0 := tm; have q1 := hj0; have q2 := hj3; have q3 := hdn; go_simp)⟩)
          try simp only [Act.put, sT, s0, sS]
          refine tkH 9 (.int .u64 gt) rfl ?_ (hy := Or.inl ⟨by rfl, fun w' hw => by (have q0 := wx3; have q1 := hgt2; have q2 := wgt; go_simp)⟩)
          try simp only [Act.put, sT, s0, sS]
          refine tkH 10 (.int .u64 gt) rfl ?_
          try simp only [Act.put, sT, s0, sS]
          refine wpAnyH_done (by kernel_rfl) ?_ _
          try simp only [Act.put, sT, s0, sS]
          clear hS e1 e2 hs1 hs2 hmd hdn hgt2 wgt wx1 wj wx3 tm hj0 hj3
          by_cases h5 : i = 5
          · subst h5
            go_wp2_with fail
            refine (awake29_ok _).mono ?_
            rintro e wa ⟨rfl, ta⟩
            have HNS := Lib.hid (dns_any wN wa h b9 _ (HDZ.out.touch0 ta) (by simp [sgS, gL]) now HNN.out 18446744073709551615 (sg_end HSC.out gt now))
            have HTa := Lib.hid (HTZ.out.trans ta (by simp))
            clear ta
            go_wp2_with fail
            refine HNS.out.mono ?_
            rintro e wb ⟨rfl, tb⟩
            have HTb := Lib.hid (HTW.out.trans (HTa.out.trans tb (by simp)) (by simp))
            clear tb
            go_wp2_with fail
            go_ret
            exact ⟨rfl, HTb.out⟩
          · have h6 : ((i : Int) == 5) = false := by simp; omega
            have h8 : i + 1 < 6 := by omega
            have hwg := wrap_u64 (n := gt - 1) (by omega) (by unfold maxT; omega)
            have HCA := Lib.hid (dcand_any wN wz h b9 _ HDZ.out (by simp [sgS, gL]) (gt - 1) ⟨by omega, by unfold maxT; omega⟩)
            rw [sg_wait c1 (i + 1) (show gt - 1 < gt by omega)] at HCA
            have HZL := Lib.hid (headA []).len
            have HZO := Lib.hid (headA []).one
            generalize headA [] = za at *
            go_wp2_with fail
            refine HCA.out.mono ?_
            rintro e wa ⟨rfl, ta⟩
            have HN := Lib.hid (heap_alloc_new wa (.cells (adr false (List.replicate 16 0)).toArray 28))
            have HA := Lib.hid ((Touch.refl [] wa).alloc (.cells (adr false (List.replicate 16 0)).toArray 28))
            have HTa := Lib.hid ta
            clear ta HCA
            go_wp2_with ((with_reducible refine at_store 28 ?_); refine wpList_store_into rfl 28 _ _ rfl wa.heap.size 28 _ za.cells rfl rfl HN.out (by rw [HZL.out]; rfl) (by rw [size31, HZL.out]) HZO.out ?_)
            intro wb hb tb zb
            have tb' := HTa.out.trans (HA.out.trans tb (by intro y hy; right; simp at hy; omega)) (by simp)
            have HDb := Lib.hid (HDZ.out.touch0 tb')
            have HTb := Lib.hid (HTZ.out.trans tb' (by simp))
            have HBb := Lib.hid (tb'.at HBZ.out (by simp))
            clear hb tb zb tb' HN HA HTa
            have HNS := Lib.hid (dns_any wN wb h b9 _ HDb.out (by simp [sgS, gL]) now HNN.out gt (sg_ns HSC.out h8 hn0 hgr.1 (by omega)))
            go_wp2_with fail
            refine HNS.out.mono ?_
            rintro e wc ⟨rfl, tc⟩
            have HDc := Lib.hid (HDb.out.touch0 tc)
            have HTc := Lib.hid (HTb.out.trans tc (by simp))
            obtain ⟨_, e1, e2, _, _⟩ := cells_five (tc.at HBb.out (by simp))
            have hs1 := HSC1.out
            have hs2 := HSC2.out
            have wx1 := wrap_u64 (n := now + c1.ad) (by omega) (by unfold maxT; omega)
            have wx2 := wrap_u64 (n := now + c1.ad + c1.jit) (by omega) (by unfold maxT; omega)
            have hng : ((gt != gt) = false) := by simp
            have hgg2 : decide (now + c1.ad + c1.jit < gt) = false := by simp; omega
            clear tc
            go_wp2_with fail
            go_roundw
            case rel => exact ⟨i + 1, gt, b9, by omega, by go_num, rfl, by omega, by omega, HDc.out, HTc.out⟩
            case measure => simp [intOf]; omega
theorem walk {H : Type} {enc : TypeId × Value → H} {w : World} (cs : Array Value) (hs : CellsOk enc Tryd.prog w 0 (fun _ => true) true [57, 57, 57, 3, 3] cs.toList) (v : Value) (hv : IsSlice enc Tryd.prog w 0 (fun _ => true) true [57] v) :
    Calls Tryd.prog 10 #[.agg cs, v] w fun e w' => e = .returned (.bool true) ∧ Below w.heap.size w w' := by
  obtain ⟨c, rfl, hok⟩ := cfg_of hs
  obtain ⟨a, len, cap, rfl, hl, hm, hc⟩ := hv.at (by simp)
  refine (walk0 c hok a len cap w ?_ (by unfold maxLen at hm; omega)).mono fun e w' ⟨h1, h2⟩ => ⟨h1, h2.below (by simp) (Nat.le_refl _)⟩
  intro i hi
  rcases hc with h0 | ⟨b, off, rfl, hc⟩
  · omega
  · obtain ⟨u, hu, l⟩ := hc i 0 57 hi rfl
    obtain ⟨x, rfl, hx⟩ := l.int Tryd.underlying57
    exact ⟨b, off, x, rfl, by simpa using hu, u64_of hx⟩
end Go.Proofs.YtiklhaajhdephaaDoor.dialerStaggersAttempts

/-
  The statement 'DialerStaggersAttemptsSaid' of the seat: the frame of the row round the walk of the law's Go function (YtiklhaajhdephaaDoorW10): for every input the call returns true and each argument reads as it did.
-/
namespace Go.Proofs.YtiklhaajhdephaaDoor.dialerStaggersAttempts
open Go.ChangeShapes Go.WideShapes Go.Deep Go.ChangeAt Go.RowKit
open Go.ChangeMaps (open_string shut_string)
set_option linter.unusedVariables false

theorem own : ownKnob Tryd.prog.godebug = none := by kernel_rfl
theorem laidOut : laidOutB Tryd.prog = true := by kernel_rfl

set_option maxRecDepth 100000 in
theorem lifted (os : Os) (started : os.Started) (H : Type) (enc : TypeId × Value → H) :
    ReturnsInHanded {} Tryd.checked os 10 .any (fun w args => (Rows.dialerStaggersAttemptsSpec.pre enc Tryd.prog Tryd.f10 Rows.dialerStaggersAttemptsRow.domain false w args ∧ laidMetH Tryd.prog Rows.dialerStaggersAttemptsRow.laid w) ∧ sizedMet enc Tryd.prog Tryd.f10 (OpenSpec.ofChange Rows.dialerStaggersAttemptsSpec) false w args)
      (Rows.dialerStaggersAttemptsSpec.post enc Tryd.prog Tryd.f10 false true false false) := by
  refine returnsInHanded_of_change_and (C := Tryd.checked) (X := fun w _ => laidMetH Tryd.prog Rows.dialerStaggersAttemptsRow.laid w) (fun _ _ _ hh h => h.of_heap hh) own started (by kernel_rfl) Tryd.func10
    (ChangeSpec.witness_shaped (enc := enc) (C := Tryd.checked) (os := os) (X := fun w _ => laidMetH Tryd.prog Rows.dialerStaggersAttemptsRow.laid w) false (World.laidAll Tryd.prog os Rows.dialerStaggersAttemptsRow.laid) #[.agg #[.int .u64 0, .int .u64 0, .int .u64 0, .int .i64 0, .int .i64 0], .slice none 0 0] 8 (World.laidAll_os _ _ _)
      (World.shaped_of_ZipB (by kernel_rfl) (by kernel_rfl)) (by kernel_rfl) (by kernel_rfl) (by kernel_rfl)
      (by rw [MakeChecks.laidMetH_plain _ _ _ (by kernel_rfl)]; exact laidMet_laidAll _ (by kernel_rfl) (by kernel_rfl))) ?_
  intro W base args ds gs before hval0 hW hcnd hsz0 hL _
  have hval : ∀ (j : Nat) t v, Tryd.f10.params[j]? = some t → args[j]? = some v → Value.okWide Tryd.prog W .any base t v := hval0
  have hW' := hW
  obtain ⟨p, q, hA0, hV, rfl, hfz, hnd⟩ := hW
  have hA : DataW.TrodAll enc Tryd.prog W 0 (fun _ => true) true Tryd.f10.params.toList args.toList ds p := hA0
  rw [Tryd.params10] at hA hval
  obtain ⟨v0, vs0, d0, ds0, p0, q0, hargs, rfl, rfl, h0, r0⟩ := trodAll_cons hA
  obtain ⟨v1, vs1, d1, ds1, p1, q1, rfl, rfl, rfl, h1, r1⟩ := trodAll_cons r0
  obtain ⟨rfl, rfl, rfl⟩ := trodAll_nil r1
  obtain rfl : args = #[v0, v1] := by cases args; simp_all
  obtain ⟨rfl, rfl⟩ := trodVars_none hV
  have k0 := h0
  have lt0 : ∀ x ∈ p0, x.block < W.heap.size := by obtain ⟨m, hm⟩ := k0; exact DataW.trod_lt m _ _ _ hm
  have k1 := h1
  have lt1 : ∀ x ∈ p1, x.block < W.heap.size := by obtain ⟨m, hm⟩ := k1; exact DataW.trod_lt m _ _ _ hm
  obtain ⟨c0, rfl⟩ := okWide_struct Tryd.underlying59 (hval 0 59 v0 rfl rfl)
  have s0 : CellsOk enc Tryd.prog W 0 (fun _ => true) true [57, 57, 57, 3, 3] c0.toList := by
    obtain ⟨fuel, hf⟩ := h0
    exact agg_ok (d := 8) (by kernel_rfl) (by simpa [Value.cells] using hf)
  obtain ⟨b1, len1, cap1, hv1⟩ := okWide_slice Tryd.underlying67 (hval 1 67 v1 rfl rfl)
  have s1 : IsSlice enc Tryd.prog W 0 (fun _ => true) true [57] v1 := by
    obtain ⟨fuel, hf⟩ := h1
    rw [hv1] at hf ⊢
    exact slice_ok (d := 8) Tryd.underlying67 (by kernel_rfl) (by kernel_rfl) (by simpa [Value.cells] using hf)
  clear hA0 hval0
  refine (walk (H := H) (enc := enc) (w := W) c0 s0 v1 s1).mono fun e W' ⟨he, bel⟩ => ?_
  subst he
  exact ⟨_, rfl, _, _, _, [], _, [], hW', trodAll_mk1 (shut_bool Tryd.underlying4 _), (trodAll_cons_mk (Below.trod laidOut (by kernel_rfl) (of_decide_eq_true (by kernel_rfl)) k0 bel lt0) (trodAll_cons_mk (Below.trod laidOut (by kernel_rfl) (of_decide_eq_true (by kernel_rfl)) k1 bel lt1) trodAll_mk0)), rfl, bel.frame _, fun h => by cases h⟩

theorem over : Rows.dialerStaggersAttemptsRow.holds Tryd.pinned (OpenSpec.ofChange Rows.dialerStaggersAttemptsSpec) :=
  OpenClaim.holds_of_wide 10 Tryd.f10 rfl rfl rfl rfl rfl rfl rfl ⟨rfl, rfl, rfl, rfl, rfl⟩ rfl rfl rfl rfl rfl (by kernel_rfl) Tryd.func10 (by kernel_rfl)
    (of_decide_eq_true (by kernel_rfl)) (by unfold Func.isWrapper; first | (rw [if_pos (by decide +kernel)]; kernel_rfl) | (rw [if_neg (by decide +kernel)]; exact ⟨rfl, rfl⟩))
    (fun os started H enc _ => lifted os started H enc)

theorem proved : Rows.DialerStaggersAttemptsCardSaid :=
  Claim7.holds_tied_plain_at .later [] [.data, .pinned] true (true, "5befad24a3e9b3d9c688acd4ea44020d752db1b22d3d70f9edc34305006425d2") false over (fun _ h => by cases h) (by kernel_rfl) (fun _ h => by cases h) dialerStaggersAttempts_row_tie rfl ⟨rfl, rfl⟩ (by kernel_rfl) rfl
    (fun f fn hf hfn => by
      obtain rfl : f = 10 := Option.some.inj ((show Tryd.prog.funcNamed "ginnel/ginnellaw29.DialerStaggersAttempts" = some 10 by kernel_rfl).symm.trans hf) |>.symm
      obtain rfl : fn = Tryd.f10 := (Option.some.inj (Tryd.func10.symm.trans hfn)).symm
      exact ⟨by kernel_rfl, fun j t ht => by
        rw [Tryd.params10] at ht
        have hm : t ∈ [59, 67] := by simpa using Array.mem_of_getElem? ht
        have hall : ([59, 67].all fun u => !Tryd.prog.wantsStandIn u) = true := by kernel_rfl
        exact (show Tryd.prog.wantsStandIn t = false by simpa using List.all_eq_true.1 hall t hm)⟩)
    (by kernel_rfl)
#print axioms proved
end Go.Proofs.YtiklhaajhdephaaDoor.dialerStaggersAttempts

/-
 The statement 'DialerMatchesModelSaid' of the seat: the frame of the row round the walk of the law's Go function (YtiklhaajhdephaaGreatDoorW13): for every input the call returns true and each argument reads as it did.
-/
import Derived.Test.YtiklhaajhdephaaGreatDoorIG
import Derived.Test.YtiklhaajhdephaaGreatDoorIF
import Derived.Test.YtiklhaajhdephaaGreatDoorNF1
import Derived.WalkKit
import Derived.ProofKit
import Derived.OpenShut
import Derived.ShutString
import Derived.ChangeOld
import Derived.Below
import Derived.Test.YtiklhaajhdephaaGreatDoorTie
import Derived.Test.YtiklhaajhdephaaGreatDoorCards
import Derived.LaidMore
import Derived.Lay
import Derived.SevenTiedAt
import Derived.Stop.Joined
import Derived.MakeChecks

/-
 The walk of DialerMatchesModel: true at every configuration, every list of addresses and every list of operations.
-/
namespace Go.Proofs.YtiklhaajhdephaaGreatDoor.dialerMatchesModel
open Go.RowKit Go.Deep
set_option linter.unusedVariables false
set_option linter.unusedSimpArgs false

theorem built_two (hI hR : Nat) : Tryz.prog.built 34 [(0, .pointer (some ⟨hI, 0, none⟩)), (1, .pointer (some ⟨hR, 0, none⟩))] = some #[.pointer (some ⟨hI, 0, none⟩), .pointer (some ⟨hR, 0, none⟩)] := by kernel_rfl
theorem sizeTwo : (Tryz.prog.info? 34).map (·.size) = some 2 := by kernel_rfl
theorem sizeOp : (Tryz.prog.info? 37).map (·.size) = some 7 := by kernel_rfl
theorem two_new {w0 wr w4 w5 : World} {hI hR : Nat} {bI : DV} {bR : RV} {g : Cfg} {L : List Ad} (hw : w0.heap.size ≤ wr.heap.size) (hc : g.valid = true) (hl : L.length ≤ 5) (d4 : Dl wr w4 hI bI (initS g L)) (t4 : Touch [] wr w4) (d5 : Rdl w4 w5 hR bR (initS g L) []) (t5 : Touch [] w4 w5) : Two w0 w5 hI bI hR bR (initS g L) (initS g L) 0 := by
 refine ⟨(d4.touch0 t5).older hw, d5.older (Nat.le_trans hw t4.size), Ok.init hc hl, Ok.init hc hl, fun x hx hm => ?_⟩
 obtain ⟨i, hi⟩ := mem_dfoot.1 hx
 obtain ⟨j, hj⟩ := mem_rfoot.1 hm
 have := (d4.lt i x hi).2
 have := (d5.lt j x hj).1
 omega
theorem allV_snoc {L : List Ad} {a : Ad} (h : allV L = true) (ha : a.valid = true) : allV (L ++ [a]) = true := by
 unfold allV at *
 rw [List.all_append, h]
 simp [ha]
set_option maxRecDepth 100000 in
set_option maxHeartbeats 16000000 in
theorem walk0 (c : Cfg) (ok : c.Ok) (ag : Option Addr) (ng cg bg : Nat) (xg : List (List Value)) (w : World) (hg : Rd w 17 bg (.slice ag ng cg) xg) (hgx : ∀ x ∈ xg, IsAd x) (hng : ng = xg.length) (hnm : ng ≤ 9223372036854775807) (al : Option Addr) (nl cl : Nat) (ho : Ops w al nl) (hnl : nl ≤ 9223372036854775807) :
  Calls Tryz.prog 4 #[.agg c.cells.toArray, .slice ag ng cg, .slice al nl cl] w fun e w' => e = .returned (.bool true) ∧ Touch [] w w' := by
 have HT := Lib.hid ((Touch.refl [] w).alloc (.cells c.cells.toArray 24))
 have hrow := range_new w c.cells 24
 have HBX := Lib.hid (heap_alloc_new w (.cells c.cells.toArray 24))
 have HCL := Lib.hid c.len
 have HG := Lib.hid hg
 have HGX := Lib.hid hgx
 have HO := Lib.hid ho
 have HGN := Lib.hid hng
 have HGC := Lib.hid (gcfg_any c ok (w.alloc (.cells c.cells.toArray 24)))
 have HGV := Lib.hid c.gen_valid
 clear ok hg hgx ho hng
 generalize c.gen = g at *
 go_enter Tryz.func4, Tryz.ntmps4
 go_wp2_with ((with_reducible refine at_load 24 ?_); refine wpList_load_mid rfl 24 _ rfl w.heap.size 0 rfl c.cells _ hrow Tryz.underlying24 rfl (by rw [sizeCf, HCL.out]) ?_)
 refine HGC.out.mono ?_
 rintro e w1 ⟨rfl, t1⟩
 have HB1 := Lib.hid (t1.at HBX.out (by simp))
 have HT1 := Lib.hid (HT.out.trans t1 (by simp))
 clear t1 hrow HBX HGC HT
 go_wp2_with ((with_reducible refine at_store 24 ?_); refine wpList_store_into rfl 24 _ _ rfl w.heap.size 24 _ g.cells rfl rfl HB1.out (by rfl) sizeCf g.one ?_)
 intro w2 h2 t2 z2
 have HT2 := Lib.hid (HT1.out.trans t2 (by intro y hy; right; simp at hy; omega))
 have HR2 := Lib.hid (range_block h2)
 clear h2 t2 z2 HB1 HT1
 by_cases h3 : 3 < ng
 ·have h3i : (3 : Int) < (ng : Int) := by omega
  go_wp2_with fail
  go_loopw [7, 8] (fun v7 v8 wr => ∃ (i : Nat) (L : List Ad), i ≤ ng ∧ i ≤ 5 ∧ v8 = .int .i64 i ∧ OwnA w2 wr v7 L ∧ L.length = i ∧ allV L = true ∧ Touch [] w2 wr) (fun _ v8 _ => 5 - (intOf v8).toNat)
  case atStart => exact ⟨0, [], by omega, by omega, rfl, Own.nil _ _, rfl, rfl, Touch.refl _ _⟩
  case round =>
   obtain ⟨i, L, hin, hi5, rfl, hown, hLl, hLv, ht⟩ := hrel
   have HOW := Lib.hid hown
   have HTR := Lib.hid ht
   have HLV := Lib.hid hLv
   have HLL := Lib.hid hLl
   clear hown hLl hLv ht
   by_cases hlt : i < ng ∧ i < 5
   ·obtain ⟨hlt, hl5⟩ := hlt
    ·obtain ⟨off, rfl, hat⟩ := HG.out.at (by intro e; have := HGN.out; rw [e] at this; simp at this; omega)
     obtain ⟨x, hx⟩ : ∃ x, xg[i]? = some x := ⟨_, List.getElem?_eq_getElem (by rw [← HGN.out]; exact hlt)⟩
     have hadx := HGX.out x (List.mem_of_getElem? hx)
     have hrg := HTR.out.range (HT2.out.range (hat i x hx) (by simp)) (by simp)
     have hwi : IntKind.i64.wrap ((i : Int) + 1) = (i : Int) + 1 := by rw [IntKind.wrap_i64] <;> omega
     have hlt2 : (i : Int) < (ng : Int) := by omega
     have hl52 : (i : Int) < 5 := by omega
     have HXL := Lib.hid hadx.len
     have HSA := Lib.hid (some_any x wr hadx)
     clear hat hx hadx hlt hl5
     go_wp2_with ((with_reducible refine at_load 40 ?_); refine wpList_load_mid rfl 40 _ rfl bg (off + i * 17) rfl x _ hrg Tryz.underlying40 rfl (by rw [size31, HXL.out]) ?_)
     refine HSA.out.mono ?_
     rintro e u1 ⟨cs', h', rfl, t1⟩
     obtain ⟨a1, rfl⟩ := ad_of h'
     have HT1 := Lib.hid t1
     clear t1 h' hrg HSA
     go_wp2_with fail
     refine (validV_any a1 u1).mono ?_
     rintro e u2 ⟨a2, hv2, rfl, t2⟩
     have HT3 := Lib.hid (HTR.out.trans (HT1.out.trans t2 (by simp)) (by simp))
     have HOW2 := Lib.hid (Own.touch HOW.out (HT1.out.trans t2 (by simp)) (by simp))
     have HV2 := Lib.hid (allV_snoc HLV.out hv2)
     have HLN := Lib.hid (show (L.length + 1) * 17 ≤ 140737488355328 by rw [HLL.out]; omega)
     have HL2 := Lib.hid (show (L ++ [a2]).length = i + 1 by simp [HLL.out])
     clear t2 hv2 HOW HTR HT1 HLV
     go_wp2_with (first
      | ((with_reducible refine at_bs 35 1 ?_); refine wpList_build_ad rfl _ rfl a2 (by rfl) ?_)
      | (at_builtin; refine wpList_app_ad w2 u2 (by rfl) _ _ (by rfl) _ L (by rfl) HOW2.out HT3.out.size a2 (by rfl) HLN.out ?_))
     intro v5 w5 ho5 t5 hv5
     have HO5 := Lib.hid ho5
     have HT5 := Lib.hid (HT3.out.trans t5 (fun q hq => .inr (HOW2.out.new q (by simpa using hq))))
     clear ho5 t5 hv5
     go_wp2_with fail
     go_roundw
     case rel => exact ⟨i + 1, L ++ [a2], by omega, by omega, by go_num, HO5.out, HL2.out, HV2.out, HT5.out⟩
     case measure => simp [intOf]; omega
   ·have HL5 := Lib.hid (show L.length ≤ 5 by rw [HLL.out]; omega)
    clear HG HGX HGN
    rcases (by omega : ¬ i < ng ∨ (i < ng ∧ ¬ i < 5)) with hq | ⟨hq, hq5⟩
    all_goals
     clear hlt
     obtain ⟨bG, hrG, hbG⟩ := HOW.out.rdn
     have HRR := HTR.out.range HR2.out (by simp)
     have HRW := Lib.hid HRR
     have HBL := Lib.hid (show L ≠ [] → bG < wr.heap.size from fun hne => Own.lt HOW.out bG (hbG hne))
     have HRG := Lib.hid hrG
     have HNW := Lib.hid (dnew_ok g wr _ bG L hrG HGV.out HLV.out (by by_cases e : L = []; exact .inr e; exact .inl (HBL.out e)) (by have := HL5.out; omega))
     clear hrG hbG
     go_wp2_with ((with_reducible refine at_load 24 ?_); refine wpList_load_mid rfl 24 _ rfl w.heap.size 0 rfl g.cells _ HRR Tryz.underlying24 rfl (by rw [sizeCf]; rfl) ?_)
     refine HNW.out.mono ?_
     rintro e w4 ⟨hI, bI, rfl, d4, t4⟩
     have HD4 := Lib.hid d4
     have HT4 := Lib.hid t4
     have r4 := t4.range HRW.out (by simp)
     have HRN := Lib.hid (rnew_any g w4 _ bG L (Rd.touch t4 HRG.out (by simp)) HGV.out (fun hne => Nat.lt_of_lt_of_le (HBL.out hne) t4.size) (by have := HL5.out; omega))
     clear d4 t4 HRR HNW
     go_wp2_with ((with_reducible refine at_load 24 ?_); refine wpList_load_mid rfl 24 _ rfl w.heap.size 0 rfl g.cells _ r4 Tryz.underlying24 rfl (by rw [sizeCf]; rfl) ?_)
     refine HRN.out.mono ?_
     rintro e w5 ⟨hR, bR, rfl, d5, t5⟩
     have HB5 := Lib.hid (two_new HTR.out.size HGV.out HL5.out HD4.out HT4.out d5 t5)
     have HT5 := Lib.hid ((HT2.out.trans HTR.out (by simp)).trans (HT4.out.trans t5 (by simp)) (by simp))
     have HG5 := Lib.hid (heap_alloc_new w5 (.cells #[.pointer (some ⟨hI, 0, none⟩), .pointer (some ⟨hR, 0, none⟩)] 34))
     have HA5 := Lib.hid ((Touch.refl [] w5).alloc (.cells #[.pointer (some ⟨hI, 0, none⟩), .pointer (some ⟨hR, 0, none⟩)] 34))
     have HZ5 := Lib.hid (show w2.heap.size ≤ w5.heap.size by have h1 := HTR.out.size; have h2 := HT4.out.size; have h3 := t5.size; omega)
     clear d5 t5 r4 HRN HD4 HT4 HRG HBL HRW HR2 HLV HL5 HTR HOW
     go_wp2_with (first
      | ((with_reducible refine at_build 34 ?_); refine wpList_built (by rfl) 34 _ (by rfl) _ _ (by rfl) (built_two hI hR) ?_)
      | ((with_reducible refine at_store 34 ?_); refine wpList_store_new rfl 34 _ _ rfl _ _ [.pointer (some ⟨hI, 0, none⟩), .pointer (some ⟨hR, 0, none⟩)] (by rfl) (by rfl) rfl sizeTwo (by simp [Value.oneCell']) ?_))
     have HB6 := Lib.hid (HB5.out.touch0 HA5.out)
     have HT6 := Lib.hid (HT5.out.trans HA5.out (by simp))
     have HZ6 := Lib.hid (Nat.le_trans HZ5.out HA5.out.size)
     have HGF := Lib.hid (show w5.heap.size ∉ bfoot hI bI hR bR from fun hm => by have := (HB5.out.lt _ hm).2; omega)
     have HGL := Lib.hid (show w5.heap.size < (w5.alloc (.cells #[.pointer (some ⟨hI, 0, none⟩), .pointer (some ⟨hR, 0, none⟩)] 34)).heap.size by simp)
     generalize w5.alloc (.cells #[.pointer (some ⟨hI, 0, none⟩), .pointer (some ⟨hR, 0, none⟩)] 34) = w6 at *
     generalize w5.heap.size = g11 at *
     clear HB5 HT5 HZ5 HA5
     go_loopw [12, 13] (fun v12 v13 wr => ∃ (i : Nat) (s : DS) (bI : DV) (bR : RV) (now : Int), i ≤ nl ∧ i ≤ 50 ∧ v13 = .int .i64 i ∧ v12 = .int .u64 now ∧ 0 ≤ now ∧ now ≤ 8 * i ∧ Two w2 wr hI bI hR bR s s i ∧ wr.heap[g11]? = some (.cells #[.pointer (some ⟨hI, 0, none⟩), .pointer (some ⟨hR, 0, none⟩)] 34 (0, 0)) ∧ g11 ∉ bfoot hI bI hR bR ∧ Touch [] w wr ∧ w2.heap.size ≤ wr.heap.size) (fun _ v13 _ => 50 - (intOf v13).toNat)
     case atStart => exact ⟨0, initS g L, bI, bR, 0, by omega, by omega, rfl, rfl, by omega, by omega, HB6.out, HG5.out, HGF.out, HT6.out, HZ6.out⟩
     case round =>
      obtain ⟨i, s, bI, bR, now, hin, hi50, rfl, rfl, hn0, hn1, hB, hg, hgf, ht, hz⟩ := hrel
      have HB := Lib.hid hB
      have HGR := Lib.hid hg
      have HGB := Lib.hid hgf
      have HTR := Lib.hid ht
      have HZR := Lib.hid hz
      clear hB hg hgf ht hz HB6 HG5 HGF HT6 HZ6 HGL
      by_cases hlt : i < nl
      ·by_cases hl5 : i < 50
       ·obtain ⟨b, o, kd, f, v, wy, tr, draw, pass, bl, xs, rfl, hop, hrd, hx, hd, hp⟩ := HO.out i hlt
        have HOP := Lib.hid (HTR.out.range hop (by simp))
        have HRD := Lib.hid (Rd.touch HTR.out hrd (by simp))
        have HXS := Lib.hid hx
        have HDR := Lib.hid hd
        have HLO := Lib.hid (show b < w.heap.size from World.block_lt_of_cell? w _ (hop 0 _ rfl))
        obtain ⟨hp0, hp1⟩ := hp
        have hwi : IntKind.i64.wrap ((i : Int) + 1) = (i : Int) + 1 := by rw [IntKind.wrap_i64] <;> omega
        have hlt2 : (i : Int) < (nl : Int) := by omega
        have hl52 : (i : Int) < 50 := by omega
        have cp := HOP.out 6 _ rfl
        have tm9 := Int.tmod_eq_emod_of_nonneg (b := 9) hp0
        have tm40 := Int.tmod_eq_emod_of_nonneg (b := 40) hp0
        have hm9 := Int.emod_nonneg pass (show (9 : Int) ≠ 0 by omega)
        have hm9b := Int.emod_lt_of_pos pass (show (0 : Int) < 9 by omega)
        have hm40 := Int.emod_nonneg pass (show (40 : Int) ≠ 0 by omega)
        have hm40b := Int.emod_lt_of_pos pass (show (0 : Int) < 40 by omega)
        have wa9 := wrap_u64 (n := now + pass % 9) (by omega) (by unfold maxT; omega)
        have hnw0 : 0 ≤ now + pass % 9 := by omega
        have hnw1 : now + pass % 9 ≤ 8 * (i + 1) := by omega
        have HNW := Lib.hid (show 0 ≤ now + pass % 9 ∧ now + pass % 9 ≤ maxT from ⟨hnw0, by unfold maxT; omega⟩)
        have HNX := Lib.hid (show 0 ≤ now + pass % 9 + pass % 40 ∧ now + pass % 9 + pass % 40 ≤ maxT from ⟨by omega, by unfold maxT; omega⟩)
        have wa40 := wrap_u64 (n := now + pass % 9 + pass % 40) HNX.out.1 HNX.out.2
        generalize pass % 9 = p9 at *
        generalize pass % 40 = p40 at *
        clear hop hrd hx hd
        go_wp2_with fail
        generalize now + p9 = nw at *
        refine wp_region_held (S := Touch (bfoot hI bI hR bR) wr.drew) (by kernel_rfl) ?_
        change wpAnyH _ _ _ _ _ _ _ _ wr.drew
        have tD := (Touch.refl [] wr).drew
        have HBX := Lib.hid (HB.out.touch0 tD)
        have HTX := Lib.hid (HTR.out.trans tD (by simp))
        have HZX := Lib.hid (Nat.le_trans HZR.out tD.size)
        have HGX0 := Lib.hid (tD.at HGR.out (by simp))
        have HGX1 := Lib.hid (range_block HGX0.out)
        have HOX := Lib.hid (tD.range HOP.out (by simp))
        have HRX := Lib.hid (Rd.touch tD HRD.out (by simp))
        have HGS := Lib.hid (show g11 < wr.drew.heap.size from (Array.getElem?_eq_some_iff.1 HGX0.out).1)
        have HBN := Lib.hid (show b ∉ bfoot hI bI hR bR from fun hm => by have h1 := (HB.out.lt _ hm).1; have h2 := HLO.out; have h3 := HT2.out.size; omega)
        generalize wr.drew = X at *
        clear tD
        have hS := Touch.refl (bfoot hI bI hR bR) X
        refine tkH 0 (.agg [.pointer (some ⟨hI, 0, none⟩), .pointer (some ⟨hR, 0, none⟩)].toArray) ?_ (hy := Or.inl ⟨by rfl, fun w' hw => exec_load_agg _ 34 _ rfl _ _ rfl [.pointer (some ⟨hI, 0, none⟩), .pointer (some ⟨hR, 0, none⟩)] _ (hw.range HGX1.out HGB.out) Tryz.underlying34 rfl sizeTwo⟩)
        refine tkH 1 (.slice (some ⟨b, o, none⟩) nl cl) ?_
        refine tkH 2 (.int .i64 i) ?_
        refine tkH 3 (.pointer (some ⟨b, o + i * 7, none⟩)) ?_ (hy := Or.inl ⟨by rfl, fun w' hw => by (have q0 := hlt2; have q1 := hlt; go_simp)⟩)
        refine tkH 4 (.agg [.int .i64 kd, .bool f, v, .int .i64 wy, .int .i64 tr, .int .u64 draw, .int .u64 pass].toArray) ?_ (hy := Or.inl ⟨by rfl, fun w' hw => exec_load_agg _ 37 _ rfl _ _ rfl [.int .i64 kd, .bool f, v, .int .i64 wy, .int .i64 tr, .int .u64 draw, .int .u64 pass] _ (hw.range HOX.out HBN.out) Tryz.underlying37 rfl sizeOp⟩)
        refine tkH 5 (.int .u64 nw) ?_
        refine wpAnyH_ready (rs := [6]) (by kernel_rfl) (by simp) ?_
        refine cnH rfl (fun K hK => ?_) AllReadyH.nil
        go_simp
        refine (apply_any w2 hI bI hR bR s s i X HBX.out HZX.out (by omega) nw HNW.out kd f v bl xs HRX.out HXS.out wy tr draw pass HDR.out).mono ?_
        rintro e u6 ⟨r, rfl, bI', bR', s', t', B', st', a', c', e'⟩
        obtain ⟨rfl, rfl⟩ := e' rfl
        have hS2 := hS.trans st'.t (fun g hg => .inl hg)
        have HBY := Lib.hid B'
        have HSY := Lib.hid st'
        refine hK.out _ _ hS2 (fun _ => ?_)
        clear hK K hS B' st' a' c'
        have hS := hS2
        clear hS2
        have tQ := Touch.refl [] u6
        try simp only [Act.put, sT, s0, sS]
        refine tkH 7 (.bool false) ?_
        refine tkH 8 (.bool false) ?_
        refine tkH 9 (.agg [.pointer (some ⟨hI, 0, none⟩), .pointer (some ⟨hR, 0, none⟩)].toArray) ?_ (hy := Or.inl ⟨by rfl, fun w' hw => exec_load_agg _ 34 _ rfl _ _ rfl [.pointer (some ⟨hI, 0, none⟩), .pointer (some ⟨hR, 0, none⟩)] _ (hw.range HGX1.out HGB.out) Tryz.underlying34 rfl sizeTwo⟩)
        refine tkH 10 (.int .u64 nw) ?_
        refine wpAnyH_ready (rs := [11]) (by kernel_rfl) (by simp) ?_
        refine cnH rfl (fun K hK => ?_) AllReadyH.nil
        go_simp
        refine (same_any w2 hI bI' hR bR' s' (i + 1) _ (HBY.out.touch0 tQ) nw HNW.out).mono ?_
        rintro e u11 ⟨rfl, t11⟩
        have hS2 := hS.trans t11 (by simp)
        have tQ2 := tQ.trans t11 (by simp)
        refine hK.out _ _ hS2 (fun _ => ?_)
        clear hK K hS tQ t11
        have hS := hS2
        have tQ := tQ2
        clear hS2 tQ2
        try simp only [Act.put, sT, s0, sS]
        refine tkH 12 (.bool false) ?_
        refine tkH 13 (.bool false) ?_
        refine tkH 14 (.bool false) ?_
        refine tkH 15 (.agg [.pointer (some ⟨hI, 0, none⟩), .pointer (some ⟨hR, 0, none⟩)].toArray) ?_ (hy := Or.inl ⟨by rfl, fun w' hw => exec_load_agg _ 34 _ rfl _ _ rfl [.pointer (some ⟨hI, 0, none⟩), .pointer (some ⟨hR, 0, none⟩)] _ (hw.range HGX1.out HGB.out) Tryz.underlying34 rfl sizeTwo⟩)
        refine tkH 16 (.int .u64 nw) ?_
        refine tkH 17 (.slice (some ⟨b, o, none⟩) nl cl) ?_
        refine tkH 18 (.int .i64 i) ?_
        refine tkH 19 (.pointer (some ⟨b, o + i * 7, none⟩)) ?_ (hy := Or.inl ⟨by rfl, fun w' hw => by (have q0 := hlt2; have q1 := hlt; go_simp)⟩)
        refine tkH 20 (.pointer (some ⟨b, o + i * 7 + 6, none⟩)) ?_
        refine tkH 21 (.int .u64 pass) ?_ (hy := Or.inl ⟨by rfl, fun w' hw => by (have q := hw.cell (HOX.out 6 _ rfl) HBN.out; go_simp)⟩)
        refine tkH 22 (.int .u64 p40) ?_ (hy := Or.inl ⟨by rfl, fun w' hw => by (have q0 := tm40; go_simp)⟩)
        refine tkH 23 (.int .u64 (nw + p40)) ?_ (hy := Or.inl ⟨by rfl, fun w' hw => by (have q0 := wa40; go_simp)⟩)
        refine wpAnyH_ready (rs := [24]) (by kernel_rfl) (by simp) ?_
        refine cnH rfl (fun K hK => ?_) AllReadyH.nil
        go_simp
        refine (same_any w2 hI bI' hR bR' s' (i + 1) _ (HBY.out.touch0 tQ) (nw + p40) HNX.out).mono ?_
        rintro e u24 ⟨rfl, t24⟩
        have hS2 := hS.trans t24 (by simp)
        have tQ2 := tQ.trans t24 (by simp)
        refine hK.out _ _ hS2 (fun _ => ?_)
        clear hK K hS tQ t24
        have hS := hS2
        have tQ := tQ2
        clear hS2 tQ2
        try simp only [Act.put, sT, s0, sS]
        refine tkH 25 (.bool false) ?_
        refine tkH 26 (.bool false) ?_
        refine wpAnyH_done (by kernel_rfl) ?_ _
        try simp only [Act.put, sT, s0, sS]
        have HBZ := Lib.hid (HBY.out.touch0 tQ)
        have HGZ := Lib.hid (hS.at HGX0.out HGB.out)
        have HGZF := Lib.hid (HSY.out.away HGB.out HGS.out)
        have HTZ := Lib.hid (HTX.out.trans hS (fun g hg => .inr (by have h1 := (HBX.out.lt g hg).1; have h2 := HT2.out.size; omega)))
        have HZZ := Lib.hid (Nat.le_trans HZX.out hS.size)
        clear hS tQ
        go_wp2_with fail
        go_roundw
        case rel => exact ⟨i + 1, s', bI', bR', nw, by omega, by omega, by go_num, rfl, by omega, by omega, HBZ.out, HGZ.out, HGZF.out, HTZ.out, HZZ.out⟩
        case measure => simp [intOf]; omega
       ·go_wp2_with fail
        refine (awake29_ok wr).mono ?_
        rintro e w9 ⟨rfl, t9⟩
        have HT9 := Lib.hid (HTR.out.trans t9 (by simp))
        clear t9
        go_wp2_with fail
        go_ret
        exact ⟨rfl, HT9.out⟩
      ·go_wp2_with fail
       refine (awake29_ok wr).mono ?_
       rintro e w9 ⟨rfl, t9⟩
       have HT9 := Lib.hid (HTR.out.trans t9 (by simp))
       clear t9
       go_wp2_with fail
       go_ret
       exact ⟨rfl, HT9.out⟩
 ·have h3i : ¬ (3 : Int) < (ng : Int) := by omega
  obtain ⟨wr, hwr⟩ : ∃ wr, wr = w2 := ⟨_, rfl⟩
  have HOW := Lib.hid (show OwnA w2 wr (.slice none 0 0) [] from Own.nil _ _)
  have HTR := Lib.hid (show Touch [] w2 wr by rw [hwr]; exact Touch.refl _ _)
  have HLV := Lib.hid (show allV [] = true from rfl)
  have HL5 := Lib.hid (show ([] : List Ad).length ≤ 5 by simp)
  obtain ⟨L, hL⟩ : ∃ L : List Ad, L = [] := ⟨_, rfl⟩
  rw [← hL] at HOW HLV HL5
  rw [← hwr]
  clear hL hwr
  obtain ⟨bG, hrG, hbG⟩ := HOW.out.rdn
  have HRR := HTR.out.range HR2.out (by simp)
  have HRW := Lib.hid HRR
  have HBL := Lib.hid (show L ≠ [] → bG < wr.heap.size from fun hne => Own.lt HOW.out bG (hbG hne))
  have HRG := Lib.hid hrG
  have HNW := Lib.hid (dnew_ok g wr _ bG L hrG HGV.out HLV.out (by by_cases e : L = []; exact .inr e; exact .inl (HBL.out e)) (by have := HL5.out; omega))
  clear hrG hbG
  go_wp2_with ((with_reducible refine at_load 24 ?_); refine wpList_load_mid rfl 24 _ rfl w.heap.size 0 rfl g.cells _ HRR Tryz.underlying24 rfl (by rw [sizeCf]; rfl) ?_)
  refine HNW.out.mono ?_
  rintro e w4 ⟨hI, bI, rfl, d4, t4⟩
  have HD4 := Lib.hid d4
  have HT4 := Lib.hid t4
  have r4 := t4.range HRW.out (by simp)
  have HRN := Lib.hid (rnew_any g w4 _ bG L (Rd.touch t4 HRG.out (by simp)) HGV.out (fun hne => Nat.lt_of_lt_of_le (HBL.out hne) t4.size) (by have := HL5.out; omega))
  clear d4 t4 HRR HNW
  go_wp2_with ((with_reducible refine at_load 24 ?_); refine wpList_load_mid rfl 24 _ rfl w.heap.size 0 rfl g.cells _ r4 Tryz.underlying24 rfl (by rw [sizeCf]; rfl) ?_)
  refine HRN.out.mono ?_
  rintro e w5 ⟨hR, bR, rfl, d5, t5⟩
  have HB5 := Lib.hid (two_new HTR.out.size HGV.out HL5.out HD4.out HT4.out d5 t5)
  have HT5 := Lib.hid ((HT2.out.trans HTR.out (by simp)).trans (HT4.out.trans t5 (by simp)) (by simp))
  have HG5 := Lib.hid (heap_alloc_new w5 (.cells #[.pointer (some ⟨hI, 0, none⟩), .pointer (some ⟨hR, 0, none⟩)] 34))
  have HA5 := Lib.hid ((Touch.refl [] w5).alloc (.cells #[.pointer (some ⟨hI, 0, none⟩), .pointer (some ⟨hR, 0, none⟩)] 34))
  have HZ5 := Lib.hid (show w2.heap.size ≤ w5.heap.size by have h1 := HTR.out.size; have h2 := HT4.out.size; have h3 := t5.size; omega)
  clear d5 t5 r4 HRN HD4 HT4 HRG HBL HRW HR2 HLV HL5 HTR HOW
  go_wp2_with (first
   | ((with_reducible refine at_build 34 ?_); refine wpList_built (by rfl) 34 _ (by rfl) _ _ (by rfl) (built_two hI hR) ?_)
   | ((with_reducible refine at_store 34 ?_); refine wpList_store_new rfl 34 _ _ rfl _ _ [.pointer (some ⟨hI, 0, none⟩), .pointer (some ⟨hR, 0, none⟩)] (by rfl) (by rfl) rfl sizeTwo (by simp [Value.oneCell']) ?_))
  have HB6 := Lib.hid (HB5.out.touch0 HA5.out)
  have HT6 := Lib.hid (HT5.out.trans HA5.out (by simp))
  have HZ6 := Lib.hid (Nat.le_trans HZ5.out HA5.out.size)
  have HGF := Lib.hid (show w5.heap.size ∉ bfoot hI bI hR bR from fun hm => by have := (HB5.out.lt _ hm).2; omega)
  have HGL := Lib.hid (show w5.heap.size < (w5.alloc (.cells #[.pointer (some ⟨hI, 0, none⟩), .pointer (some ⟨hR, 0, none⟩)] 34)).heap.size by simp)
  generalize w5.alloc (.cells #[.pointer (some ⟨hI, 0, none⟩), .pointer (some ⟨hR, 0, none⟩)] 34) = w6 at *
  generalize w5.heap.size = g11 at *
  clear HB5 HT5 HZ5 HA5
  go_loopw [12, 13] (fun v12 v13 wr => ∃ (i : Nat) (s : DS) (bI : DV) (bR : RV) (now : Int), i ≤ nl ∧ i ≤ 50 ∧ v13 = .int .i64 i ∧ v12 = .int .u64 now ∧ 0 ≤ now ∧ now ≤ 8 * i ∧ Two w2 wr hI bI hR bR s s i ∧ wr.heap[g11]? = some (.cells #[.pointer (some ⟨hI, 0, none⟩), .pointer (some ⟨hR, 0, none⟩)] 34 (0, 0)) ∧ g11 ∉ bfoot hI bI hR bR ∧ Touch [] w wr ∧ w2.heap.size ≤ wr.heap.size) (fun _ v13 _ => 50 - (intOf v13).toNat)
  case atStart => exact ⟨0, initS g L, bI, bR, 0, by omega, by omega, rfl, rfl, by omega, by omega, HB6.out, HG5.out, HGF.out, HT6.out, HZ6.out⟩
  case round =>
   obtain ⟨i, s, bI, bR, now, hin, hi50, rfl, rfl, hn0, hn1, hB, hg, hgf, ht, hz⟩ := hrel
   have HB := Lib.hid hB
   have HGR := Lib.hid hg
   have HGB := Lib.hid hgf
   have HTR := Lib.hid ht
   have HZR := Lib.hid hz
   clear hB hg hgf ht hz HB6 HG5 HGF HT6 HZ6 HGL
   by_cases hlt : i < nl
   ·by_cases hl5 : i < 50
    ·obtain ⟨b, o, kd, f, v, wy, tr, draw, pass, bl, xs, rfl, hop, hrd, hx, hd, hp⟩ := HO.out i hlt
     have HOP := Lib.hid (HTR.out.range hop (by simp))
     have HRD := Lib.hid (Rd.touch HTR.out hrd (by simp))
     have HXS := Lib.hid hx
     have HDR := Lib.hid hd
     have HLO := Lib.hid (show b < w.heap.size from World.block_lt_of_cell? w _ (hop 0 _ rfl))
     obtain ⟨hp0, hp1⟩ := hp
     have hwi : IntKind.i64.wrap ((i : Int) + 1) = (i : Int) + 1 := by rw [IntKind.wrap_i64] <;> omega
     have hlt2 : (i : Int) < (nl : Int) := by omega
     have hl52 : (i : Int) < 50 := by omega
     have cp := HOP.out 6 _ rfl
     have tm9 := Int.tmod_eq_emod_of_nonneg (b := 9) hp0
     have tm40 := Int.tmod_eq_emod_of_nonneg (b := 40) hp0
     have hm9 := Int.emod_nonneg pass (show (9 : Int) ≠ 0 by omega)
     have hm9b := Int.emod_lt_of_pos pass (show (0 : Int) < 9 by omega)
     have hm40 := Int.emod_nonneg pass (show (40 : Int) ≠ 0 by omega)
     have hm40b := Int.emod_lt_of_pos pass (show (0 : Int) < 40 by omega)
     have wa9 := wrap_u64 (n := now + pass % 9) (by omega) (by unfold maxT; omega)
     have hnw0 : 0 ≤ now + pass % 9 := by omega
     have hnw1 : now + pass % 9 ≤ 8 * (i + 1) := by omega
     have HNW := Lib.hid (show 0 ≤ now + pass % 9 ∧ now + pass % 9 ≤ maxT from ⟨hnw0, by unfold maxT; omega⟩)
     have HNX := Lib.hid (show 0 ≤ now + pass % 9 + pass % 40 ∧ now + pass % 9 + pass % 40 ≤ maxT from ⟨by omega, by unfold maxT; omega⟩)
     have wa40 := wrap_u64 (n := now + pass % 9 + pass % 40) HNX.out.1 HNX.out.2
     generalize pass % 9 = p9 at *
     generalize pass % 40 = p40 at *
     clear hop hrd hx hd
     go_wp2_with fail
     generalize now + p9 = nw at *
     refine wp_region_held (S := Touch (bfoot hI bI hR bR) wr.drew) (by kernel_rfl) ?_
     change wpAnyH _ _ _ _ _ _ _ _ wr.drew
     have tD := (Touch.refl [] wr).drew
     have HBX := Lib.hid (HB.out.touch0 tD)
     have HTX := Lib.hid (HTR.out.trans tD (by simp))
     have HZX := Lib.hid (Nat.le_trans HZR.out tD.size)
     have HGX0 := Lib.hid (tD.at HGR.out (by simp))
     have HGX1 := Lib.hid (range_block HGX0.out)
     have HOX := Lib.hid (tD.range HOP.out (by simp))
     have HRX := Lib.hid (Rd.touch tD HRD.out (by simp))
     have HGS := Lib.hid (show g11 < wr.drew.heap.size from (Array.getElem?_eq_some_iff.1 HGX0.out).1)
     have HBN := Lib.hid (show b ∉ bfoot hI bI hR bR from fun hm => by have h1 := (HB.out.lt _ hm).1; have h2 := HLO.out; have h3 := HT2.out.size; omega)
     generalize wr.drew = X at *
     clear tD
     have hS := Touch.refl (bfoot hI bI hR bR) X
     refine tkH 0 (.agg [.pointer (some ⟨hI, 0, none⟩), .pointer (some ⟨hR, 0, none⟩)].toArray) ?_ (hy := Or.inl ⟨by rfl, fun w' hw => exec_load_agg _ 34 _ rfl _ _ rfl [.pointer (some ⟨hI, 0, none⟩), .pointer (some ⟨hR, 0, none⟩)] _ (hw.range HGX1.out HGB.out) Tryz.underlying34 rfl sizeTwo⟩)
     refine tkH 1 (.slice (some ⟨b, o, none⟩) nl cl) ?_
     refine tkH 2 (.int .i64 i) ?_
     refine tkH 3 (.pointer (some ⟨b, o + i * 7, none⟩)) ?_ (hy := Or.inl ⟨by rfl, fun w' hw => by (have q0 := hlt2; have q1 := hlt; go_simp)⟩)
     refine tkH 4 (.agg [.int .i64 kd, .bool f, v, .int .i64 wy, .int .i64 tr, .int .u64 draw, .int .u64 pass].toArray) ?_ (hy := Or.inl ⟨by rfl, fun w' hw => exec_load_agg _ 37 _ rfl _ _ rfl [.int .i64 kd, .bool f, v, .int .i64 wy, .int .i64 tr, .int .u64 draw, .int .u64 pass] _ (hw.range HOX.out HBN.out) Tryz.underlying37 rfl sizeOp⟩)
     refine tkH 5 (.int .u64 nw) ?_
     refine wpAnyH_ready (rs := [6]) (by kernel_rfl) (by simp) ?_
     refine cnH rfl (fun K hK => ?_) AllReadyH.nil
     go_simp
     refine (apply_any w2 hI bI hR bR s s i X HBX.out HZX.out (by omega) nw HNW.out kd f v bl xs HRX.out HXS.out wy tr draw pass HDR.out).mono ?_
     rintro e u6 ⟨r, rfl, bI', bR', s', t', B', st', a', c', e'⟩
     obtain ⟨rfl, rfl⟩ := e' rfl
     have hS2 := hS.trans st'.t (fun g hg => .inl hg)
     have HBY := Lib.hid B'
     have HSY := Lib.hid st'
     refine hK.out _ _ hS2 (fun _ => ?_)
     clear hK K hS B' st' a' c'
     have hS := hS2
     clear hS2
     have tQ := Touch.refl [] u6
     try simp only [Act.put, sT, s0, sS]
     refine tkH 7 (.bool false) ?_
     refine tkH 8 (.bool false) ?_
     refine tkH 9 (.agg [.pointer (some ⟨hI, 0, none⟩), .pointer (some ⟨hR, 0, none⟩)].toArray) ?_ (hy := Or.inl ⟨by rfl, fun w' hw => exec_load_agg _ 34 _ rfl _ _ rfl [.pointer (some ⟨hI, 0, none⟩), .pointer (some ⟨hR, 0, none⟩)] _ (hw.range HGX1.out HGB.out) Tryz.underlying34 rfl sizeTwo⟩)
     refine tkH 10 (.int .u64 nw) ?_
     refine wpAnyH_ready (rs := [11]) (by kernel_rfl) (by simp) ?_
     refine cnH rfl (fun K hK => ?_) AllReadyH.nil
     go_simp
     refine (same_any w2 hI bI' hR bR' s' (i + 1) _ (HBY.out.touch0 tQ) nw HNW.out).mono ?_
     rintro e u11 ⟨rfl, t11⟩
     have hS2 := hS.trans t11 (by simp)
     have tQ2 := tQ.trans t11 (by simp)
     refine hK.out _ _ hS2 (fun _ => ?_)
     clear hK K hS tQ t11
     have hS := hS2
     have tQ := tQ2
     clear hS2 tQ2
     try simp only [Act.put, sT, s0, sS]
     refine tkH 12 (.bool false) ?_
     refine tkH 13 (.bool false) ?_
     refine tkH 14 (.bool false) ?_
     refine tkH 15 (.agg [.pointer (some ⟨hI, 0, none⟩), .pointer (some ⟨hR, 0, none⟩)].toArray) ?_ (hy := Or.inl ⟨by rfl, fun w' hw => exec_load_agg _ 34 _ rfl _ _ rfl [.pointer (some ⟨hI, 0, none⟩), .pointer (some ⟨hR, 0, none⟩)] _ (hw.range HGX1.out HGB.out) Tryz.underlying34 rfl sizeTwo⟩)
     refine tkH 16 (.int .u64 nw) ?_
     refine tkH 17 (.slice (some ⟨b, o, none⟩) nl cl) ?_
     refine tkH 18 (.int .i64 i) ?_
     refine tkH 19 (.pointer (some ⟨b, o + i * 7, none⟩)) ?_ (hy := Or.inl ⟨by rfl, fun w' hw => by (have q0 := hlt2; have q1 := hlt; go_simp)⟩)
     refine tkH 20 (.pointer (some ⟨b, o + i * 7 + 6, none⟩)) ?_
     refine tkH 21 (.int .u64 pass) ?_ (hy := Or.inl ⟨by rfl, fun w' hw => by (have q := hw.cell (HOX.out 6 _ rfl) HBN.out; go_simp)⟩)
     refine tkH 22 (.int .u64 p40) ?_ (hy := Or.inl ⟨by rfl, fun w' hw => by (have q0 := tm40; go_simp)⟩)
     refine tkH 23 (.int .u64 (nw + p40)) ?_ (hy := Or.inl ⟨by rfl, fun w' hw => by (have q0 := wa40; go_simp)⟩)
     refine wpAnyH_ready (rs := [24]) (by kernel_rfl) (by simp) ?_
     refine cnH rfl (fun K hK => ?_) AllReadyH.nil
     go_simp
     refine (same_any w2 hI bI' hR bR' s' (i + 1) _ (HBY.out.touch0 tQ) (nw + p40) HNX.out).mono ?_
     rintro e u24 ⟨rfl, t24⟩
     have hS2 := hS.trans t24 (by simp)
     have tQ2 := tQ.trans t24 (by simp)
     refine hK.out _ _ hS2 (fun _ => ?_)
     clear hK K hS tQ t24
     have hS := hS2
     have tQ := tQ2
     clear hS2 tQ2
     try simp only [Act.put, sT, s0, sS]
     refine tkH 25 (.bool false) ?_
     refine tkH 26 (.bool false) ?_
     refine wpAnyH_done (by kernel_rfl) ?_ _
     try simp only [Act.put, sT, s0, sS]
     have HBZ := Lib.hid (HBY.out.touch0 tQ)
     have HGZ := Lib.hid (hS.at HGX0.out HGB.out)
     have HGZF := Lib.hid (HSY.out.away HGB.out HGS.out)
     have HTZ := Lib.hid (HTX.out.trans hS (fun g hg => .inr (by have h1 := (HBX.out.lt g hg).1; have h2 := HT2.out.size; omega)))
     have HZZ := Lib.hid (Nat.le_trans HZX.out hS.size)
     clear hS tQ
     go_wp2_with fail
     go_roundw
     case rel => exact ⟨i + 1, s', bI', bR', nw, by omega, by omega, by go_num, rfl, by omega, by omega, HBZ.out, HGZ.out, HGZF.out, HTZ.out, HZZ.out⟩
     case measure => simp [intOf]; omega
    ·go_wp2_with fail
     refine (awake29_ok wr).mono ?_
     rintro e w9 ⟨rfl, t9⟩
     have HT9 := Lib.hid (HTR.out.trans t9 (by simp))
     clear t9
     go_wp2_with fail
     go_ret
     exact ⟨rfl, HT9.out⟩
   ·go_wp2_with fail
    refine (awake29_ok wr).mono ?_
    rintro e w9 ⟨rfl, t9⟩
    have HT9 := Lib.hid (HTR.out.trans t9 (by simp))
    clear t9
    go_wp2_with fail
    go_ret
    exact ⟨rfl, HT9.out⟩
theorem walk {H : Type} {enc : TypeId × Value → H} {w : World} (cs : Array Value) (hs : CellsOk enc Tryz.prog w 0 (fun _ => true) true [22, 22, 22, 3, 3] cs.toList) (u : Value) (hu : IsSlice enc Tryz.prog w 0 (fun _ => true) true [4, 5, 5, 5, 5, 5, 5, 5, 5, 5, 5, 5, 5, 5, 5, 5, 5] u) (v : Value) (hv : IsSlice enc Tryz.prog w 0 (fun _ => true) true [3, 4, 35, 3, 3, 22, 22] v) :
  Calls Tryz.prog 4 #[.agg cs, u, v] w fun e w' => e = .returned (.bool true) ∧ Below w.heap.size w w' := by
 obtain ⟨c, rfl, hok⟩ := cfg_of hs
 obtain ⟨b2, xs, hr, hx⟩ := slice_rows (by simp) hu
 obtain ⟨a, cap, rfl, hlc, hcm⟩ := hr.form
 obtain ⟨al, nl, cl, rfl, hl, hm, ho⟩ := ops_of hv
 unfold maxLen at hm hcm
 exact (walk0 c hok a xs.length cap b2 xs w hr (fun x h => isAd_cells (hx x h)) rfl (by omega) al nl cl ho (by omega)).mono fun e w' ⟨h1, h2⟩ => ⟨h1, h2.below (by simp) (Nat.le_refl _)⟩
end Go.Proofs.YtiklhaajhdephaaGreatDoor.dialerMatchesModel

/-
 The statement 'DialerMatchesModelSaid' of the seat: the frame of the row round the walk of the law's Go function (YtiklhaajhdephaaGreatDoorW13): for every input the call returns true and each argument reads as it did.
-/
namespace Go.Proofs.YtiklhaajhdephaaGreatDoor.dialerMatchesModel
open Go.ChangeShapes Go.WideShapes Go.Deep Go.ChangeAt Go.RowKit
open Go.ChangeMaps (open_string shut_string)
set_option linter.unusedVariables false

theorem own : ownKnob Tryz.prog.godebug = none := by kernel_rfl
theorem laidOut : laidOutB Tryz.prog = true := by kernel_rfl

set_option maxRecDepth 100000 in
theorem lifted (os : Os) (started : os.Started) (H : Type) (enc : TypeId × Value → H) :
  ReturnsInHanded {} Tryz.checked os 4 .any (fun w args => (Rows.dialerMatchesModelSpec.pre enc Tryz.prog Tryz.f4 Rows.dialerMatchesModelRow.domain false w args ∧ laidMetH Tryz.prog Rows.dialerMatchesModelRow.laid w) ∧ sizedMet enc Tryz.prog Tryz.f4 (OpenSpec.ofChange Rows.dialerMatchesModelSpec) false w args)
   (Rows.dialerMatchesModelSpec.post enc Tryz.prog Tryz.f4 false true false false) := by
 refine returnsInHanded_of_change_and (C := Tryz.checked) (X := fun w _ => laidMetH Tryz.prog Rows.dialerMatchesModelRow.laid w) (fun _ _ _ hh h => h.of_heap hh) own started (by kernel_rfl) Tryz.func4
  (ChangeSpec.witness_shaped (enc := enc) (C := Tryz.checked) (os := os) (X := fun w _ => laidMetH Tryz.prog Rows.dialerMatchesModelRow.laid w) false (World.laidAll Tryz.prog os Rows.dialerMatchesModelRow.laid) #[.agg #[.int .u64 0, .int .u64 0, .int .u64 0, .int .i64 0, .int .i64 0], .slice none 0 0, .slice none 0 0] 8 (World.laidAll_os _ _ _)
   (World.shaped_of_ZipB (by kernel_rfl) (by kernel_rfl)) (by kernel_rfl) (by kernel_rfl) (by kernel_rfl)
   (by rw [MakeChecks.laidMetH_plain _ _ _ (by kernel_rfl)]; exact laidMet_laidAll _ (by kernel_rfl) (by kernel_rfl))) ?_
 intro W base args ds gs before hval0 hW hcnd hsz0 hL _
 have hval : ∀ (j : Nat) t v, Tryz.f4.params[j]? = some t → args[j]? = some v → Value.okWide Tryz.prog W .any base t v := hval0
 have hW' := hW
 obtain ⟨p, q, hA0, hV, rfl, hfz, hnd⟩ := hW
 have hA : DataW.TrodAll enc Tryz.prog W 0 (fun _ => true) true Tryz.f4.params.toList args.toList ds p := hA0
 rw [Tryz.params4] at hA hval
 obtain ⟨v0, vs0, d0, ds0, p0, q0, hargs, rfl, rfl, h0, r0⟩ := trodAll_cons hA
 obtain ⟨v1, vs1, d1, ds1, p1, q1, rfl, rfl, rfl, h1, r1⟩ := trodAll_cons r0
 obtain ⟨v2, vs2, d2, ds2, p2, q2, rfl, rfl, rfl, h2, r2⟩ := trodAll_cons r1
 obtain ⟨rfl, rfl, rfl⟩ := trodAll_nil r2
 obtain rfl : args = #[v0, v1, v2] := by cases args; simp_all
 obtain ⟨rfl, rfl⟩ := trodVars_none hV
 have k0 := h0
 have lt0 : ∀ x ∈ p0, x.block < W.heap.size := by obtain ⟨m, hm⟩ := k0; exact DataW.trod_lt m _ _ _ hm
 have k1 := h1
 have lt1 : ∀ x ∈ p1, x.block < W.heap.size := by obtain ⟨m, hm⟩ := k1; exact DataW.trod_lt m _ _ _ hm
 have k2 := h2
 have lt2 : ∀ x ∈ p2, x.block < W.heap.size := by obtain ⟨m, hm⟩ := k2; exact DataW.trod_lt m _ _ _ hm
 obtain ⟨c0, rfl⟩ := okWide_struct Tryz.underlying24 (hval 0 24 v0 rfl rfl)
 have s0 : CellsOk enc Tryz.prog W 0 (fun _ => true) true [22, 22, 22, 3, 3] c0.toList := by
  obtain ⟨fuel, hf⟩ := h0
  exact agg_ok (d := 8) (by kernel_rfl) (by simpa [Value.cells] using hf)
 obtain ⟨b1, len1, cap1, hv1⟩ := okWide_slice Tryz.underlying35 (hval 1 35 v1 rfl rfl)
 have s1 : IsSlice enc Tryz.prog W 0 (fun _ => true) true [4, 5, 5, 5, 5, 5, 5, 5, 5, 5, 5, 5, 5, 5, 5, 5, 5] v1 := by
  obtain ⟨fuel, hf⟩ := h1
  rw [hv1] at hf ⊢
  exact slice_ok (d := 8) Tryz.underlying35 (by kernel_rfl) (by kernel_rfl) (by simpa [Value.cells] using hf)
 obtain ⟨b2, len2, cap2, hv2⟩ := okWide_slice Tryz.underlying25 (hval 2 25 v2 rfl rfl)
 have s2 : IsSlice enc Tryz.prog W 0 (fun _ => true) true [3, 4, 35, 3, 3, 22, 22] v2 := by
  obtain ⟨fuel, hf⟩ := h2
  rw [hv2] at hf ⊢
  exact slice_ok (d := 8) Tryz.underlying25 (by kernel_rfl) (by kernel_rfl) (by simpa [Value.cells] using hf)
 clear hA0 hval0
 refine (walk (H := H) (enc := enc) (w := W) c0 s0 v1 s1 v2 s2).mono fun e W' ⟨he, bel⟩ => ?_
 subst he
 exact ⟨_, rfl, _, _, _, [], _, [], hW', trodAll_mk1 (shut_bool Tryz.underlying4 _), (trodAll_cons_mk (Below.trod laidOut (by kernel_rfl) (of_decide_eq_true (by kernel_rfl)) k0 bel lt0) (trodAll_cons_mk (Below.trod laidOut (by kernel_rfl) (of_decide_eq_true (by kernel_rfl)) k1 bel lt1) (trodAll_cons_mk (Below.trod laidOut (by kernel_rfl) (of_decide_eq_true (by kernel_rfl)) k2 bel lt2) trodAll_mk0))), rfl, bel.frame _, fun h => by cases h⟩

theorem over : Rows.dialerMatchesModelRow.holds Tryz.pinned (OpenSpec.ofChange Rows.dialerMatchesModelSpec) :=
 OpenClaim.holds_of_wide 4 Tryz.f4 rfl rfl rfl rfl rfl rfl rfl ⟨rfl, rfl, rfl, rfl, rfl⟩ rfl rfl rfl rfl rfl (by kernel_rfl) Tryz.func4 (by kernel_rfl)
  (of_decide_eq_true (by kernel_rfl)) (by unfold Func.isWrapper; first | (rw [if_pos (by decide +kernel)]; kernel_rfl) | (rw [if_neg (by decide +kernel)]; exact ⟨rfl, rfl⟩))
  (fun os started H enc _ => lifted os started H enc)

theorem proved : Rows.DialerMatchesModelCardSaid :=
 Claim7.holds_tied_plain_at .later [] [.data, .pinned] true (true, "9d63c86be96879783bc57c7648363f50903f451c38cf0ff1179b8df42fc8e596") false over (fun _ h => by cases h) (by kernel_rfl) (fun _ h => by cases h) dialerMatchesModel_row_tie rfl ⟨rfl, rfl⟩ (by kernel_rfl) rfl
  (fun f fn hf hfn => by
   obtain rfl : f = 4 := Option.some.inj ((show Tryz.prog.funcNamed "ginnel/ginnellaw29.DialerMatchesModel" = some 4 by kernel_rfl).symm.trans hf) |>.symm
   obtain rfl : fn = Tryz.f4 := (Option.some.inj (Tryz.func4.symm.trans hfn)).symm
   exact ⟨by kernel_rfl, fun j t ht => by
    rw [Tryz.params4] at ht
    have hm : t ∈ [24, 35, 25] := by simpa using Array.mem_of_getElem? ht
    have hall : ([24, 35, 25].all fun u => !Tryz.prog.wantsStandIn u) = true := by kernel_rfl
    exact (show Tryz.prog.wantsStandIn t = false by simpa using List.all_eq_true.1 hall t hm)⟩)
  (by kernel_rfl)
#print axioms proved
end Go.Proofs.YtiklhaajhdephaaGreatDoor.dialerMatchesModel

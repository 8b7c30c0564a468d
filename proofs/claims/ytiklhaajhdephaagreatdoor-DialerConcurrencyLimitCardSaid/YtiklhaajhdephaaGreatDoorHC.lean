/-
  Merged texts: Dn, Dx, Dy.
-/
import Derived.Test.YtiklhaajhdephaaGreatDoorHB

/-
 The contracts of dialer.New.
-/
namespace Go.Proofs.YtiklhaajhdephaaGreatDoor
open Go.RowKit
set_option linter.unusedVariables false
set_option linter.unusedSimpArgs false

/-- Are all addresses valid? -/
def allV (l : List Ad) : Bool := l.all Ad.valid
theorem allV_take {l : List Ad} (h : allV l = true) {i : Nat} {x : Ad} (hx : l[i]? = some x) : x.valid = true := by
 unfold allV at h
 rw [List.all_eq_true] at h
 exact h x (List.mem_of_getElem? hx)
def initS (c : Cfg) (l : List Ad) : DS := ⟨c, decide (0 < l.length), initP c.rd, addL [] l, [], 0, [], [], []⟩
theorem Dl.fresh {w0 w : World} {h hq hc hm : Nat} {c : Cfg} {lit : Bool}
  (cell : w.heap[h]? = some (.cells #[.int .u64 c.rd, .int .u64 c.ad, .int .u64 c.jit, .int .i64 c.ff, .int .i64 c.mc, .bool lit, .pointer (some ⟨hq, 0, none⟩), .pointer (some ⟨hc, 0, none⟩), .int .u64 0, .slice none 0 0, .map (some hm), .slice none 0 0] 64 (0, 0)))
  (new : w0.heap.size ≤ h) (p : Pr w0 w hq (.slice none 0 0) (.slice none 0 0) (initP c.rd)) (q : Qu w0 w hc (.slice none 0 0) (.slice none 0 0) c.ff [] []) (m : Mp encZ okZ w hm ([] : List (Int × Value))) (mn : w0.heap.size ≤ hm)
  (h1 : h ≠ hq) (h2 : h ≠ hc) (h3 : h ≠ hm) (h4 : hq ≠ hc) (h5 : hq ≠ hm) (h6 : hc ≠ hm) :
  Dl w0 w h ⟨hq, hc, hm, .slice none 0 0, .slice none 0 0, .slice none 0 0, .slice none 0 0, .slice none 0 0, .slice none 0 0⟩ ⟨c, lit, initP c.rd, [], [], 0, [], [], []⟩ := by
 refine ⟨cell, new, p, q, m, mn, Own.nil _ _, OwnK.nil _ _, ?_⟩
 have key : ∀ i g, g ∈ dpart h ⟨hq, hc, hm, .slice none 0 0, .slice none 0 0, .slice none 0 0, .slice none 0 0, .slice none 0 0, .slice none 0 0⟩ i → (i = 0 ∧ g = h) ∨ (i = 1 ∧ g = hq) ∨ (i = 2 ∧ g = hc) ∨ (i = 3 ∧ g = hm) := by
  intro i g hg
  match i, hg with
  | 0, hg => simp [dpart] at hg; omega
  | 1, hg => simp [dpart, pfoot, Value.ownBlock] at hg; omega
  | 2, hg => simp [dpart, qfoot, Value.ownBlock] at hg; omega
  | 3, hg => simp [dpart] at hg; omega
  | 4, hg => simp [dpart, Value.ownBlock] at hg
  | 5, hg => simp [dpart, Value.ownBlock] at hg
  | _ + 6, hg => simp [dpart] at hg
 intro i j hij g hg hm2
 have a := key i g hg
 have b := key j g hm2
 omega
theorem Pr.older {w0 w1 w : World} {h : Nat} {v4 v6 : Value} {s : PS} (q : Pr w1 w h v4 v6 s) (hz : w0.heap.size ≤ w1.heap.size) : Pr w0 w h v4 v6 s :=
 ⟨q.cell, Nat.le_trans hz q.new, Own.older q.o4 hz, Own.older q.o6 hz, q.h4, q.h6, q.h46, q.n4, q.n6, q.d, q.e4, q.e6⟩
set_option maxRecDepth 100000 in
set_option maxHeartbeats 1000000 in
theorem dnew_cfg (c : Cfg) (w : World) (v : Value) (hc : c.valid = false) :
  Calls Tryz.prog 7 #[.agg c.cells.toArray, v] w fun e w' => e = .returned (.tuple #[.pointer none, .int .i64 1]) ∧ Touch [] w w' := by
 have HT := Lib.hid ((Touch.refl [] w).alloc (.cells c.cells.toArray 24))
 have hrow := range_new w c.cells 24
 have HV := Lib.hid (vcfg_any c (w.alloc (.cells c.cells.toArray 24)))
 rw [hc] at HV
 have HCL := Lib.hid c.len
 clear hc
 go_enter Tryz.func7, Tryz.ntmps7
 go_wp2_with ((with_reducible refine at_load 24 ?_); refine wpList_load_mid rfl 24 _ rfl w.heap.size 0 rfl c.cells _ hrow Tryz.underlying24 rfl (by rw [sizeCf, HCL.out]) ?_)
 refine HV.out.mono ?_
 rintro e w1 ⟨rfl, t1⟩
 have HT1 := Lib.hid (HT.out.trans t1 (by simp))
 clear t1 hrow
 go_wp2_with fail
 go_ret2
 exact ⟨rfl, HT1.out⟩
set_option maxRecDepth 100000 in
set_option maxHeartbeats 8000000 in
theorem dnew_ok (c : Cfg) (w : World) (v : Value) (bl : Nat) (l : List Ad) (hv : Rd w 17 bl v (l.map Ad.cells)) (hc : c.valid = true) (hl : allV l = true) (hlb : bl < w.heap.size ∨ l = []) (hl2 : l.length * 17 ≤ 140737488351232) :
  Calls Tryz.prog 7 #[.agg c.cells.toArray, v] w fun e w' => ∃ h b, e = .returned (.tuple #[.pointer (some ⟨h, 0, none⟩), .int .i64 0]) ∧ Dl w w' h b (initS c l) ∧ Touch [] w w' := by
 have HT := Lib.hid ((Touch.refl [] w).alloc (.cells c.cells.toArray 24))
 have hrow := range_new w c.cells 24
 have HVC := Lib.hid (vcfg_any c (w.alloc (.cells c.cells.toArray 24)))
 rw [hc] at HVC
 have HCL := Lib.hid c.len
 obtain ⟨a, cap, rfl, hlc, hcm⟩ := hv.form
 have HV := Lib.hid hv
 simp only [List.length_map] at *
 obtain ⟨n, hn⟩ : ∃ n, n = l.length := ⟨_, rfl⟩
 have HN := Lib.hid hn
 have hnm : n ≤ 9223372036854775807 := by unfold maxLen at hcm; omega
 rw [← hn]
 clear hlc hcm
 have HAL := Lib.hid hl
 have HLB := Lib.hid hlb
 have HCV := Lib.hid (c.valid_iff hc)
 have HIS := Lib.hid (show initS c l = ⟨c, decide (0 < n), initP c.rd, addL [] l, [], 0, [], [], []⟩ by rw [hn]; rfl)
 rw [HIS.out]
 rw [← hn] at HV hl2
 clear hc hl hv hn hlb
 go_enter Tryz.func7, Tryz.ntmps7
 go_wp2_with ((with_reducible refine at_load 24 ?_); refine wpList_load_mid rfl 24 _ rfl w.heap.size 0 rfl c.cells _ hrow Tryz.underlying24 rfl (by rw [sizeCf, HCL.out]) ?_)
 refine HVC.out.mono ?_
 rintro e w1 ⟨rfl, t1⟩
 have HT1 := Lib.hid (HT.out.trans t1 (by simp))
 have HRW1 := Lib.hid (t1.range hrow (by simp))
 clear t1 hrow
 go_wp2_with fail
 go_loopw [14] (fun vi wr => ∃ i : Nat, i ≤ n ∧ vi = .int .i64 i ∧ Touch [] w wr ∧ wr.rangeAt w.heap.size 0 c.cells) (fun vi _ => n - (intOf vi).toNat)
 case atStart => exact ⟨0, by omega, rfl, HT1.out, HRW1.out⟩
 case round =>
  obtain ⟨i, hik, rfl, ht, hrw⟩ := hrel
  have HTR := Lib.hid ht
  have HRW := Lib.hid hrw
  clear hrw
  by_cases hin : i < n
  ·obtain ⟨x, hx⟩ : ∃ x, l[i]? = some x := ⟨_, List.getElem?_eq_getElem (by rw [← HN.out]; omega)⟩
   obtain ⟨o1, ha1, hat1⟩ := HV.out.at (by intro e; rw [List.map_eq_nil_iff] at e; rw [e] at hx; simp at hx)
   subst ha1
   have r1 := ht.range (hat1 i x.cells (by simp [hx])) (by simp)
   have HLX := Lib.hid x.len
   have HX := Lib.hid hx
   have hin2 : (i : Int) < (n : Int) := by omega
   have HN0 := Lib.hid (heap_alloc_new wr (.cells (adr false (List.replicate 16 0)).toArray 40))
   have HNT := Lib.hid ((Touch.refl [] wr).alloc (.cells (adr false (List.replicate 16 0)).toArray 40))
   clear hx hat1 ht
   go_wp2_with (first
    | ((with_reducible refine at_load 40 ?_); refine wpList_load_mid rfl 40 _ rfl bl (o1 + i * 17) rfl x.cells _ r1 Tryz.underlying40 rfl (by rw [size31, HLX.out]) ?_)
    | ((with_reducible refine at_store 40 ?_); refine wpList_store_into rfl 40 _ _ rfl wr.heap.size 40 _ x.cells rfl rfl HN0.out (by rw [HLX.out]; rfl) (by rw [size31, HLX.out]) x.one ?_))
   intro B hB tB zB
   have tB' := HNT.out.trans tB (by intro y hy; right; simp at hy; omega)
   have HTB := Lib.hid (HTR.out.trans tB' (by simp))
   have rB := range_block hB
   generalize wr.heap.size = gB at *
   clear hB tB zB HN0 HNT r1
   have HVL := Lib.hid (validA x true (allV_take HAL.out HX.out))
   have hwi : IntKind.i64.wrap ((i : Int) + 1) = (i : Int) + 1 := by rw [IntKind.wrap_i64] <;> omega
   have HRB := Lib.hid (tB'.range HRW.out (by simp))
   clear tB'
   go_wp2_with ((with_reducible refine at_load 40 ?_); refine wpList_load_mid rfl 40 _ rfl gB 0 rfl x.cells _ rB Tryz.underlying40 rfl (by rw [size31, HLX.out]) ?_)
   refine (HVL.out B).mono ?_
   rintro e w3 ⟨rfl, t3⟩
   have HT3 := Lib.hid (HTB.out.trans t3 (by simp))
   have HR3 := Lib.hid (t3.range HRB.out (by simp))
   clear t3 rB
   go_wp2_with fail
   go_roundw
   case rel => exact ⟨i + 1, by omega, by go_num, HT3.out, HR3.out⟩
   case measure => simp [intOf]; omega
  ·clear ht
   have hin2 : (n : Int) ≤ (i : Int) := by omega
   go_wp2_with fail
   have hmm := @run_makeMap Tryz.prog
   refine wp_region_held (S := Touch [] wr.drew) (by kernel_rfl) ?_
   change wpAnyH _ _ _ _ _ _ _ _ wr.drew
   have HRX := Lib.hid (((Touch.refl [] wr).drew).range HRW.out (by simp))
   have HTX := Lib.hid (HTR.out.drew)
   generalize wr.drew = X at *
   have zX : w.heap.size ≤ X.heap.size := HTX.out.size
   have hS := Touch.refl [] X
   refine tkH 0 (.agg c.cells.toArray) ?_ (hy := Or.inl ⟨by rfl, fun w' hw => exec_load_agg _ 24 _ rfl _ _ rfl c.cells _ (hw.range HRX.out (by simp)) Tryz.underlying24 rfl (by rw [sizeCf, HCL.out])⟩)
   refine tkH 1 (.slice a n cap) ?_
   refine tkH 2 (.int .i64 (n : Nat)) ?_
   refine tkH 3 (.bool (decide (0 < n))) ?_
   refine tkH 4 (.pointer (some ⟨w.heap.size, 0, none⟩)) ?_
   refine tkH 5 (.int .u64 c.rd) ?_ (hy := Or.inl ⟨by rfl, fun w' hw => by (have q := (hw.range HRX.out (by simp) 0 _ rfl); go_simp)⟩)
   refine tkH 7 (.pointer (some ⟨w.heap.size, 3, none⟩)) ?_
   refine tkH 8 (.int .i64 c.ff) ?_ (hy := Or.inl ⟨by rfl, fun w' hw => by (have q := (hw.range HRX.out (by simp) 3 _ rfl); go_simp)⟩)
   refine wpAnyH_ready (rs := [6, 10]) (by kernel_rfl) (by simp) ?_
   refine cnH rfl (fun K hK => ?_) (cnH rfl (fun K hK => ?_) AllReadyH.nil)
   ·go_simp
    refine (pnew_any c.rd _ (by have := HCV.out.1; unfold maxT; omega)).mono ?_
    rintro e w6 ⟨rfl, p6, t6⟩
    have p6 := p6.older (w0 := w) (by omega)
    obtain ⟨g6, hg6⟩ : ∃ g, g = X.heap.size := ⟨_, rfl⟩
    rw [← hg6] at p6 ⊢
    have b6 : g6 < w6.heap.size := (Array.getElem?_eq_some_iff.1 p6.cell).1
    have a6 : X.heap.size ≤ g6 := by omega
    clear hg6
    have hS2 := hS.trans t6 (by simp)
    have z6 := t6.size
    clear t6
    refine hK.out _ _ hS2 (fun _ => ?_)
    clear hK K hS
    have hS := hS2
    clear hS2
    try simp only [Act.put, sT, s0, sS]
    refine wpAnyH_ready (rs := [9, 10]) (by kernel_rfl) (by simp) ?_
    refine cnH rfl (fun K hK => ?_) (cnH rfl (fun K hK => ?_) AllReadyH.nil)
    ·go_simp
     refine (qnew_any c.ff _).mono ?_
     rintro e w9 ⟨rfl, q9, t9⟩
     have q9 := q9.older (w0 := w) (by omega)
     obtain ⟨g9, hg9⟩ : ∃ g, g = w6.heap.size := ⟨_, rfl⟩
     rw [← hg9] at q9 ⊢
     have b9 : g9 < w9.heap.size := (Array.getElem?_eq_some_iff.1 q9.cell).1
     have a9 : w6.heap.size ≤ g9 := by omega
     clear hg9
     have p6 := p6.touch t9 (by simp)
     have hS2 := hS.trans t9 (by simp)
     have z9 := t9.size
     clear t9
     refine hK.out _ _ hS2 (fun _ => ?_)
     clear hK K hS
     have hS := hS2
     clear hS2
     try simp only [Act.put, sT, s0, sS]
     refine wpAnyH_ready (rs := [10]) (by kernel_rfl) (by simp) ?_
     refine cnH rfl (fun K hK => ?_) AllReadyH.nil
     go_simp
     obtain ⟨w10, hw10⟩ : ∃ x, x = w9.alloc (.map #[] 0) := ⟨_, rfl⟩
     have m10 : Mp encZ okZ w10 w9.heap.size ([] : List (Int × Value)) := by rw [hw10]; exact Mp.made w9
     have t10 : Touch [] w9 w10 := by rw [hw10]; exact (Touch.refl [] w9).alloc _
     obtain ⟨g10, hg10⟩ : ∃ g, g = w9.heap.size := ⟨_, rfl⟩
     rw [← hg10] at m10 ⊢
     rw [← hw10]
     clear hw10
     have b10 : g10 < w10.heap.size := m10.lt
     have a10 : w9.heap.size ≤ g10 := by omega
     clear hg10
     have p6 := p6.touch t10 (by simp)
     have q9 := q9.touch t10 (by simp)
     have hS2 := hS.trans t10 (by simp)
     have z10 := t10.size
     clear t10
     refine hK.out _ _ hS2 (fun _ => ?_)
     clear hK K hS
     have hS := hS2
     clear hS2
     try simp only [Act.put, sT, s0, sS]
     refine tkH 11 (.agg #[.int .u64 c.rd, .int .u64 c.ad, .int .u64 c.jit, .int .i64 c.ff, .int .i64 c.mc, .bool (decide (0 < n)), .pointer (some ⟨g6, 0, none⟩), .pointer (some ⟨g9, 0, none⟩), .int .u64 0, .slice none 0 0, .map (some g10), .slice none 0 0]) ?_ (hy := Or.inl ⟨by rfl, fun w' hw => exec_builtD _ 64 _ rfl [(0, .agg c.cells.toArray), (1, .bool (decide (0 < n))), (2, .pointer (some ⟨g6, 0, none⟩)), (3, .pointer (some ⟨g9, 0, none⟩)), (6, .map (some g10))] _ rfl (by kernel_rfl)⟩)
     refine wpAnyH_ready (rs := [12]) (by kernel_rfl) (by simp) ?_
     refine cnH rfl (fun K hK => ?_) AllReadyH.nil
     go_simp
     obtain ⟨w12, hw12⟩ : ∃ x, x = w10.alloc (.cells #[.int .u64 c.rd, .int .u64 c.ad, .int .u64 c.jit, .int .i64 c.ff, .int .i64 c.mc, .bool (decide (0 < n)), .pointer (some ⟨g6, 0, none⟩), .pointer (some ⟨g9, 0, none⟩), .int .u64 0, .slice none 0 0, .map (some g10), .slice none 0 0] 64) := ⟨_, rfl⟩
     have d12 : w12.heap[w10.heap.size]? = some (.cells #[.int .u64 c.rd, .int .u64 c.ad, .int .u64 c.jit, .int .i64 c.ff, .int .i64 c.mc, .bool (decide (0 < n)), .pointer (some ⟨g6, 0, none⟩), .pointer (some ⟨g9, 0, none⟩), .int .u64 0, .slice none 0 0, .map (some g10), .slice none 0 0] 64 (0, 0)) := by rw [hw12]; exact heap_alloc_new w10 _
     have t12 : Touch [] w10 w12 := by rw [hw12]; exact (Touch.refl [] w10).alloc _
     obtain ⟨g12, hg12⟩ : ∃ g, g = w10.heap.size := ⟨_, rfl⟩
     rw [← hg12] at d12 ⊢
     rw [← hw12]
     clear hw12
     have a12 : w10.heap.size ≤ g12 := by omega
     clear hg12
     have p6 := p6.touch t12 (by simp)
     have q9 := q9.touch t12 (by simp)
     have m10 := m10.touch t12 (by simp)
     have HDZ := Lib.hid (Dl.fresh d12 (by omega) p6 q9 m10 (by omega) (by omega) (by omega) (by omega) (by omega) (by omega) (by omega))
     have hS2 := hS.trans t12 (by simp)
     have z12 := t12.size
     clear t12
     have HTZ := Lib.hid (HTX.out.trans hS2 (by simp))
     refine hK.out _ _ hS2 (fun _ => ?_)
     clear hK K hS
     have hS := hS2
     clear hS2
     try simp only [Act.put, sT, s0, sS]
     refine tkH 13 (.pointer (some ⟨g12, 0, none⟩)) ?_
     refine wpAnyH_done (by kernel_rfl) ?_ _
     try simp only [Act.put, sT, s0, sS]
     have HAD := Lib.hid (qadd_any w w12 g9 (.slice none 0 0) (.slice none 0 0) c.ff [] [] HDZ.out.qu HTZ.out.size (.slice a n cap) bl l (HV.out.touch HTZ.out (by simp)) (fun hne hm => by
      have h1 := (HDZ.out.qu.lt bl hm).1
      rcases HLB.out with h2 | h2
      ·omega
      ·exact hne h2) (by rw [← HN.out]; simp; omega))
     obtain ⟨_, _, _, _, _, _, _, c7, _, _, _, _⟩ := HDZ.out.cells
     go_wp2_with fail
     refine HAD.out.mono ?_
     rintro e w5 ⟨va5, rfl, q5, t5, hv5⟩
     have HFI := Lib.hid (HDZ.out.setQ t5 (foot_add g9 _ _) q5 (foot_new_add hv5))
     have HT5 := Lib.hid (HTZ.out.trans t5 (fun g hg => .inr (HDZ.out.qu.lt g (foot_add g9 _ _ g hg)).1))
     clear q5 t5 hv5 c7
     go_wp2_with fail
     go_ret2
     exact ⟨_, _, rfl, HFI.out, HT5.out⟩
    ·go_simp
     obtain ⟨w10, hw10⟩ : ∃ x, x = w6.alloc (.map #[] 0) := ⟨_, rfl⟩
     have m10 : Mp encZ okZ w10 w6.heap.size ([] : List (Int × Value)) := by rw [hw10]; exact Mp.made w6
     have t10 : Touch [] w6 w10 := by rw [hw10]; exact (Touch.refl [] w6).alloc _
     obtain ⟨g10, hg10⟩ : ∃ g, g = w6.heap.size := ⟨_, rfl⟩
     rw [← hg10] at m10 ⊢
     rw [← hw10]
     clear hw10
     have b10 : g10 < w10.heap.size := m10.lt
     have a10 : w6.heap.size ≤ g10 := by omega
     clear hg10
     have p6 := p6.touch t10 (by simp)
     have hS2 := hS.trans t10 (by simp)
     have z10 := t10.size
     clear t10
     refine hK.out _ _ hS2 (fun _ => ?_)
     clear hK K hS
     have hS := hS2
     clear hS2
     try simp only [Act.put, sT, s0, sS]
     refine wpAnyH_ready (rs := [9]) (by kernel_rfl) (by simp) ?_
     refine cnH rfl (fun K hK => ?_) AllReadyH.nil
     go_simp
     refine (qnew_any c.ff _).mono ?_
     rintro e w9 ⟨rfl, q9, t9⟩
     have q9 := q9.older (w0 := w) (by omega)
     obtain ⟨g9, hg9⟩ : ∃ g, g = w10.heap.size := ⟨_, rfl⟩
     rw [← hg9] at q9 ⊢
     have b9 : g9 < w9.heap.size := (Array.getElem?_eq_some_iff.1 q9.cell).1
     have a9 : w10.heap.size ≤ g9 := by omega
     clear hg9
     have p6 := p6.touch t9 (by simp)
     have m10 := m10.touch t9 (by simp)
     have hS2 := hS.trans t9 (by simp)
     have z9 := t9.size
     clear t9
     refine hK.out _ _ hS2 (fun _ => ?_)
     clear hK K hS
     have hS := hS2
     clear hS2
     try simp only [Act.put, sT, s0, sS]
     refine tkH 11 (.agg #[.int .u64 c.rd, .int .u64 c.ad, .int .u64 c.jit, .int .i64 c.ff, .int .i64 c.mc, .bool (decide (0 < n)), .pointer (some ⟨g6, 0, none⟩), .pointer (some ⟨g9, 0, none⟩), .int .u64 0, .slice none 0 0, .map (some g10), .slice none 0 0]) ?_ (hy := Or.inl ⟨by rfl, fun w' hw => exec_builtD _ 64 _ rfl [(0, .agg c.cells.toArray), (1, .bool (decide (0 < n))), (2, .pointer (some ⟨g6, 0, none⟩)), (3, .pointer (some ⟨g9, 0, none⟩)), (6, .map (some g10))] _ rfl (by kernel_rfl)⟩)
     refine wpAnyH_ready (rs := [12]) (by kernel_rfl) (by simp) ?_
     refine cnH rfl (fun K hK => ?_) AllReadyH.nil
     go_simp
     obtain ⟨w12, hw12⟩ : ∃ x, x = w9.alloc (.cells #[.int .u64 c.rd, .int .u64 c.ad, .int .u64 c.jit, .int .i64 c.ff, .int .i64 c.mc, .bool (decide (0 < n)), .pointer (some ⟨g6, 0, none⟩), .pointer (some ⟨g9, 0, none⟩), .int .u64 0, .slice none 0 0, .map (some g10), .slice none 0 0] 64) := ⟨_, rfl⟩
     have d12 : w12.heap[w9.heap.size]? = some (.cells #[.int .u64 c.rd, .int .u64 c.ad, .int .u64 c.jit, .int .i64 c.ff, .int .i64 c.mc, .bool (decide (0 < n)), .pointer (some ⟨g6, 0, none⟩), .pointer (some ⟨g9, 0, none⟩), .int .u64 0, .slice none 0 0, .map (some g10), .slice none 0 0] 64 (0, 0)) := by rw [hw12]; exact heap_alloc_new w9 _
     have t12 : Touch [] w9 w12 := by rw [hw12]; exact (Touch.refl [] w9).alloc _
     obtain ⟨g12, hg12⟩ : ∃ g, g = w9.heap.size := ⟨_, rfl⟩
     rw [← hg12] at d12 ⊢
     rw [← hw12]
     clear hw12
     have a12 : w9.heap.size ≤ g12 := by omega
     clear hg12
     have p6 := p6.touch t12 (by simp)
     have m10 := m10.touch t12 (by simp)
     have q9 := q9.touch t12 (by simp)
     have HDZ := Lib.hid (Dl.fresh d12 (by omega) p6 q9 m10 (by omega) (by omega) (by omega) (by omega) (by omega) (by omega) (by omega))
     have hS2 := hS.trans t12 (by simp)
     have z12 := t12.size
     clear t12
     have HTZ := Lib.hid (HTX.out.trans hS2 (by simp))
     refine hK.out _ _ hS2 (fun _ => ?_)
     clear hK K hS
     have hS := hS2
     clear hS2
     try simp only [Act.put, sT, s0, sS]
     refine tkH 13 (.pointer (some ⟨g12, 0, none⟩)) ?_
     refine wpAnyH_done (by kernel_rfl) ?_ _
     try simp only [Act.put, sT, s0, sS]
     have HAD := Lib.hid (qadd_any w w12 g9 (.slice none 0 0) (.slice none 0 0) c.ff [] [] HDZ.out.qu HTZ.out.size (.slice a n cap) bl l (HV.out.touch HTZ.out (by simp)) (fun hne hm => by
      have h1 := (HDZ.out.qu.lt bl hm).1
      rcases HLB.out with h2 | h2
      ·omega
      ·exact hne h2) (by rw [← HN.out]; simp; omega))
     obtain ⟨_, _, _, _, _, _, _, c7, _, _, _, _⟩ := HDZ.out.cells
     go_wp2_with fail
     refine HAD.out.mono ?_
     rintro e w5 ⟨va5, rfl, q5, t5, hv5⟩
     have HFI := Lib.hid (HDZ.out.setQ t5 (foot_add g9 _ _) q5 (foot_new_add hv5))
     have HT5 := Lib.hid (HTZ.out.trans t5 (fun g hg => .inr (HDZ.out.qu.lt g (foot_add g9 _ _ g hg)).1))
     clear q5 t5 hv5 c7
     go_wp2_with fail
     go_ret2
     exact ⟨_, _, rfl, HFI.out, HT5.out⟩
   ·go_simp
    obtain ⟨w10, hw10⟩ : ∃ x, x = X.alloc (.map #[] 0) := ⟨_, rfl⟩
    have m10 : Mp encZ okZ w10 X.heap.size ([] : List (Int × Value)) := by rw [hw10]; exact Mp.made X
    have t10 : Touch [] X w10 := by rw [hw10]; exact (Touch.refl [] X).alloc _
    obtain ⟨g10, hg10⟩ : ∃ g, g = X.heap.size := ⟨_, rfl⟩
    rw [← hg10] at m10 ⊢
    rw [← hw10]
    clear hw10
    have b10 : g10 < w10.heap.size := m10.lt
    have a10 : X.heap.size ≤ g10 := by omega
    clear hg10
    have hS2 := hS.trans t10 (by simp)
    have z10 := t10.size
    clear t10
    refine hK.out _ _ hS2 (fun _ => ?_)
    clear hK K hS
    have hS := hS2
    clear hS2
    try simp only [Act.put, sT, s0, sS]
    refine wpAnyH_ready (rs := [6]) (by kernel_rfl) (by simp) ?_
    refine cnH rfl (fun K hK => ?_) AllReadyH.nil
    go_simp
    refine (pnew_any c.rd _ (by have := HCV.out.1; unfold maxT; omega)).mono ?_
    rintro e w6 ⟨rfl, p6, t6⟩
    have p6 := p6.older (w0 := w) (by omega)
    obtain ⟨g6, hg6⟩ : ∃ g, g = w10.heap.size := ⟨_, rfl⟩
    rw [← hg6] at p6 ⊢
    have b6 : g6 < w6.heap.size := (Array.getElem?_eq_some_iff.1 p6.cell).1
    have a6 : w10.heap.size ≤ g6 := by omega
    clear hg6
    have m10 := m10.touch t6 (by simp)
    have hS2 := hS.trans t6 (by simp)
    have z6 := t6.size
    clear t6
    refine hK.out _ _ hS2 (fun _ => ?_)
    clear hK K hS
    have hS := hS2
    clear hS2
    try simp only [Act.put, sT, s0, sS]
    refine wpAnyH_ready (rs := [9]) (by kernel_rfl) (by simp) ?_
    refine cnH rfl (fun K hK => ?_) AllReadyH.nil
    go_simp
    refine (qnew_any c.ff _).mono ?_
    rintro e w9 ⟨rfl, q9, t9⟩
    have q9 := q9.older (w0 := w) (by omega)
    obtain ⟨g9, hg9⟩ : ∃ g, g = w6.heap.size := ⟨_, rfl⟩
    rw [← hg9] at q9 ⊢
    have b9 : g9 < w9.heap.size := (Array.getElem?_eq_some_iff.1 q9.cell).1
    have a9 : w6.heap.size ≤ g9 := by omega
    clear hg9
    have m10 := m10.touch t9 (by simp)
    have p6 := p6.touch t9 (by simp)
    have hS2 := hS.trans t9 (by simp)
    have z9 := t9.size
    clear t9
    refine hK.out _ _ hS2 (fun _ => ?_)
    clear hK K hS
    have hS := hS2
    clear hS2
    try simp only [Act.put, sT, s0, sS]
    refine tkH 11 (.agg #[.int .u64 c.rd, .int .u64 c.ad, .int .u64 c.jit, .int .i64 c.ff, .int .i64 c.mc, .bool (decide (0 < n)), .pointer (some ⟨g6, 0, none⟩), .pointer (some ⟨g9, 0, none⟩), .int .u64 0, .slice none 0 0, .map (some g10), .slice none 0 0]) ?_ (hy := Or.inl ⟨by rfl, fun w' hw => exec_builtD _ 64 _ rfl [(0, .agg c.cells.toArray), (1, .bool (decide (0 < n))), (2, .pointer (some ⟨g6, 0, none⟩)), (3, .pointer (some ⟨g9, 0, none⟩)), (6, .map (some g10))] _ rfl (by kernel_rfl)⟩)
    refine wpAnyH_ready (rs := [12]) (by kernel_rfl) (by simp) ?_
    refine cnH rfl (fun K hK => ?_) AllReadyH.nil
    go_simp
    obtain ⟨w12, hw12⟩ : ∃ x, x = w9.alloc (.cells #[.int .u64 c.rd, .int .u64 c.ad, .int .u64 c.jit, .int .i64 c.ff, .int .i64 c.mc, .bool (decide (0 < n)), .pointer (some ⟨g6, 0, none⟩), .pointer (some ⟨g9, 0, none⟩), .int .u64 0, .slice none 0 0, .map (some g10), .slice none 0 0] 64) := ⟨_, rfl⟩
    have d12 : w12.heap[w9.heap.size]? = some (.cells #[.int .u64 c.rd, .int .u64 c.ad, .int .u64 c.jit, .int .i64 c.ff, .int .i64 c.mc, .bool (decide (0 < n)), .pointer (some ⟨g6, 0, none⟩), .pointer (some ⟨g9, 0, none⟩), .int .u64 0, .slice none 0 0, .map (some g10), .slice none 0 0] 64 (0, 0)) := by rw [hw12]; exact heap_alloc_new w9 _
    have t12 : Touch [] w9 w12 := by rw [hw12]; exact (Touch.refl [] w9).alloc _
    obtain ⟨g12, hg12⟩ : ∃ g, g = w9.heap.size := ⟨_, rfl⟩
    rw [← hg12] at d12 ⊢
    rw [← hw12]
    clear hw12
    have a12 : w9.heap.size ≤ g12 := by omega
    clear hg12
    have m10 := m10.touch t12 (by simp)
    have p6 := p6.touch t12 (by simp)
    have q9 := q9.touch t12 (by simp)
    have HDZ := Lib.hid (Dl.fresh d12 (by omega) p6 q9 m10 (by omega) (by omega) (by omega) (by omega) (by omega) (by omega) (by omega))
    have hS2 := hS.trans t12 (by simp)
    have z12 := t12.size
    clear t12
    have HTZ := Lib.hid (HTX.out.trans hS2 (by simp))
    refine hK.out _ _ hS2 (fun _ => ?_)
    clear hK K hS
    have hS := hS2
    clear hS2
    try simp only [Act.put, sT, s0, sS]
    refine tkH 13 (.pointer (some ⟨g12, 0, none⟩)) ?_
    refine wpAnyH_done (by kernel_rfl) ?_ _
    try simp only [Act.put, sT, s0, sS]
    have HAD := Lib.hid (qadd_any w w12 g9 (.slice none 0 0) (.slice none 0 0) c.ff [] [] HDZ.out.qu HTZ.out.size (.slice a n cap) bl l (HV.out.touch HTZ.out (by simp)) (fun hne hm => by
     have h1 := (HDZ.out.qu.lt bl hm).1
     rcases HLB.out with h2 | h2
     ·omega
     ·exact hne h2) (by rw [← HN.out]; simp; omega))
    obtain ⟨_, _, _, _, _, _, _, c7, _, _, _, _⟩ := HDZ.out.cells
    go_wp2_with fail
    refine HAD.out.mono ?_
    rintro e w5 ⟨va5, rfl, q5, t5, hv5⟩
    have HFI := Lib.hid (HDZ.out.setQ t5 (foot_add g9 _ _) q5 (foot_new_add hv5))
    have HT5 := Lib.hid (HTZ.out.trans t5 (fun g hg => .inr (HDZ.out.qu.lt g (foot_add g9 _ _ g hg)).1))
    clear q5 t5 hv5 c7
    go_wp2_with fail
    go_ret2
    exact ⟨_, _, rfl, HFI.out, HT5.out⟩
end Go.Proofs.YtiklhaajhdephaaGreatDoor

/-
 The contracts of the dialer's Start and Answer.
-/
namespace Go.Proofs.YtiklhaajhdephaaGreatDoor
open Go.RowKit
set_option linter.unusedVariables false
set_option linter.unusedSimpArgs false

theorem wpList_putZ {w : World} {hm : Nat} {l : List Nat} {o : Oper} {ops : Array Oper} {rest : List Oper} {a : Act} {Q : Exit → Act → World → Prop} (hg : o.guard = none) (y x u : Operand) (hop : o.op = .mapUpdate 62 y x u)
  (h : Mp encZ okZ w hm (actM l)) (k : Nat) (hk : k ∉ l) (hk2 : k ≤ 1000000) (hy : a.eval y = .map (some hm)) (hx : a.eval x = .int .i64 (k : Int)) (hu : a.eval u = .bool true)
  (hK : ∀ w', Mp encZ okZ w' hm (actM (l ++ [k])) → Touch [hm] w w' → w'.heap.size = w.heap.size → wpList Tryz.prog ops Q rest (a.put o.dst undef) w') : wpList Tryz.prog ops Q (o :: rest) a w := by
 refine wpList_plain hg fun K' hK' => ?_
 obtain ⟨w', hrun, r1, r2, r3⟩ := h.store keyZ Tryz.underlying62 (okZ_nat hk2) (.bool true)
 rw [put_act hk] at r1
 simp only [encZ] at hrun
 unfold Oper.wp
 simp [execOp, hop, hy, hx, hu, hrun, Result.andThen]
 exact hK' _ _ (hK w' r1 r2 r3)
def DS.startS (s : DS) (now draw : Int) (a : Ad) : DS := { s with K := takeK s.A s.K a, S := s.S ++ [a], act := s.act ++ [s.S.length + 1], nb := addT now (s.c.ad + draw % (s.c.jit + 1)) }
set_option maxRecDepth 100000 in
set_option maxHeartbeats 4000000 in
theorem dstart_no (w0 w : World) (h : Nat) (b : DV) (s : DS) (d : Dl w0 w h b s) (hA : s.A.length ≤ 20) (now draw : Int) (hn : 0 ≤ now ∧ now ≤ maxT) (hc : s.cand now = []) :
  Calls Tryz.prog 10 #[.pointer (some ⟨h, 0, none⟩), .int .u64 now, .int .u64 draw] w fun e w' => e = .returned (.tuple #[.int .i64 0, .bool false]) ∧ Touch [] w w' := by
 have HC := Lib.hid (dcand_any w0 w h b s d hA now hn)
 rw [hc] at HC
 have HZL := Lib.hid (headA []).len
 have HZO := Lib.hid (headA []).one
 clear d hc hn
 generalize headA [] = za at *
 go_enter Tryz.func10, Tryz.ntmps10
 go_wp2_with fail
 refine HC.out.mono ?_
 rintro e w1 ⟨rfl, t1⟩
 have HT1 := Lib.hid t1
 have HN := Lib.hid (heap_alloc_new w1 (.cells (adr false (List.replicate 16 0)).toArray 40))
 have HA := Lib.hid ((Touch.refl [] w1).alloc (.cells (adr false (List.replicate 16 0)).toArray 40))
 clear t1 HC
 go_wp2_with ((with_reducible refine at_store 40 ?_); refine wpList_store_into rfl 40 _ _ rfl w1.heap.size 40 _ za.cells rfl rfl HN.out (by rw [HZL.out]; rfl) (by rw [size31, HZL.out]) HZO.out ?_)
 intro w2 h2 t2 z2
 have HT2 := Lib.hid (HT1.out.trans (HA.out.trans t2 (by intro y hy; right; simp at hy; omega)) (by simp))
 clear h2 t2 z2 HN HA
 go_wp2_with fail
 go_ret2
 exact ⟨rfl, HT2.out⟩
set_option maxRecDepth 100000 in
set_option maxHeartbeats 8000000 in
theorem dstart_yes (w0 w : World) (h : Nat) (b : DV) (s : DS) (d : Dl w0 w h b s) (hz : w0.heap.size ≤ w.heap.size) (hA : s.A.length ≤ 20) (hK : s.K.length ≤ 1000000) (hact : ∀ k ∈ s.act, 1 ≤ k ∧ k ≤ s.S.length) (hcf : s.c.valid = true) (now draw : Int) (hn : 0 ≤ now ∧ now ≤ maxT) (hd : 0 ≤ draw ∧ draw ≤ maxT) (a : Ad) (r : List Ad) (hc : s.cand now = a :: r) :
  Calls Tryz.prog 10 #[.pointer (some ⟨h, 0, none⟩), .int .u64 now, .int .u64 draw] w fun e w' => e = .returned (.tuple #[.int .i64 ((s.S.length + 1 : Nat) : Int), .bool true]) ∧ ∃ b', Dl w0 w' h b' (s.startS now draw a) ∧ Step w w' h b b' := by
 have HC := Lib.hid (dcand_any w0 w h b s d hA now hn)
 obtain ⟨hrem, hS64, _⟩ := cand_rem hc
 have HR := Lib.hid hrem
 rw [hc] at HC
 have HXL := Lib.hid a.len
 have HD := Lib.hid d
 have HZ := Lib.hid hz
 have HNW := Lib.hid hn
 have HDR := Lib.hid hd
 have HCF := Lib.hid (s.c.valid_iff hcf)
 simp only [headA, List.isEmpty_cons, Bool.not_false] at HC
 obtain ⟨m, hm⟩ : ∃ m, m = s.S.length := ⟨_, rfl⟩
 rw [← hm] at hS64 hact ⊢
 have HM := Lib.hid hm
 have HFR := Lib.hid (show m + 1 ∉ s.act from fun h => by have := hact _ h; omega)
 clear d hc hn hz hd hcf hrem hm hact
 go_enter Tryz.func10, Tryz.ntmps10
 go_wp2_with fail
 refine HC.out.mono ?_
 rintro e w1 ⟨rfl, t1⟩
 have HT1 := Lib.hid t1
 have HN := Lib.hid (heap_alloc_new w1 (.cells (adr false (List.replicate 16 0)).toArray 40))
 have HA := Lib.hid ((Touch.refl [] w1).alloc (.cells (adr false (List.replicate 16 0)).toArray 40))
 clear t1 HC
 go_wp2_with ((with_reducible refine at_store 40 ?_); refine wpList_store_into rfl 40 _ _ rfl w1.heap.size 40 _ a.cells rfl rfl HN.out (by rw [HXL.out]; rfl) (by rw [size31, HXL.out]) a.one ?_)
 intro w2 h2 t2 z2
 have HT2 := Lib.hid (HT1.out.trans (HA.out.trans t2 (by intro y hy; right; simp at hy; omega)) (by simp))
 have HD2 := Lib.hid (HD.out.touch0 HT2.out)
 obtain ⟨_, _, _, _, _, _, _, c7, _, _, _, _⟩ := HD2.out.cells
 have HTK := Lib.hid (qtake_any w0 w2 b.hc b.va b.vt s.c.ff s.A s.K HD2.out.qu (by have := HZ.out; have := HT2.out.size; omega) hA hK)
 rw [HR.out] at HTK
 simp only [headA, List.isEmpty_cons, Bool.not_false, Bool.false_eq_true, if_false] at HTK
 clear h2 t2 z2 HN HA
 go_wp2_with fail
 refine HTK.out.mono ?_
 rintro e w3 ⟨rfl, vt3, q3, t3, hv3⟩
 have HD3 := Lib.hid (HD2.out.setQ t3 (foot_take b.hc _ _) q3 (foot_new_take hv3))
 have HS3 := Lib.hid ((Step.of0 (h := h) (b := b) HT2.out).trans (step_q (h := h) t3 (foot_take b.hc _ _) (foot_new_take hv3)))
 have HZ3 := Lib.hid (show w0.heap.size ≤ w3.heap.size by have := HZ.out; have := HT2.out.size; have := t3.size; omega)
 have HN := Lib.hid (heap_alloc_new w3 (.cells (adr false (List.replicate 16 0)).toArray 40))
 have HA := Lib.hid ((Touch.refl [] w3).alloc (.cells (adr false (List.replicate 16 0)).toArray 40))
 have hbn : ∀ i, ∀ g ∈ dpart h { b with va := b.va, vt := vt3 } i, g ≠ w3.heap.size := fun i g hg => by have := (HD3.out.lt i g hg).2; omega
 have HBN := Lib.hid hbn
 clear q3 t3 hv3 HTK c7 hbn
 go_wp2_with ((with_reducible refine at_store 40 ?_); refine wpList_store_into rfl 40 _ _ rfl w3.heap.size 40 _ a.cells rfl rfl HN.out (by rw [HXL.out]; rfl) (by rw [size31, HXL.out]) a.one ?_)
 intro w4 h4 t4 z4
 have t4' := HA.out.trans t4 (by intro y hy; right; simp at hy; omega)
 have HD4 := Lib.hid (HD3.out.touch0 t4')
 have HS4 := Lib.hid (HS3.out.trans (Step.of0 t4'))
 have HR4 := Lib.hid (range_block h4)
 have HZ4 := Lib.hid (Nat.le_trans HZ3.out t4'.size)
 generalize w3.heap.size = g10 at *
 clear h4 t4 z4 t4' HN HA HS3 HD3
 go_wp2_with fail
 obtain ⟨aS, kS, hvs, _, _, _⟩ := HD4.out.so.form
 rw [← HM.out] at hvs
 have HBF := Lib.hid hvs
 refine wp_region_F (S := Touch b.vs.ownBlock.toList w4.drew) [10] (by kernel_rfl) ?_
 change wpAnyF _ _ _ _ _ _ _ _ _ w4.drew
 have HDX := Lib.hid (HD4.out.touch0 ((Touch.refl [] w4).drew))
 have HRX := Lib.hid (((Touch.refl [] w4).drew).range HR4.out (by simp))
 have HSX := Lib.hid (HS4.out.trans (Step.of0 ((Touch.refl [] w4).drew)))
 have hzX : w0.heap.size ≤ w4.drew.heap.size := HZ4.out
 have HZX := Lib.hid hzX
 generalize w4.drew = X at *
 have hS := Touch.refl b.vs.ownBlock.toList X
 obtain ⟨_, _, _, _, _, _, _, _, _, c9, _, _⟩ := HDX.out.cells
 rw [HBF.out] at c9
 have hhb : h ∉ b.vs.ownBlock.toList := by intro hm; exact HDX.out.apart 0 4 (by decide) h (by simp [dpart]) (by simpa [dpart] using hm)
 have hgb2 : g10 ∉ b.vs.ownBlock.toList := by intro hm; exact HBN.out 4 g10 (by simpa [dpart] using hm) rfl
 have HO := Lib.hid (show OwnA w0 X b.vs s.S from HDX.out.so)
 have hl1 : (s.S.length + 1) * 17 ≤ 140737488355328 := by rw [← HM.out]; omega
 clear hvs
 refine tkF 0 (.pointer (some ⟨h, 0, none⟩)) ?_
 refine tkF 1 (.pointer (some ⟨h, 0, none⟩)) ?_
 refine tkF 2 (.pointer (some ⟨h, 0, none⟩)) ?_
 refine tkF 3 (.pointer (some ⟨h, 9, none⟩)) ?_
 refine tkF 4 (.slice aS m kS) ?_ (hy := Or.inl ⟨by rfl, fun w' hw => by (have q := hw.cell c9 hhb; go_simp)⟩)
 refine tkF 5 (.agg a.cells.toArray) ?_ (hy := Or.inl ⟨by rfl, fun w' hw => exec_load_agg _ 40 _ rfl _ _ rfl a.cells _ (hw.range HRX.out hgb2) Tryz.underlying40 rfl (by rw [size31, HXL.out])⟩)
 refine wpAnyF_ready (rs := [6]) (by kernel_rfl) (by simp) ?_
 refine cnF rfl (fun K hK => ?_) AllReadyF.nil
 refine step_of_list rfl ?_
 refine wpList_build_ad rfl _ rfl a (by rfl) ?_
 have r6 := rd_newA X a 40
 have tA := (Touch.refl [] X).alloc (.cells [a.cells].flatten.toArray 40)
 have hS2 := hS.trans tA (by simp)
 have hO6 := (show OwnA w0 _ b.vs s.S from Own.touch HO.out tA (by simp))
 have zA : (X.alloc (.cells [a.cells].flatten.toArray 40)).heap.size = X.heap.size + 1 := by simp
 refine ⟨rfl, hK.out _ _ hS2 (fun _ => ?_)⟩
 clear hK K hS
 have hS := hS2
 clear hS2
 generalize hX1 : X.alloc (.cells [a.cells].flatten.toArray 40) = X1 at *
 clear hX1
 try simp only [Act.put, sT, s0, sS]
 refine wpAnyF_ready (rs := [7]) (by kernel_rfl) (by simp) ?_
 refine cnF rfl (fun K hK => ?_) AllReadyF.nil
 refine step_of_list rfl ?_
 refine wpList_app_ads w0 X1 rfl _ _ rfl b.vs s.S (by rw [HBF.out]; rfl) hO6 (by omega) _ _ [a] rfl r6 (by simp only [List.length_singleton]; exact hl1) ?_
 intro v7 w7 o7 t7 h7
 have hS2 := hS.trans t7 (fun y hy => .inl hy)
 refine ⟨rfl, hK.out _ _ hS2 (fun _ => ?_)⟩
 clear hK K hS
 have hS := hS2
 clear hS2
 try simp only [Act.put, sT, s0, sS]
 refine tkF 8 (.pointer (some ⟨h, 0, none⟩)) ?_
 refine tkF 9 (.pointer (some ⟨h, 9, none⟩)) ?_
 refine wpAnyF_ready (rs := [10]) (by kernel_rfl) (by simp) ?_
 refine clF rfl (by simp) (fun K hK => ?_) AllReadyF.nil
 have q1 := hS.cell c9 hhb
 have g0 : w7.frozen? ⟨h, 9, none⟩ = false := by simp [World.frozen?, hS.at HDX.out.cell hhb]
 obtain ⟨a7, k7, hv7, _, _, _⟩ := o7.form
 rw [List.length_append, List.length_singleton, ← HM.out] at hv7
 have h8 : v7.ownBlock = b.vs.ownBlock ∨ ∃ k, v7.ownBlock = some k ∧ X.heap.size ≤ k := by rcases h7 with e | e; exact .inl e; exact .inr ⟨_, e, by omega⟩
 have HPU := HDX.out.setS hS o7 h8
 subst hv7
 have HFIN := Lib.hid (And.intro HPU.1 (HSX.out.trans (Step.own (b' := { b with va := b.va, vt := vt3, vs := .slice a7 (m + 1) k7 }) 4 HPU.2 (fun j hj => by match j, hj with | 0, _ => rfl | 1, _ => rfl | 2, _ => rfl | 3, _ => rfl | 4, hj => exact absurd rfl hj | 5, _ => rfl | _ + 6, _ => rfl) (own_new h8))))
 clear HPU h7 t7
 go_simp
 refine hK.out _ _ ?_
 clear hK K
 try simp only [Act.put, sT, s0, sS]
 refine wpAnyF_done (by kernel_rfl) ?_ _
 try simp only [Act.put, sT, s0, sS]
 clear c9 hhb hgb2 hl1 hzX
 generalize w7.setCell ⟨h, 9, none⟩ (.slice a7 (m + 1) k7) = w5 at *
 have HD5 := Lib.hid HFIN.out.1
 have HS5 := Lib.hid HFIN.out.2
 clear HFIN
 go_wp2_with fail
 refine wp_region_held (S := Touch [b.hm] w5.drew) (by kernel_rfl) ?_
 change wpAnyH _ _ _ _ _ _ _ _ w5.drew
 have HDY := Lib.hid (HD5.out.touch0 ((Touch.refl [] w5).drew))
 have HSY := Lib.hid (HS5.out.trans (Step.of0 ((Touch.refl [] w5).drew)))
 generalize w5.drew = Y at *
 have hS := Touch.refl [b.hm] Y
 obtain ⟨_, _, _, _, _, _, _, _, _, c9, c10, _⟩ := HDY.out.cells
 have hhm : h ∉ [b.hm] := by intro hm; exact HDY.out.apart 0 3 (by decide) h (by simp [dpart]) (by simpa [dpart] using hm)
 refine tkH 0 (.pointer (some ⟨h, 0, none⟩)) ?_
 refine tkH 1 (.pointer (some ⟨h, 0, none⟩)) ?_
 refine tkH 2 (.pointer (some ⟨h, 10, none⟩)) ?_
 refine tkH 3 (.map (some b.hm)) ?_ (hy := Or.inl ⟨by rfl, fun w' hw => by (have q := hw.cell c10 hhm; go_simp)⟩)
 refine tkH 4 (.pointer (some ⟨h, 0, none⟩)) ?_
 refine tkH 5 (.pointer (some ⟨h, 0, none⟩)) ?_
 refine tkH 6 (.pointer (some ⟨h, 9, none⟩)) ?_
 refine tkH 7 (.slice a7 (m + 1) k7) ?_ (hy := Or.inl ⟨by rfl, fun w' hw => by (have q := hw.cell c9 hhm; go_simp)⟩)
 refine tkH 8 (.int .i64 ((m + 1 : Nat) : Int)) ?_
 refine wpAnyH_ready (rs := [9]) (by kernel_rfl) (by simp) ?_
 refine cnH rfl (fun K hK => ?_) AllReadyH.nil
 refine step_of_list rfl ?_
 refine wpList_putZ rfl _ _ _ rfl HDY.out.mp (m + 1) HFR.out (by omega) (by rfl) (by rfl) (by rfl) ?_
 intro w6 m6 t6 z6
 have hS2 := hS.trans t6 (fun y hy => .inl hy)
 have HFI2 := Lib.hid (And.intro (HDY.out.setM t6 m6) (HSY.out.trans (Step.one (b' := { b with va := b.va, vt := vt3, vs := .slice a7 (m + 1) k7 }) 3 (by simpa [dpart] using t6) (fun j hj => rfl) (fun g hg => .inl hg))))
 refine ⟨rfl, hK.out _ _ hS2 (fun _ => ?_)⟩
 clear hK K hS m6 t6 z6
 have hS := hS2
 clear hS2
 try simp only [Act.put, sT, s0, sS]
 refine wpAnyH_done (by kernel_rfl) ?_ _
 try simp only [Act.put, sT, s0, sS]
 clear c9 c10 hhm hS
 have HD6 := Lib.hid HFI2.out.1
 have HS6 := Lib.hid HFI2.out.2
 clear HFI2
 go_wp2_with fail
 refine wp_region_F (S := Touch [] w6.drew) [19] (by kernel_rfl) ?_
 change wpAnyF _ _ _ _ _ _ _ _ _ w6.drew
 have HDV := Lib.hid (HD6.out.touch0 ((Touch.refl [] w6).drew))
 have HSV := Lib.hid (HS6.out.trans (Step.of0 ((Touch.refl [] w6).drew)))
 generalize w6.drew = V at *
 have hS := Touch.refl [] V
 obtain ⟨_, c1, c2, _, _, _, _, _, c8, _, _, _⟩ := HDV.out.cells
 obtain ⟨_, ⟨ha1, ha2⟩, ⟨hj1, hj2⟩, _, _⟩ := HCF.out
 have hdr := HDR.out
 have wj := wrap_u64 (n := s.c.jit + 1) (by omega) (by unfold maxT; omega)
 have hm1 := Int.emod_nonneg draw (show s.c.jit + 1 ≠ 0 by omega)
 have hm2 := Int.emod_lt_of_pos draw (show 0 < s.c.jit + 1 by omega)
 have tm := Int.tmod_eq_emod_of_nonneg (b := s.c.jit + 1) hdr.1
 have wa := wrap_u64 (n := s.c.ad + draw % (s.c.jit + 1)) (by omega) (by unfold maxT; omega)
 have hj0 : (s.c.jit + 1 == 0) = false := by simp; omega
 have hj3 : ¬ (s.c.jit + 1 = 0) := by omega
 have HAT := Lib.hid (tadd_any now (s.c.ad + draw % (s.c.jit + 1)) V HNW.out ⟨by omega, by unfold maxT; omega⟩)
 refine tkF 0 (.pointer (some ⟨h, 0, none⟩)) ?_
 refine tkF 1 (.int .u64 now) ?_
 refine tkF 2 (.pointer (some ⟨h, 0, none⟩)) ?_
 refine tkF 3 (.pointer (some ⟨h, 0, none⟩)) ?_
 refine tkF 4 (.pointer (some ⟨h, 0, none⟩)) ?_
 refine tkF 5 (.pointer (some ⟨h, 1, none⟩)) ?_
 refine tkF 6 (.int .u64 s.c.ad) ?_ (hy := Or.inl ⟨by rfl, fun w' hw => by (have q := hw.cell c1 (by simp); go_simp)⟩)
 refine tkF 7 (.int .u64 draw) ?_
 refine tkF 8 (.pointer (some ⟨h, 0, none⟩)) ?_
 refine tkF 9 (.pointer (some ⟨h, 0, none⟩)) ?_
 refine tkF 10 (.pointer (some ⟨h, 0, none⟩)) ?_
 refine tkF 11 (.pointer (some ⟨h, 2, none⟩)) ?_
 refine tkF 12 (.int .u64 s.c.jit) ?_ (hy := Or.inl ⟨by rfl, fun w' hw => by (have q := hw.cell c2 (by simp); go_simp)⟩)
 refine tkF 13 (.int .u64 (s.c.jit + 1)) ?_ (hy := Or.inl ⟨by rfl, fun w' hw => by (have q0 := wj; go_simp)⟩)
 refine tkF 14 (.int .u64 (draw % (s.c.jit + 1))) ?_ (hy := Or.inl ⟨by rfl, fun w' hw => by (have q0 := tm; have q1 := hj0; have q2 := hj3; have q3 := hdr.1; go_simp)⟩)
 refine tkF 15 (.int .u64 (s.c.ad + draw % (s.c.jit + 1))) ?_ (hy := Or.inl ⟨by rfl, fun w' hw => by (have q0 := wa; go_simp)⟩)
 refine wpAnyF_ready (rs := [16]) (by kernel_rfl) (by simp) ?_
 refine cnF rfl (fun K hK => ?_) AllReadyF.nil
 go_simp
 refine HAT.out.mono ?_
 rintro e _ ⟨rfl, rfl⟩
 refine hK.out _ _ hS (fun _ => ?_)
 clear hK K
 try simp only [Act.put, sT, s0, sS]
 refine tkF 17 (.pointer (some ⟨h, 0, none⟩)) ?_
 refine tkF 18 (.pointer (some ⟨h, 8, none⟩)) ?_
 refine wpAnyF_ready (rs := [19]) (by kernel_rfl) (by simp) ?_
 refine clF rfl (by simp) (fun K hK => ?_) AllReadyF.nil
 have HPU := HDV.out.setN (addT now (s.c.ad + draw % (s.c.jit + 1)))
 have q1 := c8
 have g0 := HDV.out.free 8
 have HFI3 := Lib.hid (And.intro HPU.1 (HSV.out.trans (Step.own (b' := { b with va := b.va, vt := vt3, vs := .slice a7 (m + 1) k7 }) 0 (HPU.2.mono (by simp)) (fun j hj => rfl) (fun g hg => .inl hg))))
 clear HPU
 go_simp
 refine hK.out _ _ ?_
 clear hK K
 try simp only [Act.put, sT, s0, sS]
 refine wpAnyF_done (by kernel_rfl) ?_ _
 try simp only [Act.put, sT, s0, sS]
 clear c1 c2 c8 ha1 ha2 hj1 hj2 hdr wj hm1 hm2 tm wa hj0 hj3 HAT
 obtain ⟨_, _, _, _, _, _, _, _, _, c9, _, _⟩ := HFI3.out.1.cells
 go_wp2_with fail
 go_ret2
 refine ⟨rfl, _, ?_, HFI3.out.2⟩
 unfold DS.startS
 rw [← HM.out]
 exact HFI3.out.1
end Go.Proofs.YtiklhaajhdephaaGreatDoor

/-
 The contracts of the dialer's Answer.
-/
namespace Go.Proofs.YtiklhaajhdephaaGreatDoor
open Go.RowKit
set_option linter.unusedVariables false
set_option linter.unusedSimpArgs false

theorem step_p {w w' : World} {h : Nat} {b : DV} {v4 v6 : Value} {S : List Nat} (t : Touch S w w') (hS : ∀ g ∈ S, g ∈ pfoot b.hq b.v4 b.v6) (hn : ∀ g ∈ pfoot b.hq v4 v6, g ∈ pfoot b.hq b.v4 b.v6 ∨ w.heap.size ≤ g) : Step w w' h b { b with v4 := v4, v6 := v6 } :=
 Step.one 1 (t.mono (fun x hx => .inl (hS x hx))) (fun j hj => by match j, hj with | 0, _ => rfl | 1, hj => exact absurd rfl hj | 2, _ => rfl | 3, _ => rfl | 4, _ => rfl | 5, _ => rfl | _ + 6, _ => rfl) hn
theorem pfoot_4 {h : Nat} {v4 v6 v' : Value} {n : Nat} (hv : v'.ownBlock = v4.ownBlock ∨ ∃ k, v'.ownBlock = some k ∧ n ≤ k) : (∀ g ∈ h :: v4.ownBlock.toList, g ∈ pfoot h v4 v6) ∧ ∀ g ∈ pfoot h v' v6, g ∈ pfoot h v4 v6 ∨ n ≤ g := by
 refine ⟨fun g hg => by simp only [pfoot, List.mem_cons, List.mem_append] at hg ⊢; rcases hg with e | e; exact .inl e; exact .inr (.inl e), fun g hg => ?_⟩
 simp only [pfoot, List.mem_cons, List.mem_append] at hg ⊢
 rcases hg with e | e | e
 ·exact .inl (.inl e)
 ·rcases own_new hv g e with e | e
  ·exact .inl (.inr (.inl e))
  ·exact .inr e
 ·exact .inl (.inr (.inr e))
theorem pfoot_6 {h : Nat} {v4 v6 v' : Value} {n : Nat} (hv : v'.ownBlock = v6.ownBlock ∨ ∃ k, v'.ownBlock = some k ∧ n ≤ k) : (∀ g ∈ h :: v6.ownBlock.toList, g ∈ pfoot h v4 v6) ∧ ∀ g ∈ pfoot h v4 v', g ∈ pfoot h v4 v6 ∨ n ≤ g := by
 refine ⟨fun g hg => by simp only [pfoot, List.mem_cons, List.mem_append] at hg ⊢; rcases hg with e | e; exact .inl e; exact .inr (.inr e), fun g hg => ?_⟩
 simp only [pfoot, List.mem_cons, List.mem_append] at hg ⊢
 rcases hg with e | e | e
 ·exact .inl (.inl e)
 ·exact .inl (.inr (.inl e))
 ·rcases own_new hv g e with e | e
  ·exact .inl (.inr (.inr e))
  ·exact .inr e
set_option maxRecDepth 100000 in
set_option maxHeartbeats 1000000 in
theorem dansR (w0 w : World) (h : Nat) (b : DV) (s : DS) (d : Dl w0 w h b s) (now : Int) (f : Bool) (v : Value) (y : Int) (hr : s.resolved = true) :
  Calls Tryz.prog 32 #[.pointer (some ⟨h, 0, none⟩), .int .u64 now, .bool f, v, .int .i64 y] w fun e w' => e = .returned (.int .i64 7) ∧ w = w' := by
 have HR := Lib.hid (dres_any w0 w h b s d true hr)
 clear d hr
 go_enter Tryz.func32, Tryz.ntmps32
 go_wp2_with fail
 refine HR.out.mono ?_
 rintro e _ ⟨rfl, rfl⟩
 go_wp2_with fail
 go_ret
 exact ⟨rfl, rfl⟩
set_option maxRecDepth 100000 in
set_option maxHeartbeats 1000000 in
theorem paddrs4 (w0 w : World) (h : Nat) (v4 v6 : Value) (s : PS) (q : Pr w0 w h v4 v6 s) :
  Calls Tryz.prog 61 #[.pointer (some ⟨h, 0, none⟩), .bool false] w fun e w' => ∃ v', e = .returned v' ∧ OwnA w w' v' s.q4.l ∧ Touch [] w w' := by
 obtain ⟨_, _, _, _, c4, _, _, c7⟩ := q.cells
 obtain ⟨b, hr, _⟩ := (q.o4).rd
 have HC := Lib.hid (clone_any v4 b s.q4.l w hr (by have := q.n4; omega))
 obtain ⟨a, k, rfl, _, _, _⟩ := (q.o4).form
 clear q hr
 go_enter Tryz.func61, Tryz.ntmps61
 go_wp2_with fail
 refine (fam4_any h w).mono ?_
 rintro e _ ⟨rfl, rfl⟩
 go_wp2_with fail
 refine HC.out.mono ?_
 rintro e w1 ⟨v1, rfl, o1, t1⟩
 have HO := Lib.hid o1
 have HT := Lib.hid t1
 obtain ⟨a1, k1, rfl, _, _, _⟩ := o1.form
 clear o1 t1
 go_wp2_with fail
 go_ret
 exact ⟨_, rfl, HO.out, HT.out⟩
/-- What an answer leaves of a dialer. -/
def DS.ans4 (s : DS) (now : Int) (l : List Ad) (y : Int) : DS :=
 { s with p := { s.p with q4 := ⟨true, now, ansL false s.p.q4.l l⟩ }, A := addL s.A (ansL false s.p.q4.l l), rs := if (ansL false s.p.q4.l l).length = 0 then s.rs ++ [whyN y] else s.rs }
set_option maxRecDepth 100000 in
set_option maxHeartbeats 1000000 in
theorem dansD4 (w0 w : World) (h : Nat) (b : DV) (s : DS) (d : Dl w0 w h b s) (now : Int) (v : Value) (y : Int) (hr : s.resolved = false) (hcn : s.p.canc = false) (ha : s.p.q4.a = true) :
  Calls Tryz.prog 32 #[.pointer (some ⟨h, 0, none⟩), .int .u64 now, .bool false, v, .int .i64 y] w fun e w' => e = .returned (.int .i64 5) ∧ w = w' := by
 have HR := Lib.hid (dres_any w0 w h b s d false hr)
 obtain ⟨_, _, _, _, _, _, c6, c7, _, _, _, _⟩ := d.cells
 have HAN := Lib.hid (pansD4 w0 w b.hq b.v4 b.v6 s.p d.pr now v hcn ha)
 clear d hr hcn ha
 go_enter Tryz.func32, Tryz.ntmps32
 go_wp2_with fail
 refine HR.out.mono ?_
 rintro e _ ⟨rfl, rfl⟩
 go_wp2_with fail
 refine HAN.out.mono ?_
 rintro e _ ⟨rfl, rfl⟩
 go_wp2_with fail
 go_ret
 exact ⟨rfl, rfl⟩
set_option maxRecDepth 100000 in
set_option maxHeartbeats 8000000 in
theorem dans4 (w0 w : World) (h : Nat) (b : DV) (s : DS) (d : Dl w0 w h b s) (hz : w0.heap.size ≤ w.heap.size) (hA : s.A.length ≤ 900000) (hl : s.rs.length ≤ 1000000) (now : Int) (hn : 0 ≤ now ∧ now ≤ maxT) (v : Value) (bl : Nat) (l : List Ad) (hv : Rd w 17 bl v (l.map Ad.cells)) (hb : l ≠ [] → bl ∉ dfoot h b) (y : Int) (hr : s.resolved = false) (hcn : s.p.canc = false) (ha : s.p.q4.a = false) :
  Calls Tryz.prog 32 #[.pointer (some ⟨h, 0, none⟩), .int .u64 now, .bool false, v, .int .i64 y] w fun e w' => e = .returned (.int .i64 0) ∧ ∃ b', Dl w0 w' h b' (s.ans4 now l y) ∧ Step w w' h b b' := by
 have HR := Lib.hid (dres_any w0 w h b s d false hr)
 obtain ⟨_, _, _, _, _, _, c6, c7, _, _, _, _⟩ := d.cells
 have HAN := Lib.hid (pans4 w0 w b.hq b.v4 b.v6 s.p d.pr hz now hn hcn ha v bl l hv (fun hne hm => hb hne (mem_dfoot.2 ⟨1, hm⟩)))
 have HD := Lib.hid d
 have HZ := Lib.hid hz
 have HL := Lib.hid hl
 have HL16 := Lib.hid (show (ansL false s.p.q4.l l).length ≤ 16 from ansL_len d.pr.n4)
 have HE := Lib.hid (show s.ans4 now l y = { s with p := { s.p with q4 := ⟨true, now, ansL false s.p.q4.l l⟩ }, A := addL s.A (ansL false s.p.q4.l l), rs := if (ansL false s.p.q4.l l).length = 0 then s.rs ++ [whyN y] else s.rs } from rfl)
 rw [HE.out]
 obtain ⟨L, hL⟩ : ∃ L, L = ansL false s.p.q4.l l := ⟨_, rfl⟩
 rw [← hL] at HAN HL16 ⊢
 obtain ⟨RS, hRS⟩ : ∃ RS, RS = (if L.length = 0 then s.rs ++ [whyN y] else s.rs) := ⟨_, rfl⟩
 rw [← hRS]
 have HRS := Lib.hid hRS
 clear d hr hcn ha hv hb hn hz hl HE hL hRS
 go_enter Tryz.func32, Tryz.ntmps32
 go_wp2_with fail
 refine HR.out.mono ?_
 rintro e _ ⟨rfl, rfl⟩
 go_wp2_with fail
 refine HAN.out.mono ?_
 rintro e w1 ⟨v1, rfl, p1, t1, hv1⟩
 have hf := pfoot_4 (h := b.hq) (v4 := b.v4) (v6 := b.v6) hv1
 have HD1 := Lib.hid (HD.out.setP t1 hf.1 p1 hf.2)
 have HS1 := Lib.hid (step_p (h := h) t1 hf.1 hf.2)
 have HZ1 := Lib.hid (show w0.heap.size ≤ w1.heap.size by have := HZ.out; have := t1.size; omega)
 clear p1 t1 hv1 hf HAN HR c6 c7
 go_wp2_with fail
 refine wp_region_held (S := Touch (qfoot b.hc b.va b.vt) w1.drew) (by kernel_rfl) ?_
 change wpAnyH _ _ _ _ _ _ _ _ w1.drew
 have HDX := Lib.hid (HD1.out.touch0 ((Touch.refl [] w1).drew))
 have HSX := Lib.hid (HS1.out.trans (Step.of0 ((Touch.refl [] w1).drew)))
 have HZX := Lib.hid (show w0.heap.size ≤ w1.drew.heap.size from HZ1.out)
 generalize w1.drew = X at *
 have hS := Touch.refl (qfoot b.hc b.va b.vt) X
 have hhq : h ∉ qfoot b.hc b.va b.vt := fun hm => HDX.out.apart 0 2 (by decide) h (by simp [dpart]) hm
 obtain ⟨_, _, _, _, _, _, c6, c7, _, _, _, _⟩ := HDX.out.cells
 refine tkH 0 (.pointer (some ⟨h, 0, none⟩)) ?_
 refine tkH 1 (.pointer (some ⟨h, 0, none⟩)) ?_
 refine tkH 2 (.pointer (some ⟨h, 7, none⟩)) ?_
 refine tkH 3 (.pointer (some ⟨b.hc, 0, none⟩)) ?_ (hy := Or.inl ⟨by rfl, fun w' hw => by (have q := hw.cell c7 hhq; go_simp)⟩)
 refine tkH 4 (.pointer (some ⟨h, 0, none⟩)) ?_
 refine tkH 5 (.pointer (some ⟨h, 0, none⟩)) ?_
 refine tkH 6 (.pointer (some ⟨h, 6, none⟩)) ?_
 refine tkH 7 (.pointer (some ⟨b.hq, 0, none⟩)) ?_ (hy := Or.inl ⟨by rfl, fun w' hw => by (have q := hw.cell c6 hhq; go_simp)⟩)
 refine tkH 8 (.bool false) ?_
 refine wpAnyH_ready (rs := [9]) (by kernel_rfl) (by simp) ?_
 refine cnH rfl (fun K hK => ?_) AllReadyH.nil
 go_simp
 refine (paddrs4 w0 _ b.hq _ _ _ HDX.out.pr).mono ?_
 rintro e w2 ⟨v2, rfl, o2, t2⟩
 have hS2 := hS.trans t2 (by simp)
 have TX2 := Lib.hid t2
 have O2 := Lib.hid (show OwnA X w2 v2 L from o2)
 refine hK.out _ _ hS2 (fun _ => ?_)
 clear hK K hS t2 o2
 have hS := hS2
 clear hS2
 try simp only [Act.put, sT, s0, sS]
 refine wpAnyH_ready (rs := [10]) (by kernel_rfl) (by simp) ?_
 refine cnH rfl (fun K hK => ?_) AllReadyH.nil
 go_simp
 obtain ⟨b2, r2, hb2⟩ := OwnA.rdn O2.out
 have HD9 := HDX.out.touch0 TX2.out
 refine (qadd_any w0 w2 b.hc b.va b.vt s.c.ff s.A s.K HD9.qu (by have := HZX.out; have := TX2.out.size; omega) v2 b2 L r2 (fun hne hm => by have h1 := O2.out.new b2 (hb2 hne); have h2 := (HDX.out.qu.lt b2 hm).2; omega) (by have := HL16.out; omega)).mono ?_
 rintro e w3 ⟨va3, rfl, q3, t3, hv3⟩
 have HFIN := Lib.hid (And.intro (HD9.setQ t3 (foot_add b.hc _ _) q3 (foot_new_add hv3)) (And.intro (HSX.out.trans ((Step.of0 (h := h) (b := { b with v4 := v1, v6 := b.v6 }) TX2.out).trans (step_q (h := h) (b := { b with v4 := v1, v6 := b.v6 }) t3 (foot_add b.hc _ _) (foot_new_add hv3)))) (show w0.heap.size ≤ w3.heap.size by have := HZX.out; have := TX2.out.size; have := t3.size; omega)))
 have hS2 := hS.trans t3 (fun g hg => .inl (foot_add b.hc _ _ g hg))
 clear q3 t3 hv3 r2 hb2 HD9
 refine hK.out _ _ hS2 (fun _ => ?_)
 clear hK K hS
 have hS := hS2
 clear hS2
 try simp only [Act.put, sT, s0, sS]
 refine wpAnyH_done (by kernel_rfl) ?_ _
 try simp only [Act.put, sT, s0, sS]
 clear c6 c7 hS hhq
 have HD2 := Lib.hid HFIN.out.1
 have HS2 := Lib.hid HFIN.out.2.1
 have HZ2 := Lib.hid HFIN.out.2.2
 clear HFIN
 by_cases hn0 : L.length = 0
 ·have HRC := Lib.hid (drec_any w0 w3 h _ _ HD2.out HZ2.out HL.out y)
  have HR2 := Lib.hid (show RS = s.rs ++ [whyN y] by rw [HRS.out, if_pos hn0])
  rw [hn0]
  clear hn0
  go_wp2_with fail
  refine HRC.out.mono ?_
  rintro e w4 ⟨rfl, v4', d4, s4⟩
  have HD4 := Lib.hid d4
  have HS4 := Lib.hid (HS2.out.trans s4)
  clear d4 s4
  go_wp2_with fail
  go_ret
  exact ⟨rfl, _, by rw [HR2.out]; exact HD4.out, HS4.out⟩
 ·have HR2 := Lib.hid (show RS = s.rs by rw [HRS.out, if_neg hn0])
  have hn1 : ((L.length : Int) == 0) = false := by simp; exact fun h => hn0 (by rw [h]; rfl)
  have hn3 : (L.length == 0) = false := by simpa using hn0
  clear hn0
  generalize L.length = nL at *
  go_wp2_with fail
  go_ret
  exact ⟨rfl, _, by rw [HR2.out]; exact HD2.out, HS2.out⟩
set_option maxRecDepth 100000 in
set_option maxHeartbeats 1000000 in
theorem paddrs6 (w0 w : World) (h : Nat) (v4 v6 : Value) (s : PS) (q : Pr w0 w h v4 v6 s) :
  Calls Tryz.prog 61 #[.pointer (some ⟨h, 0, none⟩), .bool true] w fun e w' => ∃ v', e = .returned v' ∧ OwnA w w' v' s.q6.l ∧ Touch [] w w' := by
 obtain ⟨_, _, _, _, c4, _, _, c7⟩ := q.cells
 obtain ⟨b, hr, _⟩ := (q.o6).rd
 have HC := Lib.hid (clone_any v6 b s.q6.l w hr (by have := q.n6; omega))
 obtain ⟨a, k, rfl, _, _, _⟩ := (q.o6).form
 clear q hr
 go_enter Tryz.func61, Tryz.ntmps61
 go_wp2_with fail
 refine (fam6_any h w).mono ?_
 rintro e _ ⟨rfl, rfl⟩
 go_wp2_with fail
 refine HC.out.mono ?_
 rintro e w1 ⟨v1, rfl, o1, t1⟩
 have HO := Lib.hid o1
 have HT := Lib.hid t1
 obtain ⟨a1, k1, rfl, _, _, _⟩ := o1.form
 clear o1 t1
 go_wp2_with fail
 go_ret
 exact ⟨_, rfl, HO.out, HT.out⟩
/-- What an answer leaves of a dialer. -/
def DS.ans6 (s : DS) (now : Int) (l : List Ad) (y : Int) : DS :=
 { s with p := { s.p with q6 := ⟨true, now, ansL true s.p.q6.l l⟩ }, A := addL s.A (ansL true s.p.q6.l l), rs := if (ansL true s.p.q6.l l).length = 0 then s.rs ++ [whyN y] else s.rs }
set_option maxRecDepth 100000 in
set_option maxHeartbeats 1000000 in
theorem dansD6 (w0 w : World) (h : Nat) (b : DV) (s : DS) (d : Dl w0 w h b s) (now : Int) (v : Value) (y : Int) (hr : s.resolved = false) (hcn : s.p.canc = false) (ha : s.p.q6.a = true) :
  Calls Tryz.prog 32 #[.pointer (some ⟨h, 0, none⟩), .int .u64 now, .bool true, v, .int .i64 y] w fun e w' => e = .returned (.int .i64 5) ∧ w = w' := by
 have HR := Lib.hid (dres_any w0 w h b s d false hr)
 obtain ⟨_, _, _, _, _, _, c6, c7, _, _, _, _⟩ := d.cells
 have HAN := Lib.hid (pansD6 w0 w b.hq b.v4 b.v6 s.p d.pr now v hcn ha)
 clear d hr hcn ha
 go_enter Tryz.func32, Tryz.ntmps32
 go_wp2_with fail
 refine HR.out.mono ?_
 rintro e _ ⟨rfl, rfl⟩
 go_wp2_with fail
 refine HAN.out.mono ?_
 rintro e _ ⟨rfl, rfl⟩
 go_wp2_with fail
 go_ret
 exact ⟨rfl, rfl⟩
set_option maxRecDepth 100000 in
set_option maxHeartbeats 8000000 in
theorem dans6 (w0 w : World) (h : Nat) (b : DV) (s : DS) (d : Dl w0 w h b s) (hz : w0.heap.size ≤ w.heap.size) (hA : s.A.length ≤ 900000) (hl : s.rs.length ≤ 1000000) (now : Int) (hn : 0 ≤ now ∧ now ≤ maxT) (v : Value) (bl : Nat) (l : List Ad) (hv : Rd w 17 bl v (l.map Ad.cells)) (hb : l ≠ [] → bl ∉ dfoot h b) (y : Int) (hr : s.resolved = false) (hcn : s.p.canc = false) (ha : s.p.q6.a = false) :
  Calls Tryz.prog 32 #[.pointer (some ⟨h, 0, none⟩), .int .u64 now, .bool true, v, .int .i64 y] w fun e w' => e = .returned (.int .i64 0) ∧ ∃ b', Dl w0 w' h b' (s.ans6 now l y) ∧ Step w w' h b b' := by
 have HR := Lib.hid (dres_any w0 w h b s d false hr)
 obtain ⟨_, _, _, _, _, _, c6, c7, _, _, _, _⟩ := d.cells
 have HAN := Lib.hid (pans6 w0 w b.hq b.v4 b.v6 s.p d.pr hz now hn hcn ha v bl l hv (fun hne hm => hb hne (mem_dfoot.2 ⟨1, hm⟩)))
 have HD := Lib.hid d
 have HZ := Lib.hid hz
 have HL := Lib.hid hl
 have HL16 := Lib.hid (show (ansL true s.p.q6.l l).length ≤ 16 from ansL_len d.pr.n6)
 have HE := Lib.hid (show s.ans6 now l y = { s with p := { s.p with q6 := ⟨true, now, ansL true s.p.q6.l l⟩ }, A := addL s.A (ansL true s.p.q6.l l), rs := if (ansL true s.p.q6.l l).length = 0 then s.rs ++ [whyN y] else s.rs } from rfl)
 rw [HE.out]
 obtain ⟨L, hL⟩ : ∃ L, L = ansL true s.p.q6.l l := ⟨_, rfl⟩
 rw [← hL] at HAN HL16 ⊢
 obtain ⟨RS, hRS⟩ : ∃ RS, RS = (if L.length = 0 then s.rs ++ [whyN y] else s.rs) := ⟨_, rfl⟩
 rw [← hRS]
 have HRS := Lib.hid hRS
 clear d hr hcn ha hv hb hn hz hl HE hL hRS
 go_enter Tryz.func32, Tryz.ntmps32
 go_wp2_with fail
 refine HR.out.mono ?_
 rintro e _ ⟨rfl, rfl⟩
 go_wp2_with fail
 refine HAN.out.mono ?_
 rintro e w1 ⟨v1, rfl, p1, t1, hv1⟩
 have hf := pfoot_6 (h := b.hq) (v4 := b.v4) (v6 := b.v6) hv1
 have HD1 := Lib.hid (HD.out.setP t1 hf.1 p1 hf.2)
 have HS1 := Lib.hid (step_p (h := h) t1 hf.1 hf.2)
 have HZ1 := Lib.hid (show w0.heap.size ≤ w1.heap.size by have := HZ.out; have := t1.size; omega)
 clear p1 t1 hv1 hf HAN HR c6 c7
 go_wp2_with fail
 refine wp_region_held (S := Touch (qfoot b.hc b.va b.vt) w1.drew) (by kernel_rfl) ?_
 change wpAnyH _ _ _ _ _ _ _ _ w1.drew
 have HDX := Lib.hid (HD1.out.touch0 ((Touch.refl [] w1).drew))
 have HSX := Lib.hid (HS1.out.trans (Step.of0 ((Touch.refl [] w1).drew)))
 have HZX := Lib.hid (show w0.heap.size ≤ w1.drew.heap.size from HZ1.out)
 generalize w1.drew = X at *
 have hS := Touch.refl (qfoot b.hc b.va b.vt) X
 have hhq : h ∉ qfoot b.hc b.va b.vt := fun hm => HDX.out.apart 0 2 (by decide) h (by simp [dpart]) hm
 obtain ⟨_, _, _, _, _, _, c6, c7, _, _, _, _⟩ := HDX.out.cells
 refine tkH 0 (.pointer (some ⟨h, 0, none⟩)) ?_
 refine tkH 1 (.pointer (some ⟨h, 0, none⟩)) ?_
 refine tkH 2 (.pointer (some ⟨h, 7, none⟩)) ?_
 refine tkH 3 (.pointer (some ⟨b.hc, 0, none⟩)) ?_ (hy := Or.inl ⟨by rfl, fun w' hw => by (have q := hw.cell c7 hhq; go_simp)⟩)
 refine tkH 4 (.pointer (some ⟨h, 0, none⟩)) ?_
 refine tkH 5 (.pointer (some ⟨h, 0, none⟩)) ?_
 refine tkH 6 (.pointer (some ⟨h, 6, none⟩)) ?_
 refine tkH 7 (.pointer (some ⟨b.hq, 0, none⟩)) ?_ (hy := Or.inl ⟨by rfl, fun w' hw => by (have q := hw.cell c6 hhq; go_simp)⟩)
 refine tkH 8 (.bool true) ?_
 refine wpAnyH_ready (rs := [9]) (by kernel_rfl) (by simp) ?_
 refine cnH rfl (fun K hK => ?_) AllReadyH.nil
 go_simp
 refine (paddrs6 w0 _ b.hq _ _ _ HDX.out.pr).mono ?_
 rintro e w2 ⟨v2, rfl, o2, t2⟩
 have hS2 := hS.trans t2 (by simp)
 have TX2 := Lib.hid t2
 have O2 := Lib.hid (show OwnA X w2 v2 L from o2)
 refine hK.out _ _ hS2 (fun _ => ?_)
 clear hK K hS t2 o2
 have hS := hS2
 clear hS2
 try simp only [Act.put, sT, s0, sS]
 refine wpAnyH_ready (rs := [10]) (by kernel_rfl) (by simp) ?_
 refine cnH rfl (fun K hK => ?_) AllReadyH.nil
 go_simp
 obtain ⟨b2, r2, hb2⟩ := OwnA.rdn O2.out
 have HD9 := HDX.out.touch0 TX2.out
 refine (qadd_any w0 w2 b.hc b.va b.vt s.c.ff s.A s.K HD9.qu (by have := HZX.out; have := TX2.out.size; omega) v2 b2 L r2 (fun hne hm => by have h1 := O2.out.new b2 (hb2 hne); have h2 := (HDX.out.qu.lt b2 hm).2; omega) (by have := HL16.out; omega)).mono ?_
 rintro e w3 ⟨va3, rfl, q3, t3, hv3⟩
 have HFIN := Lib.hid (And.intro (HD9.setQ t3 (foot_add b.hc _ _) q3 (foot_new_add hv3)) (And.intro (HSX.out.trans ((Step.of0 (h := h) (b := { b with v4 := b.v4, v6 := v1 }) TX2.out).trans (step_q (h := h) (b := { b with v4 := b.v4, v6 := v1 }) t3 (foot_add b.hc _ _) (foot_new_add hv3)))) (show w0.heap.size ≤ w3.heap.size by have := HZX.out; have := TX2.out.size; have := t3.size; omega)))
 have hS2 := hS.trans t3 (fun g hg => .inl (foot_add b.hc _ _ g hg))
 clear q3 t3 hv3 r2 hb2 HD9
 refine hK.out _ _ hS2 (fun _ => ?_)
 clear hK K hS
 have hS := hS2
 clear hS2
 try simp only [Act.put, sT, s0, sS]
 refine wpAnyH_done (by kernel_rfl) ?_ _
 try simp only [Act.put, sT, s0, sS]
 clear c6 c7 hS hhq
 have HD2 := Lib.hid HFIN.out.1
 have HS2 := Lib.hid HFIN.out.2.1
 have HZ2 := Lib.hid HFIN.out.2.2
 clear HFIN
 by_cases hn0 : L.length = 0
 ·have HRC := Lib.hid (drec_any w0 w3 h _ _ HD2.out HZ2.out HL.out y)
  have HR2 := Lib.hid (show RS = s.rs ++ [whyN y] by rw [HRS.out, if_pos hn0])
  rw [hn0]
  clear hn0
  go_wp2_with fail
  refine HRC.out.mono ?_
  rintro e w4 ⟨rfl, v4', d4, s4⟩
  have HD4 := Lib.hid d4
  have HS4 := Lib.hid (HS2.out.trans s4)
  clear d4 s4
  go_wp2_with fail
  go_ret
  exact ⟨rfl, _, by rw [HR2.out]; exact HD4.out, HS4.out⟩
 ·have HR2 := Lib.hid (show RS = s.rs by rw [HRS.out, if_neg hn0])
  have hn1 : ((L.length : Int) == 0) = false := by simp; exact fun h => hn0 (by rw [h]; rfl)
  have hn3 : (L.length == 0) = false := by simpa using hn0
  clear hn0
  generalize L.length = nL at *
  go_wp2_with fail
  go_ret
  exact ⟨rfl, _, by rw [HR2.out]; exact HD2.out, HS2.out⟩
end Go.Proofs.YtiklhaajhdephaaGreatDoor

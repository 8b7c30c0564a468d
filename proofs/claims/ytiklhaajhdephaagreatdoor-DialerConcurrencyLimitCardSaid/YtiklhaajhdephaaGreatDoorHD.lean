/-
  Merged texts: Dk.
-/
import Derived.Test.YtiklhaajhdephaaGreatDoorHC
import Derived.Test.YtiklhaajhdephaaGreatDoorGO

/-
 The sanity check of the laws on dialers answers true.
-/
namespace Go.Proofs.YtiklhaajhdephaaGreatDoor
open Go.RowKit
set_option linter.unusedVariables false
set_option linter.unusedSimpArgs false

def dkC : Cfg := ⟨50, 250, 0, 1, 2⟩
def dkS1 : DS := ⟨dkC, false, ⟨50, false, ⟨true, 0, [aqA, aqB]⟩, ⟨false, 0, []⟩⟩, [aqA, aqB], [], 0, [], [], []⟩
def dkS2 : DS := ⟨dkC, false, ⟨50, false, ⟨true, 0, [aqA, aqB]⟩, ⟨false, 0, []⟩⟩, [aqA, aqB], [0], 300, [aqA], [1], []⟩
def dkS3 : DS := ⟨dkC, false, ⟨50, false, ⟨true, 0, [aqA, aqB]⟩, ⟨false, 0, []⟩⟩, [aqA, aqB], [0], 0, [aqA], [], [1]⟩
set_option maxRecDepth 100000 in
theorem dk_ans : ansL false [] [aqA, aqB] = [aqA, aqB] := adq_inj (by decide)
set_option maxRecDepth 100000 in
theorem dk_add : addL [] [aqA, aqB] = [aqA, aqB] := adq_inj (by decide)
set_option maxRecDepth 100000 in
theorem dk_rem1 : remP 1 [aqA, aqB] [] = [aqA, aqB] := adq_inj (by decide)
set_option maxRecDepth 100000 in
theorem dk_rem2 : remP 1 [aqA, aqB] [0] = [aqB] := adq_inj (by decide)
set_option maxRecDepth 100000 in
theorem dk_take : takeK [aqA, aqB] [] aqA = [0] := by decide
theorem dk1 : (initS dkC []).ans4 0 [aqA, aqB] 0 = dkS1 := by
 have e : (initS dkC []).ans4 0 [aqA, aqB] 0 = ⟨dkC, false, ⟨50, false, ⟨true, 0, ansL false [] [aqA, aqB]⟩, ⟨false, 0, []⟩⟩, addL [] (ansL false [] [aqA, aqB]), [], 0, [], [], if (ansL false [] [aqA, aqB]).length = 0 then [] ++ [whyN 0] else []⟩ := rfl
 rw [e]
 simp only [dk_ans, dk_add]
 rfl
theorem dk2 : dkS1.startS 50 0 aqA = dkS2 := by
 have e : dkS1.startS 50 0 aqA = ⟨dkC, false, ⟨50, false, ⟨true, 0, [aqA, aqB]⟩, ⟨false, 0, []⟩⟩, [aqA, aqB], takeK [aqA, aqB] [] aqA, addT 50 (250 + 0 % (0 + 1)), [aqA], [1], []⟩ := rfl
 rw [e, dk_take, show addT 50 (250 + 0 % (0 + 1)) = 300 by simp [addT, maxT]]
 rfl
theorem dk3 : dkS2.fail 1 1 = dkS3 := by
 have e : dkS2.fail 1 1 = ⟨dkC, false, ⟨50, false, ⟨true, 0, [aqA, aqB]⟩, ⟨false, 0, []⟩⟩, [aqA, aqB], [0], 0, [aqA], [1].filter (fun (k : Nat) => !decide ((k : Int) = 1)), [whyN 1]⟩ := rfl
 rw [e, show [1].filter (fun (k : Nat) => !decide ((k : Int) = 1)) = [] by decide, show whyN 1 = 1 by decide]
 rfl
theorem dk_r0 : dkS1.ready 0 = false := by simp [DS.ready, dkS1, PS.ready, PS.complete, addT, maxT]
theorem dk_r1 : dkS1.ready 50 = true := by simp [DS.ready, dkS1, PS.ready, PS.complete, addT, maxT]
theorem dk_r2 : dkS2.ready 50 = true := by simp [DS.ready, dkS2, PS.ready, PS.complete, addT, maxT]
theorem dk_r3 : dkS3.ready 60 = true := by simp [DS.ready, dkS3, PS.ready, PS.complete, addT, maxT]
theorem dk_x1 : dkS1.next = [aqA, aqB] := by
 unfold DS.next
 rw [if_neg (by simp [dkS1, dkC])]
 exact dk_rem1
theorem dk_x2 : dkS2.next = [aqB] := by
 unfold DS.next
 rw [if_neg (by simp [dkS2, dkC])]
 exact dk_rem2
theorem dk_x3 : dkS3.next = [aqB] := by
 unfold DS.next
 rw [if_neg (by simp [dkS3, dkC])]
 exact dk_rem2
theorem dk_c1 : dkS1.cand 0 = [] := by
 unfold DS.cand
 rw [if_pos (.inl dk_r0)]
theorem dk_c2 : dkS1.cand 50 = [aqA, aqB] := by
 unfold DS.cand
 rw [if_neg (by rw [dk_r1]; simp [dkS1]), dk_x1]
theorem dk_c3 : dkS3.cand 60 = [aqB] := by
 unfold DS.cand
 rw [if_neg (by rw [dk_r3]; simp [dkS3]), dk_x3]
theorem dk_n1 : dkS1.nextStart 0 = 50 := by
 unfold DS.nextStart
 rw [dk_x1, dk_r0]
 simp [dkS1, PS.dl, addT, maxT]
 rfl
theorem dk_n2 : dkS2.nextStart 50 = 300 := by
 unfold DS.nextStart
 rw [dk_x2, dk_r2]
 simp [dkS2, addT, maxT]
 rfl
theorem Step.out {w0 w w' : World} {h : Nat} {b b' : DV} {s : DS} (st : Step w w' h b b') (d : Dl w0 w h b s) (t : Touch [] w0 w) : Touch [] w0 w' := t.trans st.t (fun g hg => .inr (by obtain ⟨i, hi⟩ := mem_dfoot.1 hg; exact (d.lt i g hi).1))
theorem Step.away {w w' : World} {h : Nat} {b b' : DV} (st : Step w w' h b b') {g : Nat} (hg : g ∉ dfoot h b) (hl : g < w.heap.size) : g ∉ dfoot h b' := fun hm => by
 rcases st.n g hm with e | e
 ·exact hg e
 ·omega
theorem dk_built : Tryz.prog.built 24 [(0, .int .u64 50), (1, .int .u64 250), (3, .int .i64 1), (4, .int .i64 2)] = some dkC.cells.toArray := by kernel_rfl
def dkZ : Cfg := ⟨0, 0, 0, 0, 0⟩
theorem dk_zero : Tryz.prog.built 24 [] = some dkZ.cells.toArray := by kernel_rfl
set_option maxRecDepth 100000 in
set_option maxHeartbeats 8000000 in
theorem awake29_ok (w : World) : Calls Tryz.prog 15 #[] w fun e w' => e = .returned (.bool true) ∧ Touch [] w w' := by
 obtain ⟨c0, hc0⟩ : ∃ c0, c0 = dkC := ⟨_, rfl⟩
 obtain ⟨cz, hcz⟩ : ∃ cz, cz = dkZ := ⟨_, rfl⟩
 have B0 := Lib.hid dk_built
 have BZ := Lib.hid dk_zero
 rw [← hc0] at B0
 rw [← hcz] at BZ
 have HN0 := Lib.hid (dnew_ok c0 w (.slice none 0 0) 0 [] (by simpa using Rd.nil w 17 0) (by rw [hc0]; rfl) rfl (.inr rfl) (by simp))
 have HNZ := Lib.hid (fun w => dnew_cfg cz w (.slice none 0 0) (by rw [hcz]; rfl))
 have HS0 := Lib.hid (show initS c0 [] = initS dkC [] by rw [hc0])
 have HRS := Lib.hid (show (initS dkC []).resolved = false from rfl)
 clear hc0 hcz
 go_enter Tryz.func15, Tryz.ntmps15
 go_wp2_with ((with_reducible refine at_build 24 ?_); refine wpList_built (by rfl) 24 _ (by rfl) _ _ (by rfl) B0.out ?_)
 refine HN0.out.mono ?_
 rintro e w1 ⟨h, b, rfl, d1, t1⟩
 rw [HS0.out] at d1
 have HSQ := Lib.hid (show (initS dkC []).ans4 0 [aqA, aqB] 0 = dkS1 ∧ (initS dkC []).A.length ≤ 900000 ∧ (initS dkC []).rs.length ≤ 1000000 ∧ (initS dkC []).p.canc = false ∧ (initS dkC []).p.q4.a = false from ⟨dk1, by simp [initS, addL], by simp [initS], rfl, rfl⟩)
 generalize initS dkC [] = S0 at *
 have HD1 := Lib.hid d1
 have HT1 := Lib.hid t1
 clear d1 t1 HN0
 go_wp2_with ((with_reducible refine at_build 24 ?_); refine wpList_built (by rfl) 24 _ (by rfl) _ _ (by rfl) BZ.out ?_)
 refine (HNZ.out w1).mono ?_
 rintro e w2 ⟨rfl, t2⟩
 have HD2 := Lib.hid (HD1.out.touch0 t2)
 have HT2 := Lib.hid (HT1.out.trans t2 (by simp))
 have HRV := Lib.hid (dres_any w w2 h b S0 HD2.out false HRS.out)
 clear t2 HD1 HT1
 go_wp2_with fail
 refine HRV.out.mono ?_
 rintro e _ ⟨rfl, rfl⟩
 go_wp2_with fail
 refine (v4_any 1 2 3 4 _).mono ?_
 rintro e w3 ⟨rfl, t3⟩
 rw [show adr false [1, 2, 3, 4, 0, 0, 0, 0, 0, 0, 0, 0, 0, 0, 0, 0] = aqA.cells from rfl]
 have HD3 := Lib.hid (HD2.out.touch0 t3)
 have HT3 := Lib.hid (HT2.out.trans t3 (by simp))
 clear t3 HD2 HT2 HRV
 go_wp2_with fail
 refine (v4_any 5 6 7 8 _).mono ?_
 rintro e w4 ⟨rfl, t4⟩
 rw [show adr false [5, 6, 7, 8, 0, 0, 0, 0, 0, 0, 0, 0, 0, 0, 0, 0] = aqB.cells from rfl]
 have HD4 := Lib.hid (HD3.out.touch0 t4)
 have HT4 := Lib.hid (HT3.out.trans t4 (by simp))
 clear t4 HD3 HT3
 obtain ⟨a, ha⟩ : ∃ a, a = aqA := ⟨_, rfl⟩
 obtain ⟨b2, hb⟩ : ∃ b, b = aqB := ⟨_, rfl⟩
 have HC2 := Lib.hid dk_c2
 have HC3 := Lib.hid dk_c3
 have HK2 := Lib.hid dk2
 rw [← ha, ← hb] at HC2
 rw [← hb] at HC3
 rw [← ha] at HK2
 rw [← ha, ← hb] at HSQ ⊢
 have HLW := Lib.hid (show ∀ g ∈ dfoot h b, g < w4.heap.size from fun g hg => by obtain ⟨i, hi⟩ := mem_dfoot.1 hg; exact (HD4.out.lt i g hi).2)
 have HAA := Lib.hid ha
 have HBB := Lib.hid hb
 have HLA := Lib.hid a.len
 have HLB := Lib.hid b2.len
 have G1 := Lib.hid (heap_alloc_new w4 (.cells (adr false (List.replicate 16 0)).toArray 40))
 have G2 := Lib.hid (heap_alloc_new (w4.alloc (.cells (adr false (List.replicate 16 0)).toArray 40)) (.cells (adr false (List.replicate 16 0)).toArray 40))
 have HZ4 := Lib.hid (show (w4.alloc (.cells (adr false (List.replicate 16 0)).toArray 40)).heap.size = w4.heap.size + 1 by simp)
 rw [HZ4.out] at G2
 have G1b := Lib.hid (((Touch.refl [] (w4.alloc (.cells (adr false (List.replicate 16 0)).toArray 40))).alloc (.cells (adr false (List.replicate 16 0)).toArray 40)).at G1.out (by simp))
 have TQ := Lib.hid (((Touch.refl [] w4).alloc (.cells (adr false (List.replicate 16 0)).toArray 40)).alloc (.cells (adr false (List.replicate 16 0)).toArray 40))
 clear ha hb HZ4
 go_wp2_with ((with_reducible refine at_store 40 ?_); refine wpList_store_into rfl 40 _ _ rfl w4.heap.size 40 _ a.cells rfl rfl G1b.out (by rw [HLA.out]; rfl) (by rw [size31, HLA.out]) a.one ?_)
 intro w6 h6 t6 z6
 have A1 := Lib.hid (range_block h6)
 have G2b := Lib.hid (t6.at G2.out (by simp))
 have TQ6 := Lib.hid (TQ.out.trans t6 (by intro y hy; right; simp at hy; omega))
 clear h6 t6 z6 G1 G1b G2 TQ
 go_wp2_with ((with_reducible refine at_store 40 ?_); refine wpList_store_into rfl 40 _ _ rfl (w4.heap.size + 1) 40 _ b2.cells rfl rfl G2b.out (by rw [HLB.out]; rfl) (by rw [size31, HLB.out]) b2.one ?_)
 intro w7 h7 t7 z7
 have rb := range_block h7
 have ra := t7.range A1.out (by simp)
 have TQ7 := TQ6.out.trans t7 (by intro y hy; right; simp at hy; omega)
 have HD7 := Lib.hid (HD4.out.touch0 TQ7)
 have HT7 := Lib.hid (HT4.out.trans TQ7 (by simp))
 have HGL := Lib.hid (show w4.heap.size ≤ w4.heap.size + 1 by omega)
 generalize w4.heap.size + 1 = gb at *
 generalize w4.heap.size = ga at *
 clear h7 t7 z7 TQ7 TQ6 A1 G2b HD4 HT4
 go_wp2_with (first
  | ((with_reducible refine at_load 40 ?_); refine wpList_load_mid rfl 40 _ rfl ga 0 rfl a.cells _ ra Tryz.underlying40 rfl (by rw [size31, HLA.out]) ?_)
  | ((with_reducible refine at_load 40 ?_); refine wpList_load_mid rfl 40 _ rfl gb 0 rfl b2.cells _ rb Tryz.underlying40 rfl (by rw [size31, HLB.out]) ?_)
  | ((with_reducible refine at_bs 35 2 ?_); refine wpList_build_ads (by rfl) 2 _ rfl [a, b2] rfl (by omega) (by rfl) ?_))
 obtain ⟨w8, hw8⟩ : ∃ x, x = w7.alloc (.cells (a.cells ++ b2.cells).toArray 40) := ⟨_, rfl⟩
 rw [← hw8]
 rw [show a.cells ++ b2.cells = ([a, b2].map Ad.cells).flatten by simp] at hw8
 have t8 : Touch [] w7 w8 := by rw [hw8]; exact (Touch.refl [] w7).alloc _
 have r8 : Rd w8 17 w7.heap.size (.slice (some ⟨w7.heap.size, 0, none⟩) 2 2) ([a, b2].map Ad.cells) := by rw [hw8]; exact Rd.newA w7 [a, b2] (by simp)
 clear hw8
 have HD8 := Lib.hid (HD7.out.touch0 t8)
 have HT8 := Lib.hid (HT7.out.trans t8 (by simp))
 have rb8 := t8.range rb (by simp)
 have HGB := Lib.hid (show gb ∉ dfoot h b from fun hm => by have := HLW.out gb hm; have := HGL.out; omega)
 have HG8 := Lib.hid (show gb < w8.heap.size from World.block_lt_of_cell? w8 _ (rb8 0 _ (List.getElem?_eq_getElem (by rw [HLB.out]; omega))))
 have HAN := Lib.hid (dans4 w w8 h b S0 HD8.out HT8.out.size HSQ.out.2.1 HSQ.out.2.2.1 0 (by decide) _ w7.heap.size [a, b2] r8 (fun _ hm => by
  obtain ⟨i, hi⟩ := mem_dfoot.1 hm
  have := (HD7.out.lt i _ hi).2
  omega) 0 HRS.out HSQ.out.2.2.2.1 HSQ.out.2.2.2.2)
 rw [HSQ.out.1] at HAN
 clear t8 r8 ra rb HD7 HT7
 go_wp2_with fail
 refine HAN.out.mono ?_
 rintro e w9 ⟨rfl, b9, d9, s9⟩
 have HD9 := Lib.hid d9
 have HT9 := Lib.hid (s9.out HD8.out HT8.out)
 have HG9 := Lib.hid (s9.away HGB.out HG8.out)
 have HR9 := Lib.hid (s9.t.range rb8 HGB.out)
 have HL9 := Lib.hid (Nat.lt_of_lt_of_le HG8.out s9.t.size)
 have HCA := Lib.hid (dcand_any w w9 h b9 dkS1 d9 (by simp [dkS1]) 0 (by decide))
 rw [dk_c1] at HCA
 have HZL := Lib.hid (headA []).len
 have HZO := Lib.hid (headA []).one
 clear d9 s9 rb8 HAN HD8 HT8 HGB HG8
 generalize headA [] = za at *
 go_wp2_with fail
 refine HCA.out.mono ?_
 rintro e w10 ⟨rfl, t10⟩
 have HN := Lib.hid (heap_alloc_new w10 (.cells (adr false (List.replicate 16 0)).toArray 40))
 have HA := Lib.hid ((Touch.refl [] w10).alloc (.cells (adr false (List.replicate 16 0)).toArray 40))
 have HTA := Lib.hid t10
 clear t10 HCA
 go_wp2_with ((with_reducible refine at_store 40 ?_); refine wpList_store_into rfl 40 _ _ rfl w10.heap.size 40 _ za.cells rfl rfl HN.out (by rw [HZL.out]; rfl) (by rw [size31, HZL.out]) HZO.out ?_)
 intro w11 h11 t11 z11
 have t11' := HTA.out.trans (HA.out.trans t11 (by intro y hy; right; simp at hy; omega)) (by simp)
 have HD11 := Lib.hid (HD9.out.touch0 t11')
 have HT11 := Lib.hid (HT9.out.trans t11' (by simp))
 have HR11 := Lib.hid (t11'.range HR9.out (by simp))
 have HL11 := Lib.hid (Nat.lt_of_lt_of_le HL9.out t11'.size)
 have HNS := Lib.hid (dns_any w w11 h b9 dkS1 HD11.out (by simp [dkS1]) 0 (by decide) 50 dk_n1)
 clear h11 t11 z11 t11' HN HA HTA HD9 HT9 HR9 HL9
 go_wp2_with fail
 refine HNS.out.mono ?_
 rintro e w12 ⟨rfl, t12⟩
 have HD12 := Lib.hid (HD11.out.touch0 t12)
 have HT12 := Lib.hid (HT11.out.trans t12 (by simp))
 have HR12 := Lib.hid (t12.range HR11.out (by simp))
 have HL12 := Lib.hid (Nat.lt_of_lt_of_le HL11.out t12.size)
 have HST := Lib.hid (dstart_yes w w12 h b9 dkS1 HD12.out HT12.out.size (by simp [dkS1]) (by simp [dkS1]) (by simp [dkS1]) (by decide) 50 0 (by decide) (by decide) a [b2] HC2.out)
 rw [HK2.out] at HST
 clear t12 HNS HD11 HT11 HR11 HL11
 go_wp2_with fail
 refine HST.out.mono ?_
 rintro e w13 ⟨rfl, b13, d13, s13⟩
 have HD13 := Lib.hid d13
 have HT13 := Lib.hid (s13.out HD12.out HT12.out)
 have HG13 := Lib.hid (s13.away HG9.out HL12.out)
 have HR13 := Lib.hid (s13.t.range HR12.out HG9.out)
 have HL13 := Lib.hid (Nat.lt_of_lt_of_le HL12.out s13.t.size)
 have HNS := Lib.hid (dns_any w w13 h b13 dkS2 d13 (by simp [dkS2]) 50 (by decide) 300 dk_n2)
 have HSL := Lib.hid (show dkS1.S.length + 1 = 1 from rfl)
 rw [HSL.out]
 clear d13 s13 HST HD12 HT12 HR12 HL12 HG9
 go_wp2_with fail
 refine HNS.out.mono ?_
 rintro e w14 ⟨rfl, t14⟩
 have HD14 := Lib.hid (HD13.out.touch0 t14)
 have HT14 := Lib.hid (HT13.out.trans t14 (by simp))
 have HR14 := Lib.hid (t14.range HR13.out (by simp))
 have HL14 := Lib.hid (Nat.lt_of_lt_of_le HL13.out t14.size)
 have HFA := Lib.hid (dfail_yes w w14 h b13 dkS2 HD14.out HT14.out.size (by simp [dkS2]) 1 1 (okZ_nat (n := 1) (by omega)) (by decide))
 rw [dk3] at HFA
 clear t14 HNS HD13 HT13 HR13 HL13
 go_wp2_with fail
 refine HFA.out.mono ?_
 rintro e w15 ⟨rfl, b15, d15, s15⟩
 have HD15 := Lib.hid d15
 have HT15 := Lib.hid (s15.out HD14.out HT14.out)
 have HR15 := Lib.hid (s15.t.range HR14.out HG13.out)
 have HCA := Lib.hid (dcand_any w w15 h b15 dkS3 d15 (by simp [dkS3]) 60 (by decide))
 rw [HC3.out] at HCA
 simp only [headA, List.isEmpty_cons, Bool.not_false] at HCA
 clear d15 s15 HFA HD14 HT14 HR14 HL14 HG13
 go_wp2_with fail
 refine HCA.out.mono ?_
 rintro e w16 ⟨rfl, t16⟩
 have HTA := Lib.hid t16
 have HR16 := Lib.hid (t16.range HR15.out (by simp))
 have HN := Lib.hid (heap_alloc_new w16 (.cells (adr false (List.replicate 16 0)).toArray 40))
 have HA := Lib.hid ((Touch.refl [] w16).alloc (.cells (adr false (List.replicate 16 0)).toArray 40))
 clear t16 HCA HR15
 go_wp2_with ((with_reducible refine at_store 40 ?_); refine wpList_store_into rfl 40 _ _ rfl w16.heap.size 40 _ b2.cells rfl rfl HN.out (by rw [HLB.out]; rfl) (by rw [size31, HLB.out]) b2.one ?_)
 intro w17 h17 t17 z17
 have t17' := HA.out.trans t17 (by intro y hy; right; simp at hy; omega)
 have HT17 := Lib.hid (HT15.out.trans (HTA.out.trans t17' (by simp)) (by simp))
 have r1 := range_block h17
 have r2 := t17'.range HR16.out (by simp)
 have HEE := Lib.hid (eq_ad_t b2 b2 rfl w17)
 generalize w16.heap.size = gc at *
 clear h17 t17 z17 t17' HN HA HTA HR16 HT15 HD15
 go_wp2_with (first
  | ((with_reducible refine at_load_g 40 _ _ ?_); refine wpList_load_gg _ _ rfl (by rfl) 40 _ rfl gc 0 rfl b2.cells _ r1 Tryz.underlying40 rfl (by rw [size31, HLB.out]) ?_)
  | ((with_reducible refine at_load_g 40 _ _ ?_); refine wpList_load_gg _ _ rfl (by rfl) 40 _ rfl gb 0 rfl b2.cells _ r2 Tryz.underlying40 rfl (by rw [size31, HLB.out]) ?_)
  | ((with_reducible refine at_bin .eql 40 ?_); refine wpList_eql_g (by rfl) 40 _ _ _ rfl b2.cells.toArray b2.cells.toArray rfl rfl (by kernel_rfl) true HEE.out ?_))
 go_ret
 exact ⟨rfl, HT17.out⟩
end Go.Proofs.YtiklhaajhdephaaGreatDoor

/-
 The statement 'DialerConcurrencyLimitSaid' of the seat: the frame of the row round the walk of the law's Go function (YtiklhaajhdephaaGreatDoorW12): for every input the call returns true and each argument reads as it did.
-/
import Derived.Test.YtiklhaajhdephaaGreatDoorIG
import Derived.Test.YtiklhaajhdephaaGreatDoorIF
import Derived.Test.YtiklhaajhdephaaGreatDoorNG1
import Derived.WalkKit
import Derived.ProofKit
import Derived.OpenShut
import Derived.ShutString
import Derived.ChangeOld
import Derived.Below
import Derived.Test.YtiklhaajhdephaaGreatDoorTie
import Derived.Test.YtiklhaajhdephaaGreatDoorCards
import Derived.LaidMore
import Derived.Lay
import Derived.SevenTiedAt
import Derived.Stop.Joined
import Derived.MakeChecks

/-
 The walk of DialerConcurrencyLimit: true at every configuration and every list of operations.
-/
namespace Go.Proofs.YtiklhaajhdephaaGreatDoor.dialerConcurrencyLimit
open Go.RowKit Go.Deep
set_option linter.unusedVariables false
set_option linter.unusedSimpArgs false

theorem built_two (hI hR : Nat) : Tryz.prog.built 34 [(0, .pointer (some ⟨hI, 0, none⟩)), (1, .pointer (some ⟨hR, 0, none⟩))] = some #[.pointer (some ⟨hI, 0, none⟩), .pointer (some ⟨hR, 0, none⟩)] := by kernel_rfl
theorem sizeTwo : (Tryz.prog.info? 34).map (·.size) = some 2 := by kernel_rfl
theorem sizeOp : (Tryz.prog.info? 37).map (·.size) = some 7 := by kernel_rfl
theorem two_new {w0 w4 w5 : World} {hI hR : Nat} {bI : DV} {bR : RV} {g : Cfg} (hc : g.valid = true) (d4 : Dl w0 w4 hI bI (initS g [])) (t4 : Touch [] w0 w4) (d5 : Rdl w4 w5 hR bR (initS g []) []) (t5 : Touch [] w4 w5) : Two w0 w5 hI bI hR bR (initS g []) (initS g []) 0 := by
 refine ⟨d4.touch0 t5, d5.older t4.size, Ok.init hc (by simp), Ok.init hc (by simp), fun x hx hm => ?_⟩
 obtain ⟨i, hi⟩ := mem_dfoot.1 hx
 obtain ⟨j, hj⟩ := mem_rfoot.1 hm
 have := (d4.lt i x hi).2
 have := (d5.lt j x hj).1
 omega
/-- What goes from round to round. -/
structure Carry (w w2 wr : World) (hI : Nat) (bI : DV) (hR : Nat) (bR : RV) (s t : DS) (N : Nat) (g : Cfg) (gC g7 : Nat) (v : Value) (L : List Ad) : Prop where
 two : Two w2 wr hI bI hR bR s t N
 own : OwnA w2 wr v L
 off : ∀ q, v.ownBlock = some q → q ∉ bfoot hI bI hR bR
 row : wr.heap[g7]? = some (.cells #[.pointer (some ⟨hI, 0, none⟩), .pointer (some ⟨hR, 0, none⟩)] 34 (0, 0))
 rowf : g7 ∉ bfoot hI bI hR bR
 rowv : v.ownBlock ≠ some g7
 cfg : wr.rangeAt gC 0 g.cells
 gc : gC < w2.heap.size
 t0 : Touch [] w wr
 z0 : w.heap.size ≤ w2.heap.size
 z : w2.heap.size ≤ wr.heap.size
 c : s.c = g
section
variable {w w2 wr w' : World} {hI : Nat} {bI bI' : DV} {hR : Nat} {bR bR' : RV} {s t s' t' : DS} {N N' : Nat} {g : Cfg} {gC g7 : Nat} {v v' : Value} {L L' : List Ad}
theorem Carry.touch0 (C : Carry w w2 wr hI bI hR bR s t N g gC g7 v L) (T : Touch [] wr w') : Carry w w2 w' hI bI hR bR s t N g gC g7 v L :=
 ⟨C.two.touch0 T, Own.touch C.own T (by simp), C.off, T.at C.row (by simp), C.rowf, C.rowv, T.range C.cfg (by simp), C.gc, C.t0.trans T (by simp), C.z0, Nat.le_trans C.z T.size, C.c⟩
theorem Carry.app (C : Carry w w2 wr hI bI hR bR s t N g gC g7 v L) (T : Touch v.ownBlock.toList wr w') (o : OwnA w2 w' v' L') (hv : v'.ownBlock = v.ownBlock ∨ ∃ k, v'.ownBlock = some k ∧ wr.heap.size ≤ k) : Carry w w2 w' hI bI hR bR s t N g gC g7 v' L' := by
 have hlt := C.two.lt
 refine ⟨C.two.touch T (fun q hq hm => C.off q (by simpa using hm) hq), o, fun q hq hm => ?_, T.at C.row (by simpa using C.rowv), C.rowf, fun e => ?_, T.range C.cfg (fun hm => by have := C.own.new gC (by simpa using hm); have := C.gc; omega), C.gc, C.t0.trans T (fun q hq => .inr (by have := C.own.new q (by simpa using hq); have := C.z0; omega)), C.z0, Nat.le_trans C.z T.size, C.c⟩
 ·rcases hv with e | ⟨k, e, hk⟩
  ·rw [e] at hq; exact C.off q hq hm
  ·rw [e] at hq; cases hq; have := (hlt _ hm).2; omega
 ·rcases hv with e2 | ⟨k, e2, hk⟩
  ·rw [e2] at e; exact C.rowv e
  ·rw [e2] at e; cases e; have := (Array.getElem?_eq_some_iff.1 C.row).1; omega
theorem Carry.step (C : Carry w w2 wr hI bI hR bR s t N g gC g7 v L) (st : BStep wr w' hI bI bI' hR bR bR') (B : Two w2 w' hI bI' hR bR' s' t' N') (hc : s'.c = s.c) : Carry w w2 w' hI bI' hR bR' s' t' N' g gC g7 v L :=
 ⟨B, Own.touch C.own st.t (fun q hq => C.off q hq), fun q hq => st.away (C.off q hq) (Own.lt C.own q hq), st.t.at C.row C.rowf, st.away C.rowf (Array.getElem?_eq_some_iff.1 C.row).1, C.rowv, st.t.range C.cfg (fun hm => by have := (C.two.lt _ hm).1; have := C.gc; omega), C.gc, C.t0.trans st.t (fun q hq => .inr (by have := (C.two.lt q hq).1; have := C.z0; omega)), C.z0, Nat.le_trans C.z st.t.size, by rw [hc, C.c]⟩
theorem Carry.far (C : Carry w w2 wr hI bI hR bR s t N g gC g7 v L) {b : Nat} (hb : b < w.heap.size) : b ∉ bfoot hI bI hR bR := fun hm => by have := (C.two.lt b hm).1; have := C.z0; omega
end
theorem take_snoc {L : List Ad} {k : Nat} {a : Ad} (h : L[k]? = some a) : L.take k ++ [a] = L.take (k + 1) := by
 obtain ⟨hk, rfl⟩ := List.getElem?_eq_some_iff.1 h
 rw [List.take_append_getElem]
theorem nodup_take {L : List Ad} (h : L.Nodup) {k : Nat} {a : Ad} (ha : L[k]? = some a) : inL (L.take k) a = false := by
 unfold inL
 simp only [decide_eq_false_iff_not]
 intro hm
 obtain ⟨j, hj, e⟩ := List.mem_take_iff_getElem.1 hm
 obtain ⟨hk, e2⟩ := List.getElem?_eq_some_iff.1 ha
 exact List.pairwise_iff_getElem.1 h j k (by omega) hk (by omega) (e.trans e2.symm)
theorem not_in {L : List Ad} {a : Ad} (h : a ∉ L) : inL L a = false := by
 unfold inL
 simpa using h
theorem pre_take {L L' : List Ad} (h : L <+: L') : L'.take L.length = L := by
 obtain ⟨R, rfl⟩ := h
 simp
theorem asc {l : List Nat} (h : l.Pairwise (· < ·)) {j a b : Nat} (ha : l[j]? = some a) (hb : l[j + 1]? = some b) : a < b := by
 obtain ⟨h1, rfl⟩ := List.getElem?_eq_some_iff.1 ha
 obtain ⟨h2, rfl⟩ := List.getElem?_eq_some_iff.1 hb
 exact List.pairwise_iff_getElem.1 h _ _ _ _ (by omega)
set_option maxRecDepth 100000 in
set_option maxHeartbeats 16000000 in
theorem walk0 (c : Cfg) (ok : c.Ok) (w : World) (al : Option Addr) (nl cl : Nat) (ho : Ops w al nl) (hnl : nl ≤ 9223372036854775807) :
  Calls Tryz.prog 3 #[.agg c.cells.toArray, .slice al nl cl] w fun e w' => e = .returned (.bool true) ∧ Touch [] w w' := by
 have HT := Lib.hid ((Touch.refl [] w).alloc (.cells c.cells.toArray 24))
 have hrow := range_new w c.cells 24
 have HBX := Lib.hid (heap_alloc_new w (.cells c.cells.toArray 24))
 have HCL := Lib.hid c.len
 have HO := Lib.hid ho
 have HGC := Lib.hid (gcfg_any c ok (w.alloc (.cells c.cells.toArray 24)))
 have HGV := Lib.hid c.gen_valid
 clear ok ho
 generalize c.gen = g at *
 go_enter Tryz.func3, Tryz.ntmps3
 go_wp2_with ((with_reducible refine at_load 24 ?_); refine wpList_load_mid rfl 24 _ rfl w.heap.size 0 rfl c.cells _ hrow Tryz.underlying24 rfl (by rw [sizeCf, HCL.out]) ?_)
 refine HGC.out.mono ?_
 rintro e w1 ⟨rfl, t1⟩
 have HB1 := Lib.hid (t1.at HBX.out (by simp))
 have HT1 := Lib.hid (HT.out.trans t1 (by simp))
 clear t1 hrow HBX HGC HT
 go_wp2_with ((with_reducible refine at_store 24 ?_); refine wpList_store_into rfl 24 _ _ rfl w.heap.size 24 _ g.cells rfl rfl HB1.out (by rfl) sizeCf g.one ?_)
 intro w2 h2 t2 z2
 have HT2 := Lib.hid (HT1.out.trans t2 (by intro y hy; right; simp at hy; omega))
 have hrr := range_block h2
 have HRR := Lib.hid hrr
 have HGCL := Lib.hid (Array.getElem?_eq_some_iff.1 h2).1
 have HNW := Lib.hid (dnew_ok g w2 (.slice none 0 0) 0 [] (by simpa using Rd.nil w2 17 0) HGV.out rfl (.inr rfl) (by simp))
 clear h2 t2 z2 HB1 HT1
 go_wp2_with ((with_reducible refine at_load 24 ?_); refine wpList_load_mid rfl 24 _ rfl w.heap.size 0 rfl g.cells _ hrr Tryz.underlying24 rfl (by rw [sizeCf]; rfl) ?_)
 refine HNW.out.mono ?_
 rintro e w4 ⟨hI, bI, rfl, d4, t4⟩
 have HD4 := Lib.hid d4
 have HT4 := Lib.hid t4
 have r4 := t4.range HRR.out (by simp)
 have HRN := Lib.hid (rnew_any g w4 (.slice none 0 0) 0 [] (by simpa using Rd.nil w4 17 0) HGV.out (fun hne => absurd rfl hne) (by simp))
 clear d4 t4 hrr HNW
 go_wp2_with ((with_reducible refine at_load 24 ?_); refine wpList_load_mid rfl 24 _ rfl w.heap.size 0 rfl g.cells _ r4 Tryz.underlying24 rfl (by rw [sizeCf]; rfl) ?_)
 refine HRN.out.mono ?_
 rintro e w5 ⟨hR, bR, rfl, d5, t5⟩
 have HB5 := Lib.hid (two_new HGV.out HD4.out HT4.out d5 t5)
 have HT5 := Lib.hid (HT2.out.trans (HT4.out.trans t5 (by simp)) (by simp))
 have HR5 := Lib.hid ((HT4.out.trans t5 (by simp)).range HRR.out (by simp))
 have HG5 := Lib.hid (heap_alloc_new w5 (.cells #[.pointer (some ⟨hI, 0, none⟩), .pointer (some ⟨hR, 0, none⟩)] 34))
 have HA5 := Lib.hid ((Touch.refl [] w5).alloc (.cells #[.pointer (some ⟨hI, 0, none⟩), .pointer (some ⟨hR, 0, none⟩)] 34))
 have HZ5 := Lib.hid (show w2.heap.size ≤ w5.heap.size by have h2 := HT4.out.size; have h3 := t5.size; omega)
 clear d5 t5 r4 HRN HD4 HT4 HRR
 go_wp2_with (first
  | ((with_reducible refine at_build 34 ?_); refine wpList_built (by rfl) 34 _ (by rfl) _ _ (by rfl) (built_two hI hR) ?_)
  | ((with_reducible refine at_store 34 ?_); refine wpList_store_new rfl 34 _ _ rfl _ _ [.pointer (some ⟨hI, 0, none⟩), .pointer (some ⟨hR, 0, none⟩)] (by rfl) (by rfl) rfl sizeTwo (by simp [Value.oneCell']) ?_))
 have HC0 := Lib.hid (show Carry w w2 (w5.alloc (.cells #[.pointer (some ⟨hI, 0, none⟩), .pointer (some ⟨hR, 0, none⟩)] 34)) hI bI hR bR (initS g []) (initS g []) 0 g w.heap.size w5.heap.size (.slice none 0 0) [] from
  ⟨HB5.out.touch0 HA5.out, Own.nil _ _, by simp [Value.ownBlock], HG5.out, fun hm => by have := (HB5.out.lt _ hm).2; omega, by simp [Value.ownBlock], HA5.out.range HR5.out (by simp), HGCL.out, HT5.out.trans HA5.out (by simp), HT2.out.size, Nat.le_trans HZ5.out HA5.out.size, rfl⟩)
 generalize w5.alloc (.cells #[.pointer (some ⟨hI, 0, none⟩), .pointer (some ⟨hR, 0, none⟩)] 34) = w6 at *
 generalize w5.heap.size = g7 at *
 generalize hgC : w.heap.size = gC at *
 have HGC := Lib.hid hgC
 clear HB5 HT5 HZ5 HA5 HG5 HR5 hgC HGCL
 go_loopw [8, 9, 10] (fun v8 v9 v10 wr => ∃ (i : Nat) (s t : DS) (bI : DV) (bR : RV) (now : Int), i ≤ nl ∧ i ≤ 60 ∧ v10 = .int .i64 i ∧ v8 = .int .u64 now ∧ 0 ≤ now ∧ now ≤ 29 * i ∧ Carry w w2 wr hI bI hR bR s t (2 * i) g gC g7 v9 s.S) (fun _ _ v10 _ => 60 - (intOf v10).toNat)
 case atStart => exact ⟨0, initS g [], initS g [], bI, bR, 0, by omega, by omega, rfl, rfl, by omega, by omega, HC0.out⟩
 case round =>
  obtain ⟨i, s, t, bI, bR, now, hin, hi60, rfl, rfl, hn0, hn1, hC⟩ := hrel
  have HC := Lib.hid hC
  clear hC HC0
  by_cases hlt : i < nl ∧ i < 60
  ·obtain ⟨hlt, hl5⟩ := hlt
   obtain ⟨b, o, kd, f, v, wy, tr, draw, pass, bl, xs, rfl, hop, hrd, hx, hd, hp⟩ := HO.out i hlt
   have HLO := Lib.hid (show b < w.heap.size from World.block_lt_of_cell? w _ (hop 0 _ rfl))
   have HOP0 := Lib.hid hop
   have HRD0 := Lib.hid hrd
   have HXS := Lib.hid hx
   have HDR := Lib.hid hd
   obtain ⟨hp0, hp1⟩ := hp
   have HOP := Lib.hid (HC.out.t0.range hop (by simp))
   have hwi : IntKind.i64.wrap ((i : Int) + 1) = (i : Int) + 1 := by rw [IntKind.wrap_i64] <;> omega
   have hlt2 : (i : Int) < (nl : Int) := by omega
   have hl52 : (i : Int) < 60 := by omega
   have cp := HOP.out 6 _ rfl
   have tm30 := Int.tmod_eq_emod_of_nonneg (b := 30) hp0
   have hm30 := Int.emod_nonneg pass (show (30 : Int) ≠ 0 by omega)
   have hm30b := Int.emod_lt_of_pos pass (show (0 : Int) < 30 by omega)
   have wa30 := wrap_u64 (n := now + pass % 30) (by omega) (by unfold maxT; omega)
   have hnw0 : 0 ≤ now + pass % 30 := by omega
   have hnw1 : now + pass % 30 ≤ 29 * (i + 1) := by omega
   have HNW := Lib.hid (show 0 ≤ now + pass % 30 ∧ now + pass % 30 ≤ maxT from ⟨hnw0, by unfold maxT; omega⟩)
   have HAL := Lib.hid (show s.A.length ≤ 20 by have := HC.out.two.oi.a17; omega)
   have HCI := Lib.hid (dcand_any w2 wr hI bI s HC.out.two.di HAL.out _ HNW.out)
   generalize pass % 30 = p30 at *
   clear hop hrd hx hd hlt hl5
   go_wp2_with fail
   generalize now + p30 = nw at *
   refine HCI.out.mono ?_
   rintro e u1 ⟨rfl, t1⟩
   have HT1 := Lib.hid t1
   have HN1 := Lib.hid (heap_alloc_new u1 (.cells (adr false (List.replicate 16 0)).toArray 40))
   have HA1 := Lib.hid ((Touch.refl [] u1).alloc (.cells (adr false (List.replicate 16 0)).toArray 40))
   clear t1 cp HCI HOP
   cases hc : s.cand nw
   case' nil =>
    have HXL := Lib.hid zAd.len
    obtain ⟨x, hx⟩ : ∃ x, x = zAd := ⟨_, rfl⟩
    rw [show headA [] = x by rw [hx]; rfl]
    rw [← hx] at HXL
    have HHC := Lib.hid hc
    clear hx hc
    simp only [List.isEmpty_nil, Bool.not_true]
    go_wp2_with ((with_reducible refine at_store 40 ?_); refine wpList_store_into rfl 40 _ _ rfl u1.heap.size 40 _ x.cells rfl rfl HN1.out (by rw [HXL.out]; rfl) (by rw [size31, HXL.out]) x.one ?_)
    intro u2 h2 t2 z2
    have t2' := HT1.out.trans (HA1.out.trans t2 (by intro y hy; right; simp at hy; omega)) (by simp)
    have HC2 := Lib.hid (HC.out.touch0 t2')
    have cd := (HC2.out.t0.range HOP0.out (by simp)) 5 _ rfl
    have HST := Lib.hid (dstart_no w2 u2 hI bI s HC2.out.two.di HAL.out nw draw HNW.out HHC.out)
    clear h2 t2 z2 t2' HC HT1 HN1 HA1
    generalize u1.heap.size = gX at *
    go_wp2_with fail
    refine HST.out.mono ?_
    rintro e u3 ⟨rfl, t3⟩
    have HC4 := Lib.hid (HC2.out.touch0 t3)
    clear t3 cd HST HC2
    have HC5 := Lib.hid (show Carry w w2 u3 hI bI hR bR s t (2 * i + 1) g gC g7 _ s.S from { HC4.out with two := HC4.out.two.more (by omega) })
    go_wp2_with fail
    clear HC4 HXL HHC HAL
    rename World => u5
   case' cons a r =>
    have HXL := Lib.hid a.len
    have HHC := Lib.hid hc
    clear hc
    simp only [List.isEmpty_cons, Bool.not_false, headA]
    go_wp2_with ((with_reducible refine at_store 40 ?_); refine wpList_store_into rfl 40 _ _ rfl u1.heap.size 40 _ a.cells rfl rfl HN1.out (by rw [HXL.out]; rfl) (by rw [size31, HXL.out]) a.one ?_)
    intro u2 h2 t2 z2
    have t2' := HT1.out.trans (HA1.out.trans t2 (by intro y hy; right; simp at hy; omega)) (by simp)
    have HC2 := Lib.hid (HC.out.touch0 t2')
    have cd := (HC2.out.t0.range HOP0.out (by simp)) 5 _ rfl
    have HXR := Lib.hid h2
    have HXF := Lib.hid (show u1.heap.size ∉ bfoot hI bI hR bR from fun hm => by have := (HC.out.two.lt _ hm).2; have := HT1.out.size; omega)
    have HST := Lib.hid (dstart_yes w2 u2 hI bI s HC2.out.two.di HC2.out.z HAL.out (by have := HC2.out.two.oi.k17; omega) HC2.out.two.oi.actb HC2.out.two.oi.cfg nw draw HNW.out HDR.out a r HHC.out)
    have HOS := Lib.hid (HC2.out.two.oi.start HNW.out HDR.out HHC.out)
    obtain ⟨m, hm⟩ : ∃ m, m = s.S.length := ⟨_, rfl⟩
    have HM := Lib.hid hm
    have hm64 : m ≤ 64 := by rw [hm]; exact HC2.out.two.oi.st
    rw [← hm] at HST
    clear h2 t2 z2 t2' HC HT1 HN1 HA1 hm
    generalize u1.heap.size = gX at *
    go_wp2_with fail
    refine HST.out.mono ?_
    rintro e u3 ⟨rfl, bI2, d3, st3⟩
    have hlf := HC2.out.two.left d3 st3 (HOS.out.1.more (show 2 * i ≤ 2 * i + 1 by omega)) (by omega)
    have HC4 := Lib.hid (HC2.out.step hlf.2 hlf.1 rfl)
    have HXR3 := Lib.hid (st3.t.at HXR.out (fun hm => HXF.out (List.mem_append_left _ hm)))
    have hrx := range_block HXR3.out
    obtain ⟨b9, rd9, hb9⟩ := HC4.out.own.rdn
    obtain ⟨a9, c9, hv9, _, _, _⟩ := HC4.out.own.form
    rw [← HM.out] at hv9
    have HV9 := Lib.hid hv9
    have HHA := Lib.hid (rhas_any _ b9 s.S a u3 rd9)
    rw [not_in HOS.out.2.1] at HHA
    have hwm : IntKind.i64.wrap ((m : Int) + 1) = (m : Int) + 1 := by rw [IntKind.wrap_i64] <;> omega
    have hmm : (((m + 1 : Nat) : Int) != (m : Int) + 1) = false := by simp
    clear d3 st3 hlf cd HST HC2 rd9 hb9 HXR
    subst hv9
    clear HV9
    go_wp2_with ((with_reducible refine at_load_g 40 _ _ ?_); refine wpList_load_gg _ _ rfl (by rfl) 40 _ rfl gX 0 rfl a.cells _ hrx Tryz.underlying40 rfl (by rw [size31, HXL.out]) ?_)
    refine HHA.out.mono ?_
    rintro e u4 ⟨rfl, t4⟩
    have HC6 := Lib.hid (HC4.out.touch0 t4)
    have hrx := t4.range hrx (by simp)
    have hll : (s.S.length + 1) * 17 ≤ 140737488355328 := by rw [← HM.out]; omega
    clear t4 HC4 HHA HXR3
    go_wp2_with (first
     | ((with_reducible refine at_load 40 ?_); refine wpList_load_mid rfl 40 _ rfl gX 0 rfl a.cells _ hrx Tryz.underlying40 rfl (by rw [size31, HXL.out]) ?_)
     | ((with_reducible refine at_bs 35 1 ?_); refine wpList_build_ad rfl _ rfl a (by rfl) ?_)
     | (at_builtin; refine wpList_app_ad w2 u4 (by rfl) _ _ (by rfl) _ s.S (by rfl) HC6.out.own HC6.out.z a (by rfl) hll ?_))
    intro v5 u5 ho5 t5 hv5
    have HC5 := Lib.hid (show Carry w w2 u5 hI bI2 hR bR (s.startS nw draw a) t (2 * i + 1) g gC g7 v5 (s.startS nw draw a).S from HC6.out.app t5 ho5 (by rcases hv5 with e | e; exact .inl e; exact .inr ⟨_, e, by omega⟩))
    clear ho5 t5 hv5 HC6 hrx HXF hwm hmm hll HM HOS HXL HHC HAL
    generalize s.startS nw draw a = s at *
    rename DV => bI
    go_wp2_with fail
   all_goals
    refine wp_region_held (S := Touch (bfoot hI bI hR bR) u5.drew) (by kernel_rfl) ?_
    change wpAnyH _ _ _ _ _ _ _ _ u5.drew
    have tD := (Touch.refl [] u5).drew
    have HCX := Lib.hid (HC5.out.touch0 tD)
    have HGX1 := Lib.hid (range_block HCX.out.row)
    have HOX := Lib.hid (HCX.out.t0.range HOP0.out (by simp))
    have HRX := Lib.hid (Rd.touch HCX.out.t0 HRD0.out (by simp))
    have HBN := Lib.hid (HCX.out.far HLO.out)
    generalize u5.drew = X at *
    clear tD HC5
    have hS := Touch.refl (bfoot hI bI hR bR) X
    refine tkH 0 (.agg [.pointer (some ⟨hI, 0, none⟩), .pointer (some ⟨hR, 0, none⟩)].toArray) ?_ (hy := Or.inl ⟨by rfl, fun w' hw => exec_load_agg _ 34 _ rfl _ _ rfl [.pointer (some ⟨hI, 0, none⟩), .pointer (some ⟨hR, 0, none⟩)] _ (hw.range HGX1.out HCX.out.rowf) Tryz.underlying34 rfl sizeTwo⟩)
    refine tkH 1 (.slice (some ⟨b, o, none⟩) nl cl) ?_
    refine tkH 2 (.int .i64 i) ?_
    refine tkH 3 (.pointer (some ⟨b, o + i * 7, none⟩)) ?_ (hy := Or.inl ⟨by rfl, fun w' hw => by (have q0 := hlt2; have q1 := (show i < nl by omega); go_simp)⟩)
    refine tkH 4 (.agg [.int .i64 kd, .bool f, v, .int .i64 wy, .int .i64 tr, .int .u64 draw, .int .u64 pass].toArray) ?_ (hy := Or.inl ⟨by rfl, fun w' hw => exec_load_agg _ 37 _ rfl _ _ rfl [.int .i64 kd, .bool f, v, .int .i64 wy, .int .i64 tr, .int .u64 draw, .int .u64 pass] _ (hw.range HOX.out HBN.out) Tryz.underlying37 rfl sizeOp⟩)
    refine tkH 5 (.int .u64 nw) ?_
    refine wpAnyH_ready (rs := [6]) (by kernel_rfl) (by simp) ?_
    refine cnH rfl (fun K hK => ?_) AllReadyH.nil
    go_simp
    refine (apply_any w2 hI bI hR bR s t (2 * i + 1) X HCX.out.two HCX.out.z (by omega) nw HNW.out kd f v bl xs HRX.out HXS.out wy tr draw pass HDR.out).mono ?_
    rintro e Y ⟨r, rfl, bI', bR', s', t', B', st', a', c', e'⟩
    have hS2 := hS.trans st'.t (fun g hg => .inl hg)
    have HC8 := Lib.hid (show ∃ s2 t2 bI' bR', Carry w w2 Y hI bI' hR bR' s2 t2 (2 * i + 2) g gC g7 _ s.S ∧ s.S <+: s2.S ∧ Ok s2 (2 * i + 2) from ⟨s', t', bI', bR', HCX.out.step st' B' a'.c, a'.pre, a'.ok⟩)
    refine hK.out _ _ hS2 (fun _ => ?_)
    clear hK K hS B' st' a' c' e'
    have hS := hS2
    clear hS2
    try simp only [Act.put, sT, s0, sS]
    refine wpAnyH_done (by kernel_rfl) ?_ _
    try simp only [Act.put, sT, s0, sS]
    clear hS HCX HGX1 HOX HRX HBN
    obtain ⟨s2, t2, bI', bR', hC8, hpre, hok⟩ := HC8.out
    have HC8b := Lib.hid hC8
    have HPR := Lib.hid hpre
    clear hC8 hpre HC8
    obtain ⟨n1, hn1'⟩ : ∃ n1, n1 = s.S.length := ⟨_, rfl⟩
    have HN1 := Lib.hid hn1'
    have hnn1 : n1 ≤ s2.S.length := by rw [hn1']; exact HPR.out.length_le
    have hn64 : s2.S.length ≤ 64 := HC8b.out.two.oi.st
    obtain ⟨a9, c9, hv9, _, _, _⟩ := HC8b.out.own.form
    rw [← HN1.out] at hv9
    have HC9 := Lib.hid (show ∃ v9, Carry w w2 Y hI bI' hR bR' s2 t2 (2 * i + 2) g gC g7 v9 (s2.S.take n1) ∧ v9 = .slice a9 n1 c9 from ⟨_, by rw [hn1', pre_take HPR.out]; exact HC8b.out, hv9⟩)
    obtain ⟨v9, h9, rfl⟩ := HC9.out
    have HC10 := Lib.hid h9
    have hwn : IntKind.i64.wrap ((n1 : Int) + 1) = (n1 : Int) + 1 := by rw [IntKind.wrap_i64] <;> omega
    clear h9 HC9 HC8b hn1' HN1 HPR
    subst hv9
    go_wp2_with fail
    go_loopw [9, 15] (fun v9 v15 wr => ∃ k : Nat, n1 ≤ k ∧ k ≤ s2.S.length ∧ v15 = .int .i64 ((k : Int) + 1) ∧ Carry w w2 wr hI bI' hR bR' s2 t2 (2 * i + 2) g gC g7 v9 (s2.S.take k)) (fun _ v15 _ => 66 - (intOf v15).toNat)
    case atStart => exact ⟨n1, by omega, by omega, rfl, HC10.out⟩
    case round =>
     obtain ⟨k, hk1, hk2, rfl, hC⟩ := hrel
     have HC := Lib.hid hC
     clear hC HC10
     obtain ⟨n2, hn2⟩ : ∃ n2, n2 = s2.S.length := ⟨_, rfl⟩
     have HN2 := Lib.hid hn2
     rw [← hn2] at hk2 hn64
     clear hnn1
     by_cases hk : k < n2
     ·obtain ⟨a, ha⟩ : ∃ a, s2.S[k]? = some a := ⟨_, List.getElem?_eq_getElem (by rw [← HN2.out]; exact hk)⟩
      have HAD := Lib.hid (daddr_yes w2 wr hI bI' s2 HC.out.two.di (by rw [← HN2.out]; omega) k a ha)
      have HXL := Lib.hid a.len
      have HNT := Lib.hid (nodup_take HC.out.two.oi.nod ha)
      have HTS := Lib.hid (take_snoc ha)
      have hk64 : (k : Int) + 1 ≤ 64 := by omega
      have hwk : IntKind.i64.wrap ((k : Int) + 1 + 1) = (k : Int) + 1 + 1 := by rw [IntKind.wrap_i64] <;> omega
      have HLK := Lib.hid (show ((s2.S.take k).length + 1) * 17 ≤ 140737488355328 by rw [List.length_take]; omega)
      clear ha hn2
      go_wp2_with fail
      refine HAD.out.mono ?_
      rintro e u1 ⟨rfl, t1⟩
      have HT1 := Lib.hid t1
      have HN1 := Lib.hid (heap_alloc_new u1 (.cells (adr false (List.replicate 16 0)).toArray 40))
      have HA1 := Lib.hid ((Touch.refl [] u1).alloc (.cells (adr false (List.replicate 16 0)).toArray 40))
      clear t1 HAD
      go_wp2_with ((with_reducible refine at_store 40 ?_); refine wpList_store_into rfl 40 _ _ rfl u1.heap.size 40 _ a.cells rfl rfl HN1.out (by rw [HXL.out]; rfl) (by rw [size31, HXL.out]) a.one ?_)
      intro u2 h2 t2 z2
      have t2' := HT1.out.trans (HA1.out.trans t2 (by intro y hy; right; simp at hy; omega)) (by simp)
      have HC2 := Lib.hid (HC.out.touch0 t2')
      have hrx := range_block h2
      obtain ⟨b9, rd9, hb9⟩ := HC2.out.own.rdn
      have HHA := Lib.hid (rhas_any _ b9 (s2.S.take k) a u2 rd9)
      rw [HNT.out] at HHA
      clear h2 t2 z2 t2' HC HT1 HN1 HA1 rd9 hb9
      generalize u1.heap.size = gX at *
      go_wp2_with ((with_reducible refine at_load 40 ?_); refine wpList_load_mid rfl 40 _ rfl gX 0 rfl a.cells _ hrx Tryz.underlying40 rfl (by rw [size31, HXL.out]) ?_)
      refine HHA.out.mono ?_
      rintro e u4 ⟨rfl, t4⟩
      have HC6 := Lib.hid (HC2.out.touch0 t4)
      have hrx := t4.range hrx (by simp)
      clear t4 HC2 HHA
      go_wp2_with (first
       | ((with_reducible refine at_load 40 ?_); refine wpList_load_mid rfl 40 _ rfl gX 0 rfl a.cells _ hrx Tryz.underlying40 rfl (by rw [size31, HXL.out]) ?_)
       | ((with_reducible refine at_bs 35 1 ?_); refine wpList_build_ad rfl _ rfl a (by rfl) ?_)
       | (at_builtin; refine wpList_app_ad w2 u4 (by rfl) _ _ (by rfl) _ (s2.S.take k) (by rfl) HC6.out.own HC6.out.z a (by rfl) HLK.out ?_))
      intro v5 u5 ho5 t5 hv5
      rw [HTS.out] at ho5
      have HC7 := Lib.hid (HC6.out.app t5 ho5 (by rcases hv5 with e | e; exact .inl e; exact .inr ⟨_, e, by omega⟩))
      clear ho5 t5 hv5 HC6 hrx
      go_wp2_with fail
      go_roundw
      case rel => exact ⟨k + 1, by omega, by have := HN2.out; omega, by go_num, HC7.out⟩
      case measure => simp [intOf]; omega
     ·have hkn : k = n2 := by omega
      subst hkn
      have HCS := Lib.hid HC.out
      rw [List.take_of_length_le (by have := HN2.out; omega)] at HCS
      clear hn2
      by_cases hq : k < 64
      case' pos =>
       have HAD := Lib.hid (daddr_no w2 wr hI bI' s2 HC.out.two.di ((k : Int) + 1) (by have := HN2.out; omega))
       have HXL := Lib.hid zAd.len
       obtain ⟨x, hx⟩ : ∃ x, x = zAd := ⟨_, rfl⟩
       rw [← hx] at HAD HXL
       have hk64 : (k : Int) + 1 ≤ 64 := by omega
       clear hx
       go_wp2_with fail
       refine HAD.out.mono ?_
       rintro e u1 ⟨rfl, t1⟩
       have HT1 := Lib.hid t1
       have HN1 := Lib.hid (heap_alloc_new u1 (.cells (adr false (List.replicate 16 0)).toArray 40))
       have HA1 := Lib.hid ((Touch.refl [] u1).alloc (.cells (adr false (List.replicate 16 0)).toArray 40))
       clear t1 HAD HC
       go_wp2_with ((with_reducible refine at_store 40 ?_); refine wpList_store_into rfl 40 _ _ rfl u1.heap.size 40 _ x.cells rfl rfl HN1.out (by rw [HXL.out]; rfl) (by rw [size31, HXL.out]) x.one ?_)
       intro u2 h2 t2 z2
       have t2' := HT1.out.trans (HA1.out.trans t2 (by intro y hy; right; simp at hy; omega)) (by simp)
       have HCW := Lib.hid (HCS.out.touch0 t2')
       clear h2 t2 z2 t2' HT1 HN1 HA1 HCS
       go_wp2_with fail
      case' neg =>
       have HCW := Lib.hid HCS.out
       have hk64 : ¬ (k : Int) + 1 ≤ 64 := by omega
       clear HC HCS
       go_wp2_with fail
      all_goals
       clear hk64
       have HACT := Lib.hid (dact_any w2 _ hI bI' s2 HCW.out.two.di HCW.out.two.oi.srt (by have := HCW.out.two.oi.act; omega))
       refine HACT.out.mono ?_
       rintro e u3 ⟨v18, rfl, o18, t3⟩
       have HCX := Lib.hid (HCW.out.touch0 t3)
       have HO18 := Lib.hid o18
       obtain ⟨aL, cL, rfl, _, hmL, hatL⟩ := o18.form
       obtain ⟨na, hna⟩ : ∃ na, na = s2.act.length := ⟨_, rfl⟩
       have HNA := Lib.hid hna
       have hmc : ¬ g.mc < (na : Int) := by rw [hna]; have h1 := HCX.out.two.oi.actm; rw [HCX.out.c] at h1; omega
       have hna8 : na ≤ 8 := by rw [hna]; exact HCX.out.two.oi.act
       have cmc := HCX.out.cfg 4 _ rfl
       rw [Nat.zero_add] at cmc
       rw [← hna] at HO18 hatL ⊢
       clear o18 t3 HCW HACT hmL hna
       go_wp2_with fail
       clear cmc hmc
       go_loopw [19] (fun v19 wr => ∃ j : Nat, v19 = .int .i64 j ∧ j ≤ na ∧ Touch [] u3 wr) (fun v19 _ => na - (intOf v19).toNat)
       case atStart => exact ⟨0, rfl, by omega, Touch.refl _ _⟩
       case round =>
        obtain ⟨j, rfl, hj, ht⟩ := hrel
        have HTJ := Lib.hid ht
        have hwj : IntKind.i64.wrap ((j : Int) + 1) = (j : Int) + 1 := by rw [IntKind.wrap_i64] <;> omega
        clear ht
        by_cases hjn : j + 1 < na
        ·have hj2 : (j : Int) + 1 < (na : Int) := by omega
         have hj1 : (j : Int) < (na : Int) := by omega
         have hjn1 : j < na := by omega
         obtain ⟨x, hx⟩ : ∃ x, s2.act[j]? = some x := ⟨_, List.getElem?_eq_getElem (by rw [← HNA.out]; omega)⟩
         obtain ⟨y, hy⟩ : ∃ y, s2.act[j + 1]? = some y := ⟨_, List.getElem?_eq_getElem (by rw [← HNA.out]; omega)⟩
         have hxy := asc HCX.out.two.oi.srt hx hy
         obtain ⟨gL, rfl⟩ := hatL (by omega)
         have r1 := HO18.out.cell HNA.out hx
         have r2 := HO18.out.cell HNA.out hy
         have hge : ¬ (y : Int) ≤ (x : Int) := by omega
         clear hx hy
         go_wp2_with fail
         refine wp_region_held (S := Touch ([]) wr.drew) (by kernel_rfl) ?_
         change wpAnyH _ _ _ _ _ _ _ _ wr.drew
         have tD := (Touch.refl [] wr).drew
         have HTX := Lib.hid (HTJ.out.trans tD (by simp))
         have r1 := HTX.out.cell r1 (by simp)
         have r2 := HTX.out.cell r2 (by simp)
         generalize wr.drew = X at *
         clear tD HTJ
         have hS := Touch.refl [] X
         refine tkH 0 (.slice (some ⟨gL, 0, none⟩) na cL) ?_
         refine tkH 1 (.int .i64 j) ?_
         refine tkH 2 (.pointer (some ⟨gL, j, none⟩)) ?_ (hy := Or.inl ⟨by rfl, fun w' hw => by (have q0 := hj1; have q1 := hjn1; go_simp)⟩)
         refine tkH 3 (.int .i64 (x : Int)) ?_ (hy := Or.inl ⟨by rfl, fun w' hw => by (have q := hw.cell r1 (by simp); go_simp)⟩)
         refine tkH 4 (.slice (some ⟨gL, 0, none⟩) na cL) ?_
         refine tkH 5 (.int .i64 j) ?_
         refine tkH 6 (.int .i64 ((j : Int) + 1)) ?_ (hy := Or.inl ⟨by rfl, fun w' hw => by (have q0 := hwj; go_simp)⟩)
         refine tkH 7 (.pointer (some ⟨gL, j + 1, none⟩)) ?_ (hy := Or.inl ⟨by rfl, fun w' hw => by (have q0 := hj2; have q1 := hjn; have q2 := (show ¬ ((j : Int) + 1 < 0) by omega); go_simp)⟩)
         refine tkH 8 (.int .i64 (y : Int)) ?_ (hy := Or.inl ⟨by rfl, fun w' hw => by (have q := hw.cell r2 (by simp); go_simp)⟩)
         refine tkH 9 (.bool false) ?_ (hy := Or.inl ⟨by rfl, fun w' hw => by (have q0 := hge; go_simp)⟩)
         refine wpAnyH_done (by kernel_rfl) ?_ _
         try simp only [Act.put, sT, s0, sS]
         have HTZ := Lib.hid (HTX.out.trans hS (by simp))
         clear hS r1 r2
         go_wp2_with fail
         go_roundw
         case rel => exact ⟨j + 1, by go_num, by omega, HTZ.out⟩
         case measure => simp [intOf]; omega
        ·have hj2 : ¬ (j : Int) + 1 < (na : Int) := by omega
         have HCZ := Lib.hid (HCX.out.touch0 HTJ.out)
         clear HCX HTJ HO18 hatL
         go_wp2_with fail
         go_roundw
         case rel => exact ⟨i + 1, s2, t2, bI', bR', nw, by omega, by omega, by go_num, rfl, by omega, by omega, HCZ.out⟩
         case measure => simp [intOf]; omega
  ·rcases (by omega : ¬ i < nl ∨ (i < nl ∧ ¬ i < 60)) with hq | ⟨hq, hq5⟩
   all_goals
    go_wp2_with fail
    refine (awake29_ok wr).mono ?_
    rintro e w9 ⟨rfl, t9⟩
    have HT9 := Lib.hid (HC.out.t0.trans t9 (by simp))
    clear t9
    go_wp2_with fail
    go_ret
    exact ⟨rfl, HT9.out⟩
theorem walk {H : Type} {enc : TypeId × Value → H} {w : World} (cs : Array Value) (hs : CellsOk enc Tryz.prog w 0 (fun _ => true) true [22, 22, 22, 3, 3] cs.toList) (v : Value) (hv : IsSlice enc Tryz.prog w 0 (fun _ => true) true [3, 4, 35, 3, 3, 22, 22] v) :
  Calls Tryz.prog 3 #[.agg cs, v] w fun e w' => e = .returned (.bool true) ∧ Below w.heap.size w w' := by
 obtain ⟨c, rfl, hok⟩ := cfg_of hs
 obtain ⟨al, nl, cl, rfl, hl, hm, ho⟩ := ops_of hv
 unfold maxLen at hm
 exact (walk0 c hok w al nl cl ho (by omega)).mono fun e w' ⟨h1, h2⟩ => ⟨h1, h2.below (by simp) (Nat.le_refl _)⟩
end Go.Proofs.YtiklhaajhdephaaGreatDoor.dialerConcurrencyLimit

/-
 The statement 'DialerConcurrencyLimitSaid' of the seat: the frame of the row round the walk of the law's Go function (YtiklhaajhdephaaGreatDoorW12): for every input the call returns true and each argument reads as it did.
-/
namespace Go.Proofs.YtiklhaajhdephaaGreatDoor.dialerConcurrencyLimit
open Go.ChangeShapes Go.WideShapes Go.Deep Go.ChangeAt Go.RowKit
open Go.ChangeMaps (open_string shut_string)
set_option linter.unusedVariables false

theorem own : ownKnob Tryz.prog.godebug = none := by kernel_rfl
theorem laidOut : laidOutB Tryz.prog = true := by kernel_rfl

set_option maxRecDepth 100000 in
theorem lifted (os : Os) (started : os.Started) (H : Type) (enc : TypeId × Value → H) :
  ReturnsInHanded {} Tryz.checked os 3 .any (fun w args => (Rows.dialerConcurrencyLimitSpec.pre enc Tryz.prog Tryz.f3 Rows.dialerConcurrencyLimitRow.domain false w args ∧ laidMetH Tryz.prog Rows.dialerConcurrencyLimitRow.laid w) ∧ sizedMet enc Tryz.prog Tryz.f3 (OpenSpec.ofChange Rows.dialerConcurrencyLimitSpec) false w args)
   (Rows.dialerConcurrencyLimitSpec.post enc Tryz.prog Tryz.f3 false true false false) := by
 refine returnsInHanded_of_change_and (C := Tryz.checked) (X := fun w _ => laidMetH Tryz.prog Rows.dialerConcurrencyLimitRow.laid w) (fun _ _ _ hh h => h.of_heap hh) own started (by kernel_rfl) Tryz.func3
  (ChangeSpec.witness_shaped (enc := enc) (C := Tryz.checked) (os := os) (X := fun w _ => laidMetH Tryz.prog Rows.dialerConcurrencyLimitRow.laid w) false (World.laidAll Tryz.prog os Rows.dialerConcurrencyLimitRow.laid) #[.agg #[.int .u64 0, .int .u64 0, .int .u64 0, .int .i64 0, .int .i64 0], .slice none 0 0] 8 (World.laidAll_os _ _ _)
   (World.shaped_of_ZipB (by kernel_rfl) (by kernel_rfl)) (by kernel_rfl) (by kernel_rfl) (by kernel_rfl)
   (by rw [MakeChecks.laidMetH_plain _ _ _ (by kernel_rfl)]; exact laidMet_laidAll _ (by kernel_rfl) (by kernel_rfl))) ?_
 intro W base args ds gs before hval0 hW hcnd hsz0 hL _
 have hval : ∀ (j : Nat) t v, Tryz.f3.params[j]? = some t → args[j]? = some v → Value.okWide Tryz.prog W .any base t v := hval0
 have hW' := hW
 obtain ⟨p, q, hA0, hV, rfl, hfz, hnd⟩ := hW
 have hA : DataW.TrodAll enc Tryz.prog W 0 (fun _ => true) true Tryz.f3.params.toList args.toList ds p := hA0
 rw [Tryz.params3] at hA hval
 obtain ⟨v0, vs0, d0, ds0, p0, q0, hargs, rfl, rfl, h0, r0⟩ := trodAll_cons hA
 obtain ⟨v1, vs1, d1, ds1, p1, q1, rfl, rfl, rfl, h1, r1⟩ := trodAll_cons r0
 obtain ⟨rfl, rfl, rfl⟩ := trodAll_nil r1
 obtain rfl : args = #[v0, v1] := by cases args; simp_all
 obtain ⟨rfl, rfl⟩ := trodVars_none hV
 have k0 := h0
 have lt0 : ∀ x ∈ p0, x.block < W.heap.size := by obtain ⟨m, hm⟩ := k0; exact DataW.trod_lt m _ _ _ hm
 have k1 := h1
 have lt1 : ∀ x ∈ p1, x.block < W.heap.size := by obtain ⟨m, hm⟩ := k1; exact DataW.trod_lt m _ _ _ hm
 obtain ⟨c0, rfl⟩ := okWide_struct Tryz.underlying24 (hval 0 24 v0 rfl rfl)
 have s0 : CellsOk enc Tryz.prog W 0 (fun _ => true) true [22, 22, 22, 3, 3] c0.toList := by
  obtain ⟨fuel, hf⟩ := h0
  exact agg_ok (d := 8) (by kernel_rfl) (by simpa [Value.cells] using hf)
 obtain ⟨b1, len1, cap1, hv1⟩ := okWide_slice Tryz.underlying25 (hval 1 25 v1 rfl rfl)
 have s1 : IsSlice enc Tryz.prog W 0 (fun _ => true) true [3, 4, 35, 3, 3, 22, 22] v1 := by
  obtain ⟨fuel, hf⟩ := h1
  rw [hv1] at hf ⊢
  exact slice_ok (d := 8) Tryz.underlying25 (by kernel_rfl) (by kernel_rfl) (by simpa [Value.cells] using hf)
 clear hA0 hval0
 refine (walk (H := H) (enc := enc) (w := W) c0 s0 v1 s1).mono fun e W' ⟨he, bel⟩ => ?_
 subst he
 exact ⟨_, rfl, _, _, _, [], _, [], hW', trodAll_mk1 (shut_bool Tryz.underlying4 _), (trodAll_cons_mk (Below.trod laidOut (by kernel_rfl) (of_decide_eq_true (by kernel_rfl)) k0 bel lt0) (trodAll_cons_mk (Below.trod laidOut (by kernel_rfl) (of_decide_eq_true (by kernel_rfl)) k1 bel lt1) trodAll_mk0)), rfl, bel.frame _, fun h => by cases h⟩

theorem over : Rows.dialerConcurrencyLimitRow.holds Tryz.pinned (OpenSpec.ofChange Rows.dialerConcurrencyLimitSpec) :=
 OpenClaim.holds_of_wide 3 Tryz.f3 rfl rfl rfl rfl rfl rfl rfl ⟨rfl, rfl, rfl, rfl, rfl⟩ rfl rfl rfl rfl rfl (by kernel_rfl) Tryz.func3 (by kernel_rfl)
  (of_decide_eq_true (by kernel_rfl)) (by unfold Func.isWrapper; first | (rw [if_pos (by decide +kernel)]; kernel_rfl) | (rw [if_neg (by decide +kernel)]; exact ⟨rfl, rfl⟩))
  (fun os started H enc _ => lifted os started H enc)

theorem proved : Rows.DialerConcurrencyLimitCardSaid :=
 Claim7.holds_tied_plain_at .later [] [.data, .pinned] true (true, "9d63c86be96879783bc57c7648363f50903f451c38cf0ff1179b8df42fc8e596") false over (fun _ h => by cases h) (by kernel_rfl) (fun _ h => by cases h) dialerConcurrencyLimit_row_tie rfl ⟨rfl, rfl⟩ (by kernel_rfl) rfl
  (fun f fn hf hfn => by
   obtain rfl : f = 3 := Option.some.inj ((show Tryz.prog.funcNamed "ginnel/ginnellaw29.DialerConcurrencyLimit" = some 3 by kernel_rfl).symm.trans hf) |>.symm
   obtain rfl : fn = Tryz.f3 := (Option.some.inj (Tryz.func3.symm.trans hfn)).symm
   exact ⟨by kernel_rfl, fun j t ht => by
    rw [Tryz.params3] at ht
    have hm : t ∈ [24, 25] := by simpa using Array.mem_of_getElem? ht
    have hall : ([24, 25].all fun u => !Tryz.prog.wantsStandIn u) = true := by kernel_rfl
    exact (show Tryz.prog.wantsStandIn t = false by simpa using List.all_eq_true.1 hall t hm)⟩)
  (by kernel_rfl)
#print axioms proved
end Go.Proofs.YtiklhaajhdephaaGreatDoor.dialerConcurrencyLimit

/-
  The statement 'CandidatesAreTakenOnceSaid' of the seat: the frame of the row round the walk of the law's Go function (YtiklhaajhdephaaDoorW7): for every input the call returns true and each argument reads as it did.
-/
import Derived.Test.YtiklhaajhdephaaDoorGO
import Derived.Test.YtiklhaajhdephaaDoorGQ
import Derived.Test.YtiklhaajhdephaaDoorGP
import Derived.Test.YtiklhaajhdephaaDoorGG
import Derived.WalkKit
import Derived.ProofKit
import Derived.OpenShut
import Derived.ShutString
import Derived.ChangeOld
import Derived.Below
import Derived.Test.YtiklhaajhdephaaDoorTie
import Derived.Test.YtiklhaajhdephaaDoorCards
import Derived.LaidMore
import Derived.Lay
import Derived.SevenTiedAt
import Derived.Stop.Joined
import Derived.MakeChecks

/-
  The walk of CandidatesAreTakenOnce: true at every count, every two lists and every number.
-/
namespace Go.Proofs.YtiklhaajhdephaaDoor.candidatesAreTakenOnce
open Go.RowKit Go.Deep
set_option linter.unusedVariables false
set_option linter.unusedSimpArgs false

theorem rvalidA (a : Ad) (r : Bool) (h : a.valid = r) (w : World) : Calls Tryd.prog 31 #[.agg a.cells.toArray] w fun e w' => e = .returned (.bool r) ∧ Touch [] w w' := by
  subst h
  exact rvalid_any a.b a.xs a.ok w
theorem rhas_v (v : Value) (b : Nat) (l : List Ad) (a : Ad) (r : Bool) (h : inL l a = r) (w : World) (h1 : Rd w 17 b v (l.map Ad.cells)) :
    Calls Tryd.prog 32 #[v, .agg a.cells.toArray] w fun e w' => e = .returned (.bool r) ∧ Touch [] w w' := by
  subst h
  exact rhas_any v b l a w h1
set_option maxRecDepth 100000 in
set_option maxHeartbeats 8000000 in
theorem walk0 (first : Int) (v1 v2 : Value) (b1 b2 : Nat) (xs1 xs2 : List (List Value)) (at_ : Int) (w : World) (h1 : Rd w 17 b1 v1 xs1) (hx1 : ∀ x ∈ xs1, IsAd x) (h2 : Rd w 17 b2 v2 xs2) (hx2 : ∀ x ∈ xs2, IsAd x) :
    Calls Tryd.prog 6 #[.int .i64 first, v1, v2, .int .i64 at_] w fun e w' => e = .returned (.bool true) ∧ Touch [] w w' := by
  have HV1 := Lib.hid h1
  have HV2 := Lib.hid h2
  clear h1 h2
  go_enter Tryd.func6, Tryd.ntmps6
  go_wp2_with fail
  refine (qnew_any first w).mono ?_
  rintro e w1 ⟨rfl, q1, t1⟩
  obtain ⟨h, hh⟩ : ∃ h, h = w.heap.size := ⟨_, rfl⟩
  rw [← hh] at q1 ⊢
  have HQ1 := Lib.hid q1
  have HT1 := Lib.hid t1
  have HSA := Lib.hid (someAddrs_any v1 b1 20 xs1 w1 (by omega) (HV1.out.touch t1 (by simp)) hx1)
  clear q1 t1 hh
  go_wp2_with fail
  refine HSA.out.mono ?_
  rintro e w2 ⟨vx, ys, rfl, hys, hyl, ox, t2⟩
  obtain ⟨X, rfl⟩ := ads_of hys
  have hX20 : X.length ≤ 20 := by simpa using hyl
  have HQ2 := Lib.hid (HQ1.out.touch t2 (by simp))
  have HT2 := Lib.hid (HT1.out.trans t2 (by simp))
  have HOX2 := Lib.hid (show OwnA w w2 vx X from Own.older ox HT1.out.size)
  have HSA := Lib.hid (someAddrs_any v2 b2 20 xs2 w2 (by omega) (HV2.out.touch HT2.out (by simp)) hx2)
  have hxn : ∀ g, vx.ownBlock = some g → g ∉ qfoot h (.slice none 0 0) (.slice none 0 0) := fun g hg hm => by have := ox.new g hg; have := below_of HQ1.out g hm; omega
  clear hys hyl ox t2 HQ1 HT1
  go_wp2_with fail
  refine HSA.out.mono ?_
  rintro e w3 ⟨vy, ys, rfl, hys, hyl, oy, t3⟩
  obtain ⟨Y, rfl⟩ := ads_of hys
  have hY20 : Y.length ≤ 20 := by simpa using hyl
  have HQ3 := Lib.hid (HQ2.out.touch t3 (by simp))
  have HT3 := Lib.hid (HT2.out.trans t3 (by simp))
  have HOX3 := Lib.hid (show OwnA w w3 vx X from Own.touch HOX2.out t3 (by simp))
  have HOY3 := Lib.hid (show OwnA w w3 vy Y from Own.older oy HT2.out.size)
  have hyn : ∀ g, vy.ownBlock = some g → g ∉ qfoot h (.slice none 0 0) (.slice none 0 0) := fun g hg hm => by have := oy.new g hg; have := below_of HQ2.out g hm; omega
  have HXN := Lib.hid hxn
  have HYN := Lib.hid hyn
  obtain ⟨aX, cX, hvx, hlx, hcx, hatx⟩ := HOX3.out.form
  obtain ⟨aY, cY, hvy, hly, hcy, haty⟩ := HOY3.out.form
  obtain ⟨nx, hnx⟩ : ∃ n, n = X.length := ⟨_, rfl⟩
  obtain ⟨ny, hny⟩ : ∃ n, n = Y.length := ⟨_, rfl⟩
  rw [← hnx] at hvx hlx hatx hX20
  rw [← hny] at hvy hly haty hY20
  subst hvx
  subst hvy
  have HNX := Lib.hid hnx
  have HNY := Lib.hid hny
  obtain ⟨XY, hXY⟩ : ∃ XY, XY = X ++ Y := ⟨_, rfl⟩
  have HXY := Lib.hid hXY
  have hXYl : XY.length = nx + ny := by rw [hXY, List.length_append, ← hnx, ← hny]
  have HXYL := Lib.hid hXYl
  have hwn : IntKind.i64.wrap ((nx : Int) + (ny : Int)) = ((nx + ny : Nat) : Int) := by rw [IntKind.wrap_i64] <;> omega
  clear hys hyl oy t3 HQ2 HT2 HOX2 HSA hxn hyn hnx hny hXY hXYl hcx hcy
  go_wp2_with fail
  go_loopw [12, 13, 14] (fun v12 v13 v14 wr => ∃ i : Nat, i ≤ nx + ny ∧ v13 = .int .i64 i ∧ OwnA w3 wr v12 (addL [] (XY.take i)) ∧ Touch [] w3 wr) (fun _ v13 _ _ => nx + ny - (intOf v13).toNat)
  case atStart => exact ⟨0, by omega, rfl, Own.nil _ _, Touch.refl _ _⟩
  case round =>
    obtain ⟨i, hin, rfl, hown, ht⟩ := hrel
    have HT := Lib.hid ht
    have HO := Lib.hid hown
    clear hown ht
    by_cases hlt : i < nx + ny
    · obtain ⟨e, he⟩ : ∃ e, XY[i]? = some e := ⟨_, List.getElem?_eq_getElem (by rw [HXYL.out]; exact hlt)⟩
      have HST := Lib.hid (addL_step [] XY i e he)
      have HLE := Lib.hid e.len
      have hwi : IntKind.i64.wrap ((i : Int) + 1) = (i : Int) + 1 := by rw [IntKind.wrap_i64] <;> omega
      have hlt2 : (i : Int) < ((nx + ny : Nat) : Int) := by omega
      have hall := (addL_len [] (XY.take i)).2
      have HLL := Lib.hid (show ((addL [] (XY.take i)).length + 1) * 17 ≤ 140737488355328 by rw [List.length_take] at hall; simp at hall; omega)
      have HN := Lib.hid (heap_alloc_new wr (.cells (adr false (List.replicate 16 0)).toArray 28))
      have HA := Lib.hid ((Touch.refl [] wr).alloc (.cells (adr false (List.replicate 16 0)).toArray 28))
      have HZL := Lib.hid zAd.len
      have HB := Lib.hid built_zAd
      clear hall
      go_wp2_with (first
        | ((with_reducible refine at_build 28 ?_); refine wpList_built (by rfl) 28 _ (by rfl) _ _ (by rfl) HB.out ?_)
        | ((with_reducible refine at_store 28 ?_); refine wpList_store_into rfl 28 _ _ rfl wr.heap.size 28 _ zAd.cells rfl rfl HN.out (by rw [HZL.out]; rfl) (by rw [size31, HZL.out]) zAd.one ?_))
      intro A0 hA0 tA0 zA0
      have tA := HA.out.trans tA0 (by intro y hy; right; simp at hy; omega)
      have HTA := Lib.hid (HT.out.trans tA (by simp))
      have HOA := Lib.hid (show OwnA w3 A0 u12 (addL [] (XY.take i)) from Own.touch HO.out tA (by simp))
      have HGA := Lib.hid hA0
      have hgu : ∀ g, u12.ownBlock = some g → g ≠ wr.heap.size := fun g hg => by have := Own.lt HO.out g hg; omega
      have HGU := Lib.hid hgu
      have hg3 : w3.heap.size ≤ wr.heap.size := HT.out.size
      generalize wr.heap.size = gb at *
      clear hA0 tA0 zA0 tA HN HA HT HO hgu
      by_cases hix : i < nx
      · have hxe : X[i]? = some e := by
          have h := he
          rw [HXY.out, List.getElem?_append_left (by rw [← HNX.out]; exact hix)] at h
          exact h
        obtain ⟨gx, rfl⟩ := hatx (by omega)
        have re := own_at (l := X) (i := i) (a := e) (by have := (show OwnA w A0 (.slice (some ⟨gx, 0, none⟩) nx cX) X from Own.touch HOX3.out HTA.out (by simp)).row'; rw [← HNX.out] at this; exact this) hxe
        have hix2 : (i : Int) < (nx : Int) := by omega
        clear he hxe
        go_wp2_with (first
          | ((with_reducible refine at_load 28 ?_); refine wpList_load_mid rfl 28 _ rfl gx (i * 17) rfl e.cells _ re Tryd.underlying28 rfl (by rw [size31, HLE.out]) ?_)
          | ((with_reducible refine at_store 28 ?_); refine wpList_store_into rfl 28 _ _ rfl gb 28 _ e.cells rfl rfl HGA.out (by rw [HLE.out]; simp [HZL.out]) (by rw [size31, HLE.out]) e.one ?_))
        intro B hB tB zB
        have HTB := Lib.hid (HTA.out.trans tB (by intro y hy; right; simp at hy; omega))
        have HOB := Lib.hid (show OwnA w3 B u12 (addL [] (XY.take i)) from Own.touch HOA.out tB (fun g hg => by simp; exact HGU.out g hg))
        have rB := range_block hB
        clear hB tB zB re HTA HOA HGA
        have HVLD := Lib.hid (rvalidA e)
        cases hval : e.valid with
        | false =>
          have HS := Lib.hid (show addL [] (XY.take (i + 1)) = addL [] (XY.take i) by rw [HST.out]; unfold addS; rw [if_neg (by simp [hval])])
          have HV2 := Lib.hid (HVLD.out false hval B)
          clear hval
          go_wp2_with ((with_reducible refine at_load 28 ?_); refine wpList_load_mid rfl 28 _ rfl gb 0 rfl e.cells _ rB Tryd.underlying28 rfl (by rw [size31, HLE.out]) ?_)
          refine HV2.out.mono ?_
          rintro e2 w2 ⟨rfl, t2⟩
          have HO2 := Lib.hid (show OwnA w3 w2 u12 (addL [] (XY.take i)) from Own.touch HOB.out t2 (by simp))
          have HT2 := Lib.hid (HTB.out.trans t2 (by simp))
          clear t2
          go_wp2_with fail
          go_roundw
          case rel => exact ⟨i + 1, by omega, by go_num, by rw [HS.out]; exact HO2.out, HT2.out⟩
          case measure => simp [intOf]; omega
        | true =>
          have HV2 := Lib.hid (HVLD.out true hval B)
          obtain ⟨bl, hrl, _⟩ := HOB.out.rd
          have HRL := Lib.hid hrl
          clear hrl
          cases hin : inL (addL [] (XY.take i)) e with
          | true =>
            have HS := Lib.hid (show addL [] (XY.take (i + 1)) = addL [] (XY.take i) by rw [HST.out]; unfold addS; rw [if_neg (by simp [hin])])
            have HIN := Lib.hid (rhas_v u12 bl (addL [] (XY.take i)) e true hin)
            clear hval hin
            go_wp2_with ((with_reducible refine at_load 28 ?_); refine wpList_load_mid rfl 28 _ rfl gb 0 rfl e.cells _ rB Tryd.underlying28 rfl (by rw [size31, HLE.out]) ?_)
            refine HV2.out.mono ?_
            rintro e2 w2 ⟨rfl, t2⟩
            have rB2 := t2.range rB (by simp)
            go_wp2_with ((with_reducible refine at_load_g 28 _ _ ?_); refine wpList_load_gg _ _ rfl (by rfl) 28 _ rfl gb 0 rfl e.cells _ rB2 Tryd.underlying28 rfl (by rw [size31, HLE.out]) ?_)
            refine (HIN.out w2 (HRL.out.touch t2 (by simp))).mono ?_
            rintro e2 w4 ⟨rfl, t4⟩
            have HO2 := Lib.hid (show OwnA w3 w4 u12 (addL [] (XY.take i)) from Own.touch (Own.touch HOB.out t2 (by simp)) t4 (by simp))
            have HT2 := Lib.hid ((HTB.out.trans t2 (by simp)).trans t4 (by simp))
            clear t2 t4 rB rB2
            go_wp2_with fail
            go_roundw
            case rel => exact ⟨i + 1, by omega, by go_num, by rw [HS.out]; exact HO2.out, HT2.out⟩
            case measure => simp [intOf]; omega
          | false =>
            have HS := Lib.hid (show addL [] (XY.take (i + 1)) = addL [] (XY.take i) ++ [e] by rw [HST.out]; unfold addS; rw [if_pos ⟨hval, hin⟩])
            have HIN := Lib.hid (rhas_v u12 bl (addL [] (XY.take i)) e false hin)
            clear hval hin
            go_wp2_with ((with_reducible refine at_load 28 ?_); refine wpList_load_mid rfl 28 _ rfl gb 0 rfl e.cells _ rB Tryd.underlying28 rfl (by rw [size31, HLE.out]) ?_)
            refine HV2.out.mono ?_
            rintro e2 w2 ⟨rfl, t2⟩
            have rB2 := t2.range rB (by simp)
            go_wp2_with ((with_reducible refine at_load_g 28 _ _ ?_); refine wpList_load_gg _ _ rfl (by rfl) 28 _ rfl gb 0 rfl e.cells _ rB2 Tryd.underlying28 rfl (by rw [size31, HLE.out]) ?_)
            refine (HIN.out w2 (HRL.out.touch t2 (by simp))).mono ?_
            rintro e2 w4 ⟨rfl, t4⟩
            have rB4 := t4.range rB2 (by simp)
            have HO2 := Lib.hid (show OwnA w3 w4 u12 (addL [] (XY.take i)) from Own.touch (Own.touch HOB.out t2 (by simp)) t4 (by simp))
            have HT2 := Lib.hid ((HTB.out.trans t2 (by simp)).trans t4 (by simp))
            clear t2 t4 rB rB2
            go_wp2_with (first | ((with_reducible refine at_load 28 ?_); refine wpList_load_mid rfl 28 _ rfl gb 0 rfl e.cells _ rB4 Tryd.underlying28 rfl (by rw [size31, HLE.out]) ?_) | (refine wpList_build_ad rfl _ rfl e (by rfl) ?_) | (at_builtin; refine wpList_app_ad w3 _ (by rfl) _ _ (by rfl) _ (addL [] (XY.take i)) (by rfl) HO2.out HT2.out.size e (by rfl) HLL.out ?_))
            intro v5 w5 ho5 t5 hv5
            have HO5 := Lib.hid ho5
            have HT5 := Lib.hid (HT2.out.trans t5 (fun g hg => .inr (by have := HO2.out.new g (by simpa using hg); omega)))
            clear ho5 t5 hv5 rB4
            go_wp2_with fail
            go_roundw
            case rel => exact ⟨i + 1, by omega, by go_num, by rw [HS.out]; exact HO5.out, HT5.out⟩
            case measure => simp [intOf]; omega
      · have hye : Y[i - nx]? = some e := by
          have h := he
          rw [HXY.out, List.getElem?_append_right (by rw [← HNX.out]; omega), ← HNX.out] at h
          exact h
        obtain ⟨gy, rfl⟩ := haty (by omega)
        obtain ⟨j, hj⟩ : ∃ j, j = i - nx := ⟨_, rfl⟩
        rw [← hj] at hye
        have re := own_at (l := Y) (i := j) (a := e) (by have := (show OwnA w A0 (.slice (some ⟨gy, 0, none⟩) ny cY) Y from Own.touch HOY3.out HTA.out (by simp)).row'; rw [← HNY.out] at this; exact this) hye
        have hwj : IntKind.i64.wrap ((i : Int) - (nx : Int)) = (j : Int) := by rw [IntKind.wrap_i64] <;> omega
        have hjn : (j : Int) < (ny : Int) := by omega
        clear he hye hj
        go_wp2_with (first
          | ((with_reducible refine at_load 28 ?_); refine wpList_load_mid rfl 28 _ rfl gy (j * 17) rfl e.cells _ re Tryd.underlying28 rfl (by rw [size31, HLE.out]) ?_)
          | ((with_reducible refine at_store 28 ?_); refine wpList_store_into rfl 28 _ _ rfl gb 28 _ e.cells rfl rfl HGA.out (by rw [HLE.out]; simp [HZL.out]) (by rw [size31, HLE.out]) e.one ?_))
        intro B hB tB zB
        have HTB := Lib.hid (HTA.out.trans tB (by intro y hy; right; simp at hy; omega))
        have HOB := Lib.hid (show OwnA w3 B u12 (addL [] (XY.take i)) from Own.touch HOA.out tB (fun g hg => by simp; exact HGU.out g hg))
        have rB := range_block hB
        clear hB tB zB re HTA HOA HGA
        have HVLD := Lib.hid (rvalidA e)
        cases hval : e.valid with
        | false =>
          have HS := Lib.hid (show addL [] (XY.take (i + 1)) = addL [] (XY.take i) by rw [HST.out]; unfold addS; rw [if_neg (by simp [hval])])
          have HV2 := Lib.hid (HVLD.out false hval B)
          clear hval
          go_wp2_with ((with_reducible refine at_load 28 ?_); refine wpList_load_mid rfl 28 _ rfl gb 0 rfl e.cells _ rB Tryd.underlying28 rfl (by rw [size31, HLE.out]) ?_)
          refine HV2.out.mono ?_
          rintro e2 w2 ⟨rfl, t2⟩
          have HO2 := Lib.hid (show OwnA w3 w2 u12 (addL [] (XY.take i)) from Own.touch HOB.out t2 (by simp))
          have HT2 := Lib.hid (HTB.out.trans t2 (by simp))
          clear t2
          go_wp2_with fail
          go_roundw
          case rel => exact ⟨i + 1, by omega, by go_num, by rw [HS.out]; exact HO2.out, HT2.out⟩
          case measure => simp [intOf]; omega
        | true =>
          have HV2 := Lib.hid (HVLD.out true hval B)
          obtain ⟨bl, hrl, _⟩ := HOB.out.rd
          have HRL := Lib.hid hrl
          clear hrl
          cases hin : inL (addL [] (XY.take i)) e with
          | true =>
            have HS := Lib.hid (show addL [] (XY.take (i + 1)) = addL [] (XY.take i) by rw [HST.out]; unfold addS; rw [if_neg (by simp [hin])])
            have HIN := Lib.hid (rhas_v u12 bl (addL [] (XY.take i)) e true hin)
            clear hval hin
            go_wp2_with ((with_reducible refine at_load 28 ?_); refine wpList_load_mid rfl 28 _ rfl gb 0 rfl e.cells _ rB Tryd.underlying28 rfl (by rw [size31, HLE.out]) ?_)
            refine HV2.out.mono ?_
            rintro e2 w2 ⟨rfl, t2⟩
            have rB2 := t2.range rB (by simp)
            go_wp2_with ((with_reducible refine at_load_g 28 _ _ ?_); refine wpList_load_gg _ _ rfl (by rfl) 28 _ rfl gb 0 rfl e.cells _ rB2 Tryd.underlying28 rfl (by rw [size31, HLE.out]) ?_)
            refine (HIN.out w2 (HRL.out.touch t2 (by simp))).mono ?_
            rintro e2 w4 ⟨rfl, t4⟩
            have HO2 := Lib.hid (show OwnA w3 w4 u12 (addL [] (XY.take i)) from Own.touch (Own.touch HOB.out t2 (by simp)) t4 (by simp))
            have HT2 := Lib.hid ((HTB.out.trans t2 (by simp)).trans t4 (by simp))
            clear t2 t4 rB rB2
            go_wp2_with fail
            go_roundw
            case rel => exact ⟨i + 1, by omega, by go_num, by rw [HS.out]; exact HO2.out, HT2.out⟩
            case measure => simp [intOf]; omega
          | false =>
            have HS := Lib.hid (show addL [] (XY.take (i + 1)) = addL [] (XY.take i) ++ [e] by rw [HST.out]; unfold addS; rw [if_pos ⟨hval, hin⟩])
            have HIN := Lib.hid (rhas_v u12 bl (addL [] (XY.take i)) e false hin)
            clear hval hin
            go_wp2_with ((with_reducible refine at_load 28 ?_); refine wpList_load_mid rfl 28 _ rfl gb 0 rfl e.cells _ rB Tryd.underlying28 rfl (by rw [size31, HLE.out]) ?_)
            refine HV2.out.mono ?_
            rintro e2 w2 ⟨rfl, t2⟩
            have rB2 := t2.range rB (by simp)
            go_wp2_with ((with_reducible refine at_load_g 28 _ _ ?_); refine wpList_load_gg _ _ rfl (by rfl) 28 _ rfl gb 0 rfl e.cells _ rB2 Tryd.underlying28 rfl (by rw [size31, HLE.out]) ?_)
            refine (HIN.out w2 (HRL.out.touch t2 (by simp))).mono ?_
            rintro e2 w4 ⟨rfl, t4⟩
            have rB4 := t4.range rB2 (by simp)
            have HO2 := Lib.hid (show OwnA w3 w4 u12 (addL [] (XY.take i)) from Own.touch (Own.touch HOB.out t2 (by simp)) t4 (by simp))
            have HT2 := Lib.hid ((HTB.out.trans t2 (by simp)).trans t4 (by simp))
            clear t2 t4 rB rB2
            go_wp2_with (first | ((with_reducible refine at_load 28 ?_); refine wpList_load_mid rfl 28 _ rfl gb 0 rfl e.cells _ rB4 Tryd.underlying28 rfl (by rw [size31, HLE.out]) ?_) | (refine wpList_build_ad rfl _ rfl e (by rfl) ?_) | (at_builtin; refine wpList_app_ad w3 _ (by rfl) _ _ (by rfl) _ (addL [] (XY.take i)) (by rfl) HO2.out HT2.out.size e (by rfl) HLL.out ?_))
            intro v5 w5 ho5 t5 hv5
            have HO5 := Lib.hid ho5
            have HT5 := Lib.hid (HT2.out.trans t5 (fun g hg => .inr (by have := HO2.out.new g (by simpa using hg); omega)))
            clear ho5 t5 hv5 rB4
            go_wp2_with fail
            go_roundw
            case rel => exact ⟨i + 1, by omega, by go_num, by rw [HS.out]; exact HO5.out, HT5.out⟩
            case measure => simp [intOf]; omega
    · have HAL := Lib.hid (show addL [] (XY.take i) = addL (addL [] X) Y by rw [List.take_of_length_le (by rw [HXYL.out]; omega), HXY.out, addL_append])
      rw [HAL.out] at HO
      have HQ4 := Lib.hid (HQ3.out.touch HT.out (by simp))
      have HOX4 := Lib.hid (show OwnA w wr (.slice aX nx cX) X from Own.touch HOX3.out HT.out (by simp))
      have HOY4 := Lib.hid (show OwnA w wr (.slice aY ny cY) Y from Own.touch HOY3.out HT.out (by simp))
      have HOL4 := Lib.hid (show OwnA w wr u12 (addL (addL [] X) Y) from Own.older HO.out HT3.out.size)
      have hln : ∀ g, u12.ownBlock = some g → g ∉ qfoot h (.slice none 0 0) (.slice none 0 0) := fun g hg hm => by have := HO.out.new g hg; have := below_of HQ3.out g hm; omega
      have HT4 := Lib.hid (HT3.out.trans HT.out (by simp))
      have hA20 : (addL [] X).length ≤ 20 := by have := (addL_len [] X).2; simp at this; rw [← HNX.out] at this; omega
      have hA40 : (addL (addL [] X) Y).length ≤ 40 := by have := (addL_len (addL [] X) Y).2; rw [← HNY.out] at this; omega
      have HX2 := Lib.hid (show addL (addL (addL [] X) Y) X = addL (addL [] X) Y from addL_same (fun a ha hv => (addL_mem _ _ _).2 (.inl ((addL_mem _ _ _).2 (.inr ⟨ha, hv⟩)))))
      have HY2 := Lib.hid (show addL (addL (addL [] X) Y) Y = addL (addL [] X) Y from addL_same (fun a ha hv => (addL_mem _ _ _).2 (.inr ⟨ha, hv⟩)))
      have HIA := Lib.hid (show Inv (addL [] X) [] from Inv.nil.add X)
      obtain ⟨bx, hrx, hbx⟩ := HOX4.out.rdn
      have HAD := Lib.hid (qadd_any w wr h _ _ first [] [] HQ4.out HT4.out.size (.slice aX nx cX) bx X hrx (fun hne hm => HXN.out bx (hbx hne) hm) (by rw [← HNX.out]; simp; omega))
      have HTK0 := Lib.hid (fun K (hb : ∀ i ∈ K, i < (addL [] X).length) => tknP_add (A := addL [] X) hb Y)
      have HIN0 := Lib.hid (fun K (hI : Inv (addL [] X) K) => hI.add Y)
      have HSEP0 := Lib.hid (show Sep (qfoot h (.slice none 0 0) (.slice none 0 0)) (gfoot (.slice aX nx cX) (.slice aY ny cY) u12 (.slice none 0 0)) from by
        intro g hg hm
        simp only [gfoot, List.mem_append, Option.mem_toList] at hm
        rcases hm with e | e | e | e
        · exact HXN.out g e hg
        · exact HYN.out g e hg
        · exact hln g e hg
        · simp [Value.ownBlock] at e)
      have HG4 := Lib.hid (show ∀ g ∈ gfoot (.slice aX nx cX) (.slice aY ny cY) u12 (.slice none 0 0), g < wr.heap.size from by
        intro g hm
        simp only [gfoot, List.mem_append, Option.mem_toList] at hm
        rcases hm with e | e | e | e
        · exact Own.lt HOX4.out g e
        · exact Own.lt HOY4.out g e
        · exact Own.lt HOL4.out g e
        · simp [Value.ownBlock] at e)
      clear hrx hbx hln HO HT HQ3 HOX3 HOY3 HT3 HAL hwn
      go_wp2_with fail
      refine HAD.out.mono ?_
      rintro e5 W5 ⟨va, rfl, q5, t5, hv5⟩
      have HQ5 := Lib.hid q5
      have HT5 := Lib.hid (HQ4.out.out HT4.out t5 (foot_add h _ _))
      have HS5 := Lib.hid (HSEP0.out.grow HG4.out (foot_new_add hv5))
      have hoth : Oth w W5 W5 (.slice aX nx cX) (.slice aY ny cY) u12 (.slice none 0 0) X Y (addL (addL [] X) Y) [] :=
        ⟨Own.touch HOX4.out t5 (fun g hg hm => HSEP0.out g (foot_add h _ _ g hm) (by simp [gfoot, hg])), Own.touch HOY4.out t5 (fun g hg hm => HSEP0.out g (foot_add h _ _ g hm) (by simp [gfoot, hg])), Own.touch HOL4.out t5 (fun g hg hm => HSEP0.out g (foot_add h _ _ g hm) (by simp [gfoot, hg])), Own.nil _ _⟩
      have HO5 := Lib.hid hoth
      have HWL := Lib.hid (show ∀ g, ((Value.slice aX nx cX).ownBlock = some g ∨ (Value.slice aY ny cY).ownBlock = some g ∨ u12.ownBlock = some g) → g < W5.heap.size from by
        intro g hg
        rcases hg with e | e | e
        · exact Own.lt hoth.x g e
        · exact Own.lt hoth.y g e
        · exact Own.lt hoth.l g e)
      have HW5 := Lib.hid (show w.heap.size ≤ W5.heap.size from HT5.out.size)
      obtain ⟨A2, hA2⟩ : ∃ A2, A2 = addL (addL [] X) Y := ⟨_, rfl⟩
      obtain ⟨A, hA⟩ : ∃ A, A = addL [] X := ⟨_, rfl⟩
      have HA2 := Lib.hid hA2
      have HAA := Lib.hid hA
      rw [← hA2] at hA40 HX2 HY2 HO5 HTK0 HIN0
      rw [← hA] at hA20 HIA HQ5 HTK0 HIN0 ⊢
      obtain ⟨n0, hn0⟩ : ∃ n0, n0 = A.length := ⟨_, rfl⟩
      obtain ⟨n1, hn1⟩ : ∃ n1, n1 = n0 + 1 := ⟨_, rfl⟩
      have hwn1 : IntKind.i64.wrap ((n0 : Int) + 1) = (n1 : Int) := by rw [IntKind.wrap_i64] <;> omega
      obtain ⟨m, hm⟩ : ∃ m : Nat, (m : Int) = gmod at_ (n1 : Int) := ⟨(gmod at_ (n1 : Int)).toNat, by have := gmod_lo at_ (n1 : Int) (by omega); omega⟩
      have hmn : m ≤ n0 := by have := gmod_hi at_ (n1 : Int) (by omega); omega
      have HM := Lib.hid hm
      have HN0 := Lib.hid hn0
      simp only [List.length_nil, Nat.sub_zero]
      rw [← hn0]
      have hn1a : 1 ≤ n1 ∧ n1 ≤ 21 := by omega
      have hn0a : n0 ≤ 20 := by omega
      clear q5 t5 hv5 hoth HQ4 HT4 HOX4 HOY4 HOL4 HSEP0 HG4 HAD hm hA hA2 hn0 hn1
      go_wp2_with fail
      go_loopw [16, 17, 18, 19] (fun v16 v17 v18 v19 wr => ∃ (i : Nat) (vt : Value) (K : List Nat), i ≤ m ∧ v17 = .int .i64 i ∧ Qu w wr h va vt first A K ∧ Inv A K ∧ K.length = i ∧ Oth w W5 wr (.slice aX nx cX) (.slice aY ny cY) u12 v16 X Y A2 (tknP A K) ∧ Sep (qfoot h va vt) (gfoot (.slice aX nx cX) (.slice aY ny cY) u12 v16) ∧ Touch [] w wr ∧ W5.heap.size ≤ wr.heap.size) (fun _ v17 _ _ _ => m - (intOf v17).toNat)
      case atStart => exact ⟨0, _, [], by omega, rfl, HQ5.out, HIA.out, rfl, HO5.out, HS5.out, HT5.out, Nat.le_refl _⟩
      case round =>
        obtain ⟨i, vt, K, him, rfl, hq, hI, hK, ho, hs, ht, hz⟩ := hrel
        have HQ := Lib.hid hq
        have HI := Lib.hid hI
        have HO := Lib.hid ho
        have HSP := Lib.hid hs
        have HT := Lib.hid ht
        have HZ := Lib.hid hz
        have HKL := Lib.hid hK
        have hKle : K.length ≤ 20 := by omega
        have hwi : IntKind.i64.wrap ((i : Int) + 1) = (i : Int) + 1 := by rw [IntKind.wrap_i64] <;> omega
        clear hq hI ho hs ht hz hK HQ5 HO5 HS5 HT5
        go_wp2_with fail
        refine (mod_any at_ (n1 : Int) _ (by omega) (by omega)).mono ?_
        rintro e2 w' ⟨rfl, rfl⟩
        rw [← HM.out]
        by_cases hlt2 : i < m
        · skip
          obtain ⟨a, r, hrm⟩ : ∃ a r, remP first A K = a :: r := by
            have hl := HI.out.left first
            cases h0 : remP first A K with
            | nil => rw [h0] at hl; have := HKL.out; have := HN0.out; simp at hl; omega
            | cons a r => exact ⟨a, r, rfl⟩
          obtain ⟨n1, n2, n3, n4, n5⟩ := HI.out.next hrm
          have HTK := Lib.hid (qtake_cons w wr h va vt first A K _ a r hrm rfl HQ.out HT.out.size (by omega) (by omega))
          have HNI := Lib.hid (show inL (tknP A K) a = false by simpa [inL] using n2)
          have HALL := Lib.hid (show inL A a = true by simpa [inL] using n1)
          have HI2 := Lib.hid n3
          have HTN := Lib.hid n4
          have HK2 := Lib.hid n5
          have HLA := Lib.hid a.len
          clear n1 n2 n3 n4 n5 hrm
          generalize takeK A K a = K2 at *
          go_wp2_with fail
          refine HTK.out.mono ?_
          rintro e2 w7 ⟨rfl, vt2, q7, t7, hv7⟩
          have HT7 := Lib.hid (HQ.out.out HT.out t7 (foot_take h _ _))
          have HO7 := Lib.hid (HO.out.touch t7 (fun g hg hm => HSP.out g (foot_take h _ _ g hm) hg))
          have HS7 := Lib.hid (HSP.out.grow HO.out.lt (foot_new_take hv7))
          have HQ7 := Lib.hid q7
          have HZ7 := Lib.hid (Nat.le_trans HZ.out t7.size)
          clear q7 t7 hv7 HQ HO HSP HT HTK HZ
          have HN := Lib.hid (heap_alloc_new w7 (.cells (adr false (List.replicate 16 0)).toArray 28))
          have HA := Lib.hid ((Touch.refl [] w7).alloc (.cells (adr false (List.replicate 16 0)).toArray 28))
          go_wp2_with ((with_reducible refine at_store 28 ?_); refine wpList_store_into rfl 28 _ _ rfl w7.heap.size 28 _ a.cells rfl rfl HN.out (by rw [HLA.out]; rfl) (by rw [size31, HLA.out]) a.one ?_)
          intro w8 h8 t8 z8
          have t8' := HA.out.trans t8 (by intro y hy; right; simp at hy; omega)
          have HZ8 := Lib.hid (Nat.le_trans HZ7.out t8'.size)
          have HT8 := Lib.hid (HT7.out.trans t8' (by simp))
          have HO8 := Lib.hid (HO7.out.touch t8' (by simp))
          have HQ8 := Lib.hid (HQ7.out.touch t8' (by simp))
          have rA := range_block h8
          generalize w7.heap.size = ga at *
          clear h8 t8 z8 t8' HN HA HQ7 HO7 HT7
          obtain ⟨bT, hrT, _⟩ := (HO8.out).t.rd
          have HIN := Lib.hid (rhas_v _ bT (tknP A K) a false HNI.out w8 hrT)
          clear hrT
          go_wp2_with ((with_reducible refine at_load_g 28 _ _ ?_); refine wpList_load_gg _ _ rfl (by rfl) 28 _ rfl ga 0 rfl a.cells _ rA Tryd.underlying28 rfl (by rw [size31, HLA.out]) ?_)
          refine HIN.out.mono ?_
          rintro e2 w9 ⟨rfl, t9⟩
          have HZ9 := Lib.hid (Nat.le_trans HZ8.out t9.size)
          have HT9 := Lib.hid (HT8.out.trans t9 (by simp))
          have HO9 := Lib.hid (HO8.out.touch t9 (by simp))
          have HQ9 := Lib.hid (HQ8.out.touch t9 (by simp))
          have rA9 := t9.range rA (by simp)
          clear t9 rA HIN HT8 HO8 HQ8
          have htl := tkn_len A K
          have HLL := Lib.hid (show ((tknP A K).length + 1) * 17 ≤ 140737488355328 by omega)
          clear htl
          go_wp2_with (first | ((with_reducible refine at_load 28 ?_); refine wpList_load_mid rfl 28 _ rfl ga 0 rfl a.cells _ rA9 Tryd.underlying28 rfl (by rw [size31, HLA.out]) ?_) | (refine wpList_build_ad rfl _ rfl a (by rfl) ?_) | (at_builtin; refine wpList_app_ad W5 _ (by rfl) _ _ (by rfl) _ (tknP A K) (by rfl) (HO9.out).t HZ9.out a (by rfl) HLL.out ?_))
          intro v11 w11 ho11 t11 hv11
          rw [← HTN.out] at ho11
          have HO11 := Lib.hid (HO9.out.app HWL.out t11 ho11)
          have HT11 := Lib.hid (HT9.out.trans t11 (fun g hg => .inr (Nat.le_trans HW5.out ((HO9.out).t.new g (by simpa using hg)))))
          have HQ11 := Lib.hid (HQ9.out.touch t11 (fun g hg hm => HS7.out g hg (by simp only [gfoot, List.mem_append]; exact .inr (.inr (.inr hm)))))
          have HS11 := Lib.hid (sep_app HS7.out (below_of HQ9.out) (by rcases hv11 with e | e; exact .inl e; exact .inr ⟨_, e, by omega⟩))
          have HZ11 := Lib.hid (Nat.le_trans HZ9.out t11.size)
          have hK2 := HK2.out
          clear ho11 t11 hv11 rA9 HQ9 HO9 HT9 HS7
          go_wp2_with fail
          go_roundw
          case rel => exact ⟨i + 1, vt2, K2, by omega, by go_num, HQ11.out, HI2.out, by have := HKL.out; omega, HO11.out, HS11.out, HT11.out, HZ11.out⟩
          case measure => simp [intOf]; omega
        · have hAY : addL A Y = A2 := by rw [HA2.out, HAA.out]
          obtain ⟨n2, hn2⟩ : ∃ n2, n2 = A2.length := ⟨_, rfl⟩
          obtain ⟨d, hd⟩ : ∃ d, d = n2 - n0 := ⟨_, rfl⟩
          have hn02 : n0 ≤ n2 := by rw [hn2, ← hAY, HN0.out]; exact (addL_len A Y).1
          have hws : IntKind.i64.wrap ((n0 : Int) + (d : Int)) = (n2 : Int) := by rw [IntKind.wrap_i64] <;> omega
          obtain ⟨by_, hry, hby⟩ := HO.out.y.rdn
          have HAD := Lib.hid (qadd_any w wr h va vt first A K HQ.out HT.out.size (.slice aY ny cY) by_ Y hry (fun hne hm => HSP.out by_ hm (by simp [gfoot, hby hne])) (by rw [← HNY.out, ← HN0.out]; omega))
          rw [hAY, ← HN0.out, ← hn2, ← hd] at HAD
          have HTE := Lib.hid (HTK0.out K HI.out.bound)
          have HI6 := Lib.hid (HIN0.out K HI.out)
          obtain ⟨aL, cL, hvL, _, _, _⟩ := HO.out.l.form
          rw [← hn2] at hvL
          subst hvL
          have HN2 := Lib.hid hn2
          have hq2 : ((n2 : Int) != (n2 : Int)) = false := by simp
          have hn40 : n2 ≤ 40 := by omega
          clear hry hby hAY hn2 hd hwi
          go_wp2_with fail
          refine HAD.out.mono ?_
          rintro e6 w6 ⟨va6, rfl, q6, t6, hv6⟩
          have HQ6 := Lib.hid q6
          have HT6 := Lib.hid (HQ.out.out HT.out t6 (foot_add h _ _))
          have ho6 := HO.out.touch t6 (fun g hg hm => HSP.out g (foot_add h _ _ g hm) hg)
          rw [← HTE.out] at ho6
          have HO6 := Lib.hid ho6
          have HS6 := Lib.hid (HSP.out.grow HO.out.lt (foot_new_add hv6))
          have HZ6 := Lib.hid (Nat.le_trans HZ.out t6.size)
          obtain ⟨bx6, hrx, hbx⟩ := ho6.x.rdn
          have HAD := Lib.hid (qadd_any w w6 h va6 vt first A2 K HQ6.out HT6.out.size (.slice aX nx cX) bx6 X hrx (fun hne hm => HS6.out bx6 hm (by simp [gfoot, hbx hne])) (by rw [← HNX.out, ← HN2.out]; omega))
          rw [HX2.out, Nat.sub_self] at HAD
          clear q6 t6 ho6 hv6 hrx hbx HQ HT HO HSP HZ HI HTE
          go_wp2_with fail
          refine HAD.out.mono ?_
          rintro e7 w7 ⟨va7, rfl, q7, t7, hv7⟩
          have HQ7 := Lib.hid q7
          have HT7 := Lib.hid (HQ6.out.out HT6.out t7 (foot_add h _ _))
          have ho7 := HO6.out.touch t7 (fun g hg hm => HS6.out g (foot_add h _ _ g hm) hg)
          have HO7 := Lib.hid ho7
          have HS7 := Lib.hid (HS6.out.grow HO6.out.lt (foot_new_add hv7))
          have HZ7 := Lib.hid (Nat.le_trans HZ6.out t7.size)
          obtain ⟨by7, hry, hby⟩ := ho7.y.rdn
          have HAD := Lib.hid (qadd_any w w7 h va7 vt first A2 K HQ7.out HT7.out.size (.slice aY ny cY) by7 Y hry (fun hne hm => HS7.out by7 hm (by simp [gfoot, hby hne])) (by rw [← HNY.out, ← HN2.out]; omega))
          rw [HY2.out, Nat.sub_self] at HAD
          clear q7 t7 ho7 hv7 hry hby HQ6 HT6 HO6 HS6 HZ6
          go_wp2_with fail
          refine HAD.out.mono ?_
          rintro e8 w8 ⟨va, rfl, q8, t8, hv8⟩
          have HQ8 := Lib.hid q8
          have HT8 := Lib.hid (HQ7.out.out HT7.out t8 (foot_add h _ _))
          have HO8 := Lib.hid (HO7.out.touch t8 (fun g hg hm => HS7.out g (foot_add h _ _ g hm) hg))
          have HS8 := Lib.hid (HS7.out.grow HO7.out.lt (foot_new_add hv8))
          have HZ8 := Lib.hid (Nat.le_trans HZ7.out t8.size)
          have hkn : K.length ≤ n2 := by have := HKL.out; omega
          clear q8 t8 hv8 HQ7 HT7 HO7 HS7 HZ7 HAD hws hq2
          go_wp2_with fail
          go_loopw [16, 20, 21] (fun v16 v20 v21 wr => ∃ (vt : Value) (K : List Nat), Qu w wr h va vt first A2 K ∧ Inv A2 K ∧ K.length ≤ n2 ∧ Oth w W5 wr (.slice aX nx cX) (.slice aY ny cY) (.slice aL n2 cL) v16 X Y A2 (tknP A2 K) ∧ Sep (qfoot h va vt) (gfoot (.slice aX nx cX) (.slice aY ny cY) (.slice aL n2 cL) v16) ∧ Touch [] w wr ∧ W5.heap.size ≤ wr.heap.size) (fun v16 _ _ _ => n2 - lenOf v16)
          case atStart => exact ⟨vt, K, HQ8.out, HI6.out, hkn, HO8.out, HS8.out, HT8.out, HZ8.out⟩
          case round =>
            obtain ⟨vt, K, hq, hI, hK, ho, hs, ht, hz⟩ := hrel
            have HQ := Lib.hid hq
            have HI := Lib.hid hI
            have HSP := Lib.hid hs
            have HT := Lib.hid ht
            have HZ := Lib.hid hz
            obtain ⟨aT, cT, hvT, _, _, _⟩ := ho.t.form
            rw [tknP_len hI.bound] at hvT
            obtain ⟨kk, hkk⟩ : ∃ kk, kk = K.length := ⟨_, rfl⟩
            rw [← hkk] at hvT hK
            subst hvT
            have HO := Lib.hid ho
            have HKL := Lib.hid hkk.symm
            have HN0 := Lib.hid HN2.out
            have hKle : K.length ≤ 40 := by omega
            clear hq hI ho hs ht hz hkk HQ8 HO8 HS8 HT8 HZ8 hkn
            by_cases hlt3 : kk < n2
            · skip
              obtain ⟨a, r, hrm⟩ : ∃ a r, remP first A2 K = a :: r := by
                have hl := HI.out.left first
                cases h0 : remP first A2 K with
                | nil => rw [h0] at hl; have := HKL.out; have := HN0.out; simp at hl; omega
                | cons a r => exact ⟨a, r, rfl⟩
              obtain ⟨n1, n2, n3, n4, n5⟩ := HI.out.next hrm
              have HTK := Lib.hid (qtake_cons w wr h va vt first A2 K _ a r hrm rfl HQ.out HT.out.size (by omega) (by omega))
              have HNI := Lib.hid (show inL (tknP A2 K) a = false by simpa [inL] using n2)
              have HALL := Lib.hid (show inL A2 a = true by simpa [inL] using n1)
              have HI2 := Lib.hid n3
              have HTN := Lib.hid n4
              have HK2 := Lib.hid n5
              have HLA := Lib.hid a.len
              clear n1 n2 n3 n4 n5 hrm
              generalize takeK A2 K a = K2 at *
              go_wp2_with fail
              refine HTK.out.mono ?_
              rintro e2 w7 ⟨rfl, vt2, q7, t7, hv7⟩
              have HT7 := Lib.hid (HQ.out.out HT.out t7 (foot_take h _ _))
              have HO7 := Lib.hid (HO.out.touch t7 (fun g hg hm => HSP.out g (foot_take h _ _ g hm) hg))
              have HS7 := Lib.hid (HSP.out.grow HO.out.lt (foot_new_take hv7))
              have HQ7 := Lib.hid q7
              have HZ7 := Lib.hid (Nat.le_trans HZ.out t7.size)
              clear q7 t7 hv7 HQ HO HSP HT HTK HZ
              have HN := Lib.hid (heap_alloc_new w7 (.cells (adr false (List.replicate 16 0)).toArray 28))
              have HA := Lib.hid ((Touch.refl [] w7).alloc (.cells (adr false (List.replicate 16 0)).toArray 28))
              go_wp2_with ((with_reducible refine at_store 28 ?_); refine wpList_store_into rfl 28 _ _ rfl w7.heap.size 28 _ a.cells rfl rfl HN.out (by rw [HLA.out]; rfl) (by rw [size31, HLA.out]) a.one ?_)
              intro w8 h8 t8 z8
              have t8' := HA.out.trans t8 (by intro y hy; right; simp at hy; omega)
              have HZ8 := Lib.hid (Nat.le_trans HZ7.out t8'.size)
              have HT8 := Lib.hid (HT7.out.trans t8' (by simp))
              have HO8 := Lib.hid (HO7.out.touch t8' (by simp))
              have HQ8 := Lib.hid (HQ7.out.touch t8' (by simp))
              have rA := range_block h8
              generalize w7.heap.size = ga at *
              clear h8 t8 z8 t8' HN HA HQ7 HO7 HT7
              obtain ⟨bT, hrT, _⟩ := (HO8.out).t.rd
              have HIN := Lib.hid (rhas_v _ bT (tknP A2 K) a false HNI.out w8 hrT)
              clear hrT
              go_wp2_with ((with_reducible refine at_load_g 28 _ _ ?_); refine wpList_load_gg _ _ rfl (by rfl) 28 _ rfl ga 0 rfl a.cells _ rA Tryd.underlying28 rfl (by rw [size31, HLA.out]) ?_)
              refine HIN.out.mono ?_
              rintro e2 w9 ⟨rfl, t9⟩
              have HZ9 := Lib.hid (Nat.le_trans HZ8.out t9.size)
              have HT9 := Lib.hid (HT8.out.trans t9 (by simp))
              have HO9 := Lib.hid (HO8.out.touch t9 (by simp))
              have HQ9 := Lib.hid (HQ8.out.touch t9 (by simp))
              have rA9 := t9.range rA (by simp)
              clear t9 rA HIN HT8 HO8 HQ8
              obtain ⟨bL, hrL, _⟩ := (HO9.out).l.rd
              have HIN := Lib.hid (rhas_v _ bL A2 a true HALL.out w9 hrL)
              clear hrL
              go_wp2_with ((with_reducible refine at_load_g 28 _ _ ?_); refine wpList_load_gg _ _ rfl (by rfl) 28 _ rfl ga 0 rfl a.cells _ rA9 Tryd.underlying28 rfl (by rw [size31, HLA.out]) ?_)
              refine HIN.out.mono ?_
              rintro e2 w10 ⟨rfl, t9⟩
              have HZ10 := Lib.hid (Nat.le_trans HZ9.out t9.size)
              have HT10 := Lib.hid (HT9.out.trans t9 (by simp))
              have HO10 := Lib.hid (HO9.out.touch t9 (by simp))
              have HQ10 := Lib.hid (HQ9.out.touch t9 (by simp))
              have rA10 := t9.range rA9 (by simp)
              clear t9 rA9 HIN HT9 HO9 HQ9
              have htl := tkn_len A2 K
              have HLL := Lib.hid (show ((tknP A2 K).length + 1) * 17 ≤ 140737488355328 by omega)
              clear htl
              go_wp2_with (first | ((with_reducible refine at_load 28 ?_); refine wpList_load_mid rfl 28 _ rfl ga 0 rfl a.cells _ rA10 Tryd.underlying28 rfl (by rw [size31, HLA.out]) ?_) | (refine wpList_build_ad rfl _ rfl a (by rfl) ?_) | (at_builtin; refine wpList_app_ad W5 _ (by rfl) _ _ (by rfl) _ (tknP A2 K) (by rfl) (HO10.out).t HZ10.out a (by rfl) HLL.out ?_))
              intro v11 w11 ho11 t11 hv11
              rw [← HTN.out] at ho11
              have HO11 := Lib.hid (HO10.out.app HWL.out t11 ho11)
              have HT11 := Lib.hid (HT10.out.trans t11 (fun g hg => .inr (Nat.le_trans HW5.out ((HO10.out).t.new g (by simpa using hg)))))
              have HQ11 := Lib.hid (HQ10.out.touch t11 (fun g hg hm => HS7.out g hg (by simp only [gfoot, List.mem_append]; exact .inr (.inr (.inr hm)))))
              have HS11 := Lib.hid (sep_app HS7.out (below_of HQ10.out) (by rcases hv11 with e | e; exact .inl e; exact .inr ⟨_, e, by omega⟩))
              have HZ11 := Lib.hid (Nat.le_trans HZ10.out t11.size)
              have hK2 := HK2.out
              clear ho11 t11 hv11 rA10 HQ10 HO10 HT10 HS7
              go_wp2_with fail
              go_roundw
              case rel => exact ⟨vt2, K2, HQ11.out, HI2.out, by have := HKL.out; omega, HO11.out, HS11.out, HT11.out, HZ11.out⟩
              case measure =>
                obtain ⟨a11, c11, hv11, _, _, _⟩ := HO11.out.t.form
                rw [tknP_len HI2.out.bound] at hv11
                rw [hv11]
                have := HKL.out
                simp only [lenOf]
                omega
            · have hrem : remP first A2 K = [] := by
                have hl := HI.out.left first
                have h1 := HKL.out
                have h2 := HN2.out
                exact List.eq_nil_of_length_eq_zero (by omega)
              have HTK := Lib.hid (qtake_any w wr h va vt first A2 K HQ.out HT.out.size (by omega) (by omega))
              rw [hrem] at HTK
              have HZL := Lib.hid (headA []).len
              have HZO := Lib.hid (headA []).one
              clear hrem
              go_wp2_with fail
              refine HTK.out.mono ?_
              rintro e9 w9 ⟨rfl, vt9, q9, t9, hv9⟩
              have HT9 := Lib.hid (HQ.out.out HT.out t9 (foot_take h _ _))
              have HO9 := Lib.hid (HO.out.touch t9 (fun g hg hm => HSP.out g (foot_take h _ _ g hm) hg))
              have HQ9 := Lib.hid (show Qu w w9 h va vt9 first A2 K from q9)
              generalize headA [] = za at *
              have HN := Lib.hid (heap_alloc_new w9 (.cells (adr false (List.replicate 16 0)).toArray 28))
              have HA := Lib.hid ((Touch.refl [] w9).alloc (.cells (adr false (List.replicate 16 0)).toArray 28))
              clear q9 t9 hv9 HTK HQ HT HO HSP HZ
              go_wp2_with ((with_reducible refine at_store 28 ?_); refine wpList_store_into rfl 28 _ _ rfl w9.heap.size 28 _ za.cells rfl rfl HN.out (by rw [HZL.out]; rfl) (by rw [size31, HZL.out]) HZO.out ?_)
              intro w10 h10 t10 z10
              have t10' := HA.out.trans t10 (by intro y hy; right; simp at hy; omega)
              have HT10 := Lib.hid (HT9.out.trans t10' (by simp))
              have HO10 := Lib.hid (HO9.out.touch t10' (by simp))
              have HQ10 := Lib.hid (HQ9.out.touch t10' (by simp))
              clear h10 t10 z10 t10' HN HA HQ9 HO9 HT9
              go_wp2_with fail
              refine (awake28_ok _).mono ?_
              rintro e11 w11 ⟨rfl, t11⟩
              have HT11 := Lib.hid (HT10.out.trans t11 (by simp))
              have HO11 := Lib.hid (HO10.out.touch t11 (by simp))
              have HQ11 := Lib.hid (HQ10.out.touch t11 (by simp))
              have HTN := Lib.hid (qtaken_any w w11 h va vt9 first A2 K HQ11.out (by omega))
              clear t11 HQ10 HO10 HT10
              go_wp2_with fail
              refine HTN.out.mono ?_
              rintro e12 w12 ⟨v12, rfl, o12, t12⟩
              have HT12 := Lib.hid (HT11.out.trans t12 (by simp))
              obtain ⟨b12, r12, _⟩ := (show OwnA w11 w12 v12 _ from o12).rd
              obtain ⟨bT, rT, _⟩ := (HO11.out.touch t12 (by simp)).t.rd
              have HEQ := Lib.hid (equalTQ _ _ b12 bT (tknP A2 K) w12 r12 rT)
              clear o12 t12 r12 rT HQ11 HO11 HT11 HTN
              go_wp2_with fail
              refine HEQ.out.mono ?_
              rintro e13 w13 ⟨rfl, t13⟩
              have HT13 := Lib.hid (HT12.out.trans t13 (by simp))
              clear t13
              go_wp2_with fail
              go_ret
              exact ⟨rfl, HT13.out⟩
theorem walk {H : Type} {enc : TypeId × Value → H} {w : World} (a : Int) (hw : (Lit.int .i64 a).wf = true) (v : Value) (hv : IsSlice enc Tryd.prog w 0 (fun _ => true) true [4, 5, 5, 5, 5, 5, 5, 5, 5, 5, 5, 5, 5, 5, 5, 5, 5] v) (v2 : Value) (hv2 : IsSlice enc Tryd.prog w 0 (fun _ => true) true [4, 5, 5, 5, 5, 5, 5, 5, 5, 5, 5, 5, 5, 5, 5, 5, 5] v2) (c : Int) (hc : (Lit.int .i64 c).wf = true) :
    Calls Tryd.prog 6 #[.int .i64 a, v, v2, .int .i64 c] w fun e w' => e = .returned (.bool true) ∧ Below w.heap.size w w' := by
  obtain ⟨b, xs, hr, hx⟩ := slice_rows (by simp) hv
  obtain ⟨b2, xs2, hr2, hx2⟩ := slice_rows (by simp) hv2
  exact (walk0 a v v2 b b2 xs xs2 c w hr (fun x h => isAd_cells (hx x h)) hr2 (fun x h => isAd_cells (hx2 x h))).mono fun e w' ⟨h1, h2⟩ => ⟨h1, h2.below (by simp) (Nat.le_refl _)⟩
end Go.Proofs.YtiklhaajhdephaaDoor.candidatesAreTakenOnce

/-
  The statement 'CandidatesAreTakenOnceSaid' of the seat: the frame of the row round the walk of the law's Go function (YtiklhaajhdephaaDoorW7): for every input the call returns true and each argument reads as it did.
-/
namespace Go.Proofs.YtiklhaajhdephaaDoor.candidatesAreTakenOnce
open Go.ChangeShapes Go.WideShapes Go.Deep Go.ChangeAt Go.RowKit
open Go.ChangeMaps (open_string shut_string)
set_option linter.unusedVariables false

theorem own : ownKnob Tryd.prog.godebug = none := by kernel_rfl
theorem laidOut : laidOutB Tryd.prog = true := by kernel_rfl

set_option maxRecDepth 100000 in
theorem lifted (os : Os) (started : os.Started) (H : Type) (enc : TypeId × Value → H) :
    ReturnsInHanded {} Tryd.checked os 6 .any (fun w args => (Rows.candidatesAreTakenOnceSpec.pre enc Tryd.prog Tryd.f6 Rows.candidatesAreTakenOnceRow.domain false w args ∧ laidMetH Tryd.prog Rows.candidatesAreTakenOnceRow.laid w) ∧ sizedMet enc Tryd.prog Tryd.f6 (OpenSpec.ofChange Rows.candidatesAreTakenOnceSpec) false w args)
      (Rows.candidatesAreTakenOnceSpec.post enc Tryd.prog Tryd.f6 false true false false) := by
  refine returnsInHanded_of_change_and (C := Tryd.checked) (X := fun w _ => laidMetH Tryd.prog Rows.candidatesAreTakenOnceRow.laid w) (fun _ _ _ hh h => h.of_heap hh) own started (by kernel_rfl) Tryd.func6
    (ChangeSpec.witness_shaped (enc := enc) (C := Tryd.checked) (os := os) (X := fun w _ => laidMetH Tryd.prog Rows.candidatesAreTakenOnceRow.laid w) false (World.laidAll Tryd.prog os Rows.candidatesAreTakenOnceRow.laid) #[.int .i64 0, .slice none 0 0, .slice none 0 0, .int .i64 0] 8 (World.laidAll_os _ _ _)
      (World.shaped_of_ZipB (by kernel_rfl) (by kernel_rfl)) (by kernel_rfl) (by kernel_rfl) (by kernel_rfl)
      (by rw [MakeChecks.laidMetH_plain _ _ _ (by kernel_rfl)]; exact laidMet_laidAll _ (by kernel_rfl) (by kernel_rfl))) ?_
  intro W base args ds gs before hval0 hW hcnd hsz0 hL _
  have hval : ∀ (j : Nat) t v, Tryd.f6.params[j]? = some t → args[j]? = some v → Value.okWide Tryd.prog W .any base t v := hval0
  have hW' := hW
  obtain ⟨p, q, hA0, hV, rfl, hfz, hnd⟩ := hW
  have hA : DataW.TrodAll enc Tryd.prog W 0 (fun _ => true) true Tryd.f6.params.toList args.toList ds p := hA0
  rw [Tryd.params6] at hA hval
  obtain ⟨v0, vs0, d0, ds0, p0, q0, hargs, rfl, rfl, h0, r0⟩ := trodAll_cons hA
  obtain ⟨v1, vs1, d1, ds1, p1, q1, rfl, rfl, rfl, h1, r1⟩ := trodAll_cons r0
  obtain ⟨v2, vs2, d2, ds2, p2, q2, rfl, rfl, rfl, h2, r2⟩ := trodAll_cons r1
  obtain ⟨v3, vs3, d3, ds3, p3, q3, rfl, rfl, rfl, h3, r3⟩ := trodAll_cons r2
  obtain ⟨rfl, rfl, rfl⟩ := trodAll_nil r3
  obtain rfl : args = #[v0, v1, v2, v3] := by cases args; simp_all
  obtain ⟨rfl, rfl⟩ := trodVars_none hV
  have k0 := h0
  have lt0 : ∀ x ∈ p0, x.block < W.heap.size := by obtain ⟨m, hm⟩ := k0; exact DataW.trod_lt m _ _ _ hm
  have k1 := h1
  have lt1 : ∀ x ∈ p1, x.block < W.heap.size := by obtain ⟨m, hm⟩ := k1; exact DataW.trod_lt m _ _ _ hm
  have k2 := h2
  have lt2 : ∀ x ∈ p2, x.block < W.heap.size := by obtain ⟨m, hm⟩ := k2; exact DataW.trod_lt m _ _ _ hm
  have k3 := h3
  have lt3 : ∀ x ∈ p3, x.block < W.heap.size := by obtain ⟨m, hm⟩ := k3; exact DataW.trod_lt m _ _ _ hm
  obtain ⟨a0, rfl, e0, ee0, w0⟩ := open_int Tryd.underlying3 (hval 0 3 v0 rfl rfl) h0
  obtain ⟨b1, len1, cap1, hv1⟩ := okWide_slice Tryd.underlying22 (hval 1 22 v1 rfl rfl)
  have s1 : IsSlice enc Tryd.prog W 0 (fun _ => true) true [4, 5, 5, 5, 5, 5, 5, 5, 5, 5, 5, 5, 5, 5, 5, 5, 5] v1 := by
    obtain ⟨fuel, hf⟩ := h1
    rw [hv1] at hf ⊢
    exact slice_ok (d := 8) Tryd.underlying22 (by kernel_rfl) (by kernel_rfl) (by simpa [Value.cells] using hf)
  obtain ⟨b2, len2, cap2, hv2⟩ := okWide_slice Tryd.underlying22 (hval 2 22 v2 rfl rfl)
  have s2 : IsSlice enc Tryd.prog W 0 (fun _ => true) true [4, 5, 5, 5, 5, 5, 5, 5, 5, 5, 5, 5, 5, 5, 5, 5, 5] v2 := by
    obtain ⟨fuel, hf⟩ := h2
    rw [hv2] at hf ⊢
    exact slice_ok (d := 8) Tryd.underlying22 (by kernel_rfl) (by kernel_rfl) (by simpa [Value.cells] using hf)
  obtain ⟨a3, rfl, e3, ee3, w3⟩ := open_int Tryd.underlying3 (hval 3 3 v3 rfl rfl) h3
  clear hA0 hval0
  refine (walk (H := H) (enc := enc) (w := W) a0 w0 v1 s1 v2 s2 a3 w3).mono fun e W' ⟨he, bel⟩ => ?_
  subst he
  exact ⟨_, rfl, _, _, _, [], _, [], hW', trodAll_mk1 (shut_bool Tryd.underlying4 _), (trodAll_cons_mk (Below.trod laidOut (by kernel_rfl) (of_decide_eq_true (by kernel_rfl)) k0 bel lt0) (trodAll_cons_mk (Below.trod laidOut (by kernel_rfl) (of_decide_eq_true (by kernel_rfl)) k1 bel lt1) (trodAll_cons_mk (Below.trod laidOut (by kernel_rfl) (of_decide_eq_true (by kernel_rfl)) k2 bel lt2) (trodAll_cons_mk (Below.trod laidOut (by kernel_rfl) (of_decide_eq_true (by kernel_rfl)) k3 bel lt3) trodAll_mk0)))), rfl, bel.frame _, fun h => by cases h⟩

theorem over : Rows.candidatesAreTakenOnceRow.holds Tryd.pinned (OpenSpec.ofChange Rows.candidatesAreTakenOnceSpec) :=
  OpenClaim.holds_of_wide 6 Tryd.f6 rfl rfl rfl rfl rfl rfl rfl ⟨rfl, rfl, rfl, rfl, rfl⟩ rfl rfl rfl rfl rfl (by kernel_rfl) Tryd.func6 (by kernel_rfl)
    (of_decide_eq_true (by kernel_rfl)) (by unfold Func.isWrapper; first | (rw [if_pos (by decide +kernel)]; kernel_rfl) | (rw [if_neg (by decide +kernel)]; exact ⟨rfl, rfl⟩))
    (fun os started H enc _ => lifted os started H enc)

theorem proved : Rows.CandidatesAreTakenOnceCardSaid :=
  Claim7.holds_tied_plain_at .later [] [.data, .pinned] true (true, "5befad24a3e9b3d9c688acd4ea44020d752db1b22d3d70f9edc34305006425d2") false over (fun _ h => by cases h) (by kernel_rfl) (fun _ h => by cases h) candidatesAreTakenOnce_row_tie rfl ⟨rfl, rfl⟩ (by kernel_rfl) rfl
    (fun f fn hf hfn => by
      obtain rfl : f = 6 := Option.some.inj ((show Tryd.prog.funcNamed "ginnel/ginnellaw28.CandidatesAreTakenOnce" = some 6 by kernel_rfl).symm.trans hf) |>.symm
      obtain rfl : fn = Tryd.f6 := (Option.some.inj (Tryd.func6.symm.trans hfn)).symm
      exact ⟨by kernel_rfl, fun j t ht => by
        rw [Tryd.params6] at ht
        have hm : t ∈ [3, 22, 22, 3] := by simpa using Array.mem_of_getElem? ht
        have hall : ([3, 22, 22, 3].all fun u => !Tryd.prog.wantsStandIn u) = true := by kernel_rfl
        exact (show Tryd.prog.wantsStandIn t = false by simpa using List.all_eq_true.1 hall t hm)⟩)
    (by kernel_rfl)
#print axioms proved
end Go.Proofs.YtiklhaajhdephaaDoor.candidatesAreTakenOnce

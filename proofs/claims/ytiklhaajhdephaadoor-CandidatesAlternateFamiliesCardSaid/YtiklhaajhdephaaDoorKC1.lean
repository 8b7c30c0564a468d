/-
  The statement 'CandidatesAlternateFamiliesSaid' of the seat: the frame of the row round the walk of the law's Go function (YtiklhaajhdephaaDoorW5): for every input the call returns true and each argument reads as it did.
-/
import Derived.Test.YtiklhaajhdephaaDoorGO
import Derived.Test.YtiklhaajhdephaaDoorGG
import Derived.WalkKit
import Derived.ProofKit
import Derived.OpenShut
import Derived.ShutString
import Derived.ChangeOld
import Derived.Below
import Derived.Test.YtiklhaajhdephaaDoorTie
import Derived.Test.YtiklhaajhdephaaDoorCards
import Derived.LaidMore
import Derived.Lay
import Derived.SevenTiedAt
import Derived.Stop.Joined
import Derived.MakeChecks

/-
  The walk of CandidatesAlternateFamilies: true at every list and every number.
-/
namespace Go.Proofs.YtiklhaajhdephaaDoor.candidatesAlternateFamilies
open Go.RowKit Go.Deep
set_option linter.unusedVariables false
set_option linter.unusedSimpArgs false

theorem lastT_take (A : List Ad) (K : List Nat) (a : Ad) (ha : a ∈ A) : lastT A (takeK A K a) = some a := by
  unfold lastT takeK
  have h1 : A.idxOf a < A.length := List.idxOf_lt_length_iff.2 ha
  simp [List.getElem?_eq_getElem h1]
theorem rem_alt (A : List Ad) (K : List Nat) (a x : Ad) (r : List Ad) (ha : a ∈ A) (hr : remP 1 A (takeK A K a) = x :: r) (ho : ((x :: r).any fun y => y.b != a.b) = true) : (x.b == a.b) = false := by
  have hp := remP_perm 1 A (takeK A K a)
  have hs := sortS_perm Ad.weak (leftP A (takeK A K a))
  unfold remP at hr
  rw [lastT_take A K a ha] at hr
  cases hl : sortS Ad.less (leftP A (takeK A K a)) with
  | nil => rw [hl] at hr; cases hr
  | cons s t =>
    rw [hl] at hr
    simp only at hr
    obtain ⟨y, hy, hyb⟩ := List.any_eq_true.1 ho
    have hm : y ∈ s :: t := by
      rw [← hr] at hy
      exact (interA_perm _ _ _).mem_iff.1 hy
    have hne : famA (!a.b) (s :: t) ≠ [] := by
      intro e
      have hmem : y ∈ famA (!a.b) (s :: t) := List.mem_filter.2 ⟨hm, by revert hyb; cases y.b <;> cases a.b <;> simp⟩
      rw [e] at hmem
      simp at hmem
    obtain ⟨x', r', h1, h2⟩ := interA_head (s :: t) 1 (!a.b) hne
    rw [h1] at hr
    cases hr
    rw [h2]
    cases a.b <;> rfl
theorem any_step (R : List Ad) (f : Ad → Bool) (k : Nat) (y : Ad) (hy : R[k]? = some y) : (R.take (k + 1)).any f = ((R.take k).any f || f y) := by
  rw [List.take_add_one, hy, Option.toList_some, List.any_append]
  simp
set_option maxRecDepth 100000 in
set_option maxHeartbeats 8000000 in
theorem walk0 (v : Value) (b : Nat) (xs : List (List Value)) (at_ : Int) (w : World) (hv : Rd w 17 b v xs) (hxs : ∀ x ∈ xs, IsAd x) :
    Calls Tryd.prog 7 #[v, .int .i64 at_] w fun e w' => e = .returned (.bool true) ∧ Touch [] w w' := by
  have HV := Lib.hid hv
  clear hv
  go_enter Tryd.func7, Tryd.ntmps7
  go_wp2_with fail
  refine (qnew_any 1 w).mono ?_
  rintro e w1 ⟨rfl, q1, t1⟩
  generalize w.heap.size = h at *
  have HQ1 := Lib.hid q1
  have HT1 := Lib.hid t1
  have HSA := Lib.hid (someAddrs_any v b 20 xs w1 (by omega) (HV.out.touch t1 (by simp)) hxs)
  clear q1 t1
  go_wp2_with fail
  refine HSA.out.mono ?_
  rintro e w2 ⟨vx, ys, rfl, hys, hyl, ho, t2⟩
  obtain ⟨l, rfl⟩ := ads_of hys
  have hl20 : l.length ≤ 20 := by simpa using hyl
  have HQ2 := Lib.hid (HQ1.out.touch t2 (by simp))
  have HT2 := Lib.hid (HT1.out.trans t2 (by simp))
  obtain ⟨bx, hrx, hbx⟩ := (show OwnA w1 w2 vx l from ho).rd
  have hfar : l ≠ [] → bx ∉ qfoot h (.slice none 0 0) (.slice none 0 0) := by
    intro hne hm
    have h1 := (HQ1.out.lt _ hm).2
    rcases hbx with e | e
    · have := ho.new _ e; omega
    · obtain ⟨a0, c0, hv0, _, _, hat⟩ := (show OwnA w1 w2 vx l from ho).form
      obtain ⟨g, hg⟩ := hat (List.length_pos_iff.2 hne)
      rw [hv0, hg] at e
      simp [Value.ownBlock] at e
  have HAD := Lib.hid (qadd_any w w2 h _ _ 1 [] [] HQ2.out HT2.out.size vx bx l hrx hfar (by simp; omega))
  clear hys hyl ho t2 hrx hbx hfar HSA
  go_wp2_with fail
  refine HAD.out.mono ?_
  rintro e w3 ⟨va, rfl, q3, t3, hv3⟩
  have HQ3 := Lib.hid q3
  have HT3 := Lib.hid (HQ2.out.out HT2.out t3 (foot_add h _ _))
  have hAl : (addL [] l).length ≤ 20 := by have := (addL_len [] l).2; simp at this; omega
  generalize addL [] l = A at *
  clear q3 t3 hv3 HAD HQ1 HQ2 HT1 HT2
  go_wp2_with fail
  refine (mod_any at_ 12 _ (by omega) (by omega)).mono ?_
  rintro e w' ⟨rfl, rfl⟩
  obtain ⟨n, hn⟩ : ∃ n : Nat, (n : Int) = gmod at_ 12 := ⟨(gmod at_ 12).toNat, by have := gmod_lo at_ 12 (by omega); omega⟩
  have hn12 : n < 12 := by have := gmod_hi at_ 12 (by omega); omega
  rw [← hn]
  clear hn
  go_wp2_with fail
  go_loopw [7, 8, 9, 10, 11, 12, 13, 14] (fun v7 v8 v9 v10 v11 v12 v13 v14 wr => ∃ (i : Nat) (vt : Value) (K : List Nat), i ≤ n ∧ v7 = .int .i64 i ∧ Qu w wr h va vt 1 A K ∧ K.length ≤ i ∧ Touch [] w wr) (fun v7 _ _ _ _ _ _ _ _ => n - (intOf v7).toNat)
  case atStart => exact ⟨0, _, [], by omega, rfl, HQ3.out, by simp, HT3.out⟩
  case round =>
    obtain ⟨i, vt, K, hin, rfl, hq, hK, ht⟩ := hrel
    have HQ := Lib.hid hq
    have HT := Lib.hid ht
    clear hq ht HQ3 HT3
    by_cases hlt : i < n
    · have hwi : IntKind.i64.wrap ((i : Int) + 1) = (i : Int) + 1 := by rw [IntKind.wrap_i64] <;> omega
      have HTK := Lib.hid (qtake_any w wr h va vt 1 A K HQ.out HT.out.size (by omega) (by omega))
      have HMEM := Lib.hid (show ∀ a r, remP 1 A K = a :: r → a ∈ A from fun a r e => by
        have hm := (remP_perm 1 A K).mem_iff.1 (by rw [e]; simp : a ∈ remP 1 A K)
        obtain ⟨i, _, _, hi⟩ := (leftN_mem A K A.length a).1 hm
        exact List.mem_of_getElem? hi)
      go_wp2_with fail
      refine HTK.out.mono ?_
      rintro e w4 ⟨rfl, vt2, q4, t4, hv4⟩
      have HT4 := Lib.hid (HQ.out.out HT.out t4 (foot_take h _ _))
      generalize remP 1 A K = R0 at *
      cases R0 with
      | nil =>
        have HZL := Lib.hid (headA []).len
        have HZO := Lib.hid (headA []).one
        have HN := Lib.hid (heap_alloc_new w4 (.cells (adr false (List.replicate 16 0)).toArray 28))
        have HA := Lib.hid ((Touch.refl [] w4).alloc (.cells (adr false (List.replicate 16 0)).toArray 28))
        generalize headA [] = za at *
        clear HTK q4 t4 hv4
        go_wp2_with ((with_reducible refine at_store 28 ?_); refine wpList_store_into rfl 28 _ _ rfl w4.heap.size 28 _ za.cells rfl rfl HN.out (by rw [HZL.out]; rfl) (by rw [size31, HZL.out]) HZO.out ?_)
        intro w5 h5 t5 z5
        have HT5 := Lib.hid (HT4.out.trans (HA.out.trans t5 (by intro y hy; right; simp at hy; omega)) (by simp))
        clear h5 t5 z5 HN HA
        go_wp2_with fail
        refine (awake28_ok _).mono ?_
        rintro e w6 ⟨rfl, t6⟩
        have HT6 := Lib.hid (HT5.out.trans t6 (by simp))
        clear t6
        go_wp2_with fail
        go_ret
        exact ⟨rfl, HT6.out⟩
      | cons a r0 =>
        simp only [headA, List.isEmpty_cons, Bool.not_false, Bool.false_eq_true, if_false] at q4 ⊢
        have ham := HMEM.out a r0 rfl
        have HALT := Lib.hid (rem_alt A K a)
        have HAM := Lib.hid ham
        have HK2 := Lib.hid (show (takeK A K a).length ≤ i + 1 by unfold takeK; rw [List.length_append, List.length_singleton]; omega)
        generalize takeK A K a = K2 at *
        have HQ4 := Lib.hid q4
        have HLA := Lib.hid a.len
        have HN := Lib.hid (heap_alloc_new w4 (.cells (adr false (List.replicate 16 0)).toArray 28))
        have HA := Lib.hid ((Touch.refl [] w4).alloc (.cells (adr false (List.replicate 16 0)).toArray 28))
        clear HTK q4 t4 hv4 ham HMEM
        go_wp2_with ((with_reducible refine at_store 28 ?_); refine wpList_store_into rfl 28 _ _ rfl w4.heap.size 28 _ a.cells rfl rfl HN.out (by rw [HLA.out]; rfl) (by rw [size31, HLA.out]) a.one ?_)
        intro w5 h5 t5 z5
        have t5' := HA.out.trans t5 (by intro y hy; right; simp at hy; omega)
        have HT5 := Lib.hid (HT4.out.trans t5' (by simp))
        have HQ5 := Lib.hid (HQ4.out.touch t5' (by simp))
        have HR5 := Lib.hid (range_block h5)
        have HRE := Lib.hid (qrem_any w w5 h va vt2 1 A K2 HQ5.out (by omega))
        have hrl := remP_len 1 A K2
        generalize hrr : remP 1 A K2 = R at *
        have HRR := Lib.hid hrr
        generalize hg8 : w4.heap.size = g8 at *
        clear h5 t5 z5 t5' HN HA HQ4 HT4 hrr hg8
        go_wp2_with fail
        refine HRE.out.mono ?_
        rintro e w6 ⟨vL, rfl, oL, t6⟩
        have HT6 := Lib.hid (HT5.out.trans t6 (by simp))
        have HQ6 := Lib.hid (HQ5.out.touch t6 (by simp))
        have HR6 := Lib.hid (t6.range HR5.out (by simp))
        obtain ⟨aL, cL, hvL, hlL, hcL, hatL⟩ := (show OwnA w5 w6 vL R from oL).form
        obtain ⟨m, hm⟩ : ∃ m, m = R.length := ⟨_, rfl⟩
        rw [← hm] at hvL hlL hatL hrl
        subst hvL
        have HOL := Lib.hid oL
        have HM := Lib.hid hm
        have hmA : m ≤ 1000000 := by omega
        clear oL t6 hm HQ5 HT5 HR5 HRE hcL
        go_wp2_with fail
        go_loopw [11, 12] (fun v11 v12 wq => ∃ (k : Nat) (o : Bool), k ≤ m ∧ v12 = .int .i64 k ∧ v11 = .bool o ∧ ((R.take k).any fun y => y.b != a.b) = o ∧ Touch [] w6 wq) (fun _ v12 _ => m - (intOf v12).toNat)
        case atStart => exact ⟨0, false, by omega, rfl, rfl, rfl, Touch.refl _ _⟩
        case round =>
          obtain ⟨k, o, hkm, rfl, rfl, ho, ht⟩ := hrel
          have HTQ := Lib.hid ht
          have HO := Lib.hid ho
          have HRQ := Lib.hid (ht.range HR6.out (by simp))
          have hfa : wr.cell? ⟨g8, 0, none⟩ = some (.bool a.b) := by simpa using HRQ.out 0 (.bool a.b) rfl
          clear ht ho
          by_cases hk : k < m
          · obtain ⟨y, hy⟩ : ∃ y, R[k]? = some y := ⟨_, List.getElem?_eq_getElem (by rw [← HM.out]; exact hk)⟩
            obtain ⟨gL, rfl⟩ := hatL (by omega)
            have hry := own_at (l := R) (i := k) (a := y) (by have := (show OwnA w5 wr (.slice (some ⟨gL, 0, none⟩) m cL) R from Own.touch HOL.out HTQ.out (by simp)).row'; rw [← HM.out] at this; exact this) hy
            have hfy : wr.cell? ⟨gL, k * 17, none⟩ = some (.bool y.b) := by simpa using hry 0 (.bool y.b) rfl
            have HST := Lib.hid (any_step R (fun y => y.b != a.b) k y hy)
            have hwk : IntKind.i64.wrap ((k : Int) + 1) = (k : Int) + 1 := by rw [IntKind.wrap_i64] <;> omega
            have hkm2 : (k : Int) < (m : Int) := by omega
            clear hy hry
            cases o with
            | true =>
              go_wp2_with fail
              refine wp_region_held (S := Touch [] wr.drew) (by kernel_rfl) ?_
              change wpAnyH _ _ _ _ _ _ _ _ wr.drew
              have hfa : wr.drew.cell? ⟨g8, 0, none⟩ = some (.bool a.b) := hfa
              have hfy : wr.drew.cell? ⟨gL, k * 17, none⟩ = some (.bool y.b) := hfy
              have HTd := Lib.hid (HTQ.out.drew)
              generalize wr.drew = W at *
              have hS := Touch.refl [] W
              refine wpAnyH_take (i := 0) (oi := { dst := some 44, op := Op.move (Operand.tmp 11), type := 4, pos := "law.go:122", after := #[], guard := none }) (v := .bool true) rfl (by kernel_rfl) (by kernel_rfl) (by kernel_rfl) (fun _ _ _ h => h) (Or.inl ⟨by rfl, fun w' hw => by go_simp⟩) hS ?_
              try simp only [Act.put, List.setIfInBounds_toArray, List.set_cons_zero, List.set_cons_succ]
              refine wpAnyH_take (i := 1) (oi := { dst := some 45, op := Op.move (Operand.tmp 44), type := 4, pos := "law.go:122", after := #[{ on := 0, ground := Ground.data }], guard := none }) (v := .bool true) rfl (by kernel_rfl) (by kernel_rfl) (by kernel_rfl) (fun _ _ _ h => h) (Or.inl ⟨by rfl, fun w' hw => by go_simp⟩) hS ?_
              try simp only [Act.put, List.setIfInBounds_toArray, List.set_cons_zero, List.set_cons_succ]
              refine wpAnyH_take (i := 2) (oi := { dst := some 46, op := Op.move (Operand.tmp 10), type := 22, pos := "law.go:122", after := #[{ on := 1, ground := Ground.guard }], guard := some (1, false) }) (v := undef) rfl (by kernel_rfl) (by kernel_rfl) (by kernel_rfl) (fun _ _ _ h => h) (Or.inr ⟨by rfl, rfl⟩) hS ?_
              try simp only [Act.put, List.setIfInBounds_toArray, List.set_cons_zero, List.set_cons_succ]
              refine wpAnyH_take (i := 3) (oi := { dst := some 47, op := Op.move (Operand.tmp 12), type := 3, pos := "law.go:122", after := #[{ on := 1, ground := Ground.guard }], guard := some (1, false) }) (v := undef) rfl (by kernel_rfl) (by kernel_rfl) (by kernel_rfl) (fun _ _ _ h => h) (Or.inr ⟨by rfl, rfl⟩) hS ?_
              try simp only [Act.put, List.setIfInBounds_toArray, List.set_cons_zero, List.set_cons_succ]
              refine wpAnyH_take (i := 4) (oi := { dst := some 48, op := Op.indexAddr 22 (Operand.tmp 46) (Operand.tmp 47), type := 0, pos := "law.go:122", after := #[{ on := 2, ground := Ground.data }, { on := 3, ground := Ground.data }, { on := 1, ground := Ground.guard }], guard := some (1, false) }) (v := undef) rfl (by kernel_rfl) (by kernel_rfl) (by kernel_rfl) (fun _ _ _ h => h) (Or.inr ⟨by rfl, rfl⟩) hS ?_
              try simp only [Act.put, List.setIfInBounds_toArray, List.set_cons_zero, List.set_cons_succ]
              refine wpAnyH_take (i := 5) (oi := { dst := some 49, op := Op.fieldAddr 28 (Operand.tmp 48) 0, type := 0, pos := "law.go:122", after := #[{ on := 4, ground := Ground.data }, { on := 1, ground := Ground.guard }], guard := some (1, false) }) (v := undef) rfl (by kernel_rfl) (by kernel_rfl) (by kernel_rfl) (fun _ _ _ h => h) (Or.inr ⟨by rfl, rfl⟩) hS ?_
              try simp only [Act.put, List.setIfInBounds_toArray, List.set_cons_zero, List.set_cons_succ]
              refine wpAnyH_take (i := 6) (oi := { dst := some 50, op := Op.load 4 (Operand.tmp 49), type := 4, pos := "law.go:122", after := #[{ on := 5, ground := Ground.data }, { on := 1, ground := Ground.guard }], guard := some (1, false) }) (v := undef) rfl (by kernel_rfl) (by kernel_rfl) (by kernel_rfl) (fun _ _ _ h => h) (Or.inr ⟨by rfl, rfl⟩) hS ?_
              try simp only [Act.put, List.setIfInBounds_toArray, List.set_cons_zero, List.set_cons_succ]
              refine wpAnyH_take (i := 7) (oi := { dst := some 51, op := Op.fieldAddr 28 (Operand.tmp 8) 0, type := 0, pos := "law.go:122", after := #[{ on := 1, ground := Ground.guard }], guard := some (1, false) }) (v := undef) rfl (by kernel_rfl) (by kernel_rfl) (by kernel_rfl) (fun _ _ _ h => h) (Or.inr ⟨by rfl, rfl⟩) hS ?_
              try simp only [Act.put, List.setIfInBounds_toArray, List.set_cons_zero, List.set_cons_succ]
              refine wpAnyH_take (i := 8) (oi := { dst := some 52, op := Op.load 4 (Operand.tmp 51), type := 4, pos := "law.go:122", after := #[{ on := 7, ground := Ground.data }, { on := 1, ground := Ground.guard }], guard := some (1, false) }) (v := undef) rfl (by kernel_rfl) (by kernel_rfl) (by kernel_rfl) (fun _ _ _ h => h) (Or.inr ⟨by rfl, rfl⟩) hS ?_
              try simp only [Act.put, List.setIfInBounds_toArray, List.set_cons_zero, List.set_cons_succ]
              refine wpAnyH_take (i := 9) (oi := { dst := some 53, op := Op.binOp BinOp.neq 4 (Operand.tmp 50) (Operand.tmp 52) 4, type := 4, pos := "law.go:122", after := #[{ on := 6, ground := Ground.data }, { on := 8, ground := Ground.data }, { on := 1, ground := Ground.guard }], guard := some (1, false) }) (v := undef) rfl (by kernel_rfl) (by kernel_rfl) (by kernel_rfl) (fun _ _ _ h => h) (Or.inr ⟨by rfl, rfl⟩) hS ?_
              try simp only [Act.put, List.setIfInBounds_toArray, List.set_cons_zero, List.set_cons_succ]
              refine wpAnyH_take (i := 10) (oi := { dst := some 54, op := Op.pick (Operand.tmp 45) (Operand.const (Value.bool true)) (Operand.tmp 53), type := 4, pos := "law.go:122", after := #[{ on := 1, ground := Ground.data }, { on := 9, ground := Ground.data }], guard := none }) (v := .bool true) rfl (by kernel_rfl) (by kernel_rfl) (by kernel_rfl) (fun _ _ _ h => h) (Or.inl ⟨by rfl, fun w' hw => by go_simp⟩) hS ?_
              try simp only [Act.put, List.setIfInBounds_toArray, List.set_cons_zero, List.set_cons_succ]
              refine wpAnyH_take (i := 11) (oi := { dst := some 11, op := Op.assign (Operand.tmp 54), type := 4, pos := "law.go:122", after := #[{ on := 10, ground := Ground.data }, { on := 1, ground := Ground.chain }, { on := 0, ground := Ground.phase }, { on := 1, ground := Ground.phase }, { on := 2, ground := Ground.phase }, { on := 3, ground := Ground.phase }, { on := 4, ground := Ground.phase }, { on := 5, ground := Ground.phase }, { on := 6, ground := Ground.phase }, { on := 7, ground := Ground.phase }, { on := 8, ground := Ground.phase }, { on := 9, ground := Ground.phase }, { on := 10, ground := Ground.phase }], guard := none }) (v := .bool true) rfl (by kernel_rfl) (by kernel_rfl) (by kernel_rfl) (fun _ _ _ h => h) (Or.inl ⟨by rfl, fun w' hw => by go_simp⟩) hS ?_
              try simp only [Act.put, List.setIfInBounds_toArray, List.set_cons_zero, List.set_cons_succ]
              refine wpAnyH_done (by kernel_rfl) ?_ _
              try simp only [Act.put, List.setIfInBounds_toArray, List.set_cons_zero, List.set_cons_succ]
              have HTR := Lib.hid (HTd.out.trans hS (by simp))
              clear hS HTd
              go_wp2_with fail
              go_roundw
              case rel => exact ⟨k + 1, true, by omega, by go_num, rfl, by rw [HST.out, HO.out]; rfl, HTR.out⟩
              case measure => simp [intOf]; omega
            | false =>
              generalize hyb : y.b = yb at *
              generalize hab : a.b = ab at *
              have HYB := Lib.hid hyb
              have HAB := Lib.hid hab
              clear hyb hab
              go_wp2_with fail
              refine wp_region_held (S := Touch [] wr.drew) (by kernel_rfl) ?_
              change wpAnyH _ _ _ _ _ _ _ _ wr.drew
              have hfa : wr.drew.cell? ⟨g8, 0, none⟩ = some (.bool ab) := hfa
              have hfy : wr.drew.cell? ⟨gL, k * 17, none⟩ = some (.bool yb) := hfy
              have HTd := Lib.hid (HTQ.out.drew)
              generalize wr.drew = W at *
              have hS := Touch.refl [] W
              refine wpAnyH_take (i := 0) (oi := { dst := some 44, op := Op.move (Operand.tmp 11), type := 4, pos := "law.go:122", after := #[], guard := none }) (v := .bool false) rfl (by kernel_rfl) (by kernel_rfl) (by kernel_rfl) (fun _ _ _ h => h) (Or.inl ⟨by rfl, fun w' hw => by go_simp⟩) hS ?_
              try simp only [Act.put, List.setIfInBounds_toArray, List.set_cons_zero, List.set_cons_succ]
              refine wpAnyH_take (i := 1) (oi := { dst := some 45, op := Op.move (Operand.tmp 44), type := 4, pos := "law.go:122", after := #[{ on := 0, ground := Ground.data }], guard := none }) (v := .bool false) rfl (by kernel_rfl) (by kernel_rfl) (by kernel_rfl) (fun _ _ _ h => h) (Or.inl ⟨by rfl, fun w' hw => by go_simp⟩) hS ?_
              try simp only [Act.put, List.setIfInBounds_toArray, List.set_cons_zero, List.set_cons_succ]
              refine wpAnyH_take (i := 2) (oi := { dst := some 46, op := Op.move (Operand.tmp 10), type := 22, pos := "law.go:122", after := #[{ on := 1, ground := Ground.guard }], guard := some (1, false) }) (v := .slice (some ⟨gL, 0, none⟩) m cL) rfl (by kernel_rfl) (by kernel_rfl) (by kernel_rfl) (fun _ _ _ h => h) (Or.inl ⟨by rfl, fun w' hw => by go_simp⟩) hS ?_
              try simp only [Act.put, List.setIfInBounds_toArray, List.set_cons_zero, List.set_cons_succ]
              refine wpAnyH_take (i := 3) (oi := { dst := some 47, op := Op.move (Operand.tmp 12), type := 3, pos := "law.go:122", after := #[{ on := 1, ground := Ground.guard }], guard := some (1, false) }) (v := .int .i64 (k : Nat)) rfl (by kernel_rfl) (by kernel_rfl) (by kernel_rfl) (fun _ _ _ h => h) (Or.inl ⟨by rfl, fun w' hw => by go_simp⟩) hS ?_
              try simp only [Act.put, List.setIfInBounds_toArray, List.set_cons_zero, List.set_cons_succ]
              refine wpAnyH_take (i := 4) (oi := { dst := some 48, op := Op.indexAddr 22 (Operand.tmp 46) (Operand.tmp 47), type := 0, pos := "law.go:122", after := #[{ on := 2, ground := Ground.data }, { on := 3, ground := Ground.data }, { on := 1, ground := Ground.guard }], guard := some (1, false) }) (v := .pointer (some ⟨gL, k * 17, none⟩)) rfl (by kernel_rfl) (by kernel_rfl) (by kernel_rfl) (fun _ _ _ h => h) (Or.inl ⟨by rfl, fun w' hw => by go_simp⟩) hS ?_
              try simp only [Act.put, List.setIfInBounds_toArray, List.set_cons_zero, List.set_cons_succ]
              refine wpAnyH_take (i := 5) (oi := { dst := some 49, op := Op.fieldAddr 28 (Operand.tmp 48) 0, type := 0, pos := "law.go:122", after := #[{ on := 4, ground := Ground.data }, { on := 1, ground := Ground.guard }], guard := some (1, false) }) (v := .pointer (some ⟨gL, k * 17, none⟩)) rfl (by kernel_rfl) (by kernel_rfl) (by kernel_rfl) (fun _ _ _ h => h) (Or.inl ⟨by rfl, fun w' hw => by go_simp⟩) hS ?_
              try simp only [Act.put, List.setIfInBounds_toArray, List.set_cons_zero, List.set_cons_succ]
              refine wpAnyH_take (i := 6) (oi := { dst := some 50, op := Op.load 4 (Operand.tmp 49), type := 4, pos := "law.go:122", after := #[{ on := 5, ground := Ground.data }, { on := 1, ground := Ground.guard }], guard := some (1, false) }) (v := .bool yb) rfl (by kernel_rfl) (by kernel_rfl) (by kernel_rfl) (fun _ _ _ h => h) (Or.inl ⟨by rfl, fun w' hw => by (have q := hw.cell hfy (by simp); go_simp)⟩) hS ?_
              try simp only [Act.put, List.setIfInBounds_toArray, List.set_cons_zero, List.set_cons_succ]
              refine wpAnyH_take (i := 7) (oi := { dst := some 51, op := Op.fieldAddr 28 (Operand.tmp 8) 0, type := 0, pos := "law.go:122", after := #[{ on := 1, ground := Ground.guard }], guard := some (1, false) }) (v := .pointer (some ⟨g8, 0, none⟩)) rfl (by kernel_rfl) (by kernel_rfl) (by kernel_rfl) (fun _ _ _ h => h) (Or.inl ⟨by rfl, fun w' hw => by go_simp⟩) hS ?_
              try simp only [Act.put, List.setIfInBounds_toArray, List.set_cons_zero, List.set_cons_succ]
              refine wpAnyH_take (i := 8) (oi := { dst := some 52, op := Op.load 4 (Operand.tmp 51), type := 4, pos := "law.go:122", after := #[{ on := 7, ground := Ground.data }, { on := 1, ground := Ground.guard }], guard := some (1, false) }) (v := .bool ab) rfl (by kernel_rfl) (by kernel_rfl) (by kernel_rfl) (fun _ _ _ h => h) (Or.inl ⟨by rfl, fun w' hw => by (have q := hw.cell hfa (by simp); go_simp)⟩) hS ?_
              try simp only [Act.put, List.setIfInBounds_toArray, List.set_cons_zero, List.set_cons_succ]
              refine wpAnyH_take (i := 9) (oi := { dst := some 53, op := Op.binOp BinOp.neq 4 (Operand.tmp 50) (Operand.tmp 52) 4, type := 4, pos := "law.go:122", after := #[{ on := 6, ground := Ground.data }, { on := 8, ground := Ground.data }, { on := 1, ground := Ground.guard }], guard := some (1, false) }) (v := .bool (yb != ab)) rfl (by kernel_rfl) (by kernel_rfl) (by kernel_rfl) (fun _ _ _ h => h) (Or.inl ⟨by rfl, fun w' hw => by cases yb <;> cases ab <;> rfl⟩) hS ?_
              try simp only [Act.put, List.setIfInBounds_toArray, List.set_cons_zero, List.set_cons_succ]
              refine wpAnyH_take (i := 10) (oi := { dst := some 54, op := Op.pick (Operand.tmp 45) (Operand.const (Value.bool true)) (Operand.tmp 53), type := 4, pos := "law.go:122", after := #[{ on := 1, ground := Ground.data }, { on := 9, ground := Ground.data }], guard := none }) (v := .bool (yb != ab)) rfl (by kernel_rfl) (by kernel_rfl) (by kernel_rfl) (fun _ _ _ h => h) (Or.inl ⟨by rfl, fun w' hw => by go_simp⟩) hS ?_
              try simp only [Act.put, List.setIfInBounds_toArray, List.set_cons_zero, List.set_cons_succ]
              refine wpAnyH_take (i := 11) (oi := { dst := some 11, op := Op.assign (Operand.tmp 54), type := 4, pos := "law.go:122", after := #[{ on := 10, ground := Ground.data }, { on := 1, ground := Ground.chain }, { on := 0, ground := Ground.phase }, { on := 1, ground := Ground.phase }, { on := 2, ground := Ground.phase }, { on := 3, ground := Ground.phase }, { on := 4, ground := Ground.phase }, { on := 5, ground := Ground.phase }, { on := 6, ground := Ground.phase }, { on := 7, ground := Ground.phase }, { on := 8, ground := Ground.phase }, { on := 9, ground := Ground.phase }, { on := 10, ground := Ground.phase }], guard := none }) (v := .bool (yb != ab)) rfl (by kernel_rfl) (by kernel_rfl) (by kernel_rfl) (fun _ _ _ h => h) (Or.inl ⟨by rfl, fun w' hw => by go_simp⟩) hS ?_
              try simp only [Act.put, List.setIfInBounds_toArray, List.set_cons_zero, List.set_cons_succ]
              refine wpAnyH_done (by kernel_rfl) ?_ _
              try simp only [Act.put, List.setIfInBounds_toArray, List.set_cons_zero, List.set_cons_succ]
              have HTR := Lib.hid (HTd.out.trans hS (by simp))
              clear hS HTd
              go_wp2_with fail
              go_roundw
              case rel => exact ⟨k + 1, yb != ab, by omega, by go_num, rfl, by rw [HST.out, HO.out]; simp [HYB.out], HTR.out⟩
              case measure => simp [intOf]; omega
          · have HOF := Lib.hid (show (R.any fun y => y.b != a.b) = o by have h := HO.out; rw [List.take_of_length_le (by rw [← HM.out]; omega)] at h; exact h)
            have HQ7 := Lib.hid (HQ6.out.touch HTQ.out (by simp))
            have HT7 := Lib.hid (HT6.out.trans HTQ.out (by simp))
            have HPK := Lib.hid (qpeek_any w wr h va vt2 1 A K2 HQ7.out (by omega))
            rw [HRR.out] at HPK
            have HALT2 := Lib.hid (show ∀ x r, R = x :: r → ((x :: r).any fun y => y.b != a.b) = true → (x.b == a.b) = false from fun x r e h => HALT.out x r HAM.out e h)
            clear hfa HO
            go_wp2_with fail
            refine HPK.out.mono ?_
            rintro e w8 ⟨rfl, t8⟩
            have HQ8 := Lib.hid (HQ7.out.touch t8 (by simp))
            have HT8 := Lib.hid (HT7.out.trans t8 (by simp))
            have HR8 := Lib.hid (t8.range HRQ.out (by simp))
            have HHL := Lib.hid (headA R).len
            have HHO := Lib.hid (headA R).one
            obtain ⟨hd, hhd⟩ : ∃ hd, hd = headA R := ⟨_, rfl⟩
            rw [← hhd] at HHL HHO ⊢
            have HHD := Lib.hid hhd
            have HN := Lib.hid (heap_alloc_new w8 (.cells (adr false (List.replicate 16 0)).toArray 28))
            have HA := Lib.hid ((Touch.refl [] w8).alloc (.cells (adr false (List.replicate 16 0)).toArray 28))
            clear t8 hhd HPK HQ7 HT7
            go_wp2_with ((with_reducible refine at_store 28 ?_); refine wpList_store_into rfl 28 _ _ rfl w8.heap.size 28 _ hd.cells rfl rfl HN.out (by rw [HHL.out]; rfl) (by rw [size31, HHL.out]) HHO.out ?_)
            intro w9 h9 t9 z9
            have t9' := HA.out.trans t9 (by intro y hy; right; simp at hy; omega)
            have HT9 := Lib.hid (HT8.out.trans t9' (by simp))
            have HQ9 := Lib.hid (HQ8.out.touch t9' (by simp))
            have hfa : w9.cell? ⟨g8, 0, none⟩ = some (.bool a.b) := by simpa using t9'.range HR8.out (by simp) 0 (.bool a.b) rfl
            have hfh : w9.cell? ⟨w8.heap.size, 0, none⟩ = some (.bool hd.b) := by simpa using range_block h9 0 (.bool hd.b) rfl
            generalize w8.heap.size = g13 at *
            clear h9 t9 z9 t9' HN HA HQ8 HT8 HR8
            cases R with
            | nil =>
              have hm0 : m = 0 := by rw [HM.out]; rfl
              subst hm0
              have ho : o = false := by rw [← HOF.out]; rfl
              subst ho
              go_wp2_with fail
              go_roundw
              case rel => exact ⟨i + 1, _, _, by omega, by go_num, HQ9.out, HK2.out, HT9.out⟩
              case measure => simp [intOf]; omega
            | cons x r =>
              have hm1 : 0 < m := by rw [HM.out]; simp
              have hxd : hd.b = x.b := by rw [HHD.out]; rfl
              rw [hxd] at hfh
              cases o with
              | false =>
                go_wp2_with fail
                go_roundw
                case rel => exact ⟨i + 1, _, _, by omega, by go_num, HQ9.out, HK2.out, HT9.out⟩
                case measure => simp [intOf]; omega
              | true =>
                have hxa := HALT2.out x r rfl HOF.out
                generalize x.b = xb at *
                generalize a.b = ab at *
                clear hxd
                go_wp2_with fail
                go_roundw
                case rel => exact ⟨i + 1, _, _, by omega, by go_num, HQ9.out, HK2.out, HT9.out⟩
                case measure => simp [intOf]; omega
    · go_wp2_with fail
      refine (awake28_ok _).mono ?_
      rintro e w6 ⟨rfl, t6⟩
      have HT6 := Lib.hid (HT.out.trans t6 (by simp))
      clear t6
      go_wp2_with fail
      go_ret
      exact ⟨rfl, HT6.out⟩
theorem walk {H : Type} {enc : TypeId × Value → H} {w : World} (v : Value) (hv : IsSlice enc Tryd.prog w 0 (fun _ => true) true [4, 5, 5, 5, 5, 5, 5, 5, 5, 5, 5, 5, 5, 5, 5, 5, 5] v) (a : Int) (hw : (Lit.int .i64 a).wf = true) :
    Calls Tryd.prog 7 #[v, .int .i64 a] w fun e w' => e = .returned (.bool true) ∧ Below w.heap.size w w' := by
  obtain ⟨b, xs, hr, hx⟩ := slice_rows (by simp) hv
  exact (walk0 v b xs a w hr (fun x h => isAd_cells (hx x h))).mono fun e w' ⟨h1, h2⟩ => ⟨h1, h2.below (by simp) (Nat.le_refl _)⟩
end Go.Proofs.YtiklhaajhdephaaDoor.candidatesAlternateFamilies

/-
  The statement 'CandidatesAlternateFamiliesSaid' of the seat: the frame of the row round the walk of the law's Go function (YtiklhaajhdephaaDoorW5): for every input the call returns true and each argument reads as it did.
-/
namespace Go.Proofs.YtiklhaajhdephaaDoor.candidatesAlternateFamilies
open Go.ChangeShapes Go.WideShapes Go.Deep Go.ChangeAt Go.RowKit
open Go.ChangeMaps (open_string shut_string)
set_option linter.unusedVariables false

theorem own : ownKnob Tryd.prog.godebug = none := by kernel_rfl
theorem laidOut : laidOutB Tryd.prog = true := by kernel_rfl

set_option maxRecDepth 100000 in
theorem lifted (os : Os) (started : os.Started) (H : Type) (enc : TypeId × Value → H) :
    ReturnsInHanded {} Tryd.checked os 7 .any (fun w args => (Rows.candidatesAlternateFamiliesSpec.pre enc Tryd.prog Tryd.f7 Rows.candidatesAlternateFamiliesRow.domain false w args ∧ laidMetH Tryd.prog Rows.candidatesAlternateFamiliesRow.laid w) ∧ sizedMet enc Tryd.prog Tryd.f7 (OpenSpec.ofChange Rows.candidatesAlternateFamiliesSpec) false w args)
      (Rows.candidatesAlternateFamiliesSpec.post enc Tryd.prog Tryd.f7 false true false false) := by
  refine returnsInHanded_of_change_and (C := Tryd.checked) (X := fun w _ => laidMetH Tryd.prog Rows.candidatesAlternateFamiliesRow.laid w) (fun _ _ _ hh h => h.of_heap hh) own started (by kernel_rfl) Tryd.func7
    (ChangeSpec.witness_shaped (enc := enc) (C := Tryd.checked) (os := os) (X := fun w _ => laidMetH Tryd.prog Rows.candidatesAlternateFamiliesRow.laid w) false (World.laidAll Tryd.prog os Rows.candidatesAlternateFamiliesRow.laid) #[.slice none 0 0, .int .i64 0] 8 (World.laidAll_os _ _ _)
      (World.shaped_of_ZipB (by kernel_rfl) (by kernel_rfl)) (by kernel_rfl) (by kernel_rfl) (by kernel_rfl)
      (by rw [MakeChecks.laidMetH_plain _ _ _ (by kernel_rfl)]; exact laidMet_laidAll _ (by kernel_rfl) (by kernel_rfl))) ?_
  intro W base args ds gs before hval0 hW hcnd hsz0 hL _
  have hval : ∀ (j : Nat) t v, Tryd.f7.params[j]? = some t → args[j]? = some v → Value.okWide Tryd.prog W .any base t v := hval0
  have hW' := hW
  obtain ⟨p, q, hA0, hV, rfl, hfz, hnd⟩ := hW
  have hA : DataW.TrodAll enc Tryd.prog W 0 (fun _ => true) true Tryd.f7.params.toList args.toList ds p := hA0
  rw [Tryd.params7] at hA hval
  obtain ⟨v0, vs0, d0, ds0, p0, q0, hargs, rfl, rfl, h0, r0⟩ := trodAll_cons hA
  obtain ⟨v1, vs1, d1, ds1, p1, q1, rfl, rfl, rfl, h1, r1⟩ := trodAll_cons r0
  obtain ⟨rfl, rfl, rfl⟩ := trodAll_nil r1
  obtain rfl : args = #[v0, v1] := by cases args; simp_all
  obtain ⟨rfl, rfl⟩ := trodVars_none hV
  have k0 := h0
  have lt0 : ∀ x ∈ p0, x.block < W.heap.size := by obtain ⟨m, hm⟩ := k0; exact DataW.trod_lt m _ _ _ hm
  have k1 := h1
  have lt1 : ∀ x ∈ p1, x.block < W.heap.size := by obtain ⟨m, hm⟩ := k1; exact DataW.trod_lt m _ _ _ hm
  obtain ⟨b0, len0, cap0, hv0⟩ := okWide_slice Tryd.underlying22 (hval 0 22 v0 rfl rfl)
  have s0 : IsSlice enc Tryd.prog W 0 (fun _ => true) true [4, 5, 5, 5, 5, 5, 5, 5, 5, 5, 5, 5, 5, 5, 5, 5, 5] v0 := by
    obtain ⟨fuel, hf⟩ := h0
    rw [hv0] at hf ⊢
    exact slice_ok (d := 8) Tryd.underlying22 (by kernel_rfl) (by kernel_rfl) (by simpa [Value.cells] using hf)
  obtain ⟨a1, rfl, e1, ee1, w1⟩ := open_int Tryd.underlying3 (hval 1 3 v1 rfl rfl) h1
  clear hA0 hval0
  refine (walk (H := H) (enc := enc) (w := W) v0 s0 a1 w1).mono fun e W' ⟨he, bel⟩ => ?_
  subst he
  exact ⟨_, rfl, _, _, _, [], _, [], hW', trodAll_mk1 (shut_bool Tryd.underlying4 _), (trodAll_cons_mk (Below.trod laidOut (by kernel_rfl) (of_decide_eq_true (by kernel_rfl)) k0 bel lt0) (trodAll_cons_mk (Below.trod laidOut (by kernel_rfl) (of_decide_eq_true (by kernel_rfl)) k1 bel lt1) trodAll_mk0)), rfl, bel.frame _, fun h => by cases h⟩

theorem over : Rows.candidatesAlternateFamiliesRow.holds Tryd.pinned (OpenSpec.ofChange Rows.candidatesAlternateFamiliesSpec) :=
  OpenClaim.holds_of_wide 7 Tryd.f7 rfl rfl rfl rfl rfl rfl rfl ⟨rfl, rfl, rfl, rfl, rfl⟩ rfl rfl rfl rfl rfl (by kernel_rfl) Tryd.func7 (by kernel_rfl)
    (of_decide_eq_true (by kernel_rfl)) (by unfold Func.isWrapper; first | (rw [if_pos (by decide +kernel)]; kernel_rfl) | (rw [if_neg (by decide +kernel)]; exact ⟨rfl, rfl⟩))
    (fun os started H enc _ => lifted os started H enc)

theorem proved : Rows.CandidatesAlternateFamiliesCardSaid :=
  Claim7.holds_tied_plain_at .later [] [.data, .pinned] true (true, "5befad24a3e9b3d9c688acd4ea44020d752db1b22d3d70f9edc34305006425d2") false over (fun _ h => by cases h) (by kernel_rfl) (fun _ h => by cases h) candidatesAlternateFamilies_row_tie rfl ⟨rfl, rfl⟩ (by kernel_rfl) rfl
    (fun f fn hf hfn => by
      obtain rfl : f = 7 := Option.some.inj ((show Tryd.prog.funcNamed "ginnel/ginnellaw28.CandidatesAlternateFamilies" = some 7 by kernel_rfl).symm.trans hf) |>.symm
      obtain rfl : fn = Tryd.f7 := (Option.some.inj (Tryd.func7.symm.trans hfn)).symm
      exact ⟨by kernel_rfl, fun j t ht => by
        rw [Tryd.params7] at ht
        have hm : t ∈ [22, 3] := by simpa using Array.mem_of_getElem? ht
        have hall : ([22, 3].all fun u => !Tryd.prog.wantsStandIn u) = true := by kernel_rfl
        exact (show Tryd.prog.wantsStandIn t = false by simpa using List.all_eq_true.1 hall t hm)⟩)
    (by kernel_rfl)
#print axioms proved
end Go.Proofs.YtiklhaajhdephaaDoor.candidatesAlternateFamilies

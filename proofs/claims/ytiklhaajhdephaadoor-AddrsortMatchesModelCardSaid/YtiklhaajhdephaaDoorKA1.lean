/-
  The statement 'AddrsortMatchesModelSaid' of the seat: the frame of the row round the walk of the law's Go function (YtiklhaajhdephaaDoorW3): for every input the call returns true and each argument reads as it did.
-/
import Derived.Test.YtiklhaajhdephaaDoorGJ
import Derived.Test.YtiklhaajhdephaaDoorGK
import Derived.Test.YtiklhaajhdephaaDoorGG
import Derived.WalkKit
import Derived.ProofKit
import Derived.OpenShut
import Derived.ShutString
import Derived.ChangeOld
import Derived.Below
import Derived.SizedLaws
import Derived.Test.YtiklhaajhdephaaDoorTie
import Derived.Test.YtiklhaajhdephaaDoorCards
import Derived.LaidMore
import Derived.Lay
import Derived.SevenTiedAt
import Derived.Stop.Joined
import Derived.MakeChecks

/-
  The walk of AddrsortMatchesModel: true at every list whose cells take no more than the reach.
-/
namespace Go.Proofs.YtiklhaajhdephaaDoor
open Go.RowKit
theorem equalT (v1 v2 : Value) (b1 b2 : Nat) (l : List Ad) (w : World) (h1 : Rd w 17 b1 v1 (l.map Ad.cells)) (h2 : Rd w 17 b2 v2 (l.map Ad.cells)) :
    Calls Tryd.prog 14 #[v1, v2] w fun e w' => e = .returned (.bool true) ∧ Touch [] w w' := by
  have := equalA v1 v2 b1 b2 l l w h1 h2
  rwa [show decide (l = l) = true by simp] at this
end Go.Proofs.YtiklhaajhdephaaDoor
namespace Go.Proofs.YtiklhaajhdephaaDoor.addrsortMatchesModel
open Go.RowKit Go.Deep
set_option linter.unusedVariables false
set_option linter.unusedSimpArgs false

set_option maxRecDepth 100000 in
set_option maxHeartbeats 4000000 in
theorem walk0 (v : Value) (b : Nat) (l : List Ad) (w : World) (hv : Rd w 17 b v (l.map Ad.cells)) (hl : l.length * 17 ≤ 140737488351232) :
    Calls Tryd.prog 3 #[v] w fun e w' => e = .returned (.bool true) ∧ Touch [] w w' := by
  obtain ⟨a, cap, rfl, hlc, hcm⟩ := hv.form
  simp only [List.length_map] at *
  have HSA := Lib.hid (someAddrs_any (.slice a l.length cap) b 20 (l.map Ad.cells) w (by omega) hv (fun x hx => by obtain ⟨y, _, rfl⟩ := List.mem_map.1 hx; exact y.is))
  have HV := Lib.hid hv
  obtain ⟨n, hn⟩ : ∃ n, n = l.length := ⟨_, rfl⟩
  have HN := Lib.hid hn
  rw [← hn] at hl hlc HSA ⊢
  have hcm2 : cap ≤ 9223372036854775807 := by unfold maxLen at hcm; omega
  clear hv hn hcm
  obtain ⟨mn, hmn⟩ : ∃ mn, mn = min n 20 := ⟨_, rfl⟩
  have hm2 : (if (n : Int) < 20 then (n : Int) else 20) = (mn : Int) := by split <;> omega
  have hm3 : min (n : Int) 20 = (mn : Int) := by omega
  have hmc : (mn : Int) ≤ (cap : Int) := by omega
  have HMN := Lib.hid (show mn ≤ n by omega)
  clear hmn
  go_enter Tryd.func3, Tryd.ntmps3
  go_wp2_with fail
  refine HSA.out.mono ?_
  rintro e w1 ⟨vx, ys, rfl, hys, hyl, ho, t1⟩
  obtain ⟨l2, rfl⟩ := ads_of hys
  obtain ⟨bx, hrx, _⟩ := (show OwnA w w1 vx l2 from ho).rd
  have HRX := Lib.hid hrx
  have HL2 := Lib.hid (show l2.length * 17 ≤ 140737488351232 by have : l2.length ≤ 20 := (by simpa using hyl); omega)
  have HT1 := Lib.hid t1
  have HL1 := Lib.hid (show l.length * 17 ≤ 140737488351232 by rw [← HN.out]; exact hl)
  have HLT := Lib.hid (show (l.take mn).length ≤ 1000000 by rw [List.length_take]; omega)
  have HLU := Lib.hid (show l2.length ≤ 1000000 by have : l2.length ≤ 20 := (by simpa using hyl); omega)
  have HLV := Lib.hid (show (l.take mn).length * 17 ≤ 140737488351232 by rw [List.length_take]; omega)
  clear hys hyl ho hrx t1 HSA
  go_wp2_with fail
  have HRL := Lib.hid (show Rd w1.drew 17 b (.slice a n cap) (l.map Ad.cells) by rw [HN.out]; exact (HV.out.touch HT1.out (by simp)).touch ((Touch.refl [] w1).drew) (by simp))
  have HRX2 := Lib.hid (HRX.out.touch ((Touch.refl [] w1).drew) (by simp))
  have HRT := Lib.hid (show Rd w1.drew 17 b (.slice a mn cap) ((l.take mn).map Ad.cells) by rw [List.map_take]; exact HRL.out.take mn (by rw [List.length_map, ← HN.out]; exact HMN.out))
  have HTd := Lib.hid (HT1.out.drew)
  refine wp_region_held (S := Touch [] w1.drew) (by kernel_rfl) ?_
  change wpAnyH _ _ _ _ _ _ _ _ w1.drew
  clear HV HRX HT1
  generalize w1.drew = W at *
  have hS := Touch.refl [] W
  refine wpAnyH_ready (rs := [0]) (by kernel_rfl) (by simp) ?_
  refine AllReadyH.cons (o := { dst := some 10, op := Op.call { callee := Callee.value (Operand.func 13), args := #[], argTypes := #[] }, type := 4, pos := "law.go:23", after := #[], guard := none }) rfl (fun K hK => ?_) AllReadyH.nil
  go_simp
  refine (awake_ok _).mono ?_
  rintro e w0 ⟨rfl, t0⟩
  have hS2 := hS.trans t0 (by simp)
  refine hK.out _ _ hS2 (fun _ => ?_)
  clear hK K hS t0
  have hS := hS2
  clear hS2
  try simp only [Act.put, List.setIfInBounds_toArray, List.set_cons_zero, List.set_cons_succ]
  refine wpAnyH_take (i := 1) (oi := { dst := some 11, op := Op.move (Operand.tmp 10), type := 4, pos := "law.go:23", after := #[{ on := 0, ground := Ground.data }, { on := 0, ground := Ground.chain }], guard := none }) (v := .bool true) rfl (by kernel_rfl) (by kernel_rfl) (by kernel_rfl) (fun _ _ _ h => h) (Or.inl ⟨by rfl, fun w' hw => by go_simp⟩) hS ?_
  try simp only [Act.put, List.setIfInBounds_toArray, List.set_cons_zero, List.set_cons_succ]
  refine wpAnyH_take (i := 2) (oi := { dst := some 12, op := Op.move (Operand.tmp 0), type := 22, pos := "law.go:23", after := #[{ on := 1, ground := Ground.guard }], guard := some (1, true) }) (v := .slice a n cap) rfl (by kernel_rfl) (by kernel_rfl) (by kernel_rfl) (fun _ _ _ h => h) (Or.inl ⟨by rfl, fun w' hw => by go_simp⟩) hS ?_
  try simp only [Act.put, List.setIfInBounds_toArray, List.set_cons_zero, List.set_cons_succ]
  refine wpAnyH_take (i := 3) (oi := { dst := some 13, op := Op.move (Operand.tmp 3), type := 3, pos := "law.go:23", after := #[{ on := 1, ground := Ground.guard }], guard := some (1, true) }) (v := .int .i64 (mn : Nat)) rfl (by kernel_rfl) (by kernel_rfl) (by kernel_rfl) (fun _ _ _ h => h) (Or.inl ⟨by rfl, fun w' hw => by go_simp⟩) hS ?_
  try simp only [Act.put, List.setIfInBounds_toArray, List.set_cons_zero, List.set_cons_succ]
  refine wpAnyH_take (i := 4) (oi := { dst := some 14, op := Op.slice 22 (Operand.tmp 12) none (some (Operand.tmp 13)) none, type := 22, pos := "law.go:23", after := #[{ on := 2, ground := Ground.data }, { on := 3, ground := Ground.data }, { on := 1, ground := Ground.guard }], guard := some (1, true) }) (v := .slice a mn cap) rfl (by kernel_rfl) (by kernel_rfl) (by kernel_rfl) (fun _ _ _ h => h) (Or.inl ⟨by rfl, fun w' hw => by (have q := hmc; go_simp)⟩) hS ?_
  try simp only [Act.put, List.setIfInBounds_toArray, List.set_cons_zero, List.set_cons_succ]
  refine wpAnyH_take (i := 6) (oi := { dst := some 16, op := Op.move (Operand.tmp 0), type := 22, pos := "law.go:23", after := #[{ on := 1, ground := Ground.guard }], guard := some (1, true) }) (v := .slice a n cap) rfl (by kernel_rfl) (by kernel_rfl) (by kernel_rfl) (fun _ _ _ h => h) (Or.inl ⟨by rfl, fun w' hw => by go_simp⟩) hS ?_
  try simp only [Act.put, List.setIfInBounds_toArray, List.set_cons_zero, List.set_cons_succ]
  refine wpAnyH_take (i := 7) (oi := { dst := some 17, op := Op.move (Operand.tmp 3), type := 3, pos := "law.go:23", after := #[{ on := 1, ground := Ground.guard }], guard := some (1, true) }) (v := .int .i64 (mn : Nat)) rfl (by kernel_rfl) (by kernel_rfl) (by kernel_rfl) (fun _ _ _ h => h) (Or.inl ⟨by rfl, fun w' hw => by go_simp⟩) hS ?_
  try simp only [Act.put, List.setIfInBounds_toArray, List.set_cons_zero, List.set_cons_succ]
  refine wpAnyH_take (i := 8) (oi := { dst := some 18, op := Op.slice 22 (Operand.tmp 16) none (some (Operand.tmp 17)) none, type := 22, pos := "law.go:23", after := #[{ on := 6, ground := Ground.data }, { on := 7, ground := Ground.data }, { on := 1, ground := Ground.guard }], guard := some (1, true) }) (v := .slice a mn cap) rfl (by kernel_rfl) (by kernel_rfl) (by kernel_rfl) (fun _ _ _ h => h) (Or.inl ⟨by rfl, fun w' hw => by (have q := hmc; go_simp)⟩) hS ?_
  try simp only [Act.put, List.setIfInBounds_toArray, List.set_cons_zero, List.set_cons_succ]
  refine wpAnyH_ready (rs := [5]) (by kernel_rfl) (by simp) ?_
  refine AllReadyH.cons (o := { dst := some 15, op := Op.call { callee := Callee.value (Operand.func 15), args := #[Operand.tmp 14], argTypes := #[22] }, type := 22, pos := "law.go:23", after := #[{ on := 4, ground := Ground.data }, { on := 1, ground := Ground.chain }, { on := 1, ground := Ground.guard }], guard := some (1, true) }) rfl (fun K hK => ?_) AllReadyH.nil
  go_simp
  refine (sortA_any _ b (l.take mn) _ (HRT.out.touch hS (by simp)) HLT.out).mono ?_
  rintro e w5 ⟨v5, rfl, o5, t5⟩
  obtain ⟨b5, r5, _⟩ := (show OwnA _ w5 v5 _ from o5).rd
  clear o5
  have hS2 := hS.trans t5 (by simp)
  refine hK.out _ _ hS2 (fun _ => ?_)
  clear hK K hS t5
  have hS := hS2
  clear hS2
  try simp only [Act.put, List.setIfInBounds_toArray, List.set_cons_zero, List.set_cons_succ]
  refine wpAnyH_ready (rs := [9]) (by kernel_rfl) (by simp) ?_
  refine AllReadyH.cons (o := { dst := some 19, op := Op.call { callee := Callee.value (Operand.func 16), args := #[Operand.tmp 18], argTypes := #[22] }, type := 22, pos := "law.go:23", after := #[{ on := 8, ground := Ground.data }, { on := 5, ground := Ground.chain }, { on := 1, ground := Ground.guard }], guard := some (1, true) }) rfl (fun K hK => ?_) AllReadyH.nil
  go_simp
  refine (rsort_any _ b (l.take mn) _ (HRT.out.touch hS (by simp)) HLV.out).mono ?_
  rintro e w9 ⟨v9, rfl, o9, t9⟩
  obtain ⟨b9, r9, _⟩ := (show OwnA _ w9 v9 _ from o9).rd
  clear o9
  have r5 := r5.touch t9 (by simp)
  have hS2 := hS.trans t9 (by simp)
  refine hK.out _ _ hS2 (fun _ => ?_)
  clear hK K hS t9
  have hS := hS2
  clear hS2
  try simp only [Act.put, List.setIfInBounds_toArray, List.set_cons_zero, List.set_cons_succ]
  refine wpAnyH_ready (rs := [10]) (by kernel_rfl) (by simp) ?_
  refine AllReadyH.cons (o := { dst := some 20, op := Op.call { callee := Callee.value (Operand.func 14), args := #[Operand.tmp 15, Operand.tmp 19], argTypes := #[22, 22] }, type := 4, pos := "law.go:23", after := #[{ on := 5, ground := Ground.data }, { on := 9, ground := Ground.data }, { on := 9, ground := Ground.chain }, { on := 1, ground := Ground.guard }], guard := some (1, true) }) rfl (fun K hK => ?_) AllReadyH.nil
  go_simp
  refine (equalT _ _ b5 b9 _ _ r5 r9).mono ?_
  rintro e w10 ⟨rfl, t10⟩
  have hS2 := hS.trans t10 (by simp)
  refine hK.out _ _ hS2 (fun _ => ?_)
  clear hK K hS t10
  have hS := hS2
  clear hS2
  try simp only [Act.put, List.setIfInBounds_toArray, List.set_cons_zero, List.set_cons_succ]
  refine wpAnyH_take (i := 11) (oi := { dst := some 21, op := Op.pick (Operand.tmp 11) (Operand.tmp 20) (Operand.const (Value.bool false)), type := 4, pos := "law.go:23", after := #[{ on := 1, ground := Ground.data }, { on := 10, ground := Ground.data }], guard := none }) (v := .bool true) rfl (by kernel_rfl) (by kernel_rfl) (by kernel_rfl) (fun _ _ _ h => h) (Or.inl ⟨by rfl, fun w' hw => by go_simp⟩) hS ?_
  try simp only [Act.put, List.setIfInBounds_toArray, List.set_cons_zero, List.set_cons_succ]
  refine wpAnyH_take (i := 12) (oi := { dst := some 22, op := Op.move (Operand.tmp 21), type := 4, pos := "law.go:23", after := #[{ on := 11, ground := Ground.data }, { on := 10, ground := Ground.chain }], guard := none }) (v := .bool true) rfl (by kernel_rfl) (by kernel_rfl) (by kernel_rfl) (fun _ _ _ h => h) (Or.inl ⟨by rfl, fun w' hw => by go_simp⟩) hS ?_
  try simp only [Act.put, List.setIfInBounds_toArray, List.set_cons_zero, List.set_cons_succ]
  refine wpAnyH_take (i := 13) (oi := { dst := some 23, op := Op.move (Operand.tmp 4), type := 22, pos := "law.go:23", after := #[{ on := 12, ground := Ground.guard }], guard := some (12, true) }) (v := vx) rfl (by kernel_rfl) (by kernel_rfl) (by kernel_rfl) (fun _ _ _ h => h) (Or.inl ⟨by rfl, fun w' hw => by go_simp⟩) hS ?_
  try simp only [Act.put, List.setIfInBounds_toArray, List.set_cons_zero, List.set_cons_succ]
  refine wpAnyH_take (i := 15) (oi := { dst := some 25, op := Op.move (Operand.tmp 4), type := 22, pos := "law.go:23", after := #[{ on := 12, ground := Ground.guard }], guard := some (12, true) }) (v := vx) rfl (by kernel_rfl) (by kernel_rfl) (by kernel_rfl) (fun _ _ _ h => h) (Or.inl ⟨by rfl, fun w' hw => by go_simp⟩) hS ?_
  try simp only [Act.put, List.setIfInBounds_toArray, List.set_cons_zero, List.set_cons_succ]
  refine wpAnyH_ready (rs := [14]) (by kernel_rfl) (by simp) ?_
  refine AllReadyH.cons (o := { dst := some 24, op := Op.call { callee := Callee.value (Operand.func 15), args := #[Operand.tmp 23], argTypes := #[22] }, type := 22, pos := "law.go:23", after := #[{ on := 13, ground := Ground.data }, { on := 12, ground := Ground.chain }, { on := 12, ground := Ground.guard }], guard := some (12, true) }) rfl (fun K hK => ?_) AllReadyH.nil
  go_simp
  refine (sortA_any _ bx l2 _ (HRX2.out.touch hS (by simp)) HLU.out).mono ?_
  rintro e w14 ⟨v14, rfl, o14, t14⟩
  obtain ⟨b14, r14, _⟩ := (show OwnA _ w14 v14 _ from o14).rd
  clear o14
  have hS2 := hS.trans t14 (by simp)
  refine hK.out _ _ hS2 (fun _ => ?_)
  clear hK K hS t14
  have hS := hS2
  clear hS2
  try simp only [Act.put, List.setIfInBounds_toArray, List.set_cons_zero, List.set_cons_succ]
  refine wpAnyH_ready (rs := [16]) (by kernel_rfl) (by simp) ?_
  refine AllReadyH.cons (o := { dst := some 26, op := Op.call { callee := Callee.value (Operand.func 16), args := #[Operand.tmp 25], argTypes := #[22] }, type := 22, pos := "law.go:23", after := #[{ on := 15, ground := Ground.data }, { on := 14, ground := Ground.chain }, { on := 12, ground := Ground.guard }], guard := some (12, true) }) rfl (fun K hK => ?_) AllReadyH.nil
  go_simp
  refine (rsort_any _ bx l2 _ (HRX2.out.touch hS (by simp)) HL2.out).mono ?_
  rintro e w16 ⟨v16, rfl, o16, t16⟩
  obtain ⟨b16, r16, _⟩ := (show OwnA _ w16 v16 _ from o16).rd
  clear o16
  have r14 := r14.touch t16 (by simp)
  have hS2 := hS.trans t16 (by simp)
  refine hK.out _ _ hS2 (fun _ => ?_)
  clear hK K hS t16
  have hS := hS2
  clear hS2
  try simp only [Act.put, List.setIfInBounds_toArray, List.set_cons_zero, List.set_cons_succ]
  refine wpAnyH_ready (rs := [17]) (by kernel_rfl) (by simp) ?_
  refine AllReadyH.cons (o := { dst := some 27, op := Op.call { callee := Callee.value (Operand.func 14), args := #[Operand.tmp 24, Operand.tmp 26], argTypes := #[22, 22] }, type := 4, pos := "law.go:23", after := #[{ on := 14, ground := Ground.data }, { on := 16, ground := Ground.data }, { on := 16, ground := Ground.chain }, { on := 12, ground := Ground.guard }], guard := some (12, true) }) rfl (fun K hK => ?_) AllReadyH.nil
  go_simp
  refine (equalT _ _ b14 b16 _ _ r14 r16).mono ?_
  rintro e w17 ⟨rfl, t17⟩
  have hS2 := hS.trans t17 (by simp)
  refine hK.out _ _ hS2 (fun _ => ?_)
  clear hK K hS t17
  have hS := hS2
  clear hS2
  try simp only [Act.put, List.setIfInBounds_toArray, List.set_cons_zero, List.set_cons_succ]
  refine wpAnyH_take (i := 18) (oi := { dst := some 28, op := Op.pick (Operand.tmp 22) (Operand.tmp 27) (Operand.const (Value.bool false)), type := 4, pos := "law.go:23", after := #[{ on := 12, ground := Ground.data }, { on := 17, ground := Ground.data }], guard := none }) (v := .bool true) rfl (by kernel_rfl) (by kernel_rfl) (by kernel_rfl) (fun _ _ _ h => h) (Or.inl ⟨by rfl, fun w' hw => by go_simp⟩) hS ?_
  try simp only [Act.put, List.setIfInBounds_toArray, List.set_cons_zero, List.set_cons_succ]
  refine wpAnyH_take (i := 19) (oi := { dst := some 29, op := Op.move (Operand.tmp 28), type := 4, pos := "law.go:23", after := #[{ on := 18, ground := Ground.data }, { on := 17, ground := Ground.chain }], guard := none }) (v := .bool true) rfl (by kernel_rfl) (by kernel_rfl) (by kernel_rfl) (fun _ _ _ h => h) (Or.inl ⟨by rfl, fun w' hw => by go_simp⟩) hS ?_
  try simp only [Act.put, List.setIfInBounds_toArray, List.set_cons_zero, List.set_cons_succ]
  refine wpAnyH_take (i := 20) (oi := { dst := some 30, op := Op.move (Operand.tmp 4), type := 22, pos := "law.go:23", after := #[{ on := 19, ground := Ground.guard }], guard := some (19, true) }) (v := vx) rfl (by kernel_rfl) (by kernel_rfl) (by kernel_rfl) (fun _ _ _ h => h) (Or.inl ⟨by rfl, fun w' hw => by go_simp⟩) hS ?_
  try simp only [Act.put, List.setIfInBounds_toArray, List.set_cons_zero, List.set_cons_succ]
  refine wpAnyH_take (i := 22) (oi := { dst := some 32, op := Op.move (Operand.tmp 4), type := 22, pos := "law.go:23", after := #[{ on := 19, ground := Ground.guard }], guard := some (19, true) }) (v := vx) rfl (by kernel_rfl) (by kernel_rfl) (by kernel_rfl) (fun _ _ _ h => h) (Or.inl ⟨by rfl, fun w' hw => by go_simp⟩) hS ?_
  try simp only [Act.put, List.setIfInBounds_toArray, List.set_cons_zero, List.set_cons_succ]
  refine wpAnyH_ready (rs := [21]) (by kernel_rfl) (by simp) ?_
  refine AllReadyH.cons (o := { dst := some 31, op := Op.call { callee := Callee.value (Operand.func 17), args := #[Operand.tmp 30], argTypes := #[22] }, type := 22, pos := "law.go:23", after := #[{ on := 20, ground := Ground.data }, { on := 19, ground := Ground.chain }, { on := 19, ground := Ground.guard }], guard := some (19, true) }) rfl (fun K hK => ?_) AllReadyH.nil
  go_simp
  refine (dedup_any _ bx l2 _ (HRX2.out.touch hS (by simp)) HL2.out).mono ?_
  rintro e w21 ⟨v21, rfl, o21, t21⟩
  obtain ⟨b21, r21, _⟩ := (show OwnA _ w21 v21 _ from o21).rd
  clear o21
  have hS2 := hS.trans t21 (by simp)
  refine hK.out _ _ hS2 (fun _ => ?_)
  clear hK K hS t21
  have hS := hS2
  clear hS2
  try simp only [Act.put, List.setIfInBounds_toArray, List.set_cons_zero, List.set_cons_succ]
  refine wpAnyH_ready (rs := [23]) (by kernel_rfl) (by simp) ?_
  refine AllReadyH.cons (o := { dst := some 33, op := Op.call { callee := Callee.value (Operand.func 18), args := #[Operand.tmp 32], argTypes := #[22] }, type := 22, pos := "law.go:23", after := #[{ on := 22, ground := Ground.data }, { on := 21, ground := Ground.chain }, { on := 19, ground := Ground.guard }], guard := some (19, true) }) rfl (fun K hK => ?_) AllReadyH.nil
  go_simp
  refine (rdedup_any _ bx l2 _ (HRX2.out.touch hS (by simp)) HL2.out).mono ?_
  rintro e w23 ⟨v23, rfl, o23, t23⟩
  obtain ⟨b23, r23, _⟩ := (show OwnA _ w23 v23 _ from o23).rd
  clear o23
  have r21 := r21.touch t23 (by simp)
  have hS2 := hS.trans t23 (by simp)
  refine hK.out _ _ hS2 (fun _ => ?_)
  clear hK K hS t23
  have hS := hS2
  clear hS2
  try simp only [Act.put, List.setIfInBounds_toArray, List.set_cons_zero, List.set_cons_succ]
  refine wpAnyH_ready (rs := [24]) (by kernel_rfl) (by simp) ?_
  refine AllReadyH.cons (o := { dst := some 34, op := Op.call { callee := Callee.value (Operand.func 14), args := #[Operand.tmp 31, Operand.tmp 33], argTypes := #[22, 22] }, type := 4, pos := "law.go:23", after := #[{ on := 21, ground := Ground.data }, { on := 23, ground := Ground.data }, { on := 23, ground := Ground.chain }, { on := 19, ground := Ground.guard }], guard := some (19, true) }) rfl (fun K hK => ?_) AllReadyH.nil
  go_simp
  refine (equalT _ _ b21 b23 _ _ r21 r23).mono ?_
  rintro e w24 ⟨rfl, t24⟩
  have hS2 := hS.trans t24 (by simp)
  refine hK.out _ _ hS2 (fun _ => ?_)
  clear hK K hS t24
  have hS := hS2
  clear hS2
  try simp only [Act.put, List.setIfInBounds_toArray, List.set_cons_zero, List.set_cons_succ]
  refine wpAnyH_take (i := 25) (oi := { dst := some 35, op := Op.pick (Operand.tmp 29) (Operand.tmp 34) (Operand.const (Value.bool false)), type := 4, pos := "law.go:23", after := #[{ on := 19, ground := Ground.data }, { on := 24, ground := Ground.data }], guard := none }) (v := .bool true) rfl (by kernel_rfl) (by kernel_rfl) (by kernel_rfl) (fun _ _ _ h => h) (Or.inl ⟨by rfl, fun w' hw => by go_simp⟩) hS ?_
  try simp only [Act.put, List.setIfInBounds_toArray, List.set_cons_zero, List.set_cons_succ]
  refine wpAnyH_take (i := 26) (oi := { dst := some 36, op := Op.move (Operand.tmp 35), type := 4, pos := "law.go:23", after := #[{ on := 25, ground := Ground.data }, { on := 24, ground := Ground.chain }], guard := none }) (v := .bool true) rfl (by kernel_rfl) (by kernel_rfl) (by kernel_rfl) (fun _ _ _ h => h) (Or.inl ⟨by rfl, fun w' hw => by go_simp⟩) hS ?_
  try simp only [Act.put, List.setIfInBounds_toArray, List.set_cons_zero, List.set_cons_succ]
  refine wpAnyH_take (i := 27) (oi := { dst := some 37, op := Op.move (Operand.tmp 0), type := 22, pos := "law.go:23", after := #[{ on := 26, ground := Ground.guard }], guard := some (26, true) }) (v := .slice a n cap) rfl (by kernel_rfl) (by kernel_rfl) (by kernel_rfl) (fun _ _ _ h => h) (Or.inl ⟨by rfl, fun w' hw => by go_simp⟩) hS ?_
  try simp only [Act.put, List.setIfInBounds_toArray, List.set_cons_zero, List.set_cons_succ]
  refine wpAnyH_take (i := 29) (oi := { dst := some 39, op := Op.move (Operand.tmp 0), type := 22, pos := "law.go:23", after := #[{ on := 26, ground := Ground.guard }], guard := some (26, true) }) (v := .slice a n cap) rfl (by kernel_rfl) (by kernel_rfl) (by kernel_rfl) (fun _ _ _ h => h) (Or.inl ⟨by rfl, fun w' hw => by go_simp⟩) hS ?_
  try simp only [Act.put, List.setIfInBounds_toArray, List.set_cons_zero, List.set_cons_succ]
  refine wpAnyH_ready (rs := [28]) (by kernel_rfl) (by simp) ?_
  refine AllReadyH.cons (o := { dst := some 38, op := Op.call { callee := Callee.value (Operand.func 17), args := #[Operand.tmp 37], argTypes := #[22] }, type := 22, pos := "law.go:23", after := #[{ on := 27, ground := Ground.data }, { on := 26, ground := Ground.chain }, { on := 26, ground := Ground.guard }], guard := some (26, true) }) rfl (fun K hK => ?_) AllReadyH.nil
  go_simp
  refine (dedup_any _ b l _ (HRL.out.touch hS (by simp)) HL1.out).mono ?_
  rintro e w28 ⟨v28, rfl, o28, t28⟩
  obtain ⟨b28, r28, _⟩ := (show OwnA _ w28 v28 _ from o28).rd
  clear o28
  have hS2 := hS.trans t28 (by simp)
  refine hK.out _ _ hS2 (fun _ => ?_)
  clear hK K hS t28
  have hS := hS2
  clear hS2
  try simp only [Act.put, List.setIfInBounds_toArray, List.set_cons_zero, List.set_cons_succ]
  refine wpAnyH_ready (rs := [30]) (by kernel_rfl) (by simp) ?_
  refine AllReadyH.cons (o := { dst := some 40, op := Op.call { callee := Callee.value (Operand.func 18), args := #[Operand.tmp 39], argTypes := #[22] }, type := 22, pos := "law.go:23", after := #[{ on := 29, ground := Ground.data }, { on := 28, ground := Ground.chain }, { on := 26, ground := Ground.guard }], guard := some (26, true) }) rfl (fun K hK => ?_) AllReadyH.nil
  go_simp
  refine (rdedup_any _ b l _ (HRL.out.touch hS (by simp)) HL1.out).mono ?_
  rintro e w30 ⟨v30, rfl, o30, t30⟩
  obtain ⟨b30, r30, _⟩ := (show OwnA _ w30 v30 _ from o30).rd
  clear o30
  have r28 := r28.touch t30 (by simp)
  have hS2 := hS.trans t30 (by simp)
  refine hK.out _ _ hS2 (fun _ => ?_)
  clear hK K hS t30
  have hS := hS2
  clear hS2
  try simp only [Act.put, List.setIfInBounds_toArray, List.set_cons_zero, List.set_cons_succ]
  refine wpAnyH_ready (rs := [31]) (by kernel_rfl) (by simp) ?_
  refine AllReadyH.cons (o := { dst := some 41, op := Op.call { callee := Callee.value (Operand.func 14), args := #[Operand.tmp 38, Operand.tmp 40], argTypes := #[22, 22] }, type := 4, pos := "law.go:23", after := #[{ on := 28, ground := Ground.data }, { on := 30, ground := Ground.data }, { on := 30, ground := Ground.chain }, { on := 26, ground := Ground.guard }], guard := some (26, true) }) rfl (fun K hK => ?_) AllReadyH.nil
  go_simp
  refine (equalT _ _ b28 b30 _ _ r28 r30).mono ?_
  rintro e w31 ⟨rfl, t31⟩
  have hS2 := hS.trans t31 (by simp)
  refine hK.out _ _ hS2 (fun _ => ?_)
  clear hK K hS t31
  have hS := hS2
  clear hS2
  try simp only [Act.put, List.setIfInBounds_toArray, List.set_cons_zero, List.set_cons_succ]
  refine wpAnyH_take (i := 32) (oi := { dst := some 42, op := Op.pick (Operand.tmp 36) (Operand.tmp 41) (Operand.const (Value.bool false)), type := 4, pos := "law.go:23", after := #[{ on := 26, ground := Ground.data }, { on := 31, ground := Ground.data }], guard := none }) (v := .bool true) rfl (by kernel_rfl) (by kernel_rfl) (by kernel_rfl) (fun _ _ _ h => h) (Or.inl ⟨by rfl, fun w' hw => by go_simp⟩) hS ?_
  try simp only [Act.put, List.setIfInBounds_toArray, List.set_cons_zero, List.set_cons_succ]
  refine wpAnyH_take (i := 33) (oi := { dst := some 2, op := Op.assign (Operand.tmp 42), type := 4, pos := "law.go:23", after := #[{ on := 32, ground := Ground.data }, { on := 31, ground := Ground.chain }, { on := 0, ground := Ground.phase }, { on := 1, ground := Ground.phase }, { on := 2, ground := Ground.phase }, { on := 3, ground := Ground.phase }, { on := 4, ground := Ground.phase }, { on := 5, ground := Ground.phase }, { on := 6, ground := Ground.phase }, { on := 7, ground := Ground.phase }, { on := 8, ground := Ground.phase }, { on := 9, ground := Ground.phase }, { on := 10, ground := Ground.phase }, { on := 11, ground := Ground.phase }, { on := 12, ground := Ground.phase }, { on := 13, ground := Ground.phase }, { on := 14, ground := Ground.phase }, { on := 15, ground := Ground.phase }, { on := 16, ground := Ground.phase }, { on := 17, ground := Ground.phase }, { on := 18, ground := Ground.phase }, { on := 19, ground := Ground.phase }, { on := 20, ground := Ground.phase }, { on := 21, ground := Ground.phase }, { on := 22, ground := Ground.phase }, { on := 23, ground := Ground.phase }, { on := 24, ground := Ground.phase }, { on := 25, ground := Ground.phase }, { on := 26, ground := Ground.phase }, { on := 27, ground := Ground.phase }, { on := 28, ground := Ground.phase }, { on := 29, ground := Ground.phase }, { on := 30, ground := Ground.phase }, { on := 31, ground := Ground.phase }, { on := 32, ground := Ground.phase }], guard := none }) (v := .bool true) rfl (by kernel_rfl) (by kernel_rfl) (by kernel_rfl) (fun _ _ _ h => h) (Or.inl ⟨by rfl, fun w' hw => by go_simp⟩) hS ?_
  try simp only [Act.put, List.setIfInBounds_toArray, List.set_cons_zero, List.set_cons_succ]
  refine wpAnyH_done (by kernel_rfl) ?_ _
  try simp only [Act.put, List.setIfInBounds_toArray, List.set_cons_zero, List.set_cons_succ]
  have HT2 := Lib.hid (HTd.out.trans hS (by simp))
  clear hS HTd
  go_wp2_with fail
  go_ret
  exact ⟨rfl, HT2.out⟩
theorem walk {H : Type} {enc : TypeId × Value → H} {w : World} (v : Value) (hv : IsSlice enc Tryd.prog w 0 (fun _ => true) true [4, 5, 5, 5, 5, 5, 5, 5, 5, 5, 5, 5, 5, 5, 5, 5, 5] v) (hz : ∀ a len cap, v = .slice a len cap → len * 17 ≤ 140737488351232) :
    Calls Tryd.prog 3 #[v] w fun e w' => e = .returned (.bool true) ∧ Below w.heap.size w w' := by
  obtain ⟨b, xs, hr, hx⟩ := slice_rows (by simp) hv
  obtain ⟨l, rfl⟩ := ads_of (fun x h => isAd_cells (hx x h))
  obtain ⟨a, cap, hvv, _, _⟩ := hr.form
  have hl : l.length * 17 ≤ 140737488351232 := by
    have := hz _ _ _ hvv
    rwa [List.length_map] at this
  exact (walk0 v b l w hr hl).mono fun e w' ⟨h1, h2⟩ => ⟨h1, h2.below (by simp) (Nat.le_refl _)⟩
end Go.Proofs.YtiklhaajhdephaaDoor.addrsortMatchesModel

/-
  The statement 'AddrsortMatchesModelSaid' of the seat: the frame of the row round the walk of the law's Go function (YtiklhaajhdephaaDoorW3): for every input the call returns true and each argument reads as it did.
-/
namespace Go.Proofs.YtiklhaajhdephaaDoor.addrsortMatchesModel
open Go.ChangeShapes Go.WideShapes Go.Deep Go.ChangeAt Go.RowKit
open Go.ChangeMaps (open_string shut_string)
set_option linter.unusedVariables false

theorem own : ownKnob Tryd.prog.godebug = none := by kernel_rfl
theorem slice_sized {H : Type} {enc : TypeId × Value → H} {P : Program} {w : World} {base : Nat} {spare : Nat → Bool} {held : Bool} {ts : List TypeId} {ds : List (DataW H)} {t e fuel by_ : Nat} {v : Value} {d : DataW H} {pl : List MemPlace}
    (hsz : (DataW.weightsEach P ts ds).all (· ≤ reachBytes) = true) {j : Nat} (ht : ts[j]? = some t) (hd : ds[j]? = some d) (hu : P.underlying t = some (.slice e)) (hb : P.bytesOf e = by_)
    (h : DataW.trod enc P w base spare held fuel t [v] = some (d, pl)) : ∀ a len cap, v = .slice a len cap → len * by_ ≤ 140737488351232 := by
  intro a len cap hv
  rcases open_slice hu h with ⟨h0, _⟩ | ⟨a', len', cap', m, n, D, Pl, h0, hb', hl, hm, hmm, hx, _⟩
  · have : v = .slice none 0 0 := by simpa using h0
    rw [hv] at this
    simp only [Value.slice.injEq] at this
    rw [this.2.1]
    omega
  · have h1 : v = .slice (some a') len' cap' := by simpa using h0
    rw [hv] at h1
    simp only [Value.slice.injEq] at h1
    obtain ⟨_, rfl, _⟩ := h1
    simp only [Prod.mk.injEq] at hx
    rw [hx.1] at hd
    have := sized_slice hsz ht hd hu
    rw [hb] at this
    simp only [List.length_map, List.length_range, reachBytes] at this
    have h2 : len * by_ ≤ (len + (m - len)) * by_ := Nat.mul_le_mul_right _ (by omega)
    omega
theorem laidOut : laidOutB Tryd.prog = true := by kernel_rfl

set_option maxRecDepth 100000 in
theorem lifted (os : Os) (started : os.Started) (H : Type) (enc : TypeId × Value → H) :
    ReturnsInHanded {} Tryd.checked os 3 .any (fun w args => (Rows.addrsortMatchesModelSpec.pre enc Tryd.prog Tryd.f3 Rows.addrsortMatchesModelRow.domain false w args ∧ laidMetH Tryd.prog Rows.addrsortMatchesModelRow.laid w) ∧ sizedMet enc Tryd.prog Tryd.f3 (OpenSpec.ofChange Rows.addrsortMatchesModelSpec) false w args)
      (Rows.addrsortMatchesModelSpec.post enc Tryd.prog Tryd.f3 false true false false) := by
  refine returnsInHanded_of_change_and (C := Tryd.checked) (X := fun w _ => laidMetH Tryd.prog Rows.addrsortMatchesModelRow.laid w) (fun _ _ _ hh h => h.of_heap hh) own started (by kernel_rfl) Tryd.func3
    (ChangeSpec.witness_shaped (enc := enc) (C := Tryd.checked) (os := os) (X := fun w _ => laidMetH Tryd.prog Rows.addrsortMatchesModelRow.laid w) false (World.laidAll Tryd.prog os Rows.addrsortMatchesModelRow.laid) #[.slice none 0 0] 8 (World.laidAll_os _ _ _)
      (World.shaped_of_ZipB (by kernel_rfl) (by kernel_rfl)) (by kernel_rfl) (by kernel_rfl) (by kernel_rfl)
      (by rw [MakeChecks.laidMetH_plain _ _ _ (by kernel_rfl)]; exact laidMet_laidAll _ (by kernel_rfl) (by kernel_rfl))) ?_
  intro W base args ds gs before hval0 hW hcnd hsz0 hL _
  have hsz : (DataW.weightsEach Tryd.prog (Tryd.f3.params.toList ++ Rows.addrsortMatchesModelSpec.plain.varTypes Tryd.prog) (ds ++ gs)).all (· ≤ reachBytes) = true := hsz0
  rw [Tryd.params3] at hsz
  have hval : ∀ (j : Nat) t v, Tryd.f3.params[j]? = some t → args[j]? = some v → Value.okWide Tryd.prog W .any base t v := hval0
  have hW' := hW
  obtain ⟨p, q, hA0, hV, rfl, hfz, hnd⟩ := hW
  have hA : DataW.TrodAll enc Tryd.prog W 0 (fun _ => true) true Tryd.f3.params.toList args.toList ds p := hA0
  rw [Tryd.params3] at hA hval
  obtain ⟨v0, vs0, d0, ds0, p0, q0, hargs, rfl, rfl, h0, r0⟩ := trodAll_cons hA
  obtain ⟨rfl, rfl, rfl⟩ := trodAll_nil r0
  obtain rfl : args = #[v0] := by cases args; simp_all
  obtain ⟨rfl, rfl⟩ := trodVars_none hV
  have k0 := h0
  have lt0 : ∀ x ∈ p0, x.block < W.heap.size := by obtain ⟨m, hm⟩ := k0; exact DataW.trod_lt m _ _ _ hm
  obtain ⟨b0, len0, cap0, hv0⟩ := okWide_slice Tryd.underlying22 (hval 0 22 v0 rfl rfl)
  have s0 : IsSlice enc Tryd.prog W 0 (fun _ => true) true [4, 5, 5, 5, 5, 5, 5, 5, 5, 5, 5, 5, 5, 5, 5, 5, 5] v0 := by
    obtain ⟨fuel, hf⟩ := h0
    rw [hv0] at hf ⊢
    exact slice_ok (d := 8) Tryd.underlying22 (by kernel_rfl) (by kernel_rfl) (by simpa [Value.cells] using hf)
  have z0 : ∀ a len cap, v0 = .slice a len cap → len * 17 ≤ 140737488351232 := by
    obtain ⟨fuel, hf⟩ := k0
    rw [hv0] at hf ⊢
    exact slice_sized hsz (j := 0) rfl rfl Tryd.underlying22 (by kernel_rfl) (by simpa [Value.cells] using hf)
  clear hA0 hval0
  refine (walk (H := H) (enc := enc) (w := W) v0 s0 z0).mono fun e W' ⟨he, bel⟩ => ?_
  subst he
  exact ⟨_, rfl, _, _, _, [], _, [], hW', trodAll_mk1 (shut_bool Tryd.underlying4 _), (trodAll_cons_mk (Below.trod laidOut (by kernel_rfl) (of_decide_eq_true (by kernel_rfl)) k0 bel lt0) trodAll_mk0), rfl, bel.frame _, fun h => by cases h⟩

theorem over : Rows.addrsortMatchesModelRow.holds Tryd.pinned (OpenSpec.ofChange Rows.addrsortMatchesModelSpec) :=
  OpenClaim.holds_of_wide 3 Tryd.f3 rfl rfl rfl rfl rfl rfl rfl ⟨rfl, rfl, rfl, rfl, rfl⟩ rfl rfl rfl rfl rfl (by kernel_rfl) Tryd.func3 (by kernel_rfl)
    (of_decide_eq_true (by kernel_rfl)) (by unfold Func.isWrapper; first | (rw [if_pos (by decide +kernel)]; kernel_rfl) | (rw [if_neg (by decide +kernel)]; exact ⟨rfl, rfl⟩))
    (fun os started H enc _ => lifted os started H enc)

theorem proved : Rows.AddrsortMatchesModelCardSaid :=
  Claim7.holds_tied_plain_at .later [] [.data, .pinned] true (true, "5befad24a3e9b3d9c688acd4ea44020d752db1b22d3d70f9edc34305006425d2") false over (fun _ h => by cases h) (by kernel_rfl) (fun _ h => by cases h) addrsortMatchesModel_row_tie rfl ⟨rfl, rfl⟩ (by kernel_rfl) rfl
    (fun f fn hf hfn => by
      obtain rfl : f = 3 := Option.some.inj ((show Tryd.prog.funcNamed "ginnel/ginnellaw25.AddrsortMatchesModel" = some 3 by kernel_rfl).symm.trans hf) |>.symm
      obtain rfl : fn = Tryd.f3 := (Option.some.inj (Tryd.func3.symm.trans hfn)).symm
      exact ⟨by kernel_rfl, fun j t ht => by
        rw [Tryd.params3] at ht
        have hm : t ∈ [22] := by simpa using Array.mem_of_getElem? ht
        have hall : ([22].all fun u => !Tryd.prog.wantsStandIn u) = true := by kernel_rfl
        exact (show Tryd.prog.wantsStandIn t = false by simpa using List.all_eq_true.1 hall t hm)⟩)
    (by kernel_rfl)
#print axioms proved
end Go.Proofs.YtiklhaajhdephaaDoor.addrsortMatchesModel

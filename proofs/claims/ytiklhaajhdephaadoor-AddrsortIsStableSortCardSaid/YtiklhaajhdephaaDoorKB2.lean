/-
  Merged texts: W3.
-/
import Derived.Test.YtiklhaajhdephaaDoorGJ
import Derived.Test.YtiklhaajhdephaaDoorGK
import Derived.Test.YtiklhaajhdephaaDoorGG

/-
  The walk of AddrsortMatchesModel: true at every list whose cells take no more than the reach.
-/
namespace Go.Proofs.YtiklhaajhdephaaDoor
open Go.RowKit
theorem equalT (v1 v2 : Value) (b1 b2 : Nat) (l : List Ad) (w : World) (h1 : Rd w 17 b1 v1 (l.map Ad.cells)) (h2 : Rd w 17 b2 v2 (l.map Ad.cells)) :
    Calls Tryd.prog 14 #[v1, v2] w fun e w' => e = .returned (.bool true) ∧ Touch [] w w' := by
  have := equalA v1 v2 b1 b2 l l w h1 h2
  rwa [show decide (l = l) = true by simp] at this
end Go.Proofs.YtiklhaajhdephaaDoor
namespace Go.Proofs.YtiklhaajhdephaaDoor.addrsortMatchesModel
open Go.RowKit Go.Deep
set_option linter.unusedVariables false
set_option linter.unusedSimpArgs false

set_option maxRecDepth 100000 in
set_option maxHeartbeats 4000000 in
theorem walk0 (v : Value) (b : Nat) (l : List Ad) (w : World) (hv : Rd w 17 b v (l.map Ad.cells)) (hl : l.length * 17 ≤ 140737488351232) :
    Calls Tryd.prog 3 #[v] w fun e w' => e = .returned (.bool true) ∧ Touch [] w w' := by
  obtain ⟨a, cap, rfl, hlc, hcm⟩ := hv.form
  simp only [List.length_map] at *
  have HSA := Lib.hid (someAddrs_any (.slice a l.length cap) b 20 (l.map Ad.cells) w (by omega) hv (fun x hx => by obtain ⟨y, _, rfl⟩ := List.mem_map.1 hx; exact y.is))
  have HV := Lib.hid hv
  obtain ⟨n, hn⟩ : ∃ n, n = l.length := ⟨_, rfl⟩
  have HN := Lib.hid hn
  rw [← hn] at hl hlc HSA ⊢
  have hcm2 : cap ≤ 9223372036854775807 := by unfold maxLen at hcm; omega
  clear hv hn hcm
  obtain ⟨mn, hmn⟩ : ∃ mn, mn = min n 20 := ⟨_, rfl⟩
  have hm2 : (if (n : Int) < 20 then (n : Int) else 20) = (mn : Int) := by split <;> omega
  have hm3 : min (n : Int) 20 = (mn : Int) := by omega
  have hmc : (mn : Int) ≤ (cap : Int) := by omega
  have HMN := Lib.hid (show mn ≤ n by omega)
  clear hmn
  go_enter Tryd.func3, Tryd.ntmps3
  go_wp2_with fail
  refine HSA.out.mono ?_
  rintro e w1 ⟨vx, ys, rfl, hys, hyl, ho, t1⟩
  obtain ⟨l2, rfl⟩ := ads_of hys
  obtain ⟨bx, hrx, _⟩ := (show OwnA w w1 vx l2 from ho).rd
  have HRX := Lib.hid hrx
  have HL2 := Lib.hid (show l2.length * 17 ≤ 140737488351232 by have : l2.length ≤ 20 := (by simpa using hyl); omega)
  have HT1 := Lib.hid t1
  have HL1 := Lib.hid (show l.length * 17 ≤ 140737488351232 by rw [← HN.out]; exact hl)
  have HLT := Lib.hid (show (l.take mn).length ≤ 1000000 by rw [List.length_take]; omega)
  have HLU := Lib.hid (show l2.length ≤ 1000000 by have : l2.length ≤ 20 := (by simpa using hyl); omega)
  have HLV := Lib.hid (show (l.take mn).length * 17 ≤ 140737488351232 by rw [List.length_take]; omega)
  clear hys hyl ho hrx t1 HSA
  go_wp2_with fail
  have HRL := Lib.hid (show Rd w1.drew 17 b (.slice a n cap) (l.map Ad.cells) by rw [HN.out]; exact (HV.out.touch HT1.out (by simp)).touch ((Touch.refl [] w1).drew) (by simp))
  have HRX2 := Lib.hid (HRX.out.touch ((Touch.refl [] w1).drew) (by simp))
  have HRT := Lib.hid (show Rd w1.drew 17 b (.slice a mn cap) ((l.take mn).map Ad.cells) by rw [List.map_take]; exact HRL.out.take mn (by rw [List.length_map, ← HN.out]; exact HMN.out))
  have HTd := Lib.hid (HT1.out.drew)
  refine wp_region_held (S := Touch [] w1.drew) (by kernel_rfl) ?_
  change wpAnyH _ _ _ _ _ _ _ _ w1.drew
  clear HV HRX HT1
  generalize w1.drew = W at *
  have hS := Touch.refl [] W
  refine wpAnyH_ready (rs := [0]) (by kernel_rfl) (by simp) ?_
  refine AllReadyH.cons (o := { dst := some 10, op := Op.call { callee := Callee.value (Operand.func 13), args := #[], argTypes := #[] }, type := 4, pos := "law.go:23", after := #[], guard := none }) rfl (fun K hK => ?_) AllReadyH.nil
  go_simp
  refine (awake_ok _).mono ?_
  rintro e w0 ⟨rfl, t0⟩
  have hS2 := hS.trans t0 (by simp)
  refine hK.out _ _ hS2 (fun _ => ?_)
  clear hK K hS t0
  have hS := hS2
  clear hS2
  try simp only [Act.put, List.setIfInBounds_toArray, List.set_cons_zero, List.set_cons_succ]
  refine wpAnyH_take (i := 1) (oi := { dst := some 11, op := Op.move (Operand.tmp 10), type := 4, pos := "law.go:23", after := #[{ on := 0, ground := Ground.data }, { on := 0, ground := Ground.chain }], guard := none }) (v := .bool true) rfl (by kernel_rfl) (by kernel_rfl) (by kernel_rfl) (fun _ _ _ h => h) (Or.inl ⟨by rfl, fun w' hw => by go_simp⟩) hS ?_
  try simp only [Act.put, List.setIfInBounds_toArray, List.set_cons_zero, List.set_cons_succ]
  refine wpAnyH_take (i := 2) (oi := { dst := some 12, op := Op.move (Operand.tmp 0), type := 22, pos := "law.go:23", after := #[{ on := 1, ground := Ground.guard }], guard := some (1, true) }) (v := .slice a n cap) rfl (by kernel_rfl) (by kernel_rfl) (by kernel_rfl) (fun _ _ _ h => h) (Or.inl ⟨by rfl, fun w' hw => by go_simp⟩) hS ?_
  try simp only [Act.put, List.setIfInBounds_toArray, List.set_cons_zero, List.set_cons_succ]
  refine wpAnyH_take (i := 3) (oi := { dst := some 13, op := Op.move (Operand.tmp 3), type := 3, pos := "law.go:23", after := #[{ on := 1, ground := Ground.guard }], guard := some (1, true) }) (v := .int .i64 (mn : Nat)) rfl (by kernel_rfl) (by kernel_rfl) (by kernel_rfl) (fun _ _ _ h => h) (Or.inl ⟨by rfl, fun w' hw => by go_simp⟩) hS ?_
  try simp only [Act.put, List.setIfInBounds_toArray, List.set_cons_zero, List.set_cons_succ]
  refine wpAnyH_take (i := 4) (oi := { dst := some 14, op := Op.slice 22 (Operand.tmp 12) none (some (Operand.tmp 13)) none, type := 22, pos := "law.go:23", after := #[{ on := 2, ground := Ground.data }, { on := 3, ground := Ground.data }, { on := 1, ground := Ground.guard }], guard := some (1, true) }) (v := .slice a mn cap) rfl (by kernel_rfl) (by kernel_rfl) (by kernel_rfl) (fun _ _ _ h => h) (Or.inl ⟨by rfl, fun w' hw => by (have q := hmc; go_simp)⟩) hS ?_
  try simp only [Act.put, List.setIfInBounds_toArray, List.set_cons_zero, List.set_cons_succ]
  refine wpAnyH_take (i := 6) (oi := { dst := some 16, op := Op.move (Operand.tmp 0), type := 22, pos := "law.go:23", after := #[{ on := 1, ground := Ground.guard }], guard := some (1, true) }) (v := .slice a n cap) rfl (by kernel_rfl) (by kernel_rfl) (by kernel_rfl) (fun _ _ _ h => h) (Or.inl ⟨by rfl, fun w' hw => by go_simp⟩) hS ?_
  try simp only [Act.put, List.setIfInBounds_toArray, List.set_cons_zero, List.set_cons_succ]
  refine wpAnyH_take (i := 7) (oi := { dst := some 17, op := Op.move (Operand.tmp 3), type := 3, pos := "law.go:23", after := #[{ on := 1, ground := Ground.guard }], guard := some (1, true) }) (v := .int .i64 (mn : Nat)) rfl (by kernel_rfl) (by kernel_rfl) (by kernel_rfl) (fun _ _ _ h => h) (Or.inl ⟨by rfl, fun w' hw => by go_simp⟩) hS ?_
  try simp only [Act.put, List.setIfInBounds_toArray, List.set_cons_zero, List.set_cons_succ]
  refine wpAnyH_take (i := 8) (oi := { dst := some 18, op := Op.slice 22 (Operand.tmp 16) none (some (Operand.tmp 17)) none, type := 22, pos := "law.go:23", after := #[{ on := 6, ground := Ground.data }, { on := 7, ground := Ground.data }, { on := 1, ground := Ground.guard }], guard := some (1, true) }) (v := .slice a mn cap) rfl (by kernel_rfl) (by kernel_rfl) (by kernel_rfl) (fun _ _ _ h => h) (Or.inl ⟨by rfl, fun w' hw => by (have q := hmc; go_simp)⟩) hS ?_
  try simp only [Act.put, List.setIfInBounds_toArray, List.set_cons_zero, List.set_cons_succ]
  refine wpAnyH_ready (rs := [5]) (by kernel_rfl) (by simp) ?_
  refine AllReadyH.cons (o := { dst := some 15, op := Op.call { callee := Callee.value (Operand.func 15), args := #[Operand.tmp 14], argTypes := #[22] }, type := 22, pos := "law.go:23", after := #[{ on := 4, ground := Ground.data }, { on := 1, ground := Ground.chain }, { on := 1, ground := Ground.guard }], guard := some (1, true) }) rfl (fun K hK => ?_) AllReadyH.nil
  go_simp
  refine (sortA_any _ b (l.take mn) _ (HRT.out.touch hS (by simp)) HLT.out).mono ?_
  rintro e w5 ⟨v5, rfl, o5, t5⟩
  obtain ⟨b5, r5, _⟩ := (show OwnA _ w5 v5 _ from o5).rd
  clear o5
  have hS2 := hS.trans t5 (by simp)
  refine hK.out _ _ hS2 (fun _ => ?_)
  clear hK K hS t5
  have hS := hS2
  clear hS2
  try simp only [Act.put, List.setIfInBounds_toArray, List.set_cons_zero, List.set_cons_succ]
  refine wpAnyH_ready (rs := [9]) (by kernel_rfl) (by simp) ?_
  refine AllReadyH.cons (o := { dst := some 19, op := Op.call { callee := Callee.value (Operand.func 16), args := #[Operand.tmp 18], argTypes := #[22] }, type := 22, pos := "law.go:23", after := #[{ on := 8, ground := Ground.data }, { on := 5, ground := Ground.chain }, { on := 1, ground := Ground.guard }], guard := some (1, true) }) rfl (fun K hK => ?_) AllReadyH.nil
  go_simp
  refine (rsort_any _ b (l.take mn) _ (HRT.out.touch hS (by simp)) HLV.out).mono ?_
  rintro e w9 ⟨v9, rfl, o9, t9⟩
  obtain ⟨b9, r9, _⟩ := (show OwnA _ w9 v9 _ from o9).rd
  clear o9
  have r5 := r5.touch t9 (by simp)
  have hS2 := hS.trans t9 (by simp)
  refine hK.out _ _ hS2 (fun _ => ?_)
  clear hK K hS t9
  have hS := hS2
  clear hS2
  try simp only [Act.put, List.setIfInBounds_toArray, List.set_cons_zero, List.set_cons_succ]
  refine wpAnyH_ready (rs := [10]) (by kernel_rfl) (by simp) ?_
  refine AllReadyH.cons (o := { dst := some 20, op := Op.call { callee := Callee.value (Operand.func 14), args := #[Operand.tmp 15, Operand.tmp 19], argTypes := #[22, 22] }, type := 4, pos := "law.go:23", after := #[{ on := 5, ground := Ground.data }, { on := 9, ground := Ground.data }, { on := 9, ground := Ground.chain }, { on := 1, ground := Ground.guard }], guard := some (1, true) }) rfl (fun K hK => ?_) AllReadyH.nil
  go_simp
  refine (equalT _ _ b5 b9 _ _ r5 r9).mono ?_
  rintro e w10 ⟨rfl, t10⟩
  have hS2 := hS.trans t10 (by simp)
  refine hK.out _ _ hS2 (fun _ => ?_)
  clear hK K hS t10
  have hS := hS2
  clear hS2
  try simp only [Act.put, List.setIfInBounds_toArray, List.set_cons_zero, List.set_cons_succ]
  refine wpAnyH_take (i := 11) (oi := { dst := some 21, op := Op.pick (Operand.tmp 11) (Operand.tmp 20) (Operand.const (Value.bool false)), type := 4, pos := "law.go:23", after := #[{ on := 1, ground := Ground.data }, { on := 10, ground := Ground.data }], guard := none }) (v := .bool true) rfl (by kernel_rfl) (by kernel_rfl) (by kernel_rfl) (fun _ _ _ h => h) (Or.inl ⟨by rfl, fun w' hw => by go_simp⟩) hS ?_
  try simp only [Act.put, List.setIfInBounds_toArray, List.set_cons_zero, List.set_cons_succ]
  refine wpAnyH_take (i := 12) (oi := { dst := some 22, op := Op.move (Operand.tmp 21), type := 4, pos := "law.go:23", after := #[{ on := 11, ground := Ground.data }, { on := 10, ground := Ground.chain }], guard := none }) (v := .bool true) rfl (by kernel_rfl) (by kernel_rfl) (by kernel_rfl) (fun _ _ _ h => h) (Or.inl ⟨by rfl, fun w' hw => by go_simp⟩) hS ?_
  try simp only [Act.put, List.setIfInBounds_toArray, List.set_cons_zero, List.set_cons_succ]
  refine wpAnyH_take (i := 13) (oi := { dst := some 23, op := Op.move (Operand.tmp 4), type := 22, pos := "law.go:23", after := #[{ on := 12, ground := Ground.guard }], guard := some (12, true) }) (v := vx) rfl (by kernel_rfl) (by kernel_rfl) (by kernel_rfl) (fun _ _ _ h => h) (Or.inl ⟨by rfl, fun w' hw => by go_simp⟩) hS ?_
  try simp only [Act.put, List.setIfInBounds_toArray, List.set_cons_zero, List.set_cons_succ]
  refine wpAnyH_take (i := 15) (oi := { dst := some 25, op := Op.move (Operand.tmp 4), type := 22, pos := "law.go:23", after := #[{ on := 12, ground := Ground.guard }], guard := some (12, true) }) (v := vx) rfl (by kernel_rfl) (by kernel_rfl) (by kernel_rfl) (fun _ _ _ h => h) (Or.inl ⟨by rfl, fun w' hw => by go_simp⟩) hS ?_
  try simp only [Act.put, List.setIfInBounds_toArray, List.set_cons_zero, List.set_cons_succ]
  refine wpAnyH_ready (rs := [14]) (by kernel_rfl) (by simp) ?_
  refine AllReadyH.cons (o := { dst := some 24, op := Op.call { callee := Callee.value (Operand.func 15), args := #[Operand.tmp 23], argTypes := #[22] }, type := 22, pos := "law.go:23", after := #[{ on := 13, ground := Ground.data }, { on := 12, ground := Ground.chain }, { on := 12, ground := Ground.guard }], guard := some (12, true) }) rfl (fun K hK => ?_) AllReadyH.nil
  go_simp
  refine (sortA_any _ bx l2 _ (HRX2.out.touch hS (by simp)) HLU.out).mono ?_
  rintro e w14 ⟨v14, rfl, o14, t14⟩
  obtain ⟨b14, r14, _⟩ := (show OwnA _ w14 v14 _ from o14).rd
  clear o14
  have hS2 := hS.trans t14 (by simp)
  refine hK.out _ _ hS2 (fun _ => ?_)
  clear hK K hS t14
  have hS := hS2
  clear hS2
  try simp only [Act.put, List.setIfInBounds_toArray, List.set_cons_zero, List.set_cons_succ]
  refine wpAnyH_ready (rs := [16]) (by kernel_rfl) (by simp) ?_
  refine AllReadyH.cons (o := { dst := some 26, op := Op.call { callee := Callee.value (Operand.func 16), args := #[Operand.tmp 25], argTypes := #[22] }, type := 22, pos := "law.go:23", after := #[{ on := 15, ground := Ground.data }, { on := 14, ground := Ground.chain }, { on := 12, ground := Ground.guard }], guard := some (12, true) }) rfl (fun K hK => ?_) AllReadyH.nil
  go_simp
  refine (rsort_any _ bx l2 _ (HRX2.out.touch hS (by simp)) HL2.out).mono ?_
  rintro e w16 ⟨v16, rfl, o16, t16⟩
  obtain ⟨b16, r16, _⟩ := (show OwnA _ w16 v16 _ from o16).rd
  clear o16
  have r14 := r14.touch t16 (by simp)
  have hS2 := hS.trans t16 (by simp)
  refine hK.out _ _ hS2 (fun _ => ?_)
  clear hK K hS t16
  have hS := hS2
  clear hS2
  try simp only [Act.put, List.setIfInBounds_toArray, List.set_cons_zero, List.set_cons_succ]
  refine wpAnyH_ready (rs := [17]) (by kernel_rfl) (by simp) ?_
  refine AllReadyH.cons (o := { dst := some 27, op := Op.call { callee := Callee.value (Operand.func 14), args := #[Operand.tmp 24, Operand.tmp 26], argTypes := #[22, 22] }, type := 4, pos := "law.go:23", after := #[{ on := 14, ground := Ground.data }, { on := 16, ground := Ground.data }, { on := 16, ground := Ground.chain }, { on := 12, ground := Ground.guard }], guard := some (12, true) }) rfl (fun K hK => ?_) AllReadyH.nil
  go_simp
  refine (equalT _ _ b14 b16 _ _ r14 r16).mono ?_
  rintro e w17 ⟨rfl, t17⟩
  have hS2 := hS.trans t17 (by simp)
  refine hK.out _ _ hS2 (fun _ => ?_)
  clear hK K hS t17
  have hS := hS2
  clear hS2
  try simp only [Act.put, List.setIfInBounds_toArray, List.set_cons_zero, List.set_cons_succ]
  refine wpAnyH_take (i := 18) (oi := { dst := some 28, op := Op.pick (Operand.tmp 22) (Operand.tmp 27) (Operand.const (Value.bool false)), type := 4, pos := "law.go:23", after := #[{ on := 12, ground := Ground.data }, { on := 17, ground := Ground.data }], guard := none }) (v := .bool true) rfl (by kernel_rfl) (by kernel_rfl) (by kernel_rfl) (fun _ _ _ h => h) (Or.inl ⟨by rfl, fun w' hw => by go_simp⟩) hS ?_
  try simp only [Act.put, List.setIfInBounds_toArray, List.set_cons_zero, List.set_cons_succ]
  refine wpAnyH_take (i := 19) (oi := { dst := some 29, op := Op.move (Operand.tmp 28), type := 4, pos := "law.go:23", after := #[{ on := 18, ground := Ground.data }, { on := 17, ground := Ground.chain }], guard := none }) (v := .bool true) rfl (by kernel_rfl) (by kernel_rfl) (by kernel_rfl) (fun _ _ _ h => h) (Or.inl ⟨by rfl, fun w' hw => by go_simp⟩) hS ?_
  try simp only [Act.put, List.setIfInBounds_toArray, List.set_cons_zero, List.set_cons_succ]
  refine wpAnyH_take (i := 20) (oi := { dst := some 30, op := Op.move (Operand.tmp 4), type := 22, pos := "law.go:23", after := #[{ on := 19, ground := Ground.guard }], guard := some (19, true) }) (v := vx) rfl (by kernel_rfl) (by kernel_rfl) (by kernel_rfl) (fun _ _ _ h => h) (Or.inl ⟨by rfl, fun w' hw => by go_simp⟩) hS ?_
  try simp only [Act.put, List.setIfInBounds_toArray, List.set_cons_zero, List.set_cons_succ]
  refine wpAnyH_take (i := 22) (oi := { dst := some 32, op := Op.move (Operand.tmp 4), type := 22, pos := "law.go:23", after := #[{ on := 19, ground := Ground.guard }], guard := some (19, true) }) (v := vx) rfl (by kernel_rfl) (by kernel_rfl) (by kernel_rfl) (fun _ _ _ h => h) (Or.inl ⟨by rfl, fun w' hw => by go_simp⟩) hS ?_
  try simp only [Act.put, List.setIfInBounds_toArray, List.set_cons_zero, List.set_cons_succ]
  refine wpAnyH_ready (rs := [21]) (by kernel_rfl) (by simp) ?_
  refine AllReadyH.cons (o := { dst := some 31, op := Op.call { callee := Callee.value (Operand.func 17), args := #[Operand.tmp 30], argTypes := #[22] }, type := 22, pos := "law.go:23", after := #[{ on := 20, ground := Ground.data }, { on := 19, ground := Ground.chain }, { on := 19, ground := Ground.guard }], guard := some (19, true) }) rfl (fun K hK => ?_) AllReadyH.nil
  go_simp
  refine (dedup_any _ bx l2 _ (HRX2.out.touch hS (by simp)) HL2.out).mono ?_
  rintro e w21 ⟨v21, rfl, o21, t21⟩
  obtain ⟨b21, r21, _⟩ := (show OwnA _ w21 v21 _ from o21).rd
  clear o21
  have hS2 := hS.trans t21 (by simp)
  refine hK.out _ _ hS2 (fun _ => ?_)
  clear hK K hS t21
  have hS := hS2
  clear hS2
  try simp only [Act.put, List.setIfInBounds_toArray, List.set_cons_zero, List.set_cons_succ]
  refine wpAnyH_ready (rs := [23]) (by kernel_rfl) (by simp) ?_
  refine AllReadyH.cons (o := { dst := some 33, op := Op.call { callee := Callee.value (Operand.func 18), args := #[Operand.tmp 32], argTypes := #[22] }, type := 22, pos := "law.go:23", after := #[{ on := 22, ground := Ground.data }, { on := 21, ground := Ground.chain }, { on := 19, ground := Ground.guard }], guard := some (19, true) }) rfl (fun K hK => ?_) AllReadyH.nil
  go_simp
  refine (rdedup_any _ bx l2 _ (HRX2.out.touch hS (by simp)) HL2.out).mono ?_
  rintro e w23 ⟨v23, rfl, o23, t23⟩
  obtain ⟨b23, r23, _⟩ := (show OwnA _ w23 v23 _ from o23).rd
  clear o23
  have r21 := r21.touch t23 (by simp)
  have hS2 := hS.trans t23 (by simp)
  refine hK.out _ _ hS2 (fun _ => ?_)
  clear hK K hS t23
  have hS := hS2
  clear hS2
  try simp only [Act.put, List.setIfInBounds_toArray, List.set_cons_zero, List.set_cons_succ]
  refine wpAnyH_ready (rs := [24]) (by kernel_rfl) (by simp) ?_
  refine AllReadyH.cons (o := { dst := some 34, op := Op.call { callee := Callee.value (Operand.func 14), args := #[Operand.tmp 31, Operand.tmp 33], argTypes := #[22, 22] }, type := 4, pos := "law.go:23", after := #[{ on := 21, ground := Ground.data }, { on := 23, ground := Ground.data }, { on := 23, ground := Ground.chain }, { on := 19, ground := Ground.guard }], guard := some (19, true) }) rfl (fun K hK => ?_) AllReadyH.nil
  go_simp
  refine (equalT _ _ b21 b23 _ _ r21 r23).mono ?_
  rintro e w24 ⟨rfl, t24⟩
  have hS2 := hS.trans t24 (by simp)
  refine hK.out _ _ hS2 (fun _ => ?_)
  clear hK K hS t24
  have hS := hS2
  clear hS2
  try simp only [Act.put, List.setIfInBounds_toArray, List.set_cons_zero, List.set_cons_succ]
  refine wpAnyH_take (i := 25) (oi := { dst := some 35, op := Op.pick (Operand.tmp 29) (Operand.tmp 34) (Operand.const (Value.bool false)), type := 4, pos := "law.go:23", after := #[{ on := 19, ground := Ground.data }, { on := 24, ground := Ground.data }], guard := none }) (v := .bool true) rfl (by kernel_rfl) (by kernel_rfl) (by kernel_rfl) (fun _ _ _ h => h) (Or.inl ⟨by rfl, fun w' hw => by go_simp⟩) hS ?_
  try simp only [Act.put, List.setIfInBounds_toArray, List.set_cons_zero, List.set_cons_succ]
  refine wpAnyH_take (i := 26) (oi := { dst := some 36, op := Op.move (Operand.tmp 35), type := 4, pos := "law.go:23", after := #[{ on := 25, ground := Ground.data }, { on := 24, ground := Ground.chain }], guard := none }) (v := .bool true) rfl (by kernel_rfl) (by kernel_rfl) (by kernel_rfl) (fun _ _ _ h => h) (Or.inl ⟨by rfl, fun w' hw => by go_simp⟩) hS ?_
  try simp only [Act.put, List.setIfInBounds_toArray, List.set_cons_zero, List.set_cons_succ]
  refine wpAnyH_take (i := 27) (oi := { dst := some 37, op := Op.move (Operand.tmp 0), type := 22, pos := "law.go:23", after := #[{ on := 26, ground := Ground.guard }], guard := some (26, true) }) (v := .slice a n cap) rfl (by kernel_rfl) (by kernel_rfl) (by kernel_rfl) (fun _ _ _ h => h) (Or.inl ⟨by rfl, fun w' hw => by go_simp⟩) hS ?_
  try simp only [Act.put, List.setIfInBounds_toArray, List.set_cons_zero, List.set_cons_succ]
  refine wpAnyH_take (i := 29) (oi := { dst := some 39, op := Op.move (Operand.tmp 0), type := 22, pos := "law.go:23", after := #[{ on := 26, ground := Ground.guard }], guard := some (26, true) }) (v := .slice a n cap) rfl (by kernel_rfl) (by kernel_rfl) (by kernel_rfl) (fun _ _ _ h => h) (Or.inl ⟨by rfl, fun w' hw => by go_simp⟩) hS ?_
  try simp only [Act.put, List.setIfInBounds_toArray, List.set_cons_zero, List.set_cons_succ]
  refine wpAnyH_ready (rs := [28]) (by kernel_rfl) (by simp) ?_
  refine AllReadyH.cons (o := { dst := some 38, op := Op.call { callee := Callee.value (Operand.func 17), args := #[Operand.tmp 37], argTypes := #[22] }, type := 22, pos := "law.go:23", after := #[{ on := 27, ground := Ground.data }, { on := 26, ground := Ground.chain }, { on := 26, ground := Ground.guard }], guard := some (26, true) }) rfl (fun K hK => ?_) AllReadyH.nil
  go_simp
  refine (dedup_any _ b l _ (HRL.out.touch hS (by simp)) HL1.out).mono ?_
  rintro e w28 ⟨v28, rfl, o28, t28⟩
  obtain ⟨b28, r28, _⟩ := (show OwnA _ w28 v28 _ from o28).rd
  clear o28
  have hS2 := hS.trans t28 (by simp)
  refine hK.out _ _ hS2 (fun _ => ?_)
  clear hK K hS t28
  have hS := hS2
  clear hS2
  try simp only [Act.put, List.setIfInBounds_toArray, List.set_cons_zero, List.set_cons_succ]
  refine wpAnyH_ready (rs := [30]) (by kernel_rfl) (by simp) ?_
  refine AllReadyH.cons (o := { dst := some 40, op := Op.call { callee := Callee.value (Operand.func 18), args := #[Operand.tmp 39], argTypes := #[22] }, type := 22, pos := "law.go:23", after := #[{ on := 29, ground := Ground.data }, { on := 28, ground := Ground.chain }, { on := 26, ground := Ground.guard }], guard := some (26, true) }) rfl (fun K hK => ?_) AllReadyH.nil
  go_simp
  refine (rdedup_any _ b l _ (HRL.out.touch hS (by simp)) HL1.out).mono ?_
  rintro e w30 ⟨v30, rfl, o30, t30⟩
  obtain ⟨b30, r30, _⟩ := (show OwnA _ w30 v30 _ from o30).rd
  clear o30
  have r28 := r28.touch t30 (by simp)
  have hS2 := hS.trans t30 (by simp)
  refine hK.out _ _ hS2 (fun _ => ?_)
  clear hK K hS t30
  have hS := hS2
  clear hS2
  try simp only [Act.put, List.setIfInBounds_toArray, List.set_cons_zero, List.set_cons_succ]
  refine wpAnyH_ready (rs := [31]) (by kernel_rfl) (by simp) ?_
  refine AllReadyH.cons (o := { dst := some 41, op := Op.call { callee := Callee.value (Operand.func 14), args := #[Operand.tmp 38, Operand.tmp 40], argTypes := #[22, 22] }, type := 4, pos := "law.go:23", after := #[{ on := 28, ground := Ground.data }, { on := 30, ground := Ground.data }, { on := 30, ground := Ground.chain }, { on := 26, ground := Ground.guard }], guard := some (26, true) }) rfl (fun K hK => ?_) AllReadyH.nil
  go_simp
  refine (equalT _ _ b28 b30 _ _ r28 r30).mono ?_
  rintro e w31 ⟨rfl, t31⟩
  have hS2 := hS.trans t31 (by simp)
  refine hK.out _ _ hS2 (fun _ => ?_)
  clear hK K hS t31
  have hS := hS2
  clear hS2
  try simp only [Act.put, List.setIfInBounds_toArray, List.set_cons_zero, List.set_cons_succ]
  refine wpAnyH_take (i := 32) (oi := { dst := some 42, op := Op.pick (Operand.tmp 36) (Operand.tmp 41) (Operand.const (Value.bool false)), type := 4, pos := "law.go:23", after := #[{ on := 26, ground := Ground.data }, { on := 31, ground := Ground.data }], guard := none }) (v := .bool true) rfl (by kernel_rfl) (by kernel_rfl) (by kernel_rfl) (fun _ _ _ h => h) (Or.inl ⟨by rfl, fun w' hw => by go_simp⟩) hS ?_
  try simp only [Act.put, List.setIfInBounds_toArray, List.set_cons_zero, List.set_cons_succ]
  refine wpAnyH_take (i := 33) (oi := { dst := some 2, op := Op.assign (Operand.tmp 42), type := 4, pos := "law.go:23", after := #[{ on := 32, ground := Ground.data }, { on := 31, ground := Ground.chain }, { on := 0, ground := Ground.phase }, { on := 1, ground := Ground.phase }, { on := 2, ground := Ground.phase }, { on := 3, ground := Ground.phase }, { on := 4, ground := Ground.phase }, { on := 5, ground := Ground.phase }, { on := 6, ground := Ground.phase }, { on := 7, ground := Ground.phase }, { on := 8, ground := Ground.phase }, { on := 9, ground := Ground.phase }, { on := 10, ground := Ground.phase }, { on := 11, ground := Ground.phase }, { on := 12, ground := Ground.phase }, { on := 13, ground := Ground.phase }, { on := 14, ground := Ground.phase }, { on := 15, ground := Ground.phase }, { on := 16, ground := Ground.phase }, { on := 17, ground := Ground.phase }, { on := 18, ground := Ground.phase }, { on := 19, ground := Ground.phase }, { on := 20, ground := Ground.phase }, { on := 21, ground := Ground.phase }, { on := 22, ground := Ground.phase }, { on := 23, ground := Ground.phase }, { on := 24, ground := Ground.phase }, { on := 25, ground := Ground.phase }, { on := 26, ground := Ground.phase }, { on := 27, ground := Ground.phase }, { on := 28, ground := Ground.phase }, { on := 29, ground := Ground.phase }, { on := 30, ground := Ground.phase }, { on := 31, ground := Ground.phase }, { on := 32, ground := Ground.phase }], guard := none }) (v := .bool true) rfl (by kernel_rfl) (by kernel_rfl) (by kernel_rfl) (fun _ _ _ h => h) (Or.inl ⟨by rfl, fun w' hw => by go_simp⟩) hS ?_
  try simp only [Act.put, List.setIfInBounds_toArray, List.set_cons_zero, List.set_cons_succ]
  refine wpAnyH_done (by kernel_rfl) ?_ _
  try simp only [Act.put, List.setIfInBounds_toArray, List.set_cons_zero, List.set_cons_succ]
  have HT2 := Lib.hid (HTd.out.trans hS (by simp))
  clear hS HTd
  go_wp2_with fail
  go_ret
  exact ⟨rfl, HT2.out⟩
theorem walk {H : Type} {enc : TypeId × Value → H} {w : World} (v : Value) (hv : IsSlice enc Tryd.prog w 0 (fun _ => true) true [4, 5, 5, 5, 5, 5, 5, 5, 5, 5, 5, 5, 5, 5, 5, 5, 5] v) (hz : ∀ a len cap, v = .slice a len cap → len * 17 ≤ 140737488351232) :
    Calls Tryd.prog 3 #[v] w fun e w' => e = .returned (.bool true) ∧ Below w.heap.size w w' := by
  obtain ⟨b, xs, hr, hx⟩ := slice_rows (by simp) hv
  obtain ⟨l, rfl⟩ := ads_of (fun x h => isAd_cells (hx x h))
  obtain ⟨a, cap, hvv, _, _⟩ := hr.form
  have hl : l.length * 17 ≤ 140737488351232 := by
    have := hz _ _ _ hvv
    rwa [List.length_map] at this
  exact (walk0 v b l w hr hl).mono fun e w' ⟨h1, h2⟩ => ⟨h1, h2.below (by simp) (Nat.le_refl _)⟩
end Go.Proofs.YtiklhaajhdephaaDoor.addrsortMatchesModel

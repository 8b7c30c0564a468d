/-
  Merged texts: Rk, Vp, Me.
-/
import Derived.Test.YtmdnkhpkpmbeoaaV3

/-
  The reference's contains, appendTo, remove.
-/
namespace Go.Proofs.Ytmdnkhpkpmbeoaa
open Go.RowKit
set_option linter.unusedVariables false
set_option linter.unusedSimpArgs false

theorem Rd.atE {w : World} {b n cap : Nat} {a : Option Addr} {l : List Key} (h : Rd w 2 b (.slice a n cap) (rE l)) {i : Nat} {o : Key} (hi : l[i]? = some o) :
    ∃ off, a = some ⟨b, off, none⟩ ∧ w.rangeAt b (off + i * 2) (encE o) := by
  obtain ⟨off, ha, hat⟩ := h.at (by intro e; rw [rE, List.map_eq_nil_iff] at e; subst e; simp at hi)
  exact ⟨off, ha, hat i (encE o) (by simp [rE, hi])⟩
theorem E.cells {w : World} {g f : Nat} {k : Key} (h : w.rangeAt g f (encE k)) : w.cell? ⟨g, f, none⟩ = some (.int .i64 k.1) ∧ w.cell? ⟨g, f + 1, none⟩ = some (.int .i64 k.2) := ⟨by simpa using h 0 _ rfl, h 1 _ rfl⟩
theorem mem_take_next {l : List Key} {i : Nat} {k x : Key} (h : l[i]? = some k) : decide (x ∈ l.take (i + 1)) = (decide (x ∈ l.take i) || decide (k = x)) := by
  rw [take_next h]
  by_cases h1 : k = x
  · simp [h1]
  · have : ¬ x = k := fun e => h1 e.symm
    simp [h1, this]
/-- The list without x or, if all is true, without all of x's connection. -/
def remK (ks : List Key) (x : Key) (all : Bool) : List Key := ks.filter fun k => decide (k ≠ x ∧ ¬ (all = true ∧ k.1 = x.1))
theorem remK_next {l : List Key} {i : Nat} {k : Key} (x : Key) (all : Bool) (h : l[i]? = some k) : remK (l.take (i + 1)) x all = if k ≠ x ∧ ¬ (all = true ∧ k.1 = x.1) then remK (l.take i) x all ++ [k] else remK (l.take i) x all := by
  rw [take_next h]
  unfold remK
  rw [List.filter_append]
  split
  · rename_i h1
    rw [List.filter_cons_of_pos (by simpa only [decide_eq_true_eq] using h1)]
    rfl
  · rename_i h1
    rw [List.filter_cons_of_neg (by simpa only [decide_eq_true_eq] using h1)]
    simp
theorem remK_len (ks : List Key) (x : Key) (all : Bool) : (remK ks x all).length ≤ ks.length := List.length_filter_le _ _
theorem remK_take (ks : List Key) (i : Nat) (x : Key) (all : Bool) : (remK (ks.take i) x all).length ≤ ks.length := by
  have := remK_len (ks.take i) x all
  simp at this
  omega
set_option maxRecDepth 100000 in
set_option maxHeartbeats 4000000 in
theorem contains_any (v : Value) (b : Nat) (ks : List Key) (x : Key) (hx : okK x) (w : World) (hr : Rd w 2 b v (rE ks)) (hok : ∀ k ∈ ks, okK k) (hl : ks.length ≤ 10000000) :
    Calls Try.prog 46 #[v, .agg (encE x).toArray] w fun e w' => e = .returned (.bool (decide (x ∈ ks))) ∧ Touch [] w w' := by
  obtain ⟨a, cap, rfl, hc, hcm⟩ := hr.form
  rw [rE_len] at hc hr ⊢
  clear hcm
  have T0 := Lib.hid ((Touch.refl [] w).alloc (.cells (encE x).toArray 30))
  have HG := Lib.hid (heap_alloc_new w (.cells (encE x).toArray 30))
  go_enter Try.func46, Try.ntmps46
  go_wp2_with fail
  obtain ⟨w1, hw1⟩ : ∃ w1, w1 = w.alloc (.cells (encE x).toArray 30) := ⟨_, rfl⟩
  rw [← hw1] at T0 HG ⊢
  clear hw1
  obtain ⟨gX, hgX⟩ : ∃ gX, gX = w.heap.size := ⟨_, rfl⟩
  rw [← hgX] at HG ⊢
  clear hgX
  go_loopw [5] (fun vi wr => ∃ (i : Nat), vi = .int .i64 i ∧ i ≤ ks.length ∧ decide (x ∈ ks.take i) = false ∧ Touch [] w1 wr) (fun vi _ => ks.length - (intOf vi).toNat)
  case atStart => exact ⟨0, rfl, by omega, by simp, Touch.refl _ _⟩
  case round =>
    obtain ⟨i, rfl, hil, hno, ht⟩ := hrel
    have HN := Lib.hid hno
    have HT := Lib.hid ht
    clear hno ht
    by_cases hlt : i < ks.length
    · have hb1 : (i : Int) < (ks.length : Int) := by omega
      have hx2 := List.getElem?_eq_getElem hlt
      have hk := hok _ (List.getElem_mem hlt)
      generalize ks[i] = k at hx2 hk
      have HQ := Lib.hid (fun w => eqE hk hx w)
      obtain ⟨off, rfl, rI⟩ := hr.atE hx2
      have RI := Lib.hid ((T0.out.trans HT.out (by simp)).drew.range rI (by simp))
      have HX := Lib.hid (mem_take_next (x := x) hx2)
      have HM := Lib.hid (List.mem_of_getElem? hx2)
      have hwi : IntKind.i64.wrap ((i : Int) + 1) = (i : Int) + 1 := by rw [IntKind.wrap_i64] <;> omega
      clear hx2 hk rI
      go_wp2_with fail
      have RX := Lib.hid (range_block (HT.out.drew.at HG.out (by simp)))
      have TW := Lib.hid HT.out.drew
      refine wp_region_held (S := Touch [] wr.drew) (by kernel_rfl) ?_
      change wpAnyH _ _ _ _ _ _ _ _ wr.drew
      generalize wr.drew = W at *
      have hS := Touch.refl [] W
      refine wpAnyH_take (i := 0) (oi := { dst := some 12, op := Op.move (Operand.tmp 0), type := 27, pos := "trace.go:13", after := #[], guard := none }) (v := .slice (some ⟨b, off, none⟩) ks.length cap) rfl (by kernel_rfl) (by kernel_rfl) (by kernel_rfl) (fun _ _ _ h => h) (Or.inl ⟨by rfl, fun w' hw => by go_simp⟩) hS ?_
      try simp only [Act.put, List.setIfInBounds_toArray, List.set_cons_zero, List.set_cons_succ]
      refine wpAnyH_take (i := 1) (oi := { dst := some 13, op := Op.move (Operand.tmp 5), type := 3, pos := "trace.go:13", after := #[], guard := none }) (v := .int .i64 i) rfl (by kernel_rfl) (by kernel_rfl) (by kernel_rfl) (fun _ _ _ h => h) (Or.inl ⟨by rfl, fun w' hw => by go_simp⟩) hS ?_
      try simp only [Act.put, List.setIfInBounds_toArray, List.set_cons_zero, List.set_cons_succ]
      refine wpAnyH_take (i := 2) (oi := { dst := some 14, op := Op.indexAddr 27 (Operand.tmp 12) (Operand.tmp 13), type := 0, pos := "trace.go:13", after := #[{ on := 0, ground := Ground.data }, { on := 1, ground := Ground.data }], guard := none }) (v := .pointer (some ⟨b, off + i * 2, none⟩)) rfl (by kernel_rfl) (by kernel_rfl) (by kernel_rfl) (fun _ _ _ h => h) (Or.inl ⟨by rfl, fun w' hw => by go_simp⟩) hS ?_
      try simp only [Act.put, List.setIfInBounds_toArray, List.set_cons_zero, List.set_cons_succ]
      refine wpAnyH_take (i := 3) (oi := { dst := some 15, op := Op.load 30 (Operand.tmp 14), type := 30, pos := "trace.go:13", after := #[{ on := 2, ground := Ground.data }], guard := none }) (v := .agg (encE k).toArray) rfl (by kernel_rfl) (by kernel_rfl) (by kernel_rfl) (fun _ _ _ h => h) (Or.inl ⟨by rfl, fun w' hw => exec_load_agg _ 30 _ rfl _ _ rfl (encE k) _ (hw.range RI.out (by simp)) Try.underlying30 rfl (by rw [infoE]; rfl)⟩) hS ?_
      try simp only [Act.put, List.setIfInBounds_toArray, List.set_cons_zero, List.set_cons_succ]
      refine wpAnyH_take (i := 4) (oi := { dst := some 16, op := Op.load 30 (Operand.tmp 3), type := 30, pos := "trace.go:13", after := #[], guard := none }) (v := .agg (encE x).toArray) rfl (by kernel_rfl) (by kernel_rfl) (by kernel_rfl) (fun _ _ _ h => h) (Or.inl ⟨by rfl, fun w' hw => exec_load_agg _ 30 _ rfl _ _ rfl (encE x) _ (hw.range RX.out (by simp)) Try.underlying30 rfl (by rw [infoE]; rfl)⟩) hS ?_
      try simp only [Act.put, List.setIfInBounds_toArray, List.set_cons_zero, List.set_cons_succ]
      refine wpAnyH_take (i := 5) (oi := { dst := some 17, op := Op.binOp BinOp.eql 30 (Operand.tmp 15) (Operand.tmp 16) 30, type := 4, pos := "trace.go:13", after := #[{ on := 3, ground := Ground.data }, { on := 4, ground := Ground.data }], guard := none }) (v := .bool (decide (k = x))) rfl (by kernel_rfl) (by kernel_rfl) (by kernel_rfl) (fun _ _ _ h => h) (Or.inl ⟨by rfl, fun w' hw => exec_eql_agg _ 30 _ _ _ rfl (encE k).toArray (encE x).toArray rfl rfl gE _ (HQ.out w')⟩) hS ?_
      try simp only [Act.put, List.setIfInBounds_toArray, List.set_cons_zero, List.set_cons_succ]
      refine wpAnyH_done (by kernel_rfl) ?_ _
      try simp only [Act.put, List.setIfInBounds_toArray, List.set_cons_zero, List.set_cons_succ]
      clear hS
      cases hd : decide (k = x) with
      | true =>
        have HE := Lib.hid (show decide (x ∈ ks) = true from decide_eq_true (by have := of_decide_eq_true hd; rw [← this]; exact HM.out))
        clear hd
        go_wp2_with fail
        go_ret
        exact ⟨by rw [HE.out]; rfl, T0.out.trans TW.out (by simp)⟩
      | false =>
        have HE := Lib.hid (show decide (x ∈ ks.take (i + 1)) = false by rw [HX.out, HN.out, hd]; rfl)
        clear hd
        go_wp2_with fail
        go_roundw
        case rel => exact ⟨i + 1, by simp, by omega, HE.out, TW.out⟩
        case measure => simp [intOf]; omega
    · have hb1 : ¬ (i : Int) < (ks.length : Int) := by omega
      have HE := Lib.hid (show decide (x ∈ ks) = false by
        have := HN.out
        rwa [List.take_of_length_le (by omega)] at this)
      go_wp2_with fail
      go_ret
      exact ⟨by rw [HE.out]; rfl, T0.out.trans HT.out (by simp)⟩
theorem Rd.one {w : World} {g k T : Nat} {cs : List Value} (h : w.heap[g]? = some (.cells cs.toArray T (0, 0))) (hl : cs.length = k) : Rd w k g (.slice (some ⟨g, 0, none⟩) 1 1) [cs] :=
  ⟨some ⟨g, 0, none⟩, 1, rfl, by simp, by simp [maxLen], by simp, fun _ => ⟨0, rfl, fun i x hi => by
    cases i with
    | zero =>
      simp at hi
      subst hi
      simpa using range_block h
    | succ i => simp at hi⟩⟩
set_option maxRecDepth 100000 in
set_option maxHeartbeats 4000000 in
theorem appendTo_any (v : Value) (b : Nat) (ks : List Key) (x : Key) (w : World) (hr : Rd w 2 b v (rE ks)) (hl : ks.length ≤ 10000000) :
    Calls Try.prog 47 #[v, .agg (encE x).toArray] w fun e w' => ∃ v', e = .returned v' ∧ OwnR 30 2 w w' v' (rE (ks ++ [x])) ∧ Touch [] w w' := by
  obtain ⟨a, cap, rfl, hc, hcm⟩ := hr.form
  clear hc hcm
  have T0 := Lib.hid ((Touch.refl [] w).alloc (.cells (encE x).toArray 30))
  have HG := Lib.hid (heap_alloc_new w (.cells (encE x).toArray 30))
  have HF := Lib.hid (show ([] : List (List Value)).length + (rE ks).length ≤ 100000000 by rw [rE_len]; simp; omega)
  go_enter Try.func47, Try.ntmps47
  go_wp2_with fail
  have TW := Lib.hid T0.out.drew
  have HR := Lib.hid (hr.touch T0.out.drew (by simp))
  have RX := Lib.hid (range_block (((Touch.refl [] _).drew).at HG.out (by simp)))
  refine wp_region_held (S := Touch [] (w.alloc (.cells (encE x).toArray 30)).drew) (by kernel_rfl) ?_
  change wpAnyH _ _ _ _ _ _ _ _ (w.alloc (.cells (encE x).toArray 30)).drew
  generalize hgX : w.heap.size = gX at *
  generalize (w.alloc (.cells (encE x).toArray 30)).drew = W at *
  clear hr HG T0 hgX
  have hS := Touch.refl [] W
  refine wpAnyH_take (i := 0) (oi := { dst := some 5, op := Op.move (Operand.tmp 0), type := 27, pos := "trace.go:22", after := #[], guard := none }) (v := .slice a (rE ks).length cap) rfl (by kernel_rfl) (by kernel_rfl) (by kernel_rfl) (fun _ _ _ h => h) (Or.inl ⟨by rfl, fun w' hw => by go_simp⟩) hS ?_
  try simp only [Act.put, List.setIfInBounds_toArray, List.set_cons_zero, List.set_cons_succ]
  refine wpAnyH_take (i := 2) (oi := { dst := some 7, op := Op.load 30 (Operand.tmp 3), type := 30, pos := "trace.go:22", after := #[], guard := none }) (v := .agg (encE x).toArray) rfl (by kernel_rfl) (by kernel_rfl) (by kernel_rfl) (fun _ _ _ h => h) (Or.inl ⟨by rfl, fun w' hw => exec_load_agg _ 30 _ rfl _ _ rfl (encE x) _ (hw.range RX.out (by simp)) Try.underlying30 rfl (by rw [infoE]; rfl)⟩) hS ?_
  try simp only [Act.put, List.setIfInBounds_toArray, List.set_cons_zero, List.set_cons_succ]
  refine wpAnyH_ready (rs := [1, 3]) (by kernel_rfl) (by simp) ?_
  refine AllReadyH.cons (o := { dst := some 6, op := Op.call { callee := Callee.builtin Builtin.append, args := #[Operand.const (Value.slice none 0 0), Operand.tmp 5], argTypes := #[27, 27] }, type := 27, pos := "trace.go:22", after := #[{ on := 0, ground := Ground.data }], guard := none }) rfl (fun K hK => ?_) (AllReadyH.cons (o := { dst := some 8, op := Op.buildSlice 27 1 #[(0, Operand.tmp 7)], type := 27, pos := "trace.go:22", after := #[{ on := 2, ground := Ground.data }], guard := none }) rfl (fun K hK => ?_) AllReadyH.nil)
  · refine step_of_list rfl ?_
    refine wpList_appR rtE W rfl _ _ (by rfl) (.slice none 0 0) [] rfl (OwnR.nil 30 2 W _) (Nat.le_refl _) b (.slice a (rE ks).length cap) (rE ks) rfl HR.out (encE_lens ks) (encE_ones ks) HF.out ?_
    intro v2 w2 o2 t2
    have hS2 := hS.trans t2 (by simp [Value.ownBlock])
    refine ⟨rfl, hK.out _ _ hS2 (fun _ => ?_)⟩
    clear hK K hS
    have hS := hS2
    clear hS2
    have HO2 := Lib.hid o2
    have HT2 := Lib.hid (show Touch [] _ w2 from t2)
    try simp only [Act.put, List.setIfInBounds_toArray, List.set_cons_zero, List.set_cons_succ]
    refine wpAnyH_ready (rs := [3]) (by kernel_rfl) (by simp) ?_
    refine AllReadyH.cons (o := { dst := some 8, op := Op.buildSlice 27 1 #[(0, Operand.tmp 7)], type := 27, pos := "trace.go:22", after := #[{ on := 2, ground := Ground.data }], guard := none }) rfl (fun K hK => ?_) AllReadyH.nil
    refine step_of_list rfl ?_
    refine wpList_build1 rtE rfl _ rfl (encE x) rfl rfl ?_
    have hS2 := hS.alloc (.cells (encE x).toArray 30)
    refine ⟨rfl, hK.out _ _ hS2 (fun _ => ?_)⟩
    clear hK K hS
    have hS := hS2
    clear hS2
    have HB2 := Lib.hid (heap_alloc_new w2 (.cells (encE x).toArray 30))
    have HO2 := Lib.hid (HO2.out.touch0 ((Touch.refl [] w2).alloc (.cells (encE x).toArray 30)))
    try simp only [Act.put, List.setIfInBounds_toArray, List.set_cons_zero, List.set_cons_succ]
    refine wpAnyH_ready (rs := [4]) (by kernel_rfl) (by simp) ?_
    refine AllReadyH.cons (o := { dst := some 9, op := Op.call { callee := Callee.builtin Builtin.append, args := #[Operand.tmp 6, Operand.tmp 8], argTypes := #[27, 27] }, type := 27, pos := "trace.go:22", after := #[{ on := 1, ground := Ground.data }, { on := 3, ground := Ground.data }, { on := 1, ground := Ground.chain }], guard := none }) rfl (fun K hK => ?_) AllReadyH.nil
    refine step_of_list rfl ?_
    refine wpList_appR rtE _ rfl _ _ (by rfl) v2 ([] ++ rE ks) rfl HO2.out hS.size _ (.slice (some ⟨w2.heap.size, 0, none⟩) 1 1) [encE x] rfl (Rd.one HB2.out rfl) (by simp [encE]) (encE_ones [x]) (by simp [rE_len]; omega) ?_
    intro v3 w3 o3 t3
    have hS3 := hS.trans t3 (by intro y hy; right; exact HO2.out.new y (by simpa using hy))
    refine ⟨rfl, hK.out _ _ hS3 (fun _ => ?_)⟩
    clear hK K hS
    have hS := hS3
    clear hS3
    try simp only [Act.put, List.setIfInBounds_toArray, List.set_cons_zero, List.set_cons_succ]
    refine wpAnyH_take (i := 5) (oi := { dst := some 4, op := Op.assign (Operand.tmp 9), type := 27, pos := "trace.go:22", after := #[{ on := 4, ground := Ground.data }, { on := 4, ground := Ground.chain }, { on := 0, ground := Ground.phase }, { on := 1, ground := Ground.phase }, { on := 2, ground := Ground.phase }, { on := 3, ground := Ground.phase }, { on := 4, ground := Ground.phase }], guard := none }) (v := v3) rfl (by kernel_rfl) (by kernel_rfl) (by kernel_rfl) (fun _ _ _ h => h) (Or.inl ⟨by rfl, fun w' hw => by go_simp⟩) hS ?_
    try simp only [Act.put, List.setIfInBounds_toArray, List.set_cons_zero, List.set_cons_succ]
    refine wpAnyH_done (by kernel_rfl) ?_ _
    try simp only [Act.put, List.setIfInBounds_toArray, List.set_cons_zero, List.set_cons_succ]
    have HO3 := Lib.hid o3
    have HT3 := Lib.hid hS
    clear hS o3
    go_wp2_with fail
    go_ret
    exact ⟨v3, rfl, by rw [rE_snoc]; exact (HO3.out.rebase TW.out.size), TW.out.trans HT3.out (by simp)⟩
  · refine step_of_list rfl ?_
    refine wpList_build1 rtE rfl _ rfl (encE x) rfl rfl ?_
    have hS2 := hS.alloc (.cells (encE x).toArray 30)
    refine ⟨rfl, hK.out _ _ hS2 (fun _ => ?_)⟩
    clear hK K hS
    have hS := hS2
    clear hS2
    have HB := Lib.hid (heap_alloc_new W (.cells (encE x).toArray 30))
    try simp only [Act.put, List.setIfInBounds_toArray, List.set_cons_zero, List.set_cons_succ]
    refine wpAnyH_ready (rs := [1]) (by kernel_rfl) (by simp) ?_
    refine AllReadyH.cons (o := { dst := some 6, op := Op.call { callee := Callee.builtin Builtin.append, args := #[Operand.const (Value.slice none 0 0), Operand.tmp 5], argTypes := #[27, 27] }, type := 27, pos := "trace.go:22", after := #[{ on := 0, ground := Ground.data }], guard := none }) rfl (fun K hK => ?_) AllReadyH.nil
    refine step_of_list rfl ?_
    refine wpList_appR rtE (W.alloc (.cells (encE x).toArray 30)) rfl _ _ (by rfl) (.slice none 0 0) [] rfl (OwnR.nil 30 2 W _) (by simp) b (.slice a (rE ks).length cap) (rE ks) rfl (HR.out.touch ((Touch.refl [] W).alloc _) (by simp)) (encE_lens ks) (encE_ones ks) HF.out ?_
    intro v2 w2 o2 t2
    have hS2 := hS.trans t2 (by simp [Value.ownBlock])
    refine ⟨rfl, hK.out _ _ hS2 (fun _ => ?_)⟩
    clear hK K hS
    have hS := hS2
    clear hS2
    have HO2 := Lib.hid o2
    have HT2 := Lib.hid (show Touch [] _ w2 from t2)
    have HB2 := Lib.hid (HT2.out.at HB.out (by simp))
    try simp only [Act.put, List.setIfInBounds_toArray, List.set_cons_zero, List.set_cons_succ]
    refine wpAnyH_ready (rs := [4]) (by kernel_rfl) (by simp) ?_
    refine AllReadyH.cons (o := { dst := some 9, op := Op.call { callee := Callee.builtin Builtin.append, args := #[Operand.tmp 6, Operand.tmp 8], argTypes := #[27, 27] }, type := 27, pos := "trace.go:22", after := #[{ on := 1, ground := Ground.data }, { on := 3, ground := Ground.data }, { on := 1, ground := Ground.chain }], guard := none }) rfl (fun K hK => ?_) AllReadyH.nil
    refine step_of_list rfl ?_
    refine wpList_appR rtE _ rfl _ _ (by rfl) v2 ([] ++ rE ks) rfl HO2.out hS.size _ (.slice (some ⟨W.heap.size, 0, none⟩) 1 1) [encE x] rfl (Rd.one HB2.out rfl) (by simp [encE]) (encE_ones [x]) (by simp [rE_len]; omega) ?_
    intro v3 w3 o3 t3
    have hS3 := hS.trans t3 (by intro y hy; right; exact HO2.out.new y (by simpa using hy))
    refine ⟨rfl, hK.out _ _ hS3 (fun _ => ?_)⟩
    clear hK K hS
    have hS := hS3
    clear hS3
    try simp only [Act.put, List.setIfInBounds_toArray, List.set_cons_zero, List.set_cons_succ]
    refine wpAnyH_take (i := 5) (oi := { dst := some 4, op := Op.assign (Operand.tmp 9), type := 27, pos := "trace.go:22", after := #[{ on := 4, ground := Ground.data }, { on := 4, ground := Ground.chain }, { on := 0, ground := Ground.phase }, { on := 1, ground := Ground.phase }, { on := 2, ground := Ground.phase }, { on := 3, ground := Ground.phase }, { on := 4, ground := Ground.phase }], guard := none }) (v := v3) rfl (by kernel_rfl) (by kernel_rfl) (by kernel_rfl) (fun _ _ _ h => h) (Or.inl ⟨by rfl, fun w' hw => by go_simp⟩) hS ?_
    try simp only [Act.put, List.setIfInBounds_toArray, List.set_cons_zero, List.set_cons_succ]
    refine wpAnyH_done (by kernel_rfl) ?_ _
    try simp only [Act.put, List.setIfInBounds_toArray, List.set_cons_zero, List.set_cons_succ]
    have HO3 := Lib.hid o3
    have HT3 := Lib.hid hS
    clear hS o3
    go_wp2_with fail
    go_ret
    exact ⟨v3, rfl, by rw [rE_snoc]; exact (HO3.out.rebase TW.out.size), TW.out.trans HT3.out (by simp)⟩
set_option maxRecDepth 100000 in
set_option maxHeartbeats 4000000 in
theorem remove_any (v : Value) (b : Nat) (ks : List Key) (x : Key) (all : Bool) (hx : okK x) (w : World) (hr : Rd w 2 b v (rE ks)) (hok : ∀ k ∈ ks, okK k) (hl : ks.length ≤ 10000000) :
    Calls Try.prog 48 #[v, .agg (encE x).toArray, .bool all] w fun e w' => ∃ v', e = .returned v' ∧ OwnR 30 2 w w' v' (rE (remK ks x all)) ∧ Touch [] w w' := by
  obtain ⟨a, cap, rfl, hc, hcm⟩ := hr.form
  rw [rE_len] at hc hr ⊢
  clear hcm
  have T0 := Lib.hid ((Touch.refl [] w).alloc (.cells (encE x).toArray 30))
  have HG := Lib.hid (heap_alloc_new w (.cells (encE x).toArray 30))
  go_enter Try.func48, Try.ntmps48
  go_wp2_with fail
  obtain ⟨w1, hw1⟩ : ∃ w1, w1 = w.alloc (.cells (encE x).toArray 30) := ⟨_, rfl⟩
  rw [← hw1] at T0 HG ⊢
  clear hw1
  obtain ⟨gX, hgX⟩ : ∃ gX, gX = w.heap.size := ⟨_, rfl⟩
  rw [← hgX] at HG ⊢
  clear hgX
  go_loopw [7, 8] (fun vo vi wr => ∃ (i : Nat), vi = .int .i64 i ∧ i ≤ ks.length ∧ OwnR 30 2 w1 wr vo (rE (remK (ks.take i) x all)) ∧ Touch [] w1 wr) (fun _ vi _ => ks.length - (intOf vi).toNat)
  case atStart => exact ⟨0, rfl, by omega, by simpa [remK, rE] using OwnR.nil 30 2 w1 w1, Touch.refl _ _⟩
  case round =>
    obtain ⟨i, rfl, hil, ho, ht⟩ := hrel
    have HO := Lib.hid ho
    have HT := Lib.hid ht
    clear ho ht
    by_cases hlt : i < ks.length
    · have hb1 : (i : Int) < (ks.length : Int) := by omega
      have hx2 := List.getElem?_eq_getElem hlt
      have hk := hok _ (List.getElem_mem hlt)
      generalize ks[i] = k at hx2 hk
      have HQ := Lib.hid (fun w => eqE hk hx w)
      obtain ⟨off, rfl, rI⟩ := hr.atE hx2
      have RI := Lib.hid ((T0.out.trans HT.out (by simp)).drew.range rI (by simp))
      have HX := Lib.hid (remK_next x all hx2)
      have HF := Lib.hid (show (rE (remK (ks.take i) x all)).length ≤ 100000000 by rw [rE_len]; have := remK_take ks i x all; omega)
      have hwi : IntKind.i64.wrap ((i : Int) + 1) = (i : Int) + 1 := by rw [IntKind.wrap_i64] <;> omega
      clear hx2 hk rI
      go_wp2_with fail
      have RX := Lib.hid (range_block (HT.out.drew.at HG.out (by simp)))
      have TW := Lib.hid HT.out.drew
      have HOW := Lib.hid (HO.out.touch0 ((Touch.refl [] wr).drew))
      refine wp_region_held (S := Touch [] wr.drew) (by kernel_rfl) ?_
      change wpAnyH _ _ _ _ _ _ _ _ wr.drew
      generalize wr.drew = W at *
      have hS := Touch.refl [] W
      obtain ⟨e0, _⟩ := E.cells RI.out
      obtain ⟨x0, _⟩ := E.cells RX.out
      cases hd : decide (k = x) with
      | true =>
        have HNX := Lib.hid (show remK (ks.take (i + 1)) x all = remK (ks.take i) x all by rw [HX.out, if_neg (by simp [of_decide_eq_true hd])])
        rw [hd] at HQ
        clear hd
        refine wpAnyH_take (i := 0) (oi := { dst := some 15, op := Op.move (Operand.tmp 0), type := 27, pos := "trace.go:29", after := #[], guard := none }) (v := .slice (some ⟨b, off, none⟩) ks.length cap) rfl (by kernel_rfl) (by kernel_rfl) (by kernel_rfl) (fun _ _ _ h => h) (Or.inl ⟨by rfl, fun w' hw => by go_simp⟩) hS ?_
        try simp only [Act.put, List.setIfInBounds_toArray, List.set_cons_zero, List.set_cons_succ]
        refine wpAnyH_take (i := 1) (oi := { dst := some 16, op := Op.move (Operand.tmp 8), type := 3, pos := "trace.go:29", after := #[], guard := none }) (v := .int .i64 i) rfl (by kernel_rfl) (by kernel_rfl) (by kernel_rfl) (fun _ _ _ h => h) (Or.inl ⟨by rfl, fun w' hw => by go_simp⟩) hS ?_
        try simp only [Act.put, List.setIfInBounds_toArray, List.set_cons_zero, List.set_cons_succ]
        refine wpAnyH_take (i := 2) (oi := { dst := some 17, op := Op.indexAddr 27 (Operand.tmp 15) (Operand.tmp 16), type := 0, pos := "trace.go:29", after := #[{ on := 0, ground := Ground.data }, { on := 1, ground := Ground.data }], guard := none }) (v := .pointer (some ⟨b, off + i * 2, none⟩)) rfl (by kernel_rfl) (by kernel_rfl) (by kernel_rfl) (fun _ _ _ h => h) (Or.inl ⟨by rfl, fun w' hw => by go_simp⟩) hS ?_
        try simp only [Act.put, List.setIfInBounds_toArray, List.set_cons_zero, List.set_cons_succ]
        refine wpAnyH_take (i := 3) (oi := { dst := some 18, op := Op.load 30 (Operand.tmp 17), type := 30, pos := "trace.go:29", after := #[{ on := 2, ground := Ground.data }], guard := none }) (v := .agg (encE k).toArray) rfl (by kernel_rfl) (by kernel_rfl) (by kernel_rfl) (fun _ _ _ h => h) (Or.inl ⟨by rfl, fun w' hw => exec_load_agg _ 30 _ rfl _ _ rfl (encE k) _ (hw.range RI.out (by simp)) Try.underlying30 rfl (by rw [infoE]; rfl)⟩) hS ?_
        try simp only [Act.put, List.setIfInBounds_toArray, List.set_cons_zero, List.set_cons_succ]
        refine wpAnyH_take (i := 4) (oi := { dst := some 19, op := Op.load 30 (Operand.tmp 4), type := 30, pos := "trace.go:29", after := #[], guard := none }) (v := .agg (encE x).toArray) rfl (by kernel_rfl) (by kernel_rfl) (by kernel_rfl) (fun _ _ _ h => h) (Or.inl ⟨by rfl, fun w' hw => exec_load_agg _ 30 _ rfl _ _ rfl (encE x) _ (hw.range RX.out (by simp)) Try.underlying30 rfl (by rw [infoE]; rfl)⟩) hS ?_
        try simp only [Act.put, List.setIfInBounds_toArray, List.set_cons_zero, List.set_cons_succ]
        refine wpAnyH_take (i := 5) (oi := { dst := some 20, op := Op.binOp BinOp.neq 30 (Operand.tmp 18) (Operand.tmp 19) 30, type := 4, pos := "trace.go:29", after := #[{ on := 3, ground := Ground.data }, { on := 4, ground := Ground.data }], guard := none }) (v := .bool false) rfl (by kernel_rfl) (by kernel_rfl) (by kernel_rfl) (fun _ _ _ h => h) (Or.inl ⟨by rfl, fun w' hw => exec_neq_agg _ 30 _ _ _ rfl (encE k).toArray (encE x).toArray rfl rfl gE _ (HQ.out w')⟩) hS ?_
        try simp only [Act.put, List.setIfInBounds_toArray, List.set_cons_zero, List.set_cons_succ]
        refine wpAnyH_take (i := 6) (oi := { dst := some 21, op := Op.move (Operand.tmp 20), type := 4, pos := "trace.go:29", after := #[{ on := 5, ground := Ground.data }], guard := none }) (v := .bool false) rfl (by kernel_rfl) (by kernel_rfl) (by kernel_rfl) (fun _ _ _ h => h) (Or.inl ⟨by rfl, fun w' hw => by go_simp⟩) hS ?_
        try simp only [Act.put, List.setIfInBounds_toArray, List.set_cons_zero, List.set_cons_succ]
        refine wpAnyH_take (i := 7) (oi := { dst := some 22, op := Op.move (Operand.tmp 2), type := 4, pos := "trace.go:29", after := #[{ on := 6, ground := Ground.guard }], guard := some (6, true) }) (v := undef) rfl (by kernel_rfl) (by kernel_rfl) (by kernel_rfl) (fun _ _ _ h => h) (Or.inr ⟨by rfl, rfl⟩) hS ?_
        try simp only [Act.put, List.setIfInBounds_toArray, List.set_cons_zero, List.set_cons_succ]
        refine wpAnyH_take (i := 8) (oi := { dst := some 23, op := Op.move (Operand.tmp 22), type := 4, pos := "trace.go:29", after := #[{ on := 7, ground := Ground.data }, { on := 6, ground := Ground.chain }, { on := 6, ground := Ground.guard }], guard := some (6, true) }) (v := undef) rfl (by kernel_rfl) (by kernel_rfl) (by kernel_rfl) (fun _ _ _ h => h) (Or.inr ⟨by rfl, rfl⟩) hS ?_
        try simp only [Act.put, List.setIfInBounds_toArray, List.set_cons_zero, List.set_cons_succ]
        refine wpAnyH_take (i := 9) (oi := { dst := some 24, op := Op.move (Operand.tmp 0), type := 27, pos := "trace.go:29", after := #[{ on := 8, ground := Ground.guard }], guard := some (8, true) }) (v := undef) rfl (by kernel_rfl) (by kernel_rfl) (by kernel_rfl) (fun _ _ _ h => h) (Or.inr ⟨by rfl, rfl⟩) hS ?_
        try simp only [Act.put, List.setIfInBounds_toArray, List.set_cons_zero, List.set_cons_succ]
        refine wpAnyH_take (i := 10) (oi := { dst := some 25, op := Op.move (Operand.tmp 8), type := 3, pos := "trace.go:29", after := #[{ on := 8, ground := Ground.guard }], guard := some (8, true) }) (v := undef) rfl (by kernel_rfl) (by kernel_rfl) (by kernel_rfl) (fun _ _ _ h => h) (Or.inr ⟨by rfl, rfl⟩) hS ?_
        try simp only [Act.put, List.setIfInBounds_toArray, List.set_cons_zero, List.set_cons_succ]
        refine wpAnyH_take (i := 11) (oi := { dst := some 26, op := Op.indexAddr 27 (Operand.tmp 24) (Operand.tmp 25), type := 0, pos := "trace.go:29", after := #[{ on := 9, ground := Ground.data }, { on := 10, ground := Ground.data }, { on := 8, ground := Ground.guard }], guard := some (8, true) }) (v := undef) rfl (by kernel_rfl) (by kernel_rfl) (by kernel_rfl) (fun _ _ _ h => h) (Or.inr ⟨by rfl, rfl⟩) hS ?_
        try simp only [Act.put, List.setIfInBounds_toArray, List.set_cons_zero, List.set_cons_succ]
        refine wpAnyH_take (i := 12) (oi := { dst := some 27, op := Op.fieldAddr 30 (Operand.tmp 26) 0, type := 0, pos := "trace.go:29", after := #[{ on := 11, ground := Ground.data }, { on := 8, ground := Ground.guard }], guard := some (8, true) }) (v := undef) rfl (by kernel_rfl) (by kernel_rfl) (by kernel_rfl) (fun _ _ _ h => h) (Or.inr ⟨by rfl, rfl⟩) hS ?_
        try simp only [Act.put, List.setIfInBounds_toArray, List.set_cons_zero, List.set_cons_succ]
        refine wpAnyH_take (i := 13) (oi := { dst := some 28, op := Op.load 3 (Operand.tmp 27), type := 3, pos := "trace.go:29", after := #[{ on := 12, ground := Ground.data }, { on := 8, ground := Ground.guard }], guard := some (8, true) }) (v := undef) rfl (by kernel_rfl) (by kernel_rfl) (by kernel_rfl) (fun _ _ _ h => h) (Or.inr ⟨by rfl, rfl⟩) hS ?_
        try simp only [Act.put, List.setIfInBounds_toArray, List.set_cons_zero, List.set_cons_succ]
        refine wpAnyH_take (i := 14) (oi := { dst := some 29, op := Op.fieldAddr 30 (Operand.tmp 4) 0, type := 0, pos := "trace.go:29", after := #[{ on := 8, ground := Ground.guard }], guard := some (8, true) }) (v := undef) rfl (by kernel_rfl) (by kernel_rfl) (by kernel_rfl) (fun _ _ _ h => h) (Or.inr ⟨by rfl, rfl⟩) hS ?_
        try simp only [Act.put, List.setIfInBounds_toArray, List.set_cons_zero, List.set_cons_succ]
        refine wpAnyH_take (i := 15) (oi := { dst := some 30, op := Op.load 3 (Operand.tmp 29), type := 3, pos := "trace.go:29", after := #[{ on := 14, ground := Ground.data }, { on := 8, ground := Ground.guard }], guard := some (8, true) }) (v := undef) rfl (by kernel_rfl) (by kernel_rfl) (by kernel_rfl) (fun _ _ _ h => h) (Or.inr ⟨by rfl, rfl⟩) hS ?_
        try simp only [Act.put, List.setIfInBounds_toArray, List.set_cons_zero, List.set_cons_succ]
        refine wpAnyH_take (i := 16) (oi := { dst := some 31, op := Op.binOp BinOp.eql 3 (Operand.tmp 28) (Operand.tmp 30) 3, type := 4, pos := "trace.go:29", after := #[{ on := 13, ground := Ground.data }, { on := 15, ground := Ground.data }, { on := 8, ground := Ground.guard }], guard := some (8, true) }) (v := undef) rfl (by kernel_rfl) (by kernel_rfl) (by kernel_rfl) (fun _ _ _ h => h) (Or.inr ⟨by rfl, rfl⟩) hS ?_
        try simp only [Act.put, List.setIfInBounds_toArray, List.set_cons_zero, List.set_cons_succ]
        refine wpAnyH_take (i := 17) (oi := { dst := some 32, op := Op.pick (Operand.tmp 23) (Operand.tmp 31) (Operand.const (Value.bool false)), type := 4, pos := "trace.go:29", after := #[{ on := 8, ground := Ground.data }, { on := 16, ground := Ground.data }, { on := 6, ground := Ground.guard }], guard := some (6, true) }) (v := undef) rfl (by kernel_rfl) (by kernel_rfl) (by kernel_rfl) (fun _ _ _ h => h) (Or.inr ⟨by rfl, rfl⟩) hS ?_
        try simp only [Act.put, List.setIfInBounds_toArray, List.set_cons_zero, List.set_cons_succ]
        refine wpAnyH_take (i := 18) (oi := { dst := some 33, op := Op.unOp UnOp.not 4 (Operand.tmp 32), type := 4, pos := "trace.go:29", after := #[{ on := 17, ground := Ground.data }, { on := 6, ground := Ground.guard }], guard := some (6, true) }) (v := undef) rfl (by kernel_rfl) (by kernel_rfl) (by kernel_rfl) (fun _ _ _ h => h) (Or.inr ⟨by rfl, rfl⟩) hS ?_
        try simp only [Act.put, List.setIfInBounds_toArray, List.set_cons_zero, List.set_cons_succ]
        refine wpAnyH_take (i := 19) (oi := { dst := some 34, op := Op.pick (Operand.tmp 21) (Operand.tmp 33) (Operand.const (Value.bool false)), type := 4, pos := "trace.go:29", after := #[{ on := 6, ground := Ground.data }, { on := 18, ground := Ground.data }], guard := none }) (v := .bool false) rfl (by kernel_rfl) (by kernel_rfl) (by kernel_rfl) (fun _ _ _ h => h) (Or.inl ⟨by rfl, fun w' hw => by go_simp⟩) hS ?_
        try simp only [Act.put, List.setIfInBounds_toArray, List.set_cons_zero, List.set_cons_succ]
        refine wpAnyH_done (by kernel_rfl) ?_ _
        try simp only [Act.put, List.setIfInBounds_toArray, List.set_cons_zero, List.set_cons_succ]
        clear hS e0 x0
        go_wp2_with fail
        go_roundw
        case rel => exact ⟨i + 1, by simp, by omega, by rw [HNX.out]; exact HOW.out, TW.out⟩
        case measure => simp [intOf]; omega
      | false =>
        have hne : ¬ k = x := of_decide_eq_false hd
        rw [hd] at HQ
        clear hd
        cases all with
        | false =>
          have HNX := Lib.hid (show remK (ks.take (i + 1)) x false = remK (ks.take i) x false ++ [k] by rw [HX.out, if_pos ⟨hne, by simp⟩])
          clear hne
          refine wpAnyH_take (i := 0) (oi := { dst := some 15, op := Op.move (Operand.tmp 0), type := 27, pos := "trace.go:29", after := #[], guard := none }) (v := .slice (some ⟨b, off, none⟩) ks.length cap) rfl (by kernel_rfl) (by kernel_rfl) (by kernel_rfl) (fun _ _ _ h => h) (Or.inl ⟨by rfl, fun w' hw => by go_simp⟩) hS ?_
          try simp only [Act.put, List.setIfInBounds_toArray, List.set_cons_zero, List.set_cons_succ]
          refine wpAnyH_take (i := 1) (oi := { dst := some 16, op := Op.move (Operand.tmp 8), type := 3, pos := "trace.go:29", after := #[], guard := none }) (v := .int .i64 i) rfl (by kernel_rfl) (by kernel_rfl) (by kernel_rfl) (fun _ _ _ h => h) (Or.inl ⟨by rfl, fun w' hw => by go_simp⟩) hS ?_
          try simp only [Act.put, List.setIfInBounds_toArray, List.set_cons_zero, List.set_cons_succ]
          refine wpAnyH_take (i := 2) (oi := { dst := some 17, op := Op.indexAddr 27 (Operand.tmp 15) (Operand.tmp 16), type := 0, pos := "trace.go:29", after := #[{ on := 0, ground := Ground.data }, { on := 1, ground := Ground.data }], guard := none }) (v := .pointer (some ⟨b, off + i * 2, none⟩)) rfl (by kernel_rfl) (by kernel_rfl) (by kernel_rfl) (fun _ _ _ h => h) (Or.inl ⟨by rfl, fun w' hw => by go_simp⟩) hS ?_
          try simp only [Act.put, List.setIfInBounds_toArray, List.set_cons_zero, List.set_cons_succ]
          refine wpAnyH_take (i := 3) (oi := { dst := some 18, op := Op.load 30 (Operand.tmp 17), type := 30, pos := "trace.go:29", after := #[{ on := 2, ground := Ground.data }], guard := none }) (v := .agg (encE k).toArray) rfl (by kernel_rfl) (by kernel_rfl) (by kernel_rfl) (fun _ _ _ h => h) (Or.inl ⟨by rfl, fun w' hw => exec_load_agg _ 30 _ rfl _ _ rfl (encE k) _ (hw.range RI.out (by simp)) Try.underlying30 rfl (by rw [infoE]; rfl)⟩) hS ?_
          try simp only [Act.put, List.setIfInBounds_toArray, List.set_cons_zero, List.set_cons_succ]
          refine wpAnyH_take (i := 4) (oi := { dst := some 19, op := Op.load 30 (Operand.tmp 4), type := 30, pos := "trace.go:29", after := #[], guard := none }) (v := .agg (encE x).toArray) rfl (by kernel_rfl) (by kernel_rfl) (by kernel_rfl) (fun _ _ _ h => h) (Or.inl ⟨by rfl, fun w' hw => exec_load_agg _ 30 _ rfl _ _ rfl (encE x) _ (hw.range RX.out (by simp)) Try.underlying30 rfl (by rw [infoE]; rfl)⟩) hS ?_
          try simp only [Act.put, List.setIfInBounds_toArray, List.set_cons_zero, List.set_cons_succ]
          refine wpAnyH_take (i := 5) (oi := { dst := some 20, op := Op.binOp BinOp.neq 30 (Operand.tmp 18) (Operand.tmp 19) 30, type := 4, pos := "trace.go:29", after := #[{ on := 3, ground := Ground.data }, { on := 4, ground := Ground.data }], guard := none }) (v := .bool true) rfl (by kernel_rfl) (by kernel_rfl) (by kernel_rfl) (fun _ _ _ h => h) (Or.inl ⟨by rfl, fun w' hw => exec_neq_agg _ 30 _ _ _ rfl (encE k).toArray (encE x).toArray rfl rfl gE _ (HQ.out w')⟩) hS ?_
          try simp only [Act.put, List.setIfInBounds_toArray, List.set_cons_zero, List.set_cons_succ]
          refine wpAnyH_take (i := 6) (oi := { dst := some 21, op := Op.move (Operand.tmp 20), type := 4, pos := "trace.go:29", after := #[{ on := 5, ground := Ground.data }], guard := none }) (v := .bool true) rfl (by kernel_rfl) (by kernel_rfl) (by kernel_rfl) (fun _ _ _ h => h) (Or.inl ⟨by rfl, fun w' hw => by go_simp⟩) hS ?_
          try simp only [Act.put, List.setIfInBounds_toArray, List.set_cons_zero, List.set_cons_succ]
          refine wpAnyH_take (i := 7) (oi := { dst := some 22, op := Op.move (Operand.tmp 2), type := 4, pos := "trace.go:29", after := #[{ on := 6, ground := Ground.guard }], guard := some (6, true) }) (v := .bool false) rfl (by kernel_rfl) (by kernel_rfl) (by kernel_rfl) (fun _ _ _ h => h) (Or.inl ⟨by rfl, fun w' hw => by go_simp⟩) hS ?_
          try simp only [Act.put, List.setIfInBounds_toArray, List.set_cons_zero, List.set_cons_succ]
          refine wpAnyH_take (i := 8) (oi := { dst := some 23, op := Op.move (Operand.tmp 22), type := 4, pos := "trace.go:29", after := #[{ on := 7, ground := Ground.data }, { on := 6, ground := Ground.chain }, { on := 6, ground := Ground.guard }], guard := some (6, true) }) (v := .bool false) rfl (by kernel_rfl) (by kernel_rfl) (by kernel_rfl) (fun _ _ _ h => h) (Or.inl ⟨by rfl, fun w' hw => by go_simp⟩) hS ?_
          try simp only [Act.put, List.setIfInBounds_toArray, List.set_cons_zero, List.set_cons_succ]
          refine wpAnyH_take (i := 9) (oi := { dst := some 24, op := Op.move (Operand.tmp 0), type := 27, pos := "trace.go:29", after := #[{ on := 8, ground := Ground.guard }], guard := some (8, true) }) (v := undef) rfl (by kernel_rfl) (by kernel_rfl) (by kernel_rfl) (fun _ _ _ h => h) (Or.inr ⟨by rfl, rfl⟩) hS ?_
          try simp only [Act.put, List.setIfInBounds_toArray, List.set_cons_zero, List.set_cons_succ]
          refine wpAnyH_take (i := 10) (oi := { dst := some 25, op := Op.move (Operand.tmp 8), type := 3, pos := "trace.go:29", after := #[{ on := 8, ground := Ground.guard }], guard := some (8, true) }) (v := undef) rfl (by kernel_rfl) (by kernel_rfl) (by kernel_rfl) (fun _ _ _ h => h) (Or.inr ⟨by rfl, rfl⟩) hS ?_
          try simp only [Act.put, List.setIfInBounds_toArray, List.set_cons_zero, List.set_cons_succ]
          refine wpAnyH_take (i := 11) (oi := { dst := some 26, op := Op.indexAddr 27 (Operand.tmp 24) (Operand.tmp 25), type := 0, pos := "trace.go:29", after := #[{ on := 9, ground := Ground.data }, { on := 10, ground := Ground.data }, { on := 8, ground := Ground.guard }], guard := some (8, true) }) (v := undef) rfl (by kernel_rfl) (by kernel_rfl) (by kernel_rfl) (fun _ _ _ h => h) (Or.inr ⟨by rfl, rfl⟩) hS ?_
          try simp only [Act.put, List.setIfInBounds_toArray, List.set_cons_zero, List.set_cons_succ]
          refine wpAnyH_take (i := 12) (oi := { dst := some 27, op := Op.fieldAddr 30 (Operand.tmp 26) 0, type := 0, pos := "trace.go:29", after := #[{ on := 11, ground := Ground.data }, { on := 8, ground := Ground.guard }], guard := some (8, true) }) (v := undef) rfl (by kernel_rfl) (by kernel_rfl) (by kernel_rfl) (fun _ _ _ h => h) (Or.inr ⟨by rfl, rfl⟩) hS ?_
          try simp only [Act.put, List.setIfInBounds_toArray, List.set_cons_zero, List.set_cons_succ]
          refine wpAnyH_take (i := 13) (oi := { dst := some 28, op := Op.load 3 (Operand.tmp 27), type := 3, pos := "trace.go:29", after := #[{ on := 12, ground := Ground.data }, { on := 8, ground := Ground.guard }], guard := some (8, true) }) (v := undef) rfl (by kernel_rfl) (by kernel_rfl) (by kernel_rfl) (fun _ _ _ h => h) (Or.inr ⟨by rfl, rfl⟩) hS ?_
          try simp only [Act.put, List.setIfInBounds_toArray, List.set_cons_zero, List.set_cons_succ]
          refine wpAnyH_take (i := 14) (oi := { dst := some 29, op := Op.fieldAddr 30 (Operand.tmp 4) 0, type := 0, pos := "trace.go:29", after := #[{ on := 8, ground := Ground.guard }], guard := some (8, true) }) (v := undef) rfl (by kernel_rfl) (by kernel_rfl) (by kernel_rfl) (fun _ _ _ h => h) (Or.inr ⟨by rfl, rfl⟩) hS ?_
          try simp only [Act.put, List.setIfInBounds_toArray, List.set_cons_zero, List.set_cons_succ]
          refine wpAnyH_take (i := 15) (oi := { dst := some 30, op := Op.load 3 (Operand.tmp 29), type := 3, pos := "trace.go:29", after := #[{ on := 14, ground := Ground.data }, { on := 8, ground := Ground.guard }], guard := some (8, true) }) (v := undef) rfl (by kernel_rfl) (by kernel_rfl) (by kernel_rfl) (fun _ _ _ h => h) (Or.inr ⟨by rfl, rfl⟩) hS ?_
          try simp only [Act.put, List.setIfInBounds_toArray, List.set_cons_zero, List.set_cons_succ]
          refine wpAnyH_take (i := 16) (oi := { dst := some 31, op := Op.binOp BinOp.eql 3 (Operand.tmp 28) (Operand.tmp 30) 3, type := 4, pos := "trace.go:29", after := #[{ on := 13, ground := Ground.data }, { on := 15, ground := Ground.data }, { on := 8, ground := Ground.guard }], guard := some (8, true) }) (v := undef) rfl (by kernel_rfl) (by kernel_rfl) (by kernel_rfl) (fun _ _ _ h => h) (Or.inr ⟨by rfl, rfl⟩) hS ?_
          try simp only [Act.put, List.setIfInBounds_toArray, List.set_cons_zero, List.set_cons_succ]
          refine wpAnyH_take (i := 17) (oi := { dst := some 32, op := Op.pick (Operand.tmp 23) (Operand.tmp 31) (Operand.const (Value.bool false)), type := 4, pos := "trace.go:29", after := #[{ on := 8, ground := Ground.data }, { on := 16, ground := Ground.data }, { on := 6, ground := Ground.guard }], guard := some (6, true) }) (v := .bool false) rfl (by kernel_rfl) (by kernel_rfl) (by kernel_rfl) (fun _ _ _ h => h) (Or.inl ⟨by rfl, fun w' hw => by go_simp⟩) hS ?_
          try simp only [Act.put, List.setIfInBounds_toArray, List.set_cons_zero, List.set_cons_succ]
          refine wpAnyH_take (i := 18) (oi := { dst := some 33, op := Op.unOp UnOp.not 4 (Operand.tmp 32), type := 4, pos := "trace.go:29", after := #[{ on := 17, ground := Ground.data }, { on := 6, ground := Ground.guard }], guard := some (6, true) }) (v := .bool true) rfl (by kernel_rfl) (by kernel_rfl) (by kernel_rfl) (fun _ _ _ h => h) (Or.inl ⟨by rfl, fun w' hw => by go_simp⟩) hS ?_
          try simp only [Act.put, List.setIfInBounds_toArray, List.set_cons_zero, List.set_cons_succ]
          refine wpAnyH_take (i := 19) (oi := { dst := some 34, op := Op.pick (Operand.tmp 21) (Operand.tmp 33) (Operand.const (Value.bool false)), type := 4, pos := "trace.go:29", after := #[{ on := 6, ground := Ground.data }, { on := 18, ground := Ground.data }], guard := none }) (v := .bool true) rfl (by kernel_rfl) (by kernel_rfl) (by kernel_rfl) (fun _ _ _ h => h) (Or.inl ⟨by rfl, fun w' hw => by go_simp⟩) hS ?_
          try simp only [Act.put, List.setIfInBounds_toArray, List.set_cons_zero, List.set_cons_succ]
          refine wpAnyH_done (by kernel_rfl) ?_ _
          try simp only [Act.put, List.setIfInBounds_toArray, List.set_cons_zero, List.set_cons_succ]
          clear hS e0 x0
          go_wp2_with (first
            | ((with_reducible refine at_load 30 ?_); refine wpList_load_mid rfl 30 _ rfl b (off + i * 2) rfl (encE k) _ RI.out Try.underlying30 rfl (by rw [infoE]; rfl) ?_)
            | ((with_reducible refine at_bs 27 1 ?_); refine wpList_build1 rtE rfl _ rfl (encE k) rfl rfl ?_)
            | (at_builtin; refine wpList_app1R rtE W rfl _ _ (by rfl) u7 _ rfl HOW.out TW.out.size (encE k) _ rfl rfl (encE_ones [k]) HF.out ?_))
          intro v3 w3 o3 t3
          have HO3 := Lib.hid o3
          have HT3 := Lib.hid (TW.out.trans t3 (by intro y hy; right; exact HOW.out.new y (by simpa using hy)))
          clear o3 t3
          go_wp2_with fail
          go_roundw
          case rel => exact ⟨i + 1, by simp, by omega, by rw [HNX.out, rE_snoc]; exact HO3.out, HT3.out⟩
          case measure => simp [intOf]; omega
        | true =>
          by_cases hc1 : k.1 = x.1
          · have HNX := Lib.hid (show remK (ks.take (i + 1)) x true = remK (ks.take i) x true by rw [HX.out, if_neg (fun h => h.2 ⟨rfl, hc1⟩)])
            have q1 : (k.1 == x.1) = true := by simp [hc1]
            clear hne hc1
            refine wpAnyH_take (i := 0) (oi := { dst := some 15, op := Op.move (Operand.tmp 0), type := 27, pos := "trace.go:29", after := #[], guard := none }) (v := .slice (some ⟨b, off, none⟩) ks.length cap) rfl (by kernel_rfl) (by kernel_rfl) (by kernel_rfl) (fun _ _ _ h => h) (Or.inl ⟨by rfl, fun w' hw => by go_simp⟩) hS ?_
            try simp only [Act.put, List.setIfInBounds_toArray, List.set_cons_zero, List.set_cons_succ]
            refine wpAnyH_take (i := 1) (oi := { dst := some 16, op := Op.move (Operand.tmp 8), type := 3, pos := "trace.go:29", after := #[], guard := none }) (v := .int .i64 i) rfl (by kernel_rfl) (by kernel_rfl) (by kernel_rfl) (fun _ _ _ h => h) (Or.inl ⟨by rfl, fun w' hw => by go_simp⟩) hS ?_
            try simp only [Act.put, List.setIfInBounds_toArray, List.set_cons_zero, List.set_cons_succ]
            refine wpAnyH_take (i := 2) (oi := { dst := some 17, op := Op.indexAddr 27 (Operand.tmp 15) (Operand.tmp 16), type := 0, pos := "trace.go:29", after := #[{ on := 0, ground := Ground.data }, { on := 1, ground := Ground.data }], guard := none }) (v := .pointer (some ⟨b, off + i * 2, none⟩)) rfl (by kernel_rfl) (by kernel_rfl) (by kernel_rfl) (fun _ _ _ h => h) (Or.inl ⟨by rfl, fun w' hw => by go_simp⟩) hS ?_
            try simp only [Act.put, List.setIfInBounds_toArray, List.set_cons_zero, List.set_cons_succ]
            refine wpAnyH_take (i := 3) (oi := { dst := some 18, op := Op.load 30 (Operand.tmp 17), type := 30, pos := "trace.go:29", after := #[{ on := 2, ground := Ground.data }], guard := none }) (v := .agg (encE k).toArray) rfl (by kernel_rfl) (by kernel_rfl) (by kernel_rfl) (fun _ _ _ h => h) (Or.inl ⟨by rfl, fun w' hw => exec_load_agg _ 30 _ rfl _ _ rfl (encE k) _ (hw.range RI.out (by simp)) Try.underlying30 rfl (by rw [infoE]; rfl)⟩) hS ?_
            try simp only [Act.put, List.setIfInBounds_toArray, List.set_cons_zero, List.set_cons_succ]
            refine wpAnyH_take (i := 4) (oi := { dst := some 19, op := Op.load 30 (Operand.tmp 4), type := 30, pos := "trace.go:29", after := #[], guard := none }) (v := .agg (encE x).toArray) rfl (by kernel_rfl) (by kernel_rfl) (by kernel_rfl) (fun _ _ _ h => h) (Or.inl ⟨by rfl, fun w' hw => exec_load_agg _ 30 _ rfl _ _ rfl (encE x) _ (hw.range RX.out (by simp)) Try.underlying30 rfl (by rw [infoE]; rfl)⟩) hS ?_
            try simp only [Act.put, List.setIfInBounds_toArray, List.set_cons_zero, List.set_cons_succ]
            refine wpAnyH_take (i := 5) (oi := { dst := some 20, op := Op.binOp BinOp.neq 30 (Operand.tmp 18) (Operand.tmp 19) 30, type := 4, pos := "trace.go:29", after := #[{ on := 3, ground := Ground.data }, { on := 4, ground := Ground.data }], guard := none }) (v := .bool true) rfl (by kernel_rfl) (by kernel_rfl) (by kernel_rfl) (fun _ _ _ h => h) (Or.inl ⟨by rfl, fun w' hw => exec_neq_agg _ 30 _ _ _ rfl (encE k).toArray (encE x).toArray rfl rfl gE _ (HQ.out w')⟩) hS ?_
            try simp only [Act.put, List.setIfInBounds_toArray, List.set_cons_zero, List.set_cons_succ]
            refine wpAnyH_take (i := 6) (oi := { dst := some 21, op := Op.move (Operand.tmp 20), type := 4, pos := "trace.go:29", after := #[{ on := 5, ground := Ground.data }], guard := none }) (v := .bool true) rfl (by kernel_rfl) (by kernel_rfl) (by kernel_rfl) (fun _ _ _ h => h) (Or.inl ⟨by rfl, fun w' hw => by go_simp⟩) hS ?_
            try simp only [Act.put, List.setIfInBounds_toArray, List.set_cons_zero, List.set_cons_succ]
            refine wpAnyH_take (i := 7) (oi := { dst := some 22, op := Op.move (Operand.tmp 2), type := 4, pos := "trace.go:29", after := #[{ on := 6, ground := Ground.guard }], guard := some (6, true) }) (v := .bool true) rfl (by kernel_rfl) (by kernel_rfl) (by kernel_rfl) (fun _ _ _ h => h) (Or.inl ⟨by rfl, fun w' hw => by go_simp⟩) hS ?_
            try simp only [Act.put, List.setIfInBounds_toArray, List.set_cons_zero, List.set_cons_succ]
            refine wpAnyH_take (i := 8) (oi := { dst := some 23, op := Op.move (Operand.tmp 22), type := 4, pos := "trace.go:29", after := #[{ on := 7, ground := Ground.data }, { on := 6, ground := Ground.chain }, { on := 6, ground := Ground.guard }], guard := some (6, true) }) (v := .bool true) rfl (by kernel_rfl) (by kernel_rfl) (by kernel_rfl) (fun _ _ _ h => h) (Or.inl ⟨by rfl, fun w' hw => by go_simp⟩) hS ?_
            try simp only [Act.put, List.setIfInBounds_toArray, List.set_cons_zero, List.set_cons_succ]
            refine wpAnyH_take (i := 9) (oi := { dst := some 24, op := Op.move (Operand.tmp 0), type := 27, pos := "trace.go:29", after := #[{ on := 8, ground := Ground.guard }], guard := some (8, true) }) (v := .slice (some ⟨b, off, none⟩) ks.length cap) rfl (by kernel_rfl) (by kernel_rfl) (by kernel_rfl) (fun _ _ _ h => h) (Or.inl ⟨by rfl, fun w' hw => by go_simp⟩) hS ?_
            try simp only [Act.put, List.setIfInBounds_toArray, List.set_cons_zero, List.set_cons_succ]
            refine wpAnyH_take (i := 10) (oi := { dst := some 25, op := Op.move (Operand.tmp 8), type := 3, pos := "trace.go:29", after := #[{ on := 8, ground := Ground.guard }], guard := some (8, true) }) (v := .int .i64 i) rfl (by kernel_rfl) (by kernel_rfl) (by kernel_rfl) (fun _ _ _ h => h) (Or.inl ⟨by rfl, fun w' hw => by go_simp⟩) hS ?_
            try simp only [Act.put, List.setIfInBounds_toArray, List.set_cons_zero, List.set_cons_succ]
            refine wpAnyH_take (i := 11) (oi := { dst := some 26, op := Op.indexAddr 27 (Operand.tmp 24) (Operand.tmp 25), type := 0, pos := "trace.go:29", after := #[{ on := 9, ground := Ground.data }, { on := 10, ground := Ground.data }, { on := 8, ground := Ground.guard }], guard := some (8, true) }) (v := .pointer (some ⟨b, off + i * 2, none⟩)) rfl (by kernel_rfl) (by kernel_rfl) (by kernel_rfl) (fun _ _ _ h => h) (Or.inl ⟨by rfl, fun w' hw => by go_simp⟩) hS ?_
            try simp only [Act.put, List.setIfInBounds_toArray, List.set_cons_zero, List.set_cons_succ]
            refine wpAnyH_take (i := 12) (oi := { dst := some 27, op := Op.fieldAddr 30 (Operand.tmp 26) 0, type := 0, pos := "trace.go:29", after := #[{ on := 11, ground := Ground.data }, { on := 8, ground := Ground.guard }], guard := some (8, true) }) (v := .pointer (some ⟨b, off + i * 2, none⟩)) rfl (by kernel_rfl) (by kernel_rfl) (by kernel_rfl) (fun _ _ _ h => h) (Or.inl ⟨by rfl, fun w' hw => by go_simp⟩) hS ?_
            try simp only [Act.put, List.setIfInBounds_toArray, List.set_cons_zero, List.set_cons_succ]
            refine wpAnyH_take (i := 13) (oi := { dst := some 28, op := Op.load 3 (Operand.tmp 27), type := 3, pos := "trace.go:29", after := #[{ on := 12, ground := Ground.data }, { on := 8, ground := Ground.guard }], guard := some (8, true) }) (v := .int .i64 k.1) rfl (by kernel_rfl) (by kernel_rfl) (by kernel_rfl) (fun _ _ _ h => h) (Or.inl ⟨by rfl, fun w' hw => by (have q := hw.cell e0 (by simp); go_simp)⟩) hS ?_
            try simp only [Act.put, List.setIfInBounds_toArray, List.set_cons_zero, List.set_cons_succ]
            refine wpAnyH_take (i := 14) (oi := { dst := some 29, op := Op.fieldAddr 30 (Operand.tmp 4) 0, type := 0, pos := "trace.go:29", after := #[{ on := 8, ground := Ground.guard }], guard := some (8, true) }) (v := .pointer (some ⟨gX, 0, none⟩)) rfl (by kernel_rfl) (by kernel_rfl) (by kernel_rfl) (fun _ _ _ h => h) (Or.inl ⟨by rfl, fun w' hw => by go_simp⟩) hS ?_
            try simp only [Act.put, List.setIfInBounds_toArray, List.set_cons_zero, List.set_cons_succ]
            refine wpAnyH_take (i := 15) (oi := { dst := some 30, op := Op.load 3 (Operand.tmp 29), type := 3, pos := "trace.go:29", after := #[{ on := 14, ground := Ground.data }, { on := 8, ground := Ground.guard }], guard := some (8, true) }) (v := .int .i64 x.1) rfl (by kernel_rfl) (by kernel_rfl) (by kernel_rfl) (fun _ _ _ h => h) (Or.inl ⟨by rfl, fun w' hw => by (have q := hw.cell x0 (by simp); go_simp)⟩) hS ?_
            try simp only [Act.put, List.setIfInBounds_toArray, List.set_cons_zero, List.set_cons_succ]
            refine wpAnyH_take (i := 16) (oi := { dst := some 31, op := Op.binOp BinOp.eql 3 (Operand.tmp 28) (Operand.tmp 30) 3, type := 4, pos := "trace.go:29", after := #[{ on := 13, ground := Ground.data }, { on := 15, ground := Ground.data }, { on := 8, ground := Ground.guard }], guard := some (8, true) }) (v := .bool true) rfl (by kernel_rfl) (by kernel_rfl) (by kernel_rfl) (fun _ _ _ h => h) (Or.inl ⟨by rfl, fun w' hw => by go_simp⟩) hS ?_
            try simp only [Act.put, List.setIfInBounds_toArray, List.set_cons_zero, List.set_cons_succ]
            refine wpAnyH_take (i := 17) (oi := { dst := some 32, op := Op.pick (Operand.tmp 23) (Operand.tmp 31) (Operand.const (Value.bool false)), type := 4, pos := "trace.go:29", after := #[{ on := 8, ground := Ground.data }, { on := 16, ground := Ground.data }, { on := 6, ground := Ground.guard }], guard := some (6, true) }) (v := .bool true) rfl (by kernel_rfl) (by kernel_rfl) (by kernel_rfl) (fun _ _ _ h => h) (Or.inl ⟨by rfl, fun w' hw => by go_simp⟩) hS ?_
            try simp only [Act.put, List.setIfInBounds_toArray, List.set_cons_zero, List.set_cons_succ]
            refine wpAnyH_take (i := 18) (oi := { dst := some 33, op := Op.unOp UnOp.not 4 (Operand.tmp 32), type := 4, pos := "trace.go:29", after := #[{ on := 17, ground := Ground.data }, { on := 6, ground := Ground.guard }], guard := some (6, true) }) (v := .bool false) rfl (by kernel_rfl) (by kernel_rfl) (by kernel_rfl) (fun _ _ _ h => h) (Or.inl ⟨by rfl, fun w' hw => by go_simp⟩) hS ?_
            try simp only [Act.put, List.setIfInBounds_toArray, List.set_cons_zero, List.set_cons_succ]
            refine wpAnyH_take (i := 19) (oi := { dst := some 34, op := Op.pick (Operand.tmp 21) (Operand.tmp 33) (Operand.const (Value.bool false)), type := 4, pos := "trace.go:29", after := #[{ on := 6, ground := Ground.data }, { on := 18, ground := Ground.data }], guard := none }) (v := .bool false) rfl (by kernel_rfl) (by kernel_rfl) (by kernel_rfl) (fun _ _ _ h => h) (Or.inl ⟨by rfl, fun w' hw => by go_simp⟩) hS ?_
            try simp only [Act.put, List.setIfInBounds_toArray, List.set_cons_zero, List.set_cons_succ]
            refine wpAnyH_done (by kernel_rfl) ?_ _
            try simp only [Act.put, List.setIfInBounds_toArray, List.set_cons_zero, List.set_cons_succ]
            clear hS e0 x0
            go_wp2_with fail
            go_roundw
            case rel => exact ⟨i + 1, by simp, by omega, by rw [HNX.out]; exact HOW.out, TW.out⟩
            case measure => simp [intOf]; omega
          · have HNX := Lib.hid (show remK (ks.take (i + 1)) x true = remK (ks.take i) x true ++ [k] by rw [HX.out, if_pos ⟨hne, fun h => hc1 h.2⟩])
            have q1 : (k.1 == x.1) = false := by simp [hc1]
            clear hne hc1
            refine wpAnyH_take (i := 0) (oi := { dst := some 15, op := Op.move (Operand.tmp 0), type := 27, pos := "trace.go:29", after := #[], guard := none }) (v := .slice (some ⟨b, off, none⟩) ks.length cap) rfl (by kernel_rfl) (by kernel_rfl) (by kernel_rfl) (fun _ _ _ h => h) (Or.inl ⟨by rfl, fun w' hw => by go_simp⟩) hS ?_
            try simp only [Act.put, List.setIfInBounds_toArray, List.set_cons_zero, List.set_cons_succ]
            refine wpAnyH_take (i := 1) (oi := { dst := some 16, op := Op.move (Operand.tmp 8), type := 3, pos := "trace.go:29", after := #[], guard := none }) (v := .int .i64 i) rfl (by kernel_rfl) (by kernel_rfl) (by kernel_rfl) (fun _ _ _ h => h) (Or.inl ⟨by rfl, fun w' hw => by go_simp⟩) hS ?_
            try simp only [Act.put, List.setIfInBounds_toArray, List.set_cons_zero, List.set_cons_succ]
            refine wpAnyH_take (i := 2) (oi := { dst := some 17, op := Op.indexAddr 27 (Operand.tmp 15) (Operand.tmp 16), type := 0, pos := "trace.go:29", after := #[{ on := 0, ground := Ground.data }, { on := 1, ground := Ground.data }], guard := none }) (v := .pointer (some ⟨b, off + i * 2, none⟩)) rfl (by kernel_rfl) (by kernel_rfl) (by kernel_rfl) (fun _ _ _ h => h) (Or.inl ⟨by rfl, fun w' hw => by go_simp⟩) hS ?_
            try simp only [Act.put, List.setIfInBounds_toArray, List.set_cons_zero, List.set_cons_succ]
            refine wpAnyH_take (i := 3) (oi := { dst := some 18, op := Op.load 30 (Operand.tmp 17), type := 30, pos := "trace.go:29", after := #[{ on := 2, ground := Ground.data }], guard := none }) (v := .agg (encE k).toArray) rfl (by kernel_rfl) (by kernel_rfl) (by kernel_rfl) (fun _ _ _ h => h) (Or.inl ⟨by rfl, fun w' hw => exec_load_agg _ 30 _ rfl _ _ rfl (encE k) _ (hw.range RI.out (by simp)) Try.underlying30 rfl (by rw [infoE]; rfl)⟩) hS ?_
            try simp only [Act.put, List.setIfInBounds_toArray, List.set_cons_zero, List.set_cons_succ]
            refine wpAnyH_take (i := 4) (oi := { dst := some 19, op := Op.load 30 (Operand.tmp 4), type := 30, pos := "trace.go:29", after := #[], guard := none }) (v := .agg (encE x).toArray) rfl (by kernel_rfl) (by kernel_rfl) (by kernel_rfl) (fun _ _ _ h => h) (Or.inl ⟨by rfl, fun w' hw => exec_load_agg _ 30 _ rfl _ _ rfl (encE x) _ (hw.range RX.out (by simp)) Try.underlying30 rfl (by rw [infoE]; rfl)⟩) hS ?_
            try simp only [Act.put, List.setIfInBounds_toArray, List.set_cons_zero, List.set_cons_succ]
            refine wpAnyH_take (i := 5) (oi := { dst := some 20, op := Op.binOp BinOp.neq 30 (Operand.tmp 18) (Operand.tmp 19) 30, type := 4, pos := "trace.go:29", after := #[{ on := 3, ground := Ground.data }, { on := 4, ground := Ground.data }], guard := none }) (v := .bool true) rfl (by kernel_rfl) (by kernel_rfl) (by kernel_rfl) (fun _ _ _ h => h) (Or.inl ⟨by rfl, fun w' hw => exec_neq_agg _ 30 _ _ _ rfl (encE k).toArray (encE x).toArray rfl rfl gE _ (HQ.out w')⟩) hS ?_
            try simp only [Act.put, List.setIfInBounds_toArray, List.set_cons_zero, List.set_cons_succ]
            refine wpAnyH_take (i := 6) (oi := { dst := some 21, op := Op.move (Operand.tmp 20), type := 4, pos := "trace.go:29", after := #[{ on := 5, ground := Ground.data }], guard := none }) (v := .bool true) rfl (by kernel_rfl) (by kernel_rfl) (by kernel_rfl) (fun _ _ _ h => h) (Or.inl ⟨by rfl, fun w' hw => by go_simp⟩) hS ?_
            try simp only [Act.put, List.setIfInBounds_toArray, List.set_cons_zero, List.set_cons_succ]
            refine wpAnyH_take (i := 7) (oi := { dst := some 22, op := Op.move (Operand.tmp 2), type := 4, pos := "trace.go:29", after := #[{ on := 6, ground := Ground.guard }], guard := some (6, true) }) (v := .bool true) rfl (by kernel_rfl) (by kernel_rfl) (by kernel_rfl) (fun _ _ _ h => h) (Or.inl ⟨by rfl, fun w' hw => by go_simp⟩) hS ?_
            try simp only [Act.put, List.setIfInBounds_toArray, List.set_cons_zero, List.set_cons_succ]
            refine wpAnyH_take (i := 8) (oi := { dst := some 23, op := Op.move (Operand.tmp 22), type := 4, pos := "trace.go:29", after := #[{ on := 7, ground := Ground.data }, { on := 6, ground := Ground.chain }, { on := 6, ground := Ground.guard }], guard := some (6, true) }) (v := .bool true) rfl (by kernel_rfl) (by kernel_rfl) (by kernel_rfl) (fun _ _ _ h => h) (Or.inl ⟨by rfl, fun w' hw => by go_simp⟩) hS ?_
            try simp only [Act.put, List.setIfInBounds_toArray, List.set_cons_zero, List.set_cons_succ]
            refine wpAnyH_take (i := 9) (oi := { dst := some 24, op := Op.move (Operand.tmp 0), type := 27, pos := "trace.go:29", after := #[{ on := 8, ground := Ground.guard }], guard := some (8, true) }) (v := .slice (some ⟨b, off, none⟩) ks.length cap) rfl (by kernel_rfl) (by kernel_rfl) (by kernel_rfl) (fun _ _ _ h => h) (Or.inl ⟨by rfl, fun w' hw => by go_simp⟩) hS ?_
            try simp only [Act.put, List.setIfInBounds_toArray, List.set_cons_zero, List.set_cons_succ]
            refine wpAnyH_take (i := 10) (oi := { dst := some 25, op := Op.move (Operand.tmp 8), type := 3, pos := "trace.go:29", after := #[{ on := 8, ground := Ground.guard }], guard := some (8, true) }) (v := .int .i64 i) rfl (by kernel_rfl) (by kernel_rfl) (by kernel_rfl) (fun _ _ _ h => h) (Or.inl ⟨by rfl, fun w' hw => by go_simp⟩) hS ?_
            try simp only [Act.put, List.setIfInBounds_toArray, List.set_cons_zero, List.set_cons_succ]
            refine wpAnyH_take (i := 11) (oi := { dst := some 26, op := Op.indexAddr 27 (Operand.tmp 24) (Operand.tmp 25), type := 0, pos := "trace.go:29", after := #[{ on := 9, ground := Ground.data }, { on := 10, ground := Ground.data }, { on := 8, ground := Ground.guard }], guard := some (8, true) }) (v := .pointer (some ⟨b, off + i * 2, none⟩)) rfl (by kernel_rfl) (by kernel_rfl) (by kernel_rfl) (fun _ _ _ h => h) (Or.inl ⟨by rfl, fun w' hw => by go_simp⟩) hS ?_
            try simp only [Act.put, List.setIfInBounds_toArray, List.set_cons_zero, List.set_cons_succ]
            refine wpAnyH_take (i := 12) (oi := { dst := some 27, op := Op.fieldAddr 30 (Operand.tmp 26) 0, type := 0, pos := "trace.go:29", after := #[{ on := 11, ground := Ground.data }, { on := 8, ground := Ground.guard }], guard := some (8, true) }) (v := .pointer (some ⟨b, off + i * 2, none⟩)) rfl (by kernel_rfl) (by kernel_rfl) (by kernel_rfl) (fun _ _ _ h => h) (Or.inl ⟨by rfl, fun w' hw => by go_simp⟩) hS ?_
            try simp only [Act.put, List.setIfInBounds_toArray, List.set_cons_zero, List.set_cons_succ]
            refine wpAnyH_take (i := 13) (oi := { dst := some 28, op := Op.load 3 (Operand.tmp 27), type := 3, pos := "trace.go:29", after := #[{ on := 12, ground := Ground.data }, { on := 8, ground := Ground.guard }], guard := some (8, true) }) (v := .int .i64 k.1) rfl (by kernel_rfl) (by kernel_rfl) (by kernel_rfl) (fun _ _ _ h => h) (Or.inl ⟨by rfl, fun w' hw => by (have q := hw.cell e0 (by simp); go_simp)⟩) hS ?_
            try simp only [Act.put, List.setIfInBounds_toArray, List.set_cons_zero, List.set_cons_succ]
            refine wpAnyH_take (i := 14) (oi := { dst := some 29, op := Op.fieldAddr 30 (Operand.tmp 4) 0, type := 0, pos := "trace.go:29", after := #[{ on := 8, ground := Ground.guard }], guard := some (8, true) }) (v := .pointer (some ⟨gX, 0, none⟩)) rfl (by kernel_rfl) (by kernel_rfl) (by kernel_rfl) (fun _ _ _ h => h) (Or.inl ⟨by rfl, fun w' hw => by go_simp⟩) hS ?_
            try simp only [Act.put, List.setIfInBounds_toArray, List.set_cons_zero, List.set_cons_succ]
            refine wpAnyH_take (i := 15) (oi := { dst := some 30, op := Op.load 3 (Operand.tmp 29), type := 3, pos := "trace.go:29", after := #[{ on := 14, ground := Ground.data }, { on := 8, ground := Ground.guard }], guard := some (8, true) }) (v := .int .i64 x.1) rfl (by kernel_rfl) (by kernel_rfl) (by kernel_rfl) (fun _ _ _ h => h) (Or.inl ⟨by rfl, fun w' hw => by (have q := hw.cell x0 (by simp); go_simp)⟩) hS ?_
            try simp only [Act.put, List.setIfInBounds_toArray, List.set_cons_zero, List.set_cons_succ]
            refine wpAnyH_take (i := 16) (oi := { dst := some 31, op := Op.binOp BinOp.eql 3 (Operand.tmp 28) (Operand.tmp 30) 3, type := 4, pos := "trace.go:29", after := #[{ on := 13, ground := Ground.data }, { on := 15, ground := Ground.data }, { on := 8, ground := Ground.guard }], guard := some (8, true) }) (v := .bool false) rfl (by kernel_rfl) (by kernel_rfl) (by kernel_rfl) (fun _ _ _ h => h) (Or.inl ⟨by rfl, fun w' hw => by go_simp⟩) hS ?_
            try simp only [Act.put, List.setIfInBounds_toArray, List.set_cons_zero, List.set_cons_succ]
            refine wpAnyH_take (i := 17) (oi := { dst := some 32, op := Op.pick (Operand.tmp 23) (Operand.tmp 31) (Operand.const (Value.bool false)), type := 4, pos := "trace.go:29", after := #[{ on := 8, ground := Ground.data }, { on := 16, ground := Ground.data }, { on := 6, ground := Ground.guard }], guard := some (6, true) }) (v := .bool false) rfl (by kernel_rfl) (by kernel_rfl) (by kernel_rfl) (fun _ _ _ h => h) (Or.inl ⟨by rfl, fun w' hw => by go_simp⟩) hS ?_
            try simp only [Act.put, List.setIfInBounds_toArray, List.set_cons_zero, List.set_cons_succ]
            refine wpAnyH_take (i := 18) (oi := { dst := some 33, op := Op.unOp UnOp.not 4 (Operand.tmp 32), type := 4, pos := "trace.go:29", after := #[{ on := 17, ground := Ground.data }, { on := 6, ground := Ground.guard }], guard := some (6, true) }) (v := .bool true) rfl (by kernel_rfl) (by kernel_rfl) (by kernel_rfl) (fun _ _ _ h => h) (Or.inl ⟨by rfl, fun w' hw => by go_simp⟩) hS ?_
            try simp only [Act.put, List.setIfInBounds_toArray, List.set_cons_zero, List.set_cons_succ]
            refine wpAnyH_take (i := 19) (oi := { dst := some 34, op := Op.pick (Operand.tmp 21) (Operand.tmp 33) (Operand.const (Value.bool false)), type := 4, pos := "trace.go:29", after := #[{ on := 6, ground := Ground.data }, { on := 18, ground := Ground.data }], guard := none }) (v := .bool true) rfl (by kernel_rfl) (by kernel_rfl) (by kernel_rfl) (fun _ _ _ h => h) (Or.inl ⟨by rfl, fun w' hw => by go_simp⟩) hS ?_
            try simp only [Act.put, List.setIfInBounds_toArray, List.set_cons_zero, List.set_cons_succ]
            refine wpAnyH_done (by kernel_rfl) ?_ _
            try simp only [Act.put, List.setIfInBounds_toArray, List.set_cons_zero, List.set_cons_succ]
            clear hS e0 x0
            go_wp2_with (first
              | ((with_reducible refine at_load 30 ?_); refine wpList_load_mid rfl 30 _ rfl b (off + i * 2) rfl (encE k) _ RI.out Try.underlying30 rfl (by rw [infoE]; rfl) ?_)
              | ((with_reducible refine at_bs 27 1 ?_); refine wpList_build1 rtE rfl _ rfl (encE k) rfl rfl ?_)
              | (at_builtin; refine wpList_app1R rtE W rfl _ _ (by rfl) u7 _ rfl HOW.out TW.out.size (encE k) _ rfl rfl (encE_ones [k]) HF.out ?_))
            intro v3 w3 o3 t3
            have HO3 := Lib.hid o3
            have HT3 := Lib.hid (TW.out.trans t3 (by intro y hy; right; exact HOW.out.new y (by simpa using hy)))
            clear o3 t3
            go_wp2_with fail
            go_roundw
            case rel => exact ⟨i + 1, by simp, by omega, by rw [HNX.out, rE_snoc]; exact HO3.out, HT3.out⟩
            case measure => simp [intOf]; omega
    · have hb1 : ¬ (i : Int) < (ks.length : Int) := by omega
      have HE := Lib.hid (show OwnR 30 2 w1 wr u7 (rE (remK ks x all)) by
        have := HO.out
        rwa [List.take_of_length_le (by omega)] at this)
      go_wp2_with fail
      go_ret
      exact ⟨u7, rfl, HE.out.rebase T0.out.size, T0.out.trans HT.out (by simp)⟩
end Go.Proofs.Ytmdnkhpkpmbeoaa

/-
  A trace's validity as plain data: the reference's steps. Lists of endpoints in memory.
-/
namespace Go.Proofs.Ytmdnkhpkpmbeoaa
open Go.RowKit
set_option linter.unusedVariables false
set_option linter.unusedSimpArgs false

/-- The reference's state: live, opened, shut. -/
structure RS where
  live : List Key
  opened : List Key
  shut : List Key
def xK (o : O) : Key := (o.c, o.a)
def cK (o : O) : Key := (o.c, 0)
def rstep (s : RS) (o : O) : Option RS :=
  if o.k = 1 then (if cK o ∈ s.live then none else some ⟨s.live ++ [cK o], remK s.opened (cK o) true, remK s.shut (cK o) false⟩)
  else if o.k = 2 then some s
  else if o.k = 3 then (if cK o ∈ s.live then some s else none)
  else if o.k = 4 then (if o.a < 1 ∨ xK o ∈ s.opened ∨ cK o ∉ s.live ∨ xK o ∈ s.live then none else some ⟨s.live ++ [xK o], s.opened ++ [xK o], remK s.shut (xK o) false⟩)
  else if o.k = 5 then (if xK o ∉ s.live ∨ xK o ∈ s.shut ∨ o.d = ⟨#[]⟩ then none else some s)
  else if o.k = 6 then (if xK o ∉ s.live ∨ xK o ∈ s.shut then none else some ⟨s.live, s.opened, s.shut ++ [xK o]⟩)
  else if o.k = 7 then (if xK o ∉ s.live then none else some ⟨remK s.live (xK o) false, s.opened, s.shut⟩)
  else none
def runR (l : List O) : Option RS := l.foldl (fun s o => s.bind fun s => rstep s o) (some ⟨[], [], []⟩)
def validR (l : List O) : Bool := (runR l).isSome
theorem runR_next {l : List O} {i : Nat} {o : O} (h : l[i]? = some o) : runR (l.take (i + 1)) = (runR (l.take i)).bind fun s => rstep s o := by
  rw [take_next h]
  simp [runR, List.foldl_append]
theorem foldl_none : ∀ (l : List O), l.foldl (fun (s : Option RS) o => s.bind fun s => rstep s o) none = none
  | [] => rfl
  | o :: l => by simpa using foldl_none l
theorem runR_none {l : List O} {i : Nat} (h : runR (l.take i) = none) : validR l = false := by
  have : runR l = none := by
    unfold runR at h ⊢
    rw [← List.take_append_drop i l, List.foldl_append, h]
    exact foldl_none _
  simp [validR, this]
/-- A list of endpoints in memory. -/
def Lv (w : World) (v : Value) (ks : List Key) (i : Nat) : Prop := (∃ b, Rd w 2 b v (rE ks)) ∧ (∀ k ∈ ks, okK k) ∧ ks.length ≤ i
section
variable {w : World} {v : Value} {ks : List Key} {i : Nat}
theorem Lv.touch {w' : World} (h : Lv w v ks i) (t : Touch [] w w') : Lv w' v ks i := by
  obtain ⟨⟨b, hr⟩, h2, h3⟩ := h
  exact ⟨⟨b, hr.touch t (by simp)⟩, h2, h3⟩
theorem Lv.more {j : Nat} (h : Lv w v ks i) (hij : i ≤ j) : Lv w v ks j := ⟨h.1, h.2.1, Nat.le_trans h.2.2 hij⟩
theorem Lv.nil (w : World) (i : Nat) : Lv w (.slice none 0 0) [] i := ⟨⟨0, by simpa [rE] using Rd.nil w 2 0⟩, by simp, by simp⟩
theorem Lv.contains (h : Lv w v ks i) (hi : i ≤ 10000000) (x : Key) (hx : okK x) : Calls Try.prog 46 #[v, .agg (encE x).toArray] w fun e w' => e = .returned (.bool (decide (x ∈ ks))) ∧ Touch [] w w' := by
  obtain ⟨⟨b, hr⟩, h2, h3⟩ := h
  exact contains_any v b ks x hx w hr h2 (by omega)
def Lv' (w : World) (ks : List Key) (i : Nat) (e : Ending) (w' : World) : Prop := ∃ v', e = .returned v' ∧ Lv w' v' ks i ∧ Touch [] w w'
theorem Lv.app (h : Lv w v ks i) (hi : i ≤ 10000000) (x : Key) (hx : okK x) : Calls Try.prog 47 #[v, .agg (encE x).toArray] w fun e w' => Lv' w (ks ++ [x]) (i + 1) e w' := by
  obtain ⟨⟨b, hr⟩, h2, h3⟩ := h
  refine (appendTo_any v b ks x w hr (by omega)).mono ?_
  rintro e w' ⟨v', rfl, ho, ht⟩
  exact ⟨v', rfl, ⟨⟨_, ho.rd (encE_lens _)⟩, by intro k hk; rcases List.mem_append.1 hk with hk | hk; exact h2 k hk; simp at hk; subst hk; exact hx, by simp; omega⟩, ht⟩
theorem Lv.rem (h : Lv w v ks i) (hi : i ≤ 10000000) (x : Key) (all : Bool) (hx : okK x) : Calls Try.prog 48 #[v, .agg (encE x).toArray, .bool all] w fun e w' => Lv' w (remK ks x all) (i + 1) e w' := by
  obtain ⟨⟨b, hr⟩, h2, h3⟩ := h
  refine (remove_any v b ks x all hx w hr h2 (by omega)).mono ?_
  rintro e w' ⟨v', rfl, ho, ht⟩
  exact ⟨v', rfl, ⟨⟨_, ho.rd (encE_lens _)⟩, fun k hk => h2 k (List.mem_filter.1 hk).1, by have := remK_len ks x all; omega⟩, ht⟩
end
end Go.Proofs.Ytmdnkhpkpmbeoaa

/-
  Maps told as lists of pairs: the two halves of 'm[k] = v' at whatever key. Plain lemmas over any program.
-/
namespace Go.Proofs.Ytmdnkhpkpmbeoaa
open Go.RowKit
open Go.Maps (Keyed)
open Go.MapKept (Stamped)
open Go.ChangeMaps (setBlock heap_setBlock_same heap_setBlock_other)
set_option linter.unusedVariables false
set_option linter.unusedSimpArgs false
set_option linter.unusedSectionVars false
section
variable {α : Type} [DecidableEq α] {P : Program} {k : TypeId} {enc : α → Value} {ok : α → Prop} {w : World} {b : Nat} {es : Array MapEntry} {clock : Nat} {kv : List (α × Value)}
theorem set_map_key (hn : (kv.map Prod.fst).Nodup) {j : Nat} {a : α} (hj : (kv[j]?).map Prod.fst = some a) (v : Value) : kv.set j (a, v) = kv.map fun p => if p.1 = a then (a, v) else p := by
  obtain ⟨q, hq, hqa⟩ : ∃ q, kv[j]? = some q ∧ q.1 = a := by
    cases h : kv[j]? with
    | none => simp [h] at hj
    | some q => exact ⟨q, rfl, by simpa [h] using hj⟩
  have hjl := (List.getElem?_eq_some_iff.1 hq).1
  apply List.ext_getElem?
  intro i
  rw [List.getElem?_set]
  by_cases hij : j = i
  · subst hij
    simp [hjl, (List.getElem?_eq_some_iff.1 hq).2, hqa]
  · simp only [hij, if_false, List.getElem?_map]
    cases hi : kv[i]? with
    | none => simp
    | some p =>
      have hne : p.1 ≠ a := by
        intro e
        have e1 : (kv.map Prod.fst)[i]? = some a := by simp [hi, e]
        have e2 : (kv.map Prod.fst)[j]? = some a := by simp [hq, hqa]
        obtain ⟨l1, q1⟩ := List.getElem?_eq_some_iff.1 e1
        obtain ⟨l2, q2⟩ := List.getElem?_eq_some_iff.1 e2
        exact hij (nodup_inj hn (q2.trans q1.symm))
      simp [hne]
/-- Between the halves: the entry of a, of the stamp st, waits for its value. -/
def Pend (enc : α → Value) (ok : α → Prop) (w : World) (b : Nat) (kv : List (α × Value)) (a : α) (st : Nat) : Prop :=
  ∃ es clock kv1 j, MpE enc ok w b es clock kv1 ∧ (es[j]?).map (·.born) = some st ∧ (kv1[j]?).map Prod.fst = some a ∧ ∀ v, kv1.set j (a, v) = put kv a v
theorem Pend.touch {S : List Nat} {w' : World} {a : α} {st : Nat} (h : Pend enc ok w b kv a st) (t : Touch S w w') (hb : b ∉ S) : Pend enc ok w' b kv a st := by
  obtain ⟨es, clock, kv1, j, h1, h2⟩ := h
  exact ⟨es, clock, kv1, j, h1.touch t hb, h2⟩
theorem Pend.lt {a : α} {st : Nat} (h : Pend enc ok w b kv a st) : b < w.heap.size := by
  obtain ⟨es, clock, kv1, j, h1, h2⟩ := h
  exact (Array.getElem?_eq_some_iff.1 h1.blk).1
theorem Mp.entry (E : KE P k enc ok) {t e : TypeId} (ht : P.underlying t = some (.map k e)) {z : Value} (hz : (zeroValue e).run P w = .ok z w) (h : Mp enc ok w b kv) {a : α} (ha : ok a) :
    ∃ w' x st, (Instr.mapEntry t (.map (some b)) (enc a)).run P w = .ok (.tuple #[x, .int .i64 (st : Nat)]) w' ∧ Pend enc ok w' b kv a st ∧ Touch [b] w w' ∧ w'.heap.size = w.heap.size := by
  obtain ⟨es, clock, h⟩ := h
  obtain ⟨l, hl⟩ := E.lit a ha
  rcases h.find E ha w with ⟨h1, h2⟩ | ⟨j, e0, h1, hj, h3, hkj, h2⟩
  · refine ⟨_, z, clock, h.entry E ht hz ha h2, ⟨_, _, kv ++ [(a, z)], kv.length, h.push E ha h2 z, ?_, by simp, fun v => ?_⟩, Touch.setBlock w b _, setBlock_size _ _ _⟩
    · rw [← h.size]
      simp
    · simp [put, h2]
  · have hm : es.modify j (fun e' => { e' with key := enc a }) = es := by
      apply Array.ext_getElem?
      intro i
      rw [Array.getElem?_modify]
      by_cases hi : j = i
      · subst hi
        rw [hj]
        simp only [if_pos rfl, Option.map_some]
        rw [← h3]
        simp
      · simp [hi]
    refine ⟨setBlock w b (.map es clock), e0.val, e0.born, ?_, ⟨es, clock, kv, j, ⟨heap_setBlock_same h.blk _, h.st, h.eq, h.oks⟩, by simp [hj], by simp [hkj], fun v => ?_⟩, Touch.setBlock w b _, setBlock_size _ _ _⟩
    · simp [Instr.mapEntry, run_underlying ht, MapKept.run_getObj_map h.blk, E.K.check w false hl, h1, hj, h3, E.K.stays w hl, hm, MapKept.run_setObj_map _ h.blk, Result.andThen, goInt, setBlock]
    · rw [set_map_key h.nodup (by simp [hkj])]
      simp [put, h2]
theorem Pend.fill (E : KE P k enc ok) {t : TypeId} {a : α} {st : Nat} (h : Pend enc ok w b kv a st) (v : Value) :
    ∃ w', (Instr.entryStore t (.map (some b)) (.int .i64 (st : Nat)) v).run P w = .ok () w' ∧ Mp enc ok w' b (put kv a v) ∧ Touch [b] w w' ∧ w'.heap.size = w.heap.size := by
  obtain ⟨es, clock, kv1, j, h, hb, hk, hp⟩ := h
  obtain ⟨e0, hj, rfl⟩ : ∃ e0, es[j]? = some e0 ∧ e0.born = st := by
    cases hh : es[j]? with
    | none => simp [hh] at hb
    | some e0 => exact ⟨e0, rfl, by simpa [hh] using hb⟩
  have hjs : j < es.size := (Array.getElem?_eq_some_iff.1 hj).1
  have hf : es.findIdx? (fun e => (e.born : Int) == (e0.born : Int)) = some j := by
    rw [Array.findIdx?_eq_some_iff_getElem]
    refine ⟨hjs, by simp [(Array.getElem?_eq_some_iff.1 hj).2], fun i hi => ?_⟩
    have hil : i < es.size := by omega
    have h2 := h.st.2.1
    simp only [Bool.not_eq_true, beq_eq_false_iff_ne, ne_eq]
    intro e
    have e1 : (es.toList.map (·.born))[i]'(by simpa using hil) = (es.toList.map (·.born))[j]'(by simpa using hjs) := by
      have := (Array.getElem?_eq_some_iff.1 hj).2
      simp [this]
      omega
    have := nodup_inj h2 e1
    omega
  obtain ⟨p, hpj, hpa⟩ : ∃ p, kv1[j]? = some p ∧ p.1 = a := by
    cases hh : kv1[j]? with
    | none => simp [hh] at hk
    | some q => exact ⟨q, rfl, by simpa [hh] using hk⟩
  obtain ⟨p', hp', hkey, hval⟩ := h.get hj
  rw [hpj] at hp'
  cases hp'
  refine ⟨setBlock w b (.map (es.modify j (fun e => { e with val := v })) clock), by simp [Instr.entryStore, MapKept.run_getObj_map h.blk, asInt, asIntOf, hf, MapKept.run_setObj_map _ h.blk, Result.andThen, setBlock], ⟨es.modify j (fun e => { e with val := v }), clock, heap_setBlock_same h.blk _, Go.MapKept.stamped_modify h.st j (fun e => { e with val := v }) (fun _ _ => rfl) (fun _ _ _ => rfl), ?_, ?_⟩, Touch.setBlock w b _, setBlock_size _ _ _⟩
  · rw [← hp v, Array.toList_modify, Go.ChangeMaps.modify_eq_set _ _ _ _ (by simpa using hj), List.map_set, h.eq, List.map_set, hkey, hpa]
  · intro q hq
    rw [← hp v] at hq
    rcases List.mem_or_eq_of_mem_set hq with hq | rfl
    · exact h.oks q hq
    · rw [← hpa]
      exact h.oks p (List.mem_of_getElem? hpj)
end
end Go.Proofs.Ytmdnkhpkpmbeoaa

/-
  The contract of the Addr heap's siftUp.
-/
import Derived.Test.YtpbabdoecjlifaaHo
import Derived.Test.YtpbabdoecjlifaaCiA
namespace Go.Proofs.Ytpbabdoecjlifaa.A
open Go.RowKit
set_option linter.unusedVariables false
set_option linter.unusedSimpArgs false

set_option maxRecDepth 100000 in
set_option maxHeartbeats 4000000 in
theorem up_any (h m : Nat) (v : Value) (its : List Itm) (kv : List (Int × Value)) (last : Int) (i : Nat) (x : Itm) (w : World) (k : Hp w h m v its kv last) (hx : its[i]? = some x) (hn : (its.map Itm.id).Nodup) (hix : IxB kv its i) (hu : Up Itm.key its i) :
    Calls Try.prog 52 #[.pointer (some ⟨h, 0, none⟩), .int .i64 i] w fun e w' => ∃ (j : Nat) (its' : List Itm) (kv' : List (Int × Value)), e = .returned (.int .i64 j) ∧ j < its.length ∧ Hp w' h m v its' kv' last ∧ its'.Perm its ∧ Down Itm.key its' j ∧ (Kids Itm.key its i → Heap Itm.key its') ∧
      (∀ (j : Nat) y, its'[j]? = some y → look kv' y.id = some (.int .i64 j)) ∧ (∀ id, (∀ y ∈ its, y.id ≠ id) → look kv' id = look kv id) ∧ Touch (m :: v.ownBlock.toList) w w' := by
  have hil := (List.getElem?_eq_some_iff.1 hx).1
  obtain ⟨av, cv, rfl, hv1, hv2, hv3⟩ := k.form
  obtain ⟨g, rfl, hgh, hgm⟩ := hv3 (by omega)
  obtain ⟨c0, c1, c2⟩ := k.cells
  have e0 := k.elem hx
  have HTB := Lib.hid ((Touch.refl [] w).alloc (.cells (encA x).toArray 95))
  have HGB := Lib.hid (heap_alloc_new w (.cells (encA x).toArray 95))
  have kB := Lib.hid (k.touch HTB.out (by simp))
  have hfew := k.few
  have HBg := Lib.hid (show w.heap.size ≠ g from fun e => by have := (k.row.lt g rfl).2; omega)
  have HBm := Lib.hid (show w.heap.size ≠ m from fun e => by have := k.mp.lt; omega)
  have HBn := Lib.hid (Nat.le_refl w.heap.size)
  have HST := Lib.hid (Hole.start hx hix)
  have HU := Lib.hid hu
  have H1x := Lib.hid (k.one x (List.mem_of_getElem? hx))
  have okx := k.oks x (List.mem_of_getElem? hx)
  have HN := Lib.hid hn
  have hii : (i : Int) < (its.length : Int) := by omega
  clear hu hix k hn hx
  go_enter Try.func52, Try.ntmps52
  go_wp2_with (first | ((with_reducible refine at_load 95 ?_); refine wpList_load_mid rfl 95 _ rfl g (i * 19) rfl (encA x) _ e0 Try.underlying95 rfl (by rw [infoA, H1x.out.enc]) ?_) | ((with_reducible refine at_store 95 ?_); refine wpList_store_new rfl 95 _ _ rfl _ _ (encA x) (by rfl) (by rfl) (by rw [H1x.out.enc]; rfl) (by rw [infoA, H1x.out.enc]) H1x.out.cells ?_))
  generalize w.alloc (.cells (encA x).toArray 95) = W at *
  generalize hB : w.heap.size = B at *
  clear c0 c1 c2 e0 hB HBn
  simp only [Act.put]
  go_loopw [1] (fun vi wr => ∃ (q : Nat) (A C : List Itm) (kv' : List (Int × Value)), vi = .int .i64 q ∧ Hp wr h m (.slice (some ⟨g, 0, none⟩) its.length cv) A kv' last ∧ Hole its A C kv kv' q x ∧ Up Itm.key C q ∧ (Kids Itm.key its i → Kids Itm.key C q) ∧ Touch [m, g] W wr) (fun vi _ => (intOf vi).toNat)
  case atStart => exact ⟨i, its, its, kv, rfl, kB.out, HST.out, HU.out, fun h => h, Touch.refl _ _⟩
  case round =>
    obtain ⟨q, A, C, kv', rfl, hp, hh, hup, hkd, ht⟩ := hrel
    have HP := Lib.hid hp
    have HH := Lib.hid hh
    have HUP := Lib.hid hup
    have HKD := Lib.hid hkd
    have HTR := Lib.hid ht
    have hAl := hh.len
    have hql := hh.il
    have HBX := Lib.hid (show B ∉ [m, g] by simp; exact ⟨HBm.out, HBg.out⟩)
    clear hp hh hup hkd ht
    by_cases hq : 0 < q
    · have hqi : (0 : Int) < (q : Int) := by omega
      have hpq : par q < q := by unfold par; omega
      have hpl : par q < A.length := by omega
      have hpi : par q < its.length := by omega
      obtain ⟨y, hy⟩ : ∃ y, A[par q]? = some y := ⟨_, List.getElem?_eq_getElem hpl⟩
      have hpar : ((q : Int) - 1).tdiv 2 = ((par q : Nat) : Int) := by unfold par; rw [Int.tdiv_eq_ediv_of_nonneg (by omega)]; omega
      have HY := Lib.hid hy
      have HOY := Lib.hid (HP.out.one y (List.mem_of_getElem? hy))
      have hpii : ((par q : Nat) : Int) < (its.length : Int) := by omega
      have HPL := Lib.hid hpl
      clear hy hpl
      go_wp2_with fail
      generalize hpqe : par q = p at *
      refine wp_region_held (S := Touch [] wr.drew) (by kernel_rfl) ?_
      change wpAnyH _ _ _ _ _ _ _ _ wr.drew
      have tD := (Touch.refl [] wr).drew
      have HPX := Lib.hid (HP.out.touch tD (by simp))
      have HTX := Lib.hid (HTR.out.trans tD (by simp))
      generalize wr.drew = X at *
      clear tD HP HTR
      have hS := Touch.refl [] X
      obtain ⟨c0, _, _⟩ := HPX.out.cells
      have ra := HPX.out.elem HY.out
      have rb := range_block (HTX.out.at HGB.out HBX.out)
      refine wpAnyH_take (i := 0) (oi := { dst := some 19, op := Op.move (Operand.tmp 0), type := 55, pos := "heap.go:42", after := #[], guard := none }) (v := .pointer (some ⟨h, 0, none⟩)) rfl (by kernel_rfl) (by kernel_rfl) (by kernel_rfl) (fun _ _ _ h => h) (Or.inl ⟨by rfl, fun w' hw => by go_simp⟩) hS ?_
      try simp only [Act.put, List.setIfInBounds_toArray, List.set_cons_zero, List.set_cons_succ]
      refine wpAnyH_take (i := 1) (oi := { dst := some 20, op := Op.nilCheck (Operand.tmp 19), type := 0, pos := "heap.go:42", after := #[{ on := 0, ground := Ground.data }], guard := none }) (v := .pointer (some ⟨h, 0, none⟩)) rfl (by kernel_rfl) (by kernel_rfl) (by kernel_rfl) (fun _ _ _ h => h) (Or.inl ⟨by rfl, fun w' hw => by go_simp⟩) hS ?_
      try simp only [Act.put, List.setIfInBounds_toArray, List.set_cons_zero, List.set_cons_succ]
      refine wpAnyH_take (i := 2) (oi := { dst := some 21, op := Op.fieldAddr 90 (Operand.tmp 20) 0, type := 0, pos := "heap.go:42", after := #[{ on := 1, ground := Ground.data }], guard := none }) (v := .pointer (some ⟨h, 0, none⟩)) rfl (by kernel_rfl) (by kernel_rfl) (by kernel_rfl) (fun _ _ _ h => h) (Or.inl ⟨by rfl, fun w' hw => by go_simp⟩) hS ?_
      try simp only [Act.put, List.setIfInBounds_toArray, List.set_cons_zero, List.set_cons_succ]
      refine wpAnyH_take (i := 3) (oi := { dst := some 22, op := Op.load 88 (Operand.tmp 21), type := 88, pos := "heap.go:42", after := #[{ on := 2, ground := Ground.data }], guard := none }) (v := .slice (some ⟨g, 0, none⟩) its.length cv) rfl (by kernel_rfl) (by kernel_rfl) (by kernel_rfl) (fun _ _ _ h => h) (Or.inl ⟨by rfl, fun w' hw => by (have q := hw.cell c0 (by simp); go_simp)⟩) hS ?_
      try simp only [Act.put, List.setIfInBounds_toArray, List.set_cons_zero, List.set_cons_succ]
      refine wpAnyH_take (i := 4) (oi := { dst := some 23, op := Op.move (Operand.tmp 6), type := 3, pos := "heap.go:42", after := #[], guard := none }) (v := .int .i64 (p : Nat)) rfl (by kernel_rfl) (by kernel_rfl) (by kernel_rfl) (fun _ _ _ h => h) (Or.inl ⟨by rfl, fun w' hw => by go_simp⟩) hS ?_
      try simp only [Act.put, List.setIfInBounds_toArray, List.set_cons_zero, List.set_cons_succ]
      refine wpAnyH_take (i := 5) (oi := { dst := some 24, op := Op.indexAddr 88 (Operand.tmp 22) (Operand.tmp 23), type := 0, pos := "heap.go:42", after := #[{ on := 3, ground := Ground.data }, { on := 4, ground := Ground.data }], guard := none }) (v := .pointer (some ⟨g, p * 19, none⟩)) rfl (by kernel_rfl) (by kernel_rfl) (by kernel_rfl) (fun _ _ _ h => h) (Or.inl ⟨by rfl, fun w' hw => by (have q0 := hpii; have q1 := hpi; go_simp)⟩) hS ?_
      try simp only [Act.put, List.setIfInBounds_toArray, List.set_cons_zero, List.set_cons_succ]
      refine wpAnyH_take (i := 6) (oi := { dst := some 25, op := Op.load 95 (Operand.tmp 24), type := 95, pos := "heap.go:42", after := #[{ on := 5, ground := Ground.data }], guard := none }) (v := .agg (encA y).toArray) rfl (by kernel_rfl) (by kernel_rfl) (by kernel_rfl) (fun _ _ _ h => h) (Or.inl ⟨by rfl, fun w' hw => exec_load_agg _ 95 _ rfl _ _ rfl (encA y) _ (hw.range ra (by simp)) Try.underlying95 rfl (by rw [infoA, HOY.out.enc])⟩) hS ?_
      try simp only [Act.put, List.setIfInBounds_toArray, List.set_cons_zero, List.set_cons_succ]
      refine wpAnyH_take (i := 7) (oi := { dst := some 26, op := Op.load 95 (Operand.tmp 5), type := 95, pos := "heap.go:42", after := #[], guard := none }) (v := .agg (encA x).toArray) rfl (by kernel_rfl) (by kernel_rfl) (by kernel_rfl) (fun _ _ _ h => h) (Or.inl ⟨by rfl, fun w' hw => exec_load_agg _ 95 _ rfl _ _ rfl (encA x) _ (hw.range rb (by simp)) Try.underlying95 rfl (by rw [infoA, H1x.out.enc])⟩) hS ?_
      try simp only [Act.put, List.setIfInBounds_toArray, List.set_cons_zero, List.set_cons_succ]
      refine wpAnyH_ready (rs := [8]) (by kernel_rfl) (by simp) ?_
      refine AllReadyH.cons (o := { dst := some 27, op := Op.call { callee := Callee.value (Operand.func 56), args := #[Operand.tmp 25, Operand.tmp 26], argTypes := #[95, 95] }, type := 3, pos := "heap.go:42", after := #[{ on := 6, ground := Ground.data }, { on := 7, ground := Ground.data }], guard := none }) rfl (fun K hK => ?_) AllReadyH.nil
      go_simp
      refine (cmp_quiet y x _).mono ?_
      rintro e w5 ⟨rfl, t5⟩
      have hS2 := hS.trans t5 (by simp)
      refine hK.out _ _ hS2 (fun _ => ?_)
      clear hK K hS t5
      have hS := hS2
      clear hS2
      try simp only [Act.put, List.setIfInBounds_toArray, List.set_cons_zero, List.set_cons_succ]
      refine wpAnyH_take (i := 9) (oi := { dst := some 28, op := Op.binOp BinOp.leq 3 (Operand.tmp 27) (Operand.const (Value.int IntKind.i64 0)) 3, type := 4, pos := "heap.go:42", after := #[{ on := 8, ground := Ground.data }], guard := none }) (v := .bool (decide (cmpT y.key x.key ≤ 0))) rfl (by kernel_rfl) (by kernel_rfl) (by kernel_rfl) (fun _ _ _ h => h) (Or.inl ⟨by rfl, fun w' hw => by go_simp⟩) hS ?_
      try simp only [Act.put, List.setIfInBounds_toArray, List.set_cons_zero, List.set_cons_succ]
      refine wpAnyH_done (by kernel_rfl) ?_ _
      try simp only [Act.put, List.setIfInBounds_toArray, List.set_cons_zero, List.set_cons_succ]
      have HP5 := Lib.hid (HPX.out.touch hS (by simp))
      have HT5 := Lib.hid (HTX.out.trans hS (by simp))
      clear hS c0 ra rb HPX HTX
      by_cases hle : cmpT y.key x.key ≤ 0
      · have rb := range_block (HT5.out.at HGB.out HBX.out)
        go_wp2_with ((with_reducible refine at_load 95 ?_); refine wpList_load_mid rfl 95 _ rfl B (0) rfl (encA x) _ rb Try.underlying95 rfl (by rw [infoA, H1x.out.enc]) ?_)
        refine (set_any h m _ A kv' last q x w5 HP5.out (by omega) H1x.out okx).mono ?_
        rintro e w2 ⟨rfl, hp2, t2⟩
        have T2 : Touch [m, g] w w2 := ((HTB.out.mono (S' := [m, g]) (by simp)).trans HT5.out (fun y hy => .inl hy)).trans t2 (by intro y hy; simp [Value.ownBlock] at hy; rcases hy with rfl | rfl <;> simp)
        have HP2 := Lib.hid hp2
        clear hp2 t2 rb
        have HE := Lib.hid (show Edge Itm.key C q from by
          intro a b ha hb
          rw [hpqe, HH.out.other (by omega), HY.out] at ha
          rw [HH.out.at_i] at hb
          cases ha
          cases hb
          exact (cmpT_le _ _).1 hle)
        go_wp2_with fail
        go_ret
        exact ⟨q, C, _, rfl, by omega, by rw [HH.out.c]; exact HP2.out, HH.out.perm, HUP.out.stop (.inr HE.out), fun hs => (HUP.out.stop (.inr HE.out)).stop (HKD.out hs), (HH.out.fin HN.out).1, (HH.out.fin HN.out).2, T2⟩
      · obtain ⟨c0, c1, c2⟩ := HP5.out.cells
        have ry := HP5.out.elem HY.out
        have hym := List.mem_of_getElem? HY.out
        have HL := Lib.hid (show lt x.key y.key by
          rcases le_total y.key x.key with h1 | h1
          · exact absurd ((cmpT_le _ _).2 h1) hle
          · exact h1)
        go_wp2_with ((with_reducible refine at_load 95 ?_); refine wpList_load_mid rfl 95 _ rfl g (p * 19) rfl (encA y) _ ry Try.underlying95 rfl (by rw [infoA, HOY.out.enc]) ?_)
        refine (set_any h m _ A kv' last q y w5 HP5.out (by omega) HOY.out (HP5.out.oks y hym)).mono ?_
        rintro e w2 ⟨rfl, hp2, t2⟩
        have T2 : Touch [m, g] W w2 := HT5.out.trans t2 (by intro y hy; simp [Value.ownBlock] at hy; rcases hy with rfl | rfl <;> simp)
        have HP2 := Lib.hid hp2
        have HM := Lib.hid (HH.out.move HN.out (p := p) (by omega) HY.out)
        have HS := Lib.hid (show Up Itm.key ((C.set q y).set p x) p by
          have := HUP.out.step (y := y) (by omega) HH.out.at_i (by rw [HH.out.other (by omega), hpqe]; exact HY.out) HL.out
          rwa [hpqe] at this)
        have HK2 := Lib.hid (show Kids Itm.key ((C.set q y).set p x) p by
          have := HUP.out.kids (y := y) (by omega) HH.out.at_i (by rw [HH.out.other (by omega), hpqe]; exact HY.out) HL.out
          rwa [hpqe] at this)
        clear hp2 t2 c0 c1 c2 ry
        go_wp2_with fail
        go_roundw
        case rel => exact ⟨p, _, _, _, rfl, HP2.out, HM.out, HS.out, fun _ => HK2.out, T2⟩
        case measure => simp [intOf]; omega
    · have rb := range_block (HTR.out.at HGB.out HBX.out)
      go_wp2_with ((with_reducible refine at_load 95 ?_); refine wpList_load_mid rfl 95 _ rfl B (0) rfl (encA x) _ rb Try.underlying95 rfl (by rw [infoA, H1x.out.enc]) ?_)
      refine (set_any h m _ A kv' last q x wr HP.out (by omega) H1x.out okx).mono ?_
      rintro e w2 ⟨rfl, hp2, t2⟩
      have T2 : Touch [m, g] w w2 := ((HTB.out.mono (S' := [m, g]) (by simp)).trans HTR.out (fun y hy => .inl hy)).trans t2 (by intro y hy; simp [Value.ownBlock] at hy; rcases hy with rfl | rfl <;> simp)
      have HP2 := Lib.hid hp2
      clear hp2 t2 rb
      go_wp2_with fail
      go_ret
      exact ⟨q, C, _, rfl, by omega, by rw [HH.out.c]; exact HP2.out, HH.out.perm, HUP.out.stop (.inl (by omega)), fun hs => (HUP.out.stop (.inl (by omega))).stop (HKD.out hs), (HH.out.fin HN.out).1, (HH.out.fin HN.out).2, T2⟩
end Go.Proofs.Ytpbabdoecjlifaa.A

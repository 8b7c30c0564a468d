/-
  The contract of siftDown.
-/
import Derived.Test.YtpbabdoecjlifaaHo
import Derived.Test.YtpbabdoecjlifaaCiS
namespace Go.Proofs.Ytpbabdoecjlifaa.S
open Go.RowKit
set_option linter.unusedVariables false
set_option linter.unusedSimpArgs false

set_option maxRecDepth 100000 in
set_option maxHeartbeats 4000000 in
theorem down_any (h m : Nat) (v : Value) (its : List Itm) (kv : List (Int × Value)) (last : Int) (i : Nat) (x : Itm) (w : World) (k : Hp w h m v its kv last) (hx : its[i]? = some x) (hn : (its.map Itm.id).Nodup) (hix : IxB kv its i) (hu : Down Itm.key its i) :
    Calls Try.prog 92 #[.pointer (some ⟨h, 0, none⟩), .int .i64 i] w fun e w' => ∃ (its' : List Itm) (kv' : List (Int × Value)), e = .returned (.tuple #[]) ∧ Hp w' h m v its' kv' last ∧ its'.Perm its ∧ Heap Itm.key its' ∧
      (∀ (j : Nat) y, its'[j]? = some y → look kv' y.id = some (.int .i64 j)) ∧ (∀ id, (∀ y ∈ its, y.id ≠ id) → look kv' id = look kv id) ∧ Touch (m :: v.ownBlock.toList) w w' := by
  have hil := (List.getElem?_eq_some_iff.1 hx).1
  obtain ⟨av, cv, rfl, hv1, hv2, hv3⟩ := k.form
  obtain ⟨g, rfl, hgh, hgm⟩ := hv3 (by omega)
  obtain ⟨c0, c1, c2⟩ := k.cells
  obtain ⟨e0, e1, e2⟩ := k.elem hx
  have tB := (Touch.refl [] w).alloc (.cells #[.int .i64 x.id, .int .u64 x.due, x.x] 97)
  have gB := heap_alloc_new w (.cells #[.int .i64 x.id, .int .u64 x.due, x.x] 97)
  have kB := Lib.hid (k.touch tB (by simp))
  have hfew := k.few
  have hlt := k.lt
  have hgl : g < w.heap.size := hlt g (by simp [Hp.foot, Value.ownBlock])
  have hml : m < w.heap.size := hlt m (by simp [Hp.foot])
  have HST := Lib.hid (Hole.start hx hix)
  have HU := Lib.hid hu
  have h1x := k.one x (List.mem_of_getElem? hx)
  have okx := k.oks x (List.mem_of_getElem? hx)
  have HN := Lib.hid hn
  clear hu hix hlt k hn hx
  go_enter Try.func92, Try.ntmps92
  go_wp2_with (refine wpList_store_new rfl 97 _ _ rfl _ _ [.int .i64 x.id, .int .u64 x.due, x.x] (by rfl) (by rfl) rfl infoE (by intro u hu; simp at hu; rcases hu with rfl | rfl | rfl; rfl; rfl; exact h1x) ?_)
  have zB : (w.alloc (.cells #[.int .i64 x.id, .int .u64 x.due, x.x] 97)).heap.size = w.heap.size + 1 := by simp
  generalize w.alloc (.cells #[.int .i64 x.id, .int .u64 x.due, x.x] 97) = W at *
  generalize hB : w.heap.size = B at *
  have hBg : B ≠ g := by omega
  have hBm : B ≠ m := by omega
  clear c0 c1 c2 e0 e1 e2
  simp only [Act.put]
  go_loopw [1] (fun vi wr => ∃ (q : Nat) (A C : List Itm) (kv' : List (Int × Value)), vi = .int .i64 q ∧ Hp wr h m (.slice (some ⟨g, 0, none⟩) its.length cv) A kv' last ∧ Hole its A C kv kv' q x ∧ Down Itm.key C q ∧ Touch [m, g] W wr) (fun vi _ => its.length - (intOf vi).toNat)
  case atStart => exact ⟨i, its, its, kv, rfl, kB.out, HST.out, HU.out, Touch.refl _ _⟩
  case round =>
    obtain ⟨q, A, C, kv', rfl, hp, hh, hup, ht⟩ := hrel
    have HP := Lib.hid hp
    have HH := Lib.hid hh
    have HUP := Lib.hid hup
    have hAl := hh.len
    have hql := hh.il
    clear hp hh hup
    obtain ⟨c, hc⟩ : ∃ c, c = 2 * q + 1 := ⟨_, rfl⟩
    obtain ⟨d, hd⟩ : ∃ d, d = c + 1 := ⟨_, rfl⟩
    have hcI : 2 * (q : Int) + 1 = (c : Int) := by omega
    have hdI : IntKind.i64.wrap ((c : Int) + 1) = (d : Int) := by rw [IntKind.wrap_i64] <;> omega
    have hcw : IntKind.i64.wrap (2 * (q : Int) + 1) = (c : Int) := by rw [IntKind.wrap_i64] <;> omega
    have hq2 : IntKind.i64.wrap (2 * (q : Int)) = 2 * (q : Int) := by rw [IntKind.wrap_i64] <;> omega
    have HC := Lib.hid hc
    have HD := Lib.hid hd
    clear hc hd hcI
    go_wp2_with fail
    have hc := HC.out
    have hd := HD.out
    by_cases h1 : d < its.length
    · have hy := List.getElem?_eq_getElem (l := A) (i := c) (by omega)
      have hz := List.getElem?_eq_getElem (l := A) (i := d) (by omega)
      generalize A[c]'(by omega) = y at hy
      generalize A[d]'(by omega) = z at hz
      have HY := Lib.hid hy
      have HZ := Lib.hid hz
      clear hy hz
      obtain ⟨c0, c1, c2⟩ := HP.out.cells
      obtain ⟨y0, y1, y2⟩ := HP.out.elem HY.out
      obtain ⟨z0, z1, z2⟩ := HP.out.elem HZ.out
      have hd1 : decide ((d : Int) < (its.length : Int)) = true := by simpa using h1
      have hd2 : (d : Int) < (its.length : Int) := by omega
      have hd3 : (c : Int) < (its.length : Int) := by omega
      have hd4 : c < its.length := by omega
      clear hc hd
      refine wp_region_still_tail 24 (by kernel_rfl) (by kernel_rfl) ?_
      simp only [List.take_succ_cons, List.take_zero, List.drop_succ_cons, List.drop_zero]
      iterate 24 still_step
      refine wpStill_nil ?_
      change wpList _ _ _ _ _ wr.drew
      go_wp2_with fail
      refine (cmp_quiet z y _).mono ?_
      rintro e w5 ⟨rfl, t5⟩
      have t6 : Touch [] wr w5 := ((Touch.refl [] wr).drew).trans t5 (by simp)
      have HP5 := Lib.hid (HP.out.touch t6 (by simp))
      have T6 : Touch [m, g] W w5 := ht.trans t6 (by simp)
      obtain ⟨b0, b1, b2⟩ := cells_three (T6.at gB (by simp; exact ⟨hBm, hBg⟩))
      clear t5 t6 HP ht y0 y1 y2 z0 z1 z2 c0 c1 c2
      by_cases hlz : cmpT z.key y.key < 0
      · have HMIN := Lib.hid (show ∀ (b : Nat) (u : Itm), 1 ≤ b → par b = q → C[b]? = some u → le z.key u.key by
          intro b u hb hpb hu
          have e1 : b = c ∨ b = d := by (have := HC.out; have := HD.out; unfold par at hpb; omega)
          rcases e1 with rfl | rfl
          · rw [HH.out.other (by have := HC.out; omega), HY.out] at hu
            cases hu
            exact lt_le ((cmpT_lt _ _).1 hlz)
          · rw [HH.out.other (by have := HC.out; have := HD.out; omega), HZ.out] at hu
            cases hu
            exact le_refl _)
        go_wp2_with fail

        obtain ⟨c0, c1, c2⟩ := HP5.out.cells
        obtain ⟨y0, y1, y2⟩ := HP5.out.elem HZ.out
        have hdl : d < its.length := by exact h1
        have hdi : (d : Int) < (its.length : Int) := by omega
        have hge : decide ((its.length : Int) ≤ (d : Int)) = false := by simpa using hdl
        refine wp_region_still_tail 16 (by kernel_rfl) (by kernel_rfl) ?_
        simp only [List.take_succ_cons, List.take_zero, List.drop_succ_cons, List.drop_zero]
        iterate 16 still_step
        refine wpStill_nil ?_
        change wpList _ _ _ _ _ w5.drew
        go_wp2_with fail
        refine (cmp_quiet x z _).mono ?_
        rintro e w6 ⟨rfl, t6⟩
        have t7 : Touch [] w5 w6 := ((Touch.refl [] w5).drew).trans t6 (by simp)
        have HP6 := Lib.hid (HP5.out.touch t7 (by simp))
        have T7 : Touch [m, g] W w6 := T6.trans t7 (by simp)
        obtain ⟨b0, b1, b2⟩ := cells_three (T7.at gB (by simp; exact ⟨hBm, hBg⟩))
        clear t6 t7 HP5 T6 y0 y1 y2 c0 c1 c2
        have HX := Lib.hid (show d = 2 * q + 1 ∨ d = 2 * q + 2 by (have := HC.out; have := HD.out; omega))
        have hpc : par d = q ∧ 1 ≤ d ∧ q < d := by (have := HX.out; unfold par; omega)
        have HPC := Lib.hid hpc
        clear hpc
        by_cases hle : cmpT x.key z.key ≤ 0
        · go_wp2_with fail
          refine (set_any h m _ A kv' last q x.id x.due x.x w6 HP6.out (by omega) h1x okx).mono ?_
          rintro e w2 ⟨rfl, hp2, t2⟩
          have T2 : Touch [m, g] w w2 := ((tB.mono (S' := [m, g]) (by simp)).trans T7 (by simp)).trans t2 (by intro y hy; simp [Value.ownBlock] at hy; rcases hy with rfl | rfl <;> simp)
          have HP2 := Lib.hid hp2
          clear hp2 t2 b0 b1 b2
          have HE := Lib.hid (HUP.out.stop (by
            intro b hb hpb a u ha hu
            rw [hpb, HH.out.at_i] at ha
            cases ha
            exact le_trans ((cmpT_le _ _).1 hle) (HMIN.out b u hb hpb hu)))
          go_wp2_with fail
          exact end0 rfl rfl ⟨C, _, rfl, by rw [HH.out.c]; exact HP2.out, HH.out.perm, HE.out, (HH.out.fin HN.out).1, (HH.out.fin HN.out).2, T2⟩
        · obtain ⟨c0, c1, c2⟩ := HP6.out.cells
          obtain ⟨y0, y1, y2⟩ := HP6.out.elem HZ.out
          have hym := List.mem_of_getElem? HZ.out
          have hltk : lt z.key x.key := by
            rcases le_total x.key z.key with h1 | h1
            · exact absurd ((cmpT_le _ _).2 h1) hle
            · exact h1
          have HL := Lib.hid hltk
          clear hltk
          go_wp2_with fail
          refine (set_any h m _ A kv' last q z.id z.due z.x w6 HP6.out (by omega) (HP6.out.one z hym) (HP6.out.oks z hym)).mono ?_
          rintro e w2 ⟨rfl, hp2, t2⟩
          have T2 : Touch [m, g] W w2 := T7.trans t2 (by intro y hy; simp [Value.ownBlock] at hy; rcases hy with rfl | rfl <;> simp)
          have HP2 := Lib.hid hp2
          have HM := Lib.hid (HH.out.move HN.out (p := d) (by have := HPC.out; omega) HZ.out)
          have HS := Lib.hid (HUP.out.step HPC.out.2.1 HPC.out.1 HH.out.at_i (by rw [HH.out.other (by have := HPC.out; omega)]; exact HZ.out) HL.out HMIN.out)
          clear hp2 t2 b0 b1 b2 c0 c1 c2 y0 y1 y2
          go_wp2_with fail
          go_roundw
          case rel => exact ⟨d, _, _, _, rfl, HP2.out, HM.out, HS.out, T2⟩
          case measure => (have := HPC.out; simp [intOf]; omega)

      · have HMIN := Lib.hid (show ∀ (b : Nat) (u : Itm), 1 ≤ b → par b = q → C[b]? = some u → le y.key u.key by
          intro b u hb hpb hu
          have e1 : b = c ∨ b = d := by (have := HC.out; have := HD.out; unfold par at hpb; omega)
          rcases e1 with rfl | rfl
          · rw [HH.out.other (by have := HC.out; omega), HY.out] at hu
            cases hu
            exact le_refl _
          · rw [HH.out.other (by have := HC.out; have := HD.out; omega), HZ.out] at hu
            cases hu
            rcases le_total y.key z.key with h1 | h1
            · exact h1
            · exact absurd ((cmpT_lt _ _).2 h1) hlz)
        go_wp2_with fail

        obtain ⟨c0, c1, c2⟩ := HP5.out.cells
        obtain ⟨y0, y1, y2⟩ := HP5.out.elem HY.out
        have hdl : c < its.length := by exact hd4
        have hdi : (c : Int) < (its.length : Int) := by omega
        have hge : decide ((its.length : Int) ≤ (c : Int)) = false := by simpa using hdl
        refine wp_region_still_tail 16 (by kernel_rfl) (by kernel_rfl) ?_
        simp only [List.take_succ_cons, List.take_zero, List.drop_succ_cons, List.drop_zero]
        iterate 16 still_step
        refine wpStill_nil ?_
        change wpList _ _ _ _ _ w5.drew
        go_wp2_with fail
        refine (cmp_quiet x y _).mono ?_
        rintro e w6 ⟨rfl, t6⟩
        have t7 : Touch [] w5 w6 := ((Touch.refl [] w5).drew).trans t6 (by simp)
        have HP6 := Lib.hid (HP5.out.touch t7 (by simp))
        have T7 : Touch [m, g] W w6 := T6.trans t7 (by simp)
        obtain ⟨b0, b1, b2⟩ := cells_three (T7.at gB (by simp; exact ⟨hBm, hBg⟩))
        clear t6 t7 HP5 T6 y0 y1 y2 c0 c1 c2
        have HX := Lib.hid (show c = 2 * q + 1 ∨ c = 2 * q + 2 by (have := HC.out; have := HD.out; omega))
        have hpc : par c = q ∧ 1 ≤ c ∧ q < c := by (have := HX.out; unfold par; omega)
        have HPC := Lib.hid hpc
        clear hpc
        by_cases hle : cmpT x.key y.key ≤ 0
        · go_wp2_with fail
          refine (set_any h m _ A kv' last q x.id x.due x.x w6 HP6.out (by omega) h1x okx).mono ?_
          rintro e w2 ⟨rfl, hp2, t2⟩
          have T2 : Touch [m, g] w w2 := ((tB.mono (S' := [m, g]) (by simp)).trans T7 (by simp)).trans t2 (by intro y hy; simp [Value.ownBlock] at hy; rcases hy with rfl | rfl <;> simp)
          have HP2 := Lib.hid hp2
          clear hp2 t2 b0 b1 b2
          have HE := Lib.hid (HUP.out.stop (by
            intro b hb hpb a u ha hu
            rw [hpb, HH.out.at_i] at ha
            cases ha
            exact le_trans ((cmpT_le _ _).1 hle) (HMIN.out b u hb hpb hu)))
          go_wp2_with fail
          exact end0 rfl rfl ⟨C, _, rfl, by rw [HH.out.c]; exact HP2.out, HH.out.perm, HE.out, (HH.out.fin HN.out).1, (HH.out.fin HN.out).2, T2⟩
        · obtain ⟨c0, c1, c2⟩ := HP6.out.cells
          obtain ⟨y0, y1, y2⟩ := HP6.out.elem HY.out
          have hym := List.mem_of_getElem? HY.out
          have hltk : lt y.key x.key := by
            rcases le_total x.key y.key with h1 | h1
            · exact absurd ((cmpT_le _ _).2 h1) hle
            · exact h1
          have HL := Lib.hid hltk
          clear hltk
          go_wp2_with fail
          refine (set_any h m _ A kv' last q y.id y.due y.x w6 HP6.out (by omega) (HP6.out.one y hym) (HP6.out.oks y hym)).mono ?_
          rintro e w2 ⟨rfl, hp2, t2⟩
          have T2 : Touch [m, g] W w2 := T7.trans t2 (by intro y hy; simp [Value.ownBlock] at hy; rcases hy with rfl | rfl <;> simp)
          have HP2 := Lib.hid hp2
          have HM := Lib.hid (HH.out.move HN.out (p := c) (by have := HPC.out; omega) HY.out)
          have HS := Lib.hid (HUP.out.step HPC.out.2.1 HPC.out.1 HH.out.at_i (by rw [HH.out.other (by have := HPC.out; omega)]; exact HY.out) HL.out HMIN.out)
          clear hp2 t2 b0 b1 b2 c0 c1 c2 y0 y1 y2
          go_wp2_with fail
          go_roundw
          case rel => exact ⟨c, _, _, _, rfl, HP2.out, HM.out, HS.out, T2⟩
          case measure => (have := HPC.out; simp [intOf]; omega)

    · obtain ⟨c0, c1, c2⟩ := HP.out.cells
      have HD1 := Lib.hid h1
      have hd1 : decide (d < its.length) = false := by simpa using h1
      clear h1 hc hd
      go_quiet (fail)
      clear hd1
      have t6 : Touch [] wr (wr.drewN nq) := (Touch.refl [] wr).drews _
      have HP5 := Lib.hid (HP.out.touch t6 (by simp))
      have T6 : Touch [m, g] W (wr.drewN nq) := ht.trans t6 (by simp)
      generalize wr.drewN nq = w5 at *
      obtain ⟨b0, b1, b2⟩ := cells_three (T6.at gB (by simp; exact ⟨hBm, hBg⟩))
      clear t6 HP ht c0 c1 c2
      by_cases h2 : c < its.length
      · have hy := List.getElem?_eq_getElem (l := A) (i := c) (by omega)
        generalize A[c]'(by omega) = y at hy
        have HY := Lib.hid hy
        clear hy
        have HMIN := Lib.hid (show ∀ (b : Nat) (u : Itm), 1 ≤ b → par b = q → C[b]? = some u → le y.key u.key by
          intro b u hb hpb hu
          have hbl := (List.getElem?_eq_some_iff.1 hu).1
          have e1 : b = c := by (have := HC.out; have := HD.out; have := HD1.out; have := HH.out.c; have e2 : C.length = its.length := HH.out.perm.length_eq; unfold par at hpb; omega)
          subst e1
          rw [HH.out.other (by have := HC.out; omega), HY.out] at hu
          cases hu
          exact le_refl _)
        go_wp2_with fail

        obtain ⟨c0, c1, c2⟩ := HP5.out.cells
        obtain ⟨y0, y1, y2⟩ := HP5.out.elem HY.out
        have hdl : c < its.length := by exact h2
        have hdi : (c : Int) < (its.length : Int) := by omega
        have hge : decide ((its.length : Int) ≤ (c : Int)) = false := by simpa using hdl
        refine wp_region_still_tail 16 (by kernel_rfl) (by kernel_rfl) ?_
        simp only [List.take_succ_cons, List.take_zero, List.drop_succ_cons, List.drop_zero]
        iterate 16 still_step
        refine wpStill_nil ?_
        change wpList _ _ _ _ _ w5.drew
        go_wp2_with fail
        refine (cmp_quiet x y _).mono ?_
        rintro e w6 ⟨rfl, t6⟩
        have t7 : Touch [] w5 w6 := ((Touch.refl [] w5).drew).trans t6 (by simp)
        have HP6 := Lib.hid (HP5.out.touch t7 (by simp))
        have T7 : Touch [m, g] W w6 := T6.trans t7 (by simp)
        obtain ⟨b0, b1, b2⟩ := cells_three (T7.at gB (by simp; exact ⟨hBm, hBg⟩))
        clear t6 t7 HP5 T6 y0 y1 y2 c0 c1 c2
        have HX := Lib.hid (show c = 2 * q + 1 ∨ c = 2 * q + 2 by (have := HC.out; have := HD.out; omega))
        have hpc : par c = q ∧ 1 ≤ c ∧ q < c := by (have := HX.out; unfold par; omega)
        have HPC := Lib.hid hpc
        clear hpc
        by_cases hle : cmpT x.key y.key ≤ 0
        · go_wp2_with fail
          refine (set_any h m _ A kv' last q x.id x.due x.x w6 HP6.out (by omega) h1x okx).mono ?_
          rintro e w2 ⟨rfl, hp2, t2⟩
          have T2 : Touch [m, g] w w2 := ((tB.mono (S' := [m, g]) (by simp)).trans T7 (by simp)).trans t2 (by intro y hy; simp [Value.ownBlock] at hy; rcases hy with rfl | rfl <;> simp)
          have HP2 := Lib.hid hp2
          clear hp2 t2 b0 b1 b2
          have HE := Lib.hid (HUP.out.stop (by
            intro b hb hpb a u ha hu
            rw [hpb, HH.out.at_i] at ha
            cases ha
            exact le_trans ((cmpT_le _ _).1 hle) (HMIN.out b u hb hpb hu)))
          go_wp2_with fail
          exact end0 rfl rfl ⟨C, _, rfl, by rw [HH.out.c]; exact HP2.out, HH.out.perm, HE.out, (HH.out.fin HN.out).1, (HH.out.fin HN.out).2, T2⟩
        · obtain ⟨c0, c1, c2⟩ := HP6.out.cells
          obtain ⟨y0, y1, y2⟩ := HP6.out.elem HY.out
          have hym := List.mem_of_getElem? HY.out
          have hltk : lt y.key x.key := by
            rcases le_total x.key y.key with h1 | h1
            · exact absurd ((cmpT_le _ _).2 h1) hle
            · exact h1
          have HL := Lib.hid hltk
          clear hltk
          go_wp2_with fail
          refine (set_any h m _ A kv' last q y.id y.due y.x w6 HP6.out (by omega) (HP6.out.one y hym) (HP6.out.oks y hym)).mono ?_
          rintro e w2 ⟨rfl, hp2, t2⟩
          have T2 : Touch [m, g] W w2 := T7.trans t2 (by intro y hy; simp [Value.ownBlock] at hy; rcases hy with rfl | rfl <;> simp)
          have HP2 := Lib.hid hp2
          have HM := Lib.hid (HH.out.move HN.out (p := c) (by have := HPC.out; omega) HY.out)
          have HS := Lib.hid (HUP.out.step HPC.out.2.1 HPC.out.1 HH.out.at_i (by rw [HH.out.other (by have := HPC.out; omega)]; exact HY.out) HL.out HMIN.out)
          clear hp2 t2 b0 b1 b2 c0 c1 c2 y0 y1 y2
          go_wp2_with fail
          go_roundw
          case rel => exact ⟨c, _, _, _, rfl, HP2.out, HM.out, HS.out, T2⟩
          case measure => (have := HPC.out; simp [intOf]; omega)

      · have hge : decide (its.length ≤ c) = true := by simpa using h2
        have HMIN := Lib.hid (show ∀ (b : Nat), 1 ≤ b → par b = q → Edge Itm.key C b by
          intro b hb hpb a u ha hu
          have hbl := (List.getElem?_eq_some_iff.1 hu).1
          exfalso
          have := HC.out
          have e2 : C.length = its.length := HH.out.perm.length_eq
          unfold par at hpb
          omega)
        have HE := Lib.hid (HUP.out.stop HMIN.out)
        obtain ⟨c0, c1, c2⟩ := HP5.out.cells
        clear h2
        go_wp2_with fail
        go_quiet (fail)
        have t6 : Touch [] w5 (w5.drewN nq) := (Touch.refl [] w5).drews _
        have HP6 := Lib.hid (HP5.out.touch t6 (by simp))
        have T7 : Touch [m, g] W (w5.drewN nq) := T6.trans t6 (by simp)
        generalize w5.drewN nq = w6 at *
        obtain ⟨b0, b1, b2⟩ := cells_three (T7.at gB (by simp; exact ⟨hBm, hBg⟩))
        clear t6 HP5 T6 c0 c1 c2
        go_wp2_with fail
        refine (set_any h m _ A kv' last q x.id x.due x.x w6 HP6.out (by omega) h1x okx).mono ?_
        rintro e w2 ⟨rfl, hp2, t2⟩
        have T2 : Touch [m, g] w w2 := ((tB.mono (S' := [m, g]) (by simp)).trans T7 (by simp)).trans t2 (by intro y hy; simp [Value.ownBlock] at hy; rcases hy with rfl | rfl <;> simp)
        have HP2 := Lib.hid hp2
        clear hp2 t2 b0 b1 b2
        go_wp2_with fail
        exact end0 rfl rfl ⟨C, _, rfl, by rw [HH.out.c]; exact HP2.out, HH.out.perm, HE.out, (HH.out.fin HN.out).1, (HH.out.fin HN.out).2, T2⟩
end Go.Proofs.Ytpbabdoecjlifaa.S

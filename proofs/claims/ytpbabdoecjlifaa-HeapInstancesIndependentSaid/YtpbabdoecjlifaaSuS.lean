/-
  The contract of siftUp.
-/
import Derived.Test.YtpbabdoecjlifaaHo
import Derived.Test.YtpbabdoecjlifaaCiS
namespace Go.Proofs.Ytpbabdoecjlifaa.S
open Go.RowKit
set_option linter.unusedVariables false
set_option linter.unusedSimpArgs false

set_option maxRecDepth 100000 in
set_option maxHeartbeats 4000000 in
theorem up_any (h m : Nat) (v : Value) (its : List Itm) (kv : List (Int × Value)) (last : Int) (i : Nat) (x : Itm) (w : World) (k : Hp w h m v its kv last) (hx : its[i]? = some x) (hn : (its.map Itm.id).Nodup) (hix : IxB kv its i) (hu : Up Itm.key its i) :
    Calls Try.prog 53 #[.pointer (some ⟨h, 0, none⟩), .int .i64 i] w fun e w' => ∃ (j : Nat) (its' : List Itm) (kv' : List (Int × Value)), e = .returned (.int .i64 j) ∧ j < its.length ∧ Hp w' h m v its' kv' last ∧ its'.Perm its ∧ Down Itm.key its' j ∧ (Kids Itm.key its i → Heap Itm.key its') ∧
      (∀ (j : Nat) y, its'[j]? = some y → look kv' y.id = some (.int .i64 j)) ∧ (∀ id, (∀ y ∈ its, y.id ≠ id) → look kv' id = look kv id) ∧ Touch (m :: v.ownBlock.toList) w w' := by
  have hil := (List.getElem?_eq_some_iff.1 hx).1
  obtain ⟨av, cv, rfl, hv1, hv2, hv3⟩ := k.form
  obtain ⟨g, rfl, hgh, hgm⟩ := hv3 (by omega)
  obtain ⟨c0, c1, c2⟩ := k.cells
  obtain ⟨e0, e1, e2⟩ := k.elem hx
  have tB := (Touch.refl [] w).alloc (.cells #[.int .i64 x.id, .int .u64 x.due, x.x] 97)
  have gB := heap_alloc_new w (.cells #[.int .i64 x.id, .int .u64 x.due, x.x] 97)
  have kB := Lib.hid (k.touch tB (by simp))
  have hfew := k.few
  have hlt := k.lt
  have hgl : g < w.heap.size := hlt g (by simp [Hp.foot, Value.ownBlock])
  have hml : m < w.heap.size := hlt m (by simp [Hp.foot])
  have HST := Lib.hid (Hole.start hx hix)
  have HU := Lib.hid hu
  have h1x := k.one x (List.mem_of_getElem? hx)
  have okx := k.oks x (List.mem_of_getElem? hx)
  have HN := Lib.hid hn
  clear hu hix hlt k hn hx
  go_enter Try.func53, Try.ntmps53
  go_wp2_with (refine wpList_store_new rfl 97 _ _ rfl _ _ [.int .i64 x.id, .int .u64 x.due, x.x] (by rfl) (by rfl) rfl infoE (by intro u hu; simp at hu; rcases hu with rfl | rfl | rfl; rfl; rfl; exact h1x) ?_)
  have zB : (w.alloc (.cells #[.int .i64 x.id, .int .u64 x.due, x.x] 97)).heap.size = w.heap.size + 1 := by simp
  generalize w.alloc (.cells #[.int .i64 x.id, .int .u64 x.due, x.x] 97) = W at *
  generalize hB : w.heap.size = B at *
  have hBg : B ≠ g := by omega
  have hBm : B ≠ m := by omega
  clear c0 c1 c2 e0 e1 e2
  simp only [Act.put]
  go_loopw [1] (fun vi wr => ∃ (q : Nat) (A C : List Itm) (kv' : List (Int × Value)), vi = .int .i64 q ∧ Hp wr h m (.slice (some ⟨g, 0, none⟩) its.length cv) A kv' last ∧ Hole its A C kv kv' q x ∧ Up Itm.key C q ∧ (Kids Itm.key its i → Kids Itm.key C q) ∧ Touch [m, g] W wr) (fun vi _ => (intOf vi).toNat)
  case atStart => exact ⟨i, its, its, kv, rfl, kB.out, HST.out, HU.out, fun h => h, Touch.refl _ _⟩
  case round =>
    obtain ⟨q, A, C, kv', rfl, hp, hh, hup, hkd, ht⟩ := hrel
    have HP := Lib.hid hp
    have HH := Lib.hid hh
    have HUP := Lib.hid hup
    have HKD := Lib.hid hkd
    have hAl := hh.len
    have hql := hh.il
    obtain ⟨b0, b1, b2⟩ := cells_three (ht.at gB (by simp; exact ⟨hBm, hBg⟩))
    clear hp hh hup hkd
    by_cases hq : 0 < q
    · have hpq : par q < q := by unfold par; omega
      have hpl : par q < A.length := by omega
      have hpi : par q < its.length := by omega
      have hy := List.getElem?_eq_getElem hpl
      generalize A[par q] = y at hy
      obtain ⟨y0, y1, y2⟩ := HP.out.elem hy
      obtain ⟨c0, c1, c2⟩ := HP.out.cells
      have hpar : ((q : Int) - 1).tdiv 2 = ((par q : Nat) : Int) := by unfold par; rw [Int.tdiv_eq_ediv_of_nonneg (by omega)]; omega
      have HY := Lib.hid hy
      clear hy
      go_wp2_with fail
      refine wp_region_still_tail 8 (by kernel_rfl) (by kernel_rfl) ?_
      simp only [List.take_succ_cons, List.take_zero, List.drop_succ_cons, List.drop_zero]
      iterate 8 still_step
      refine wpStill_nil ?_
      change wpList _ _ _ _ _ wr.drew
      go_wp2_with fail
      refine (cmp_quiet y x _).mono ?_
      rintro e w5 ⟨rfl, t5⟩
      have t6 : Touch [] wr w5 := ((Touch.refl [] wr).drew).trans t5 (by simp)
      have HP5 := Lib.hid (HP.out.touch t6 (by simp))
      have T6 : Touch [m, g] W w5 := ht.trans t6 (by simp)
      obtain ⟨b0, b1, b2⟩ := cells_three (T6.at gB (by simp; exact ⟨hBm, hBg⟩))
      clear t5 t6 HP ht y0 y1 y2 c0 c1 c2
      by_cases hle : cmpT y.key x.key ≤ 0
      · go_wp2_with fail
        refine (set_any h m _ A kv' last q x.id x.due x.x w5 HP5.out (by omega) h1x okx).mono ?_
        rintro e w2 ⟨rfl, hp2, t2⟩
        have T2 : Touch [m, g] w w2 := ((tB.mono (S' := [m, g]) (by simp)).trans T6 (by simp)).trans t2 (by intro y hy; simp [Value.ownBlock] at hy; rcases hy with rfl | rfl <;> simp)
        have HP2 := Lib.hid hp2
        clear hp2 t2 b0 b1 b2
        have hedge : Edge Itm.key C q := by
          intro a b ha hb
          rw [HH.out.other (by omega), HY.out] at ha
          rw [HH.out.at_i] at hb
          cases ha
          cases hb
          exact (cmpT_le _ _).1 hle
        have HE := Lib.hid hedge
        clear hedge
        go_wp2_with fail
        go_ret
        exact ⟨q, C, _, rfl, by omega, by rw [HH.out.c]; exact HP2.out, HH.out.perm, HUP.out.stop (.inr HE.out), fun hs => (HUP.out.stop (.inr HE.out)).stop (HKD.out hs), (HH.out.fin HN.out).1, (HH.out.fin HN.out).2, T2⟩
      · obtain ⟨c0, c1, c2⟩ := HP5.out.cells
        obtain ⟨y0, y1, y2⟩ := HP5.out.elem HY.out
        have hym := List.mem_of_getElem? HY.out
        have hltk : lt x.key y.key := by
          rcases le_total y.key x.key with h1 | h1
          · exact absurd ((cmpT_le _ _).2 h1) hle
          · exact h1
        have HL := Lib.hid hltk
        clear hltk
        go_wp2_with fail
        refine (set_any h m _ A kv' last q y.id y.due y.x w5 HP5.out (by omega) (HP5.out.one y hym) (HP5.out.oks y hym)).mono ?_
        rintro e w2 ⟨rfl, hp2, t2⟩
        have T2 : Touch [m, g] W w2 := T6.trans t2 (by intro y hy; simp [Value.ownBlock] at hy; rcases hy with rfl | rfl <;> simp)
        have HP2 := Lib.hid hp2
        have HM := Lib.hid (HH.out.move HN.out (p := par q) (by omega) HY.out)
        have HS := Lib.hid (HUP.out.step (by omega) HH.out.at_i (by rw [HH.out.other (by omega)]; exact HY.out) HL.out)
        have HK2 := Lib.hid (HUP.out.kids (by omega) HH.out.at_i (by rw [HH.out.other (by omega)]; exact HY.out) HL.out)
        clear hp2 t2 b0 b1 b2 c0 c1 c2 y0 y1 y2
        go_wp2_with fail
        go_roundw
        case rel => exact ⟨par q, _, _, _, rfl, HP2.out, HM.out, HS.out, fun _ => HK2.out, T2⟩
        case measure => simp [intOf]; omega
    · go_wp2_with fail
      refine (set_any h m _ A kv' last q x.id x.due x.x wr HP.out (by omega) h1x okx).mono ?_
      rintro e w2 ⟨rfl, hp2, t2⟩
      have T2 : Touch [m, g] w w2 := ((tB.mono (S' := [m, g]) (by simp)).trans ht (by simp)).trans t2 (by intro y hy; simp [Value.ownBlock] at hy; rcases hy with rfl | rfl <;> simp)
      have HP2 := Lib.hid hp2
      clear hp2 t2 b0 b1 b2
      go_wp2_with fail
      go_ret
      exact ⟨q, C, _, rfl, by omega, by rw [HH.out.c]; exact HP2.out, HH.out.perm, HUP.out.stop (.inl (by omega)), fun hs => (HUP.out.stop (.inl (by omega))).stop (HKD.out hs), (HH.out.fin HN.out).1, (HH.out.fin HN.out).2, T2⟩
end Go.Proofs.Ytpbabdoecjlifaa.S

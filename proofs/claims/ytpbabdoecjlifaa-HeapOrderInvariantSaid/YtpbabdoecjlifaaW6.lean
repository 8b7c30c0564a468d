/-
  The walk of HeapOrderInvariant: true at every slice of operations. No condition.
-/
import Derived.Test.YtpbabdoecjlifaaOp
import Derived.Test.YtpbabdoecjlifaaOd
import Derived.Deep.CutRange
import Derived.Deep.CutBlock
namespace Go.Proofs.Ytpbabdoecjlifaa
open Go.ChangeShapes Go.WideShapes Go.RowKit Go.Sort
set_option linter.unusedVariables false
set_option linter.unusedSimpArgs false

theorem Bag.ordered {w : World} {h : Nat} {f : List Nat} {L : List Itm} {last : Int} (k : Bag w h f L last) (x : Nat) (v : Value) (r : Rh w x v L last) (ha : Asc L) :
    Calls Try.prog 36 #[.pointer (some ⟨h, 0, none⟩), .pointer (some ⟨x, 0, none⟩)] w fun e w' => e = .returned (.bool true) ∧ Touch [] w w' := by
  obtain ⟨m, v', its, kv, hb, hp, rfl⟩ := k
  exact ordered_any h m v' its L kv last x v w hb hp r ha
set_option maxRecDepth 100000 in
set_option maxHeartbeats 4000000 in
theorem walk6 (v : Value) (b : Nat) (l : List Opn) (w : World) (hr : Rd w 4 b v (l.map encO)) (hl : ∀ o ∈ l, OkO o) :
    Calls Try.prog 6 #[v] w fun e w' => e = .returned (.bool true) ∧ Touch [] w w' := by
  obtain ⟨a, cap, rfl, hc, hm⟩ := hr.form
  rw [List.length_map] at hc hr ⊢
  go_enter Try.func6, Try.ntmps6
  go_wp2_with fail
  refine (Bag.new w).mono ?_
  rintro e w1 ⟨h, f, rfl, hb, hf, ht⟩
  have H1 := Lib.hid (both_start hb hf ht)
  clear hb hf ht
  go_wp2_with fail
  generalize w1.alloc (.cells #[.slice none 0 0, .int .i64 0] 28) = w2 at *
  generalize w1.heap.size = x at *
  go_loopw [5] (fun vi wr => ∃ (i : Nat), vi = .int .i64 i ∧ i ≤ l.length ∧ i ≤ 60 ∧ Rel3 w wr h x i) (fun vi _ => l.length - (intOf vi).toNat)
  case atStart => exact ⟨0, rfl, by omega, by omega, H1.out⟩
  case round =>
    obtain ⟨i, rfl, hil, hi60, hrel⟩ := hrel
    obtain ⟨f1, v1, L, last, hB, hlast, hLl⟩ := hrel
    have HB := Lib.hid hB
    clear hB
    by_cases hlt : i < l.length
    · by_cases hlt2 : i < 60
      · have ho := List.getElem?_eq_getElem hlt
        have hok := hl _ (List.getElem_mem hlt)
        generalize l[i] = o at ho hok
        have HO := Lib.hid ho
        have HOK := Lib.hid hok
        obtain ⟨off, rfl, p0, p1, p2, p3⟩ := rd_opn (hr.touch HB.out.t (by simp)) ho
        have hb1 : (i : Int) < (l.length : Int) := by omega
        have hb2 : (i : Int) < 60 := by omega
        have hwi : IntKind.i64.wrap ((i : Int) + 1) = (i : Int) + 1 := by rw [IntKind.wrap_i64] <;> omega
        have tB := (Touch.refl [] wr).alloc (.cells #[.int .i64 o.kind, .int .i64 o.id, .int .u64 o.due, .int .i64 o.x] 31)
        have gB := heap_alloc_new wr (.cells #[.int .i64 o.kind, .int .i64 o.id, .int .u64 o.due, .int .i64 o.x] 31)
        obtain ⟨b0, b1, b2, b3⟩ := cells_four gB
        have HB1 := Lib.hid (HB.out.touch tB)
        have hfB := Lib.hid (show ∀ y ∈ f1, y ≠ wr.heap.size from fun y hy e => by have := HB.out.bag.lt y hy; omega)
        have hrB := Lib.hid (show ∀ y ∈ Rh.foot x v1, y ≠ wr.heap.size from fun y hy e => by have := HB.out.rh.lt y hy; omega)
        clear ho hok
        obtain ⟨idn, hidn⟩ : ∃ idn : Int, idn = 1 + gmod o.id 20 := ⟨_, rfl⟩
        have hg0 := gmod_lo o.id 20 (by omega)
        have hg1 := gmod_hi o.id 20 (by omega)
        have hwid : IntKind.i64.wrap (1 + gmod o.id 20) = idn := by rw [IntKind.wrap_i64] <;> omega
        have HID := Lib.hid (show okK idn from okK_of (by omega) (by omega))
        have HIDN := Lib.hid hidn
        obtain ⟨m, hmk⟩ : ∃ m, m = gmod o.kind 9 := ⟨_, rfl⟩
        have hm0 : 0 ≤ m := by rw [hmk]; exact gmod_lo _ _ (by omega)
        have hm8 : m < 9 := by rw [hmk]; exact gmod_hi _ _ (by omega)
        have HMK := Lib.hid hmk
        clear hmk hidn hg0 hg1
        go_upto_region 9 with (first | (refine wpList_store_new rfl 31 _ _ rfl _ _ [.int .i64 o.kind, .int .i64 o.id, .int .u64 o.due, .int .i64 o.x] (by rfl) (by rfl) rfl info31 (by intro u hu; simp at hu; rcases hu with rfl | rfl | rfl | rfl <;> rfl) ?_))
        generalize wr.alloc (.cells #[.int .i64 o.kind, .int .i64 o.id, .int .u64 o.due, .int .i64 o.x] 31) = W at *
        generalize wr.heap.size = B at *
        have HTB := Lib.hid tB
        have HGB := Lib.hid gB
        clear p0 p1 p2 p3 gB tB
        go_upto_block 2 with (first
          | (go_at_call 9; refine (mod_any _ _ _ (by omega) (by omega)).mono ?_; rintro e w' ⟨rfl, rfl⟩; try rw [← HMK.out])
          | (go_at_call 10; refine (rfind_any x v1 L last _ HB1.out.rh idn).mono ?_; rintro e w' ⟨rfl, rfl⟩))
        generalize hia : ixOf L idn = ia at *
        have HIA := Lib.hid hia
        clear hia hwid
        go_cut [9] from 15 to 93 (fun s9 wx => s9 = .int .i64 m ∧ Rel3 w wx h x (i + 1))
        case first =>
          have hgo : m < 5 ∨ (5 ≤ m ∧ m < 7) ∨ (7 ≤ m ∧ m < 9) := by omega
          rcases hgo with hmA | hmA | hmA
          · have hm5 : m < 5 := hmA
            go_wp2_with fail
            refine (someDue_any o.due _ (u64_lo HOK.out.2) (u64_hi HOK.out.2)).mono ?_
            rintro e w3 ⟨rfl, hw3⟩
            subst hw3
            go_wp2_with fail
            refine (HB1.out.bag.push (sd o.due) (.int .i64 i) rfl (by omega) (by omega)).mono ?_
            rintro e w3 ⟨rfl, hn3⟩
            have HF := Lib.hid (HB1.out.half hn3)
            have hg3 : w3.heap[B]? = some (.cells #[.int .i64 o.kind, .int .i64 o.id, .int .u64 o.due, .int .i64 o.x] 31 (0, 0)) := by
              obtain ⟨f', _, _, ht'⟩ := hn3
              exact ht'.at HGB.out (fun hm => hfB.out B hm rfl)
            obtain ⟨b0, b1, b2, b3⟩ := cells_four hg3
            clear hn3 hg3
            go_wp2_with fail
            refine (someDue_any o.due _ (u64_lo HOK.out.2) (u64_hi HOK.out.2)).mono ?_
            rintro e w4 ⟨rfl, hw4⟩
            rw [hw4]
            clear hw4
            obtain ⟨f3, hb3, hr3, hap3, hf3, ht3⟩ := HF.out
            go_wp2_with fail
            refine (rpush_any x v1 L last w3 hr3 (sd o.due) (i : Int) ⟨HB1.out.bag.lo.1, by omega⟩ (by omega)).mono ?_
            rintro e w5 ⟨rfl, v4, hr4, hv4, ht4⟩
            have HB4 := Lib.hid (Both.full HB1.out.hr ⟨hb3, hap3, hf3, ht3⟩ (asc_snoc HB1.out.asc HB1.out.bag _ _) hr4 hv4 ht4 (fun y hy => hy))
            clear hb3 hr3 hap3 hf3 ht3 hr4 hv4 ht4
            go_wp2_with fail
            go_meet
            exact ⟨rfl, _, _, _, _, HB4.out, by omega, by simp; omega⟩
          · obtain ⟨hm5, hm7⟩ := hmA
            have hme2 : ¬ m < 5 := by omega
            clear hm0
            by_cases hex : ∃ y ∈ L, y.id = idn
            · skip
              obtain ⟨y, hyL, hye⟩ := hex
              subst hye
              obtain ⟨q, hq⟩ := mem_at (List.Perm.refl L) hyL
              have hql := (List.getElem?_eq_some_iff.1 hq).1
              have hix := ixOf_ids HB1.out.asc.nodup hq rfl
              have hq0 : (0 : Int) ≤ (q : Int) := by omega
              have hqb : (q : Int) < (L.length : Int) := by omega
              have HQ := Lib.hid hq
              have HY := Lib.hid hyL
              have hia : ia = (q : Int) := HIA.out.symm.trans hix
              subst hia
              clear hq hyL hix
              go_wp2_with fail
              refine (someDue_any o.due _ (u64_lo HOK.out.2) (u64_hi HOK.out.2)).mono ?_
              rintro e w3 ⟨rfl, rfl⟩
              go_wp2_with fail
              refine (HB1.out.bag.update y (sd o.due) HY.out).mono ?_
              rintro e w3 ⟨rfl, hn3⟩
              have HF := Lib.hid (HB1.out.half hn3)
              have hg3 : w3.heap[B]? = some (.cells #[.int .i64 o.kind, .int .i64 o.id, .int .u64 o.due, .int .i64 o.x] 31 (0, 0)) := by
                obtain ⟨f', _, _, ht'⟩ := hn3
                exact ht'.at HGB.out (fun hm => hfB.out B hm rfl)
              obtain ⟨b0, b1, b2, b3⟩ := cells_four hg3
              clear hn3 hg3
              obtain ⟨f3, hb3, hr3, hap3, hf3, ht3⟩ := HF.out
              have HH := Lib.hid (⟨hb3, hap3, hf3, ht3⟩ : _ ∧ (∀ y ∈ f3, y ∉ Rh.foot x v1) ∧ (∀ y ∈ f3, w.heap.size ≤ y) ∧ Touch [] w w3)
              have HR3 := Lib.hid hr3
              clear hb3 hr3 hap3 hf3 ht3 HF
              obtain ⟨av, cv, rfl, hv1, hv2, hv3⟩ := HR3.out.form
              obtain ⟨g, rfl, hgx⟩ := hv3 (by omega)
              obtain ⟨c0, c1⟩ := HR3.out.cells
              obtain ⟨e0, e1, e2⟩ := HR3.out.elem HQ.out
              have fz := owns_frozen HR3.out.row (q * 3 + 1)
              clear hv3
              go_wp2_with fail
              refine wp_region_still_tail 10 (by kernel_rfl) (by kernel_rfl) ?_
              simp only [List.take_succ_cons, List.take_zero, List.drop_succ_cons, List.drop_zero]
              iterate 7 still_step
              still_call (someDue_any o.due _ (u64_lo HOK.out.2) (u64_hi HOK.out.2))
              iterate 2 still_step
              refine wpStill_nil ?_
              change wpList _ _ _ _ _ w3.drew
              have HR4 := HR3.out.touch ((Touch.refl [] w3).drew) (by simp)
              obtain ⟨p5, t5⟩ := HR4.due HQ.out (sd o.due)
              have HB5 := Lib.hid (upd_full HB1.out HH.out HQ.out p5 (((Touch.refl [] w3).drew.mono (by simp)).trans t5 (fun y hy => .inl hy)))
              clear p5 t5 HR4
              go_wp2_with fail
              go_meet
              exact ⟨rfl, _, _, _, _, HB5.out, by omega, by rw [List.length_set]; omega⟩
            · skip
              have hno : ∀ y ∈ L, y.id ≠ idn := fun y hy e => hex ⟨y, hy, e⟩
              have hia : ia = -1 := HIA.out.symm.trans (ixOf_none hno)
              subst hia
              clear hno hex
              go_wp2_with fail
              go_meet
              exact ⟨rfl, _, _, _, _, HB1.out, by omega, by omega⟩
          · obtain ⟨hm5, hm7⟩ := hmA
            have hme : ¬ m < 7 := by omega
            have hme2 : ¬ m < 5 := by omega
            clear hm0
            by_cases hex : ∃ y ∈ L, y.id = idn
            · skip
              obtain ⟨y, hyL, hye⟩ := hex
              subst hye
              obtain ⟨q, hq⟩ := mem_at (List.Perm.refl L) hyL
              have hql := (List.getElem?_eq_some_iff.1 hq).1
              have hix := ixOf_ids HB1.out.asc.nodup hq rfl
              have hq0 : (0 : Int) ≤ (q : Int) := by omega
              have HQ := Lib.hid hq
              have HY := Lib.hid hyL
              have hia : ia = (q : Int) := HIA.out.symm.trans hix
              subst hia
              clear hq hyL hix
              go_wp2_with fail
              refine (HB1.out.bag.remove y HY.out).mono ?_
              rintro e w3 ⟨rfl, hn3⟩
              have HF := Lib.hid (HB1.out.half hn3)
              clear hn3
              obtain ⟨f3, hb3, hr3, hap3, hf3, ht3⟩ := HF.out
              have HH := Lib.hid (⟨hb3, hap3, hf3, ht3⟩ : _ ∧ (∀ y ∈ f3, y ∉ Rh.foot x v1) ∧ (∀ y ∈ f3, w.heap.size ≤ y) ∧ Touch [] w w3)
              have HR3 := Lib.hid hr3
              clear hb3 hr3 hap3 hf3 ht3 HF
              go_wp2_with fail
              refine (rremove_any x v1 L last w3 HR3.out q hql).mono ?_
              rintro e w7 ⟨rfl, v7, hr7, hv7, ht7⟩
              have HB7 := Lib.hid (rem_full HB1.out HH.out HQ.out (Touch.refl _ _) hr7 hv7 ht7)
              clear hr7 hv7 ht7
              go_wp2_with fail
              go_meet
              exact ⟨rfl, _, _, _, _, HB7.out, by omega, by rw [List.length_eraseIdx_of_lt hql]; omega⟩
            · skip
              have hno : ∀ y ∈ L, y.id ≠ idn := fun y hy e => hex ⟨y, hy, e⟩
              have hia : ia = -1 := HIA.out.symm.trans (ixOf_none hno)
              subst hia
              clear hno hex
              go_wp2_with fail
              go_meet
              exact ⟨rfl, _, _, _, _, HB1.out, by omega, by omega⟩
        case rest =>
          obtain ⟨rfl, f5, v5, L5, last5, hB5, hla5, hL5⟩ := hcut
          have HB5 := Lib.hid hB5
          clear hB5 b0 b1 b2 b3
          go_wp2_with fail
          refine (HB5.out.bag.ordered x v5 HB5.out.rh HB5.out.asc).mono ?_
          rintro e w7 ⟨rfl, t7⟩
          have HB8 := Lib.hid (HB5.out.touch t7)
          clear t7
          go_wp2_with fail
          go_roundw
          case rel => exact ⟨i + 1, by simp, by omega, by omega, _, _, _, _, HB8.out, by simpa using hla5, hL5⟩
          case measure => simp [intOf]; omega
      · have hi2 : ¬ (i : Int) < 60 := by omega
        have hb1 : (i : Int) < (l.length : Int) := by omega
        go_wp2_with fail
        refine (awake_any _).mono ?_
        rintro e w3 ⟨rfl, t3⟩
        have T3 := Lib.hid (HB.out.t.trans t3 (by simp))
        clear t3
        go_wp2_with fail
        go_ret
        exact ⟨rfl, T3.out⟩
    · have hb1 : ¬ (i : Int) < (l.length : Int) := by omega
      go_wp2_with fail
      refine (awake_any _).mono ?_
      rintro e w3 ⟨rfl, t3⟩
      have T3 := Lib.hid (HB.out.t.trans t3 (by simp))
      clear t3
      go_wp2_with fail
      go_ret
      exact ⟨rfl, T3.out⟩
namespace heapOrderInvariant
theorem walk {H : Type} {enc : TypeId × Value → H} {w : World} (v : Value) (hv : IsSlice enc Try.prog w 0 (fun _ => true) true [3, 3, 29, 3] v) :
    Calls Try.prog 6 #[v] w fun e w' => e = .returned (.bool true) ∧ Below w.heap.size w w' := by
  obtain ⟨b, l, hr, hl⟩ := opn_rows hv
  exact (walk6 v b l w hr hl).mono fun e w' ⟨h1, h2⟩ => ⟨h1, h2.below (by simp) (Nat.le_refl _)⟩
end heapOrderInvariant
end Go.Proofs.Ytpbabdoecjlifaa

/-
  The walk of HeapPopsInOrder: true at every slice of due times. No condition.
-/
import Derived.Test.YtpbabdoecjlifaaBg
import Derived.Test.YtpbabdoecjlifaaAr
namespace Go.Proofs.Ytpbabdoecjlifaa
open Go.ChangeShapes Go.WideShapes Go.RowKit Go.Sort
set_option linter.unusedVariables false
set_option linter.unusedSimpArgs false

/-- The first i entries pushed. -/
def pi (l : List Int) (i : Nat) : List Itm := (List.range i).map fun (j : Nat) => ⟨(j : Int) + 1, l.getD j 0, .int .i64 j⟩
theorem pi_step (l : List Int) (i : Nat) (x : Int) (hx : l[i]? = some x) : pi l (i + 1) = pi l i ++ [⟨(i : Int) + 1, x, .int .i64 i⟩] := by
  simp [pi, List.range_succ, List.getD_eq_getElem?_getD, hx]
theorem pi_len (l : List Int) (i : Nat) : (pi l i).length = i := by simp [pi]
theorem pi_form {l : List Int} {n : Nat} {y : Itm} (hn : n ≤ l.length) (hy : y ∈ pi l n) : ∃ (j : Nat) (d : Int), j < n ∧ l[j]? = some d ∧ y = ⟨(j : Int) + 1, d, .int .i64 j⟩ := by
  obtain ⟨j, hj, rfl⟩ := List.mem_map.1 hy
  have hjn := List.mem_range.1 hj
  have : l[j]? = some l[j] := List.getElem?_eq_getElem (by omega)
  exact ⟨j, l[j], hjn, this, by simp [List.getD_eq_getElem?_getD, this]⟩
/-- A heap above w0. -/
def Abv (w0 w : World) (h : Nat) (L : List Itm) (last : Int) : Prop := ∃ f, Bag w h f L last ∧ (∀ y ∈ f, w0.heap.size ≤ y) ∧ Touch [] w0 w
theorem Abv.next {w0 w w' : World} {h : Nat} {f : List Nat} {L : List Itm} {last : Int} (k : Next w h f L last w') (hf : ∀ y ∈ f, w0.heap.size ≤ y) (ht : Touch [] w0 w) : Abv w0 w' h L last := by
  obtain ⟨f', hb, hf', ht'⟩ := k
  exact ⟨f', hb, fun y hy => by
    rcases hf' y hy with h2 | h2
    · exact hf y h2
    · exact Nat.le_trans ht.size h2, ht.trans ht' (fun y hy => .inr (hf y hy))⟩
theorem filter_drop {M : List Itm} (hn : (M.map Itm.id).Nodup) {i : Nat} {x : Itm} (hx : M[i]? = some x) : ((M.drop i).filter fun y => decide (y.id ≠ x.id)) = M.drop (i + 1) := by
  obtain ⟨hi, e⟩ := List.getElem?_eq_some_iff.1 hx
  rw [List.drop_eq_getElem_cons hi, e, List.filter_cons_of_neg (by simp), List.filter_eq_self]
  intro y hy
  simp only [decide_eq_true_eq]
  obtain ⟨j, hj, ej⟩ := List.getElem_of_mem hy
  have hjl : i + 1 + j < M.length := by simp at hj; omega
  refine ids_ne hn (j := i + 1 + j) (k := i) ?_ hx (by omega)
  rw [List.getElem?_eq_getElem hjl, ← ej]
  simp
/-- Phase two: the heap's blocks are F or newer than wh; the slice of handles stays. -/
structure Ph (w0 wh w : World) (F : List Nat) (h : Nat) (L : List Itm) (last : Int) (va : Value) (ids : List Int) : Prop where
  bag : ∃ f, Bag w h f L last ∧ ∀ y ∈ f, y ∈ F ∨ wh.heap.size ≤ y
  t : Touch F wh w
  F0 : ∀ y ∈ F, w0.heap.size ≤ y
  t0 : Touch [] w0 wh
  own : OwnN w0 wh va ids
  nF : ∀ g, va.ownBlock = some g → g ∉ F
theorem Ph.now {w0 wh w : World} {F : List Nat} {h : Nat} {L : List Itm} {last : Int} {va : Value} {ids : List Int} (k : Ph w0 wh w F h L last va ids) : Touch [] w0 w ∧ OwnN w0 w va ids :=
  ⟨k.t0.trans k.t (fun y hy => .inr (k.F0 y hy)), k.own.touch k.t k.nF⟩
theorem Ph.next {w0 wh w w' : World} {F f : List Nat} {h : Nat} {L L' : List Itm} {last : Int} {va : Value} {ids : List Int} (k : Ph w0 wh w F h L last va ids) (hf : ∀ y ∈ f, y ∈ F ∨ wh.heap.size ≤ y) (hn : Next w h f L' last w') : Ph w0 wh w' F h L' last va ids := by
  obtain ⟨f', hb, hf', ht'⟩ := hn
  exact ⟨⟨f', hb, fun y hy => by
    rcases hf' y hy with h2 | h2
    · exact hf y h2
    · exact .inr (Nat.le_trans k.t.size h2)⟩, k.t.trans ht' hf, k.F0, k.t0, k.own, k.nF⟩
set_option maxRecDepth 100000 in
set_option maxHeartbeats 2000000 in
theorem walk4 (v : Value) (b : Nat) (l : List Int) (w : World) (hr : Rd w 1 b v (l.map encU)) (hl : ∀ x ∈ l, U64 x) :
    Calls Try.prog 4 #[v] w fun e w' => e = .returned (.bool true) ∧ Touch [] w w' := by
  obtain ⟨a, cap, rfl, hc, hm⟩ := hr.form
  rw [List.length_map] at hc hr ⊢
  obtain ⟨n, hn⟩ : ∃ n, n = min l.length 90 := ⟨_, rfl⟩
  have hn60 : n ≤ 90 := by omega
  have hnl : n ≤ l.length := by omega
  go_enter Try.func4, Try.ntmps4
  go_wp2_with fail
  refine (Bag.new w).mono ?_
  rintro e w1 ⟨h, f, rfl, hb, hf, ht⟩
  have H1 := Lib.hid (show Abv w w1 h [] 0 from ⟨f, hb, hf, ht⟩)
  clear hb hf ht
  go_wp2_with fail
  have hnI : min (l.length : Int) 90 = (n : Int) := by omega
  simp only [hnI]
  have HN := Lib.hid hn
  clear hn hnI
  go_loopw [5] (fun vi wr => ∃ (i : Nat), vi = .int .i64 i ∧ i ≤ n ∧ Abv w wr h (pi l i) i) (fun vi _ => n - (intOf vi).toNat)
  case atStart => exact ⟨0, rfl, by omega, H1.out⟩
  case round =>
    obtain ⟨i, rfl, hin, hh⟩ := hrel
    obtain ⟨f1, hb1, hf1, ht1⟩ := hh
    have HB1 := Lib.hid hb1
    have HF1 := Lib.hid hf1
    have HT1 := Lib.hid ht1
    clear hb1 hf1 ht1
    by_cases hlt : i < n
    · have hx : l[i]? = some l[i] := List.getElem?_eq_getElem (by omega)
      have hpl := pi_step l i _ hx
      generalize l[i] = x at hx hpl
      have HPL := Lib.hid hpl
      obtain ⟨off, rfl, p1⟩ := rd_u64 (hr.touch HT1.out (by simp)) hx
      have hwi : IntKind.i64.wrap ((i : Int) + 1) = (i : Int) + 1 := by rw [IntKind.wrap_i64] <;> omega
      have hb1 : (i : Int) < (l.length : Int) := by omega
      have hb2 : (i : Int) < (n : Int) := by omega
      clear hx hpl
      go_wp2_with fail
      refine (HB1.out.push x (.int .i64 i) rfl (by omega) (by rw [pi_len]; omega)).mono ?_
      rintro e w2 ⟨rfl, h2⟩
      have H2 := Lib.hid (Abv.next h2 HF1.out HT1.out)
      clear h2 p1
      go_wp2_with fail
      go_roundw
      case rel => exact ⟨i + 1, by simp, by omega, by rw [HPL.out]; exact H2.out⟩
      case measure => simp [intOf]; omega
    · have hie : i = n := by omega
      have hb2 : ¬ (i : Int) < (n : Int) := by omega
      subst hie
      go_wp2_with fail
      refine (HB1.out.handles).mono ?_
      rintro e w2 ⟨va, M, rfl, hp, hs, ho, ht2⟩
      have hML : M.length = i := by rw [hp.length_eq, pi_len]
      have hMn : (M.map Itm.id).Nodup := (hp.map Itm.id).nodup_iff.2 HB1.out.ids
      have hph : Ph w w2 w2 f1 h M i va (M.map Itm.id) := ⟨⟨f1, (HB1.out.touch ht2 (by simp)).perm hp.symm, fun y hy => .inl hy⟩, Touch.refl _ _, HF1.out, HT1.out.trans ht2 (by simp), ⟨ho.row, fun g hg => Nat.le_trans HT1.out.size (ho.new g hg)⟩, fun g hg hm => by
        have h1 := HB1.out.lt g hm
        have h2 := ho.new g hg
        omega⟩
      obtain ⟨av, cv, rfl, hv1, _, hv3⟩ := owns_form ho.row
      rw [List.length_map, hML] at hv1 hv3
      simp only [List.length_map, hML] at hph
      have HPH := Lib.hid hph
      have HP := Lib.hid hp
      have HS := Lib.hid hs
      have HML := Lib.hid hML
      have HMN := Lib.hid hMn
      clear hph hp hs ho ht2 hMn
      simp only [List.length_map, hML]
      clear hML
      go_wp2_with fail
      go_loopw [7, 8, 9] (fun v7 v8 v9 wr => ∃ (r : Nat), v9 = .int .i64 r ∧ r ≤ i ∧ Ph w w2 wr f1 h (M.drop r) i (.slice av i cv) (M.map Itm.id) ∧ ((r = 0 ∧ v7 = .int .u64 0 ∧ v8 = .int .i64 0) ∨ ∃ y, M[r - 1]? = some y ∧ 0 < r ∧ v7 = .int .u64 y.due ∧ v8 = .int .i64 y.id)) (fun _ _ v9 _ => i - (intOf v9).toNat)
      case atStart => exact ⟨0, rfl, by omega, HPH.out, .inl ⟨rfl, rfl, rfl⟩⟩
      case round =>
        obtain ⟨r, rfl, hri, hph, hcase⟩ := hrel
        have HPH0 := Lib.hid hph
        obtain ⟨f2, hb2, hf2⟩ := hph.bag
        have HB2 := Lib.hid hb2
        have HF2 := Lib.hid hf2
        have HC := Lib.hid hcase
        clear hb2 hf2 hph hcase
        by_cases hlt : r < i
        · have hx := List.getElem?_eq_getElem (l := M) (i := r) (by rw [HML.out]; exact hlt)
          generalize M[r]'(by rw [HML.out]; exact hlt) = x at hx
          have hxd : x ∈ M.drop r := List.mem_iff_getElem?.2 ⟨0, by simpa using hx⟩
          have hmin : ∀ y ∈ M.drop r, le x.key y.key := by
            intro y hy
            obtain ⟨j, hj⟩ := List.mem_iff_getElem?.1 hy
            rw [List.getElem?_drop] at hj
            rcases Nat.eq_zero_or_pos j with rfl | hj0
            · rw [Nat.add_zero, hx] at hj
              cases hj
              exact le_refl _
            · obtain ⟨q1, e1⟩ := List.getElem?_eq_some_iff.1 hx
              obtain ⟨q2, e2⟩ := List.getElem?_eq_some_iff.1 hj
              have := List.pairwise_iff_getElem.1 HS.out r (r + j) q1 q2 (by omega)
              rwa [e1, e2] at this
          obtain ⟨j, d, hji, hjd, rfl⟩ := pi_form hnl (HP.out.mem_iff.1 (List.mem_of_getElem? hx))
          have HX := Lib.hid hx
          have HPOP := Lib.hid (HB2.out.pop _ hxd hmin)
          have HU := Lib.hid (hl d (List.mem_of_getElem? hjd))
          have HJD := Lib.hid hjd
          clear hx hxd hmin hjd
          have hb3 : (r : Int) < (i : Int) := by omega
          go_wp2_with fail
          refine HPOP.out.mono ?_
          rintro e w3 ⟨rfl, hn3⟩
          have hph3 := HPH0.out.next HF2.out hn3
          rw [filter_drop HMN.out HX.out] at hph3
          have HPH := Lib.hid hph3
          obtain ⟨t3, o3⟩ := hph3.now
          obtain ⟨off, rfl, p1⟩ := rd_u64 (hr.touch t3 (by simp)) HJD.out
          obtain ⟨g, rfl⟩ := hv3 (by omega)
          have orow := o3.row
          rw [List.length_map, HML.out] at orow
          have p2 := owns_cell orow r (.int .i64 ((j : Int) + 1)) (by simp [HX.out])
          clear orow
          have hjl : j < l.length := by omega
          have hjb : (j : Int) < (l.length : Int) := by omega
          have hwj : IntKind.i64.wrap ((j : Int) + 1 - 1) = (j : Int) := by rw [IntKind.wrap_i64] <;> omega
          have hwr : IntKind.i64.wrap ((r : Int) + 1) = (r : Int) + 1 := by rw [IntKind.wrap_i64] <;> omega
          have hd0 : 0 ≤ d := u64_lo HU.out
          clear hn3 hph3 t3 o3
          rcases HC.out with ⟨rfl, rfl, rfl⟩ | ⟨y, hy, hr0, rfl, rfl⟩
          · skip
            have hd1 : ¬ d < 0 := by omega
            go_wp2_with fail
            go_roundw
            case rel => exact ⟨1, by simp, by omega, HPH.out, .inr ⟨_, by simpa using HX.out, by omega, rfl, rfl⟩⟩
            case measure => simp [intOf]; omega
          · have hle : le y.key (⟨(j : Int) + 1, d, .int .i64 j⟩ : Itm).key := by
              obtain ⟨q1, e1⟩ := List.getElem?_eq_some_iff.1 hy
              obtain ⟨q2, e2⟩ := List.getElem?_eq_some_iff.1 HX.out
              have := List.pairwise_iff_getElem.1 HS.out (r - 1) r q1 q2 (by omega)
              rwa [e1, e2] at this
            have hr0' : (0 : Int) < (r : Int) := by omega
            have hd1 : ¬ d < y.due := by have := hle; unfold le Itm.key at this; simp at this; omega
            clear hy
            by_cases hde : d = y.due
            · have hd2 : ¬ (j : Int) + 1 < y.id := by have := hle; unfold le Itm.key at this; simp at this; omega
              have hd3 : (d == y.due) = true := by simpa using hde
              have HDE := Lib.hid hde
              clear hle hde
              skip
              go_wp2_with fail
              go_roundw
              case rel => exact ⟨r + 1, by simp, by omega, HPH.out, .inr ⟨_, by simpa using HX.out, by omega, rfl, rfl⟩⟩
              case measure => simp [intOf]; omega
            · have hd3 : (d == y.due) = false := by simpa using hde
              clear hle
              skip
              go_wp2_with fail
              go_roundw
              case rel => exact ⟨r + 1, by simp, by omega, HPH.out, .inr ⟨_, by simpa using HX.out, by omega, rfl, rfl⟩⟩
              case measure => simp [intOf]; omega
        · have hre : r = i := by omega
          have hb3 : ¬ (r : Int) < (i : Int) := by omega
          have HPN := Lib.hid (show Bag wr h f2 [] i by have := HB2.out; rw [hre, List.drop_of_length_le (by rw [HML.out]; exact Nat.le_refl _)] at this; exact this)
          obtain ⟨t3, _⟩ := HPH0.out.now
          have HT3 := Lib.hid t3
          have HRE := Lib.hid hre
          clear t3 hre
          go_wp2_with fail
          refine HPN.out.pop_no.mono ?_
          rintro e w3 ⟨rfl, t4⟩
          have HPN4 := Lib.hid (HPN.out.touch t4 (by simp))
          have HT4 := Lib.hid (HT3.out.trans t4 (by simp))
          clear t4
          go_wp2_with fail
          refine (awake_any _).mono ?_
          rintro e w4 ⟨rfl, t5⟩
          have HPN5 := Lib.hid (HPN4.out.touch t5 (by simp))
          have HT5 := Lib.hid (HT4.out.trans t5 (by simp))
          clear t5
          go_wp2_with fail
          refine HPN5.out.len.mono ?_
          rintro e w5 ⟨rfl, rfl⟩
          go_wp2_with fail
          go_ret
          exact ⟨rfl, HT5.out⟩
namespace heapPopsInOrder
theorem walk {H : Type} {enc : TypeId × Value → H} {w : World} (v : Value) (hv : IsSlice enc Try.prog w 0 (fun _ => true) true [29] v) :
    Calls Try.prog 4 #[v] w fun e w' => e = .returned (.bool true) ∧ Below w.heap.size w w' := by
  obtain ⟨b, l, hr, hl⟩ := u64_rows hv
  exact (walk4 v b l w hr hl).mono fun e w' ⟨h1, h2⟩ => ⟨h1, h2.below (by simp) (Nat.le_refl _)⟩
end heapPopsInOrder
end Go.Proofs.Ytpbabdoecjlifaa

/-
  Merged texts: Sl, Sp, Pd, Rec3, Ky, LayP, Ip, Tc, Cv.
-/
import Derived.Test.YtecaakgpogabjaaDoorKA1
import Derived.Deep.RegionLaw
import Derived.Deep.RegionHeld3
import Derived.Deep.MidRow
import Derived.Deep.AppendLies
import Derived.ChangeKeysEq
import Derived.DeepKeys4
import Derived.Maps.Keyed
import Derived.Shelf.Lays
import Derived.Test.YtecaakgpogabjaaDoorProg
import Derived.Shelf.Strings.Trim
import Derived.Laws.BytesArg
import Derived.Lib.Hide
import Derived.StillTail
import Derived.StillTailTactics

/-
  The contracts over slices of addresses: SomeAddrs, SplitFamilies (the program's and the reference's).
-/
namespace Go.Proofs.YtecaakgpogabjaaDoor
open Go.RowKit Go.Deep
set_option linter.unusedVariables false
set_option linter.unusedSimpArgs false

theorem info28 : (Tryd.prog.info? 28).map (fun i => (i.zero, i.size, i.bytes)) = some (some (.agg #[.bool false, .int .u8 0, .int .u8 0, .int .u8 0, .int .u8 0, .int .u8 0, .int .u8 0, .int .u8 0, .int .u8 0, .int .u8 0, .int .u8 0, .int .u8 0, .int .u8 0, .int .u8 0, .int .u8 0, .int .u8 0, .int .u8 0]), 17, 17) := by kernel_rfl

/-- A slice of addresses of the call's own, made since w0. -/
structure Own (w0 w : World) (v : Value) (xs : List (List Value)) : Prop where
  row : w.ownsRow 0 28 17 v xs.length xs.flatten
  new : ∀ g, v.ownBlock = some g → w0.heap.size ≤ g
theorem Own.nil (w0 w : World) : Own w0 w (.slice none 0 0) [] := ⟨World.ownsRow_nil _ _ _ _, by simp [Value.ownBlock]⟩
theorem Own.touch {S : List Nat} {w0 w w' : World} {v : Value} {xs : List (List Value)} (h : Own w0 w v xs) (t : Touch S w w') (hn : ∀ g, v.ownBlock = some g → g ∉ S) : Own w0 w' v xs := ⟨t.owns h.row hn, h.new⟩
theorem Own.lt {w0 w : World} {v : Value} {xs : List (List Value)} (h : Own w0 w v xs) : ∀ g, v.ownBlock = some g → g < w.heap.size := fun g hg => (h.row.lt g hg).2
theorem Own.older {w0 w1 w : World} {v : Value} {xs : List (List Value)} (h : Own w1 w v xs) (hz : w0.heap.size ≤ w1.heap.size) : Own w0 w v xs := ⟨h.row, fun g hg => Nat.le_trans hz (h.new g hg)⟩

theorem flatten_snoc (xs : List (List Value)) (x : List Value) : (xs ++ [x]).flatten = xs.flatten ++ x := by simp
theorem ads_len {xs : List (List Value)} (h : ∀ x ∈ xs, IsAd x) : ∀ x ∈ xs, x.length = 17 := fun x hx => (h x hx).len
theorem ads_one {xs : List (List Value)} (h : ∀ x ∈ xs, IsAd x) : ∀ u ∈ xs.flatten, u.oneCell' = true := by
  intro u hu
  obtain ⟨x, hx, hux⟩ := List.mem_flatten.1 hu
  exact (h x hx).one u hux
theorem ads_snoc {xs : List (List Value)} {x : List Value} (h : ∀ x ∈ xs, IsAd x) (hx : IsAd x) : ∀ y ∈ xs ++ [x], IsAd y := by
  intro y hy
  rcases List.mem_append.1 hy with h1 | h1
  · exact h y h1
  · simp at h1; subst h1; exact hx

set_option maxRecDepth 100000 in
set_option maxHeartbeats 4000000 in
theorem someAddrs_any (v : Value) (b most : Nat) (xs : List (List Value)) (w : World) (hm : most ≤ 100) (hv : Rd w 17 b v xs) (hxs : ∀ x ∈ xs, IsAd x) :
    Calls Tryd.prog 7 #[v, .int .i64 most] w fun e w' => ∃ v' ys, e = .returned v' ∧ (∀ y ∈ ys, IsAd y) ∧ ys.length ≤ most ∧ Own w w' v' ys ∧ Touch [] w w' := by
  obtain ⟨i28, hi28, hz28, hs28, hb28⟩ := info_parts info28
  obtain ⟨a, cap, rfl, hlc, hcm⟩ := hv.form
  have hcm2 : cap ≤ 9223372036854775807 := by unfold maxLen at hcm; omega
  go_enter Tryd.func7, Tryd.ntmps7
  go_wp2_with fail
  go_loopw [5, 6] (fun vo vi wr => ∃ (i : Nat) (ys : List (List Value)), i ≤ xs.length ∧ i ≤ most ∧ vi = .int .i64 i ∧ ys.length = i ∧ (∀ y ∈ ys, IsAd y) ∧ Own w wr vo ys ∧ Touch [] w wr)
    (fun _ vi _ => xs.length - (intOf vi).toNat)
  case atStart => exact ⟨0, [], by omega, by omega, rfl, rfl, by simp, Own.nil _ _, Touch.refl _ _⟩
  case round =>
    obtain ⟨i, ys, hix, him, rfl, hyl, hys, hown, ht⟩ := hrel
    have HYL := Lib.hid hyl
    clear hyl
    by_cases hlt : i < xs.length
    · by_cases hlm : i < most
      · obtain ⟨off, rfl, hat⟩ := hv.at (by intro e; subst e; simp at hlt)
        have hx : xs[i]? = some xs[i] := List.getElem?_eq_getElem hlt
        have hadx := hxs _ (List.getElem_mem hlt)
        generalize xs[i] = x at hx hadx
        have hrg := ht.range (hat i x hx) (by simp)
        clear hat
        go_wp2_with (refine wpList_load_mid rfl 28 _ rfl b (off + i * 17) rfl x _ hrg Tryd.underlying28 rfl (by rw [size31, hadx.len]) ?_)
        refine (some_any x _ hadx).mono ?_
        rintro e w1 ⟨cs', h', rfl, t1⟩
        have hown1 := hown.touch t1 (by simp)
        have hrow1 := hown1.row
        go_wp2_with (first
          | (refine wpList_buildSlice_rows rfl 22 1 _ rfl 28 17 i28 _ Tryd.underlying22 hi28 hz28 hs28 (by omega) [cs'] rfl (by simp [h'.len]) (by omega) (by rfl) ?_)
          | (at_builtin; refine wpList_app_rec _ (by rfl) _ _ 22 (by rfl) 28 i28 _ 17 17 Tryd.underlying22 hi28 hz28 hs28 hb28 rfl (by omega) _ ys.length _ (by rfl) hrow1 ([cs'].flatten) 28 (by rfl) (by simp [h'.len]) (by simpa using h'.one) (by rw [HYL.out]; unfold maxLen; omega) (by rw [HYL.out]; omega) ?_))
        intro vo w2 ho2 t2 hv2
        have hnew2 : ∀ g, vo.ownBlock = some g → w.heap.size ≤ g := by
          intro g hg
          have z1 := ht.size
          have z2 := t1.size
          rcases hv2 with e | e
          · rw [e] at hg; exact hown.new g hg
          · rw [e] at hg; simp at hg; omega
        have hown2 : Own w w2 vo (ys ++ [cs']) := ⟨by rw [flatten_snoc, List.length_append]; exact ho2, hnew2⟩
        have ht2 : Touch [] w w2 := (ht.trans t1 (by simp)).trans t2 (fun g hg => .inr (hown.new g (by simpa using hg)))
        clear hv2 hnew2 ho2 t2 hrow1 hown1 hrg
        go_wp2_with fail
        go_roundw
        case rel => exact ⟨i + 1, ys ++ [cs'], by omega, by omega, by go_num, by simp [HYL.out], ads_snoc hys h', hown2, ht2⟩
        case measure => simp [intOf]; omega
      · go_wp2_with fail
        go_ret
        exact ⟨_, ys, rfl, hys, by rw [HYL.out]; omega, hown, ht⟩
    · go_wp2_with fail
      go_ret
      exact ⟨_, ys, rfl, hys, by rw [HYL.out]; omega, hown, ht⟩
end Go.Proofs.YtecaakgpogabjaaDoor

/-
  The contracts of the reference's Split and ParseDecimal.
-/
namespace Go.Proofs.YtecaakgpogabjaaDoor
open Go.RowKit
set_option linter.unusedVariables false
set_option linter.unusedSimpArgs false

/-- What Split has after i bytes: the pieces, and where the next one begins. -/
def segs (l : List UInt8) (c : UInt8) : Nat → List (List UInt8) × Nat
  | 0 => ([], 0)
  | i + 1 => let p := segs l c i; if l[i]? = some c then (p.1 ++ [(l.drop p.2).take (i - p.2)], i + 1) else p
def splitP (l : List UInt8) (c : UInt8) : List (List UInt8) := let p := segs l c l.length; p.1 ++ [l.drop p.2]
theorem segs_le (l : List UInt8) (c : UInt8) (i : Nat) : (segs l c i).2 ≤ i ∧ (segs l c i).1.length ≤ i := by
  induction i with
  | zero => simp [segs]
  | succ i ih =>
    simp only [segs]
    split
    · simp; omega
    · omega
theorem u8_inj (a b : UInt8) : ((a.toNat : Int) = (b.toNat : Int)) ↔ a = b := by
  constructor
  · intro h
    exact UInt8.toNat_inj.1 (by omega)
  · rintro rfl; rfl
theorem infoS : (Tryd.prog.info? 9).map (fun i => (i.zero, i.size, i.bytes)) = some (some (.string ⟨#[]⟩), 1, 16) := by kernel_rfl
/-- A slice of strings of the call's own, made since w0. -/
structure OwnS (w0 w : World) (v : Value) (xs : List (List UInt8)) : Prop where
  row : w.ownsRow 0 9 1 v xs.length (xs.map str)
  new : ∀ g, v.ownBlock = some g → w0.heap.size ≤ g
theorem OwnS.nil (w0 w : World) : OwnS w0 w (.slice none 0 0) [] := ⟨World.ownsRow_nil _ _ _ _, by simp [Value.ownBlock]⟩
theorem OwnS.touch {S : List Nat} {w0 w w' : World} {v : Value} {xs : List (List UInt8)} (h : OwnS w0 w v xs) (t : Touch S w w') (hn : ∀ g, v.ownBlock = some g → g ∉ S) : OwnS w0 w' v xs := ⟨t.owns h.row hn, h.new⟩
theorem OwnS.lt {w0 w : World} {v : Value} {xs : List (List UInt8)} (h : OwnS w0 w v xs) : ∀ g, v.ownBlock = some g → g < w.heap.size := fun g hg => (h.row.lt g hg).2
theorem OwnS.older {w0 w1 w : World} {v : Value} {xs : List (List UInt8)} (h : OwnS w1 w v xs) (hz : w0.heap.size ≤ w1.heap.size) : OwnS w0 w v xs := ⟨h.row, fun g hg => Nat.le_trans hz (h.new g hg)⟩
set_option maxRecDepth 100000 in
set_option maxHeartbeats 1000000 in
theorem split_any (l : List UInt8) (c : UInt8) (hl : l.length ≤ 1000) (w : World) :
    Calls Tryd.prog 66 #[str l, .int .u8 c.toNat] w fun e w' => ∃ v, e = .returned v ∧ OwnS w w' v (splitP l c) ∧ Touch [] w w' := by
  obtain ⟨iS, hiS, hzS, hsS, hbS⟩ := info_parts infoS
  obtain ⟨C, hC⟩ : ∃ C : Int, C = c.toNat := ⟨_, rfl⟩
  rw [← hC]
  obtain ⟨s, hs⟩ : ∃ s : ByteArray, s = ⟨l.toArray⟩ := ⟨_, rfl⟩
  have hsz : s.size = l.length := by rw [hs]; exact str_size l
  rw [show str l = .string s by rw [hs]; rfl]
  have HX := Lib.hid (show Value.string s = str l by rw [hs]; rfl)
  have HC := Lib.hid hC
  have hcl : ∀ l, (str l).cells = #[str l] := fun _ => rfl
  simp only [Value.cells] at hcl
  clear hs hC
  go_enter Tryd.func66, Tryd.ntmps66
  go_wp2_with fail
  go_loopw [5, 6, 7] (fun vo vf vi wr => ∃ i : Nat, i ≤ l.length ∧ vi = .int .i64 i ∧ vf = .int .i64 (segs l c i).2 ∧ OwnS w wr vo (segs l c i).1 ∧ Touch [] w wr) (fun _ _ vi _ => l.length - (intOf vi).toNat)
  case atStart => exact ⟨0, by omega, rfl, rfl, OwnS.nil _ _, Touch.refl _ _⟩
  case round =>
    obtain ⟨i, hi, rfl, rfl, hown, ht⟩ := hrel
    obtain ⟨hf, hn⟩ := segs_le l c i
    by_cases hlt : i < l.length
    · obtain ⟨x, hx⟩ : ∃ x, l[i]? = some x := ⟨_, List.getElem?_eq_getElem hlt⟩
      have hseg : segs l c (i + 1) = if x = c then ((segs l c i).1 ++ [(l.drop (segs l c i).2).take (i - (segs l c i).2)], i + 1) else segs l c i := by
        simp only [segs, hx, Option.some.injEq]
      generalize hp : segs l c i = p at *
      obtain ⟨ps, fr⟩ := p
      simp only at *
      by_cases hxc : x = c
      · have HNE := (u8_inj x c).2 hxc
        rw [← HC.out] at HNE
        rw [if_pos hxc] at hseg
        have HSEG := Lib.hid hseg
        have hrow := hown.row
        have HP := Lib.hid hp
        clear hseg hp hxc
        go_wp2_with (first
          | ((with_reducible refine at_index 9 ?_); refine wpList_strix (by rfl) 9 _ _ rfl Tryd.underlying9 l i x HX.out rfl hx ?_)
          | ((with_reducible refine at_slice 9 ?_); refine wpList_strcut (by rfl) 9 _ _ _ rfl Tryd.underlying9 l fr i HX.out rfl rfl hf (by omega) ?_)
          | (at_builtin; refine wpList_app1 _ (by rfl) _ _ 69 (by rfl) 9 iS _ 16 Tryd.underlying69 hiS hzS hsS hbS rfl _ ps.length _ (by rfl) hrow (str ((l.drop fr).take (i - fr))) 9 (by rfl) (str_one _) (by unfold maxLen; omega) (by omega) ?_))
        intro vo w2 ho2 t2 hv2
        have hnew2 : ∀ g, vo.ownBlock = some g → w.heap.size ≤ g := by
          intro g hg
          have z1 := ht.size
          rcases hv2 with e | e
          · rw [e] at hg; exact hown.new g hg
          · rw [e] at hg; simp at hg; omega
        have hown2 : OwnS w w2 vo (ps ++ [(l.drop fr).take (i - fr)]) := ⟨by rw [List.map_append, List.length_append]; exact ho2, hnew2⟩
        have ht2 : Touch [] w w2 := ht.trans t2 (fun g hg => .inr (hown.new g (by simpa using hg)))
        clear hv2 hnew2 ho2 t2 hrow
        go_wp2_with fail
        go_roundw
        case rel => exact ⟨i + 1, by omega, by go_num, by rw [HSEG.out]; simp, by rw [HSEG.out]; exact hown2, ht2⟩
        case measure => simp [intOf]; omega
      · have HNE := (not_congr (u8_inj x c)).2 hxc
        rw [← HC.out] at HNE
        rw [if_neg hxc] at hseg
        have HSEG := Lib.hid hseg
        clear hseg hp hxc
        go_wp2_with ((with_reducible refine at_index 9 ?_); refine wpList_strix (by rfl) 9 _ _ rfl Tryd.underlying9 l i x HX.out rfl hx ?_)
        go_roundw
        case rel => exact ⟨i + 1, by omega, by go_num, by rw [HSEG.out], by rw [HSEG.out]; exact hown, ht⟩
        case measure => simp [intOf]; omega
    · have he : i = l.length := by omega
      subst he
      have hsp : splitP l c = (segs l c l.length).1 ++ [l.drop (segs l c l.length).2] := rfl
      generalize segs l c l.length = p at *
      obtain ⟨ps, fr⟩ := p
      simp only at *
      have HSP := Lib.hid hsp
      have hrow := hown.row
      clear hsp
      go_wp2_with (first
          | ((with_reducible refine at_slice 9 ?_); refine wpList_strfrom (by rfl) 9 _ _ rfl Tryd.underlying9 l fr HX.out rfl hf ?_)
          | (at_builtin; refine wpList_app1 _ (by rfl) _ _ 69 (by rfl) 9 iS _ 16 Tryd.underlying69 hiS hzS hsS hbS rfl _ ps.length _ (by rfl) hrow (str (l.drop fr)) 9 (by rfl) (str_one _) (by unfold maxLen; omega) (by omega) ?_))
      intro vo w2 ho2 t2 hv2
      have hnew2 : ∀ g, vo.ownBlock = some g → w.heap.size ≤ g := by
        intro g hg
        have z1 := ht.size
        rcases hv2 with e | e
        · rw [e] at hg; exact hown.new g hg
        · rw [e] at hg; simp at hg; omega
      have hown2 : OwnS w w2 vo (ps ++ [l.drop fr]) := ⟨by rw [List.map_append, List.length_append]; exact ho2, hnew2⟩
      have ht2 : Touch [] w w2 := ht.trans t2 (fun g hg => .inr (hown.new g (by simpa using hg)))
      clear hv2 hnew2 ho2 t2 hrow
      go_wp2_with fail
      go_ret
      exact ⟨_, rfl, by rw [HSP.out]; exact hown2, ht2⟩
end Go.Proofs.YtecaakgpogabjaaDoor

/-
  The contract of the reference's ParseDecimal.
-/
namespace Go.Proofs.YtecaakgpogabjaaDoor
open Go.RowKit
set_option linter.unusedVariables false
set_option linter.unusedSimpArgs false

/-- The number that the first i digits make. -/
def digs (l : List UInt8) : Nat → Option Int
  | 0 => some 0
  | i + 1 => match digs l i, l[i]? with
    | some n, some x => if x.toNat < 48 ∨ 57 < x.toNat then none else some (10 * n + (x.toNat - 48))
    | _, _ => none
def decP (l : List UInt8) (most : Int) : Int :=
  if l = [] ∨ 6 < l.length ∨ (l[0]? = some 48 ∧ 1 < l.length) then -1
  else match digs l l.length with
    | none => -1
    | some n => if most < n then -1 else n
theorem digs_bound (l : List UInt8) (i : Nat) (n : Int) (h : digs l i = some n) : 0 ≤ n ∧ n < 10 ^ i := by
  induction i generalizing n with
  | zero =>
    simp [digs] at h
    subst h
    simp
  | succ i ih =>
    simp only [digs] at h
    split at h
    · rename_i m x hm hx
      split at h
      · cases h
      · rename_i hb
        have := ih m hm
        simp only [Option.some.injEq] at h
        rw [Int.pow_succ]
        omega
    · cases h
theorem digs_none (l : List UInt8) (i : Nat) (h : digs l i = none) : ∀ j, i ≤ j → digs l j = none := by
  intro j hj
  induction j with
  | zero =>
    have : i = 0 := by omega
    subst this
    exact h
  | succ j ih =>
    by_cases e : i = j + 1
    · subst e; exact h
    · simp only [digs, ih (by omega)]
theorem pow6 (i : Nat) (h : i ≤ 6) : (10 : Int) ^ i ≤ 1000000 := by
  rcases (by omega : i = 0 ∨ i = 1 ∨ i = 2 ∨ i = 3 ∨ i = 4 ∨ i = 5 ∨ i = 6) with rfl | rfl | rfl | rfl | rfl | rfl | rfl <;> decide
set_option maxRecDepth 100000 in
set_option maxHeartbeats 1000000 in
theorem dec_any (l : List UInt8) (most : Int) (w : World) :
    Calls Tryd.prog 68 #[str l, .int .i64 most] w fun e w' => e = .returned (.int .i64 (decP l most)) ∧ w = w' := by
  obtain ⟨s, hs⟩ : ∃ s : ByteArray, s = ⟨l.toArray⟩ := ⟨_, rfl⟩
  have hsz : s.size = l.length := by rw [hs]; exact str_size l
  have hse : s.toList = l := by rw [hs]; simp
  rw [show str l = .string s by rw [hs]; rfl]
  have HX := Lib.hid (show Value.string s = str l by rw [hs]; rfl)
  clear hs
  cases l with
  | nil =>
    have HP := Lib.hid (show decP [] most = -1 by simp [decP])
    go_enter Tryd.func68, Tryd.ntmps68
    go_wp2_with fail
    go_ret
    exact ⟨by rw [HP.out]; rfl, rfl⟩
  | cons y l0 =>
    obtain ⟨l, hl⟩ : ∃ l, l = y :: l0 := ⟨_, rfl⟩
    rw [← hl] at hsz hse HX ⊢
    have hy : l[0]? = some y := by rw [hl]; rfl
    have hne : s.toList.isEmpty = false := by rw [hse, hl]; rfl
    have hne2 : l ≠ [] := by rw [hl]; simp
    clear hl hse
    by_cases h6 : 6 < l.length
    · have HP := Lib.hid (show decP l most = -1 by simp [decP, h6])
      go_enter Tryd.func68, Tryd.ntmps68
      go_wp2_with fail
      go_ret
      exact ⟨by rw [HP.out]; rfl, rfl⟩
    · have h6c : decide ((6 : Int) < (l.length : Int)) = false := by simp; omega
      by_cases h48 : y = 48
      · subst h48
        have c48 : ((48 : UInt8).toNat : Int) = 48 := rfl
        by_cases h1 : 1 < l.length
        · have HP := Lib.hid (show decP l most = -1 by unfold decP; rw [if_pos (Or.inr (Or.inr ⟨hy, h1⟩))])
          go_enter Tryd.func68, Tryd.ntmps68
          go_wp2_with ((with_reducible refine at_index 9 ?_); refine wpList_strix (by rfl) 9 _ _ rfl Tryd.underlying9 l 0 48 HX.out rfl hy ?_)
          go_ret
          exact ⟨by rw [HP.out]; rfl, rfl⟩
        · have hcond : ¬ (l = [] ∨ 6 < l.length ∨ (l[0]? = some 48 ∧ 1 < l.length)) := by
            rintro (h | h | h)
            · exact hne2 h
            · exact h6 h
            · exact h1 h.2
          go_enter Tryd.func68, Tryd.ntmps68
          go_wp2_with ((with_reducible refine at_index 9 ?_); refine wpList_strix (by rfl) 9 _ _ rfl Tryd.underlying9 l 0 48 HX.out rfl hy ?_)
          go_loopw [5, 6] (fun vn vi wr => wr = w ∧ ∃ (i : Nat) (n : Int), i ≤ l.length ∧ vi = .int .i64 i ∧ vn = .int .i64 n ∧ digs l i = some n) (fun _ vi _ => l.length - (intOf vi).toNat)
          case atStart => exact ⟨rfl, 0, 0, by omega, rfl, rfl, rfl⟩
          case round =>
            obtain ⟨hwr, i, n, hi, rfl, rfl, hd⟩ := hrel
            subst hwr
            obtain ⟨hn0, hn1⟩ := digs_bound l i n hd
            have hp6 := pow6 i (by omega)
            by_cases hlt : i < l.length
            · obtain ⟨x, hx⟩ : ∃ x, l[i]? = some x := ⟨_, List.getElem?_eq_getElem hlt⟩
              have hx255 : x.toNat < 256 := x.toNat_lt
              by_cases hb : x.toNat < 48 ∨ 57 < x.toNat
              · have HD := Lib.hid (digs_none l (i + 1) (by simp only [digs, hd, hx]; rw [if_pos hb]) l.length (by omega))
                have HP := Lib.hid (show decP l most = -1 by unfold decP; rw [if_neg hcond, HD.out])
                clear hd hcond
                rcases hb with hb | hb
                · have hb2 : ((x.toNat : Int) < 48) := by omega
                  go_wp2_with ((with_reducible refine at_index 9 ?_); refine wpList_strix (by rfl) 9 _ _ rfl Tryd.underlying9 l i x HX.out rfl hx ?_)
                  go_ret
                  exact ⟨by rw [HP.out]; rfl, rfl⟩
                · have hb2 : ¬ ((x.toNat : Int) < 48) := by omega
                  have hb3 : (57 < (x.toNat : Int)) := by omega
                  go_wp2_with ((with_reducible refine at_index 9 ?_); refine wpList_strix (by rfl) 9 _ _ rfl Tryd.underlying9 l i x HX.out rfl hx ?_)
                  go_ret
                  exact ⟨by rw [HP.out]; rfl, rfl⟩
              · have HD := Lib.hid (show digs l (i + 1) = some (10 * n + (x.toNat - 48)) by simp only [digs, hd, hx]; rw [if_neg hb])
                have hb2 : ¬ ((x.toNat : Int) < 48) := by omega
                have hb3 : ¬ (57 < (x.toNat : Int)) := by omega
                have w1 : IntKind.i64.wrap (10 * n) = 10 * n := by rw [IntKind.wrap_i64] <;> omega
                have w2 : IntKind.u8.wrap ((x.toNat : Int) - 48) = (x.toNat : Int) - 48 := by simp [IntKind.wrap, IntKind.signed, IntKind.bits]; omega
                have w3 : IntKind.i64.wrap ((x.toNat : Int) - 48) = (x.toNat : Int) - 48 := by rw [IntKind.wrap_i64] <;> omega
                have w4 : IntKind.i64.wrap (10 * n + ((x.toNat : Int) - 48)) = 10 * n + ((x.toNat : Int) - 48) := by rw [IntKind.wrap_i64] <;> omega
                clear hd
                go_wp2_with ((with_reducible refine at_index 9 ?_); refine wpList_strix (by rfl) 9 _ _ rfl Tryd.underlying9 l i x HX.out rfl hx ?_)
                go_roundw
                case rel => exact ⟨by trivial, i + 1, _, by omega, by go_num, rfl, HD.out⟩
                case measure => simp [intOf]; omega
            · have he : i = l.length := by omega
              subst he
              by_cases hm : most < n
              · have HP := Lib.hid (show decP l most = -1 by unfold decP; rw [if_neg hcond, hd]; simp [hm])
                clear hd hcond
                go_wp2_with fail
                go_ret
                exact ⟨by rw [HP.out]; rfl, rfl⟩
              · have HP := Lib.hid (show decP l most = n by unfold decP; rw [if_neg hcond, hd]; simp [hm])
                clear hd hcond
                go_wp2_with fail
                go_ret
                exact ⟨by rw [HP.out]; rfl, rfl⟩
      · have hcond : ¬ (l = [] ∨ 6 < l.length ∨ (l[0]? = some 48 ∧ 1 < l.length)) := by
          rintro (h | h | h)
          · exact hne2 h
          · exact h6 h
          · rw [hy] at h
            exact h48 (by simpa using h.1)
        have hn48 : ¬ ((y.toNat : Int) = 48) := fun h => h48 ((u8_inj y 48).1 h)
        go_enter Tryd.func68, Tryd.ntmps68
        go_wp2_with ((with_reducible refine at_index 9 ?_); refine wpList_strix (by rfl) 9 _ _ rfl Tryd.underlying9 l 0 y HX.out rfl hy ?_)
        go_loopw [5, 6] (fun vn vi wr => wr = w ∧ ∃ (i : Nat) (n : Int), i ≤ l.length ∧ vi = .int .i64 i ∧ vn = .int .i64 n ∧ digs l i = some n) (fun _ vi _ => l.length - (intOf vi).toNat)
        case atStart => exact ⟨rfl, 0, 0, by omega, rfl, rfl, rfl⟩
        case round =>
          obtain ⟨hwr, i, n, hi, rfl, rfl, hd⟩ := hrel
          subst hwr
          obtain ⟨hn0, hn1⟩ := digs_bound l i n hd
          have hp6 := pow6 i (by omega)
          by_cases hlt : i < l.length
          · obtain ⟨x, hx⟩ : ∃ x, l[i]? = some x := ⟨_, List.getElem?_eq_getElem hlt⟩
            have hx255 : x.toNat < 256 := x.toNat_lt
            by_cases hb : x.toNat < 48 ∨ 57 < x.toNat
            · have HD := Lib.hid (digs_none l (i + 1) (by simp only [digs, hd, hx]; rw [if_pos hb]) l.length (by omega))
              have HP := Lib.hid (show decP l most = -1 by unfold decP; rw [if_neg hcond, HD.out])
              clear hd hcond
              rcases hb with hb | hb
              · have hb2 : ((x.toNat : Int) < 48) := by omega
                go_wp2_with ((with_reducible refine at_index 9 ?_); refine wpList_strix (by rfl) 9 _ _ rfl Tryd.underlying9 l i x HX.out rfl hx ?_)
                go_ret
                exact ⟨by rw [HP.out]; rfl, rfl⟩
              · have hb2 : ¬ ((x.toNat : Int) < 48) := by omega
                have hb3 : (57 < (x.toNat : Int)) := by omega
                go_wp2_with ((with_reducible refine at_index 9 ?_); refine wpList_strix (by rfl) 9 _ _ rfl Tryd.underlying9 l i x HX.out rfl hx ?_)
                go_ret
                exact ⟨by rw [HP.out]; rfl, rfl⟩
            · have HD := Lib.hid (show digs l (i + 1) = some (10 * n + (x.toNat - 48)) by simp only [digs, hd, hx]; rw [if_neg hb])
              have hb2 : ¬ ((x.toNat : Int) < 48) := by omega
              have hb3 : ¬ (57 < (x.toNat : Int)) := by omega
              have w1 : IntKind.i64.wrap (10 * n) = 10 * n := by rw [IntKind.wrap_i64] <;> omega
              have w2 : IntKind.u8.wrap ((x.toNat : Int) - 48) = (x.toNat : Int) - 48 := by simp [IntKind.wrap, IntKind.signed, IntKind.bits]; omega
              have w3 : IntKind.i64.wrap ((x.toNat : Int) - 48) = (x.toNat : Int) - 48 := by rw [IntKind.wrap_i64] <;> omega
              have w4 : IntKind.i64.wrap (10 * n + ((x.toNat : Int) - 48)) = 10 * n + ((x.toNat : Int) - 48) := by rw [IntKind.wrap_i64] <;> omega
              clear hd
              go_wp2_with ((with_reducible refine at_index 9 ?_); refine wpList_strix (by rfl) 9 _ _ rfl Tryd.underlying9 l i x HX.out rfl hx ?_)
              go_roundw
              case rel => exact ⟨by trivial, i + 1, _, by omega, by go_num, rfl, HD.out⟩
              case measure => simp [intOf]; omega
          · have he : i = l.length := by omega
            subst he
            by_cases hm : most < n
            · have HP := Lib.hid (show decP l most = -1 by unfold decP; rw [if_neg hcond, hd]; simp [hm])
              clear hd hcond
              go_wp2_with fail
              go_ret
              exact ⟨by rw [HP.out]; rfl, rfl⟩
            · have HP := Lib.hid (show decP l most = n by unfold decP; rw [if_neg hcond, hd]; simp [hm])
              clear hd hcond
              go_wp2_with fail
              go_ret
              exact ⟨by rw [HP.out]; rfl, rfl⟩
end Go.Proofs.YtecaakgpogabjaaDoor

/-
  A slice cut from an index on, the value kept as one letter: in a plain region, in a region that only reads, at a step of a region that draws; and append at such a step. Plain lemmas over any program.
-/
namespace Go.Proofs.YtecaakgpogabjaaDoor
open Go.RowKit
set_option linter.unusedVariables false
set_option linter.unusedSimpArgs false

/-- s[n:], as a value. -/
def cutv (a : Option Addr) (k c n s : Nat) : Value := .slice (if c = n then a else a.map (·.add (n * s))) (k - n) (c - n)
theorem run_from {P : Program} (w : World) (t e : TypeId) (s : Nat) (ht : P.underlying t = some (.slice e)) (hs : (P.info? e).map (·.size) = some s) (a : Option Addr) (k c n : Nat) (hn : n ≤ k) :
    (Instr.sliceAt t (.slice a k c) (some (.int .i64 n)) none none).run P w = .ok (cutv a k c n s) w := by
  have he : P.elem t = e := by simp [Program.elem, ht]
  have ht' : P.underlying t = some (.slice (P.elem t)) := by rw [he]; exact ht
  rw [run_sliceAt_slice _ _ _ _ _ _ ht', run_slice_l w t a k c ht' .i64 n (by omega) (by omega), he]
  obtain ⟨i, hi, rfl⟩ : ∃ i, P.info? e = some i ∧ i.size = s := by
    cases h : P.info? e with
    | none => simp [h] at hs
    | some i => exact ⟨i, rfl, by simpa [h] using hs⟩
  rw [run_sizeOf w hi]
  simp [Program.cellsOf, hi, sliced, cutv, Result.andThen, Int.toNat_natCast]
theorem wpList_from {P : Program} {ops : Array Oper} {rest : List Oper} {op : Oper} {a : Act} {w : World} {Q : Exit → Act → World → Prop} (hgd : op.guard = none) (t : TypeId) (x lo : Operand) (ho : op.op = .slice t x (some lo) none none)
    (e : TypeId) (s : Nat) (ht : P.underlying t = some (.slice e)) (hs : (P.info? e).map (·.size) = some s) (b : Option Addr) (k c n : Nat) (hx : a.eval x = .slice b k c) (hlo : a.eval lo = .int .i64 n) (hn : n ≤ k)
    (h : wpList P ops Q rest (a.put op.dst (cutv b k c n s)) w) : wpList P ops Q (op :: rest) a w := by
  refine wpList_plain hgd fun K hK => ?_
  have := hK _ _ h
  unfold Oper.wp execOp
  simp only [ho, hx, hlo, Option.map_some, Option.map_none, Sem.run_bind, Sem.run_pure, Result.andThen_ok, run_from w t e s ht hs b k c n hn]
  exact this
theorem wpStill_from {P : Program} {ops : Array Oper} {rest : List Oper} {op : Oper} {a : Act} {w : World} {Q : Act → Prop} (hgd : op.guard = none) (t : TypeId) (x lo : Operand) (ho : op.op = .slice t x (some lo) none none)
    (e : TypeId) (s : Nat) (ht : P.underlying t = some (.slice e)) (hs : (P.info? e).map (·.size) = some s) (b : Option Addr) (k c n : Nat) (hx : a.eval x = .slice b k c) (hlo : a.eval lo = .int .i64 n) (hn : n ≤ k)
    (h : wpStill P ops w Q rest (a.put op.dst (cutv b k c n s))) : wpStill P ops w Q (op :: rest) a := by
  refine wpStill_step fun K hK => ?_
  rw [if_pos (by simp [Region.wanted, hgd])]
  unfold Oper.still execOp
  simp only [ho, hx, hlo, Option.map_some, Option.map_none, Sem.run_bind, Sem.run_pure, Result.andThen_ok, run_from w t e s ht hs b k c n hn]
  exact (Oper.stillUpon_value _ _ _ _ _).mpr (hK _ h)
theorem step_from {P : Program} {ops : Array Oper} {o : Oper} {a : Act} {w : World} {K : Act → World → Prop} {Q : Exit → Act → World → Prop} {E : Prop} (hgd : o.guard = none) (t : TypeId) (x lo : Operand) (ho : o.op = .slice t x (some lo) none none)
    (e : TypeId) (s : Nat) (ht : P.underlying t = some (.slice e)) (hs : (P.info? e).map (·.size) = some s) (b : Option Addr) (k c n : Nat) (hx : a.eval x = .slice b k c) (hlo : a.eval lo = .int .i64 n) (hn : n ≤ k)
    (h : K (a.put o.dst (cutv b k c n s)) w) : if Region.wanted o (yielded ops a.tmps) = true then Oper.wp P o a w K Q else E := by
  have hw : Region.wanted o (yielded ops a.tmps) = true := by simp [Region.wanted, hgd]
  rw [if_pos hw]
  have := h
  unfold Oper.wp execOp
  simp only [ho, hx, hlo, Option.map_some, Option.map_none, Sem.run_bind, Sem.run_pure, Result.andThen_ok, run_from w t e s ht hs b k c n hn]
  exact this
theorem step_app {P : Program} (w : World) {ops : Array Oper} {o : Oper} {a : Act} {K : Act → World → Prop} {Q : Exit → Act → World → Prop} {E : Prop} (hgd : o.guard = none) (s x : Operand) (t : TypeId)
    (ho : o.op = .call { callee := .builtin .append, args := #[s, x], argTypes := #[t, t] })
    (e : TypeId) (i : TypeInfo) (z : Value) (size bytes : Nat) (ht : P.underlying t = some (.slice e)) (hi : P.info? e = some i) (hz : i.zero = some z)
    (hsize : i.size = size) (hby : i.bytes = bytes) (hzs : z.cells.size = size) (hsz : 0 < size)
    (v : Value) (n : Nat) (xs : List Value) (hs : a.eval s = v) (hown : w.ownsRow 0 e size v n xs)
    (ao : Option Addr) (m c : Nat) (news : List Value) (hx : a.eval x = .slice ao m c) (hl : news.length = m * size) (hnone : ao = none → m = 0 ∧ c = 0) (hnews : ∀ ad, ao = some ad → ∀ j u, news[j]? = some u → w.cell? (ad.add j) = some u) (h1 : ∀ u ∈ news, u.oneCell' = true)
    (h63 : n + m ≤ maxLen) (hbytes : (n + m) * bytes ≤ 140737488355328)
    (h : ∀ v' w', w'.ownsRow 0 e size v' (n + m) (xs ++ news) → Touch v.ownBlock.toList w w' → (v'.ownBlock = v.ownBlock ∨ v'.ownBlock = some w.heap.size) → K (a.put o.dst v') w') : if Region.wanted o (yielded ops a.tmps) = true then Oper.wp P o a w K Q else E := by
  have hw : Region.wanted o (yielded ops a.tmps) = true := by simp [Region.wanted, hgd]
  rw [if_pos hw]
  obtain ⟨v', w', hr, h2, h3, h4⟩ := run_app (P := P) w t o.type e i z size bytes ht hi hz hsize hby hzs hsz v n xs hown ao m c news hl hnone hnews h1 h63 hbytes
  unfold Oper.wp execOp
  simp only [ho, resolve, invoke, builtin, Sem.run_bind, Sem.run_pure, Result.andThen_ok, List.map_toArray, List.map_cons, List.map_nil, hs, hx, hr]
  exact h v' w' h2 h3 h4
theorem wp_post {P : Program} {o : Oper} {a : Act} {w : World} {K : Act → World → Prop} {Q' Q : Exit → Act → World → Prop} (hQ : ∀ e a w, Q' e a w → e = .normal)
    (hh : o.wp P a w K Q') : o.wp P a w K Q := by
  unfold Oper.wp at *
  generalize (execOp a.eval o).run P w = r at *
  cases r with
  | ok n w' =>
    cases n <;> simp only [Oper.upon] at hh ⊢
    case value u => exact hh
    case skip => exact hh
    case defer d => exact hh
    case enter f args =>
      refine Calls.mono hh fun e w'' he => ?_
      cases e with
      | returned u => exact he
      | panicked c => have := hQ _ _ _ he; cases this
      | outgrown => obtain ⟨_, _, he⟩ := he; have := hQ _ _ _ he; cases this
    case row row args => exact hh
  | halt x w' =>
    cases x <;> simp only [Oper.upon] at hh ⊢
    case panic u => have := hQ _ _ _ hh; cases this
theorem step_of_list {P : Program} {ops : Array Oper} {o : Oper} {a : Act} {w : World} {K : Act → World → Prop} {Q : Exit → Act → World → Prop} {E : Prop} (hgd : o.guard = none)
    (h : wpList P ops (fun e a w => e = .normal ∧ K a w) [o] a w) : if Region.wanted o (yielded ops a.tmps) = true then Oper.wp P o a w K Q else E := by
  have hw : Region.wanted o (yielded ops a.tmps) = true := by simp [Region.wanted, hgd]
  rw [if_pos hw]
  unfold wpList at h
  rw [if_pos hw] at h
  rcases h with h | ⟨_, a', w', h, _⟩
  · exact Oper.wp_mono (fun a w hk => hk.2) (wp_post (fun e a w he => he.1) h)
  · cases h
end Go.Proofs.YtecaakgpogabjaaDoor

/-
  Addresses as literals: equality and keys of maps.
-/
namespace Go.Proofs.YtecaakgpogabjaaDoor
open Go.RowKit
set_option linter.unusedVariables false
set_option linter.unusedSimpArgs false

def okB (xs : List Int) : Prop := xs.length = 16 ∧ ∀ x ∈ xs, 0 ≤ x ∧ x ≤ 255
theorem sixteen {α : Type} (xs : List α) (h : xs.length = 16) : ∃ a b c d e f g i j k l m n o p q, xs = [a, b, c, d, e, f, g, i, j, k, l, m, n, o, p, q] := by
  match xs, h with
  | [a, b, c, d, e, f, g, i, j, k, l, m, n, o, p, q], _ => exact ⟨_, _, _, _, _, _, _, _, _, _, _, _, _, _, _, _, rfl⟩
def lits (b : Bool) (xs : List Int) : List Lit := .bool b :: xs.map (Lit.int .u8)
theorem lits_inj {b b' : Bool} {xs ys : List Int} : lits b xs = lits b' ys ↔ b = b' ∧ xs = ys := by
  unfold lits
  rw [List.cons.injEq]
  constructor
  · rintro ⟨h1, h2⟩
    refine ⟨by simpa using h1, ?_⟩
    exact (List.map_inj_right (fun a b h => by simpa using h)).1 h2
  · rintro ⟨rfl, rfl⟩
    exact ⟨rfl, rfl⟩
theorem key_ad (b : Bool) (xs : List Int) (h : okB xs) : Tryd.prog.keyLits 5 28 (adr b xs) = some (lits b xs) := by
  obtain ⟨hl, hr⟩ := h
  obtain ⟨x0, x1, x2, x3, x4, x5, x6, x7, x8, x9, x10, x11, x12, x13, x14, x15, rfl⟩ := sixteen xs hl
  have hwf : ∀ x : Int, 0 ≤ x ∧ x ≤ 255 → (Lit.int .u8 x).wf = true := by
    intro x hx
    simp [Lit.wf, IntKind.min, IntKind.max, IntKind.signed, IntKind.bits]
    omega
  have hk1 : ∀ x ∈ [x0, x1, x2, x3, x4, x5, x6, x7, x8, x9, x10, x11, x12, x13, x14, x15], ∀ d, Tryd.prog.keyLits (d + 1) 5 [.int .u8 x] = some [.int .u8 x] := by
    intro x hx d
    simp [Program.keyLits, Tryd.underlying5, hwf x (hr x hx)]
  simp only [List.mem_cons, List.not_mem_nil, or_false, forall_eq_or_imp, forall_eq] at hk1
  obtain ⟨k0, k1, k2, k3, k4, k5, k6, k7, k8, k9, k10, k11, k12, k13, k14, k15⟩ := hk1
  have c5 : Tryd.prog.cellsOf 5 = 1 := by kernel_rfl
  have c4 : Tryd.prog.cellsOf 4 = 1 := by kernel_rfl
  have c29 : Tryd.prog.cellsOf 26 = 16 := by kernel_rfl
  have c31 : Tryd.prog.cellsOf 28 = 17 := by kernel_rfl
  have hk2 : Tryd.prog.keyLits 4 26 ([x0, x1, x2, x3, x4, x5, x6, x7, x8, x9, x10, x11, x12, x13, x14, x15].map (Value.int .u8)) = some ([x0, x1, x2, x3, x4, x5, x6, x7, x8, x9, x10, x11, x12, x13, x14, x15].map (Lit.int .u8)) := by
    unfold Program.keyLits
    simp [Tryd.underlying26, c5, c29, List.range, List.range.loop, k0, k1, k2, k3, k4, k5, k6, k7, k8, k9, k10, k11, k12, k13, k14, k15]
  have hk3 : Tryd.prog.keyLits 4 4 [.bool b] = some [.bool b] := by
    simp [Program.keyLits, Tryd.underlying4]
  simp only [List.map_cons, List.map_nil] at hk2
  unfold Program.keyLits
  simp [Tryd.underlying28, adr, lits, c4, c29, c31, hk2, hk3]
set_option maxRecDepth 100000 in
theorem eq_ads (b b' : Bool) (xs ys : List Int) (h : okB xs) (h' : okB ys) (w : World) : (Op.equalIn 10000 28 (.agg (adr b xs).toArray) (.agg (adr b' ys).toArray)).run Tryd.prog w = .ok (decide (b = b' ∧ xs = ys)) w := by
  have key : ∃ r, (Op.equalIn 10000 28 (.agg (adr b xs).toArray) (.agg (adr b' ys).toArray)).run Tryd.prog w = .ok r w ∧ (r = true ↔ lits b xs = lits b' ys) := by
    have k1 := key_ad b xs h
    have k2 := key_ad b' ys h'
    generalize lits b xs = l1 at *
    generalize lits b' ys = l2 at *
    obtain ⟨x0, x1, x2, x3, x4, x5, x6, x7, x8, x9, x10, x11, x12, x13, x14, x15, rfl⟩ := sixteen xs h.1
    obtain ⟨y0, y1, y2, y3, y4, y5, y6, y7, y8, y9, y10, y11, y12, y13, y14, y15, rfl⟩ := sixteen ys h'.1
    exact run_equalIn_deep 9995 5 28 (by kernel_rfl) w 5 5 _ _ l1 l2 (by rfl) (by rfl) k1 k2
  obtain ⟨r, hrun, hi⟩ := key
  rw [lits_inj] at hi
  rw [hrun]
  by_cases e : b = b' ∧ xs = ys
  · rw [hi.2 e]
    simp [e]
  · have hf : r = false := by
      cases r
      · rfl
      · exact absurd (hi.1 rfl) e
    rw [hf, decide_eq_false e]
end Go.Proofs.YtecaakgpogabjaaDoor

/-
  DERIVED: THE SHELF's CONTRACTS AT THIS DUMP, IN PLAIN WORDS (tools/lay-plain.mjs out of 'YtecaakgpogabjaaDoorLayT.lean', which tools/lay-shelf.mjs wrote): THE SAME DECLARATIONS UNDER THE SAME NAMES: 'import', 'namespace', 'open', 'def', 'theorem' AND NOTHING ELSE: no command of the shelf's: FOR A HAND-IN. Each laying: the table of numbers ('.._ren') and one theorem, a field a fact of the dump's own or the kernel's comparison; each contract: ONE APPLICATION.
-/
namespace Go.Proofs
open Go.Shelf
def Tryd.trimL_ren : Go.Shelf.Ren := ⟨fun | 160 => 51 | 232 => 60 | 231 => 59 | 227 => 61 | 234 => 63 | 233 => 62 | 236 => 65 | 235 => 64 | 228 => 72 | 271 => 75 | 151 => 74 | 197 => 73 | 120 => 81 | 152 => 80 | 260 => 79 | 137 => 83 | 119 => 84 | 224 => 85 | 225 => 86 | 217 => 87 | 266 => 88 | n => n, fun | 9 => 9 | 4 => 4 | 3 => 3 | 5 => 5 | 117 => 80 | 116 => 79 | 0 => 0 | 124 => 83 | 21 => 21 | 105 => 91 | 46 => 46 | 119 => 99 | 139 => 102 | 138 => 101 | n => n, fun | 3 => 0 | 4 => 1 | n => n⟩
theorem Tryd.trimL : Go.Proofs.Lays.n160 Tryd.prog Tryd.trimL_ren := {
  mixed := by kernel_rfl
  f119 := Tryd.func84.trans (congrArg some (by kernel_rfl))
  f120 := Tryd.func81.trans (congrArg some (by kernel_rfl))
  f137 := Tryd.func83.trans (congrArg some (by kernel_rfl))
  f151 := Tryd.func74.trans (congrArg some (by kernel_rfl))
  f152 := Tryd.func80.trans (congrArg some (by kernel_rfl))
  f160 := Tryd.func51.trans (congrArg some (by kernel_rfl))
  f197 := Tryd.func73.trans (congrArg some (by kernel_rfl))
  f217 := Tryd.func87.trans (congrArg some (by kernel_rfl))
  f224 := Tryd.func85.trans (congrArg some (by kernel_rfl))
  f225 := Tryd.func86.trans (congrArg some (by kernel_rfl))
  f227 := Tryd.func61.trans (congrArg some (by kernel_rfl))
  f228 := Tryd.func72.trans (congrArg some (by kernel_rfl))
  f231 := Tryd.func59.trans (congrArg some (by kernel_rfl))
  f232 := Tryd.func60.trans (congrArg some (by kernel_rfl))
  f233 := Tryd.func62.trans (congrArg some (by kernel_rfl))
  f234 := Tryd.func63.trans (congrArg some (by kernel_rfl))
  f235 := Tryd.func64.trans (congrArg some (by kernel_rfl))
  f236 := Tryd.func65.trans (congrArg some (by kernel_rfl))
  f260 := Tryd.func79.trans (congrArg some (by kernel_rfl))
  f266 := Tryd.func88.trans (congrArg some (by kernel_rfl))
  f271 := Tryd.func75.trans (congrArg some (by kernel_rfl))
  t0 := Tryd.underlying0
  a0 := Tryd.isAgg0
  z0 := Tryd.sizeOf0
  v0 := Tryd.zeroValue0
  t3 := Tryd.underlying3
  a3 := Tryd.isAgg3
  z3 := Tryd.sizeOf3
  v3 := Tryd.zeroValue3
  t4 := Tryd.underlying4
  a4 := Tryd.isAgg4
  z4 := Tryd.sizeOf4
  v4 := Tryd.zeroValue4
  t5 := Tryd.underlying5
  a5 := Tryd.isAgg5
  z5 := Tryd.sizeOf5
  v5 := Tryd.zeroValue5
  t9 := Tryd.underlying9
  a9 := Tryd.isAgg9
  z9 := Tryd.sizeOf9
  v9 := Tryd.zeroValue9
  t21 := Tryd.underlying21
  a21 := Tryd.isAgg21
  z21 := Tryd.sizeOf21
  v21 := Tryd.zeroValue21
  t46 := Tryd.underlying46
  a46 := Tryd.isAgg46
  z46 := Tryd.sizeOf46
  v46 := Tryd.zeroValue46
  t105 := Tryd.underlying91
  a105 := Tryd.isAgg91
  z105 := Tryd.sizeOf91
  v105 := Tryd.zeroValue91
  t116 := Tryd.underlying79
  a116 := Tryd.isAgg79
  z116 := Tryd.sizeOf79
  t117 := Tryd.underlying80
  a117 := Tryd.isAgg80
  z117 := Tryd.sizeOf80
  v117 := Tryd.zeroValue80
  t119 := Tryd.underlying99
  a119 := Tryd.isAgg99
  z119 := Tryd.sizeOf99
  t124 := Tryd.underlying83
  a124 := Tryd.isAgg83
  z124 := Tryd.sizeOf83
  v124 := Tryd.zeroValue83
  t138 := Tryd.underlying101
  a138 := Tryd.isAgg101
  z138 := Tryd.sizeOf101
  v138 := Tryd.zeroValue101
  t139 := Tryd.underlying102
  a139 := Tryd.isAgg102
  z139 := Tryd.sizeOf102
  v139 := Tryd.zeroValue102
  g3 := by kernel_rfl
  g4 := by kernel_rfl }
end Go.Proofs

/-
  The contracts of ip.Valid and ip.BitLen.
-/
namespace Go.Proofs.YtecaakgpogabjaaDoor
open Go.RowKit Go.Shelf
set_option linter.unusedVariables false
set_option linter.unusedSimpArgs false

/-- An IPv4 address uses only the first four bytes. -/
def vld (b : Bool) (xs : List Int) : Bool := b || (xs.drop 4).all (· == 0)
theorem dropWhile_none {α : Type} (p : α → Bool) : ∀ l : List α, l.dropWhile p = [] ↔ ∀ x ∈ l, p x = true
  | [] => by simp
  | a :: l => by
    cases h : p a
    · simp [List.dropWhile, h]
    · simp [List.dropWhile, h, dropWhile_none p l]
theorem dropWhile_last {α : Type} (p : α → Bool) : ∀ l : List α, ∀ x m, l.dropWhile p = x :: m → p x = false
  | [], x, m, h => by simp at h
  | a :: l, x, m, h => by
    cases h2 : p a
    · simp [List.dropWhile, h2] at h
      rw [← h.1]
      exact h2
    · simp [List.dropWhile, h2] at h
      exact dropWhile_last p l x m h
theorem dropWhile_mem {α : Type} (p : α → Bool) : ∀ l : List α, ∀ x ∈ l.dropWhile p, x ∈ l
  | [], x, h => by simp at h
  | a :: l, x, h => by
    cases h2 : p a
    · simp [List.dropWhile, h2] at h
      simpa using h
    · simp [List.dropWhile, h2] at h
      exact List.mem_cons_of_mem _ (dropWhile_mem p l x h)
theorem trim_empty {l : List UInt8} {c : UInt8} : Lib.trimB l c = [] ↔ ∀ x ∈ l, x = c := by
  unfold Lib.trimB Lib.trimLeftB Lib.trimRightB
  rw [dropWhile_none]
  constructor
  · intro h
    have h2 : l.reverse.dropWhile (· == c) = [] := by
      cases h3 : l.reverse.dropWhile (· == c) with
      | nil => rfl
      | cons x m =>
        have h4 := dropWhile_last _ _ x m h3
        have h5 := h x (by rw [h3]; simp)
        rw [h5] at h4
        cases h4
    rw [dropWhile_none] at h2
    intro x hx
    simpa using h2 x (by simpa using hx)
  · intro h x hx
    have h2 := dropWhile_mem _ _ x (List.mem_reverse.1 hx)
    simpa using h x (by simpa using h2)
theorem bytes_zero {xs : List Int} (hr : ∀ x ∈ xs, 0 ≤ x ∧ x ≤ 255) : (∀ y ∈ (xs.map fun n => UInt8.ofNat n.toNat), y = 0) ↔ xs.all (· == 0) = true := by
  rw [List.all_eq_true]
  constructor
  · intro h x hx
    have h1 := h _ (List.mem_map.2 ⟨x, hx, rfl⟩)
    have h2 := hr x hx
    have h3 := congrArg UInt8.toNat h1
    simp at h3
    simp
    omega
  · intro h y hy
    obtain ⟨x, hx, rfl⟩ := List.mem_map.1 hy
    have := h x hx
    simp at this
    subst this
    rfl
theorem adr_cell {w : World} {g : Nat} {T : TypeId} {b : Bool} {xs : List Int} (h : w.heap[g]? = some (.cells (adr b xs).toArray T (0, 0))) : w.cell? ⟨g, 0, none⟩ = some (.bool b) ∧ ∀ j x, xs[j]? = some x → w.cell? ⟨g, 1 + j, none⟩ = some (.int .u8 x) := by
  constructor
  · simp [World.cell?, h, adr]
  · intro j x hj
    simp [World.cell?, h, adr, Nat.add_comm 1 j, hj]
theorem trim_zero (ys : List Int) (hr : ∀ x ∈ ys, 0 ≤ x ∧ x ≤ 255) (hl : ys.length ≤ 1000) (w : World) :
    Calls Tryd.prog 51 #[.string (strOfNums ys), .string ⟨#[0]⟩] w fun e w' => ∃ s : ByteArray, e = .returned (.string s) ∧ s.toList.isEmpty = ys.all (· == 0) ∧ Touch [] w w' := by
  have h1 : (strOfNums ys).data.toList = ys.map fun n => UInt8.ofNat n.toNat := by simp [strOfNums]
  refine (Any.strings_Trim_one Tryd.trimL (strOfNums ys) 0 (by decide) w (by simp [strOfNums, ByteArray.size]; omega)).mono ?_
  rintro e w' ⟨rfl, hw⟩
  refine ⟨_, rfl, ?_, ?_⟩
  · rw [h1, ByteArray.toList_eq]
    have hz := (bytes_zero hr).symm.trans (trim_empty (l := ys.map fun n => UInt8.ofNat n.toNat) (c := 0)).symm
    by_cases e : ys.all (· == 0) = true
    · rw [e, hz.1 e]
      rfl
    · have e2 : Lib.trimB (ys.map fun n => UInt8.ofNat n.toNat) 0 ≠ [] := fun q => e (hz.2 q)
      have e3 : ys.all (· == 0) = false := by simpa using e
      rw [e3]
      cases hq : Lib.trimB (ys.map fun n => UInt8.ofNat n.toNat) 0 with
      | nil => exact absurd hq e2
      | cons x m =>
        rfl
  · rcases hw with rfl | rfl
    · exact Touch.refl _ _
    · exact (Touch.refl _ _).drew
set_option maxRecDepth 100000 in
set_option maxHeartbeats 1000000 in
theorem ipvalid_any (b : Bool) (xs : List Int) (h : okB xs) (w : World) :
    Calls Tryd.prog 43 #[.agg (adr b xs).toArray] w fun e w' => e = .returned (.bool (vld b xs)) ∧ Touch [] w w' := by
  have gA := heap_alloc_new w (.cells (adr b xs).toArray 28)
  have tA := (Touch.refl [] w).alloc (.cells (adr b xs).toArray 28)
  obtain ⟨c0, cj⟩ := adr_cell gA
  have hcv := run_convert_bytes_arg (P := Tryd.prog) (w.alloc (.cells (adr b xs).toArray 28)) 68 5 Tryd.underlying68 Tryd.underlying5 w.heap.size 5 12 12 (xs.drop 4) (by simp [h.1]) (by
    intro i hi
    have hlt : 4 + i < xs.length := by rw [h.1]; omega
    have := cj (4 + i) xs[4 + i] (by rw [List.getElem?_eq_getElem])
    rw [show 5 + i = 1 + (4 + i) by omega, this]
    simp [List.getD_eq_getElem?_getD, List.getElem?_drop, List.getElem?_eq_getElem hlt]) 9 Tryd.underlying9
  have hr4 : ∀ x ∈ xs.drop 4, 0 ≤ x ∧ x ≤ 255 := fun x hx => h.2 x (List.mem_of_mem_drop hx)
  have HR4 := Lib.hid (trim_zero (xs.drop 4) hr4 (by simp; have := h.1; omega))
  cases b with
  | true =>
    have HV := Lib.hid (show vld true xs = true from rfl)
    clear hr4 cj hcv gA
    go_enter Tryd.func43, Tryd.ntmps43
    go_wp2_with fail
    go_ret
    exact ⟨by rw [HV.out]; rfl, tA⟩
  | false =>
    have HV := Lib.hid (show vld false xs = (xs.drop 4).all (· == 0) from rfl)
    clear hr4 cj gA
    go_enter Tryd.func43, Tryd.ntmps43
    go_wp2_with fail
    refine (HR4.out _).mono ?_
    rintro e w' ⟨s, rfl, hs, ht⟩
    have HT := Lib.hid (tA.trans ht (by simp))
    have HS := Lib.hid hs
    clear hs ht tA
    go_wp2_with fail
    go_ret
    exact ⟨by rw [HV.out, ← HS.out]; simp, HT.out⟩
def blen (b : Bool) : Int := if b then 128 else 32
set_option maxRecDepth 100000 in
theorem bitlen_any (b : Bool) (xs : List Int) (w : World) :
    Calls Tryd.prog 71 #[.agg (adr b xs).toArray] w fun e w' => e = .returned (.int .i64 (blen b)) ∧ Touch [] w w' := by
  have gA := heap_alloc_new w (.cells (adr b xs).toArray 28)
  have tA := (Touch.refl [] w).alloc (.cells (adr b xs).toArray 28)
  obtain ⟨c0, cj⟩ := adr_cell gA
  clear cj gA
  cases b
  · go_enter Tryd.func71, Tryd.ntmps71
    go_wp2_with fail
    go_ret
    exact ⟨rfl, tA⟩
  · go_enter Tryd.func71, Tryd.ntmps71
    go_wp2_with fail
    go_ret
    exact ⟨rfl, tA⟩
end Go.Proofs.YtecaakgpogabjaaDoor

/-
  The contract of cidr.truncate.
-/
namespace Go.Proofs.YtecaakgpogabjaaDoor
open Go.RowKit
set_option linter.unusedVariables false
set_option linter.unusedSimpArgs false

/-- How many bits of byte i are kept; the byte's mask; the byte's rest; the bytes. -/
def keep (bits : Int) (i : Nat) : Int := max 0 (min (bits - 8 * i) 8)
def cutB (bits : Int) (i : Nat) (x : Int) : Int := Go.bits BinOp.and IntKind.u8 x (255 * 2 ^ (8 - keep bits i).toNat % 256)
def trunc (bits : Int) (xs : List Int) : List Int := xs.mapIdx fun i x => cutB bits i x
def trunk (bits : Int) (xs : List Int) (k : Nat) : List Int := xs.mapIdx fun i x => if i < k then cutB bits i x else x
theorem trunk_zero (bits : Int) (xs : List Int) : trunk bits xs 0 = xs := by
  unfold trunk
  apply List.ext_getElem?
  intro j
  simp [List.getElem?_mapIdx]
theorem trunk_all (bits : Int) (xs : List Int) : trunk bits xs xs.length = trunc bits xs := by
  unfold trunk trunc
  apply List.ext_getElem?
  intro j
  simp only [List.getElem?_mapIdx]
  cases h : xs[j]? with
  | none => rfl
  | some x =>
    have := (List.getElem?_eq_some_iff.1 h).1
    simp [this]
theorem trunk_step (bits : Int) (xs : List Int) (k : Nat) (x : Int) (hx : xs[k]? = some x) : trunk bits xs (k + 1) = (trunk bits xs k).set k (cutB bits k x) := by
  unfold trunk
  apply List.ext_getElem?
  intro j
  rw [List.getElem?_set]
  simp only [List.getElem?_mapIdx, List.length_mapIdx]
  have hk := (List.getElem?_eq_some_iff.1 hx).1
  by_cases e : k = j
  · subst e
    have hx' := (List.getElem?_eq_some_iff.1 hx).2
    simp [hk, hx']
  · simp [e]
    cases h : xs[j]? with
    | none => rfl
    | some y =>
      simp
      have : j < k + 1 ↔ j < k := by omega
      simp [this]
theorem trunk_at (bits : Int) (xs : List Int) (k : Nat) : (trunk bits xs k)[k]? = xs[k]? := by
  unfold trunk
  simp [List.getElem?_mapIdx]
theorem trunk_len (bits : Int) (xs : List Int) (k : Nat) : (trunk bits xs k).length = xs.length := by simp [trunk]
theorem cutB_ok (bits : Int) (i : Nat) (x : Int) : 0 ≤ cutB bits i x ∧ cutB bits i x ≤ 255 := by
  unfold cutB Go.bits
  simp [IntKind.wrap, IntKind.signed, IntKind.bits]
  omega
theorem trunc_ok {bits : Int} {xs : List Int} (h : okB xs) : okB (trunc bits xs) := by
  refine ⟨by simp [trunc, h.1], fun y hy => ?_⟩
  obtain ⟨i, hi⟩ := List.getElem?_of_mem hy
  simp only [trunc, List.getElem?_mapIdx, Option.map_eq_some_iff] at hi
  obtain ⟨x, _, rfl⟩ := hi
  exact cutB_ok bits i x
theorem set_adr (w : World) (g k : Nat) (T : TypeId) (b : Bool) (xs : List Int) (y : Int) (h : w.heap[g]? = some (.cells (adr b xs).toArray T (0, 0))) :
    (w.setCell ⟨g, 1 + k, none⟩ (.int .u8 y)).heap[g]? = some (.cells (adr b (xs.set k y)).toArray T (0, 0)) := by
  simp [World.setCell, Array.getElem?_modify, h, adr, List.map_set, Nat.add_comm 1 k]
set_option maxRecDepth 100000 in
set_option maxHeartbeats 4000000 in
theorem trunc_any (b : Bool) (xs : List Int) (h : okB xs) (bits : Int) (hb0 : 0 ≤ bits) (hb1 : bits ≤ 128) (w : World) :
    Calls Tryd.prog 58 #[.agg (adr b xs).toArray, .int .i64 bits] w fun e w' => e = .returned (.agg (adr b (trunc bits xs)).toArray) ∧ Touch [] w w' := by
  have gA := heap_alloc_new w (.cells (adr b xs).toArray 28)
  have tA := (Touch.refl [] w).alloc (.cells (adr b xs).toArray 28)
  have hz : ∃ z, ((w.alloc (.cells (adr b xs).toArray 28)).alloc (.cells z 28)).heap[w.heap.size + 1]? = some (.cells z 28 (0, 0)) ∧ z = (adr false (List.replicate 16 0)).toArray := ⟨_, heap_alloc2_new w _ _, rfl⟩
  obtain ⟨z, hz1, hz2⟩ := hz
  have gB := ((Touch.refl [] (w.alloc (.cells (adr b xs).toArray 28))).alloc (.cells z 28)).at gA (by simp)
  have tB := tA.alloc (.cells z 28)
  have hlen := h.1
  have HZ := Lib.hid hz1
  have HG := Lib.hid gB
  have HT := Lib.hid tB
  have HL := Lib.hid hlen
  have hzs : z.size = 17 := by rw [hz2]; rfl
  clear gA tA gB tB hz1
  go_enter Tryd.func58, Tryd.ntmps58
  go_wp2_with fail
  go_loopw [7] (fun vi wr => ∃ (k : Nat), vi = .int .i64 k ∧ k ≤ 16 ∧ Touch [] w wr ∧ wr.heap[w.heap.size]? = some (.cells (adr b (trunk bits xs k)).toArray 28 (0, 0)) ∧ wr.heap[w.heap.size + 1]? = some (.cells z 28 (0, 0))) (fun vi _ => 16 - (intOf vi).toNat)
  case atStart => exact ⟨0, rfl, by omega, by subst hz2; exact HT.out, by subst hz2; rw [trunk_zero]; exact HG.out, by have := HZ.out; subst hz2; exact this⟩
  case round =>
    obtain ⟨k, rfl, hk, ht, hg, hz⟩ := hrel
    have HT := Lib.hid ht
    have HG := Lib.hid hg
    have HZ := Lib.hid hz
    clear ht hg hz
    by_cases hk2 : k < 16
    · have hx : xs[k]? = some xs[k] := List.getElem?_eq_getElem (by omega)
      have c1 := (adr_cell HG.out).2 k xs[k] (by rw [trunk_at]; exact hx)
      have f1 : wr.frozen? ⟨w.heap.size, 1 + k, none⟩ = false := by simp [World.frozen?, HG.out]
      have hst := trunk_step bits xs k xs[k] hx
      have hsa := set_adr wr w.heap.size k 28 b (trunk bits xs k) (cutB bits k xs[k]) HG.out
      rw [← hst] at hsa
      have HSA := Lib.hid hsa
      generalize xs[k] = x at *
      have hw8 : IntKind.i64.wrap (8 * (k : Int)) = 8 * (k : Int) := by rw [IntKind.wrap_i64] <;> omega
      have hwb : IntKind.i64.wrap (bits - 8 * (k : Int)) = bits - 8 * (k : Int) := by rw [IntKind.wrap_i64] <;> omega
      have hkp : max 0 (min (bits - 8 * (k : Int)) 8) = keep bits k := rfl
      have hk0 : 0 ≤ keep bits k := by unfold keep; omega
      have hk8 : keep bits k ≤ 8 := by unfold keep; omega
      have hwk : IntKind.i64.wrap (8 - keep bits k) = 8 - keep bits k := by rw [IntKind.wrap_i64] <;> omega
      clear hx hst hsa
      go_wp2_with fail
      refine wp_region_still_tail 10 (by kernel_rfl) (by kernel_rfl) ?_
      simp only [List.take_succ_cons, List.take_zero, List.drop_succ_cons, List.drop_zero]
      iterate 10 still_step
      refine wpStill_nil ?_
      change wpList _ _ _ _ _ wr.drew
      go_wp2_with fail
      go_roundw
      case rel =>
        refine ⟨k + 1, by simp, by omega, ?_, HSA.out, ?_⟩
        · exact ((HT.out.setCell (p := ⟨w.heap.size, 1 + k, none⟩) (by right; exact Nat.le_refl _) _).drew)
        · exact ((Touch.refl [w.heap.size] wr).setCell (p := ⟨w.heap.size, 1 + k, none⟩) (by simp) (.int .u8 (cutB bits k x))).at HZ.out (by simp)
      case measure => simp [intOf]; omega
    · have hke : k = 16 := by omega
      subst hke
      have hta := trunk_all bits xs
      rw [hlen] at hta
      have hg := HG.out
      rw [hta] at hg
      have HR := Lib.hid (trunc_ok (bits := bits) h)
      generalize hys : trunc bits xs = ys at *
      have HG2 := Lib.hid hg
      have r1 := range_block hg
      have hl17 : (adr b ys).length = 17 := by simp [adr, HR.out.1]
      have HL17 := Lib.hid hl17
      have HYS := Lib.hid hys
      clear hg hta hl17 hys
      go_wp2_with (first
        | (refine wpList_load_mid rfl 28 _ rfl w.heap.size 0 rfl (adr b ys) _ r1 Tryd.underlying28 rfl (by rw [size31, HL17.out]) ?_)
        | (refine wpList_store_into rfl 28 _ _ rfl (w.heap.size + 1) 28 z (adr b ys) rfl rfl HZ.out (by rw [hzs, HL17.out]) (by rw [size31, HL17.out]) (adr_one _ _) ?_))
      intro w3 hg3 t3 hz3
      go_wp2_with fail
      exact ret_adr rfl HL17.out rfl hg3 ⟨by rw [HYS.out], HT.out.trans t3 (by simp)⟩
end Go.Proofs.YtecaakgpogabjaaDoor

/-
  The contracts of cidr.Valid and cidr.Contains at a valid prefix and a valid address of its family.
-/
namespace Go.Proofs.YtecaakgpogabjaaDoor
open Go.RowKit
set_option linter.unusedVariables false
set_option linter.unusedSimpArgs false

theorem exec_load_agg {P : Program} {a : Act} {w : World} (op : Oper) (ty : TypeId) (x : Operand) (ho : op.op = .load ty x)
    (b o : Nat) (hx : a.eval x = .pointer (some ⟨b, o, none⟩)) (cs : List Value) (d : TypeDesc) (hc : w.rangeAt b o cs)
    (hu : P.underlying ty = some d) (hd : d.isRow = true) (hi : (P.info? ty).map (·.size) = some cs.length) : (execOp a.eval op).run P w = .ok (.value (.agg cs.toArray)) w := by
  unfold execOp
  simp only [ho, hx, Instr.loadAt, Instr.sureAddr, Sem.run_bind, Sem.run_pure, Result.andThen_ok, run_loadVar_mid w b o ty cs d hc hu hd hi]
theorem exec_eql_agg {P : Program} {a : Act} {w : World} (op : Oper) (t t' : TypeId) (x y : Operand) (ho : op.op = .binOp .eql t x y t')
    (xs ys : Array Value) (hx : a.eval x = .agg xs) (hy : a.eval y = .agg ys) (hm : P.eqGuardType P.depth t = false) (r : Bool) (hr : (Op.equalIn 10000 t (.agg xs) (.agg ys)).run P w = .ok r w) : (execOp a.eval op).run P w = .ok (.value (.bool r)) w := by
  have hb : (binOp .eql t (.agg xs) (.agg ys)).run P w = .ok (.bool r) w := by rw [run_eql_struct, hr]; rfl
  unfold execOp
  simp only [ho, hx, hy, Sem.run_bind, run_eqGuard_agg w _ _ _ _ _ _ hm, Result.andThen_ok, hb, Sem.run_pure]
/-- The cells of a prefix. -/
def pfx (b : Bool) (px : List Int) (bits : Int) : List Value := adr b px ++ [.int .i64 bits]
theorem sizeP : (Tryd.prog.info? 52).map (·.size) = some 18 := by kernel_rfl
theorem pfx_rows {w : World} {g : Nat} {b : Bool} {px : List Int} {bits : Int} (hl : px.length = 16) (h : w.rangeAt g 0 (pfx b px bits)) : w.rangeAt g 0 (adr b px) ∧ w.cell? ⟨g, 0, none⟩ = some (.bool b) ∧ w.cell? ⟨g, 17, none⟩ = some (.int .i64 bits) := by
  have hl2 : (adr b px).length = 17 := by simp [adr, hl]
  refine ⟨fun j v hj => h j v ?_, ?_, ?_⟩
  · rw [pfx, List.getElem?_append_left (List.getElem?_eq_some_iff.1 hj).1]
    exact hj
  · have := h 0 (.bool b) (by simp [pfx, adr])
    simpa using this
  · have := h 17 (.int .i64 bits) (by rw [pfx, List.getElem?_append_right (by omega), hl2]; rfl)
    simpa using this
set_option maxRecDepth 100000 in
set_option maxHeartbeats 4000000 in
theorem cvalid_any (b : Bool) (px : List Int) (bits : Int) (hp : okB px) (hv : vld b px = true) (hb0 : 0 ≤ bits) (hb1 : bits ≤ blen b) (ht : trunc bits px = px) (w : World) :
    Calls Tryd.prog 57 #[.agg (pfx b px bits).toArray] w fun e w' => e = .returned (.bool true) ∧ Touch [] w w' := by
  have hb2 : bits ≤ 128 := by unfold blen at hb1; split at hb1 <;> omega
  have R := range_new w (pfx b px bits) 52
  have t0 := ((Touch.refl [] w).alloc (.cells (pfx b px bits).toArray 52)).drew
  obtain ⟨r0, _, c17⟩ := pfx_rows hp.1 R
  have HPX := Lib.hid hp
  have HXS := Lib.hid hp
  have HPV := Lib.hid hv
  have HPT := Lib.hid ht
  clear hp hv ht R
  go_enter Tryd.func57, Tryd.ntmps57
  go_wp2_with fail
  obtain ⟨W, hW⟩ : ∃ W, W = (w.alloc (.cells (pfx b px bits).toArray 52)).drew := ⟨_, rfl⟩
  have r0 : W.rangeAt w.heap.size 0 (adr b px) := by rw [hW]; exact r0
  have c17 : W.cell? ⟨w.heap.size, 17, none⟩ = some (.int .i64 bits) := by rw [hW]; exact c17
  refine wp_region_held (S := Touch [] W) (by kernel_rfl) ?_
  change wpAnyH _ _ _ _ _ _ _ _ (w.alloc (.cells (pfx b px bits).toArray 52)).drew
  rw [← hW] at t0 ⊢
  clear hW
  have T0 := Lib.hid t0
  clear t0
  have hS := Touch.refl [] W
  refine wpAnyH_take (i := 0) (oi := { dst := some 3, op := Op.fieldAddr 52 (Operand.tmp 1) 0, type := 0, pos := "cidr.go:26", after := #[], guard := none }) (v := .pointer (some ⟨w.heap.size, 0, none⟩)) rfl (by kernel_rfl) (by kernel_rfl) (by kernel_rfl) (fun _ _ _ h => h) (Or.inl ⟨by rfl, fun w' hw => by go_simp⟩) hS ?_
  try simp only [Act.put, List.setIfInBounds_toArray, List.set_cons_zero, List.set_cons_succ]
  refine wpAnyH_take (i := 1) (oi := { dst := some 4, op := Op.load 28 (Operand.tmp 3), type := 28, pos := "cidr.go:26", after := #[{ on := 0, ground := Ground.data }], guard := none }) (v := .agg (adr b px).toArray) rfl (by kernel_rfl) (by kernel_rfl) (by kernel_rfl) (fun _ _ _ h => h) (Or.inl ⟨by rfl, fun w' hw => exec_load_agg _ 28 _ rfl _ _ rfl (adr b px) _ (hw.range r0 (by simp)) Tryd.underlying28 rfl (by rw [size31]; simp [pfx, adr, HPX.out.1, HXS.out.1])⟩) hS ?_
  try simp only [Act.put, List.setIfInBounds_toArray, List.set_cons_zero, List.set_cons_succ]
  refine wpAnyH_ready (rs := [2]) (by kernel_rfl) (by simp) ?_
  refine AllReadyH.cons (o := { dst := some 5, op := Op.call { callee := Callee.value (Operand.func 43), args := #[Operand.tmp 4], argTypes := #[28] }, type := 4, pos := "cidr.go:26", after := #[{ on := 1, ground := Ground.data }], guard := none }) rfl (fun K hK => ?_) AllReadyH.nil
  go_simp
  refine (ipvalid_any b px HPX.out _).mono ?_
  rintro e w' ⟨he, t9⟩
  rw [HPV.out] at he
  subst he
  have hS2 := hS.trans t9 (by simp)
  refine hK.out _ _ hS2 (fun _ => ?_)
  clear hK K hS t9
  have hS := hS2
  clear hS2
  try simp only [Act.put, List.setIfInBounds_toArray, List.set_cons_zero, List.set_cons_succ]
  refine wpAnyH_take (i := 3) (oi := { dst := some 6, op := Op.move (Operand.tmp 5), type := 4, pos := "cidr.go:26", after := #[{ on := 2, ground := Ground.data }, { on := 2, ground := Ground.chain }], guard := none }) (v := .bool true) rfl (by kernel_rfl) (by kernel_rfl) (by kernel_rfl) (fun _ _ _ h => h) (Or.inl ⟨by rfl, fun w' hw => by go_simp⟩) hS ?_
  try simp only [Act.put, List.setIfInBounds_toArray, List.set_cons_zero, List.set_cons_succ]
  refine wpAnyH_take (i := 4) (oi := { dst := some 7, op := Op.fieldAddr 52 (Operand.tmp 1) 1, type := 0, pos := "cidr.go:26", after := #[{ on := 3, ground := Ground.guard }], guard := some (3, true) }) (v := .pointer (some ⟨w.heap.size, 17, none⟩)) rfl (by kernel_rfl) (by kernel_rfl) (by kernel_rfl) (fun _ _ _ h => h) (Or.inl ⟨by rfl, fun w' hw => by go_simp⟩) hS ?_
  try simp only [Act.put, List.setIfInBounds_toArray, List.set_cons_zero, List.set_cons_succ]
  refine wpAnyH_take (i := 5) (oi := { dst := some 8, op := Op.load 3 (Operand.tmp 7), type := 3, pos := "cidr.go:26", after := #[{ on := 4, ground := Ground.data }, { on := 3, ground := Ground.guard }], guard := some (3, true) }) (v := .int .i64 bits) rfl (by kernel_rfl) (by kernel_rfl) (by kernel_rfl) (fun _ _ _ h => h) (Or.inl ⟨by rfl, fun w' hw => by (have q := hw.cell c17 (by simp); go_simp)⟩) hS ?_
  try simp only [Act.put, List.setIfInBounds_toArray, List.set_cons_zero, List.set_cons_succ]
  refine wpAnyH_take (i := 6) (oi := { dst := some 9, op := Op.binOp BinOp.geq 3 (Operand.tmp 8) (Operand.const (Value.int IntKind.i64 0)) 3, type := 4, pos := "cidr.go:26", after := #[{ on := 5, ground := Ground.data }, { on := 3, ground := Ground.guard }], guard := some (3, true) }) (v := .bool true) rfl (by kernel_rfl) (by kernel_rfl) (by kernel_rfl) (fun _ _ _ h => h) (Or.inl ⟨by rfl, fun w' hw => by (have q := hb0; go_simp)⟩) hS ?_
  try simp only [Act.put, List.setIfInBounds_toArray, List.set_cons_zero, List.set_cons_succ]
  refine wpAnyH_take (i := 7) (oi := { dst := some 10, op := Op.pick (Operand.tmp 6) (Operand.tmp 9) (Operand.const (Value.bool false)), type := 4, pos := "cidr.go:26", after := #[{ on := 3, ground := Ground.data }, { on := 6, ground := Ground.data }], guard := none }) (v := .bool true) rfl (by kernel_rfl) (by kernel_rfl) (by kernel_rfl) (fun _ _ _ h => h) (Or.inl ⟨by rfl, fun w' hw => by go_simp⟩) hS ?_
  try simp only [Act.put, List.setIfInBounds_toArray, List.set_cons_zero, List.set_cons_succ]
  refine wpAnyH_take (i := 8) (oi := { dst := some 11, op := Op.move (Operand.tmp 10), type := 4, pos := "cidr.go:26", after := #[{ on := 7, ground := Ground.data }, { on := 3, ground := Ground.chain }], guard := none }) (v := .bool true) rfl (by kernel_rfl) (by kernel_rfl) (by kernel_rfl) (fun _ _ _ h => h) (Or.inl ⟨by rfl, fun w' hw => by go_simp⟩) hS ?_
  try simp only [Act.put, List.setIfInBounds_toArray, List.set_cons_zero, List.set_cons_succ]
  refine wpAnyH_take (i := 9) (oi := { dst := some 12, op := Op.fieldAddr 52 (Operand.tmp 1) 1, type := 0, pos := "cidr.go:26", after := #[{ on := 8, ground := Ground.guard }], guard := some (8, true) }) (v := .pointer (some ⟨w.heap.size, 17, none⟩)) rfl (by kernel_rfl) (by kernel_rfl) (by kernel_rfl) (fun _ _ _ h => h) (Or.inl ⟨by rfl, fun w' hw => by go_simp⟩) hS ?_
  try simp only [Act.put, List.setIfInBounds_toArray, List.set_cons_zero, List.set_cons_succ]
  refine wpAnyH_take (i := 10) (oi := { dst := some 13, op := Op.load 3 (Operand.tmp 12), type := 3, pos := "cidr.go:26", after := #[{ on := 9, ground := Ground.data }, { on := 8, ground := Ground.guard }], guard := some (8, true) }) (v := .int .i64 bits) rfl (by kernel_rfl) (by kernel_rfl) (by kernel_rfl) (fun _ _ _ h => h) (Or.inl ⟨by rfl, fun w' hw => by (have q := hw.cell c17 (by simp); go_simp)⟩) hS ?_
  try simp only [Act.put, List.setIfInBounds_toArray, List.set_cons_zero, List.set_cons_succ]
  refine wpAnyH_take (i := 11) (oi := { dst := some 14, op := Op.fieldAddr 52 (Operand.tmp 1) 0, type := 0, pos := "cidr.go:26", after := #[{ on := 8, ground := Ground.guard }], guard := some (8, true) }) (v := .pointer (some ⟨w.heap.size, 0, none⟩)) rfl (by kernel_rfl) (by kernel_rfl) (by kernel_rfl) (fun _ _ _ h => h) (Or.inl ⟨by rfl, fun w' hw => by go_simp⟩) hS ?_
  try simp only [Act.put, List.setIfInBounds_toArray, List.set_cons_zero, List.set_cons_succ]
  refine wpAnyH_take (i := 12) (oi := { dst := some 15, op := Op.load 28 (Operand.tmp 14), type := 28, pos := "cidr.go:26", after := #[{ on := 11, ground := Ground.data }, { on := 8, ground := Ground.guard }], guard := some (8, true) }) (v := .agg (adr b px).toArray) rfl (by kernel_rfl) (by kernel_rfl) (by kernel_rfl) (fun _ _ _ h => h) (Or.inl ⟨by rfl, fun w' hw => exec_load_agg _ 28 _ rfl _ _ rfl (adr b px) _ (hw.range r0 (by simp)) Tryd.underlying28 rfl (by rw [size31]; simp [pfx, adr, HPX.out.1, HXS.out.1])⟩) hS ?_
  try simp only [Act.put, List.setIfInBounds_toArray, List.set_cons_zero, List.set_cons_succ]
  refine wpAnyH_ready (rs := [13]) (by kernel_rfl) (by simp) ?_
  refine AllReadyH.cons (o := { dst := some 16, op := Op.call { callee := Callee.value (Operand.func 71), args := #[Operand.tmp 15], argTypes := #[28] }, type := 3, pos := "cidr.go:26", after := #[{ on := 12, ground := Ground.data }, { on := 8, ground := Ground.chain }, { on := 8, ground := Ground.guard }], guard := some (8, true) }) rfl (fun K hK => ?_) AllReadyH.nil
  go_simp
  refine (bitlen_any b px _).mono ?_
  rintro e w' ⟨rfl, t9⟩
  have hS2 := hS.trans t9 (by simp)
  refine hK.out _ _ hS2 (fun _ => ?_)
  clear hK K hS t9
  have hS := hS2
  clear hS2
  try simp only [Act.put, List.setIfInBounds_toArray, List.set_cons_zero, List.set_cons_succ]
  refine wpAnyH_take (i := 14) (oi := { dst := some 17, op := Op.binOp BinOp.leq 3 (Operand.tmp 13) (Operand.tmp 16) 3, type := 4, pos := "cidr.go:26", after := #[{ on := 10, ground := Ground.data }, { on := 13, ground := Ground.data }, { on := 8, ground := Ground.guard }], guard := some (8, true) }) (v := .bool true) rfl (by kernel_rfl) (by kernel_rfl) (by kernel_rfl) (fun _ _ _ h => h) (Or.inl ⟨by rfl, fun w' hw => by (have q := hb1; go_simp)⟩) hS ?_
  try simp only [Act.put, List.setIfInBounds_toArray, List.set_cons_zero, List.set_cons_succ]
  refine wpAnyH_take (i := 15) (oi := { dst := some 18, op := Op.pick (Operand.tmp 11) (Operand.tmp 17) (Operand.const (Value.bool false)), type := 4, pos := "cidr.go:26", after := #[{ on := 8, ground := Ground.data }, { on := 14, ground := Ground.data }], guard := none }) (v := .bool true) rfl (by kernel_rfl) (by kernel_rfl) (by kernel_rfl) (fun _ _ _ h => h) (Or.inl ⟨by rfl, fun w' hw => by go_simp⟩) hS ?_
  try simp only [Act.put, List.setIfInBounds_toArray, List.set_cons_zero, List.set_cons_succ]
  refine wpAnyH_take (i := 16) (oi := { dst := some 19, op := Op.move (Operand.tmp 18), type := 4, pos := "cidr.go:26", after := #[{ on := 15, ground := Ground.data }, { on := 13, ground := Ground.chain }], guard := none }) (v := .bool true) rfl (by kernel_rfl) (by kernel_rfl) (by kernel_rfl) (fun _ _ _ h => h) (Or.inl ⟨by rfl, fun w' hw => by go_simp⟩) hS ?_
  try simp only [Act.put, List.setIfInBounds_toArray, List.set_cons_zero, List.set_cons_succ]
  refine wpAnyH_take (i := 17) (oi := { dst := some 20, op := Op.fieldAddr 52 (Operand.tmp 1) 0, type := 0, pos := "cidr.go:26", after := #[{ on := 16, ground := Ground.guard }], guard := some (16, true) }) (v := .pointer (some ⟨w.heap.size, 0, none⟩)) rfl (by kernel_rfl) (by kernel_rfl) (by kernel_rfl) (fun _ _ _ h => h) (Or.inl ⟨by rfl, fun w' hw => by go_simp⟩) hS ?_
  try simp only [Act.put, List.setIfInBounds_toArray, List.set_cons_zero, List.set_cons_succ]
  refine wpAnyH_take (i := 18) (oi := { dst := some 21, op := Op.load 28 (Operand.tmp 20), type := 28, pos := "cidr.go:26", after := #[{ on := 17, ground := Ground.data }, { on := 16, ground := Ground.guard }], guard := some (16, true) }) (v := .agg (adr b px).toArray) rfl (by kernel_rfl) (by kernel_rfl) (by kernel_rfl) (fun _ _ _ h => h) (Or.inl ⟨by rfl, fun w' hw => exec_load_agg _ 28 _ rfl _ _ rfl (adr b px) _ (hw.range r0 (by simp)) Tryd.underlying28 rfl (by rw [size31]; simp [pfx, adr, HPX.out.1, HXS.out.1])⟩) hS ?_
  try simp only [Act.put, List.setIfInBounds_toArray, List.set_cons_zero, List.set_cons_succ]
  refine wpAnyH_take (i := 19) (oi := { dst := some 22, op := Op.fieldAddr 52 (Operand.tmp 1) 1, type := 0, pos := "cidr.go:26", after := #[{ on := 16, ground := Ground.guard }], guard := some (16, true) }) (v := .pointer (some ⟨w.heap.size, 17, none⟩)) rfl (by kernel_rfl) (by kernel_rfl) (by kernel_rfl) (fun _ _ _ h => h) (Or.inl ⟨by rfl, fun w' hw => by go_simp⟩) hS ?_
  try simp only [Act.put, List.setIfInBounds_toArray, List.set_cons_zero, List.set_cons_succ]
  refine wpAnyH_take (i := 20) (oi := { dst := some 23, op := Op.load 3 (Operand.tmp 22), type := 3, pos := "cidr.go:26", after := #[{ on := 19, ground := Ground.data }, { on := 16, ground := Ground.guard }], guard := some (16, true) }) (v := .int .i64 bits) rfl (by kernel_rfl) (by kernel_rfl) (by kernel_rfl) (fun _ _ _ h => h) (Or.inl ⟨by rfl, fun w' hw => by (have q := hw.cell c17 (by simp); go_simp)⟩) hS ?_
  try simp only [Act.put, List.setIfInBounds_toArray, List.set_cons_zero, List.set_cons_succ]
  refine wpAnyH_take (i := 22) (oi := { dst := some 25, op := Op.fieldAddr 52 (Operand.tmp 1) 0, type := 0, pos := "cidr.go:26", after := #[{ on := 16, ground := Ground.guard }], guard := some (16, true) }) (v := .pointer (some ⟨w.heap.size, 0, none⟩)) rfl (by kernel_rfl) (by kernel_rfl) (by kernel_rfl) (fun _ _ _ h => h) (Or.inl ⟨by rfl, fun w' hw => by go_simp⟩) hS ?_
  try simp only [Act.put, List.setIfInBounds_toArray, List.set_cons_zero, List.set_cons_succ]
  refine wpAnyH_take (i := 23) (oi := { dst := some 26, op := Op.load 28 (Operand.tmp 25), type := 28, pos := "cidr.go:26", after := #[{ on := 22, ground := Ground.data }, { on := 16, ground := Ground.guard }], guard := some (16, true) }) (v := .agg (adr b px).toArray) rfl (by kernel_rfl) (by kernel_rfl) (by kernel_rfl) (fun _ _ _ h => h) (Or.inl ⟨by rfl, fun w' hw => exec_load_agg _ 28 _ rfl _ _ rfl (adr b px) _ (hw.range r0 (by simp)) Tryd.underlying28 rfl (by rw [size31]; simp [pfx, adr, HPX.out.1, HXS.out.1])⟩) hS ?_
  try simp only [Act.put, List.setIfInBounds_toArray, List.set_cons_zero, List.set_cons_succ]
  refine wpAnyH_ready (rs := [21]) (by kernel_rfl) (by simp) ?_
  refine AllReadyH.cons (o := { dst := some 24, op := Op.call { callee := Callee.value (Operand.func 58), args := #[Operand.tmp 21, Operand.tmp 23], argTypes := #[28, 3] }, type := 28, pos := "cidr.go:26", after := #[{ on := 18, ground := Ground.data }, { on := 20, ground := Ground.data }, { on := 16, ground := Ground.chain }, { on := 16, ground := Ground.guard }], guard := some (16, true) }) rfl (fun K hK => ?_) AllReadyH.nil
  go_simp
  refine (trunc_any b px HPX.out bits hb0 hb2 _).mono ?_
  rintro e w' ⟨he, t9⟩
  rw [HPT.out] at he
  subst he
  have hS2 := hS.trans t9 (by simp)
  refine hK.out _ _ hS2 (fun _ => ?_)
  clear hK K hS t9
  have hS := hS2
  clear hS2
  try simp only [Act.put, List.setIfInBounds_toArray, List.set_cons_zero, List.set_cons_succ]
  refine wpAnyH_take (i := 24) (oi := { dst := some 27, op := Op.binOp BinOp.eql 28 (Operand.tmp 24) (Operand.tmp 26) 28, type := 4, pos := "cidr.go:26", after := #[{ on := 21, ground := Ground.data }, { on := 23, ground := Ground.data }, { on := 16, ground := Ground.guard }], guard := some (16, true) }) (v := .bool true) rfl (by kernel_rfl) (by kernel_rfl) (by kernel_rfl) (fun _ _ _ h => h) (Or.inl ⟨by rfl, fun w' hw => exec_eql_agg _ 28 _ _ _ rfl _ _ rfl rfl (by kernel_rfl) _ (by rw [eq_ads _ _ _ _ HPX.out HPX.out]; simp)⟩) hS ?_
  try simp only [Act.put, List.setIfInBounds_toArray, List.set_cons_zero, List.set_cons_succ]
  refine wpAnyH_take (i := 25) (oi := { dst := some 28, op := Op.pick (Operand.tmp 19) (Operand.tmp 27) (Operand.const (Value.bool false)), type := 4, pos := "cidr.go:26", after := #[{ on := 16, ground := Ground.data }, { on := 24, ground := Ground.data }], guard := none }) (v := .bool true) rfl (by kernel_rfl) (by kernel_rfl) (by kernel_rfl) (fun _ _ _ h => h) (Or.inl ⟨by rfl, fun w' hw => by go_simp⟩) hS ?_
  try simp only [Act.put, List.setIfInBounds_toArray, List.set_cons_zero, List.set_cons_succ]
  refine wpAnyH_take (i := 26) (oi := { dst := some 2, op := Op.assign (Operand.tmp 28), type := 4, pos := "cidr.go:26", after := #[{ on := 25, ground := Ground.data }, { on := 21, ground := Ground.chain }, { on := 0, ground := Ground.phase }, { on := 1, ground := Ground.phase }, { on := 2, ground := Ground.phase }, { on := 3, ground := Ground.phase }, { on := 4, ground := Ground.phase }, { on := 5, ground := Ground.phase }, { on := 6, ground := Ground.phase }, { on := 7, ground := Ground.phase }, { on := 8, ground := Ground.phase }, { on := 9, ground := Ground.phase }, { on := 10, ground := Ground.phase }, { on := 11, ground := Ground.phase }, { on := 12, ground := Ground.phase }, { on := 13, ground := Ground.phase }, { on := 14, ground := Ground.phase }, { on := 15, ground := Ground.phase }, { on := 16, ground := Ground.phase }, { on := 17, ground := Ground.phase }, { on := 18, ground := Ground.phase }, { on := 19, ground := Ground.phase }, { on := 20, ground := Ground.phase }, { on := 21, ground := Ground.phase }, { on := 22, ground := Ground.phase }, { on := 23, ground := Ground.phase }, { on := 24, ground := Ground.phase }, { on := 25, ground := Ground.phase }], guard := none }) (v := .bool true) rfl (by kernel_rfl) (by kernel_rfl) (by kernel_rfl) (fun _ _ _ h => h) (Or.inl ⟨by rfl, fun w' hw => by go_simp⟩) hS ?_
  try simp only [Act.put, List.setIfInBounds_toArray, List.set_cons_zero, List.set_cons_succ]
  refine wpAnyH_done (by kernel_rfl) ?_ _
  try simp only [Act.put, List.setIfInBounds_toArray, List.set_cons_zero, List.set_cons_succ]
  go_wp2_with fail
  go_ret
  exact ⟨rfl, T0.out.trans hS (by simp)⟩
set_option maxRecDepth 100000 in
set_option maxHeartbeats 4000000 in
theorem cont_any (b : Bool) (px : List Int) (bits : Int) (xs : List Int) (hp : okB px) (hv : vld b px = true) (hb0 : 0 ≤ bits) (hb1 : bits ≤ blen b) (ht : trunc bits px = px) (hx : okB xs) (hxv : vld b xs = true) (w : World) :
    Calls Tryd.prog 50 #[.agg (pfx b px bits).toArray, .agg (adr b xs).toArray] w fun e w' => e = .returned (.bool (decide (trunc bits xs = px))) ∧ Touch [] w w' := by
  have hb2 : bits ≤ 128 := by unfold blen at hb1; split at hb1 <;> omega
  have R := World.rangeAt_alloc (range_new w (pfx b px bits) 52) (.cells (adr b xs).toArray 28)
  have R1 := range_block (heap_alloc2_new w (.cells (pfx b px bits).toArray 52) (.cells (adr b xs).toArray 28))
  have t0 := (((Touch.refl [] w).alloc (.cells (pfx b px bits).toArray 52)).alloc (.cells (adr b xs).toArray 28)).drew
  have HPX := Lib.hid hp
  have HXS := Lib.hid hx
  have HPV := Lib.hid hv
  have HXV := Lib.hid hxv
  have HPT := Lib.hid ht
  have hp1 := hp.1
  clear hp hv ht hx hxv
  go_enter Tryd.func50, Tryd.ntmps50
  go_wp2_with fail
  obtain ⟨W, hW⟩ : ∃ W, W = ((w.alloc (.cells (pfx b px bits).toArray 52)).alloc (.cells (adr b xs).toArray 28)).drew := ⟨_, rfl⟩
  have r0 : W.rangeAt w.heap.size 0 (pfx b px bits) := by rw [hW]; exact R
  have r1 : W.rangeAt (w.heap.size + 1) 0 (adr b xs) := by rw [hW]; exact R1
  obtain ⟨r2, c0, c17⟩ := pfx_rows hp1 r0
  have d0 : W.cell? ⟨w.heap.size + 1, 0, none⟩ = some (.bool b) := by
    have := r1 0 (.bool b) (by simp [adr])
    simpa using this
  refine wp_region_held (S := Touch [] W) (by kernel_rfl) ?_
  change wpAnyH _ _ _ _ _ _ _ _ ((w.alloc (.cells (pfx b px bits).toArray 52)).alloc (.cells (adr b xs).toArray 28)).drew
  rw [← hW] at t0 ⊢
  clear hW R R1
  have T0 := Lib.hid t0
  clear t0
  have hS := Touch.refl [] W
  refine wpAnyH_take (i := 0) (oi := { dst := some 5, op := Op.load 52 (Operand.tmp 2), type := 52, pos := "cidr.go:39", after := #[], guard := none }) (v := .agg (pfx b px bits).toArray) rfl (by kernel_rfl) (by kernel_rfl) (by kernel_rfl) (fun _ _ _ h => h) (Or.inl ⟨by rfl, fun w' hw => exec_load_agg _ 52 _ rfl _ _ rfl (pfx b px bits) _ (hw.range r0 (by simp)) Tryd.underlying52 rfl (by rw [sizeP]; simp [pfx, adr, HPX.out.1, HXS.out.1])⟩) hS ?_
  try simp only [Act.put, List.setIfInBounds_toArray, List.set_cons_zero, List.set_cons_succ]
  refine wpAnyH_ready (rs := [1]) (by kernel_rfl) (by simp) ?_
  refine AllReadyH.cons (o := { dst := some 6, op := Op.call { callee := Callee.value (Operand.func 57), args := #[Operand.tmp 5], argTypes := #[52] }, type := 4, pos := "cidr.go:39", after := #[{ on := 0, ground := Ground.data }], guard := none }) rfl (fun K hK => ?_) AllReadyH.nil
  go_simp
  refine (cvalid_any b px bits HPX.out HPV.out hb0 hb1 HPT.out _).mono ?_
  rintro e w' ⟨rfl, t9⟩
  have hS2 := hS.trans t9 (by simp)
  refine hK.out _ _ hS2 (fun _ => ?_)
  clear hK K hS t9
  have hS := hS2
  clear hS2
  try simp only [Act.put, List.setIfInBounds_toArray, List.set_cons_zero, List.set_cons_succ]
  refine wpAnyH_take (i := 2) (oi := { dst := some 7, op := Op.move (Operand.tmp 6), type := 4, pos := "cidr.go:39", after := #[{ on := 1, ground := Ground.data }, { on := 1, ground := Ground.chain }], guard := none }) (v := .bool true) rfl (by kernel_rfl) (by kernel_rfl) (by kernel_rfl) (fun _ _ _ h => h) (Or.inl ⟨by rfl, fun w' hw => by go_simp⟩) hS ?_
  try simp only [Act.put, List.setIfInBounds_toArray, List.set_cons_zero, List.set_cons_succ]
  refine wpAnyH_take (i := 3) (oi := { dst := some 8, op := Op.load 28 (Operand.tmp 3), type := 28, pos := "cidr.go:39", after := #[{ on := 2, ground := Ground.guard }], guard := some (2, true) }) (v := .agg (adr b xs).toArray) rfl (by kernel_rfl) (by kernel_rfl) (by kernel_rfl) (fun _ _ _ h => h) (Or.inl ⟨by rfl, fun w' hw => exec_load_agg _ 28 _ rfl _ _ rfl (adr b xs) _ (hw.range r1 (by simp)) Tryd.underlying28 rfl (by rw [size31]; simp [pfx, adr, HPX.out.1, HXS.out.1])⟩) hS ?_
  try simp only [Act.put, List.setIfInBounds_toArray, List.set_cons_zero, List.set_cons_succ]
  refine wpAnyH_ready (rs := [4]) (by kernel_rfl) (by simp) ?_
  refine AllReadyH.cons (o := { dst := some 9, op := Op.call { callee := Callee.value (Operand.func 43), args := #[Operand.tmp 8], argTypes := #[28] }, type := 4, pos := "cidr.go:39", after := #[{ on := 3, ground := Ground.data }, { on := 2, ground := Ground.chain }, { on := 2, ground := Ground.guard }], guard := some (2, true) }) rfl (fun K hK => ?_) AllReadyH.nil
  go_simp
  refine (ipvalid_any b xs HXS.out _).mono ?_
  rintro e w' ⟨he, t9⟩
  rw [HXV.out] at he
  subst he
  have hS2 := hS.trans t9 (by simp)
  refine hK.out _ _ hS2 (fun _ => ?_)
  clear hK K hS t9
  have hS := hS2
  clear hS2
  try simp only [Act.put, List.setIfInBounds_toArray, List.set_cons_zero, List.set_cons_succ]
  refine wpAnyH_take (i := 5) (oi := { dst := some 10, op := Op.pick (Operand.tmp 7) (Operand.tmp 9) (Operand.const (Value.bool false)), type := 4, pos := "cidr.go:39", after := #[{ on := 2, ground := Ground.data }, { on := 4, ground := Ground.data }], guard := none }) (v := .bool true) rfl (by kernel_rfl) (by kernel_rfl) (by kernel_rfl) (fun _ _ _ h => h) (Or.inl ⟨by rfl, fun w' hw => by go_simp⟩) hS ?_
  try simp only [Act.put, List.setIfInBounds_toArray, List.set_cons_zero, List.set_cons_succ]
  refine wpAnyH_take (i := 6) (oi := { dst := some 11, op := Op.move (Operand.tmp 10), type := 4, pos := "cidr.go:39", after := #[{ on := 5, ground := Ground.data }, { on := 4, ground := Ground.chain }], guard := none }) (v := .bool true) rfl (by kernel_rfl) (by kernel_rfl) (by kernel_rfl) (fun _ _ _ h => h) (Or.inl ⟨by rfl, fun w' hw => by go_simp⟩) hS ?_
  try simp only [Act.put, List.setIfInBounds_toArray, List.set_cons_zero, List.set_cons_succ]
  refine wpAnyH_take (i := 7) (oi := { dst := some 12, op := Op.fieldAddr 52 (Operand.tmp 2) 0, type := 0, pos := "cidr.go:39", after := #[{ on := 6, ground := Ground.guard }], guard := some (6, true) }) (v := .pointer (some ⟨w.heap.size, 0, none⟩)) rfl (by kernel_rfl) (by kernel_rfl) (by kernel_rfl) (fun _ _ _ h => h) (Or.inl ⟨by rfl, fun w' hw => by go_simp⟩) hS ?_
  try simp only [Act.put, List.setIfInBounds_toArray, List.set_cons_zero, List.set_cons_succ]
  refine wpAnyH_take (i := 8) (oi := { dst := some 13, op := Op.fieldAddr 28 (Operand.tmp 12) 0, type := 0, pos := "cidr.go:39", after := #[{ on := 7, ground := Ground.data }, { on := 6, ground := Ground.guard }], guard := some (6, true) }) (v := .pointer (some ⟨w.heap.size, 0, none⟩)) rfl (by kernel_rfl) (by kernel_rfl) (by kernel_rfl) (fun _ _ _ h => h) (Or.inl ⟨by rfl, fun w' hw => by go_simp⟩) hS ?_
  try simp only [Act.put, List.setIfInBounds_toArray, List.set_cons_zero, List.set_cons_succ]
  refine wpAnyH_take (i := 9) (oi := { dst := some 14, op := Op.load 4 (Operand.tmp 13), type := 4, pos := "cidr.go:39", after := #[{ on := 8, ground := Ground.data }, { on := 6, ground := Ground.guard }], guard := some (6, true) }) (v := .bool b) rfl (by kernel_rfl) (by kernel_rfl) (by kernel_rfl) (fun _ _ _ h => h) (Or.inl ⟨by rfl, fun w' hw => by (have q := hw.cell c0 (by simp); go_simp)⟩) hS ?_
  try simp only [Act.put, List.setIfInBounds_toArray, List.set_cons_zero, List.set_cons_succ]
  refine wpAnyH_take (i := 10) (oi := { dst := some 15, op := Op.fieldAddr 28 (Operand.tmp 3) 0, type := 0, pos := "cidr.go:39", after := #[{ on := 6, ground := Ground.guard }], guard := some (6, true) }) (v := .pointer (some ⟨(w.heap.size + 1), 0, none⟩)) rfl (by kernel_rfl) (by kernel_rfl) (by kernel_rfl) (fun _ _ _ h => h) (Or.inl ⟨by rfl, fun w' hw => by go_simp⟩) hS ?_
  try simp only [Act.put, List.setIfInBounds_toArray, List.set_cons_zero, List.set_cons_succ]
  refine wpAnyH_take (i := 11) (oi := { dst := some 16, op := Op.load 4 (Operand.tmp 15), type := 4, pos := "cidr.go:39", after := #[{ on := 10, ground := Ground.data }, { on := 6, ground := Ground.guard }], guard := some (6, true) }) (v := .bool b) rfl (by kernel_rfl) (by kernel_rfl) (by kernel_rfl) (fun _ _ _ h => h) (Or.inl ⟨by rfl, fun w' hw => by (have q := hw.cell d0 (by simp); go_simp)⟩) hS ?_
  try simp only [Act.put, List.setIfInBounds_toArray, List.set_cons_zero, List.set_cons_succ]
  refine wpAnyH_take (i := 12) (oi := { dst := some 17, op := Op.binOp BinOp.eql 4 (Operand.tmp 14) (Operand.tmp 16) 4, type := 4, pos := "cidr.go:39", after := #[{ on := 9, ground := Ground.data }, { on := 11, ground := Ground.data }, { on := 6, ground := Ground.guard }], guard := some (6, true) }) (v := .bool true) rfl (by kernel_rfl) (by kernel_rfl) (by kernel_rfl) (fun _ _ _ h => h) (Or.inl ⟨by rfl, fun w' hw => by (cases b <;> go_simp)⟩) hS ?_
  try simp only [Act.put, List.setIfInBounds_toArray, List.set_cons_zero, List.set_cons_succ]
  refine wpAnyH_take (i := 13) (oi := { dst := some 18, op := Op.pick (Operand.tmp 11) (Operand.tmp 17) (Operand.const (Value.bool false)), type := 4, pos := "cidr.go:39", after := #[{ on := 6, ground := Ground.data }, { on := 12, ground := Ground.data }], guard := none }) (v := .bool true) rfl (by kernel_rfl) (by kernel_rfl) (by kernel_rfl) (fun _ _ _ h => h) (Or.inl ⟨by rfl, fun w' hw => by go_simp⟩) hS ?_
  try simp only [Act.put, List.setIfInBounds_toArray, List.set_cons_zero, List.set_cons_succ]
  refine wpAnyH_take (i := 14) (oi := { dst := some 19, op := Op.move (Operand.tmp 18), type := 4, pos := "cidr.go:39", after := #[{ on := 13, ground := Ground.data }, { on := 6, ground := Ground.chain }], guard := none }) (v := .bool true) rfl (by kernel_rfl) (by kernel_rfl) (by kernel_rfl) (fun _ _ _ h => h) (Or.inl ⟨by rfl, fun w' hw => by go_simp⟩) hS ?_
  try simp only [Act.put, List.setIfInBounds_toArray, List.set_cons_zero, List.set_cons_succ]
  refine wpAnyH_take (i := 15) (oi := { dst := some 20, op := Op.load 28 (Operand.tmp 3), type := 28, pos := "cidr.go:39", after := #[{ on := 14, ground := Ground.guard }], guard := some (14, true) }) (v := .agg (adr b xs).toArray) rfl (by kernel_rfl) (by kernel_rfl) (by kernel_rfl) (fun _ _ _ h => h) (Or.inl ⟨by rfl, fun w' hw => exec_load_agg _ 28 _ rfl _ _ rfl (adr b xs) _ (hw.range r1 (by simp)) Tryd.underlying28 rfl (by rw [size31]; simp [pfx, adr, HPX.out.1, HXS.out.1])⟩) hS ?_
  try simp only [Act.put, List.setIfInBounds_toArray, List.set_cons_zero, List.set_cons_succ]
  refine wpAnyH_take (i := 16) (oi := { dst := some 21, op := Op.fieldAddr 52 (Operand.tmp 2) 1, type := 0, pos := "cidr.go:39", after := #[{ on := 14, ground := Ground.guard }], guard := some (14, true) }) (v := .pointer (some ⟨w.heap.size, 17, none⟩)) rfl (by kernel_rfl) (by kernel_rfl) (by kernel_rfl) (fun _ _ _ h => h) (Or.inl ⟨by rfl, fun w' hw => by go_simp⟩) hS ?_
  try simp only [Act.put, List.setIfInBounds_toArray, List.set_cons_zero, List.set_cons_succ]
  refine wpAnyH_take (i := 17) (oi := { dst := some 22, op := Op.load 3 (Operand.tmp 21), type := 3, pos := "cidr.go:39", after := #[{ on := 16, ground := Ground.data }, { on := 14, ground := Ground.guard }], guard := some (14, true) }) (v := .int .i64 bits) rfl (by kernel_rfl) (by kernel_rfl) (by kernel_rfl) (fun _ _ _ h => h) (Or.inl ⟨by rfl, fun w' hw => by (have q := hw.cell c17 (by simp); go_simp)⟩) hS ?_
  try simp only [Act.put, List.setIfInBounds_toArray, List.set_cons_zero, List.set_cons_succ]
  refine wpAnyH_take (i := 19) (oi := { dst := some 24, op := Op.fieldAddr 52 (Operand.tmp 2) 0, type := 0, pos := "cidr.go:39", after := #[{ on := 14, ground := Ground.guard }], guard := some (14, true) }) (v := .pointer (some ⟨w.heap.size, 0, none⟩)) rfl (by kernel_rfl) (by kernel_rfl) (by kernel_rfl) (fun _ _ _ h => h) (Or.inl ⟨by rfl, fun w' hw => by go_simp⟩) hS ?_
  try simp only [Act.put, List.setIfInBounds_toArray, List.set_cons_zero, List.set_cons_succ]
  refine wpAnyH_take (i := 20) (oi := { dst := some 25, op := Op.load 28 (Operand.tmp 24), type := 28, pos := "cidr.go:39", after := #[{ on := 19, ground := Ground.data }, { on := 14, ground := Ground.guard }], guard := some (14, true) }) (v := .agg (adr b px).toArray) rfl (by kernel_rfl) (by kernel_rfl) (by kernel_rfl) (fun _ _ _ h => h) (Or.inl ⟨by rfl, fun w' hw => exec_load_agg _ 28 _ rfl _ _ rfl (adr b px) _ (hw.range r2 (by simp)) Tryd.underlying28 rfl (by rw [size31]; simp [pfx, adr, HPX.out.1, HXS.out.1])⟩) hS ?_
  try simp only [Act.put, List.setIfInBounds_toArray, List.set_cons_zero, List.set_cons_succ]
  refine wpAnyH_ready (rs := [18]) (by kernel_rfl) (by simp) ?_
  refine AllReadyH.cons (o := { dst := some 23, op := Op.call { callee := Callee.value (Operand.func 58), args := #[Operand.tmp 20, Operand.tmp 22], argTypes := #[28, 3] }, type := 28, pos := "cidr.go:39", after := #[{ on := 15, ground := Ground.data }, { on := 17, ground := Ground.data }, { on := 14, ground := Ground.chain }, { on := 14, ground := Ground.guard }], guard := some (14, true) }) rfl (fun K hK => ?_) AllReadyH.nil
  go_simp
  refine (trunc_any b xs HXS.out bits hb0 hb2 _).mono ?_
  rintro e w' ⟨rfl, t9⟩
  have hS2 := hS.trans t9 (by simp)
  refine hK.out _ _ hS2 (fun _ => ?_)
  clear hK K hS t9
  have hS := hS2
  clear hS2
  try simp only [Act.put, List.setIfInBounds_toArray, List.set_cons_zero, List.set_cons_succ]
  refine wpAnyH_take (i := 21) (oi := { dst := some 26, op := Op.binOp BinOp.eql 28 (Operand.tmp 23) (Operand.tmp 25) 28, type := 4, pos := "cidr.go:39", after := #[{ on := 18, ground := Ground.data }, { on := 20, ground := Ground.data }, { on := 14, ground := Ground.guard }], guard := some (14, true) }) (v := .bool (decide (trunc bits xs = px))) rfl (by kernel_rfl) (by kernel_rfl) (by kernel_rfl) (fun _ _ _ h => h) (Or.inl ⟨by rfl, fun w' hw => exec_eql_agg _ 28 _ _ _ rfl _ _ rfl rfl (by kernel_rfl) _ (by rw [eq_ads _ _ _ _ (trunc_ok HXS.out) HPX.out]; simp)⟩) hS ?_
  try simp only [Act.put, List.setIfInBounds_toArray, List.set_cons_zero, List.set_cons_succ]
  refine wpAnyH_take (i := 22) (oi := { dst := some 27, op := Op.pick (Operand.tmp 19) (Operand.tmp 26) (Operand.const (Value.bool false)), type := 4, pos := "cidr.go:39", after := #[{ on := 14, ground := Ground.data }, { on := 21, ground := Ground.data }], guard := none }) (v := .bool (decide (trunc bits xs = px))) rfl (by kernel_rfl) (by kernel_rfl) (by kernel_rfl) (fun _ _ _ h => h) (Or.inl ⟨by rfl, fun w' hw => by go_simp⟩) hS ?_
  try simp only [Act.put, List.setIfInBounds_toArray, List.set_cons_zero, List.set_cons_succ]
  refine wpAnyH_take (i := 23) (oi := { dst := some 4, op := Op.assign (Operand.tmp 27), type := 4, pos := "cidr.go:39", after := #[{ on := 22, ground := Ground.data }, { on := 18, ground := Ground.chain }, { on := 0, ground := Ground.phase }, { on := 1, ground := Ground.phase }, { on := 2, ground := Ground.phase }, { on := 3, ground := Ground.phase }, { on := 4, ground := Ground.phase }, { on := 5, ground := Ground.phase }, { on := 6, ground := Ground.phase }, { on := 7, ground := Ground.phase }, { on := 8, ground := Ground.phase }, { on := 9, ground := Ground.phase }, { on := 10, ground := Ground.phase }, { on := 11, ground := Ground.phase }, { on := 12, ground := Ground.phase }, { on := 13, ground := Ground.phase }, { on := 14, ground := Ground.phase }, { on := 15, ground := Ground.phase }, { on := 16, ground := Ground.phase }, { on := 17, ground := Ground.phase }, { on := 18, ground := Ground.phase }, { on := 19, ground := Ground.phase }, { on := 20, ground := Ground.phase }, { on := 21, ground := Ground.phase }, { on := 22, ground := Ground.phase }], guard := none }) (v := .bool (decide (trunc bits xs = px))) rfl (by kernel_rfl) (by kernel_rfl) (by kernel_rfl) (fun _ _ _ h => h) (Or.inl ⟨by rfl, fun w' hw => by go_simp⟩) hS ?_
  try simp only [Act.put, List.setIfInBounds_toArray, List.set_cons_zero, List.set_cons_succ]
  refine wpAnyH_done (by kernel_rfl) ?_ _
  try simp only [Act.put, List.setIfInBounds_toArray, List.set_cons_zero, List.set_cons_succ]
  go_wp2_with fail
  go_ret
  exact ⟨rfl, T0.out.trans hS (by simp)⟩
end Go.Proofs.YtecaakgpogabjaaDoor

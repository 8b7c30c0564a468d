/-
  Merged texts: Sp, Pd, Pg, Ph, Pj, Vr.
-/
import Derived.Test.YtiklhaajhdephaaGreatDoorGA
import Derived.Test.YtiklhaajhdephaaGreatDoorGB
import Derived.Test.YtiklhaajhdephaaGreatDoorGC

/-
 The contracts of the reference's Split and ParseDecimal.
-/
namespace Go.Proofs.YtiklhaajhdephaaGreatDoor
open Go.RowKit
set_option linter.unusedVariables false
set_option linter.unusedSimpArgs false

/-- What Split has after i bytes: the pieces, and where the next one begins. -/
def segs (l : List UInt8) (c : UInt8) : Nat → List (List UInt8) × Nat
 | 0 => ([], 0)
 | i + 1 => let p := segs l c i; if l[i]? = some c then (p.1 ++ [(l.drop p.2).take (i - p.2)], i + 1) else p
def splitP (l : List UInt8) (c : UInt8) : List (List UInt8) := let p := segs l c l.length; p.1 ++ [l.drop p.2]
theorem segs_le (l : List UInt8) (c : UInt8) (i : Nat) : (segs l c i).2 ≤ i ∧ (segs l c i).1.length ≤ i := by
 induction i with
 | zero => simp [segs]
 | succ i ih =>
  simp only [segs]
  split
  ·simp; omega
  ·omega
theorem u8_inj (a b : UInt8) : ((a.toNat : Int) = (b.toNat : Int)) ↔ a = b := by
 constructor
 ·intro h
  exact UInt8.toNat_inj.1 (by omega)
 ·rintro rfl; rfl
theorem infoS : (Tryz.prog.info? 9).map (fun i => (i.zero, i.size, i.bytes)) = some (some (.string ⟨#[]⟩), 1, 16) := by kernel_rfl
/-- A slice of strings of the call's own, made since w0. -/
structure OwnS (w0 w : World) (v : Value) (xs : List (List UInt8)) : Prop where
 row : w.ownsRow 0 9 1 v xs.length (xs.map str)
 new : ∀ g, v.ownBlock = some g → w0.heap.size ≤ g
theorem OwnS.nil (w0 w : World) : OwnS w0 w (.slice none 0 0) [] := ⟨World.ownsRow_nil _ _ _ _, by simp [Value.ownBlock]⟩
set_option maxRecDepth 100000 in
set_option maxHeartbeats 1000000 in
theorem split_any (l : List UInt8) (c : UInt8) (hl : l.length ≤ 1000) (w : World) :
  Calls Tryz.prog 166 #[str l, .int .u8 c.toNat] w fun e w' => ∃ v, e = .returned v ∧ OwnS w w' v (splitP l c) ∧ Touch [] w w' := by
 obtain ⟨iS, hiS, hzS, hsS, hbS⟩ := info_parts infoS
 obtain ⟨C, hC⟩ : ∃ C : Int, C = c.toNat := ⟨_, rfl⟩
 rw [← hC]
 obtain ⟨s, hs⟩ : ∃ s : ByteArray, s = ⟨l.toArray⟩ := ⟨_, rfl⟩
 have hsz : s.size = l.length := by rw [hs]; exact str_size l
 rw [show str l = .string s by rw [hs]; rfl]
 have HX := Lib.hid (show Value.string s = str l by rw [hs]; rfl)
 have HC := Lib.hid hC
 have hcl : ∀ l, (str l).cells = #[str l] := fun _ => rfl
 simp only [Value.cells] at hcl
 clear hs hC
 go_enter Tryz.func166, Tryz.ntmps166
 go_wp2_with fail
 go_loopw [5, 6, 7] (fun vo vf vi wr => ∃ i : Nat, i ≤ l.length ∧ vi = .int .i64 i ∧ vf = .int .i64 (segs l c i).2 ∧ OwnS w wr vo (segs l c i).1 ∧ Touch [] w wr) (fun _ _ vi _ => l.length - (intOf vi).toNat)
 case atStart => exact ⟨0, by omega, rfl, rfl, OwnS.nil _ _, Touch.refl _ _⟩
 case round =>
  obtain ⟨i, hi, rfl, rfl, hown, ht⟩ := hrel
  obtain ⟨hf, hn⟩ := segs_le l c i
  by_cases hlt : i < l.length
  ·obtain ⟨x, hx⟩ : ∃ x, l[i]? = some x := ⟨_, List.getElem?_eq_getElem hlt⟩
   have hseg : segs l c (i + 1) = if x = c then ((segs l c i).1 ++ [(l.drop (segs l c i).2).take (i - (segs l c i).2)], i + 1) else segs l c i := by
    simp only [segs, hx, Option.some.injEq]
   generalize hp : segs l c i = p at *
   obtain ⟨ps, fr⟩ := p
   simp only at *
   by_cases hxc : x = c
   ·have HNE := (u8_inj x c).2 hxc
    rw [← HC.out] at HNE
    rw [if_pos hxc] at hseg
    have HSEG := Lib.hid hseg
    have hrow := hown.row
    have HP := Lib.hid hp
    clear hseg hp hxc
    go_wp2_with (first
     | ((with_reducible refine at_index 9 ?_); refine wpList_strix (by rfl) 9 _ _ rfl Tryz.underlying9 l i x HX.out rfl hx ?_)
     | ((with_reducible refine at_slice 9 ?_); refine wpList_strcut (by rfl) 9 _ _ _ rfl Tryz.underlying9 l fr i HX.out rfl rfl hf (by omega) ?_)
     | (at_builtin; refine wpList_app1 _ (by rfl) _ _ 188 (by rfl) 9 iS _ 16 Tryz.underlying188 hiS hzS hsS hbS rfl _ ps.length _ (by rfl) hrow (str ((l.drop fr).take (i - fr))) 9 (by rfl) (str_one _) (by unfold maxLen; omega) (by omega) ?_))
    intro vo w2 ho2 t2 hv2
    have hnew2 : ∀ g, vo.ownBlock = some g → w.heap.size ≤ g := by
     intro g hg
     have z1 := ht.size
     rcases hv2 with e | e
     ·rw [e] at hg; exact hown.new g hg
     ·rw [e] at hg; simp at hg; omega
    have hown2 : OwnS w w2 vo (ps ++ [(l.drop fr).take (i - fr)]) := ⟨by rw [List.map_append, List.length_append]; exact ho2, hnew2⟩
    have ht2 : Touch [] w w2 := ht.trans t2 (fun g hg => .inr (hown.new g (by simpa using hg)))
    clear hv2 hnew2 ho2 t2 hrow
    go_wp2_with fail
    go_roundw
    case rel => exact ⟨i + 1, by omega, by go_num, by rw [HSEG.out]; simp, by rw [HSEG.out]; exact hown2, ht2⟩
    case measure => simp [intOf]; omega
   ·have HNE := (not_congr (u8_inj x c)).2 hxc
    rw [← HC.out] at HNE
    rw [if_neg hxc] at hseg
    have HSEG := Lib.hid hseg
    clear hseg hp hxc
    go_wp2_with ((with_reducible refine at_index 9 ?_); refine wpList_strix (by rfl) 9 _ _ rfl Tryz.underlying9 l i x HX.out rfl hx ?_)
    go_roundw
    case rel => exact ⟨i + 1, by omega, by go_num, by rw [HSEG.out], by rw [HSEG.out]; exact hown, ht⟩
    case measure => simp [intOf]; omega
  ·have he : i = l.length := by omega
   subst he
   have hsp : splitP l c = (segs l c l.length).1 ++ [l.drop (segs l c l.length).2] := rfl
   generalize segs l c l.length = p at *
   obtain ⟨ps, fr⟩ := p
   simp only at *
   have HSP := Lib.hid hsp
   have hrow := hown.row
   clear hsp
   go_wp2_with (first
     | ((with_reducible refine at_slice 9 ?_); refine wpList_strfrom (by rfl) 9 _ _ rfl Tryz.underlying9 l fr HX.out rfl hf ?_)
     | (at_builtin; refine wpList_app1 _ (by rfl) _ _ 188 (by rfl) 9 iS _ 16 Tryz.underlying188 hiS hzS hsS hbS rfl _ ps.length _ (by rfl) hrow (str (l.drop fr)) 9 (by rfl) (str_one _) (by unfold maxLen; omega) (by omega) ?_))
   intro vo w2 ho2 t2 hv2
   have hnew2 : ∀ g, vo.ownBlock = some g → w.heap.size ≤ g := by
    intro g hg
    have z1 := ht.size
    rcases hv2 with e | e
    ·rw [e] at hg; exact hown.new g hg
    ·rw [e] at hg; simp at hg; omega
   have hown2 : OwnS w w2 vo (ps ++ [l.drop fr]) := ⟨by rw [List.map_append, List.length_append]; exact ho2, hnew2⟩
   have ht2 : Touch [] w w2 := ht.trans t2 (fun g hg => .inr (hown.new g (by simpa using hg)))
   clear hv2 hnew2 ho2 t2 hrow
   go_wp2_with fail
   go_ret
   exact ⟨_, rfl, by rw [HSP.out]; exact hown2, ht2⟩
end Go.Proofs.YtiklhaajhdephaaGreatDoor

/-
 The contract of the reference's ParseDecimal.
-/
namespace Go.Proofs.YtiklhaajhdephaaGreatDoor
open Go.RowKit
set_option linter.unusedVariables false
set_option linter.unusedSimpArgs false

/-- The number that the first i digits make. -/
def digs (l : List UInt8) : Nat → Option Int
 | 0 => some 0
 | i + 1 => match digs l i, l[i]? with
  | some n, some x => if x.toNat < 48 ∨ 57 < x.toNat then none else some (10 * n + (x.toNat - 48))
  | _, _ => none
def decP (l : List UInt8) (most : Int) : Int :=
 if l = [] ∨ 6 < l.length ∨ (l[0]? = some 48 ∧ 1 < l.length) then -1
 else match digs l l.length with
  | none => -1
  | some n => if most < n then -1 else n
theorem digs_bound (l : List UInt8) (i : Nat) (n : Int) (h : digs l i = some n) : 0 ≤ n ∧ n < 10 ^ i := by
 induction i generalizing n with
 | zero =>
  simp [digs] at h
  subst h
  simp
 | succ i ih =>
  simp only [digs] at h
  split at h
  ·rename_i m x hm hx
   split at h
   ·cases h
   ·rename_i hb
    have := ih m hm
    simp only [Option.some.injEq] at h
    rw [Int.pow_succ]
    omega
  ·cases h
theorem digs_none (l : List UInt8) (i : Nat) (h : digs l i = none) : ∀ j, i ≤ j → digs l j = none := by
 intro j hj
 induction j with
 | zero =>
  have : i = 0 := by omega
  subst this
  exact h
 | succ j ih =>
  by_cases e : i = j + 1
  ·subst e; exact h
  ·simp only [digs, ih (by omega)]
theorem pow6 (i : Nat) (h : i ≤ 6) : (10 : Int) ^ i ≤ 1000000 := by
 rcases (by omega : i = 0 ∨ i = 1 ∨ i = 2 ∨ i = 3 ∨ i = 4 ∨ i = 5 ∨ i = 6) with rfl | rfl | rfl | rfl | rfl | rfl | rfl <;> decide
set_option maxRecDepth 100000 in
set_option maxHeartbeats 1000000 in
theorem dec_any (l : List UInt8) (most : Int) (w : World) :
  Calls Tryz.prog 168 #[str l, .int .i64 most] w fun e w' => e = .returned (.int .i64 (decP l most)) ∧ w = w' := by
 obtain ⟨s, hs⟩ : ∃ s : ByteArray, s = ⟨l.toArray⟩ := ⟨_, rfl⟩
 have hsz : s.size = l.length := by rw [hs]; exact str_size l
 have hse : s.toList = l := by rw [hs]; simp
 rw [show str l = .string s by rw [hs]; rfl]
 have HX := Lib.hid (show Value.string s = str l by rw [hs]; rfl)
 clear hs
 cases l with
 | nil =>
  have HP := Lib.hid (show decP [] most = -1 by simp [decP])
  go_enter Tryz.func168, Tryz.ntmps168
  go_wp2_with fail
  go_ret
  exact ⟨by rw [HP.out]; rfl, rfl⟩
 | cons y l0 =>
  obtain ⟨l, hl⟩ : ∃ l, l = y :: l0 := ⟨_, rfl⟩
  rw [← hl] at hsz hse HX ⊢
  have hy : l[0]? = some y := by rw [hl]; rfl
  have hne : s.toList.isEmpty = false := by rw [hse, hl]; rfl
  have hne2 : l ≠ [] := by rw [hl]; simp
  clear hl hse
  by_cases h6 : 6 < l.length
  ·have HP := Lib.hid (show decP l most = -1 by simp [decP, h6])
   go_enter Tryz.func168, Tryz.ntmps168
   go_wp2_with fail
   go_ret
   exact ⟨by rw [HP.out]; rfl, rfl⟩
  ·have h6c : decide ((6 : Int) < (l.length : Int)) = false := by simp; omega
   by_cases h48 : y = 48
   ·subst h48
    have c48 : ((48 : UInt8).toNat : Int) = 48 := rfl
    by_cases h1 : 1 < l.length
    ·have HP := Lib.hid (show decP l most = -1 by unfold decP; rw [if_pos (Or.inr (Or.inr ⟨hy, h1⟩))])
     go_enter Tryz.func168, Tryz.ntmps168
     go_wp2_with ((with_reducible refine at_index 9 ?_); refine wpList_strix (by rfl) 9 _ _ rfl Tryz.underlying9 l 0 48 HX.out rfl hy ?_)
     go_ret
     exact ⟨by rw [HP.out]; rfl, rfl⟩
    ·have hcond : ¬ (l = [] ∨ 6 < l.length ∨ (l[0]? = some 48 ∧ 1 < l.length)) := by
      rintro (h | h | h)
      ·exact hne2 h
      ·exact h6 h
      ·exact h1 h.2
     go_enter Tryz.func168, Tryz.ntmps168
     go_wp2_with ((with_reducible refine at_index 9 ?_); refine wpList_strix (by rfl) 9 _ _ rfl Tryz.underlying9 l 0 48 HX.out rfl hy ?_)
     go_loopw [5, 6] (fun vn vi wr => wr = w ∧ ∃ (i : Nat) (n : Int), i ≤ l.length ∧ vi = .int .i64 i ∧ vn = .int .i64 n ∧ digs l i = some n) (fun _ vi _ => l.length - (intOf vi).toNat)
     case atStart => exact ⟨rfl, 0, 0, by omega, rfl, rfl, rfl⟩
     case round =>
      obtain ⟨hwr, i, n, hi, rfl, rfl, hd⟩ := hrel
      subst hwr
      obtain ⟨hn0, hn1⟩ := digs_bound l i n hd
      have hp6 := pow6 i (by omega)
      by_cases hlt : i < l.length
      ·obtain ⟨x, hx⟩ : ∃ x, l[i]? = some x := ⟨_, List.getElem?_eq_getElem hlt⟩
       have hx255 : x.toNat < 256 := x.toNat_lt
       by_cases hb : x.toNat < 48 ∨ 57 < x.toNat
       ·have HD := Lib.hid (digs_none l (i + 1) (by simp only [digs, hd, hx]; rw [if_pos hb]) l.length (by omega))
        have HP := Lib.hid (show decP l most = -1 by unfold decP; rw [if_neg hcond, HD.out])
        clear hd hcond
        rcases hb with hb | hb
        ·have hb2 : ((x.toNat : Int) < 48) := by omega
         go_wp2_with ((with_reducible refine at_index 9 ?_); refine wpList_strix (by rfl) 9 _ _ rfl Tryz.underlying9 l i x HX.out rfl hx ?_)
         go_ret
         exact ⟨by rw [HP.out]; rfl, rfl⟩
        ·have hb2 : ¬ ((x.toNat : Int) < 48) := by omega
         have hb3 : (57 < (x.toNat : Int)) := by omega
         go_wp2_with ((with_reducible refine at_index 9 ?_); refine wpList_strix (by rfl) 9 _ _ rfl Tryz.underlying9 l i x HX.out rfl hx ?_)
         go_ret
         exact ⟨by rw [HP.out]; rfl, rfl⟩
       ·have HD := Lib.hid (show digs l (i + 1) = some (10 * n + (x.toNat - 48)) by simp only [digs, hd, hx]; rw [if_neg hb])
        have hb2 : ¬ ((x.toNat : Int) < 48) := by omega
        have hb3 : ¬ (57 < (x.toNat : Int)) := by omega
        have w1 : IntKind.i64.wrap (10 * n) = 10 * n := by rw [IntKind.wrap_i64] <;> omega
        have w2 : IntKind.u8.wrap ((x.toNat : Int) - 48) = (x.toNat : Int) - 48 := by simp [IntKind.wrap, IntKind.signed, IntKind.bits]; omega
        have w3 : IntKind.i64.wrap ((x.toNat : Int) - 48) = (x.toNat : Int) - 48 := by rw [IntKind.wrap_i64] <;> omega
        have w4 : IntKind.i64.wrap (10 * n + ((x.toNat : Int) - 48)) = 10 * n + ((x.toNat : Int) - 48) := by rw [IntKind.wrap_i64] <;> omega
        clear hd
        go_wp2_with ((with_reducible refine at_index 9 ?_); refine wpList_strix (by rfl) 9 _ _ rfl Tryz.underlying9 l i x HX.out rfl hx ?_)
        go_roundw
        case rel => exact ⟨by trivial, i + 1, _, by omega, by go_num, rfl, HD.out⟩
        case measure => simp [intOf]; omega
      ·have he : i = l.length := by omega
       subst he
       by_cases hm : most < n
       ·have HP := Lib.hid (show decP l most = -1 by unfold decP; rw [if_neg hcond, hd]; simp [hm])
        clear hd hcond
        go_wp2_with fail
        go_ret
        exact ⟨by rw [HP.out]; rfl, rfl⟩
       ·have HP := Lib.hid (show decP l most = n by unfold decP; rw [if_neg hcond, hd]; simp [hm])
        clear hd hcond
        go_wp2_with fail
        go_ret
        exact ⟨by rw [HP.out]; rfl, rfl⟩
   ·have hcond : ¬ (l = [] ∨ 6 < l.length ∨ (l[0]? = some 48 ∧ 1 < l.length)) := by
     rintro (h | h | h)
     ·exact hne2 h
     ·exact h6 h
     ·rw [hy] at h
      exact h48 (by simpa using h.1)
    have hn48 : ¬ ((y.toNat : Int) = 48) := fun h => h48 ((u8_inj y 48).1 h)
    go_enter Tryz.func168, Tryz.ntmps168
    go_wp2_with ((with_reducible refine at_index 9 ?_); refine wpList_strix (by rfl) 9 _ _ rfl Tryz.underlying9 l 0 y HX.out rfl hy ?_)
    go_loopw [5, 6] (fun vn vi wr => wr = w ∧ ∃ (i : Nat) (n : Int), i ≤ l.length ∧ vi = .int .i64 i ∧ vn = .int .i64 n ∧ digs l i = some n) (fun _ vi _ => l.length - (intOf vi).toNat)
    case atStart => exact ⟨rfl, 0, 0, by omega, rfl, rfl, rfl⟩
    case round =>
     obtain ⟨hwr, i, n, hi, rfl, rfl, hd⟩ := hrel
     subst hwr
     obtain ⟨hn0, hn1⟩ := digs_bound l i n hd
     have hp6 := pow6 i (by omega)
     by_cases hlt : i < l.length
     ·obtain ⟨x, hx⟩ : ∃ x, l[i]? = some x := ⟨_, List.getElem?_eq_getElem hlt⟩
      have hx255 : x.toNat < 256 := x.toNat_lt
      by_cases hb : x.toNat < 48 ∨ 57 < x.toNat
      ·have HD := Lib.hid (digs_none l (i + 1) (by simp only [digs, hd, hx]; rw [if_pos hb]) l.length (by omega))
       have HP := Lib.hid (show decP l most = -1 by unfold decP; rw [if_neg hcond, HD.out])
       clear hd hcond
       rcases hb with hb | hb
       ·have hb2 : ((x.toNat : Int) < 48) := by omega
        go_wp2_with ((with_reducible refine at_index 9 ?_); refine wpList_strix (by rfl) 9 _ _ rfl Tryz.underlying9 l i x HX.out rfl hx ?_)
        go_ret
        exact ⟨by rw [HP.out]; rfl, rfl⟩
       ·have hb2 : ¬ ((x.toNat : Int) < 48) := by omega
        have hb3 : (57 < (x.toNat : Int)) := by omega
        go_wp2_with ((with_reducible refine at_index 9 ?_); refine wpList_strix (by rfl) 9 _ _ rfl Tryz.underlying9 l i x HX.out rfl hx ?_)
        go_ret
        exact ⟨by rw [HP.out]; rfl, rfl⟩
      ·have HD := Lib.hid (show digs l (i + 1) = some (10 * n + (x.toNat - 48)) by simp only [digs, hd, hx]; rw [if_neg hb])
       have hb2 : ¬ ((x.toNat : Int) < 48) := by omega
       have hb3 : ¬ (57 < (x.toNat : Int)) := by omega
       have w1 : IntKind.i64.wrap (10 * n) = 10 * n := by rw [IntKind.wrap_i64] <;> omega
       have w2 : IntKind.u8.wrap ((x.toNat : Int) - 48) = (x.toNat : Int) - 48 := by simp [IntKind.wrap, IntKind.signed, IntKind.bits]; omega
       have w3 : IntKind.i64.wrap ((x.toNat : Int) - 48) = (x.toNat : Int) - 48 := by rw [IntKind.wrap_i64] <;> omega
       have w4 : IntKind.i64.wrap (10 * n + ((x.toNat : Int) - 48)) = 10 * n + ((x.toNat : Int) - 48) := by rw [IntKind.wrap_i64] <;> omega
       clear hd
       go_wp2_with ((with_reducible refine at_index 9 ?_); refine wpList_strix (by rfl) 9 _ _ rfl Tryz.underlying9 l i x HX.out rfl hx ?_)
       go_roundw
       case rel => exact ⟨by trivial, i + 1, _, by omega, by go_num, rfl, HD.out⟩
       case measure => simp [intOf]; omega
     ·have he : i = l.length := by omega
      subst he
      by_cases hm : most < n
      ·have HP := Lib.hid (show decP l most = -1 by unfold decP; rw [if_neg hcond, hd]; simp [hm])
       clear hd hcond
       go_wp2_with fail
       go_ret
       exact ⟨by rw [HP.out]; rfl, rfl⟩
      ·have HP := Lib.hid (show decP l most = n by unfold decP; rw [if_neg hcond, hd]; simp [hm])
       clear hd hcond
       go_wp2_with fail
       go_ret
       exact ⟨by rw [HP.out]; rfl, rfl⟩
end Go.Proofs.YtiklhaajhdephaaGreatDoor

/-
 The contracts of the reference's parseIPv4 (at what is none) and parseGroup.
-/
namespace Go.Proofs.YtiklhaajhdephaaGreatDoor
open Go.RowKit
set_option linter.unusedVariables false
set_option linter.unusedSimpArgs false

theorem OwnS.form {w0 w : World} {v : Value} {xs : List (List UInt8)} (h : OwnS w0 w v xs) : ∃ a cap, v = .slice a xs.length cap ∧ xs.length ≤ cap ∧ cap ≤ maxLen ∧ ∀ i x, xs[i]? = some x → ∃ g, a = some ⟨g, 0, none⟩ ∧ w.cell? ⟨g, i, none⟩ = some (str x) := by
 obtain ⟨a, c, rfl, h1, h2, h3⟩ := owns_form h.row
 refine ⟨a, c, rfl, h1, h2, ?_⟩
 intro i x hx
 have hi := (List.getElem?_eq_some_iff.1 hx).1
 obtain ⟨hl, hr⟩ := h.row
 rcases hr with ⟨hv, hn⟩ | ⟨g, cap, cur, hv, hb, hg, hnc, hcm, hcs, htk⟩
 ·omega
 ·simp only [Value.slice.injEq] at hv
  obtain ⟨rfl, _, rfl⟩ := hv
  refine ⟨g, rfl, ?_⟩
  rw [cell_of_row _ _ _ _ _ _ hg]
  have h4 : (xs.map str)[i]? = some (str x) := by simp [hx]
  rw [← htk, List.getElem?_take] at h4
  split at h4
  ·simpa using h4
  ·cases h4
set_option maxRecDepth 100000 in
theorem built_zero : Tryz.prog.built 40 [] = some (adr false (List.replicate 16 0)).toArray := by kernel_rfl
set_option maxRecDepth 100000 in
set_option maxHeartbeats 1000000 in
theorem ip4_bad (l : List UInt8) (hl : l.length ≤ 1000) (h4 : (splitP l 46).length ≠ 4) (w : World) :
  Calls Tryz.prog 172 #[str l] w fun e w' => e = .returned (.tuple #[.agg (adr false (List.replicate 16 0)).toArray, .bool false]) ∧ Touch [] w w' := by
 obtain ⟨zs, hzs⟩ : ∃ zs : List Int, zs = List.replicate 16 0 := ⟨_, rfl⟩
 have hzl : (adr false zs).length = 17 := by rw [hzs]; rfl
 have HZS := Lib.hid hzs
 have HZL := Lib.hid hzl
 have HBZ := Lib.hid (show Tryz.prog.built 40 [] = some (adr false zs).toArray by rw [hzs]; exact built_zero)
 have HZ := Lib.hid (show (Obj.cells (adr false (List.replicate 16 0)).toArray 40) = Obj.cells (adr false zs).toArray 40 by rw [hzs])
 rw [← hzs]
 have t0 := (Touch.refl [] w).alloc (.cells (adr false (List.replicate 16 0)).toArray 40)
 have g0 := heap_alloc_new w (.cells (adr false (List.replicate 16 0)).toArray 40)
 have HT := Lib.hid t0
 have HG := Lib.hid g0
 have HSP := Lib.hid (split_any l 46 hl)
 have h4c : ¬ ((splitP l 46).length : Int) = 4 := by omega
 clear t0 g0 hzs hzl
 go_enter Tryz.func172, Tryz.ntmps172
 go_wp2_with fail
 refine (HSP.out _).mono ?_
 rintro e w1 ⟨v, rfl, ho, t1⟩
 obtain ⟨a, cap, rfl, _⟩ := ho.form
 have HT1 := Lib.hid (HT.out.trans t1 (by simp))
 have HG1 := Lib.hid (t1.at HG.out (by simp))
 have HT2 := Lib.hid (HT1.out.alloc (.cells (adr false (List.replicate 16 0)).toArray 40))
 have HG2 := Lib.hid (((Touch.refl [] w1).alloc (.cells (adr false (List.replicate 16 0)).toArray 40)).at HG1.out (by simp))
 have HN2 := Lib.hid (heap_alloc_new w1 (.cells (adr false (List.replicate 16 0)).toArray 40))
 clear t1 ho HT HG
 go_wp2_with (first
  | ((with_reducible refine at_build 40 ?_); refine wpList_built (by rfl) 40 _ (by rfl) _ _ (by rfl) HBZ.out ?_)
  | ((with_reducible refine at_store 40 ?_); refine wpList_store_into rfl 40 _ _ rfl w1.heap.size 40 _ (adr false zs) rfl rfl HN2.out (by rw [HZL.out]; rfl) (by rw [size31, HZL.out]) (adr_one _ _) ?_))
 intro w3 h3 t3 z3
 have HT3 := Lib.hid (HT2.out.trans t3 (by intro y hy; right; simp at hy; have := HT1.out.size; omega))
 have HG3 := Lib.hid (t3.at HG2.out (by simp; have := (Array.getElem?_eq_some_iff.1 HG1.out).1; omega))
 have R3 := range_block h3
 clear h3 t3 z3 HT2 HG2 HN2
 go_wp2_with (first
  | ((with_reducible refine at_load 40 ?_); refine wpList_load_mid rfl 40 _ rfl w1.heap.size 0 rfl (adr false zs) _ R3 Tryz.underlying40 rfl (by rw [size31, HZL.out]) ?_)
  | ((with_reducible refine at_store 40 ?_); refine wpList_store_into rfl 40 _ _ rfl w.heap.size 40 _ (adr false zs) rfl rfl HG3.out (by rw [HZL.out]; rfl) (by rw [size31, HZL.out]) (adr_one _ _) ?_))
 intro w4 h4 t4 z4
 go_wp2_with fail
 exact ret_row_tmp rfl size31 Tryz.underlying40 rfl HZL.out rfl rfl h4 ⟨rfl, HT3.out.trans t4 (by simp)⟩
end Go.Proofs.YtiklhaajhdephaaGreatDoor

/-
 The contract of the reference's parseGroup at hexadecimal digits.
-/
namespace Go.Proofs.YtiklhaajhdephaaGreatDoor
open Go.RowKit
set_option linter.unusedVariables false
set_option linter.unusedSimpArgs false

def hexv (x : UInt8) : Option Int := if 48 ≤ x.toNat ∧ x.toNat ≤ 57 then some (x.toNat - 48) else if 97 ≤ x.toNat ∧ x.toNat ≤ 102 then some (x.toNat - 97 + 10) else none
def hexs (l : List UInt8) : Nat → Option Int
 | 0 => some 0
 | i + 1 => match hexs l i, l[i]? with
  | some n, some x => (hexv x).map fun v => 16 * n + v
  | _, _ => none
theorem hexs_bound (l : List UInt8) (i : Nat) (n : Int) (h : hexs l i = some n) : 0 ≤ n ∧ n < 16 ^ i := by
 induction i generalizing n with
 | zero =>
  simp [hexs] at h
  subst h
  simp
 | succ i ih =>
  simp only [hexs] at h
  split at h
  ·rename_i m x hm hx
   have := ih m hm
   rw [Int.pow_succ]
   unfold hexv at h
   split at h
   ·simp at h; omega
   ·split at h
    ·simp at h; omega
    ·cases h
  ·cases h
theorem hexs_none (l : List UInt8) (i : Nat) (h : hexs l i = none) : ∀ j, i ≤ j → hexs l j = none := by
 intro j hj
 induction j with
 | zero =>
  have : i = 0 := by omega
  subst this
  exact h
 | succ j ih =>
  by_cases e : i = j + 1
  ·subst e; exact h
  ·simp only [hexs, ih (by omega)]
theorem hex4 (i : Nat) (h : i ≤ 4) : (16 : Int) ^ i ≤ 65536 := by
 rcases (by omega : i = 0 ∨ i = 1 ∨ i = 2 ∨ i = 3 ∨ i = 4) with rfl | rfl | rfl | rfl | rfl <;> decide
set_option maxRecDepth 100000 in
set_option maxHeartbeats 1000000 in
theorem group_any (l : List UInt8) (r : Int) (hr : hexs l l.length = some r) (hne : l ≠ []) (h4 : l.length ≤ 4) (w : World) :
  Calls Tryz.prog 175 #[str l] w fun e w' => e = .returned (.int .i64 r) ∧ w = w' := by
 obtain ⟨s, hs⟩ : ∃ s : ByteArray, s = ⟨l.toArray⟩ := ⟨_, rfl⟩
 have hsz : s.size = l.length := by rw [hs]; exact str_size l
 have hse : s.toList.isEmpty = false := by
  rw [hs]
  cases l with
  | nil => exact absurd rfl hne
  | cons y l => simp
 rw [show str l = .string s by rw [hs]; rfl]
 have HX := Lib.hid (show Value.string s = str l by rw [hs]; rfl)
 have h4c : decide ((4 : Int) < (l.length : Int)) = false := by simp; omega
 have HR := Lib.hid hr
 clear hs hr
 go_enter Tryz.func175, Tryz.ntmps175
 go_wp2_with fail
 go_loopw [3, 4] (fun vn vi wr => wr = w ∧ ∃ (i : Nat) (n : Int), i ≤ l.length ∧ vi = .int .i64 i ∧ vn = .int .i64 n ∧ hexs l i = some n) (fun _ vi _ => l.length - (intOf vi).toNat)
 case atStart => exact ⟨rfl, 0, 0, by omega, rfl, rfl, rfl⟩
 case round =>
  obtain ⟨hwr, i, n, hi, rfl, rfl, hd⟩ := hrel
  subst hwr
  obtain ⟨hn0, hn1⟩ := hexs_bound l i n hd
  by_cases hlt : i < l.length
  ·obtain ⟨x, hx⟩ : ∃ x, l[i]? = some x := ⟨_, List.getElem?_eq_getElem hlt⟩
   have hx255 : x.toNat < 256 := x.toNat_lt
   have hp4 := hex4 (i + 1) (by omega)
   have hstep : hexs l (i + 1) = (hexv x).map fun v => 16 * n + v := by simp only [hexs, hd, hx]
   have hp5 : (16 : Int) ^ (i + 1) = 16 ^ i * 16 := Int.pow_succ _ _
   have w1 : IntKind.i64.wrap (16 * n) = 16 * n := by rw [IntKind.wrap_i64] <;> omega
   by_cases hb : 48 ≤ x.toNat ∧ x.toNat ≤ 57
   ·have HD := Lib.hid (show hexs l (i + 1) = some (16 * n + (x.toNat - 48)) by rw [hstep]; unfold hexv; rw [if_pos hb]; rfl)
    have b1 : decide ((48 : Int) ≤ (x.toNat : Int)) = true := by simp; omega
    have b2 : decide ((x.toNat : Int) ≤ 57) = true := by simp; omega
    have w2 : IntKind.u8.wrap ((x.toNat : Int) - 48) = (x.toNat : Int) - 48 := by simp [IntKind.wrap, IntKind.signed, IntKind.bits]; omega
    have w3 : IntKind.i64.wrap ((x.toNat : Int) - 48) = (x.toNat : Int) - 48 := by rw [IntKind.wrap_i64] <;> omega
    have w4 : IntKind.i64.wrap (16 * n + ((x.toNat : Int) - 48)) = 16 * n + ((x.toNat : Int) - 48) := by rw [IntKind.wrap_i64] <;> omega
    clear hd hstep hp4 hp5 hn1
    go_wp2_with ((with_reducible refine at_index 9 ?_); refine wpList_strix (by rfl) 9 _ _ rfl Tryz.underlying9 l i x HX.out rfl hx ?_)
    go_roundw
    case rel => exact ⟨by trivial, i + 1, _, by omega, by go_num, rfl, HD.out⟩
    case measure => simp [intOf]; omega
   ·by_cases hc : 97 ≤ x.toNat ∧ x.toNat ≤ 102
    ·have HD := Lib.hid (show hexs l (i + 1) = some (16 * n + (x.toNat - 97 + 10)) by rw [hstep]; unfold hexv; rw [if_neg hb, if_pos hc]; rfl)
     have b1 : decide ((48 : Int) ≤ (x.toNat : Int)) = true := by simp; omega
     have b2 : decide ((x.toNat : Int) ≤ 57) = false := by simp; omega
     have b3 : decide ((97 : Int) ≤ (x.toNat : Int)) = true := by simp; omega
     have b4 : decide ((x.toNat : Int) ≤ 102) = true := by simp; omega
     have w2 : IntKind.u8.wrap ((x.toNat : Int) - 97) = (x.toNat : Int) - 97 := by simp [IntKind.wrap, IntKind.signed, IntKind.bits]; omega
     have w3 : IntKind.i64.wrap ((x.toNat : Int) - 97) = (x.toNat : Int) - 97 := by rw [IntKind.wrap_i64] <;> omega
     have w4 : IntKind.i64.wrap (16 * n + ((x.toNat : Int) - 97)) = 16 * n + ((x.toNat : Int) - 97) := by rw [IntKind.wrap_i64] <;> omega
     have w5 : IntKind.i64.wrap (16 * n + ((x.toNat : Int) - 97) + 10) = 16 * n + ((x.toNat : Int) - 97) + 10 := by rw [IntKind.wrap_i64] <;> omega
     clear hd hstep hp4 hp5 hn1
     go_wp2_with ((with_reducible refine at_index 9 ?_); refine wpList_strix (by rfl) 9 _ _ rfl Tryz.underlying9 l i x HX.out rfl hx ?_)
     go_roundw
     case rel => exact ⟨by trivial, i + 1, _, by omega, by go_num, rfl, by rw [HD.out]; congr 1; omega⟩
     case measure => simp [intOf]; omega
    ·exfalso
     have := hexs_none l (i + 1) (by rw [hstep]; unfold hexv; rw [if_neg hb, if_neg hc]; rfl) l.length (by omega)
     rw [HR.out] at this
     cases this
  ·have he : i = l.length := by omega
   subst he
   have hrn : n = r := by
    have := HR.out
    rw [hd] at this
    simpa using this
   subst hrn
   clear hd
   go_wp2_with fail
   go_ret
   exact ⟨rfl, rfl⟩
end Go.Proofs.YtiklhaajhdephaaGreatDoor

/-
 The contract of the reference's parseGroups at hexadecimal groups.
-/
namespace Go.Proofs.YtiklhaajhdephaaGreatDoor
open Go.RowKit
set_option linter.unusedVariables false
set_option linter.unusedSimpArgs false

/-- A piece that is a group of value n. -/
def GoodP (p : List UInt8) (n : Int) : Prop := (splitP p 46).length ≠ 4 ∧ hexs p p.length = some n ∧ p ≠ [] ∧ p.length ≤ 4
/-- A text of groups. -/
def GoodG (l : List UInt8) (ns : List Int) : Prop := l.length ≤ 1000 ∧ ((l = [] ∧ ns = []) ∨ (l ≠ [] ∧ (splitP l 58).length = ns.length ∧ ns.length ≤ 1000 ∧ ∀ (i : Nat) (p : List UInt8) (n : Int), (splitP l 58)[i]? = some p → ns[i]? = some n → GoodP p n))
theorem infoU16 : (Tryz.prog.info? 194).map (fun i => (i.zero, i.size, i.bytes)) = some (some (.int .u16 0), 1, 2) := by kernel_rfl
/-- A slice of u16s of the call's own, made since w0. -/
structure OwnU (w0 w : World) (v : Value) (xs : List Int) : Prop where
 row : w.ownsRow 0 194 1 v xs.length (xs.map (Value.int .u16))
 new : ∀ g, v.ownBlock = some g → w0.heap.size ≤ g
theorem OwnU.nil (w0 w : World) : OwnU w0 w (.slice none 0 0) [] := ⟨World.ownsRow_nil _ _ _ _, by simp [Value.ownBlock]⟩
theorem OwnU.touch {S : List Nat} {w0 w w' : World} {v : Value} {xs : List Int} (h : OwnU w0 w v xs) (t : Touch S w w') (hn : ∀ g, v.ownBlock = some g → g ∉ S) : OwnU w0 w' v xs := ⟨t.owns h.row hn, h.new⟩
theorem OwnU.lt {w0 w : World} {v : Value} {xs : List Int} (h : OwnU w0 w v xs) : ∀ g, v.ownBlock = some g → g < w.heap.size := fun g hg => (h.row.lt g hg).2
theorem OwnU.older {w0 w1 w : World} {v : Value} {xs : List Int} (h : OwnU w1 w v xs) (hz : w0.heap.size ≤ w1.heap.size) : OwnU w0 w v xs := ⟨h.row, fun g hg => Nat.le_trans hz (h.new g hg)⟩
theorem OwnU.snoc {w0 w1 w2 : World} {v vo : Value} {xs : List Int} {x : Int} (h : OwnU w0 w1 v xs) (hz : w0.heap.size ≤ w1.heap.size) (hr : w2.ownsRow 0 194 1 vo (xs.length + 1) (xs.map (Value.int .u16) ++ [.int .u16 x])) (hv : vo.ownBlock = v.ownBlock ∨ vo.ownBlock = some (w1.heap.size + 1)) : OwnU w0 w2 vo (xs ++ [x]) := by
 refine ⟨by rw [List.map_append, List.length_append]; exact hr, ?_⟩
 intro g hg
 rcases hv with e | e
 ·rw [e] at hg; exact h.new g hg
 ·rw [e] at hg; simp at hg; omega
set_option maxRecDepth 100000 in
set_option maxHeartbeats 1000000 in
theorem groups_any (l : List UInt8) (last : Bool) (ns : List Int) (hG : GoodG l ns) (w : World) :
  Calls Tryz.prog 173 #[str l, .bool last] w fun e w' => ∃ v, e = .returned (.tuple #[v, .bool true]) ∧ OwnU w w' v ns ∧ Touch [] w w' := by
 obtain ⟨iU, hiU, hzU, hsU, hbU⟩ := info_parts infoU16
 obtain ⟨hl, hG⟩ := hG
 rcases hG with ⟨rfl, rfl⟩ | ⟨hne, hlen, hn1000, hgood⟩
 ·rw [show str [] = .string ⟨#[]⟩ from rfl]
  go_enter Tryz.func173, Tryz.ntmps173
  go_wp2_with fail
  go_ret2
  exact ⟨_, rfl, OwnU.nil _ _, Touch.refl _ _⟩
 ·obtain ⟨s, hs⟩ : ∃ s : ByteArray, s = ⟨l.toArray⟩ := ⟨_, rfl⟩
  have hse : s.toList.isEmpty = false := by
   rw [hs]
   cases l with
   | nil => exact absurd rfl hne
   | cons y l => simp
  have HSP := Lib.hid (split_any l 58 hl)
  rw [show str l = .string s by rw [hs]; rfl] at *
  clear hs
  go_enter Tryz.func173, Tryz.ntmps173
  go_wp2_with fail
  refine (HSP.out _).mono ?_
  rintro e w1 ⟨v, rfl, ho, t1⟩
  obtain ⟨a, cap, rfl, hlc, hcm, hat⟩ := ho.form
  have hnew := ho.new
  generalize splitP l 58 = ps at *
  rw [hlen] at hlc ⊢
  go_wp2_with fail
  go_loopw [6, 8] (fun vo vi wr => ∃ i : Nat, i ≤ ns.length ∧ vi = .int .i64 i ∧ OwnU w1 wr vo (ns.take i) ∧ Touch [] w1 wr) (fun _ vi _ => ns.length - (intOf vi).toNat)
  case atStart => exact ⟨0, by omega, rfl, OwnU.nil _ _, Touch.refl _ _⟩
  case round =>
   obtain ⟨i, hi, rfl, hown, ht⟩ := hrel
   by_cases hlt : i < ns.length
   ·obtain ⟨n, hn⟩ : ∃ n, ns[i]? = some n := ⟨_, List.getElem?_eq_getElem hlt⟩
    obtain ⟨p, hp⟩ : ∃ p, ps[i]? = some p := ⟨_, List.getElem?_eq_getElem (by omega)⟩
    obtain ⟨hp4, hph, hpne, hpl⟩ := hgood i p n hp hn
    obtain ⟨g, rfl, hc⟩ := hat i p hp
    have hc1 := ht.cell hc (by simp)
    have HB := hexs_bound p p.length n hph
    have hx4 := hex4 p.length hpl
    have HIP := Lib.hid (ip4_bad p (by omega) hp4)
    have HGR := Lib.hid (group_any p n hph hpne hpl)
    have htk : ns.take (i + 1) = ns.take i ++ [n] := by rw [List.take_add_one, hn]; rfl
    have hc2 : n < 65536 := by omega
    have hn0 : 0 ≤ n := HB.1
    have hwu : IntKind.u16.wrap n = n := by simp [IntKind.wrap, IntKind.signed, IntKind.bits]; omega
    have hgn : w.heap.size ≤ g := hnew g rfl
    have hlti : (ns.take i).length = i := by simp; omega
    clear hp4 hph hpne hpl HB hx4 hat hgood hnew hc
    go_wp2_with fail
    refine (HIP.out _).mono ?_
    rintro e w2 ⟨rfl, t2⟩
    have HT2 := Lib.hid (ht.trans t2 (by simp))
    have HC2 := Lib.hid (t2.cell hc1 (by simp))
    have hown2 := hown.touch t2 (by simp)
    have HN2 := Lib.hid (heap_alloc_new w2 (.cells (adr false (List.replicate 16 0)).toArray 40))
    have HA2 := Lib.hid ((Touch.refl [] w2).alloc (.cells (adr false (List.replicate 16 0)).toArray 40))
    clear t2 hc1 hown HIP
    go_wp2_with ((with_reducible refine at_store 40 ?_); refine wpList_store_into rfl 40 _ _ rfl w2.heap.size 40 _ (adr false (List.replicate 16 0)) rfl rfl HN2.out rfl size31 (adr_one _ _) ?_)
    intro w3 h3 t3 z3
    have HT23 := Lib.hid ((HA2.out.trans t3 (by intro y hy; right; simp at hy; omega)))
    have HT3 := Lib.hid (HT2.out.trans HT23.out (by simp))
    have hc3 := HT23.out.cell HC2.out (by simp)
    have hown3 := hown2.touch HT23.out (by simp)
    have hrow3 := hown3.row
    rw [hlti] at hrow3
    clear h3 t3 z3 hown2 HN2 HA2 HT2 HC2
    go_wp2_with fail
    refine (HGR.out _).mono ?_
    rintro e w4 ⟨rfl, rfl⟩
    go_wp2_with (at_builtin; refine wpList_app1 _ (by rfl) _ _ 199 (by rfl) 194 iU _ 2 Tryz.underlying199 hiU hzU hsU hbU rfl _ i _ (by rfl) hrow3 (.int .u16 n) 194 (by rfl) rfl (by unfold maxLen; omega) (by omega) ?_)
    intro vo w5 ho5 t5 hv5
    have hown5 : OwnU w1 w5 vo (ns.take (i + 1)) := by
     rw [htk]
     exact hown3.snoc HT3.out.size (by rw [hlti, List.map_take]; exact ho5) hv5
    have HT5 := Lib.hid (HT3.out.trans t5 (fun y hy => .inr (hown3.new y (by simpa using hy))))
    clear hv5 ho5 t5 hrow3
    go_wp2_with fail
    go_roundw
    case rel => exact ⟨i + 1, by omega, by go_num, hown5, HT5.out⟩
    case measure => simp [intOf]; omega
   ·have he : i = ns.length := by omega
    subst he
    rw [List.take_length] at hown
    go_wp2_with fail
    go_ret2
    exact ⟨_, rfl, hown.older t1.size, t1.trans ht (by simp)⟩
end Go.Proofs.YtiklhaajhdephaaGreatDoor

/-
 The contract of the reference's V6 at eight groups.
-/
namespace Go.Proofs.YtiklhaajhdephaaGreatDoor
open Go.RowKit
set_option linter.unusedVariables false
set_option linter.unusedSimpArgs false

set_option maxRecDepth 100000 in
set_option maxHeartbeats 4000000 in
theorem v6r_any (l : List Int) (hl : l.length = 8) (hr : ∀ x ∈ l, 0 ≤ x ∧ x ≤ 65535) (g c : Nat) (w : World) (hc : ∀ j x, l[j]? = some x → w.cell? ⟨g, j, none⟩ = some (.int .u16 x)) :
  Calls Tryz.prog 174 #[.slice (some ⟨g, 0, none⟩) 8 c] w fun e w' => e = .returned (.tuple #[.agg (adr true (v6b l 8)).toArray, .bool true]) ∧ Touch [] w w' := by
 have hgw : g < w.heap.size := by
  obtain ⟨x, hx⟩ : ∃ x, l[0]? = some x := ⟨_, List.getElem?_eq_getElem (by omega)⟩
  exact World.block_lt_of_cell? w _ (hc 0 x hx)
 go_enter Tryz.func174, Tryz.ntmps174
 go_wp2_with (refine wpList_store_new rfl 40 _ _ rfl _ _ (adr true (List.replicate 16 0)) rfl rfl rfl size31 (adr_one _ _) ?_)
 have t0 := ((Touch.refl [] w).alloc (.cells (adr false (List.replicate 16 0)).toArray 40)).alloc (.cells (adr true (List.replicate 16 0)).toArray 40)
 have g0 := heap_alloc2_new w (.cells (adr false (List.replicate 16 0)).toArray 40) (.cells (adr true (List.replicate 16 0)).toArray 40)
 have g1 := ((Touch.refl [] (w.alloc (.cells (adr false (List.replicate 16 0)).toArray 40))).alloc (.cells (adr true (List.replicate 16 0)).toArray 40)).at (heap_alloc_new w (.cells (adr false (List.replicate 16 0)).toArray 40)) (by simp)
 have HL := Lib.hid hl
 have HR := Lib.hid hr
 have H0 := Lib.hid (show ∃ (i : Nat), Value.int .i64 0 = .int .i64 i ∧ i ≤ 8 ∧ Touch [] w ((w.alloc (.cells (adr false (List.replicate 16 0)).toArray 40)).alloc (.cells (adr true (List.replicate 16 0)).toArray 40)) ∧ ((w.alloc (.cells (adr false (List.replicate 16 0)).toArray 40)).alloc (.cells (adr true (List.replicate 16 0)).toArray 40)).heap[w.heap.size + 1]? = some (.cells (adr true (v6b l i)).toArray 40 (0, 0)) ∧ ((w.alloc (.cells (adr false (List.replicate 16 0)).toArray 40)).alloc (.cells (adr true (List.replicate 16 0)).toArray 40)).heap[w.heap.size]? = some (.cells (adr false (List.replicate 16 0)).toArray 40 (0, 0)) from ⟨0, rfl, by omega, t0, g0, g1⟩)
 clear t0 g0 g1
 go_wp2_with fail
 go_loopw [5] (fun vi wr => ∃ (i : Nat), vi = .int .i64 i ∧ i ≤ 8 ∧ Touch [] w wr ∧ wr.heap[w.heap.size + 1]? = some (.cells (adr true (v6b l i)).toArray 40 (0, 0)) ∧ wr.heap[w.heap.size]? = some (.cells (adr false (List.replicate 16 0)).toArray 40 (0, 0))) (fun vi _ => 8 - (intOf vi).toNat)
 case atStart => exact H0.out
 case round =>
  obtain ⟨i, rfl, hi, ht, hg, hz⟩ := hrel
  have HT := Lib.hid ht
  have HG := Lib.hid hg
  have HZ := Lib.hid hz
  clear ht hg hz
  by_cases hi2 : i < 8
  ·have hx : l[i]? = some l[i] := List.getElem?_eq_getElem (by omega)
   have hxr := hr l[i] (List.getElem_mem _)
   have c0 := HT.out.cell (hc i l[i] hx) (by simp)
   have hvl := v6b_len l hl i (by omega)
   have hst := v6b_step l hl i l[i] hx
   have s1 := set_adr wr (w.heap.size + 1) (2 * i) 40 true (v6b l i) (hi8 l[i]) HG.out
   have s2 := set_adr _ (w.heap.size + 1) (2 * i + 1) 40 true _ (lo8 l[i]) s1
   obtain ⟨y1, hy1⟩ : ∃ y, (v6b l i)[2 * i]? = some y := ⟨_, List.getElem?_eq_getElem (by omega)⟩
   have hlt2 : 2 * i + 1 < ((v6b l i).set (2 * i) (hi8 l[i])).length := by simp only [List.length_set]; omega
   obtain ⟨y2, hy2⟩ : ∃ y, ((v6b l i).set (2 * i) (hi8 l[i]))[2 * i + 1]? = some y := ⟨_, List.getElem?_eq_getElem hlt2⟩
   have c1 := (adr_cell HG.out).2 (2 * i) y1 hy1
   have c2 := (adr_cell s1).2 (2 * i + 1) y2 hy2
   have f1 : wr.frozen? ⟨w.heap.size + 1, 1 + 2 * i, none⟩ = false := by simp [World.frozen?, HG.out]
   have f3 : (wr.setCell ⟨w.heap.size + 1, 1 + 2 * i, none⟩ (.int .u8 (hi8 l[i]))).frozen? ⟨w.heap.size + 1, 1 + (2 * i + 1), none⟩ = false := by simp only [World.frozen?, s1]; rfl
   rw [← hst] at s2
   have HS := Lib.hid s2
   generalize l[i] = x at *
   clear hy1 hy2 hlt2
   have hw1 : IntKind.i64.wrap (2 * (i : Int)) = 2 * (i : Int) := by rw [IntKind.wrap_i64] <;> omega
   have hw2 : IntKind.i64.wrap (2 * (i : Int) + 1) = 2 * (i : Int) + 1 := by rw [IntKind.wrap_i64] <;> omega
   obtain ⟨W, hW⟩ : ∃ W, W = wr.drew := ⟨_, rfl⟩
   have HST := Lib.hid hst
   have hh1 : IntKind.u8.wrap (x / 256) = hi8 x := by simp [IntKind.wrap, IntKind.signed, IntKind.bits, hi8]; omega
   have hh2 : IntKind.u8.wrap x = lo8 x := by simp [IntKind.wrap, IntKind.signed, IntKind.bits, lo8]
   clear hx s1 s2 hst
   go_wp2_with fail
   refine wp_region_held (S := Touch [w.heap.size + 1] W) (by kernel_rfl) ?_
   change wpAnyH _ _ _ _ _ _ _ _ wr.drew
   have c0 : W.cell? ⟨g, i, none⟩ = some (.int .u16 x) := by rw [hW]; exact c0
   have c1 : W.cell? ⟨w.heap.size + 1, 1 + 2 * i, none⟩ = some (.int .u8 y1) := by rw [hW]; exact c1
   have f1 : W.frozen? ⟨w.heap.size + 1, 1 + 2 * i, none⟩ = false := by rw [hW]; exact f1
   have F3 := Lib.hid (show (W.setCell ⟨w.heap.size + 1, 1 + 2 * i, none⟩ (.int .u8 (hi8 x))).frozen? ⟨w.heap.size + 1, 1 + (2 * i + 1), none⟩ = false by rw [hW]; exact f3)
   have C2 := Lib.hid (show (W.setCell ⟨w.heap.size + 1, 1 + 2 * i, none⟩ (.int .u8 (hi8 x))).cell? ⟨w.heap.size + 1, 1 + (2 * i + 1), none⟩ = some (.int .u8 y2) by rw [hW]; exact c2)
   have HSW := Lib.hid (show ((W.setCell ⟨w.heap.size + 1, 1 + 2 * i, none⟩ (.int .u8 (hi8 x))).setCell ⟨w.heap.size + 1, 1 + (2 * i + 1), none⟩ (.int .u8 (lo8 x))).heap[w.heap.size + 1]? = some (.cells (adr true (v6b l (i + 1))).toArray 40 (0, 0)) by rw [hW]; exact HS.out)
   have TW := Lib.hid (show Touch [] w W by rw [hW]; exact HT.out.drew)
   have ZW := Lib.hid (show W.heap[w.heap.size]? = some (.cells (adr false (List.replicate 16 0)).toArray 40 (0, 0)) by rw [hW]; exact HZ.out)
   rw [← hW]
   clear hW HS HT HZ
   have hS := Touch.refl [w.heap.size + 1] W
   refine tkH 0 (.int .i64 (i : Nat)) ?_
   refine tkH 1 (.int .i64 (2 * (i : Int))) ?_
   refine tkH 2 (.int .i64 (i : Nat)) ?_
   refine tkH 3 (.int .i64 (2 * (i : Int))) ?_
   refine tkH 4 (.int .i64 (2 * (i : Int) + 1)) ?_
   refine tkH 5 (.slice (some ⟨g, 0, none⟩) 8 c) ?_
   refine tkH 6 (.int .i64 (i : Nat)) ?_
   refine tkH 7 (.pointer (some ⟨g, i, none⟩)) ?_
   refine tkH 8 (.int .u16 x) ?_ (hy := Or.inl ⟨by rfl, fun w' hw => by (have q := hw.cell c0 (by simp; omega); go_simp)⟩)
   refine tkH 9 (.int .u16 (x / 256)) ?_
   refine tkH 10 (.int .u8 (hi8 x)) ?_
   refine tkH 11 (.slice (some ⟨g, 0, none⟩) 8 c) ?_
   refine tkH 12 (.int .i64 (i : Nat)) ?_
   refine tkH 13 (.pointer (some ⟨g, i, none⟩)) ?_
   refine tkH 14 (.int .u16 x) ?_ (hy := Or.inl ⟨by rfl, fun w' hw => by (have q := hw.cell c0 (by simp; omega); go_simp)⟩)
   refine tkH 15 (.int .u8 (lo8 x)) ?_
   refine tkH 16 (.pointer (some ⟨(w.heap.size + 1), 1, none⟩)) ?_
   refine tkH 17 (.pointer (some ⟨(w.heap.size + 1), 1 + 2 * i, none⟩)) ?_ (hy := Or.inl ⟨by rfl, fun w' hw => by (have hb : 0 ≤ 2 * (i : Int) ∧ 2 * (i : Int) < 16 := (by omega); have ht : (2 * (i : Int)).toNat = 2 * i := (by omega); go_simp)⟩)
   refine tkH 19 (.pointer (some ⟨(w.heap.size + 1), 1, none⟩)) ?_
   refine wpAnyH_ready (rs := [18]) (by kernel_rfl) (by simp) ?_
   refine cnH rfl (fun K hK => ?_) AllReadyH.nil
   go_simp
   refine hK.out _ _ (hS.setCell (p := ⟨w.heap.size + 1, 1 + 2 * i, none⟩) (by simp) _) (fun _ => ?_)
   clear hK K
   have hS := hS.setCell (p := ⟨w.heap.size + 1, 1 + 2 * i, none⟩) (by simp) (.int .u8 (hi8 x))
   have f3 := F3.out
   have c2 := C2.out
   try simp only [Act.put, sT, s0, sS]
   refine tkH 20 (.pointer (some ⟨(w.heap.size + 1), 1 + (2 * i + 1), none⟩)) ?_ (hy := Or.inl ⟨by rfl, fun w' hw => by (have hb : 0 ≤ 2 * (i : Int) + 1 ∧ 2 * (i : Int) + 1 < 16 := (by omega); have ht : (2 * (i : Int) + 1).toNat = 2 * i + 1 := (by omega); go_simp)⟩)
   refine wpAnyH_ready (rs := [21]) (by kernel_rfl) (by simp) ?_
   refine cnH rfl (fun K hK => ?_) AllReadyH.nil
   go_simp
   refine hK.out _ _ (hS.setCell (p := ⟨w.heap.size + 1, 1 + (2 * i + 1), none⟩) (by simp) _) (fun _ => ?_)
   clear hK K
   try simp only [Act.put, sT, s0, sS]
   refine wpAnyH_done (by kernel_rfl) ?_ _
   try simp only [Act.put, sT, s0, sS]
   go_wp2_with fail
   go_roundw
   case rel =>
    refine ⟨i + 1, by simp, by omega, ?_, HSW.out, ?_⟩
    ·exact (TW.out.setCell (p := ⟨w.heap.size + 1, _, none⟩) (by right; simp) _).setCell (p := ⟨w.heap.size + 1, _, none⟩) (by right; simp) _
    ·exact (((Touch.refl [w.heap.size + 1] W).setCell (p := ⟨w.heap.size + 1, 1 + 2 * i, none⟩) (by simp) (.int .u8 (hi8 x))).setCell (p := ⟨w.heap.size + 1, 1 + (2 * i + 1), none⟩) (by simp) (.int .u8 (lo8 x))).at ZW.out (by simp)
   case measure => simp [intOf]; omega
  ·have hie : i = 8 := by omega
   subst hie
   have hvl := v6b_len l hl 8 (by omega)
   generalize hys : v6b l 8 = ys at *
   have HYS := Lib.hid hys
   have r1 := range_block HG.out
   have hl17 : (adr true ys).length = 17 := by simp [adr, hvl]
   have HL17 := Lib.hid hl17
   clear hl17 hys
   go_wp2_with (first
    | ((with_reducible refine at_load 40 ?_); refine wpList_load_mid rfl 40 _ rfl (w.heap.size + 1) 0 rfl (adr true ys) _ r1 Tryz.underlying40 rfl (by rw [size31, HL17.out]) ?_)
    | ((with_reducible refine at_store 40 ?_); refine wpList_store_into rfl 40 _ _ rfl w.heap.size 40 _ (adr true ys) rfl rfl HZ.out (by rw [HL17.out]; rfl) (by rw [size31, HL17.out]) (adr_one _ _) ?_))
   intro w3 hg3 t3 hz3
   go_wp2_with fail
   exact ret_row_tmp rfl size31 Tryz.underlying40 rfl HL17.out rfl rfl hg3 ⟨by rw [HYS.out]; rfl, HT.out.trans t3 (by simp)⟩
end Go.Proofs.YtiklhaajhdephaaGreatDoor

/-
  Merged texts: Sf, Il.
-/
import Derived.Test.YtiklhaajhdephaaGreatDoorGB
import Derived.Test.YtiklhaajhdephaaGreatDoorGA
import Derived.Deep.AppendLies
import Derived.Deep.RegionLaw
import Derived.BigQuiet
import Derived.Deep.QuietTactic

/-
 The contracts of SplitFamilies, the program's and the reference's: two new slices, the addresses of each family in order.
-/
namespace Go.Proofs.YtiklhaajhdephaaGreatDoor
open Go.RowKit Go.Deep
set_option linter.unusedVariables false
set_option linter.unusedSimpArgs false

def flagv : List Value → Bool
 | .bool b :: _ => b
 | _ => false
theorem IsAd.flagv {x : List Value} (h : IsAd x) : x[0]? = some (.bool (flagv x)) := by
 obtain ⟨b, xs, rfl, _, _⟩ := h
 rfl
def fam (b : Bool) (xs : List (List Value)) : List (List Value) := xs.filter fun x => flagv x == b
theorem fam_step {b : Bool} {xs : List (List Value)} {i : Nat} {x : List Value} (hx : xs[i]? = some x) : fam b (xs.take (i + 1)) = fam b (xs.take i) ++ if flagv x == b then [x] else [] := by
 unfold fam
 rw [List.take_add_one, hx, Option.toList, List.filter_append]
 by_cases h : (flagv x == b) = true
 ·simp [h]
 ·simp only [Bool.not_eq_true] at h
  simp [h]
theorem fam_mem {b : Bool} {xs : List (List Value)} (h : ∀ x ∈ xs, IsAd x) : ∀ x ∈ fam b xs, IsAd x := fun x hx => h x (List.mem_filter.1 hx).1
theorem fam_le (b : Bool) (xs : List (List Value)) : (fam b xs).length ≤ xs.length := List.length_filter_le _ _

theorem Own.push {w wr w1 w2 : World} {vo vp vB : Value} {ys zs : List (List Value)} {x : List Value} (ho : Own w wr vo ys) (hp : Own w wr vp zs) (hd : ∀ g, vo.ownBlock = some g → vp.ownBlock ≠ some g)
  (ht : Touch [] w wr) (t1 : Touch [] wr w1) (ho2 : w2.ownsRow 0 40 17 vB (ys.length + 1) (ys.flatten ++ x)) (t2 : Touch vo.ownBlock.toList w1 w2) (hv : vB.ownBlock = vo.ownBlock ∨ vB.ownBlock = some (w1.heap.size + 1)) :
  Own w w2 vB (ys ++ [x]) ∧ Own w w2 vp zs ∧ (∀ g, vB.ownBlock = some g → vp.ownBlock ≠ some g) ∧ Touch [] w w2 := by
 have z1 := ht.size
 have z2 := t1.size
 refine ⟨⟨by rw [flatten_snoc, List.length_append]; exact ho2, ?_⟩, ?_, ?_, (ht.trans t1 (by simp)).trans t2 (fun g hg => .inr (ho.new g (by simpa using hg)))⟩
 ·intro g hg
  rcases hv with e | e
  ·rw [e] at hg; exact ho.new g hg
  ·rw [e] at hg; simp at hg; omega
 ·refine (hp.touch t1 (by simp)).touch t2 ?_
  intro g hg hm
  exact hd g (by simpa using hm) hg
 ·intro g hg hpg
  rcases hv with e | e
  ·rw [e] at hg; exact hd g hg hpg
  ·rw [e] at hg
   simp at hg
   have := hp.lt g hpg
   omega

set_option maxRecDepth 100000 in
set_option maxHeartbeats 4000000 in
theorem split9 (v : Value) (b : Nat) (xs : List (List Value)) (w : World) (hl : xs.length ≤ 1000000) (hv : Rd w 17 b v xs) (hxs : ∀ x ∈ xs, IsAd x) :
  Calls Tryz.prog 119 #[v] w fun e w' => ∃ v4 v6, e = .returned (.tuple #[v4, v6]) ∧ Own w w' v4 (fam false xs) ∧ Own w w' v6 (fam true xs) ∧ (∀ g, v4.ownBlock = some g → v6.ownBlock ≠ some g) ∧ Touch [] w w' := by
 obtain ⟨i40, hi40, hz40, hs40, hb40⟩ := info_parts info40
 obtain ⟨a, cap, rfl, hlc, hcm⟩ := hv.form
 have hcm2 : cap ≤ 9223372036854775807 := by unfold maxLen at hcm; omega
 go_enter Tryz.func119, Tryz.ntmps119
 go_wp2_with fail
 go_loopw [4, 5, 6] (fun v4 v6 vi wr => ∃ (i : Nat), i ≤ xs.length ∧ vi = .int .i64 i ∧ Own w wr v4 (fam false (xs.take i)) ∧ Own w wr v6 (fam true (xs.take i)) ∧ (∀ g, v4.ownBlock = some g → v6.ownBlock ≠ some g) ∧ Touch [] w wr)
  (fun _ _ vi _ => xs.length - (intOf vi).toNat)
 case atStart => exact ⟨0, by omega, rfl, by simpa [fam] using Own.nil _ _, by simpa [fam] using Own.nil _ _, by simp [Value.ownBlock], Touch.refl _ _⟩
 case round =>
  obtain ⟨i, hix, rfl, ho4, ho6, hd, ht⟩ := hrel
  have hd' : ∀ g, u5.ownBlock = some g → u4.ownBlock ≠ some g := fun g h1 h2 => hd g h2 h1
  have L4 := fam_le false (xs.take i)
  have L6 := fam_le true (xs.take i)
  rw [List.length_take] at L4 L6
  by_cases hlt : i < xs.length
  ·obtain ⟨off, rfl, hat⟩ := hv.at (by intro e; subst e; simp at hlt)
   have hx : xs[i]? = some xs[i] := List.getElem?_eq_getElem hlt
   have hadx := hxs _ (List.getElem_mem hlt)
   have S4 := fam_step (b := false) hx
   have S6 := fam_step (b := true) hx
   generalize xs[i] = x at hx hadx S4 S6
   have hrg := ht.range (hat i x hx) (by simp)
   have hfl := hrg 0 _ hadx.flagv
   rw [Nat.add_zero] at hfl
   cases hf : flagv x
   ·have hrow := ho4.row
    rw [hf] at hfl S4 S6
    simp at S4 S6
    clear hat
    go_wp2_with (first
     | (refine wpList_load_mid rfl 40 _ rfl b (off + i * 17) rfl x _ hrg Tryz.underlying40 rfl (by rw [size31, hadx.len]) ?_)
     | (refine wpList_buildSlice_rows rfl 35 1 _ rfl 40 17 i40 _ Tryz.underlying35 hi40 hz40 hs40 (by omega) [x] rfl (by simp [hadx.len]) (by omega) (by rfl) ?_)
     | (at_builtin; refine wpList_app_rec _ (by rfl) _ _ 35 (by rfl) 40 i40 _ 17 17 Tryz.underlying35 hi40 hz40 hs40 hb40 rfl (by omega) _ (fam false (xs.take i)).length _ (by rfl) hrow ([x].flatten) 40 (by rfl) (by simp [hadx.len]) (by simpa using hadx.one) (by unfold maxLen; omega) (by omega) ?_))
    intro vo w2 ho2 t2 hv2
    obtain ⟨p1, p2, p3, p4⟩ := ho4.push ho6 hd ht (Touch.refl _ _) ho2 t2 hv2
    clear hv2 ho2 t2 hrow hrg
    go_wp2_with fail
    go_roundw
    case rel => exact ⟨i + 1, by omega, by go_num, by rw [S4]; exact p1, by rw [S6]; exact p2, p3, p4⟩
    case measure => simp [intOf]; omega
   ·have hrow := ho6.row
    rw [hf] at hfl S4 S6
    simp at S4 S6
    clear hat
    go_wp2_with (first
     | (refine wpList_load_mid rfl 40 _ rfl b (off + i * 17) rfl x _ hrg Tryz.underlying40 rfl (by rw [size31, hadx.len]) ?_)
     | (refine wpList_buildSlice_rows rfl 35 1 _ rfl 40 17 i40 _ Tryz.underlying35 hi40 hz40 hs40 (by omega) [x] rfl (by simp [hadx.len]) (by omega) (by rfl) ?_)
     | (at_builtin; refine wpList_app_rec _ (by rfl) _ _ 35 (by rfl) 40 i40 _ 17 17 Tryz.underlying35 hi40 hz40 hs40 hb40 rfl (by omega) _ (fam true (xs.take i)).length _ (by rfl) hrow ([x].flatten) 40 (by rfl) (by simp [hadx.len]) (by simpa using hadx.one) (by unfold maxLen; omega) (by omega) ?_))
    intro vo w2 ho2 t2 hv2
    obtain ⟨p1, p2, p3, p4⟩ := ho6.push ho4 hd' ht (Touch.refl _ _) ho2 t2 hv2
    clear hv2 ho2 t2 hrow hrg
    go_wp2_with fail
    go_roundw
    case rel => exact ⟨i + 1, by omega, by go_num, by rw [S4]; exact p2, by rw [S6]; exact p1, fun g h1 h2 => p3 g h2 h1, p4⟩
    case measure => simp [intOf]; omega
  ·obtain rfl : i = xs.length := by omega
   rw [List.take_length] at ho4 ho6
   go_wp2_with fail
   go_ret2
   exact ⟨_, _, rfl, ho4, ho6, hd, ht⟩
set_option maxRecDepth 100000 in
set_option maxHeartbeats 4000000 in
theorem split8 (v : Value) (b : Nat) (xs : List (List Value)) (w : World) (hl : xs.length ≤ 1000000) (hv : Rd w 17 b v xs) (hxs : ∀ x ∈ xs, IsAd x) :
  Calls Tryz.prog 127 #[v] w fun e w' => ∃ v4 v6, e = .returned (.tuple #[v4, v6]) ∧ Own w w' v4 (fam false xs) ∧ Own w w' v6 (fam true xs) ∧ (∀ g, v4.ownBlock = some g → v6.ownBlock ≠ some g) ∧ Touch [] w w' := by
 obtain ⟨i40, hi40, hz40, hs40, hb40⟩ := info_parts info40
 obtain ⟨a, cap, rfl, hlc, hcm⟩ := hv.form
 have hcm2 : cap ≤ 9223372036854775807 := by unfold maxLen at hcm; omega
 go_enter Tryz.func127, Tryz.ntmps127
 go_wp2_with fail
 go_loopw [4, 5, 10] (fun v4 v6 vi wr => ∃ (i : Nat), i ≤ xs.length ∧ vi = .int .i64 i ∧ Own w wr v4 (fam false (xs.take i)) ∧ Own w wr v6 (fam true (xs.take i)) ∧ (∀ g, v4.ownBlock = some g → v6.ownBlock ≠ some g) ∧ Touch [] w wr)
  (fun _ _ vi _ => xs.length - (intOf vi).toNat)
 case atStart => exact ⟨0, by omega, rfl, by simpa [fam] using Own.nil _ _, by simpa [fam] using Own.nil _ _, by simp [Value.ownBlock], Touch.refl _ _⟩
 case round =>
  obtain ⟨i, hix, rfl, ho4, ho6, hd, ht⟩ := hrel
  have hd' : ∀ g, u5.ownBlock = some g → u4.ownBlock ≠ some g := fun g h1 h2 => hd g h2 h1
  have L4 := fam_le false (xs.take i)
  have L6 := fam_le true (xs.take i)
  rw [List.length_take] at L4 L6
  by_cases hlt : i < xs.length
  ·obtain ⟨off, rfl, hat⟩ := hv.at (by intro e; subst e; simp at hlt)
   have hx : xs[i]? = some xs[i] := List.getElem?_eq_getElem hlt
   have hadx := hxs _ (List.getElem_mem hlt)
   have S4 := fam_step (b := false) hx
   have S6 := fam_step (b := true) hx
   generalize xs[i] = x at hx hadx S4 S6
   have hrg := ht.range (hat i x hx) (by simp)
   have hnw := range_new wr x 40
   have hfl := hadx.flagv
   cases hf : flagv x
   ·have hrow := (ho4.touch ((Touch.refl [] wr).alloc (.cells x.toArray 40)) (by simp)).row
    rw [hf] at hfl S4 S6
    simp at S4 S6
    clear hat
    go_wp2_with (first
     | (refine wpList_load_mid rfl 40 _ rfl b (off + i * 17) rfl x _ hrg Tryz.underlying40 rfl (by rw [size31, hadx.len]) ?_)
     | (refine wpList_store_new rfl 40 _ _ rfl _ 40 x (by rfl) (by rfl) (by rw [hadx.len]; rfl) (by rw [size31, hadx.len]) hadx.one ?_)
     | (refine wpList_load_mid rfl 40 _ rfl wr.heap.size 0 rfl x _ hnw Tryz.underlying40 rfl (by rw [size31, hadx.len]) ?_)
     | (refine wpList_buildSlice_rows rfl 35 1 _ rfl 40 17 i40 _ Tryz.underlying35 hi40 hz40 hs40 (by omega) [x] rfl (by simp [hadx.len]) (by omega) (by rfl) ?_)
     | (at_builtin; refine wpList_app_rec _ (by rfl) _ _ 35 (by rfl) 40 i40 _ 17 17 Tryz.underlying35 hi40 hz40 hs40 hb40 rfl (by omega) _ (fam false (xs.take i)).length _ (by rfl) hrow ([x].flatten) 40 (by rfl) (by simp [hadx.len]) (by simpa using hadx.one) (by unfold maxLen; omega) (by omega) ?_))
    intro vo w2 ho2 t2 hv2
    obtain ⟨p1, p2, p3, p4⟩ := ho4.push ho6 hd ht ((Touch.refl [] wr).alloc _) ho2 t2 (by simpa using hv2)
    clear hv2 ho2 t2 hrow hrg
    go_wp2_with fail
    go_roundw
    case rel => exact ⟨i + 1, by omega, by go_num, by rw [S4]; exact p1, by rw [S6]; exact p2, p3, p4⟩
    case measure => simp [intOf]; omega
   ·have hrow := (ho6.touch ((Touch.refl [] wr).alloc (.cells x.toArray 40)) (by simp)).row
    rw [hf] at hfl S4 S6
    simp at S4 S6
    clear hat
    go_wp2_with (first
     | (refine wpList_load_mid rfl 40 _ rfl b (off + i * 17) rfl x _ hrg Tryz.underlying40 rfl (by rw [size31, hadx.len]) ?_)
     | (refine wpList_store_new rfl 40 _ _ rfl _ 40 x (by rfl) (by rfl) (by rw [hadx.len]; rfl) (by rw [size31, hadx.len]) hadx.one ?_)
     | (refine wpList_load_mid rfl 40 _ rfl wr.heap.size 0 rfl x _ hnw Tryz.underlying40 rfl (by rw [size31, hadx.len]) ?_)
     | (refine wpList_buildSlice_rows rfl 35 1 _ rfl 40 17 i40 _ Tryz.underlying35 hi40 hz40 hs40 (by omega) [x] rfl (by simp [hadx.len]) (by omega) (by rfl) ?_)
     | (at_builtin; refine wpList_app_rec _ (by rfl) _ _ 35 (by rfl) 40 i40 _ 17 17 Tryz.underlying35 hi40 hz40 hs40 hb40 rfl (by omega) _ (fam true (xs.take i)).length _ (by rfl) hrow ([x].flatten) 40 (by rfl) (by simp [hadx.len]) (by simpa using hadx.one) (by unfold maxLen; omega) (by omega) ?_))
    intro vo w2 ho2 t2 hv2
    obtain ⟨p1, p2, p3, p4⟩ := ho6.push ho4 hd' ht ((Touch.refl [] wr).alloc _) ho2 t2 (by simpa using hv2)
    clear hv2 ho2 t2 hrow hrg
    go_wp2_with fail
    go_roundw
    case rel => exact ⟨i + 1, by omega, by go_num, by rw [S4]; exact p2, by rw [S6]; exact p1, fun g h1 h2 => p3 g h2 h1, p4⟩
    case measure => simp [intOf]; omega
  ·obtain rfl : i = xs.length := by omega
   rw [List.take_length] at ho4 ho6
   go_wp2_with fail
   go_ret2
   exact ⟨_, _, rfl, ho4, ho6, hd, ht⟩
end Go.Proofs.YtiklhaajhdephaaGreatDoor

/-
 The contracts of Clamp and of Interleave, the program's and the reference's: the same list, in a new slice.
-/
namespace Go.Proofs.YtiklhaajhdephaaGreatDoor
open Go.RowKit Go.Deep
set_option linter.unusedVariables false
set_option linter.unusedSimpArgs false

def cl (v : Int) : Int := if v < 1 then 1 else if 8 < v then 8 else v
theorem cl_lo (v : Int) : 1 ≤ cl v := by unfold cl; split; omega; split <;> omega
theorem clamp_any (v : Int) (w : World) : Calls Tryz.prog 120 #[.int .i64 v, .int .i64 1, .int .i64 8] w fun e w' => e = .returned (.int .i64 (cl v)) ∧ w = w' := by
 rcases Int.lt_or_le v 1 with h | h
 ·have e : cl v = 1 := by unfold cl; rw [if_pos h]
  rw [e]
  go_enter Tryz.func120, Tryz.ntmps120
  go_wp2
  all_goals first | (exfalso; omega) | skip
  all_goals go_ret
  all_goals exact ⟨rfl, rfl⟩
 ·rcases Int.lt_or_le 8 v with h8 | h8
  ·have e : cl v = 8 := by unfold cl; rw [if_neg (by omega), if_pos h8]
   rw [e]
   go_enter Tryz.func120, Tryz.ntmps120
   go_wp2
   all_goals first | (exfalso; omega) | skip
   all_goals go_ret
   all_goals exact ⟨rfl, rfl⟩
  ·have e : cl v = v := by unfold cl; rw [if_neg (by omega), if_neg (by omega)]
   rw [e]
   go_enter Tryz.func120, Tryz.ntmps120
   go_wp2
   all_goals first | (exfalso; omega) | skip
   all_goals go_ret
   all_goals exact ⟨rfl, rfl⟩

def zipR {α : Type} : List α → List α → List α
 | o :: os, l :: ls => o :: l :: zipR os ls
 | [], ls => ls
 | os, [] => os
theorem zipR_nil {α : Type} {os ls : List α} (h : os = [] ∨ ls = []) : zipR os ls = ls ++ os := by
 rcases h with rfl | rfl
 ·cases ls <;> simp [zipR]
 ·cases os <;> simp [zipR]
/-- How many of the leading family come first. -/
def leadI (first : Int) (k : Nat) : Nat := min (cl first).toNat k
theorem leadI_pos (first : Int) (k : Nat) (hk : 0 < k) : 0 < leadI first k := by have := cl_lo first; unfold leadI; omega
theorem leadI_le (first : Int) (k : Nat) : leadI first k ≤ k := by unfold leadI; omega
theorem leadI_val (first : Int) (k : Nat) : (if (k : Int) < cl first then (k : Int) else cl first) = (leadI first k : Int) := by have := cl_lo first; unfold leadI; split <;> omega
def inter (xs : List (List Value)) (first : Int) (v6 : Bool) : List (List Value) :=
 let ls := fam v6 xs
 let os := fam (!v6) xs
 if ls = [] then os else ls.take (leadI first ls.length) ++ zipR os (ls.drop (leadI first ls.length))

theorem Rd.far {S : List Nat} {w w' : World} {k b : Nat} {v : Value} {xs : List (List Value)} (h : Rd w k b v xs) (t : Touch S w w') (hb : xs ≠ [] → b ∉ S) : Rd w' k b v xs := by
 obtain ⟨a, cap, hv, h1, h2, h3, h4⟩ := h
 refine ⟨a, cap, hv, h1, h2, h3, fun hne => ?_⟩
 obtain ⟨off, ha, hr⟩ := h4 hne
 exact ⟨off, ha, fun i x hx => t.range (hr i x hx) (hb hne)⟩
theorem Own.rd {w0 w : World} {v : Value} {xs : List (List Value)} (h : Own w0 w v xs) (hx : ∀ x ∈ xs, IsAd x) : ∃ b, Rd w 17 b v xs ∧ (xs ≠ [] → v.ownBlock = some b) := by
 cases hb : v.ownBlock with
 | none => 
  refine ⟨0, Rd.of_owns (ads_len hx) h.row (by simp [hb]), fun hne => ?_⟩
  obtain ⟨a, c, rfl, _, _, h3⟩ := owns_form h.row
  obtain ⟨g, rfl⟩ := h3 (List.length_pos_iff.2 hne)
  simp [Value.ownBlock] at hb
 | some b => exact ⟨b, Rd.of_owns (ads_len hx) h.row (by simp [hb]), fun _ => rfl⟩

theorem fam_all {b : Bool} {xs : List (List Value)} (h : fam b xs = []) : fam (!b) xs = xs := by
 unfold fam at h ⊢
 rw [List.filter_eq_nil_iff] at h
 rw [List.filter_eq_self]
 intro x hx
 have := h x hx
 cases b <;> cases hf : flagv x <;> simp_all

theorem Rd.lt {w : World} {b : Nat} {v : Value} {xs : List (List Value)} (h : Rd w 17 b v xs) (hx : ∀ x ∈ xs, IsAd x) (hne : xs ≠ []) : b < w.heap.size := by
 obtain ⟨a, cap, hv, h1, h2, h3, h4⟩ := h
 obtain ⟨off, ha, hr⟩ := h4 hne
 cases xs with
 | nil => exact absurd rfl hne
 | cons x xs =>
  have := hr 0 x rfl 0 _ (hx x List.mem_cons_self).flagv
  exact World.block_lt_of_cell? w _ this
/-- What Interleave holds: the two rests, and the list that is being made, in a block of its own. -/
structure St (w wr : World) (vo vl vout : Value) (bo bl : Nat) (os ls acc : List (List Value)) : Prop where
 o : Rd wr 17 bo vo os
 l : Rd wr 17 bl vl ls
 out : Own w wr vout acc
 fo : os ≠ [] → vout.ownBlock ≠ some bo
 fl : ls ≠ [] → vout.ownBlock ≠ some bl
 t : Touch [] w wr
 ao : ∀ x ∈ os, IsAd x
 al : ∀ x ∈ ls, IsAd x
theorem St.app {w wr w2 : World} {vo vl vout v' : Value} {bo bl s : Nat} {os ls acc news : List (List Value)} (h : St w wr vo vl vout bo bl os ls acc)
  (ho : w2.ownsRow 0 40 17 v' (acc.length + news.length) (acc.flatten ++ news.flatten)) (t : Touch vout.ownBlock.toList wr w2) (hv : v'.ownBlock = vout.ownBlock ∨ v'.ownBlock = some s) (hs : wr.heap.size ≤ s) : St w w2 vo vl v' bo bl os ls (acc ++ news) := by
 have z := h.t.size
 refine ⟨h.o.far t fun hne hm => h.fo hne (by simpa using hm), h.l.far t fun hne hm => h.fl hne (by simpa using hm), ⟨by rw [List.flatten_append, List.length_append]; exact ho, ?_⟩, ?_, ?_, h.t.trans t (fun g hg => .inr (h.out.new g (by simpa using hg))), h.ao, h.al⟩
 ·intro g hg
  rcases hv with e | e
  ·rw [e] at hg; exact h.out.new g hg
  ·rw [e] at hg; simp at hg; omega
 ·intro hne
  rcases hv with e | e
  ·rw [e]; exact h.fo hne
  ·rw [e]
   have := h.o.lt h.ao hne
   intro e2
   simp at e2
   omega
 ·intro hne
  rcases hv with e | e
  ·rw [e]; exact h.fl hne
  ·rw [e]
   have := h.l.lt h.al hne
   intro e2
   simp at e2
   omega
theorem St.drews {w wr : World} {vo vl vout : Value} {bo bl : Nat} {os ls acc : List (List Value)} (h : St w wr vo vl vout bo bl os ls acc) (n : Nat) : St w (wr.drewN n) vo vl vout bo bl os ls acc :=
 ⟨h.o, h.l, ⟨h.out.row, h.out.new⟩, h.fo, h.fl, ⟨h.t.os, h.t.tape, h.t.output, h.t.size, h.t.block⟩, h.ao, h.al⟩
theorem St.drew {w wr : World} {vo vl vout : Value} {bo bl : Nat} {os ls acc : List (List Value)} (h : St w wr vo vl vout bo bl os ls acc) : St w wr.drew vo vl vout bo bl os ls acc := h.drews 1
/-- Ahead of the loop. -/
theorem St.start {w w1 : World} {vo vl : Value} {os ls : List (List Value)} (hao : ∀ x ∈ os, IsAd x) (hal : ∀ x ∈ ls, IsAd x) (hoo : Own w w1 vo os) (hol : Own w w1 vl ls) (t : Touch [] w w1) :
  ∃ bo bl, St w w1 vo vl (.slice none 0 0) bo bl os ls [] := by
 obtain ⟨bo, ho, _⟩ := hoo.rd hao
 obtain ⟨bl, hl, _⟩ := hol.rd hal
 exact ⟨bo, bl, ho, hl, Own.nil _ _, by simp [Value.ownBlock], by simp [Value.ownBlock], t, hao, hal⟩
theorem St.dropl {w wr : World} {vo vout : Value} {a : Option Addr} {k c : Nat} {bo bl : Nat} {os ls acc : List (List Value)} (h : St w wr vo (.slice a k c) vout bo bl os ls acc) (i : Nat) (hi : i ≤ ls.length) :
  St w wr vo (cutv a k c i 17) vout bo bl os (ls.drop i) acc := by
 exact ⟨h.o, Rd.drop (P := Tryz.prog) (T := 0) (e := 0) h.l i hi, h.out, h.fo, fun hne => h.fl (by intro e; subst e; simp at hne), h.t, h.ao, fun x hx => h.al x (List.mem_of_mem_drop hx)⟩
theorem St.dropo {w wr : World} {vl vout : Value} {a : Option Addr} {k c : Nat} {bo bl : Nat} {os ls acc : List (List Value)} (h : St w wr (.slice a k c) vl vout bo bl os ls acc) (i : Nat) (hi : i ≤ os.length) :
  St w wr (cutv a k c i 17) vl vout bo bl (os.drop i) ls acc := by
 exact ⟨Rd.drop (P := Tryz.prog) (T := 0) (e := 0) h.o i hi, h.l, h.out, fun hne => h.fo (by intro e; subst e; simp at hne), h.fl, h.t, fun x hx => h.ao x (List.mem_of_mem_drop hx), h.al⟩
theorem Own.fresh {w w1 w2 : World} {v : Value} {xs : List (List Value)} (t1 : Touch [] w w1) (ho : w2.ownsRow 0 40 17 v xs.length xs.flatten) (hv : v.ownBlock = (Value.slice none 0 0).ownBlock ∨ v.ownBlock = some w1.heap.size) : Own w w2 v xs := by
 refine ⟨ho, fun g hg => ?_⟩
 have := t1.size
 rcases hv with e | e
 ·rw [e] at hg; simp [Value.ownBlock] at hg
 ·rw [e] at hg; simp at hg; omega
def lenOf : Value → Nat
 | .slice _ n _ => n
 | _ => 0

set_option maxRecDepth 100000 in
set_option maxHeartbeats 1000000 in
theorem inter14 (v : Value) (b : Nat) (first : Int) (v6 : Bool) (xs : List (List Value)) (w : World) (hl : xs.length ≤ 1000000) (hv : Rd w 17 b v xs) (hxs : ∀ x ∈ xs, IsAd x) :
  Calls Tryz.prog 99 #[v, .int .i64 first, .bool v6] w fun e w' => ∃ v', e = .returned v' ∧ Own w w' v' (inter xs first v6) ∧ Touch [] w w' := by
 obtain ⟨i40, hi40, hz40, hs40, hb40⟩ := info_parts info40
 obtain ⟨a, cap, rfl, hlc, hcm⟩ := hv.form
 have hcm2 : cap ≤ 9223372036854775807 := by unfold maxLen at hcm; omega
 cases v6
 ·go_enter Tryz.func99, Tryz.ntmps99
  go_wp2_with fail
  refine (split9 _ b xs _ hl hv hxs).mono ?_
  rintro e w1 ⟨vl, vo, rfl, hol, hoo, hd, t1⟩
  obtain ⟨al, kl, rfl, hll, hlm, hal⟩ := owns_form hol.row
  obtain ⟨ao, ko, rfl, hlo, hom, _⟩ := owns_form hoo.row
  have LL := fam_le false xs
  have LO := fam_le true xs
  by_cases hz : fam false xs = []
  ·have hz0 : (fam false xs).length = 0 := by rw [hz]; rfl
   have hI : inter xs first false = xs := by unfold inter; rw [if_pos hz]; exact fam_all hz
   have hw1 : Rd w1 17 b (.slice a xs.length cap) xs := hv.touch t1 (by simp)
   obtain ⟨hn1, hn2⟩ := hw1.news (by omega) (ads_len hxs)
   have HI := Lib.hid hI
   clear hz hI
   go_wp2_with (at_builtin; refine wpList_app _ (by rfl) _ _ 35 (by rfl) 40 i40 _ 17 17 Tryz.underlying35 hi40 hz40 hs40 hb40 rfl (by omega) _ 0 [] (by rfl) (Own.nil w w1).row a xs.length cap xs.flatten (by rfl) (flat_len (ads_len hxs)) hn1 hn2 (ads_one hxs) (by unfold maxLen; omega) (by omega) ?_)
   intro vr w2 ho2 t2 hv2
   go_wp2_with fail
   go_ret
   exact ⟨_, rfl, by rw [HI.out]; exact Own.fresh t1 (by simpa using ho2) hv2, t1.trans t2 (by simp [Value.ownBlock])⟩
  ·have hz0 : 0 < (fam false xs).length := List.length_pos_iff.2 hz
   obtain ⟨gl, rfl⟩ := hal hz0
   clear hal
   have hnv := leadI_val first (fam false xs).length
   have hn0 := leadI_pos first _ hz0
   have hn1 := leadI_le first (fam false xs).length
   have HI := Lib.hid (show inter xs first false = _ from if_neg hz)
   generalize leadI first (fam false xs).length = n at hnv hn0 hn1 HI
   go_wp2_with fail
   refine (clamp_any _ _).mono ?_
   rintro e w' ⟨rfl, rfl⟩
   obtain ⟨bo, bl, hst⟩ := St.start (fam_mem hxs) (fam_mem hxs) hoo hol t1
   have htk : ∀ x ∈ (fam false xs).take n, IsAd x := fun x hx => fam_mem hxs x (List.mem_of_mem_take hx)
   obtain ⟨hn2, hn3⟩ := (Rd.take hst.l n hn1).news (by omega) (ads_len htk)
   have hlt : ((fam false xs).take n).length = n := by rw [List.length_take]; omega
   have HLT := Lib.hid hlt
   clear hlt
   go_wp2_with (at_builtin; refine wpList_app _ (by rfl) _ _ 35 (by rfl) 40 i40 _ 17 17 Tryz.underlying35 hi40 hz40 hs40 hb40 rfl (by omega) _ 0 [] (by rfl) (Own.nil w w1).row _ n _ ((fam false xs).take n).flatten (by rfl) (by rw [flat_len (ads_len htk), HLT.out]) hn2 hn3 (ads_one htk) (by unfold maxLen; omega) (by omega) ?_)
   intro vout w2 ho2 t2 hv2
   have hst2 := hst.app (news := (fam false xs).take n) (by rw [HLT.out]; simpa using ho2) t2 hv2 (Nat.le_refl _)
   clear hst ho2 t2 hv2 hn2 hn3 hol hoo hd hv
   have hst3 := hst2.dropl n hn1
   clear hst2
   have HL := Lib.hid (show inter xs first false = (fam false xs).take n ++ zipR (fam true xs) ((fam false xs).drop n) from HI.out)
   have hsum : (fam true xs).length + ((fam false xs).drop n).length + ([] ++ (fam false xs).take n).length ≤ 2000000 := by rw [List.nil_append, HLT.out, List.length_drop]; omega
   rw [List.nil_append] at hst3 hsum
   go_wp2_with (refine wpList_from rfl 35 _ _ rfl 40 17 Tryz.underlying35 size31 (some ⟨gl, 0, none⟩) (fam false xs).length kl n rfl rfl hn1 ?_)
   go_loopw [7, 8, 10] (fun vo vl vout wr => ∃ os ls acc, St w wr vo vl vout bo bl os ls acc ∧ os.length + ls.length + acc.length ≤ 2000000 ∧ acc ++ zipR os ls = inter xs first false)
    (fun vo _ _ _ => lenOf vo)
   case atStart => exact ⟨_, _, _, hst3, hsum, HL.out.symm⟩
   case round =>
    obtain ⟨os, ls, acc, hst, hsm, heq⟩ := hrel
    have HEQ := Lib.hid heq
    clear heq
    obtain ⟨a7, c7, rfl, h71, h72⟩ := hst.o.form
    obtain ⟨a8, c8, rfl, h81, h82⟩ := hst.l.form
    by_cases hne : os ≠ [] ∧ ls ≠ []
    ·obtain ⟨hno, hnl⟩ := hne
     cases os with
     | nil => exact absurd rfl hno
     | cons o os =>
     cases ls with
     | nil => exact absurd rfl hnl
     | cons l ls =>
     obtain ⟨o7, rfl, hat7⟩ := hst.o.at hno
     obtain ⟨o8, rfl, hat8⟩ := hst.l.at hnl
     have hro := hat7 0 o rfl
     have hrl := hat8 0 l rfl
     have hado := hst.ao o List.mem_cons_self
     have hadl := hst.al l List.mem_cons_self
     have hrow := hst.drew.out.row
     have HEQ2 := Lib.hid (show (acc ++ [o, l]) ++ zipR os ls = inter xs first false by rw [← HEQ.out, List.append_assoc]; rfl)
     clear HEQ hat7 hat8
     simp only [Nat.zero_mul, Nat.add_zero, List.length_cons] at *
     have hstD := hst.drew
     have hS : wr.drew.rangeAt bo o7 o ∧ wr.drew.rangeAt bl o8 l := ⟨hro, hrl⟩
     go_wp2_with fail
     refine wp_region_held (S := fun w' => w'.rangeAt bo o7 o ∧ w'.rangeAt bl o8 l) (by kernel_rfl) ?_
     change wpAnyH _ _ _ _ _ _ _ _ wr.drew
     refine tkH 0 (?_) ?_ (hy := Or.inl ⟨by rfl, fun _ _ => by rfl⟩)
     refine tkH 1 (?_) ?_ (hy := Or.inl ⟨by rfl, fun _ _ => by rfl⟩)
     refine tkH 2 (.pointer (some ⟨bo, o7, none⟩)) ?_ (hy := Or.inl ⟨by rfl, fun w' _ => by go_simp⟩)
     refine tkH 3 (.agg o.toArray) ?_ (hy := yieldsIf_load_mid (by rfl) 40 _ rfl bo o7 rfl o _ (fun w' h => h.1) Tryz.underlying40 rfl (by rw [size31, hado.len]))
     refine tkH 4 (?_) ?_ (hy := Or.inl ⟨by rfl, fun _ _ => by rfl⟩)
     refine tkH 5 (.pointer (some ⟨bl, o8, none⟩)) ?_ (hy := Or.inl ⟨by rfl, fun w' _ => by go_simp⟩)
     refine tkH 6 (.agg l.toArray) ?_ (hy := yieldsIf_load_mid (by rfl) 40 _ rfl bl o8 rfl l _ (fun w' h => h.2) Tryz.underlying40 rfl (by rw [size31, hadl.len]))
     refine wpAnyH_ready (rs := [7]) (by kernel_rfl) (by simp) ?_
     refine cnH rfl (fun K hK => ?_) AllReadyH.nil
     refine step_of_list rfl ?_
     refine wpList_buildSlice_rows rfl 35 2 _ rfl 40 17 i40 _ Tryz.underlying35 hi40 hz40 hs40 (by omega) [o, l] rfl (by simp [hado.len, hadl.len]) (by omega) (by rfl) ?_
     have tA := (Touch.refl [] wr.drew).alloc (.cells [o, l].flatten.toArray 40)
     have hrow2 := (hstD.out.touch tA (by simp)).row
     refine ⟨rfl, hK.out _ _ ⟨tA.range hS.1 (by simp), tA.range hS.2 (by simp)⟩ (fun hS2 => ?_)⟩
     clear hK K
     simp only [Act.put, List.setIfInBounds_toArray, List.set_cons_zero, List.set_cons_succ]
     refine wpAnyH_ready (rs := [8]) (by kernel_rfl) (by simp) ?_
     refine cnH rfl (fun K hK => ?_) AllReadyH.nil
     refine step_app _ (by rfl) (.tmp 45) (.tmp 52) 35 (by rfl) 40 i40 _ 17 17 Tryz.underlying35 hi40 hz40 hs40 hb40 rfl (by omega) _ acc.length _ (by rfl) hrow2 (some ⟨wr.drew.heap.size, 0, none⟩) 2 2 ([o, l].flatten) (by rfl) (by simp [hado.len, hadl.len]) (by intro h; cases h) (fun ad e => by cases e; intro j u hu; exact World.news_of_block (heap_alloc_new wr.drew _) j u (by simpa using hu)) (by intro u hu; simp only [List.flatten_cons, List.flatten_nil, List.append_nil, List.mem_append] at hu; rcases hu with h | h; exact hado.one u h; exact hadl.one u h) (by unfold maxLen; omega) (by omega) ?_
     intro vout w3 ho3 t3 hv3
     have hst3 := hstD.app (w2 := w3) (news := [o, l]) ho3 ((Touch.mono tA (by simp)).trans t3 (fun x hx => .inl hx)) hv3 (by simp)
     have hS3 : w3.rangeAt bo o7 o ∧ w3.rangeAt bl o8 l := ⟨t3.range hS2.1 (fun hm => hst.fo hno (by simpa using hm)), t3.range hS2.2 (fun hm => hst.fl hnl (by simpa using hm))⟩
     refine hK.out _ _ hS3 (fun _ => ?_)
     clear hK K ho3 t3 hv3 hrow2 hstD hS2 tA hS hro hrl hrow
     simp only [Act.put, List.setIfInBounds_toArray, List.set_cons_zero, List.set_cons_succ]
     refine wpAnyH_take (i := 9) (oi := { dst := some 10, op := Op.assign (Operand.tmp 53), type := 35, pos := "ref.go:146", after := #[{ on := 8, ground := Ground.data }, { on := 8, ground := Ground.chain }, { on := 0, ground := Ground.phase }, { on := 1, ground := Ground.phase }, { on := 2, ground := Ground.phase }, { on := 3, ground := Ground.phase }, { on := 4, ground := Ground.phase }, { on := 5, ground := Ground.phase }, { on := 6, ground := Ground.phase }, { on := 7, ground := Ground.phase }, { on := 8, ground := Ground.phase }], guard := none }) (v := ?_) rfl (by kernel_rfl) (by kernel_rfl) (by kernel_rfl) (fun _ _ _ h => h) (Or.inl ⟨by rfl, fun _ _ => by rfl⟩) hS3 ?_
     simp only [Act.put, List.setIfInBounds_toArray, List.set_cons_zero, List.set_cons_succ]
     refine wpAnyH_done (by kernel_rfl) ?_ _
     clear hS3
     go_wp2_with fail
     refine wp_region_still_lit (by kernel_rfl) (by kernel_rfl) ?_
     still_step
     refine wpStill_from rfl 35 _ _ rfl 40 17 Tryz.underlying35 size31 _ _ _ 1 rfl rfl (by omega) ?_
     still_step
     refine wpStill_from rfl 35 _ _ rfl 40 17 Tryz.underlying35 size31 _ _ _ 1 rfl rfl (by omega) ?_
     iterate 2 still_step
     refine wpStill_nil ?_
     change Exit.inBlock _ _ _ _ w3.drew
     have hst4 := (hst3.drew.dropo 1 (by simp)).dropl 1 (by simp)
     go_wp2_with fail
     go_roundw
     case rel => exact ⟨os, ls, acc ++ [o, l], hst4, by rw [List.length_append]; simp only [List.length_cons, List.length_nil]; omega, HEQ2.out⟩
     case measure => simp [lenOf, cutv]
    ·have hz : os = [] ∨ ls = [] := by
      by_cases h : os = []
      ·exact .inl h
      ·exact .inr (by by_cases h2 : ls = []; exact h2; exact absurd ⟨h, h2⟩ hne)
     by_cases hoe : os = []
     ·subst hoe
      clear hne hz
      simp only [List.length_nil] at *
      have h1 : (0 : Int) ≤ (ls.length : Int) := by omega
      obtain ⟨hm1, hm2⟩ := hst.o.news (by omega) (ads_len hst.ao)
      go_wp2_with (at_builtin; refine wpList_app _ (by rfl) _ _ 35 (by rfl) 40 i40 _ 17 17 Tryz.underlying35 hi40 hz40 hs40 hb40 rfl (by omega) _ acc.length _ (by rfl) hst.out.row a7 0 c7 ([] : List (List Value)).flatten (by rfl) (flat_len (ads_len hst.ao)) hm1 hm2 (ads_one hst.ao) (by unfold maxLen; omega) (by omega) ?_)
      intro v2 w3 ho3 t3 hv3
      have hst2 := hst.app (news := ([] : List (List Value))) (by simpa using ho3) t3 hv3 (Nat.le_refl _)
      obtain ⟨hm3, hm4⟩ := hst2.l.news (by omega) (ads_len hst.al)
      have hla : (acc ++ ([] : List (List Value))).length ≤ 2000000 := by simp only [List.length_append, List.length_nil]; omega
      have hlb : (acc ++ ([] : List (List Value))).length + ls.length ≤ 2000000 := by simp only [List.length_append, List.length_nil]; omega
      clear ho3 t3 hv3 hm1 hm2
      go_wp2_with (at_builtin; refine wpList_app _ (by rfl) _ _ 35 (by rfl) 40 i40 _ 17 17 Tryz.underlying35 hi40 hz40 hs40 hb40 rfl (by omega) _ (acc ++ ([] : List (List Value))).length _ (by rfl) hst2.out.row a8 ls.length c8 ls.flatten (by rfl) (flat_len (ads_len hst.al)) hm3 hm4 (ads_one hst.al) (by unfold maxLen; omega) (by omega) ?_)
      intro v3 w4 ho4 t4 hv4
      have hst3 := hst2.app (news := ls) (by simpa [Nat.add_assoc] using ho4) t4 hv4 (Nat.le_refl _)
      go_wp2_with fail
      go_ret
      exact ⟨_, rfl, by rw [show inter xs first false = acc ++ ([] : List (List Value)) ++ ls by rw [← HEQ.out, zipR_nil (.inl rfl)]; simp]; exact hst3.out, hst3.t⟩
     ·have hop : 0 < os.length := List.length_pos_iff.2 hoe
      obtain rfl : ls = [] := by rcases hz with h | h; exact absurd h hoe; exact h
      clear hne hz hoe
      simp only [List.length_nil] at *
      obtain ⟨hm1, hm2⟩ := hst.o.news (by omega) (ads_len hst.ao)
      go_wp2_with (at_builtin; refine wpList_app _ (by rfl) _ _ 35 (by rfl) 40 i40 _ 17 17 Tryz.underlying35 hi40 hz40 hs40 hb40 rfl (by omega) _ acc.length _ (by rfl) hst.out.row a7 os.length c7 os.flatten (by rfl) (flat_len (ads_len hst.ao)) hm1 hm2 (ads_one hst.ao) (by unfold maxLen; omega) (by omega) ?_)
      intro v2 w3 ho3 t3 hv3
      have hst2 := hst.app (news := os) (by simpa using ho3) t3 hv3 (Nat.le_refl _)
      obtain ⟨hm3, hm4⟩ := hst2.l.news (by omega) (ads_len hst.al)
      have hla : (acc ++ os).length ≤ 2000000 := by simp only [List.length_append, List.length_nil]; omega
      have hlb : (acc ++ os).length + 0 ≤ 2000000 := by simp only [List.length_append, List.length_nil]; omega
      clear ho3 t3 hv3 hm1 hm2
      go_wp2_with (at_builtin; refine wpList_app _ (by rfl) _ _ 35 (by rfl) 40 i40 _ 17 17 Tryz.underlying35 hi40 hz40 hs40 hb40 rfl (by omega) _ (acc ++ os).length _ (by rfl) hst2.out.row a8 0 c8 ([] : List (List Value)).flatten (by rfl) (flat_len (ads_len hst.al)) hm3 hm4 (ads_one hst.al) (by unfold maxLen; omega) (by omega) ?_)
      intro v3 w4 ho4 t4 hv4
      have hst3 := hst2.app (news := ([] : List (List Value))) (by simpa [Nat.add_assoc] using ho4) t4 hv4 (Nat.le_refl _)
      go_wp2_with fail
      go_ret
      exact ⟨_, rfl, by rw [show inter xs first false = acc ++ os ++ ([] : List (List Value)) by rw [← HEQ.out, zipR_nil (.inr rfl)]; simp]; exact hst3.out, hst3.t⟩
 ·go_enter Tryz.func99, Tryz.ntmps99
  go_wp2_with fail
  refine (split9 _ b xs _ hl hv hxs).mono ?_
  rintro e w1 ⟨vo, vl, rfl, hoo, hol, hd, t1⟩
  obtain ⟨al, kl, rfl, hll, hlm, hal⟩ := owns_form hol.row
  obtain ⟨ao, ko, rfl, hlo, hom, _⟩ := owns_form hoo.row
  have LL := fam_le false xs
  have LO := fam_le true xs
  by_cases hz : fam true xs = []
  ·have hz0 : (fam true xs).length = 0 := by rw [hz]; rfl
   have hI : inter xs first true = xs := by unfold inter; rw [if_pos hz]; exact fam_all hz
   have hw1 : Rd w1 17 b (.slice a xs.length cap) xs := hv.touch t1 (by simp)
   obtain ⟨hn1, hn2⟩ := hw1.news (by omega) (ads_len hxs)
   have HI := Lib.hid hI
   clear hz hI
   go_wp2_with (at_builtin; refine wpList_app _ (by rfl) _ _ 35 (by rfl) 40 i40 _ 17 17 Tryz.underlying35 hi40 hz40 hs40 hb40 rfl (by omega) _ 0 [] (by rfl) (Own.nil w w1).row a xs.length cap xs.flatten (by rfl) (flat_len (ads_len hxs)) hn1 hn2 (ads_one hxs) (by unfold maxLen; omega) (by omega) ?_)
   intro vr w2 ho2 t2 hv2
   go_wp2_with fail
   go_ret
   exact ⟨_, rfl, by rw [HI.out]; exact Own.fresh t1 (by simpa using ho2) hv2, t1.trans t2 (by simp [Value.ownBlock])⟩
  ·have hz0 : 0 < (fam true xs).length := List.length_pos_iff.2 hz
   obtain ⟨gl, rfl⟩ := hal hz0
   clear hal
   have hnv := leadI_val first (fam true xs).length
   have hn0 := leadI_pos first _ hz0
   have hn1 := leadI_le first (fam true xs).length
   have HI := Lib.hid (show inter xs first true = _ from if_neg hz)
   generalize leadI first (fam true xs).length = n at hnv hn0 hn1 HI
   go_wp2_with fail
   refine (clamp_any _ _).mono ?_
   rintro e w' ⟨rfl, rfl⟩
   obtain ⟨bo, bl, hst⟩ := St.start (fam_mem hxs) (fam_mem hxs) hoo hol t1
   have htk : ∀ x ∈ (fam true xs).take n, IsAd x := fun x hx => fam_mem hxs x (List.mem_of_mem_take hx)
   obtain ⟨hn2, hn3⟩ := (Rd.take hst.l n hn1).news (by omega) (ads_len htk)
   have hlt : ((fam true xs).take n).length = n := by rw [List.length_take]; omega
   have HLT := Lib.hid hlt
   clear hlt
   go_wp2_with (at_builtin; refine wpList_app _ (by rfl) _ _ 35 (by rfl) 40 i40 _ 17 17 Tryz.underlying35 hi40 hz40 hs40 hb40 rfl (by omega) _ 0 [] (by rfl) (Own.nil w w1).row _ n _ ((fam true xs).take n).flatten (by rfl) (by rw [flat_len (ads_len htk), HLT.out]) hn2 hn3 (ads_one htk) (by unfold maxLen; omega) (by omega) ?_)
   intro vout w2 ho2 t2 hv2
   have hst2 := hst.app (news := (fam true xs).take n) (by rw [HLT.out]; simpa using ho2) t2 hv2 (Nat.le_refl _)
   clear hst ho2 t2 hv2 hn2 hn3 hol hoo hd hv
   have hst3 := hst2.dropl n hn1
   clear hst2
   have HL := Lib.hid (show inter xs first true = (fam true xs).take n ++ zipR (fam false xs) ((fam true xs).drop n) from HI.out)
   have hsum : (fam false xs).length + ((fam true xs).drop n).length + ([] ++ (fam true xs).take n).length ≤ 2000000 := by rw [List.nil_append, HLT.out, List.length_drop]; omega
   rw [List.nil_append] at hst3 hsum
   go_wp2_with (refine wpList_from rfl 35 _ _ rfl 40 17 Tryz.underlying35 size31 (some ⟨gl, 0, none⟩) (fam true xs).length kl n rfl rfl hn1 ?_)
   go_loopw [7, 8, 10] (fun vo vl vout wr => ∃ os ls acc, St w wr vo vl vout bo bl os ls acc ∧ os.length + ls.length + acc.length ≤ 2000000 ∧ acc ++ zipR os ls = inter xs first true)
    (fun vo _ _ _ => lenOf vo)
   case atStart => exact ⟨_, _, _, hst3, hsum, HL.out.symm⟩
   case round =>
    obtain ⟨os, ls, acc, hst, hsm, heq⟩ := hrel
    have HEQ := Lib.hid heq
    clear heq
    obtain ⟨a7, c7, rfl, h71, h72⟩ := hst.o.form
    obtain ⟨a8, c8, rfl, h81, h82⟩ := hst.l.form
    by_cases hne : os ≠ [] ∧ ls ≠ []
    ·obtain ⟨hno, hnl⟩ := hne
     cases os with
     | nil => exact absurd rfl hno
     | cons o os =>
     cases ls with
     | nil => exact absurd rfl hnl
     | cons l ls =>
     obtain ⟨o7, rfl, hat7⟩ := hst.o.at hno
     obtain ⟨o8, rfl, hat8⟩ := hst.l.at hnl
     have hro := hat7 0 o rfl
     have hrl := hat8 0 l rfl
     have hado := hst.ao o List.mem_cons_self
     have hadl := hst.al l List.mem_cons_self
     have hrow := hst.drew.out.row
     have HEQ2 := Lib.hid (show (acc ++ [o, l]) ++ zipR os ls = inter xs first true by rw [← HEQ.out, List.append_assoc]; rfl)
     clear HEQ hat7 hat8
     simp only [Nat.zero_mul, Nat.add_zero, List.length_cons] at *
     have hstD := hst.drew
     have hS : wr.drew.rangeAt bo o7 o ∧ wr.drew.rangeAt bl o8 l := ⟨hro, hrl⟩
     go_wp2_with fail
     refine wp_region_held (S := fun w' => w'.rangeAt bo o7 o ∧ w'.rangeAt bl o8 l) (by kernel_rfl) ?_
     change wpAnyH _ _ _ _ _ _ _ _ wr.drew
     refine tkH 0 (?_) ?_ (hy := Or.inl ⟨by rfl, fun _ _ => by rfl⟩)
     refine tkH 1 (?_) ?_ (hy := Or.inl ⟨by rfl, fun _ _ => by rfl⟩)
     refine tkH 2 (.pointer (some ⟨bo, o7, none⟩)) ?_ (hy := Or.inl ⟨by rfl, fun w' _ => by go_simp⟩)
     refine tkH 3 (.agg o.toArray) ?_ (hy := yieldsIf_load_mid (by rfl) 40 _ rfl bo o7 rfl o _ (fun w' h => h.1) Tryz.underlying40 rfl (by rw [size31, hado.len]))
     refine tkH 4 (?_) ?_ (hy := Or.inl ⟨by rfl, fun _ _ => by rfl⟩)
     refine tkH 5 (.pointer (some ⟨bl, o8, none⟩)) ?_ (hy := Or.inl ⟨by rfl, fun w' _ => by go_simp⟩)
     refine tkH 6 (.agg l.toArray) ?_ (hy := yieldsIf_load_mid (by rfl) 40 _ rfl bl o8 rfl l _ (fun w' h => h.2) Tryz.underlying40 rfl (by rw [size31, hadl.len]))
     refine wpAnyH_ready (rs := [7]) (by kernel_rfl) (by simp) ?_
     refine cnH rfl (fun K hK => ?_) AllReadyH.nil
     refine step_of_list rfl ?_
     refine wpList_buildSlice_rows rfl 35 2 _ rfl 40 17 i40 _ Tryz.underlying35 hi40 hz40 hs40 (by omega) [o, l] rfl (by simp [hado.len, hadl.len]) (by omega) (by rfl) ?_
     have tA := (Touch.refl [] wr.drew).alloc (.cells [o, l].flatten.toArray 40)
     have hrow2 := (hstD.out.touch tA (by simp)).row
     refine ⟨rfl, hK.out _ _ ⟨tA.range hS.1 (by simp), tA.range hS.2 (by simp)⟩ (fun hS2 => ?_)⟩
     clear hK K
     simp only [Act.put, List.setIfInBounds_toArray, List.set_cons_zero, List.set_cons_succ]
     refine wpAnyH_ready (rs := [8]) (by kernel_rfl) (by simp) ?_
     refine cnH rfl (fun K hK => ?_) AllReadyH.nil
     refine step_app _ (by rfl) (.tmp 45) (.tmp 52) 35 (by rfl) 40 i40 _ 17 17 Tryz.underlying35 hi40 hz40 hs40 hb40 rfl (by omega) _ acc.length _ (by rfl) hrow2 (some ⟨wr.drew.heap.size, 0, none⟩) 2 2 ([o, l].flatten) (by rfl) (by simp [hado.len, hadl.len]) (by intro h; cases h) (fun ad e => by cases e; intro j u hu; exact World.news_of_block (heap_alloc_new wr.drew _) j u (by simpa using hu)) (by intro u hu; simp only [List.flatten_cons, List.flatten_nil, List.append_nil, List.mem_append] at hu; rcases hu with h | h; exact hado.one u h; exact hadl.one u h) (by unfold maxLen; omega) (by omega) ?_
     intro vout w3 ho3 t3 hv3
     have hst3 := hstD.app (w2 := w3) (news := [o, l]) ho3 ((Touch.mono tA (by simp)).trans t3 (fun x hx => .inl hx)) hv3 (by simp)
     have hS3 : w3.rangeAt bo o7 o ∧ w3.rangeAt bl o8 l := ⟨t3.range hS2.1 (fun hm => hst.fo hno (by simpa using hm)), t3.range hS2.2 (fun hm => hst.fl hnl (by simpa using hm))⟩
     refine hK.out _ _ hS3 (fun _ => ?_)
     clear hK K ho3 t3 hv3 hrow2 hstD hS2 tA hS hro hrl hrow
     simp only [Act.put, List.setIfInBounds_toArray, List.set_cons_zero, List.set_cons_succ]
     refine wpAnyH_take (i := 9) (oi := { dst := some 10, op := Op.assign (Operand.tmp 53), type := 35, pos := "ref.go:146", after := #[{ on := 8, ground := Ground.data }, { on := 8, ground := Ground.chain }, { on := 0, ground := Ground.phase }, { on := 1, ground := Ground.phase }, { on := 2, ground := Ground.phase }, { on := 3, ground := Ground.phase }, { on := 4, ground := Ground.phase }, { on := 5, ground := Ground.phase }, { on := 6, ground := Ground.phase }, { on := 7, ground := Ground.phase }, { on := 8, ground := Ground.phase }], guard := none }) (v := ?_) rfl (by kernel_rfl) (by kernel_rfl) (by kernel_rfl) (fun _ _ _ h => h) (Or.inl ⟨by rfl, fun _ _ => by rfl⟩) hS3 ?_
     simp only [Act.put, List.setIfInBounds_toArray, List.set_cons_zero, List.set_cons_succ]
     refine wpAnyH_done (by kernel_rfl) ?_ _
     clear hS3
     go_wp2_with fail
     refine wp_region_still_lit (by kernel_rfl) (by kernel_rfl) ?_
     still_step
     refine wpStill_from rfl 35 _ _ rfl 40 17 Tryz.underlying35 size31 _ _ _ 1 rfl rfl (by omega) ?_
     still_step
     refine wpStill_from rfl 35 _ _ rfl 40 17 Tryz.underlying35 size31 _ _ _ 1 rfl rfl (by omega) ?_
     iterate 2 still_step
     refine wpStill_nil ?_
     change Exit.inBlock _ _ _ _ w3.drew
     have hst4 := (hst3.drew.dropo 1 (by simp)).dropl 1 (by simp)
     go_wp2_with fail
     go_roundw
     case rel => exact ⟨os, ls, acc ++ [o, l], hst4, by rw [List.length_append]; simp only [List.length_cons, List.length_nil]; omega, HEQ2.out⟩
     case measure => simp [lenOf, cutv]
    ·have hz : os = [] ∨ ls = [] := by
      by_cases h : os = []
      ·exact .inl h
      ·exact .inr (by by_cases h2 : ls = []; exact h2; exact absurd ⟨h, h2⟩ hne)
     by_cases hoe : os = []
     ·subst hoe
      clear hne hz
      simp only [List.length_nil] at *
      have h1 : (0 : Int) ≤ (ls.length : Int) := by omega
      obtain ⟨hm1, hm2⟩ := hst.o.news (by omega) (ads_len hst.ao)
      go_wp2_with (at_builtin; refine wpList_app _ (by rfl) _ _ 35 (by rfl) 40 i40 _ 17 17 Tryz.underlying35 hi40 hz40 hs40 hb40 rfl (by omega) _ acc.length _ (by rfl) hst.out.row a7 0 c7 ([] : List (List Value)).flatten (by rfl) (flat_len (ads_len hst.ao)) hm1 hm2 (ads_one hst.ao) (by unfold maxLen; omega) (by omega) ?_)
      intro v2 w3 ho3 t3 hv3
      have hst2 := hst.app (news := ([] : List (List Value))) (by simpa using ho3) t3 hv3 (Nat.le_refl _)
      obtain ⟨hm3, hm4⟩ := hst2.l.news (by omega) (ads_len hst.al)
      have hla : (acc ++ ([] : List (List Value))).length ≤ 2000000 := by simp only [List.length_append, List.length_nil]; omega
      have hlb : (acc ++ ([] : List (List Value))).length + ls.length ≤ 2000000 := by simp only [List.length_append, List.length_nil]; omega
      clear ho3 t3 hv3 hm1 hm2
      go_wp2_with (at_builtin; refine wpList_app _ (by rfl) _ _ 35 (by rfl) 40 i40 _ 17 17 Tryz.underlying35 hi40 hz40 hs40 hb40 rfl (by omega) _ (acc ++ ([] : List (List Value))).length _ (by rfl) hst2.out.row a8 ls.length c8 ls.flatten (by rfl) (flat_len (ads_len hst.al)) hm3 hm4 (ads_one hst.al) (by unfold maxLen; omega) (by omega) ?_)
      intro v3 w4 ho4 t4 hv4
      have hst3 := hst2.app (news := ls) (by simpa [Nat.add_assoc] using ho4) t4 hv4 (Nat.le_refl _)
      go_wp2_with fail
      go_ret
      exact ⟨_, rfl, by rw [show inter xs first true = acc ++ ([] : List (List Value)) ++ ls by rw [← HEQ.out, zipR_nil (.inl rfl)]; simp]; exact hst3.out, hst3.t⟩
     ·have hop : 0 < os.length := List.length_pos_iff.2 hoe
      obtain rfl : ls = [] := by rcases hz with h | h; exact absurd h hoe; exact h
      clear hne hz hoe
      simp only [List.length_nil] at *
      obtain ⟨hm1, hm2⟩ := hst.o.news (by omega) (ads_len hst.ao)
      go_wp2_with (at_builtin; refine wpList_app _ (by rfl) _ _ 35 (by rfl) 40 i40 _ 17 17 Tryz.underlying35 hi40 hz40 hs40 hb40 rfl (by omega) _ acc.length _ (by rfl) hst.out.row a7 os.length c7 os.flatten (by rfl) (flat_len (ads_len hst.ao)) hm1 hm2 (ads_one hst.ao) (by unfold maxLen; omega) (by omega) ?_)
      intro v2 w3 ho3 t3 hv3
      have hst2 := hst.app (news := os) (by simpa using ho3) t3 hv3 (Nat.le_refl _)
      obtain ⟨hm3, hm4⟩ := hst2.l.news (by omega) (ads_len hst.al)
      have hla : (acc ++ os).length ≤ 2000000 := by simp only [List.length_append, List.length_nil]; omega
      have hlb : (acc ++ os).length + 0 ≤ 2000000 := by simp only [List.length_append, List.length_nil]; omega
      clear ho3 t3 hv3 hm1 hm2
      go_wp2_with (at_builtin; refine wpList_app _ (by rfl) _ _ 35 (by rfl) 40 i40 _ 17 17 Tryz.underlying35 hi40 hz40 hs40 hb40 rfl (by omega) _ (acc ++ os).length _ (by rfl) hst2.out.row a8 0 c8 ([] : List (List Value)).flatten (by rfl) (flat_len (ads_len hst.al)) hm3 hm4 (ads_one hst.al) (by unfold maxLen; omega) (by omega) ?_)
      intro v3 w4 ho4 t4 hv4
      have hst3 := hst2.app (news := ([] : List (List Value))) (by simpa [Nat.add_assoc] using ho4) t4 hv4 (Nat.le_refl _)
      go_wp2_with fail
      go_ret
      exact ⟨_, rfl, by rw [show inter xs first true = acc ++ os ++ ([] : List (List Value)) by rw [← HEQ.out, zipR_nil (.inr rfl)]; simp]; exact hst3.out, hst3.t⟩
set_option maxRecDepth 100000 in
set_option maxHeartbeats 1000000 in
theorem inter13 (v : Value) (b : Nat) (first : Int) (v6 : Bool) (xs : List (List Value)) (w : World) (hl : xs.length ≤ 1000000) (hv : Rd w 17 b v xs) (hxs : ∀ x ∈ xs, IsAd x) :
  Calls Tryz.prog 106 #[v, .int .i64 first, .bool v6] w fun e w' => ∃ v', e = .returned v' ∧ Own w w' v' (inter xs first v6) ∧ Touch [] w w' := by
 obtain ⟨i40, hi40, hz40, hs40, hb40⟩ := info_parts info40
 obtain ⟨a, cap, rfl, hlc, hcm⟩ := hv.form
 have hcm2 : cap ≤ 9223372036854775807 := by unfold maxLen at hcm; omega
 cases v6
 ·go_enter Tryz.func106, Tryz.ntmps106
  go_wp2_with fail
  refine (split8 _ b xs _ hl hv hxs).mono ?_
  rintro e w1 ⟨vl, vo, rfl, hol, hoo, hd, t1⟩
  obtain ⟨al, kl, rfl, hll, hlm, hal⟩ := owns_form hol.row
  obtain ⟨ao, ko, rfl, hlo, hom, _⟩ := owns_form hoo.row
  have LL := fam_le false xs
  have LO := fam_le true xs
  by_cases hz : fam false xs = []
  ·have hz0 : (fam false xs).length = 0 := by rw [hz]; rfl
   have HI := Lib.hid (show inter xs first false = fam true xs from if_pos hz)
   clear hz
   go_wp2_with fail
   go_ret
   exact ⟨_, rfl, by rw [HI.out]; exact hoo, t1⟩
  ·have hz0 : 0 < (fam false xs).length := List.length_pos_iff.2 hz
   obtain ⟨gl, rfl⟩ := hal hz0
   clear hal
   have hnv := leadI_val first (fam false xs).length
   have hn0 := leadI_pos first _ hz0
   have hn1 := leadI_le first (fam false xs).length
   have HI := Lib.hid (show inter xs first false = _ from if_neg hz)
   generalize leadI first (fam false xs).length = n at hnv hn0 hn1 HI
   have hb0 : (((fam false xs).length : Int) == 0) = false := by simp only [beq_eq_false_iff_ne, ne_eq]; omega
   obtain ⟨m, hm⟩ : ∃ m, (if (8 : Int) < first then 8 else first) = m := ⟨_, rfl⟩
   have hm2 : (if (1 : Int) < m then m else 1) = cl first := by rw [← hm]; unfold cl; split <;> split <;> (try split) <;> (try split) <;> omega
   obtain ⟨bo, bl, hst⟩ := St.start (fam_mem hxs) (fam_mem hxs) hoo hol t1
   have htk : ∀ x ∈ (fam false xs).take n, IsAd x := fun x hx => fam_mem hxs x (List.mem_of_mem_take hx)
   obtain ⟨hn2, hn3⟩ := (Rd.take hst.l n hn1).news (by omega) (ads_len htk)
   have hlt : ((fam false xs).take n).length = n := by rw [List.length_take]; omega
   have HLT := Lib.hid hlt
   clear hlt
   go_wp2_with fail
   refine wp_region_held (S := fun _ => True) (by kernel_rfl) ?_
   change wpAnyH _ _ _ _ _ _ _ _ w1.drew
   refine wpAnyH_take (i := 0) (oi := { dst := some 30, op := Op.move (Operand.tmp 10), type := 35, pos := "interleave.go:30", after := #[], guard := none }) (v := .slice none 0 0) rfl (by kernel_rfl) (by kernel_rfl) (by kernel_rfl) (fun _ _ _ h => h) (Or.inl ⟨by rfl, fun _ _ => by rfl⟩) trivial ?_
   simp only [Act.put, List.setIfInBounds_toArray, List.set_cons_zero, List.set_cons_succ]
   refine wpAnyH_take (i := 1) (oi := { dst := some 31, op := Op.move (Operand.tmp 8), type := 35, pos := "interleave.go:30", after := #[], guard := none }) (v := .slice (some ⟨gl, 0, none⟩) (fam false xs).length kl) rfl (by kernel_rfl) (by kernel_rfl) (by kernel_rfl) (fun _ _ _ h => h) (Or.inl ⟨by rfl, fun _ _ => by rfl⟩) trivial ?_
   simp only [Act.put, List.setIfInBounds_toArray, List.set_cons_zero, List.set_cons_succ]
   refine wpAnyH_take (i := 2) (oi := { dst := some 32, op := Op.move (Operand.tmp 9), type := 3, pos := "interleave.go:30", after := #[], guard := none }) (v := .int .i64 n) rfl (by kernel_rfl) (by kernel_rfl) (by kernel_rfl) (fun _ _ _ h => h) (Or.inl ⟨by rfl, fun _ _ => by rfl⟩) trivial ?_
   simp only [Act.put, List.setIfInBounds_toArray, List.set_cons_zero, List.set_cons_succ]
   refine wpAnyH_take (i := 3) (oi := { dst := some 33, op := Op.slice 35 (Operand.tmp 31) none (some (Operand.tmp 32)) none, type := 35, pos := "interleave.go:30", after := #[{ on := 1, ground := Ground.data }, { on := 2, ground := Ground.data }], guard := none }) (v := .slice (some ⟨gl, 0, none⟩) n kl) rfl (by kernel_rfl) (by kernel_rfl) (by kernel_rfl) (fun _ _ _ h => h) (Or.inl ⟨by rfl, fun w' _ => by first | (go_simp; done) | (go_simp; intro h; exfalso; omega)⟩) trivial ?_
   simp only [Act.put, List.setIfInBounds_toArray, List.set_cons_zero, List.set_cons_succ]
   refine wpAnyH_take (i := 5) (oi := { dst := some 35, op := Op.move (Operand.tmp 8), type := 35, pos := "interleave.go:30", after := #[], guard := none }) (v := .slice (some ⟨gl, 0, none⟩) (fam false xs).length kl) rfl (by kernel_rfl) (by kernel_rfl) (by kernel_rfl) (fun _ _ _ h => h) (Or.inl ⟨by rfl, fun _ _ => by rfl⟩) trivial ?_
   simp only [Act.put, List.setIfInBounds_toArray, List.set_cons_zero, List.set_cons_succ]
   refine wpAnyH_take (i := 6) (oi := { dst := some 36, op := Op.move (Operand.tmp 9), type := 3, pos := "interleave.go:30", after := #[], guard := none }) (v := .int .i64 n) rfl (by kernel_rfl) (by kernel_rfl) (by kernel_rfl) (fun _ _ _ h => h) (Or.inl ⟨by rfl, fun _ _ => by rfl⟩) trivial ?_
   simp only [Act.put, List.setIfInBounds_toArray, List.set_cons_zero, List.set_cons_succ]
   refine wpAnyH_take (i := 7) (oi := { dst := some 37, op := Op.slice 35 (Operand.tmp 35) (some (Operand.tmp 36)) none none, type := 35, pos := "interleave.go:30", after := #[{ on := 5, ground := Ground.data }, { on := 6, ground := Ground.data }], guard := none }) (v := cutv (some ⟨gl, 0, none⟩) (fam false xs).length kl n 17) rfl (by kernel_rfl) (by kernel_rfl) (by kernel_rfl) (fun _ _ _ h => h) (yieldsIf_from (by rfl) 35 _ _ rfl 40 17 Tryz.underlying35 size31 (some ⟨gl, 0, none⟩) (fam false xs).length kl n rfl rfl hn1) trivial ?_
   simp only [Act.put, List.setIfInBounds_toArray, List.set_cons_zero, List.set_cons_succ]
   refine wpAnyH_ready (rs := [4]) (by kernel_rfl) (by simp) ?_
   refine cnH rfl (fun K hK => ?_) AllReadyH.nil
   refine step_app _ (by rfl) (.tmp 30) (.tmp 33) 35 (by rfl) 40 i40 _ 17 17 Tryz.underlying35 hi40 hz40 hs40 hb40 rfl (by omega) _ 0 [] (by rfl) (Own.nil w w1.drew).row _ n _ ((fam false xs).take n).flatten (by rfl) (by rw [flat_len (ads_len htk), HLT.out]) hn2 hn3 (ads_one htk) (by unfold maxLen; omega) (by omega) ?_
   intro vout w2 ho2 t2 hv2
   refine hK.out _ _ trivial (fun _ => ?_)
   clear hK K
   simp only [Act.put, List.setIfInBounds_toArray, List.set_cons_zero, List.set_cons_succ]
   refine wpAnyH_take (i := 8) (oi := { dst := some 10, op := Op.assign (Operand.tmp 34), type := 35, pos := "interleave.go:30", after := #[{ on := 4, ground := Ground.data }, { on := 4, ground := Ground.chain }, { on := 0, ground := Ground.phase }, { on := 1, ground := Ground.phase }, { on := 2, ground := Ground.phase }, { on := 3, ground := Ground.phase }, { on := 4, ground := Ground.phase }, { on := 5, ground := Ground.textOnly Departure.lateStores }, { on := 6, ground := Ground.textOnly Departure.lateStores }, { on := 7, ground := Ground.textOnly Departure.lateStoresUnsure }], guard := none }) (v := vout) rfl (by kernel_rfl) (by kernel_rfl) (by kernel_rfl) (fun _ _ _ h => h) (Or.inl ⟨by rfl, fun _ _ => by rfl⟩) trivial ?_
   simp only [Act.put, List.setIfInBounds_toArray, List.set_cons_zero, List.set_cons_succ]
   refine wpAnyH_take (i := 9) (oi := { dst := some 8, op := Op.assign (Operand.tmp 37), type := 35, pos := "interleave.go:30", after := #[{ on := 7, ground := Ground.data }, { on := 8, ground := Ground.chain }, { on := 0, ground := Ground.phase }, { on := 1, ground := Ground.phase }, { on := 2, ground := Ground.phase }, { on := 3, ground := Ground.phase }, { on := 4, ground := Ground.phase }, { on := 5, ground := Ground.phase }, { on := 6, ground := Ground.phase }, { on := 7, ground := Ground.phase }, { on := 8, ground := Ground.phase }], guard := none }) (v := cutv (some ⟨gl, 0, none⟩) (fam false xs).length kl n 17) rfl (by kernel_rfl) (by kernel_rfl) (by kernel_rfl) (fun _ _ _ h => h) (Or.inl ⟨by rfl, fun _ _ => by rfl⟩) trivial ?_
   simp only [Act.put, List.setIfInBounds_toArray, List.set_cons_zero, List.set_cons_succ]
   refine wpAnyH_done (by kernel_rfl) ?_ _
   have hst2 := (hst.drew).app (news := (fam false xs).take n) (by rw [HLT.out]; simpa using ho2) t2 hv2 (Nat.le_refl _)
   clear hst ho2 t2 hv2 hn2 hn3 hol hoo hd hv
   have hst3 := hst2.dropl n hn1
   clear hst2
   have HL := Lib.hid (show inter xs first false = (fam false xs).take n ++ zipR (fam true xs) ((fam false xs).drop n) from HI.out)
   have hsum : (fam true xs).length + ((fam false xs).drop n).length + ([] ++ (fam false xs).take n).length ≤ 2000000 := by rw [List.nil_append, HLT.out, List.length_drop]; omega
   rw [List.nil_append] at hst3 hsum
   go_wp2_with fail
   go_loopw [7, 8, 10] (fun vo vl vout wr => ∃ os ls acc, St w wr vo vl vout bo bl os ls acc ∧ os.length + ls.length + acc.length ≤ 2000000 ∧ acc ++ zipR os ls = inter xs first false)
    (fun vo _ _ _ => lenOf vo)
   case atStart => exact ⟨_, _, _, hst3, hsum, HL.out.symm⟩
   case round =>
    obtain ⟨os, ls, acc, hst, hsm, heq⟩ := hrel
    have HEQ := Lib.hid heq
    clear heq
    obtain ⟨a7, c7, rfl, h71, h72⟩ := hst.o.form
    obtain ⟨a8, c8, rfl, h81, h82⟩ := hst.l.form
    by_cases hne : os ≠ [] ∧ ls ≠ []
    ·obtain ⟨hno, hnl⟩ := hne
     cases os with
     | nil => exact absurd rfl hno
     | cons o os =>
     cases ls with
     | nil => exact absurd rfl hnl
     | cons l ls =>
     obtain ⟨o7, rfl, hat7⟩ := hst.o.at hno
     obtain ⟨o8, rfl, hat8⟩ := hst.l.at hnl
     have hro := hat7 0 o rfl
     have hrl := hat8 0 l rfl
     have hado := hst.ao o List.mem_cons_self
     have hadl := hst.al l List.mem_cons_self
     have hrow := hst.drew.out.row
     have HEQ2 := Lib.hid (show (acc ++ [o, l]) ++ zipR os ls = inter xs first false by rw [← HEQ.out, List.append_assoc]; rfl)
     clear HEQ hat7 hat8
     simp only [Nat.zero_mul, Nat.add_zero, List.length_cons] at *
     have hstD := hst.drew
     have hS : wr.drew.rangeAt bo o7 o ∧ wr.drew.rangeAt bl o8 l := ⟨hro, hrl⟩
     go_wp2_with fail
     refine wp_region_held (S := fun w' => w'.rangeAt bo o7 o ∧ w'.rangeAt bl o8 l) (by kernel_rfl) ?_
     change wpAnyH _ _ _ _ _ _ _ _ wr.drew
     refine tkH 0 (?_) ?_ (hy := Or.inl ⟨by rfl, fun _ _ => by rfl⟩)
     refine tkH 1 (?_) ?_ (hy := Or.inl ⟨by rfl, fun _ _ => by rfl⟩)
     refine tkH 2 (.pointer (some ⟨bo, o7, none⟩)) ?_ (hy := Or.inl ⟨by rfl, fun w' _ => by go_simp⟩)
     refine tkH 3 (.agg o.toArray) ?_ (hy := yieldsIf_load_mid (by rfl) 40 _ rfl bo o7 rfl o _ (fun w' h => h.1) Tryz.underlying40 rfl (by rw [size31, hado.len]))
     refine tkH 4 (?_) ?_ (hy := Or.inl ⟨by rfl, fun _ _ => by rfl⟩)
     refine tkH 5 (.pointer (some ⟨bl, o8, none⟩)) ?_ (hy := Or.inl ⟨by rfl, fun w' _ => by go_simp⟩)
     refine tkH 6 (.agg l.toArray) ?_ (hy := yieldsIf_load_mid (by rfl) 40 _ rfl bl o8 rfl l _ (fun w' h => h.2) Tryz.underlying40 rfl (by rw [size31, hadl.len]))
     refine wpAnyH_ready (rs := [7]) (by kernel_rfl) (by simp) ?_
     refine cnH rfl (fun K hK => ?_) AllReadyH.nil
     refine step_of_list rfl ?_
     refine wpList_buildSlice_rows rfl 35 2 _ rfl 40 17 i40 _ Tryz.underlying35 hi40 hz40 hs40 (by omega) [o, l] rfl (by simp [hado.len, hadl.len]) (by omega) (by rfl) ?_
     have tA := (Touch.refl [] wr.drew).alloc (.cells [o, l].flatten.toArray 40)
     have hrow2 := (hstD.out.touch tA (by simp)).row
     refine ⟨rfl, hK.out _ _ ⟨tA.range hS.1 (by simp), tA.range hS.2 (by simp)⟩ (fun hS2 => ?_)⟩
     clear hK K
     simp only [Act.put, List.setIfInBounds_toArray, List.set_cons_zero, List.set_cons_succ]
     refine wpAnyH_ready (rs := [8]) (by kernel_rfl) (by simp) ?_
     refine cnH rfl (fun K hK => ?_) AllReadyH.nil
     refine step_app _ (by rfl) (.tmp 46) (.tmp 53) 35 (by rfl) 40 i40 _ 17 17 Tryz.underlying35 hi40 hz40 hs40 hb40 rfl (by omega) _ acc.length _ (by rfl) hrow2 (some ⟨wr.drew.heap.size, 0, none⟩) 2 2 ([o, l].flatten) (by rfl) (by simp [hado.len, hadl.len]) (by intro h; cases h) (fun ad e => by cases e; intro j u hu; exact World.news_of_block (heap_alloc_new wr.drew _) j u (by simpa using hu)) (by intro u hu; simp only [List.flatten_cons, List.flatten_nil, List.append_nil, List.mem_append] at hu; rcases hu with h | h; exact hado.one u h; exact hadl.one u h) (by unfold maxLen; omega) (by omega) ?_
     intro vout w3 ho3 t3 hv3
     have hst3 := hstD.app (w2 := w3) (news := [o, l]) ho3 ((Touch.mono tA (by simp)).trans t3 (fun x hx => .inl hx)) hv3 (by simp)
     have hS3 : w3.rangeAt bo o7 o ∧ w3.rangeAt bl o8 l := ⟨t3.range hS2.1 (fun hm => hst.fo hno (by simpa using hm)), t3.range hS2.2 (fun hm => hst.fl hnl (by simpa using hm))⟩
     refine hK.out _ _ hS3 (fun _ => ?_)
     clear hK K ho3 t3 hv3 hrow2 hstD hS2 tA hS hro hrl hrow
     simp only [Act.put, List.setIfInBounds_toArray, List.set_cons_zero, List.set_cons_succ]
     refine wpAnyH_take (i := 9) (oi := { dst := some 10, op := Op.assign (Operand.tmp 54), type := 35, pos := "interleave.go:32", after := #[{ on := 8, ground := Ground.data }, { on := 8, ground := Ground.chain }, { on := 0, ground := Ground.phase }, { on := 1, ground := Ground.phase }, { on := 2, ground := Ground.phase }, { on := 3, ground := Ground.phase }, { on := 4, ground := Ground.phase }, { on := 5, ground := Ground.phase }, { on := 6, ground := Ground.phase }, { on := 7, ground := Ground.phase }, { on := 8, ground := Ground.phase }], guard := none }) (v := ?_) rfl (by kernel_rfl) (by kernel_rfl) (by kernel_rfl) (fun _ _ _ h => h) (Or.inl ⟨by rfl, fun _ _ => by rfl⟩) hS3 ?_
     simp only [Act.put, List.setIfInBounds_toArray, List.set_cons_zero, List.set_cons_succ]
     refine wpAnyH_done (by kernel_rfl) ?_ _
     clear hS3
     go_wp2_with fail
     refine wp_region_still_lit (by kernel_rfl) (by kernel_rfl) ?_
     still_step
     refine wpStill_from rfl 35 _ _ rfl 40 17 Tryz.underlying35 size31 _ _ _ 1 rfl rfl (by omega) ?_
     still_step
     refine wpStill_from rfl 35 _ _ rfl 40 17 Tryz.underlying35 size31 _ _ _ 1 rfl rfl (by omega) ?_
     iterate 2 still_step
     refine wpStill_nil ?_
     change Exit.inBlock _ _ _ _ w3.drew
     have hst4 := (hst3.drew.dropo 1 (by simp)).dropl 1 (by simp)
     go_wp2_with fail
     go_roundw
     case rel => exact ⟨os, ls, acc ++ [o, l], hst4, by rw [List.length_append]; simp only [List.length_cons, List.length_nil]; omega, HEQ2.out⟩
     case measure => simp [lenOf, cutv]
    ·have hz : os = [] ∨ ls = [] := by
      by_cases h : os = []
      ·exact .inl h
      ·exact .inr (by by_cases h2 : ls = []; exact h2; exact absurd ⟨h, h2⟩ hne)
     by_cases hoe : ls = []
     ·subst hoe
      clear hne hz
      simp only [List.length_nil] at *
      have h1 : (0 : Int) ≤ (os.length : Int) := by omega
      obtain ⟨hm1, hm2⟩ := hst.l.news (by omega) (ads_len hst.al)
      go_wp2_with (at_builtin; refine wpList_app _ (by rfl) _ _ 35 (by rfl) 40 i40 _ 17 17 Tryz.underlying35 hi40 hz40 hs40 hb40 rfl (by omega) _ acc.length _ (by rfl) hst.out.row a8 0 c8 ([] : List (List Value)).flatten (by rfl) (flat_len (ads_len hst.al)) hm1 hm2 (ads_one hst.al) (by unfold maxLen; omega) (by omega) ?_)
      intro v2 w3 ho3 t3 hv3
      have hst2 := hst.app (news := ([] : List (List Value))) (by simpa using ho3) t3 hv3 (Nat.le_refl _)
      obtain ⟨hm3, hm4⟩ := hst2.o.news (by omega) (ads_len hst.ao)
      have hla : (acc ++ ([] : List (List Value))).length ≤ 2000000 := by simp only [List.length_append, List.length_nil]; omega
      have hlb : (acc ++ ([] : List (List Value))).length + os.length ≤ 2000000 := by simp only [List.length_append, List.length_nil]; omega
      clear ho3 t3 hv3 hm1 hm2
      go_wp2_with (at_builtin; refine wpList_app _ (by rfl) _ _ 35 (by rfl) 40 i40 _ 17 17 Tryz.underlying35 hi40 hz40 hs40 hb40 rfl (by omega) _ (acc ++ ([] : List (List Value))).length _ (by rfl) hst2.out.row a7 os.length c7 os.flatten (by rfl) (flat_len (ads_len hst.ao)) hm3 hm4 (ads_one hst.ao) (by unfold maxLen; omega) (by omega) ?_)
      intro v3 w4 ho4 t4 hv4
      have hst3 := hst2.app (news := os) (by simpa [Nat.add_assoc] using ho4) t4 hv4 (Nat.le_refl _)
      go_wp2_with fail
      go_ret
      exact ⟨_, rfl, by rw [show inter xs first false = acc ++ ([] : List (List Value)) ++ os by rw [← HEQ.out, zipR_nil (.inr rfl)]; simp]; exact hst3.out, hst3.t⟩
     ·have hop : 0 < ls.length := List.length_pos_iff.2 hoe
      obtain rfl : os = [] := by rcases hz with h | h; exact h; exact absurd h hoe
      clear hne hz hoe
      simp only [List.length_nil] at *
      obtain ⟨hm1, hm2⟩ := hst.l.news (by omega) (ads_len hst.al)
      go_wp2_with (at_builtin; refine wpList_app _ (by rfl) _ _ 35 (by rfl) 40 i40 _ 17 17 Tryz.underlying35 hi40 hz40 hs40 hb40 rfl (by omega) _ acc.length _ (by rfl) hst.out.row a8 ls.length c8 ls.flatten (by rfl) (flat_len (ads_len hst.al)) hm1 hm2 (ads_one hst.al) (by unfold maxLen; omega) (by omega) ?_)
      intro v2 w3 ho3 t3 hv3
      have hst2 := hst.app (news := ls) (by simpa using ho3) t3 hv3 (Nat.le_refl _)
      obtain ⟨hm3, hm4⟩ := hst2.o.news (by omega) (ads_len hst.ao)
      have hla : (acc ++ ls).length ≤ 2000000 := by simp only [List.length_append, List.length_nil]; omega
      have hlb : (acc ++ ls).length + 0 ≤ 2000000 := by simp only [List.length_append, List.length_nil]; omega
      clear ho3 t3 hv3 hm1 hm2
      go_wp2_with (at_builtin; refine wpList_app _ (by rfl) _ _ 35 (by rfl) 40 i40 _ 17 17 Tryz.underlying35 hi40 hz40 hs40 hb40 rfl (by omega) _ (acc ++ ls).length _ (by rfl) hst2.out.row a7 0 c7 ([] : List (List Value)).flatten (by rfl) (flat_len (ads_len hst.ao)) hm3 hm4 (ads_one hst.ao) (by unfold maxLen; omega) (by omega) ?_)
      intro v3 w4 ho4 t4 hv4
      have hst3 := hst2.app (news := ([] : List (List Value))) (by simpa [Nat.add_assoc] using ho4) t4 hv4 (Nat.le_refl _)
      go_wp2_with fail
      go_ret
      exact ⟨_, rfl, by rw [show inter xs first false = acc ++ ls ++ ([] : List (List Value)) by rw [← HEQ.out, zipR_nil (.inl rfl)]; simp]; exact hst3.out, hst3.t⟩
 ·go_enter Tryz.func106, Tryz.ntmps106
  go_wp2_with fail
  refine (split8 _ b xs _ hl hv hxs).mono ?_
  rintro e w1 ⟨vo, vl, rfl, hoo, hol, hd, t1⟩
  obtain ⟨al, kl, rfl, hll, hlm, hal⟩ := owns_form hol.row
  obtain ⟨ao, ko, rfl, hlo, hom, _⟩ := owns_form hoo.row
  have LL := fam_le false xs
  have LO := fam_le true xs
  by_cases hz : fam true xs = []
  ·have hz0 : (fam true xs).length = 0 := by rw [hz]; rfl
   have HI := Lib.hid (show inter xs first true = fam false xs from if_pos hz)
   clear hz
   go_wp2_with fail
   go_ret
   exact ⟨_, rfl, by rw [HI.out]; exact hoo, t1⟩
  ·have hz0 : 0 < (fam true xs).length := List.length_pos_iff.2 hz
   obtain ⟨gl, rfl⟩ := hal hz0
   clear hal
   have hnv := leadI_val first (fam true xs).length
   have hn0 := leadI_pos first _ hz0
   have hn1 := leadI_le first (fam true xs).length
   have HI := Lib.hid (show inter xs first true = _ from if_neg hz)
   generalize leadI first (fam true xs).length = n at hnv hn0 hn1 HI
   have hb0 : (((fam true xs).length : Int) == 0) = false := by simp only [beq_eq_false_iff_ne, ne_eq]; omega
   obtain ⟨m, hm⟩ : ∃ m, (if (8 : Int) < first then 8 else first) = m := ⟨_, rfl⟩
   have hm2 : (if (1 : Int) < m then m else 1) = cl first := by rw [← hm]; unfold cl; split <;> split <;> (try split) <;> (try split) <;> omega
   obtain ⟨bo, bl, hst⟩ := St.start (fam_mem hxs) (fam_mem hxs) hoo hol t1
   have htk : ∀ x ∈ (fam true xs).take n, IsAd x := fun x hx => fam_mem hxs x (List.mem_of_mem_take hx)
   obtain ⟨hn2, hn3⟩ := (Rd.take hst.l n hn1).news (by omega) (ads_len htk)
   have hlt : ((fam true xs).take n).length = n := by rw [List.length_take]; omega
   have HLT := Lib.hid hlt
   clear hlt
   go_wp2_with fail
   refine wp_region_held (S := fun _ => True) (by kernel_rfl) ?_
   change wpAnyH _ _ _ _ _ _ _ _ w1.drew
   refine wpAnyH_take (i := 0) (oi := { dst := some 30, op := Op.move (Operand.tmp 10), type := 35, pos := "interleave.go:30", after := #[], guard := none }) (v := .slice none 0 0) rfl (by kernel_rfl) (by kernel_rfl) (by kernel_rfl) (fun _ _ _ h => h) (Or.inl ⟨by rfl, fun _ _ => by rfl⟩) trivial ?_
   simp only [Act.put, List.setIfInBounds_toArray, List.set_cons_zero, List.set_cons_succ]
   refine wpAnyH_take (i := 1) (oi := { dst := some 31, op := Op.move (Operand.tmp 8), type := 35, pos := "interleave.go:30", after := #[], guard := none }) (v := .slice (some ⟨gl, 0, none⟩) (fam true xs).length kl) rfl (by kernel_rfl) (by kernel_rfl) (by kernel_rfl) (fun _ _ _ h => h) (Or.inl ⟨by rfl, fun _ _ => by rfl⟩) trivial ?_
   simp only [Act.put, List.setIfInBounds_toArray, List.set_cons_zero, List.set_cons_succ]
   refine wpAnyH_take (i := 2) (oi := { dst := some 32, op := Op.move (Operand.tmp 9), type := 3, pos := "interleave.go:30", after := #[], guard := none }) (v := .int .i64 n) rfl (by kernel_rfl) (by kernel_rfl) (by kernel_rfl) (fun _ _ _ h => h) (Or.inl ⟨by rfl, fun _ _ => by rfl⟩) trivial ?_
   simp only [Act.put, List.setIfInBounds_toArray, List.set_cons_zero, List.set_cons_succ]
   refine wpAnyH_take (i := 3) (oi := { dst := some 33, op := Op.slice 35 (Operand.tmp 31) none (some (Operand.tmp 32)) none, type := 35, pos := "interleave.go:30", after := #[{ on := 1, ground := Ground.data }, { on := 2, ground := Ground.data }], guard := none }) (v := .slice (some ⟨gl, 0, none⟩) n kl) rfl (by kernel_rfl) (by kernel_rfl) (by kernel_rfl) (fun _ _ _ h => h) (Or.inl ⟨by rfl, fun w' _ => by first | (go_simp; done) | (go_simp; intro h; exfalso; omega)⟩) trivial ?_
   simp only [Act.put, List.setIfInBounds_toArray, List.set_cons_zero, List.set_cons_succ]
   refine wpAnyH_take (i := 5) (oi := { dst := some 35, op := Op.move (Operand.tmp 8), type := 35, pos := "interleave.go:30", after := #[], guard := none }) (v := .slice (some ⟨gl, 0, none⟩) (fam true xs).length kl) rfl (by kernel_rfl) (by kernel_rfl) (by kernel_rfl) (fun _ _ _ h => h) (Or.inl ⟨by rfl, fun _ _ => by rfl⟩) trivial ?_
   simp only [Act.put, List.setIfInBounds_toArray, List.set_cons_zero, List.set_cons_succ]
   refine wpAnyH_take (i := 6) (oi := { dst := some 36, op := Op.move (Operand.tmp 9), type := 3, pos := "interleave.go:30", after := #[], guard := none }) (v := .int .i64 n) rfl (by kernel_rfl) (by kernel_rfl) (by kernel_rfl) (fun _ _ _ h => h) (Or.inl ⟨by rfl, fun _ _ => by rfl⟩) trivial ?_
   simp only [Act.put, List.setIfInBounds_toArray, List.set_cons_zero, List.set_cons_succ]
   refine wpAnyH_take (i := 7) (oi := { dst := some 37, op := Op.slice 35 (Operand.tmp 35) (some (Operand.tmp 36)) none none, type := 35, pos := "interleave.go:30", after := #[{ on := 5, ground := Ground.data }, { on := 6, ground := Ground.data }], guard := none }) (v := cutv (some ⟨gl, 0, none⟩) (fam true xs).length kl n 17) rfl (by kernel_rfl) (by kernel_rfl) (by kernel_rfl) (fun _ _ _ h => h) (yieldsIf_from (by rfl) 35 _ _ rfl 40 17 Tryz.underlying35 size31 (some ⟨gl, 0, none⟩) (fam true xs).length kl n rfl rfl hn1) trivial ?_
   simp only [Act.put, List.setIfInBounds_toArray, List.set_cons_zero, List.set_cons_succ]
   refine wpAnyH_ready (rs := [4]) (by kernel_rfl) (by simp) ?_
   refine cnH rfl (fun K hK => ?_) AllReadyH.nil
   refine step_app _ (by rfl) (.tmp 30) (.tmp 33) 35 (by rfl) 40 i40 _ 17 17 Tryz.underlying35 hi40 hz40 hs40 hb40 rfl (by omega) _ 0 [] (by rfl) (Own.nil w w1.drew).row _ n _ ((fam true xs).take n).flatten (by rfl) (by rw [flat_len (ads_len htk), HLT.out]) hn2 hn3 (ads_one htk) (by unfold maxLen; omega) (by omega) ?_
   intro vout w2 ho2 t2 hv2
   refine hK.out _ _ trivial (fun _ => ?_)
   clear hK K
   simp only [Act.put, List.setIfInBounds_toArray, List.set_cons_zero, List.set_cons_succ]
   refine wpAnyH_take (i := 8) (oi := { dst := some 10, op := Op.assign (Operand.tmp 34), type := 35, pos := "interleave.go:30", after := #[{ on := 4, ground := Ground.data }, { on := 4, ground := Ground.chain }, { on := 0, ground := Ground.phase }, { on := 1, ground := Ground.phase }, { on := 2, ground := Ground.phase }, { on := 3, ground := Ground.phase }, { on := 4, ground := Ground.phase }, { on := 5, ground := Ground.textOnly Departure.lateStores }, { on := 6, ground := Ground.textOnly Departure.lateStores }, { on := 7, ground := Ground.textOnly Departure.lateStoresUnsure }], guard := none }) (v := vout) rfl (by kernel_rfl) (by kernel_rfl) (by kernel_rfl) (fun _ _ _ h => h) (Or.inl ⟨by rfl, fun _ _ => by rfl⟩) trivial ?_
   simp only [Act.put, List.setIfInBounds_toArray, List.set_cons_zero, List.set_cons_succ]
   refine wpAnyH_take (i := 9) (oi := { dst := some 8, op := Op.assign (Operand.tmp 37), type := 35, pos := "interleave.go:30", after := #[{ on := 7, ground := Ground.data }, { on := 8, ground := Ground.chain }, { on := 0, ground := Ground.phase }, { on := 1, ground := Ground.phase }, { on := 2, ground := Ground.phase }, { on := 3, ground := Ground.phase }, { on := 4, ground := Ground.phase }, { on := 5, ground := Ground.phase }, { on := 6, ground := Ground.phase }, { on := 7, ground := Ground.phase }, { on := 8, ground := Ground.phase }], guard := none }) (v := cutv (some ⟨gl, 0, none⟩) (fam true xs).length kl n 17) rfl (by kernel_rfl) (by kernel_rfl) (by kernel_rfl) (fun _ _ _ h => h) (Or.inl ⟨by rfl, fun _ _ => by rfl⟩) trivial ?_
   simp only [Act.put, List.setIfInBounds_toArray, List.set_cons_zero, List.set_cons_succ]
   refine wpAnyH_done (by kernel_rfl) ?_ _
   have hst2 := (hst.drew).app (news := (fam true xs).take n) (by rw [HLT.out]; simpa using ho2) t2 hv2 (Nat.le_refl _)
   clear hst ho2 t2 hv2 hn2 hn3 hol hoo hd hv
   have hst3 := hst2.dropl n hn1
   clear hst2
   have HL := Lib.hid (show inter xs first true = (fam true xs).take n ++ zipR (fam false xs) ((fam true xs).drop n) from HI.out)
   have hsum : (fam false xs).length + ((fam true xs).drop n).length + ([] ++ (fam true xs).take n).length ≤ 2000000 := by rw [List.nil_append, HLT.out, List.length_drop]; omega
   rw [List.nil_append] at hst3 hsum
   go_wp2_with fail
   go_loopw [7, 8, 10] (fun vo vl vout wr => ∃ os ls acc, St w wr vo vl vout bo bl os ls acc ∧ os.length + ls.length + acc.length ≤ 2000000 ∧ acc ++ zipR os ls = inter xs first true)
    (fun vo _ _ _ => lenOf vo)
   case atStart => exact ⟨_, _, _, hst3, hsum, HL.out.symm⟩
   case round =>
    obtain ⟨os, ls, acc, hst, hsm, heq⟩ := hrel
    have HEQ := Lib.hid heq
    clear heq
    obtain ⟨a7, c7, rfl, h71, h72⟩ := hst.o.form
    obtain ⟨a8, c8, rfl, h81, h82⟩ := hst.l.form
    by_cases hne : os ≠ [] ∧ ls ≠ []
    ·obtain ⟨hno, hnl⟩ := hne
     cases os with
     | nil => exact absurd rfl hno
     | cons o os =>
     cases ls with
     | nil => exact absurd rfl hnl
     | cons l ls =>
     obtain ⟨o7, rfl, hat7⟩ := hst.o.at hno
     obtain ⟨o8, rfl, hat8⟩ := hst.l.at hnl
     have hro := hat7 0 o rfl
     have hrl := hat8 0 l rfl
     have hado := hst.ao o List.mem_cons_self
     have hadl := hst.al l List.mem_cons_self
     have hrow := hst.drew.out.row
     have HEQ2 := Lib.hid (show (acc ++ [o, l]) ++ zipR os ls = inter xs first true by rw [← HEQ.out, List.append_assoc]; rfl)
     clear HEQ hat7 hat8
     simp only [Nat.zero_mul, Nat.add_zero, List.length_cons] at *
     have hstD := hst.drew
     have hS : wr.drew.rangeAt bo o7 o ∧ wr.drew.rangeAt bl o8 l := ⟨hro, hrl⟩
     go_wp2_with fail
     refine wp_region_held (S := fun w' => w'.rangeAt bo o7 o ∧ w'.rangeAt bl o8 l) (by kernel_rfl) ?_
     change wpAnyH _ _ _ _ _ _ _ _ wr.drew
     refine tkH 0 (?_) ?_ (hy := Or.inl ⟨by rfl, fun _ _ => by rfl⟩)
     refine tkH 1 (?_) ?_ (hy := Or.inl ⟨by rfl, fun _ _ => by rfl⟩)
     refine tkH 2 (.pointer (some ⟨bo, o7, none⟩)) ?_ (hy := Or.inl ⟨by rfl, fun w' _ => by go_simp⟩)
     refine tkH 3 (.agg o.toArray) ?_ (hy := yieldsIf_load_mid (by rfl) 40 _ rfl bo o7 rfl o _ (fun w' h => h.1) Tryz.underlying40 rfl (by rw [size31, hado.len]))
     refine tkH 4 (?_) ?_ (hy := Or.inl ⟨by rfl, fun _ _ => by rfl⟩)
     refine tkH 5 (.pointer (some ⟨bl, o8, none⟩)) ?_ (hy := Or.inl ⟨by rfl, fun w' _ => by go_simp⟩)
     refine tkH 6 (.agg l.toArray) ?_ (hy := yieldsIf_load_mid (by rfl) 40 _ rfl bl o8 rfl l _ (fun w' h => h.2) Tryz.underlying40 rfl (by rw [size31, hadl.len]))
     refine wpAnyH_ready (rs := [7]) (by kernel_rfl) (by simp) ?_
     refine cnH rfl (fun K hK => ?_) AllReadyH.nil
     refine step_of_list rfl ?_
     refine wpList_buildSlice_rows rfl 35 2 _ rfl 40 17 i40 _ Tryz.underlying35 hi40 hz40 hs40 (by omega) [o, l] rfl (by simp [hado.len, hadl.len]) (by omega) (by rfl) ?_
     have tA := (Touch.refl [] wr.drew).alloc (.cells [o, l].flatten.toArray 40)
     have hrow2 := (hstD.out.touch tA (by simp)).row
     refine ⟨rfl, hK.out _ _ ⟨tA.range hS.1 (by simp), tA.range hS.2 (by simp)⟩ (fun hS2 => ?_)⟩
     clear hK K
     simp only [Act.put, List.setIfInBounds_toArray, List.set_cons_zero, List.set_cons_succ]
     refine wpAnyH_ready (rs := [8]) (by kernel_rfl) (by simp) ?_
     refine cnH rfl (fun K hK => ?_) AllReadyH.nil
     refine step_app _ (by rfl) (.tmp 46) (.tmp 53) 35 (by rfl) 40 i40 _ 17 17 Tryz.underlying35 hi40 hz40 hs40 hb40 rfl (by omega) _ acc.length _ (by rfl) hrow2 (some ⟨wr.drew.heap.size, 0, none⟩) 2 2 ([o, l].flatten) (by rfl) (by simp [hado.len, hadl.len]) (by intro h; cases h) (fun ad e => by cases e; intro j u hu; exact World.news_of_block (heap_alloc_new wr.drew _) j u (by simpa using hu)) (by intro u hu; simp only [List.flatten_cons, List.flatten_nil, List.append_nil, List.mem_append] at hu; rcases hu with h | h; exact hado.one u h; exact hadl.one u h) (by unfold maxLen; omega) (by omega) ?_
     intro vout w3 ho3 t3 hv3
     have hst3 := hstD.app (w2 := w3) (news := [o, l]) ho3 ((Touch.mono tA (by simp)).trans t3 (fun x hx => .inl hx)) hv3 (by simp)
     have hS3 : w3.rangeAt bo o7 o ∧ w3.rangeAt bl o8 l := ⟨t3.range hS2.1 (fun hm => hst.fo hno (by simpa using hm)), t3.range hS2.2 (fun hm => hst.fl hnl (by simpa using hm))⟩
     refine hK.out _ _ hS3 (fun _ => ?_)
     clear hK K ho3 t3 hv3 hrow2 hstD hS2 tA hS hro hrl hrow
     simp only [Act.put, List.setIfInBounds_toArray, List.set_cons_zero, List.set_cons_succ]
     refine wpAnyH_take (i := 9) (oi := { dst := some 10, op := Op.assign (Operand.tmp 54), type := 35, pos := "interleave.go:32", after := #[{ on := 8, ground := Ground.data }, { on := 8, ground := Ground.chain }, { on := 0, ground := Ground.phase }, { on := 1, ground := Ground.phase }, { on := 2, ground := Ground.phase }, { on := 3, ground := Ground.phase }, { on := 4, ground := Ground.phase }, { on := 5, ground := Ground.phase }, { on := 6, ground := Ground.phase }, { on := 7, ground := Ground.phase }, { on := 8, ground := Ground.phase }], guard := none }) (v := ?_) rfl (by kernel_rfl) (by kernel_rfl) (by kernel_rfl) (fun _ _ _ h => h) (Or.inl ⟨by rfl, fun _ _ => by rfl⟩) hS3 ?_
     simp only [Act.put, List.setIfInBounds_toArray, List.set_cons_zero, List.set_cons_succ]
     refine wpAnyH_done (by kernel_rfl) ?_ _
     clear hS3
     go_wp2_with fail
     refine wp_region_still_lit (by kernel_rfl) (by kernel_rfl) ?_
     still_step
     refine wpStill_from rfl 35 _ _ rfl 40 17 Tryz.underlying35 size31 _ _ _ 1 rfl rfl (by omega) ?_
     still_step
     refine wpStill_from rfl 35 _ _ rfl 40 17 Tryz.underlying35 size31 _ _ _ 1 rfl rfl (by omega) ?_
     iterate 2 still_step
     refine wpStill_nil ?_
     change Exit.inBlock _ _ _ _ w3.drew
     have hst4 := (hst3.drew.dropo 1 (by simp)).dropl 1 (by simp)
     go_wp2_with fail
     go_roundw
     case rel => exact ⟨os, ls, acc ++ [o, l], hst4, by rw [List.length_append]; simp only [List.length_cons, List.length_nil]; omega, HEQ2.out⟩
     case measure => simp [lenOf, cutv]
    ·have hz : os = [] ∨ ls = [] := by
      by_cases h : os = []
      ·exact .inl h
      ·exact .inr (by by_cases h2 : ls = []; exact h2; exact absurd ⟨h, h2⟩ hne)
     by_cases hoe : ls = []
     ·subst hoe
      clear hne hz
      simp only [List.length_nil] at *
      have h1 : (0 : Int) ≤ (os.length : Int) := by omega
      obtain ⟨hm1, hm2⟩ := hst.l.news (by omega) (ads_len hst.al)
      go_wp2_with (at_builtin; refine wpList_app _ (by rfl) _ _ 35 (by rfl) 40 i40 _ 17 17 Tryz.underlying35 hi40 hz40 hs40 hb40 rfl (by omega) _ acc.length _ (by rfl) hst.out.row a8 0 c8 ([] : List (List Value)).flatten (by rfl) (flat_len (ads_len hst.al)) hm1 hm2 (ads_one hst.al) (by unfold maxLen; omega) (by omega) ?_)
      intro v2 w3 ho3 t3 hv3
      have hst2 := hst.app (news := ([] : List (List Value))) (by simpa using ho3) t3 hv3 (Nat.le_refl _)
      obtain ⟨hm3, hm4⟩ := hst2.o.news (by omega) (ads_len hst.ao)
      have hla : (acc ++ ([] : List (List Value))).length ≤ 2000000 := by simp only [List.length_append, List.length_nil]; omega
      have hlb : (acc ++ ([] : List (List Value))).length + os.length ≤ 2000000 := by simp only [List.length_append, List.length_nil]; omega
      clear ho3 t3 hv3 hm1 hm2
      go_wp2_with (at_builtin; refine wpList_app _ (by rfl) _ _ 35 (by rfl) 40 i40 _ 17 17 Tryz.underlying35 hi40 hz40 hs40 hb40 rfl (by omega) _ (acc ++ ([] : List (List Value))).length _ (by rfl) hst2.out.row a7 os.length c7 os.flatten (by rfl) (flat_len (ads_len hst.ao)) hm3 hm4 (ads_one hst.ao) (by unfold maxLen; omega) (by omega) ?_)
      intro v3 w4 ho4 t4 hv4
      have hst3 := hst2.app (news := os) (by simpa [Nat.add_assoc] using ho4) t4 hv4 (Nat.le_refl _)
      go_wp2_with fail
      go_ret
      exact ⟨_, rfl, by rw [show inter xs first true = acc ++ ([] : List (List Value)) ++ os by rw [← HEQ.out, zipR_nil (.inr rfl)]; simp]; exact hst3.out, hst3.t⟩
     ·have hop : 0 < ls.length := List.length_pos_iff.2 hoe
      obtain rfl : os = [] := by rcases hz with h | h; exact h; exact absurd h hoe
      clear hne hz hoe
      simp only [List.length_nil] at *
      obtain ⟨hm1, hm2⟩ := hst.l.news (by omega) (ads_len hst.al)
      go_wp2_with (at_builtin; refine wpList_app _ (by rfl) _ _ 35 (by rfl) 40 i40 _ 17 17 Tryz.underlying35 hi40 hz40 hs40 hb40 rfl (by omega) _ acc.length _ (by rfl) hst.out.row a8 ls.length c8 ls.flatten (by rfl) (flat_len (ads_len hst.al)) hm1 hm2 (ads_one hst.al) (by unfold maxLen; omega) (by omega) ?_)
      intro v2 w3 ho3 t3 hv3
      have hst2 := hst.app (news := ls) (by simpa using ho3) t3 hv3 (Nat.le_refl _)
      obtain ⟨hm3, hm4⟩ := hst2.o.news (by omega) (ads_len hst.ao)
      have hla : (acc ++ ls).length ≤ 2000000 := by simp only [List.length_append, List.length_nil]; omega
      have hlb : (acc ++ ls).length + 0 ≤ 2000000 := by simp only [List.length_append, List.length_nil]; omega
      clear ho3 t3 hv3 hm1 hm2
      go_wp2_with (at_builtin; refine wpList_app _ (by rfl) _ _ 35 (by rfl) 40 i40 _ 17 17 Tryz.underlying35 hi40 hz40 hs40 hb40 rfl (by omega) _ (acc ++ ls).length _ (by rfl) hst2.out.row a7 0 c7 ([] : List (List Value)).flatten (by rfl) (flat_len (ads_len hst.ao)) hm3 hm4 (ads_one hst.ao) (by unfold maxLen; omega) (by omega) ?_)
      intro v3 w4 ho4 t4 hv4
      have hst3 := hst2.app (news := ([] : List (List Value))) (by simpa [Nat.add_assoc] using ho4) t4 hv4 (Nat.le_refl _)
      go_wp2_with fail
      go_ret
      exact ⟨_, rfl, by rw [show inter xs first true = acc ++ ls ++ ([] : List (List Value)) by rw [← HEQ.out, zipR_nil (.inl rfl)]; simp]; exact hst3.out, hst3.t⟩
end Go.Proofs.YtiklhaajhdephaaGreatDoor

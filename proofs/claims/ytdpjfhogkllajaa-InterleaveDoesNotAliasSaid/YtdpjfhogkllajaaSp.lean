/-
  The contracts of SplitFamilies, the program's and the reference's: two new slices, the addresses of each family in order.
-/
import Derived.Test.YtdpjfhogkllajaaSl
namespace Go.Proofs.Ytdpjfhogkllajaa
open Go.RowKit Go.Deep
set_option linter.unusedVariables false
set_option linter.unusedSimpArgs false

def flagv : List Value → Bool
  | .bool b :: _ => b
  | _ => false
theorem IsAd.flagv {x : List Value} (h : IsAd x) : x[0]? = some (.bool (flagv x)) := by
  obtain ⟨b, xs, rfl, _, _⟩ := h
  rfl
def fam (b : Bool) (xs : List (List Value)) : List (List Value) := xs.filter fun x => flagv x == b
theorem fam_step {b : Bool} {xs : List (List Value)} {i : Nat} {x : List Value} (hx : xs[i]? = some x) : fam b (xs.take (i + 1)) = fam b (xs.take i) ++ if flagv x == b then [x] else [] := by
  unfold fam
  rw [List.take_add_one, hx, Option.toList, List.filter_append]
  by_cases h : (flagv x == b) = true
  · simp [h]
  · simp only [Bool.not_eq_true] at h
    simp [h]
theorem fam_mem {b : Bool} {xs : List (List Value)} (h : ∀ x ∈ xs, IsAd x) : ∀ x ∈ fam b xs, IsAd x := fun x hx => h x (List.mem_filter.1 hx).1
theorem fam_le (b : Bool) (xs : List (List Value)) : (fam b xs).length ≤ xs.length := List.length_filter_le _ _

theorem Own.push {w wr w1 w2 : World} {vo vp vB : Value} {ys zs : List (List Value)} {x : List Value} (ho : Own w wr vo ys) (hp : Own w wr vp zs) (hd : ∀ g, vo.ownBlock = some g → vp.ownBlock ≠ some g)
    (ht : Touch [] w wr) (t1 : Touch [] wr w1) (ho2 : w2.ownsRow 0 31 17 vB (ys.length + 1) (ys.flatten ++ x)) (t2 : Touch vo.ownBlock.toList w1 w2) (hv : vB.ownBlock = vo.ownBlock ∨ vB.ownBlock = some (w1.heap.size + 1)) :
    Own w w2 vB (ys ++ [x]) ∧ Own w w2 vp zs ∧ (∀ g, vB.ownBlock = some g → vp.ownBlock ≠ some g) ∧ Touch [] w w2 := by
  have z1 := ht.size
  have z2 := t1.size
  refine ⟨⟨by rw [flatten_snoc, List.length_append]; exact ho2, ?_⟩, ?_, ?_, (ht.trans t1 (by simp)).trans t2 (fun g hg => .inr (ho.new g (by simpa using hg)))⟩
  · intro g hg
    rcases hv with e | e
    · rw [e] at hg; exact ho.new g hg
    · rw [e] at hg; simp at hg; omega
  · refine (hp.touch t1 (by simp)).touch t2 ?_
    intro g hg hm
    exact hd g (by simpa using hm) hg
  · intro g hg hpg
    rcases hv with e | e
    · rw [e] at hg; exact hd g hg hpg
    · rw [e] at hg
      simp at hg
      have := hp.lt g hpg
      omega

set_option maxRecDepth 100000 in
set_option maxHeartbeats 4000000 in
theorem split9 (v : Value) (b : Nat) (xs : List (List Value)) (w : World) (hl : xs.length ≤ 100) (hv : Rd w 17 b v xs) (hxs : ∀ x ∈ xs, IsAd x) :
    Calls Try.prog 9 #[v] w fun e w' => ∃ v4 v6, e = .returned (.tuple #[v4, v6]) ∧ Own w w' v4 (fam false xs) ∧ Own w w' v6 (fam true xs) ∧ (∀ g, v4.ownBlock = some g → v6.ownBlock ≠ some g) ∧ Touch [] w w' := by
  obtain ⟨i31, hi31, hz31, hs31, hb31⟩ := info_parts info31
  obtain ⟨a, cap, rfl, hlc, hcm⟩ := hv.form
  have hcm2 : cap ≤ 9223372036854775807 := by unfold maxLen at hcm; omega
  go_enter Try.func9, Try.ntmps9
  go_wp2_with fail
  go_loopw [4, 5, 6] (fun v4 v6 vi wr => ∃ (i : Nat), i ≤ xs.length ∧ vi = .int .i64 i ∧ Own w wr v4 (fam false (xs.take i)) ∧ Own w wr v6 (fam true (xs.take i)) ∧ (∀ g, v4.ownBlock = some g → v6.ownBlock ≠ some g) ∧ Touch [] w wr)
    (fun _ _ vi _ => xs.length - (intOf vi).toNat)
  case atStart => exact ⟨0, by omega, rfl, by simpa [fam] using Own.nil _ _, by simpa [fam] using Own.nil _ _, by simp [Value.ownBlock], Touch.refl _ _⟩
  case round =>
    obtain ⟨i, hix, rfl, ho4, ho6, hd, ht⟩ := hrel
    have hd' : ∀ g, u5.ownBlock = some g → u4.ownBlock ≠ some g := fun g h1 h2 => hd g h2 h1
    have L4 := fam_le false (xs.take i)
    have L6 := fam_le true (xs.take i)
    rw [List.length_take] at L4 L6
    by_cases hlt : i < xs.length
    · obtain ⟨off, rfl, hat⟩ := hv.at (by intro e; subst e; simp at hlt)
      have hx : xs[i]? = some xs[i] := List.getElem?_eq_getElem hlt
      have hadx := hxs _ (List.getElem_mem hlt)
      have S4 := fam_step (b := false) hx
      have S6 := fam_step (b := true) hx
      generalize xs[i] = x at hx hadx S4 S6
      have hrg := ht.range (hat i x hx) (by simp)
      have hfl := hrg 0 _ hadx.flagv
      rw [Nat.add_zero] at hfl
      cases hf : flagv x
      · have hrow := ho4.row
        rw [hf] at hfl S4 S6
        simp at S4 S6
        clear hat
        go_wp2_with (first
          | (refine wpList_load_mid rfl 31 _ rfl b (off + i * 17) rfl x _ hrg Try.underlying31 rfl (by rw [size31, hadx.len]) ?_)
          | (refine wpList_buildSlice_rows rfl 22 1 _ rfl 31 17 i31 _ Try.underlying22 hi31 hz31 hs31 (by omega) [x] rfl (by simp [hadx.len]) (by omega) (by rfl) ?_)
          | (at_builtin; refine wpList_app_rec _ (by rfl) _ _ 22 (by rfl) 31 i31 _ 17 17 Try.underlying22 hi31 hz31 hs31 hb31 rfl (by omega) _ (fam false (xs.take i)).length _ (by rfl) hrow ([x].flatten) 31 (by rfl) (by simp [hadx.len]) (by simpa using hadx.one) (by unfold maxLen; omega) (by omega) ?_))
        intro vo w2 ho2 t2 hv2
        obtain ⟨p1, p2, p3, p4⟩ := ho4.push ho6 hd ht (Touch.refl _ _) ho2 t2 hv2
        clear hv2 ho2 t2 hrow hrg
        go_wp2_with fail
        go_roundw
        case rel => exact ⟨i + 1, by omega, by go_num, by rw [S4]; exact p1, by rw [S6]; exact p2, p3, p4⟩
        case measure => simp [intOf]; omega
      · have hrow := ho6.row
        rw [hf] at hfl S4 S6
        simp at S4 S6
        clear hat
        go_wp2_with (first
          | (refine wpList_load_mid rfl 31 _ rfl b (off + i * 17) rfl x _ hrg Try.underlying31 rfl (by rw [size31, hadx.len]) ?_)
          | (refine wpList_buildSlice_rows rfl 22 1 _ rfl 31 17 i31 _ Try.underlying22 hi31 hz31 hs31 (by omega) [x] rfl (by simp [hadx.len]) (by omega) (by rfl) ?_)
          | (at_builtin; refine wpList_app_rec _ (by rfl) _ _ 22 (by rfl) 31 i31 _ 17 17 Try.underlying22 hi31 hz31 hs31 hb31 rfl (by omega) _ (fam true (xs.take i)).length _ (by rfl) hrow ([x].flatten) 31 (by rfl) (by simp [hadx.len]) (by simpa using hadx.one) (by unfold maxLen; omega) (by omega) ?_))
        intro vo w2 ho2 t2 hv2
        obtain ⟨p1, p2, p3, p4⟩ := ho6.push ho4 hd' ht (Touch.refl _ _) ho2 t2 hv2
        clear hv2 ho2 t2 hrow hrg
        go_wp2_with fail
        go_roundw
        case rel => exact ⟨i + 1, by omega, by go_num, by rw [S4]; exact p2, by rw [S6]; exact p1, fun g h1 h2 => p3 g h2 h1, p4⟩
        case measure => simp [intOf]; omega
    · obtain rfl : i = xs.length := by omega
      rw [List.take_length] at ho4 ho6
      go_wp2_with fail
      go_ret2
      exact ⟨_, _, rfl, ho4, ho6, hd, ht⟩
set_option maxRecDepth 100000 in
set_option maxHeartbeats 4000000 in
theorem split8 (v : Value) (b : Nat) (xs : List (List Value)) (w : World) (hl : xs.length ≤ 100) (hv : Rd w 17 b v xs) (hxs : ∀ x ∈ xs, IsAd x) :
    Calls Try.prog 8 #[v] w fun e w' => ∃ v4 v6, e = .returned (.tuple #[v4, v6]) ∧ Own w w' v4 (fam false xs) ∧ Own w w' v6 (fam true xs) ∧ (∀ g, v4.ownBlock = some g → v6.ownBlock ≠ some g) ∧ Touch [] w w' := by
  obtain ⟨i31, hi31, hz31, hs31, hb31⟩ := info_parts info31
  obtain ⟨a, cap, rfl, hlc, hcm⟩ := hv.form
  have hcm2 : cap ≤ 9223372036854775807 := by unfold maxLen at hcm; omega
  go_enter Try.func8, Try.ntmps8
  go_wp2_with fail
  go_loopw [4, 5, 10] (fun v4 v6 vi wr => ∃ (i : Nat), i ≤ xs.length ∧ vi = .int .i64 i ∧ Own w wr v4 (fam false (xs.take i)) ∧ Own w wr v6 (fam true (xs.take i)) ∧ (∀ g, v4.ownBlock = some g → v6.ownBlock ≠ some g) ∧ Touch [] w wr)
    (fun _ _ vi _ => xs.length - (intOf vi).toNat)
  case atStart => exact ⟨0, by omega, rfl, by simpa [fam] using Own.nil _ _, by simpa [fam] using Own.nil _ _, by simp [Value.ownBlock], Touch.refl _ _⟩
  case round =>
    obtain ⟨i, hix, rfl, ho4, ho6, hd, ht⟩ := hrel
    have hd' : ∀ g, u5.ownBlock = some g → u4.ownBlock ≠ some g := fun g h1 h2 => hd g h2 h1
    have L4 := fam_le false (xs.take i)
    have L6 := fam_le true (xs.take i)
    rw [List.length_take] at L4 L6
    by_cases hlt : i < xs.length
    · obtain ⟨off, rfl, hat⟩ := hv.at (by intro e; subst e; simp at hlt)
      have hx : xs[i]? = some xs[i] := List.getElem?_eq_getElem hlt
      have hadx := hxs _ (List.getElem_mem hlt)
      have S4 := fam_step (b := false) hx
      have S6 := fam_step (b := true) hx
      generalize xs[i] = x at hx hadx S4 S6
      have hrg := ht.range (hat i x hx) (by simp)
      have hnw := range_new wr x 31
      have hfl := hadx.flagv
      cases hf : flagv x
      · have hrow := (ho4.touch ((Touch.refl [] wr).alloc (.cells x.toArray 31)) (by simp)).row
        rw [hf] at hfl S4 S6
        simp at S4 S6
        clear hat
        go_wp2_with (first
          | (refine wpList_load_mid rfl 31 _ rfl b (off + i * 17) rfl x _ hrg Try.underlying31 rfl (by rw [size31, hadx.len]) ?_)
          | (refine wpList_store_new rfl 31 _ _ rfl _ 31 x (by rfl) (by rfl) (by rw [hadx.len]; rfl) (by rw [size31, hadx.len]) hadx.one ?_)
          | (refine wpList_load_mid rfl 31 _ rfl wr.heap.size 0 rfl x _ hnw Try.underlying31 rfl (by rw [size31, hadx.len]) ?_)
          | (refine wpList_buildSlice_rows rfl 22 1 _ rfl 31 17 i31 _ Try.underlying22 hi31 hz31 hs31 (by omega) [x] rfl (by simp [hadx.len]) (by omega) (by rfl) ?_)
          | (at_builtin; refine wpList_app_rec _ (by rfl) _ _ 22 (by rfl) 31 i31 _ 17 17 Try.underlying22 hi31 hz31 hs31 hb31 rfl (by omega) _ (fam false (xs.take i)).length _ (by rfl) hrow ([x].flatten) 31 (by rfl) (by simp [hadx.len]) (by simpa using hadx.one) (by unfold maxLen; omega) (by omega) ?_))
        intro vo w2 ho2 t2 hv2
        obtain ⟨p1, p2, p3, p4⟩ := ho4.push ho6 hd ht ((Touch.refl [] wr).alloc _) ho2 t2 (by simpa using hv2)
        clear hv2 ho2 t2 hrow hrg
        go_wp2_with fail
        go_roundw
        case rel => exact ⟨i + 1, by omega, by go_num, by rw [S4]; exact p1, by rw [S6]; exact p2, p3, p4⟩
        case measure => simp [intOf]; omega
      · have hrow := (ho6.touch ((Touch.refl [] wr).alloc (.cells x.toArray 31)) (by simp)).row
        rw [hf] at hfl S4 S6
        simp at S4 S6
        clear hat
        go_wp2_with (first
          | (refine wpList_load_mid rfl 31 _ rfl b (off + i * 17) rfl x _ hrg Try.underlying31 rfl (by rw [size31, hadx.len]) ?_)
          | (refine wpList_store_new rfl 31 _ _ rfl _ 31 x (by rfl) (by rfl) (by rw [hadx.len]; rfl) (by rw [size31, hadx.len]) hadx.one ?_)
          | (refine wpList_load_mid rfl 31 _ rfl wr.heap.size 0 rfl x _ hnw Try.underlying31 rfl (by rw [size31, hadx.len]) ?_)
          | (refine wpList_buildSlice_rows rfl 22 1 _ rfl 31 17 i31 _ Try.underlying22 hi31 hz31 hs31 (by omega) [x] rfl (by simp [hadx.len]) (by omega) (by rfl) ?_)
          | (at_builtin; refine wpList_app_rec _ (by rfl) _ _ 22 (by rfl) 31 i31 _ 17 17 Try.underlying22 hi31 hz31 hs31 hb31 rfl (by omega) _ (fam true (xs.take i)).length _ (by rfl) hrow ([x].flatten) 31 (by rfl) (by simp [hadx.len]) (by simpa using hadx.one) (by unfold maxLen; omega) (by omega) ?_))
        intro vo w2 ho2 t2 hv2
        obtain ⟨p1, p2, p3, p4⟩ := ho6.push ho4 hd' ht ((Touch.refl [] wr).alloc _) ho2 t2 (by simpa using hv2)
        clear hv2 ho2 t2 hrow hrg
        go_wp2_with fail
        go_roundw
        case rel => exact ⟨i + 1, by omega, by go_num, by rw [S4]; exact p2, by rw [S6]; exact p1, fun g h1 h2 => p3 g h2 h1, p4⟩
        case measure => simp [intOf]; omega
    · obtain rfl : i = xs.length := by omega
      rw [List.take_length] at ho4 ho6
      go_wp2_with fail
      go_ret2
      exact ⟨_, _, rfl, ho4, ho6, hd, ht⟩
end Go.Proofs.Ytdpjfhogkllajaa

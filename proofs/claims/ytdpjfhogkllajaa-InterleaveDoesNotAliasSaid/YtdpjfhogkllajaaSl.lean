/-
  The contracts over slices of addresses: SomeAddrs, SplitFamilies (the program's and the reference's).
-/
import Derived.Test.YtdpjfhogkllajaaGenB
import Derived.Test.YtdpjfhogkllajaaFlat
import Derived.Test.YtdpjfhogkllajaaRecS
namespace Go.Proofs.Ytdpjfhogkllajaa
open Go.RowKit Go.Deep
set_option linter.unusedVariables false
set_option linter.unusedSimpArgs false

theorem info31 : (Try.prog.info? 31).map (fun i => (i.zero, i.size, i.bytes)) = some (some (.agg #[.bool false, .int .u8 0, .int .u8 0, .int .u8 0, .int .u8 0, .int .u8 0, .int .u8 0, .int .u8 0, .int .u8 0, .int .u8 0, .int .u8 0, .int .u8 0, .int .u8 0, .int .u8 0, .int .u8 0, .int .u8 0, .int .u8 0]), 17, 17) := by kernel_rfl

/-- A slice of addresses of the call's own, made since w0. -/
structure Own (w0 w : World) (v : Value) (xs : List (List Value)) : Prop where
  row : w.ownsRow 0 31 17 v xs.length xs.flatten
  new : ∀ g, v.ownBlock = some g → w0.heap.size ≤ g
theorem Own.nil (w0 w : World) : Own w0 w (.slice none 0 0) [] := ⟨World.ownsRow_nil _ _ _ _, by simp [Value.ownBlock]⟩
theorem Own.touch {S : List Nat} {w0 w w' : World} {v : Value} {xs : List (List Value)} (h : Own w0 w v xs) (t : Touch S w w') (hn : ∀ g, v.ownBlock = some g → g ∉ S) : Own w0 w' v xs := ⟨t.owns h.row hn, h.new⟩
theorem Own.lt {w0 w : World} {v : Value} {xs : List (List Value)} (h : Own w0 w v xs) : ∀ g, v.ownBlock = some g → g < w.heap.size := fun g hg => (h.row.lt g hg).2
theorem Own.older {w0 w1 w : World} {v : Value} {xs : List (List Value)} (h : Own w1 w v xs) (hz : w0.heap.size ≤ w1.heap.size) : Own w0 w v xs := ⟨h.row, fun g hg => Nat.le_trans hz (h.new g hg)⟩

theorem flatten_snoc (xs : List (List Value)) (x : List Value) : (xs ++ [x]).flatten = xs.flatten ++ x := by simp
theorem ads_len {xs : List (List Value)} (h : ∀ x ∈ xs, IsAd x) : ∀ x ∈ xs, x.length = 17 := fun x hx => (h x hx).len
theorem ads_one {xs : List (List Value)} (h : ∀ x ∈ xs, IsAd x) : ∀ u ∈ xs.flatten, u.oneCell' = true := by
  intro u hu
  obtain ⟨x, hx, hux⟩ := List.mem_flatten.1 hu
  exact (h x hx).one u hux
theorem ads_snoc {xs : List (List Value)} {x : List Value} (h : ∀ x ∈ xs, IsAd x) (hx : IsAd x) : ∀ y ∈ xs ++ [x], IsAd y := by
  intro y hy
  rcases List.mem_append.1 hy with h1 | h1
  · exact h y h1
  · simp at h1; subst h1; exact hx

set_option maxRecDepth 100000 in
set_option maxHeartbeats 4000000 in
theorem someAddrs_any (v : Value) (b most : Nat) (xs : List (List Value)) (w : World) (hm : most ≤ 100) (hv : Rd w 17 b v xs) (hxs : ∀ x ∈ xs, IsAd x) :
    Calls Try.prog 7 #[v, .int .i64 most] w fun e w' => ∃ v' ys, e = .returned v' ∧ (∀ y ∈ ys, IsAd y) ∧ ys.length ≤ most ∧ Own w w' v' ys ∧ Touch [] w w' := by
  obtain ⟨i31, hi31, hz31, hs31, hb31⟩ := info_parts info31
  obtain ⟨a, cap, rfl, hlc, hcm⟩ := hv.form
  have hcm2 : cap ≤ 9223372036854775807 := by unfold maxLen at hcm; omega
  go_enter Try.func7, Try.ntmps7
  go_wp2_with fail
  go_loopw [5, 6] (fun vo vi wr => ∃ (i : Nat) (ys : List (List Value)), i ≤ xs.length ∧ i ≤ most ∧ vi = .int .i64 i ∧ ys.length = i ∧ (∀ y ∈ ys, IsAd y) ∧ Own w wr vo ys ∧ Touch [] w wr)
    (fun _ vi _ => xs.length - (intOf vi).toNat)
  case atStart => exact ⟨0, [], by omega, by omega, rfl, rfl, by simp, Own.nil _ _, Touch.refl _ _⟩
  case round =>
    obtain ⟨i, ys, hix, him, rfl, hyl, hys, hown, ht⟩ := hrel
    have HYL := Lib.hid hyl
    clear hyl
    by_cases hlt : i < xs.length
    · by_cases hlm : i < most
      · obtain ⟨off, rfl, hat⟩ := hv.at (by intro e; subst e; simp at hlt)
        have hx : xs[i]? = some xs[i] := List.getElem?_eq_getElem hlt
        have hadx := hxs _ (List.getElem_mem hlt)
        generalize xs[i] = x at hx hadx
        have hrg := ht.range (hat i x hx) (by simp)
        clear hat
        go_wp2_with (refine wpList_load_mid rfl 31 _ rfl b (off + i * 17) rfl x _ hrg Try.underlying31 rfl (by rw [size31, hadx.len]) ?_)
        refine (some_any x _ hadx).mono ?_
        rintro e w1 ⟨cs', h', rfl, t1⟩
        have hown1 := hown.touch t1 (by simp)
        have hrow1 := hown1.row
        go_wp2_with (first
          | (refine wpList_buildSlice_rows rfl 22 1 _ rfl 31 17 i31 _ Try.underlying22 hi31 hz31 hs31 (by omega) [cs'] rfl (by simp [h'.len]) (by omega) (by rfl) ?_)
          | (at_builtin; refine wpList_app_rec _ (by rfl) _ _ 22 (by rfl) 31 i31 _ 17 17 Try.underlying22 hi31 hz31 hs31 hb31 rfl (by omega) _ ys.length _ (by rfl) hrow1 ([cs'].flatten) 31 (by rfl) (by simp [h'.len]) (by simpa using h'.one) (by rw [HYL.out]; unfold maxLen; omega) (by rw [HYL.out]; omega) ?_))
        intro vo w2 ho2 t2 hv2
        have hnew2 : ∀ g, vo.ownBlock = some g → w.heap.size ≤ g := by
          intro g hg
          have z1 := ht.size
          have z2 := t1.size
          rcases hv2 with e | e
          · rw [e] at hg; exact hown.new g hg
          · rw [e] at hg; simp at hg; omega
        have hown2 : Own w w2 vo (ys ++ [cs']) := ⟨by rw [flatten_snoc, List.length_append]; exact ho2, hnew2⟩
        have ht2 : Touch [] w w2 := (ht.trans t1 (by simp)).trans t2 (fun g hg => .inr (hown.new g (by simpa using hg)))
        clear hv2 hnew2 ho2 t2 hrow1 hown1 hrg
        go_wp2_with fail
        go_roundw
        case rel => exact ⟨i + 1, ys ++ [cs'], by omega, by omega, by go_num, by simp [HYL.out], ads_snoc hys h', hown2, ht2⟩
        case measure => simp [intOf]; omega
      · go_wp2_with fail
        go_ret
        exact ⟨_, ys, rfl, hys, by rw [HYL.out]; omega, hown, ht⟩
    · go_wp2_with fail
      go_ret
      exact ⟨_, ys, rfl, hys, by rw [HYL.out]; omega, hown, ht⟩
end Go.Proofs.Ytdpjfhogkllajaa

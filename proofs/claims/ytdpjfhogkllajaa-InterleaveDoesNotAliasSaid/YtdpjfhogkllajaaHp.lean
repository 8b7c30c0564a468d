/-
  The contracts of WithSpare, Overwrite and Unchanged at slices of addresses.
-/
import Derived.Test.YtdpjfhogkllajaaAw
import Derived.Test.YtdpjfhogkllajaaAr
namespace Go.Proofs.Ytdpjfhogkllajaa
open Go.RowKit Go.Deep
set_option linter.unusedVariables false
set_option linter.unusedSimpArgs false

theorem Own.rdg {w0 w : World} {a : Option Addr} {n c : Nat} {xs : List (List Value)} (h : Own w0 w (.slice a n c) xs) (hx : ∀ x ∈ xs, IsAd x) (hne : xs ≠ []) : ∃ g, a = some ⟨g, 0, none⟩ ∧ w0.heap.size ≤ g ∧ Rd w 17 g (.slice a n c) xs := by
  obtain ⟨b, h1, h2⟩ := h.rd hx
  obtain ⟨a', c', hv, _, _, h3⟩ := owns_form h.row
  simp only [Value.slice.injEq] at hv
  obtain ⟨rfl, rfl, rfl⟩ := hv
  obtain ⟨g, rfl⟩ := h3 (List.length_pos_iff.2 hne)
  have := h2 hne
  simp [Value.ownBlock] at this
  subst this
  exact ⟨g, rfl, h.new g rfl, h1⟩

set_option maxRecDepth 100000 in
set_option maxHeartbeats 1000000 in
theorem spare_any (v : Value) (b : Nat) (xs : List (List Value)) (f : List Value) (w : World) (hl : xs.length ≤ 100) (hv : Rd w 17 b v xs) (hxs : ∀ x ∈ xs, IsAd x) (hf : IsAd f) :
    Calls Try.prog 15 #[v, .agg f.toArray] w fun e w' => ∃ g, e = .returned (.slice (some ⟨g, 0, none⟩) xs.length (xs.length + 3)) ∧ w.heap.size ≤ g ∧
      Rd w' 17 g (.slice (some ⟨g, 0, none⟩) (xs.length + 3) (xs.length + 3)) (xs ++ [f, f, f]) ∧ Touch [] w w' := by
  obtain ⟨i31, hi31, hz31, hs31, hb31⟩ := info_parts info31
  obtain ⟨a, cap, rfl, hlc, hcm⟩ := hv.form
  have hcm2 : cap ≤ 9223372036854775807 := by unfold maxLen at hcm; omega
  obtain ⟨hn1, hn2⟩ := (((hv.touch ((Touch.refl [] w).alloc (.cells f.toArray 31)) (by simp)).touch ((Touch.refl [] (w.alloc (.cells f.toArray 31))).alloc (.cells #[] 31)) (by simp))).news (by omega) (ads_len hxs)
  have HL := Lib.hid hf.len
  have HX := Lib.hid (flat_len (ads_len hxs))
  have hr := World.rangeAt_alloc (range_new w f 31) (.cells #[] 31)
  have hown0 := World.ownsRow_made (base := 0) (e := 31) (size := 17) (w.alloc (.cells f.toArray 31)) #[] 0 (Nat.zero_le _) (by simp [maxLen]) (by simp)
  simp only [World.size_alloc] at hown0
  have hall : ∀ x ∈ xs ++ [f, f, f], IsAd x := by
    intro x hx
    simp only [List.mem_append, List.mem_cons, List.not_mem_nil, or_false] at hx
    rcases hx with h | rfl | rfl | rfl
    · exact hxs x h
    all_goals assumption
  go_enter Try.func15, Try.ntmps15
  go_wp2_with (first
    | (refine wpList_buildSlice_rows rfl 22 0 _ rfl 31 17 i31 _ Try.underlying22 hi31 hz31 hs31 (by omega) [] rfl (by simp) (by omega) (by rfl) ?_)
    | (at_builtin; refine wpList_app _ (by rfl) _ _ 22 (by rfl) 31 i31 _ 17 17 Try.underlying22 hi31 hz31 hs31 hb31 rfl (by omega) _ 0 _ (by rfl) hown0 a xs.length cap xs.flatten (by rfl) (by rw [HX.out]) hn1 hn2 (ads_one hxs) (by unfold maxLen; omega) (by omega) ?_))
  intro v1 w1 o1 t1 hv1
  try simp only [Nat.zero_add, List.nil_append] at o1
  have tA : Touch [] w w1 := (((Touch.refl [] w).alloc (.cells f.toArray 31)).alloc (.cells #[] 31)).trans t1 (by simp [Value.ownBlock])
  have ho1 : Own w w1 v1 xs := by
    refine ⟨o1, fun g hg => ?_⟩
    rcases hv1 with e | e
    · rw [e] at hg; simp [Value.ownBlock] at hg; omega
    · rw [e] at hg; simp at hg; omega
  have hr1 := t1.range hr (by simp [Value.ownBlock])
  clear o1 t1 hv1 hn1 hn2 hv hown0 hr
  have ho1r := (ho1.touch ((Touch.refl [] w1).alloc (.cells [f, f, f].flatten.toArray 31)) (by simp)).row
  go_wp2_with (first
    | (refine wpList_load_mid rfl 31 _ rfl w.heap.size 0 rfl f _ hr1 Try.underlying31 rfl (by rw [size31, HL.out]) ?_)
    | (refine wpList_buildSlice_rows rfl 22 3 _ rfl 31 17 i31 _ Try.underlying22 hi31 hz31 hs31 (by omega) [f, f, f] rfl (by simp [HL.out]) (by omega) (by rfl) ?_)
    | (at_builtin; refine wpList_app _ (by rfl) _ _ 22 (by rfl) 31 i31 _ 17 17 Try.underlying22 hi31 hz31 hs31 hb31 rfl (by omega) v1 xs.length _ (by rfl) ho1r (some ⟨w1.heap.size, 0, none⟩) 3 3 [f, f, f].flatten (by rfl) (by simp [HL.out]) (by simp) (by intro ad h j u hu; cases h; rw [Addr.add_lit]; exact range_new w1 _ 31 j u hu) (ads_one (by intro x hx; simp only [List.mem_cons, List.not_mem_nil, or_false] at hx; rcases hx with rfl | rfl | rfl <;> exact hf)) (by unfold maxLen; omega) (by omega) ?_))
  intro v2 w2 o2 t2 hv2
  have e3 : f ++ (f ++ f) = [f, f, f].flatten := by simp
  rw [e3] at o2 t2
  have tB := (Touch.refl [] w1).alloc (.cells [f, f, f].flatten.toArray 31)
  have z1 := tA.size
  have ho2 : Own w w2 v2 (xs ++ [f, f, f]) := by
    refine ⟨by rw [List.flatten_append, List.length_append]; exact o2, fun g hg => ?_⟩
    rcases hv2 with e | e
    · rw [e] at hg; exact ho1.new g hg
    · rw [e] at hg; simp at hg; omega
  have tC : Touch [] w w2 := (tA.trans tB (by simp)).trans t2 (fun g hg => .inr (ho1.new g (by simpa using hg)))
  obtain ⟨a2, c2, rfl, hc1, hc2, _⟩ := owns_form o2
  have hc3 : c2 ≤ 9223372036854775807 := by unfold maxLen at hc2; omega
  obtain ⟨g, rfl, hg, hd⟩ := (show Own w w2 (.slice a2 (xs ++ [f, f, f]).length c2) (xs ++ [f, f, f]) by simpa using ho2).rdg hall (by simp)
  have hd2 : Rd w2 17 g (.slice (some ⟨g, 0, none⟩) (xs.length + 3) (xs.length + 3)) (xs ++ [f, f, f]) := by
    obtain ⟨off, h1, h2⟩ := hd.at (by simp)
    simp at h1
    obtain rfl := h1
    exact ⟨some ⟨g, 0, none⟩, xs.length + 3, by simp, by simp, by unfold maxLen; omega, by simp, fun _ => ⟨0, rfl, h2⟩⟩
  clear hd ho2 o2 t2 ho1 ho1r hv2 hr1
  go_wp2_with fail
  go_ret
  exact ⟨g, rfl, hg, hd2, tC⟩

set_option maxRecDepth 100000 in
set_option maxHeartbeats 1000000 in
theorem over_any (v : Value) (xs : List (List Value)) (w0 w : World) (hv : Own w0 w v xs) (hl : xs.length ≤ 100) :
    Calls Try.prog 16 #[v] w fun e w' => e = .returned (.tuple #[]) ∧ Touch v.ownBlock.toList w w' := by
  obtain ⟨a, c, rfl, hc1, hc2, _⟩ := owns_form hv.row
  go_enter Try.func16, Try.ntmps16
  go_wp2_with fail
  go_loopw [3] (fun vi wr => ∃ (k : Nat), k ≤ xs.length ∧ vi = .int .i64 k ∧ Touch ((Value.slice a xs.length c).ownBlock).toList w wr ∧ w.heap.size < wr.heap.size ∧ wr.rangeAt w.heap.size 0 (adr false [0, 0, 0, 0, 0, 0, 0, 0, 0, 0, 0, 0, 0, 0, 0, 0]) ∧
      (∀ g, a = some ⟨g, 0, none⟩ → 0 < xs.length → ∃ cur : List Value, wr.heap[g]? = some (.cells cur.toArray 31 (0, 0)) ∧ xs.length * 17 ≤ cur.length))
    (fun vi _ => xs.length - (intOf vi).toNat)
  case atStart =>
    refine ⟨0, by omega, rfl, (Touch.refl _ _).alloc _, by simp, range_new w (adr false [0, 0, 0, 0, 0, 0, 0, 0, 0, 0, 0, 0, 0, 0, 0, 0]) 31, fun g hg hx => ?_⟩
    subst hg
    rcases hv.row.2 with ⟨h1, _⟩ | ⟨g', cap, cur, h1, _, h2, h3, h4, h5, h6⟩
    · simp at h1
    · simp at h1
      obtain ⟨rfl, rfl⟩ := h1
      have hgl := (hv.lt g rfl)
      refine ⟨cur.toList, by rw [Below.heap_alloc _ _ _ hgl, h2], by simp [h5]; omega⟩
  case round =>
    obtain ⟨k, hk, rfl, ht, hz, hrz, hcur⟩ := hrel
    by_cases hlt : k < xs.length
    · obtain ⟨a', c', h1, _, _, h3⟩ := owns_form hv.row
      simp only [Value.slice.injEq] at h1
      obtain ⟨rfl, _, rfl⟩ := h1
      obtain ⟨g, rfl⟩ := h3 (by omega)
      obtain ⟨cur, hg, hcl⟩ := hcur g rfl (by omega)
      have hgw := hv.lt g rfl
      have hz17 := adr_one false [0, 0, 0, 0, 0, 0, 0, 0, 0, 0, 0, 0, 0, 0, 0, 0]
      have hzl : (adr false [0, 0, 0, 0, 0, 0, 0, 0, 0, 0, 0, 0, 0, 0, 0, 0]).length = 17 := rfl
      generalize adr false [0, 0, 0, 0, 0, 0, 0, 0, 0, 0, 0, 0, 0, 0, 0, 0] = z at *
      have HZ := Lib.hid hzl
      clear hzl hcur h3
      have hbd : k * 17 + 17 ≤ cur.length := by omega
      go_wp2_with (first
        | (refine wpList_load_mid rfl 31 _ rfl w.heap.size 0 rfl z _ hrz Try.underlying31 rfl (by rw [size31, HZ.out]) ?_)
        | (refine wpList_store_part rfl 31 _ _ rfl g (k * 17) 31 cur z rfl rfl hg (by rw [HZ.out]; exact hbd) (by rw [size31, HZ.out]) hz17 ?_))
      intro w2 hg2 t2 s2
      have HZ2 := HZ.out
      have hn : w.heap.size ∉ [g] := by simp; omega
      have rel2 : Touch ((Value.slice (some ⟨g, 0, none⟩) xs.length c).ownBlock).toList w w2 := ht.trans t2 (by intro x hx; left; simpa [Value.ownBlock] using hx)
      have rz2 := t2.range hrz hn
      go_wp2_with fail
      go_roundw
      case rel =>
        refine ⟨k + 1, by omega, by go_num, rel2, by omega, rz2, fun g' hg' _ => ?_⟩
        cases hg'
        refine ⟨_, hg2, ?_⟩
        simp [HZ2]
        omega
      case measure => simp [intOf]; omega
    · go_wp2_with fail
      go_end0
      exact ⟨rfl, ht⟩

set_option maxRecDepth 100000 in
set_option maxHeartbeats 1000000 in
theorem unchanged_any (g b2 : Nat) (v2 : Value) (xs : List (List Value)) (f : List Value) (w : World) (hl : xs.length ≤ 100) (hd : Rd w 17 g (.slice (some ⟨g, 0, none⟩) (xs.length + 3) (xs.length + 3)) (xs ++ [f, f, f])) (h2 : Rd w 17 b2 v2 xs)
    (hxs : ∀ x ∈ xs, IsAd x) (hf : IsAd f) :
    Calls Try.prog 17 #[.slice (some ⟨g, 0, none⟩) xs.length (xs.length + 3), v2, .agg f.toArray] w fun e w' => e = .returned (.bool true) ∧ Touch [] w w' := by
  obtain ⟨a, cap, rfl, hlc, hcm⟩ := h2.form
  have hcm2 : cap ≤ 9223372036854775807 := by unfold maxLen at hcm; omega
  have d1 : Rd w 17 g (.slice (some ⟨g, 0, none⟩) xs.length (xs.length + 3)) xs := by
    have := hd.take xs.length (by simp)
    rw [List.take_left' rfl] at this
    exact this
  have tA := (Touch.refl [] w).alloc (.cells f.toArray 31)
  have hr := range_new w f 31
  have HL := Lib.hid hf.len
  go_enter Try.func17, Try.ntmps17
  go_wp2_with fail
  refine (equal_self _ _ g b2 xs _ (by omega) (d1.touch tA (by simp)) (h2.touch tA (by simp)) hxs).mono ?_
  rintro e w1 ⟨rfl, t1⟩
  have tB := tA.trans t1 (by simp)
  have hr1 := t1.range hr (by simp)
  have hd1 := hd.touch tB (by simp)
  clear hr hd d1 h2 t1 tA
  obtain ⟨off, h1, hat⟩ := hd1.at (by simp)
  simp at h1
  obtain rfl := h1
  have HAT := Lib.hid hat
  clear hat hd1
  go_wp2_with fail
  go_loopw [8] (fun vi wr => ∃ (j : Nat), j ≤ 3 ∧ vi = .int .i64 (xs.length + j : Nat) ∧ Touch [] w1 wr) (fun vi _ => xs.length + 3 - (intOf vi).toNat)
  case atStart => exact ⟨0, by omega, by simp, Touch.refl _ _⟩
  case round =>
    obtain ⟨j, hj, rfl, ht⟩ := hrel
    by_cases hlt : j < 3
    · have hx : (xs ++ [f, f, f])[xs.length + j]? = some f := by
        rw [List.getElem?_append_right (by omega), Nat.add_sub_cancel_left]
        match j, hlt with
        | 0, _ | 1, _ | 2, _ => rfl
      have hq := ht.range (HAT.out _ f hx) (by simp)
      simp only [Nat.zero_add] at hq
      have hq2 := ht.range hr1 (by simp)
      clear hx
      generalize hN : xs.length + j = N at *
      have HN := Lib.hid hN
      have hN1 : N < xs.length + 3 := by omega
      have hN2 : N ≤ 103 := by omega
      clear hN
      go_wp2_with fail
      refine wp_region_still_tail 5 (by kernel_rfl) (by kernel_rfl) ?_
      simp only [List.take_succ_cons, List.take_zero, List.drop_succ_cons, List.drop_zero]
      iterate 3 still_step
      refine wpStill_load_mid rfl 31 _ rfl g (N * 17) rfl f _ hq Try.underlying31 rfl (by rw [size31, HL.out]) ?_
      refine wpStill_load_mid rfl 31 _ rfl w.heap.size 0 rfl f _ hq2 Try.underlying31 rfl (by rw [size31, HL.out]) ?_
      refine wpStill_nil ?_
      change wpList _ _ _ _ _ wr.drew
      go_wp2_with (refine wpList_neq_agg rfl 31 _ _ _ rfl f.toArray f.toArray rfl rfl (by kernel_rfl) true (eq_self f hf _) ?_)
      have hN3 := HN.out
      go_roundw
      case rel => exact ⟨j + 1, by omega, by rw [← Nat.add_assoc, hN3]; go_num, ht.drew⟩
      case measure => simp [intOf]; omega
    · go_wp2_with fail
      go_ret
      exact ⟨rfl, tB.trans ht (by simp)⟩
end Go.Proofs.Ytdpjfhogkllajaa

/-
  The contracts of ValidAddr and SomeAddr: an address in, an address out.
-/
import Derived.Test.YtdpjfhogkllajaaGenA
namespace Go.Proofs.Ytdpjfhogkllajaa
open Go.RowKit
set_option linter.unusedVariables false
set_option linter.unusedSimpArgs false

theorem size29 : (Try.prog.info? 29).map (·.size) = some 16 := by kernel_rfl
theorem IsAd.flag {cs : List Value} (h : IsAd cs) : ∃ b, cs[0]? = some (.bool b) ∧ cs.take 1 = [.bool b] := by
  obtain ⟨b, xs, rfl, _, _⟩ := h
  exact ⟨b, rfl, rfl⟩
theorem IsAd.byte {cs : List Value} (h : IsAd cs) (j : Nat) (hj : j < 16) : ∃ n, cs[j + 1]? = some (.int .u8 n) ∧ 0 ≤ n ∧ n ≤ 255 := by
  obtain ⟨b, xs, rfl, hl, hr⟩ := h
  refine ⟨xs[j], by simp [adr, hl, hj], hr _ (List.getElem_mem _)⟩

set_option maxRecDepth 100000 in
set_option maxHeartbeats 2000000 in
theorem valid_any (cs : List Value) (w : World) (h : IsAd cs) :
    Calls Try.prog 23 #[.agg cs.toArray] w fun e w' => ∃ cs', IsAd cs' ∧ e = .returned (.agg cs'.toArray) ∧ Touch [] w w' := by
  obtain ⟨b, hb, htk⟩ := h.flag
  obtain ⟨x0, e0, r0⟩ := h.byte 0 (by omega)
  obtain ⟨x1, e1, r1⟩ := h.byte 1 (by omega)
  obtain ⟨x2, e2, r2⟩ := h.byte 2 (by omega)
  obtain ⟨x3, e3, r3⟩ := h.byte 3 (by omega)
  simp only [Nat.reduceAdd] at e0 e1 e2 e3
  have hlen := h.len
  have HL := Lib.hid hlen
  have HT := Lib.hid htk
  clear hlen htk
  cases b
  · go_enter Try.func23, Try.ntmps23
    go_wp2_with (refine wpList_store_part rfl 29 _ _ rfl w.heap.size 1 31 cs _ rfl rfl (heap_alloc2_old w _ _) (by rw [HL.out]; simp) size29 (by simp [Value.oneCell']) ?_)
    intro w2 hg2 t2 hz2
    have hres := t2.at (heap_alloc2_new w _ _) (by simp)
    have hrg := range_block hg2
    rw [HT.out, List.drop_of_length_le (by rw [HL.out]; simp)] at hrg
    go_wp2_with (first
      | (refine wpList_load_mid rfl 31 _ rfl _ _ rfl _ _ hrg Try.underlying31 rfl size31 ?_)
      | (refine wpList_store_into rfl 31 _ _ rfl (w.heap.size + 1) 31 _ _ rfl rfl hres rfl size31 (by simp [Value.oneCell']) ?_))
    intro w3 hg3 t3 hz3
    go_wp2_with fail
    refine ret_adr rfl (cs := adr false [x0, x1, x2, x3, 0, 0, 0, 0, 0, 0, 0, 0, 0, 0, 0, 0]) rfl rfl hg3 ⟨_, ⟨false, _, rfl, rfl, ?_⟩, rfl, ?_⟩
    · intro x hx
      simp at hx
      rcases hx with rfl | rfl | rfl | rfl | rfl <;> omega
    · exact ((((Touch.refl [] w).alloc _).alloc _).trans t2 (by simp)).trans t3 (by simp)
  · have hrg := World.rangeAt_alloc (range_new w cs 31) (.cells #[.bool false, .int .u8 0, .int .u8 0, .int .u8 0, .int .u8 0, .int .u8 0, .int .u8 0, .int .u8 0, .int .u8 0, .int .u8 0, .int .u8 0, .int .u8 0, .int .u8 0, .int .u8 0, .int .u8 0, .int .u8 0, .int .u8 0] 31)
    go_enter Try.func23, Try.ntmps23
    go_wp2_with (first
      | (refine wpList_load_mid rfl 31 _ rfl _ _ rfl cs _ hrg Try.underlying31 rfl (by rw [size31, HL.out]) ?_)
      | (refine wpList_store_into rfl 31 _ _ rfl (w.heap.size + 1) 31 _ cs rfl rfl (heap_alloc2_new w _ _) (by rw [HL.out]; rfl) (by rw [size31, HL.out]) h.one ?_))
    intro w3 hg3 t3 hz3
    go_wp2_with fail
    exact ret_adr rfl HL.out rfl hg3 ⟨cs, h, rfl, (((Touch.refl [] w).alloc _).alloc _).trans t3 (by simp)⟩

set_option maxRecDepth 100000 in
set_option maxHeartbeats 2000000 in
theorem some_any (cs : List Value) (w : World) (h : IsAd cs) :
    Calls Try.prog 18 #[.agg cs.toArray] w fun e w' => ∃ cs', IsAd cs' ∧ e = .returned (.agg cs'.toArray) ∧ Touch [] w w' := by
  obtain ⟨x0, e0, r0⟩ := h.byte 0 (by omega)
  obtain ⟨x1, e1, r1⟩ := h.byte 1 (by omega)
  obtain ⟨x7, e7, r7⟩ := h.byte 7 (by omega)
  simp only [Nat.reduceAdd] at e0 e1 e7
  have hlen := h.len
  have HL := Lib.hid hlen
  clear hlen
  have hrg := World.rangeAt_alloc (range_new w cs 31) (.cells #[.bool false, .int .u8 0, .int .u8 0, .int .u8 0, .int .u8 0, .int .u8 0, .int .u8 0, .int .u8 0, .int .u8 0, .int .u8 0, .int .u8 0, .int .u8 0, .int .u8 0, .int .u8 0, .int .u8 0, .int .u8 0, .int .u8 0] 31)
  obtain ⟨r70, r71⟩ := r7
  by_cases c0 : (x7 % 5 == 0) = true
  · go_enter Try.func18, Try.ntmps18
    go_wp2_with (first
      | (refine wpList_load_mid rfl 31 _ rfl _ _ rfl cs _ hrg Try.underlying31 rfl (by rw [size31, HL.out]) ?_)
      | (refine wpList_store_into rfl 31 _ _ rfl (w.heap.size + 1) 31 _ cs rfl rfl (heap_alloc2_new w _ _) (by rw [HL.out]; rfl) (by rw [size31, HL.out]) h.one ?_))
    intro w3 hg3 t3 hz3
    go_wp2_with fail
    exact ret_adr rfl HL.out rfl hg3 ⟨cs, h, rfl, (((Touch.refl [] w).alloc _).alloc _).trans t3 (by simp)⟩
  · have c0' : (x7 % 5 == 0) = false := by simpa using c0
    clear c0
    by_cases c1 : (x7 % 5 == 1) = true
    · go_enter Try.func18, Try.ntmps18
      go_wp2_with (refine wpList_load_mid rfl 31 _ rfl _ _ rfl cs _ hrg Try.underlying31 rfl (by rw [size31, HL.out]) ?_)
      refine (valid_any cs _ h).mono ?_
      rintro e w1 ⟨cs', h', rfl, t1⟩
      have hres := t1.at (heap_alloc2_new w _ _) (by simp)
      go_wp2_with (refine wpList_store_into rfl 31 _ _ rfl (w.heap.size + 1) 31 _ cs' rfl rfl hres (by rw [h'.len]; rfl) (by rw [size31, h'.len]) h'.one ?_)
      intro w3 hg3 t3 hz3
      go_wp2_with fail
      exact ret_adr rfl h'.len rfl hg3 ⟨cs', h', rfl, ((((Touch.refl [] w).alloc _).alloc _).trans t1 (by simp)).trans t3 (by simp)⟩
    · have c1' : (x7 % 5 == 1) = false := by simpa using c1
      clear c1
      go_enter Try.func18, Try.ntmps18
      go_wp2_with fail
      refine (addr_any _ _).mono ?_
      rintro e w1 ⟨cs', h', rfl, t1⟩
      have hres := t1.at (heap_alloc2_new w _ _) (by simp)
      go_wp2_with (refine wpList_store_into rfl 31 _ _ rfl (w.heap.size + 1) 31 _ cs' rfl rfl hres (by rw [h'.len]; rfl) (by rw [size31, h'.len]) h'.one ?_)
      intro w3 hg3 t3 hz3
      go_wp2_with fail
      exact ret_adr rfl h'.len rfl hg3 ⟨cs', h', rfl, ((((Touch.refl [] w).alloc _).alloc _).trans t1 (by simp)).trans t3 (by simp)⟩
end Go.Proofs.Ytdpjfhogkllajaa

/-
  The contract of Equal at slices of addresses: true at equal lists; and the laws' helpers' walks begin here.
-/
import Derived.Test.YtdpjfhogkllajaaSl
import Derived.Test.YtdpjfhogkllajaaRec3
import Derived.DeepKeys4
namespace Go.Proofs.Ytdpjfhogkllajaa
open Go.RowKit Go.Deep
set_option linter.unusedVariables false
set_option linter.unusedSimpArgs false

theorem two8 {α : Type} (xs : List α) (h : xs.length = 16) : ∃ a b c d e f g i j k l m n o p q, xs = [a, b, c, d, e, f, g, i, j, k, l, m, n, o, p, q] := by
  match xs, h with
  | [a, b, c, d, e, f, g, i, j, k, l, m, n, o, p, q], _ => exact ⟨_, _, _, _, _, _, _, _, _, _, _, _, _, _, _, _, rfl⟩

theorem eq_self (x : List Value) (h : IsAd x) (w : World) : (Op.equalIn 10000 31 (.agg x.toArray) (.agg x.toArray)).run Try.prog w = .ok true w := by
  obtain ⟨b, xs, rfl, hl, hr⟩ := h
  obtain ⟨x0, x1, x2, x3, x4, x5, x6, x7, x8, x9, x10, x11, x12, x13, x14, x15, rfl⟩ := two8 xs hl
  have hwf : ∀ x : Int, 0 ≤ x ∧ x ≤ 255 → (Lit.int .u8 x).wf = true := by
    intro x hx
    simp [Lit.wf, IntKind.min, IntKind.max, IntKind.signed, IntKind.bits]
    omega
  have hk1 : ∀ x ∈ [x0, x1, x2, x3, x4, x5, x6, x7, x8, x9, x10, x11, x12, x13, x14, x15], ∀ d, Try.prog.keyLits (d + 1) 5 [.int .u8 x] = some [.int .u8 x] := by
    intro x hx d
    simp [Program.keyLits, Try.underlying5, hwf x (hr x hx)]
  simp only [List.mem_cons, List.not_mem_nil, or_false, forall_eq_or_imp, forall_eq] at hk1
  obtain ⟨k0, k1, k2, k3, k4, k5, k6, k7, k8, k9, k10, k11, k12, k13, k14, k15⟩ := hk1
  have c5 : Try.prog.cellsOf 5 = 1 := by kernel_rfl
  have c4 : Try.prog.cellsOf 4 = 1 := by kernel_rfl
  have c29 : Try.prog.cellsOf 29 = 16 := by kernel_rfl
  have c31 : Try.prog.cellsOf 31 = 17 := by kernel_rfl
  have hk2 : ∃ l, Try.prog.keyLits 4 29 ([x0, x1, x2, x3, x4, x5, x6, x7, x8, x9, x10, x11, x12, x13, x14, x15].map (Value.int .u8)) = some l := by
    unfold Program.keyLits
    simp [Try.underlying29, c5, c29, List.range, List.range.loop, k0, k1, k2, k3, k4, k5, k6, k7, k8, k9, k10, k11, k12, k13, k14, k15]
  obtain ⟨l2, hk2⟩ := hk2
  have hk3 : Try.prog.keyLits 4 4 [.bool b] = some [.bool b] := by
    simp [Program.keyLits, Try.underlying4]
  have hk : ∃ l, Try.prog.keyLits 5 31 (adr b [x0, x1, x2, x3, x4, x5, x6, x7, x8, x9, x10, x11, x12, x13, x14, x15]) = some l := by
    simp only [List.map_cons, List.map_nil] at hk2
    unfold Program.keyLits
    simp [Try.underlying31, adr, c4, c29, c31, hk2, hk3]
  obtain ⟨l, hk⟩ := hk
  obtain ⟨r, hrun, hi⟩ := run_equalIn_deep 9995 5 31 (by kernel_rfl) w 5 5 (.agg (adr b [x0, x1, x2, x3, x4, x5, x6, x7, x8, x9, x10, x11, x12, x13, x14, x15]).toArray) (.agg (adr b [x0, x1, x2, x3, x4, x5, x6, x7, x8, x9, x10, x11, x12, x13, x14, x15]).toArray) l l (by rfl) (by rfl) hk hk
  rw [hi.2 rfl] at hrun
  exact hrun

set_option maxRecDepth 100000 in
set_option maxHeartbeats 1000000 in
theorem eq21 (x : List Value) (w : World) (h : IsAd x) : Calls Try.prog 21 #[.agg x.toArray, .agg x.toArray] w fun e w' => e = .returned (.bool true) ∧ Touch [] w w' := by
  have hlen := h.len
  have HL := Lib.hid hlen
  clear hlen
  have h1 := World.rangeAt_alloc (range_new w x 31) (.cells x.toArray 31)
  have h2 := range_block (heap_alloc2_new w (.cells x.toArray 31) (.cells x.toArray 31))
  go_enter Try.func21, Try.ntmps21
  go_wp2_with (first
    | (refine wpList_load_mid rfl 31 _ rfl w.heap.size 0 rfl x _ h1 Try.underlying31 rfl (by rw [size31, HL.out]) ?_)
    | (refine wpList_load_mid rfl 31 _ rfl (w.heap.size + 1) 0 rfl x _ h2 Try.underlying31 rfl (by rw [size31, HL.out]) ?_)
    | (refine wpList_eql_agg rfl 31 _ _ _ rfl x.toArray x.toArray rfl rfl (by kernel_rfl) true (eq_self x h _) ?_))
  go_ret
  exact ⟨rfl, ((Touch.refl [] w).alloc _).alloc _⟩

set_option maxRecDepth 100000 in
set_option maxHeartbeats 1000000 in
theorem equal_self (v1 v2 : Value) (b1 b2 : Nat) (xs : List (List Value)) (w : World) (hl : xs.length ≤ 1000) (h1 : Rd w 17 b1 v1 xs) (h2 : Rd w 17 b2 v2 xs) (hxs : ∀ x ∈ xs, IsAd x) :
    Calls Try.prog 12 #[v1, v2] w fun e w' => e = .returned (.bool true) ∧ Touch [] w w' := by
  obtain ⟨a1, c1, rfl, hc1, hm1⟩ := h1.form
  obtain ⟨a2, c2, rfl, hc2, hm2⟩ := h2.form
  go_enter Try.func12, Try.ntmps12
  go_wp2_with fail
  go_enter Try.func20, Try.ntmps20
  go_wp2_with fail
  go_loopw [7] (fun vi wr => ∃ (i : Nat), i ≤ xs.length ∧ vi = .int .i64 i ∧ Touch [] w wr) (fun vi _ => xs.length - (intOf vi).toNat)
  case atStart => exact ⟨0, by omega, rfl, Touch.refl _ _⟩
  case round =>
    obtain ⟨i, hix, rfl, ht⟩ := hrel
    by_cases hlt : i < xs.length
    · obtain ⟨o1, rfl, hat1⟩ := h1.at (by intro e; subst e; simp at hlt)
      obtain ⟨o2, rfl, hat2⟩ := h2.at (by intro e; subst e; simp at hlt)
      have hx : xs[i]? = some xs[i] := List.getElem?_eq_getElem hlt
      have hadx := hxs _ (List.getElem_mem hlt)
      generalize xs[i] = x at hx hadx
      have hr1 := ht.range (hat1 i x hx) (by simp)
      have hr2 := ht.range (hat2 i x hx) (by simp)
      clear hat1 hat2 hx
      go_wp2_with fail
      refine wp_region_still_tail 9 (by kernel_rfl) (by kernel_rfl) ?_
      simp only [List.take_succ_cons, List.take_zero, List.drop_succ_cons, List.drop_zero]
      iterate 4 still_step
      refine wpStill_load_mid rfl 31 _ rfl b1 (o1 + i * 17) rfl x _ hr1 Try.underlying31 rfl (by rw [size31, hadx.len]) ?_
      iterate 3 still_step
      refine wpStill_load_mid rfl 31 _ rfl b2 (o2 + i * 17) rfl x _ hr2 Try.underlying31 rfl (by rw [size31, hadx.len]) ?_
      refine wpStill_nil ?_
      change wpList _ _ _ _ _ wr.drew
      go_wp2_with fail
      refine (eq21 x _ hadx).mono ?_
      rintro e w2 ⟨rfl, t2⟩
      have ht2 : Touch [] w w2 := ht.drew.trans t2 (by simp)
      go_wp2_with fail
      go_roundw
      case rel => exact ⟨i + 1, by omega, by go_num, ht2⟩
      case measure => simp [intOf]; omega
    · go_wp2_with fail
      go_ret
      exact ⟨rfl, ht⟩
end Go.Proofs.Ytdpjfhogkllajaa

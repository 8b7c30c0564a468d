/-
  Merged texts: Mk, Ea, Ap, Ar, Dd, Hq.
-/
import Derived.Test.YtiklhaajhdephaaDoorGD
import Derived.Test.YtiklhaajhdephaaDoorGA
import Derived.DeepKeys4
import Derived.Test.YtiklhaajhdephaaDoorGB
import Derived.Test.YtiklhaajhdephaaDoorGF
import Derived.StillTailTactics

/-
  Maps whose keys are addresses.
-/
namespace Go.Proofs.YtiklhaajhdephaaDoor
open Go.RowKit
set_option linter.unusedVariables false
set_option linter.unusedSimpArgs false

def encA (p : Bool × List Int) : Value := .agg (adr p.1 p.2).toArray
def okA (p : Bool × List Int) : Prop := okB p.2
theorem laidOutA : laidOutB Tryd.prog = true := by kernel_rfl
theorem adr_inj {b b' : Bool} {xs ys : List Int} (h : adr b xs = adr b' ys) : b = b' ∧ xs = ys := by
  unfold adr at h
  simp only [List.cons.injEq, Value.bool.injEq] at h
  exact ⟨h.1, (List.map_inj_right (fun a b h => by simpa using h)).1 h.2⟩
theorem keyA : KE Tryd.prog 28 encA okA where
  K := Go.Maps.Keyed.of_law (deep_law_laid laidOutA (m := 9) (by omega) (of_decide_eq_true (by kernel_rfl)) (by kernel_rfl) (by kernel_rfl))
  lit := by
    rintro ⟨b, xs⟩ h
    obtain ⟨hl, hr⟩ := (show okB xs from h)
    obtain ⟨x0, x1, x2, x3, x4, x5, x6, x7, x8, x9, x10, x11, x12, x13, x14, x15, rfl⟩ := sixteen xs hl
    have hwf : ∀ x : Int, 0 ≤ x ∧ x ≤ 255 → (Lit.int .u8 x).wf = true := by
      intro x hx
      simp [Lit.wf, IntKind.min, IntKind.max, IntKind.signed, IntKind.bits]
      omega
    have hk1 : ∀ x ∈ [x0, x1, x2, x3, x4, x5, x6, x7, x8, x9, x10, x11, x12, x13, x14, x15], ∀ d, Tryd.prog.keyLits (d + 1) 5 [.int .u8 x] = some [.int .u8 x] := by
      intro x hx d
      simp [Program.keyLits, Tryd.underlying5, hwf x (hr x hx)]
    simp only [List.mem_cons, List.not_mem_nil, or_false, forall_eq_or_imp, forall_eq] at hk1
    obtain ⟨k0, k1, k2, k3, k4, k5, k6, k7, k8, k9, k10, k11, k12, k13, k14, k15⟩ := hk1
    have c5 : Tryd.prog.cellsOf 5 = 1 := by kernel_rfl
    have c4 : Tryd.prog.cellsOf 4 = 1 := by kernel_rfl
    have c29 : Tryd.prog.cellsOf 26 = 16 := by kernel_rfl
    have c31 : Tryd.prog.cellsOf 28 = 17 := by kernel_rfl
    have hkt : Tryd.prog.keyType 28 = true := by kernel_rfl
    have hs : (Tryd.prog.info? 28).map (·.size) = some 17 := by kernel_rfl
    have hk : ∃ l, Tryd.prog.keyLits (Tryd.prog.types.size + 1) 28 (adr b [x0, x1, x2, x3, x4, x5, x6, x7, x8, x9, x10, x11, x12, x13, x14, x15]) = some l := by
      obtain ⟨n, hn⟩ : ∃ n, Tryd.prog.types.size + 1 = n + 3 := ⟨Tryd.prog.types.size - 2, by have : 2 ≤ Tryd.prog.types.size := of_decide_eq_true (by kernel_rfl); omega⟩
      rw [hn]
      have hk2 : Tryd.prog.keyLits (n + 2) 26 ([x0, x1, x2, x3, x4, x5, x6, x7, x8, x9, x10, x11, x12, x13, x14, x15].map (Value.int .u8)) = some ([x0, x1, x2, x3, x4, x5, x6, x7, x8, x9, x10, x11, x12, x13, x14, x15].map (Lit.int .u8)) := by
        unfold Program.keyLits
        simp [Tryd.underlying26, c5, c29, List.range, List.range.loop, k0, k1, k2, k3, k4, k5, k6, k7, k8, k9, k10, k11, k12, k13, k14, k15]
      have hk3 : Tryd.prog.keyLits (n + 2) 4 [.bool b] = some [.bool b] := by
        simp [Program.keyLits, Tryd.underlying4]
      simp only [List.map_cons, List.map_nil] at hk2
      unfold Program.keyLits
      simp [Tryd.underlying28, adr, c4, c29, c31, hk2, hk3]
    obtain ⟨l, hl⟩ := hk
    have hf : (Value.agg (adr b [x0, x1, x2, x3, x4, x5, x6, x7, x8, x9, x10, x11, x12, x13, x14, x15]).toArray).formed Tryd.prog 28 = true := by
      simp [Value.formed, Tryd.underlying28, c31, adr]
    unfold keyOf
    simp only [Tryd.underlying28, encA, hkt, hf, Bool.and_true, Bool.and_self, if_true, Value.cells]
    rw [hl]
    exact ⟨_, rfl⟩
  inj := by
    rintro ⟨b, xs⟩ ⟨b', ys⟩ h
    simp only [encA, Value.agg.injEq] at h
    obtain ⟨rfl, rfl⟩ := adr_inj (by simpa using h)
    rfl
def Ad.key (a : Ad) : Bool × List Int := (a.b, a.xs)
theorem Ad.key_inj {a c : Ad} (h : a.key = c.key) : a = c := by
  obtain ⟨b, xs, ok⟩ := a
  obtain ⟨b', xs', ok'⟩ := c
  simp only [Ad.key, Prod.mk.injEq] at h
  obtain ⟨rfl, rfl⟩ := h
  rfl
/-- The list without what came before. -/
def dedN (l : List Ad) : Nat → List Ad
  | 0 => []
  | k + 1 => match l[k]? with
    | some a => if (dedN l k).any (fun c => decide (c.key = a.key)) then dedN l k else dedN l k ++ [a]
    | none => dedN l k
def dedP (l : List Ad) : List Ad := dedN l l.length
theorem dedN_len (l : List Ad) (k : Nat) : (dedN l k).length ≤ k := by
  induction k with
  | zero => simp [dedN]
  | succ k ih =>
    simp only [dedN]
    split
    · split
      · omega
      · simp; omega
    · omega
theorem dedN_mem (l : List Ad) (k : Nat) (q : Bool × List Int) : (dedN l k).any (fun c => decide (c.key = q)) = true ↔ ∃ i a, i < k ∧ l[i]? = some a ∧ a.key = q := by
  induction k with
  | zero => simp [dedN]
  | succ k ih =>
    simp only [dedN]
    cases hk : l[k]? with
    | none =>
      simp only
      rw [ih]
      constructor
      · rintro ⟨i, a, h1, h2, h3⟩
        exact ⟨i, a, by omega, h2, h3⟩
      · rintro ⟨i, a, h1, h2, h3⟩
        by_cases e : i = k
        · subst e; rw [hk] at h2; cases h2
        · exact ⟨i, a, by omega, h2, h3⟩
    | some a =>
      simp only
      by_cases hin : (dedN l k).any (fun c => decide (c.key = a.key)) = true
      · rw [if_pos hin, ih]
        constructor
        · rintro ⟨i, x, h1, h2, h3⟩
          exact ⟨i, x, by omega, h2, h3⟩
        · rintro ⟨i, x, h1, h2, h3⟩
          by_cases e : i = k
          · subst e
            rw [hk] at h2
            cases h2
            have hi2 := hin
            rw [List.any_eq_true] at hi2
            have ih2 : (dedN l i).any (fun c => decide (c.key = q)) = true := by rw [← h3]; exact hin
            exact ih.1 ih2
          · exact ⟨i, x, by omega, h2, h3⟩
      · rw [if_neg hin, List.any_append, Bool.or_eq_true, ih]
        constructor
        · rintro (⟨i, x, h1, h2, h3⟩ | h)
          · exact ⟨i, x, by omega, h2, h3⟩
          · simp at h
            exact ⟨k, a, by omega, hk, h⟩
        · rintro ⟨i, x, h1, h2, h3⟩
          by_cases e : i = k
          · subst e
            rw [hk] at h2
            cases h2
            right
            simp [h3]
          · exact .inl ⟨i, x, by omega, h2, h3⟩
end Go.Proofs.YtiklhaajhdephaaDoor

/-
  Equality of addresses, of lists of addresses; the contracts of Equal and of the reference's Contains.
-/
namespace Go.Proofs.YtiklhaajhdephaaDoor
open Go.RowKit
set_option linter.unusedVariables false
set_option linter.unusedSimpArgs false

instance : DecidableEq Ad := fun a c => decidable_of_iff (a.key = c.key) ⟨Ad.key_inj, fun h => by rw [h]⟩
theorem Ad.key_eq (a c : Ad) : decide (a.key = c.key) = decide (a = c) := by
  rw [Bool.eq_iff_iff, decide_eq_true_eq, decide_eq_true_eq]
  exact ⟨Ad.key_inj, fun h => by rw [h]⟩
set_option maxRecDepth 100000 in
theorem lits_ad (a : Ad) : Tryd.prog.keyLits 5 28 a.cells = some (Lit.bool a.b :: a.xs.map (Lit.int .u8)) := by
  obtain ⟨b, xs, hl, hr⟩ := a
  obtain ⟨x0, x1, x2, x3, x4, x5, x6, x7, x8, x9, x10, x11, x12, x13, x14, x15, rfl⟩ := two8 xs hl
  have hwf : ∀ x : Int, 0 ≤ x ∧ x ≤ 255 → (Lit.int .u8 x).wf = true := by
    intro x hx
    simp [Lit.wf, IntKind.min, IntKind.max, IntKind.signed, IntKind.bits]
    omega
  have hk1 : ∀ x ∈ [x0, x1, x2, x3, x4, x5, x6, x7, x8, x9, x10, x11, x12, x13, x14, x15], ∀ d, Tryd.prog.keyLits (d + 1) 5 [.int .u8 x] = some [.int .u8 x] := by
    intro x hx d
    simp [Program.keyLits, Tryd.underlying5, hwf x (hr x hx)]
  simp only [List.mem_cons, List.not_mem_nil, or_false, forall_eq_or_imp, forall_eq] at hk1
  obtain ⟨k0, k1, k2, k3, k4, k5, k6, k7, k8, k9, k10, k11, k12, k13, k14, k15⟩ := hk1
  have c5 : Tryd.prog.cellsOf 5 = 1 := by kernel_rfl
  have c4 : Tryd.prog.cellsOf 4 = 1 := by kernel_rfl
  have c29 : Tryd.prog.cellsOf 26 = 16 := by kernel_rfl
  have c31 : Tryd.prog.cellsOf 28 = 17 := by kernel_rfl
  have hk2 : Tryd.prog.keyLits 4 26 ([x0, x1, x2, x3, x4, x5, x6, x7, x8, x9, x10, x11, x12, x13, x14, x15].map (Value.int .u8)) = some ([x0, x1, x2, x3, x4, x5, x6, x7, x8, x9, x10, x11, x12, x13, x14, x15].map (Lit.int .u8)) := by
    unfold Program.keyLits
    simp [Tryd.underlying26, c5, c29, List.range, List.range.loop, k0, k1, k2, k3, k4, k5, k6, k7, k8, k9, k10, k11, k12, k13, k14, k15]
  have hk3 : Tryd.prog.keyLits 4 4 [.bool b] = some [.bool b] := by
    simp [Program.keyLits, Tryd.underlying4]
  simp only [List.map_cons, List.map_nil] at hk2
  unfold Program.keyLits
  simp [Tryd.underlying28, Ad.cells, adr, c4, c29, c31, hk2, hk3]
set_option maxRecDepth 100000 in
theorem eq_ad (x y : Ad) (w : World) : (Op.equalIn 10000 28 (.agg x.cells.toArray) (.agg y.cells.toArray)).run Tryd.prog w = .ok (decide (x = y)) w := by
  have hf : ∀ z : Ad, (Value.agg z.cells.toArray).formed Tryd.prog 28 = true := by
    intro z
    have c31 : Tryd.prog.cellsOf 28 = 17 := by kernel_rfl
    simp [Value.formed, Tryd.underlying28, c31, z.len]
  obtain ⟨r, hrun, hi⟩ := run_equalIn_deep 9995 5 28 (by kernel_rfl) w 5 5 (.agg x.cells.toArray) (.agg y.cells.toArray) _ _ (hf x) (hf y) (lits_ad x) (lits_ad y)
  rw [hrun]
  congr 1
  rw [Bool.eq_iff_iff, hi, decide_eq_true_eq]
  constructor
  · intro h
    simp only [List.cons.injEq, Lit.bool.injEq] at h
    exact Ad.key_inj (Prod.ext h.1 ((List.map_inj_right (fun a b h => by simpa using h)).1 h.2))
  · intro h; rw [h]
theorem eq_ad_t (x y : Ad) (h : x = y) (w : World) : (Op.equalIn 10000 28 (.agg x.cells.toArray) (.agg y.cells.toArray)).run Tryd.prog w = .ok true w := by
  rw [eq_ad, show decide (x = y) = true by simpa using h]
theorem eq_ad_f (x y : Ad) (h : ¬ x = y) (w : World) : (Op.equalIn 10000 28 (.agg x.cells.toArray) (.agg y.cells.toArray)).run Tryd.prog w = .ok false w := by
  rw [eq_ad, show decide (x = y) = false by simpa using h]
set_option maxRecDepth 100000 in
set_option maxHeartbeats 1000000 in
theorem eqA (x y : Ad) (w : World) : Calls Tryd.prog 53 #[.agg x.cells.toArray, .agg y.cells.toArray] w fun e w' => e = .returned (.bool (decide (x = y))) ∧ Touch [] w w' := by
  have HLX := Lib.hid x.len
  have HLY := Lib.hid y.len
  have h1 := World.rangeAt_alloc (range_new w x.cells 28) (.cells y.cells.toArray 28)
  have h2 := range_block (heap_alloc2_new w (.cells x.cells.toArray 28) (.cells y.cells.toArray 28))
  have HE := Lib.hid (eq_ad x y)
  generalize decide (x = y) = r at *
  go_enter Tryd.func53, Tryd.ntmps53
  go_wp2_with (first
    | ((with_reducible refine at_load 28 ?_); refine wpList_load_mid rfl 28 _ rfl w.heap.size 0 rfl x.cells _ h1 Tryd.underlying28 rfl (by rw [size31, HLX.out]) ?_)
    | ((with_reducible refine at_load 28 ?_); refine wpList_load_mid rfl 28 _ rfl (w.heap.size + 1) 0 rfl y.cells _ h2 Tryd.underlying28 rfl (by rw [size31, HLY.out]) ?_)
    | ((with_reducible refine at_bin .eql 28 ?_); refine wpList_eql_agg rfl 28 _ _ _ rfl x.cells.toArray y.cells.toArray rfl rfl (by kernel_rfl) r (HE.out _) ?_))
  go_ret
  exact ⟨rfl, ((Touch.refl [] w).alloc _).alloc _⟩
theorem nth_eq {l1 l2 : List Ad} (h : l1.length = l2.length) {i : Nat} {x y : Ad} (hx : l1[i]? = some x) (hy : l2[i]? = some y) (ht : l1.take i = l2.take i) (hxy : x = y) : l1.take (i + 1) = l2.take (i + 1) := by
  have h1 : i < l1.length := by rcases Nat.lt_or_ge i l1.length with h | h; exact h; rw [List.getElem?_eq_none h] at hx; cases hx
  rw [List.take_add_one, List.take_add_one, hx, hy, ht, hxy]
set_option maxRecDepth 100000 in
set_option maxHeartbeats 2000000 in
theorem equalA (v1 v2 : Value) (b1 b2 : Nat) (l1 l2 : List Ad) (w : World) (h1 : Rd w 17 b1 v1 (l1.map Ad.cells)) (h2 : Rd w 17 b2 v2 (l2.map Ad.cells)) :
    Calls Tryd.prog 14 #[v1, v2] w fun e w' => e = .returned (.bool (decide (l1 = l2))) ∧ Touch [] w w' := by
  obtain ⟨a1, c1, rfl, hc1, hm1⟩ := h1.form
  obtain ⟨a2, c2, rfl, hc2, hm2⟩ := h2.form
  simp only [List.length_map] at *
  have H1 := Lib.hid h1
  have H2 := Lib.hid h2
  have hn1 : l1.length ≤ 9223372036854775807 := by unfold maxLen at hm1; omega
  obtain ⟨n, hn⟩ : ∃ n, n = l1.length := ⟨_, rfl⟩
  have HN := Lib.hid hn
  clear h1 h2 hm1 hm2
  by_cases hne : l1.length = l2.length
  · have HNE := Lib.hid hne
    rw [← hne, ← hn]
    rw [← hn] at hn1
    have hq : ((n : Int) != (n : Int)) = false := by simp
    clear hne hn hc1 hc2
    go_enter Tryd.func14, Tryd.ntmps14
    go_wp2_with fail
    go_enter Tryd.func52, Tryd.ntmps52
    go_wp2_with fail
    go_loopw [7] (fun vi wr => ∃ (i : Nat), i ≤ n ∧ vi = .int .i64 i ∧ l1.take i = l2.take i ∧ Touch [] w wr) (fun vi _ => n - (intOf vi).toNat)
    case atStart => exact ⟨0, by omega, rfl, rfl, Touch.refl _ _⟩
    case round =>
      obtain ⟨i, hin, rfl, htk, ht⟩ := hrel
      have HT := Lib.hid ht
      have HTK := Lib.hid htk
      clear ht htk
      by_cases hlt : i < n
      · obtain ⟨x, hx⟩ : ∃ x, l1[i]? = some x := ⟨_, List.getElem?_eq_getElem (by rw [← HN.out]; exact hlt)⟩
        obtain ⟨y, hy⟩ : ∃ y, l2[i]? = some y := ⟨_, List.getElem?_eq_getElem (by rw [← HNE.out, ← HN.out]; exact hlt)⟩
        obtain ⟨o1, rfl, hat1⟩ := H1.out.at (by intro e; rw [List.map_eq_nil_iff] at e; rw [e] at hx; simp at hx)
        obtain ⟨o2, rfl, hat2⟩ := H2.out.at (by intro e; rw [List.map_eq_nil_iff] at e; rw [e] at hy; simp at hy)
        have r1 := hat1 i x.cells (by simp [hx])
        have r2 := hat2 i y.cells (by simp [hy])
        have HX := Lib.hid hx
        have HY := Lib.hid hy
        have HLX := Lib.hid x.len
        have HLY := Lib.hid y.len
        have HE := Lib.hid (eqA x y)
        have HNX := Lib.hid (nth_eq HNE.out hx hy HTK.out)
        have HDX := Lib.hid (show x ≠ y → decide (l1 = l2) = false from fun h => by
          rw [decide_eq_false_iff_not]
          intro e
          rw [e, hy] at hx
          cases hx
          exact h rfl)
        have hwi : IntKind.i64.wrap ((i : Int) + 1) = (i : Int) + 1 := by rw [IntKind.wrap_i64] <;> omega
        have hin2 : (i : Int) < (n : Int) := by omega
        clear hx hy hat1 hat2
        by_cases hxy : x = y
        · have HXY := Lib.hid hxy
          have hde : decide (x = y) = true := by simpa using hxy
          generalize decide (x = y) = q at *
          clear hxy
          go_wp2_with fail
          refine wp_region_held (S := Touch [] wr.drew) (by kernel_rfl) ?_
          change wpAnyH _ _ _ _ _ _ _ _ wr.drew
          have r1 := HT.out.drew.range r1 (by simp)
          have r2 := HT.out.drew.range r2 (by simp)
          have HTd := Lib.hid (HT.out.drew)
          clear HT
          generalize wr.drew = W at *
          have hS := Touch.refl [] W
          refine tkH 0 (.func (.func 53) #[] #[]) rfl ?_
          try simp only [Act.put, sT, s0, sS]
          refine tkH 1 (.slice (some ⟨b1, o1, none⟩) n c1) rfl ?_
          try simp only [Act.put, sT, s0, sS]
          refine tkH 2 (.int .i64 (i : Nat)) rfl ?_
          try simp only [Act.put, sT, s0, sS]
          refine tkH 3 (.pointer (some ⟨b1, o1 + i * 17, none⟩)) rfl ?_
          try simp only [Act.put, sT, s0, sS]
          refine tkH 4 (.agg x.cells.toArray) rfl ?_ (hy := Or.inl ⟨by rfl, fun w' hw => exec_load_agg _ 28 _ rfl _ _ rfl x.cells _ (hw.range r1 (by simp)) Tryd.underlying28 rfl (by rw [size31, HLX.out])⟩)
          try simp only [Act.put, sT, s0, sS]
          refine tkH 5 (.slice (some ⟨b2, o2, none⟩) n c2) rfl ?_
          try simp only [Act.put, sT, s0, sS]
          refine tkH 6 (.int .i64 (i : Nat)) rfl ?_
          try simp only [Act.put, sT, s0, sS]
          refine tkH 7 (.pointer (some ⟨b2, o2 + i * 17, none⟩)) rfl ?_
          try simp only [Act.put, sT, s0, sS]
          refine tkH 8 (.agg y.cells.toArray) rfl ?_ (hy := Or.inl ⟨by rfl, fun w' hw => exec_load_agg _ 28 _ rfl _ _ rfl y.cells _ (hw.range r2 (by simp)) Tryd.underlying28 rfl (by rw [size31, HLY.out])⟩)
          try simp only [Act.put, sT, s0, sS]
          refine wpAnyH_ready (rs := [9]) (by kernel_rfl) (by simp) ?_
          refine cnH rfl (fun K hK => ?_) AllReadyH.nil
          go_simp
          refine (HE.out _).mono ?_
          rintro e w9 ⟨rfl, t9⟩
          have hS2 := hS.trans t9 (by simp)
          rw [hde]
          refine hK.out _ _ hS2 (fun _ => ?_)
          clear hK K hS t9
          have hS := hS2
          clear hS2
          try simp only [Act.put, sT, s0, sS]
          refine tkH 10 (.bool false) rfl ?_
          try simp only [Act.put, sT, s0, sS]
          refine wpAnyH_done (by kernel_rfl) ?_ _
          try simp only [Act.put, sT, s0, sS]
          have HT2 := Lib.hid (HTd.out.trans hS (by simp))
          clear hS HTd
          go_wp2_with fail
          go_roundw
          case rel => exact ⟨i + 1, by omega, by go_num, HNX.out HXY.out, HT2.out⟩
          case measure => simp [intOf]; omega
        · have HXY := Lib.hid hxy
          have hde : decide (x = y) = false := by simpa using hxy
          generalize decide (x = y) = q at *
          clear hxy
          go_wp2_with fail
          refine wp_region_held (S := Touch [] wr.drew) (by kernel_rfl) ?_
          change wpAnyH _ _ _ _ _ _ _ _ wr.drew
          have r1 := HT.out.drew.range r1 (by simp)
          have r2 := HT.out.drew.range r2 (by simp)
          have HTd := Lib.hid (HT.out.drew)
          clear HT
          generalize wr.drew = W at *
          have hS := Touch.refl [] W
          refine tkH 0 (.func (.func 53) #[] #[]) rfl ?_
          try simp only [Act.put, sT, s0, sS]
          refine tkH 1 (.slice (some ⟨b1, o1, none⟩) n c1) rfl ?_
          try simp only [Act.put, sT, s0, sS]
          refine tkH 2 (.int .i64 (i : Nat)) rfl ?_
          try simp only [Act.put, sT, s0, sS]
          refine tkH 3 (.pointer (some ⟨b1, o1 + i * 17, none⟩)) rfl ?_
          try simp only [Act.put, sT, s0, sS]
          refine tkH 4 (.agg x.cells.toArray) rfl ?_ (hy := Or.inl ⟨by rfl, fun w' hw => exec_load_agg _ 28 _ rfl _ _ rfl x.cells _ (hw.range r1 (by simp)) Tryd.underlying28 rfl (by rw [size31, HLX.out])⟩)
          try simp only [Act.put, sT, s0, sS]
          refine tkH 5 (.slice (some ⟨b2, o2, none⟩) n c2) rfl ?_
          try simp only [Act.put, sT, s0, sS]
          refine tkH 6 (.int .i64 (i : Nat)) rfl ?_
          try simp only [Act.put, sT, s0, sS]
          refine tkH 7 (.pointer (some ⟨b2, o2 + i * 17, none⟩)) rfl ?_
          try simp only [Act.put, sT, s0, sS]
          refine tkH 8 (.agg y.cells.toArray) rfl ?_ (hy := Or.inl ⟨by rfl, fun w' hw => exec_load_agg _ 28 _ rfl _ _ rfl y.cells _ (hw.range r2 (by simp)) Tryd.underlying28 rfl (by rw [size31, HLY.out])⟩)
          try simp only [Act.put, sT, s0, sS]
          refine wpAnyH_ready (rs := [9]) (by kernel_rfl) (by simp) ?_
          refine cnH rfl (fun K hK => ?_) AllReadyH.nil
          go_simp
          refine (HE.out _).mono ?_
          rintro e w9 ⟨rfl, t9⟩
          have hS2 := hS.trans t9 (by simp)
          rw [hde]
          refine hK.out _ _ hS2 (fun _ => ?_)
          clear hK K hS t9
          have hS := hS2
          clear hS2
          try simp only [Act.put, sT, s0, sS]
          refine tkH 10 (.bool true) rfl ?_
          try simp only [Act.put, sT, s0, sS]
          refine wpAnyH_done (by kernel_rfl) ?_ _
          try simp only [Act.put, sT, s0, sS]
          have HT2 := Lib.hid (HTd.out.trans hS (by simp))
          clear hS HTd
          go_wp2_with fail
          go_ret
          exact ⟨by rw [HDX.out HXY.out]; first | done | rfl, HT2.out⟩
      · have HFIN := Lib.hid (show decide (l1 = l2) = true by
          rw [decide_eq_true_eq]
          have h := HTK.out
          rw [List.take_of_length_le (by rw [← HN.out]; omega), List.take_of_length_le (by rw [← HNE.out, ← HN.out]; omega)] at h
          exact h)
        go_wp2_with fail
        go_ret
        exact ⟨by rw [HFIN.out]; first | done | rfl, HT.out⟩
  · have HD := Lib.hid (show decide (l1 = l2) = false by
      rw [decide_eq_false_iff_not]
      intro e
      rw [e] at hne
      exact hne rfl)
    obtain ⟨m, hm⟩ : ∃ m, m = l2.length := ⟨_, rfl⟩
    rw [← hm, ← hn]
    have hq : ((n : Int) != (m : Int)) = true := by simp only [bne_iff_ne, ne_eq]; omega
    clear hne hn hm hc1 hc2
    go_enter Tryd.func14, Tryd.ntmps14
    go_wp2_with fail
    go_enter Tryd.func52, Tryd.ntmps52
    go_wp2_with fail
    go_ret
    exact ⟨by rw [HD.out]; first | done | rfl, Touch.refl _ _⟩
/-- Whether a is among l. -/
def inL (l : List Ad) (a : Ad) : Bool := decide (a ∈ l)
set_option maxRecDepth 100000 in
set_option maxHeartbeats 2000000 in
theorem rhas_any (v : Value) (b : Nat) (l : List Ad) (a : Ad) (w : World) (h1 : Rd w 17 b v (l.map Ad.cells)) :
    Calls Tryd.prog 32 #[v, .agg a.cells.toArray] w fun e w' => e = .returned (.bool (inL l a)) ∧ Touch [] w w' := by
  obtain ⟨a1, c1, rfl, hc1, hm1⟩ := h1.form
  simp only [List.length_map] at *
  have H1 := Lib.hid h1
  have hn1 : l.length ≤ 9223372036854775807 := by unfold maxLen at hm1; omega
  obtain ⟨n, hn⟩ : ∃ n, n = l.length := ⟨_, rfl⟩
  have HN := Lib.hid hn
  rw [← hn]
  rw [← hn] at hn1
  have HA := Lib.hid (range_new w a.cells 28)
  have HTA := Lib.hid ((Touch.refl [] w).alloc (.cells a.cells.toArray 28))
  have HLA := Lib.hid a.len
  generalize hr : inL l a = r at *
  have HR := Lib.hid hr
  clear h1 hm1 hn hc1 hr
  go_enter Tryd.func32, Tryd.ntmps32
  go_wp2_with fail
  go_loopw [5] (fun vi wr => ∃ (i : Nat), i ≤ n ∧ vi = .int .i64 i ∧ inL (l.take i) a = false ∧ Touch [] (w.alloc (.cells a.cells.toArray 28)) wr) (fun vi _ => n - (intOf vi).toNat)
  case atStart => exact ⟨0, by omega, rfl, rfl, Touch.refl _ _⟩
  case round =>
    obtain ⟨i, hin, rfl, hno, ht⟩ := hrel
    have HT := Lib.hid ht
    have HNO := Lib.hid hno
    have ra := ht.range HA.out (by simp)
    clear ht hno HA
    by_cases hlt : i < n
    · obtain ⟨x, hx⟩ : ∃ x, l[i]? = some x := ⟨_, List.getElem?_eq_getElem (by rw [← HN.out]; exact hlt)⟩
      obtain ⟨o1, rfl, hat1⟩ := H1.out.at (by intro e; rw [List.map_eq_nil_iff] at e; rw [e] at hx; simp at hx)
      have r1 := (HTA.out.trans HT.out (by simp)).range (hat1 i x.cells (by simp [hx])) (by simp)
      have HX := Lib.hid hx
      have HLX := Lib.hid x.len
      have hwi : IntKind.i64.wrap ((i : Int) + 1) = (i : Int) + 1 := by rw [IntKind.wrap_i64] <;> omega
      have hin2 : (i : Int) < (n : Int) := by omega
      clear hx hat1
      by_cases hxy : x = a
      · have HXY := Lib.hid (show r = true by rw [← HR.out]; unfold inL; rw [decide_eq_true_eq, ← hxy]; exact List.mem_of_getElem? HX.out)
        have HE := Lib.hid (eq_ad_t x a hxy)
        clear hxy
        go_wp2_with fail
        refine wp_region_held (S := Touch [] wr.drew) (by kernel_rfl) ?_
        change wpAnyH _ _ _ _ _ _ _ _ wr.drew
        have r1 : wr.drew.rangeAt b (o1 + i * 17) x.cells := r1
        have ra : wr.drew.rangeAt w.heap.size 0 a.cells := ra
        have HTd := Lib.hid (HT.out.drew)
        clear HT
        generalize wr.drew = W at *
        have hS := Touch.refl [] W
        refine tkH 0 (.slice (some ⟨b, o1, none⟩) n c1) rfl ?_
        try simp only [Act.put, sT, s0, sS]
        refine tkH 1 (.int .i64 (i : Nat)) rfl ?_
        try simp only [Act.put, sT, s0, sS]
        refine tkH 2 (.pointer (some ⟨b, o1 + i * 17, none⟩)) rfl ?_
        try simp only [Act.put, sT, s0, sS]
        refine tkH 3 (.agg x.cells.toArray) rfl ?_ (hy := Or.inl ⟨by rfl, fun w' hw => exec_load_agg _ 28 _ rfl _ _ rfl x.cells _ (hw.range r1 (by simp)) Tryd.underlying28 rfl (by rw [size31, HLX.out])⟩)
        try simp only [Act.put, sT, s0, sS]
        refine tkH 4 (.agg a.cells.toArray) rfl ?_ (hy := Or.inl ⟨by rfl, fun w' hw => exec_load_agg _ 28 _ rfl _ _ rfl a.cells _ (hw.range ra (by simp)) Tryd.underlying28 rfl (by rw [size31, HLA.out])⟩)
        try simp only [Act.put, sT, s0, sS]
        refine tkH 5 (.bool true) rfl ?_ (hy := Or.inl ⟨by rfl, fun w' hw => exec_eql_agg _ 28 _ _ _ rfl x.cells.toArray a.cells.toArray rfl rfl (by kernel_rfl) true (HE.out w')⟩)
        try simp only [Act.put, sT, s0, sS]
        refine wpAnyH_done (by kernel_rfl) ?_ _
        try simp only [Act.put, sT, s0, sS]
        have HT2 := Lib.hid (HTd.out.trans hS (by simp))
        clear hS HTd
        go_wp2_with fail
        go_ret
        exact ⟨by rw [HXY.out]; first | done | rfl, HTA.out.trans HT2.out (by simp)⟩
      · have HXY := Lib.hid hxy
        have HE := Lib.hid (eq_ad_f x a hxy)
        clear hxy
        go_wp2_with fail
        refine wp_region_held (S := Touch [] wr.drew) (by kernel_rfl) ?_
        change wpAnyH _ _ _ _ _ _ _ _ wr.drew
        have r1 : wr.drew.rangeAt b (o1 + i * 17) x.cells := r1
        have ra : wr.drew.rangeAt w.heap.size 0 a.cells := ra
        have HTd := Lib.hid (HT.out.drew)
        clear HT
        generalize wr.drew = W at *
        have hS := Touch.refl [] W
        refine tkH 0 (.slice (some ⟨b, o1, none⟩) n c1) rfl ?_
        try simp only [Act.put, sT, s0, sS]
        refine tkH 1 (.int .i64 (i : Nat)) rfl ?_
        try simp only [Act.put, sT, s0, sS]
        refine tkH 2 (.pointer (some ⟨b, o1 + i * 17, none⟩)) rfl ?_
        try simp only [Act.put, sT, s0, sS]
        refine tkH 3 (.agg x.cells.toArray) rfl ?_ (hy := Or.inl ⟨by rfl, fun w' hw => exec_load_agg _ 28 _ rfl _ _ rfl x.cells _ (hw.range r1 (by simp)) Tryd.underlying28 rfl (by rw [size31, HLX.out])⟩)
        try simp only [Act.put, sT, s0, sS]
        refine tkH 4 (.agg a.cells.toArray) rfl ?_ (hy := Or.inl ⟨by rfl, fun w' hw => exec_load_agg _ 28 _ rfl _ _ rfl a.cells _ (hw.range ra (by simp)) Tryd.underlying28 rfl (by rw [size31, HLA.out])⟩)
        try simp only [Act.put, sT, s0, sS]
        refine tkH 5 (.bool false) rfl ?_ (hy := Or.inl ⟨by rfl, fun w' hw => exec_eql_agg _ 28 _ _ _ rfl x.cells.toArray a.cells.toArray rfl rfl (by kernel_rfl) false (HE.out w')⟩)
        try simp only [Act.put, sT, s0, sS]
        refine wpAnyH_done (by kernel_rfl) ?_ _
        try simp only [Act.put, sT, s0, sS]
        have HT2 := Lib.hid (HTd.out.trans hS (by simp))
        clear hS HTd
        go_wp2_with fail
        go_roundw
        case rel => exact ⟨i + 1, by omega, by go_num, by
          have h := HNO.out
          unfold inL at h ⊢
          rw [decide_eq_false_iff_not] at h ⊢
          rw [List.take_add_one, HX.out]
          simp only [Option.toList_some, List.mem_append, List.mem_singleton]
          rintro (e | e)
          · exact h e
          · exact HXY.out e.symm, HT2.out⟩
        case measure => simp [intOf]; omega
    · have HFIN := Lib.hid (show r = false by
        rw [← HR.out]
        have h := HNO.out
        rw [List.take_of_length_le (by rw [← HN.out]; omega)] at h
        exact h)
      go_wp2_with fail
      go_ret
      exact ⟨by rw [HFIN.out]; first | done | rfl, HTA.out.trans HT.out (by simp)⟩
end Go.Proofs.YtiklhaajhdephaaDoor

/-
  append at rows of addresses: one address, many addresses; the contracts of the reference's Dedup and Sort.
-/
namespace Go.Proofs.YtiklhaajhdephaaDoor
open Go.RowKit
set_option linter.unusedVariables false
set_option linter.unusedSimpArgs false

theorem ads_one17 (l : List Ad) : ∀ u ∈ (l.map Ad.cells).flatten, u.oneCell' = true := ads_one (by intro x hx; obtain ⟨y, _, rfl⟩ := List.mem_map.1 hx; exact y.is)
theorem OwnA.rd {w0 w : World} {v : Value} {l : List Ad} (h : OwnA w0 w v l) : ∃ b, Rd w 17 b v (l.map Ad.cells) ∧ (v.ownBlock = some b ∨ v.ownBlock = none) := by
  cases hb : v.ownBlock with
  | none => exact ⟨0, Rd.of_owns (ads_len17 l) h.row (by intro b hb2; rw [hb] at hb2; cases hb2), .inr rfl⟩
  | some g => exact ⟨g, Rd.of_owns (ads_len17 l) h.row (by intro b hb2; rw [hb] at hb2; cases hb2; rfl), .inl rfl⟩
theorem wpList_build_ad {ops : Array Oper} {rest : List Oper} {op : Oper} {a : Act} {w : World} {Q : Exit → Act → World → Prop} (hgd : op.guard = none) (parts : Array (Nat × Operand)) (ho : op.op = .buildSlice 22 1 parts)
    (y : Ad) (he : (parts.toList.map fun (p : Nat × Operand) => (p.1, a.eval p.2)) = [(0, .agg y.cells.toArray)])
    (h : wpList Tryd.prog ops Q rest (a.put op.dst (.slice (some ⟨w.heap.size, 0, none⟩) 1 1)) (w.alloc (.cells [y.cells].flatten.toArray 28))) : wpList Tryd.prog ops Q (op :: rest) a w := by
  obtain ⟨iA, hiA, hzA, hsA, hbA⟩ := info_parts info28
  exact wpList_buildSlice_rows hgd 22 1 parts ho 28 17 iA _ Tryd.underlying22 hiA hzA hsA (by omega) [y.cells] rfl (by simp [y.len]) (by omega) (by rw [he]; rfl) h
theorem own_app {w0 w w' : World} {v v' : Value} {l m : List Ad} (hown : OwnA w0 w v l) (hz : w0.heap.size ≤ w.heap.size) (ho : w'.ownsRow 0 28 17 v' (l.length + m.length) ((l.map Ad.cells).flatten ++ (m.map Ad.cells).flatten)) (hv : v'.ownBlock = v.ownBlock ∨ ∃ k, v'.ownBlock = some k ∧ w.heap.size ≤ k) : OwnA w0 w' v' (l ++ m) := by
  refine ⟨?_, ?_⟩
  · rw [List.map_append, List.flatten_append, List.length_append, List.length_map, List.length_map]
    exact ho
  · intro g hg
    rcases hv with e | ⟨k, e, hk⟩
    · rw [e] at hg; exact hown.new g hg
    · rw [e] at hg; cases hg; omega
theorem wpList_app_ad {ops : Array Oper} {rest : List Oper} {o : Oper} {a : Act} {Q : Exit → Act → World → Prop} (w0 w : World) (hgd : o.guard = none) (s x : Operand)
    (ho : o.op = .call { callee := .builtin .append, args := #[s, x], argTypes := #[22, 22] })
    (v : Value) (l : List Ad) (hs : a.eval s = v) (hown : OwnA w0 w v l) (hz : w0.heap.size ≤ w.heap.size) (y : Ad) (hx : a.eval x = .slice (some ⟨w.heap.size, 0, none⟩) 1 1) (hl : (l.length + 1) * 17 ≤ 140737488355328)
    (h : ∀ v' w', OwnA w0 w' v' (l ++ [y]) → Touch v.ownBlock.toList w w' → (v'.ownBlock = v.ownBlock ∨ v'.ownBlock = some (w.heap.size + 1)) → wpList Tryd.prog ops Q rest (a.put o.dst v') w') : wpList Tryd.prog ops Q (o :: rest) a (w.alloc (.cells [y.cells].flatten.toArray 28)) := by
  obtain ⟨iA, hiA, hzA, hsA, hbA⟩ := info_parts info28
  refine wpList_app_rec _ hgd s x 22 ho 28 iA _ 17 17 Tryd.underlying22 hiA hzA hsA hbA rfl (by omega) v l.length _ hs hown.row' ([y.cells].flatten) 28 hx (by simp [y.len]) (by simpa using y.one) (by unfold maxLen; omega) (by omega) ?_
  intro v' w' ho2 t2 hv2
  refine h v' w' (own_app (m := [y]) hown hz (by simpa using ho2) ?_) t2 hv2
  rcases hv2 with e | e
  · exact .inl e
  · exact .inr ⟨_, e, by omega⟩
/-- append(s, m..): a row of the call's own, then what another slice reads. -/
theorem wpList_app_ads {ops : Array Oper} {rest : List Oper} {o : Oper} {a : Act} {Q : Exit → Act → World → Prop} (w0 w : World) (hgd : o.guard = none) (s x : Operand)
    (ho : o.op = .call { callee := .builtin .append, args := #[s, x], argTypes := #[22, 22] })
    (v : Value) (l : List Ad) (hs : a.eval s = v) (hown : OwnA w0 w v l) (hz : w0.heap.size ≤ w.heap.size) (v2 : Value) (b : Nat) (m : List Ad) (hx : a.eval x = v2) (hm : Rd w 17 b v2 (m.map Ad.cells)) (hl : (l.length + m.length) * 17 ≤ 140737488355328)
    (h : ∀ v' w', OwnA w0 w' v' (l ++ m) → Touch v.ownBlock.toList w w' → (v'.ownBlock = v.ownBlock ∨ v'.ownBlock = some w.heap.size) → wpList Tryd.prog ops Q rest (a.put o.dst v') w') : wpList Tryd.prog ops Q (o :: rest) a w := by
  obtain ⟨iA, hiA, hzA, hsA, hbA⟩ := info_parts info28
  obtain ⟨ao, cap, rfl, hlc, hcm⟩ := hm.form
  rw [List.length_map] at hm hx hlc
  obtain ⟨hnone, hnews⟩ := hm.news (by omega) (ads_len17 m)
  refine wpList_app _ hgd s x 22 ho 28 iA _ 17 17 Tryd.underlying22 hiA hzA hsA hbA rfl (by omega) v l.length _ hs hown.row' ao m.length cap ((m.map Ad.cells).flatten) hx (ads_flat m) hnone hnews (ads_one17 m) (by unfold maxLen; omega) (by omega) ?_
  intro v' w' ho2 t2 hv2
  refine h v' w' (own_app hown hz ho2 ?_) t2 hv2
  rcases hv2 with e | e
  · exact .inl e
  · exact .inr ⟨_, e, Nat.le_refl _⟩
end Go.Proofs.YtiklhaajhdephaaDoor

/-
  The cells of an address that came in.
-/
namespace Go.Proofs.YtiklhaajhdephaaDoor
open Go.ChangeShapes Go.WideShapes Go.Deep
set_option linter.unusedVariables false
set_option linter.unusedSimpArgs false

theorem isAd_cells {H : Type} {enc : TypeId × Value → H} {w : World} {base : Nat} {spare : Nat → Bool} {held : Bool} {x : List Value}
    (h : CellsOk enc Tryd.prog w base spare held [4, 5, 5, 5, 5, 5, 5, 5, 5, 5, 5, 5, 5, 5, 5, 5, 5] x) : IsAd x := by
  obtain ⟨hl, hc⟩ := h
  cases x with
  | nil => simp at hl
  | cons u r =>
    obtain ⟨v, hv, l0⟩ := hc 0 4 rfl
    simp at hv
    subst hv
    obtain ⟨b, rfl⟩ := l0.bool Tryd.underlying4
    have hr : r.length = 16 := by simpa using hl
    have key : ∀ j, j < 16 → ∃ n : Int, r[j]? = some (.int .u8 n) ∧ 0 ≤ n ∧ n ≤ 255 := by
      intro j hj
      have : [4, 5, 5, 5, 5, 5, 5, 5, 5, 5, 5, 5, 5, 5, 5, 5, 5][j + 1]? = some 5 := by
        have : ∀ j : Fin 16, [4, 5, 5, 5, 5, 5, 5, 5, 5, 5, 5, 5, 5, 5, 5, 5, 5][j.val + 1]? = some 5 := by decide
        exact this ⟨j, hj⟩
      obtain ⟨v, hv, l⟩ := hc (j + 1) 5 this
      obtain ⟨n, rfl, hw⟩ := l.int Tryd.underlying5
      refine ⟨n, by simpa using hv, ?_⟩
      simp [Lit.wf, IntKind.min, IntKind.max, IntKind.signed, IntKind.bits] at hw
      omega
    refine ⟨b, r.map fun v => match v with | .int _ n => n | _ => 0, ?_, by simpa using hr, ?_⟩
    · unfold adr
      congr 1
      apply List.ext_getElem?
      intro j
      by_cases hj : j < 16
      · obtain ⟨n, hn, _⟩ := key j hj
        simp [hn]
      · simp [List.getElem?_eq_none (show r.length ≤ j by omega)]
    · intro y hy
      obtain ⟨z, hz, rfl⟩ := List.mem_map.1 hy
      obtain ⟨j, hj, rfl⟩ := List.getElem_of_mem hz
      obtain ⟨n, hn, h1, h2⟩ := key j (by omega)
      rw [List.getElem?_eq_getElem hj] at hn
      simp at hn
      rw [hn]
      exact ⟨h1, h2⟩

end Go.Proofs.YtiklhaajhdephaaDoor

/-
  The contract of Dedup.
-/
namespace Go.Proofs.YtiklhaajhdephaaDoor
open Go.RowKit
set_option linter.unusedVariables false
set_option linter.unusedSimpArgs false

theorem look_put_same {α : Type} [DecidableEq α] (kv : List (α × Value)) (a : α) (v : Value) : look (put kv a v) a = some v := by
  unfold put
  split
  · rename_i h
    unfold look at *
    rw [Option.isSome_map] at h
    obtain ⟨p, hp⟩ := Option.isSome_iff_exists.1 h
    have h1 := List.find?_some hp
    simp only [decide_eq_true_eq] at h1
    clear h
    induction kv with
    | nil => simp at hp
    | cons q r ih =>
      by_cases e : q.1 = a
      · simp [e]
      · rw [List.find?_cons_of_neg (by simpa using e)] at hp
        simp only [List.map_cons, if_neg e]
        rw [List.find?_cons_of_neg (by simpa using e)]
        exact ih hp
  · rename_i h
    unfold look at *
    rw [List.find?_append]
    cases hf : kv.find? (fun p => decide (p.1 = a)) with
    | none => simp
    | some p => rw [hf] at h; simp at h
theorem look_put_other {α : Type} [DecidableEq α] (kv : List (α × Value)) (a c : α) (v : Value) (h : a ≠ c) : look (put kv a v) c = look kv c := by
  unfold put
  split
  · unfold look
    congr 1
    rename_i hs
    clear hs
    induction kv with
    | nil => rfl
    | cons q r ih =>
      by_cases e : q.1 = a
      · have e2 : ¬ q.1 = c := fun x => h (e.symm.trans x)
        simp only [List.map_cons, if_pos e]
        rw [List.find?_cons_of_neg (by simpa using h), List.find?_cons_of_neg (by simpa using e2)]
        exact ih
      · simp only [List.map_cons, if_neg e]
        by_cases e2 : q.1 = c
        · rw [List.find?_cons_of_pos (by simpa using e2), List.find?_cons_of_pos (by simpa using e2)]
        · rw [List.find?_cons_of_neg (by simpa using e2), List.find?_cons_of_neg (by simpa using e2)]
          exact ih
  · unfold look
    rw [List.find?_append]
    cases kv.find? (fun p => decide (p.1 = c)) with
    | none => simp [h]
    | some p => simp
def seenP (l : List Ad) (k : Nat) (q : Bool × List Int) : Bool := (dedN l k).any (fun c => decide (c.key = q))
theorem zeroB (w : World) : (zeroValue 4).run Tryd.prog w = .ok (.bool false) w := by kernel_rfl
set_option maxRecDepth 100000 in
set_option maxHeartbeats 2000000 in
theorem dedup_any (v : Value) (b : Nat) (l : List Ad) (w : World) (hv : Rd w 17 b v (l.map Ad.cells)) (hl : l.length * 17 ≤ 140737488351232) :
    Calls Tryd.prog 17 #[v] w fun e w' => ∃ v', e = .returned v' ∧ OwnA w w' v' (dedP l) ∧ Touch [] w w' := by
  obtain ⟨iA, hiA, hzA, hsA, hbA⟩ := info_parts info28
  obtain ⟨a, cap, rfl, hlc, hcm⟩ := hv.form
  rw [List.length_map] at hv hlc ⊢
  have hcm2 : cap ≤ 9223372036854775807 := by unfold maxLen at hcm; omega
  obtain ⟨W0, hW0⟩ : ∃ W0, W0 = w.alloc (.map #[] 0) := ⟨_, rfl⟩
  have HM0 := Lib.hid (show Mp encA okA W0 w.heap.size [] by rw [hW0]; exact Mp.made w)
  have T0 := Lib.hid (show Touch [] w W0 by rw [hW0]; exact (Touch.refl [] w).alloc _)
  have HW0 := Lib.hid hW0
  clear hW0
  have hmm : ∀ w, (Instr.makeMap 85 none).run Tryd.prog w = .ok (.map (some w.heap.size)) (w.alloc (.map #[] 0)) := fun _ => rfl
  go_enter Tryd.func17, Tryd.ntmps17
  go_wp2_with fail
  rw [← HW0.out]
  go_loopw [3, 10] (fun vo vi wr => ∃ (i : Nat) (kv : List ((Bool × List Int) × Value)), i ≤ l.length ∧ vi = .int .i64 i ∧ OwnA W0 wr vo (dedN l i) ∧ Mp encA okA wr w.heap.size kv ∧ (∀ q, look kv q = if seenP l i q then some (.bool true) else none) ∧ Touch [] w wr ∧ W0.heap.size ≤ wr.heap.size) (fun _ vi _ => l.length - (intOf vi).toNat)
  case atStart => exact ⟨0, [], by omega, rfl, Own.nil _ _, HM0.out, by intro q; simp [look, seenP, dedN], T0.out, Nat.le_refl _⟩
  case round =>
    obtain ⟨i, kv, hi, rfl, hown, hmp, hlook, ht, hz⟩ := hrel
    by_cases hlt : i < l.length
    · obtain ⟨x, hx⟩ : ∃ x, l[i]? = some x := ⟨_, List.getElem?_eq_getElem hlt⟩
      obtain ⟨off, rfl, hat⟩ := hv.at (by intro e; rw [List.map_eq_nil_iff] at e; subst e; simp at hlt)
      have hrg := ht.range (hat i x.cells (by simp [hx])) (by simp)
      have hdl := dedN_len l i
      have HLX := Lib.hid x.len
      have HDX := Lib.hid (show dedN l (i + 1) = if seenP l i x.key then dedN l i else dedN l i ++ [x] by simp only [dedN, hx]; rfl)
      have HSX := Lib.hid (fun q => (show seenP l (i + 1) q = (decide (x.key = q) || seenP l i q) by
        have h1 := dedN_mem l (i + 1) q
        have h2 := dedN_mem l i q
        rw [Bool.eq_iff_iff]
        unfold seenP
        rw [h1, Bool.or_eq_true, h2]
        constructor
        · rintro ⟨j, y, hj, hy, hk⟩
          by_cases e : j = i
          · subst e
            rw [hx] at hy
            cases hy
            left
            simpa using hk
          · exact .inr ⟨j, y, by omega, hy, hk⟩
        · rintro (hk | ⟨j, y, hj, hy, hk⟩)
          · exact ⟨i, x, by omega, hx, by simpa using hk⟩
          · exact ⟨j, y, by omega, hy, hk⟩))
      have HLK := Lib.hid hlook
      have HN := Lib.hid (heap_alloc_new wr (.cells (adr false (List.replicate 16 0)).toArray 28))
      have HNT := Lib.hid ((Touch.refl [] wr).alloc (.cells (adr false (List.replicate 16 0)).toArray 28))
      have hm0 : w.heap.size < W0.heap.size := by rw [HW0.out]; simp
      clear hat hx hlook
      go_wp2_with (first
        | ((with_reducible refine at_load 28 ?_); refine wpList_load_mid rfl 28 _ rfl b (off + i * 17) rfl x.cells _ hrg Tryd.underlying28 rfl (by rw [size31, HLX.out]) ?_)
        | ((with_reducible refine at_store 28 ?_); refine wpList_store_into rfl 28 _ _ rfl wr.heap.size 28 _ x.cells rfl rfl HN.out (by rw [HLX.out]; rfl) (by rw [size31, HLX.out]) x.one ?_))
      intro A hA tA0 zA
      have tA := HNT.out.trans tA0 (by intro y hy; right; simp at hy; omega)
      have hrx := range_block hA
      have HX1 := Lib.hid hA
      have hmpA := hmp.touch tA (by simp)
      have hlk' := hmpA.lookup keyA Tryd.underlying85 (zeroB _) (a := x.key) x.ok false
      have hownA : OwnA W0 A u3 (dedN l i) := hown.touch tA (by simp)
      have hrowA := hownA.row'
      have htA := ht.trans tA (by simp)
      have zA2 : A.heap.size = wr.heap.size + 1 := by simpa using zA
      rw [HLK.out] at hlk'
      clear hmp hA tA0 HN HNT hrg zA ht
      by_cases hs : seenP l i x.key = true
      · rw [if_pos hs] at hlk'
        have hlk : (Instr.lookup 85 (.map (some w.heap.size)) (.agg x.cells.toArray) false).run Tryd.prog A = .ok (.bool true) A := hlk'
        obtain ⟨w3, hst', M3, t3, z3⟩ := hmpA.store keyA Tryd.underlying85 (a := x.key) x.ok (.bool true)
        have hst : (Instr.mapUpdate 85 (.map (some w.heap.size)) (.agg x.cells.toArray) (.bool true)).run Tryd.prog A = .ok () w3 := hst'
        have HD2 := Lib.hid (show dedN l (i + 1) = dedN l i by rw [HDX.out, if_pos hs])
        have hown3 : OwnA W0 w3 u3 (dedN l i) := Own.touch hownA t3 (by intro g hg; have := hown.new g hg; simp; omega)
        have ht3 : Touch [] w w3 := htA.trans t3 (by simp)
        have hlook3 : ∀ q, look (put kv x.key (.bool true)) q = if seenP l (i + 1) q then some (.bool true) else none := by
          intro q
          rw [HSX.out]
          by_cases e : x.key = q
          · subst e
            rw [look_put_same]
            simp
          · rw [look_put_other _ _ _ _ e, HLK.out]
            simp [e]
        have FIN := Lib.hid (And.intro hown3 (And.intro M3 (And.intro hlook3 (And.intro ht3 (show W0.heap.size ≤ w3.heap.size by omega)))))
        clear hown3 M3 hlook3 ht3 t3 hrowA hownA hmpA hlk' hst' hown
        go_wp2_with ((with_reducible refine at_load 28 ?_); refine wpList_load_mid rfl 28 _ rfl wr.heap.size 0 rfl x.cells _ hrx Tryd.underlying28 rfl (by rw [size31, HLX.out]) ?_)
        go_roundw
        case rel =>
          obtain ⟨f1, f2, f3, f4, f5⟩ := FIN.out
          exact ⟨i + 1, _, by omega, by go_num, by rw [HD2.out]; exact f1, f2, f3, f4, f5⟩
        case measure => simp [intOf]; omega
      · rw [if_neg hs] at hlk'
        have hlk : (Instr.lookup 85 (.map (some w.heap.size)) (.agg x.cells.toArray) false).run Tryd.prog A = .ok (.bool false) A := hlk'
        have HD2 := Lib.hid (show dedN l (i + 1) = dedN l i ++ [x] by rw [HDX.out, if_neg hs])
        go_wp2_with (first
          | ((with_reducible refine at_load 28 ?_); refine wpList_load_mid rfl 28 _ rfl wr.heap.size 0 rfl x.cells _ hrx Tryd.underlying28 rfl (by rw [size31, HLX.out]) ?_)
          | (refine wpList_buildSlice_rows rfl 22 1 _ rfl 28 17 iA _ Tryd.underlying22 hiA hzA hsA (by omega) [x.cells] rfl (by simp [HLX.out]) (by omega) (by rfl) ?_)
          | (at_builtin; refine wpList_app_rec _ (by rfl) _ _ 22 (by rfl) 28 iA _ 17 17 Tryd.underlying22 hiA hzA hsA hbA rfl (by omega) _ (dedN l i).length _ (by rfl) hrowA ([x.cells].flatten) 28 (by rfl) (by simp [HLX.out]) (by simpa using x.one) (by unfold maxLen; omega) (by omega) ?_))
        intro vo w2 ho2 t2 hv2
        have hown2 : OwnA W0 w2 vo (dedN l i ++ [x]) := by
          refine ⟨?_, ?_⟩
          · rw [List.map_append, List.flatten_append, List.length_append, List.length_map, List.length_map]
            simpa using ho2
          · intro g hg
            rcases hv2 with e | e
            · rw [e] at hg; exact hown.new g hg
            · rw [e] at hg; simp at hg; omega
        have nM : w.heap.size ∉ u3.ownBlock.toList := by
          intro hm
          have := hown.new _ (by simpa using hm)
          omega
        have hmp2 := hmpA.touch t2 nM
        have hrx2 := t2.range hrx (by intro hm; have := hown.lt _ (by simpa using hm); omega)
        have ht2 : Touch [] w w2 := htA.trans t2 (fun g hg => .inr (by have := hown.new g (by simpa using hg); omega))
        have z2 := t2.size
        obtain ⟨w3, hst', M3, t3, z3⟩ := hmp2.store keyA Tryd.underlying85 (a := x.key) x.ok (.bool true)
        have hst : (Instr.mapUpdate 85 (.map (some w.heap.size)) (.agg x.cells.toArray) (.bool true)).run Tryd.prog w2 = .ok () w3 := hst'
        have hown3 : OwnA W0 w3 vo (dedN l i ++ [x]) := Own.touch hown2 t3 (by intro g hg; have := hown2.new g hg; simp; omega)
        have ht3 : Touch [] w w3 := ht2.trans t3 (by simp)
        have hlook3 : ∀ q, look (put kv x.key (.bool true)) q = if seenP l (i + 1) q then some (.bool true) else none := by
          intro q
          rw [HSX.out]
          by_cases e : x.key = q
          · subst e
            rw [look_put_same]
            simp
          · rw [look_put_other _ _ _ _ e, HLK.out]
            simp [e]
        have FIN := Lib.hid (And.intro hown3 (And.intro M3 (And.intro hlook3 (And.intro ht3 (show W0.heap.size ≤ w3.heap.size by omega)))))
        clear hown3 M3 hlook3 ht3 t3 hrowA hownA hmpA hlk' hst' hown hlk hown2 hmp2 ht2 t2 ho2 hv2 hrx
        go_wp2_with ((with_reducible refine at_load 28 ?_); refine wpList_load_mid rfl 28 _ rfl wr.heap.size 0 rfl x.cells _ hrx2 Tryd.underlying28 rfl (by rw [size31, HLX.out]) ?_)
        go_roundw
        case rel =>
          obtain ⟨f1, f2, f3, f4, f5⟩ := FIN.out
          exact ⟨i + 1, _, by omega, by go_num, by rw [HD2.out]; exact f1, f2, f3, f4, f5⟩
        case measure => simp [intOf]; omega
    · have hie : i = l.length := by omega
      subst hie
      go_wp2_with fail
      go_ret
      exact ⟨_, rfl, Own.older hown T0.out.size, ht⟩
end Go.Proofs.YtiklhaajhdephaaDoor

/-
  The contracts of WithSpare, Overwrite and Unchanged at slices of addresses.
-/
namespace Go.Proofs.YtiklhaajhdephaaDoor
open Go.RowKit Go.Deep
set_option linter.unusedVariables false
set_option linter.unusedSimpArgs false

theorem Own.rd {w0 w : World} {v : Value} {xs : List (List Value)} (h : Own w0 w v xs) (hx : ∀ x ∈ xs, IsAd x) : ∃ b, Rd w 17 b v xs ∧ (xs ≠ [] → v.ownBlock = some b) := by
  cases hb : v.ownBlock with
  | none => 
    refine ⟨0, Rd.of_owns (ads_len hx) h.row (by simp [hb]), fun hne => ?_⟩
    obtain ⟨a, c, rfl, _, _, h3⟩ := owns_form h.row
    obtain ⟨g, rfl⟩ := h3 (List.length_pos_iff.2 hne)
    simp [Value.ownBlock] at hb
  | some b => exact ⟨b, Rd.of_owns (ads_len hx) h.row (by simp [hb]), fun _ => rfl⟩

theorem Own.rdg {w0 w : World} {a : Option Addr} {n c : Nat} {xs : List (List Value)} (h : Own w0 w (.slice a n c) xs) (hx : ∀ x ∈ xs, IsAd x) (hne : xs ≠ []) : ∃ g, a = some ⟨g, 0, none⟩ ∧ w0.heap.size ≤ g ∧ Rd w 17 g (.slice a n c) xs := by
  obtain ⟨b, h1, h2⟩ := h.rd hx
  obtain ⟨a', c', hv, _, _, h3⟩ := owns_form h.row
  simp only [Value.slice.injEq] at hv
  obtain ⟨rfl, rfl, rfl⟩ := hv
  obtain ⟨g, rfl⟩ := h3 (List.length_pos_iff.2 hne)
  have := h2 hne
  simp [Value.ownBlock] at this
  subst this
  exact ⟨g, rfl, h.new g rfl, h1⟩

set_option maxRecDepth 100000 in
set_option maxHeartbeats 1000000 in
theorem spare_any (v : Value) (b : Nat) (xs : List (List Value)) (f : List Value) (w : World) (hl : xs.length ≤ 100) (hv : Rd w 17 b v xs) (hxs : ∀ x ∈ xs, IsAd x) (hf : IsAd f) :
    Calls Tryd.prog 33 #[v, .agg f.toArray] w fun e w' => ∃ g, e = .returned (.slice (some ⟨g, 0, none⟩) xs.length (xs.length + 3)) ∧ w.heap.size ≤ g ∧
      Rd w' 17 g (.slice (some ⟨g, 0, none⟩) (xs.length + 3) (xs.length + 3)) (xs ++ [f, f, f]) ∧ Touch [] w w' := by
  obtain ⟨i31, hi31, hz31, hs31, hb31⟩ := info_parts info28
  obtain ⟨a, cap, rfl, hlc, hcm⟩ := hv.form
  have hcm2 : cap ≤ 9223372036854775807 := by unfold maxLen at hcm; omega
  obtain ⟨hn1, hn2⟩ := (((hv.touch ((Touch.refl [] w).alloc (.cells f.toArray 28)) (by simp)).touch ((Touch.refl [] (w.alloc (.cells f.toArray 28))).alloc (.cells #[] 28)) (by simp))).news (by omega) (ads_len hxs)
  have HL := Lib.hid hf.len
  have HX := Lib.hid (flat_len (ads_len hxs))
  have hr := World.rangeAt_alloc (range_new w f 28) (.cells #[] 28)
  have hown0 := World.ownsRow_made (base := 0) (e := 28) (size := 17) (w.alloc (.cells f.toArray 28)) #[] 0 (Nat.zero_le _) (by simp [maxLen]) (by simp)
  simp only [World.size_alloc] at hown0
  have hall : ∀ x ∈ xs ++ [f, f, f], IsAd x := by
    intro x hx
    simp only [List.mem_append, List.mem_cons, List.not_mem_nil, or_false] at hx
    rcases hx with h | rfl | rfl | rfl
    · exact hxs x h
    all_goals assumption
  go_enter Tryd.func33, Tryd.ntmps33
  go_wp2_with (first
    | (refine wpList_buildSlice_rows rfl 22 0 _ rfl 28 17 i31 _ Tryd.underlying22 hi31 hz31 hs31 (by omega) [] rfl (by simp) (by omega) (by rfl) ?_)
    | (at_builtin; refine wpList_app _ (by rfl) _ _ 22 (by rfl) 28 i31 _ 17 17 Tryd.underlying22 hi31 hz31 hs31 hb31 rfl (by omega) _ 0 _ (by rfl) hown0 a xs.length cap xs.flatten (by rfl) (by rw [HX.out]) hn1 hn2 (ads_one hxs) (by unfold maxLen; omega) (by omega) ?_))
  intro v1 w1 o1 t1 hv1
  try simp only [Nat.zero_add, List.nil_append] at o1
  have tA : Touch [] w w1 := (((Touch.refl [] w).alloc (.cells f.toArray 28)).alloc (.cells #[] 28)).trans t1 (by simp [Value.ownBlock])
  have ho1 : Own w w1 v1 xs := by
    refine ⟨o1, fun g hg => ?_⟩
    rcases hv1 with e | e
    · rw [e] at hg; simp [Value.ownBlock] at hg; omega
    · rw [e] at hg; simp at hg; omega
  have hr1 := t1.range hr (by simp [Value.ownBlock])
  clear o1 t1 hv1 hn1 hn2 hv hown0 hr
  have ho1r := (ho1.touch ((Touch.refl [] w1).alloc (.cells [f, f, f].flatten.toArray 28)) (by simp)).row
  go_wp2_with (first
    | (refine wpList_load_mid rfl 28 _ rfl w.heap.size 0 rfl f _ hr1 Tryd.underlying28 rfl (by rw [size31, HL.out]) ?_)
    | (refine wpList_buildSlice_rows rfl 22 3 _ rfl 28 17 i31 _ Tryd.underlying22 hi31 hz31 hs31 (by omega) [f, f, f] rfl (by simp [HL.out]) (by omega) (by rfl) ?_)
    | (at_builtin; refine wpList_app _ (by rfl) _ _ 22 (by rfl) 28 i31 _ 17 17 Tryd.underlying22 hi31 hz31 hs31 hb31 rfl (by omega) v1 xs.length _ (by rfl) ho1r (some ⟨w1.heap.size, 0, none⟩) 3 3 [f, f, f].flatten (by rfl) (by simp [HL.out]) (by simp) (by intro ad h j u hu; cases h; rw [Addr.add_lit]; exact range_new w1 _ 28 j u hu) (ads_one (by intro x hx; simp only [List.mem_cons, List.not_mem_nil, or_false] at hx; rcases hx with rfl | rfl | rfl <;> exact hf)) (by unfold maxLen; omega) (by omega) ?_))
  intro v2 w2 o2 t2 hv2
  have e3 : f ++ (f ++ f) = [f, f, f].flatten := by simp
  rw [e3] at o2 t2
  have tB := (Touch.refl [] w1).alloc (.cells [f, f, f].flatten.toArray 28)
  have z1 := tA.size
  have ho2 : Own w w2 v2 (xs ++ [f, f, f]) := by
    refine ⟨by rw [List.flatten_append, List.length_append]; exact o2, fun g hg => ?_⟩
    rcases hv2 with e | e
    · rw [e] at hg; exact ho1.new g hg
    · rw [e] at hg; simp at hg; omega
  have tC : Touch [] w w2 := (tA.trans tB (by simp)).trans t2 (fun g hg => .inr (ho1.new g (by simpa using hg)))
  obtain ⟨a2, c2, rfl, hc1, hc2, _⟩ := owns_form o2
  have hc3 : c2 ≤ 9223372036854775807 := by unfold maxLen at hc2; omega
  obtain ⟨g, rfl, hg, hd⟩ := (show Own w w2 (.slice a2 (xs ++ [f, f, f]).length c2) (xs ++ [f, f, f]) by simpa using ho2).rdg hall (by simp)
  have hd2 : Rd w2 17 g (.slice (some ⟨g, 0, none⟩) (xs.length + 3) (xs.length + 3)) (xs ++ [f, f, f]) := by
    obtain ⟨off, h1, h2⟩ := hd.at (by simp)
    simp at h1
    obtain rfl := h1
    exact ⟨some ⟨g, 0, none⟩, xs.length + 3, by simp, by simp, by unfold maxLen; omega, by simp, fun _ => ⟨0, rfl, h2⟩⟩
  clear hd ho2 o2 t2 ho1 ho1r hv2 hr1
  go_wp2_with fail
  go_ret
  exact ⟨g, rfl, hg, hd2, tC⟩

set_option maxRecDepth 100000 in
set_option maxHeartbeats 1000000 in
theorem over_any (v : Value) (xs : List (List Value)) (w0 w : World) (hv : Own w0 w v xs) (hl : xs.length ≤ 100) :
    Calls Tryd.prog 35 #[v] w fun e w' => e = .returned (.tuple #[]) ∧ Touch v.ownBlock.toList w w' := by
  obtain ⟨a, c, rfl, hc1, hc2, _⟩ := owns_form hv.row
  go_enter Tryd.func35, Tryd.ntmps35
  go_wp2_with fail
  go_loopw [3] (fun vi wr => ∃ (k : Nat), k ≤ xs.length ∧ vi = .int .i64 k ∧ Touch ((Value.slice a xs.length c).ownBlock).toList w wr ∧ w.heap.size < wr.heap.size ∧ wr.rangeAt w.heap.size 0 (adr false [0, 0, 0, 0, 0, 0, 0, 0, 0, 0, 0, 0, 0, 0, 0, 0]) ∧
      (∀ g, a = some ⟨g, 0, none⟩ → 0 < xs.length → ∃ cur : List Value, wr.heap[g]? = some (.cells cur.toArray 28 (0, 0)) ∧ xs.length * 17 ≤ cur.length))
    (fun vi _ => xs.length - (intOf vi).toNat)
  case atStart =>
    refine ⟨0, by omega, rfl, (Touch.refl _ _).alloc _, by simp, range_new w (adr false [0, 0, 0, 0, 0, 0, 0, 0, 0, 0, 0, 0, 0, 0, 0, 0]) 28, fun g hg hx => ?_⟩
    subst hg
    rcases hv.row.2 with ⟨h1, _⟩ | ⟨g', cap, cur, h1, _, h2, h3, h4, h5, h6⟩
    · simp at h1
    · simp at h1
      obtain ⟨rfl, rfl⟩ := h1
      have hgl := (hv.lt g rfl)
      refine ⟨cur.toList, by rw [Below.heap_alloc _ _ _ hgl, h2], by simp [h5]; omega⟩
  case round =>
    obtain ⟨k, hk, rfl, ht, hz, hrz, hcur⟩ := hrel
    by_cases hlt : k < xs.length
    · obtain ⟨a', c', h1, _, _, h3⟩ := owns_form hv.row
      simp only [Value.slice.injEq] at h1
      obtain ⟨rfl, _, rfl⟩ := h1
      obtain ⟨g, rfl⟩ := h3 (by omega)
      obtain ⟨cur, hg, hcl⟩ := hcur g rfl (by omega)
      have hgw := hv.lt g rfl
      have hz17 := adr_one false [0, 0, 0, 0, 0, 0, 0, 0, 0, 0, 0, 0, 0, 0, 0, 0]
      have hzl : (adr false [0, 0, 0, 0, 0, 0, 0, 0, 0, 0, 0, 0, 0, 0, 0, 0]).length = 17 := rfl
      generalize adr false [0, 0, 0, 0, 0, 0, 0, 0, 0, 0, 0, 0, 0, 0, 0, 0] = z at *
      have HZ := Lib.hid hzl
      clear hzl hcur h3
      have hbd : k * 17 + 17 ≤ cur.length := by omega
      go_wp2_with (first
        | (refine wpList_load_mid rfl 28 _ rfl w.heap.size 0 rfl z _ hrz Tryd.underlying28 rfl (by rw [size31, HZ.out]) ?_)
        | (refine wpList_store_part rfl 28 _ _ rfl g (k * 17) 28 cur z rfl rfl hg (by rw [HZ.out]; exact hbd) (by rw [size31, HZ.out]) hz17 ?_))
      intro w2 hg2 t2 s2
      have HZ2 := HZ.out
      have hn : w.heap.size ∉ [g] := by simp; omega
      have rel2 : Touch ((Value.slice (some ⟨g, 0, none⟩) xs.length c).ownBlock).toList w w2 := ht.trans t2 (by intro x hx; left; simpa [Value.ownBlock] using hx)
      have rz2 := t2.range hrz hn
      go_wp2_with fail
      go_roundw
      case rel =>
        refine ⟨k + 1, by omega, by go_num, rel2, by omega, rz2, fun g' hg' _ => ?_⟩
        cases hg'
        refine ⟨_, hg2, ?_⟩
        simp [HZ2]
        omega
      case measure => simp [intOf]; omega
    · go_wp2_with fail
      go_end0
      exact ⟨rfl, ht⟩

set_option maxRecDepth 100000 in
set_option maxHeartbeats 1000000 in
theorem unchanged_any (g b2 : Nat) (v2 : Value) (xs : List (List Value)) (f : List Value) (w : World) (hl : xs.length ≤ 100) (hd : Rd w 17 g (.slice (some ⟨g, 0, none⟩) (xs.length + 3) (xs.length + 3)) (xs ++ [f, f, f])) (h2 : Rd w 17 b2 v2 xs)
    (hxs : ∀ x ∈ xs, IsAd x) (hf : IsAd f) :
    Calls Tryd.prog 34 #[.slice (some ⟨g, 0, none⟩) xs.length (xs.length + 3), v2, .agg f.toArray] w fun e w' => e = .returned (.bool true) ∧ Touch [] w w' := by
  obtain ⟨a, cap, rfl, hlc, hcm⟩ := h2.form
  have hcm2 : cap ≤ 9223372036854775807 := by unfold maxLen at hcm; omega
  have d1 : Rd w 17 g (.slice (some ⟨g, 0, none⟩) xs.length (xs.length + 3)) xs := by
    have := hd.take xs.length (by simp)
    rw [List.take_left' rfl] at this
    exact this
  have tA := (Touch.refl [] w).alloc (.cells f.toArray 28)
  have hr := range_new w f 28
  have HL := Lib.hid hf.len
  go_enter Tryd.func34, Tryd.ntmps34
  go_wp2_with fail
  refine (equal_self _ _ g b2 xs _ (by omega) (d1.touch tA (by simp)) (h2.touch tA (by simp)) hxs).mono ?_
  rintro e w1 ⟨rfl, t1⟩
  have tB := tA.trans t1 (by simp)
  have hr1 := t1.range hr (by simp)
  have hd1 := hd.touch tB (by simp)
  clear hr hd d1 h2 t1 tA
  obtain ⟨off, h1, hat⟩ := hd1.at (by simp)
  simp at h1
  obtain rfl := h1
  have HAT := Lib.hid hat
  clear hat hd1
  go_wp2_with fail
  go_loopw [8] (fun vi wr => ∃ (j : Nat), j ≤ 3 ∧ vi = .int .i64 (xs.length + j : Nat) ∧ Touch [] w1 wr) (fun vi _ => xs.length + 3 - (intOf vi).toNat)
  case atStart => exact ⟨0, by omega, by simp, Touch.refl _ _⟩
  case round =>
    obtain ⟨j, hj, rfl, ht⟩ := hrel
    by_cases hlt : j < 3
    · have hx : (xs ++ [f, f, f])[xs.length + j]? = some f := by
        rw [List.getElem?_append_right (by omega), Nat.add_sub_cancel_left]
        match j, hlt with
        | 0, _ | 1, _ | 2, _ => rfl
      have hq := ht.range (HAT.out _ f hx) (by simp)
      simp only [Nat.zero_add] at hq
      have hq2 := ht.range hr1 (by simp)
      clear hx
      generalize hN : xs.length + j = N at *
      have HN := Lib.hid hN
      have hN1 : N < xs.length + 3 := by omega
      have hN2 : N ≤ 103 := by omega
      clear hN
      go_wp2_with fail
      refine wp_region_still_tail 5 (by kernel_rfl) (by kernel_rfl) ?_
      simp only [List.take_succ_cons, List.take_zero, List.drop_succ_cons, List.drop_zero]
      iterate 3 still_step
      refine wpStill_load_mid rfl 28 _ rfl g (N * 17) rfl f _ hq Tryd.underlying28 rfl (by rw [size31, HL.out]) ?_
      refine wpStill_load_mid rfl 28 _ rfl w.heap.size 0 rfl f _ hq2 Tryd.underlying28 rfl (by rw [size31, HL.out]) ?_
      refine wpStill_nil ?_
      change wpList _ _ _ _ _ wr.drew
      go_wp2_with (refine wpList_neq_agg rfl 28 _ _ _ rfl f.toArray f.toArray rfl rfl (by kernel_rfl) true (eq_self f hf _) ?_)
      have hN3 := HN.out
      go_roundw
      case rel => exact ⟨j + 1, by omega, by rw [← Nat.add_assoc, hN3]; go_num, ht.drew⟩
      case measure => simp [intOf]; omega
    · go_wp2_with fail
      go_ret
      exact ⟨rfl, tB.trans ht (by simp)⟩
end Go.Proofs.YtiklhaajhdephaaDoor

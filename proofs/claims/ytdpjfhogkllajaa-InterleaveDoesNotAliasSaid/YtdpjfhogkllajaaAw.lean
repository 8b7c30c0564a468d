/-
  The laws' sanity check answers true.
-/
import Derived.Test.YtdpjfhogkllajaaEq
import Derived.Test.YtdpjfhogkllajaaIl
namespace Go.Proofs.Ytdpjfhogkllajaa
open Go.RowKit Go.Deep
set_option linter.unusedVariables false
set_option linter.unusedSimpArgs false

theorem five (w : World) (z : Obj) : (((((w.alloc z).alloc z).alloc z).alloc z).alloc z).heap[w.heap.size]? = some z ∧ (((((w.alloc z).alloc z).alloc z).alloc z).alloc z).heap[w.heap.size + 1]? = some z
    ∧ (((((w.alloc z).alloc z).alloc z).alloc z).alloc z).heap[w.heap.size + 1 + 1]? = some z ∧ (((((w.alloc z).alloc z).alloc z).alloc z).alloc z).heap[w.heap.size + 1 + 1 + 1]? = some z
    ∧ (((((w.alloc z).alloc z).alloc z).alloc z).alloc z).heap[w.heap.size + 1 + 1 + 1 + 1]? = some z ∧ Touch [] w (((((w.alloc z).alloc z).alloc z).alloc z).alloc z) := by
  have e1 : (w.alloc z).heap.size = w.heap.size + 1 := by simp
  have e2 : ((w.alloc z).alloc z).heap.size = w.heap.size + 1 + 1 := by rw [← e1]; simp
  have e3 : (((w.alloc z).alloc z).alloc z).heap.size = w.heap.size + 1 + 1 + 1 := by rw [← e2]; simp
  have e4 : ((((w.alloc z).alloc z).alloc z).alloc z).heap.size = w.heap.size + 1 + 1 + 1 + 1 := by rw [← e3]; simp
  have n0 := heap_alloc_new w z
  have n1 := heap_alloc_new (w.alloc z) z
  have n2 := heap_alloc_new ((w.alloc z).alloc z) z
  have n3 := heap_alloc_new (((w.alloc z).alloc z).alloc z) z
  have n4 := heap_alloc_new ((((w.alloc z).alloc z).alloc z).alloc z) z
  rw [e1] at n1
  rw [e2] at n2
  rw [e3] at n3
  rw [e4] at n4
  exact ⟨((((Touch.refl [] _).alloc _).alloc _).alloc _).alloc _ |>.at n0 (by simp), (((Touch.refl [] _).alloc _).alloc _).alloc _ |>.at n1 (by simp), ((Touch.refl [] _).alloc _).alloc _ |>.at n2 (by simp), (Touch.refl [] _).alloc _ |>.at n3 (by simp), n4, (((((Touch.refl [] w).alloc _).alloc _).alloc _).alloc _).alloc _⟩
theorem Rd.new (w : World) (xs : List (List Value)) (h : ∀ x ∈ xs, IsAd x) (hl : xs.length ≤ 1000) (T : TypeId) : Rd (w.alloc (.cells xs.flatten.toArray T)) 17 w.heap.size (.slice (some ⟨w.heap.size, 0, none⟩) xs.length xs.length) xs := by
  refine ⟨_, _, rfl, Nat.le_refl _, by unfold maxLen; omega, (fun e => by cases e), fun hne => ⟨0, rfl, fun i x hx j v hv => ?_⟩⟩
  have := range_new w xs.flatten T (i * 17 + j) v (flat_get (ads_len h) hx hv)
  simpa [Nat.add_assoc] using this
theorem step_guard {P : Program} {ops : Array Oper} {o : Oper} {a : Act} {w : World} {K : Act → World → Prop} {Q : Exit → Act → World → Prop} {E : Prop} (hw : Region.wanted o (yielded ops a.tmps) = true)
    (h : wpList P ops (fun e a w => e = .normal ∧ K a w) [{ o with guard := none }] a w) : if Region.wanted o (yielded ops a.tmps) = true then Oper.wp P o a w K Q else E := by
  rw [if_pos hw]
  have := step_of_list (Q := Q) (E := True) (o := { o with guard := none }) rfl h
  rw [if_pos (by simp [Region.wanted])] at this
  exact this
theorem ad_of {b : Bool} {xs : List Int} (h : xs.length = 16 ∧ ∀ x ∈ xs, 0 ≤ x ∧ x ≤ 255) : IsAd (adr b xs) := ⟨b, xs, rfl, h.1, h.2⟩
theorem aw1 {a b c d e : List Value} (ha : flagv a = true) (hb : flagv b = true) (hc : flagv c = true) (hd : flagv d = false) (he : flagv e = false) : inter [a, b, c, d, e] 1 true = [a, d, b, e, c] := by
  simp [inter, fam, ha, hb, hc, hd, he, lead, cl, zipR]
theorem aw2 {a b c d e : List Value} (ha : flagv a = true) (hb : flagv b = true) (hc : flagv c = true) (hd : flagv d = false) (he : flagv e = false) : inter [a, b, c, d, e] 2 true = [a, b, d, c, e] := by
  simp [inter, fam, ha, hb, hc, hd, he, lead, cl, zipR]

set_option maxRecDepth 100000 in
set_option maxHeartbeats 2000000 in
theorem awake_ok (w : World) : Calls Try.prog 11 #[] w fun e w' => e = .returned (.bool true) ∧ Touch [] w w' := by
  obtain ⟨i31, hi31, hz31, hs31, hb31⟩ := info_parts info31
  go_enter Try.func11, Try.ntmps11
  go_wp2_with fail
  refine (addr_6 6 _ (by decide)).mono ?_
  rintro _ w1 ⟨x0, hx0, rfl, t1⟩
  have ha := ad_of hx0 (b := true)
  have fa : flagv (adr true x0) = true := rfl
  generalize adr true x0 = a at *
  clear hx0
  go_wp2_with fail
  refine (addr_8 22 _ (by decide)).mono ?_
  rintro _ w2 ⟨x1, hx1, rfl, t2⟩
  have hb := ad_of hx1 (b := true)
  have fb : flagv (adr true x1) = true := rfl
  generalize adr true x1 = b at *
  clear hx1
  go_wp2_with fail
  refine (addr_7 7 _ (by decide)).mono ?_
  rintro _ w3 ⟨x2, hx2, rfl, t3⟩
  have hc := ad_of hx2 (b := true)
  have fc : flagv (adr true x2) = true := rfl
  generalize adr true x2 = c at *
  clear hx2
  go_wp2_with fail
  refine (addr_0 0 _ (by decide)).mono ?_
  rintro _ w4 ⟨x3, hx3, rfl, t4⟩
  have hd := ad_of hx3 (b := false)
  have fd : flagv (adr false x3) = false := rfl
  generalize adr false x3 = d at *
  clear hx3
  go_wp2_with fail
  refine (addr_1 1 _ (by decide)).mono ?_
  rintro _ w5 ⟨x4, hx4, rfl, t5⟩
  have he := ad_of hx4 (b := false)
  have fe : flagv (adr false x4) = false := rfl
  generalize adr false x4 = e at *
  clear hx4
  have t05 : Touch [] w w5 := (((t1.trans t2 (by simp)).trans t3 (by simp)).trans t4 (by simp)).trans t5 (by simp)
  have hall : ∀ y ∈ [a, b, c, d, e], IsAd y := by
    intro y hy
    simp only [List.mem_cons, List.not_mem_nil, or_false] at hy
    rcases hy with rfl | rfl | rfl | rfl | rfl <;> assumption
  have I1 := Lib.hid (aw1 fa fb fc fd fe)
  have I2 := Lib.hid (aw2 fa fb fc fd fe)
  have F4 := Lib.hid (show fam false [a, d, b] = [d] by simp [fam, fa, fb, fd])
  have F6 := Lib.hid (show fam true [a, d, b] = [a, b] by simp [fam, fa, fb, fd])
  clear t1 t2 t3 t4 t5 fa fb fc fd fe
  obtain ⟨hz0, hz1, hz2, hz3, hz4, tz⟩ := five w5 (.cells #[.bool false, .int .u8 0, .int .u8 0, .int .u8 0, .int .u8 0, .int .u8 0, .int .u8 0, .int .u8 0, .int .u8 0, .int .u8 0, .int .u8 0, .int .u8 0, .int .u8 0, .int .u8 0, .int .u8 0, .int .u8 0, .int .u8 0] 31)
  have tW := t05.trans tz (by simp)
  have hsz := t05.size
  go_wp2_with (refine wpList_store_into rfl 31 _ _ rfl (w5.heap.size) 31 _ a rfl rfl hz0 (by rw [ha.len]; rfl) (by rw [size31, ha.len]) ha.one ?_)
  intro v0 g0 s0 q0
  have tV0 := tW.trans s0 (by intro x hx; simp only [List.mem_singleton] at hx; subst hx; right; omega)
  replace hz1 := s0.at hz1 (by simp only [List.mem_singleton]; omega)
  replace hz2 := s0.at hz2 (by simp only [List.mem_singleton]; omega)
  replace hz3 := s0.at hz3 (by simp only [List.mem_singleton]; omega)
  replace hz4 := s0.at hz4 (by simp only [List.mem_singleton]; omega)
  clear s0 q0 hz0
  go_wp2_with (refine wpList_store_into rfl 31 _ _ rfl (w5.heap.size + 1) 31 _ b rfl rfl hz1 (by rw [hb.len]; rfl) (by rw [size31, hb.len]) hb.one ?_)
  intro v1 g1 s1 q1
  have tV1 := tV0.trans s1 (by intro x hx; simp only [List.mem_singleton] at hx; subst hx; right; omega)
  replace hz2 := s1.at hz2 (by simp only [List.mem_singleton]; omega)
  replace hz3 := s1.at hz3 (by simp only [List.mem_singleton]; omega)
  replace hz4 := s1.at hz4 (by simp only [List.mem_singleton]; omega)
  replace g0 := s1.at g0 (by simp only [List.mem_singleton]; omega)
  clear s1 q1 hz1
  go_wp2_with (refine wpList_store_into rfl 31 _ _ rfl (w5.heap.size + 1 + 1) 31 _ c rfl rfl hz2 (by rw [hc.len]; rfl) (by rw [size31, hc.len]) hc.one ?_)
  intro v2 g2 s2 q2
  have tV2 := tV1.trans s2 (by intro x hx; simp only [List.mem_singleton] at hx; subst hx; right; omega)
  replace hz3 := s2.at hz3 (by simp only [List.mem_singleton]; omega)
  replace hz4 := s2.at hz4 (by simp only [List.mem_singleton]; omega)
  replace g0 := s2.at g0 (by simp only [List.mem_singleton]; omega)
  replace g1 := s2.at g1 (by simp only [List.mem_singleton]; omega)
  clear s2 q2 hz2
  go_wp2_with (refine wpList_store_into rfl 31 _ _ rfl (w5.heap.size + 1 + 1 + 1) 31 _ d rfl rfl hz3 (by rw [hd.len]; rfl) (by rw [size31, hd.len]) hd.one ?_)
  intro v3 g3 s3 q3
  have tV3 := tV2.trans s3 (by intro x hx; simp only [List.mem_singleton] at hx; subst hx; right; omega)
  replace hz4 := s3.at hz4 (by simp only [List.mem_singleton]; omega)
  replace g0 := s3.at g0 (by simp only [List.mem_singleton]; omega)
  replace g1 := s3.at g1 (by simp only [List.mem_singleton]; omega)
  replace g2 := s3.at g2 (by simp only [List.mem_singleton]; omega)
  clear s3 q3 hz3
  go_wp2_with (refine wpList_store_into rfl 31 _ _ rfl (w5.heap.size + 1 + 1 + 1 + 1) 31 _ e rfl rfl hz4 (by rw [he.len]; rfl) (by rw [size31, he.len]) he.one ?_)
  intro v4 g4 s4 q4
  have tV4 := tV3.trans s4 (by intro x hx; simp only [List.mem_singleton] at hx; subst hx; right; omega)
  replace g0 := s4.at g0 (by simp only [List.mem_singleton]; omega)
  replace g1 := s4.at g1 (by simp only [List.mem_singleton]; omega)
  replace g2 := s4.at g2 (by simp only [List.mem_singleton]; omega)
  replace g3 := s4.at g3 (by simp only [List.mem_singleton]; omega)
  clear s4 q4 hz4
  have r0 := range_block g0
  clear g0
  have r1 := range_block g1
  clear g1
  have r2 := range_block g2
  clear g2
  have r3 := range_block g3
  clear g3
  have r4 := range_block g4
  clear g4
  clear tz tW tV0 tV1 tV2 tV3
  have L0 := Lib.hid ha.len
  have L1 := Lib.hid hb.len
  have L2 := Lib.hid hc.len
  have L3 := Lib.hid hd.len
  have L4 := Lib.hid he.len
  go_wp2_with (first
    | (refine wpList_load_mid rfl 31 _ rfl (w5.heap.size) 0 rfl a _ r0 Try.underlying31 rfl (by rw [size31, L0.out]) ?_)
    | (refine wpList_load_mid rfl 31 _ rfl (w5.heap.size + 1) 0 rfl b _ r1 Try.underlying31 rfl (by rw [size31, L1.out]) ?_)
    | (refine wpList_load_mid rfl 31 _ rfl (w5.heap.size + 1 + 1) 0 rfl c _ r2 Try.underlying31 rfl (by rw [size31, L2.out]) ?_)
    | (refine wpList_load_mid rfl 31 _ rfl (w5.heap.size + 1 + 1 + 1) 0 rfl d _ r3 Try.underlying31 rfl (by rw [size31, L3.out]) ?_)
    | (refine wpList_load_mid rfl 31 _ rfl (w5.heap.size + 1 + 1 + 1 + 1) 0 rfl e _ r4 Try.underlying31 rfl (by rw [size31, L4.out]) ?_)
    | (refine wpList_buildSlice_rows rfl 22 5 _ rfl 31 17 i31 _ Try.underlying22 hi31 hz31 hs31 (by omega) [a, b, c, d, e] rfl (by simp [L0.out, L1.out, L2.out, L3.out, L4.out]) (by omega) (by rfl) ?_))
  refine (inter13 _ v4.heap.size 1 true [a, b, c, d, e] _ (by simp) (by simpa using Rd.new v4 [a, b, c, d, e] hall (by simp) 31) hall).mono ?_
  rintro _ u1 ⟨vx, rfl, hox, tu1⟩
  rw [I1.out] at hox
  have T1 : Touch [] v4 u1 := ((Touch.refl [] v4).alloc _).trans tu1 (by simp)
  have tX := tV4.trans T1 (by simp)
  replace r0 := T1.range r0 (by simp)
  replace r1 := T1.range r1 (by simp)
  replace r2 := T1.range r2 (by simp)
  replace r3 := T1.range r3 (by simp)
  replace r4 := T1.range r4 (by simp)
  clear T1 tu1 tV4
  go_wp2_with (first
    | (refine wpList_load_mid rfl 31 _ rfl (w5.heap.size) 0 rfl a _ r0 Try.underlying31 rfl (by rw [size31, L0.out]) ?_)
    | (refine wpList_load_mid rfl 31 _ rfl (w5.heap.size + 1) 0 rfl b _ r1 Try.underlying31 rfl (by rw [size31, L1.out]) ?_)
    | (refine wpList_load_mid rfl 31 _ rfl (w5.heap.size + 1 + 1) 0 rfl c _ r2 Try.underlying31 rfl (by rw [size31, L2.out]) ?_)
    | (refine wpList_load_mid rfl 31 _ rfl (w5.heap.size + 1 + 1 + 1) 0 rfl d _ r3 Try.underlying31 rfl (by rw [size31, L3.out]) ?_)
    | (refine wpList_load_mid rfl 31 _ rfl (w5.heap.size + 1 + 1 + 1 + 1) 0 rfl e _ r4 Try.underlying31 rfl (by rw [size31, L4.out]) ?_)
    | (refine wpList_buildSlice_rows rfl 22 3 _ rfl 31 17 i31 _ Try.underlying22 hi31 hz31 hs31 (by omega) [a, d, b] rfl (by simp [L0.out, L1.out, L2.out, L3.out, L4.out]) (by omega) (by rfl) ?_))
  have hall3 : ∀ y ∈ [a, d, b], IsAd y := by
    intro y hy
    simp only [List.mem_cons, List.not_mem_nil, or_false] at hy
    rcases hy with rfl | rfl | rfl <;> assumption
  refine (split8 _ u1.heap.size [a, d, b] _ (by simp) (by simpa using Rd.new u1 [a, d, b] hall3 (by simp) 31) hall3).mono ?_
  rintro _ u2 ⟨vf, vs, rfl, hof, hos, _, tu2⟩
  rw [F4.out] at hof
  rw [F6.out] at hos
  have T2 : Touch [] u1 u2 := ((Touch.refl [] u1).alloc _).trans tu2 (by simp)
  have tY := tX.trans T2 (by simp)
  replace hox := hox.touch T2 (by simp)
  replace r0 := T2.range r0 (by simp)
  replace r1 := T2.range r1 (by simp)
  replace r2 := T2.range r2 (by simp)
  replace r3 := T2.range r3 (by simp)
  replace r4 := T2.range r4 (by simp)
  clear T2 tu2 tX hall3
  have hA5 : ∀ y ∈ [a, d, b, e, c], IsAd y := by
    intro y hy
    simp only [List.mem_cons, List.not_mem_nil, or_false] at hy
    rcases hy with rfl | rfl | rfl | rfl | rfl <;> assumption
  have hA1 : ∀ y ∈ [d], IsAd y := by
    intro y hy
    simp only [List.mem_cons, List.not_mem_nil, or_false] at hy
    rcases hy with rfl; assumption
  have hA2 : ∀ y ∈ [a, b], IsAd y := by
    intro y hy
    simp only [List.mem_cons, List.not_mem_nil, or_false] at hy
    rcases hy with rfl | rfl <;> assumption
  have hA5' : ∀ y ∈ [a, b, d, c, e], IsAd y := by
    intro y hy
    simp only [List.mem_cons, List.not_mem_nil, or_false] at hy
    rcases hy with rfl | rfl | rfl | rfl | rfl <;> assumption
  obtain ⟨bx, dx, _⟩ := hox.rd hA5
  obtain ⟨bf, df, _⟩ := hof.rd hA1
  obtain ⟨bs, ds, _⟩ := hos.rd hA2
  clear hox hof hos
  go_wp2_with fail
  have rW0 : u2.drew.rangeAt (w5.heap.size) 0 a := r0
  have rW1 : u2.drew.rangeAt (w5.heap.size + 1) 0 b := r1
  have rW2 : u2.drew.rangeAt (w5.heap.size + 1 + 1) 0 c := r2
  have rW3 : u2.drew.rangeAt (w5.heap.size + 1 + 1 + 1) 0 d := r3
  have rW4 : u2.drew.rangeAt (w5.heap.size + 1 + 1 + 1 + 1) 0 e := r4
  have dX : Rd u2.drew 17 bx vx [a, d, b, e, c] := dx
  have dF : Rd u2.drew 17 bf vf [d] := df
  have dS : Rd u2.drew 17 bs vs [a, b] := ds
  have tZ : Touch [] w u2.drew := tY.drew
  clear r0 r1 r2 r3 r4 dx df ds tY
  refine wp_region_held (S := Touch [] u2.drew) (by kernel_rfl) ?_
  change wpAnyH _ _ _ _ _ _ _ _ u2.drew
  generalize u2.drew = W at *
  have hS := Touch.refl [] W
  refine wpAnyH_take (i := 0) (oi := { dst := some 29, op := Op.move (Operand.tmp 6), type := 22, pos := "law.go:17", after := #[], guard := none }) (v := vx) rfl (by kernel_rfl) (by kernel_rfl) (by kernel_rfl) (fun _ _ _ h => h) (Or.inl ⟨by rfl, fun w' _ => by first | rfl | go_simp⟩) hS ?_
  try simp only [Act.put, List.setIfInBounds_toArray, List.set_cons_zero, List.set_cons_succ]
  refine wpAnyH_take (i := 1) (oi := { dst := some 30, op := Op.load 31 (Operand.tmp 1), type := 31, pos := "law.go:17", after := #[], guard := none }) (v := .agg a.toArray) rfl (by kernel_rfl) (by kernel_rfl) (by kernel_rfl) (fun _ _ _ h => h) (yieldsIf_load_mid (by rfl) 31 _ rfl (w5.heap.size) 0 rfl a _ (fun w' t => t.range rW0 (by simp)) Try.underlying31 rfl (by rw [size31, L0.out])) hS ?_
  try simp only [Act.put, List.setIfInBounds_toArray, List.set_cons_zero, List.set_cons_succ]
  refine wpAnyH_take (i := 2) (oi := { dst := some 31, op := Op.load 31 (Operand.tmp 4), type := 31, pos := "law.go:17", after := #[], guard := none }) (v := .agg d.toArray) rfl (by kernel_rfl) (by kernel_rfl) (by kernel_rfl) (fun _ _ _ h => h) (yieldsIf_load_mid (by rfl) 31 _ rfl (w5.heap.size + 1 + 1 + 1) 0 rfl d _ (fun w' t => t.range rW3 (by simp)) Try.underlying31 rfl (by rw [size31, L3.out])) hS ?_
  try simp only [Act.put, List.setIfInBounds_toArray, List.set_cons_zero, List.set_cons_succ]
  refine wpAnyH_take (i := 3) (oi := { dst := some 32, op := Op.load 31 (Operand.tmp 2), type := 31, pos := "law.go:17", after := #[], guard := none }) (v := .agg b.toArray) rfl (by kernel_rfl) (by kernel_rfl) (by kernel_rfl) (fun _ _ _ h => h) (yieldsIf_load_mid (by rfl) 31 _ rfl (w5.heap.size + 1) 0 rfl b _ (fun w' t => t.range rW1 (by simp)) Try.underlying31 rfl (by rw [size31, L1.out])) hS ?_
  try simp only [Act.put, List.setIfInBounds_toArray, List.set_cons_zero, List.set_cons_succ]
  refine wpAnyH_take (i := 4) (oi := { dst := some 33, op := Op.load 31 (Operand.tmp 5), type := 31, pos := "law.go:17", after := #[], guard := none }) (v := .agg e.toArray) rfl (by kernel_rfl) (by kernel_rfl) (by kernel_rfl) (fun _ _ _ h => h) (yieldsIf_load_mid (by rfl) 31 _ rfl (w5.heap.size + 1 + 1 + 1 + 1) 0 rfl e _ (fun w' t => t.range rW4 (by simp)) Try.underlying31 rfl (by rw [size31, L4.out])) hS ?_
  try simp only [Act.put, List.setIfInBounds_toArray, List.set_cons_zero, List.set_cons_succ]
  refine wpAnyH_take (i := 5) (oi := { dst := some 34, op := Op.load 31 (Operand.tmp 3), type := 31, pos := "law.go:17", after := #[], guard := none }) (v := .agg c.toArray) rfl (by kernel_rfl) (by kernel_rfl) (by kernel_rfl) (fun _ _ _ h => h) (yieldsIf_load_mid (by rfl) 31 _ rfl (w5.heap.size + 1 + 1) 0 rfl c _ (fun w' t => t.range rW2 (by simp)) Try.underlying31 rfl (by rw [size31, L2.out])) hS ?_
  try simp only [Act.put, List.setIfInBounds_toArray, List.set_cons_zero, List.set_cons_succ]
  refine wpAnyH_ready (rs := [6]) (by kernel_rfl) (by simp) ?_
  refine AllReadyH.cons (o := { dst := some 35, op := Op.buildSlice 22 5 #[(0, Operand.tmp 30), (1, Operand.tmp 31), (2, Operand.tmp 32), (3, Operand.tmp 33), (4, Operand.tmp 34)], type := 22, pos := "law.go:17", after := #[{ on := 1, ground := Ground.data }, { on := 2, ground := Ground.data }, { on := 3, ground := Ground.data }, { on := 4, ground := Ground.data }, { on := 5, ground := Ground.data }], guard := none }) rfl (fun K hK => ?_) AllReadyH.nil
  refine step_guard (by rfl) ?_
  refine wpList_buildSlice_rows rfl 22 5 _ rfl 31 17 i31 _ Try.underlying22 hi31 hz31 hs31 (by omega) [a, d, b, e, c] rfl (by simp [L0.out, L1.out, L2.out, L3.out, L4.out]) (by omega) (by rfl) ?_
  have dN1 := Rd.new W [a, d, b, e, c] (by intro y hy; simp only [List.mem_cons, List.not_mem_nil, or_false] at hy; rcases hy with rfl | rfl | rfl | rfl | rfl <;> assumption) (by simp) 31
  have tN := (Touch.refl [] W).alloc (.cells [a, d, b, e, c].flatten.toArray 31)
  refine ⟨rfl, hK.out _ _ (hS.trans tN (by simp)) (fun hS2 => ?_)⟩
  clear hK K
  try simp only [Act.put, List.setIfInBounds_toArray, List.set_cons_zero, List.set_cons_succ]
  generalize W.alloc (.cells [a, d, b, e, c].flatten.toArray 31) = W1 at *
  clear hS
  have hS := hS2
  clear hS2 tN
  refine wpAnyH_ready (rs := [7]) (by kernel_rfl) (by simp) ?_
  refine AllReadyH.cons (o := { dst := some 36, op := Op.call { callee := Callee.value (Operand.func 12), args := #[Operand.tmp 29, Operand.tmp 35], argTypes := #[22, 22] }, type := 4, pos := "law.go:17", after := #[{ on := 0, ground := Ground.data }, { on := 6, ground := Ground.data }], guard := none }) rfl (fun K hK => ?_) AllReadyH.nil
  go_simp
  refine (equal_self _ _ bx W.heap.size [a, d, b, e, c] _ (by simp) (dX.touch hS (by simp)) dN1 hA5).mono ?_
  rintro _ W2 ⟨rfl, t⟩
  have hS2 := hS.trans t (by simp)
  refine hK.out _ _ hS2 (fun _ => ?_)
  clear hK K hS t
  have hS := hS2
  clear hS2
  try simp only [Act.put, List.setIfInBounds_toArray, List.set_cons_zero, List.set_cons_succ]
  clear dN1 dX
  refine wpAnyH_take (i := 8) (oi := { dst := some 37, op := Op.move (Operand.tmp 36), type := 4, pos := "law.go:17", after := #[{ on := 7, ground := Ground.data }, { on := 7, ground := Ground.chain }], guard := none }) (v := .bool true) rfl (by kernel_rfl) (by kernel_rfl) (by kernel_rfl) (fun _ _ _ h => h) (Or.inl ⟨by rfl, fun w' _ => by first | rfl | go_simp⟩) hS ?_
  try simp only [Act.put, List.setIfInBounds_toArray, List.set_cons_zero, List.set_cons_succ]
  refine wpAnyH_take (i := 9) (oi := { dst := some 38, op := Op.move (Operand.tmp 7), type := 22, pos := "law.go:17", after := #[{ on := 8, ground := Ground.guard }], guard := some (8, true) }) (v := vf) rfl (by kernel_rfl) (by kernel_rfl) (by kernel_rfl) (fun _ _ _ h => h) (Or.inl ⟨by rfl, fun w' _ => by first | rfl | go_simp⟩) hS ?_
  try simp only [Act.put, List.setIfInBounds_toArray, List.set_cons_zero, List.set_cons_succ]
  refine wpAnyH_take (i := 10) (oi := { dst := some 39, op := Op.load 31 (Operand.tmp 4), type := 31, pos := "law.go:17", after := #[{ on := 8, ground := Ground.guard }], guard := some (8, true) }) (v := .agg d.toArray) rfl (by kernel_rfl) (by kernel_rfl) (by kernel_rfl) (fun _ _ _ h => h) (yieldsIf_load_mid (by rfl) 31 _ rfl (w5.heap.size + 1 + 1 + 1) 0 rfl d _ (fun w' t => t.range rW3 (by simp)) Try.underlying31 rfl (by rw [size31, L3.out])) hS ?_
  try simp only [Act.put, List.setIfInBounds_toArray, List.set_cons_zero, List.set_cons_succ]
  refine wpAnyH_ready (rs := [11]) (by kernel_rfl) (by simp) ?_
  refine AllReadyH.cons (o := { dst := some 40, op := Op.buildSlice 22 1 #[(0, Operand.tmp 39)], type := 22, pos := "law.go:17", after := #[{ on := 10, ground := Ground.data }, { on := 8, ground := Ground.guard }], guard := some (8, true) }) rfl (fun K hK => ?_) AllReadyH.nil
  refine step_guard (by rfl) ?_
  refine wpList_buildSlice_rows rfl 22 1 _ rfl 31 17 i31 _ Try.underlying22 hi31 hz31 hs31 (by omega) [d] rfl (by simp [L0.out, L1.out, L2.out, L3.out, L4.out]) (by omega) (by rfl) ?_
  have dN2 := Rd.new W2 [d] (by intro y hy; simp only [List.mem_cons, List.not_mem_nil, or_false] at hy; rcases hy with rfl <;> assumption) (by simp) 31
  have tN := (Touch.refl [] W2).alloc (.cells [d].flatten.toArray 31)
  refine ⟨rfl, hK.out _ _ (hS.trans tN (by simp)) (fun hS2 => ?_)⟩
  clear hK K
  try simp only [Act.put, List.setIfInBounds_toArray, List.set_cons_zero, List.set_cons_succ]
  generalize W2.alloc (.cells [d].flatten.toArray 31) = W3 at *
  clear hS
  have hS := hS2
  clear hS2 tN
  refine wpAnyH_ready (rs := [12]) (by kernel_rfl) (by simp) ?_
  refine AllReadyH.cons (o := { dst := some 41, op := Op.call { callee := Callee.value (Operand.func 12), args := #[Operand.tmp 38, Operand.tmp 40], argTypes := #[22, 22] }, type := 4, pos := "law.go:17", after := #[{ on := 9, ground := Ground.data }, { on := 11, ground := Ground.data }, { on := 8, ground := Ground.chain }, { on := 8, ground := Ground.guard }], guard := some (8, true) }) rfl (fun K hK => ?_) AllReadyH.nil
  go_simp
  refine (equal_self _ _ bf W2.heap.size [d] _ (by simp) (dF.touch hS (by simp)) dN2 hA1).mono ?_
  rintro _ W4 ⟨rfl, t⟩
  have hS2 := hS.trans t (by simp)
  refine hK.out _ _ hS2 (fun _ => ?_)
  clear hK K hS t
  have hS := hS2
  clear hS2
  try simp only [Act.put, List.setIfInBounds_toArray, List.set_cons_zero, List.set_cons_succ]
  clear dN2 dF
  refine wpAnyH_take (i := 13) (oi := { dst := some 42, op := Op.pick (Operand.tmp 37) (Operand.tmp 41) (Operand.const (Value.bool false)), type := 4, pos := "law.go:17", after := #[{ on := 8, ground := Ground.data }, { on := 12, ground := Ground.data }], guard := none }) (v := .bool true) rfl (by kernel_rfl) (by kernel_rfl) (by kernel_rfl) (fun _ _ _ h => h) (Or.inl ⟨by rfl, fun w' _ => by first | rfl | go_simp⟩) hS ?_
  try simp only [Act.put, List.setIfInBounds_toArray, List.set_cons_zero, List.set_cons_succ]
  refine wpAnyH_take (i := 14) (oi := { dst := some 43, op := Op.move (Operand.tmp 42), type := 4, pos := "law.go:17", after := #[{ on := 13, ground := Ground.data }, { on := 12, ground := Ground.chain }], guard := none }) (v := .bool true) rfl (by kernel_rfl) (by kernel_rfl) (by kernel_rfl) (fun _ _ _ h => h) (Or.inl ⟨by rfl, fun w' _ => by first | rfl | go_simp⟩) hS ?_
  try simp only [Act.put, List.setIfInBounds_toArray, List.set_cons_zero, List.set_cons_succ]
  refine wpAnyH_take (i := 15) (oi := { dst := some 44, op := Op.move (Operand.tmp 8), type := 22, pos := "law.go:17", after := #[{ on := 14, ground := Ground.guard }], guard := some (14, true) }) (v := vs) rfl (by kernel_rfl) (by kernel_rfl) (by kernel_rfl) (fun _ _ _ h => h) (Or.inl ⟨by rfl, fun w' _ => by first | rfl | go_simp⟩) hS ?_
  try simp only [Act.put, List.setIfInBounds_toArray, List.set_cons_zero, List.set_cons_succ]
  refine wpAnyH_take (i := 16) (oi := { dst := some 45, op := Op.load 31 (Operand.tmp 1), type := 31, pos := "law.go:17", after := #[{ on := 14, ground := Ground.guard }], guard := some (14, true) }) (v := .agg a.toArray) rfl (by kernel_rfl) (by kernel_rfl) (by kernel_rfl) (fun _ _ _ h => h) (yieldsIf_load_mid (by rfl) 31 _ rfl (w5.heap.size) 0 rfl a _ (fun w' t => t.range rW0 (by simp)) Try.underlying31 rfl (by rw [size31, L0.out])) hS ?_
  try simp only [Act.put, List.setIfInBounds_toArray, List.set_cons_zero, List.set_cons_succ]
  refine wpAnyH_take (i := 17) (oi := { dst := some 46, op := Op.load 31 (Operand.tmp 2), type := 31, pos := "law.go:17", after := #[{ on := 14, ground := Ground.guard }], guard := some (14, true) }) (v := .agg b.toArray) rfl (by kernel_rfl) (by kernel_rfl) (by kernel_rfl) (fun _ _ _ h => h) (yieldsIf_load_mid (by rfl) 31 _ rfl (w5.heap.size + 1) 0 rfl b _ (fun w' t => t.range rW1 (by simp)) Try.underlying31 rfl (by rw [size31, L1.out])) hS ?_
  try simp only [Act.put, List.setIfInBounds_toArray, List.set_cons_zero, List.set_cons_succ]
  refine wpAnyH_ready (rs := [18]) (by kernel_rfl) (by simp) ?_
  refine AllReadyH.cons (o := { dst := some 47, op := Op.buildSlice 22 2 #[(0, Operand.tmp 45), (1, Operand.tmp 46)], type := 22, pos := "law.go:17", after := #[{ on := 16, ground := Ground.data }, { on := 17, ground := Ground.data }, { on := 14, ground := Ground.guard }], guard := some (14, true) }) rfl (fun K hK => ?_) AllReadyH.nil
  refine step_guard (by rfl) ?_
  refine wpList_buildSlice_rows rfl 22 2 _ rfl 31 17 i31 _ Try.underlying22 hi31 hz31 hs31 (by omega) [a, b] rfl (by simp [L0.out, L1.out, L2.out, L3.out, L4.out]) (by omega) (by rfl) ?_
  have dN3 := Rd.new W4 [a, b] (by intro y hy; simp only [List.mem_cons, List.not_mem_nil, or_false] at hy; rcases hy with rfl | rfl <;> assumption) (by simp) 31
  have tN := (Touch.refl [] W4).alloc (.cells [a, b].flatten.toArray 31)
  refine ⟨rfl, hK.out _ _ (hS.trans tN (by simp)) (fun hS2 => ?_)⟩
  clear hK K
  try simp only [Act.put, List.setIfInBounds_toArray, List.set_cons_zero, List.set_cons_succ]
  generalize W4.alloc (.cells [a, b].flatten.toArray 31) = W5 at *
  clear hS
  have hS := hS2
  clear hS2 tN
  refine wpAnyH_ready (rs := [19]) (by kernel_rfl) (by simp) ?_
  refine AllReadyH.cons (o := { dst := some 48, op := Op.call { callee := Callee.value (Operand.func 12), args := #[Operand.tmp 44, Operand.tmp 47], argTypes := #[22, 22] }, type := 4, pos := "law.go:17", after := #[{ on := 15, ground := Ground.data }, { on := 18, ground := Ground.data }, { on := 14, ground := Ground.chain }, { on := 14, ground := Ground.guard }], guard := some (14, true) }) rfl (fun K hK => ?_) AllReadyH.nil
  go_simp
  refine (equal_self _ _ bs W4.heap.size [a, b] _ (by simp) (dS.touch hS (by simp)) dN3 hA2).mono ?_
  rintro _ W6 ⟨rfl, t⟩
  have hS2 := hS.trans t (by simp)
  refine hK.out _ _ hS2 (fun _ => ?_)
  clear hK K hS t
  have hS := hS2
  clear hS2
  try simp only [Act.put, List.setIfInBounds_toArray, List.set_cons_zero, List.set_cons_succ]
  clear dN3 dS
  refine wpAnyH_take (i := 20) (oi := { dst := some 49, op := Op.pick (Operand.tmp 43) (Operand.tmp 48) (Operand.const (Value.bool false)), type := 4, pos := "law.go:17", after := #[{ on := 14, ground := Ground.data }, { on := 19, ground := Ground.data }], guard := none }) (v := .bool true) rfl (by kernel_rfl) (by kernel_rfl) (by kernel_rfl) (fun _ _ _ h => h) (Or.inl ⟨by rfl, fun w' _ => by first | rfl | go_simp⟩) hS ?_
  try simp only [Act.put, List.setIfInBounds_toArray, List.set_cons_zero, List.set_cons_succ]
  refine wpAnyH_take (i := 21) (oi := { dst := some 50, op := Op.move (Operand.tmp 49), type := 4, pos := "law.go:17", after := #[{ on := 20, ground := Ground.data }, { on := 19, ground := Ground.chain }], guard := none }) (v := .bool true) rfl (by kernel_rfl) (by kernel_rfl) (by kernel_rfl) (fun _ _ _ h => h) (Or.inl ⟨by rfl, fun w' _ => by first | rfl | go_simp⟩) hS ?_
  try simp only [Act.put, List.setIfInBounds_toArray, List.set_cons_zero, List.set_cons_succ]
  refine wpAnyH_take (i := 22) (oi := { dst := some 51, op := Op.load 31 (Operand.tmp 1), type := 31, pos := "law.go:17", after := #[{ on := 21, ground := Ground.guard }], guard := some (21, true) }) (v := .agg a.toArray) rfl (by kernel_rfl) (by kernel_rfl) (by kernel_rfl) (fun _ _ _ h => h) (yieldsIf_load_mid (by rfl) 31 _ rfl (w5.heap.size) 0 rfl a _ (fun w' t => t.range rW0 (by simp)) Try.underlying31 rfl (by rw [size31, L0.out])) hS ?_
  try simp only [Act.put, List.setIfInBounds_toArray, List.set_cons_zero, List.set_cons_succ]
  refine wpAnyH_take (i := 23) (oi := { dst := some 52, op := Op.load 31 (Operand.tmp 2), type := 31, pos := "law.go:17", after := #[{ on := 21, ground := Ground.guard }], guard := some (21, true) }) (v := .agg b.toArray) rfl (by kernel_rfl) (by kernel_rfl) (by kernel_rfl) (fun _ _ _ h => h) (yieldsIf_load_mid (by rfl) 31 _ rfl (w5.heap.size + 1) 0 rfl b _ (fun w' t => t.range rW1 (by simp)) Try.underlying31 rfl (by rw [size31, L1.out])) hS ?_
  try simp only [Act.put, List.setIfInBounds_toArray, List.set_cons_zero, List.set_cons_succ]
  refine wpAnyH_take (i := 24) (oi := { dst := some 53, op := Op.load 31 (Operand.tmp 3), type := 31, pos := "law.go:17", after := #[{ on := 21, ground := Ground.guard }], guard := some (21, true) }) (v := .agg c.toArray) rfl (by kernel_rfl) (by kernel_rfl) (by kernel_rfl) (fun _ _ _ h => h) (yieldsIf_load_mid (by rfl) 31 _ rfl (w5.heap.size + 1 + 1) 0 rfl c _ (fun w' t => t.range rW2 (by simp)) Try.underlying31 rfl (by rw [size31, L2.out])) hS ?_
  try simp only [Act.put, List.setIfInBounds_toArray, List.set_cons_zero, List.set_cons_succ]
  refine wpAnyH_take (i := 25) (oi := { dst := some 54, op := Op.load 31 (Operand.tmp 4), type := 31, pos := "law.go:17", after := #[{ on := 21, ground := Ground.guard }], guard := some (21, true) }) (v := .agg d.toArray) rfl (by kernel_rfl) (by kernel_rfl) (by kernel_rfl) (fun _ _ _ h => h) (yieldsIf_load_mid (by rfl) 31 _ rfl (w5.heap.size + 1 + 1 + 1) 0 rfl d _ (fun w' t => t.range rW3 (by simp)) Try.underlying31 rfl (by rw [size31, L3.out])) hS ?_
  try simp only [Act.put, List.setIfInBounds_toArray, List.set_cons_zero, List.set_cons_succ]
  refine wpAnyH_take (i := 26) (oi := { dst := some 55, op := Op.load 31 (Operand.tmp 5), type := 31, pos := "law.go:17", after := #[{ on := 21, ground := Ground.guard }], guard := some (21, true) }) (v := .agg e.toArray) rfl (by kernel_rfl) (by kernel_rfl) (by kernel_rfl) (fun _ _ _ h => h) (yieldsIf_load_mid (by rfl) 31 _ rfl (w5.heap.size + 1 + 1 + 1 + 1) 0 rfl e _ (fun w' t => t.range rW4 (by simp)) Try.underlying31 rfl (by rw [size31, L4.out])) hS ?_
  try simp only [Act.put, List.setIfInBounds_toArray, List.set_cons_zero, List.set_cons_succ]
  refine wpAnyH_take (i := 29) (oi := { dst := some 58, op := Op.load 31 (Operand.tmp 1), type := 31, pos := "law.go:17", after := #[{ on := 21, ground := Ground.guard }], guard := some (21, true) }) (v := .agg a.toArray) rfl (by kernel_rfl) (by kernel_rfl) (by kernel_rfl) (fun _ _ _ h => h) (yieldsIf_load_mid (by rfl) 31 _ rfl (w5.heap.size) 0 rfl a _ (fun w' t => t.range rW0 (by simp)) Try.underlying31 rfl (by rw [size31, L0.out])) hS ?_
  try simp only [Act.put, List.setIfInBounds_toArray, List.set_cons_zero, List.set_cons_succ]
  refine wpAnyH_take (i := 30) (oi := { dst := some 59, op := Op.load 31 (Operand.tmp 2), type := 31, pos := "law.go:17", after := #[{ on := 21, ground := Ground.guard }], guard := some (21, true) }) (v := .agg b.toArray) rfl (by kernel_rfl) (by kernel_rfl) (by kernel_rfl) (fun _ _ _ h => h) (yieldsIf_load_mid (by rfl) 31 _ rfl (w5.heap.size + 1) 0 rfl b _ (fun w' t => t.range rW1 (by simp)) Try.underlying31 rfl (by rw [size31, L1.out])) hS ?_
  try simp only [Act.put, List.setIfInBounds_toArray, List.set_cons_zero, List.set_cons_succ]
  refine wpAnyH_take (i := 31) (oi := { dst := some 60, op := Op.load 31 (Operand.tmp 4), type := 31, pos := "law.go:17", after := #[{ on := 21, ground := Ground.guard }], guard := some (21, true) }) (v := .agg d.toArray) rfl (by kernel_rfl) (by kernel_rfl) (by kernel_rfl) (fun _ _ _ h => h) (yieldsIf_load_mid (by rfl) 31 _ rfl (w5.heap.size + 1 + 1 + 1) 0 rfl d _ (fun w' t => t.range rW3 (by simp)) Try.underlying31 rfl (by rw [size31, L3.out])) hS ?_
  try simp only [Act.put, List.setIfInBounds_toArray, List.set_cons_zero, List.set_cons_succ]
  refine wpAnyH_take (i := 32) (oi := { dst := some 61, op := Op.load 31 (Operand.tmp 3), type := 31, pos := "law.go:17", after := #[{ on := 21, ground := Ground.guard }], guard := some (21, true) }) (v := .agg c.toArray) rfl (by kernel_rfl) (by kernel_rfl) (by kernel_rfl) (fun _ _ _ h => h) (yieldsIf_load_mid (by rfl) 31 _ rfl (w5.heap.size + 1 + 1) 0 rfl c _ (fun w' t => t.range rW2 (by simp)) Try.underlying31 rfl (by rw [size31, L2.out])) hS ?_
  try simp only [Act.put, List.setIfInBounds_toArray, List.set_cons_zero, List.set_cons_succ]
  refine wpAnyH_take (i := 33) (oi := { dst := some 62, op := Op.load 31 (Operand.tmp 5), type := 31, pos := "law.go:17", after := #[{ on := 21, ground := Ground.guard }], guard := some (21, true) }) (v := .agg e.toArray) rfl (by kernel_rfl) (by kernel_rfl) (by kernel_rfl) (fun _ _ _ h => h) (yieldsIf_load_mid (by rfl) 31 _ rfl (w5.heap.size + 1 + 1 + 1 + 1) 0 rfl e _ (fun w' t => t.range rW4 (by simp)) Try.underlying31 rfl (by rw [size31, L4.out])) hS ?_
  try simp only [Act.put, List.setIfInBounds_toArray, List.set_cons_zero, List.set_cons_succ]
  refine wpAnyH_ready (rs := [27, 34]) (by kernel_rfl) (by simp) ?_
  refine AllReadyH.cons (o := { dst := some 56, op := Op.buildSlice 22 5 #[(0, Operand.tmp 51), (1, Operand.tmp 52), (2, Operand.tmp 53), (3, Operand.tmp 54), (4, Operand.tmp 55)], type := 22, pos := "law.go:17", after := #[{ on := 22, ground := Ground.data }, { on := 23, ground := Ground.data }, { on := 24, ground := Ground.data }, { on := 25, ground := Ground.data }, { on := 26, ground := Ground.data }, { on := 21, ground := Ground.guard }], guard := some (21, true) }) rfl (fun K hK => ?_) (AllReadyH.cons (o := { dst := some 63, op := Op.buildSlice 22 5 #[(0, Operand.tmp 58), (1, Operand.tmp 59), (2, Operand.tmp 60), (3, Operand.tmp 61), (4, Operand.tmp 62)], type := 22, pos := "law.go:17", after := #[{ on := 29, ground := Ground.data }, { on := 30, ground := Ground.data }, { on := 31, ground := Ground.data }, { on := 32, ground := Ground.data }, { on := 33, ground := Ground.data }, { on := 21, ground := Ground.guard }], guard := some (21, true) }) rfl (fun K hK => ?_) AllReadyH.nil)
  · refine step_guard (by rfl) ?_
    refine wpList_buildSlice_rows rfl 22 5 _ rfl 31 17 i31 _ Try.underlying22 hi31 hz31 hs31 (by omega) [a, b, c, d, e] rfl (by simp [L0.out, L1.out, L2.out, L3.out, L4.out]) (by omega) (by rfl) ?_
    have dN4 := Rd.new W6 [a, b, c, d, e] (by intro y hy; simp only [List.mem_cons, List.not_mem_nil, or_false] at hy; rcases hy with rfl | rfl | rfl | rfl | rfl <;> assumption) (by simp) 31
    have tN := (Touch.refl [] W6).alloc (.cells [a, b, c, d, e].flatten.toArray 31)
    refine ⟨rfl, hK.out _ _ (hS.trans tN (by simp)) (fun hS2 => ?_)⟩
    clear hK K
    try simp only [Act.put, List.setIfInBounds_toArray, List.set_cons_zero, List.set_cons_succ]
    generalize W6.alloc (.cells [a, b, c, d, e].flatten.toArray 31) = W7 at *
    clear hS
    have hS := hS2
    clear hS2 tN
    generalize W6.heap.size = B4 at *
    refine wpAnyH_ready (rs := [28, 34]) (by kernel_rfl) (by simp) ?_
    refine AllReadyH.cons (o := { dst := some 57, op := Op.call { callee := Callee.value (Operand.func 13), args := #[Operand.tmp 56, Operand.const (Value.int IntKind.i64 2), Operand.const (Value.bool true)], argTypes := #[22, 3, 4] }, type := 22, pos := "law.go:17", after := #[{ on := 27, ground := Ground.data }, { on := 21, ground := Ground.chain }, { on := 21, ground := Ground.guard }], guard := some (21, true) }) rfl (fun K hK => ?_) (AllReadyH.cons (o := { dst := some 63, op := Op.buildSlice 22 5 #[(0, Operand.tmp 58), (1, Operand.tmp 59), (2, Operand.tmp 60), (3, Operand.tmp 61), (4, Operand.tmp 62)], type := 22, pos := "law.go:17", after := #[{ on := 29, ground := Ground.data }, { on := 30, ground := Ground.data }, { on := 31, ground := Ground.data }, { on := 32, ground := Ground.data }, { on := 33, ground := Ground.data }, { on := 21, ground := Ground.guard }], guard := some (21, true) }) rfl (fun K hK => ?_) AllReadyH.nil)
    · go_simp
      refine (inter13 _ B4 2 true [a, b, c, d, e] _ (by simp) dN4 hall).mono ?_
      rintro _ W8 ⟨vr, rfl, hor, t⟩
      rw [I2.out] at hor
      obtain ⟨br, dR, _⟩ := hor.rd hA5'
      replace dN4 := dN4.touch t (by simp)
      have hS2 := hS.trans t (by simp)
      refine hK.out _ _ hS2 (fun _ => ?_)
      clear hK K hS t hor
      have hS := hS2
      clear hS2
      try simp only [Act.put, List.setIfInBounds_toArray, List.set_cons_zero, List.set_cons_succ]
      refine wpAnyH_ready (rs := [34]) (by kernel_rfl) (by simp) ?_
      refine AllReadyH.cons (o := { dst := some 63, op := Op.buildSlice 22 5 #[(0, Operand.tmp 58), (1, Operand.tmp 59), (2, Operand.tmp 60), (3, Operand.tmp 61), (4, Operand.tmp 62)], type := 22, pos := "law.go:17", after := #[{ on := 29, ground := Ground.data }, { on := 30, ground := Ground.data }, { on := 31, ground := Ground.data }, { on := 32, ground := Ground.data }, { on := 33, ground := Ground.data }, { on := 21, ground := Ground.guard }], guard := some (21, true) }) rfl (fun K hK => ?_) AllReadyH.nil
      refine step_guard (by rfl) ?_
      refine wpList_buildSlice_rows rfl 22 5 _ rfl 31 17 i31 _ Try.underlying22 hi31 hz31 hs31 (by omega) [a, b, d, c, e] rfl (by simp [L0.out, L1.out, L2.out, L3.out, L4.out]) (by omega) (by rfl) ?_
      have dN5 := Rd.new W8 [a, b, d, c, e] (by intro y hy; simp only [List.mem_cons, List.not_mem_nil, or_false] at hy; rcases hy with rfl | rfl | rfl | rfl | rfl <;> assumption) (by simp) 31
      have tN := (Touch.refl [] W8).alloc (.cells [a, b, d, c, e].flatten.toArray 31)
      replace dR := dR.touch tN (by simp)
      replace dN4 := dN4.touch tN (by simp)
      refine ⟨rfl, hK.out _ _ (hS.trans tN (by simp)) (fun hS2 => ?_)⟩
      clear hK K
      try simp only [Act.put, List.setIfInBounds_toArray, List.set_cons_zero, List.set_cons_succ]
      generalize W8.alloc (.cells [a, b, d, c, e].flatten.toArray 31) = W9 at *
      clear hS
      have hS := hS2
      clear hS2 tN
      generalize W8.heap.size = B5 at *
      refine wpAnyH_ready (rs := [35]) (by kernel_rfl) (by simp) ?_
      refine AllReadyH.cons (o := { dst := some 64, op := Op.call { callee := Callee.value (Operand.func 12), args := #[Operand.tmp 57, Operand.tmp 63], argTypes := #[22, 22] }, type := 4, pos := "law.go:17", after := #[{ on := 28, ground := Ground.data }, { on := 34, ground := Ground.data }, { on := 28, ground := Ground.chain }, { on := 21, ground := Ground.guard }], guard := some (21, true) }) rfl (fun K hK => ?_) AllReadyH.nil
      go_simp
      refine (equal_self _ _ br B5 [a, b, d, c, e] _ (by simp) dR dN5 hA5').mono ?_
      rintro _ W10 ⟨rfl, t⟩
      have hS2 := hS.trans t (by simp)
      refine hK.out _ _ hS2 (fun _ => ?_)
      clear hK K hS t
      have hS := hS2
      clear hS2
      try simp only [Act.put, List.setIfInBounds_toArray, List.set_cons_zero, List.set_cons_succ]
      refine wpAnyH_take (i := 36) (oi := { dst := some 65, op := Op.pick (Operand.tmp 50) (Operand.tmp 64) (Operand.const (Value.bool false)), type := 4, pos := "law.go:17", after := #[{ on := 21, ground := Ground.data }, { on := 35, ground := Ground.data }], guard := none }) (v := .bool true) rfl (by kernel_rfl) (by kernel_rfl) (by kernel_rfl) (fun _ _ _ h => h) (Or.inl ⟨by rfl, fun w' _ => by first | rfl | go_simp⟩) hS ?_
      try simp only [Act.put, List.setIfInBounds_toArray, List.set_cons_zero, List.set_cons_succ]
      refine wpAnyH_take (i := 37) (oi := { dst := some 0, op := Op.assign (Operand.tmp 65), type := 4, pos := "law.go:17", after := #[{ on := 36, ground := Ground.data }, { on := 35, ground := Ground.chain }, { on := 0, ground := Ground.phase }, { on := 1, ground := Ground.phase }, { on := 2, ground := Ground.phase }, { on := 3, ground := Ground.phase }, { on := 4, ground := Ground.phase }, { on := 5, ground := Ground.phase }, { on := 6, ground := Ground.phase }, { on := 7, ground := Ground.phase }, { on := 8, ground := Ground.phase }, { on := 9, ground := Ground.phase }, { on := 10, ground := Ground.phase }, { on := 11, ground := Ground.phase }, { on := 12, ground := Ground.phase }, { on := 13, ground := Ground.phase }, { on := 14, ground := Ground.phase }, { on := 15, ground := Ground.phase }, { on := 16, ground := Ground.phase }, { on := 17, ground := Ground.phase }, { on := 18, ground := Ground.phase }, { on := 19, ground := Ground.phase }, { on := 20, ground := Ground.phase }, { on := 21, ground := Ground.phase }, { on := 22, ground := Ground.phase }, { on := 23, ground := Ground.phase }, { on := 24, ground := Ground.phase }, { on := 25, ground := Ground.phase }, { on := 26, ground := Ground.phase }, { on := 27, ground := Ground.phase }, { on := 28, ground := Ground.phase }, { on := 29, ground := Ground.phase }, { on := 30, ground := Ground.phase }, { on := 31, ground := Ground.phase }, { on := 32, ground := Ground.phase }, { on := 33, ground := Ground.phase }, { on := 34, ground := Ground.phase }, { on := 35, ground := Ground.phase }, { on := 36, ground := Ground.phase }], guard := none }) (v := .bool true) rfl (by kernel_rfl) (by kernel_rfl) (by kernel_rfl) (fun _ _ _ h => h) (Or.inl ⟨by rfl, fun w' _ => by first | rfl | go_simp⟩) hS ?_
      try simp only [Act.put, List.setIfInBounds_toArray, List.set_cons_zero, List.set_cons_succ]
      refine wpAnyH_done (by kernel_rfl) ?_ _
      go_wp2_with fail
      go_ret
      exact ⟨rfl, tZ.trans hS (by simp)⟩
    · refine step_guard (by rfl) ?_
      refine wpList_buildSlice_rows rfl 22 5 _ rfl 31 17 i31 _ Try.underlying22 hi31 hz31 hs31 (by omega) [a, b, d, c, e] rfl (by simp [L0.out, L1.out, L2.out, L3.out, L4.out]) (by omega) (by rfl) ?_
      have dN5 := Rd.new W7 [a, b, d, c, e] (by intro y hy; simp only [List.mem_cons, List.not_mem_nil, or_false] at hy; rcases hy with rfl | rfl | rfl | rfl | rfl <;> assumption) (by simp) 31
      have tN := (Touch.refl [] W7).alloc (.cells [a, b, d, c, e].flatten.toArray 31)
      replace dN4 := dN4.touch tN (by simp)
      refine ⟨rfl, hK.out _ _ (hS.trans tN (by simp)) (fun hS2 => ?_)⟩
      clear hK K
      try simp only [Act.put, List.setIfInBounds_toArray, List.set_cons_zero, List.set_cons_succ]
      generalize W7.alloc (.cells [a, b, d, c, e].flatten.toArray 31) = W8 at *
      clear hS
      have hS := hS2
      clear hS2 tN
      generalize W7.heap.size = B5 at *
      refine wpAnyH_ready (rs := [28]) (by kernel_rfl) (by simp) ?_
      refine AllReadyH.cons (o := { dst := some 57, op := Op.call { callee := Callee.value (Operand.func 13), args := #[Operand.tmp 56, Operand.const (Value.int IntKind.i64 2), Operand.const (Value.bool true)], argTypes := #[22, 3, 4] }, type := 22, pos := "law.go:17", after := #[{ on := 27, ground := Ground.data }, { on := 21, ground := Ground.chain }, { on := 21, ground := Ground.guard }], guard := some (21, true) }) rfl (fun K hK => ?_) AllReadyH.nil
      go_simp
      refine (inter13 _ B4 2 true [a, b, c, d, e] _ (by simp) dN4 hall).mono ?_
      rintro _ W9 ⟨vr, rfl, hor, t⟩
      rw [I2.out] at hor
      obtain ⟨br, dR, _⟩ := hor.rd hA5'
      replace dN4 := dN4.touch t (by simp)
      replace dN5 := dN5.touch t (by simp)
      have hS2 := hS.trans t (by simp)
      refine hK.out _ _ hS2 (fun _ => ?_)
      clear hK K hS t hor
      have hS := hS2
      clear hS2
      try simp only [Act.put, List.setIfInBounds_toArray, List.set_cons_zero, List.set_cons_succ]
      refine wpAnyH_ready (rs := [35]) (by kernel_rfl) (by simp) ?_
      refine AllReadyH.cons (o := { dst := some 64, op := Op.call { callee := Callee.value (Operand.func 12), args := #[Operand.tmp 57, Operand.tmp 63], argTypes := #[22, 22] }, type := 4, pos := "law.go:17", after := #[{ on := 28, ground := Ground.data }, { on := 34, ground := Ground.data }, { on := 28, ground := Ground.chain }, { on := 21, ground := Ground.guard }], guard := some (21, true) }) rfl (fun K hK => ?_) AllReadyH.nil
      go_simp
      refine (equal_self _ _ br B5 [a, b, d, c, e] _ (by simp) dR dN5 hA5').mono ?_
      rintro _ W10 ⟨rfl, t⟩
      have hS2 := hS.trans t (by simp)
      refine hK.out _ _ hS2 (fun _ => ?_)
      clear hK K hS t
      have hS := hS2
      clear hS2
      try simp only [Act.put, List.setIfInBounds_toArray, List.set_cons_zero, List.set_cons_succ]
      refine wpAnyH_take (i := 36) (oi := { dst := some 65, op := Op.pick (Operand.tmp 50) (Operand.tmp 64) (Operand.const (Value.bool false)), type := 4, pos := "law.go:17", after := #[{ on := 21, ground := Ground.data }, { on := 35, ground := Ground.data }], guard := none }) (v := .bool true) rfl (by kernel_rfl) (by kernel_rfl) (by kernel_rfl) (fun _ _ _ h => h) (Or.inl ⟨by rfl, fun w' _ => by first | rfl | go_simp⟩) hS ?_
      try simp only [Act.put, List.setIfInBounds_toArray, List.set_cons_zero, List.set_cons_succ]
      refine wpAnyH_take (i := 37) (oi := { dst := some 0, op := Op.assign (Operand.tmp 65), type := 4, pos := "law.go:17", after := #[{ on := 36, ground := Ground.data }, { on := 35, ground := Ground.chain }, { on := 0, ground := Ground.phase }, { on := 1, ground := Ground.phase }, { on := 2, ground := Ground.phase }, { on := 3, ground := Ground.phase }, { on := 4, ground := Ground.phase }, { on := 5, ground := Ground.phase }, { on := 6, ground := Ground.phase }, { on := 7, ground := Ground.phase }, { on := 8, ground := Ground.phase }, { on := 9, ground := Ground.phase }, { on := 10, ground := Ground.phase }, { on := 11, ground := Ground.phase }, { on := 12, ground := Ground.phase }, { on := 13, ground := Ground.phase }, { on := 14, ground := Ground.phase }, { on := 15, ground := Ground.phase }, { on := 16, ground := Ground.phase }, { on := 17, ground := Ground.phase }, { on := 18, ground := Ground.phase }, { on := 19, ground := Ground.phase }, { on := 20, ground := Ground.phase }, { on := 21, ground := Ground.phase }, { on := 22, ground := Ground.phase }, { on := 23, ground := Ground.phase }, { on := 24, ground := Ground.phase }, { on := 25, ground := Ground.phase }, { on := 26, ground := Ground.phase }, { on := 27, ground := Ground.phase }, { on := 28, ground := Ground.phase }, { on := 29, ground := Ground.phase }, { on := 30, ground := Ground.phase }, { on := 31, ground := Ground.phase }, { on := 32, ground := Ground.phase }, { on := 33, ground := Ground.phase }, { on := 34, ground := Ground.phase }, { on := 35, ground := Ground.phase }, { on := 36, ground := Ground.phase }], guard := none }) (v := .bool true) rfl (by kernel_rfl) (by kernel_rfl) (by kernel_rfl) (fun _ _ _ h => h) (Or.inl ⟨by rfl, fun w' _ => by first | rfl | go_simp⟩) hS ?_
      try simp only [Act.put, List.setIfInBounds_toArray, List.set_cons_zero, List.set_cons_succ]
      refine wpAnyH_done (by kernel_rfl) ?_ _
      go_wp2_with fail
      go_ret
      exact ⟨rfl, tZ.trans hS (by simp)⟩
  · refine step_guard (by rfl) ?_
    refine wpList_buildSlice_rows rfl 22 5 _ rfl 31 17 i31 _ Try.underlying22 hi31 hz31 hs31 (by omega) [a, b, d, c, e] rfl (by simp [L0.out, L1.out, L2.out, L3.out, L4.out]) (by omega) (by rfl) ?_
    have dN5 := Rd.new W6 [a, b, d, c, e] (by intro y hy; simp only [List.mem_cons, List.not_mem_nil, or_false] at hy; rcases hy with rfl | rfl | rfl | rfl | rfl <;> assumption) (by simp) 31
    have tN := (Touch.refl [] W6).alloc (.cells [a, b, d, c, e].flatten.toArray 31)
    refine ⟨rfl, hK.out _ _ (hS.trans tN (by simp)) (fun hS2 => ?_)⟩
    clear hK K
    try simp only [Act.put, List.setIfInBounds_toArray, List.set_cons_zero, List.set_cons_succ]
    generalize W6.alloc (.cells [a, b, d, c, e].flatten.toArray 31) = W7 at *
    clear hS
    have hS := hS2
    clear hS2 tN
    generalize W6.heap.size = B5 at *
    refine wpAnyH_ready (rs := [27]) (by kernel_rfl) (by simp) ?_
    refine AllReadyH.cons (o := { dst := some 56, op := Op.buildSlice 22 5 #[(0, Operand.tmp 51), (1, Operand.tmp 52), (2, Operand.tmp 53), (3, Operand.tmp 54), (4, Operand.tmp 55)], type := 22, pos := "law.go:17", after := #[{ on := 22, ground := Ground.data }, { on := 23, ground := Ground.data }, { on := 24, ground := Ground.data }, { on := 25, ground := Ground.data }, { on := 26, ground := Ground.data }, { on := 21, ground := Ground.guard }], guard := some (21, true) }) rfl (fun K hK => ?_) AllReadyH.nil
    refine step_guard (by rfl) ?_
    refine wpList_buildSlice_rows rfl 22 5 _ rfl 31 17 i31 _ Try.underlying22 hi31 hz31 hs31 (by omega) [a, b, c, d, e] rfl (by simp [L0.out, L1.out, L2.out, L3.out, L4.out]) (by omega) (by rfl) ?_
    have dN4 := Rd.new W7 [a, b, c, d, e] (by intro y hy; simp only [List.mem_cons, List.not_mem_nil, or_false] at hy; rcases hy with rfl | rfl | rfl | rfl | rfl <;> assumption) (by simp) 31
    have tN := (Touch.refl [] W7).alloc (.cells [a, b, c, d, e].flatten.toArray 31)
    replace dN5 := dN5.touch tN (by simp)
    refine ⟨rfl, hK.out _ _ (hS.trans tN (by simp)) (fun hS2 => ?_)⟩
    clear hK K
    try simp only [Act.put, List.setIfInBounds_toArray, List.set_cons_zero, List.set_cons_succ]
    generalize W7.alloc (.cells [a, b, c, d, e].flatten.toArray 31) = W8 at *
    clear hS
    have hS := hS2
    clear hS2 tN
    generalize W7.heap.size = B4 at *
    refine wpAnyH_ready (rs := [28]) (by kernel_rfl) (by simp) ?_
    refine AllReadyH.cons (o := { dst := some 57, op := Op.call { callee := Callee.value (Operand.func 13), args := #[Operand.tmp 56, Operand.const (Value.int IntKind.i64 2), Operand.const (Value.bool true)], argTypes := #[22, 3, 4] }, type := 22, pos := "law.go:17", after := #[{ on := 27, ground := Ground.data }, { on := 21, ground := Ground.chain }, { on := 21, ground := Ground.guard }], guard := some (21, true) }) rfl (fun K hK => ?_) AllReadyH.nil
    go_simp
    refine (inter13 _ B4 2 true [a, b, c, d, e] _ (by simp) dN4 hall).mono ?_
    rintro _ W9 ⟨vr, rfl, hor, t⟩
    rw [I2.out] at hor
    obtain ⟨br, dR, _⟩ := hor.rd hA5'
    replace dN4 := dN4.touch t (by simp)
    replace dN5 := dN5.touch t (by simp)
    have hS2 := hS.trans t (by simp)
    refine hK.out _ _ hS2 (fun _ => ?_)
    clear hK K hS t hor
    have hS := hS2
    clear hS2
    try simp only [Act.put, List.setIfInBounds_toArray, List.set_cons_zero, List.set_cons_succ]
    refine wpAnyH_ready (rs := [35]) (by kernel_rfl) (by simp) ?_
    refine AllReadyH.cons (o := { dst := some 64, op := Op.call { callee := Callee.value (Operand.func 12), args := #[Operand.tmp 57, Operand.tmp 63], argTypes := #[22, 22] }, type := 4, pos := "law.go:17", after := #[{ on := 28, ground := Ground.data }, { on := 34, ground := Ground.data }, { on := 28, ground := Ground.chain }, { on := 21, ground := Ground.guard }], guard := some (21, true) }) rfl (fun K hK => ?_) AllReadyH.nil
    go_simp
    refine (equal_self _ _ br B5 [a, b, d, c, e] _ (by simp) dR dN5 hA5').mono ?_
    rintro _ W10 ⟨rfl, t⟩
    have hS2 := hS.trans t (by simp)
    refine hK.out _ _ hS2 (fun _ => ?_)
    clear hK K hS t
    have hS := hS2
    clear hS2
    try simp only [Act.put, List.setIfInBounds_toArray, List.set_cons_zero, List.set_cons_succ]
    refine wpAnyH_take (i := 36) (oi := { dst := some 65, op := Op.pick (Operand.tmp 50) (Operand.tmp 64) (Operand.const (Value.bool false)), type := 4, pos := "law.go:17", after := #[{ on := 21, ground := Ground.data }, { on := 35, ground := Ground.data }], guard := none }) (v := .bool true) rfl (by kernel_rfl) (by kernel_rfl) (by kernel_rfl) (fun _ _ _ h => h) (Or.inl ⟨by rfl, fun w' _ => by first | rfl | go_simp⟩) hS ?_
    try simp only [Act.put, List.setIfInBounds_toArray, List.set_cons_zero, List.set_cons_succ]
    refine wpAnyH_take (i := 37) (oi := { dst := some 0, op := Op.assign (Operand.tmp 65), type := 4, pos := "law.go:17", after := #[{ on := 36, ground := Ground.data }, { on := 35, ground := Ground.chain }, { on := 0, ground := Ground.phase }, { on := 1, ground := Ground.phase }, { on := 2, ground := Ground.phase }, { on := 3, ground := Ground.phase }, { on := 4, ground := Ground.phase }, { on := 5, ground := Ground.phase }, { on := 6, ground := Ground.phase }, { on := 7, ground := Ground.phase }, { on := 8, ground := Ground.phase }, { on := 9, ground := Ground.phase }, { on := 10, ground := Ground.phase }, { on := 11, ground := Ground.phase }, { on := 12, ground := Ground.phase }, { on := 13, ground := Ground.phase }, { on := 14, ground := Ground.phase }, { on := 15, ground := Ground.phase }, { on := 16, ground := Ground.phase }, { on := 17, ground := Ground.phase }, { on := 18, ground := Ground.phase }, { on := 19, ground := Ground.phase }, { on := 20, ground := Ground.phase }, { on := 21, ground := Ground.phase }, { on := 22, ground := Ground.phase }, { on := 23, ground := Ground.phase }, { on := 24, ground := Ground.phase }, { on := 25, ground := Ground.phase }, { on := 26, ground := Ground.phase }, { on := 27, ground := Ground.phase }, { on := 28, ground := Ground.phase }, { on := 29, ground := Ground.phase }, { on := 30, ground := Ground.phase }, { on := 31, ground := Ground.phase }, { on := 32, ground := Ground.phase }, { on := 33, ground := Ground.phase }, { on := 34, ground := Ground.phase }, { on := 35, ground := Ground.phase }, { on := 36, ground := Ground.phase }], guard := none }) (v := .bool true) rfl (by kernel_rfl) (by kernel_rfl) (by kernel_rfl) (fun _ _ _ h => h) (Or.inl ⟨by rfl, fun w' _ => by first | rfl | go_simp⟩) hS ?_
    try simp only [Act.put, List.setIfInBounds_toArray, List.set_cons_zero, List.set_cons_succ]
    refine wpAnyH_done (by kernel_rfl) ?_ _
    go_wp2_with fail
    go_ret
    exact ⟨rfl, tZ.trans hS (by simp)⟩
end Go.Proofs.Ytdpjfhogkllajaa

/-
  Merged texts: Eu, Hs, Wr, Ag, Cc.
-/
import Derived.Test.YtmdnkhpkpmbeoaaV9
import Derived.Lib.AppendStr
import Derived.Laws.IdiomStrings

/-
  Equal at endpoints, outputs and targets: true at equal lists.
-/
namespace Go.Proofs.Ytmdnkhpkpmbeoaa
open Go.RowKit
set_option linter.unusedVariables false
set_option linter.unusedSimpArgs false

def EqsE (x : List Value) : Prop := x.length = 2 ∧ ∀ w, (Op.equalIn 10000 30 (.agg x.toArray) (.agg x.toArray)).run Try.prog w = .ok true w
set_option maxRecDepth 100000 in
set_option maxHeartbeats 4000000 in
theorem oneE (x : List Value) (w : World) (h : EqsE x) : Calls Try.prog 41 #[.agg x.toArray, .agg x.toArray] w fun e w' => e = .returned (.bool true) ∧ Touch [] w w' := by
  have HL := Lib.hid h.1
  have HE := Lib.hid h.2
  clear h
  have h1 := World.rangeAt_alloc (range_new w x 30) (.cells x.toArray 30)
  have h2 := range_block (heap_alloc2_new w (.cells x.toArray 30) (.cells x.toArray 30))
  go_enter Try.func41, Try.ntmps41
  go_wp2_with (first
    | (refine wpList_load_mid rfl 30 _ rfl w.heap.size 0 rfl x _ h1 Try.underlying30 rfl (by rw [infoE, HL.out]) ?_)
    | (refine wpList_load_mid rfl 30 _ rfl (w.heap.size + 1) 0 rfl x _ h2 Try.underlying30 rfl (by rw [infoE, HL.out]) ?_)
    | (refine wpList_eql_agg rfl 30 _ _ _ rfl x.toArray x.toArray rfl rfl (by kernel_rfl) true (HE.out _) ?_))
  go_ret
  exact ⟨rfl, ((Touch.refl [] w).alloc _).alloc _⟩
set_option maxRecDepth 100000 in
set_option maxHeartbeats 4000000 in
theorem equalE (v1 v2 : Value) (b1 b2 : Nat) (xs : List (List Value)) (w : World) (hl : xs.length ≤ 10000000) (h1 : Rd w 2 b1 v1 xs) (h2 : Rd w 2 b2 v2 xs) (hxs : ∀ x ∈ xs, EqsE x) :
    Calls Try.prog 13 #[v1, v2] w fun e w' => e = .returned (.bool true) ∧ Touch [] w w' := by
  obtain ⟨a1, c1, rfl, hc1, hm1⟩ := h1.form
  obtain ⟨a2, c2, rfl, hc2, hm2⟩ := h2.form
  go_enter Try.func13, Try.ntmps13
  go_wp2_with fail
  go_enter Try.func40, Try.ntmps40
  go_wp2_with fail
  go_loopw [7] (fun vi wr => ∃ (i : Nat), i ≤ xs.length ∧ vi = .int .i64 i ∧ Touch [] w wr) (fun vi _ => xs.length - (intOf vi).toNat)
  case atStart => exact ⟨0, by omega, rfl, Touch.refl _ _⟩
  case round =>
    obtain ⟨i, hix, rfl, ht⟩ := hrel
    by_cases hlt : i < xs.length
    · obtain ⟨o1, rfl, hat1⟩ := h1.at (by intro e; subst e; simp at hlt)
      obtain ⟨o2, rfl, hat2⟩ := h2.at (by intro e; subst e; simp at hlt)
      have hx : xs[i]? = some xs[i] := List.getElem?_eq_getElem hlt
      have hadx := hxs _ (List.getElem_mem hlt)
      generalize xs[i] = x at hx hadx
      have hr1 := ht.range (hat1 i x hx) (by simp)
      have hr2 := ht.range (hat2 i x hx) (by simp)
      clear hat1 hat2 hx
      go_wp2_with fail
      refine wp_region_still_tail 9 (by kernel_rfl) (by kernel_rfl) ?_
      simp only [List.take_succ_cons, List.take_zero, List.drop_succ_cons, List.drop_zero]
      iterate 4 still_step
      refine wpStill_load_mid rfl 30 _ rfl b1 (o1 + i * 2) rfl x _ hr1 Try.underlying30 rfl (by rw [infoE, hadx.1]) ?_
      iterate 3 still_step
      refine wpStill_load_mid rfl 30 _ rfl b2 (o2 + i * 2) rfl x _ hr2 Try.underlying30 rfl (by rw [infoE, hadx.1]) ?_
      refine wpStill_nil ?_
      change wpList _ _ _ _ _ wr.drew
      go_wp2_with fail
      refine (oneE x _ hadx).mono ?_
      rintro e w2 ⟨rfl, t2⟩
      have ht2 : Touch [] w w2 := ht.drew.trans t2 (by simp)
      go_wp2_with fail
      go_roundw
      case rel => exact ⟨i + 1, by omega, by go_num, ht2⟩
      case measure => simp [intOf]; omega
    · go_wp2_with fail
      go_ret
      exact ⟨rfl, ht⟩
def EqsO (x : List Value) : Prop := x.length = 23 ∧ ∀ w, (Op.equalIn 10000 36 (.agg x.toArray) (.agg x.toArray)).run Try.prog w = .ok true w
set_option maxRecDepth 100000 in
set_option maxHeartbeats 4000000 in
theorem oneO (x : List Value) (w : World) (h : EqsO x) : Calls Try.prog 45 #[.agg x.toArray, .agg x.toArray] w fun e w' => e = .returned (.bool true) ∧ Touch [] w w' := by
  have HL := Lib.hid h.1
  have HE := Lib.hid h.2
  clear h
  have h1 := World.rangeAt_alloc (range_new w x 36) (.cells x.toArray 36)
  have h2 := range_block (heap_alloc2_new w (.cells x.toArray 36) (.cells x.toArray 36))
  go_enter Try.func45, Try.ntmps45
  go_wp2_with (first
    | (refine wpList_load_mid rfl 36 _ rfl w.heap.size 0 rfl x _ h1 Try.underlying36 rfl (by rw [infoO, HL.out]) ?_)
    | (refine wpList_load_mid rfl 36 _ rfl (w.heap.size + 1) 0 rfl x _ h2 Try.underlying36 rfl (by rw [infoO, HL.out]) ?_)
    | (refine wpList_eql_agg rfl 36 _ _ _ rfl x.toArray x.toArray rfl rfl (by kernel_rfl) true (HE.out _) ?_))
  go_ret
  exact ⟨rfl, ((Touch.refl [] w).alloc _).alloc _⟩
set_option maxRecDepth 100000 in
set_option maxHeartbeats 4000000 in
theorem equalO (v1 v2 : Value) (b1 b2 : Nat) (xs : List (List Value)) (w : World) (hl : xs.length ≤ 10000000) (h1 : Rd w 23 b1 v1 xs) (h2 : Rd w 23 b2 v2 xs) (hxs : ∀ x ∈ xs, EqsO x) :
    Calls Try.prog 16 #[v1, v2] w fun e w' => e = .returned (.bool true) ∧ Touch [] w w' := by
  obtain ⟨a1, c1, rfl, hc1, hm1⟩ := h1.form
  obtain ⟨a2, c2, rfl, hc2, hm2⟩ := h2.form
  go_enter Try.func16, Try.ntmps16
  go_wp2_with fail
  go_enter Try.func44, Try.ntmps44
  go_wp2_with fail
  go_loopw [7] (fun vi wr => ∃ (i : Nat), i ≤ xs.length ∧ vi = .int .i64 i ∧ Touch [] w wr) (fun vi _ => xs.length - (intOf vi).toNat)
  case atStart => exact ⟨0, by omega, rfl, Touch.refl _ _⟩
  case round =>
    obtain ⟨i, hix, rfl, ht⟩ := hrel
    by_cases hlt : i < xs.length
    · obtain ⟨o1, rfl, hat1⟩ := h1.at (by intro e; subst e; simp at hlt)
      obtain ⟨o2, rfl, hat2⟩ := h2.at (by intro e; subst e; simp at hlt)
      have hx : xs[i]? = some xs[i] := List.getElem?_eq_getElem hlt
      have hadx := hxs _ (List.getElem_mem hlt)
      generalize xs[i] = x at hx hadx
      have hr1 := ht.range (hat1 i x hx) (by simp)
      have hr2 := ht.range (hat2 i x hx) (by simp)
      clear hat1 hat2 hx
      go_wp2_with fail
      refine wp_region_still_tail 9 (by kernel_rfl) (by kernel_rfl) ?_
      simp only [List.take_succ_cons, List.take_zero, List.drop_succ_cons, List.drop_zero]
      iterate 4 still_step
      refine wpStill_load_mid rfl 36 _ rfl b1 (o1 + i * 23) rfl x _ hr1 Try.underlying36 rfl (by rw [infoO, hadx.1]) ?_
      iterate 3 still_step
      refine wpStill_load_mid rfl 36 _ rfl b2 (o2 + i * 23) rfl x _ hr2 Try.underlying36 rfl (by rw [infoO, hadx.1]) ?_
      refine wpStill_nil ?_
      change wpList _ _ _ _ _ wr.drew
      go_wp2_with fail
      refine (oneO x _ hadx).mono ?_
      rintro e w2 ⟨rfl, t2⟩
      have ht2 : Touch [] w w2 := ht.drew.trans t2 (by simp)
      go_wp2_with fail
      go_roundw
      case rel => exact ⟨i + 1, by omega, by go_num, ht2⟩
      case measure => simp [intOf]; omega
    · go_wp2_with fail
      go_ret
      exact ⟨rfl, ht⟩
def EqsT (x : List Value) : Prop := x.length = 19 ∧ ∀ w, (Op.equalIn 10000 46 (.agg x.toArray) (.agg x.toArray)).run Try.prog w = .ok true w
set_option maxRecDepth 100000 in
set_option maxHeartbeats 4000000 in
theorem oneT (x : List Value) (w : World) (h : EqsT x) : Calls Try.prog 50 #[.agg x.toArray, .agg x.toArray] w fun e w' => e = .returned (.bool true) ∧ Touch [] w w' := by
  have HL := Lib.hid h.1
  have HE := Lib.hid h.2
  clear h
  have h1 := World.rangeAt_alloc (range_new w x 46) (.cells x.toArray 46)
  have h2 := range_block (heap_alloc2_new w (.cells x.toArray 46) (.cells x.toArray 46))
  go_enter Try.func50, Try.ntmps50
  go_wp2_with (first
    | (refine wpList_load_mid rfl 46 _ rfl w.heap.size 0 rfl x _ h1 Try.underlying46 rfl (by rw [infoT, HL.out]) ?_)
    | (refine wpList_load_mid rfl 46 _ rfl (w.heap.size + 1) 0 rfl x _ h2 Try.underlying46 rfl (by rw [infoT, HL.out]) ?_)
    | (refine wpList_eql_agg rfl 46 _ _ _ rfl x.toArray x.toArray rfl rfl (by kernel_rfl) true (HE.out _) ?_))
  go_ret
  exact ⟨rfl, ((Touch.refl [] w).alloc _).alloc _⟩
set_option maxRecDepth 100000 in
set_option maxHeartbeats 4000000 in
theorem equalT (v1 v2 : Value) (b1 b2 : Nat) (xs : List (List Value)) (w : World) (hl : xs.length ≤ 10000000) (h1 : Rd w 19 b1 v1 xs) (h2 : Rd w 19 b2 v2 xs) (hxs : ∀ x ∈ xs, EqsT x) :
    Calls Try.prog 27 #[v1, v2] w fun e w' => e = .returned (.bool true) ∧ Touch [] w w' := by
  obtain ⟨a1, c1, rfl, hc1, hm1⟩ := h1.form
  obtain ⟨a2, c2, rfl, hc2, hm2⟩ := h2.form
  go_enter Try.func27, Try.ntmps27
  go_wp2_with fail
  go_enter Try.func49, Try.ntmps49
  go_wp2_with fail
  go_loopw [7] (fun vi wr => ∃ (i : Nat), i ≤ xs.length ∧ vi = .int .i64 i ∧ Touch [] w wr) (fun vi _ => xs.length - (intOf vi).toNat)
  case atStart => exact ⟨0, by omega, rfl, Touch.refl _ _⟩
  case round =>
    obtain ⟨i, hix, rfl, ht⟩ := hrel
    by_cases hlt : i < xs.length
    · obtain ⟨o1, rfl, hat1⟩ := h1.at (by intro e; subst e; simp at hlt)
      obtain ⟨o2, rfl, hat2⟩ := h2.at (by intro e; subst e; simp at hlt)
      have hx : xs[i]? = some xs[i] := List.getElem?_eq_getElem hlt
      have hadx := hxs _ (List.getElem_mem hlt)
      generalize xs[i] = x at hx hadx
      have hr1 := ht.range (hat1 i x hx) (by simp)
      have hr2 := ht.range (hat2 i x hx) (by simp)
      clear hat1 hat2 hx
      go_wp2_with fail
      refine wp_region_still_tail 9 (by kernel_rfl) (by kernel_rfl) ?_
      simp only [List.take_succ_cons, List.take_zero, List.drop_succ_cons, List.drop_zero]
      iterate 4 still_step
      refine wpStill_load_mid rfl 46 _ rfl b1 (o1 + i * 19) rfl x _ hr1 Try.underlying46 rfl (by rw [infoT, hadx.1]) ?_
      iterate 3 still_step
      refine wpStill_load_mid rfl 46 _ rfl b2 (o2 + i * 19) rfl x _ hr2 Try.underlying46 rfl (by rw [infoT, hadx.1]) ?_
      refine wpStill_nil ?_
      change wpList _ _ _ _ _ wr.drew
      go_wp2_with fail
      refine (oneT x _ hadx).mono ?_
      rintro e w2 ⟨rfl, t2⟩
      have ht2 : Touch [] w w2 := ht.drew.trans t2 (by simp)
      go_wp2_with fail
      go_roundw
      case rel => exact ⟨i + 1, by omega, by go_num, ht2⟩
      case measure => simp [intOf]; omega
    · go_wp2_with fail
      go_ret
      exact ⟨rfl, ht⟩
theorem eqsE {ks : List Key} (h : ∀ k ∈ ks, okK k) : ∀ x ∈ rE ks, EqsE x := by
  intro x hx
  simp only [rE, List.mem_map] at hx
  obtain ⟨k, hk, rfl⟩ := hx
  exact ⟨rfl, fun w => by have := eqE (h k hk) (h k hk) w; simpa using this⟩
theorem eqsO {l : List O} (h : ∀ o ∈ l, OkO o) : ∀ x ∈ rO l, EqsO x := by
  intro x hx
  simp only [rO, List.mem_map] at hx
  obtain ⟨k, hk, rfl⟩ := hx
  exact ⟨(h k hk).len, fun w => eqO (h k hk) w⟩
theorem eqsT {l : List Tg} (h : ∀ o ∈ l, OkT o) : ∀ x ∈ rT l, EqsT x := by
  intro x hx
  simp only [rT, List.mem_map] at hx
  obtain ⟨k, hk, rfl⟩ := hx
  exact ⟨(h k hk).len, fun w => eqT (h k hk) w⟩
end Go.Proofs.Ytmdnkhpkpmbeoaa

/-
  HasShutdown, the program's and the reference's.
-/
namespace Go.Proofs.Ytmdnkhpkpmbeoaa
open Go.RowKit
set_option linter.unusedVariables false
set_option linter.unusedSimpArgs false

/-- An output of kind n that concerns the endpoint x. -/
def isW (n : Int) (o : O) (x : Key) : Bool := decide (o.k = n ∧ o.c = x.1 ∧ o.a = x.2)
theorem ep_56 {o : O} {n : Int} (h : o.k = n) (hn : n = 5 ∨ n = 6) : epO o = (o.c, o.a) := by
  unfold epO
  rw [if_neg (by omega)]
theorem isW_ep {o : O} {n : Int} (h : o.k = n) (hn : n = 5 ∨ n = 6) (x : Key) : isW n o x = decide (epO o = x) := by
  rw [ep_56 h hn]
  obtain ⟨c, a⟩ := x
  simp [isW, h]
theorem isW_no {o : O} {n : Int} (h : ¬ o.k = n) (x : Key) : isW n o x = false := by simp [isW, h]
def hasS (l : List O) (x : Key) : Bool := l.any fun o => isW 6 o x
theorem hasS_next {l : List O} {i : Nat} {o : O} (x : Key) (h : l[i]? = some o) : hasS (l.take (i + 1)) x = (hasS (l.take i) x || isW 6 o x) := by
  rw [take_next h]
  simp [hasS]
theorem hasS_hit {l : List O} {i : Nat} {o : O} (x : Key) (h : l[i]? = some o) (hx : isW 6 o x = true) : hasS l x = true := by
  unfold hasS
  rw [List.any_eq_true]
  exact ⟨o, List.mem_of_getElem? h, hx⟩
set_option maxRecDepth 100000 in
set_option maxHeartbeats 4000000 in
theorem clos_any (o : O) (ok : OkO o) (g : Nat) (x : Key) (hx : okK x) (w : World) (hg : w.heap[g]? = some (.cells (encE x).toArray 30 (0, 0))) :
    Calls Try.prog 52 #[.agg (encO o).toArray, .pointer (some ⟨g, 0, none⟩)] w fun e w' => e = .returned (.bool (isW 6 o x)) ∧ Touch [] w w' := by
  have T0 := Lib.hid ((Touch.refl [] w).alloc (.cells (encO o).toArray 36))
  have HB := Lib.hid (heap_alloc_new w (.cells (encO o).toArray 36))
  have HG := Lib.hid (T0.out.at hg (by simp))
  have OK := Lib.hid ok
  have HQ := Lib.hid (fun w => eqE (epO_ok ok) hx w)
  by_cases h6 : o.k = 6
  · have q6 : (o.k == 6) = true := by simp [h6]
    rw [isW_ep h6 (.inr rfl)]
    clear h6 hg ok hx
    go_enter Try.func52, Try.ntmps52
    go_upto_region 1 with (fail)
    have TW := Lib.hid (T0.out.drew)
    have HBW := Lib.hid ((T0.out.drew).trans (Touch.refl [] _) (by simp))
    have rb := Lib.hid (range_block (((Touch.refl [] _).drew).at HB.out (by simp)))
    have rx := Lib.hid (range_block (((Touch.refl [] _).drew).at HG.out (by simp)))
    refine wp_region_held (S := Touch [] (w.alloc (.cells (encO o).toArray 36)).drew) (by kernel_rfl) ?_
    change wpAnyH _ _ _ _ _ _ _ _ (w.alloc (.cells (encO o).toArray 36)).drew
    clear HB HG T0 HBW
    obtain ⟨gB, hgB⟩ : ∃ gB, gB = w.heap.size := ⟨_, rfl⟩
    rw [← hgB] at rb ⊢
    have HGB := Lib.hid hgB
    clear hgB
    generalize (w.alloc (.cells (encO o).toArray 36)).drew = W at *
    have hS := Touch.refl [] W
    obtain ⟨c0, _, _, _, _, _, _⟩ := O.cells OK.out rb.out
    try simp only [Nat.zero_add] at c0
    refine wpAnyH_take (i := 0) (oi := { dst := some 4, op := Op.fieldAddr 36 (Operand.tmp 2) 0, type := 0, pos := "trace.go:110", after := #[], guard := none }) (v := .pointer (some ⟨gB, 0, none⟩)) rfl (by kernel_rfl) (by kernel_rfl) (by kernel_rfl) (fun _ _ _ h => h) (Or.inl ⟨by rfl, fun w' hw => by go_simp⟩) hS ?_
    try simp only [Act.put, List.setIfInBounds_toArray, List.set_cons_zero, List.set_cons_succ]
    refine wpAnyH_take (i := 1) (oi := { dst := some 5, op := Op.load 3 (Operand.tmp 4), type := 3, pos := "trace.go:110", after := #[{ on := 0, ground := Ground.data }], guard := none }) (v := .int .i64 o.k) rfl (by kernel_rfl) (by kernel_rfl) (by kernel_rfl) (fun _ _ _ h => h) (Or.inl ⟨by rfl, fun w' hw => by (have q := hw.cell c0 (by simp); go_simp)⟩) hS ?_
    try simp only [Act.put, List.setIfInBounds_toArray, List.set_cons_zero, List.set_cons_succ]
    refine wpAnyH_take (i := 2) (oi := { dst := some 6, op := Op.binOp BinOp.eql 3 (Operand.tmp 5) (Operand.const (Value.int IntKind.i64 6)) 3, type := 4, pos := "trace.go:110", after := #[{ on := 1, ground := Ground.data }], guard := none }) (v := .bool true) rfl (by kernel_rfl) (by kernel_rfl) (by kernel_rfl) (fun _ _ _ h => h) (Or.inl ⟨by rfl, fun w' hw => by go_simp⟩) hS ?_
    try simp only [Act.put, List.setIfInBounds_toArray, List.set_cons_zero, List.set_cons_succ]
    refine wpAnyH_take (i := 3) (oi := { dst := some 7, op := Op.move (Operand.tmp 6), type := 4, pos := "trace.go:110", after := #[{ on := 2, ground := Ground.data }], guard := none }) (v := .bool true) rfl (by kernel_rfl) (by kernel_rfl) (by kernel_rfl) (fun _ _ _ h => h) (Or.inl ⟨by rfl, fun w' hw => by go_simp⟩) hS ?_
    try simp only [Act.put, List.setIfInBounds_toArray, List.set_cons_zero, List.set_cons_succ]
    refine wpAnyH_take (i := 4) (oi := { dst := some 8, op := Op.load 36 (Operand.tmp 2), type := 36, pos := "trace.go:110", after := #[{ on := 3, ground := Ground.guard }], guard := some (3, true) }) (v := .agg (encO o).toArray) rfl (by kernel_rfl) (by kernel_rfl) (by kernel_rfl) (fun _ _ _ h => h) (Or.inl ⟨by rfl, fun w' hw => exec_load_agg _ 36 _ rfl _ _ rfl (encO o) _ (hw.range rb.out (by simp)) Try.underlying36 rfl (by rw [infoO, OK.out.len])⟩) hS ?_
    try simp only [Act.put, List.setIfInBounds_toArray, List.set_cons_zero, List.set_cons_succ]
    refine wpAnyH_take (i := 6) (oi := { dst := some 10, op := Op.load 30 (Operand.tmp 1), type := 30, pos := "trace.go:110", after := #[{ on := 3, ground := Ground.guard }], guard := some (3, true) }) (v := .agg (encE x).toArray) rfl (by kernel_rfl) (by kernel_rfl) (by kernel_rfl) (fun _ _ _ h => h) (Or.inl ⟨by rfl, fun w' hw => exec_load_agg _ 30 _ rfl _ _ rfl (encE x) _ (hw.range rx.out (by simp)) Try.underlying30 rfl (by rw [infoE]; rfl)⟩) hS ?_
    try simp only [Act.put, List.setIfInBounds_toArray, List.set_cons_zero, List.set_cons_succ]
    refine wpAnyH_ready (rs := [5]) (by kernel_rfl) (by simp) ?_
    refine AllReadyH.cons (o := { dst := some 9, op := Op.call { callee := Callee.value (Operand.func 42), args := #[Operand.tmp 8], argTypes := #[36] }, type := 30, pos := "trace.go:110", after := #[{ on := 4, ground := Ground.data }, { on := 3, ground := Ground.chain }, { on := 3, ground := Ground.guard }], guard := some (3, true) }) rfl (fun K hK => ?_) AllReadyH.nil
    go_simp
    refine (ep_any o OK.out _).mono ?_
    rintro e w2 ⟨rfl, t2⟩
    have hS2 := hS.trans t2 (by simp)
    refine hK.out _ _ hS2 (fun _ => ?_)
    clear hK K hS t2
    have hS := hS2
    clear hS2
    try simp only [Act.put, List.setIfInBounds_toArray, List.set_cons_zero, List.set_cons_succ]
    refine wpAnyH_take (i := 7) (oi := { dst := some 11, op := Op.binOp BinOp.eql 30 (Operand.tmp 9) (Operand.tmp 10) 30, type := 4, pos := "trace.go:110", after := #[{ on := 5, ground := Ground.data }, { on := 6, ground := Ground.data }, { on := 3, ground := Ground.guard }], guard := some (3, true) }) (v := .bool (decide (epO o = x))) rfl (by kernel_rfl) (by kernel_rfl) (by kernel_rfl) (fun _ _ _ h => h) (Or.inl ⟨by rfl, fun w' hw => exec_eql_agg _ 30 _ _ _ rfl (encE (epO o)).toArray (encE x).toArray rfl rfl gE _ (HQ.out w')⟩) hS ?_
    try simp only [Act.put, List.setIfInBounds_toArray, List.set_cons_zero, List.set_cons_succ]
    refine wpAnyH_take (i := 8) (oi := { dst := some 12, op := Op.pick (Operand.tmp 7) (Operand.tmp 11) (Operand.const (Value.bool false)), type := 4, pos := "trace.go:110", after := #[{ on := 3, ground := Ground.data }, { on := 7, ground := Ground.data }], guard := none }) (v := .bool (decide (epO o = x))) rfl (by kernel_rfl) (by kernel_rfl) (by kernel_rfl) (fun _ _ _ h => h) (Or.inl ⟨by rfl, fun w' hw => by go_simp⟩) hS ?_
    try simp only [Act.put, List.setIfInBounds_toArray, List.set_cons_zero, List.set_cons_succ]
    refine wpAnyH_take (i := 9) (oi := { dst := some 3, op := Op.assign (Operand.tmp 12), type := 4, pos := "trace.go:110", after := #[{ on := 8, ground := Ground.data }, { on := 5, ground := Ground.chain }, { on := 0, ground := Ground.phase }, { on := 1, ground := Ground.phase }, { on := 2, ground := Ground.phase }, { on := 3, ground := Ground.phase }, { on := 4, ground := Ground.phase }, { on := 5, ground := Ground.phase }, { on := 6, ground := Ground.phase }, { on := 7, ground := Ground.phase }, { on := 8, ground := Ground.phase }], guard := none }) (v := .bool (decide (epO o = x))) rfl (by kernel_rfl) (by kernel_rfl) (by kernel_rfl) (fun _ _ _ h => h) (Or.inl ⟨by rfl, fun w' hw => by go_simp⟩) hS ?_
    try simp only [Act.put, List.setIfInBounds_toArray, List.set_cons_zero, List.set_cons_succ]
    refine wpAnyH_done (by kernel_rfl) ?_ _
    try simp only [Act.put, List.setIfInBounds_toArray, List.set_cons_zero, List.set_cons_succ]
    have T9 := Lib.hid (TW.out.trans hS (by simp))
    clear hS c0
    go_wp2_with fail
    go_ret
    exact ⟨rfl, T9.out⟩
  · have q6 : (o.k == 6) = false := by simp [h6]
    rw [isW_no h6]
    clear h6 hg ok hx
    go_enter Try.func52, Try.ntmps52
    go_upto_region 1 with (fail)
    have TW := Lib.hid (T0.out.drew)
    have HBW := Lib.hid ((T0.out.drew).trans (Touch.refl [] _) (by simp))
    have rb := Lib.hid (range_block (((Touch.refl [] _).drew).at HB.out (by simp)))
    have rx := Lib.hid (range_block (((Touch.refl [] _).drew).at HG.out (by simp)))
    refine wp_region_held (S := Touch [] (w.alloc (.cells (encO o).toArray 36)).drew) (by kernel_rfl) ?_
    change wpAnyH _ _ _ _ _ _ _ _ (w.alloc (.cells (encO o).toArray 36)).drew
    clear HB HG T0 HBW
    obtain ⟨gB, hgB⟩ : ∃ gB, gB = w.heap.size := ⟨_, rfl⟩
    rw [← hgB] at rb ⊢
    have HGB := Lib.hid hgB
    clear hgB
    generalize (w.alloc (.cells (encO o).toArray 36)).drew = W at *
    have hS := Touch.refl [] W
    obtain ⟨c0, _, _, _, _, _, _⟩ := O.cells OK.out rb.out
    try simp only [Nat.zero_add] at c0
    refine wpAnyH_take (i := 0) (oi := { dst := some 4, op := Op.fieldAddr 36 (Operand.tmp 2) 0, type := 0, pos := "trace.go:110", after := #[], guard := none }) (v := .pointer (some ⟨gB, 0, none⟩)) rfl (by kernel_rfl) (by kernel_rfl) (by kernel_rfl) (fun _ _ _ h => h) (Or.inl ⟨by rfl, fun w' hw => by go_simp⟩) hS ?_
    try simp only [Act.put, List.setIfInBounds_toArray, List.set_cons_zero, List.set_cons_succ]
    refine wpAnyH_take (i := 1) (oi := { dst := some 5, op := Op.load 3 (Operand.tmp 4), type := 3, pos := "trace.go:110", after := #[{ on := 0, ground := Ground.data }], guard := none }) (v := .int .i64 o.k) rfl (by kernel_rfl) (by kernel_rfl) (by kernel_rfl) (fun _ _ _ h => h) (Or.inl ⟨by rfl, fun w' hw => by (have q := hw.cell c0 (by simp); go_simp)⟩) hS ?_
    try simp only [Act.put, List.setIfInBounds_toArray, List.set_cons_zero, List.set_cons_succ]
    refine wpAnyH_take (i := 2) (oi := { dst := some 6, op := Op.binOp BinOp.eql 3 (Operand.tmp 5) (Operand.const (Value.int IntKind.i64 6)) 3, type := 4, pos := "trace.go:110", after := #[{ on := 1, ground := Ground.data }], guard := none }) (v := .bool false) rfl (by kernel_rfl) (by kernel_rfl) (by kernel_rfl) (fun _ _ _ h => h) (Or.inl ⟨by rfl, fun w' hw => by go_simp⟩) hS ?_
    try simp only [Act.put, List.setIfInBounds_toArray, List.set_cons_zero, List.set_cons_succ]
    refine wpAnyH_take (i := 3) (oi := { dst := some 7, op := Op.move (Operand.tmp 6), type := 4, pos := "trace.go:110", after := #[{ on := 2, ground := Ground.data }], guard := none }) (v := .bool false) rfl (by kernel_rfl) (by kernel_rfl) (by kernel_rfl) (fun _ _ _ h => h) (Or.inl ⟨by rfl, fun w' hw => by go_simp⟩) hS ?_
    try simp only [Act.put, List.setIfInBounds_toArray, List.set_cons_zero, List.set_cons_succ]
    refine wpAnyH_take (i := 4) (oi := { dst := some 8, op := Op.load 36 (Operand.tmp 2), type := 36, pos := "trace.go:110", after := #[{ on := 3, ground := Ground.guard }], guard := some (3, true) }) (v := undef) rfl (by kernel_rfl) (by kernel_rfl) (by kernel_rfl) (fun _ _ _ h => h) (Or.inr ⟨by rfl, rfl⟩) hS ?_
    try simp only [Act.put, List.setIfInBounds_toArray, List.set_cons_zero, List.set_cons_succ]
    refine wpAnyH_take (i := 5) (oi := { dst := some 9, op := Op.call { callee := Callee.value (Operand.func 42), args := #[Operand.tmp 8], argTypes := #[36] }, type := 30, pos := "trace.go:110", after := #[{ on := 4, ground := Ground.data }, { on := 3, ground := Ground.chain }, { on := 3, ground := Ground.guard }], guard := some (3, true) }) (v := undef) rfl (by kernel_rfl) (by kernel_rfl) (by kernel_rfl) (fun _ _ _ h => h) (Or.inr ⟨by rfl, rfl⟩) hS ?_
    try simp only [Act.put, List.setIfInBounds_toArray, List.set_cons_zero, List.set_cons_succ]
    refine wpAnyH_take (i := 6) (oi := { dst := some 10, op := Op.load 30 (Operand.tmp 1), type := 30, pos := "trace.go:110", after := #[{ on := 3, ground := Ground.guard }], guard := some (3, true) }) (v := undef) rfl (by kernel_rfl) (by kernel_rfl) (by kernel_rfl) (fun _ _ _ h => h) (Or.inr ⟨by rfl, rfl⟩) hS ?_
    try simp only [Act.put, List.setIfInBounds_toArray, List.set_cons_zero, List.set_cons_succ]
    refine wpAnyH_take (i := 7) (oi := { dst := some 11, op := Op.binOp BinOp.eql 30 (Operand.tmp 9) (Operand.tmp 10) 30, type := 4, pos := "trace.go:110", after := #[{ on := 5, ground := Ground.data }, { on := 6, ground := Ground.data }, { on := 3, ground := Ground.guard }], guard := some (3, true) }) (v := undef) rfl (by kernel_rfl) (by kernel_rfl) (by kernel_rfl) (fun _ _ _ h => h) (Or.inr ⟨by rfl, rfl⟩) hS ?_
    try simp only [Act.put, List.setIfInBounds_toArray, List.set_cons_zero, List.set_cons_succ]
    refine wpAnyH_take (i := 8) (oi := { dst := some 12, op := Op.pick (Operand.tmp 7) (Operand.tmp 11) (Operand.const (Value.bool false)), type := 4, pos := "trace.go:110", after := #[{ on := 3, ground := Ground.data }, { on := 7, ground := Ground.data }], guard := none }) (v := .bool false) rfl (by kernel_rfl) (by kernel_rfl) (by kernel_rfl) (fun _ _ _ h => h) (Or.inl ⟨by rfl, fun w' hw => by go_simp⟩) hS ?_
    try simp only [Act.put, List.setIfInBounds_toArray, List.set_cons_zero, List.set_cons_succ]
    refine wpAnyH_take (i := 9) (oi := { dst := some 3, op := Op.assign (Operand.tmp 12), type := 4, pos := "trace.go:110", after := #[{ on := 8, ground := Ground.data }, { on := 5, ground := Ground.chain }, { on := 0, ground := Ground.phase }, { on := 1, ground := Ground.phase }, { on := 2, ground := Ground.phase }, { on := 3, ground := Ground.phase }, { on := 4, ground := Ground.phase }, { on := 5, ground := Ground.phase }, { on := 6, ground := Ground.phase }, { on := 7, ground := Ground.phase }, { on := 8, ground := Ground.phase }], guard := none }) (v := .bool false) rfl (by kernel_rfl) (by kernel_rfl) (by kernel_rfl) (fun _ _ _ h => h) (Or.inl ⟨by rfl, fun w' hw => by go_simp⟩) hS ?_
    try simp only [Act.put, List.setIfInBounds_toArray, List.set_cons_zero, List.set_cons_succ]
    refine wpAnyH_done (by kernel_rfl) ?_ _
    try simp only [Act.put, List.setIfInBounds_toArray, List.set_cons_zero, List.set_cons_succ]
    have T9 := Lib.hid (TW.out.trans hS (by simp))
    clear hS c0
    go_wp2_with fail
    go_ret
    exact ⟨rfl, T9.out⟩
set_option maxRecDepth 100000 in
set_option maxHeartbeats 4000000 in
theorem index_any (v : Value) (b : Nat) (l : List O) (g : Nat) (x : Key) (hx : okK x) (w : World) (hr : Rd w 23 b v (rO l)) (hok : ∀ o ∈ l, OkO o) (hl : l.length ≤ 10000000) (hg : w.heap[g]? = some (.cells (encE x).toArray 30 (0, 0))) :
    Calls Try.prog 58 #[v, .func (.func 52) #[] #[.pointer (some ⟨g, 0, none⟩)]] w fun e w' => ∃ r : Int, e = .returned (.int .i64 r) ∧ decide (0 ≤ r) = hasS l x ∧ Touch [] w w' := by
  obtain ⟨a, cap, rfl, hc, hcm⟩ := hr.form
  rw [rO_len] at hc hr ⊢
  clear hcm
  have HG := Lib.hid hg
  clear hg
  go_enter Try.func58, Try.ntmps58
  go_wp2_with fail
  go_loopw [8] (fun vi wr => ∃ (i : Nat), vi = .int .i64 i ∧ i ≤ l.length ∧ hasS (l.take i) x = false ∧ Touch [] w wr) (fun vi _ => l.length - (intOf vi).toNat)
  case atStart => exact ⟨0, rfl, by omega, by simp [hasS], Touch.refl _ _⟩
  case round =>
    obtain ⟨i, rfl, hil, hno, ht⟩ := hrel
    have HN := Lib.hid hno
    have HT := Lib.hid ht
    clear hno ht
    by_cases hlt : i < l.length
    · have hb1 : (i : Int) < (l.length : Int) := by omega
      have hx2 := List.getElem?_eq_getElem hlt
      have OKI := Lib.hid (hok _ (List.getElem_mem hlt))
      generalize l[i] = o at hx2 OKI
      obtain ⟨off, rfl, rI⟩ := (hr.touch HT.out (by simp)).atO hx2
      have HX := Lib.hid hx2
      have hwi : IntKind.i64.wrap ((i : Int) + 1) = (i : Int) + 1 := by rw [IntKind.wrap_i64] <;> omega
      clear hx2
      go_wp2_with ((with_reducible refine at_load 36 ?_); refine wpList_load_mid rfl 36 _ rfl b (off + i * 23) rfl (encO o) _ rI Try.underlying36 rfl (by rw [infoO, OKI.out.len]) ?_)
      refine (clos_any o OKI.out g x hx _ (HT.out.at HG.out (by simp))).mono ?_
      rintro e w3 ⟨rfl, t3⟩
      have HT3 := Lib.hid (HT.out.trans t3 (by simp))
      clear t3 rI
      cases hw : isW 6 o x with
      | true =>
        have HH := Lib.hid (hasS_hit x HX.out hw)
        clear hw
        go_wp2_with fail
        go_ret
        exact ⟨i, rfl, by rw [HH.out]; simp, HT3.out⟩
      | false =>
        have HH := Lib.hid (show hasS (l.take (i + 1)) x = false by rw [hasS_next x HX.out, HN.out, hw]; rfl)
        clear hw
        go_wp2_with fail
        go_roundw
        case rel => exact ⟨i + 1, by simp, by omega, HH.out, HT3.out⟩
        case measure => simp [intOf]; omega
    · have hb1 : ¬ (i : Int) < (l.length : Int) := by omega
      have HE := Lib.hid (show hasS l x = false by
        have := HN.out
        rwa [List.take_of_length_le (by omega)] at this)
      go_wp2_with fail
      go_ret
      exact ⟨-1, rfl, by rw [HE.out]; rfl, HT.out⟩
set_option maxRecDepth 100000 in
set_option maxHeartbeats 4000000 in
theorem hs_any (v : Value) (b : Nat) (l : List O) (x : Key) (hx : okK x) (w : World) (hr : Rd w 23 b v (rO l)) (hok : ∀ o ∈ l, OkO o) (hl : l.length ≤ 10000000) :
    Calls Try.prog 30 #[v, .agg (encE x).toArray] w fun e w' => e = .returned (.bool (hasS l x)) ∧ Touch [] w w' := by
  have T0 := (Touch.refl [] w).alloc (.cells (encE x).toArray 30)
  have HI := Lib.hid (index_any v b l w.heap.size x hx (w.alloc (.cells (encE x).toArray 30)) (hr.touch T0 (by simp)) hok hl (heap_alloc_new _ _))
  have HT0 := Lib.hid T0
  obtain ⟨a, cap, rfl, hc, hcm⟩ := hr.form
  clear T0 hr hok hcm hc
  go_enter Try.func30, Try.ntmps30
  go_wp2_with fail
  go_enter Try.func51, Try.ntmps51
  go_wp2_with fail
  refine HI.out.mono ?_
  rintro e w3 ⟨r, rfl, hr, t3⟩
  have HT3 := Lib.hid (HT0.out.trans t3 (by simp))
  have HR := Lib.hid hr
  clear hr t3 HI
  go_wp2_with fail
  go_ret
  exact ⟨by rw [← HR.out]; rfl, HT3.out⟩
set_option maxRecDepth 100000 in
set_option maxHeartbeats 4000000 in
theorem rhs_any (v : Value) (b : Nat) (l : List O) (x : Key) (hx : okK x) (w : World) (hr : Rd w 23 b v (rO l)) (hok : ∀ o ∈ l, OkO o) (hl : l.length ≤ 10000000) :
    Calls Try.prog 31 #[v, .agg (encE x).toArray] w fun e w' => e = .returned (.bool (hasS l x)) ∧ Touch [] w w' := by
  obtain ⟨a, cap, rfl, hc, hcm⟩ := hr.form
  rw [rO_len] at hc hr ⊢
  clear hcm
  have T0 := Lib.hid ((Touch.refl [] w).alloc (.cells (encE x).toArray 30))
  have HG := Lib.hid (heap_alloc_new w (.cells (encE x).toArray 30))
  obtain ⟨xc, xa⟩ := x
  go_enter Try.func31, Try.ntmps31
  go_wp2_with fail
  go_loopw [5] (fun vi wr => ∃ (i : Nat), vi = .int .i64 i ∧ i ≤ l.length ∧ hasS (l.take i) (xc, xa) = false ∧ Touch [] (w.alloc (.cells (encE (xc, xa)).toArray 30)) wr) (fun vi _ => l.length - (intOf vi).toNat)
  case atStart => exact ⟨0, rfl, by omega, by simp [hasS], Touch.refl _ _⟩
  case round =>
    obtain ⟨i, rfl, hil, hno, ht⟩ := hrel
    have HN := Lib.hid hno
    have HT := Lib.hid ht
    have HTW := Lib.hid (T0.out.trans ht (by simp))
    have HGR := Lib.hid (ht.at HG.out (by simp))
    clear hno ht
    by_cases hlt : i < l.length
    · have hb1 : (i : Int) < (l.length : Int) := by omega
      have hx2 := List.getElem?_eq_getElem hlt
      have OKI := Lib.hid (hok _ (List.getElem_mem hlt))
      generalize l[i] = o at hx2 OKI
      obtain ⟨off, rfl, rI⟩ := (hr.touch HTW.out (by simp)).atO hx2
      have HX := Lib.hid hx2
      have hwi : IntKind.i64.wrap ((i : Int) + 1) = (i : Int) + 1 := by rw [IntKind.wrap_i64] <;> omega
      obtain ⟨c0, c1, c2, _, _, _, _⟩ := O.cells OKI.out rI
      have x0 : wr.cell? ⟨w.heap.size, 0, none⟩ = some (.int .i64 xc) := by simp [World.cell?, HGR.out, encE]
      have x1 : wr.cell? ⟨w.heap.size, 1, none⟩ = some (.int .i64 xa) := by simp [World.cell?, HGR.out, encE]
      clear hx2 rI
      have HNX := Lib.hid (hasS_next (xc, xa) HX.out)
      by_cases h6 : o.k = 6
      · have q6 : (o.k == 6) = true := by simp [h6]
        by_cases hcc : o.c = xc
        · have qc : (o.c == xc) = true := by simp [hcc]
          by_cases haa : o.a = xa
          · have qa : (o.a == xa) = true := by simp [haa]
            have HH := Lib.hid (hasS_hit (xc, xa) HX.out (by simp [isW, h6, hcc, haa]))
            clear h6 hcc haa
            go_wp2_with fail
            go_quiet (fail)
            go_wp2_with fail
            go_ret
            exact ⟨by rw [HH.out]; rfl, HTW.out.drews _⟩
          · have qa : (o.a == xa) = false := by simp [haa]
            have HH := Lib.hid (show hasS (l.take (i + 1)) (xc, xa) = false by rw [HNX.out, HN.out]; simp [isW, haa])
            clear h6 hcc haa
            go_wp2_with fail
            go_quiet (fail)
            go_wp2_with fail
            go_roundw
            case rel => exact ⟨i + 1, by simp, by omega, HH.out, HT.out.drews _⟩
            case measure => simp [intOf]; omega
        · have qc : (o.c == xc) = false := by simp [hcc]
          have HH := Lib.hid (show hasS (l.take (i + 1)) (xc, xa) = false by rw [HNX.out, HN.out]; simp [isW, hcc])
          clear h6 hcc
          go_wp2_with fail
          go_quiet (fail)
          go_wp2_with fail
          go_roundw
          case rel => exact ⟨i + 1, by simp, by omega, HH.out, HT.out.drews _⟩
          case measure => simp [intOf]; omega
      · have q6 : (o.k == 6) = false := by simp [h6]
        have HH := Lib.hid (show hasS (l.take (i + 1)) (xc, xa) = false by rw [HNX.out, HN.out]; simp [isW, h6])
        clear h6
        go_wp2_with fail
        go_quiet (fail)
        go_wp2_with fail
        go_roundw
        case rel => exact ⟨i + 1, by simp, by omega, HH.out, HT.out.drews _⟩
        case measure => simp [intOf]; omega
    · have hb1 : ¬ (i : Int) < (l.length : Int) := by omega
      have HE := Lib.hid (show hasS l (xc, xa) = false by
        have := HN.out
        rwa [List.take_of_length_le (by omega)] at this)
      go_wp2_with fail
      go_ret
      exact ⟨by rw [HE.out]; rfl, HTW.out⟩
end Go.Proofs.Ytmdnkhpkpmbeoaa

/-
  Written, the program's and the reference's.
-/
namespace Go.Proofs.Ytmdnkhpkpmbeoaa
open Go.RowKit
set_option linter.unusedVariables false
set_option linter.unusedSimpArgs false

/-- The bytes that are written to x. -/
def wrB (l : List O) (x : Key) : ByteArray := l.foldl (fun s o => if isW 5 o x then s ++ o.d else s) ByteArray.empty
theorem wrB_next {l : List O} {i : Nat} {o : O} (x : Key) (h : l[i]? = some o) : wrB (l.take (i + 1)) x = if isW 5 o x then wrB (l.take i) x ++ o.d else wrB (l.take i) x := by
  rw [take_next h]
  simp [wrB, List.foldl_append]
theorem wrB_size : ∀ (l : List O) (x : Key), (∀ o ∈ l, OkO o) → (wrB l x).size ≤ l.length * 1048576 := by
  intro l x h
  have key : ∀ (l : List O) (s : ByteArray), (∀ o ∈ l, OkO o) → (l.foldl (fun s o => if isW 5 o x then s ++ o.d else s) s).size ≤ s.size + l.length * 1048576 := by
    intro l
    induction l with
    | nil => intro s _; simp
    | cons o l ih =>
      intro s h
      simp only [List.foldl_cons, List.length_cons]
      have h1 := (h o List.mem_cons_self).d
      refine Nat.le_trans (ih _ (fun y hy => h y (List.mem_cons_of_mem _ hy))) ?_
      split
      · rw [ByteArray.size_append]
        omega
      · omega
  have := key l ByteArray.empty h
  simpa [wrB] using this
theorem strCells_append (a b : ByteArray) : Go.Lib.strCells (a ++ b) = Go.Lib.strCells a ++ Go.Lib.strCells b := by
  simp [Go.Lib.strCells]
theorem infoB : ∃ i, Try.prog.info? 5 = some i ∧ i.zero = some (.int .u8 0) ∧ i.size = 1 ∧ i.bytes = 1 := by
  have h : (Try.prog.info? 5).map (fun i => (i.size, i.bytes, i.zero)) = some (1, 1, some (.int .u8 0)) := by kernel_rfl
  cases hi : Try.prog.info? 5 with
  | none => simp [hi] at h
  | some i =>
    simp only [hi, Option.map_some, Option.some.injEq, Prod.mk.injEq] at h
    exact ⟨i, rfl, h.2.2, h.1, h.2.1⟩
/-- A row of bytes of one's own. -/
def OwnB (w0 w : World) (v : Value) (s : ByteArray) : Prop := w.ownsRow w0.heap.size 5 1 v s.size (Go.Lib.strCells s)
theorem owns_form' {w : World} {base e size n : Nat} {v : Value} {xs : List Value} (h : w.ownsRow base e size v n xs) : (v = .slice none 0 0 ∧ n = 0) ∨ ∃ g c, v = .slice (some ⟨g, 0, none⟩) n c ∧ base ≤ g := by
  obtain ⟨hl, h2⟩ := h
  rcases h2 with ⟨rfl, rfl⟩ | ⟨g, cap, cur, rfl, hg, _⟩
  · exact .inl ⟨rfl, rfl⟩
  · exact .inr ⟨g, cap, rfl, hg⟩
theorem run_conv_row {w0 w : World} {v : Value} {s : ByteArray} (h : OwnB w0 w v s) : (convert 74 9 v).run Try.prog w = .ok (.string s) w := by
  rcases owns_form' h with ⟨rfl, h0⟩ | ⟨g, c, rfl, _⟩
  · have hs : s = ⟨#[]⟩ := by
      obtain ⟨d⟩ := s
      simp [ByteArray.size] at h0
      simp [h0]
    subst hs
    rw [run_convert_bytes_string w 74 9 5 none 0 0 Try.underlying74 Try.underlying5 Try.underlying9]
    simp [Conv.bytesToString]
    rfl
  · have h2 := run_convert_bytes_back w 74 9 5 ⟨g, 0, none⟩ c s.data.toList Try.underlying74 Try.underlying5 Try.underlying9 (by
      intro j hj
      have := owns_cell (g := g) h j (.int .u8 (s.data.toList[j].toNat : Int)) (by unfold Go.Lib.strCells; rw [List.getElem?_map, List.getElem?_eq_getElem hj]; rfl)
      rw [Addr.add_lit]
      simpa using this)
    have e1 : s.data.toList.length = s.size := Array.length_toList
    have e2 : (⟨s.data.toList.toArray⟩ : ByteArray) = s := by cases s; simp
    rw [e1, e2] at h2
    exact h2
theorem at_conv {P : Program} {ops : Array Oper} {rest : List Oper} {a : Act} {w : World} {Q : Exit → Act → World → Prop} {d : Option Tmp} {t s1 s2 : TypeId} {x : Operand} {p : String} {af : Array Edge} {g : Option (Nat × Bool)} (h : wpList P ops Q ({ dst := d, op := .convert s1 s2 x, type := t, pos := p, after := af, guard := g } :: rest) a w) : wpList P ops Q ({ dst := d, op := .convert s1 s2 x, type := t, pos := p, after := af, guard := g } :: rest) a w := h
theorem wpList_conv {ops : Array Oper} {rest : List Oper} {o : Oper} {a : Act} {w : World} {Q : Exit → Act → World → Prop} (hgd : o.guard = none) (s1 s2 : TypeId) (x : Operand) (ho : o.op = .convert s1 s2 x) (v u : Value) (hx : a.eval x = v) (hr : (convert s1 s2 v).run Try.prog w = .ok u w)
    (h : wpList Try.prog ops Q rest (a.put o.dst u) w) : wpList Try.prog ops Q (o :: rest) a w := by
  refine wpList_plain hgd fun K hK => ?_
  unfold Oper.wp execOp
  simp only [ho, hx, Sem.run_bind, hr, Result.andThen_ok, Sem.run_pure]
  exact hK _ _ h
set_option maxRecDepth 100000 in
set_option maxHeartbeats 4000000 in
theorem wr_any (v : Value) (b : Nat) (l : List O) (x : Key) (hx : okK x) (w : World) (hr : Rd w 23 b v (rO l)) (hok : ∀ o ∈ l, OkO o) (hl : l.length ≤ 10000000) :
    Calls Try.prog 14 #[v, .agg (encE x).toArray] w fun e w' => e = .returned (.string (wrB l x)) ∧ Touch [] w w' := by
  obtain ⟨a, cap, rfl, hc, hcm⟩ := hr.form
  rw [rO_len] at hc hr ⊢
  clear hcm
  obtain ⟨i5, hi5, hz5, hs5, hb5⟩ := infoB
  have T0 := Lib.hid ((Touch.refl [] w).alloc (.cells (encE x).toArray 30))
  have HG := Lib.hid (heap_alloc_new w (.cells (encE x).toArray 30))
  go_enter Try.func14, Try.ntmps14
  go_wp2_with fail
  obtain ⟨w1, hw1⟩ : ∃ w1, w1 = w.alloc (.cells (encE x).toArray 30) := ⟨_, rfl⟩
  rw [← hw1] at T0 HG ⊢
  clear hw1
  obtain ⟨gX, hgX⟩ : ∃ gX, gX = w.heap.size := ⟨_, rfl⟩
  rw [← hgX] at HG ⊢
  clear hgX
  go_loopw [5, 10] (fun vo vi wr => ∃ (i : Nat), vi = .int .i64 i ∧ i ≤ l.length ∧ OwnB w1 wr vo (wrB (l.take i) x) ∧ Touch [] w1 wr) (fun _ vi _ => l.length - (intOf vi).toNat)
  case atStart => exact ⟨0, rfl, by omega, by
    have : wrB (l.take 0) x = ⟨#[]⟩ := rfl
    rw [this]
    exact ⟨rfl, .inl ⟨rfl, rfl⟩⟩, Touch.refl _ _⟩
  case round =>
    obtain ⟨i, rfl, hil, ho, ht⟩ := hrel
    have HO := Lib.hid ho
    have HT := Lib.hid ht
    have HGR := Lib.hid (ht.at HG.out (by simp))
    clear ho ht
    by_cases hlt : i < l.length
    · have hb1 : (i : Int) < (l.length : Int) := by omega
      have hx2 := List.getElem?_eq_getElem hlt
      have OK := Lib.hid (hok _ (List.getElem_mem hlt))
      generalize l[i] = o at hx2 OK
      have HSZ := Lib.hid (show (wrB (l.take i) x).size ≤ 10000000 * 1048576 from by
        have h1 := wrB_size (l.take i) x (fun o ho => hok o (List.mem_of_mem_take ho))
        have h2 : (l.take i).length ≤ 10000000 := by simp; omega
        exact Nat.le_trans h1 (Nat.mul_le_mul h2 (Nat.le_refl _)))
      obtain ⟨off, rfl, rI⟩ := (hr.touch (T0.out.trans HT.out (by simp)) (by simp)).atO hx2
      have HX := Lib.hid (wrB_next x hx2)
      have hwi : IntKind.i64.wrap ((i : Int) + 1) = (i : Int) + 1 := by rw [IntKind.wrap_i64] <;> omega
      have TB := (Touch.refl [] wr).alloc (.cells (encO o).toArray 36)
      have HB := Lib.hid (heap_alloc_new wr (.cells (encO o).toArray 36))
      have HGB2 := Lib.hid (TB.at HGR.out (by simp))
      have HTB := Lib.hid TB
      have HQ := Lib.hid (fun w => eqE (epO_ok OK.out) hx w)
      clear hx2 TB
      go_upto_region 5 with (first
          | ((with_reducible refine at_load 36 ?_); refine wpList_load_mid rfl 36 _ rfl b (off + i * 23) rfl (encO o) _ rI Try.underlying36 rfl (by rw [infoO, OK.out.len]) ?_)
          | ((with_reducible refine at_store 36 ?_); refine wpList_store_new rfl 36 _ _ rfl _ _ (encO o) (by rfl) (by rfl) (by rw [OK.out.len]; rfl) (by rw [infoO, OK.out.len]) OK.out.one ?_))
      clear rI
      have rb := Lib.hid (range_block (((Touch.refl [] _).drew).at HB.out (by simp)))
      have rx := Lib.hid (range_block (((Touch.refl [] _).drew).at HGB2.out (by simp)))
      have TWB := Lib.hid (HTB.out.drew)
      refine wp_region_held (S := Touch [] (wr.alloc (.cells (encO o).toArray 36)).drew) (by kernel_rfl) ?_
      change wpAnyH _ _ _ _ _ _ _ _ (wr.alloc (.cells (encO o).toArray 36)).drew
      clear HB HGB2 HTB
      obtain ⟨gB, hgB⟩ : ∃ gB, gB = wr.heap.size := ⟨_, rfl⟩
      rw [← hgB] at rb ⊢
      have HGB := Lib.hid hgB
      clear hgB
      generalize (wr.alloc (.cells (encO o).toArray 36)).drew = W at *
      have hS := Touch.refl [] W
      obtain ⟨c0, _, _, _, _, _, _⟩ := O.cells OK.out rb.out
      try simp only [Nat.zero_add] at c0
      by_cases h5 : o.k = 5
      · have q5 : (o.k == 5) = true := by simp [h5]
        have HEP := Lib.hid (isW_ep h5 (.inl rfl) x)
        clear h5
        refine wpAnyH_take (i := 0) (oi := { dst := some 14, op := Op.fieldAddr 36 (Operand.tmp 7) 0, type := 0, pos := "trace.go:101", after := #[], guard := none }) (v := .pointer (some ⟨gB, 0, none⟩)) rfl (by kernel_rfl) (by kernel_rfl) (by kernel_rfl) (fun _ _ _ h => h) (Or.inl ⟨by rfl, fun w' hw => by go_simp⟩) hS ?_
        try simp only [Act.put, List.setIfInBounds_toArray, List.set_cons_zero, List.set_cons_succ]
        refine wpAnyH_take (i := 1) (oi := { dst := some 15, op := Op.load 3 (Operand.tmp 14), type := 3, pos := "trace.go:101", after := #[{ on := 0, ground := Ground.data }], guard := none }) (v := .int .i64 o.k) rfl (by kernel_rfl) (by kernel_rfl) (by kernel_rfl) (fun _ _ _ h => h) (Or.inl ⟨by rfl, fun w' hw => by (have q := hw.cell c0 (by simp); go_simp)⟩) hS ?_
        try simp only [Act.put, List.setIfInBounds_toArray, List.set_cons_zero, List.set_cons_succ]
        refine wpAnyH_take (i := 2) (oi := { dst := some 16, op := Op.binOp BinOp.eql 3 (Operand.tmp 15) (Operand.const (Value.int IntKind.i64 5)) 3, type := 4, pos := "trace.go:101", after := #[{ on := 1, ground := Ground.data }], guard := none }) (v := .bool true) rfl (by kernel_rfl) (by kernel_rfl) (by kernel_rfl) (fun _ _ _ h => h) (Or.inl ⟨by rfl, fun w' hw => by go_simp⟩) hS ?_
        try simp only [Act.put, List.setIfInBounds_toArray, List.set_cons_zero, List.set_cons_succ]
        refine wpAnyH_take (i := 3) (oi := { dst := some 17, op := Op.move (Operand.tmp 16), type := 4, pos := "trace.go:101", after := #[{ on := 2, ground := Ground.data }], guard := none }) (v := .bool true) rfl (by kernel_rfl) (by kernel_rfl) (by kernel_rfl) (fun _ _ _ h => h) (Or.inl ⟨by rfl, fun w' hw => by go_simp⟩) hS ?_
        try simp only [Act.put, List.setIfInBounds_toArray, List.set_cons_zero, List.set_cons_succ]
        refine wpAnyH_take (i := 4) (oi := { dst := some 18, op := Op.load 36 (Operand.tmp 7), type := 36, pos := "trace.go:101", after := #[{ on := 3, ground := Ground.guard }], guard := some (3, true) }) (v := .agg (encO o).toArray) rfl (by kernel_rfl) (by kernel_rfl) (by kernel_rfl) (fun _ _ _ h => h) (Or.inl ⟨by rfl, fun w' hw => exec_load_agg _ 36 _ rfl _ _ rfl (encO o) _ (hw.range rb.out (by simp)) Try.underlying36 rfl (by rw [infoO, OK.out.len])⟩) hS ?_
        try simp only [Act.put, List.setIfInBounds_toArray, List.set_cons_zero, List.set_cons_succ]
        refine wpAnyH_take (i := 6) (oi := { dst := some 20, op := Op.load 30 (Operand.tmp 3), type := 30, pos := "trace.go:101", after := #[{ on := 3, ground := Ground.guard }], guard := some (3, true) }) (v := .agg (encE x).toArray) rfl (by kernel_rfl) (by kernel_rfl) (by kernel_rfl) (fun _ _ _ h => h) (Or.inl ⟨by rfl, fun w' hw => exec_load_agg _ 30 _ rfl _ _ rfl (encE x) _ (hw.range rx.out (by simp)) Try.underlying30 rfl (by rw [infoE]; rfl)⟩) hS ?_
        try simp only [Act.put, List.setIfInBounds_toArray, List.set_cons_zero, List.set_cons_succ]
        refine wpAnyH_ready (rs := [5]) (by kernel_rfl) (by simp) ?_
        refine AllReadyH.cons (o := { dst := some 19, op := Op.call { callee := Callee.value (Operand.func 42), args := #[Operand.tmp 18], argTypes := #[36] }, type := 30, pos := "trace.go:101", after := #[{ on := 4, ground := Ground.data }, { on := 3, ground := Ground.chain }, { on := 3, ground := Ground.guard }], guard := some (3, true) }) rfl (fun K hK => ?_) AllReadyH.nil
        go_simp
        refine (ep_any o OK.out _).mono ?_
        rintro e w2 ⟨rfl, t2⟩
        have hS2 := hS.trans t2 (by simp)
        refine hK.out _ _ hS2 (fun _ => ?_)
        clear hK K hS t2
        have hS := hS2
        clear hS2
        try simp only [Act.put, List.setIfInBounds_toArray, List.set_cons_zero, List.set_cons_succ]
        refine wpAnyH_take (i := 7) (oi := { dst := some 21, op := Op.binOp BinOp.eql 30 (Operand.tmp 19) (Operand.tmp 20) 30, type := 4, pos := "trace.go:101", after := #[{ on := 5, ground := Ground.data }, { on := 6, ground := Ground.data }, { on := 3, ground := Ground.guard }], guard := some (3, true) }) (v := .bool (decide (epO o = x))) rfl (by kernel_rfl) (by kernel_rfl) (by kernel_rfl) (fun _ _ _ h => h) (Or.inl ⟨by rfl, fun w' hw => exec_eql_agg _ 30 _ _ _ rfl (encE (epO o)).toArray (encE x).toArray rfl rfl gE _ (HQ.out w')⟩) hS ?_
        try simp only [Act.put, List.setIfInBounds_toArray, List.set_cons_zero, List.set_cons_succ]
        refine wpAnyH_take (i := 8) (oi := { dst := some 22, op := Op.pick (Operand.tmp 17) (Operand.tmp 21) (Operand.const (Value.bool false)), type := 4, pos := "trace.go:101", after := #[{ on := 3, ground := Ground.data }, { on := 7, ground := Ground.data }], guard := none }) (v := .bool (decide (epO o = x))) rfl (by kernel_rfl) (by kernel_rfl) (by kernel_rfl) (fun _ _ _ h => h) (Or.inl ⟨by rfl, fun w' hw => by go_simp⟩) hS ?_
        try simp only [Act.put, List.setIfInBounds_toArray, List.set_cons_zero, List.set_cons_succ]
        refine wpAnyH_done (by kernel_rfl) ?_ _
        try simp only [Act.put, List.setIfInBounds_toArray, List.set_cons_zero, List.set_cons_succ]
        have T9 := Lib.hid hS
        have T9B := Lib.hid (TWB.out.trans hS (by simp))
        clear hS c0
        rw [← HEP.out]
        cases hw : isW 5 o x with
        | true =>
          have HXT := Lib.hid (show wrB (l.take (i + 1)) x = wrB (l.take i) x ++ o.d by rw [HX.out, hw]; rfl)
          obtain ⟨_, _, _, d3, _, _, _⟩ := O.cells OK.out (T9.out.range rb.out (by simp))
          try simp only [Nat.zero_add] at d3
          have HO9 := Lib.hid (T9B.out.owns HO.out (by simp))
          have hdz := OK.out.d
          have HB9 := Lib.hid T9B.out.size
          clear hw
          go_wp2_with (at_builtin; refine Go.Lib.wpList_append_own_string _ rfl _ _ 74 9 (by rfl) w1.heap.size 5 i5 Try.underlying74 Try.underlying9 hi5 hz5 hs5 hb5 u5 _ _ rfl HO9.out o.d rfl (by have := HSZ.out; unfold maxLen; omega) (by have := HSZ.out; omega) (Nat.le_trans HT.out.size HB9.out) ?_)
          intro v3 w3 o3 g3 n3
          have HO3 := Lib.hid (show OwnB w1 w3 v3 (wrB (l.take (i + 1)) x) by unfold OwnB; rw [HXT.out, strCells_append, ByteArray.size_append]; exact o3)
          have HT3 := Lib.hid ((HT.out.trans T9B.out (by simp)).grown g3 (by
            intro k hk
            right
            rcases owns_form' HO.out with ⟨e, _⟩ | ⟨g, c, e, hg⟩
            · rw [e] at hk
              simp [Value.ownBlock] at hk
            · rw [e] at hk
              simp [Value.ownBlock] at hk
              omega))
          clear o3 g3 n3 d3
          go_wp2_with fail
          go_roundw
          case rel => exact ⟨i + 1, by simp, by omega, HO3.out, HT3.out⟩
          case measure => simp [intOf]; omega
        | false =>
          have HXT := Lib.hid (show wrB (l.take (i + 1)) x = wrB (l.take i) x by rw [HX.out, hw]; rfl)
          clear hw
          go_wp2_with fail
          go_roundw
          case rel => exact ⟨i + 1, by simp, by omega, by rw [HXT.out]; exact T9B.out.owns HO.out (by simp), HT.out.trans T9B.out (by simp)⟩
          case measure => simp [intOf]; omega
      · have q5 : (o.k == 5) = false := by simp [h5]
        have HXT := Lib.hid (show wrB (l.take (i + 1)) x = wrB (l.take i) x by rw [HX.out, isW_no h5]; rfl)
        clear h5
        refine wpAnyH_take (i := 0) (oi := { dst := some 14, op := Op.fieldAddr 36 (Operand.tmp 7) 0, type := 0, pos := "trace.go:101", after := #[], guard := none }) (v := .pointer (some ⟨gB, 0, none⟩)) rfl (by kernel_rfl) (by kernel_rfl) (by kernel_rfl) (fun _ _ _ h => h) (Or.inl ⟨by rfl, fun w' hw => by go_simp⟩) hS ?_
        try simp only [Act.put, List.setIfInBounds_toArray, List.set_cons_zero, List.set_cons_succ]
        refine wpAnyH_take (i := 1) (oi := { dst := some 15, op := Op.load 3 (Operand.tmp 14), type := 3, pos := "trace.go:101", after := #[{ on := 0, ground := Ground.data }], guard := none }) (v := .int .i64 o.k) rfl (by kernel_rfl) (by kernel_rfl) (by kernel_rfl) (fun _ _ _ h => h) (Or.inl ⟨by rfl, fun w' hw => by (have q := hw.cell c0 (by simp); go_simp)⟩) hS ?_
        try simp only [Act.put, List.setIfInBounds_toArray, List.set_cons_zero, List.set_cons_succ]
        refine wpAnyH_take (i := 2) (oi := { dst := some 16, op := Op.binOp BinOp.eql 3 (Operand.tmp 15) (Operand.const (Value.int IntKind.i64 5)) 3, type := 4, pos := "trace.go:101", after := #[{ on := 1, ground := Ground.data }], guard := none }) (v := .bool false) rfl (by kernel_rfl) (by kernel_rfl) (by kernel_rfl) (fun _ _ _ h => h) (Or.inl ⟨by rfl, fun w' hw => by go_simp⟩) hS ?_
        try simp only [Act.put, List.setIfInBounds_toArray, List.set_cons_zero, List.set_cons_succ]
        refine wpAnyH_take (i := 3) (oi := { dst := some 17, op := Op.move (Operand.tmp 16), type := 4, pos := "trace.go:101", after := #[{ on := 2, ground := Ground.data }], guard := none }) (v := .bool false) rfl (by kernel_rfl) (by kernel_rfl) (by kernel_rfl) (fun _ _ _ h => h) (Or.inl ⟨by rfl, fun w' hw => by go_simp⟩) hS ?_
        try simp only [Act.put, List.setIfInBounds_toArray, List.set_cons_zero, List.set_cons_succ]
        refine wpAnyH_take (i := 4) (oi := { dst := some 18, op := Op.load 36 (Operand.tmp 7), type := 36, pos := "trace.go:101", after := #[{ on := 3, ground := Ground.guard }], guard := some (3, true) }) (v := undef) rfl (by kernel_rfl) (by kernel_rfl) (by kernel_rfl) (fun _ _ _ h => h) (Or.inr ⟨by rfl, rfl⟩) hS ?_
        try simp only [Act.put, List.setIfInBounds_toArray, List.set_cons_zero, List.set_cons_succ]
        refine wpAnyH_take (i := 5) (oi := { dst := some 19, op := Op.call { callee := Callee.value (Operand.func 42), args := #[Operand.tmp 18], argTypes := #[36] }, type := 30, pos := "trace.go:101", after := #[{ on := 4, ground := Ground.data }, { on := 3, ground := Ground.chain }, { on := 3, ground := Ground.guard }], guard := some (3, true) }) (v := undef) rfl (by kernel_rfl) (by kernel_rfl) (by kernel_rfl) (fun _ _ _ h => h) (Or.inr ⟨by rfl, rfl⟩) hS ?_
        try simp only [Act.put, List.setIfInBounds_toArray, List.set_cons_zero, List.set_cons_succ]
        refine wpAnyH_take (i := 6) (oi := { dst := some 20, op := Op.load 30 (Operand.tmp 3), type := 30, pos := "trace.go:101", after := #[{ on := 3, ground := Ground.guard }], guard := some (3, true) }) (v := undef) rfl (by kernel_rfl) (by kernel_rfl) (by kernel_rfl) (fun _ _ _ h => h) (Or.inr ⟨by rfl, rfl⟩) hS ?_
        try simp only [Act.put, List.setIfInBounds_toArray, List.set_cons_zero, List.set_cons_succ]
        refine wpAnyH_take (i := 7) (oi := { dst := some 21, op := Op.binOp BinOp.eql 30 (Operand.tmp 19) (Operand.tmp 20) 30, type := 4, pos := "trace.go:101", after := #[{ on := 5, ground := Ground.data }, { on := 6, ground := Ground.data }, { on := 3, ground := Ground.guard }], guard := some (3, true) }) (v := undef) rfl (by kernel_rfl) (by kernel_rfl) (by kernel_rfl) (fun _ _ _ h => h) (Or.inr ⟨by rfl, rfl⟩) hS ?_
        try simp only [Act.put, List.setIfInBounds_toArray, List.set_cons_zero, List.set_cons_succ]
        refine wpAnyH_take (i := 8) (oi := { dst := some 22, op := Op.pick (Operand.tmp 17) (Operand.tmp 21) (Operand.const (Value.bool false)), type := 4, pos := "trace.go:101", after := #[{ on := 3, ground := Ground.data }, { on := 7, ground := Ground.data }], guard := none }) (v := .bool false) rfl (by kernel_rfl) (by kernel_rfl) (by kernel_rfl) (fun _ _ _ h => h) (Or.inl ⟨by rfl, fun w' hw => by go_simp⟩) hS ?_
        try simp only [Act.put, List.setIfInBounds_toArray, List.set_cons_zero, List.set_cons_succ]
        refine wpAnyH_done (by kernel_rfl) ?_ _
        try simp only [Act.put, List.setIfInBounds_toArray, List.set_cons_zero, List.set_cons_succ]
        have T9 := Lib.hid hS
        have T9B := Lib.hid (TWB.out.trans hS (by simp))
        clear hS c0
        go_wp2_with fail
        go_roundw
        case rel => exact ⟨i + 1, by simp, by omega, by rw [HXT.out]; exact T9B.out.owns HO.out (by simp), HT.out.trans T9B.out (by simp)⟩
        case measure => simp [intOf]; omega
    · have hb1 : ¬ (i : Int) < (l.length : Int) := by omega
      have HE := Lib.hid (show OwnB w1 wr u5 (wrB l x) by
        have := HO.out
        rwa [List.take_of_length_le (by omega)] at this)
      go_wp2_with ((with_reducible refine at_conv ?_); refine wpList_conv rfl _ _ _ rfl _ (.string (wrB l x)) rfl (run_conv_row HE.out) ?_)
      go_ret
      exact ⟨rfl, T0.out.trans HT.out (by simp)⟩
set_option maxRecDepth 100000 in
set_option maxHeartbeats 4000000 in
theorem rwr_any (v : Value) (b : Nat) (l : List O) (x : Key) (hx : okK x) (w : World) (hr : Rd w 23 b v (rO l)) (hok : ∀ o ∈ l, OkO o) (hl : l.length ≤ 10000000) :
    Calls Try.prog 29 #[v, .agg (encE x).toArray] w fun e w' => e = .returned (.string (wrB l x)) ∧ Touch [] w w' := by
  obtain ⟨a, cap, rfl, hc, hcm⟩ := hr.form
  rw [rO_len] at hc hr ⊢
  clear hcm
  have T0 := Lib.hid ((Touch.refl [] w).alloc (.cells (encE x).toArray 30))
  have HG := Lib.hid (heap_alloc_new w (.cells (encE x).toArray 30))
  obtain ⟨xc, xa⟩ := x
  go_enter Try.func29, Try.ntmps29
  go_wp2_with fail
  go_loopw [5, 6] (fun vs vi wr => ∃ (i : Nat), vi = .int .i64 i ∧ i ≤ l.length ∧ vs = .string (wrB (l.take i) (xc, xa)) ∧ Touch [] (w.alloc (.cells (encE (xc, xa)).toArray 30)) wr) (fun _ vi _ => l.length - (intOf vi).toNat)
  case atStart => exact ⟨0, rfl, by omega, rfl, Touch.refl _ _⟩
  case round =>
    obtain ⟨i, rfl, hil, rfl, ht⟩ := hrel
    have HT := Lib.hid ht
    have HTW := Lib.hid (T0.out.trans ht (by simp))
    have HGR := Lib.hid (ht.at HG.out (by simp))
    clear ht
    by_cases hlt : i < l.length
    · have hb1 : (i : Int) < (l.length : Int) := by omega
      have hx2 := List.getElem?_eq_getElem hlt
      have OKI := Lib.hid (hok _ (List.getElem_mem hlt))
      generalize l[i] = o at hx2 OKI
      obtain ⟨off, rfl, rI⟩ := (hr.touch HTW.out (by simp)).atO hx2
      have HX := Lib.hid hx2
      have hwi : IntKind.i64.wrap ((i : Int) + 1) = (i : Int) + 1 := by rw [IntKind.wrap_i64] <;> omega
      obtain ⟨c0, c1, c2, c3, _, _, _⟩ := O.cells OKI.out rI
      have HCS := Lib.hid c3
      have x0 : wr.cell? ⟨w.heap.size, 0, none⟩ = some (.int .i64 xc) := by simp [World.cell?, HGR.out, encE]
      have x1 : wr.cell? ⟨w.heap.size, 1, none⟩ = some (.int .i64 xa) := by simp [World.cell?, HGR.out, encE]
      have HNX := Lib.hid (wrB_next (xc, xa) HX.out)
      have hsz : (wrB (l.take i) (xc, xa)).size ≤ 10000000 * 1048576 := by
        have h1 := wrB_size (l.take i) (xc, xa) (fun o ho => hok o (List.mem_of_mem_take ho))
        have h2 : (l.take i).length ≤ 10000000 := by simp; omega
        exact Nat.le_trans h1 (Nat.mul_le_mul h2 (Nat.le_refl _))
      have hdz := OKI.out.d
      generalize wrB (l.take i) (xc, xa) = s at *
      clear hx2 rI c3
      by_cases h6 : o.k = 5
      · have q6 : (o.k == 5) = true := by simp [h6]
        by_cases hcc : o.c = xc
        · have qc : (o.c == xc) = true := by simp [hcc]
          by_cases haa : o.a = xa
          · have qa : (o.a == xa) = true := by simp [haa]
            have HH := Lib.hid (show wrB (l.take (i + 1)) (xc, xa) = s ++ o.d by rw [HNX.out, if_pos (by simp [isW, h6, hcc, haa])])
            have hadd : ¬ ((s.size + o.d.size : Nat) : Int) > 9223372036854775807 := by omega
            have hop : ∀ w : World, (Op.stringOp .add s o.d).run Try.prog w = .ok (.string (s ++ o.d)) w := by
              intro w
              have : ¬ ((s.size + o.d.size : Nat) : Int) > IntKind.i64.max := hadd
              simp only [Op.stringOp, this, if_false]
              rfl
            clear h6 hcc haa
            go_wp2_with fail
            go_quiet (fail)
            have d3 := ((Touch.refl [] wr).drews nq).cell HCS.out (by simp)
            go_wp2_with fail
            go_roundw
            case rel => exact ⟨i + 1, by simp, by omega, by rw [HH.out], HT.out.drews _⟩
            case measure => simp [intOf]; omega
          · have qa : (o.a == xa) = false := by simp [haa]
            have HH := Lib.hid (show wrB (l.take (i + 1)) (xc, xa) = s by rw [HNX.out]; simp [isW, haa])
            clear h6 hcc haa
            go_wp2_with fail
            go_quiet (fail)
            go_wp2_with fail
            go_roundw
            case rel => exact ⟨i + 1, by simp, by omega, by rw [HH.out], HT.out.drews _⟩
            case measure => simp [intOf]; omega
        · have qc : (o.c == xc) = false := by simp [hcc]
          have HH := Lib.hid (show wrB (l.take (i + 1)) (xc, xa) = s by rw [HNX.out]; simp [isW, hcc])
          clear h6 hcc
          go_wp2_with fail
          go_quiet (fail)
          go_wp2_with fail
          go_roundw
          case rel => exact ⟨i + 1, by simp, by omega, by rw [HH.out], HT.out.drews _⟩
          case measure => simp [intOf]; omega
      · have q6 : (o.k == 5) = false := by simp [h6]
        have HH := Lib.hid (show wrB (l.take (i + 1)) (xc, xa) = s by rw [HNX.out]; simp [isW, h6])
        clear h6
        go_wp2_with fail
        go_quiet (fail)
        go_wp2_with fail
        go_roundw
        case rel => exact ⟨i + 1, by simp, by omega, by rw [HH.out], HT.out.drews _⟩
        case measure => simp [intOf]; omega
    · have hb1 : ¬ (i : Int) < (l.length : Int) := by omega
      have HE := Lib.hid (show wrB (l.take i) (xc, xa) = wrB l (xc, xa) by rw [List.take_of_length_le (by omega)])
      go_wp2_with fail
      go_ret
      exact ⟨by rw [← HE.out]; rfl, HTW.out⟩
end Go.Proofs.Ytmdnkhpkpmbeoaa

/-
  agrees: the program and the reference say the same of a trace.
-/
namespace Go.Proofs.Ytmdnkhpkpmbeoaa
open Go.RowKit Go.Sort Go.Shelf
set_option linter.unusedVariables false
set_option linter.unusedSimpArgs false

theorem OwnK.toR {w0 w : World} {v : Value} {ks : List Key} (h : OwnK w0 w v ks) : OwnR 30 2 w0 w v (rE ks) := ⟨by rw [rE_len]; exact h.row, h.new⟩
theorem rE_lens (ks : List Key) : ∀ x ∈ rE ks, x.length = 2 := encE_lens ks
theorem rO_lens {l : List O} (h : ∀ o ∈ l, OkO o) : ∀ x ∈ rO l, x.length = 23 := encO_lens h
theorem rT_lens {l : List Tg} (h : ∀ o ∈ l, OkT o) : ∀ x ∈ rT l, x.length = 19 := encT_lens h
set_option maxRecDepth 100000 in
set_option maxHeartbeats 4000000 in
theorem agrees_any (v : Value) (b : Nat) (l : List O) (c : Int) (hc : wf c) (w : World) (hr : Rd w 23 b v (rO l)) (hok : ∀ o ∈ l, OkO o) (hl : l.length ≤ 1000) :
    Calls Try.prog 6 #[v, .int .i64 c] w fun e w' => e = .returned (.bool true) ∧ Touch [] w w' := by
  have H0 := Lib.hid hr
  have OK := Lib.hid hok
  have HC := Lib.hid hc
  clear hr hok hc
  go_enter Try.func6, Try.ntmps6
  go_wp2_with fail
  refine (valid_any v b l _ H0.out OK.out (by omega)).mono ?_
  rintro e w1 ⟨rfl, t1⟩
  have T1 := Lib.hid t1
  clear t1
  go_wp2_with fail
  refine (rvalid_any v b l _ (H0.out.touch T1.out (by simp)) OK.out (by omega)).mono ?_
  rintro e w2 ⟨rfl, t2⟩
  have T2 := Lib.hid (T1.out.trans t2 (by simp))
  clear t2 T1
  go_wp2_with fail
  refine (live_any v b l _ (H0.out.touch T2.out (by simp)) OK.out (by omega)).mono ?_
  rintro e w3 ⟨v3, rfl, o3, t3⟩
  have T3 := Lib.hid (T2.out.trans t3 (by simp))
  have R3 := Lib.hid (o3.toR.rd (rE_lens _))
  clear t3 T2 o3
  go_wp2_with fail
  refine (rlive_any v b l _ (H0.out.touch T3.out (by simp)) OK.out (by omega)).mono ?_
  rintro e w4 ⟨v4, rfl, ⟨⟨b4, r4⟩, ok4, hn4⟩, t4⟩
  have T4 := Lib.hid (T3.out.trans t4 (by simp))
  have R3 := Lib.hid (R3.out.touch t4 (by simp))
  have R4 := Lib.hid r4
  have OK4 := Lib.hid ok4
  have HN4 := Lib.hid (show (rE (liveR l)).length ≤ 10000000 by rw [rE_len]; omega)
  clear t4 T3 r4 ok4 hn4
  go_wp2_with fail
  refine (equalE v3 v4 _ _ _ _ HN4.out R3.out R4.out (eqsE OK4.out)).mono ?_
  rintro e w5 ⟨rfl, t5⟩
  have T5 := Lib.hid (T4.out.trans t5 (by simp))
  clear t5 T4 R3 R4 OK4 HN4
  go_wp2_with fail
  refine (ofc_any v b l c _ (H0.out.touch T5.out (by simp)) OK.out (by omega)).mono ?_
  rintro e w6 ⟨v6, rfl, o6, t6⟩
  have T6 := Lib.hid (T5.out.trans t6 (by simp))
  have R6 := Lib.hid (o6.rd (rO_lens (ofC_ok OK.out c)))
  clear t6 T5 o6
  go_wp2_with fail
  refine (rofc_any v b l c _ (H0.out.touch T6.out (by simp)) OK.out (by omega)).mono ?_
  rintro e w7 ⟨v7, rfl, o7, t7⟩
  have T7 := Lib.hid (T6.out.trans t7 (by simp))
  have R6 := Lib.hid (R6.out.touch t7 (by simp))
  have R7 := Lib.hid (o7.rd (rO_lens (ofC_ok OK.out c)))
  have HN7 := Lib.hid (show (rO (ofC l c)).length ≤ 10000000 by rw [rO_len]; have := List.length_filter_le (fun o : O => decide (o.c = c)) l; unfold ofC; omega)
  clear t7 T6 o7
  go_wp2_with fail
  refine (equalO v6 v7 _ _ _ _ HN7.out R6.out R7.out (eqsO (ofC_ok OK.out c))).mono ?_
  rintro e w8 ⟨rfl, t8⟩
  have T8 := Lib.hid (T7.out.trans t8 (by simp))
  clear t8 T7 R6 R7 HN7
  go_wp2_with fail
  refine (ct_any v b l c _ (H0.out.touch T8.out (by simp)) OK.out (by omega)).mono ?_
  rintro e w9 ⟨v9, rfl, o9, t9⟩
  have T9 := Lib.hid (T8.out.trans t9 (by simp))
  have R9 := Lib.hid (o9.rd (rT_lens (ctT_ok OK.out c)))
  clear t9 T8 o9
  go_wp2_with fail
  refine (rct_any v b l c _ (H0.out.touch T9.out (by simp)) OK.out (by omega)).mono ?_
  rintro e wa ⟨va, rfl, oa, ta⟩
  have TA := Lib.hid (T9.out.trans ta (by simp))
  have R9 := Lib.hid (R9.out.touch ta (by simp))
  have RA := Lib.hid (oa.rd (rT_lens (ctT_ok OK.out c)))
  have HNA := Lib.hid (show (rT (ctT l c)).length ≤ 10000000 by rw [rT_len]; have := ctT_len l c; omega)
  clear ta T9 oa
  go_wp2_with fail
  refine (equalT v9 va _ _ _ _ HNA.out R9.out RA.out (eqsT (ctT_ok OK.out c))).mono ?_
  rintro e wb ⟨rfl, tb⟩
  have TB := Lib.hid (TA.out.trans tb (by simp))
  clear tb TA R9 RA HNA
  go_wp2_with fail
  go_loopw [5] (fun vi wr => ∃ (i : Nat), vi = .int .i64 i ∧ i ≤ 3 ∧ Touch [] w wr) (fun vi _ => 3 - (intOf vi).toNat)
  case atStart => exact ⟨0, rfl, by omega, TB.out⟩
  case round =>
    obtain ⟨i, rfl, hil, ht⟩ := hrel
    have HT := Lib.hid ht
    clear ht TB
    by_cases hlt : i < 3
    · have hb1 : (i : Int) < 3 := by omega
      have hwi : IntKind.i64.wrap ((i : Int) + 1) = (i : Int) + 1 := by rw [IntKind.wrap_i64] <;> omega
      have HKX := Lib.hid (show okK (c, (i : Int)) from ⟨HC.out, by unfold wf Lit.wf; simp [IntKind.min, IntKind.max, IntKind.signed, IntKind.bits]; omega⟩)
      have TX := Lib.hid (HT.out.alloc (.cells (encE (c, (i : Int))).toArray 30))
      have RX := Lib.hid (range_block (heap_alloc_new wr (.cells (encE (c, (i : Int))).toArray 30)))
      go_wp2_with ((with_reducible refine at_store 30 ?_); refine wpList_store_new rfl 30 _ _ rfl _ _ (encE (c, (i : Int))) (by rfl) (by rfl) (by rw [encE_len]; rfl) (by rw [infoE, encE_len]) (encE_one _) ?_)
      obtain ⟨gX, hgX⟩ : ∃ gX, gX = wr.heap.size := ⟨_, rfl⟩
      have RX := Lib.hid (((Touch.refl [] _).drew).range RX.out (by simp))
      have HRD := Lib.hid (H0.out.touch TX.out.drew (by simp))
      have TX := Lib.hid TX.out.drew
      rw [← hgX] at RX ⊢
      clear hgX
      refine wp_region_held (S := Touch [] (wr.alloc (.cells (encE (c, (i : Int))).toArray 30)).drew) (by kernel_rfl) ?_
      change wpAnyH _ _ _ _ _ _ _ _ (wr.alloc (.cells (encE (c, (i : Int))).toArray 30)).drew
      generalize (wr.alloc (.cells (encE (c, (i : Int))).toArray 30)).drew = W at *
      have hS := Touch.refl [] W
      refine wpAnyH_take (i := 0) (oi := { dst := some 47, op := Op.move (Operand.tmp 0), type := 22, pos := "law.go:47", after := #[], guard := none }) (v := v) rfl (by kernel_rfl) (by kernel_rfl) (by kernel_rfl) (fun _ _ _ h => h) (Or.inl ⟨by rfl, fun w' hw => by go_simp⟩) hS ?_
      try simp only [Act.put, List.setIfInBounds_toArray, List.set_cons_zero, List.set_cons_succ]
      refine wpAnyH_take (i := 1) (oi := { dst := some 48, op := Op.load 30 (Operand.tmp 6), type := 30, pos := "law.go:47", after := #[], guard := none }) (v := .agg (encE (c, (i : Int))).toArray) rfl (by kernel_rfl) (by kernel_rfl) (by kernel_rfl) (fun _ _ _ h => h) (Or.inl ⟨by rfl, fun w' hw => exec_load_agg _ 30 _ rfl _ _ rfl (encE (c, (i : Int))) _ (hw.range RX.out (by simp)) Try.underlying30 rfl (by rw [infoE]; rfl)⟩) hS ?_
      try simp only [Act.put, List.setIfInBounds_toArray, List.set_cons_zero, List.set_cons_succ]
      refine wpAnyH_take (i := 3) (oi := { dst := some 50, op := Op.move (Operand.tmp 0), type := 22, pos := "law.go:47", after := #[], guard := none }) (v := v) rfl (by kernel_rfl) (by kernel_rfl) (by kernel_rfl) (fun _ _ _ h => h) (Or.inl ⟨by rfl, fun w' hw => by go_simp⟩) hS ?_
      try simp only [Act.put, List.setIfInBounds_toArray, List.set_cons_zero, List.set_cons_succ]
      refine wpAnyH_take (i := 4) (oi := { dst := some 51, op := Op.load 30 (Operand.tmp 6), type := 30, pos := "law.go:47", after := #[], guard := none }) (v := .agg (encE (c, (i : Int))).toArray) rfl (by kernel_rfl) (by kernel_rfl) (by kernel_rfl) (fun _ _ _ h => h) (Or.inl ⟨by rfl, fun w' hw => exec_load_agg _ 30 _ rfl _ _ rfl (encE (c, (i : Int))) _ (hw.range RX.out (by simp)) Try.underlying30 rfl (by rw [infoE]; rfl)⟩) hS ?_
      try simp only [Act.put, List.setIfInBounds_toArray, List.set_cons_zero, List.set_cons_succ]
      refine wpAnyH_ready (rs := [2]) (by kernel_rfl) (by simp) ?_
      refine AllReadyH.cons (o := { dst := some 49, op := Op.call { callee := Callee.value (Operand.func 14), args := #[Operand.tmp 47, Operand.tmp 48], argTypes := #[22, 30] }, type := 9, pos := "law.go:47", after := #[{ on := 0, ground := Ground.data }, { on := 1, ground := Ground.data }], guard := none }) rfl (fun K hK => ?_) AllReadyH.nil
      go_simp
      refine (wr_any v b l (c, (i : Int)) HKX.out _ (HRD.out.touch hS (by simp)) OK.out (by omega)).mono ?_
      rintro e z ⟨rfl, tt⟩
      have hS2 := hS.trans tt (by simp)
      refine hK.out _ _ hS2 (fun _ => ?_)
      clear hK K hS
      have hS := hS2
      clear hS2 tt
      try simp only [Act.put, List.setIfInBounds_toArray, List.set_cons_zero, List.set_cons_succ]
      refine wpAnyH_ready (rs := [5]) (by kernel_rfl) (by simp) ?_
      refine AllReadyH.cons (o := { dst := some 52, op := Op.call { callee := Callee.value (Operand.func 29), args := #[Operand.tmp 50, Operand.tmp 51], argTypes := #[22, 30] }, type := 9, pos := "law.go:47", after := #[{ on := 3, ground := Ground.data }, { on := 4, ground := Ground.data }, { on := 2, ground := Ground.chain }], guard := none }) rfl (fun K hK => ?_) AllReadyH.nil
      go_simp
      refine (rwr_any v b l (c, (i : Int)) HKX.out _ (HRD.out.touch hS (by simp)) OK.out (by omega)).mono ?_
      rintro e z ⟨rfl, tt⟩
      have hS2 := hS.trans tt (by simp)
      refine hK.out _ _ hS2 (fun _ => ?_)
      clear hK K hS
      have hS := hS2
      clear hS2 tt
      try simp only [Act.put, List.setIfInBounds_toArray, List.set_cons_zero, List.set_cons_succ]
      refine wpAnyH_take (i := 6) (oi := { dst := some 53, op := Op.binOp BinOp.neq 9 (Operand.tmp 49) (Operand.tmp 52) 9, type := 4, pos := "law.go:47", after := #[{ on := 2, ground := Ground.data }, { on := 5, ground := Ground.data }], guard := none }) (v := .bool false) rfl (by kernel_rfl) (by kernel_rfl) (by kernel_rfl) (fun _ _ _ h => h) (Or.inl ⟨by rfl, fun w' hw => by go_simp⟩) hS ?_
      try simp only [Act.put, List.setIfInBounds_toArray, List.set_cons_zero, List.set_cons_succ]
      refine wpAnyH_take (i := 7) (oi := { dst := some 54, op := Op.move (Operand.tmp 53), type := 4, pos := "law.go:47", after := #[{ on := 6, ground := Ground.data }, { on := 5, ground := Ground.chain }], guard := none }) (v := .bool false) rfl (by kernel_rfl) (by kernel_rfl) (by kernel_rfl) (fun _ _ _ h => h) (Or.inl ⟨by rfl, fun w' hw => by go_simp⟩) hS ?_
      try simp only [Act.put, List.setIfInBounds_toArray, List.set_cons_zero, List.set_cons_succ]
      refine wpAnyH_take (i := 8) (oi := { dst := some 55, op := Op.move (Operand.tmp 0), type := 22, pos := "law.go:47", after := #[{ on := 7, ground := Ground.guard }], guard := some (7, false) }) (v := v) rfl (by kernel_rfl) (by kernel_rfl) (by kernel_rfl) (fun _ _ _ h => h) (Or.inl ⟨by rfl, fun w' hw => by go_simp⟩) hS ?_
      try simp only [Act.put, List.setIfInBounds_toArray, List.set_cons_zero, List.set_cons_succ]
      refine wpAnyH_take (i := 9) (oi := { dst := some 56, op := Op.load 30 (Operand.tmp 6), type := 30, pos := "law.go:47", after := #[{ on := 7, ground := Ground.guard }], guard := some (7, false) }) (v := .agg (encE (c, (i : Int))).toArray) rfl (by kernel_rfl) (by kernel_rfl) (by kernel_rfl) (fun _ _ _ h => h) (Or.inl ⟨by rfl, fun w' hw => exec_load_agg _ 30 _ rfl _ _ rfl (encE (c, (i : Int))) _ (hw.range RX.out (by simp)) Try.underlying30 rfl (by rw [infoE]; rfl)⟩) hS ?_
      try simp only [Act.put, List.setIfInBounds_toArray, List.set_cons_zero, List.set_cons_succ]
      refine wpAnyH_take (i := 11) (oi := { dst := some 58, op := Op.move (Operand.tmp 0), type := 22, pos := "law.go:47", after := #[{ on := 7, ground := Ground.guard }], guard := some (7, false) }) (v := v) rfl (by kernel_rfl) (by kernel_rfl) (by kernel_rfl) (fun _ _ _ h => h) (Or.inl ⟨by rfl, fun w' hw => by go_simp⟩) hS ?_
      try simp only [Act.put, List.setIfInBounds_toArray, List.set_cons_zero, List.set_cons_succ]
      refine wpAnyH_take (i := 12) (oi := { dst := some 59, op := Op.load 30 (Operand.tmp 6), type := 30, pos := "law.go:47", after := #[{ on := 7, ground := Ground.guard }], guard := some (7, false) }) (v := .agg (encE (c, (i : Int))).toArray) rfl (by kernel_rfl) (by kernel_rfl) (by kernel_rfl) (fun _ _ _ h => h) (Or.inl ⟨by rfl, fun w' hw => exec_load_agg _ 30 _ rfl _ _ rfl (encE (c, (i : Int))) _ (hw.range RX.out (by simp)) Try.underlying30 rfl (by rw [infoE]; rfl)⟩) hS ?_
      try simp only [Act.put, List.setIfInBounds_toArray, List.set_cons_zero, List.set_cons_succ]
      refine wpAnyH_ready (rs := [10]) (by kernel_rfl) (by simp) ?_
      refine AllReadyH.cons (o := { dst := some 57, op := Op.call { callee := Callee.value (Operand.func 30), args := #[Operand.tmp 55, Operand.tmp 56], argTypes := #[22, 30] }, type := 4, pos := "law.go:47", after := #[{ on := 8, ground := Ground.data }, { on := 9, ground := Ground.data }, { on := 7, ground := Ground.chain }, { on := 7, ground := Ground.guard }], guard := some (7, false) }) rfl (fun K hK => ?_) AllReadyH.nil
      go_simp
      refine (hs_any v b l (c, (i : Int)) HKX.out _ (HRD.out.touch hS (by simp)) OK.out (by omega)).mono ?_
      rintro e z ⟨rfl, tt⟩
      have hS2 := hS.trans tt (by simp)
      refine hK.out _ _ hS2 (fun _ => ?_)
      clear hK K hS
      have hS := hS2
      clear hS2 tt
      try simp only [Act.put, List.setIfInBounds_toArray, List.set_cons_zero, List.set_cons_succ]
      refine wpAnyH_ready (rs := [13]) (by kernel_rfl) (by simp) ?_
      refine AllReadyH.cons (o := { dst := some 60, op := Op.call { callee := Callee.value (Operand.func 31), args := #[Operand.tmp 58, Operand.tmp 59], argTypes := #[22, 30] }, type := 4, pos := "law.go:47", after := #[{ on := 11, ground := Ground.data }, { on := 12, ground := Ground.data }, { on := 10, ground := Ground.chain }, { on := 7, ground := Ground.guard }], guard := some (7, false) }) rfl (fun K hK => ?_) AllReadyH.nil
      go_simp
      refine (rhs_any v b l (c, (i : Int)) HKX.out _ (HRD.out.touch hS (by simp)) OK.out (by omega)).mono ?_
      rintro e z ⟨rfl, tt⟩
      have hS2 := hS.trans tt (by simp)
      refine hK.out _ _ hS2 (fun _ => ?_)
      clear hK K hS
      have hS := hS2
      clear hS2 tt
      try simp only [Act.put, List.setIfInBounds_toArray, List.set_cons_zero, List.set_cons_succ]
      refine wpAnyH_take (i := 14) (oi := { dst := some 61, op := Op.binOp BinOp.neq 4 (Operand.tmp 57) (Operand.tmp 60) 4, type := 4, pos := "law.go:47", after := #[{ on := 10, ground := Ground.data }, { on := 13, ground := Ground.data }, { on := 7, ground := Ground.guard }], guard := some (7, false) }) (v := .bool false) rfl (by kernel_rfl) (by kernel_rfl) (by kernel_rfl) (fun _ _ _ h => h) (Or.inl ⟨by rfl, fun w' hw => by go_simp⟩) hS ?_
      try simp only [Act.put, List.setIfInBounds_toArray, List.set_cons_zero, List.set_cons_succ]
      refine wpAnyH_take (i := 15) (oi := { dst := some 62, op := Op.pick (Operand.tmp 54) (Operand.const (Value.bool true)) (Operand.tmp 61), type := 4, pos := "law.go:47", after := #[{ on := 7, ground := Ground.data }, { on := 14, ground := Ground.data }], guard := none }) (v := .bool false) rfl (by kernel_rfl) (by kernel_rfl) (by kernel_rfl) (fun _ _ _ h => h) (Or.inl ⟨by rfl, fun w' hw => by go_simp⟩) hS ?_
      try simp only [Act.put, List.setIfInBounds_toArray, List.set_cons_zero, List.set_cons_succ]
      refine wpAnyH_done (by kernel_rfl) ?_ _
      try simp only [Act.put, List.setIfInBounds_toArray, List.set_cons_zero, List.set_cons_succ]
      have TZ := Lib.hid (TX.out.trans hS (by simp))
      clear hS
      go_wp2_with fail
      go_roundw
      case rel => exact ⟨i + 1, by simp, by omega, TZ.out⟩
      case measure => simp [intOf]; omega
    · have hb1 : ¬ (i : Int) < 3 := by omega
      go_wp2_with fail
      go_ret
      exact ⟨rfl, HT.out⟩
end Go.Proofs.Ytmdnkhpkpmbeoaa

/-
  Concat, the program's and the reference's.
-/
namespace Go.Proofs.Ytmdnkhpkpmbeoaa
open Go.RowKit
set_option linter.unusedVariables false
set_option linter.unusedSimpArgs false

structure RsV where
  e : Int
  n : Int
  s : Value
  l : List O
def encS (r : RsV) : List Value := [.int .i64 r.e, .int .i64 r.n, r.s]
def rS (rs : List RsV) : List (List Value) := rs.map encS
theorem rS_len (rs : List RsV) : (rS rs).length = rs.length := by simp [rS]
theorem rS_lens (rs : List RsV) : ∀ x ∈ rS rs, x.length = 3 := by
  intro x hx
  simp only [rS, List.mem_map] at hx
  obtain ⟨r, _, rfl⟩ := hx
  rfl
def catS (rs : List RsV) : List O := (rs.map (·.l)).flatten
def RsOK (w : World) (rs : List RsV) : Prop := ∀ r ∈ rs, (∃ b, Rd w 23 b r.s (rO r.l)) ∧ (∀ o ∈ r.l, OkO o) ∧ r.s.oneCell' = true
theorem RsOK.touch {w w' : World} {rs : List RsV} (h : RsOK w rs) (t : Touch [] w w') : RsOK w' rs := fun r hr => by
  obtain ⟨⟨b, h1⟩, h2⟩ := h r hr
  exact ⟨⟨b, h1.touch t (by simp)⟩, h2⟩
theorem encS_one (r : RsV) (h : r.s.oneCell' = true) : ∀ u ∈ encS r, u.oneCell' = true := by
  intro u hu
  simp only [encS, List.mem_cons, List.not_mem_nil, or_false] at hu
  rcases hu with rfl | rfl | rfl
  · rfl
  · rfl
  · exact h
theorem infoS : (Try.prog.info? 52).map (·.size) = some 3 := by kernel_rfl
theorem Rd.atS {w : World} {b n cap : Nat} {a : Option Addr} {l : List RsV} (h : Rd w 3 b (.slice a n cap) (rS l)) {i : Nat} {o : RsV} (hi : l[i]? = some o) :
    ∃ off, a = some ⟨b, off, none⟩ ∧ w.rangeAt b (off + i * 3) (encS o) := by
  obtain ⟨off, ha, hat⟩ := h.at (by intro e; rw [rS, List.map_eq_nil_iff] at e; subst e; simp at hi)
  exact ⟨off, ha, hat i (encS o) (by simp [rS, hi])⟩
theorem catS_next {rs : List RsV} {i : Nat} {r : RsV} (h : rs[i]? = some r) : catS (rs.take (i + 1)) = catS (rs.take i) ++ r.l := by
  rw [take_next h]
  simp [catS]
theorem catS_split (rs : List RsV) (i : Nat) : catS rs = catS (rs.take i) ++ catS (rs.drop i) := by
  unfold catS
  rw [← List.flatten_append, ← List.map_append, List.take_append_drop]
theorem catS_few {rs : List RsV} {i : Nat} {r : RsV} (h : rs[i]? = some r) : (catS (rs.take i)).length + r.l.length ≤ (catS rs).length := by
  rw [catS_split rs (i + 1), catS_next h]
  simp
set_option maxRecDepth 100000 in
set_option maxHeartbeats 4000000 in
theorem cat_any (v : Value) (b : Nat) (rs : List RsV) (w : World) (hr : Rd w 3 b v (rS rs)) (hrs : RsOK w rs) (hn : rs.length ≤ 10000000) (hl : (catS rs).length ≤ 100000000) :
    Calls Try.prog 22 #[v] w fun e w' => ∃ v', e = .returned v' ∧ OwnR 36 23 w w' v' (rO (catS rs)) ∧ Touch [] w w' := by
  obtain ⟨a, cap, rfl, hc, hcm⟩ := hr.form
  rw [rS_len] at hc hr ⊢
  clear hcm
  have HRS := Lib.hid hrs
  clear hrs
  go_enter Try.func22, Try.ntmps22
  go_wp2_with fail
  go_loopw [3, 8] (fun vo vi wr => ∃ (i : Nat), vi = .int .i64 i ∧ i ≤ rs.length ∧ OwnR 36 23 w wr vo (rO (catS (rs.take i))) ∧ Touch [] w wr) (fun _ vi _ => rs.length - (intOf vi).toNat)
  case atStart => exact ⟨0, rfl, by omega, by simpa [catS, rO] using OwnR.nil 36 23 w w, Touch.refl _ _⟩
  case round =>
    obtain ⟨i, rfl, hil, ho, ht⟩ := hrel
    have HO := Lib.hid ho
    have HT := Lib.hid ht
    clear ho ht
    by_cases hlt : i < rs.length
    · have hb1 : (i : Int) < (rs.length : Int) := by omega
      have hx := List.getElem?_eq_getElem hlt
      obtain ⟨⟨bs, rb⟩, oki, hv⟩ := HRS.out _ (List.getElem_mem hlt)
      have OKI := Lib.hid oki
      have RS := Lib.hid rb
      have HV := Lib.hid hv
      clear oki rb hv
      generalize rs[i] = r at hx OKI RS HV
      obtain ⟨off, rfl, rI⟩ := (hr.touch HT.out (by simp)).atS hx
      have HX := Lib.hid (catS_next hx)
      have hwi : IntKind.i64.wrap ((i : Int) + 1) = (i : Int) + 1 := by rw [IntKind.wrap_i64] <;> omega
      have HF := Lib.hid (show (rO (catS (rs.take i))).length + (rO r.l).length ≤ 100000000 by have := catS_few hx; simp only [rO_len]; omega)
      have TB := Lib.hid ((Touch.refl [] wr).alloc (.cells (encS r).toArray 52))
      have RBX := Lib.hid (heap_alloc_new wr (.cells (encS r).toArray 52))
      have c2 : World.cell? (wr.alloc (.cells (encS r).toArray 52)) ⟨wr.heap.size, 2, none⟩ = some r.s := range_block RBX.out 2 _ rfl
      clear hx
      go_wp2_with (first
          | ((with_reducible refine at_load 52 ?_); refine wpList_load_mid rfl 52 _ rfl b (off + i * 3) rfl (encS r) _ rI Try.underlying52 rfl (by rw [infoS, (show (encS r).length = 3 from rfl)]) ?_)
          | ((with_reducible refine at_store 52 ?_); refine wpList_store_new rfl 52 _ _ rfl _ _ (encS r) (by rfl) (by rfl) (by rw [(show (encS r).length = 3 from rfl)]; rfl) (by rw [infoS, (show (encS r).length = 3 from rfl)]) (encS_one r HV.out) ?_)
          | (at_builtin; refine wpList_appR rtO (wr.alloc (.cells (encS r).toArray 52)) rfl _ _ (by rfl) _ _ rfl (HO.out.touch0 TB.out) (HT.out.trans TB.out (by simp)).size _ r.s (rO r.l) rfl (RS.out.touch (HT.out.trans TB.out (by simp)) (by simp)) (rO_lens OKI.out) (encO_ones OKI.out) HF.out ?_))
      intro v3 w3 o3 t3
      have HO3 := Lib.hid o3
      have HT3 := Lib.hid ((HT.out.trans TB.out (by simp)).trans t3 (by intro y hy; right; exact HO.out.new y (by simpa using hy)))
      clear o3 t3
      go_wp2_with fail
      go_roundw
      case rel => exact ⟨i + 1, by simp, by omega, by rw [HX.out]; simpa [rO] using HO3.out, HT3.out⟩
      case measure => simp [intOf]; omega
    · have hb1 : ¬ (i : Int) < (rs.length : Int) := by omega
      have HE := Lib.hid (show OwnR 36 23 w wr u3 (rO (catS rs)) by
        have := HO.out
        rw [List.take_of_length_le (by omega)] at this
        exact this)
      go_wp2_with fail
      go_ret
      exact ⟨u3, rfl, HE.out, HT.out⟩
set_option maxRecDepth 100000 in
set_option maxHeartbeats 4000000 in
theorem rcat_any (v : Value) (b : Nat) (rs : List RsV) (w : World) (hr : Rd w 3 b v (rS rs)) (hrs : RsOK w rs) (hn : rs.length ≤ 10000000) (hl : (catS rs).length ≤ 100000000) :
    Calls Try.prog 24 #[v] w fun e w' => ∃ v', e = .returned v' ∧ OwnR 36 23 w w' v' (rO (catS rs)) ∧ Touch [] w w' := by
  obtain ⟨a, cap, rfl, hc, hcm⟩ := hr.form
  rw [rS_len] at hc hr ⊢
  clear hcm
  have HRS := Lib.hid hrs
  clear hrs
  go_enter Try.func24, Try.ntmps24
  go_wp2_with fail
  go_loopw [3, 4] (fun vo vi wr => ∃ (i : Nat), vi = .int .i64 i ∧ i ≤ rs.length ∧ OwnR 36 23 w wr vo (rO (catS (rs.take i))) ∧ Touch [] w wr) (fun _ vi _ => rs.length - (intOf vi).toNat)
  case atStart => exact ⟨0, rfl, by omega, by simpa [catS, rO] using OwnR.nil 36 23 w w, Touch.refl _ _⟩
  case round =>
    obtain ⟨i, rfl, hil, ho, ht⟩ := hrel
    have HO := Lib.hid ho
    have HT := Lib.hid ht
    clear ho ht
    by_cases hlt : i < rs.length
    · have hb1 : (i : Int) < (rs.length : Int) := by omega
      have hx := List.getElem?_eq_getElem hlt
      obtain ⟨⟨bs, rb⟩, oki, hv⟩ := HRS.out _ (List.getElem_mem hlt)
      have OKI := Lib.hid oki
      have RS := Lib.hid rb
      have HV := Lib.hid hv
      clear oki rb hv
      generalize rs[i] = r at hx OKI RS HV
      obtain ⟨off, rfl, rI⟩ := (hr.touch HT.out (by simp)).atS hx
      have HX := Lib.hid (catS_next hx)
      have hwi : IntKind.i64.wrap ((i : Int) + 1) = (i : Int) + 1 := by rw [IntKind.wrap_i64] <;> omega
      have HF := Lib.hid (show (rO (catS (rs.take i))).length + (rO r.l).length ≤ 100000000 by have := catS_few hx; simp only [rO_len]; omega)
      have c2 : wr.cell? ⟨b, off + i * 3 + 2, none⟩ = some r.s := rI 2 _ rfl
      clear hx
      go_wp2_with (first
          | (at_builtin; refine wpList_appR rtO wr rfl _ _ (by rfl) _ _ rfl HO.out HT.out.size _ r.s (rO r.l) rfl (RS.out.touch HT.out (by simp)) (rO_lens OKI.out) (encO_ones OKI.out) HF.out ?_))
      intro v3 w3 o3 t3
      have HO3 := Lib.hid o3
      have HT3 := Lib.hid (HT.out.trans t3 (by intro y hy; right; exact HO.out.new y (by simpa using hy)))
      clear o3 t3
      go_wp2_with fail
      go_roundw
      case rel => exact ⟨i + 1, by simp, by omega, by rw [HX.out]; simpa [rO] using HO3.out, HT3.out⟩
      case measure => simp [intOf]; omega
    · have hb1 : ¬ (i : Int) < (rs.length : Int) := by omega
      have HE := Lib.hid (show OwnR 36 23 w wr u3 (rO (catS rs)) by
        have := HO.out
        rw [List.take_of_length_le (by omega)] at this
        exact this)
      go_wp2_with fail
      go_ret
      exact ⟨u3, rfl, HE.out, HT.out⟩
end Go.Proofs.Ytmdnkhpkpmbeoaa

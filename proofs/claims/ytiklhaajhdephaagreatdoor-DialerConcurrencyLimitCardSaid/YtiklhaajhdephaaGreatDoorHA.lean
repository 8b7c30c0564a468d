/-
  Merged texts: Dt, Dp, Da, Dv.
-/
import Derived.Test.YtiklhaajhdephaaGreatDoorGN
import Derived.WalkKit
import Derived.Outline
import Derived.Test.YtiklhaajhdephaaGreatDoorGM
import Derived.IntWalk

/-
 Ticks and reasons: the contracts of tick.Add, reason.Is and reason.Primary.
-/
namespace Go.Proofs.YtiklhaajhdephaaGreatDoor
open Go.RowKit
set_option linter.unusedVariables false
set_option linter.unusedSimpArgs false

/-- The largest tick. -/
def maxT : Int := 18446744073709551615
def addT (a b : Int) : Int := if maxT - b < a then maxT else a + b
theorem addT_lo {a b : Int} (ha : 0 ≤ a) (hb : 0 ≤ b) : 0 ≤ addT a b := by unfold addT maxT; split <;> omega
theorem addT_hi {a b : Int} (hb : b ≤ maxT) : addT a b ≤ maxT := by unfold addT maxT at *; split <;> omega
theorem wrap_u64 {n : Int} (h0 : 0 ≤ n) (h1 : n ≤ maxT) : IntKind.u64.wrap n = n := by
 unfold maxT at h1
 show n % 18446744073709551616 = n
 omega
set_option maxHeartbeats 400000 in
theorem tadd_any (a b : Int) (w : World) (ha : 0 ≤ a ∧ a ≤ maxT) (hb : 0 ≤ b ∧ b ≤ maxT) :
  Calls Tryz.prog 30 #[.int .u64 a, .int .u64 b] w fun e w' => e = .returned (.int .u64 (addT a b)) ∧ w = w' := by
 have h1 := wrap_u64 (n := 18446744073709551615 - b) (by unfold maxT at hb; omega) (by unfold maxT; omega)
 by_cases h : maxT - b < a
 ·have h2 : decide (18446744073709551615 - b < a) = true := by simpa [maxT] using h
  have HF := Lib.hid (show addT a b = 18446744073709551615 by unfold addT; rw [if_pos h]; rfl)
  clear ha hb h
  go_enter Tryz.func30, Tryz.ntmps30
  go_wp2_with fail
  go_ret
  exact ⟨by rw [HF.out]; rfl, rfl⟩
 ·have h2 : decide (18446744073709551615 - b < a) = false := by simpa [maxT] using h
  have h3 := wrap_u64 (n := a + b) (by omega) (by omega)
  have HF := Lib.hid (show addT a b = a + b by unfold addT; rw [if_neg h])
  clear ha hb h
  go_enter Tryz.func30, Tryz.ntmps30
  go_wp2_with fail
  go_ret
  exact ⟨by rw [HF.out]; rfl, rfl⟩
/-- Is w a reason of an attempt's failure? -/
def isWhy (w : Int) : Bool := decide (1 ≤ w) && decide (w ≤ 7)
set_option maxHeartbeats 400000 in
theorem why_any (x : Int) (w : World) : Calls Tryz.prog 94 #[.int .i64 x] w fun e w' => e = .returned (.bool (isWhy x)) ∧ w = w' := by
 have HF := Lib.hid (show isWhy x = (decide (1 ≤ x) && decide (x ≤ 7)) from rfl)
 by_cases h1 : 1 ≤ x
 ·go_enter Tryz.func94, Tryz.ntmps94
  go_wp2_with fail
  go_ret
  exact ⟨by rw [HF.out]; simp [h1], rfl⟩
 ·go_enter Tryz.func94, Tryz.ntmps94
  go_wp2_with fail
  go_ret
  exact ⟨by rw [HF.out]; simp [h1]; omega, rfl⟩
/-! ### the reason to report -/
def bestN (b x : Nat) : Nat := if b = 0 ∨ x < b then x else b
def best (l : List Nat) : Nat := l.foldl bestN 0
def primN (l : List Nat) : Nat := if best l = 0 then 4 else best l
theorem best_step (l : List Nat) (i x : Nat) (h : l[i]? = some x) : best (l.take (i + 1)) = bestN (best (l.take i)) x := by
 unfold best
 rw [List.take_add_one, h, Option.toList_some, List.foldl_append]
 rfl
theorem best_hi : ∀ (l : List Nat), (∀ x ∈ l, x ≤ 7) → best l ≤ 7 := by
 have key : ∀ (l : List Nat) (b : Nat), b ≤ 7 → (∀ x ∈ l, x ≤ 7) → l.foldl bestN b ≤ 7 := by
  intro l
  induction l with
  | nil => intro b hb _; exact hb
  | cons a r ih =>
   intro b hb h
   rw [List.foldl_cons]
   refine ih _ ?_ (fun x hx => h x (by simp [hx]))
   have := h a (by simp)
   unfold bestN
   split <;> omega
 intro l h
 exact key l 0 (by omega) h
theorem why_yes (x : Int) (w : World) (h : 1 ≤ x ∧ x ≤ 7) : Calls Tryz.prog 94 #[.int .i64 x] w fun e w' => e = .returned (.bool true) ∧ w = w' := by
 have := why_any x w
 rwa [show isWhy x = true by simp [isWhy]; omega] at this
set_option maxHeartbeats 1000000 in
theorem prim_any (w0 : World) (v : Value) (l : List Nat) (w : World) (h1 : OwnK w0 w v l) (hl : ∀ x ∈ l, 1 ≤ x ∧ x ≤ 7) :
  Calls Tryz.prog 78 #[v] w fun e w' => e = .returned (.int .i64 (primN l : Nat)) ∧ w = w' := by
 obtain ⟨a, c, rfl, hc, hm, hat⟩ := h1.form
 obtain ⟨n, hn⟩ : ∃ n, n = l.length := ⟨_, rfl⟩
 have HN := Lib.hid hn
 have HL := Lib.hid hl
 have H1 := Lib.hid h1
 rw [← hn] at hc hat ⊢
 unfold maxLen at hm
 clear hn hl h1
 go_enter Tryz.func78, Tryz.ntmps78
 go_wp2_with fail
 go_loop [3, 5, 8] (fun v3 v5 v8 => ∃ i : Nat, i ≤ n ∧ v8 = .int .i64 i ∧ v3 = .int .i64 (best (l.take i) : Nat)) (fun _ _ v8 => n - (intOf v8).toNat)
 case atStart => exact ⟨0, by omega, rfl, rfl⟩
 case round =>
  obtain ⟨i, hin, rfl, rfl⟩ := hrel
  have hB := best_hi (l.take i) (fun x hx => (HL.out x (List.mem_of_mem_take hx)).2)
  by_cases hlt : i < n
  ·obtain ⟨x, hx⟩ : ∃ x, l[i]? = some x := ⟨_, List.getElem?_eq_getElem (by rw [← HN.out]; exact hlt)⟩
   have hx7 := HL.out x (List.mem_of_getElem? hx)
   obtain ⟨g, rfl⟩ := hat (by omega)
   have hcx := H1.out.cell rfl hx
   have HST := Lib.hid (best_step l i x hx)
   have HW := Lib.hid (why_yes (x : Int) w (by omega))
   have hwi : IntKind.i64.wrap ((i : Int) + 1) = (i : Int) + 1 := by rw [IntKind.wrap_i64] <;> omega
   have hin2 : (i : Int) < (n : Int) := by omega
   generalize hbb : best (l.take i) = b at *
   have HBB := Lib.hid hbb
   clear hx hbb
   by_cases hb0 : b = 0
   ·subst hb0
    go_wp2_with fail
    refine HW.out.mono ?_
    rintro e _ ⟨rfl, rfl⟩
    go_wp2_with fail
    go_round
    case rel => exact ⟨i + 1, by omega, by go_num, by rw [HST.out]; rfl⟩
    case measure => simp [intOf]; omega
   ·have hb1 : ((b : Int) == 0) = false := by simp; omega
    by_cases hxb : x < b
    ·have HS2 := Lib.hid (show bestN b x = x by unfold bestN; rw [if_pos (.inr hxb)])
     have hxb2 : decide (x < b) = true := by simpa using hxb
     clear hxb hb0
     go_wp2_with fail
     refine HW.out.mono ?_
     rintro e _ ⟨rfl, rfl⟩
     go_wp2_with fail
     go_round
     case rel => exact ⟨i + 1, by omega, by go_num, by rw [HST.out, HS2.out]⟩
     case measure => simp [intOf]; omega
    ·have HS2 := Lib.hid (show bestN b x = b by unfold bestN; rw [if_neg (by omega)])
     have hxb2 : decide (x < b) = false := by simpa using hxb
     clear hxb hb0
     go_wp2_with fail
     refine HW.out.mono ?_
     rintro e _ ⟨rfl, rfl⟩
     go_wp2_with fail
     go_round
     case rel => exact ⟨i + 1, by omega, by go_num, by rw [HST.out, HS2.out]⟩
     case measure => simp [intOf]; omega
  ·have HFI := Lib.hid (show l.take i = l from List.take_of_length_le (by rw [← HN.out]; omega))
   rw [HFI.out] at hB ⊢
   have HP := Lib.hid (show primN l = if best l = 0 then 4 else best l from rfl)
   by_cases hb0 : best l = 0
   ·have HP2 := Lib.hid (show primN l = 4 by rw [HP.out, if_pos hb0])
    rw [hb0]
    clear hb0
    go_wp2_with fail
    go_ret
    exact ⟨by rw [HP2.out]; rfl, rfl⟩
   ·have HP2 := Lib.hid (show primN l = best l by rw [HP.out, if_neg hb0])
    have hb1 : ((best l : Int) == 0) = false := by simp; omega
    clear hb0
    go_wp2_with fail
    go_ret
    exact ⟨by rw [HP2.out]; rfl, rfl⟩
end Go.Proofs.YtiklhaajhdephaaGreatDoor

/-
 The pair of queries in memory, and the contracts of its functions.
-/
namespace Go.Proofs.YtiklhaajhdephaaGreatDoor
open Go.RowKit
set_option linter.unusedVariables false
set_option linter.unusedSimpArgs false

/-- A query: was it answered, when, and which addresses it kept. -/
structure QS where
 a : Bool
 t : Int
 l : List Ad
/-- The two queries. -/
structure PS where
 delay : Int
 canc : Bool
 q4 : QS
 q6 : QS
structure Pr (w0 w : World) (h : Nat) (v4 v6 : Value) (s : PS) : Prop where
 cell : w.heap[h]? = some (.cells #[.int .u64 s.delay, .bool s.canc, .bool s.q4.a, .int .u64 s.q4.t, v4, .bool s.q6.a, .int .u64 s.q6.t, v6] 99 (0, 0))
 new : w0.heap.size ≤ h
 o4 : OwnA w0 w v4 s.q4.l
 o6 : OwnA w0 w v6 s.q6.l
 h4 : v4.ownBlock ≠ some h
 h6 : v6.ownBlock ≠ some h
 h46 : ∀ g, v4.ownBlock = some g → v6.ownBlock ≠ some g
 n4 : s.q4.l.length ≤ 16
 n6 : s.q6.l.length ≤ 16
 d : 0 ≤ s.delay ∧ s.delay ≤ maxT
 e4 : 0 ≤ s.q4.t ∧ s.q4.t ≤ maxT
 e6 : 0 ≤ s.q6.t ∧ s.q6.t ≤ maxT
def pfoot (h : Nat) (v4 v6 : Value) : List Nat := h :: (v4.ownBlock.toList ++ v6.ownBlock.toList)
section
variable {w0 w : World} {h : Nat} {v4 v6 : Value} {s : PS}
theorem Pr.touch {w' : World} {S : List Nat} (q : Pr w0 w h v4 v6 s) (t : Touch S w w') (hd : ∀ g ∈ pfoot h v4 v6, g ∉ S) : Pr w0 w' h v4 v6 s :=
 ⟨t.at q.cell (hd h (by simp [pfoot])), q.new, Own.touch q.o4 t (fun g hg => hd g (by simp [pfoot, hg])), Own.touch q.o6 t (fun g hg => hd g (by simp [pfoot, hg])), q.h4, q.h6, q.h46, q.n4, q.n6, q.d, q.e4, q.e6⟩
theorem Pr.lt (q : Pr w0 w h v4 v6 s) : ∀ g ∈ pfoot h v4 v6, w0.heap.size ≤ g ∧ g < w.heap.size := by
 intro g hg
 simp only [pfoot, List.mem_cons, List.mem_append, Option.mem_toList] at hg
 rcases hg with rfl | hg | hg
 ·exact ⟨q.new, (Array.getElem?_eq_some_iff.1 q.cell).1⟩
 ·exact ⟨q.o4.new g hg, Own.lt q.o4 g hg⟩
 ·exact ⟨q.o6.new g hg, Own.lt q.o6 g hg⟩
theorem Pr.cells (q : Pr w0 w h v4 v6 s) : w.cell? ⟨h, 0, none⟩ = some (.int .u64 s.delay) ∧ w.cell? ⟨h, 1, none⟩ = some (.bool s.canc) ∧ w.cell? ⟨h, 2, none⟩ = some (.bool s.q4.a) ∧ w.cell? ⟨h, 3, none⟩ = some (.int .u64 s.q4.t) ∧ w.cell? ⟨h, 4, none⟩ = some v4 ∧ w.cell? ⟨h, 5, none⟩ = some (.bool s.q6.a) ∧ w.cell? ⟨h, 6, none⟩ = some (.int .u64 s.q6.t) ∧ w.cell? ⟨h, 7, none⟩ = some v6 := by
 refine ⟨?_, ?_, ?_, ?_, ?_, ?_, ?_, ?_⟩ <;> rw [cell_of_row _ _ _ _ _ _ q.cell] <;> rfl
theorem Pr.free (q : Pr w0 w h v4 v6 s) (k : Nat) : w.frozen? ⟨h, k, none⟩ = false := by simp [World.frozen?, q.cell]
end
def initP (d : Int) : PS := ⟨d, false, ⟨false, 0, []⟩, ⟨false, 0, []⟩⟩
set_option maxHeartbeats 1000000 in
theorem pnew_any (d : Int) (w : World) (hd : 0 ≤ d ∧ d ≤ maxT) :
  Calls Tryz.prog 23 #[.int .u64 d] w fun e w' => e = .returned (.pointer (some ⟨w.heap.size, 0, none⟩)) ∧ Pr w w' w.heap.size (.slice none 0 0) (.slice none 0 0) (initP d) ∧ Touch [] w w' := by
 have HN := Lib.hid (heap_alloc_new w (.cells #[.int .u64 d, .bool false, .bool false, .int .u64 0, .slice none 0 0, .bool false, .int .u64 0, .slice none 0 0] 99))
 have HT := Lib.hid ((Touch.refl [] w).alloc (.cells #[.int .u64 d, .bool false, .bool false, .int .u64 0, .slice none 0 0, .bool false, .int .u64 0, .slice none 0 0] 99))
 have HD := Lib.hid hd
 clear hd
 go_enter Tryz.func23, Tryz.ntmps23
 go_wp2_with fail
 go_ret
 exact ⟨rfl, ⟨HN.out, Nat.le_refl _, Own.nil _ _, Own.nil _ _, by simp [Value.ownBlock], by simp [Value.ownBlock], by simp [Value.ownBlock], by simp [initP], by simp [initP], HD.out, by simp [initP, maxT], by simp [initP, maxT]⟩, HT.out⟩
set_option maxHeartbeats 400000 in
theorem fam4_any (h : Nat) (w : World) : Calls Tryz.prog 91 #[.pointer (some ⟨h, 0, none⟩), .bool false] w fun e w' => e = .returned (.pointer (some ⟨h, 2, none⟩)) ∧ w = w' := by
 go_enter Tryz.func91, Tryz.ntmps91
 go_wp2_with fail
 go_ret
 exact ⟨rfl, rfl⟩
set_option maxHeartbeats 400000 in
theorem fam6_any (h : Nat) (w : World) : Calls Tryz.prog 91 #[.pointer (some ⟨h, 0, none⟩), .bool true] w fun e w' => e = .returned (.pointer (some ⟨h, 5, none⟩)) ∧ w = w' := by
 go_enter Tryz.func91, Tryz.ntmps91
 go_wp2_with fail
 go_ret
 exact ⟨rfl, rfl⟩
def PS.complete (s : PS) : Bool := s.q4.a && s.q6.a
set_option maxHeartbeats 400000 in
theorem pcomplete_any (w0 w : World) (h : Nat) (v4 v6 : Value) (s : PS) (q : Pr w0 w h v4 v6 s) (r : Bool) (hr : s.complete = r) :
  Calls Tryz.prog 74 #[.pointer (some ⟨h, 0, none⟩)] w fun e w' => e = .returned (.bool r) ∧ w = w' := by
 obtain ⟨_, _, c2, _, _, c5, _, _⟩ := q.cells
 unfold PS.complete at hr
 have HR := Lib.hid hr
 clear q hr
 cases h4 : s.q4.a
 all_goals
  rw [h4] at c2 HR
  clear h4
  cases h6 : s.q6.a
  all_goals
   rw [h6] at c5 HR
   clear h6
   go_enter Tryz.func74, Tryz.ntmps74
   go_wp2_with fail
   go_ret
   exact ⟨by rw [← HR.out]; rfl, rfl⟩
/-- The end of the resolution delay, if there is one. -/
def PS.dl (s : PS) : Option Int := if s.q6.a = true ∨ s.q4.l = [] then none else some (addT s.q4.t s.delay)
set_option maxRecDepth 100000 in
set_option maxHeartbeats 2000000 in
theorem pdl_no (w0 w : World) (h : Nat) (v4 v6 : Value) (s : PS) (q : Pr w0 w h v4 v6 s) (hr : s.dl = none) :
  Calls Tryz.prog 75 #[.pointer (some ⟨h, 0, none⟩)] w fun e w' => e = .returned (.tuple #[.int .u64 0, .bool false]) ∧ Touch [] w w' := by
 obtain ⟨c0, _, _, c3, c4, c5, _, _⟩ := q.cells
 obtain ⟨a4, k4, rfl, _, _, _⟩ := q.o4.form
 unfold PS.dl at hr
 have hc : s.q6.a = true ∨ s.q4.l = [] := by
  by_cases hc : s.q6.a = true ∨ s.q4.l = []
  ·exact hc
  ·rw [if_neg hc] at hr; cases hr
 clear hr q
 cases h6 : s.q6.a with
 | true =>
  rw [h6] at c5
  clear h6 hc
  generalize s.q4.l.length = n4 at *
  go_enter Tryz.func75, Tryz.ntmps75
  go_wp2_with fail
  refine (fam4_any h w).mono ?_
  rintro e _ ⟨rfl, rfl⟩
  go_wp2_with fail
  refine (fam6_any h w).mono ?_
  rintro e _ ⟨rfl, rfl⟩
  go_wp2_with fail
  go_ret2
  exact ⟨rfl, Touch.refl _ _⟩
 | false =>
  have hl : s.q4.l.length = 0 := by
   rcases hc with hc | hc
   ·rw [h6] at hc; cases hc
   ·rw [hc]; rfl
  rw [h6] at c5
  rw [hl] at c4
  clear h6 hc hl
  go_enter Tryz.func75, Tryz.ntmps75
  go_wp2_with fail
  refine (fam4_any h w).mono ?_
  rintro e _ ⟨rfl, rfl⟩
  go_wp2_with fail
  refine (fam6_any h w).mono ?_
  rintro e _ ⟨rfl, rfl⟩
  go_wp2_with fail
  go_ret2
  exact ⟨rfl, Touch.refl _ _⟩
set_option maxRecDepth 100000 in
set_option maxHeartbeats 2000000 in
theorem pdl_yes (w0 w : World) (h : Nat) (v4 v6 : Value) (s : PS) (q : Pr w0 w h v4 v6 s) (d : Int) (hr : s.dl = some d) :
  Calls Tryz.prog 75 #[.pointer (some ⟨h, 0, none⟩)] w fun e w' => e = .returned (.tuple #[.int .u64 d, .bool true]) ∧ Touch [] w w' := by
 obtain ⟨c0, _, _, c3, c4, c5, _, _⟩ := q.cells
 obtain ⟨a4, k4, rfl, _, _, _⟩ := q.o4.form
 have HD := Lib.hid q.d
 have HE := Lib.hid q.e4
 unfold PS.dl at hr
 by_cases hc : s.q6.a = true ∨ s.q4.l = []
 ·rw [if_pos hc] at hr; cases hr
 ·rw [if_neg hc] at hr
  cases hr
  obtain ⟨h6, h4⟩ := not_or.1 hc
  have h6 : s.q6.a = false := by simpa using h6
  have h40 : 0 < s.q4.l.length := List.length_pos_iff.2 h4
  rw [h6] at c5
  generalize s.q4.l.length = n4 at *
  have h41 : ((n4 : Int) == 0) = false := by simp; omega
  clear h6 h4 hc h40 q
  go_enter Tryz.func75, Tryz.ntmps75
  go_wp2_with fail
  refine (fam4_any h w).mono ?_
  rintro e _ ⟨rfl, rfl⟩
  go_wp2_with fail
  refine (fam6_any h w).mono ?_
  rintro e _ ⟨rfl, rfl⟩
  go_wp2_with fail
  clear c4 c5
  refine wp_region_held (S := Touch [] w.drew) (by kernel_rfl) ?_
  change wpAnyH _ _ _ _ _ _ _ _ w.drew
  have tD := (Touch.refl [] w).drew
  have c0 := tD.cell c0 (by simp)
  have c3 := tD.cell c3 (by simp)
  have HTD := Lib.hid tD
  generalize w.drew = W at *
  clear tD
  have hS := Touch.refl [] W
  refine tkH 0 (.pointer (some ⟨h, 2, none⟩)) ?_
  refine tkH 1 (.pointer (some ⟨h, 2, none⟩)) ?_
  refine tkH 2 (.pointer (some ⟨h, 3, none⟩)) ?_
  refine tkH 3 (.int .u64 s.q4.t) ?_ (hy := Or.inl ⟨by rfl, fun w' hw => by (have q := hw.cell c3 (by simp); go_simp)⟩)
  refine tkH 4 (.pointer (some ⟨h, 0, none⟩)) ?_
  refine tkH 5 (.pointer (some ⟨h, 0, none⟩)) ?_
  refine tkH 6 (.pointer (some ⟨h, 0, none⟩)) ?_
  refine tkH 7 (.int .u64 s.delay) ?_ (hy := Or.inl ⟨by rfl, fun w' hw => by (have q := hw.cell c0 (by simp); go_simp)⟩)
  refine wpAnyH_ready (rs := [8]) (by kernel_rfl) (by simp) ?_
  refine cnH rfl (fun K hK => ?_) AllReadyH.nil
  go_simp
  refine (tadd_any s.q4.t s.delay _ HE.out HD.out).mono ?_
  rintro e _ ⟨rfl, rfl⟩
  refine hK.out _ _ hS (fun _ => ?_)
  clear hK K
  try simp only [Act.put, sT, s0, sS]
  refine tkH 9 (.int .u64 (addT s.q4.t s.delay)) ?_
  refine tkH 10 (.bool true) ?_
  refine wpAnyH_done (by kernel_rfl) ?_ _
  try simp only [Act.put, sT, s0, sS]
  have HTZ := Lib.hid (HTD.out.trans hS (by simp))
  clear hS
  go_wp2_with fail
  go_ret2
  exact ⟨rfl, HTZ.out⟩
/-- May connecting begin? -/
def PS.ready (s : PS) (now : Int) : Bool := s.complete || (decide (s.q6.l ≠ []) || (decide (s.q4.l ≠ []) && decide (addT s.q4.t s.delay ≤ now)))
set_option maxRecDepth 100000 in
set_option maxHeartbeats 4000000 in
theorem pready_any (w0 w : World) (h : Nat) (v4 v6 : Value) (s : PS) (q : Pr w0 w h v4 v6 s) (now : Int) (hnow : 0 ≤ now ∧ now ≤ maxT) (r : Bool) (hr : s.ready now = r) :
  Calls Tryz.prog 57 #[.pointer (some ⟨h, 0, none⟩), .int .u64 now] w fun e w' => e = .returned (.bool r) ∧ Touch [] w w' := by
 obtain ⟨c0, _, _, c3, c4, _, _, c7⟩ := q.cells
 obtain ⟨a4, k4, rfl, _, _, _⟩ := q.o4.form
 obtain ⟨a6, k6, rfl, _, _, _⟩ := q.o6.form
 have HD := Lib.hid q.d
 have HE := Lib.hid q.e4
 have HQ0 := Lib.hid q
 obtain ⟨n4, hn4⟩ : ∃ n, n = s.q4.l.length := ⟨_, rfl⟩
 obtain ⟨n6, hn6⟩ : ∃ n, n = s.q6.l.length := ⟨_, rfl⟩
 rw [← hn4] at c4
 rw [← hn6] at c7
 have HQ := Lib.hid (show Pr w0 w h (.slice a4 n4 k4) (.slice a6 n6 k6) s by rw [hn4, hn6]; exact q)
 have f4 : decide (s.q4.l ≠ []) = decide (0 < n4) := by rw [hn4]; cases s.q4.l <;> simp
 have f6 : decide (s.q6.l ≠ []) = decide (0 < n6) := by rw [hn6]; cases s.q6.l <;> simp
 unfold PS.ready at hr
 rw [f4, f6] at hr
 have HR := Lib.hid hr
 clear hr f4 f6 q hn4 hn6 HQ0 hnow
 have HCA := Lib.hid (show ∀ c, s.complete = c → (c || (decide (0 < n6) || (decide (0 < n4) && decide (addT s.q4.t s.delay ≤ now)))) = r from fun c h => by rw [← h]; exact HR.out)
 cases hco : s.complete with
 | true =>
  have HF := Lib.hid (HCA.out true hco)
  have HCO := Lib.hid hco
  clear hco HR HCA
  go_enter Tryz.func57, Tryz.ntmps57
  go_wp2_with fail
  refine (fam4_any h w).mono ?_
  rintro e _ ⟨rfl, rfl⟩
  go_wp2_with fail
  refine (fam6_any h w).mono ?_
  rintro e _ ⟨rfl, rfl⟩
  go_wp2_with fail
  refine wp_region_held (S := Touch [] w.drew) (by kernel_rfl) ?_
  change wpAnyH _ _ _ _ _ _ _ _ w.drew
  have tD := (Touch.refl [] w).drew
  have c0 := tD.cell c0 (by simp)
  have c3 := tD.cell c3 (by simp)
  have c4 := tD.cell c4 (by simp)
  have c7 := tD.cell c7 (by simp)
  have HTD := Lib.hid tD
  generalize w.drew = W at *
  clear tD
  have hS := Touch.refl [] W
  refine tkH 0 (.pointer (some ⟨h, 0, none⟩)) ?_
  refine wpAnyH_ready (rs := [1]) (by kernel_rfl) (by simp) ?_
  refine cnH rfl (fun K hK => ?_) AllReadyH.nil
  go_simp
  refine (pcomplete_any w0 _ h (.slice a4 n4 k4) (.slice a6 n6 k6) s (HQ.out.touch (HTD.out.trans hS (by simp)) (by simp)) true HCO.out).mono ?_
  rintro e _ ⟨rfl, rfl⟩
  refine hK.out _ _ hS (fun _ => ?_)
  clear hK K
  try simp only [Act.put, sT, s0, sS]
  refine tkH 2 (.bool true) ?_
  refine tkN 3 undef ?_
  refine tkN 4 undef ?_
  refine tkN 5 undef ?_
  refine tkN 6 undef ?_
  refine tkN 7 undef ?_
  refine tkN 8 undef ?_
  refine tkH 9 (.bool true) ?_
  refine tkH 10 (.bool true) ?_
  refine tkN 11 undef ?_
  refine tkN 12 undef ?_
  refine tkN 13 undef ?_
  refine tkN 14 undef ?_
  refine tkN 15 undef ?_
  refine tkN 16 undef ?_
  refine tkN 17 undef ?_
  refine tkN 18 undef ?_
  refine tkN 19 undef ?_
  refine tkN 20 undef ?_
  refine tkN 21 undef ?_
  refine tkN 22 undef ?_
  refine tkN 23 undef ?_
  refine tkN 24 undef ?_
  refine tkN 25 undef ?_
  refine tkN 26 undef ?_
  refine tkN 27 undef ?_
  refine tkN 28 undef ?_
  refine tkN 29 undef ?_
  refine tkH 30 (.bool true) ?_
  refine tkH 31 (.bool true) ?_
  refine wpAnyH_done (by kernel_rfl) ?_ _
  try simp only [Act.put, sT, s0, sS]
  have HTZ := Lib.hid (HTD.out.trans hS (by simp))
  clear hS
  go_wp2_with fail
  go_ret
  exact ⟨by rw [← HF.out]; rfl, HTZ.out⟩
 | false =>
  have HF := Lib.hid (HCA.out false hco)
  have HCO := Lib.hid hco
  clear hco HR HCA
  by_cases h6 : 0 < n6
  ·have HF2 := Lib.hid (show true = r by have := HF.out; rw [show decide (0 < n6) = true by simpa using h6] at this; simpa using this)
   have h6 : (0 : Int) < (n6 : Int) := by omega
   go_enter Tryz.func57, Tryz.ntmps57
   go_wp2_with fail
   refine (fam4_any h w).mono ?_
   rintro e _ ⟨rfl, rfl⟩
   go_wp2_with fail
   refine (fam6_any h w).mono ?_
   rintro e _ ⟨rfl, rfl⟩
   go_wp2_with fail
   refine wp_region_held (S := Touch [] w.drew) (by kernel_rfl) ?_
   change wpAnyH _ _ _ _ _ _ _ _ w.drew
   have tD := (Touch.refl [] w).drew
   have c0 := tD.cell c0 (by simp)
   have c3 := tD.cell c3 (by simp)
   have c4 := tD.cell c4 (by simp)
   have c7 := tD.cell c7 (by simp)
   have HTD := Lib.hid tD
   generalize w.drew = W at *
   clear tD
   have hS := Touch.refl [] W
   refine tkH 0 (.pointer (some ⟨h, 0, none⟩)) ?_
   refine wpAnyH_ready (rs := [1]) (by kernel_rfl) (by simp) ?_
   refine cnH rfl (fun K hK => ?_) AllReadyH.nil
   go_simp
   refine (pcomplete_any w0 _ h (.slice a4 n4 k4) (.slice a6 n6 k6) s (HQ.out.touch (HTD.out.trans hS (by simp)) (by simp)) false HCO.out).mono ?_
   rintro e _ ⟨rfl, rfl⟩
   refine hK.out _ _ hS (fun _ => ?_)
   clear hK K
   try simp only [Act.put, sT, s0, sS]
   refine tkH 2 (.bool false) ?_
   refine tkH 3 (.pointer (some ⟨h, 5, none⟩)) ?_
   refine tkH 4 (.pointer (some ⟨h, 5, none⟩)) ?_
   refine tkH 5 (.pointer (some ⟨h, 7, none⟩)) ?_
   refine tkH 6 (.slice a6 n6 k6) ?_ (hy := Or.inl ⟨by rfl, fun w' hw => by (have q := hw.cell c7 (by simp); go_simp)⟩)
   refine tkH 7 (.int .i64 (n6 : Nat)) ?_
   refine tkH 8 (.bool true) ?_ (hy := Or.inl ⟨by rfl, fun w' hw => by (have q := h6; go_simp)⟩)
   refine tkH 9 (.bool true) ?_
   refine tkH 10 (.bool true) ?_
   refine tkN 11 undef ?_
   refine tkN 12 undef ?_
   refine tkN 13 undef ?_
   refine tkN 14 undef ?_
   refine tkN 15 undef ?_
   refine tkN 16 undef ?_
   refine tkN 17 undef ?_
   refine tkN 18 undef ?_
   refine tkN 19 undef ?_
   refine tkN 20 undef ?_
   refine tkN 21 undef ?_
   refine tkN 22 undef ?_
   refine tkN 23 undef ?_
   refine tkN 24 undef ?_
   refine tkN 25 undef ?_
   refine tkN 26 undef ?_
   refine tkN 27 undef ?_
   refine tkN 28 undef ?_
   refine tkN 29 undef ?_
   refine tkH 30 (.bool true) ?_
   refine tkH 31 (.bool true) ?_
   refine wpAnyH_done (by kernel_rfl) ?_ _
   try simp only [Act.put, sT, s0, sS]
   have HTZ := Lib.hid (HTD.out.trans hS (by simp))
   clear hS
   go_wp2_with fail
   go_ret
   exact ⟨by rw [← HF2.out]; rfl, HTZ.out⟩
  ·by_cases h4 : 0 < n4
   ·have HF2 := Lib.hid (show decide (addT s.q4.t s.delay ≤ now) = r by have := HF.out; rw [show decide (0 < n6) = false by simpa using h6, show decide (0 < n4) = true by simpa using h4] at this; simpa using this)
    have h6 : (n6 : Int) ≤ 0 := by omega
    have h4 : (0 : Int) < (n4 : Int) := by omega
    go_enter Tryz.func57, Tryz.ntmps57
    go_wp2_with fail
    refine (fam4_any h w).mono ?_
    rintro e _ ⟨rfl, rfl⟩
    go_wp2_with fail
    refine (fam6_any h w).mono ?_
    rintro e _ ⟨rfl, rfl⟩
    go_wp2_with fail
    refine wp_region_held (S := Touch [] w.drew) (by kernel_rfl) ?_
    change wpAnyH _ _ _ _ _ _ _ _ w.drew
    have tD := (Touch.refl [] w).drew
    have c0 := tD.cell c0 (by simp)
    have c3 := tD.cell c3 (by simp)
    have c4 := tD.cell c4 (by simp)
    have c7 := tD.cell c7 (by simp)
    have HTD := Lib.hid tD
    generalize w.drew = W at *
    clear tD
    have hS := Touch.refl [] W
    refine tkH 0 (.pointer (some ⟨h, 0, none⟩)) ?_
    refine wpAnyH_ready (rs := [1]) (by kernel_rfl) (by simp) ?_
    refine cnH rfl (fun K hK => ?_) AllReadyH.nil
    go_simp
    refine (pcomplete_any w0 _ h (.slice a4 n4 k4) (.slice a6 n6 k6) s (HQ.out.touch (HTD.out.trans hS (by simp)) (by simp)) false HCO.out).mono ?_
    rintro e _ ⟨rfl, rfl⟩
    refine hK.out _ _ hS (fun _ => ?_)
    clear hK K
    try simp only [Act.put, sT, s0, sS]
    refine tkH 2 (.bool false) ?_
    refine tkH 3 (.pointer (some ⟨h, 5, none⟩)) ?_
    refine tkH 4 (.pointer (some ⟨h, 5, none⟩)) ?_
    refine tkH 5 (.pointer (some ⟨h, 7, none⟩)) ?_
    refine tkH 6 (.slice a6 n6 k6) ?_ (hy := Or.inl ⟨by rfl, fun w' hw => by (have q := hw.cell c7 (by simp); go_simp)⟩)
    refine tkH 7 (.int .i64 (n6 : Nat)) ?_
    refine tkH 8 (.bool false) ?_ (hy := Or.inl ⟨by rfl, fun w' hw => by (have q := h6; go_simp)⟩)
    refine tkH 9 (.bool false) ?_
    refine tkH 10 (.bool false) ?_
    refine tkH 11 (.pointer (some ⟨h, 2, none⟩)) ?_
    refine tkH 12 (.pointer (some ⟨h, 2, none⟩)) ?_
    refine tkH 13 (.pointer (some ⟨h, 4, none⟩)) ?_
    refine tkH 14 (.slice a4 n4 k4) ?_ (hy := Or.inl ⟨by rfl, fun w' hw => by (have q := hw.cell c4 (by simp); go_simp)⟩)
    refine tkH 15 (.int .i64 (n4 : Nat)) ?_
    refine tkH 16 (.bool true) ?_ (hy := Or.inl ⟨by rfl, fun w' hw => by (have q := h4; go_simp)⟩)
    refine tkH 17 (.bool true) ?_
    refine tkH 18 (.int .u64 now) ?_
    refine tkH 19 (.pointer (some ⟨h, 2, none⟩)) ?_
    refine tkH 20 (.pointer (some ⟨h, 2, none⟩)) ?_
    refine tkH 21 (.pointer (some ⟨h, 3, none⟩)) ?_
    refine tkH 22 (.int .u64 s.q4.t) ?_ (hy := Or.inl ⟨by rfl, fun w' hw => by (have q := hw.cell c3 (by simp); go_simp)⟩)
    refine tkH 23 (.pointer (some ⟨h, 0, none⟩)) ?_
    refine tkH 24 (.pointer (some ⟨h, 0, none⟩)) ?_
    refine tkH 25 (.pointer (some ⟨h, 0, none⟩)) ?_
    refine tkH 26 (.int .u64 s.delay) ?_ (hy := Or.inl ⟨by rfl, fun w' hw => by (have q := hw.cell c0 (by simp); go_simp)⟩)
    refine wpAnyH_ready (rs := [27]) (by kernel_rfl) (by simp) ?_
    refine cnH rfl (fun K hK => ?_) AllReadyH.nil
    go_simp
    refine (tadd_any s.q4.t s.delay _ HE.out HD.out).mono ?_
    rintro e _ ⟨rfl, rfl⟩
    refine hK.out _ _ hS (fun _ => ?_)
    clear hK K
    try simp only [Act.put, sT, s0, sS]
    refine tkH 28 (.bool (decide (addT s.q4.t s.delay ≤ now))) ?_
    refine tkH 29 (.bool (decide (addT s.q4.t s.delay ≤ now))) ?_
    refine tkH 30 (.bool (decide (addT s.q4.t s.delay ≤ now))) ?_
    refine tkH 31 (.bool (decide (addT s.q4.t s.delay ≤ now))) ?_
    refine wpAnyH_done (by kernel_rfl) ?_ _
    try simp only [Act.put, sT, s0, sS]
    have HTZ := Lib.hid (HTD.out.trans hS (by simp))
    clear hS
    go_wp2_with fail
    go_ret
    exact ⟨by rw [← HF2.out]; rfl, HTZ.out⟩
   ·have HF2 := Lib.hid (show false = r by have := HF.out; rw [show decide (0 < n6) = false by simpa using h6, show decide (0 < n4) = false by simpa using h4] at this; simpa using this)
    have h6 : (n6 : Int) ≤ 0 := by omega
    have h4 : (n4 : Int) ≤ 0 := by omega
    go_enter Tryz.func57, Tryz.ntmps57
    go_wp2_with fail
    refine (fam4_any h w).mono ?_
    rintro e _ ⟨rfl, rfl⟩
    go_wp2_with fail
    refine (fam6_any h w).mono ?_
    rintro e _ ⟨rfl, rfl⟩
    go_wp2_with fail
    refine wp_region_held (S := Touch [] w.drew) (by kernel_rfl) ?_
    change wpAnyH _ _ _ _ _ _ _ _ w.drew
    have tD := (Touch.refl [] w).drew
    have c0 := tD.cell c0 (by simp)
    have c3 := tD.cell c3 (by simp)
    have c4 := tD.cell c4 (by simp)
    have c7 := tD.cell c7 (by simp)
    have HTD := Lib.hid tD
    generalize w.drew = W at *
    clear tD
    have hS := Touch.refl [] W
    refine tkH 0 (.pointer (some ⟨h, 0, none⟩)) ?_
    refine wpAnyH_ready (rs := [1]) (by kernel_rfl) (by simp) ?_
    refine cnH rfl (fun K hK => ?_) AllReadyH.nil
    go_simp
    refine (pcomplete_any w0 _ h (.slice a4 n4 k4) (.slice a6 n6 k6) s (HQ.out.touch (HTD.out.trans hS (by simp)) (by simp)) false HCO.out).mono ?_
    rintro e _ ⟨rfl, rfl⟩
    refine hK.out _ _ hS (fun _ => ?_)
    clear hK K
    try simp only [Act.put, sT, s0, sS]
    refine tkH 2 (.bool false) ?_
    refine tkH 3 (.pointer (some ⟨h, 5, none⟩)) ?_
    refine tkH 4 (.pointer (some ⟨h, 5, none⟩)) ?_
    refine tkH 5 (.pointer (some ⟨h, 7, none⟩)) ?_
    refine tkH 6 (.slice a6 n6 k6) ?_ (hy := Or.inl ⟨by rfl, fun w' hw => by (have q := hw.cell c7 (by simp); go_simp)⟩)
    refine tkH 7 (.int .i64 (n6 : Nat)) ?_
    refine tkH 8 (.bool false) ?_ (hy := Or.inl ⟨by rfl, fun w' hw => by (have q := h6; go_simp)⟩)
    refine tkH 9 (.bool false) ?_
    refine tkH 10 (.bool false) ?_
    refine tkH 11 (.pointer (some ⟨h, 2, none⟩)) ?_
    refine tkH 12 (.pointer (some ⟨h, 2, none⟩)) ?_
    refine tkH 13 (.pointer (some ⟨h, 4, none⟩)) ?_
    refine tkH 14 (.slice a4 n4 k4) ?_ (hy := Or.inl ⟨by rfl, fun w' hw => by (have q := hw.cell c4 (by simp); go_simp)⟩)
    refine tkH 15 (.int .i64 (n4 : Nat)) ?_
    refine tkH 16 (.bool false) ?_ (hy := Or.inl ⟨by rfl, fun w' hw => by (have q := h4; go_simp)⟩)
    refine tkH 17 (.bool false) ?_
    refine tkN 18 undef ?_
    refine tkN 19 undef ?_
    refine tkN 20 undef ?_
    refine tkN 21 undef ?_
    refine tkN 22 undef ?_
    refine tkN 23 undef ?_
    refine tkN 24 undef ?_
    refine tkN 25 undef ?_
    refine tkN 26 undef ?_
    refine tkN 27 undef ?_
    refine tkN 28 undef ?_
    refine tkH 29 (.bool false) ?_
    refine tkH 30 (.bool false) ?_
    refine tkH 31 (.bool false) ?_
    refine wpAnyH_done (by kernel_rfl) ?_ _
    try simp only [Act.put, sT, s0, sS]
    have HTZ := Lib.hid (HTD.out.trans hS (by simp))
    clear hS
    go_wp2_with fail
    go_ret
    exact ⟨by rw [← HF2.out]; rfl, HTZ.out⟩
end Go.Proofs.YtiklhaajhdephaaGreatDoor

/-
 The contracts of the pair's Answer, one for each family.
-/
namespace Go.Proofs.YtiklhaajhdephaaGreatDoor
open Go.RowKit
set_option linter.unusedVariables false
set_option linter.unusedSimpArgs false

/-- What an answer keeps: the valid addresses of its family, each once, at most sixteen. -/
def ansS (b : Bool) (L : List Ad) (a : Ad) : List Ad := if a.b = b ∧ a.valid = true ∧ L.length < 16 ∧ inL L a = false then L ++ [a] else L
def ansL (b : Bool) (L l : List Ad) : List Ad := l.foldl (ansS b) L
theorem ansS_len {b : Bool} {L : List Ad} {a : Ad} (h : L.length ≤ 16) : (ansS b L a).length ≤ 16 := by
 unfold ansS
 split
 ·rename_i h2; simp; omega
 ·exact h
theorem ansL_len {b : Bool} {L l : List Ad} (h : L.length ≤ 16) : (ansL b L l).length ≤ 16 := by
 unfold ansL
 induction l generalizing L with
 | nil => exact h
 | cons a r ih => rw [List.foldl_cons]; exact ih (ansS_len h)
theorem ansL_step (b : Bool) (L l : List Ad) (i : Nat) (x : Ad) (hx : l[i]? = some x) : ansL b L (l.take (i + 1)) = ansS b (ansL b L (l.take i)) x := by
 unfold ansL
 rw [List.take_add_one, hx, Option.toList_some, List.foldl_append]
 rfl
theorem Pr.mark4 {w0 w : World} {h : Nat} {v4 v6 : Value} {s : PS} (q : Pr w0 w h v4 v6 s) (now : Int) (hn : 0 ≤ now ∧ now ≤ maxT) :
  Pr w0 ((w.setCell ⟨h, 2, none⟩ (.bool true)).setCell ⟨h, 3, none⟩ (.int .u64 now)) h v4 v6 { s with q4 := ⟨true, now, s.q4.l⟩ } ∧ Touch [h] w ((w.setCell ⟨h, 2, none⟩ (.bool true)).setCell ⟨h, 3, none⟩ (.int .u64 now)) := by
 have t : Touch [h] w ((w.setCell ⟨h, 2, none⟩ (.bool true)).setCell ⟨h, 3, none⟩ (.int .u64 now)) := ((Touch.refl [h] w).setCell (p := ⟨h, 2, none⟩) (.inl (by simp)) _).setCell (p := ⟨h, 3, none⟩) (.inl (by simp)) _
 refine ⟨⟨?_, q.new, Own.touch q.o4 t (fun g hg => by simp; intro e; subst e; exact q.h4 hg), Own.touch q.o6 t (fun g hg => by simp; intro e; subst e; exact q.h6 hg), q.h4, q.h6, q.h46, q.n4, q.n6, q.d, hn, q.e6⟩, t⟩
 simp [World.setCell, Array.getElem?_modify, q.cell]
theorem Pr.push4 {w0 w w2 : World} {h : Nat} {v4 v6 v2 : Value} {s : PS} {L : List Ad} (q : Pr w0 w h v4 v6 s) (t : Touch v4.ownBlock.toList w w2) (o : OwnA w0 w2 v2 L) (hL : L.length ≤ 16) (hv : v2.ownBlock = v4.ownBlock ∨ ∃ k, v2.ownBlock = some k ∧ w.heap.size ≤ k) :
  Pr w0 (w2.setCell ⟨h, 4, none⟩ v2) h v2 v6 { s with q4 := ⟨s.q4.a, s.q4.t, L⟩ } ∧ Touch (h :: v4.ownBlock.toList) w (w2.setCell ⟨h, 4, none⟩ v2) := by
 have hlt : h < w.heap.size := (Array.getElem?_eq_some_iff.1 q.cell).1
 have hc := t.at q.cell (by intro hm; exact q.h4 (by simpa using hm))
 have t2 : Touch [h] w2 (w2.setCell ⟨h, 4, none⟩ v2) := (Touch.refl [h] w2).setCell (p := ⟨h, 4, none⟩) (.inl (by simp)) _
 have hne : v2.ownBlock ≠ some h := by
  rcases hv with e | ⟨k, e, hk⟩
  ·rw [e]; exact q.h4
  ·rw [e]; intro e2; cases e2; omega
 have hoth : OwnA w0 w2 v6 s.q6.l := Own.touch q.o6 t (fun g hg hm => q.h46 g (by simpa using hm) hg)
 have hoth2 : OwnA w0 (w2.setCell ⟨h, 4, none⟩ v2) v6 s.q6.l := Own.touch hoth t2 (fun g hg => by simp; intro e; subst e; exact q.h6 hg)
 have hown2 : OwnA w0 (w2.setCell ⟨h, 4, none⟩ v2) v2 L := Own.touch o t2 (fun g hg => by simp; intro e; subst e; exact hne hg)
 have hdis : ∀ g, v2.ownBlock = some g → v6.ownBlock ≠ some g := by
  intro g hg hx
  rcases hv with e | ⟨k, e, hk⟩
  ·rw [e] at hg; exact q.h46 g hg hx
  ·rw [e] at hg; cases hg
   have := Own.lt q.o6 _ hx
   omega
 refine ⟨⟨?_, q.new, hown2, hoth2, hne, q.h6, hdis, hL, q.n6, q.d, q.e4, q.e6⟩, ?_⟩
 ·simp [World.setCell, Array.getElem?_modify, hc]
 ·exact (t.mono (fun x hx => .inl (by simp; right; simpa using hx))).trans t2 (fun x hx => .inl (by simp at hx; simp [hx]))
set_option maxRecDepth 100000 in
set_option maxHeartbeats 400000 in
theorem pansD4 (w0 w : World) (h : Nat) (v4 v6 : Value) (s : PS) (q : Pr w0 w h v4 v6 s) (now : Int) (v : Value) (hr : s.canc = false) (ha : s.q4.a = true) :
  Calls Tryz.prog 60 #[.pointer (some ⟨h, 0, none⟩), .int .u64 now, .bool false, v] w fun e w' => e = .returned (.tuple #[.int .i64 0, .int .i64 5]) ∧ w = w' := by
 obtain ⟨_, c1, c2, _, _, c5, _, _⟩ := q.cells
 rw [hr] at c1
 rw [ha] at c2
 clear q hr ha
 go_enter Tryz.func60, Tryz.ntmps60
 go_wp2_with fail
 refine (fam4_any h w).mono ?_
 rintro e _ ⟨rfl, rfl⟩
 go_wp2_with fail
 go_ret2
 exact ⟨rfl, rfl⟩
set_option maxRecDepth 100000 in
set_option maxHeartbeats 8000000 in
theorem pans4 (w0 w : World) (h : Nat) (v4 v6 : Value) (s : PS) (q : Pr w0 w h v4 v6 s) (hz : w0.heap.size ≤ w.heap.size) (now : Int) (hnow : 0 ≤ now ∧ now ≤ maxT) (hr : s.canc = false) (ha : s.q4.a = false) (v : Value) (b : Nat) (l : List Ad) (hv : Rd w 17 b v (l.map Ad.cells)) (hb : l ≠ [] → b ∉ pfoot h v4 v6) :
  Calls Tryz.prog 60 #[.pointer (some ⟨h, 0, none⟩), .int .u64 now, .bool false, v] w fun e w' => ∃ v', e = .returned (.tuple #[.int .i64 ((ansL false s.q4.l l).length : Nat), .int .i64 0]) ∧ Pr w0 w' h v' v6 { s with q4 := ⟨true, now, ansL false s.q4.l l⟩ } ∧ Touch (h :: v4.ownBlock.toList) w w' ∧ (v'.ownBlock = v4.ownBlock ∨ ∃ k, v'.ownBlock = some k ∧ w.heap.size ≤ k) := by
 obtain ⟨a, cap, rfl, hlc, hcm⟩ := hv.form
 simp only [List.length_map] at *
 obtain ⟨n, hn⟩ : ∃ n, n = l.length := ⟨_, rfl⟩
 have HN := Lib.hid hn
 have HV := Lib.hid hv
 have HHB := Lib.hid hb
 obtain ⟨_, c1, c2, c3, _, c5, c6, _⟩ := q.cells
 rw [hr] at c1
 rw [ha] at c2
 have f1 := q.free 2
 have f2 := q.free 3
 obtain ⟨m1, m2⟩ := q.mark4 now hnow
 have HM := Lib.hid m1
 have HMT := Lib.hid m2
 have hn16 := q.n4
 have hnL : n ≤ 9223372036854775807 := by unfold maxLen at hcm; omega
 have HHZ := Lib.hid hz
 have HHL := Lib.hid (show ∀ g ∈ pfoot h v4 v6, g < w.heap.size from fun g hg => (q.lt g hg).2)
 rw [← hn] at HV ⊢
 clear hv hn hlc hcm hb q hr ha m1 m2
 go_enter Tryz.func60, Tryz.ntmps60
 go_wp2_with fail
 refine (fam4_any h w).mono ?_
 rintro e _ ⟨rfl, rfl⟩
 go_wp2_with fail
 generalize (w.setCell ⟨h, 2, none⟩ (.bool true)).setCell ⟨h, 3, none⟩ (.int .u64 now) = W0 at *
 clear c1 c2 c3 c5 c6 f1 f2
 go_loopw [35] (fun vi wr => ∃ (i : Nat) (vb : Value), i ≤ n ∧ vi = .int .i64 i ∧ Pr w0 wr h vb v6 { s with q4 := ⟨true, now, ansL false s.q4.l (l.take i)⟩ } ∧ Touch (h :: v4.ownBlock.toList) w wr ∧ (vb.ownBlock = v4.ownBlock ∨ ∃ k, vb.ownBlock = some k ∧ w.heap.size ≤ k)) (fun vi _ => n - (intOf vi).toNat)
 case atStart => exact ⟨0, v4, by omega, rfl, by simpa [ansL] using HM.out, HMT.out.mono (by simp), .inl rfl⟩
 case round =>
  obtain ⟨i, vb, hin, rfl, hq, ht, hvb⟩ := hrel
  have HQI := Lib.hid hq
  have HT := Lib.hid ht
  have HVB := Lib.hid hvb
  have hlen : (ansL false s.q4.l (l.take i)).length ≤ 16 := ansL_len hn16
  obtain ⟨aB, cB, hvbf, hlB, hcB, _⟩ := (show OwnA w0 wr vb (ansL false s.q4.l (l.take i)) from hq.o4).form
  have HBF := Lib.hid hvbf
  obtain ⟨k, hk⟩ : ∃ k, k = (ansL false s.q4.l (l.take i)).length := ⟨_, rfl⟩
  have HK := Lib.hid hk
  rw [← hk] at hlB HBF hlen
  clear hq ht hvb hvbf hk HM HMT
  by_cases hlt : i < n
  ·obtain ⟨x, hx⟩ : ∃ x, l[i]? = some x := ⟨_, List.getElem?_eq_getElem (by rw [← HN.out]; exact hlt)⟩
   obtain ⟨o1, rfl, hat1⟩ := HV.out.at (by intro e; rw [List.map_eq_nil_iff] at e; rw [e] at hx; simp at hx)
   have hbn := HHB.out (by intro e; rw [e] at hx; simp at hx)
   have r1 := HT.out.range (hat1 i x.cells (by simp [hx])) (by intro hm; apply hbn; simp only [pfoot, List.mem_cons, List.mem_append] at hm ⊢; rcases hm with e | e; exact .inl e; exact .inr (.inl e))
   have HLX := Lib.hid x.len
   have HST := Lib.hid (ansL_step false s.q4.l l i x hx)
   have hwi : IntKind.i64.wrap ((i : Int) + 1) = (i : Int) + 1 := by rw [IntKind.wrap_i64] <;> omega
   have hin2 : (i : Int) < (n : Int) := by omega
   have HN0 := Lib.hid (heap_alloc_new wr (.cells (adr false (List.replicate 16 0)).toArray 40))
   have HNT := Lib.hid ((Touch.refl [] wr).alloc (.cells (adr false (List.replicate 16 0)).toArray 40))
   clear hx hat1 hbn
   go_wp2_with (first
    | ((with_reducible refine at_load 40 ?_); refine wpList_load_mid rfl 40 _ rfl b (o1 + i * 17) rfl x.cells _ r1 Tryz.underlying40 rfl (by rw [size31, HLX.out]) ?_)
    | ((with_reducible refine at_store 40 ?_); refine wpList_store_into rfl 40 _ _ rfl wr.heap.size 40 _ x.cells rfl rfl HN0.out (by rw [HLX.out]; rfl) (by rw [size31, HLX.out]) x.one ?_))
   intro B hB tB0 zB
   have tB := HNT.out.trans tB0 (by intro y hy; right; simp at hy; omega)
   have HQB := Lib.hid (HQI.out.touch tB (by simp))
   have HTB := Lib.hid tB
   have HRX := Lib.hid (range_block hB)
   have zB2 : B.heap.size = wr.heap.size + 1 := by simpa using zB
   have HGN := Lib.hid (show ∀ g, vb.ownBlock = some g → g < wr.heap.size from fun g hg => Own.lt HQI.out.o4 g hg)
   generalize hgb : wr.heap.size = gb at *
   have HGB := Lib.hid hgb
   clear tB tB0 hB HNT HN0 r1 hgb zB HQI
   go_wp2_with fail
   generalize hA0 : ansL false s.q4.l (l.take i) = A0 at *
   clear hA0
   cases hfam : decide (x.b = false) with
   | false =>
    have HS := Lib.hid (show ansL false s.q4.l (l.take (i + 1)) = A0 by rw [HST.out]; unfold ansS; rw [if_neg (by intro h; rw [decide_eq_false_iff_not] at hfam; exact hfam h.1)])
    have HXB := Lib.hid (show x.b = true by cases hxb : x.b <;> simp [hxb] at hfam <;> rfl)
    clear hfam
    refine wp_region_held (S := Touch [] B.drew) (by kernel_rfl) ?_
    change wpAnyH _ _ _ _ _ _ _ _ B.drew
    have HQW := Lib.hid (HQB.out.touch ((Touch.refl [] B).drew) (by simp))
    have HRW := Lib.hid (((Touch.refl [] B).drew).range HRX.out (by simp))
    have HTW := Lib.hid (HT.out.trans HTB.out.drew (by simp))
    have zW : B.drew.heap.size = gb + 1 := zB2
    generalize B.drew = W at *
    have hS := Touch.refl [] W
    obtain ⟨_, _, _, _, c4, _, _, c7⟩ := HQW.out.cells
    rw [HBF.out] at c4
    have cx : W.cell? ⟨gb, 0, none⟩ = some (.bool true) := by rw [← HXB.out]; simpa using HRW.out 0 (.bool x.b) rfl
    obtain ⟨bB, hrB, _⟩ := (show OwnA w0 W vb A0 from HQW.out.o4).rd
    have HRB := Lib.hid hrB
    clear hrB
    refine tkH 0 (.pointer (some ⟨gb, 0, none⟩)) ?_
    refine tkH 1 (.bool true) ?_ (hy := Or.inl ⟨by rfl, fun w' hw => by (have q := hw.cell cx (by simp); go_simp)⟩)
    refine tkH 2 (.bool false) ?_
    refine tkH 3 (.bool false) ?_
    refine tkH 4 (.bool false) ?_
    refine tkN 5 undef ?_
    refine tkN 6 undef ?_
    refine tkH 7 (.bool false) ?_
    refine tkH 8 (.bool false) ?_
    refine tkN 9 undef ?_
    refine tkN 10 undef ?_
    refine tkN 11 undef ?_
    refine tkN 12 undef ?_
    refine tkN 13 undef ?_
    refine tkN 14 undef ?_
    refine tkH 15 (.bool false) ?_
    refine tkH 16 (.bool false) ?_
    refine tkN 17 undef ?_
    refine tkN 18 undef ?_
    refine tkN 19 undef ?_
    refine tkN 20 undef ?_
    refine tkN 21 undef ?_
    refine tkN 22 undef ?_
    refine tkN 23 undef ?_
    refine tkH 24 (.bool false) ?_
    refine wpAnyH_done (by kernel_rfl) ?_ _
    try simp only [Act.put, sT, s0, sS]
    clear c4 c7 cx
    have HT3 := Lib.hid (hS)
    clear hS
    go_wp2_with fail
    go_roundw
    case rel => exact ⟨i + 1, vb, by omega, by go_num, by rw [HS.out]; exact HQW.out.touch HT3.out (by simp), HTW.out.trans HT3.out (by simp), HVB.out⟩
    case measure => simp [intOf]; omega
   | true =>
    have HXB := Lib.hid (show x.b = false by simpa using hfam)
    clear hfam
    cases hval : x.valid with
    | false =>
     have HVL := Lib.hid (validA x false hval)
     have HS := Lib.hid (show ansL false s.q4.l (l.take (i + 1)) = A0 by rw [HST.out]; unfold ansS; rw [if_neg (by intro h; rw [hval] at h; simp at h)])
     clear hval
     refine wp_region_held (S := Touch [] B.drew) (by kernel_rfl) ?_
     change wpAnyH _ _ _ _ _ _ _ _ B.drew
     have HQW := Lib.hid (HQB.out.touch ((Touch.refl [] B).drew) (by simp))
     have HRW := Lib.hid (((Touch.refl [] B).drew).range HRX.out (by simp))
     have HTW := Lib.hid (HT.out.trans HTB.out.drew (by simp))
     have zW : B.drew.heap.size = gb + 1 := zB2
     generalize B.drew = W at *
     have hS := Touch.refl [] W
     obtain ⟨_, _, _, _, c4, _, _, c7⟩ := HQW.out.cells
     rw [HBF.out] at c4
     have cx : W.cell? ⟨gb, 0, none⟩ = some (.bool false) := by rw [← HXB.out]; simpa using HRW.out 0 (.bool x.b) rfl
     obtain ⟨bB, hrB, _⟩ := (show OwnA w0 W vb A0 from HQW.out.o4).rd
     have HRB := Lib.hid hrB
     clear hrB
     refine tkH 0 (.pointer (some ⟨gb, 0, none⟩)) ?_
     refine tkH 1 (.bool false) ?_ (hy := Or.inl ⟨by rfl, fun w' hw => by (have q := hw.cell cx (by simp); go_simp)⟩)
     refine tkH 2 (.bool false) ?_
     refine tkH 3 (.bool true) ?_
     refine tkH 4 (.bool true) ?_
     refine tkH 5 (.agg x.cells.toArray) ?_ (hy := Or.inl ⟨by rfl, fun w' hw => exec_load_agg _ 40 _ rfl _ _ rfl x.cells _ (hw.range HRW.out (by simp)) Tryz.underlying40 rfl (by rw [size31, HLX.out])⟩)
     refine wpAnyH_ready (rs := [6]) (by kernel_rfl) (by simp) ?_
     refine cnH rfl (fun K hK => ?_) AllReadyH.nil
     go_simp
     refine (HVL.out _).mono ?_
     rintro e w6 ⟨rfl, t6⟩
     have hS2 := hS.trans t6 (by simp)
     refine hK.out _ _ hS2 (fun _ => ?_)
     clear hK K hS t6
     have hS := hS2
     clear hS2
     try simp only [Act.put, sT, s0, sS]
     refine tkH 7 (.bool false) ?_
     refine tkH 8 (.bool false) ?_
     refine tkN 9 undef ?_
     refine tkN 10 undef ?_
     refine tkN 11 undef ?_
     refine tkN 12 undef ?_
     refine tkN 13 undef ?_
     refine tkN 14 undef ?_
     refine tkH 15 (.bool false) ?_
     refine tkH 16 (.bool false) ?_
     refine tkN 17 undef ?_
     refine tkN 18 undef ?_
     refine tkN 19 undef ?_
     refine tkN 20 undef ?_
     refine tkN 21 undef ?_
     refine tkN 22 undef ?_
     refine tkN 23 undef ?_
     refine tkH 24 (.bool false) ?_
     refine wpAnyH_done (by kernel_rfl) ?_ _
     try simp only [Act.put, sT, s0, sS]
     clear c4 c7 cx
     have HT3 := Lib.hid (hS)
     clear hS
     go_wp2_with fail
     go_roundw
     case rel => exact ⟨i + 1, vb, by omega, by go_num, by rw [HS.out]; exact HQW.out.touch HT3.out (by simp), HTW.out.trans HT3.out (by simp), HVB.out⟩
     case measure => simp [intOf]; omega
    | true =>
     have HVL := Lib.hid (validA x true hval)
     by_cases hk16 : k < 16
     ·have hk17 : (k : Int) < 16 := by omega
      have HL16 := Lib.hid (show A0.length < 16 by rw [← HK.out]; exact hk16)
      clear hk16
      cases hin2 : inL A0 x with
      | true =>
       have HS := Lib.hid (show ansL false s.q4.l (l.take (i + 1)) = A0 by rw [HST.out]; unfold ansS; rw [if_neg (by intro h; rw [hin2] at h; simp at h)])
       have HIN := Lib.hid hin2
       clear hval hin2
       refine wp_region_held (S := Touch [] B.drew) (by kernel_rfl) ?_
       change wpAnyH _ _ _ _ _ _ _ _ B.drew
       have HQW := Lib.hid (HQB.out.touch ((Touch.refl [] B).drew) (by simp))
       have HRW := Lib.hid (((Touch.refl [] B).drew).range HRX.out (by simp))
       have HTW := Lib.hid (HT.out.trans HTB.out.drew (by simp))
       have zW : B.drew.heap.size = gb + 1 := zB2
       generalize B.drew = W at *
       have hS := Touch.refl [] W
       obtain ⟨_, _, _, _, c4, _, _, c7⟩ := HQW.out.cells
       rw [HBF.out] at c4
       have cx : W.cell? ⟨gb, 0, none⟩ = some (.bool false) := by rw [← HXB.out]; simpa using HRW.out 0 (.bool x.b) rfl
       obtain ⟨bB, hrB, _⟩ := (show OwnA w0 W vb A0 from HQW.out.o4).rd
       have HRB := Lib.hid hrB
       clear hrB
       refine tkH 0 (.pointer (some ⟨gb, 0, none⟩)) ?_
       refine tkH 1 (.bool false) ?_ (hy := Or.inl ⟨by rfl, fun w' hw => by (have q := hw.cell cx (by simp); go_simp)⟩)
       refine tkH 2 (.bool false) ?_
       refine tkH 3 (.bool true) ?_
       refine tkH 4 (.bool true) ?_
       refine tkH 5 (.agg x.cells.toArray) ?_ (hy := Or.inl ⟨by rfl, fun w' hw => exec_load_agg _ 40 _ rfl _ _ rfl x.cells _ (hw.range HRW.out (by simp)) Tryz.underlying40 rfl (by rw [size31, HLX.out])⟩)
       refine wpAnyH_ready (rs := [6]) (by kernel_rfl) (by simp) ?_
       refine cnH rfl (fun K hK => ?_) AllReadyH.nil
       go_simp
       refine (HVL.out _).mono ?_
       rintro e w6 ⟨rfl, t6⟩
       have hS2 := hS.trans t6 (by simp)
       refine hK.out _ _ hS2 (fun _ => ?_)
       clear hK K hS t6
       have hS := hS2
       clear hS2
       try simp only [Act.put, sT, s0, sS]
       refine tkH 7 (.bool true) ?_
       refine tkH 8 (.bool true) ?_
       refine tkH 9 (.pointer (some ⟨h, 2, none⟩)) ?_
       refine tkH 10 (.pointer (some ⟨h, 2, none⟩)) ?_
       refine tkH 11 (.pointer (some ⟨h, 4, none⟩)) ?_
       refine tkH 12 (.slice aB k cB) ?_ (hy := Or.inl ⟨by rfl, fun w' hw => by (have q := hw.cell c4 (by simp); go_simp)⟩)
       refine tkH 13 (.int .i64 (k : Nat)) ?_
       refine tkH 14 (.bool true) ?_ (hy := Or.inl ⟨by rfl, fun w' hw => by (have q := hk17; go_simp)⟩)
       refine tkH 15 (.bool true) ?_
       refine tkH 16 (.bool true) ?_
       refine tkH 17 (.pointer (some ⟨h, 2, none⟩)) ?_
       refine tkH 18 (.pointer (some ⟨h, 2, none⟩)) ?_
       refine tkH 19 (.pointer (some ⟨h, 4, none⟩)) ?_
       refine tkH 20 (.slice aB k cB) ?_ (hy := Or.inl ⟨by rfl, fun w' hw => by (have q := hw.cell c4 (by simp); go_simp)⟩)
       refine tkH 21 (.agg x.cells.toArray) ?_ (hy := Or.inl ⟨by rfl, fun w' hw => exec_load_agg _ 40 _ rfl _ _ rfl x.cells _ (hw.range HRW.out (by simp)) Tryz.underlying40 rfl (by rw [size31, HLX.out])⟩)
       refine wpAnyH_ready (rs := [22]) (by kernel_rfl) (by simp) ?_
       refine cnH rfl (fun K hK => ?_) AllReadyH.nil
       go_simp
       refine (hasA _ bB A0 x true HIN.out _ (by rw [← HBF.out]; exact HRB.out.touch hS (by simp))).mono ?_
       rintro e w22 ⟨rfl, t22⟩
       have hS2 := hS.trans t22 (by simp)
       refine hK.out _ _ hS2 (fun _ => ?_)
       clear hK K hS t22
       have hS := hS2
       clear hS2
       try simp only [Act.put, sT, s0, sS]
       refine tkH 23 (.bool false) ?_
       refine tkH 24 (.bool false) ?_
       refine wpAnyH_done (by kernel_rfl) ?_ _
       try simp only [Act.put, sT, s0, sS]
       clear c4 c7 cx
       have HT3 := Lib.hid (hS)
       clear hS
       go_wp2_with fail
       go_roundw
       case rel => exact ⟨i + 1, vb, by omega, by go_num, by rw [HS.out]; exact HQW.out.touch HT3.out (by simp), HTW.out.trans HT3.out (by simp), HVB.out⟩
       case measure => simp [intOf]; omega
      | false =>
       have HS := Lib.hid (show ansL false s.q4.l (l.take (i + 1)) = A0 ++ [x] by rw [HST.out]; unfold ansS; rw [if_pos ⟨HXB.out, hval, HL16.out, hin2⟩])
       have HIN := Lib.hid hin2
       clear hval hin2
       refine wp_region_held (S := Touch [] B.drew) (by kernel_rfl) ?_
       change wpAnyH _ _ _ _ _ _ _ _ B.drew
       have HQW := Lib.hid (HQB.out.touch ((Touch.refl [] B).drew) (by simp))
       have HRW := Lib.hid (((Touch.refl [] B).drew).range HRX.out (by simp))
       have HTW := Lib.hid (HT.out.trans HTB.out.drew (by simp))
       have zW : B.drew.heap.size = gb + 1 := zB2
       generalize B.drew = W at *
       have hS := Touch.refl [] W
       obtain ⟨_, _, _, _, c4, _, _, c7⟩ := HQW.out.cells
       rw [HBF.out] at c4
       have cx : W.cell? ⟨gb, 0, none⟩ = some (.bool false) := by rw [← HXB.out]; simpa using HRW.out 0 (.bool x.b) rfl
       obtain ⟨bB, hrB, _⟩ := (show OwnA w0 W vb A0 from HQW.out.o4).rd
       have HRB := Lib.hid hrB
       clear hrB
       refine tkH 0 (.pointer (some ⟨gb, 0, none⟩)) ?_
       refine tkH 1 (.bool false) ?_ (hy := Or.inl ⟨by rfl, fun w' hw => by (have q := hw.cell cx (by simp); go_simp)⟩)
       refine tkH 2 (.bool false) ?_
       refine tkH 3 (.bool true) ?_
       refine tkH 4 (.bool true) ?_
       refine tkH 5 (.agg x.cells.toArray) ?_ (hy := Or.inl ⟨by rfl, fun w' hw => exec_load_agg _ 40 _ rfl _ _ rfl x.cells _ (hw.range HRW.out (by simp)) Tryz.underlying40 rfl (by rw [size31, HLX.out])⟩)
       refine wpAnyH_ready (rs := [6]) (by kernel_rfl) (by simp) ?_
       refine cnH rfl (fun K hK => ?_) AllReadyH.nil
       go_simp
       refine (HVL.out _).mono ?_
       rintro e w6 ⟨rfl, t6⟩
       have hS2 := hS.trans t6 (by simp)
       refine hK.out _ _ hS2 (fun _ => ?_)
       clear hK K hS t6
       have hS := hS2
       clear hS2
       try simp only [Act.put, sT, s0, sS]
       refine tkH 7 (.bool true) ?_
       refine tkH 8 (.bool true) ?_
       refine tkH 9 (.pointer (some ⟨h, 2, none⟩)) ?_
       refine tkH 10 (.pointer (some ⟨h, 2, none⟩)) ?_
       refine tkH 11 (.pointer (some ⟨h, 4, none⟩)) ?_
       refine tkH 12 (.slice aB k cB) ?_ (hy := Or.inl ⟨by rfl, fun w' hw => by (have q := hw.cell c4 (by simp); go_simp)⟩)
       refine tkH 13 (.int .i64 (k : Nat)) ?_
       refine tkH 14 (.bool true) ?_ (hy := Or.inl ⟨by rfl, fun w' hw => by (have q := hk17; go_simp)⟩)
       refine tkH 15 (.bool true) ?_
       refine tkH 16 (.bool true) ?_
       refine tkH 17 (.pointer (some ⟨h, 2, none⟩)) ?_
       refine tkH 18 (.pointer (some ⟨h, 2, none⟩)) ?_
       refine tkH 19 (.pointer (some ⟨h, 4, none⟩)) ?_
       refine tkH 20 (.slice aB k cB) ?_ (hy := Or.inl ⟨by rfl, fun w' hw => by (have q := hw.cell c4 (by simp); go_simp)⟩)
       refine tkH 21 (.agg x.cells.toArray) ?_ (hy := Or.inl ⟨by rfl, fun w' hw => exec_load_agg _ 40 _ rfl _ _ rfl x.cells _ (hw.range HRW.out (by simp)) Tryz.underlying40 rfl (by rw [size31, HLX.out])⟩)
       refine wpAnyH_ready (rs := [22]) (by kernel_rfl) (by simp) ?_
       refine cnH rfl (fun K hK => ?_) AllReadyH.nil
       go_simp
       refine (hasA _ bB A0 x false HIN.out _ (by rw [← HBF.out]; exact HRB.out.touch hS (by simp))).mono ?_
       rintro e w22 ⟨rfl, t22⟩
       have hS2 := hS.trans t22 (by simp)
       refine hK.out _ _ hS2 (fun _ => ?_)
       clear hK K hS t22
       have hS := hS2
       clear hS2
       try simp only [Act.put, sT, s0, sS]
       refine tkH 23 (.bool true) ?_
       refine tkH 24 (.bool true) ?_
       refine wpAnyH_done (by kernel_rfl) ?_ _
       try simp only [Act.put, sT, s0, sS]
       clear c4 c7 cx
       have HT3 := Lib.hid hS
       have HQ3 := Lib.hid (HQW.out.touch HT3.out (by simp))
       have HX3 := Lib.hid (HT3.out.range HRW.out (by simp))
       have HTT := Lib.hid (HTW.out.trans HT3.out (by simp))
       clear hS
       go_wp2_with fail
       refine wp_region_F (S := Touch vb.ownBlock.toList w22.drew) [10] (by kernel_rfl) ?_
       change wpAnyF _ _ _ _ _ _ _ _ _ w22.drew
       have HQX := Lib.hid (HQ3.out.touch ((Touch.refl [] w22).drew) (by simp))
       have HRX3 := Lib.hid (((Touch.refl [] w22).drew).range HX3.out (by simp))
       have HTX := Lib.hid (HTT.out.drew)
       have zX : gb < w22.drew.heap.size := by have := HT3.out.size; simp; omega
       generalize w22.drew = X at *
       have hS := Touch.refl vb.ownBlock.toList X
       obtain ⟨_, _, _, _, c4, _, _, c7⟩ := HQX.out.cells
       rw [HBF.out] at c4
       have hhb : h ∉ vb.ownBlock.toList := by intro hm; exact HQX.out.h4 (by simpa using hm)
       have hgb2 : gb ∉ vb.ownBlock.toList := by intro hm; have h1 := HGN.out gb (by simpa using hm); omega
       have HO := Lib.hid (show OwnA w0 X vb A0 from HQX.out.o4)
       have hzX : w0.heap.size ≤ X.heap.size := by have h1 := HTX.out.size; have h2 := HHZ.out; omega
       have hl1 : (A0.length + 1) * 17 ≤ 140737488355328 := by have := HL16.out; omega
       refine tkF 0 (.pointer (some ⟨h, 2, none⟩)) ?_
       refine tkF 1 (.pointer (some ⟨h, 2, none⟩)) ?_
       refine tkF 2 (.pointer (some ⟨h, 2, none⟩)) ?_
       refine tkF 3 (.pointer (some ⟨h, 4, none⟩)) ?_
       refine tkF 4 (.slice aB k cB) ?_ (hy := Or.inl ⟨by rfl, fun w' hw => by (have q := hw.cell c4 hhb; go_simp)⟩)
       refine tkF 5 (.agg x.cells.toArray) ?_ (hy := Or.inl ⟨by rfl, fun w' hw => exec_load_agg _ 40 _ rfl _ _ rfl x.cells _ (hw.range HRX3.out hgb2) Tryz.underlying40 rfl (by rw [size31, HLX.out])⟩)
       refine wpAnyF_ready (rs := [6]) (by kernel_rfl) (by simp) ?_
       refine cnF rfl (fun K hK => ?_) AllReadyF.nil
       refine step_of_list rfl ?_
       refine wpList_build_ad rfl _ rfl x (by rfl) ?_
       have r6 := rd_newA X x 40
       have tA := (Touch.refl [] X).alloc (.cells [x.cells].flatten.toArray 40)
       have hS2 := hS.trans tA (by simp)
       have hO6 := (show OwnA w0 _ vb A0 from Own.touch HO.out tA (by simp))
       have zA : (X.alloc (.cells [x.cells].flatten.toArray 40)).heap.size = X.heap.size + 1 := by simp
       refine ⟨rfl, hK.out _ _ hS2 (fun _ => ?_)⟩
       clear hK K hS
       have hS := hS2
       clear hS2
       generalize hX1 : X.alloc (.cells [x.cells].flatten.toArray 40) = X1 at *
       clear hX1
       try simp only [Act.put, sT, s0, sS]
       refine wpAnyF_ready (rs := [7]) (by kernel_rfl) (by simp) ?_
       refine cnF rfl (fun K hK => ?_) AllReadyF.nil
       refine step_of_list rfl ?_
       refine wpList_app_ads w0 X1 rfl _ _ rfl vb A0 (by rw [HBF.out]; rfl) hO6 (by omega) _ _ [x] rfl r6 (by simp only [List.length_singleton]; exact hl1) ?_
       intro v7 w7 o7 t7 h7
       have hS2 := hS.trans t7 (fun y hy => .inl hy)
       refine ⟨rfl, hK.out _ _ hS2 (fun _ => ?_)⟩
       clear hK K hS
       have hS := hS2
       clear hS2
       try simp only [Act.put, sT, s0, sS]
       refine tkF 8 (.pointer (some ⟨h, 2, none⟩)) ?_
       refine tkF 9 (.pointer (some ⟨h, 4, none⟩)) ?_
       refine wpAnyF_ready (rs := [10]) (by kernel_rfl) (by simp) ?_
       refine clF rfl (by simp) (fun K hK => ?_) AllReadyF.nil
       have q1 := hS.cell c4 hhb
       have g0 : w7.frozen? ⟨h, 4, none⟩ = false := by simp [World.frozen?, hS.at HQX.out.cell hhb]
       obtain ⟨a7, c7', hv7, _, _, _⟩ := o7.form
       have HPU := HQX.out.push4 hS o7 (by simp; have := HL16.out; omega) (by rcases h7 with e | e; exact .inl e; exact .inr ⟨_, e, by omega⟩)
       have HFIN := Lib.hid (show Pr w0 (w7.setCell ⟨h, 4, none⟩ v7) h v7 v6 { s with q4 := ⟨true, now, A0 ++ [x]⟩ } ∧ Touch (h :: v4.ownBlock.toList) w (w7.setCell ⟨h, 4, none⟩ v7) ∧ (v7.ownBlock = v4.ownBlock ∨ ∃ k, v7.ownBlock = some k ∧ w.heap.size ≤ k) from ⟨HPU.1, HTX.out.trans HPU.2 (by intro y hy; simp only [List.mem_cons, Option.mem_toList] at hy ⊢; rcases hy with e | e; exact .inl (.inl e); rcases HVB.out with e2 | ⟨q, e2, hq⟩; rw [e2] at e; exact .inl (.inr e); rw [e2] at e; cases e; exact .inr hq), by rcases h7 with e | e; rw [e]; exact HVB.out; exact .inr ⟨_, e, by have := HTX.out.size; omega⟩⟩)
       clear HPU h7 t7
       rw [List.length_append, List.length_singleton] at hv7
       subst hv7
       go_simp
       refine hK.out _ _ ?_
       clear hK K
       try simp only [Act.put, sT, s0, sS]
       refine wpAnyF_done (by kernel_rfl) ?_ _
       try simp only [Act.put, sT, s0, sS]
       go_wp2_with fail
       go_roundw
       case rel => exact ⟨i + 1, _, by omega, by go_num, by rw [HS.out]; exact HFIN.out.1, HFIN.out.2.1, HFIN.out.2.2⟩
       case measure => simp [intOf]; omega
     ·have hk17 : (16 : Int) ≤ (k : Int) := by omega
      have HS := Lib.hid (show ansL false s.q4.l (l.take (i + 1)) = A0 by rw [HST.out]; unfold ansS; rw [if_neg (by intro h; have := HK.out; omega)])
      clear hk16 hval
      refine wp_region_held (S := Touch [] B.drew) (by kernel_rfl) ?_
      change wpAnyH _ _ _ _ _ _ _ _ B.drew
      have HQW := Lib.hid (HQB.out.touch ((Touch.refl [] B).drew) (by simp))
      have HRW := Lib.hid (((Touch.refl [] B).drew).range HRX.out (by simp))
      have HTW := Lib.hid (HT.out.trans HTB.out.drew (by simp))
      have zW : B.drew.heap.size = gb + 1 := zB2
      generalize B.drew = W at *
      have hS := Touch.refl [] W
      obtain ⟨_, _, _, _, c4, _, _, c7⟩ := HQW.out.cells
      rw [HBF.out] at c4
      have cx : W.cell? ⟨gb, 0, none⟩ = some (.bool false) := by rw [← HXB.out]; simpa using HRW.out 0 (.bool x.b) rfl
      obtain ⟨bB, hrB, _⟩ := (show OwnA w0 W vb A0 from HQW.out.o4).rd
      have HRB := Lib.hid hrB
      clear hrB
      refine tkH 0 (.pointer (some ⟨gb, 0, none⟩)) ?_
      refine tkH 1 (.bool false) ?_ (hy := Or.inl ⟨by rfl, fun w' hw => by (have q := hw.cell cx (by simp); go_simp)⟩)
      refine tkH 2 (.bool false) ?_
      refine tkH 3 (.bool true) ?_
      refine tkH 4 (.bool true) ?_
      refine tkH 5 (.agg x.cells.toArray) ?_ (hy := Or.inl ⟨by rfl, fun w' hw => exec_load_agg _ 40 _ rfl _ _ rfl x.cells _ (hw.range HRW.out (by simp)) Tryz.underlying40 rfl (by rw [size31, HLX.out])⟩)
      refine wpAnyH_ready (rs := [6]) (by kernel_rfl) (by simp) ?_
      refine cnH rfl (fun K hK => ?_) AllReadyH.nil
      go_simp
      refine (HVL.out _).mono ?_
      rintro e w6 ⟨rfl, t6⟩
      have hS2 := hS.trans t6 (by simp)
      refine hK.out _ _ hS2 (fun _ => ?_)
      clear hK K hS t6
      have hS := hS2
      clear hS2
      try simp only [Act.put, sT, s0, sS]
      refine tkH 7 (.bool true) ?_
      refine tkH 8 (.bool true) ?_
      refine tkH 9 (.pointer (some ⟨h, 2, none⟩)) ?_
      refine tkH 10 (.pointer (some ⟨h, 2, none⟩)) ?_
      refine tkH 11 (.pointer (some ⟨h, 4, none⟩)) ?_
      refine tkH 12 (.slice aB k cB) ?_ (hy := Or.inl ⟨by rfl, fun w' hw => by (have q := hw.cell c4 (by simp); go_simp)⟩)
      refine tkH 13 (.int .i64 (k : Nat)) ?_
      refine tkH 14 (.bool false) ?_ (hy := Or.inl ⟨by rfl, fun w' hw => by (have q := hk17; go_simp)⟩)
      refine tkH 15 (.bool false) ?_
      refine tkH 16 (.bool false) ?_
      refine tkN 17 undef ?_
      refine tkN 18 undef ?_
      refine tkN 19 undef ?_
      refine tkN 20 undef ?_
      refine tkN 21 undef ?_
      refine tkN 22 undef ?_
      refine tkN 23 undef ?_
      refine tkH 24 (.bool false) ?_
      refine wpAnyH_done (by kernel_rfl) ?_ _
      try simp only [Act.put, sT, s0, sS]
      clear c4 c7 cx
      have HT3 := Lib.hid (hS)
      clear hS
      go_wp2_with fail
      go_roundw
      case rel => exact ⟨i + 1, vb, by omega, by go_num, by rw [HS.out]; exact HQW.out.touch HT3.out (by simp), HTW.out.trans HT3.out (by simp), HVB.out⟩
      case measure => simp [intOf]; omega
  ·have HFI := Lib.hid (show l.take i = l from List.take_of_length_le (by rw [← HN.out]; omega))
   obtain ⟨_, _, _, _, c4, _, _, c7⟩ := HQI.out.cells
   rw [HBF.out] at c4
   go_wp2_with fail
   go_ret2
   refine ⟨?_, vb, by have h := HQI.out; rw [HFI.out] at h; exact h, HT.out, HVB.out⟩
   have h := HK.out
   rw [HFI.out] at h
   rw [← h]
   first | done | rfl
theorem Pr.mark6 {w0 w : World} {h : Nat} {v4 v6 : Value} {s : PS} (q : Pr w0 w h v4 v6 s) (now : Int) (hn : 0 ≤ now ∧ now ≤ maxT) :
  Pr w0 ((w.setCell ⟨h, 5, none⟩ (.bool true)).setCell ⟨h, 6, none⟩ (.int .u64 now)) h v4 v6 { s with q6 := ⟨true, now, s.q6.l⟩ } ∧ Touch [h] w ((w.setCell ⟨h, 5, none⟩ (.bool true)).setCell ⟨h, 6, none⟩ (.int .u64 now)) := by
 have t : Touch [h] w ((w.setCell ⟨h, 5, none⟩ (.bool true)).setCell ⟨h, 6, none⟩ (.int .u64 now)) := ((Touch.refl [h] w).setCell (p := ⟨h, 5, none⟩) (.inl (by simp)) _).setCell (p := ⟨h, 6, none⟩) (.inl (by simp)) _
 refine ⟨⟨?_, q.new, Own.touch q.o4 t (fun g hg => by simp; intro e; subst e; exact q.h4 hg), Own.touch q.o6 t (fun g hg => by simp; intro e; subst e; exact q.h6 hg), q.h4, q.h6, q.h46, q.n4, q.n6, q.d, q.e4, hn⟩, t⟩
 simp [World.setCell, Array.getElem?_modify, q.cell]
theorem Pr.push6 {w0 w w2 : World} {h : Nat} {v4 v6 v2 : Value} {s : PS} {L : List Ad} (q : Pr w0 w h v4 v6 s) (t : Touch v6.ownBlock.toList w w2) (o : OwnA w0 w2 v2 L) (hL : L.length ≤ 16) (hv : v2.ownBlock = v6.ownBlock ∨ ∃ k, v2.ownBlock = some k ∧ w.heap.size ≤ k) :
  Pr w0 (w2.setCell ⟨h, 7, none⟩ v2) h v4 v2 { s with q6 := ⟨s.q6.a, s.q6.t, L⟩ } ∧ Touch (h :: v6.ownBlock.toList) w (w2.setCell ⟨h, 7, none⟩ v2) := by
 have hlt : h < w.heap.size := (Array.getElem?_eq_some_iff.1 q.cell).1
 have hc := t.at q.cell (by intro hm; exact q.h6 (by simpa using hm))
 have t2 : Touch [h] w2 (w2.setCell ⟨h, 7, none⟩ v2) := (Touch.refl [h] w2).setCell (p := ⟨h, 7, none⟩) (.inl (by simp)) _
 have hne : v2.ownBlock ≠ some h := by
  rcases hv with e | ⟨k, e, hk⟩
  ·rw [e]; exact q.h6
  ·rw [e]; intro e2; cases e2; omega
 have hoth : OwnA w0 w2 v4 s.q4.l := Own.touch q.o4 t (fun g hg hm => q.h46 g hg (by simpa using hm))
 have hoth2 : OwnA w0 (w2.setCell ⟨h, 7, none⟩ v2) v4 s.q4.l := Own.touch hoth t2 (fun g hg => by simp; intro e; subst e; exact q.h4 hg)
 have hown2 : OwnA w0 (w2.setCell ⟨h, 7, none⟩ v2) v2 L := Own.touch o t2 (fun g hg => by simp; intro e; subst e; exact hne hg)
 have hdis : ∀ g, v2.ownBlock = some g → v4.ownBlock ≠ some g := by
  intro g hg hx
  rcases hv with e | ⟨k, e, hk⟩
  ·rw [e] at hg; exact q.h46 g hx hg
  ·rw [e] at hg; cases hg
   have := Own.lt q.o4 _ hx
   omega
 refine ⟨⟨?_, q.new, hoth2, hown2, q.h4, hne, fun g hg hx => hdis g hx hg, q.n4, hL, q.d, q.e4, q.e6⟩, ?_⟩
 ·simp [World.setCell, Array.getElem?_modify, hc]
 ·exact (t.mono (fun x hx => .inl (by simp; right; simpa using hx))).trans t2 (fun x hx => .inl (by simp at hx; simp [hx]))
set_option maxRecDepth 100000 in
set_option maxHeartbeats 400000 in
theorem pansD6 (w0 w : World) (h : Nat) (v4 v6 : Value) (s : PS) (q : Pr w0 w h v4 v6 s) (now : Int) (v : Value) (hr : s.canc = false) (ha : s.q6.a = true) :
  Calls Tryz.prog 60 #[.pointer (some ⟨h, 0, none⟩), .int .u64 now, .bool true, v] w fun e w' => e = .returned (.tuple #[.int .i64 0, .int .i64 5]) ∧ w = w' := by
 obtain ⟨_, c1, c2, _, _, c5, _, _⟩ := q.cells
 rw [hr] at c1
 rw [ha] at c5
 clear q hr ha
 go_enter Tryz.func60, Tryz.ntmps60
 go_wp2_with fail
 refine (fam6_any h w).mono ?_
 rintro e _ ⟨rfl, rfl⟩
 go_wp2_with fail
 go_ret2
 exact ⟨rfl, rfl⟩
set_option maxRecDepth 100000 in
set_option maxHeartbeats 8000000 in
theorem pans6 (w0 w : World) (h : Nat) (v4 v6 : Value) (s : PS) (q : Pr w0 w h v4 v6 s) (hz : w0.heap.size ≤ w.heap.size) (now : Int) (hnow : 0 ≤ now ∧ now ≤ maxT) (hr : s.canc = false) (ha : s.q6.a = false) (v : Value) (b : Nat) (l : List Ad) (hv : Rd w 17 b v (l.map Ad.cells)) (hb : l ≠ [] → b ∉ pfoot h v4 v6) :
  Calls Tryz.prog 60 #[.pointer (some ⟨h, 0, none⟩), .int .u64 now, .bool true, v] w fun e w' => ∃ v', e = .returned (.tuple #[.int .i64 ((ansL true s.q6.l l).length : Nat), .int .i64 0]) ∧ Pr w0 w' h v4 v' { s with q6 := ⟨true, now, ansL true s.q6.l l⟩ } ∧ Touch (h :: v6.ownBlock.toList) w w' ∧ (v'.ownBlock = v6.ownBlock ∨ ∃ k, v'.ownBlock = some k ∧ w.heap.size ≤ k) := by
 obtain ⟨a, cap, rfl, hlc, hcm⟩ := hv.form
 simp only [List.length_map] at *
 obtain ⟨n, hn⟩ : ∃ n, n = l.length := ⟨_, rfl⟩
 have HN := Lib.hid hn
 have HV := Lib.hid hv
 have HHB := Lib.hid hb
 obtain ⟨_, c1, c2, c3, _, c5, c6, _⟩ := q.cells
 rw [hr] at c1
 rw [ha] at c5
 have f1 := q.free 5
 have f2 := q.free 6
 obtain ⟨m1, m2⟩ := q.mark6 now hnow
 have HM := Lib.hid m1
 have HMT := Lib.hid m2
 have hn16 := q.n6
 have hnL : n ≤ 9223372036854775807 := by unfold maxLen at hcm; omega
 have HHZ := Lib.hid hz
 have HHL := Lib.hid (show ∀ g ∈ pfoot h v4 v6, g < w.heap.size from fun g hg => (q.lt g hg).2)
 rw [← hn] at HV ⊢
 clear hv hn hlc hcm hb q hr ha m1 m2
 go_enter Tryz.func60, Tryz.ntmps60
 go_wp2_with fail
 refine (fam6_any h w).mono ?_
 rintro e _ ⟨rfl, rfl⟩
 go_wp2_with fail
 generalize (w.setCell ⟨h, 5, none⟩ (.bool true)).setCell ⟨h, 6, none⟩ (.int .u64 now) = W0 at *
 clear c1 c2 c3 c5 c6 f1 f2
 go_loopw [35] (fun vi wr => ∃ (i : Nat) (vb : Value), i ≤ n ∧ vi = .int .i64 i ∧ Pr w0 wr h v4 vb { s with q6 := ⟨true, now, ansL true s.q6.l (l.take i)⟩ } ∧ Touch (h :: v6.ownBlock.toList) w wr ∧ (vb.ownBlock = v6.ownBlock ∨ ∃ k, vb.ownBlock = some k ∧ w.heap.size ≤ k)) (fun vi _ => n - (intOf vi).toNat)
 case atStart => exact ⟨0, v6, by omega, rfl, by simpa [ansL] using HM.out, HMT.out.mono (by simp), .inl rfl⟩
 case round =>
  obtain ⟨i, vb, hin, rfl, hq, ht, hvb⟩ := hrel
  have HQI := Lib.hid hq
  have HT := Lib.hid ht
  have HVB := Lib.hid hvb
  have hlen : (ansL true s.q6.l (l.take i)).length ≤ 16 := ansL_len hn16
  obtain ⟨aB, cB, hvbf, hlB, hcB, _⟩ := (show OwnA w0 wr vb (ansL true s.q6.l (l.take i)) from hq.o6).form
  have HBF := Lib.hid hvbf
  obtain ⟨k, hk⟩ : ∃ k, k = (ansL true s.q6.l (l.take i)).length := ⟨_, rfl⟩
  have HK := Lib.hid hk
  rw [← hk] at hlB HBF hlen
  clear hq ht hvb hvbf hk HM HMT
  by_cases hlt : i < n
  ·obtain ⟨x, hx⟩ : ∃ x, l[i]? = some x := ⟨_, List.getElem?_eq_getElem (by rw [← HN.out]; exact hlt)⟩
   obtain ⟨o1, rfl, hat1⟩ := HV.out.at (by intro e; rw [List.map_eq_nil_iff] at e; rw [e] at hx; simp at hx)
   have hbn := HHB.out (by intro e; rw [e] at hx; simp at hx)
   have r1 := HT.out.range (hat1 i x.cells (by simp [hx])) (by intro hm; apply hbn; simp only [pfoot, List.mem_cons, List.mem_append] at hm ⊢; rcases hm with e | e; exact .inl e; exact .inr (.inr e))
   have HLX := Lib.hid x.len
   have HST := Lib.hid (ansL_step true s.q6.l l i x hx)
   have hwi : IntKind.i64.wrap ((i : Int) + 1) = (i : Int) + 1 := by rw [IntKind.wrap_i64] <;> omega
   have hin2 : (i : Int) < (n : Int) := by omega
   have HN0 := Lib.hid (heap_alloc_new wr (.cells (adr false (List.replicate 16 0)).toArray 40))
   have HNT := Lib.hid ((Touch.refl [] wr).alloc (.cells (adr false (List.replicate 16 0)).toArray 40))
   clear hx hat1 hbn
   go_wp2_with (first
    | ((with_reducible refine at_load 40 ?_); refine wpList_load_mid rfl 40 _ rfl b (o1 + i * 17) rfl x.cells _ r1 Tryz.underlying40 rfl (by rw [size31, HLX.out]) ?_)
    | ((with_reducible refine at_store 40 ?_); refine wpList_store_into rfl 40 _ _ rfl wr.heap.size 40 _ x.cells rfl rfl HN0.out (by rw [HLX.out]; rfl) (by rw [size31, HLX.out]) x.one ?_))
   intro B hB tB0 zB
   have tB := HNT.out.trans tB0 (by intro y hy; right; simp at hy; omega)
   have HQB := Lib.hid (HQI.out.touch tB (by simp))
   have HTB := Lib.hid tB
   have HRX := Lib.hid (range_block hB)
   have zB2 : B.heap.size = wr.heap.size + 1 := by simpa using zB
   have HGN := Lib.hid (show ∀ g, vb.ownBlock = some g → g < wr.heap.size from fun g hg => Own.lt HQI.out.o6 g hg)
   generalize hgb : wr.heap.size = gb at *
   have HGB := Lib.hid hgb
   clear tB tB0 hB HNT HN0 r1 hgb zB HQI
   go_wp2_with fail
   generalize hA0 : ansL true s.q6.l (l.take i) = A0 at *
   clear hA0
   cases hfam : decide (x.b = true) with
   | false =>
    have HS := Lib.hid (show ansL true s.q6.l (l.take (i + 1)) = A0 by rw [HST.out]; unfold ansS; rw [if_neg (by intro h; rw [decide_eq_false_iff_not] at hfam; exact hfam h.1)])
    have HXB := Lib.hid (show x.b = false by cases hxb : x.b <;> simp [hxb] at hfam <;> rfl)
    clear hfam
    refine wp_region_held (S := Touch [] B.drew) (by kernel_rfl) ?_
    change wpAnyH _ _ _ _ _ _ _ _ B.drew
    have HQW := Lib.hid (HQB.out.touch ((Touch.refl [] B).drew) (by simp))
    have HRW := Lib.hid (((Touch.refl [] B).drew).range HRX.out (by simp))
    have HTW := Lib.hid (HT.out.trans HTB.out.drew (by simp))
    have zW : B.drew.heap.size = gb + 1 := zB2
    generalize B.drew = W at *
    have hS := Touch.refl [] W
    obtain ⟨_, _, _, _, c4, _, _, c7⟩ := HQW.out.cells
    rw [HBF.out] at c7
    have cx : W.cell? ⟨gb, 0, none⟩ = some (.bool false) := by rw [← HXB.out]; simpa using HRW.out 0 (.bool x.b) rfl
    obtain ⟨bB, hrB, _⟩ := (show OwnA w0 W vb A0 from HQW.out.o6).rd
    have HRB := Lib.hid hrB
    clear hrB
    refine tkH 0 (.pointer (some ⟨gb, 0, none⟩)) ?_
    refine tkH 1 (.bool false) ?_ (hy := Or.inl ⟨by rfl, fun w' hw => by (have q := hw.cell cx (by simp); go_simp)⟩)
    refine tkH 2 (.bool true) ?_
    refine tkH 3 (.bool false) ?_
    refine tkH 4 (.bool false) ?_
    refine tkN 5 undef ?_
    refine tkN 6 undef ?_
    refine tkH 7 (.bool false) ?_
    refine tkH 8 (.bool false) ?_
    refine tkN 9 undef ?_
    refine tkN 10 undef ?_
    refine tkN 11 undef ?_
    refine tkN 12 undef ?_
    refine tkN 13 undef ?_
    refine tkN 14 undef ?_
    refine tkH 15 (.bool false) ?_
    refine tkH 16 (.bool false) ?_
    refine tkN 17 undef ?_
    refine tkN 18 undef ?_
    refine tkN 19 undef ?_
    refine tkN 20 undef ?_
    refine tkN 21 undef ?_
    refine tkN 22 undef ?_
    refine tkN 23 undef ?_
    refine tkH 24 (.bool false) ?_
    refine wpAnyH_done (by kernel_rfl) ?_ _
    try simp only [Act.put, sT, s0, sS]
    clear c4 c7 cx
    have HT3 := Lib.hid (hS)
    clear hS
    go_wp2_with fail
    go_roundw
    case rel => exact ⟨i + 1, vb, by omega, by go_num, by rw [HS.out]; exact HQW.out.touch HT3.out (by simp), HTW.out.trans HT3.out (by simp), HVB.out⟩
    case measure => simp [intOf]; omega
   | true =>
    have HXB := Lib.hid (show x.b = true by simpa using hfam)
    clear hfam
    cases hval : x.valid with
    | false =>
     have HVL := Lib.hid (validA x false hval)
     have HS := Lib.hid (show ansL true s.q6.l (l.take (i + 1)) = A0 by rw [HST.out]; unfold ansS; rw [if_neg (by intro h; rw [hval] at h; simp at h)])
     clear hval
     refine wp_region_held (S := Touch [] B.drew) (by kernel_rfl) ?_
     change wpAnyH _ _ _ _ _ _ _ _ B.drew
     have HQW := Lib.hid (HQB.out.touch ((Touch.refl [] B).drew) (by simp))
     have HRW := Lib.hid (((Touch.refl [] B).drew).range HRX.out (by simp))
     have HTW := Lib.hid (HT.out.trans HTB.out.drew (by simp))
     have zW : B.drew.heap.size = gb + 1 := zB2
     generalize B.drew = W at *
     have hS := Touch.refl [] W
     obtain ⟨_, _, _, _, c4, _, _, c7⟩ := HQW.out.cells
     rw [HBF.out] at c7
     have cx : W.cell? ⟨gb, 0, none⟩ = some (.bool true) := by rw [← HXB.out]; simpa using HRW.out 0 (.bool x.b) rfl
     obtain ⟨bB, hrB, _⟩ := (show OwnA w0 W vb A0 from HQW.out.o6).rd
     have HRB := Lib.hid hrB
     clear hrB
     refine tkH 0 (.pointer (some ⟨gb, 0, none⟩)) ?_
     refine tkH 1 (.bool true) ?_ (hy := Or.inl ⟨by rfl, fun w' hw => by (have q := hw.cell cx (by simp); go_simp)⟩)
     refine tkH 2 (.bool true) ?_
     refine tkH 3 (.bool true) ?_
     refine tkH 4 (.bool true) ?_
     refine tkH 5 (.agg x.cells.toArray) ?_ (hy := Or.inl ⟨by rfl, fun w' hw => exec_load_agg _ 40 _ rfl _ _ rfl x.cells _ (hw.range HRW.out (by simp)) Tryz.underlying40 rfl (by rw [size31, HLX.out])⟩)
     refine wpAnyH_ready (rs := [6]) (by kernel_rfl) (by simp) ?_
     refine cnH rfl (fun K hK => ?_) AllReadyH.nil
     go_simp
     refine (HVL.out _).mono ?_
     rintro e w6 ⟨rfl, t6⟩
     have hS2 := hS.trans t6 (by simp)
     refine hK.out _ _ hS2 (fun _ => ?_)
     clear hK K hS t6
     have hS := hS2
     clear hS2
     try simp only [Act.put, sT, s0, sS]
     refine tkH 7 (.bool false) ?_
     refine tkH 8 (.bool false) ?_
     refine tkN 9 undef ?_
     refine tkN 10 undef ?_
     refine tkN 11 undef ?_
     refine tkN 12 undef ?_
     refine tkN 13 undef ?_
     refine tkN 14 undef ?_
     refine tkH 15 (.bool false) ?_
     refine tkH 16 (.bool false) ?_
     refine tkN 17 undef ?_
     refine tkN 18 undef ?_
     refine tkN 19 undef ?_
     refine tkN 20 undef ?_
     refine tkN 21 undef ?_
     refine tkN 22 undef ?_
     refine tkN 23 undef ?_
     refine tkH 24 (.bool false) ?_
     refine wpAnyH_done (by kernel_rfl) ?_ _
     try simp only [Act.put, sT, s0, sS]
     clear c4 c7 cx
     have HT3 := Lib.hid (hS)
     clear hS
     go_wp2_with fail
     go_roundw
     case rel => exact ⟨i + 1, vb, by omega, by go_num, by rw [HS.out]; exact HQW.out.touch HT3.out (by simp), HTW.out.trans HT3.out (by simp), HVB.out⟩
     case measure => simp [intOf]; omega
    | true =>
     have HVL := Lib.hid (validA x true hval)
     by_cases hk16 : k < 16
     ·have hk17 : (k : Int) < 16 := by omega
      have HL16 := Lib.hid (show A0.length < 16 by rw [← HK.out]; exact hk16)
      clear hk16
      cases hin2 : inL A0 x with
      | true =>
       have HS := Lib.hid (show ansL true s.q6.l (l.take (i + 1)) = A0 by rw [HST.out]; unfold ansS; rw [if_neg (by intro h; rw [hin2] at h; simp at h)])
       have HIN := Lib.hid hin2
       clear hval hin2
       refine wp_region_held (S := Touch [] B.drew) (by kernel_rfl) ?_
       change wpAnyH _ _ _ _ _ _ _ _ B.drew
       have HQW := Lib.hid (HQB.out.touch ((Touch.refl [] B).drew) (by simp))
       have HRW := Lib.hid (((Touch.refl [] B).drew).range HRX.out (by simp))
       have HTW := Lib.hid (HT.out.trans HTB.out.drew (by simp))
       have zW : B.drew.heap.size = gb + 1 := zB2
       generalize B.drew = W at *
       have hS := Touch.refl [] W
       obtain ⟨_, _, _, _, c4, _, _, c7⟩ := HQW.out.cells
       rw [HBF.out] at c7
       have cx : W.cell? ⟨gb, 0, none⟩ = some (.bool true) := by rw [← HXB.out]; simpa using HRW.out 0 (.bool x.b) rfl
       obtain ⟨bB, hrB, _⟩ := (show OwnA w0 W vb A0 from HQW.out.o6).rd
       have HRB := Lib.hid hrB
       clear hrB
       refine tkH 0 (.pointer (some ⟨gb, 0, none⟩)) ?_
       refine tkH 1 (.bool true) ?_ (hy := Or.inl ⟨by rfl, fun w' hw => by (have q := hw.cell cx (by simp); go_simp)⟩)
       refine tkH 2 (.bool true) ?_
       refine tkH 3 (.bool true) ?_
       refine tkH 4 (.bool true) ?_
       refine tkH 5 (.agg x.cells.toArray) ?_ (hy := Or.inl ⟨by rfl, fun w' hw => exec_load_agg _ 40 _ rfl _ _ rfl x.cells _ (hw.range HRW.out (by simp)) Tryz.underlying40 rfl (by rw [size31, HLX.out])⟩)
       refine wpAnyH_ready (rs := [6]) (by kernel_rfl) (by simp) ?_
       refine cnH rfl (fun K hK => ?_) AllReadyH.nil
       go_simp
       refine (HVL.out _).mono ?_
       rintro e w6 ⟨rfl, t6⟩
       have hS2 := hS.trans t6 (by simp)
       refine hK.out _ _ hS2 (fun _ => ?_)
       clear hK K hS t6
       have hS := hS2
       clear hS2
       try simp only [Act.put, sT, s0, sS]
       refine tkH 7 (.bool true) ?_
       refine tkH 8 (.bool true) ?_
       refine tkH 9 (.pointer (some ⟨h, 5, none⟩)) ?_
       refine tkH 10 (.pointer (some ⟨h, 5, none⟩)) ?_
       refine tkH 11 (.pointer (some ⟨h, 7, none⟩)) ?_
       refine tkH 12 (.slice aB k cB) ?_ (hy := Or.inl ⟨by rfl, fun w' hw => by (have q := hw.cell c7 (by simp); go_simp)⟩)
       refine tkH 13 (.int .i64 (k : Nat)) ?_
       refine tkH 14 (.bool true) ?_ (hy := Or.inl ⟨by rfl, fun w' hw => by (have q := hk17; go_simp)⟩)
       refine tkH 15 (.bool true) ?_
       refine tkH 16 (.bool true) ?_
       refine tkH 17 (.pointer (some ⟨h, 5, none⟩)) ?_
       refine tkH 18 (.pointer (some ⟨h, 5, none⟩)) ?_
       refine tkH 19 (.pointer (some ⟨h, 7, none⟩)) ?_
       refine tkH 20 (.slice aB k cB) ?_ (hy := Or.inl ⟨by rfl, fun w' hw => by (have q := hw.cell c7 (by simp); go_simp)⟩)
       refine tkH 21 (.agg x.cells.toArray) ?_ (hy := Or.inl ⟨by rfl, fun w' hw => exec_load_agg _ 40 _ rfl _ _ rfl x.cells _ (hw.range HRW.out (by simp)) Tryz.underlying40 rfl (by rw [size31, HLX.out])⟩)
       refine wpAnyH_ready (rs := [22]) (by kernel_rfl) (by simp) ?_
       refine cnH rfl (fun K hK => ?_) AllReadyH.nil
       go_simp
       refine (hasA _ bB A0 x true HIN.out _ (by rw [← HBF.out]; exact HRB.out.touch hS (by simp))).mono ?_
       rintro e w22 ⟨rfl, t22⟩
       have hS2 := hS.trans t22 (by simp)
       refine hK.out _ _ hS2 (fun _ => ?_)
       clear hK K hS t22
       have hS := hS2
       clear hS2
       try simp only [Act.put, sT, s0, sS]
       refine tkH 23 (.bool false) ?_
       refine tkH 24 (.bool false) ?_
       refine wpAnyH_done (by kernel_rfl) ?_ _
       try simp only [Act.put, sT, s0, sS]
       clear c4 c7 cx
       have HT3 := Lib.hid (hS)
       clear hS
       go_wp2_with fail
       go_roundw
       case rel => exact ⟨i + 1, vb, by omega, by go_num, by rw [HS.out]; exact HQW.out.touch HT3.out (by simp), HTW.out.trans HT3.out (by simp), HVB.out⟩
       case measure => simp [intOf]; omega
      | false =>
       have HS := Lib.hid (show ansL true s.q6.l (l.take (i + 1)) = A0 ++ [x] by rw [HST.out]; unfold ansS; rw [if_pos ⟨HXB.out, hval, HL16.out, hin2⟩])
       have HIN := Lib.hid hin2
       clear hval hin2
       refine wp_region_held (S := Touch [] B.drew) (by kernel_rfl) ?_
       change wpAnyH _ _ _ _ _ _ _ _ B.drew
       have HQW := Lib.hid (HQB.out.touch ((Touch.refl [] B).drew) (by simp))
       have HRW := Lib.hid (((Touch.refl [] B).drew).range HRX.out (by simp))
       have HTW := Lib.hid (HT.out.trans HTB.out.drew (by simp))
       have zW : B.drew.heap.size = gb + 1 := zB2
       generalize B.drew = W at *
       have hS := Touch.refl [] W
       obtain ⟨_, _, _, _, c4, _, _, c7⟩ := HQW.out.cells
       rw [HBF.out] at c7
       have cx : W.cell? ⟨gb, 0, none⟩ = some (.bool true) := by rw [← HXB.out]; simpa using HRW.out 0 (.bool x.b) rfl
       obtain ⟨bB, hrB, _⟩ := (show OwnA w0 W vb A0 from HQW.out.o6).rd
       have HRB := Lib.hid hrB
       clear hrB
       refine tkH 0 (.pointer (some ⟨gb, 0, none⟩)) ?_
       refine tkH 1 (.bool true) ?_ (hy := Or.inl ⟨by rfl, fun w' hw => by (have q := hw.cell cx (by simp); go_simp)⟩)
       refine tkH 2 (.bool true) ?_
       refine tkH 3 (.bool true) ?_
       refine tkH 4 (.bool true) ?_
       refine tkH 5 (.agg x.cells.toArray) ?_ (hy := Or.inl ⟨by rfl, fun w' hw => exec_load_agg _ 40 _ rfl _ _ rfl x.cells _ (hw.range HRW.out (by simp)) Tryz.underlying40 rfl (by rw [size31, HLX.out])⟩)
       refine wpAnyH_ready (rs := [6]) (by kernel_rfl) (by simp) ?_
       refine cnH rfl (fun K hK => ?_) AllReadyH.nil
       go_simp
       refine (HVL.out _).mono ?_
       rintro e w6 ⟨rfl, t6⟩
       have hS2 := hS.trans t6 (by simp)
       refine hK.out _ _ hS2 (fun _ => ?_)
       clear hK K hS t6
       have hS := hS2
       clear hS2
       try simp only [Act.put, sT, s0, sS]
       refine tkH 7 (.bool true) ?_
       refine tkH 8 (.bool true) ?_
       refine tkH 9 (.pointer (some ⟨h, 5, none⟩)) ?_
       refine tkH 10 (.pointer (some ⟨h, 5, none⟩)) ?_
       refine tkH 11 (.pointer (some ⟨h, 7, none⟩)) ?_
       refine tkH 12 (.slice aB k cB) ?_ (hy := Or.inl ⟨by rfl, fun w' hw => by (have q := hw.cell c7 (by simp); go_simp)⟩)
       refine tkH 13 (.int .i64 (k : Nat)) ?_
       refine tkH 14 (.bool true) ?_ (hy := Or.inl ⟨by rfl, fun w' hw => by (have q := hk17; go_simp)⟩)
       refine tkH 15 (.bool true) ?_
       refine tkH 16 (.bool true) ?_
       refine tkH 17 (.pointer (some ⟨h, 5, none⟩)) ?_
       refine tkH 18 (.pointer (some ⟨h, 5, none⟩)) ?_
       refine tkH 19 (.pointer (some ⟨h, 7, none⟩)) ?_
       refine tkH 20 (.slice aB k cB) ?_ (hy := Or.inl ⟨by rfl, fun w' hw => by (have q := hw.cell c7 (by simp); go_simp)⟩)
       refine tkH 21 (.agg x.cells.toArray) ?_ (hy := Or.inl ⟨by rfl, fun w' hw => exec_load_agg _ 40 _ rfl _ _ rfl x.cells _ (hw.range HRW.out (by simp)) Tryz.underlying40 rfl (by rw [size31, HLX.out])⟩)
       refine wpAnyH_ready (rs := [22]) (by kernel_rfl) (by simp) ?_
       refine cnH rfl (fun K hK => ?_) AllReadyH.nil
       go_simp
       refine (hasA _ bB A0 x false HIN.out _ (by rw [← HBF.out]; exact HRB.out.touch hS (by simp))).mono ?_
       rintro e w22 ⟨rfl, t22⟩
       have hS2 := hS.trans t22 (by simp)
       refine hK.out _ _ hS2 (fun _ => ?_)
       clear hK K hS t22
       have hS := hS2
       clear hS2
       try simp only [Act.put, sT, s0, sS]
       refine tkH 23 (.bool true) ?_
       refine tkH 24 (.bool true) ?_
       refine wpAnyH_done (by kernel_rfl) ?_ _
       try simp only [Act.put, sT, s0, sS]
       clear c4 c7 cx
       have HT3 := Lib.hid hS
       have HQ3 := Lib.hid (HQW.out.touch HT3.out (by simp))
       have HX3 := Lib.hid (HT3.out.range HRW.out (by simp))
       have HTT := Lib.hid (HTW.out.trans HT3.out (by simp))
       clear hS
       go_wp2_with fail
       refine wp_region_F (S := Touch vb.ownBlock.toList w22.drew) [10] (by kernel_rfl) ?_
       change wpAnyF _ _ _ _ _ _ _ _ _ w22.drew
       have HQX := Lib.hid (HQ3.out.touch ((Touch.refl [] w22).drew) (by simp))
       have HRX3 := Lib.hid (((Touch.refl [] w22).drew).range HX3.out (by simp))
       have HTX := Lib.hid (HTT.out.drew)
       have zX : gb < w22.drew.heap.size := by have := HT3.out.size; simp; omega
       generalize w22.drew = X at *
       have hS := Touch.refl vb.ownBlock.toList X
       obtain ⟨_, _, _, _, c4, _, _, c7⟩ := HQX.out.cells
       rw [HBF.out] at c7
       have hhb : h ∉ vb.ownBlock.toList := by intro hm; exact HQX.out.h6 (by simpa using hm)
       have hgb2 : gb ∉ vb.ownBlock.toList := by intro hm; have h1 := HGN.out gb (by simpa using hm); omega
       have HO := Lib.hid (show OwnA w0 X vb A0 from HQX.out.o6)
       have hzX : w0.heap.size ≤ X.heap.size := by have h1 := HTX.out.size; have h2 := HHZ.out; omega
       have hl1 : (A0.length + 1) * 17 ≤ 140737488355328 := by have := HL16.out; omega
       refine tkF 0 (.pointer (some ⟨h, 5, none⟩)) ?_
       refine tkF 1 (.pointer (some ⟨h, 5, none⟩)) ?_
       refine tkF 2 (.pointer (some ⟨h, 5, none⟩)) ?_
       refine tkF 3 (.pointer (some ⟨h, 7, none⟩)) ?_
       refine tkF 4 (.slice aB k cB) ?_ (hy := Or.inl ⟨by rfl, fun w' hw => by (have q := hw.cell c7 hhb; go_simp)⟩)
       refine tkF 5 (.agg x.cells.toArray) ?_ (hy := Or.inl ⟨by rfl, fun w' hw => exec_load_agg _ 40 _ rfl _ _ rfl x.cells _ (hw.range HRX3.out hgb2) Tryz.underlying40 rfl (by rw [size31, HLX.out])⟩)
       refine wpAnyF_ready (rs := [6]) (by kernel_rfl) (by simp) ?_
       refine cnF rfl (fun K hK => ?_) AllReadyF.nil
       refine step_of_list rfl ?_
       refine wpList_build_ad rfl _ rfl x (by rfl) ?_
       have r6 := rd_newA X x 40
       have tA := (Touch.refl [] X).alloc (.cells [x.cells].flatten.toArray 40)
       have hS2 := hS.trans tA (by simp)
       have hO6 := (show OwnA w0 _ vb A0 from Own.touch HO.out tA (by simp))
       have zA : (X.alloc (.cells [x.cells].flatten.toArray 40)).heap.size = X.heap.size + 1 := by simp
       refine ⟨rfl, hK.out _ _ hS2 (fun _ => ?_)⟩
       clear hK K hS
       have hS := hS2
       clear hS2
       generalize hX1 : X.alloc (.cells [x.cells].flatten.toArray 40) = X1 at *
       clear hX1
       try simp only [Act.put, sT, s0, sS]
       refine wpAnyF_ready (rs := [7]) (by kernel_rfl) (by simp) ?_
       refine cnF rfl (fun K hK => ?_) AllReadyF.nil
       refine step_of_list rfl ?_
       refine wpList_app_ads w0 X1 rfl _ _ rfl vb A0 (by rw [HBF.out]; rfl) hO6 (by omega) _ _ [x] rfl r6 (by simp only [List.length_singleton]; exact hl1) ?_
       intro v7 w7 o7 t7 h7
       have hS2 := hS.trans t7 (fun y hy => .inl hy)
       refine ⟨rfl, hK.out _ _ hS2 (fun _ => ?_)⟩
       clear hK K hS
       have hS := hS2
       clear hS2
       try simp only [Act.put, sT, s0, sS]
       refine tkF 8 (.pointer (some ⟨h, 5, none⟩)) ?_
       refine tkF 9 (.pointer (some ⟨h, 7, none⟩)) ?_
       refine wpAnyF_ready (rs := [10]) (by kernel_rfl) (by simp) ?_
       refine clF rfl (by simp) (fun K hK => ?_) AllReadyF.nil
       have q1 := hS.cell c7 hhb
       have g0 : w7.frozen? ⟨h, 7, none⟩ = false := by simp [World.frozen?, hS.at HQX.out.cell hhb]
       obtain ⟨a7, c7', hv7, _, _, _⟩ := o7.form
       have HPU := HQX.out.push6 hS o7 (by simp; have := HL16.out; omega) (by rcases h7 with e | e; exact .inl e; exact .inr ⟨_, e, by omega⟩)
       have HFIN := Lib.hid (show Pr w0 (w7.setCell ⟨h, 7, none⟩ v7) h v4 v7 { s with q6 := ⟨true, now, A0 ++ [x]⟩ } ∧ Touch (h :: v6.ownBlock.toList) w (w7.setCell ⟨h, 7, none⟩ v7) ∧ (v7.ownBlock = v6.ownBlock ∨ ∃ k, v7.ownBlock = some k ∧ w.heap.size ≤ k) from ⟨HPU.1, HTX.out.trans HPU.2 (by intro y hy; simp only [List.mem_cons, Option.mem_toList] at hy ⊢; rcases hy with e | e; exact .inl (.inl e); rcases HVB.out with e2 | ⟨q, e2, hq⟩; rw [e2] at e; exact .inl (.inr e); rw [e2] at e; cases e; exact .inr hq), by rcases h7 with e | e; rw [e]; exact HVB.out; exact .inr ⟨_, e, by have := HTX.out.size; omega⟩⟩)
       clear HPU h7 t7
       rw [List.length_append, List.length_singleton] at hv7
       subst hv7
       go_simp
       refine hK.out _ _ ?_
       clear hK K
       try simp only [Act.put, sT, s0, sS]
       refine wpAnyF_done (by kernel_rfl) ?_ _
       try simp only [Act.put, sT, s0, sS]
       go_wp2_with fail
       go_roundw
       case rel => exact ⟨i + 1, _, by omega, by go_num, by rw [HS.out]; exact HFIN.out.1, HFIN.out.2.1, HFIN.out.2.2⟩
       case measure => simp [intOf]; omega
     ·have hk17 : (16 : Int) ≤ (k : Int) := by omega
      have HS := Lib.hid (show ansL true s.q6.l (l.take (i + 1)) = A0 by rw [HST.out]; unfold ansS; rw [if_neg (by intro h; have := HK.out; omega)])
      clear hk16 hval
      refine wp_region_held (S := Touch [] B.drew) (by kernel_rfl) ?_
      change wpAnyH _ _ _ _ _ _ _ _ B.drew
      have HQW := Lib.hid (HQB.out.touch ((Touch.refl [] B).drew) (by simp))
      have HRW := Lib.hid (((Touch.refl [] B).drew).range HRX.out (by simp))
      have HTW := Lib.hid (HT.out.trans HTB.out.drew (by simp))
      have zW : B.drew.heap.size = gb + 1 := zB2
      generalize B.drew = W at *
      have hS := Touch.refl [] W
      obtain ⟨_, _, _, _, c4, _, _, c7⟩ := HQW.out.cells
      rw [HBF.out] at c7
      have cx : W.cell? ⟨gb, 0, none⟩ = some (.bool true) := by rw [← HXB.out]; simpa using HRW.out 0 (.bool x.b) rfl
      obtain ⟨bB, hrB, _⟩ := (show OwnA w0 W vb A0 from HQW.out.o6).rd
      have HRB := Lib.hid hrB
      clear hrB
      refine tkH 0 (.pointer (some ⟨gb, 0, none⟩)) ?_
      refine tkH 1 (.bool true) ?_ (hy := Or.inl ⟨by rfl, fun w' hw => by (have q := hw.cell cx (by simp); go_simp)⟩)
      refine tkH 2 (.bool true) ?_
      refine tkH 3 (.bool true) ?_
      refine tkH 4 (.bool true) ?_
      refine tkH 5 (.agg x.cells.toArray) ?_ (hy := Or.inl ⟨by rfl, fun w' hw => exec_load_agg _ 40 _ rfl _ _ rfl x.cells _ (hw.range HRW.out (by simp)) Tryz.underlying40 rfl (by rw [size31, HLX.out])⟩)
      refine wpAnyH_ready (rs := [6]) (by kernel_rfl) (by simp) ?_
      refine cnH rfl (fun K hK => ?_) AllReadyH.nil
      go_simp
      refine (HVL.out _).mono ?_
      rintro e w6 ⟨rfl, t6⟩
      have hS2 := hS.trans t6 (by simp)
      refine hK.out _ _ hS2 (fun _ => ?_)
      clear hK K hS t6
      have hS := hS2
      clear hS2
      try simp only [Act.put, sT, s0, sS]
      refine tkH 7 (.bool true) ?_
      refine tkH 8 (.bool true) ?_
      refine tkH 9 (.pointer (some ⟨h, 5, none⟩)) ?_
      refine tkH 10 (.pointer (some ⟨h, 5, none⟩)) ?_
      refine tkH 11 (.pointer (some ⟨h, 7, none⟩)) ?_
      refine tkH 12 (.slice aB k cB) ?_ (hy := Or.inl ⟨by rfl, fun w' hw => by (have q := hw.cell c7 (by simp); go_simp)⟩)
      refine tkH 13 (.int .i64 (k : Nat)) ?_
      refine tkH 14 (.bool false) ?_ (hy := Or.inl ⟨by rfl, fun w' hw => by (have q := hk17; go_simp)⟩)
      refine tkH 15 (.bool false) ?_
      refine tkH 16 (.bool false) ?_
      refine tkN 17 undef ?_
      refine tkN 18 undef ?_
      refine tkN 19 undef ?_
      refine tkN 20 undef ?_
      refine tkN 21 undef ?_
      refine tkN 22 undef ?_
      refine tkN 23 undef ?_
      refine tkH 24 (.bool false) ?_
      refine wpAnyH_done (by kernel_rfl) ?_ _
      try simp only [Act.put, sT, s0, sS]
      clear c4 c7 cx
      have HT3 := Lib.hid (hS)
      clear hS
      go_wp2_with fail
      go_roundw
      case rel => exact ⟨i + 1, vb, by omega, by go_num, by rw [HS.out]; exact HQW.out.touch HT3.out (by simp), HTW.out.trans HT3.out (by simp), HVB.out⟩
      case measure => simp [intOf]; omega
  ·have HFI := Lib.hid (show l.take i = l from List.take_of_length_le (by rw [← HN.out]; omega))
   obtain ⟨_, _, _, _, c4, _, _, c7⟩ := HQI.out.cells
   rw [HBF.out] at c7
   go_wp2_with fail
   go_ret2
   refine ⟨?_, vb, by have h := HQI.out; rw [HFI.out] at h; exact h, HT.out, HVB.out⟩
   have h := HK.out
   rw [HFI.out] at h
   rw [← h]
   first | done | rfl
end Go.Proofs.YtiklhaajhdephaaGreatDoor

/-
 Dial configurations: the contracts of both ValidConfig and of the generator's DialConfig.
-/
namespace Go.Proofs.YtiklhaajhdephaaGreatDoor
open Go.RowKit
set_option linter.unusedVariables false
set_option linter.unusedSimpArgs false

/-- A dial configuration. -/
structure Cfg where
 rd : Int
 ad : Int
 jit : Int
 ff : Int
 mc : Int
def Cfg.cells (c : Cfg) : List Value := [.int .u64 c.rd, .int .u64 c.ad, .int .u64 c.jit, .int .i64 c.ff, .int .i64 c.mc]
structure Cfg.Ok (c : Cfg) : Prop where
 rd : 0 ≤ c.rd ∧ c.rd ≤ maxT
 ad : 0 ≤ c.ad ∧ c.ad ≤ maxT
 jit : 0 ≤ c.jit ∧ c.jit ≤ maxT
 ff : -9223372036854775808 ≤ c.ff ∧ c.ff ≤ 9223372036854775807
 mc : -9223372036854775808 ≤ c.mc ∧ c.mc ≤ 9223372036854775807
def inR (n lo : Int) : Bool := decide (lo ≤ n) && decide (n ≤ 1099511627776)
def Cfg.valid (c : Cfg) : Bool := inR c.rd 0 && (inR c.ad 1 && (inR c.jit 0 && (decide (1 ≤ c.ff) && (decide (c.ff ≤ 8) && (decide (1 ≤ c.mc) && decide (c.mc ≤ 8))))))
theorem Cfg.valid_iff (c : Cfg) (h : c.valid = true) : (0 ≤ c.rd ∧ c.rd ≤ 1099511627776) ∧ (1 ≤ c.ad ∧ c.ad ≤ 1099511627776) ∧ (0 ≤ c.jit ∧ c.jit ≤ 1099511627776) ∧ (1 ≤ c.ff ∧ c.ff ≤ 8) ∧ (1 ≤ c.mc ∧ c.mc ≤ 8) := by
 unfold Cfg.valid inR at h
 simp only [Bool.and_eq_true, decide_eq_true_eq] at h
 omega
theorem Cfg.valid_of (c : Cfg) (h : (0 ≤ c.rd ∧ c.rd ≤ 1099511627776) ∧ (1 ≤ c.ad ∧ c.ad ≤ 1099511627776) ∧ (0 ≤ c.jit ∧ c.jit ≤ 1099511627776) ∧ (1 ≤ c.ff ∧ c.ff ≤ 8) ∧ (1 ≤ c.mc ∧ c.mc ≤ 8)) : c.valid = true := by
 unfold Cfg.valid inR
 simp only [Bool.and_eq_true, decide_eq_true_eq]
 omega
set_option maxHeartbeats 400000 in
theorem inr_any (n lo : Int) (r : Bool) (hr : inR n lo = r) (w : World) : Calls Tryz.prog 53 #[.int .u64 n, .int .u64 lo] w fun e w' => e = .returned (.bool r) ∧ w = w' := by
 have HF := Lib.hid (show (decide (lo ≤ n) && decide (n ≤ 1099511627776)) = r from hr)
 clear hr
 by_cases h1 : lo ≤ n
 ·by_cases h2 : n ≤ 1099511627776
  ·go_enter Tryz.func53, Tryz.ntmps53
   go_wp2_with fail
   go_ret
   exact ⟨by rw [← HF.out]; simp [h1, h2], rfl⟩
  ·have h3 : decide (n ≤ 1099511627776) = false := by simpa using h2
   go_enter Tryz.func53, Tryz.ntmps53
   go_wp2_with fail
   go_ret
   exact ⟨by rw [← HF.out]; simp [h1, h2], rfl⟩
 ·have h3 : decide (lo ≤ n) = false := by simpa using h1
  go_enter Tryz.func53, Tryz.ntmps53
  go_wp2_with fail
  go_ret
  exact ⟨by rw [← HF.out]; simp [h1]; omega, rfl⟩
theorem cells_five {w : World} {B : Nat} {a b c d e : Value} {T : TypeId} (h : w.heap[B]? = some (.cells #[a, b, c, d, e] T (0, 0))) : w.cell? ⟨B, 0, none⟩ = some a ∧ w.cell? ⟨B, 1, none⟩ = some b ∧ w.cell? ⟨B, 2, none⟩ = some c ∧ w.cell? ⟨B, 3, none⟩ = some d ∧ w.cell? ⟨B, 4, none⟩ = some e := by
 simp [World.cell?, h]
set_option maxRecDepth 100000 in
set_option maxHeartbeats 4000000 in
theorem vcfg_any (c : Cfg) (w : World) : Calls Tryz.prog 21 #[.agg c.cells.toArray] w fun e w' => e = .returned (.bool c.valid) ∧ Touch [] w w' := by
 have HT := Lib.hid ((Touch.refl [] w).alloc (.cells c.cells.toArray 24))
 obtain ⟨c0, c1, c2, c3, c4⟩ := cells_five (heap_alloc_new w (.cells c.cells.toArray 24))
 have HV := Lib.hid (show c.valid = (inR c.rd 0 && (inR c.ad 1 && (inR c.jit 0 && (decide (1 ≤ c.ff) && (decide (c.ff ≤ 8) && (decide (1 ≤ c.mc) && decide (c.mc ≤ 8))))))) from rfl)
 simp only [Cfg.cells] at *
 cases h0 : inR c.rd 0 with
 | false =>
  have H0 := Lib.hid h0
  clear h0
  go_enter Tryz.func21, Tryz.ntmps21
  go_wp2_with fail
  refine (inr_any c.rd 0 _ H0.out _).mono ?_
  rintro e _ ⟨rfl, rfl⟩
  go_wp2_with fail
  go_ret
  exact ⟨by rw [HV.out, H0.out]; rfl, HT.out⟩
 | true =>
  have H0 := Lib.hid h0
  clear h0
  cases h1 : inR c.ad 1 with
  | false =>
   have H1 := Lib.hid h1
   clear h1
   go_enter Tryz.func21, Tryz.ntmps21
   go_wp2_with fail
   refine (inr_any c.rd 0 _ H0.out _).mono ?_
   rintro e _ ⟨rfl, rfl⟩
   go_wp2_with fail
   refine (inr_any c.ad 1 _ H1.out _).mono ?_
   rintro e _ ⟨rfl, rfl⟩
   go_wp2_with fail
   go_ret
   exact ⟨by rw [HV.out, H0.out, H1.out]; rfl, HT.out⟩
  | true =>
   have H1 := Lib.hid h1
   clear h1
   cases h2 : inR c.jit 0 with
   | false =>
    have H2 := Lib.hid h2
    clear h2
    go_enter Tryz.func21, Tryz.ntmps21
    go_wp2_with fail
    refine (inr_any c.rd 0 _ H0.out _).mono ?_
    rintro e _ ⟨rfl, rfl⟩
    go_wp2_with fail
    refine (inr_any c.ad 1 _ H1.out _).mono ?_
    rintro e _ ⟨rfl, rfl⟩
    go_wp2_with fail
    refine (inr_any c.jit 0 _ H2.out _).mono ?_
    rintro e _ ⟨rfl, rfl⟩
    go_wp2_with fail
    go_ret
    exact ⟨by rw [HV.out, H0.out, H1.out, H2.out]; rfl, HT.out⟩
   | true =>
    have H2 := Lib.hid h2
    clear h2
    by_cases h3 : 1 ≤ c.ff
    ·have H3 := Lib.hid (show decide (1 ≤ c.ff) = true by simpa using h3)
     by_cases h4 : c.ff ≤ 8
     ·have H4 := Lib.hid (show decide (c.ff ≤ 8) = true by simpa using h4)
      by_cases h5 : 1 ≤ c.mc
      ·have H5 := Lib.hid (show decide (1 ≤ c.mc) = true by simpa using h5)
       by_cases h6 : c.mc ≤ 8
       ·have H6 := Lib.hid (show decide (c.mc ≤ 8) = true by simpa using h6)
        go_enter Tryz.func21, Tryz.ntmps21
        go_wp2_with fail
        refine (inr_any c.rd 0 _ H0.out _).mono ?_
        rintro e _ ⟨rfl, rfl⟩
        go_wp2_with fail
        refine (inr_any c.ad 1 _ H1.out _).mono ?_
        rintro e _ ⟨rfl, rfl⟩
        go_wp2_with fail
        refine (inr_any c.jit 0 _ H2.out _).mono ?_
        rintro e _ ⟨rfl, rfl⟩
        go_wp2_with fail
        go_ret
        exact ⟨by rw [HV.out, H0.out, H1.out, H2.out, H3.out, H4.out, H5.out, H6.out]; rfl, HT.out⟩
       ·have H6 := Lib.hid (show decide (c.mc ≤ 8) = false by simpa using h6)
        have g6 : decide (c.mc ≤ 8) = false := H6.out
        go_enter Tryz.func21, Tryz.ntmps21
        go_wp2_with fail
        refine (inr_any c.rd 0 _ H0.out _).mono ?_
        rintro e _ ⟨rfl, rfl⟩
        go_wp2_with fail
        refine (inr_any c.ad 1 _ H1.out _).mono ?_
        rintro e _ ⟨rfl, rfl⟩
        go_wp2_with fail
        refine (inr_any c.jit 0 _ H2.out _).mono ?_
        rintro e _ ⟨rfl, rfl⟩
        go_wp2_with fail
        go_ret
        exact ⟨by rw [HV.out, H0.out, H1.out, H2.out, H3.out, H4.out, H5.out, H6.out]; rfl, HT.out⟩
      ·have H5 := Lib.hid (show decide (1 ≤ c.mc) = false by simpa using h5)
       have g5 : decide (1 ≤ c.mc) = false := H5.out
       go_enter Tryz.func21, Tryz.ntmps21
       go_wp2_with fail
       refine (inr_any c.rd 0 _ H0.out _).mono ?_
       rintro e _ ⟨rfl, rfl⟩
       go_wp2_with fail
       refine (inr_any c.ad 1 _ H1.out _).mono ?_
       rintro e _ ⟨rfl, rfl⟩
       go_wp2_with fail
       refine (inr_any c.jit 0 _ H2.out _).mono ?_
       rintro e _ ⟨rfl, rfl⟩
       go_wp2_with fail
       go_ret
       exact ⟨by rw [HV.out, H0.out, H1.out, H2.out, H3.out, H4.out, H5.out]; rfl, HT.out⟩
     ·have H4 := Lib.hid (show decide (c.ff ≤ 8) = false by simpa using h4)
      have g4 : decide (c.ff ≤ 8) = false := H4.out
      go_enter Tryz.func21, Tryz.ntmps21
      go_wp2_with fail
      refine (inr_any c.rd 0 _ H0.out _).mono ?_
      rintro e _ ⟨rfl, rfl⟩
      go_wp2_with fail
      refine (inr_any c.ad 1 _ H1.out _).mono ?_
      rintro e _ ⟨rfl, rfl⟩
      go_wp2_with fail
      refine (inr_any c.jit 0 _ H2.out _).mono ?_
      rintro e _ ⟨rfl, rfl⟩
      go_wp2_with fail
      go_ret
      exact ⟨by rw [HV.out, H0.out, H1.out, H2.out, H3.out, H4.out]; rfl, HT.out⟩
    ·have H3 := Lib.hid (show decide (1 ≤ c.ff) = false by simpa using h3)
     have g3 : decide (1 ≤ c.ff) = false := H3.out
     go_enter Tryz.func21, Tryz.ntmps21
     go_wp2_with fail
     refine (inr_any c.rd 0 _ H0.out _).mono ?_
     rintro e _ ⟨rfl, rfl⟩
     go_wp2_with fail
     refine (inr_any c.ad 1 _ H1.out _).mono ?_
     rintro e _ ⟨rfl, rfl⟩
     go_wp2_with fail
     refine (inr_any c.jit 0 _ H2.out _).mono ?_
     rintro e _ ⟨rfl, rfl⟩
     go_wp2_with fail
     go_ret
     exact ⟨by rw [HV.out, H0.out, H1.out, H2.out, H3.out]; rfl, HT.out⟩
set_option maxRecDepth 100000 in
set_option maxHeartbeats 4000000 in
theorem rvcfg_any (c : Cfg) (ok : c.Ok) (w : World) : Calls Tryz.prog 19 #[.agg c.cells.toArray] w fun e w' => e = .returned (.bool c.valid) ∧ Touch [] w w' := by
 have HT := Lib.hid ((Touch.refl [] w).alloc (.cells c.cells.toArray 24))
 obtain ⟨c0, c1, c2, c3, c4⟩ := cells_five (heap_alloc_new w (.cells c.cells.toArray 24))
 have HV := Lib.hid (show c.valid = (decide (c.rd ≤ 1099511627776) && (decide (1 ≤ c.ad) && (decide (c.ad ≤ 1099511627776) && (decide (c.jit ≤ 1099511627776) && (decide (1 ≤ c.ff) && (decide (c.ff ≤ 8) && (decide (1 ≤ c.mc) && decide (c.mc ≤ 8)))))))) by
  have h1 := ok.rd.1
  have h2 := ok.jit.1
  unfold Cfg.valid inR
  rw [show decide (0 ≤ c.rd) = true by simpa using h1, show decide (0 ≤ c.jit) = true by simpa using h2]
  simp [Bool.and_assoc])
 clear ok
 simp only [Cfg.cells] at *
 by_cases h0 : c.rd ≤ 1099511627776
 ·have H0 := Lib.hid (show decide (c.rd ≤ 1099511627776) = true by simpa using h0)
  by_cases h1 : 1 ≤ c.ad
  ·have H1 := Lib.hid (show decide (1 ≤ c.ad) = true by simpa using h1)
   by_cases h2 : c.ad ≤ 1099511627776
   ·have H2 := Lib.hid (show decide (c.ad ≤ 1099511627776) = true by simpa using h2)
    by_cases h3 : c.jit ≤ 1099511627776
    ·have H3 := Lib.hid (show decide (c.jit ≤ 1099511627776) = true by simpa using h3)
     by_cases h4 : 1 ≤ c.ff
     ·have H4 := Lib.hid (show decide (1 ≤ c.ff) = true by simpa using h4)
      by_cases h5 : c.ff ≤ 8
      ·have H5 := Lib.hid (show decide (c.ff ≤ 8) = true by simpa using h5)
       by_cases h6 : 1 ≤ c.mc
       ·have H6 := Lib.hid (show decide (1 ≤ c.mc) = true by simpa using h6)
        by_cases h7 : c.mc ≤ 8
        ·have H7 := Lib.hid (show decide (c.mc ≤ 8) = true by simpa using h7)
         go_enter Tryz.func19, Tryz.ntmps19
         go_wp2_with fail
         go_ret
         exact ⟨by rw [HV.out, H0.out, H1.out, H2.out, H3.out, H4.out, H5.out, H6.out, H7.out]; rfl, HT.out⟩
        ·have H7 := Lib.hid (show decide (c.mc ≤ 8) = false by simpa using h7)
         have g7 : decide (c.mc ≤ 8) = false := H7.out
         go_enter Tryz.func19, Tryz.ntmps19
         go_wp2_with fail
         go_ret
         exact ⟨by rw [HV.out, H0.out, H1.out, H2.out, H3.out, H4.out, H5.out, H6.out, H7.out]; rfl, HT.out⟩
       ·have H6 := Lib.hid (show decide (1 ≤ c.mc) = false by simpa using h6)
        have g6 : decide (1 ≤ c.mc) = false := H6.out
        go_enter Tryz.func19, Tryz.ntmps19
        go_wp2_with fail
        go_ret
        exact ⟨by rw [HV.out, H0.out, H1.out, H2.out, H3.out, H4.out, H5.out, H6.out]; rfl, HT.out⟩
      ·have H5 := Lib.hid (show decide (c.ff ≤ 8) = false by simpa using h5)
       have g5 : decide (c.ff ≤ 8) = false := H5.out
       go_enter Tryz.func19, Tryz.ntmps19
       go_wp2_with fail
       go_ret
       exact ⟨by rw [HV.out, H0.out, H1.out, H2.out, H3.out, H4.out, H5.out]; rfl, HT.out⟩
     ·have H4 := Lib.hid (show decide (1 ≤ c.ff) = false by simpa using h4)
      have g4 : decide (1 ≤ c.ff) = false := H4.out
      go_enter Tryz.func19, Tryz.ntmps19
      go_wp2_with fail
      go_ret
      exact ⟨by rw [HV.out, H0.out, H1.out, H2.out, H3.out, H4.out]; rfl, HT.out⟩
    ·have H3 := Lib.hid (show decide (c.jit ≤ 1099511627776) = false by simpa using h3)
     have g3 : decide (c.jit ≤ 1099511627776) = false := H3.out
     go_enter Tryz.func19, Tryz.ntmps19
     go_wp2_with fail
     go_ret
     exact ⟨by rw [HV.out, H0.out, H1.out, H2.out, H3.out]; rfl, HT.out⟩
   ·have H2 := Lib.hid (show decide (c.ad ≤ 1099511627776) = false by simpa using h2)
    have g2 : decide (c.ad ≤ 1099511627776) = false := H2.out
    go_enter Tryz.func19, Tryz.ntmps19
    go_wp2_with fail
    go_ret
    exact ⟨by rw [HV.out, H0.out, H1.out, H2.out]; rfl, HT.out⟩
  ·have H1 := Lib.hid (show decide (1 ≤ c.ad) = false by simpa using h1)
   have g1 : decide (1 ≤ c.ad) = false := H1.out
   go_enter Tryz.func19, Tryz.ntmps19
   go_wp2_with fail
   go_ret
   exact ⟨by rw [HV.out, H0.out, H1.out]; rfl, HT.out⟩
 ·have H0 := Lib.hid (show decide (c.rd ≤ 1099511627776) = false by simpa using h0)
  have g0 : decide (c.rd ≤ 1099511627776) = false := H0.out
  go_enter Tryz.func19, Tryz.ntmps19
  go_wp2_with fail
  go_ret
  exact ⟨by rw [HV.out, H0.out]; rfl, HT.out⟩
theorem exec_builtD {a : Act} {w : World} (op : Oper) (t : TypeId) (parts : Array (Nat × Operand)) (ho : op.op = .build t parts)
  (vals : List (Nat × Value)) (cells : Array Value) (hv : (parts.toList.map fun p => (p.1, a.eval p.2)) = vals) (hb : Tryz.prog.built t vals = some cells) : (execOp a.eval op).run Tryz.prog w = .ok (.value (.agg cells)) w := by
 have hr := run_build (P := Tryz.prog) w t (parts.map fun (i, x) => (i, a.eval x)) cells (by rw [Array.toList_map, ← hb, ← hv])
 unfold execOp
 simp only [ho, Sem.run_bind, hr, Result.andThen_ok, Sem.run_pure]
/-- The small configuration that the generator makes of any. -/
def Cfg.gen (c : Cfg) : Cfg := ⟨c.rd % 20, 1 + c.ad % 15, c.jit % 6, 1 + gmod c.ff 3, 1 + gmod c.mc 4⟩
theorem Cfg.gen_small (c : Cfg) : (0 ≤ c.gen.rd ∧ c.gen.rd < 20) ∧ (1 ≤ c.gen.ad ∧ c.gen.ad < 16) ∧ (0 ≤ c.gen.jit ∧ c.gen.jit < 6) ∧ (1 ≤ c.gen.ff ∧ c.gen.ff ≤ 3) ∧ (1 ≤ c.gen.mc ∧ c.gen.mc ≤ 4) := by
 have h1 := gmod_lo c.ff 3 (by decide)
 have h2 := gmod_hi c.ff 3 (by decide)
 have h3 := gmod_lo c.mc 4 (by decide)
 have h4 := gmod_hi c.mc 4 (by decide)
 simp only [Cfg.gen]
 omega
theorem Cfg.gen_valid (c : Cfg) : c.gen.valid = true := Cfg.valid_of _ (by have := c.gen_small; omega)
theorem sizeCf : (Tryz.prog.info? 24).map (·.size) = some 5 := by kernel_rfl
theorem Cfg.len (c : Cfg) : c.cells.length = 5 := rfl
theorem Cfg.one (c : Cfg) : ∀ v ∈ c.cells, v.oneCell' = true := by
 intro v hv
 simp [Cfg.cells] at hv
 rcases hv with rfl | rfl | rfl | rfl | rfl <;> rfl
set_option maxRecDepth 100000 in
set_option maxHeartbeats 4000000 in
theorem gcfg_any (c : Cfg) (ok : c.Ok) (w : World) : Calls Tryz.prog 6 #[.agg c.cells.toArray] w fun e w' => e = .returned (.agg c.gen.cells.toArray) ∧ Touch [] w w' := by
 have HT := Lib.hid (((Touch.refl [] w).alloc (.cells c.cells.toArray 24)).alloc (.cells #[.int .u64 0, .int .u64 0, .int .u64 0, .int .i64 0, .int .i64 0] 24))
 have HN := Lib.hid (heap_alloc_new (w.alloc (.cells c.cells.toArray 24)) (.cells #[.int .u64 0, .int .u64 0, .int .u64 0, .int .i64 0, .int .i64 0] 24))
 have hold : ((w.alloc (.cells c.cells.toArray 24)).alloc (.cells #[.int .u64 0, .int .u64 0, .int .u64 0, .int .i64 0, .int .i64 0] 24)).heap[w.heap.size]? = some (.cells c.cells.toArray 24 (0, 0)) :=
  (((Touch.refl [] (w.alloc (.cells c.cells.toArray 24))).alloc (.cells #[.int .u64 0, .int .u64 0, .int .u64 0, .int .i64 0, .int .i64 0] 24))).at (heap_alloc_new w _) (by simp)
 obtain ⟨c0, c1, c2, c3, c4⟩ := cells_five hold
 have HOK := Lib.hid ok
 have hg1 := gmod_lo c.ff 3 (by decide)
 have hg2 := gmod_hi c.ff 3 (by decide)
 have hg3 := gmod_lo c.mc 4 (by decide)
 have hg4 := gmod_hi c.mc 4 (by decide)
 have hm0 : 0 ≤ c.rd := ok.rd.1
 have hm1 : 0 ≤ c.ad := ok.ad.1
 have hm2 : 0 ≤ c.jit := ok.jit.1
 have HG := Lib.hid (show c.gen.cells = [.int .u64 (c.rd % 20), .int .u64 (1 + c.ad % 15), .int .u64 (c.jit % 6), .int .i64 (1 + gmod c.ff 3), .int .i64 (1 + gmod c.mc 4)] from rfl)
 simp only [Cfg.cells] at *
 clear hold ok
 go_enter Tryz.func6, Tryz.ntmps6
 go_wp2_with fail
 have wa := IntWalk.i64_in (1 + gmod c.ff 3) (by omega)
 have wb := IntWalk.i64_in (1 + gmod c.mc 4) (by omega)
 have wc := wrap_u64 (n := 1 + c.ad % 15) (by omega) (by unfold maxT; omega)
 have t0 : Int.tmod c.rd 20 = c.rd % 20 := Int.tmod_eq_emod_of_nonneg hm0
 have t1 : Int.tmod c.ad 15 = c.ad % 15 := Int.tmod_eq_emod_of_nonneg hm1
 have t2 : Int.tmod c.jit 6 = c.jit % 6 := Int.tmod_eq_emod_of_nonneg hm2
 have HB := Lib.hid (show Tryz.prog.built 24 [(0, .int .u64 (c.rd % 20)), (1, .int .u64 (1 + c.ad % 15)), (2, .int .u64 (c.jit % 6)), (3, .int .i64 (1 + gmod c.ff 3)), (4, .int .i64 (1 + gmod c.mc 4))] = some c.gen.cells.toArray by kernel_rfl)
 generalize hW1 : ((w.alloc (.cells [.int .u64 c.rd, .int .u64 c.ad, .int .u64 c.jit, .int .i64 c.ff, .int .i64 c.mc].toArray 24)).alloc (.cells #[.int .u64 0, .int .u64 0, .int .u64 0, .int .i64 0, .int .i64 0] 24)) = W1 at *
 clear hW1
 have hgg : w.heap.size ∉ [w.heap.size + 1] := by simp
 have hSZ : (w.alloc (.cells [.int .u64 c.rd, .int .u64 c.ad, .int .u64 c.jit, .int .i64 c.ff, .int .i64 c.mc].toArray 24)).heap.size = w.heap.size + 1 := by simp
 rw [hSZ] at HN
 have HGE := Lib.hid (show w.heap.size ≤ w.heap.size + 1 by omega)
 generalize w.heap.size + 1 = g2 at *
 refine wp_region_held (S := Touch [g2] W1.drew) (by kernel_rfl) ?_
 change wpAnyH _ _ _ _ _ _ _ _ W1.drew
 have HX0 : W1.drew.heap[g2]? = _ := HN.out
 have HTD := Lib.hid (HT.out.drew)
 have c0 : W1.drew.cell? ⟨w.heap.size, 0, none⟩ = _ := c0
 have c1 : W1.drew.cell? ⟨w.heap.size, 1, none⟩ = _ := c1
 have c2 : W1.drew.cell? ⟨w.heap.size, 2, none⟩ = _ := c2
 have c3 : W1.drew.cell? ⟨w.heap.size, 3, none⟩ = _ := c3
 have c4 : W1.drew.cell? ⟨w.heap.size, 4, none⟩ = _ := c4
 generalize W1.drew = W at *
 have hS := Touch.refl [g2] W
 refine tkH 0 (.pointer (some ⟨w.heap.size, 0, none⟩)) ?_
 refine tkH 1 (.int .u64 c.rd) ?_ (hy := Or.inl ⟨by rfl, fun w' hw => by (have q := hw.cell c0 hgg; go_simp)⟩)
 refine tkH 2 (.int .u64 (c.rd % 20)) ?_ (hy := Or.inl ⟨by rfl, fun w' hw => by (have q0 := t0; have q1 := hm0; go_simp)⟩)
 refine tkH 3 (.pointer (some ⟨w.heap.size, 1, none⟩)) ?_
 refine tkH 4 (.int .u64 c.ad) ?_ (hy := Or.inl ⟨by rfl, fun w' hw => by (have q := hw.cell c1 hgg; go_simp)⟩)
 refine tkH 5 (.int .u64 (c.ad % 15)) ?_ (hy := Or.inl ⟨by rfl, fun w' hw => by (have q0 := t1; have q1 := hm1; go_simp)⟩)
 refine tkH 6 (.int .u64 (1 + c.ad % 15)) ?_ (hy := Or.inl ⟨by rfl, fun w' hw => by (have q0 := wc; go_simp)⟩)
 refine tkH 7 (.pointer (some ⟨w.heap.size, 2, none⟩)) ?_
 refine tkH 8 (.int .u64 c.jit) ?_ (hy := Or.inl ⟨by rfl, fun w' hw => by (have q := hw.cell c2 hgg; go_simp)⟩)
 refine tkH 9 (.int .u64 (c.jit % 6)) ?_ (hy := Or.inl ⟨by rfl, fun w' hw => by (have q0 := t2; have q1 := hm2; go_simp)⟩)
 refine tkH 10 (.pointer (some ⟨w.heap.size, 3, none⟩)) ?_
 refine tkH 11 (.int .i64 c.ff) ?_ (hy := Or.inl ⟨by rfl, fun w' hw => by (have q := hw.cell c3 hgg; go_simp)⟩)
 refine tkH 14 (.pointer (some ⟨w.heap.size, 4, none⟩)) ?_
 refine tkH 15 (.int .i64 c.mc) ?_ (hy := Or.inl ⟨by rfl, fun w' hw => by (have q := hw.cell c4 hgg; go_simp)⟩)
 refine wpAnyH_ready (rs := [12]) (by kernel_rfl) (by simp) ?_
 refine cnH rfl (fun K hK => ?_) AllReadyH.nil
 go_simp
 refine (mod_any c.ff 3 _ (by decide) (by decide)).mono ?_
 rintro e _ ⟨rfl, rfl⟩
 refine hK.out _ _ hS (fun _ => ?_)
 clear hK K
 try simp only [Act.put, sT, s0, sS]
 refine tkH 13 (.int .i64 (1 + gmod c.ff 3)) ?_ (hy := Or.inl ⟨by rfl, fun w' hw => by (have q0 := wa; go_simp)⟩)
 refine wpAnyH_ready (rs := [16]) (by kernel_rfl) (by simp) ?_
 refine cnH rfl (fun K hK => ?_) AllReadyH.nil
 go_simp
 refine (mod_any c.mc 4 _ (by decide) (by decide)).mono ?_
 rintro e _ ⟨rfl, rfl⟩
 refine hK.out _ _ hS (fun _ => ?_)
 clear hK K
 try simp only [Act.put, sT, s0, sS]
 refine tkH 17 (.int .i64 (1 + gmod c.mc 4)) ?_ (hy := Or.inl ⟨by rfl, fun w' hw => by (have q0 := wb; go_simp)⟩)
 refine tkH 18 (.agg c.gen.cells.toArray) ?_ (hy := Or.inl ⟨by rfl, fun w' hw => exec_builtD _ 24 _ rfl [(0, .int .u64 (c.rd % 20)), (1, .int .u64 (1 + c.ad % 15)), (2, .int .u64 (c.jit % 6)), (3, .int .i64 (1 + gmod c.ff 3)), (4, .int .i64 (1 + gmod c.mc 4))] _ rfl HB.out⟩)
 refine wpAnyH_ready (rs := [19]) (by kernel_rfl) (by simp) ?_
 refine cnH rfl (fun K hK => ?_) AllReadyH.nil
 refine step_of_list rfl ?_
 refine wpList_store_into rfl 24 _ _ rfl g2 24 _ c.gen.cells rfl rfl HX0 rfl sizeCf c.gen.one ?_
 intro wz hz tz zz
 have hS2 := hS.trans tz (by simp)
 refine ⟨rfl, hK.out _ _ hS2 (fun _ => ?_)⟩
 clear hK K hS
 have hS := hS2
 clear hS2
 try simp only [Act.put, sT, s0, sS]
 refine wpAnyH_done (by kernel_rfl) ?_ _
 try simp only [Act.put, sT, s0, sS]
 go_wp2_with fail
 exact ret_row rfl sizeCf Tryz.underlying24 rfl c.gen.len rfl hz ⟨rfl, HTD.out.trans hS (fun y hy => .inr (by simp at hy; subst hy; exact HGE.out))⟩
end Go.Proofs.YtiklhaajhdephaaGreatDoor

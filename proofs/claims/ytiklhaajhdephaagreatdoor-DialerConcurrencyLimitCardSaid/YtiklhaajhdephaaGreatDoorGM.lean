/-
  Merged texts: Cq, Qd, Qn.
-/
import Derived.Test.YtiklhaajhdephaaGreatDoorGG
import Derived.Test.YtiklhaajhdephaaGreatDoorGL

/-
 The contracts of slices.Index and slices.Contains at addresses and at integers.
-/
namespace Go.Proofs.YtiklhaajhdephaaGreatDoor
open Go.RowKit
set_option linter.unusedVariables false
set_option linter.unusedSimpArgs false

/-- The place of a in l, or -1. -/
def idxZ {α : Type} [DecidableEq α] (l : List α) (a : α) : Int := if a ∈ l then (l.idxOf a : Int) else -1
theorem idxZ_at {α : Type} [DecidableEq α] {l : List α} {a : α} {i : Nat} (h : l[i]? = some a) (hn : ∀ j, j < i → l[j]? ≠ some a) : idxZ l a = i := by
 have hi := (List.getElem?_eq_some_iff.1 h).1
 have he := (List.getElem?_eq_some_iff.1 h).2
 have hm : a ∈ l := List.mem_of_getElem? h
 unfold idxZ
 rw [if_pos hm]
 congr 1
 have h1 : l.idxOf a < l.length := List.idxOf_lt_length_iff.2 hm
 have h2 : l[l.idxOf a]? = some a := by rw [List.getElem?_eq_getElem h1, List.getElem_idxOf h1]
 rcases Nat.lt_trichotomy (l.idxOf a) i with h | h | h
 ·exact absurd h2 (hn _ h)
 ·exact h
 ·have := List.not_of_lt_findIdx (p := (· == a)) h
  simp [he] at this
theorem idxZ_no {α : Type} [DecidableEq α] {l : List α} {a : α} (h : a ∉ l) : idxZ l a = -1 := by
 unfold idxZ; rw [if_neg h]
theorem idxZ_mem {α : Type} [DecidableEq α] {l : List α} {a : α} (h : a ∈ l) : ∃ i : Nat, idxZ l a = i ∧ l[i]? = some a := by
 have h1 : l.idxOf a < l.length := List.idxOf_lt_length_iff.2 h
 exact ⟨l.idxOf a, by unfold idxZ; rw [if_pos h], by rw [List.getElem?_eq_getElem h1, List.getElem_idxOf h1]⟩
theorem idxZ_ge {α : Type} [DecidableEq α] (l : List α) (a : α) : decide (0 ≤ idxZ l a) = decide (a ∈ l) := by
 unfold idxZ
 split
 ·rename_i h; simp [h]
 ·rename_i h; simp [h]
set_option maxRecDepth 100000 in
set_option maxHeartbeats 2000000 in
theorem indexA_any (v : Value) (b : Nat) (l : List Ad) (a : Ad) (w : World) (h1 : Rd w 17 b v (l.map Ad.cells)) :
  Calls Tryz.prog 59 #[v, .agg a.cells.toArray] w fun e w' => e = .returned (.int .i64 (idxZ l a)) ∧ Touch [] w w' := by
 obtain ⟨a1, c1, rfl, hc1, hm1⟩ := h1.form
 simp only [List.length_map] at *
 have H1 := Lib.hid h1
 have hn1 : l.length ≤ 9223372036854775807 := by unfold maxLen at hm1; omega
 obtain ⟨n, hn⟩ : ∃ n, n = l.length := ⟨_, rfl⟩
 have HN := Lib.hid hn
 rw [← hn]
 rw [← hn] at hn1
 have HA := Lib.hid (range_new w a.cells 40)
 have HTA := Lib.hid ((Touch.refl [] w).alloc (.cells a.cells.toArray 40))
 have HLA := Lib.hid a.len
 generalize hr : idxZ l a = r at *
 have HR := Lib.hid hr
 clear h1 hm1 hn hc1 hr
 go_enter Tryz.func59, Tryz.ntmps59
 go_wp2_with fail
 go_loopw [8] (fun vi wr => ∃ (i : Nat), i ≤ n ∧ vi = .int .i64 i ∧ (∀ j, j < i → l[j]? ≠ some a) ∧ Touch [] (w.alloc (.cells a.cells.toArray 40)) wr) (fun vi _ => n - (intOf vi).toNat)
 case atStart => exact ⟨0, by omega, rfl, fun _ h => by omega, Touch.refl _ _⟩
 case round =>
  obtain ⟨i, hin, rfl, hno, ht⟩ := hrel
  have HT := Lib.hid ht
  have HNO := Lib.hid hno
  have ra := ht.range HA.out (by simp)
  clear ht hno HA
  by_cases hlt : i < n
  ·obtain ⟨x, hx⟩ : ∃ x, l[i]? = some x := ⟨_, List.getElem?_eq_getElem (by rw [← HN.out]; exact hlt)⟩
   obtain ⟨o1, rfl, hat1⟩ := H1.out.at (by intro e; rw [List.map_eq_nil_iff] at e; rw [e] at hx; simp at hx)
   have r1 := (HTA.out.trans HT.out (by simp)).range (hat1 i x.cells (by simp [hx])) (by simp)
   have HX := Lib.hid hx
   have HLX := Lib.hid x.len
   have hwi : IntKind.i64.wrap ((i : Int) + 1) = (i : Int) + 1 := by rw [IntKind.wrap_i64] <;> omega
   have hin2 : (i : Int) < (n : Int) := by omega
   clear hx hat1
   by_cases hxy : a = x
   ·have HXY := Lib.hid (show r = (i : Int) by rw [← HR.out]; exact idxZ_at (by rw [HX.out, hxy]) HNO.out)
    have HE := Lib.hid (eq_ad_t a x hxy)
    clear hxy
    go_wp2_with fail
    refine wp_region_held (S := Touch [] wr.drew) (by kernel_rfl) ?_
    change wpAnyH _ _ _ _ _ _ _ _ wr.drew
    have r1 : wr.drew.rangeAt b (o1 + i * 17) x.cells := r1
    have ra : wr.drew.rangeAt w.heap.size 0 a.cells := ra
    have HTd := Lib.hid (HT.out.drew)
    clear HT
    generalize wr.drew = W at *
    have hS := Touch.refl [] W
    refine tkH 0 (.agg a.cells.toArray) ?_ (hy := Or.inl ⟨by rfl, fun w' hw => exec_load_agg _ 40 _ rfl _ _ rfl a.cells _ (hw.range ra (by simp)) Tryz.underlying40 rfl (by rw [size31, HLA.out])⟩)
    refine tkH 1 (.slice (some ⟨b, o1, none⟩) n c1) ?_
    refine tkH 2 (.int .i64 (i : Nat)) ?_
    refine tkH 3 (.pointer (some ⟨b, o1 + i * 17, none⟩)) ?_
    refine tkH 4 (.agg x.cells.toArray) ?_ (hy := Or.inl ⟨by rfl, fun w' hw => exec_load_agg _ 40 _ rfl _ _ rfl x.cells _ (hw.range r1 (by simp)) Tryz.underlying40 rfl (by rw [size31, HLX.out])⟩)
    refine tkH 5 (.bool true) ?_ (hy := Or.inl ⟨by rfl, fun w' hw => exec_eql_agg _ 40 _ _ _ rfl a.cells.toArray x.cells.toArray rfl rfl (by kernel_rfl) true (HE.out w')⟩)
    refine wpAnyH_done (by kernel_rfl) ?_ _
    try simp only [Act.put, sT, s0, sS]
    have HT2 := Lib.hid (HTd.out.trans hS (by simp))
    clear hS HTd
    go_wp2_with fail
    go_ret
    exact ⟨by rw [HXY.out]; first | done | rfl, HTA.out.trans HT2.out (by simp)⟩
   ·have HXY := Lib.hid hxy
    have HE := Lib.hid (eq_ad_f a x hxy)
    clear hxy
    go_wp2_with fail
    refine wp_region_held (S := Touch [] wr.drew) (by kernel_rfl) ?_
    change wpAnyH _ _ _ _ _ _ _ _ wr.drew
    have r1 : wr.drew.rangeAt b (o1 + i * 17) x.cells := r1
    have ra : wr.drew.rangeAt w.heap.size 0 a.cells := ra
    have HTd := Lib.hid (HT.out.drew)
    clear HT
    generalize wr.drew = W at *
    have hS := Touch.refl [] W
    refine tkH 0 (.agg a.cells.toArray) ?_ (hy := Or.inl ⟨by rfl, fun w' hw => exec_load_agg _ 40 _ rfl _ _ rfl a.cells _ (hw.range ra (by simp)) Tryz.underlying40 rfl (by rw [size31, HLA.out])⟩)
    refine tkH 1 (.slice (some ⟨b, o1, none⟩) n c1) ?_
    refine tkH 2 (.int .i64 (i : Nat)) ?_
    refine tkH 3 (.pointer (some ⟨b, o1 + i * 17, none⟩)) ?_
    refine tkH 4 (.agg x.cells.toArray) ?_ (hy := Or.inl ⟨by rfl, fun w' hw => exec_load_agg _ 40 _ rfl _ _ rfl x.cells _ (hw.range r1 (by simp)) Tryz.underlying40 rfl (by rw [size31, HLX.out])⟩)
    refine tkH 5 (.bool false) ?_ (hy := Or.inl ⟨by rfl, fun w' hw => exec_eql_agg _ 40 _ _ _ rfl a.cells.toArray x.cells.toArray rfl rfl (by kernel_rfl) false (HE.out w')⟩)
    refine wpAnyH_done (by kernel_rfl) ?_ _
    try simp only [Act.put, sT, s0, sS]
    have HT2 := Lib.hid (HTd.out.trans hS (by simp))
    clear hS HTd
    go_wp2_with fail
    go_roundw
    case rel => exact ⟨i + 1, by omega, by go_num, by
     intro j hj
     by_cases e : j = i
     ·subst e; rw [HX.out]; intro h; cases h; exact HXY.out rfl
     ·exact HNO.out j (by omega), HT2.out⟩
    case measure => simp [intOf]; omega
  ·have HFIN := Lib.hid (show r = -1 by
    rw [← HR.out]
    refine idxZ_no (fun hm => ?_)
    obtain ⟨j, hj⟩ := List.getElem?_of_mem hm
    exact HNO.out j (by have := (List.getElem?_eq_some_iff.1 hj).1; have := HN.out; omega) hj)
   go_wp2_with fail
   go_ret
   exact ⟨by rw [HFIN.out]; first | done | rfl, HTA.out.trans HT.out (by simp)⟩
set_option maxRecDepth 100000 in
set_option maxHeartbeats 2000000 in
theorem containsA_any (v : Value) (b : Nat) (l : List Ad) (a : Ad) (w : World) (h1 : Rd w 17 b v (l.map Ad.cells)) :
  Calls Tryz.prog 55 #[v, .agg a.cells.toArray] w fun e w' => e = .returned (.bool (inL l a)) ∧ Touch [] w w' := by
 have HLA := Lib.hid a.len
 have HA := Lib.hid (range_new w a.cells 40)
 have HTA := Lib.hid ((Touch.refl [] w).alloc (.cells a.cells.toArray 40))
 have HI := Lib.hid (indexA_any v b l a (w.alloc (.cells a.cells.toArray 40)) (HTA.out |> fun t => h1.touch t (by simp)))
 have hra := HA.out
 clear h1
 unfold inL
 rw [← idxZ_ge l a]
 generalize idxZ l a = r at *
 go_enter Tryz.func55, Tryz.ntmps55
 go_wp2_with ((with_reducible refine at_load 40 ?_); refine wpList_load_mid rfl 40 _ rfl w.heap.size 0 rfl a.cells _ hra Tryz.underlying40 rfl (by rw [size31, HLA.out]) ?_)
 refine HI.out.mono ?_
 rintro e w2 ⟨rfl, t2⟩
 have HT2 := Lib.hid (HTA.out.trans t2 (by simp))
 clear t2 hra
 go_wp2_with fail
 go_ret
 exact ⟨rfl, HT2.out⟩
/-- A slice of integers of the call's own, made since w0. -/
def OwnK (w0 w : World) (v : Value) (l : List Nat) : Prop := w.ownsRow 0 3 1 v l.length (l.map fun (k : Nat) => Value.int .i64 (k : Int)) ∧ ∀ g, v.ownBlock = some g → w0.heap.size ≤ g
theorem OwnK.nil (w0 w : World) : OwnK w0 w (.slice none 0 0) [] := ⟨World.ownsRow_nil _ _ _ _, by simp [Value.ownBlock]⟩
theorem OwnK.touch {S : List Nat} {w0 w w' : World} {v : Value} {l : List Nat} (h : OwnK w0 w v l) (t : Touch S w w') (hn : ∀ g, v.ownBlock = some g → g ∉ S) : OwnK w0 w' v l := ⟨t.owns h.1 hn, h.2⟩
theorem OwnK.form {w0 w : World} {v : Value} {l : List Nat} (h : OwnK w0 w v l) : ∃ a c, v = .slice a l.length c ∧ l.length ≤ c ∧ c ≤ maxLen ∧ (0 < l.length → ∃ g, a = some ⟨g, 0, none⟩) := owns_form h.1
theorem OwnK.lt {w0 w : World} {v : Value} {l : List Nat} (h : OwnK w0 w v l) : ∀ g, v.ownBlock = some g → g < w.heap.size := fun g hg => (h.1.lt g hg).2
theorem OwnK.cell {w0 w : World} {g n c : Nat} {l : List Nat} (h : OwnK w0 w (.slice (some ⟨g, 0, none⟩) n c) l) (hn : n = l.length) {i k : Nat} (hk : l[i]? = some k) : w.cell? ⟨g, i, none⟩ = some (.int .i64 (k : Int)) := by
 subst hn
 exact owns_cell h.1 i _ (by simp [hk])
set_option maxRecDepth 100000 in
set_option maxHeartbeats 2000000 in
theorem indexK_any (w0 : World) (v : Value) (l : List Nat) (a : Nat) (ha : a ≤ 1000000000000000) (w : World) (h1 : OwnK w0 w v l) :
  Calls Tryz.prog 124 #[v, .int .i64 a] w fun e w' => e = .returned (.int .i64 (idxZ l a)) ∧ Touch [] w w' := by
 obtain ⟨a1, c1, rfl, hc1, hm1, hat⟩ := h1.form
 have H1 := Lib.hid h1
 have hn1 : l.length ≤ 9223372036854775807 := by unfold maxLen at hm1; omega
 obtain ⟨n, hn⟩ : ∃ n, n = l.length := ⟨_, rfl⟩
 have HN := Lib.hid hn
 rw [← hn] at H1 hat ⊢
 rw [← hn] at hn1
 generalize hr : idxZ l a = r at *
 have HR := Lib.hid hr
 clear h1 hm1 hn hc1 hr
 go_enter Tryz.func124, Tryz.ntmps124
 go_wp2_with fail
 go_loopw [8] (fun vi wr => ∃ (i : Nat), i ≤ n ∧ vi = .int .i64 i ∧ (∀ j, j < i → l[j]? ≠ some a) ∧ Touch [] w wr) (fun vi _ => n - (intOf vi).toNat)
 case atStart => exact ⟨0, by omega, rfl, fun _ h => by omega, Touch.refl _ _⟩
 case round =>
  obtain ⟨i, hin, rfl, hno, ht⟩ := hrel
  have HT := Lib.hid ht
  have HNO := Lib.hid hno
  clear hno
  by_cases hlt : i < n
  ·obtain ⟨x, hx⟩ : ∃ x, l[i]? = some x := ⟨_, List.getElem?_eq_getElem (by rw [← HN.out]; exact hlt)⟩
   obtain ⟨g, rfl⟩ := hat (by omega)
   have hcell := (H1.out.touch ht (by simp)).cell HN.out hx
   have HX := Lib.hid hx
   have hwi : IntKind.i64.wrap ((i : Int) + 1) = (i : Int) + 1 := by rw [IntKind.wrap_i64] <;> omega
   have hin2 : (i : Int) < (n : Int) := by omega
   clear hx ht
   by_cases hxy : a = x
   ·have HXY := Lib.hid (show r = (i : Int) by rw [← HR.out]; exact idxZ_at (by rw [HX.out, hxy]) HNO.out)
    have hq : ((a : Int) == (x : Int)) = true := by simp only [beq_iff_eq]; omega
    clear hxy
    go_wp2_with fail
    go_ret
    exact ⟨by rw [HXY.out]; first | done | rfl, HT.out⟩
   ·have HXY := Lib.hid hxy
    have hq : ((a : Int) == (x : Int)) = false := by simp only [beq_eq_false_iff_ne, ne_eq]; omega
    clear hxy
    go_wp2_with fail
    go_roundw
    case rel => exact ⟨i + 1, by omega, by go_num, by
     intro j hj
     by_cases e : j = i
     ·subst e; rw [HX.out]; intro h; cases h; exact HXY.out rfl
     ·exact HNO.out j (by omega), HT.out⟩
    case measure => simp [intOf]; omega
  ·have HFIN := Lib.hid (show r = -1 by
    rw [← HR.out]
    refine idxZ_no (fun hm => ?_)
    obtain ⟨j, hj⟩ := List.getElem?_of_mem hm
    exact HNO.out j (by have := (List.getElem?_eq_some_iff.1 hj).1; have := HN.out; omega) hj)
   clear ht
   go_wp2_with fail
   go_ret
   exact ⟨by rw [HFIN.out]; first | done | rfl, HT.out⟩
set_option maxRecDepth 100000 in
set_option maxHeartbeats 2000000 in
theorem containsK_any (w0 : World) (v : Value) (l : List Nat) (a : Nat) (ha : a ≤ 1000000000000000) (w : World) (h1 : OwnK w0 w v l) :
  Calls Tryz.prog 104 #[v, .int .i64 a] w fun e w' => e = .returned (.bool (decide (a ∈ l))) ∧ Touch [] w w' := by
 have HI := Lib.hid (indexK_any w0 v l a ha w h1)
 clear h1
 rw [← idxZ_ge l a]
 generalize idxZ l a = r at *
 go_enter Tryz.func104, Tryz.ntmps104
 go_wp2_with fail
 refine HI.out.mono ?_
 rintro e w2 ⟨rfl, t2⟩
 have HT2 := Lib.hid t2
 clear t2
 go_wp2_with fail
 go_ret
 exact ⟨rfl, HT2.out⟩
end Go.Proofs.YtiklhaajhdephaaGreatDoor

/-
 A queue of candidates in memory; what its functions compute, as plain lists.
-/
namespace Go.Proofs.YtiklhaajhdephaaGreatDoor
open Go.RowKit
set_option linter.unusedVariables false
set_option linter.unusedSimpArgs false

def famA (b : Bool) (l : List Ad) : List Ad := l.filter fun a => a.b == b
def interA (l : List Ad) (first : Int) (v6 : Bool) : List Ad :=
 if famA v6 l = [] then famA (!v6) l else (famA v6 l).take (leadI first (famA v6 l).length) ++ zipR (famA (!v6) l) ((famA v6 l).drop (leadI first (famA v6 l).length))
theorem fam_ad (b : Bool) (l : List Ad) : fam b (l.map Ad.cells) = (famA b l).map Ad.cells := by
 unfold fam famA
 rw [List.filter_map]
 rfl
theorem zipR_map {α β : Type} (f : α → β) : ∀ (os ls : List α), zipR (os.map f) (ls.map f) = (zipR os ls).map f
 | o :: os, l :: ls => by simp [zipR, zipR_map f os ls]
 | [], ls => by cases ls <;> simp [zipR]
 | o :: os, [] => by simp [zipR]
theorem inter_ad (l : List Ad) (first : Int) (v6 : Bool) : inter (l.map Ad.cells) first v6 = (interA l first v6).map Ad.cells := by
 unfold inter interA
 simp only [fam_ad, List.length_map, List.map_eq_nil_iff]
 split
 ·rfl
 ·rw [← List.map_take, ← List.map_drop, zipR_map, List.map_append]
theorem zipR_perm {α : Type} : ∀ (os ls : List α), (zipR os ls).Perm (os ++ ls)
 | o :: os, l :: ls => by
  simp only [zipR]
  refine ((zipR_perm os ls).cons l |>.cons o).trans ?_
  simp only [List.cons_append]
  exact List.Perm.cons _ List.perm_middle.symm
 | [], ls => by cases ls <;> simp [zipR]
 | o :: os, [] => by simp [zipR]
theorem famA_perm (b : Bool) (l : List Ad) : (famA b l ++ famA (!b) l).Perm l := by
 unfold famA
 have := List.filter_append_perm (fun a : Ad => a.b == b) l
 refine List.Perm.trans (List.Perm.append_left _ ?_) this
 rw [List.filter_congr (q := fun x => !(x.b == b))]
 intro x _
 cases x.b <;> cases b <;> rfl
/-- Interleaving loses nothing and adds nothing. -/
theorem interA_perm (l : List Ad) (first : Int) (v6 : Bool) : (interA l first v6).Perm l := by
 unfold interA
 split
 ·rename_i h
  have := famA_perm v6 l
  rw [h] at this
  simpa using this
 ·refine List.Perm.trans ?_ (famA_perm v6 l)
  refine (List.Perm.append_left _ (zipR_perm _ _)).trans ?_
  refine (List.perm_append_comm_assoc _ _ _).trans ?_
  rw [List.take_append_drop]
  exact List.perm_append_comm
/-! ### the queue -/
def Ad.valid (a : Ad) : Bool := vld a.b a.xs
def addS (A : List Ad) (a : Ad) : List Ad := if a.valid = true ∧ inL A a = false then A ++ [a] else A
def addL (A : List Ad) (l : List Ad) : List Ad := l.foldl addS A
theorem addS_len (A : List Ad) (a : Ad) : A.length ≤ (addS A a).length ∧ (addS A a).length ≤ A.length + 1 := by unfold addS; split <;> simp
theorem addL_len (A l : List Ad) : A.length ≤ (addL A l).length ∧ (addL A l).length ≤ A.length + l.length := by
 unfold addL
 induction l generalizing A with
 | nil => simp
 | cons a l ih =>
  rw [List.foldl_cons, List.length_cons]
  have h1 := addS_len A a
  have h2 := ih (addS A a)
  omega
/-- What was added and not taken, in the order of its coming. -/
def leftN (A : List Ad) (K : List Nat) : Nat → List Ad
 | 0 => []
 | n + 1 => match A[n]? with
  | some a => if n ∈ K then leftN A K n else leftN A K n ++ [a]
  | none => leftN A K n
def leftP (A : List Ad) (K : List Nat) : List Ad := leftN A K A.length
theorem leftN_len (A : List Ad) (K : List Nat) (n : Nat) : (leftN A K n).length ≤ n := by
 induction n with
 | zero => simp [leftN]
 | succ n ih =>
  unfold leftN
  split
  ·split
   ·omega
   ·simp; omega
  ·omega
theorem leftN_mem (A : List Ad) (K : List Nat) (n : Nat) (a : Ad) : a ∈ leftN A K n ↔ ∃ i, i < n ∧ i ∉ K ∧ A[i]? = some a := by
 induction n with
 | zero => simp [leftN]
 | succ n ih =>
  unfold leftN
  cases h : A[n]? with
  | none =>
   simp only
   rw [ih]
   constructor
   ·rintro ⟨i, h1, h2, h3⟩; exact ⟨i, by omega, h2, h3⟩
   ·rintro ⟨i, h1, h2, h3⟩
    refine ⟨i, ?_, h2, h3⟩
    rcases Nat.lt_or_ge i n with h4 | h4
    ·exact h4
    ·have : i = n := by omega
     subst this; rw [h] at h3; cases h3
  | some x =>
   simp only
   split
   ·rename_i hk
    rw [ih]
    constructor
    ·rintro ⟨i, h1, h2, h3⟩; exact ⟨i, by omega, h2, h3⟩
    ·rintro ⟨i, h1, h2, h3⟩
     refine ⟨i, ?_, h2, h3⟩
     rcases Nat.lt_or_ge i n with h4 | h4
     ·exact h4
     ·have : i = n := by omega
      subst this; exact absurd hk h2
   ·rename_i hk
    rw [List.mem_append, ih, List.mem_singleton]
    constructor
    ·rintro (⟨i, h1, h2, h3⟩ | e)
     ·exact ⟨i, by omega, h2, h3⟩
     ·subst e; exact ⟨n, by omega, hk, h⟩
    ·rintro ⟨i, h1, h2, h3⟩
     rcases Nat.lt_or_ge i n with h4 | h4
     ·exact .inl ⟨i, h4, h2, h3⟩
     ·have : i = n := by omega
      subst this; rw [h] at h3; cases h3; exact .inr rfl
/-- The address that was taken last. -/
def lastT (A : List Ad) (K : List Nat) : Option Ad := K.getLast?.bind fun i => A[i]?
/-- The addresses that are left, in the order in which they would be taken. -/
def remP (first : Int) (A : List Ad) (K : List Nat) : List Ad :=
 match sortS Ad.less (leftP A K) with
 | [] => []
 | a :: r => match lastT A K with
  | none => interA (a :: r) first a.b
  | some t => interA (a :: r) 1 (!t.b)
theorem remP_perm (first : Int) (A : List Ad) (K : List Nat) : (remP first A K).Perm (leftP A K) := by
 have hs := sortS_perm Ad.weak (leftP A K)
 unfold remP
 split
 ·rename_i h; rw [h] at hs; exact hs
 ·rename_i a r h
  rw [h] at hs
  split
  ·exact (interA_perm _ _ _).trans hs
  ·exact (interA_perm _ _ _).trans hs
/-- The queue at block h: its count, its addresses in the slice va, the places of those that were taken in the slice vt. -/
structure Qu (w0 w : World) (h : Nat) (va vt : Value) (first : Int) (A : List Ad) (K : List Nat) : Prop where
 cell : w.heap[h]? = some (.cells #[.int .i64 first, va, vt] 101 (0, 0))
 new : w0.heap.size ≤ h
 add : OwnA w0 w va A
 take : OwnK w0 w vt K
 ha : va.ownBlock ≠ some h
 ht : vt.ownBlock ≠ some h
 hat : ∀ g, va.ownBlock = some g → vt.ownBlock ≠ some g
 bound : ∀ i ∈ K, i < A.length
def qfoot (h : Nat) (va vt : Value) : List Nat := h :: (va.ownBlock.toList ++ vt.ownBlock.toList)
theorem Qu.touch {w0 w w' : World} {h : Nat} {va vt : Value} {first : Int} {A : List Ad} {K : List Nat} {S : List Nat} (q : Qu w0 w h va vt first A K) (t : Touch S w w') (hd : ∀ g ∈ qfoot h va vt, g ∉ S) : Qu w0 w' h va vt first A K :=
 ⟨t.at q.cell (hd h (by simp [qfoot])), q.new, Own.touch q.add t (fun g hg => hd g (by simp [qfoot, hg])), q.take.touch t (fun g hg => hd g (by simp [qfoot, hg])), q.ha, q.ht, q.hat, q.bound⟩
theorem Qu.lt {w0 w : World} {h : Nat} {va vt : Value} {first : Int} {A : List Ad} {K : List Nat} (q : Qu w0 w h va vt first A K) : ∀ g ∈ qfoot h va vt, w0.heap.size ≤ g ∧ g < w.heap.size := by
 intro g hg
 simp only [qfoot, List.mem_cons, List.mem_append, Option.mem_toList] at hg
 rcases hg with rfl | hg | hg
 ·exact ⟨q.new, (Array.getElem?_eq_some_iff.1 q.cell).1⟩
 ·exact ⟨q.add.new g hg, Own.lt q.add g hg⟩
 ·exact ⟨q.take.2 g hg, q.take.lt g hg⟩
theorem Qu.older {w0 w1 w : World} {h : Nat} {va vt : Value} {first : Int} {A : List Ad} {K : List Nat} (q : Qu w1 w h va vt first A K) (hz : w0.heap.size ≤ w1.heap.size) : Qu w0 w h va vt first A K :=
 ⟨q.cell, Nat.le_trans hz q.new, Own.older q.add hz, ⟨q.take.1, fun g hg => Nat.le_trans hz (q.take.2 g hg)⟩, q.ha, q.ht, q.hat, q.bound⟩
theorem Qu.cells {w0 w : World} {h : Nat} {va vt : Value} {first : Int} {A : List Ad} {K : List Nat} (q : Qu w0 w h va vt first A K) :
  w.cell? ⟨h, 0, none⟩ = some (.int .i64 first) ∧ w.cell? ⟨h, 1, none⟩ = some va ∧ w.cell? ⟨h, 2, none⟩ = some vt := by
 refine ⟨?_, ?_, ?_⟩ <;> rw [cell_of_row _ _ _ _ _ _ q.cell] <;> rfl
end Go.Proofs.YtiklhaajhdephaaGreatDoor

/-
 The contracts of candidates.New and of Add.
-/
namespace Go.Proofs.YtiklhaajhdephaaGreatDoor
open Go.RowKit
set_option linter.unusedVariables false
set_option linter.unusedSimpArgs false

set_option maxRecDepth 100000 in
set_option maxHeartbeats 1000000 in
theorem qnew_any (first : Int) (w : World) :
  Calls Tryz.prog 24 #[.int .i64 first] w fun e w' => e = .returned (.pointer (some ⟨w.heap.size, 0, none⟩)) ∧ Qu w w' w.heap.size (.slice none 0 0) (.slice none 0 0) first [] [] ∧ Touch [] w w' := by
 have HN := Lib.hid (heap_alloc_new w (.cells #[.int .i64 first, .slice none 0 0, .slice none 0 0] 101))
 have HT := Lib.hid ((Touch.refl [] w).alloc (.cells #[.int .i64 first, .slice none 0 0, .slice none 0 0] 101))
 go_enter Tryz.func24, Tryz.ntmps24
 go_wp2_with fail
 go_ret
 exact ⟨rfl, ⟨HN.out, Nat.le_refl _, Own.nil _ _, OwnK.nil _ _, by simp [Value.ownBlock], by simp [Value.ownBlock], by simp [Value.ownBlock], by simp⟩, HT.out⟩
theorem rd_newA (w : World) (y : Ad) (T : TypeId) : Rd (w.alloc (.cells [y.cells].flatten.toArray T)) 17 w.heap.size (.slice (some ⟨w.heap.size, 0, none⟩) 1 1) ([y].map Ad.cells) := by
 refine ⟨_, _, rfl, by simp, by unfold maxLen; omega, (fun e => by cases e), fun hne => ⟨0, rfl, fun i x hx j v hv => ?_⟩⟩
 have hi : i = 0 := by
  rcases Nat.eq_zero_or_pos i with h | h
  ·exact h
  ·rw [List.getElem?_eq_none (by simp; omega)] at hx; cases hx
 subst hi
 simp at hx
 subst hx
 have := range_new w [y.cells].flatten T j v (by simpa using hv)
 simpa [Nat.add_assoc] using this
theorem validA (a : Ad) (r : Bool) (h : a.valid = r) (w : World) : Calls Tryz.prog 22 #[.agg a.cells.toArray] w fun e w' => e = .returned (.bool r) ∧ Touch [] w w' := by
 subst h
 exact ipvalid_any a.b a.xs a.ok w
theorem hasA (v : Value) (b : Nat) (l : List Ad) (a : Ad) (r : Bool) (h : inL l a = r) (w : World) (h1 : Rd w 17 b v (l.map Ad.cells)) :
  Calls Tryz.prog 55 #[v, .agg a.cells.toArray] w fun e w' => e = .returned (.bool r) ∧ Touch [] w w' := by
 subst h
 exact containsA_any v b l a w h1
theorem Qu.push {w0 w w2 : World} {h : Nat} {va vt v2 : Value} {first : Int} {A A2 : List Ad} {K : List Nat} (q : Qu w0 w h va vt first A K) (t : Touch va.ownBlock.toList w w2) (o : OwnA w0 w2 v2 A2) (hA : A.length ≤ A2.length) (hv : v2.ownBlock = va.ownBlock ∨ ∃ k, v2.ownBlock = some k ∧ w.heap.size ≤ k) :
  Qu w0 (w2.setCell ⟨h, 1, none⟩ v2) h v2 vt first A2 K ∧ Touch (h :: va.ownBlock.toList) w (w2.setCell ⟨h, 1, none⟩ v2) := by
 have hlt : h < w.heap.size := (Array.getElem?_eq_some_iff.1 q.cell).1
 have hc := t.at q.cell (by intro hm; exact q.ha (by simpa using hm))
 have t2 : Touch [h] w2 (w2.setCell ⟨h, 1, none⟩ v2) := (Touch.refl [h] w2).setCell (p := ⟨h, 1, none⟩) (.inl (by simp)) _
 have hne : v2.ownBlock ≠ some h := by
  rcases hv with e | ⟨k, e, hk⟩
  ·rw [e]; exact q.ha
  ·rw [e]; intro e2; cases e2; omega
 refine ⟨⟨?_, q.new, Own.touch o t2 (fun g hg => by simp; intro e; subst e; exact hne hg), ?_, hne, q.ht, ?_, fun i hi => Nat.lt_of_lt_of_le (q.bound i hi) hA⟩, ?_⟩
 ·simp [World.setCell, Array.getElem?_modify, hc]
 ·have h1 := q.take.touch t (fun g hg => by simp; intro e; exact q.hat g e hg)
  exact h1.touch t2 (fun g hg => by simp; intro e; subst e; exact q.ht hg)
 ·intro g hg
  rcases hv with e | ⟨k, e, hk⟩
  ·exact q.hat g (by rw [← e]; exact hg)
  ·rw [e] at hg; cases hg
   intro e2
   have := q.take.lt _ e2
   omega
 ·exact (t.mono (fun x hx => .inl (by simp; right; simpa using hx))).trans t2 (fun x hx => .inl (by simp at hx; simp [hx]))
theorem addL_step (A l : List Ad) (i : Nat) (x : Ad) (hx : l[i]? = some x) : addL A (l.take (i + 1)) = addS (addL A (l.take i)) x := by
 unfold addL
 rw [List.take_add_one, hx, Option.toList_some, List.foldl_append]
 rfl
set_option maxRecDepth 100000 in
set_option maxHeartbeats 4000000 in
theorem qadd_any (w0 w : World) (h : Nat) (va vt : Value) (first : Int) (A : List Ad) (K : List Nat) (q : Qu w0 w h va vt first A K) (hz : w0.heap.size ≤ w.heap.size) (v : Value) (b : Nat) (l : List Ad) (hv : Rd w 17 b v (l.map Ad.cells)) (hb : l ≠ [] → b ∉ qfoot h va vt) (hl : (A.length + l.length) * 17 ≤ 140737488351232) :
  Calls Tryz.prog 25 #[.pointer (some ⟨h, 0, none⟩), v] w fun e w' => ∃ va', e = .returned (.int .i64 (((addL A l).length - A.length : Nat) : Int)) ∧ Qu w0 w' h va' vt first (addL A l) K ∧ Touch (h :: va.ownBlock.toList) w w' ∧ (va'.ownBlock = va.ownBlock ∨ ∃ k, va'.ownBlock = some k ∧ w.heap.size ≤ k) := by
 obtain ⟨a, cap, rfl, hlc, hcm⟩ := hv.form
 obtain ⟨aA, cA, hva, hlA, hcA, _⟩ := q.add.form
 simp only [List.length_map] at *
 obtain ⟨n, hn⟩ : ∃ n, n = l.length := ⟨_, rfl⟩
 obtain ⟨m, hm⟩ : ∃ m, m = A.length := ⟨_, rfl⟩
 have HN := Lib.hid hn
 have HM := Lib.hid hm
 have HV := Lib.hid hv
 have HQ := Lib.hid q
 have HHB := Lib.hid hb
 obtain ⟨c0, c1, c2⟩ := q.cells
 rw [hva, ← hm] at c1
 have HVA := Lib.hid hva
 rw [← hn] at HV ⊢
 rw [← hn, ← hm] at hl
 clear hv hn hm hlc hcm hlA hcA q hb hva
 go_enter Tryz.func25, Tryz.ntmps25
 go_wp2_with fail
 clear c0 c1 c2
 go_loopw [15] (fun vi wr => ∃ (i : Nat) (vb : Value), i ≤ n ∧ vi = .int .i64 i ∧ Qu w0 wr h vb vt first (addL A (l.take i)) K ∧ Touch (h :: va.ownBlock.toList) w wr ∧ (vb.ownBlock = va.ownBlock ∨ ∃ k, vb.ownBlock = some k ∧ w.heap.size ≤ k)) (fun vi _ => n - (intOf vi).toNat)
 case atStart => exact ⟨0, va, by omega, rfl, by simpa [addL] using HQ.out, Touch.refl _ _, .inl rfl⟩
 case round =>
  obtain ⟨i, vb, hin, rfl, hq, ht, hvb⟩ := hrel
  have HQI := Lib.hid hq
  have HT := Lib.hid ht
  have HVB := Lib.hid hvb
  have hlen := addL_len A (l.take i)
  obtain ⟨aB, cB, hvbf, hlB, hcB, _⟩ := hq.add.form
  have HBF := Lib.hid hvbf
  obtain ⟨k, hk⟩ : ∃ k, k = (addL A (l.take i)).length := ⟨_, rfl⟩
  have HK := Lib.hid hk
  have hkb : m ≤ k ∧ k ≤ m + i := by rw [hk, HM.out]; refine ⟨hlen.1, ?_⟩; have := hlen.2; rw [List.length_take] at this; omega
  rw [← hk] at hlB HBF
  clear hq ht hvb hlen hvbf hk
  by_cases hlt : i < n
  ·obtain ⟨x, hx⟩ : ∃ x, l[i]? = some x := ⟨_, List.getElem?_eq_getElem (by rw [← HN.out]; exact hlt)⟩
   obtain ⟨o1, rfl, hat1⟩ := HV.out.at (by intro e; rw [List.map_eq_nil_iff] at e; rw [e] at hx; simp at hx)
   have hbn := HHB.out (by intro e; rw [e] at hx; simp at hx)
   have r1 := HT.out.range (hat1 i x.cells (by simp [hx])) (by intro hm; apply hbn; simp only [qfoot, List.mem_cons, List.mem_append] at hm ⊢; rcases hm with e | e; exact .inl e; exact .inr (.inl e))
   have HLX := Lib.hid x.len
   have HST := Lib.hid (addL_step A l i x hx)
   have hwi : IntKind.i64.wrap ((i : Int) + 1) = (i : Int) + 1 := by rw [IntKind.wrap_i64] <;> omega
   have hin2 : (i : Int) < (n : Int) := by omega
   have HN0 := Lib.hid (heap_alloc_new wr (.cells (adr false (List.replicate 16 0)).toArray 40))
   have HNT := Lib.hid ((Touch.refl [] wr).alloc (.cells (adr false (List.replicate 16 0)).toArray 40))
   clear hx hat1 hbn
   go_wp2_with (first
    | ((with_reducible refine at_load 40 ?_); refine wpList_load_mid rfl 40 _ rfl b (o1 + i * 17) rfl x.cells _ r1 Tryz.underlying40 rfl (by rw [size31, HLX.out]) ?_)
    | ((with_reducible refine at_store 40 ?_); refine wpList_store_into rfl 40 _ _ rfl wr.heap.size 40 _ x.cells rfl rfl HN0.out (by rw [HLX.out]; rfl) (by rw [size31, HLX.out]) x.one ?_))
   intro B hB tB0 zB
   have tB := HNT.out.trans tB0 (by intro y hy; right; simp at hy; omega)
   have HQB := Lib.hid (HQI.out.touch tB (by simp))
   have HTB := Lib.hid tB
   have HRX := Lib.hid (range_block hB)
   have zB2 : B.heap.size = wr.heap.size + 1 := by simpa using zB
   have HGN := Lib.hid (show ∀ g, vb.ownBlock = some g → g < wr.heap.size from fun g hg => Own.lt HQI.out.add g hg)
   generalize hgb : wr.heap.size = gb at *
   have HGB := Lib.hid hgb
   clear tB tB0 hB HNT HN0 r1 hgb zB HQI
   go_wp2_with fail
   generalize hA0 : addL A (l.take i) = A0 at *
   clear hA0
   cases hval : x.valid with
   | false =>
    have HVL := Lib.hid (validA x false hval)
    have HS := Lib.hid (show addL A (l.take (i + 1)) = A0 by rw [HST.out]; unfold addS; rw [if_neg (by simp [hval])])
    clear hval
    refine wp_region_held (S := Touch [] B.drew) (by kernel_rfl) ?_
    change wpAnyH _ _ _ _ _ _ _ _ B.drew
    have HQW := Lib.hid (HQB.out.touch ((Touch.refl [] B).drew) (by simp))
    have HRW := Lib.hid (((Touch.refl [] B).drew).range HRX.out (by simp))
    have HTW := Lib.hid (HT.out.trans HTB.out.drew (by simp))
    have zW : B.drew.heap.size = gb + 1 := zB2
    generalize B.drew = W at *
    have hS := Touch.refl [] W
    have c1 := HQW.out.cells.2.1
    rw [HBF.out] at c1
    obtain ⟨bB, hrB, _⟩ := HQW.out.add.rd
    have HRB := Lib.hid hrB
    clear hrB
    refine tkH 0 (.agg x.cells.toArray) ?_ (hy := Or.inl ⟨by rfl, fun w' hw => exec_load_agg _ 40 _ rfl _ _ rfl x.cells _ (hw.range HRW.out (by simp)) Tryz.underlying40 rfl (by rw [size31, HLX.out])⟩)
    refine wpAnyH_ready (rs := [1]) (by kernel_rfl) (by simp) ?_
    refine cnH rfl (fun K hK => ?_) AllReadyH.nil
    go_simp
    refine (HVL.out _).mono ?_
    rintro e w1 ⟨rfl, t1⟩
    have hS2 := hS.trans t1 (by simp)
    refine hK.out _ _ hS2 (fun _ => ?_)
    clear hK K hS t1
    have hS := hS2
    clear hS2
    try simp only [Act.put, sT, s0, sS]
    refine tkH 2 (.bool false) ?_
    refine tkN 3 undef ?_
    refine tkN 4 undef ?_
    refine tkN 5 undef ?_
    refine tkN 6 undef ?_
    refine tkN 7 undef ?_
    refine tkN 8 undef ?_
    refine tkN 9 undef ?_
    refine tkH 10 (.bool false) ?_
    refine wpAnyH_done (by kernel_rfl) ?_ _
    try simp only [Act.put, sT, s0, sS]
    clear c1
    have HT3 := Lib.hid (hS)
    clear hS
    go_wp2_with fail
    go_roundw
    case rel => exact ⟨i + 1, vb, by omega, by go_num, by rw [HS.out]; exact HQW.out.touch HT3.out (by simp), HTW.out.trans HT3.out (by simp), HVB.out⟩
    case measure => simp [intOf]; omega
   | true =>
    have HVL := Lib.hid (validA x true hval)
    cases hin2 : inL A0 x with
    | true =>
     have HS := Lib.hid (show addL A (l.take (i + 1)) = A0 by rw [HST.out]; unfold addS; rw [if_neg (by simp [hin2])])
     have HIN := Lib.hid hin2
     clear hval hin2
     refine wp_region_held (S := Touch [] B.drew) (by kernel_rfl) ?_
     change wpAnyH _ _ _ _ _ _ _ _ B.drew
     have HQW := Lib.hid (HQB.out.touch ((Touch.refl [] B).drew) (by simp))
     have HRW := Lib.hid (((Touch.refl [] B).drew).range HRX.out (by simp))
     have HTW := Lib.hid (HT.out.trans HTB.out.drew (by simp))
     have zW : B.drew.heap.size = gb + 1 := zB2
     generalize B.drew = W at *
     have hS := Touch.refl [] W
     have c1 := HQW.out.cells.2.1
     rw [HBF.out] at c1
     obtain ⟨bB, hrB, _⟩ := HQW.out.add.rd
     have HRB := Lib.hid hrB
     clear hrB
     refine tkH 0 (.agg x.cells.toArray) ?_ (hy := Or.inl ⟨by rfl, fun w' hw => exec_load_agg _ 40 _ rfl _ _ rfl x.cells _ (hw.range HRW.out (by simp)) Tryz.underlying40 rfl (by rw [size31, HLX.out])⟩)
     refine wpAnyH_ready (rs := [1]) (by kernel_rfl) (by simp) ?_
     refine cnH rfl (fun K hK => ?_) AllReadyH.nil
     go_simp
     refine (HVL.out _).mono ?_
     rintro e w1 ⟨rfl, t1⟩
     have hS2 := hS.trans t1 (by simp)
     refine hK.out _ _ hS2 (fun _ => ?_)
     clear hK K hS t1
     have hS := hS2
     clear hS2
     try simp only [Act.put, sT, s0, sS]
     refine tkH 2 (.bool true) ?_
     refine tkH 3 (.pointer (some ⟨h, 0, none⟩)) ?_
     refine tkH 4 (.pointer (some ⟨h, 0, none⟩)) ?_
     refine tkH 5 (.pointer (some ⟨h, 1, none⟩)) ?_
     refine tkH 6 (.slice aB k cB) ?_ (hy := Or.inl ⟨by rfl, fun w' hw => by (have q := hw.cell c1 (by simp); go_simp)⟩)
     refine tkH 7 (.agg x.cells.toArray) ?_ (hy := Or.inl ⟨by rfl, fun w' hw => exec_load_agg _ 40 _ rfl _ _ rfl x.cells _ (hw.range HRW.out (by simp)) Tryz.underlying40 rfl (by rw [size31, HLX.out])⟩)
     refine wpAnyH_ready (rs := [8]) (by kernel_rfl) (by simp) ?_
     refine cnH rfl (fun K hK => ?_) AllReadyH.nil
     go_simp
     refine (hasA _ bB A0 x true HIN.out _ (by rw [← HBF.out]; exact HRB.out.touch hS (by simp))).mono ?_
     rintro e w8 ⟨rfl, t8⟩
     have hS2 := hS.trans t8 (by simp)
     refine hK.out _ _ hS2 (fun _ => ?_)
     clear hK K hS t8
     have hS := hS2
     clear hS2
     try simp only [Act.put, sT, s0, sS]
     refine tkH 9 (.bool false) ?_
     refine tkH 10 (.bool false) ?_
     refine wpAnyH_done (by kernel_rfl) ?_ _
     try simp only [Act.put, sT, s0, sS]
     clear c1
     have HT3 := Lib.hid (hS)
     clear hS
     go_wp2_with fail
     go_roundw
     case rel => exact ⟨i + 1, vb, by omega, by go_num, by rw [HS.out]; exact HQW.out.touch HT3.out (by simp), HTW.out.trans HT3.out (by simp), HVB.out⟩
     case measure => simp [intOf]; omega
    | false =>
     have HS := Lib.hid (show addL A (l.take (i + 1)) = A0 ++ [x] by rw [HST.out]; unfold addS; rw [if_pos ⟨hval, hin2⟩])
     have HIN := Lib.hid hin2
     clear hval hin2
     refine wp_region_held (S := Touch [] B.drew) (by kernel_rfl) ?_
     change wpAnyH _ _ _ _ _ _ _ _ B.drew
     have HQW := Lib.hid (HQB.out.touch ((Touch.refl [] B).drew) (by simp))
     have HRW := Lib.hid (((Touch.refl [] B).drew).range HRX.out (by simp))
     have HTW := Lib.hid (HT.out.trans HTB.out.drew (by simp))
     have zW : B.drew.heap.size = gb + 1 := zB2
     generalize B.drew = W at *
     have hS := Touch.refl [] W
     have c1 := HQW.out.cells.2.1
     rw [HBF.out] at c1
     obtain ⟨bB, hrB, _⟩ := HQW.out.add.rd
     have HRB := Lib.hid hrB
     clear hrB
     refine tkH 0 (.agg x.cells.toArray) ?_ (hy := Or.inl ⟨by rfl, fun w' hw => exec_load_agg _ 40 _ rfl _ _ rfl x.cells _ (hw.range HRW.out (by simp)) Tryz.underlying40 rfl (by rw [size31, HLX.out])⟩)
     refine wpAnyH_ready (rs := [1]) (by kernel_rfl) (by simp) ?_
     refine cnH rfl (fun K hK => ?_) AllReadyH.nil
     go_simp
     refine (HVL.out _).mono ?_
     rintro e w1 ⟨rfl, t1⟩
     have hS2 := hS.trans t1 (by simp)
     refine hK.out _ _ hS2 (fun _ => ?_)
     clear hK K hS t1
     have hS := hS2
     clear hS2
     try simp only [Act.put, sT, s0, sS]
     refine tkH 2 (.bool true) ?_
     refine tkH 3 (.pointer (some ⟨h, 0, none⟩)) ?_
     refine tkH 4 (.pointer (some ⟨h, 0, none⟩)) ?_
     refine tkH 5 (.pointer (some ⟨h, 1, none⟩)) ?_
     refine tkH 6 (.slice aB k cB) ?_ (hy := Or.inl ⟨by rfl, fun w' hw => by (have q := hw.cell c1 (by simp); go_simp)⟩)
     refine tkH 7 (.agg x.cells.toArray) ?_ (hy := Or.inl ⟨by rfl, fun w' hw => exec_load_agg _ 40 _ rfl _ _ rfl x.cells _ (hw.range HRW.out (by simp)) Tryz.underlying40 rfl (by rw [size31, HLX.out])⟩)
     refine wpAnyH_ready (rs := [8]) (by kernel_rfl) (by simp) ?_
     refine cnH rfl (fun K hK => ?_) AllReadyH.nil
     go_simp
     refine (hasA _ bB A0 x false HIN.out _ (by rw [← HBF.out]; exact HRB.out.touch hS (by simp))).mono ?_
     rintro e w8 ⟨rfl, t8⟩
     have hS2 := hS.trans t8 (by simp)
     refine hK.out _ _ hS2 (fun _ => ?_)
     clear hK K hS t8
     have hS := hS2
     clear hS2
     try simp only [Act.put, sT, s0, sS]
     refine tkH 9 (.bool true) ?_
     refine tkH 10 (.bool true) ?_
     refine wpAnyH_done (by kernel_rfl) ?_ _
     try simp only [Act.put, sT, s0, sS]
     clear c1
     have HT3 := Lib.hid hS
     have HQ3 := Lib.hid (HQW.out.touch HT3.out (by simp))
     have HX3 := Lib.hid (HT3.out.range HRW.out (by simp))
     have HTT := Lib.hid (HTW.out.trans HT3.out (by simp))
     clear hS
     go_wp2_with fail
     refine wp_region_F (S := Touch vb.ownBlock.toList w8.drew) [10] (by kernel_rfl) ?_
     change wpAnyF _ _ _ _ _ _ _ _ _ w8.drew
     have HQX := Lib.hid (HQ3.out.touch ((Touch.refl [] w8).drew) (by simp))
     have HRX3 := Lib.hid (((Touch.refl [] w8).drew).range HX3.out (by simp))
     have HTX := Lib.hid (HTT.out.drew)
     have zX : gb < w8.drew.heap.size := by have := HT3.out.size; simp; omega
     generalize w8.drew = X at *
     have hS := Touch.refl vb.ownBlock.toList X
     have c1 := HQX.out.cells.2.1
     rw [HBF.out] at c1
     have hhb : h ∉ vb.ownBlock.toList := by intro hm; exact HQX.out.ha (by simpa using hm)
     have hgb2 : gb ∉ vb.ownBlock.toList := by intro hm; have h1 := HGN.out gb (by simpa using hm); omega
     have HO := Lib.hid HQX.out.add
     have hzX : w0.heap.size ≤ X.heap.size := by have := HTX.out.size; omega
     have hl1 : (A0.length + 1) * 17 ≤ 140737488355328 := by rw [← HK.out]; omega
     refine tkF 0 (.pointer (some ⟨h, 0, none⟩)) ?_
     refine tkF 1 (.pointer (some ⟨h, 0, none⟩)) ?_
     refine tkF 2 (.pointer (some ⟨h, 0, none⟩)) ?_
     refine tkF 3 (.pointer (some ⟨h, 1, none⟩)) ?_
     refine tkF 4 (.slice aB k cB) ?_ (hy := Or.inl ⟨by rfl, fun w' hw => by (have q := hw.cell c1 hhb; go_simp)⟩)
     refine tkF 5 (.agg x.cells.toArray) ?_ (hy := Or.inl ⟨by rfl, fun w' hw => exec_load_agg _ 40 _ rfl _ _ rfl x.cells _ (hw.range HRX3.out hgb2) Tryz.underlying40 rfl (by rw [size31, HLX.out])⟩)
     refine wpAnyF_ready (rs := [6]) (by kernel_rfl) (by simp) ?_
     refine cnF rfl (fun K hK => ?_) AllReadyF.nil
     refine step_of_list rfl ?_
     refine wpList_build_ad rfl _ rfl x (by rfl) ?_
     have r6 := rd_newA X x 40
     have tA := (Touch.refl [] X).alloc (.cells [x.cells].flatten.toArray 40)
     have hS2 := hS.trans tA (by simp)
     have hO6 := (show OwnA w0 _ vb A0 from Own.touch HO.out tA (by simp))
     have zA : (X.alloc (.cells [x.cells].flatten.toArray 40)).heap.size = X.heap.size + 1 := by simp
     refine ⟨rfl, hK.out _ _ hS2 (fun _ => ?_)⟩
     clear hK K hS
     have hS := hS2
     clear hS2
     generalize hX1 : X.alloc (.cells [x.cells].flatten.toArray 40) = X1 at *
     clear hX1
     try simp only [Act.put, sT, s0, sS]
     refine wpAnyF_ready (rs := [7]) (by kernel_rfl) (by simp) ?_
     refine cnF rfl (fun K hK => ?_) AllReadyF.nil
     refine step_of_list rfl ?_
     refine wpList_app_ads w0 X1 rfl _ _ rfl vb A0 (by rw [HBF.out]; rfl) hO6 (by omega) _ _ [x] rfl r6 (by simp only [List.length_singleton]; exact hl1) ?_
     intro v7 w7 o7 t7 h7
     have hS2 := hS.trans t7 (fun y hy => .inl hy)
     refine ⟨rfl, hK.out _ _ hS2 (fun _ => ?_)⟩
     clear hK K hS
     have hS := hS2
     clear hS2
     try simp only [Act.put, sT, s0, sS]
     refine tkF 8 (.pointer (some ⟨h, 0, none⟩)) ?_
     refine tkF 9 (.pointer (some ⟨h, 1, none⟩)) ?_
     refine wpAnyF_ready (rs := [10]) (by kernel_rfl) (by simp) ?_
     refine clF rfl (by simp) (fun K hK => ?_) AllReadyF.nil
     have q1 := hS.cell c1 hhb
     have g0 : w7.frozen? ⟨h, 1, none⟩ = false := by simp [World.frozen?, hS.at HQX.out.cell hhb]
     obtain ⟨a7, c7, hv7, _, _, _⟩ := o7.form
     have HPU := HQX.out.push hS o7 (by simp) (by rcases h7 with e | e; exact .inl e; exact .inr ⟨_, e, by omega⟩)
     have HFIN := Lib.hid (show Qu w0 (w7.setCell ⟨h, 1, none⟩ v7) h v7 vt first (A0 ++ [x]) _ ∧ Touch (h :: va.ownBlock.toList) w (w7.setCell ⟨h, 1, none⟩ v7) ∧ (v7.ownBlock = va.ownBlock ∨ ∃ k, v7.ownBlock = some k ∧ w.heap.size ≤ k) from ⟨HPU.1, HTX.out.trans HPU.2 (by intro y hy; simp only [List.mem_cons, Option.mem_toList] at hy ⊢; rcases hy with e | e; exact .inl (.inl e); rcases HVB.out with e2 | ⟨q, e2, hq⟩; rw [e2] at e; exact .inl (.inr e); rw [e2] at e; cases e; exact .inr hq), by rcases h7 with e | e; rw [e]; exact HVB.out; exact .inr ⟨_, e, by have := HTX.out.size; omega⟩⟩)
     clear HPU h7 t7
     rw [List.length_append, List.length_singleton] at hv7
     subst hv7
     go_simp
     refine hK.out _ _ ?_
     clear hK K
     try simp only [Act.put, sT, s0, sS]
     refine wpAnyF_done (by kernel_rfl) ?_ _
     try simp only [Act.put, sT, s0, sS]
     go_wp2_with fail
     go_roundw
     case rel => exact ⟨i + 1, _, by omega, by go_num, by rw [HS.out]; exact HFIN.out.1, HFIN.out.2.1, HFIN.out.2.2⟩
     case measure => simp [intOf]; omega
  ·have HFIN := Lib.hid (show l.take i = l from List.take_of_length_le (by rw [← HN.out]; omega))
   obtain ⟨c0, c1, c2⟩ := HQI.out.cells
   rw [HBF.out] at c1
   have hwk : IntKind.i64.wrap ((k : Int) - (m : Int)) = ((k - m : Nat) : Int) := by rw [IntKind.wrap_i64] <;> omega
   clear c0 c2
   go_wp2_with fail
   go_ret
   refine ⟨vb, ?_, by have h := HQI.out; rw [HFIN.out] at h; exact h, HT.out, HVB.out⟩
   have h := HK.out
   rw [HFIN.out] at h
   rw [← h, ← HM.out]
   first | done | rfl
end Go.Proofs.YtiklhaajhdephaaGreatDoor

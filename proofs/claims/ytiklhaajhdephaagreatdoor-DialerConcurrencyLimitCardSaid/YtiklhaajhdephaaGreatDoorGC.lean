/-
  Merged texts: Ky, Ip, Tc, Cv, V6, Pr, Ro, Co, T6, La.
-/
import Derived.Test.YtiklhaajhdephaaGreatDoorGB
import Derived.Test.YtiklhaajhdephaaGreatDoorGA
import Derived.DeepKeys4
import Derived.Maps.Keyed
import Derived.Shelf.Strings.Trim
import Derived.Laws.BytesArg
import Derived.Lib.Hide
import Derived.StillTail
import Derived.StillTailTactics
import Derived.Laws.CopyRow
import Derived.Laws.IdiomCopy

/-
 Addresses as literals: equality and keys of maps.
-/
namespace Go.Proofs.YtiklhaajhdephaaGreatDoor
open Go.RowKit
set_option linter.unusedVariables false
set_option linter.unusedSimpArgs false

def okB (xs : List Int) : Prop := xs.length = 16 ∧ ∀ x ∈ xs, 0 ≤ x ∧ x ≤ 255
theorem sixteen {α : Type} (xs : List α) (h : xs.length = 16) : ∃ a b c d e f g i j k l m n o p q, xs = [a, b, c, d, e, f, g, i, j, k, l, m, n, o, p, q] := by
 match xs, h with
 | [a, b, c, d, e, f, g, i, j, k, l, m, n, o, p, q], _ => exact ⟨_, _, _, _, _, _, _, _, _, _, _, _, _, _, _, _, rfl⟩
def lits (b : Bool) (xs : List Int) : List Lit := .bool b :: xs.map (Lit.int .u8)
theorem lits_inj {b b' : Bool} {xs ys : List Int} : lits b xs = lits b' ys ↔ b = b' ∧ xs = ys := by
 unfold lits
 rw [List.cons.injEq]
 constructor
 ·rintro ⟨h1, h2⟩
  refine ⟨by simpa using h1, ?_⟩
  exact (List.map_inj_right (fun a b h => by simpa using h)).1 h2
 ·rintro ⟨rfl, rfl⟩
  exact ⟨rfl, rfl⟩
theorem key_ad (b : Bool) (xs : List Int) (h : okB xs) : Tryz.prog.keyLits 5 40 (adr b xs) = some (lits b xs) := by
 obtain ⟨hl, hr⟩ := h
 obtain ⟨x0, x1, x2, x3, x4, x5, x6, x7, x8, x9, x10, x11, x12, x13, x14, x15, rfl⟩ := sixteen xs hl
 have hwf : ∀ x : Int, 0 ≤ x ∧ x ≤ 255 → (Lit.int .u8 x).wf = true := by
  intro x hx
  simp [Lit.wf, IntKind.min, IntKind.max, IntKind.signed, IntKind.bits]
  omega
 have hk1 : ∀ x ∈ [x0, x1, x2, x3, x4, x5, x6, x7, x8, x9, x10, x11, x12, x13, x14, x15], ∀ d, Tryz.prog.keyLits (d + 1) 5 [.int .u8 x] = some [.int .u8 x] := by
  intro x hx d
  simp [Program.keyLits, Tryz.underlying5, hwf x (hr x hx)]
 simp only [List.mem_cons, List.not_mem_nil, or_false, forall_eq_or_imp, forall_eq] at hk1
 obtain ⟨k0, k1, k2, k3, k4, k5, k6, k7, k8, k9, k10, k11, k12, k13, k14, k15⟩ := hk1
 have c5 : Tryz.prog.cellsOf 5 = 1 := by kernel_rfl
 have c4 : Tryz.prog.cellsOf 4 = 1 := by kernel_rfl
 have c29 : Tryz.prog.cellsOf 38 = 16 := by kernel_rfl
 have c31 : Tryz.prog.cellsOf 40 = 17 := by kernel_rfl
 have hk2 : Tryz.prog.keyLits 4 38 ([x0, x1, x2, x3, x4, x5, x6, x7, x8, x9, x10, x11, x12, x13, x14, x15].map (Value.int .u8)) = some ([x0, x1, x2, x3, x4, x5, x6, x7, x8, x9, x10, x11, x12, x13, x14, x15].map (Lit.int .u8)) := by
  unfold Program.keyLits
  simp [Tryz.underlying38, c5, c29, List.range, List.range.loop, k0, k1, k2, k3, k4, k5, k6, k7, k8, k9, k10, k11, k12, k13, k14, k15]
 have hk3 : Tryz.prog.keyLits 4 4 [.bool b] = some [.bool b] := by
  simp [Program.keyLits, Tryz.underlying4]
 simp only [List.map_cons, List.map_nil] at hk2
 unfold Program.keyLits
 simp [Tryz.underlying40, adr, lits, c4, c29, c31, hk2, hk3]
set_option maxRecDepth 100000 in
theorem eq_ads (b b' : Bool) (xs ys : List Int) (h : okB xs) (h' : okB ys) (w : World) : (Op.equalIn 10000 40 (.agg (adr b xs).toArray) (.agg (adr b' ys).toArray)).run Tryz.prog w = .ok (decide (b = b' ∧ xs = ys)) w := by
 have key : ∃ r, (Op.equalIn 10000 40 (.agg (adr b xs).toArray) (.agg (adr b' ys).toArray)).run Tryz.prog w = .ok r w ∧ (r = true ↔ lits b xs = lits b' ys) := by
  have k1 := key_ad b xs h
  have k2 := key_ad b' ys h'
  generalize lits b xs = l1 at *
  generalize lits b' ys = l2 at *
  obtain ⟨x0, x1, x2, x3, x4, x5, x6, x7, x8, x9, x10, x11, x12, x13, x14, x15, rfl⟩ := sixteen xs h.1
  obtain ⟨y0, y1, y2, y3, y4, y5, y6, y7, y8, y9, y10, y11, y12, y13, y14, y15, rfl⟩ := sixteen ys h'.1
  exact run_equalIn_deep 9995 5 40 (by kernel_rfl) w 5 5 _ _ l1 l2 (by rfl) (by rfl) k1 k2
 obtain ⟨r, hrun, hi⟩ := key
 rw [lits_inj] at hi
 rw [hrun]
 by_cases e : b = b' ∧ xs = ys
 ·rw [hi.2 e]
  simp [e]
 ·have hf : r = false := by
   cases r
   ·rfl
   ·exact absurd (hi.1 rfl) e
  rw [hf, decide_eq_false e]
end Go.Proofs.YtiklhaajhdephaaGreatDoor

/-
 The contracts of ip.Valid and ip.BitLen.
-/
namespace Go.Proofs.YtiklhaajhdephaaGreatDoor
open Go.RowKit Go.Shelf
set_option linter.unusedVariables false
set_option linter.unusedSimpArgs false

/-- An IPv4 address uses only the first four bytes. -/
def vld (b : Bool) (xs : List Int) : Bool := b || (xs.drop 4).all (· == 0)
theorem dropWhile_none {α : Type} (p : α → Bool) : ∀ l : List α, l.dropWhile p = [] ↔ ∀ x ∈ l, p x = true
 | [] => by simp
 | a :: l => by
  cases h : p a
  ·simp [List.dropWhile, h]
  ·simp [List.dropWhile, h, dropWhile_none p l]
theorem dropWhile_last {α : Type} (p : α → Bool) : ∀ l : List α, ∀ x m, l.dropWhile p = x :: m → p x = false
 | [], x, m, h => by simp at h
 | a :: l, x, m, h => by
  cases h2 : p a
  ·simp [List.dropWhile, h2] at h
   rw [← h.1]
   exact h2
  ·simp [List.dropWhile, h2] at h
   exact dropWhile_last p l x m h
theorem dropWhile_mem {α : Type} (p : α → Bool) : ∀ l : List α, ∀ x ∈ l.dropWhile p, x ∈ l
 | [], x, h => by simp at h
 | a :: l, x, h => by
  cases h2 : p a
  ·simp [List.dropWhile, h2] at h
   simpa using h
  ·simp [List.dropWhile, h2] at h
   exact List.mem_cons_of_mem _ (dropWhile_mem p l x h)
theorem trim_empty {l : List UInt8} {c : UInt8} : Lib.trimB l c = [] ↔ ∀ x ∈ l, x = c := by
 unfold Lib.trimB Lib.trimLeftB Lib.trimRightB
 rw [dropWhile_none]
 constructor
 ·intro h
  have h2 : l.reverse.dropWhile (· == c) = [] := by
   cases h3 : l.reverse.dropWhile (· == c) with
   | nil => rfl
   | cons x m =>
    have h4 := dropWhile_last _ _ x m h3
    have h5 := h x (by rw [h3]; simp)
    rw [h5] at h4
    cases h4
  rw [dropWhile_none] at h2
  intro x hx
  simpa using h2 x (by simpa using hx)
 ·intro h x hx
  have h2 := dropWhile_mem _ _ x (List.mem_reverse.1 hx)
  simpa using h x (by simpa using h2)
theorem bytes_zero {xs : List Int} (hr : ∀ x ∈ xs, 0 ≤ x ∧ x ≤ 255) : (∀ y ∈ (xs.map fun n => UInt8.ofNat n.toNat), y = 0) ↔ xs.all (· == 0) = true := by
 rw [List.all_eq_true]
 constructor
 ·intro h x hx
  have h1 := h _ (List.mem_map.2 ⟨x, hx, rfl⟩)
  have h2 := hr x hx
  have h3 := congrArg UInt8.toNat h1
  simp at h3
  simp
  omega
 ·intro h y hy
  obtain ⟨x, hx, rfl⟩ := List.mem_map.1 hy
  have := h x hx
  simp at this
  subst this
  rfl
theorem adr_cell {w : World} {g : Nat} {T : TypeId} {b : Bool} {xs : List Int} (h : w.heap[g]? = some (.cells (adr b xs).toArray T (0, 0))) : w.cell? ⟨g, 0, none⟩ = some (.bool b) ∧ ∀ j x, xs[j]? = some x → w.cell? ⟨g, 1 + j, none⟩ = some (.int .u8 x) := by
 constructor
 ·simp [World.cell?, h, adr]
 ·intro j x hj
  simp [World.cell?, h, adr, Nat.add_comm 1 j, hj]
theorem trim_zero (ys : List Int) (hr : ∀ x ∈ ys, 0 ≤ x ∧ x ≤ 255) (hl : ys.length ≤ 1000) (w : World) :
  Calls Tryz.prog 54 #[.string (strOfNums ys), .string ⟨#[0]⟩] w fun e w' => ∃ s : ByteArray, e = .returned (.string s) ∧ s.toList.isEmpty = ys.all (· == 0) ∧ Touch [] w w' := by
 have h1 : (strOfNums ys).data.toList = ys.map fun n => UInt8.ofNat n.toNat := by simp [strOfNums]
 refine (Any.strings_Trim_one Tryz.trimL (strOfNums ys) 0 (by decide) w (by simp [strOfNums, ByteArray.size]; omega)).mono ?_
 rintro e w' ⟨rfl, hw⟩
 refine ⟨_, rfl, ?_, ?_⟩
 ·rw [h1, ByteArray.toList_eq]
  have hz := (bytes_zero hr).symm.trans (trim_empty (l := ys.map fun n => UInt8.ofNat n.toNat) (c := 0)).symm
  by_cases e : ys.all (· == 0) = true
  ·rw [e, hz.1 e]
   rfl
  ·have e2 : Lib.trimB (ys.map fun n => UInt8.ofNat n.toNat) 0 ≠ [] := fun q => e (hz.2 q)
   have e3 : ys.all (· == 0) = false := by simpa using e
   rw [e3]
   cases hq : Lib.trimB (ys.map fun n => UInt8.ofNat n.toNat) 0 with
   | nil => exact absurd hq e2
   | cons x m =>
    rfl
 ·rcases hw with rfl | rfl
  ·exact Touch.refl _ _
  ·exact (Touch.refl _ _).drew
set_option maxRecDepth 100000 in
set_option maxHeartbeats 1000000 in
theorem ipvalid_any (b : Bool) (xs : List Int) (h : okB xs) (w : World) :
  Calls Tryz.prog 22 #[.agg (adr b xs).toArray] w fun e w' => e = .returned (.bool (vld b xs)) ∧ Touch [] w w' := by
 have gA := heap_alloc_new w (.cells (adr b xs).toArray 40)
 have tA := (Touch.refl [] w).alloc (.cells (adr b xs).toArray 40)
 obtain ⟨c0, cj⟩ := adr_cell gA
 have hcv := run_convert_bytes_arg (P := Tryz.prog) (w.alloc (.cells (adr b xs).toArray 40)) 94 5 Tryz.underlying94 Tryz.underlying5 w.heap.size 5 12 12 (xs.drop 4) (by simp [h.1]) (by
  intro i hi
  have hlt : 4 + i < xs.length := by rw [h.1]; omega
  have := cj (4 + i) xs[4 + i] (by rw [List.getElem?_eq_getElem])
  rw [show 5 + i = 1 + (4 + i) by omega, this]
  simp [List.getD_eq_getElem?_getD, List.getElem?_drop, List.getElem?_eq_getElem hlt]) 9 Tryz.underlying9
 have hr4 : ∀ x ∈ xs.drop 4, 0 ≤ x ∧ x ≤ 255 := fun x hx => h.2 x (List.mem_of_mem_drop hx)
 have HR4 := Lib.hid (trim_zero (xs.drop 4) hr4 (by simp; have := h.1; omega))
 cases b with
 | true =>
  have HV := Lib.hid (show vld true xs = true from rfl)
  clear hr4 cj hcv gA
  go_enter Tryz.func22, Tryz.ntmps22
  go_wp2_with fail
  go_ret
  exact ⟨by rw [HV.out]; rfl, tA⟩
 | false =>
  have HV := Lib.hid (show vld false xs = (xs.drop 4).all (· == 0) from rfl)
  clear hr4 cj gA
  go_enter Tryz.func22, Tryz.ntmps22
  go_wp2_with fail
  refine (HR4.out _).mono ?_
  rintro e w' ⟨s, rfl, hs, ht⟩
  have HT := Lib.hid (tA.trans ht (by simp))
  have HS := Lib.hid hs
  clear hs ht tA
  go_wp2_with fail
  go_ret
  exact ⟨by rw [HV.out, ← HS.out]; simp, HT.out⟩
def blen (b : Bool) : Int := if b then 128 else 32
set_option maxRecDepth 100000 in
theorem bitlen_any (b : Bool) (xs : List Int) (w : World) :
  Calls Tryz.prog 171 #[.agg (adr b xs).toArray] w fun e w' => e = .returned (.int .i64 (blen b)) ∧ Touch [] w w' := by
 have gA := heap_alloc_new w (.cells (adr b xs).toArray 40)
 have tA := (Touch.refl [] w).alloc (.cells (adr b xs).toArray 40)
 obtain ⟨c0, cj⟩ := adr_cell gA
 clear cj gA
 cases b
 ·go_enter Tryz.func171, Tryz.ntmps171
  go_wp2_with fail
  go_ret
  exact ⟨rfl, tA⟩
 ·go_enter Tryz.func171, Tryz.ntmps171
  go_wp2_with fail
  go_ret
  exact ⟨rfl, tA⟩
end Go.Proofs.YtiklhaajhdephaaGreatDoor

/-
 The contract of cidr.truncate.
-/
namespace Go.Proofs.YtiklhaajhdephaaGreatDoor
open Go.RowKit
set_option linter.unusedVariables false
set_option linter.unusedSimpArgs false

/-- How many bits of byte i are kept; the byte's mask; the byte's rest; the bytes. -/
def keep (bits : Int) (i : Nat) : Int := max 0 (min (bits - 8 * i) 8)
def cutB (bits : Int) (i : Nat) (x : Int) : Int := Go.bits BinOp.and IntKind.u8 x (255 * 2 ^ (8 - keep bits i).toNat % 256)
def trunc (bits : Int) (xs : List Int) : List Int := xs.mapIdx fun i x => cutB bits i x
def trunk (bits : Int) (xs : List Int) (k : Nat) : List Int := xs.mapIdx fun i x => if i < k then cutB bits i x else x
theorem trunk_zero (bits : Int) (xs : List Int) : trunk bits xs 0 = xs := by
 unfold trunk
 apply List.ext_getElem?
 intro j
 simp [List.getElem?_mapIdx]
theorem trunk_all (bits : Int) (xs : List Int) : trunk bits xs xs.length = trunc bits xs := by
 unfold trunk trunc
 apply List.ext_getElem?
 intro j
 simp only [List.getElem?_mapIdx]
 cases h : xs[j]? with
 | none => rfl
 | some x =>
  have := (List.getElem?_eq_some_iff.1 h).1
  simp [this]
theorem trunk_step (bits : Int) (xs : List Int) (k : Nat) (x : Int) (hx : xs[k]? = some x) : trunk bits xs (k + 1) = (trunk bits xs k).set k (cutB bits k x) := by
 unfold trunk
 apply List.ext_getElem?
 intro j
 rw [List.getElem?_set]
 simp only [List.getElem?_mapIdx, List.length_mapIdx]
 have hk := (List.getElem?_eq_some_iff.1 hx).1
 by_cases e : k = j
 ·subst e
  have hx' := (List.getElem?_eq_some_iff.1 hx).2
  simp [hk, hx']
 ·simp [e]
  cases h : xs[j]? with
  | none => rfl
  | some y =>
   simp
   have : j < k + 1 ↔ j < k := by omega
   simp [this]
theorem trunk_at (bits : Int) (xs : List Int) (k : Nat) : (trunk bits xs k)[k]? = xs[k]? := by
 unfold trunk
 simp [List.getElem?_mapIdx]
theorem cutB_ok (bits : Int) (i : Nat) (x : Int) : 0 ≤ cutB bits i x ∧ cutB bits i x ≤ 255 := by
 unfold cutB Go.bits
 simp [IntKind.wrap, IntKind.signed, IntKind.bits]
 omega
theorem trunc_ok {bits : Int} {xs : List Int} (h : okB xs) : okB (trunc bits xs) := by
 refine ⟨by simp [trunc, h.1], fun y hy => ?_⟩
 obtain ⟨i, hi⟩ := List.getElem?_of_mem hy
 simp only [trunc, List.getElem?_mapIdx, Option.map_eq_some_iff] at hi
 obtain ⟨x, _, rfl⟩ := hi
 exact cutB_ok bits i x
theorem set_adr (w : World) (g k : Nat) (T : TypeId) (b : Bool) (xs : List Int) (y : Int) (h : w.heap[g]? = some (.cells (adr b xs).toArray T (0, 0))) :
  (w.setCell ⟨g, 1 + k, none⟩ (.int .u8 y)).heap[g]? = some (.cells (adr b (xs.set k y)).toArray T (0, 0)) := by
 simp [World.setCell, Array.getElem?_modify, h, adr, List.map_set, Nat.add_comm 1 k]
set_option maxRecDepth 100000 in
set_option maxHeartbeats 4000000 in
theorem trunc_any (b : Bool) (xs : List Int) (h : okB xs) (bits : Int) (hb0 : 0 ≤ bits) (hb1 : bits ≤ 128) (w : World) :
  Calls Tryz.prog 165 #[.agg (adr b xs).toArray, .int .i64 bits] w fun e w' => e = .returned (.agg (adr b (trunc bits xs)).toArray) ∧ Touch [] w w' := by
 have gA := heap_alloc_new w (.cells (adr b xs).toArray 40)
 have tA := (Touch.refl [] w).alloc (.cells (adr b xs).toArray 40)
 have hz : ∃ z, ((w.alloc (.cells (adr b xs).toArray 40)).alloc (.cells z 40)).heap[w.heap.size + 1]? = some (.cells z 40 (0, 0)) ∧ z = (adr false (List.replicate 16 0)).toArray := ⟨_, heap_alloc2_new w _ _, rfl⟩
 obtain ⟨z, hz1, hz2⟩ := hz
 have gB := ((Touch.refl [] (w.alloc (.cells (adr b xs).toArray 40))).alloc (.cells z 40)).at gA (by simp)
 have tB := tA.alloc (.cells z 40)
 have hlen := h.1
 have HZ := Lib.hid hz1
 have HG := Lib.hid gB
 have HT := Lib.hid tB
 have HL := Lib.hid hlen
 have hzs : z.size = 17 := by rw [hz2]; rfl
 clear gA tA gB tB hz1
 go_enter Tryz.func165, Tryz.ntmps165
 go_wp2_with fail
 go_loopw [7] (fun vi wr => ∃ (k : Nat), vi = .int .i64 k ∧ k ≤ 16 ∧ Touch [] w wr ∧ wr.heap[w.heap.size]? = some (.cells (adr b (trunk bits xs k)).toArray 40 (0, 0)) ∧ wr.heap[w.heap.size + 1]? = some (.cells z 40 (0, 0))) (fun vi _ => 16 - (intOf vi).toNat)
 case atStart => exact ⟨0, rfl, by omega, by subst hz2; exact HT.out, by subst hz2; rw [trunk_zero]; exact HG.out, by have := HZ.out; subst hz2; exact this⟩
 case round =>
  obtain ⟨k, rfl, hk, ht, hg, hz⟩ := hrel
  have HT := Lib.hid ht
  have HG := Lib.hid hg
  have HZ := Lib.hid hz
  clear ht hg hz
  by_cases hk2 : k < 16
  ·have hx : xs[k]? = some xs[k] := List.getElem?_eq_getElem (by omega)
   have c1 := (adr_cell HG.out).2 k xs[k] (by rw [trunk_at]; exact hx)
   have f1 : wr.frozen? ⟨w.heap.size, 1 + k, none⟩ = false := by simp [World.frozen?, HG.out]
   have hst := trunk_step bits xs k xs[k] hx
   have hsa := set_adr wr w.heap.size k 40 b (trunk bits xs k) (cutB bits k xs[k]) HG.out
   rw [← hst] at hsa
   have HSA := Lib.hid hsa
   generalize xs[k] = x at *
   have hw8 : IntKind.i64.wrap (8 * (k : Int)) = 8 * (k : Int) := by rw [IntKind.wrap_i64] <;> omega
   have hwb : IntKind.i64.wrap (bits - 8 * (k : Int)) = bits - 8 * (k : Int) := by rw [IntKind.wrap_i64] <;> omega
   have hkp : max 0 (min (bits - 8 * (k : Int)) 8) = keep bits k := rfl
   have hk0 : 0 ≤ keep bits k := by unfold keep; omega
   have hk8 : keep bits k ≤ 8 := by unfold keep; omega
   have hwk : IntKind.i64.wrap (8 - keep bits k) = 8 - keep bits k := by rw [IntKind.wrap_i64] <;> omega
   clear hx hst hsa
   go_wp2_with fail
   refine wp_region_still_tail 10 (by kernel_rfl) (by kernel_rfl) ?_
   simp only [List.take_succ_cons, List.take_zero, List.drop_succ_cons, List.drop_zero]
   iterate 10 still_step
   refine wpStill_nil ?_
   change wpList _ _ _ _ _ wr.drew
   go_wp2_with fail
   go_roundw
   case rel =>
    refine ⟨k + 1, by simp, by omega, ?_, HSA.out, ?_⟩
    ·exact ((HT.out.setCell (p := ⟨w.heap.size, 1 + k, none⟩) (by right; exact Nat.le_refl _) _).drew)
    ·exact ((Touch.refl [w.heap.size] wr).setCell (p := ⟨w.heap.size, 1 + k, none⟩) (by simp) (.int .u8 (cutB bits k x))).at HZ.out (by simp)
   case measure => simp [intOf]; omega
  ·have hke : k = 16 := by omega
   subst hke
   have hta := trunk_all bits xs
   rw [hlen] at hta
   have hg := HG.out
   rw [hta] at hg
   have HR := Lib.hid (trunc_ok (bits := bits) h)
   generalize hys : trunc bits xs = ys at *
   have HG2 := Lib.hid hg
   have r1 := range_block hg
   have hl17 : (adr b ys).length = 17 := by simp [adr, HR.out.1]
   have HL17 := Lib.hid hl17
   have HYS := Lib.hid hys
   clear hg hta hl17 hys
   go_wp2_with (first
    | (refine wpList_load_mid rfl 40 _ rfl w.heap.size 0 rfl (adr b ys) _ r1 Tryz.underlying40 rfl (by rw [size31, HL17.out]) ?_)
    | (refine wpList_store_into rfl 40 _ _ rfl (w.heap.size + 1) 40 z (adr b ys) rfl rfl HZ.out (by rw [hzs, HL17.out]) (by rw [size31, HL17.out]) (adr_one _ _) ?_))
   intro w3 hg3 t3 hz3
   go_wp2_with fail
   exact ret_adr rfl HL17.out rfl hg3 ⟨by rw [HYS.out], HT.out.trans t3 (by simp)⟩
end Go.Proofs.YtiklhaajhdephaaGreatDoor

/-
 The contracts of cidr.Valid and cidr.Contains at a valid prefix and a valid address of its family.
-/
namespace Go.Proofs.YtiklhaajhdephaaGreatDoor
open Go.RowKit
set_option linter.unusedVariables false
set_option linter.unusedSimpArgs false

theorem exec_load_agg {P : Program} {a : Act} {w : World} (op : Oper) (ty : TypeId) (x : Operand) (ho : op.op = .load ty x)
  (b o : Nat) (hx : a.eval x = .pointer (some ⟨b, o, none⟩)) (cs : List Value) (d : TypeDesc) (hc : w.rangeAt b o cs)
  (hu : P.underlying ty = some d) (hd : d.isRow = true) (hi : (P.info? ty).map (·.size) = some cs.length) : (execOp a.eval op).run P w = .ok (.value (.agg cs.toArray)) w := by
 unfold execOp
 simp only [ho, hx, Instr.loadAt, Instr.sureAddr, Sem.run_bind, Sem.run_pure, Result.andThen_ok, run_loadVar_mid w b o ty cs d hc hu hd hi]
theorem exec_eql_agg {P : Program} {a : Act} {w : World} (op : Oper) (t t' : TypeId) (x y : Operand) (ho : op.op = .binOp .eql t x y t')
  (xs ys : Array Value) (hx : a.eval x = .agg xs) (hy : a.eval y = .agg ys) (hm : P.eqGuardType P.depth t = false) (r : Bool) (hr : (Op.equalIn 10000 t (.agg xs) (.agg ys)).run P w = .ok r w) : (execOp a.eval op).run P w = .ok (.value (.bool r)) w := by
 have hb : (binOp .eql t (.agg xs) (.agg ys)).run P w = .ok (.bool r) w := by rw [run_eql_struct, hr]; rfl
 unfold execOp
 simp only [ho, hx, hy, Sem.run_bind, run_eqGuard_agg w _ _ _ _ _ _ hm, Result.andThen_ok, hb, Sem.run_pure]
/-- The cells of a prefix. -/
def pfx (b : Bool) (px : List Int) (bits : Int) : List Value := adr b px ++ [.int .i64 bits]
theorem sizeP : (Tryz.prog.info? 176).map (·.size) = some 18 := by kernel_rfl
theorem pfx_rows {w : World} {g : Nat} {b : Bool} {px : List Int} {bits : Int} (hl : px.length = 16) (h : w.rangeAt g 0 (pfx b px bits)) : w.rangeAt g 0 (adr b px) ∧ w.cell? ⟨g, 0, none⟩ = some (.bool b) ∧ w.cell? ⟨g, 17, none⟩ = some (.int .i64 bits) := by
 have hl2 : (adr b px).length = 17 := by simp [adr, hl]
 refine ⟨fun j v hj => h j v ?_, ?_, ?_⟩
 ·rw [pfx, List.getElem?_append_left (List.getElem?_eq_some_iff.1 hj).1]
  exact hj
 ·have := h 0 (.bool b) (by simp [pfx, adr])
  simpa using this
 ·have := h 17 (.int .i64 bits) (by rw [pfx, List.getElem?_append_right (by omega), hl2]; rfl)
  simpa using this
set_option maxRecDepth 100000 in
set_option maxHeartbeats 4000000 in
theorem cvalid_any (b : Bool) (px : List Int) (bits : Int) (hp : okB px) (hv : vld b px = true) (hb0 : 0 ≤ bits) (hb1 : bits ≤ blen b) (ht : trunc bits px = px) (w : World) :
  Calls Tryz.prog 164 #[.agg (pfx b px bits).toArray] w fun e w' => e = .returned (.bool true) ∧ Touch [] w w' := by
 have hb2 : bits ≤ 128 := by unfold blen at hb1; split at hb1 <;> omega
 have R := range_new w (pfx b px bits) 176
 have t0 := ((Touch.refl [] w).alloc (.cells (pfx b px bits).toArray 176)).drew
 obtain ⟨r0, _, c17⟩ := pfx_rows hp.1 R
 have HPX := Lib.hid hp
 have HXS := Lib.hid hp
 have HPV := Lib.hid hv
 have HPT := Lib.hid ht
 clear hp hv ht R
 go_enter Tryz.func164, Tryz.ntmps164
 go_wp2_with fail
 obtain ⟨W, hW⟩ : ∃ W, W = (w.alloc (.cells (pfx b px bits).toArray 176)).drew := ⟨_, rfl⟩
 have r0 : W.rangeAt w.heap.size 0 (adr b px) := by rw [hW]; exact r0
 have c17 : W.cell? ⟨w.heap.size, 17, none⟩ = some (.int .i64 bits) := by rw [hW]; exact c17
 refine wp_region_held (S := Touch [] W) (by kernel_rfl) ?_
 change wpAnyH _ _ _ _ _ _ _ _ (w.alloc (.cells (pfx b px bits).toArray 176)).drew
 rw [← hW] at t0 ⊢
 clear hW
 have T0 := Lib.hid t0
 clear t0
 have hS := Touch.refl [] W
 refine tkH 0 (.pointer (some ⟨w.heap.size, 0, none⟩)) ?_
 refine tkH 1 (.agg (adr b px).toArray) ?_ (hy := Or.inl ⟨by rfl, fun w' hw => exec_load_agg _ 40 _ rfl _ _ rfl (adr b px) _ (hw.range r0 (by simp)) Tryz.underlying40 rfl (by rw [size31]; simp [pfx, adr, HPX.out.1, HXS.out.1])⟩)
 refine wpAnyH_ready (rs := [2]) (by kernel_rfl) (by simp) ?_
 refine cnH rfl (fun K hK => ?_) AllReadyH.nil
 go_simp
 refine (ipvalid_any b px HPX.out _).mono ?_
 rintro e w' ⟨he, t9⟩
 rw [HPV.out] at he
 subst he
 have hS2 := hS.trans t9 (by simp)
 refine hK.out _ _ hS2 (fun _ => ?_)
 clear hK K hS t9
 have hS := hS2
 clear hS2
 try simp only [Act.put, sT, s0, sS]
 refine tkH 3 (.bool true) ?_
 refine tkH 4 (.pointer (some ⟨w.heap.size, 17, none⟩)) ?_
 refine tkH 5 (.int .i64 bits) ?_ (hy := Or.inl ⟨by rfl, fun w' hw => by (have q := hw.cell c17 (by simp); go_simp)⟩)
 refine tkH 6 (.bool true) ?_ (hy := Or.inl ⟨by rfl, fun w' hw => by (have q := hb0; go_simp)⟩)
 refine tkH 7 (.bool true) ?_
 refine tkH 8 (.bool true) ?_
 refine tkH 9 (.pointer (some ⟨w.heap.size, 17, none⟩)) ?_
 refine tkH 10 (.int .i64 bits) ?_ (hy := Or.inl ⟨by rfl, fun w' hw => by (have q := hw.cell c17 (by simp); go_simp)⟩)
 refine tkH 11 (.pointer (some ⟨w.heap.size, 0, none⟩)) ?_
 refine tkH 12 (.agg (adr b px).toArray) ?_ (hy := Or.inl ⟨by rfl, fun w' hw => exec_load_agg _ 40 _ rfl _ _ rfl (adr b px) _ (hw.range r0 (by simp)) Tryz.underlying40 rfl (by rw [size31]; simp [pfx, adr, HPX.out.1, HXS.out.1])⟩)
 refine wpAnyH_ready (rs := [13]) (by kernel_rfl) (by simp) ?_
 refine cnH rfl (fun K hK => ?_) AllReadyH.nil
 go_simp
 refine (bitlen_any b px _).mono ?_
 rintro e w' ⟨rfl, t9⟩
 have hS2 := hS.trans t9 (by simp)
 refine hK.out _ _ hS2 (fun _ => ?_)
 clear hK K hS t9
 have hS := hS2
 clear hS2
 try simp only [Act.put, sT, s0, sS]
 refine tkH 14 (.bool true) ?_ (hy := Or.inl ⟨by rfl, fun w' hw => by (have q := hb1; go_simp)⟩)
 refine tkH 15 (.bool true) ?_
 refine tkH 16 (.bool true) ?_
 refine tkH 17 (.pointer (some ⟨w.heap.size, 0, none⟩)) ?_
 refine tkH 18 (.agg (adr b px).toArray) ?_ (hy := Or.inl ⟨by rfl, fun w' hw => exec_load_agg _ 40 _ rfl _ _ rfl (adr b px) _ (hw.range r0 (by simp)) Tryz.underlying40 rfl (by rw [size31]; simp [pfx, adr, HPX.out.1, HXS.out.1])⟩)
 refine tkH 19 (.pointer (some ⟨w.heap.size, 17, none⟩)) ?_
 refine tkH 20 (.int .i64 bits) ?_ (hy := Or.inl ⟨by rfl, fun w' hw => by (have q := hw.cell c17 (by simp); go_simp)⟩)
 refine tkH 22 (.pointer (some ⟨w.heap.size, 0, none⟩)) ?_
 refine tkH 23 (.agg (adr b px).toArray) ?_ (hy := Or.inl ⟨by rfl, fun w' hw => exec_load_agg _ 40 _ rfl _ _ rfl (adr b px) _ (hw.range r0 (by simp)) Tryz.underlying40 rfl (by rw [size31]; simp [pfx, adr, HPX.out.1, HXS.out.1])⟩)
 refine wpAnyH_ready (rs := [21]) (by kernel_rfl) (by simp) ?_
 refine cnH rfl (fun K hK => ?_) AllReadyH.nil
 go_simp
 refine (trunc_any b px HPX.out bits hb0 hb2 _).mono ?_
 rintro e w' ⟨he, t9⟩
 rw [HPT.out] at he
 subst he
 have hS2 := hS.trans t9 (by simp)
 refine hK.out _ _ hS2 (fun _ => ?_)
 clear hK K hS t9
 have hS := hS2
 clear hS2
 try simp only [Act.put, sT, s0, sS]
 refine tkH 24 (.bool true) ?_ (hy := Or.inl ⟨by rfl, fun w' hw => exec_eql_agg _ 40 _ _ _ rfl _ _ rfl rfl (by kernel_rfl) _ (by rw [eq_ads _ _ _ _ HPX.out HPX.out]; simp)⟩)
 refine tkH 25 (.bool true) ?_
 refine tkH 26 (.bool true) ?_
 refine wpAnyH_done (by kernel_rfl) ?_ _
 try simp only [Act.put, sT, s0, sS]
 go_wp2_with fail
 go_ret
 exact ⟨rfl, T0.out.trans hS (by simp)⟩
set_option maxRecDepth 100000 in
set_option maxHeartbeats 4000000 in
theorem cont_any (b : Bool) (px : List Int) (bits : Int) (xs : List Int) (hp : okB px) (hv : vld b px = true) (hb0 : 0 ≤ bits) (hb1 : bits ≤ blen b) (ht : trunc bits px = px) (hx : okB xs) (hxv : vld b xs = true) (w : World) :
  Calls Tryz.prog 158 #[.agg (pfx b px bits).toArray, .agg (adr b xs).toArray] w fun e w' => e = .returned (.bool (decide (trunc bits xs = px))) ∧ Touch [] w w' := by
 have hb2 : bits ≤ 128 := by unfold blen at hb1; split at hb1 <;> omega
 have R := World.rangeAt_alloc (range_new w (pfx b px bits) 176) (.cells (adr b xs).toArray 40)
 have R1 := range_block (heap_alloc2_new w (.cells (pfx b px bits).toArray 176) (.cells (adr b xs).toArray 40))
 have t0 := (((Touch.refl [] w).alloc (.cells (pfx b px bits).toArray 176)).alloc (.cells (adr b xs).toArray 40)).drew
 have HPX := Lib.hid hp
 have HXS := Lib.hid hx
 have HPV := Lib.hid hv
 have HXV := Lib.hid hxv
 have HPT := Lib.hid ht
 have hp1 := hp.1
 clear hp hv ht hx hxv
 go_enter Tryz.func158, Tryz.ntmps158
 go_wp2_with fail
 obtain ⟨W, hW⟩ : ∃ W, W = ((w.alloc (.cells (pfx b px bits).toArray 176)).alloc (.cells (adr b xs).toArray 40)).drew := ⟨_, rfl⟩
 have r0 : W.rangeAt w.heap.size 0 (pfx b px bits) := by rw [hW]; exact R
 have r1 : W.rangeAt (w.heap.size + 1) 0 (adr b xs) := by rw [hW]; exact R1
 obtain ⟨r2, c0, c17⟩ := pfx_rows hp1 r0
 have d0 : W.cell? ⟨w.heap.size + 1, 0, none⟩ = some (.bool b) := by
  have := r1 0 (.bool b) (by simp [adr])
  simpa using this
 refine wp_region_held (S := Touch [] W) (by kernel_rfl) ?_
 change wpAnyH _ _ _ _ _ _ _ _ ((w.alloc (.cells (pfx b px bits).toArray 176)).alloc (.cells (adr b xs).toArray 40)).drew
 rw [← hW] at t0 ⊢
 clear hW R R1
 have T0 := Lib.hid t0
 clear t0
 have hS := Touch.refl [] W
 refine tkH 0 (.agg (pfx b px bits).toArray) ?_ (hy := Or.inl ⟨by rfl, fun w' hw => exec_load_agg _ 176 _ rfl _ _ rfl (pfx b px bits) _ (hw.range r0 (by simp)) Tryz.underlying176 rfl (by rw [sizeP]; simp [pfx, adr, HPX.out.1, HXS.out.1])⟩)
 refine wpAnyH_ready (rs := [1]) (by kernel_rfl) (by simp) ?_
 refine cnH rfl (fun K hK => ?_) AllReadyH.nil
 go_simp
 refine (cvalid_any b px bits HPX.out HPV.out hb0 hb1 HPT.out _).mono ?_
 rintro e w' ⟨rfl, t9⟩
 have hS2 := hS.trans t9 (by simp)
 refine hK.out _ _ hS2 (fun _ => ?_)
 clear hK K hS t9
 have hS := hS2
 clear hS2
 try simp only [Act.put, sT, s0, sS]
 refine tkH 2 (.bool true) ?_
 refine tkH 3 (.agg (adr b xs).toArray) ?_ (hy := Or.inl ⟨by rfl, fun w' hw => exec_load_agg _ 40 _ rfl _ _ rfl (adr b xs) _ (hw.range r1 (by simp)) Tryz.underlying40 rfl (by rw [size31]; simp [pfx, adr, HPX.out.1, HXS.out.1])⟩)
 refine wpAnyH_ready (rs := [4]) (by kernel_rfl) (by simp) ?_
 refine cnH rfl (fun K hK => ?_) AllReadyH.nil
 go_simp
 refine (ipvalid_any b xs HXS.out _).mono ?_
 rintro e w' ⟨he, t9⟩
 rw [HXV.out] at he
 subst he
 have hS2 := hS.trans t9 (by simp)
 refine hK.out _ _ hS2 (fun _ => ?_)
 clear hK K hS t9
 have hS := hS2
 clear hS2
 try simp only [Act.put, sT, s0, sS]
 refine tkH 5 (.bool true) ?_
 refine tkH 6 (.bool true) ?_
 refine tkH 7 (.pointer (some ⟨w.heap.size, 0, none⟩)) ?_
 refine tkH 8 (.pointer (some ⟨w.heap.size, 0, none⟩)) ?_
 refine tkH 9 (.bool b) ?_ (hy := Or.inl ⟨by rfl, fun w' hw => by (have q := hw.cell c0 (by simp); go_simp)⟩)
 refine tkH 10 (.pointer (some ⟨(w.heap.size + 1), 0, none⟩)) ?_
 refine tkH 11 (.bool b) ?_ (hy := Or.inl ⟨by rfl, fun w' hw => by (have q := hw.cell d0 (by simp); go_simp)⟩)
 refine tkH 12 (.bool true) ?_ (hy := Or.inl ⟨by rfl, fun w' hw => by (cases b <;> go_simp)⟩)
 refine tkH 13 (.bool true) ?_
 refine tkH 14 (.bool true) ?_
 refine tkH 15 (.agg (adr b xs).toArray) ?_ (hy := Or.inl ⟨by rfl, fun w' hw => exec_load_agg _ 40 _ rfl _ _ rfl (adr b xs) _ (hw.range r1 (by simp)) Tryz.underlying40 rfl (by rw [size31]; simp [pfx, adr, HPX.out.1, HXS.out.1])⟩)
 refine tkH 16 (.pointer (some ⟨w.heap.size, 17, none⟩)) ?_
 refine tkH 17 (.int .i64 bits) ?_ (hy := Or.inl ⟨by rfl, fun w' hw => by (have q := hw.cell c17 (by simp); go_simp)⟩)
 refine tkH 19 (.pointer (some ⟨w.heap.size, 0, none⟩)) ?_
 refine tkH 20 (.agg (adr b px).toArray) ?_ (hy := Or.inl ⟨by rfl, fun w' hw => exec_load_agg _ 40 _ rfl _ _ rfl (adr b px) _ (hw.range r2 (by simp)) Tryz.underlying40 rfl (by rw [size31]; simp [pfx, adr, HPX.out.1, HXS.out.1])⟩)
 refine wpAnyH_ready (rs := [18]) (by kernel_rfl) (by simp) ?_
 refine cnH rfl (fun K hK => ?_) AllReadyH.nil
 go_simp
 refine (trunc_any b xs HXS.out bits hb0 hb2 _).mono ?_
 rintro e w' ⟨rfl, t9⟩
 have hS2 := hS.trans t9 (by simp)
 refine hK.out _ _ hS2 (fun _ => ?_)
 clear hK K hS t9
 have hS := hS2
 clear hS2
 try simp only [Act.put, sT, s0, sS]
 refine tkH 21 (.bool (decide (trunc bits xs = px))) ?_ (hy := Or.inl ⟨by rfl, fun w' hw => exec_eql_agg _ 40 _ _ _ rfl _ _ rfl rfl (by kernel_rfl) _ (by rw [eq_ads _ _ _ _ (trunc_ok HXS.out) HPX.out]; simp)⟩)
 refine tkH 22 (.bool (decide (trunc bits xs = px))) ?_
 refine tkH 23 (.bool (decide (trunc bits xs = px))) ?_
 refine wpAnyH_done (by kernel_rfl) ?_ _
 try simp only [Act.put, sT, s0, sS]
 go_wp2_with fail
 go_ret
 exact ⟨rfl, T0.out.trans hS (by simp)⟩
end Go.Proofs.YtiklhaajhdephaaGreatDoor

/-
 The contracts of ip.V6 and of policytable's rows.
-/
namespace Go.Proofs.YtiklhaajhdephaaGreatDoor
open Go.RowKit
set_option linter.unusedVariables false
set_option linter.unusedSimpArgs false

def hi8 (x : Int) : Int := x / 256
def lo8 (x : Int) : Int := x % 256
def v6b (l : List Int) (i : Nat) : List Int := (l.take i).flatMap (fun x => [hi8 x, lo8 x]) ++ List.replicate (16 - 2 * i) 0
theorem eight {α : Type} (xs : List α) (h : xs.length = 8) : ∃ a b c d e f g i, xs = [a, b, c, d, e, f, g, i] := by
 match xs, h with
 | [a, b, c, d, e, f, g, i], _ => exact ⟨_, _, _, _, _, _, _, _, rfl⟩
theorem v6b_step (l : List Int) (hl : l.length = 8) (i : Nat) (x : Int) (hx : l[i]? = some x) : v6b l (i + 1) = ((v6b l i).set (2 * i) (hi8 x)).set (2 * i + 1) (lo8 x) := by
 obtain ⟨a, b, c, d, e, f, g, j, rfl⟩ := eight l hl
 have hi := (List.getElem?_eq_some_iff.1 hx).1
 simp at hi
 rcases (by omega : i = 0 ∨ i = 1 ∨ i = 2 ∨ i = 3 ∨ i = 4 ∨ i = 5 ∨ i = 6 ∨ i = 7) with rfl | rfl | rfl | rfl | rfl | rfl | rfl | rfl <;> (simp at hx; subst hx; rfl)
theorem v6b_len (l : List Int) (hl : l.length = 8) (i : Nat) (hi : i ≤ 8) : (v6b l i).length = 16 := by
 obtain ⟨a, b, c, d, e, f, g, j, rfl⟩ := eight l hl
 rcases (by omega : i = 0 ∨ i = 1 ∨ i = 2 ∨ i = 3 ∨ i = 4 ∨ i = 5 ∨ i = 6 ∨ i = 7 ∨ i = 8) with rfl | rfl | rfl | rfl | rfl | rfl | rfl | rfl | rfl <;> rfl
theorem ret_row_tmp {fn : Func} {p u : Tmp} {ty : TypeId} {k : Nat} {d : TypeDesc} (h : fn.results = #[.cell p ty, .tmp u]) (hsz : (Tryz.prog.info? ty).map (·.size) = some k) (hun : Tryz.prog.underlying ty = some d) (hd : d.isRow = true) {R : Ending → World → Prop} {tmps : Array Value} {w : World} {g : Nat} {T : TypeId} {cs : List Value} {v : Value} (hl : cs.length = k)
  (hp : tmps.getD p undef = .pointer (some ⟨g, 0, none⟩)) (hu : tmps.getD u undef = v) (hg : w.heap[g]? = some (.cells cs.toArray T (0, 0))) (hR : R (.returned (.tuple #[.agg cs.toArray, v])) w) : bodyPost Tryz.prog fn R .ret { tmps := tmps, defers := [] } w :=
 bodyPost_ret (by
  rw [results_cell_tmp h, hp, hu]
  simp only [asAddr, Sem.run_pure, Result.andThen_ok, run_loadVar_mid w g 0 ty cs d (range_block hg) hun hd (by rw [hsz, hl])]) rfl hR
set_option maxRecDepth 100000 in
set_option maxHeartbeats 4000000 in
theorem v6_any (l : List Int) (hl : l.length = 8) (hr : ∀ x ∈ l, 0 ≤ x ∧ x ≤ 65535) (g c : Nat) (w : World) (hc : ∀ j x, l[j]? = some x → w.cell? ⟨g, j, none⟩ = some (.int .u16 x)) :
  Calls Tryz.prog 170 #[.slice (some ⟨g, 0, none⟩) 8 c] w fun e w' => e = .returned (.tuple #[.agg (adr true (v6b l 8)).toArray, .bool true]) ∧ Touch [] w w' := by
 go_enter Tryz.func170, Tryz.ntmps170
 go_wp2_with (refine wpList_store_new rfl 40 _ _ rfl _ _ (adr true (List.replicate 16 0)) rfl rfl rfl size31 (adr_one _ _) ?_)
 have t0 := ((Touch.refl [] w).alloc (.cells (adr false (List.replicate 16 0)).toArray 40)).alloc (.cells (adr true (List.replicate 16 0)).toArray 40)
 have g0 := heap_alloc2_new w (.cells (adr false (List.replicate 16 0)).toArray 40) (.cells (adr true (List.replicate 16 0)).toArray 40)
 have g1 := ((Touch.refl [] (w.alloc (.cells (adr false (List.replicate 16 0)).toArray 40))).alloc (.cells (adr true (List.replicate 16 0)).toArray 40)).at (heap_alloc_new w (.cells (adr false (List.replicate 16 0)).toArray 40)) (by simp)
 have HL := Lib.hid hl
 have HR := Lib.hid hr
 have H0 := Lib.hid (show ∃ (i : Nat), Value.int .i64 0 = .int .i64 i ∧ i ≤ 8 ∧ Touch [] w ((w.alloc (.cells (adr false (List.replicate 16 0)).toArray 40)).alloc (.cells (adr true (List.replicate 16 0)).toArray 40)) ∧ ((w.alloc (.cells (adr false (List.replicate 16 0)).toArray 40)).alloc (.cells (adr true (List.replicate 16 0)).toArray 40)).heap[w.heap.size + 1]? = some (.cells (adr true (v6b l i)).toArray 40 (0, 0)) ∧ ((w.alloc (.cells (adr false (List.replicate 16 0)).toArray 40)).alloc (.cells (adr true (List.replicate 16 0)).toArray 40)).heap[w.heap.size]? = some (.cells (adr false (List.replicate 16 0)).toArray 40 (0, 0)) from ⟨0, rfl, by omega, t0, g0, g1⟩)
 clear t0 g0 g1
 go_wp2_with fail
 go_loopw [14] (fun vi wr => ∃ (i : Nat), vi = .int .i64 i ∧ i ≤ 8 ∧ Touch [] w wr ∧ wr.heap[w.heap.size + 1]? = some (.cells (adr true (v6b l i)).toArray 40 (0, 0)) ∧ wr.heap[w.heap.size]? = some (.cells (adr false (List.replicate 16 0)).toArray 40 (0, 0))) (fun vi _ => 8 - (intOf vi).toNat)
 case atStart => exact H0.out
 case round =>
  obtain ⟨i, rfl, hi, ht, hg, hz⟩ := hrel
  have HT := Lib.hid ht
  have HG := Lib.hid hg
  have HZ := Lib.hid hz
  clear ht hg hz
  by_cases hi2 : i < 8
  ·have hx : l[i]? = some l[i] := List.getElem?_eq_getElem (by omega)
   have hxr := hr l[i] (List.getElem_mem _)
   have c0 := HT.out.cell (hc i l[i] hx) (by simp)
   have hvl := v6b_len l hl i (by omega)
   have c1 := (adr_cell HG.out).2 (2 * i) (v6b l i)[2 * i] (List.getElem?_eq_getElem (by omega))
   have c2 := (adr_cell HG.out).2 (2 * i + 1) (v6b l i)[2 * i + 1] (List.getElem?_eq_getElem (by omega))
   have f1 : ∀ j, wr.frozen? ⟨w.heap.size + 1, j, none⟩ = false := by intro j; simp [World.frozen?, HG.out]
   have hst := v6b_step l hl i l[i] hx
   have s1 := set_adr wr (w.heap.size + 1) (2 * i) 40 true (v6b l i) (hi8 l[i]) HG.out
   have s2 := set_adr _ (w.heap.size + 1) (2 * i + 1) 40 true _ (lo8 l[i]) s1
   rw [← hst] at s2
   have HS := Lib.hid s2
   generalize l[i] = x at *
   generalize (v6b l i)[2 * i] = y1 at *
   generalize (v6b l i)[2 * i + 1] = y2 at *
   have hw1 : IntKind.i64.wrap (2 * (i : Int)) = 2 * (i : Int) := by rw [IntKind.wrap_i64] <;> omega
   have hw2 : IntKind.i64.wrap (2 * (i : Int) + 1) = 2 * (i : Int) + 1 := by rw [IntKind.wrap_i64] <;> omega
   have f2 := f1 (1 + 2 * i)
   have f3 := f1 (1 + (2 * i + 1))
   clear hx hst s1 s2 f1
   go_wp2_with fail
   go_roundw
   case rel =>
    refine ⟨i + 1, by simp, by omega, ?_, HS.out, ?_⟩
    ·exact (HT.out.setCell (p := ⟨w.heap.size + 1, _, none⟩) (by right; simp) _).setCell (p := ⟨w.heap.size + 1, _, none⟩) (by right; simp) _
    ·exact (((Touch.refl [w.heap.size + 1] wr).setCell (p := ⟨w.heap.size + 1, 1 + 2 * i, none⟩) (by simp) (.int .u8 (hi8 x))).setCell (p := ⟨w.heap.size + 1, 1 + (2 * i + 1), none⟩) (by simp) (.int .u8 (lo8 x))).at HZ.out (by simp)
   case measure => simp [intOf]; omega
  ·have hie : i = 8 := by omega
   subst hie
   have hvl := v6b_len l hl 8 (by omega)
   generalize hys : v6b l 8 = ys at *
   have HYS := Lib.hid hys
   have r1 := range_block HG.out
   have hl17 : (adr true ys).length = 17 := by simp [adr, hvl]
   have HL17 := Lib.hid hl17
   clear hl17 hys
   go_wp2_with (first
    | (refine wpList_load_mid rfl 40 _ rfl (w.heap.size + 1) 0 rfl (adr true ys) _ r1 Tryz.underlying40 rfl (by rw [size31, HL17.out]) ?_)
    | (refine wpList_store_into rfl 40 _ _ rfl w.heap.size 40 _ (adr true ys) rfl rfl HZ.out (by rw [HL17.out]; rfl) (by rw [size31, HL17.out]) (adr_one _ _) ?_))
   intro w3 hg3 t3 hz3
   go_wp2_with fail
   exact ret_row_tmp rfl size31 Tryz.underlying40 rfl HL17.out rfl rfl hg3 ⟨by rw [HYS.out]; rfl, HT.out.trans t3 (by simp)⟩
end Go.Proofs.YtiklhaajhdephaaGreatDoor

/-
 The contracts of policyRow and Rows.
-/
namespace Go.Proofs.YtiklhaajhdephaaGreatDoor
open Go.RowKit
set_option linter.unusedVariables false
set_option linter.unusedSimpArgs false

theorem infoU : ∃ i, Tryz.prog.info? 194 = some i ∧ i.zero = some (.int .u16 0) ∧ i.size = 1 ∧ i.bytes = 2 := by
 have h : (Tryz.prog.info? 194).map (fun i => (i.zero, i.size, i.bytes)) = some (some (.int .u16 0), 1, 2) := by kernel_rfl
 obtain ⟨i, hi, hz⟩ := Option.map_eq_some_iff.1 h
 simp only [Prod.mk.injEq] at hz
 exact ⟨i, hi, hz.1, hz.2.1, hz.2.2⟩
/-- A slice of u16s as it comes out of a literal: none, or a block of its own. -/
def Lit16 (w : World) (v : Value) (l : List Int) : Prop := (v = .slice none 0 0 ∧ l = []) ∨ ∃ g, v = .slice (some ⟨g, 0, none⟩) l.length l.length ∧ l ≠ [] ∧ w.heap[g]? = some (.cells (l.map (Value.int .u16)).toArray 194 (0, 0))
def pad8 (l : List Int) : List Int := l ++ List.replicate (8 - l.length) 0
theorem pad_run (w : World) (v : Value) (l : List Int) (h : Lit16 w v l) (hl : l.length ≤ 8) :
  ∃ g c w', (Builtin.append_ #[199, 3] 199 #[v, .int .i64 (8 - (l.length : Int))]).run Tryz.prog w = .ok (.slice (some ⟨g, 0, none⟩) 8 c) w' ∧ (∀ j x, (pad8 l)[j]? = some x → w'.cell? ⟨g, j, none⟩ = some (.int .u16 x)) ∧ Touch [] w w' := by
 obtain ⟨i, hi, hz, hs, hb⟩ := infoU
 have hwr : IntKind.i64.wrap (8 - (l.length : Int)) = 8 - (l.length : Int) := by rw [IntKind.wrap_i64] <;> omega
 have hzc : ∀ n, Builtin.zeroCells #[Value.int .u16 0] n = ((List.replicate n (0 : Int)).map (Value.int .u16)).toArray := by
  intro n
  apply Array.ext'
  simp [Builtin.zeroCells]
  apply List.ext_getElem?
  intro j
  by_cases hj : j < n
  ·simp [hj, Nat.mod_one]
  ·simp [hj]
 have fin : ∀ (n : Nat) (T : Nat), n = l.length → n < 8 → ∀ W : World, ∀ W' : World, W' = W.alloc (.cells ((l.map (Value.int .u16)).toArray ++ Builtin.zeroCells #[Value.int .u16 0] (8 - n) ++ Builtin.zeroCells #[Value.int .u16 0] T) 194) → ∀ j x, (pad8 l)[j]? = some x → W'.cell? ⟨W.heap.size, j, none⟩ = some (.int .u16 x) := by
  rintro n T rfl hn W W' rfl j x hj
  rw [cell_of_row _ _ _ _ _ _ (heap_alloc_new W _), hzc, hzc]
  have hj' : j < (pad8 l).length := (List.getElem?_eq_some_iff.1 hj).1
  have e : (l.map (Value.int .u16)).toArray ++ ((List.replicate (8 - l.length) (0 : Int)).map (Value.int .u16)).toArray = ((pad8 l).map (Value.int .u16)).toArray := by simp [pad8]
  rw [e, Array.getElem?_append_left (by simpa using hj')]
  simp [hj]
 have grow : ∀ (base : Option Addr) (n : Nat), n = l.length → n < 8 → (Builtin.firstCells 1 n (.slice base n n)).run Tryz.prog w.drew = .ok (l.map (Value.int .u16)).toArray w.drew →
   (Builtin.append_ #[199, 3] 199 #[.slice base n n, .int .i64 (8 - (n : Int))]).run Tryz.prog w = .ok (.slice (some ⟨w.heap.size, 0, none⟩) 8 (grownCap w 8 n 194)) (w.drew.alloc (.cells ((l.map (Value.int .u16)).toArray ++ Builtin.zeroCells #[Value.int .u16 0] (8 - n) ++ Builtin.zeroCells #[Value.int .u16 0] (grownCap w 8 n 194 - 8)) 194)) := by
  rintro base n rfl hn hold
  have e1 : (8 - (l.length : Int)).toNat = 8 - l.length := by omega
  have e2 : ¬ (8 - (l.length : Int) < 0) := by omega
  have e3 : ¬ (281474976710656 < (8 - (l.length : Int)) * 2) := by omega
  have e4 : ¬ (l.length + (8 - l.length) ≤ l.length) := by omega
  have e5 : l.length + (8 - l.length) = 8 := by omega
  have e6 : ¬ (8 - l.length = 0) := by omega
  have e7 : ¬ (281474976710656 < Builtin.nextslicecap 8 l.length * 2) := by
   rcases (by omega : l.length = 0 ∨ l.length = 1 ∨ l.length = 2 ∨ l.length = 3 ∨ l.length = 4 ∨ l.length = 5 ∨ l.length = 6 ∨ l.length = 7) with e | e | e | e | e | e | e | e <;> rw [e] <;> decide
  have e8 : ¬ (8 ≤ l.length) := by omega
  have e9 : ¬ (8 - (l.length : Int) ≤ 0) := by omega
  have e10 : ¬ (9223372036854775807 < (l.length : Int) + max (8 - (l.length : Int)) 0) := by omega
  simp [Builtin.append_, run_underlying Tryz.underlying199, run_underlying Tryz.underlying3, asInt, asIntOf, sizeOf, typeInfo, zeroValue, hi, hz, hs, hb, hwr, e1, e2, e3, e4, e5, e6, e7, e8, e9, e10, hold, Question.forced, newRow, grownCap, Value.cells]
 rcases h with ⟨rfl, rfl⟩ | ⟨g, rfl, hne, hg⟩
 ·have hr := grow none 0 rfl (by omega) (by simp [Builtin.firstCells])
  exact ⟨_, _, _, hr, fin 0 _ rfl (by omega) w.drew _ rfl, (Touch.refl [] w).drew.alloc _⟩
 ·by_cases h8 : l.length = 8
  ·refine ⟨g, 8, w, ?_, ?_, Touch.refl _ _⟩
   ·rw [h8]
    simp [Builtin.append_, run_underlying Tryz.underlying199, run_underlying Tryz.underlying3, asInt, asIntOf, sizeOf, typeInfo, zeroValue, hi, hz, hs, hb, show IntKind.i64.wrap 0 = 0 from rfl, storeCells]
   ·intro j x hj
    have : pad8 l = l := by simp [pad8, h8]
    rw [this] at hj
    rw [cell_of_row _ _ _ _ _ _ hg]
    simp [hj]
  ·have hr := grow (some ⟨g, 0, none⟩) l.length rfl (by omega) (run_firstCells_some (P := Tryz.prog) w.drew 1 l.length ⟨g, 0, none⟩ l.length l.length (l.map (Value.int .u16)) (by simp) (by
    intro j v hj
    rw [Addr.add_lit, Nat.zero_add]
    have : w.drew.heap[g]? = w.heap[g]? := rfl
    rw [cell_of_row w.drew g j _ _ _ hg]
    simpa using hj))
   exact ⟨_, _, _, hr, fin l.length _ rfl (by omega) w.drew _ rfl, (Touch.refl [] w).drew.alloc _⟩
theorem wpList_pad {ops : Array Oper} {rest : List Oper} {o : Oper} {a : Act} {Q : Exit → Act → World → Prop} (hgd : o.guard = none) (s x : Operand)
  (ho : o.op = .call { callee := .builtin .append, args := #[s, x], argTypes := #[199, 3] }) (hty : o.type = 199) (w : World) (v : Value) (l : List Int) (hs : a.eval s = v) (hx : a.eval x = .int .i64 (8 - (l.length : Int))) (h0 : Lit16 w v l) (hl : l.length ≤ 8)
  (h : ∀ g c w', (∀ j x, (pad8 l)[j]? = some x → w'.cell? ⟨g, j, none⟩ = some (.int .u16 x)) → Touch [] w w' → wpList Tryz.prog ops Q rest (a.put o.dst (.slice (some ⟨g, 0, none⟩) 8 c)) w') : wpList Tryz.prog ops Q (o :: rest) a w := by
 refine wpList_plain hgd fun K hK => ?_
 obtain ⟨g, c, w', hr, h2, h3⟩ := pad_run w v l h0 hl
 unfold Oper.wp execOp
 simp only [ho, hty, resolve, invoke, builtin, Sem.run_bind, Sem.run_pure, Result.andThen_ok, List.map_toArray, List.map_cons, List.map_nil, hs, hx, hr]
 exact hK _ _ (h g c w' h2 h3)
/-- The cells of a row. -/
def prw (b : Bool) (px : List Int) (bits prec label : Int) : List Value := pfx b px bits ++ [.int .i64 prec, .int .i64 label]
theorem sizeR : (Tryz.prog.info? 178).map (·.size) = some 20 := by kernel_rfl
theorem prw_one (b : Bool) (px : List Int) (bits prec label : Int) : ∀ v ∈ prw b px bits prec label, v.oneCell' = true := by
 intro v hv
 simp only [prw, pfx, List.mem_append] at hv
 rcases hv with (hv | hv) | hv
 ·exact adr_one _ _ v hv
 ·simp at hv; subst hv; rfl
 ·simp at hv; rcases hv with rfl | rfl <;> rfl
theorem ret_row {fn : Func} {p : Tmp} {ty : TypeId} {k : Nat} {d : TypeDesc} (h : fn.results = #[.cell p ty]) (hsz : (Tryz.prog.info? ty).map (·.size) = some k) (hun : Tryz.prog.underlying ty = some d) (hd : d.isRow = true) {R : Ending → World → Prop} {tmps : Array Value} {w : World} {g : Nat} {T : TypeId} {cs : List Value} (hl : cs.length = k)
  (hp : tmps.getD p undef = .pointer (some ⟨g, 0, none⟩)) (hg : w.heap[g]? = some (.cells cs.toArray T (0, 0))) (hR : R (.returned (.agg cs.toArray)) w) : bodyPost Tryz.prog fn R .ret { tmps := tmps, defers := [] } w :=
 bodyPost_ret (by cases d <;> first | (exact results_cell_row h tmps w g T cs.toArray (0, 0) _ hp hg hun rfl (by rw [hsz]; simp [hl])) | (simp [TypeDesc.isRow] at hd)) rfl hR
theorem wpList_built {ops : Array Oper} {rest : List Oper} {o : Oper} {a : Act} {w : World} {Q : Exit → Act → World → Prop} (hgd : o.guard = none) (t : TypeId) (parts : Array (Nat × Operand)) (ho : o.op = .build t parts)
  (vals : List (Nat × Value)) (cells : Array Value) (hv : (parts.toList.map fun p => (p.1, a.eval p.2)) = vals) (hb : Tryz.prog.built t vals = some cells)
  (h : wpList Tryz.prog ops Q rest (a.put o.dst (.agg cells)) w) : wpList Tryz.prog ops Q (o :: rest) a w := by
 refine wpList_plain hgd fun _ hK => ?_
 have hr := run_build (P := Tryz.prog) w t (parts.map fun (i, x) => (i, a.eval x)) cells (by rw [Array.toList_map, ← hb, ← hv])
 unfold Oper.wp execOp
 simp only [ho, Sem.run_bind, hr, Result.andThen_ok]
 exact hK _ _ h
set_option maxRecDepth 100000 in
theorem built_pfx (b : Bool) (ys : List Int) (bits : Int) (h : ys.length = 16) : Tryz.prog.built 176 [(0, .agg (adr b ys).toArray), (1, .int .i64 bits)] = some (pfx b ys bits).toArray := by
 obtain ⟨x0, x1, x2, x3, x4, x5, x6, x7, x8, x9, x10, x11, x12, x13, x14, x15, rfl⟩ := sixteen ys h
 kernel_rfl
set_option maxRecDepth 100000 in
theorem built_prw (b : Bool) (ys : List Int) (bits prec label : Int) (h : ys.length = 16) : Tryz.prog.built 178 [(0, .agg (pfx b ys bits).toArray), (1, .int .i64 prec), (2, .int .i64 label)] = some (prw b ys bits prec label).toArray := by
 obtain ⟨x0, x1, x2, x3, x4, x5, x6, x7, x8, x9, x10, x11, x12, x13, x14, x15, rfl⟩ := sixteen ys h
 kernel_rfl
set_option maxRecDepth 100000 in
set_option maxHeartbeats 4000000 in
theorem policyRow_any (bits prec label : Int) (v : Value) (l : List Int) (w : World) (h : Lit16 w v l) (hl : l.length ≤ 8) (hr : ∀ x ∈ l, 0 ≤ x ∧ x ≤ 65535) :
  Calls Tryz.prog 163 #[.int .i64 bits, .int .i64 prec, .int .i64 label, v] w fun e w' => e = .returned (.agg (prw true (v6b (pad8 l) 8) bits prec label).toArray) ∧ Touch [] w w' := by
 have hform : ∃ a, v = .slice a l.length l.length := by
  rcases h with ⟨rfl, rfl⟩ | ⟨g, rfl, _⟩
  ·exact ⟨none, rfl⟩
  ·exact ⟨_, rfl⟩
 obtain ⟨av, rfl⟩ := hform
 have tA := (Touch.refl [] w).alloc (.cells (prw false (List.replicate 16 0) 0 0 0).toArray 178)
 have gA := heap_alloc_new w (.cells (prw false (List.replicate 16 0) 0 0 0).toArray 178)
 have hlit : Lit16 (w.alloc (.cells (prw false (List.replicate 16 0) 0 0 0).toArray 178)) (.slice av l.length l.length) l := by
  rcases h with h | ⟨g, h1, h2, h3⟩
  ·exact .inl h
  ·exact .inr ⟨g, h1, h2, tA.at h3 (by simp)⟩
 have HLIT := Lib.hid hlit
 have HL := Lib.hid hl
 have HR := Lib.hid hr
 have HG := Lib.hid gA
 have HT := Lib.hid tA
 have hwr : IntKind.i64.wrap (8 - (l.length : Int)) = 8 - (l.length : Int) := by rw [IntKind.wrap_i64] <;> omega
 clear h hlit hr tA gA
 go_enter Tryz.func163, Tryz.ntmps163
 go_wp2_with (at_builtin; refine wpList_pad (by rfl) _ _ (by rfl) (by rfl) _ _ l (by rfl) (by rfl) (by exact HLIT.out) HL.out ?_)
 intro g c w1 hc t1
 have HC := Lib.hid hc
 have hp8 : (pad8 l).length = 8 := by have := HL.out; simp [pad8]; omega
 have hpr : ∀ x ∈ pad8 l, 0 ≤ x ∧ x ≤ 65535 := by
  intro x hx
  rcases List.mem_append.1 hx with hx | hx
  ·exact HR.out x hx
  ·have := List.eq_of_mem_replicate hx
   omega
 have HV := Lib.hid (v6_any (pad8 l) hp8 hpr g c w1 hc)
 have hyl := v6b_len (pad8 l) hp8 8 (by omega)
 have HG1 := Lib.hid (t1.at HG.out (by simp))
 have HT1 := Lib.hid (HT.out.trans t1 (by simp))
 generalize hys : v6b (pad8 l) 8 = ys at *
 have HYS := Lib.hid hys
 clear hys
 clear hc hpr hp8 t1
 try simp only [Act.put]
 go_wp2_with fail
 refine HV.out.mono ?_
 rintro e w2 ⟨rfl, t2⟩
 have HG2 := Lib.hid (t2.at HG1.out (by simp))
 have HT2 := Lib.hid (HT1.out.trans t2 (by simp))
 have HY := Lib.hid hyl
 have hl17 : (adr true ys).length = 17 := by simp [adr, hyl]
 have HL17 := Lib.hid hl17
 have HNB := Lib.hid (heap_alloc_new w2 (.cells (adr true ys).toArray 40))
 have HN2 := Lib.hid (((Touch.refl [] w2).alloc (.cells (adr true ys).toArray 40)).at HG2.out (by simp))
 have HT3 := Lib.hid (HT2.out.alloc (.cells (adr true ys).toArray 40))
 clear t2 HV HG1 HT1 hl17 hyl
 go_wp2_with (first
  | (refine wpList_store_new rfl 40 _ _ rfl _ _ (adr true ys) rfl rfl (by rw [HL17.out]; rfl) (by rw [size31, HL17.out]) (adr_one _ _) ?_)
  | (refine wpList_load_mid rfl 40 _ rfl w2.heap.size 0 rfl (adr true ys) _ (range_block HNB.out) Tryz.underlying40 rfl (by rw [size31, HL17.out]) ?_)
  | (refine wpList_built (by rfl) 176 _ (by rfl) _ _ (by rfl) (built_pfx true ys bits HY.out) ?_)
  | (refine wpList_built (by rfl) 178 _ (by rfl) _ _ (by rfl) (built_prw true ys bits prec label HY.out) ?_)
  | (refine wpList_store_into rfl 178 _ _ rfl w.heap.size 178 _ (prw true ys bits prec label) rfl rfl HN2.out (by simp [prw, pfx, adr, HY.out]) (by rw [sizeR]; simp [prw, pfx, HL17.out]) (prw_one _ _ _ _ _) ?_))
 intro w5 h5 t5 z5
 go_wp2_with fail
 exact ret_row rfl sizeR Tryz.underlying178 rfl (by simp [prw, pfx, HL17.out]) rfl h5 ⟨by rw [HYS.out], HT3.out.trans t5 (by simp)⟩
end Go.Proofs.YtiklhaajhdephaaGreatDoor

/-
 The contract of Rows.
-/
namespace Go.Proofs.YtiklhaajhdephaaGreatDoor
open Go.RowKit
set_option linter.unusedVariables false
set_option linter.unusedSimpArgs false

/-- A row: groups, bits, precedence, label. -/
structure Pol where
 l : List Int
 bits : Int
 prec : Int
 label : Int
def Pol.px (r : Pol) : List Int := v6b (pad8 r.l) 8
def Pol.cells (r : Pol) : List Value := prw true r.px r.bits r.prec r.label
def pols : List Pol := [⟨[0, 0, 0, 0, 0, 0, 0, 1], 128, 50, 0⟩, ⟨[], 0, 40, 1⟩, ⟨[0, 0, 0, 0, 0, 65535], 96, 35, 4⟩, ⟨[8194], 16, 30, 2⟩, ⟨[8193], 32, 5, 5⟩, ⟨[64512], 7, 3, 13⟩, ⟨[], 96, 1, 3⟩, ⟨[65216], 10, 1, 11⟩, ⟨[16382], 16, 1, 12⟩]
theorem pol_len (r : Pol) (h : r.l.length ≤ 8) : r.cells.length = 20 := by
 have h1 : (pad8 r.l).length = 8 := by simp [pad8]; omega
 have h2 := v6b_len (pad8 r.l) h1 8 (by omega)
 simp [Pol.cells, prw, pfx, adr, Pol.px, h2]
theorem row_call (r : Pol) (v : Value) (w : World) (h : Lit16 w v r.l) (hl : r.l.length ≤ 8) (hr : ∀ x ∈ r.l, 0 ≤ x ∧ x ≤ 65535) :
  Calls Tryz.prog 163 #[.int .i64 r.bits, .int .i64 r.prec, .int .i64 r.label, v] w fun e w' => e = .returned (.agg r.cells.toArray) ∧ Touch [] w w' :=
 policyRow_any r.bits r.prec r.label v r.l w h hl hr
theorem infoR : ∃ i z, Tryz.prog.info? 178 = some i ∧ i.zero = some z ∧ i.size = 20 := by
 have h : (Tryz.prog.info? 178).map (fun i => (i.zero.isSome, i.size)) = some (true, 20) := by kernel_rfl
 obtain ⟨i, hi, hz⟩ := Option.map_eq_some_iff.1 h
 simp only [Prod.mk.injEq] at hz
 obtain ⟨z, hz2⟩ := Option.isSome_iff_exists.1 hz.1
 exact ⟨i, z, hi, hz2, hz.2⟩
set_option maxRecDepth 100000 in
set_option maxHeartbeats 4000000 in
theorem rows_any (w : World) :
  Calls Tryz.prog 157 #[] w fun e w' => ∃ g, e = .returned (.slice (some ⟨g, 0, none⟩) 9 9) ∧ w.heap.size ≤ g ∧ (∀ i x, (pols.map Pol.cells)[i]? = some x → w'.rangeAt g (i * 20) x) ∧ Touch [] w w' := by
 obtain ⟨iR, zR, hiR, hzR, hsR⟩ := infoR
 go_enter Tryz.func157, Tryz.ntmps157
 go_wp2_with fail
 refine (row_call ⟨[0, 0, 0, 0, 0, 0, 0, 1], 128, 50, 0⟩ _ _ (.inr ⟨_, rfl, by simp, heap_alloc_new _ _⟩) (by simp) (by simp)).mono ?_
 rintro e w1 ⟨rfl, t1⟩
 have T1 := Lib.hid (Touch.trans ((Touch.refl [] w).alloc _) t1 (by simp))
 clear t1
 go_wp2_with fail
 refine (row_call ⟨[], 0, 40, 1⟩ _ _ (.inl ⟨rfl, rfl⟩) (by simp) (by simp)).mono ?_
 rintro e w2 ⟨rfl, t2⟩
 have T2 := Lib.hid (Touch.trans T1.out t2 (by simp))
 clear t2
 go_wp2_with fail
 refine (row_call ⟨[0, 0, 0, 0, 0, 65535], 96, 35, 4⟩ _ _ (.inr ⟨_, rfl, by simp, heap_alloc_new _ _⟩) (by simp) (by simp)).mono ?_
 rintro e w3 ⟨rfl, t3⟩
 have T3 := Lib.hid (Touch.trans (T2.out.alloc _) t3 (by simp))
 clear t3
 go_wp2_with fail
 refine (row_call ⟨[8194], 16, 30, 2⟩ _ _ (.inr ⟨_, rfl, by simp, heap_alloc_new _ _⟩) (by simp) (by simp)).mono ?_
 rintro e w4 ⟨rfl, t4⟩
 have T4 := Lib.hid (Touch.trans (T3.out.alloc _) t4 (by simp))
 clear t4
 go_wp2_with fail
 refine (row_call ⟨[8193], 32, 5, 5⟩ _ _ (.inr ⟨_, rfl, by simp, heap_alloc_new _ _⟩) (by simp) (by simp)).mono ?_
 rintro e w5 ⟨rfl, t5⟩
 have T5 := Lib.hid (Touch.trans (T4.out.alloc _) t5 (by simp))
 clear t5
 go_wp2_with fail
 refine (row_call ⟨[64512], 7, 3, 13⟩ _ _ (.inr ⟨_, rfl, by simp, heap_alloc_new _ _⟩) (by simp) (by simp)).mono ?_
 rintro e w6 ⟨rfl, t6⟩
 have T6 := Lib.hid (Touch.trans (T5.out.alloc _) t6 (by simp))
 clear t6
 go_wp2_with fail
 refine (row_call ⟨[], 96, 1, 3⟩ _ _ (.inl ⟨rfl, rfl⟩) (by simp) (by simp)).mono ?_
 rintro e w7 ⟨rfl, t7⟩
 have T7 := Lib.hid (Touch.trans T6.out t7 (by simp))
 clear t7
 go_wp2_with fail
 refine (row_call ⟨[65216], 10, 1, 11⟩ _ _ (.inr ⟨_, rfl, by simp, heap_alloc_new _ _⟩) (by simp) (by simp)).mono ?_
 rintro e w8 ⟨rfl, t8⟩
 have T8 := Lib.hid (Touch.trans (T7.out.alloc _) t8 (by simp))
 clear t8
 go_wp2_with fail
 refine (row_call ⟨[16382], 16, 1, 12⟩ _ _ (.inr ⟨_, rfl, by simp, heap_alloc_new _ _⟩) (by simp) (by simp)).mono ?_
 rintro e w9 ⟨rfl, t9⟩
 have T9 := Lib.hid (Touch.trans (T8.out.alloc _) t9 (by simp))
 clear t9
 have hlen : ∀ x ∈ pols.map Pol.cells, x.length = 20 := by
  intro x hx
  obtain ⟨r, hr, rfl⟩ := List.mem_map.1 hx
  refine pol_len r ?_
  simp only [pols, List.mem_cons, List.not_mem_nil, or_false] at hr
  rcases hr with rfl | rfl | rfl | rfl | rfl | rfl | rfl | rfl | rfl <;> decide
 have HLEN := Lib.hid hlen
 clear hlen
 go_wp2_with (refine wpList_buildSlice_rows (by rfl) 185 9 _ (by rfl) 178 20 iR zR Tryz.underlying185 hiR hzR hsR (by omega) (pols.map Pol.cells) (by rfl) HLEN.out (by omega) (by rfl) ?_)
 go_ret
 refine ⟨w9.heap.size, rfl, T9.out.size, ?_, T9.out.alloc _⟩
 intro i x hx j v hv
 have := range_new w9 (pols.map Pol.cells).flatten 178 (i * 20 + j) v (flat_get HLEN.out hx hv)
 simpa using this
end Go.Proofs.YtiklhaajhdephaaGreatDoor

/-
 copy into an address's bytes.
-/
namespace Go.Proofs.YtiklhaajhdephaaGreatDoor
open Go.RowKit
set_option linter.unusedVariables false
set_option linter.unusedSimpArgs false

def splice (ys : List Int) (k : Nat) (cs : List Int) : List Int := ys.take k ++ cs ++ ys.drop (k + cs.length)
theorem set_row_adr (W : World) (g k : Nat) (T : TypeId) (b : Bool) (ys cs : List Int) (hg : W.heap[g]? = some (.cells (adr b ys).toArray T (0, 0))) (hl : k + cs.length ≤ ys.length) :
  ∃ W', (storeCells ⟨g, 1 + k, none⟩ (cs.map (Value.int .u8)) 0).run Tryz.prog W = .ok () W' ∧ W'.heap[g]? = some (.cells (adr b (splice ys k cs)).toArray T (0, 0)) ∧ Touch [g] W W' := by
 have hst := run_storeCells_at Tryz.prog g (1 + k) T (cs.map (Value.int .u8)) 0 (adr b ys).toArray W hg (by simp [adr]; omega) (by intro v hv; obtain ⟨x, _, rfl⟩ := List.mem_map.1 hv; rfl)
 refine ⟨_, hst, ?_, ⟨rfl, rfl, rfl, by simp, fun i hi hn => setRow_other W g i _ (by simpa using hn)⟩⟩
 rw [setRow_heap W g (adr b ys).toArray _ T _ hg]
 have e : (adr b ys).toArray.toList.take (1 + k + 0) ++ cs.map (Value.int .u8) ++ (adr b ys).toArray.toList.drop (1 + k + 0 + (cs.map (Value.int .u8)).length) = adr b (splice ys k cs) := by
  simp only [adr, splice, List.length_map, Nat.add_zero, Nat.add_comm 1 k, Nat.add_right_comm k 1, List.take_succ_cons, List.drop_succ_cons, List.map_append, List.map_take, List.map_drop, List.cons_append]
 rw [e]
theorem infoB : ∃ i, Tryz.prog.info? 5 = some i ∧ i.size = 1 := by
 have h : (Tryz.prog.info? 5).map (fun i => i.size) = some 1 := by kernel_rfl
 obtain ⟨i, hi, hz⟩ := Option.map_eq_some_iff.1 h
 exact ⟨i, hi, hz⟩
theorem copy_str (W : World) (g k n c : Nat) (T : TypeId) (b : Bool) (ys : List Int) (s : ByteArray) (hg : W.heap[g]? = some (.cells (adr b ys).toArray T (0, 0))) (hn : s.size ≤ n) (hl : k + s.size ≤ ys.length) :
  ∃ W', (Builtin.copy_ #[94, 9] 3 #[.slice (some ⟨g, 1 + k, none⟩) n c, .string s]).run Tryz.prog W = .ok (goInt s.size) W' ∧ W'.heap[g]? = some (.cells (adr b (splice ys k (s.data.toList.map fun x => (x.toNat : Int)))).toArray T (0, 0)) ∧ Touch [g] W W' := by
 obtain ⟨i, hi, hs⟩ := infoB
 obtain ⟨W', h1, h2, h3⟩ := set_row_adr W g k T b ys (s.data.toList.map fun x => (x.toNat : Int)) hg (by simpa using hl)
 refine ⟨W', ?_, h2, h3⟩
 have hmin : Nat.min s.size n = s.size := Nat.min_eq_left hn
 have e3 : (s.data.toList.map fun b => Value.int .u8 (b.toNat : Int)).take s.size = (s.data.toList.map fun x => (x.toNat : Int)).map (Value.int .u8) := by
  rw [List.take_of_length_le (by simp), List.map_map]
  rfl
 simp [Builtin.copy_, run_underlying Tryz.underlying94, Builtin.lenOf, Builtin.firstCells, sizeOf, typeInfo, hi, hs, hmin]
 rw [e3, h1]
 rfl
theorem copy_bytes (W : World) (g k n c g2 o m c2 : Nat) (T : TypeId) (b : Bool) (ys cs : List Int) (hg : W.heap[g]? = some (.cells (adr b ys).toArray T (0, 0))) (hm : cs.length = m) (hn : m ≤ n) (hl : k + m ≤ ys.length) (hc : ∀ j x, cs[j]? = some x → W.cell? ⟨g2, o + j, none⟩ = some (.int .u8 x)) :
  ∃ W', (Builtin.copy_ #[94, 94] 3 #[.slice (some ⟨g, 1 + k, none⟩) n c, .slice (some ⟨g2, o, none⟩) m c2]).run Tryz.prog W = .ok (goInt m) W' ∧ W'.heap[g]? = some (.cells (adr b (splice ys k cs)).toArray T (0, 0)) ∧ Touch [g] W W' := by
 obtain ⟨i, hi, hs⟩ := infoB
 subst hm
 obtain ⟨W', h1, h2, h3⟩ := set_row_adr W g k T b ys cs hg hl
 refine ⟨W', ?_, h2, h3⟩
 have hmin : Nat.min cs.length n = cs.length := Nat.min_eq_left hn
 have hld := run_loadCells_list (P := Tryz.prog) W ⟨g2, o, none⟩ (cs.map (Value.int .u8)) (by
  intro j v hj
  rw [Addr.add_lit]
  rw [List.getElem?_map, Option.map_eq_some_iff] at hj
  obtain ⟨x, hx, rfl⟩ := hj
  exact hc j x hx)
 simp only [List.length_map] at hld
 simp [Builtin.copy_, run_underlying Tryz.underlying94, Builtin.lenOf, Builtin.firstCells, sizeOf, typeInfo, hi, hs, hmin, hld, h1]
theorem wpList_copy_str {ops : Array Oper} {rest : List Oper} {o : Oper} {a : Act} {Q : Exit → Act → World → Prop} (hgd : o.guard = none) (d x : Operand)
  (ho : o.op = .call { callee := .builtin .copy, args := #[d, x], argTypes := #[94, 9] }) (hty : o.type = 3) (W : World) (g k n c : Nat) (T : TypeId) (b : Bool) (ys : List Int) (s : ByteArray) (hd : a.eval d = .slice (some ⟨g, 1 + k, none⟩) n c) (hx : a.eval x = .string s)
  (hg : W.heap[g]? = some (.cells (adr b ys).toArray T (0, 0))) (hn : s.size ≤ n) (hl : k + s.size ≤ ys.length)
  (h : ∀ W', W'.heap[g]? = some (.cells (adr b (splice ys k (s.data.toList.map fun x => (x.toNat : Int)))).toArray T (0, 0)) → Touch [g] W W' → wpList Tryz.prog ops Q rest (a.put o.dst (goInt s.size)) W') : wpList Tryz.prog ops Q (o :: rest) a W := by
 refine wpList_plain hgd fun K hK => ?_
 obtain ⟨W', hr, h2, h3⟩ := copy_str W g k n c T b ys s hg hn hl
 unfold Oper.wp execOp
 simp only [ho, hty, resolve, invoke, builtin, Sem.run_bind, Sem.run_pure, Result.andThen_ok, List.map_toArray, List.map_cons, List.map_nil, hd, hx, hr]
 exact hK _ _ (h W' h2 h3)
theorem wpList_copy_bytes {ops : Array Oper} {rest : List Oper} {op : Oper} {a : Act} {Q : Exit → Act → World → Prop} (hgd : op.guard = none) (d x : Operand)
  (ho : op.op = .call { callee := .builtin .copy, args := #[d, x], argTypes := #[94, 94] }) (hty : op.type = 3) (W : World) (g k n c g2 o m c2 : Nat) (T : TypeId) (b : Bool) (ys cs : List Int) (hd : a.eval d = .slice (some ⟨g, 1 + k, none⟩) n c) (hx : a.eval x = .slice (some ⟨g2, o, none⟩) m c2)
  (hg : W.heap[g]? = some (.cells (adr b ys).toArray T (0, 0))) (hm : cs.length = m) (hn : m ≤ n) (hl : k + m ≤ ys.length) (hc : ∀ j x, cs[j]? = some x → W.cell? ⟨g2, o + j, none⟩ = some (.int .u8 x))
  (h : ∀ W', W'.heap[g]? = some (.cells (adr b (splice ys k cs)).toArray T (0, 0)) → Touch [g] W W' → wpList Tryz.prog ops Q rest (a.put op.dst (goInt m)) W') : wpList Tryz.prog ops Q (op :: rest) a W := by
 refine wpList_plain hgd fun K hK => ?_
 obtain ⟨W', hr, h2, h3⟩ := copy_bytes W g k n c g2 o m c2 T b ys cs hg hm hn hl hc
 unfold Oper.wp execOp
 simp only [ho, hty, resolve, invoke, builtin, Sem.run_bind, Sem.run_pure, Result.andThen_ok, List.map_toArray, List.map_cons, List.map_nil, hd, hx, hr]
 exact hK _ _ (h W' h2 h3)
end Go.Proofs.YtiklhaajhdephaaGreatDoor

/-
 The contract of toIPv6.
-/
namespace Go.Proofs.YtiklhaajhdephaaGreatDoor
open Go.RowKit
set_option linter.unusedVariables false
set_option linter.unusedSimpArgs false

/-- An address of sixteen bytes in which an IPv4 address lies. -/
def map6 (b : Bool) (xs : List Int) : List Int := if b then xs else List.replicate 10 0 ++ [255, 255] ++ xs.take 4
theorem map6_ok {b : Bool} {xs : List Int} (h : okB xs) : okB (map6 b xs) := by
 cases b
 ·refine ⟨by simp [map6, h.1], ?_⟩
  intro x hx
  simp only [map6, Bool.false_eq_true, if_false, List.mem_append] at hx
  rcases hx with (hx | hx) | hx
  ·have := List.eq_of_mem_replicate hx
   omega
  ·simp at hx
   omega
  ·exact h.2 x (List.mem_of_mem_take hx)
 ·exact h
set_option maxRecDepth 100000 in
set_option maxHeartbeats 4000000 in
theorem to6_true (xs : List Int) (h : okB xs) (w : World) :
  Calls Tryz.prog 156 #[.agg (adr true xs).toArray] w fun e w' => e = .returned (.agg (adr true xs).toArray) ∧ Touch [] w w' := by
 have hl17 : (adr true xs).length = 17 := by simp [adr, h.1]
 have HL17 := Lib.hid hl17
 have t0 := ((Touch.refl [] w).alloc (.cells (adr true xs).toArray 40)).alloc (.cells (adr false (List.replicate 16 0)).toArray 40)
 have g1 := ((Touch.refl [] (w.alloc (.cells (adr true xs).toArray 40))).alloc (.cells (adr false (List.replicate 16 0)).toArray 40)).at (heap_alloc_new w (.cells (adr true xs).toArray 40)) (by simp)
 have g2 := heap_alloc2_new w (.cells (adr true xs).toArray 40) (.cells (adr false (List.replicate 16 0)).toArray 40)
 obtain ⟨c0, cj⟩ := adr_cell g1
 have R1 := range_block g1
 have HG2 := Lib.hid g2
 have HT := Lib.hid t0
 have a0 : (adr true xs)[0]? = some (.bool true) := rfl
 clear hl17 cj g1 g2 t0 c0
 go_enter Tryz.func156, Tryz.ntmps156
 go_wp2_with (first
  | (refine wpList_load_mid rfl 40 _ rfl w.heap.size 0 rfl (adr true xs) _ R1 Tryz.underlying40 rfl (by rw [size31, HL17.out]) ?_)
  | (refine wpList_store_into rfl 40 _ _ rfl (w.heap.size + 1) 40 _ (adr true xs) rfl rfl HG2.out (by rw [HL17.out]; rfl) (by rw [size31, HL17.out]) (adr_one _ _) ?_))
 intro w5 h5 t5 z5
 go_wp2_with fail
 exact ret_row rfl size31 Tryz.underlying40 rfl HL17.out rfl h5 ⟨rfl, HT.out.trans t5 (by simp)⟩
set_option maxRecDepth 100000 in
set_option maxHeartbeats 4000000 in
theorem to6_false (xs : List Int) (h : okB xs) (w : World) :
  Calls Tryz.prog 156 #[.agg (adr false xs).toArray] w fun e w' => e = .returned (.agg (adr true (map6 false xs)).toArray) ∧ Touch [] w w' := by
 have hok := h
 obtain ⟨hlen, hr⟩ := h
 have HOK := Lib.hid hok
 clear hok
 have a0 : (adr false xs)[0]? = some (.bool false) := rfl
 have hl17 : (adr false xs).length = 17 := by simp [adr, hlen]
 obtain ⟨A, hA⟩ : ∃ A, A = Obj.cells (adr false xs).toArray 40 := ⟨_, rfl⟩
 obtain ⟨B, hB⟩ : ∃ B, B = Obj.cells (adr false (List.replicate 16 0)).toArray 40 := ⟨_, rfl⟩
 obtain ⟨C, hC⟩ : ∃ C, C = Obj.cells (adr true (List.replicate 16 0)).toArray 40 := ⟨_, rfl⟩
 have t0 := (((Touch.refl [] w).alloc A).alloc B).alloc C
 have g1 := (((Touch.refl [] (w.alloc A)).alloc B).alloc C).at (heap_alloc_new w A) (by simp)
 have g2 := ((Touch.refl [] ((w.alloc A).alloc B)).alloc C).at (heap_alloc2_new w A B) (by simp)
 have g3 := heap_alloc_new ((w.alloc A).alloc B) C
 have hz3 : ((w.alloc A).alloc B).heap.size = w.heap.size + 2 := by simp
 rw [hz3] at g3
 subst hA hB hC
 have HT := Lib.hid t0
 have HG1 := Lib.hid g1
 have HG2 := Lib.hid g2
 have HG3 := Lib.hid g3
 clear t0 g1 g2 g3 hr hl17 hz3
 go_enter Tryz.func156, Tryz.ntmps156
 go_wp2_with (first
  | (refine wpList_store_new rfl 40 _ _ rfl _ _ (adr true (List.replicate 16 0)) rfl rfl rfl size31 (adr_one _ _) ?_)
  | (refine wpList_copy_str (by rfl) _ _ (by rfl) (by rfl) _ (w.heap.size + 2) 10 6 6 40 true (List.replicate 16 0) ⟨#[255, 255]⟩ (by rfl) (by rfl) (by exact HG3.out) (by decide) (by decide) ?_))
 intro W1 hW1 tW1
 have T1 := Lib.hid (HT.out.trans tW1 (by intro y hy; right; simp at hy; omega))
 have K1 := Lib.hid (tW1.at HG1.out (by simp))
 have K2 := Lib.hid (tW1.at HG2.out (by simp))
 have K3 := Lib.hid hW1
 have c4 := (adr_cell K1.out).2
 have C4 := Lib.hid c4
 clear tW1 hW1 c4 HT HG1 HG2 HG3
 try simp only [Act.put]
 go_wp2_with fail
 refine wp_region_still_tail 4 (by kernel_rfl) (by kernel_rfl) ?_
 simp only [List.take_succ_cons, List.take_zero, List.drop_succ_cons, List.drop_zero]
 iterate 4 still_step
 refine wpStill_nil ?_
 change wpList _ _ _ _ _ W1.drew
 go_wp2_with (refine wpList_copy_bytes (by rfl) _ _ (by rfl) (by rfl) _ (w.heap.size + 2) 12 4 4 w.heap.size 1 4 16 40 true _ (xs.take 4) (by rfl) (by rfl) (by exact K3.out) (by simp [hlen]) (by decide) (by decide) (by intro j x hj; exact C4.out j x (by rw [List.getElem?_take] at hj; split at hj; exact hj; cases hj)) ?_)
 intro W2 hW2 tW2
 have T2 := Lib.hid (T1.out.drew.trans tW2 (by intro y hy; right; simp at hy; omega))
 have HB := Lib.hid (tW2.at (w := W1.drew) (show W1.drew.heap[w.heap.size + 1]? = _ from K2.out) (by simp))
 have hsp : splice (splice [0, 0, 0, 0, 0, 0, 0, 0, 0, 0, 0, 0, 0, 0, 0, 0] 10 [255, 255]) 12 (xs.take 4) = map6 false xs := by
  have h4 : (xs.take 4).length = 4 := by simp [hlen]
  simp [splice, map6, h4]
 have hw2 : W2.heap[w.heap.size + 2]? = some (.cells (adr true (map6 false xs)).toArray 40 (0, 0)) := by rw [← hsp]; exact hW2
 have hok6 := map6_ok (b := false) HOK.out
 have hl17 : (adr true (map6 false xs)).length = 17 := by simp [adr, hok6.1]
 have HL17 := Lib.hid hl17
 generalize hys : map6 false xs = ys at *
 have HYS := Lib.hid hys
 clear hys
 have R3 := range_block hw2
 try simp only [Act.put]
 clear hW2 tW2 hsp hok6 hl17 hw2 K1 K2 K3 C4 T1
 go_wp2_with (first
  | (refine wpList_load_mid rfl 40 _ rfl (w.heap.size + 2) 0 rfl (adr true ys) _ R3 Tryz.underlying40 rfl (by rw [size31, HL17.out]) ?_)
  | (refine wpList_store_into rfl 40 _ _ rfl (w.heap.size + 1) 40 _ (adr true ys) rfl rfl HB.out (by rw [HL17.out]; rfl) (by rw [size31, HL17.out]) (adr_one _ _) ?_))
 intro w5 h5 t5 z5
 go_wp2_with fail
 exact ret_row rfl size31 Tryz.underlying40 rfl HL17.out rfl h5 ⟨by rw [HYS.out], T2.out.trans t5 (by simp)⟩
/-- toIPv6 at either family. -/
theorem to6_any (b : Bool) (xs : List Int) (h : okB xs) (w : World) :
  Calls Tryz.prog 156 #[.agg (adr b xs).toArray] w fun e w' => e = .returned (.agg (adr true (map6 b xs)).toArray) ∧ Touch [] w w' := by
 cases b
 ·exact to6_false xs h w
 ·exact to6_true xs h w
end Go.Proofs.YtiklhaajhdephaaGreatDoor

/-
 The contracts of lookup and Precedence.
-/
namespace Go.Proofs.YtiklhaajhdephaaGreatDoor
open Go.RowKit
set_option linter.unusedVariables false
set_option linter.unusedSimpArgs false

/-- A row of the table. -/
structure PR where
 b : Bool
 px : List Int
 bits : Int
 prec : Int
 label : Int
def PR.cells (r : PR) : List Value := prw r.b r.px r.bits r.prec r.label
def polR (r : Pol) : PR := ⟨true, r.px, r.bits, r.prec, r.label⟩
def pr0 : PR := ⟨false, List.replicate 16 0, -1, -1, -1⟩
def prs : List PR := pols.map polR
theorem prs_cells : pols.map Pol.cells = prs.map PR.cells := by simp [prs, PR.cells, polR, Pol.cells]
def PR.good (r : PR) : Prop := r.b = true ∧ okB r.px ∧ 0 ≤ r.bits ∧ r.bits ≤ 128 ∧ trunc r.bits r.px = r.px
theorem prs_good : ∀ r ∈ prs, r.good := by
 have h : ∀ r ∈ prs, r.b = true ∧ (r.px.length = 16 ∧ (r.px.all fun x => decide (0 ≤ x ∧ x ≤ 255)) = true) ∧ 0 ≤ r.bits ∧ r.bits ≤ 128 ∧ trunc r.bits r.px = r.px := by decide
 intro r hr
 obtain ⟨h1, ⟨h2, h3⟩, h4⟩ := h r hr
 refine ⟨h1, ⟨h2, fun x hx => ?_⟩, h4⟩
 have := List.all_eq_true.1 h3 x hx
 simpa using this
def stepL (ys : List Int) (best r : PR) : PR := if best.bits < r.bits ∧ trunc r.bits ys = r.px then r else best
def bestL (ys : List Int) (k : Nat) : PR := (prs.take k).foldl (stepL ys) pr0
theorem bestL_succ (ys : List Int) (k : Nat) (r : PR) (h : prs[k]? = some r) : bestL ys (k + 1) = stepL ys (bestL ys k) r := by
 unfold bestL
 rw [List.take_add_one, h, List.foldl_append]
 rfl
theorem bestL_px (ys : List Int) (k : Nat) : (bestL ys k).px.length = 16 := by
 induction k with
 | zero => rfl
 | succ k ih =>
  cases h : prs[k]? with
  | none =>
   have : bestL ys (k + 1) = bestL ys k := by
    unfold bestL
    rw [List.take_add_one, h]
    simp
   rw [this]
   exact ih
  | some r =>
   rw [bestL_succ ys k r h]
   unfold stepL
   split
   ·exact (prs_good r (List.mem_of_getElem? h)).2.1.1
   ·exact ih
def lookP (b : Bool) (xs : List Int) : PR := if vld b xs then bestL (map6 b xs) 9 else pr0
theorem pr_len (r : PR) (h : r.px.length = 16) : r.cells.length = 20 := by simp [PR.cells, prw, pfx, adr, h]
theorem prw_rows {w : World} {g : Nat} {r : PR} (hl : r.px.length = 16) (h : w.rangeAt g 0 r.cells) : w.rangeAt g 0 (pfx r.b r.px r.bits) ∧ w.cell? ⟨g, 17, none⟩ = some (.int .i64 r.bits) := by
 have h1 : w.rangeAt g 0 (pfx r.b r.px r.bits) := by
  intro j v hj
  refine h j v ?_
  unfold PR.cells prw
  rw [List.getElem?_append_left (List.getElem?_eq_some_iff.1 hj).1]
  exact hj
 exact ⟨h1, (pfx_rows hl h1).2.2⟩
set_option maxRecDepth 100000 in
theorem built_none : Tryz.prog.built 176 [(1, .int .i64 (-1))] = some (pfx false (List.replicate 16 0) (-1)).toArray := by kernel_rfl
set_option maxRecDepth 100000 in
theorem pr0_form : ∃ zs, zs.length = 16 ∧ Tryz.prog.built 176 [(1, .int .i64 (-1))] = some (pfx false zs (-1)).toArray ∧ pr0 = ⟨false, zs, -1, -1, -1⟩ := ⟨List.replicate 16 0, by simp, built_none, rfl⟩
theorem three (w : World) (A B C : Obj) : Touch [] w (((w.alloc A).alloc B).alloc C) ∧ (((w.alloc A).alloc B).alloc C).heap[w.heap.size]? = some A ∧ (((w.alloc A).alloc B).alloc C).heap[w.heap.size + 1]? = some B ∧ (((w.alloc A).alloc B).alloc C).heap[w.heap.size + 1 + 1]? = some C := by
 have g3 := heap_alloc_new ((w.alloc A).alloc B) C
 have hz3 : ((w.alloc A).alloc B).heap.size = w.heap.size + 1 + 1 := by simp
 rw [hz3] at g3
 exact ⟨(((Touch.refl [] w).alloc A).alloc B).alloc C, (((Touch.refl [] (w.alloc A)).alloc B).alloc C).at (heap_alloc_new w A) (by simp), ((Touch.refl [] ((w.alloc A).alloc B)).alloc C).at (heap_alloc2_new w A B) (by simp), g3⟩
set_option maxRecDepth 100000 in
set_option maxHeartbeats 4000000 in
theorem look_bad (b : Bool) (xs : List Int) (h : okB xs) (hv : vld b xs = false) (w : World) :
  Calls Tryz.prog 150 #[.agg (adr b xs).toArray] w fun e w' => e = .returned (.agg pr0.cells.toArray) ∧ Touch [] w w' := by
 obtain ⟨zs, hzl, hbn, hp0⟩ := pr0_form
 obtain ⟨g0, g1, g2, g3⟩ := three w (.cells (adr b xs).toArray 40) (.cells (prw false (List.replicate 16 0) 0 0 0).toArray 178) (.cells (prw false (List.replicate 16 0) 0 0 0).toArray 178)
 have hl17 : (adr b xs).length = 17 := by simp [adr, h.1]
 have hl20 : (prw false zs (-1) (-1) (-1)).length = 20 := by simp [prw, pfx, adr, hzl]
 have HL17 := Lib.hid hl17
 have HL20 := Lib.hid hl20
 have HZ := Lib.hid hzl
 have HBN := Lib.hid hbn
 have HT := Lib.hid g0
 have HG1 := Lib.hid g1
 have HG2 := Lib.hid g2
 have HG3 := Lib.hid g3
 have HV := Lib.hid hv
 have HP0 := Lib.hid hp0
 have HVA := Lib.hid (ipvalid_any b xs h)
 clear g0 g1 g2 g3 hl17 hl20 h hv hzl hbn hp0
 go_enter Tryz.func150, Tryz.ntmps150
 go_wp2_with (first
  | (refine wpList_built (by rfl) 176 _ (by rfl) _ _ (by rfl) HBN.out ?_)
  | (refine wpList_built (by rfl) 178 _ (by rfl) _ _ (by rfl) (built_prw false zs (-1) (-1) (-1) HZ.out) ?_)
  | (refine wpList_store_into rfl 178 _ _ rfl (w.heap.size + 1 + 1) 178 _ (prw false zs (-1) (-1) (-1)) rfl rfl HG3.out (by rw [HL20.out]; rfl) (by rw [sizeR, HL20.out]) (prw_one _ _ _ _ _) ?_))
 intro W1 h1 t1 z1
 have HT1 := Lib.hid (HT.out.trans t1 (by intro y hy; right; simp at hy; omega))
 have HG21 := Lib.hid (t1.at HG2.out (by simp <;> omega))
 have R1 := (range_block (t1.at HG1.out (by simp <;> omega)))
 have HG31 := Lib.hid h1
 clear h1 t1 z1 HT HG1 HG2 HG3
 go_wp2_with (first
  | (refine wpList_load_mid rfl 40 _ rfl w.heap.size 0 rfl (adr b xs) _ R1 Tryz.underlying40 rfl (by rw [size31, HL17.out]) ?_))
 refine (HVA.out _).mono ?_
 rintro e w4 ⟨he, t4⟩
 rw [HV.out] at he
 subst he
 have HT4 := Lib.hid (HT1.out.trans t4 (by simp))
 have HG24 := Lib.hid (t4.at HG21.out (by simp <;> omega))
 have R3 := (range_block (t4.at HG31.out (by simp <;> omega)))
 clear t4 HG21 HG31 R1 HT1
 go_wp2_with (first
  | (refine wpList_load_mid rfl 178 _ rfl (w.heap.size + 1 + 1) 0 rfl (prw false zs (-1) (-1) (-1)) _ R3 Tryz.underlying178 rfl (by rw [sizeR, HL20.out]) ?_)
  | (refine wpList_store_into rfl 178 _ _ rfl (w.heap.size + 1) 178 _ (prw false zs (-1) (-1) (-1)) rfl rfl HG24.out (by rw [HL20.out]; rfl) (by rw [sizeR, HL20.out]) (prw_one _ _ _ _ _) ?_))
 intro w5 h5 t5 z5
 go_wp2_with fail
 exact ret_row rfl sizeR Tryz.underlying178 rfl HL20.out rfl h5 ⟨by rw [HP0.out]; rfl, HT4.out.trans t5 (by simp)⟩
set_option maxRecDepth 100000 in
set_option maxHeartbeats 4000000 in
theorem look_good (b : Bool) (xs : List Int) (h : okB xs) (hv : vld b xs = true) (w : World) :
  Calls Tryz.prog 150 #[.agg (adr b xs).toArray] w fun e w' => e = .returned (.agg (bestL (map6 b xs) 9).cells.toArray) ∧ Touch [] w w' := by
 obtain ⟨zs, hzl, hbn, hp0⟩ := pr0_form
 obtain ⟨g0, g1, g2, g3⟩ := three w (.cells (adr b xs).toArray 40) (.cells (prw false (List.replicate 16 0) 0 0 0).toArray 178) (.cells (prw false (List.replicate 16 0) 0 0 0).toArray 178)
 have hl17 : (adr b xs).length = 17 := by simp [adr, h.1]
 have hl20 : (prw false zs (-1) (-1) (-1)).length = 20 := by simp [prw, pfx, adr, hzl]
 have hz20 : (prw false (List.replicate 16 0) 0 0 0).toArray.size = 20 := rfl
 have HL17 := Lib.hid hl17
 have HL20 := Lib.hid hl20
 have HZ := Lib.hid hzl
 have HBN := Lib.hid hbn
 have HT := Lib.hid g0
 have HG1 := Lib.hid g1
 have HG2 := Lib.hid g2
 have HG3 := Lib.hid g3
 have HV := Lib.hid hv
 have HP0 := Lib.hid hp0
 have HVA := Lib.hid (ipvalid_any b xs h)
 have HT6 := Lib.hid (to6_any b xs h)
 have h6 := map6_ok (b := b) h
 have HYL := Lib.hid (show (adr true (map6 b xs)).length = 17 by simp [adr, h6.1])
 have HYO := Lib.hid h6
 have HYV := Lib.hid (show vld true (map6 b xs) = true by rfl)
 clear g0 g1 g2 g3 hl17 hl20 h hv hzl hbn hp0 h6
 generalize map6 b xs = ys at *
 go_enter Tryz.func150, Tryz.ntmps150
 go_wp2_with (first
  | (refine wpList_built (by rfl) 176 _ (by rfl) _ _ (by rfl) HBN.out ?_)
  | (refine wpList_built (by rfl) 178 _ (by rfl) _ _ (by rfl) (built_prw false zs (-1) (-1) (-1) HZ.out) ?_)
  | (refine wpList_store_into rfl 178 _ _ rfl (w.heap.size + 1 + 1) 178 _ (prw false zs (-1) (-1) (-1)) rfl rfl HG3.out (by rw [HL20.out]; rfl) (by rw [sizeR, HL20.out]) (prw_one _ _ _ _ _) ?_))
 intro W1 h1 t1 z1
 have HT1 := Lib.hid (HT.out.trans t1 (by intro y hy; right; simp at hy; omega))
 have HG21 := Lib.hid (t1.at HG2.out (by simp <;> omega))
 have HG11 := Lib.hid (t1.at HG1.out (by simp <;> omega))
 have R1 := range_block HG11.out
 have HG31 := Lib.hid h1
 clear h1 t1 z1 HT HG1 HG2 HG3
 go_wp2_with (first
  | (refine wpList_load_mid rfl 40 _ rfl w.heap.size 0 rfl (adr b xs) _ R1 Tryz.underlying40 rfl (by rw [size31, HL17.out]) ?_))
 refine (HVA.out _).mono ?_
 rintro e w4 ⟨he, t4⟩
 rw [HV.out] at he
 subst he
 have HT4 := Lib.hid (HT1.out.trans t4 (by simp))
 have HG14 := Lib.hid (t4.at HG11.out (by simp <;> omega))
 have HG24 := Lib.hid (t4.at HG21.out (by simp <;> omega))
 have HG34 := Lib.hid (t4.at HG31.out (by simp <;> omega))
 have R4 := range_block HG14.out
 clear t4 HG21 HG31 HG11 R1 HT1
 go_wp2_with (first
  | (refine wpList_load_mid rfl 40 _ rfl w.heap.size 0 rfl (adr b xs) _ R4 Tryz.underlying40 rfl (by rw [size31, HL17.out]) ?_))
 refine (HT6.out _).mono ?_
 rintro e w5 ⟨rfl, t5⟩
 have HT5 := Lib.hid (HT4.out.trans t5 (by simp))
 have HG15 := Lib.hid (t5.at HG14.out (by simp <;> omega))
 have HG25 := Lib.hid (t5.at HG24.out (by simp <;> omega))
 have HG35 := Lib.hid (t5.at HG34.out (by simp <;> omega))
 clear t5 HG14 HG24 HG34 R4 HT4
 go_wp2_with (first
  | (refine wpList_store_into rfl 40 _ _ rfl w.heap.size 40 _ (adr true ys) rfl rfl HG15.out (by rw [HYL.out]; exact HL17.out) (by rw [size31, HYL.out]) (adr_one _ _) ?_))
 intro w6 h6 t6 z6
 have HT6' := Lib.hid (HT5.out.trans t6 (by intro y hy; right; simp at hy; omega))
 have HG16 := Lib.hid h6
 have HG26 := Lib.hid (t6.at HG25.out (by simp <;> omega))
 have HG36 := Lib.hid (t6.at HG35.out (by simp <;> omega))
 clear h6 t6 z6 HG15 HG25 HG35 HT5
 go_wp2_with fail
 refine (rows_any _).mono ?_
 rintro e w7 ⟨g, rfl, hgs, hrows, t7⟩
 have HT7 := Lib.hid (HT6'.out.trans t7 (by simp))
 have HG17 := Lib.hid (t7.at HG16.out (by simp <;> omega))
 have HG27 := Lib.hid (t7.at HG26.out (by simp <;> omega))
 have HG37 := Lib.hid (t7.at HG36.out (by simp <;> omega))
 have hgn : w.heap.size + 1 + 1 < g := by
  have := (Array.getElem?_eq_some_iff.1 HG36.out).1
  omega
 clear hgs t7 HG16 HG26 HG36 HT6'
 rw [prs_cells] at hrows
 have HROWS := Lib.hid hrows
 have HB0 := Lib.hid (show w7.heap[w.heap.size + 1 + 1]? = some (.cells (bestL ys 0).cells.toArray 178 (0, 0)) by rw [show bestL ys 0 = pr0 from rfl, HP0.out]; exact HG37.out)
 clear hrows HG37
 have hpl : prs.length = 9 := by decide
 go_wp2_with fail
 go_loopw [16] (fun vi wr => ∃ (k : Nat), vi = .int .i64 k ∧ k ≤ 9 ∧ Touch [] w wr ∧ wr.heap[w.heap.size]? = some (.cells (adr true ys).toArray 40 (0, 0)) ∧ wr.heap[w.heap.size + 1]? = some (.cells (prw false (List.replicate 16 0) 0 0 0).toArray 178 (0, 0)) ∧ wr.heap[w.heap.size + 1 + 1]? = some (.cells (bestL ys k).cells.toArray 178 (0, 0)) ∧ (∀ i x, (prs.map PR.cells)[i]? = some x → wr.rangeAt g (i * 20) x)) (fun vi _ => 9 - (intOf vi).toNat)
 case atStart => exact ⟨0, rfl, by omega, HT7.out, HG17.out, HG27.out, HB0.out, HROWS.out⟩
 case round =>
  obtain ⟨k, rfl, hk, ht, ha1, ha2, ha3, hr⟩ := hrel
  have HT := Lib.hid ht
  have A1 := Lib.hid ha1
  have A2 := Lib.hid ha2
  have HR := Lib.hid hr
  clear ht ha1 ha2 hr HT7 HG17 HG27 HB0 HROWS
  by_cases hk2 : k < 9
  ·obtain ⟨r, hrk⟩ : ∃ r, prs[k]? = some r := ⟨_, List.getElem?_eq_getElem (by omega)⟩
   obtain ⟨hgb, hpx, hb0, hb2, hpt⟩ := prs_good r (List.mem_of_getElem? hrk)
   have hstep := bestL_succ ys k r hrk
   have hbl := bestL_px ys k
   generalize hbk : bestL ys (k + 1) = bn at *
   generalize bestL ys k = bs at *
   have A3 := Lib.hid ha3
   have hrow := HR.out k r.cells (by rw [List.getElem?_map, hrk]; rfl)
   have hrl := pr_len r hpx.1
   have HRL := Lib.hid hrl
   have HPX := Lib.hid hpx
   have HBN := Lib.hid hbk
   have HPV := Lib.hid (show vld r.b r.px = true by rw [hgb]; rfl)
   have HPT := Lib.hid hpt
   have HYS := HYO
   have hb1 : r.bits ≤ blen r.b := by rw [hgb]; exact hb2
   have HCO := Lib.hid (fun w => cont_any r.b r.px r.bits ys hpx HPV.out hb0 hb1 hpt HYO.out (by rw [hgb]; rfl) w)
   have AL := Lib.hid ((Touch.refl [] wr).alloc (.cells r.cells.toArray 178))
   have A5 := Lib.hid (heap_alloc_new wr (.cells r.cells.toArray 178))
   obtain ⟨RP, CR⟩ := prw_rows hpx.1 (range_block A5.out)
   have HBL := Lib.hid hbl
   have B1 := Lib.hid (AL.out.at A1.out (by simp))
   have B2 := Lib.hid (AL.out.at A2.out (by simp))
   have B3 := Lib.hid (AL.out.at A3.out (by simp))
   have RA := range_block B1.out
   have D17 := (prw_rows hbl (range_block B3.out)).2
   rw [hgb] at HCO
   have HGB := Lib.hid hgb
   have HSTEP := Lib.hid hstep
   have HRB := Lib.hid hb1
   clear hpx ha3 hpt hbk hbl hstep hgb hrl hb1
   by_cases hlt : bs.bits < r.bits
   ·by_cases hco : trunc r.bits ys = r.px
    ·have HC := Lib.hid (show decide (trunc r.bits ys = r.px) = true by simp [hco])
     have HE := Lib.hid (show stepL ys bs r = r by simp [stepL, hlt, hco])
     clear hco
     go_wp2_with (first
      | (refine wpList_load_mid rfl 178 _ rfl g (k * 20) rfl r.cells _ hrow Tryz.underlying178 rfl (by rw [sizeR, HRL.out]) ?_)
      | (refine wpList_store_new rfl 178 _ _ rfl _ _ r.cells rfl rfl (by rw [HRL.out]; rfl) (by rw [sizeR, HRL.out]) (prw_one _ _ _ _ _) ?_)
      | (refine wpList_load_g (by rfl) 176 _ rfl wr.heap.size 0 rfl (pfx r.b r.px r.bits) _ RP Tryz.underlying176 rfl (by rw [sizeP]; simp [pfx, adr, HPX.out.1]) ?_)
      | (refine wpList_load_g (by rfl) 40 _ rfl w.heap.size 0 rfl (adr true ys) _ RA Tryz.underlying40 rfl (by rw [size31, HYL.out]) ?_))
     rw [HGB.out]
     refine (HCO.out _).mono ?_
     rintro e w8 ⟨he, t8⟩
     rw [HC.out] at he
     subst he
     have HT8 := Lib.hid (AL.out.trans t8 (by simp))
     have C1 := Lib.hid (t8.at B1.out (by simp))
     have C2 := Lib.hid (t8.at B2.out (by simp))
     have C3 := Lib.hid (t8.at B3.out (by simp))
     have C5 := range_block (t8.at A5.out (by simp))
     clear t8 RA RP CR D17
     go_wp2_with (first
      | (refine wpList_load_mid rfl 178 _ rfl wr.heap.size 0 rfl r.cells _ C5 Tryz.underlying178 rfl (by rw [sizeR, HRL.out]) ?_)
      | (refine wpList_store_into rfl 178 _ _ rfl (w.heap.size + 1 + 1) 178 _ r.cells rfl rfl C3.out (by rw [HRL.out]; simp [pr_len bs HBL.out]) (by rw [sizeR, HRL.out]) (prw_one _ _ _ _ _) ?_))
     intro w9 h9 t9 z9
     go_wp2_with fail
     go_roundw
     case rel =>
      have t89 := (HT8.out.mono (S' := [w.heap.size + 1 + 1]) (by simp)).trans t9 (by simp)
      refine ⟨k + 1, by simp, by omega, HT.out.trans t89 (by intro y hy; right; simp at hy; omega), t9.at C1.out (by simp <;> omega), t9.at C2.out (by simp <;> omega), ?_, ?_⟩
      ·rw [HBN.out, HSTEP.out, HE.out]
       exact h9
      ·intro i x hx
       exact t89.range (HR.out i x hx) (by simp <;> omega)
     case measure => simp [intOf]; omega
    ·have HC := Lib.hid (show decide (trunc r.bits ys = r.px) = false by simp [hco])
     have HE := Lib.hid (show stepL ys bs r = bs by simp [stepL, hco])
     clear hco
     go_wp2_with (first
      | (refine wpList_load_mid rfl 178 _ rfl g (k * 20) rfl r.cells _ hrow Tryz.underlying178 rfl (by rw [sizeR, HRL.out]) ?_)
      | (refine wpList_store_new rfl 178 _ _ rfl _ _ r.cells rfl rfl (by rw [HRL.out]; rfl) (by rw [sizeR, HRL.out]) (prw_one _ _ _ _ _) ?_)
      | (refine wpList_load_g (by rfl) 176 _ rfl wr.heap.size 0 rfl (pfx r.b r.px r.bits) _ RP Tryz.underlying176 rfl (by rw [sizeP]; simp [pfx, adr, HPX.out.1]) ?_)
      | (refine wpList_load_g (by rfl) 40 _ rfl w.heap.size 0 rfl (adr true ys) _ RA Tryz.underlying40 rfl (by rw [size31, HYL.out]) ?_))
     rw [HGB.out]
     refine (HCO.out _).mono ?_
     rintro e w8 ⟨he, t8⟩
     rw [HC.out] at he
     subst he
     have HT8 := Lib.hid (AL.out.trans t8 (by simp))
     clear RA RP CR D17
     go_wp2_with fail
     go_roundw
     case rel =>
      refine ⟨k + 1, by simp, by omega, HT.out.trans HT8.out (by simp), t8.at B1.out (by simp), t8.at B2.out (by simp), ?_, ?_⟩
      ·rw [HBN.out, HSTEP.out, HE.out]
       exact t8.at B3.out (by simp)
      ·intro i x hx
       exact HT8.out.range (HR.out i x hx) (by simp)
     case measure => simp [intOf]; omega
   ·have HE := Lib.hid (show stepL ys bs r = bs by simp [stepL, hlt])
    go_wp2_with (first
     | (refine wpList_load_mid rfl 178 _ rfl g (k * 20) rfl r.cells _ hrow Tryz.underlying178 rfl (by rw [sizeR, HRL.out]) ?_)
     | (refine wpList_store_new rfl 178 _ _ rfl _ _ r.cells rfl rfl (by rw [HRL.out]; rfl) (by rw [sizeR, HRL.out]) (prw_one _ _ _ _ _) ?_)
     | (refine wpList_load_g (by rfl) 176 _ rfl wr.heap.size 0 rfl (pfx r.b r.px r.bits) _ RP Tryz.underlying176 rfl (by rw [sizeP]; simp [pfx, adr, HPX.out.1]) ?_)
     | (refine wpList_load_g (by rfl) 40 _ rfl w.heap.size 0 rfl (adr true ys) _ RA Tryz.underlying40 rfl (by rw [size31, HYL.out]) ?_))
    go_roundw
    case rel =>
     refine ⟨k + 1, by simp, by omega, HT.out.trans AL.out (by simp), B1.out, B2.out, ?_, ?_⟩
     ·rw [HBN.out, HSTEP.out, HE.out]
      exact B3.out
     ·intro i x hx
      exact AL.out.range (HR.out i x hx) (by simp)
    case measure => simp [intOf]; omega
  ·have hke : k = 9 := by omega
   subst hke
   have hbl := bestL_px ys 9
   generalize hbk : bestL ys 9 = bs at *
   have HBK := Lib.hid hbk
   have hrl := pr_len bs hbl
   have HRL := Lib.hid hrl
   have R3 := range_block ha3
   clear hbk hbl ha3 hrl
   go_wp2_with (first
    | (refine wpList_load_mid rfl 178 _ rfl (w.heap.size + 1 + 1) 0 rfl bs.cells _ R3 Tryz.underlying178 rfl (by rw [sizeR, HRL.out]) ?_)
    | (refine wpList_store_into rfl 178 _ _ rfl (w.heap.size + 1) 178 _ bs.cells rfl rfl A2.out (by rw [HRL.out]; rfl) (by rw [sizeR, HRL.out]) (prw_one _ _ _ _ _) ?_))
   intro w5 h5 t5 z5
   go_wp2_with fail
   exact ret_row rfl sizeR Tryz.underlying178 rfl HRL.out rfl h5 ⟨by rw [HBK.out], HT.out.trans t5 (by intro y hy; right; simp at hy; omega)⟩
theorem lookP_px (b : Bool) (xs : List Int) : (lookP b xs).px.length = 16 := by
 unfold lookP
 split
 ·exact bestL_px _ _
 ·rfl
theorem look_any (b : Bool) (xs : List Int) (h : okB xs) (w : World) :
  Calls Tryz.prog 150 #[.agg (adr b xs).toArray] w fun e w' => e = .returned (.agg (lookP b xs).cells.toArray) ∧ Touch [] w w' := by
 unfold lookP
 cases hv : vld b xs
 ·exact look_bad b xs h hv w
 ·exact look_good b xs h hv w
theorem wpList_field {P : Program} {ops : Array Oper} {rest : List Oper} {o : Oper} {a : Act} {w : World} {Q : Exit → Act → World → Prop} (hgd : o.guard = none) (t : TypeId) (x : Operand) (n : Nat) (ho : o.op = .field t x n)
  (u v : Value) (hx : a.eval x = u) (hf : ∀ w, (Instr.field t u n).run P w = .ok v w)
  (h : wpList P ops Q rest (a.put o.dst v) w) : wpList P ops Q (o :: rest) a w := by
 refine wpList_plain hgd fun K hK => ?_
 unfold Oper.wp execOp
 simp only [ho, hx, Sem.run_bind, Sem.run_pure, Result.andThen_ok, hf]
 exact hK _ _ h
set_option maxRecDepth 100000 in
theorem field_prec (r : PR) (h : r.px.length = 16) (w : World) : (Instr.field 178 (.agg r.cells.toArray) 1).run Tryz.prog w = .ok (.int .i64 r.prec) w := by
 obtain ⟨rb, rpx, rbits, rprec, rlabel⟩ := r
 obtain ⟨x0, x1, x2, x3, x4, x5, x6, x7, x8, x9, x10, x11, x12, x13, x14, x15, rfl⟩ := sixteen rpx h
 kernel_rfl
def precP (b : Bool) (xs : List Int) : Int := (lookP b xs).prec
set_option maxRecDepth 100000 in
set_option maxHeartbeats 4000000 in
theorem prec_any (b : Bool) (xs : List Int) (h : okB xs) (w : World) :
  Calls Tryz.prog 143 #[.agg (adr b xs).toArray] w fun e w' => e = .returned (.int .i64 (precP b xs)) ∧ Touch [] w w' := by
 have t0 := (Touch.refl [] w).alloc (.cells (adr b xs).toArray 40)
 have R1 := range_block (heap_alloc_new w (.cells (adr b xs).toArray 40))
 have HL17 := Lib.hid (show (adr b xs).length = 17 by simp [adr, h.1])
 have HT := Lib.hid t0
 have HLK := Lib.hid (look_any b xs h)
 have hpx := lookP_px b xs
 unfold precP
 generalize lookP b xs = r at *
 have HFD := Lib.hid (field_prec r hpx)
 clear t0 h hpx
 go_enter Tryz.func143, Tryz.ntmps143
 go_wp2_with (first
  | (refine wpList_load_mid rfl 40 _ rfl w.heap.size 0 rfl (adr b xs) _ R1 Tryz.underlying40 rfl (by rw [size31, HL17.out]) ?_))
 refine (HLK.out _).mono ?_
 rintro e w8 ⟨rfl, t8⟩
 have HT8 := Lib.hid (HT.out.trans t8 (by simp))
 clear t8
 go_wp2_with (refine wpList_field rfl _ _ _ rfl _ _ rfl (fun w => HFD.out w) ?_)
 go_ret
 exact ⟨rfl, HT8.out⟩
end Go.Proofs.YtiklhaajhdephaaGreatDoor

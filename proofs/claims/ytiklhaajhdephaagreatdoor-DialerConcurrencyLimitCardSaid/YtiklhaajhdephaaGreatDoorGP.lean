/-
  Merged texts: Rv.
-/
import Derived.Test.YtiklhaajhdephaaGreatDoorGD
import Derived.Laws.BitsAllLaws

/-
 The contracts of the reference's Valid, BitLen, Bit.
-/
namespace Go.Proofs.YtiklhaajhdephaaGreatDoor
open Go.RowKit
set_option linter.unusedVariables false
set_option linter.unusedSimpArgs false

theorem vld_false {xs : List Int} (h : okB xs) : vld false xs = true ↔ ∀ j, 4 ≤ j → j < 16 → xs[j]? = some 0 := by
 unfold vld
 simp only [Bool.false_or, List.all_eq_true]
 constructor
 ·intro hz j hj hj2
  have hlt : j < xs.length := by rw [h.1]; omega
  have := hz (xs[j]) (by
   rw [List.mem_iff_getElem]
   exact ⟨j - 4, by simp; omega, by simp [show 4 + (j - 4) = j by omega]⟩)
  rw [List.getElem?_eq_getElem hlt]
  simpa using this
 ·intro hz x hx
  obtain ⟨k, hk⟩ := List.getElem?_of_mem hx
  rw [List.getElem?_drop] at hk
  have hlt := (List.getElem?_eq_some_iff.1 hk).1
  rw [h.1] at hlt
  rw [hz (4 + k) (by omega) hlt] at hk
  simp at hk
  simp [← hk]
set_option maxRecDepth 100000 in
theorem rvalid_any (b : Bool) (xs : List Int) (h : okB xs) (w : World) :
  Calls Tryz.prog 56 #[.agg (adr b xs).toArray] w fun e w' => e = .returned (.bool (vld b xs)) ∧ Touch [] w w' := by
 have t0 := (Touch.refl [] w).alloc (.cells (adr b xs).toArray 40)
 have HG := Lib.hid (adr_cell (heap_alloc_new w (.cells (adr b xs).toArray 40)))
 have HT := Lib.hid t0
 have a0 : (adr b xs)[0]? = some (.bool b) := rfl
 clear t0
 cases b
 ·have HV := Lib.hid (vld_false h)
  have hlen := h.1
  clear h
  go_enter Tryz.func56, Tryz.ntmps56
  go_wp2_with fail
  obtain ⟨W, hW⟩ : ∃ W, W = w.alloc (.cells (adr false xs).toArray 40) := ⟨_, rfl⟩
  rw [← hW] at HG HT
  simp only [← hW]
  obtain ⟨c0, cj⟩ := HG.out
  clear hW HG
  go_loopw [3] (fun vi wr => wr = W ∧ ∃ i : Nat, 4 ≤ i ∧ i ≤ 16 ∧ vi = .int .i64 i ∧ ∀ j, 4 ≤ j → j < i → xs[j]? = some 0) (fun vi _ => 16 - (intOf vi).toNat)
  case atStart => exact ⟨rfl, 4, by omega, by omega, rfl, by intro j h1 h2; omega⟩
  case round =>
   obtain ⟨hwr, i, hi4, hi, rfl, hz⟩ := hrel
   subst hwr
   by_cases hlt : i < 16
   ·obtain ⟨x, hx⟩ : ∃ x, xs[i]? = some x := ⟨_, List.getElem?_eq_getElem (by omega)⟩
    have c1 := cj i x hx
    clear cj
    by_cases hx0 : x = 0
    ·have HZ := Lib.hid (show ∀ j, 4 ≤ j → j < i + 1 → xs[j]? = some 0 by
      intro j h1 h2
      by_cases e : j = i
      ·subst e; rw [hx, hx0]
      ·exact hz j h1 (by omega))
     clear hz hx
     go_wp2_with fail
     go_roundw
     case rel => exact ⟨by trivial, i + 1, by omega, by omega, by go_num, HZ.out⟩
     case measure => simp [intOf]; omega
    ·have HS := Lib.hid (show vld false xs = false by
      cases hv : vld false xs
      ·rfl
      ·have := HV.out.1 hv i hi4 hlt
       rw [hx] at this
       simp at this
       exact absurd this hx0)
     clear hz hx
     go_wp2_with fail
     go_ret
     exact ⟨by rw [HS.out]; rfl, HT.out⟩
   ·have hie : i = 16 := by omega
    subst hie
    have HS := Lib.hid (HV.out.2 hz)
    clear hz cj
    go_wp2_with fail
    go_ret
    exact ⟨by rw [HS.out]; rfl, HT.out⟩
 ·have HS := Lib.hid (show vld true xs = true from rfl)
  clear h
  go_enter Tryz.func56, Tryz.ntmps56
  go_wp2_with fail
  obtain ⟨W, hW⟩ : ∃ W, W = w.alloc (.cells (adr true xs).toArray 40) := ⟨_, rfl⟩
  rw [← hW] at HG HT
  simp only [← hW]
  obtain ⟨c0, _⟩ := HG.out
  clear hW HG
  go_loopw [3] (fun vi wr => wr = W ∧ vi = .int .i64 4) (fun vi _ => 0)
  case atStart => exact ⟨rfl, rfl⟩
  case round =>
   obtain ⟨hwr, rfl⟩ := hrel
   subst hwr
   go_wp2_with fail
   go_ret
   exact ⟨by rw [HS.out]; rfl, HT.out⟩
set_option maxRecDepth 100000 in
theorem rbitlen_any (b : Bool) (xs : List Int) (w : World) :
  Calls Tryz.prog 169 #[.agg (adr b xs).toArray] w fun e w' => e = .returned (.int .i64 (blen b)) ∧ Touch [] w w' := by
 have tA := (Touch.refl [] w).alloc (.cells (adr b xs).toArray 40)
 have a0 : (adr b xs)[0]? = some (.bool b) := rfl
 cases b
 ·go_enter Tryz.func169, Tryz.ntmps169
  go_wp2_with fail
  go_ret
  exact ⟨rfl, tA⟩
 ·go_enter Tryz.func169, Tryz.ntmps169
  go_wp2_with fail
  go_ret
  exact ⟨rfl, tA⟩
theorem and_one (y : Int) (h0 : 0 ≤ y) (h1 : y ≤ 255) : wrap64 (Go.bits .and .u8 y 1) = y % 2 := by
 have h := u8_and y 1 h0 (by omega) (by omega) (by omega)
 rw [h]
 have e : (1 : Int).toNat = 1 := rfl
 rw [e, Nat.and_one_is_mod]
 unfold wrap64
 omega
theorem div_le (x : Int) (k : Nat) (h0 : 0 ≤ x) (h1 : x ≤ 255) : 0 ≤ x / 2 ^ k ∧ x / 2 ^ k ≤ 255 := by
 have hp : (0 : Int) < 2 ^ k := Int.pow_pos (by omega)
 have a1 : 0 ≤ x / 2 ^ k := Int.ediv_nonneg h0 (by omega)
 have a2 : x / 2 ^ k ≤ x := Int.ediv_le_self _ h0
 omega
/-- Bit i, counted from the left. -/
def bitP (xs : List Int) (i : Nat) : Int := xs.getD (i / 8) 0 / 2 ^ (7 - i % 8) % 2
set_option maxRecDepth 100000 in
set_option maxHeartbeats 1000000 in
theorem rbit_any (b : Bool) (xs : List Int) (h : okB xs) (i : Nat) (hi : (i : Int) < blen b) (w : World) :
  Calls Tryz.prog 161 #[.agg (adr b xs).toArray, .int .i64 i] w fun e w' => e = .returned (.int .i64 (bitP xs i)) ∧ Touch [] w w' := by
 have hi128 : i < 128 := by unfold blen at hi; split at hi <;> omega
 have t0 := (Touch.refl [] w).alloc (.cells (adr b xs).toArray 40)
 have g0 := heap_alloc_new w (.cells (adr b xs).toArray 40)
 obtain ⟨x, hx⟩ : ∃ x, xs[i / 8]? = some x := ⟨_, List.getElem?_eq_getElem (by rw [h.1]; omega)⟩
 have hxr := h.2 x (List.mem_of_getElem? hx)
 have HL17 := Lib.hid (show (adr b xs).length = 17 by simp [adr, h.1])
 have R0 := range_block g0
 have HG := Lib.hid g0
 have HT := Lib.hid t0
 have HBL := Lib.hid (rbitlen_any b xs)
 have HE := Lib.hid (show bitP xs i = x / 2 ^ (7 - i % 8) % 2 by simp [bitP, hx])
 have hnb : ¬ (blen b ≤ (i : Int)) := by omega
 generalize blen b = bl at *
 have HX := Lib.hid hx
 clear h t0 g0 hx
 go_enter Tryz.func161, Tryz.ntmps161
 go_wp2_with ((with_reducible refine at_load_g 40 2 false ?_); refine wpList_load_gg 2 false rfl (by rfl) 40 _ rfl w.heap.size 0 rfl (adr b xs) _ R0 Tryz.underlying40 rfl (by rw [size31, HL17.out]) ?_)
 refine (HBL.out _).mono ?_
 rintro e w1 ⟨rfl, t1⟩
 have HT1 := Lib.hid (HT.out.trans t1 (by simp))
 have c1 := (adr_cell (t1.at HG.out (by simp))).2 (i / 8) x HX.out
 clear t1 R0 HT HG
 have HW := Lib.hid (and_one (x / 2 ^ (7 - i % 8)) (div_le x _ hxr.1 hxr.2).1 (div_le x _ hxr.1 hxr.2).2)
 go_wp2_with fail
 go_ret
 exact ⟨by rw [HE.out, ← HW.out]; rfl, HT1.out⟩
end Go.Proofs.YtiklhaajhdephaaGreatDoor

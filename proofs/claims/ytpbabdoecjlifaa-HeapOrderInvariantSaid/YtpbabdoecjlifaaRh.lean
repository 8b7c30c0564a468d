/-
  The reference heap in memory; Find, First.
-/
import Derived.Test.YtpbabdoecjlifaaBg
import Derived.Test.YtpbabdoecjlifaaHeldF
namespace Go.Proofs.Ytpbabdoecjlifaa
open Go.RowKit Go.Sort
set_option linter.unusedVariables false
set_option linter.unusedSimpArgs false

structure Rh (w : World) (x : Nat) (v : Value) (L : List Itm) (last : Int) : Prop where
  hdr : w.heap[x]? = some (.cells #[v, .int .i64 last] 28 (0, 0))
  row : w.ownsRow 0 43 3 v L.length (L.map encI).flatten
  one : ∀ it ∈ L, ∃ k, it.x = .int .i64 k
  hv : v.ownBlock ≠ some x
  few : L.length ≤ 1000
def Rh.foot (x : Nat) (v : Value) : List Nat := x :: v.ownBlock.toList
section
variable {w : World} {x : Nat} {v : Value} {L : List Itm} {last : Int}
theorem Rh.touch {S : List Nat} {w' : World} (k : Rh w x v L last) (t : Touch S w w') (hS : ∀ y ∈ Rh.foot x v, y ∉ S) : Rh w' x v L last :=
  ⟨t.at k.hdr (hS _ (by simp [Rh.foot])), t.owns k.row (fun g hg => hS g (by simp [Rh.foot, hg])), k.one, k.hv, k.few⟩
theorem Rh.lt (k : Rh w x v L last) : ∀ y ∈ Rh.foot x v, y < w.heap.size := by
  intro y hy
  simp only [Rh.foot, List.mem_cons, Option.mem_toList] at hy
  rcases hy with rfl | hy
  · exact (Array.getElem?_eq_some_iff.1 k.hdr).1
  · exact (k.row.lt y hy).2
theorem Rh.cells (k : Rh w x v L last) : w.cell? ⟨x, 0, none⟩ = some v ∧ w.cell? ⟨x, 1, none⟩ = some (.int .i64 last) := by
  simp [World.cell?, k.hdr]
theorem Rh.frozen (k : Rh w x v L last) (j : Nat) : w.frozen? ⟨x, j, none⟩ = false := by
  simp [World.frozen?, k.hdr]
theorem Rh.form (k : Rh w x v L last) : ∃ a c, v = .slice a L.length c ∧ L.length ≤ c ∧ c ≤ 9223372036854775807 ∧ (0 < L.length → ∃ g, a = some ⟨g, 0, none⟩ ∧ g ≠ x) := by
  obtain ⟨a, c, rfl, h1, h2, h3⟩ := owns_form k.row
  refine ⟨a, c, rfl, h1, by unfold maxLen at h2; omega, fun h0 => ?_⟩
  obtain ⟨g, rfl⟩ := h3 h0
  exact ⟨g, rfl, fun e => k.hv (by rw [e]; rfl)⟩
theorem Rh.elem {g n c : Nat} (k : Rh w x (.slice (some ⟨g, 0, none⟩) n c) L last) {i : Nat} {it : Itm} (hi : L[i]? = some it) :
    w.cell? ⟨g, i * 3, none⟩ = some (.int .i64 it.id) ∧ w.cell? ⟨g, i * 3 + 1, none⟩ = some (.int .u64 it.due) ∧ w.cell? ⟨g, i * 3 + 2, none⟩ = some it.x := by
  have hn : n = L.length := by
    obtain ⟨a', c', hv, _⟩ := owns_form k.row
    simp at hv
    exact hv.2.1
  subst hn
  have h1 : (L.map encI)[i]? = some (encI it) := by simp [hi]
  have := fun j u hu => owns_cell k.row (i * 3 + j) u (flat_get (encI_len L) h1 (j := j) (u := u) hu)
  exact ⟨this 0 _ rfl, this 1 _ rfl, this 2 _ rfl⟩
end
/-- Where id stands, or -1. -/
def ixOf : List Itm → Int → Int
  | [], _ => -1
  | y :: r, id => if y.id = id then 0 else if ixOf r id < 0 then -1 else ixOf r id + 1
theorem ixOf_some {L : List Itm} {id : Int} {k : Nat} {y : Itm} (hk : L[k]? = some y) (hy : y.id = id) (hn : ∀ j z, j < k → L[j]? = some z → z.id ≠ id) : ixOf L id = k := by
  induction L generalizing k with
  | nil => simp at hk
  | cons a r ih =>
    cases k with
    | zero =>
      simp at hk
      subst hk
      simp [ixOf, hy]
    | succ k =>
      have h0 : a.id ≠ id := hn 0 a (by omega) (by simp)
      have := ih (k := k) (by simpa using hk) (fun j z hj hz => hn (j + 1) z (by omega) (by simpa using hz))
      simp only [ixOf, h0, if_false, this]
      rw [if_neg (by omega)]
      omega
theorem ixOf_none {L : List Itm} {id : Int} (hn : ∀ z ∈ L, z.id ≠ id) : ixOf L id = -1 := by
  induction L with
  | nil => rfl
  | cons a r ih =>
    have h0 : a.id ≠ id := hn a List.mem_cons_self
    have := ih (fun z hz => hn z (List.mem_cons_of_mem _ hz))
    simp [ixOf, h0, this]
theorem ixOf_ids {L : List Itm} {id : Int} {k : Nat} {y : Itm} (hd : (L.map Itm.id).Nodup) (hk : L[k]? = some y) (hy : y.id = id) : ixOf L id = k :=
  ixOf_some hk hy fun j z hj hz e => ids_ne hd hz hk (by omega) (e.trans hy.symm)
section
variable (x : Nat) (v : Value) (L : List Itm) (last : Int) (w : World) (k : Rh w x v L last)
include k
set_option maxRecDepth 100000 in
set_option maxHeartbeats 2000000 in
theorem rfind_any (id : Int) : Calls Try.prog 10 #[.pointer (some ⟨x, 0, none⟩), .int .i64 id] w fun e w' => e = .returned (.int .i64 (ixOf L id)) ∧ w = w' := by
  obtain ⟨av, cv, rfl, hv1, hv2, hv3⟩ := k.form
  obtain ⟨c0, c1⟩ := k.cells
  have hfew := k.few
  have HK := Lib.hid k
  clear k
  go_enter Try.func10, Try.ntmps10
  go_wp2_with fail
  go_loopw [5] (fun vi wr => ∃ (i : Nat), vi = .int .i64 i ∧ i ≤ L.length ∧ wr = w ∧ (∀ j z, j < i → L[j]? = some z → z.id ≠ id)) (fun vi _ => L.length - (intOf vi).toNat)
  case atStart => exact ⟨0, rfl, by omega, rfl, by intro j z hj; omega⟩
  case round =>
    obtain ⟨i, rfl, hi, rfl, hno⟩ := hrel
    have HNO := Lib.hid hno
    clear hno
    by_cases hlt : i < L.length
    · have hy := List.getElem?_eq_getElem hlt
      generalize L[i] = y at hy
      obtain ⟨g, rfl, hgx⟩ := hv3 (by omega)
      obtain ⟨e0, e1, e2⟩ := HK.out.elem hy
      have hwi : IntKind.i64.wrap ((i : Int) + 1) = (i : Int) + 1 := by rw [IntKind.wrap_i64] <;> omega
      have hb : (i : Int) < (L.length : Int) := by omega
      have HY := Lib.hid hy
      clear hy
      by_cases he : y.id = id
      · have heb : (y.id == id) = true := by simpa using he
        have HE := Lib.hid he
        have HIX := Lib.hid (ixOf_some HY.out he HNO.out)
        clear he
        go_wp2_with fail
        go_ret
        exact ⟨by rw [HIX.out]; rfl, by first | rfl | trivial⟩
      · have heb : (y.id == id) = false := by simpa using he
        have HE := Lib.hid he
        clear he
        go_wp2_with fail
        go_roundw
        case rel => exact ⟨i + 1, by simp, by omega, by first | rfl | trivial, fun j z hj hz => by
          rcases Nat.lt_succ_iff_lt_or_eq.1 hj with h | rfl
          · exact HNO.out j z h hz
          · rw [HY.out] at hz
            cases hz
            exact HE.out⟩
        case measure => simp [intOf]; omega
    · have hb : ¬ (i : Int) < (L.length : Int) := by omega
      have hie : i = L.length := by omega
      have HIX := Lib.hid (show ixOf L id = -1 from ixOf_none (fun z hz => by
        obtain ⟨j, hj, e⟩ := List.getElem_of_mem hz
        exact HNO.out j z (by omega) (by rw [List.getElem?_eq_getElem hj, e])))
      clear hie
      go_wp2_with fail
      go_ret
      exact ⟨by rw [HIX.out]; rfl, by first | rfl | trivial⟩
/-- The first of the least due times among the first i, or -1. -/
def FirstOf (L : List Itm) (i : Nat) (at_ : Int) : Prop := (i = 0 ∧ at_ = -1) ∨ ∃ (q : Nat) (y : Itm), at_ = q ∧ q < i ∧ L[q]? = some y ∧ ∀ j z, j < i → L[j]? = some z → y.due < z.due ∨ (y.due = z.due ∧ q ≤ j)
set_option maxRecDepth 100000 in
set_option maxHeartbeats 2000000 in
theorem rfirst_any : Calls Try.prog 16 #[.pointer (some ⟨x, 0, none⟩)] w fun e w' => ∃ at_ : Int, e = .returned (.int .i64 at_) ∧ FirstOf L L.length at_ ∧ Touch [] w w' := by
  obtain ⟨av, cv, rfl, hv1, hv2, hv3⟩ := k.form
  have hfew := k.few
  have HK := Lib.hid k
  clear k
  go_enter Try.func16, Try.ntmps16
  go_wp2_with fail
  go_loopw [3, 4] (fun va vi wr => ∃ (i : Nat) (at_ : Int), va = .int .i64 at_ ∧ vi = .int .i64 i ∧ i ≤ L.length ∧ FirstOf L i at_ ∧ Touch [] w wr) (fun _ vi _ => L.length - (intOf vi).toNat)
  case atStart => exact ⟨0, -1, rfl, rfl, by omega, .inl ⟨rfl, rfl⟩, Touch.refl _ _⟩
  case round =>
    obtain ⟨i, at_, rfl, rfl, hi, hfo, ht⟩ := hrel
    have HKr := Lib.hid (HK.out.touch ht (by simp))
    obtain ⟨c0, c1⟩ := HKr.out.cells
    have HF := Lib.hid hfo
    have HT := Lib.hid ht
    clear hfo ht
    by_cases hlt : i < L.length
    · have hy := List.getElem?_eq_getElem hlt
      generalize L[i] = y at hy
      obtain ⟨g, rfl, hgx⟩ := hv3 (by omega)
      obtain ⟨e0, e1, e2⟩ := HKr.out.elem hy
      have hwi : IntKind.i64.wrap ((i : Int) + 1) = (i : Int) + 1 := by rw [IntKind.wrap_i64] <;> omega
      have hb : (i : Int) < (L.length : Int) := by omega
      have HY := Lib.hid hy
      clear hy
      rcases HF.out with ⟨rfl, rfl⟩ | ⟨q, z, rfl, hqi, hq, hmin⟩
      · go_wp2_with fail
        go_quiet (fail)
        have T2 := HT.out.drews nq
        go_wp2_with fail
        go_roundw
        case rel => exact ⟨1, 0, by simp, by simp, by omega, .inr ⟨0, y, rfl, by omega, HY.out, fun j z hj hz => by
          have : j = 0 := by omega
          subst this
          rw [HY.out] at hz
          cases hz
          exact .inr ⟨rfl, Nat.le_refl _⟩⟩, T2⟩
        case measure => simp [intOf]; omega
      · obtain ⟨z0, z1, z2⟩ := HKr.out.elem hq
        have hq0 : ¬ (q : Int) < 0 := by omega
        have hq1 : decide ((q : Int) < 0) = false := by simp
        have hqb : (q : Int) < (L.length : Int) := by omega
        have HQ := Lib.hid hq
        have HM := Lib.hid hmin
        clear hq hmin
        by_cases hd : y.due < z.due
        · go_wp2_with fail
          go_quiet (fail)
          have T2 := HT.out.drews nq
          go_wp2_with fail
          go_roundw
          case rel => exact ⟨i + 1, i, by simp, by simp, by omega, .inr ⟨i, y, rfl, by omega, HY.out, fun j u hj hu => by
            rcases Nat.lt_succ_iff_lt_or_eq.1 hj with h | rfl
            · have := HM.out j u h hu
              left
              omega
            · rw [HY.out] at hu
              cases hu
              exact .inr ⟨rfl, Nat.le_refl _⟩⟩, T2⟩
          case measure => simp [intOf]; omega
        · go_wp2_with fail
          go_quiet (fail)
          have T2 := HT.out.drews nq
          go_wp2_with fail
          go_roundw
          case rel => exact ⟨i + 1, q, by simp, by simp, by omega, .inr ⟨q, z, rfl, by omega, HQ.out, fun j u hj hu => by
            rcases Nat.lt_succ_iff_lt_or_eq.1 hj with h | rfl
            · exact HM.out j u h hu
            · rw [HY.out] at hu
              cases hu
              omega⟩, T2⟩
          case measure => simp [intOf]; omega
    · have hb : ¬ (i : Int) < (L.length : Int) := by omega
      have hie : i = L.length := by omega
      have HF2 := Lib.hid (show FirstOf L L.length at_ by have := HF.out; rwa [hie] at this)
      clear hie
      go_wp2_with fail
      go_ret
      exact ⟨at_, rfl, HF2.out, HT.out⟩
end
end Go.Proofs.Ytpbabdoecjlifaa

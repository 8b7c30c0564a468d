/-
  The statement 'TimerExpiryOrderSaid' of the seat: the frame of the row round the walk of the law's Go function (YtobkanlnnniabaaW3): for every input the call returns true and each argument reads as it did.
-/
import Derived.Test.YtobkanlnnniabaaKA6
import Derived.Lib.SliceRun
import Derived.Deep.Upon
import Derived.Deep.Slices
import Derived.OpenShut
import Derived.WideShapes
import Derived.WalkKit
import Derived.ProofKit
import Derived.ShutString
import Derived.ChangeOld
import Derived.Below

/-
  slices.DeleteFunc and slices.IndexFunc at Cancel's closure: one handle taken out of a list.
-/
namespace Go.Proofs.Ytobkanlnnniabaa.I
open Go.RowKit
set_option linter.unusedVariables false
set_option linter.unusedSimpArgs false

def isC (c : Int) (k : Int) : Bool := decide (k ≠ c)
set_option maxRecDepth 100000 in
set_option maxHeartbeats 1000000 in
theorem clos_any (c k : Int) (q : Nat) (w : World) (h : w.cell? ⟨q, 0, none⟩ = some (.int .i64 c)) :
    Calls Try.prog 40 #[.int .i64 k, .pointer (some ⟨q, 0, none⟩)] w fun e w' => e = .returned (.bool (!isC c k)) ∧ w = w' := by
  have e : (!isC c k) = (k == c) := by
    by_cases hh : k = c
    · simp [isC, hh]
    · simp [isC, hh, BEq.beq]
  rw [e]
  clear e
  go_enter Try.func40, Try.ntmps40
  go_wp2_with fail
  go_ret
  exact ⟨rfl, rfl⟩
/-- The place of the handle, or the length. -/
def outAt (c : Int) (ks : List Int) : Nat := ks.findIdx (fun k => !isC c k)
theorem outAt_le (c : Int) (ks : List Int) : outAt c ks ≤ ks.length := List.findIdx_le_length
theorem outAt_before {c : Int} {ks : List Int} {i : Nat} {k : Int} (hi : i < outAt c ks) (hk : ks[i]? = some k) : isC c k = true := by
  obtain ⟨hl, he⟩ := List.getElem?_eq_some_iff.1 hk
  have h2 := List.not_of_lt_findIdx (p := fun k : Int => !isC c k) (xs := ks) hi
  rw [he] at h2
  simpa using h2
theorem outAt_at {c : Int} {ks : List Int} {k : Int} (hk : ks[outAt c ks]? = some k) : isC c k = false := by
  obtain ⟨hl, he⟩ := List.getElem?_eq_some_iff.1 hk
  have h2 := List.findIdx_getElem (p := fun k : Int => !isC c k) (xs := ks) (w := hl)
  have h3 : ks[List.findIdx (fun k : Int => !isC c k) ks] = k := he
  rw [h3] at h2
  simpa using h2
def ixv (c : Int) (ks : List Int) : Int := if outAt c ks < ks.length then (outAt c ks : Int) else -1
def Row (w : World) (v : Value) (ks : List Int) : Prop := w.ownsRow 0 3 1 v ks.length (ks.map (Value.int .i64))
theorem Row.form {w : World} {v : Value} {ks : List Int} (h : Row w v ks) : ∃ a c, v = .slice a ks.length c ∧ ks.length ≤ c ∧ c ≤ maxLen ∧ (0 < ks.length → ∃ g, a = some ⟨g, 0, none⟩) := owns_form h
theorem Row.cell {w : World} {g n c : Nat} {ks : List Int} (h : Row w (.slice (some ⟨g, 0, none⟩) n c) ks) {i : Nat} {k : Int} (hk : ks[i]? = some k) : w.cell? ⟨g, i, none⟩ = some (.int .i64 k) := by
  obtain ⟨a, c', hv, _⟩ := Row.form h
  simp at hv
  obtain ⟨rfl, rfl, rfl⟩ := hv
  exact owns_cell h i _ (by simp [hk])
set_option maxRecDepth 100000 in
set_option maxHeartbeats 1000000 in
theorem ix_any (v : Value) (ks : List Int) (c : Int) (q : Nat) (w : World) (hl : ks.length ≤ 1000) (h1 : Row w v ks) (h : w.cell? ⟨q, 0, none⟩ = some (.int .i64 c)) :
    Calls Try.prog 48 #[v, .func (.func 40) #[] #[.pointer (some ⟨q, 0, none⟩)]] w fun e w' => e = .returned (.int .i64 (ixv c ks)) ∧ w = w' := by
  obtain ⟨a1, c1, rfl, hc1, hm1, hv1⟩ := h1.form
  have hix := outAt_le c ks
  have hcv : c1 ≤ 9223372036854775807 := by unfold maxLen at hm1; omega
  clear hm1
  go_enter Try.func48, Try.ntmps48
  go_wp2_with fail
  go_loop [8] (fun vi => ∃ (i : Nat), i ≤ outAt c ks ∧ vi = .int .i64 i) (fun vi => ks.length - (intOf vi).toNat)
  case atStart => exact ⟨0, by omega, rfl⟩
  case round =>
    obtain ⟨i, hi, rfl⟩ := hrel
    by_cases hlt : i < ks.length
    · have hx : ks[i]? = some ks[i] := List.getElem?_eq_getElem hlt
      generalize ks[i] = k at hx
      obtain ⟨g, rfl⟩ := hv1 (by omega)
      have p1 := h1.cell hx
      have q3 : (i : Int) < (ks.length : Int) := by omega
      by_cases hin : i < outAt c ks
      · have hc := Lib.hid (outAt_before hin hx)
        clear hx
        go_wp2_with fail
        refine (clos_any c k q _ h).mono ?_
        rintro e w2 ⟨rfl, rfl⟩
        rw [hc.out]
        clear p1
        go_wp2_with fail
        go_round
        case rel => exact ⟨i + 1, by omega, by go_num⟩
        case measure => simp [intOf]; omega
      · have e : outAt c ks = i := by omega
        have hc := Lib.hid (outAt_at (by rw [e]; exact hx))
        have HE := Lib.hid (show ixv c ks = (i : Int) by unfold ixv; rw [e, if_pos hlt])
        clear hx e
        go_wp2_with fail
        refine (clos_any c k q _ h).mono ?_
        rintro e w2 ⟨rfl, rfl⟩
        rw [hc.out]
        clear p1
        go_wp2_with fail
        go_ret
        exact ⟨by rw [HE.out]; rfl, rfl⟩
    · have HE := Lib.hid (show ixv c ks = -1 by unfold ixv; rw [if_neg (by omega)])
      go_wp2_with fail
      go_ret
      exact ⟨by rw [HE.out]; rfl, rfl⟩
theorem owns_setCells {w : World} {g n c : Nat} : ∀ (zs : List Value) (o : Nat) (w : World) (xs : List Value), w.ownsRow 0 3 1 (.slice (some ⟨g, 0, none⟩) n c) n xs →
    ∃ ys, (w.setCells g o zs).ownsRow 0 3 1 (.slice (some ⟨g, 0, none⟩) n c) n ys ∧ ys.take o = xs.take o
  | [], o, w, xs, h => ⟨xs, h, rfl⟩
  | z :: zs, o, w, xs, h => by
    obtain ⟨ys, h1, h2⟩ := owns_setCells (w := w) zs (o + 1) (w.setCell ⟨g, o, none⟩ z) (xs.set o z) (owns_set h o z)
    refine ⟨ys, h1, ?_⟩
    have h3 := congrArg (List.take o) h2
    rw [List.take_take, List.take_take, Nat.min_eq_left (by omega)] at h3
    rw [h3, List.take_set_of_le (by omega)]
theorem setCells_touch (b : Nat) : ∀ (vs : List Value) (o : Nat) (w : World), Touch [b] w (w.setCells b o vs)
  | [], _, w => Touch.refl _ _
  | v :: r, o, w => ((Touch.refl [b] w).setCell (p := ⟨b, o, none⟩) (by simp) v).trans (setCells_touch b r (o + 1) _) (by simp)
theorem run_clear_rows {P : Program} (w : World) (t e ty : TypeId) (z : Value) (k : Nat) (ht : P.underlying t = some (.slice e)) (hv : ∀ w, (zeroValue e).run P w = .ok z w) (hz : z.cells.size = k) (h1 : ∀ v ∈ z.cells.toList, v.oneCell' = true) (b o n c : Nat) (hn : 0 < n)
    (hc : ∀ j, j < n * k → (w.cell? ⟨b, o + j, none⟩).isSome = true) (hf : ∀ j, j < n * k → w.frozen? ⟨b, o + j, none⟩ = false) :
    ∃ zs, (Builtin.clear_ #[t] ty #[.slice (some ⟨b, o, none⟩) n c]).run P w = .ok (.tuple #[]) (w.setCells b o zs) := by
  have hl : (Builtin.zeroCells z.cells n).toList.length = n * k := by simp [Builtin.zeroCells, hz]
  have ho : ∀ v ∈ (Builtin.zeroCells z.cells n).toList, v.oneCell' = true := by
    intro v hv'
    simp only [Builtin.zeroCells] at hv'
    simp at hv'
    obtain ⟨i, hi, rfl⟩ := hv'
    have hk : 0 < z.cells.size := by
      rcases Nat.eq_zero_or_pos z.cells.size with h0 | h0
      · rw [h0] at hi; simp at hi
      · exact h0
    have hm := Nat.mod_lt i hk
    refine h1 _ ?_
    simp [hm]
  have hst := run_storeCells_cells (P := P) b o (Builtin.zeroCells z.cells n).toList 0 w (by simpa [hl] using hc) (by simpa [hl] using hf) ho
  simp only [Nat.add_zero] at hst
  obtain ⟨m, rfl⟩ : ∃ m, n = m + 1 := ⟨n - 1, by omega⟩
  exact ⟨(Builtin.zeroCells z.cells (m + 1)).toList, by simp [Builtin.clear_, run_underlying ht, hv, hst]⟩
theorem all_in {c : Int} {ks : List Int} (h : ks.length ≤ outAt c ks) : ks.filter (isC c) = ks := by
  rw [List.filter_eq_self]
  intro k hk
  obtain ⟨i, hi⟩ := List.getElem?_of_mem hk
  have := (List.getElem?_eq_some_iff.1 hi).1
  exact outAt_before (by omega) hi
theorem take_in {c : Int} {ks : List Int} (h : outAt c ks < ks.length) : (ks.take (outAt c ks + 1)).filter (isC c) = ks.take (outAt c ks) := by
  have hx := List.getElem?_eq_getElem h
  have ho := outAt_at (c := c) hx
  rw [List.take_add_one, hx, List.filter_append]
  have e1 : (ks.take (outAt c ks)).filter (isC c) = ks.take (outAt c ks) := by
    rw [List.filter_eq_self]
    intro k hk
    obtain ⟨i, hi⟩ := List.getElem?_of_mem hk
    rw [List.getElem?_take] at hi
    split at hi
    · exact outAt_before (by assumption) hi
    · cases hi
  rw [e1]
  simp [ho]
/-- What the loop of DeleteFunc has done. -/
structure Dl (w wr : World) (g n cv : Nat) (ks : List Int) (c : Int) (i j : Nat) (ds : List Int) : Prop where
  row : wr.ownsRow 0 3 1 (.slice (some ⟨g, 0, none⟩) n cv) n (ds.map (Value.int .i64))
  len : ds.length = n
  ij : i < j
  jn : j ≤ n
  pre : ds.take i = (ks.take j).filter (isC c)
  suf : ds.drop j = ks.drop j
  t : Touch [g] w wr
theorem Dl.skip {w wr : World} {g n cv i j : Nat} {ks ds : List Int} {c : Int} {k : Int} (hd : Dl w wr g n cv ks c i j ds) (hn : ks.length = n) (hj : ks[j]? = some k) (hin : isC c k = false) : Dl w wr g n cv ks c i (j + 1) ds := by
  have hjl := (List.getElem?_eq_some_iff.1 hj).1
  have h1 := hd.ij
  refine ⟨hd.row, hd.len, by omega, by omega, ?_, ?_, hd.t⟩
  · rw [List.take_add_one, hj, List.filter_append, hd.pre]
    simp [hin]
  · have := congrArg (List.drop 1) hd.suf
    rwa [List.drop_drop, List.drop_drop] at this
theorem Dl.keep {w wr : World} {g n cv i j : Nat} {ks ds : List Int} {c : Int} {k : Int} (hd : Dl w wr g n cv ks c i j ds) (hn : ks.length = n) (hj : ks[j]? = some k) (hin : isC c k = true) :
    Dl w (wr.setCell ⟨g, i, none⟩ (.int .i64 k)) g n cv ks c (i + 1) (j + 1) (ds.set i k) := by
  have hjl := (List.getElem?_eq_some_iff.1 hj).1
  have h1 := hd.ij
  have h2 := hd.jn
  have hlen := hd.len
  have hil : i < ds.length := by omega
  refine ⟨?_, by rw [List.length_set]; exact hlen, by omega, by omega, ?_, ?_, hd.t.setCell (.inl (by simp)) _⟩
  · rw [List.map_set]
    exact owns_set hd.row i _
  · rw [List.take_add_one (i := j), hj, List.filter_append, ← hd.pre, List.take_add_one]
    rw [List.take_set_of_le (by omega)]
    simp [hin, hil]
  · rw [List.drop_set_of_lt (by omega)]
    have := congrArg (List.drop 1) hd.suf
    rwa [List.drop_drop, List.drop_drop] at this
set_option maxRecDepth 100000 in
set_option maxHeartbeats 2000000 in
theorem del_any (v : Value) (ks : List Int) (c : Int) (q : Nat) (w : World) (hl : ks.length ≤ 1000) (ho : Row w v ks) (h : w.cell? ⟨q, 0, none⟩ = some (.int .i64 c)) (hq : v.ownBlock ≠ some q) :
    Calls Try.prog 36 #[v, .func (.func 40) #[] #[.pointer (some ⟨q, 0, none⟩)]] w fun e w' => ∃ v', e = .returned v' ∧ Row w' v' (ks.filter (isC c)) ∧ v'.ownBlock = v.ownBlock ∧ Touch v.ownBlock.toList w w' := by
  have hole := outAt_le c ks
  obtain ⟨n, hn⟩ : ∃ n, ks.length = n := ⟨_, rfl⟩
  obtain ⟨av, cv, rfl, hc1, hm1, hv3⟩ := ho.form
  have HO := Lib.hid ho
  rw [hn] at hc1 hv3 hl hole hq HO ⊢
  have hc4 : cv ≤ 9223372036854775807 := by unfold maxLen at hm1; omega
  have HN := Lib.hid hn
  clear hn ho hm1
  by_cases hlt : outAt c ks < n
  · have HE := Lib.hid (show ixv c ks = (outAt c ks : Int) by unfold ixv; rw [HN.out, if_pos hlt])
    obtain ⟨g, rfl⟩ := hv3 (by omega)
    have hqg : q ≠ g := fun e => hq (by rw [e]; rfl)
    have HT := Lib.hid (take_in (c := c) (ks := ks) (by rw [HN.out]; exact hlt))
    go_enter Try.func36, Try.ntmps36
    go_wp2_with fail
    refine (ix_any _ ks c q _ (by rw [HN.out]; exact hl) HO.out h).mono ?_
    rintro e w1 ⟨rfl, rfl⟩
    rw [HE.out]
    generalize hi0 : outAt c ks = i0 at *
    have HI0 := Lib.hid hi0
    clear hi0
    have d0 : ((i0 : Int) == -1) = false := by simp
    go_wp2_with fail
    go_loopw [5, 6] (fun vi vj wr => ∃ (i j : Nat) (ds : List Int), vi = .int .i64 i ∧ vj = .int .i64 j ∧ Dl w wr g n cv ks c i j ds) (fun _ vj _ => n - (intOf vj).toNat)
    case atStart => exact ⟨i0, i0 + 1, ks, rfl, by go_num, by have := HO.out; unfold Row at this; rwa [HN.out] at this, HN.out, by omega, by omega, HT.out.symm, rfl, Touch.refl _ _⟩
    case round =>
      obtain ⟨i, j, ds, rfl, rfl, hd⟩ := hrel
      have HD := Lib.hid hd
      have hij := hd.ij
      have hjn := hd.jn
      have hcq := hd.t.cell h (by simpa using hqg)
      clear hd
      by_cases hj : j < n
      · have hjk : j < ks.length := by rw [HN.out]; exact hj
        have hx : ks[j]? = some ks[j] := List.getElem?_eq_getElem hjk
        generalize ks[j] = k at hx
        have hdx : ds[j]? = some k := by
          have e := congrArg (fun l => l[0]?) HD.out.suf
          simp only [List.getElem?_drop, Nat.add_zero] at e
          rw [e, hx]
        have c0 := owns_cell HD.out.row j (.int .i64 k) (by simp [hdx])
        have HX := Lib.hid hx
        have hjI : (j : Int) < (n : Int) := by omega
        clear hx hdx
        cases hin : isC c k with
        | true =>
          have HIN := Lib.hid hin
          have hil : i < ds.length := by rw [HD.out.len]; omega
          have hdi := List.getElem?_eq_getElem hil
          have s0 := owns_cell HD.out.row i (.int .i64 ds[i]) (by simp [hdi])
          have f0 := owns_frozen HD.out.row i
          have hin' : (i : Int) < (n : Int) := by omega
          have HF := Lib.hid (HD.out.keep HN.out HX.out hin)
          clear hdi hin
          go_wp2_with fail
          refine (clos_any c k q _ hcq).mono ?_
          rintro e w5 ⟨rfl, rfl⟩
          rw [HIN.out]
          go_wp2_with fail
          exact ⟨⟨i + 1, j + 1, _, by go_num, by go_num, HF.out⟩, by simp [intOf]; omega⟩
        | false =>
          have HIN := Lib.hid hin
          have HF := Lib.hid (HD.out.skip HN.out HX.out hin)
          clear hin
          go_wp2_with fail
          refine (clos_any c k q _ hcq).mono ?_
          rintro e w5 ⟨rfl, rfl⟩
          rw [HIN.out]
          go_wp2_with fail
          exact ⟨⟨i, j + 1, _, rfl, by go_num, HF.out⟩, by simp [intOf]; omega⟩
      · obtain rfl : j = n := by omega
        have hpre := HD.out.pre
        rw [List.take_of_length_le (l := ks) (by rw [HN.out]; omega)] at hpre
        have row := HD.out.row
        obtain ⟨zs, hcl⟩ := run_clear_rows (P := Try.prog) wr 33 3 0 _ 1 Try.underlying33 zero3' (by rfl) (by intro v hv; simp [Value.cells] at hv; subst hv; rfl) g i (j - i) (cv - i) (by omega)
          (by
            intro q hq
            have hql : i + q < (ds.map (Value.int .i64)).length := by rw [List.length_map, HD.out.len]; omega
            rw [owns_cell row (i + q) _ (List.getElem?_eq_getElem hql)]
            rfl)
          (by intro q hq; exact owns_frozen row _)
        have hci : ¬ cv = i := by omega
        have hT2 := setCells_touch g zs i wr
        have hres : Row (wr.setCells g i zs) (.slice (some ⟨g, 0, none⟩) i cv) (ks.filter (isC c)) := by
          obtain ⟨ys, h1, h2⟩ := owns_setCells (w := wr) zs i wr _ row
          have h3 := owns_take h1 (j := i) (by omega)
          rw [Nat.mul_one, h2, ← List.map_take, hpre] at h3
          have hl3 := congrArg List.length hpre
          rw [List.length_take, HD.out.len, Nat.min_eq_left (by omega)] at hl3
          unfold Row
          rw [← hl3]
          exact h3
        have HRES := Lib.hid hres
        clear hres hpre row
        go_wp2_with fail
        go_ret
        exact ⟨_, rfl, HRES.out, rfl, HD.out.t.trans hT2 (by simp)⟩
  · have HE := Lib.hid (show ixv c ks = -1 by unfold ixv; rw [HN.out, if_neg hlt])
    have HF := Lib.hid (all_in (c := c) (ks := ks) (by rw [HN.out]; omega))
    go_enter Try.func36, Try.ntmps36
    go_wp2_with fail
    refine (ix_any _ ks c q _ (by rw [HN.out]; exact hl) HO.out h).mono ?_
    rintro e w1 ⟨rfl, rfl⟩
    rw [HE.out]
    go_wp2_with fail
    go_ret
    exact ⟨_, rfl, by rw [HF.out]; exact HO.out, rfl, Touch.refl _ _⟩
end Go.Proofs.Ytobkanlnnniabaa.I

/-
  The contract of Cancel.
-/
namespace Go.Proofs.Ytobkanlnnniabaa.I
open Go.RowKit
set_option linter.unusedVariables false
set_option linter.unusedSimpArgs false

def cutN (N : List Nd) (l : List Int) : List Nd := N.filter fun n => decide (n.t.id ∉ l)
theorem sh_cut (N : List Nd) (l : List Int) : sh (cutN N l) = (sh N).filter fun n => decide (n.id ∉ l) := by
  unfold sh cutN
  rw [List.filter_map]
  rfl
theorem cut_mem {N : List Nd} {l : List Int} {n : Nd} : n ∈ cutN N l ↔ n ∈ N ∧ n.t.id ∉ l := by
  simp [cutN]
theorem cut_step {N : List Nd} {l : List Int} {j : Nat} {i : Int} (hj : l[j]? = some i) : (cutN N (l.take j)).filter (fun n => decide (n.t.id ≠ i)) = cutN N (l.take (j + 1)) := by
  unfold cutN
  rw [List.filter_filter]
  apply List.filter_congr
  intro n _
  rw [List.take_add_one, hj]
  simp [Bool.and_comm]
/-- Between two removals. -/
def Cn (w0 : World) (t h : Nat) (fh0 : List Nat) (N : List Nd) (last : Int) (K : Int → List Int) (l : List Int) (j : Nat) (wr : World) : Prop :=
  ∃ fh, TK wr t h fh (cutN N (l.take j)) last K ∧ (∀ y ∈ fh, y ∈ fh0 ∨ w0.heap.size ≤ y) ∧ Touch fh0 w0 wr
theorem Cn.start {w0 : World} {t h : Nat} {fh0 : List Nat} {N : List Nd} {last : Int} {K : Int → List Int} {l : List Int} (k : TK w0 t h fh0 N last K) : Cn w0 t h fh0 N last K l 0 w0 := by
  refine ⟨fh0, ?_, fun y hy => .inl hy, Touch.refl _ _⟩
  have : cutN N (l.take 0) = N := by
    simp [cutN]
  rw [this]
  exact k
theorem TK.removed {w w' : World} {t h : Nat} {fh : List Nat} {N : List Nd} {last : Int} {K : Int → List Int} (k : TK w t h fh N last K) {i : Int} (nx : Next w h fh ((N.map Nd.itm).filter fun y => decide (y.id ≠ i)) last w') :
    ∃ fh', TK w' t h fh' (N.filter fun n => decide (n.t.id ≠ i)) last K ∧ (∀ y ∈ fh', y ∈ fh ∨ w.heap.size ≤ y) ∧ Touch fh w w' := by
  obtain ⟨fh', hb, hf, ht⟩ := nx
  have e : (N.map Nd.itm).filter (fun y => decide (y.id ≠ i)) = (N.filter fun n => decide (n.t.id ≠ i)).map Nd.itm := by
    rw [List.filter_map]
    rfl
  rw [e] at hb
  have hs : (N.filter fun n => decide (n.t.id ≠ i)).Sublist N := List.filter_sublist
  exact ⟨fh', k.bagged hb hf ht (fun n hn => .inl (hs.subset hn)) (k.nn.sublist hs) (Nat.le_trans hs.length_le k.few), hf, ht⟩
theorem Cn.step {w0 wr w' : World} {t h : Nat} {fh0 fh : List Nat} {N : List Nd} {last : Int} {K : Int → List Int} {l : List Int} {j : Nat} {i : Int} (hj : l[j]? = some i)
    (k : TK wr t h fh (cutN N (l.take j)) last K) (hf : ∀ y ∈ fh, y ∈ fh0 ∨ w0.heap.size ≤ y) (ht : Touch fh0 w0 wr) (nx : Next wr h fh (((cutN N (l.take j)).map Nd.itm).filter fun y => decide (y.id ≠ i)) last w') : Cn w0 t h fh0 N last K l (j + 1) w' := by
  obtain ⟨fh', k', hf', ht'⟩ := k.removed nx
  rw [cut_step hj] at k'
  refine ⟨fh', k', ?_, ht.trans ht' hf⟩
  intro y hy
  rcases hf' y hy with e | e
  · exact hf y e
  · exact .inr (Nat.le_trans ht.size e)
/-- All of a subtree is gone. -/
theorem TM.cut {w w' : World} {t h : Nat} {fh fh' : List Nat} {N N2 : List Nd} {last : Int} {K : Int → List Int} {l : List Int} {n : Nd} (k : TM w t h fh N last) (hn : n ∈ N) (hs : Sub (sh N) n.t.id l) (e : sh N2 = sh N)
    (hK : ∀ m ∈ N2, m.t.id ∉ l → K m.t.id = (kids (sh N) m.t.id).filter fun i => decide (i ≠ n.t.id)) (m : TK w' t h fh' (cutN N2 l) last K) : TM w' t h fh' (cutN N2 l) last := by
  have e2 : sh (cutN N2 l) = (sh N).filter fun n => decide (n.id ∉ l) := by rw [sh_cut, e]
  refine ⟨m.congr ?_, by rw [e2]; exact k.tree.cut hs, by rw [e2]; exact due_cut k.tree hs k.due⟩
  intro q hq
  obtain ⟨hq1, hq2⟩ := cut_mem.1 hq
  rw [e2, hK q hq1 hq2, kids_cut_eq k.tree hs hq2]
theorem kids_none {w : World} {t h : Nat} {fh : List Nat} {N : List Nd} {last : Int} (k : TM w t h fh N last) {n q : Nd} (hn : n ∈ N) (hq : q ∈ N) (hne : n.t.par ≠ q.t.id) : (kids (sh N) q.t.id).filter (fun i => decide (i ≠ n.t.id)) = kids (sh N) q.t.id := by
  rw [List.filter_eq_self]
  intro i hi
  simp only [ne_eq, decide_eq_true_eq]
  rintro rfl
  obtain ⟨s, hs, h1, h2⟩ := mem_kids.1 hi
  have := tm_inj k.ids hs (sh_mem hn) h2
  rw [← this] at hne
  exact hne h1
section
variable {w : World} {t h : Nat} {fh : List Nat} {N : List Nd} {last : Int}
set_option maxRecDepth 100000 in
set_option maxHeartbeats 1000000 in
theorem cancel_no (k : TM w t h fh N last) (i : Int) (hi : okK i) (hn : i ∉ tids (sh N)) :
    Calls Try.prog 18 #[.pointer (some ⟨t, 0, none⟩), .int .i64 i] w fun e w' => e = .returned (.int .i64 0) ∧ Touch [] w w' := by
  have tA := (Touch.refl [] w).alloc (.cells #[.int .i64 i] 3)
  have gA := heap_alloc_new w (.cells #[.int .i64 i] 3)
  have cA : (w.alloc (.cells #[.int .i64 i] 3)).cell? ⟨w.heap.size, 0, none⟩ = some (.int .i64 i) := by simp only [World.cell?]; rw [gA]; rfl
  have HS := Lib.hid (subtree_no (k.touch tA (by simp)) i hi hn)
  clear k hn gA
  go_enter Try.func18, Try.ntmps18
  go_wp2_with fail
  refine HS.out.mono ?_
  rintro e w' ⟨rfl, rfl⟩
  go_wp2_with fail
  go_ret
  exact ⟨rfl, tA⟩
/-- What Cancel leaves. -/
def Canc (w : World) (t h : Nat) (fh : List Nat) (N : List Nd) (last : Int) (n : Nd) (e : Ending) (w' : World) : Prop :=
  ∃ l fh' N2 pf, e = .returned (.int .i64 (l.length : Nat)) ∧ Sub (sh N) n.t.id l ∧ TM w' t h fh' (cutN N2 l) last ∧ ab N2 = ab N ∧ (∀ y ∈ TFoot t fh' (cutN N2 l), y ∈ TFoot t fh N ∨ w.heap.size ≤ y) ∧ Touch (fh ++ pf) w w' ∧ (∀ y ∈ pf, ∃ p ∈ N, p.t.id = n.t.par ∧ y ∈ p.foot)
/-- Ahead of the removals. -/
structure MidC (w w3 : World) (t h : Nat) (fh : List Nat) (N : List Nd) (last : Int) (n : Nd) (N2 : List Nd) (K : Int → List Int) (pf : List Nat) (v : Value) (l : List Int) : Prop where
  mem : TK w3 t h fh N2 last K
  e : sh N2 = sh N
  ab : ab N2 = ab N
  kk : ∀ m ∈ N2, m.t.id ∉ l → K m.t.id = (kids (sh N) m.t.id).filter fun i => decide (i ≠ n.t.id)
  tt : Touch pf w w3
  pf : ∀ y ∈ pf, ∃ p ∈ N, p.t.id = n.t.par ∧ y ∈ p.foot
  own : OwnN w w3 v l
  foot : ∀ y ∈ TFoot t fh N2, y ∈ TFoot t fh N ∨ w.heap.size ≤ y
theorem MidC.fin {w3 wr : World} {n : Nd} {N2 : List Nd} {K : Int → List Int} {pf : List Nat} {v : Value} {l : List Int} (d : MidC w w3 t h fh N last n N2 K pf v l) (k : TM w t h fh N last) (hn : n ∈ N) (hs : Sub (sh N) n.t.id l) (c : Cn w3 t h fh N2 last K l l.length wr) :
    Canc w t h fh N last n (.returned (.int .i64 (l.length : Nat))) wr := by
  obtain ⟨fh', m, hf, ht⟩ := c
  rw [List.take_length] at m
  refine ⟨l, fh', N2, pf, rfl, hs, k.cut hn hs d.e d.kk m, d.ab, ?_, ?_, d.pf⟩
  · intro y hy
    rcases TFoot.mem.1 hy with rfl | hy | ⟨q, hq, hy⟩
    · exact .inl (TFoot.mem.2 (.inl rfl))
    · rcases hf y hy with e | e
      · exact .inl (TFoot.mem.2 (.inr (.inl e)))
      · exact .inr (Nat.le_trans d.tt.size e)
    · exact d.foot y (TFoot.mem.2 (.inr (.inr ⟨q, (cut_mem.1 hq).1, hy⟩)))
  · exact (d.tt.mono (S' := fh ++ pf) (fun y hy => .inl (List.mem_append.2 (.inr hy)))).trans ht (fun y hy => .inl (List.mem_append.2 (.inl hy)))
theorem MidC.rootc {w3 : World} {n : Nd} {v : Value} {l : List Int} (k : TM w t h fh N last) (hn : n ∈ N) (hp : n.t.par ∉ tids (sh N)) (ht : Touch [] w w3) (ho : OwnN w w3 v l) : MidC w w3 t h fh N last n N (kids (sh N)) [] v l := by
  refine ⟨k.mem.touch ht (by simp), rfl, rfl, ?_, ht, by simp, ho, fun y hy => .inl hy⟩
  intro m hm _
  rw [kids_none k hn hm]
  intro e
  exact hp (by rw [e]; exact sh_tids hm)
theorem MidC.childc {w2 w3 : World} {n p : Nd} {v v' : Value} {l : List Int} (k : TM w t h fh N last) (hn : n ∈ N) (hp : p ∈ N) (hpn : p.t.id = n.t.par) (ht2 : Touch [] w w2) (ho : OwnN w w2 v l) (ht : Touch p.foot w2 w3)
    (hh : w3.heap[p.b]? = some (.cells #[.int .i64 p.t.par, .int .u64 p.t.req, p.x, v'] 54 (0, 0))) (hr : Row w3 v' ((kids (sh N) p.t.id).filter (isC n.t.id))) (hv : v'.ownBlock = p.v.ownBlock) :
    MidC w w3 t h fh N last n (N.map (setV p.t.id v')) (putK (kids (sh N)) p.t.id ((kids (sh N) p.t.id).filter (isC n.t.id))) p.foot v l := by
  have hlt := (k.mem.nd p hp).lt
  obtain ⟨m, f⟩ := (k.mem.touch ht2 (by simp)).kids_set k.ids hp ht hh hr (.inl hv)
  refine ⟨m, sh_setV _ _, ab_setV _ _, ?_, ?_, fun y hy => ⟨p, hp, hpn, hy⟩, ho.touch ht ?_, ?_⟩
  · intro q' hq' _
    obtain ⟨q, hq, rfl⟩ := List.mem_map.1 hq'
    rw [(setV_keep _ _ q).1]
    unfold putK
    by_cases e : q.t.id = p.t.id
    · rw [if_pos e, e]
      rfl
    · rw [if_neg e, kids_none k hn hq]
      rw [← hpn]
      exact fun e' => e e'.symm
  · exact (ht2.mono (by simp)).trans ht (fun y hy => .inl hy)
  · intro g hg e
    have := ho.new g hg
    have := hlt g e
    omega
  · intro y hy
    rcases f y hy with e | e
    · exact .inl e
    · exact .inr (Nat.le_trans ht2.size e)
set_option maxRecDepth 100000 in
set_option maxHeartbeats 2000000 in
theorem cancel_any (k : TM w t h fh N last) (n : Nd) (hn : n ∈ N) :
    Calls Try.prog 18 #[.pointer (some ⟨t, 0, none⟩), .int .i64 n.t.id] w fun e w' => Canc w t h fh N last n e w' := by
  have tA := (Touch.refl [] w).alloc (.cells #[.int .i64 n.t.id] 3)
  have gA := heap_alloc_new w (.cells #[.int .i64 n.t.id] 3)
  have cA : (w.alloc (.cells #[.int .i64 n.t.id] 3)).cell? ⟨w.heap.size, 0, none⟩ = some (.int .i64 n.t.id) := by simp only [World.cell?]; rw [gA]; rfl
  have zA : (w.alloc (.cells #[.int .i64 n.t.id] 3)).heap.size = w.heap.size + 1 := by simp
  have HA := k.touch tA (by simp)
  have HK := Lib.hid k
  have HN := Lib.hid hn
  have HS := Lib.hid (subtree_any HA n hn)
  have hqf : w.heap.size ∉ TFoot t fh N := fun e => Nat.lt_irrefl _ (k.mem.lt _ e)
  have hfew := k.mem.few
  clear k hn gA
  go_enter Try.func18, Try.ntmps18
  go_wp2_with fail
  generalize w.alloc (.cells #[.int .i64 n.t.id] 3) = wA at *
  generalize hqe : w.heap.size = q at *
  have HQE := Lib.hid hqe
  have HTA := Lib.hid tA
  have HKA := Lib.hid HA
  clear hqe HA tA
  refine HS.out.mono ?_
  rintro e w1 ⟨v, l, rfl, hsub, ho, t1⟩
  have HSUB := Lib.hid hsub
  have HO := Lib.hid ho
  have HT1 := Lib.hid t1
  have HK1 := Lib.hid (HKA.out.touch t1 (by simp))
  have cq := t1.cell cA (by simp)
  have hl0 : 0 < l.length := (List.getElem?_eq_some_iff.1 hsub.head).1
  have hl1 := hsub.few
  have hl2 : (sh N).length = N.length := by simp [sh]
  rw [hl2] at hl1
  clear hsub ho t1 cA hl2 HS
  obtain ⟨av, cv, rfl, hv1, hv2, hv3⟩ := owns_form HO.out.row
  obtain ⟨g, rfl⟩ := hv3 hl0
  have hcv : cv ≤ 9223372036854775807 := by unfold maxLen at hv2; omega
  have c0 := HK1.out.mem.cell
  have d0 : ((l.length : Int) == 0) = false := beq_eq_false_iff_ne.2 (by omega)
  clear hv2 hv3
  go_wp2_with fail
  go_quiet ((go_at_call 23; exact Calls.quiet_of ((HK1.out.draws _).get n HN.out)))
  have T2 := (Touch.refl [] w1).drews nq
  have HK2 := Lib.hid (HK1.out.draws nq)
  have HO2 := Lib.hid ((HO.out.touch T2 (by simp)).rebase (w0 := w) HTA.out.size)
  have HT2 := Lib.hid ((HTA.out.trans HT1.out (by simp)).trans T2 (by simp))
  have cq2 := T2.cell cq (by simp)
  clear T2 cq c0 HO HK1 HT1
  generalize w1.drewN nq = w2 at *
  have c0 := HK2.out.mem.cell
  obtain ⟨m0, m1, m2, m3⟩ := (HK2.out.mem.nd n HN.out).cells
  clear m1 m2 m3
  by_cases hp : n.t.par ∈ tids (sh N)
  case' neg =>
    have hp0 : okK n.t.par := by
      rcases HK2.out.tree.par n.t (sh_mem HN.out) with e | e
      · rw [e]
        exact okK_of (by omega) (by omega)
      · exact absurd e hp
    have HP0 := Lib.hid hp0
    have HPP := Lib.hid hp
    clear hp hp0
    go_wp2_with fail
    go_quiet ((go_at_call 23; exact Calls.quiet_of_same ((HK2.out.draws _).get_no n.t.par HP0.out HPP.out)))
    have T3 := HT2.out.trans ((Touch.refl [] w2).drews nq) (by simp)
    obtain ⟨N2, K, pf, hmid⟩ : ∃ N2 K pf, MidC w (w2.drewN nq) t h fh N last n N2 K pf (.slice (some ⟨g, 0, none⟩) l.length cv) l := ⟨_, _, _, MidC.rootc HK.out HN.out HPP.out T3 (HO2.out.touch ((Touch.refl [] w2).drews nq) (by simp))⟩
    clear T3 m0 c0 cq2 HP0 HPP
    generalize w2.drewN nq = w3 at *
  case' pos =>
    obtain ⟨p, hpm, hpe⟩ := sh_at hp
    rw [← hpe] at m0
    have HPM := Lib.hid hpm
    have HPE := Lib.hid hpe
    clear hp hpm hpe
    go_wp2_with fail
    go_quiet ((go_at_call 23; exact Calls.quiet_of ((HK2.out.draws _).get p HPM.out)))
    have T3 := (Touch.refl [] w2).drews nq
    have HK3 := Lib.hid (HK2.out.draws nq)
    have HO3 := Lib.hid (HO2.out.touch T3 (by simp))
    have HT3 := Lib.hid (HT2.out.trans T3 (by simp))
    have cq3 := T3.cell cq2 (by simp)
    clear T3 m0 c0 cq2 HO2 HK2 HT2
    generalize w2.drewN nq = w4 at *
    have hpn := HK3.out.mem.nd p HPM.out
    obtain ⟨m0, m1, m2, m3⟩ := hpn.cells
    have hpq : p.v.ownBlock ≠ some q := fun e => hqf (TFoot.mem.2 (.inr (.inr ⟨p, HPM.out, by simp [Nd.foot, e]⟩)))
    have hkl : (kids (sh N) p.t.id).length ≤ 1000 := by
      have := nodup_few (HK.out.tree.kids_nodup p.t.id) (fun m hm => kids_sub hm)
      have h2 : (tids (sh N)).length = N.length := by simp [tids, sh]
      omega
    have HDEL := Lib.hid (del_any p.v (kids (sh N) p.t.id) n.t.id q w4 hkl hpn.row cq3 hpq)
    have HPD := Lib.hid hpn
    have hpv := hpn.hv
    clear m0 m1 m2 hpn hpq hkl cq3
    go_wp2_with fail
    refine HDEL.out.mono ?_
    rintro e w5 ⟨v', rfl, hr5, hv5, t5⟩
    have hpb : p.b ∉ p.v.ownBlock.toList := by simpa using hpv
    have hh5 := t5.at HPD.out.hdr hpb
    have m3 : w5.cell? ⟨p.b, 3, none⟩ = some p.v := by simp [World.cell?, hh5]
    have g3 : w5.frozen? ⟨p.b, 3, none⟩ = false := by simp [World.frozen?, hh5]
    have T6 := (t5.mono (S' := p.foot) (by intro y hy; left; simp only [Nd.foot, List.mem_cons]; exact .inr hy)).trans ((Touch.refl [p.b] w5).setCell (p := ⟨p.b, 3, none⟩) (by simp) v') (by intro y hy; left; simp at hy; simp [Nd.foot, hy])
    have H6 : (w5.setCell ⟨p.b, 3, none⟩ v').heap[p.b]? = some (.cells #[.int .i64 p.t.par, .int .u64 p.t.req, p.x, v'] 54 (0, 0)) := by simp [World.setCell, Array.getElem?_modify, hh5]
    have R6 := ((Touch.refl [p.b] w5).setCell (p := ⟨p.b, 3, none⟩) (by simp) v').owns hr5 (by intro g hg e; simp at e; exact hpv (by rw [← hv5, hg, e]))
    obtain ⟨N2, K, pf, hmid⟩ : ∃ N2 K pf, MidC w (w5.setCell ⟨p.b, 3, none⟩ v') t h fh N last n N2 K pf (.slice (some ⟨g, 0, none⟩) l.length cv) l := ⟨_, _, _, MidC.childc HK.out HN.out HPM.out HPE.out HT3.out HO3.out T6 H6 R6 hv5⟩
    have HMD := Lib.hid hmid
    clear hmid
    obtain ⟨av5, cv5, rfl, hw1, hw2, hw3⟩ := hr5.form
    clear T6 H6 R6 hr5 t5 hh5 hw1 hw2 hw3 hpb hv5 hpv HDEL HK3 HO3 HT3
    go_wp2_with fail
    generalize w5.setCell ⟨p.b, 3, none⟩ (.slice av5 ((kids (sh N) p.t.id).filter (isC n.t.id)).length cv5) = w3 at *
    have hmid := HMD.out
    clear HMD m3 g3
  all_goals
    have HMID := Lib.hid hmid
    clear hmid
    go_wp2_with fail
    go_loopw [55] (fun vj wr => ∃ (j : Nat), vj = .int .i64 j ∧ j ≤ l.length ∧ Cn w3 t h fh N2 last K l j wr) (fun vj _ => l.length - (intOf vj).toNat)
    case atStart => exact ⟨0, rfl, by omega, Cn.start HMID.out.mem⟩
    case round =>
      obtain ⟨j, rfl, hjl, fhj, mj, fj, tj⟩ := hrel
      have HM := Lib.hid mj
      have HF := Lib.hid fj
      have HT := Lib.hid tj
      have cj := mj.cell
      have hgf : ∀ g', (Value.slice (some ⟨g, 0, none⟩) l.length cv).ownBlock = some g' → g' ∉ fh := by
        intro g' hg' e
        have h1 := HMID.out.own.new g' hg'
        have h2 := HK.out.mem.lt g' (TFoot.mem.2 (.inr (.inl e)))
        omega
      have HO := Lib.hid (HMID.out.own.touch tj hgf)
      clear mj fj tj hgf
      by_cases hlt : j < l.length
      · have hx := List.getElem?_eq_getElem hlt
        generalize l[j] = i at hx
        have HX := Lib.hid hx
        have p0 := owns_cell HO.out.row j (.int .i64 i) (by simp [hx])
        obtain ⟨m, hm, rfl⟩ := sh_at (N := N2) (by rw [HMID.out.e]; exact HSUB.out.mem i (List.mem_of_getElem? hx))
        have hnd := HSUB.out.nodup
        have hmc : m ∈ cutN N2 (l.take j) := cut_mem.2 ⟨hm, by
          intro e
          obtain ⟨r, hr⟩ := List.mem_iff_getElem?.1 e
          rw [List.getElem?_take] at hr
          split at hr
          · have := nodup_at hnd hr hx
            omega
          · cases hr⟩
        have HRM := Lib.hid (HM.out.bag.remove m.itm (TM.itm_mem hmc))
        have q3 : (j : Int) < (l.length : Int) := by omega
        clear hx hm hmc hnd
        go_wp2_with fail
        refine HRM.out.mono ?_
        rintro e w6 ⟨rfl, nx⟩
        have HC := Lib.hid (Cn.step HX.out HM.out HF.out HT.out nx)
        clear nx p0 cj
        go_wp2_with fail
        go_roundw
        case rel => exact ⟨j + 1, by simp, by omega, HC.out⟩
        case measure => simp [intOf]; omega
      · have hje : j = l.length := by omega
        have HFIN := Lib.hid (HMID.out.fin HK.out HN.out HSUB.out (by rw [← hje]; exact ⟨fhj, HM.out, HF.out, HT.out⟩))
        have q3 : ¬ (j : Int) < (l.length : Int) := by omega
        clear hje cj
        go_wp2_with fail
        go_ret
        exact HFIN.out
end
section
variable {w : World} {t h : Nat} {f : List Nat} {A : List (Tm × Value)} {last : Int}
theorem ab_cut (N : List Nd) (l : List Int) : ab (cutN N l) = (ab N).filter fun a => decide (a.1.id ∉ l) := by
  unfold ab cutN
  rw [List.filter_map]
  rfl
theorem Canc.next {fh : List Nat} {N : List Nd} {n : Nd} {e : Ending} {w' : World} (c : Canc w t h fh N last n e w') :
    ∃ l, e = .returned (.int .i64 (l.length : Nat)) ∧ Sub (sh N) n.t.id l ∧ TNext w t h (TFoot t fh N) ((ab N).filter fun a => decide (a.1.id ∉ l)) last w' := by
  obtain ⟨l, fh', N2, pf, rfl, hs, m, e2, hf, ht, hp⟩ := c
  refine ⟨l, rfl, hs, _, ⟨fh', _, m, by rw [ab_cut, e2], rfl⟩, hf, ht.mono ?_⟩
  intro y hy
  rcases List.mem_append.1 hy with hy | hy
  · exact .inl (TFoot.mem.2 (.inr (.inl hy)))
  · obtain ⟨p, hp1, _, hp2⟩ := hp y hy
    exact .inl (TFoot.mem.2 (.inr (.inr ⟨p, hp1, hp2⟩)))
def CancS (w : World) (t h : Nat) (f : List Nat) (A : List (Tm × Value)) (last i : Int) (e : Ending) (w' : World) : Prop :=
  ∃ l : List Int, e = .returned (.int .i64 (l.length : Nat)) ∧ Sub (A.map Prod.fst) i l ∧ TNext w t h f (A.filter fun a => decide (a.1.id ∉ l)) last w'
theorem TS.cancel (k : TS w t h f A last) (i : Int) (hi : i ∈ tids (A.map Prod.fst)) :
    Calls Try.prog 18 #[.pointer (some ⟨t, 0, none⟩), .int .i64 i] w fun e w' => CancS w t h f A last i e w' := by
  obtain ⟨fh, N, hm, rfl, rfl⟩ := k
  rw [ab_fst] at hi
  obtain ⟨n, hn, rfl⟩ := sh_at hi
  refine (cancel_any hm n hn).mono ?_
  intro e w' c
  unfold CancS
  rw [ab_fst]
  exact c.next
theorem TS.cancel_no (k : TS w t h f A last) (i : Int) (hi : okK i) (hn : i ∉ tids (A.map Prod.fst)) :
    Calls Try.prog 18 #[.pointer (some ⟨t, 0, none⟩), .int .i64 i] w fun e w' => e = .returned (.int .i64 0) ∧ Touch [] w w' := by
  obtain ⟨fh, N, hm, rfl, rfl⟩ := k
  rw [ab_fst] at hn
  exact I.cancel_no hm i hi hn
end
end Go.Proofs.Ytobkanlnnniabaa.I

/-
  The contract of Expire.
-/
namespace Go.Proofs.Ytobkanlnnniabaa.I
open Go.RowKit
set_option linter.unusedVariables false
set_option linter.unusedSimpArgs false

section
variable {w : World} {t h : Nat} {fh : List Nat} {N : List Nd} {last : Int}
set_option maxRecDepth 100000 in
set_option maxHeartbeats 1000000 in
theorem expire_empty (k : TM w t h fh [] last) (now : Int) :
    Calls Try.prog 9 #[.pointer (some ⟨t, 0, none⟩), .int .u64 now] w fun e w' => e = .returned (.tuple #[.int .i64 0, .int .i64 0, .bool false]) ∧ Touch [] w w' := by
  have c0 := k.mem.cell
  have HM := Lib.hid (Bag.min_no k.mem.bag)
  clear k
  go_enter Try.func9, Try.ntmps9
  go_wp2_with fail
  refine HM.out.mono ?_
  rintro e w' ⟨rfl, ht⟩
  go_wp2_with fail
  go_ret3
  exact ⟨rfl, ht⟩
set_option maxRecDepth 100000 in
set_option maxHeartbeats 1000000 in
theorem expire_late (k : TM w t h fh N last) (now : Int) (n : Nd) (hn : n ∈ N) (hmin : ∀ m ∈ N, le n.itm.key m.itm.key) (hl : now < n.t.due) :
    Calls Try.prog 9 #[.pointer (some ⟨t, 0, none⟩), .int .u64 now] w fun e w' => e = .returned (.tuple #[.int .i64 0, .int .i64 0, .bool false]) ∧ Touch [] w w' := by
  have c0 := k.mem.cell
  have HM := Lib.hid (k.mem.bag.min n.itm (TM.itm_mem hn) (by
    intro y hy
    obtain ⟨m, hm, rfl⟩ := List.mem_map.1 hy
    exact hmin m hm))
  clear k hmin
  go_enter Try.func9, Try.ntmps9
  go_wp2_with fail
  refine HM.out.mono ?_
  rintro e w' ⟨rfl, ht⟩
  have q1 : n.itm.due = n.t.due := rfl
  rw [q1]
  clear q1
  go_wp2_with fail
  go_ret3
  exact ⟨rfl, ht⟩
def Exp (w : World) (t h : Nat) (fh : List Nat) (N : List Nd) (last : Int) (n : Nd) (e : Ending) (w' : World) : Prop :=
  e = .returned (.tuple #[.int .i64 n.t.id, n.x, .bool true]) ∧ ∃ l, Sub (sh N) n.t.id l ∧ TNext w t h (TFoot t fh N) ((ab N).filter fun a => decide (a.1.id ∉ l)) last w'
theorem TNext.pre {w0 w w' : World} {t h : Nat} {f : List Nat} {A : List (Tm × Value)} {last : Int} (h0 : Touch [] w0 w) (k : TNext w t h f A last w') : TNext w0 t h f A last w' := by
  obtain ⟨f', h1, h2, h3⟩ := k
  exact ⟨f', h1, fun y hy => by
    rcases h2 y hy with e | e
    · exact .inl e
    · exact .inr (Nat.le_trans h0.size e), (h0.mono (by simp)).trans h3 (fun y hy => .inl hy)⟩
theorem TNext.post {w w' w2 : World} {t h : Nat} {f : List Nat} {A : List (Tm × Value)} {last : Int} (k : TNext w t h f A last w') (h0 : Touch [] w' w2) : TNext w t h f A last w2 := by
  obtain ⟨f', h1, h2, h3⟩ := k
  exact ⟨f', h1.touch h0 (by simp), h2, h3.trans h0 (by simp)⟩
set_option maxRecDepth 100000 in
set_option maxHeartbeats 1000000 in
theorem expire_due (k : TM w t h fh N last) (now : Int) (n : Nd) (hn : n ∈ N) (hmin : ∀ m ∈ N, le n.itm.key m.itm.key) (hl : n.t.due ≤ now) :
    Calls Try.prog 9 #[.pointer (some ⟨t, 0, none⟩), .int .u64 now] w fun e w' => Exp w t h fh N last n e w' := by
  have c0 := k.mem.cell
  have HM := Lib.hid (k.mem.bag.min n.itm (TM.itm_mem hn) (by
    intro y hy
    obtain ⟨m, hm, rfl⟩ := List.mem_map.1 hy
    exact hmin m hm))
  have HK := Lib.hid k
  have HN := Lib.hid hn
  have hl2 : ¬ now < n.t.due := by omega
  clear k hmin hn hl
  go_enter Try.func9, Try.ntmps9
  go_wp2_with fail
  refine HM.out.mono ?_
  rintro e w1 ⟨rfl, ht⟩
  have HT := Lib.hid ht
  have HK1 := Lib.hid (HK.out.touch ht (by simp))
  have q1 : n.itm.due = n.t.due := rfl
  have q2 : n.itm.id = n.t.id := rfl
  have q3 : n.itm.x = .pointer (some ⟨n.b, 0, none⟩) := rfl
  rw [q1, q2, q3]
  clear q1 q2 q3 HM c0 ht
  go_wp2_with fail
  refine (cancel_any HK1.out n HN.out).mono ?_
  rintro e w2 ⟨l, fh', N2, pf, rfl, hs, m, e2, hf, ht2, hp⟩
  have hb : n.b ∉ fh ++ pf := by
    intro hy
    rcases List.mem_append.1 hy with hy | hy
    · exact HK.out.mem.nf n HN.out n.b (by simp [Nd.foot]) hy
    · obtain ⟨p, hp1, hp2, hp3⟩ := hp _ hy
      have hne : n.t.id ≠ p.t.id := by
        have := HK.out.tree.up n.t (sh_mem HN.out)
        omega
      exact HK.out.mem.apart HK.out.ids HN.out hp1 hne n.b (by simp [Nd.foot]) hp3
  have x0 := ht2.cell ((HK1.out.mem.nd n HN.out).cells).2.2.1 hb
  have HC := Lib.hid (show ∃ l, Sub (sh N) n.t.id l ∧ TNext w1 t h (TFoot t fh N) ((ab N).filter fun a => decide (a.1.id ∉ l)) last w2 from by
    obtain ⟨l', e', h1, h2⟩ := Canc.next (e := .returned (.int .i64 (l.length : Nat))) ⟨l, fh', N2, pf, rfl, hs, m, e2, hf, ht2, hp⟩
    exact ⟨l', h1, h2⟩)
  clear hs m e2 hf ht2 hp hb
  go_wp2_with fail
  go_quiet (fail)
  go_wp2_with fail
  go_ret3
  obtain ⟨l', h1, h2⟩ := HC.out
  exact ⟨rfl, l', h1, (h2.pre HT.out).post ((Touch.refl [] w2).drews nq)⟩
end
section
variable {w : World} {t h : Nat} {f : List Nat} {A : List (Tm × Value)} {last : Int}
def tkey (a : Tm) : Key := ⟨a.id, a.due⟩
theorem TS.expire_empty (k : TS w t h f [] last) (now : Int) :
    Calls Try.prog 9 #[.pointer (some ⟨t, 0, none⟩), .int .u64 now] w fun e w' => e = .returned (.tuple #[.int .i64 0, .int .i64 0, .bool false]) ∧ Touch [] w w' := by
  obtain ⟨fh, N, hm, hA, rfl⟩ := k
  have : N = [] := by
    unfold ab at hA
    simpa using hA
  subst this
  exact I.expire_empty hm now
theorem TS.expire_late (k : TS w t h f A last) (now : Int) (a : Tm × Value) (ha : a ∈ A) (hmin : ∀ b ∈ A, le (tkey a.1) (tkey b.1)) (hl : now < a.1.due) :
    Calls Try.prog 9 #[.pointer (some ⟨t, 0, none⟩), .int .u64 now] w fun e w' => e = .returned (.tuple #[.int .i64 0, .int .i64 0, .bool false]) ∧ Touch [] w w' := by
  obtain ⟨fh, N, hm, rfl, rfl⟩ := k
  obtain ⟨n, hn, rfl⟩ := List.mem_map.1 ha
  exact I.expire_late hm now n hn (fun m hm => hmin (m.t, m.x) (List.mem_map.2 ⟨m, hm, rfl⟩)) hl
def ExpS (w : World) (t h : Nat) (f : List Nat) (A : List (Tm × Value)) (last : Int) (a : Tm × Value) (e : Ending) (w' : World) : Prop :=
  e = .returned (.tuple #[.int .i64 a.1.id, a.2, .bool true]) ∧ ∃ l, Sub (A.map Prod.fst) a.1.id l ∧ TNext w t h f (A.filter fun a => decide (a.1.id ∉ l)) last w'
theorem TS.expire (k : TS w t h f A last) (now : Int) (a : Tm × Value) (ha : a ∈ A) (hmin : ∀ b ∈ A, le (tkey a.1) (tkey b.1)) (hl : a.1.due ≤ now) :
    Calls Try.prog 9 #[.pointer (some ⟨t, 0, none⟩), .int .u64 now] w fun e w' => ExpS w t h f A last a e w' := by
  obtain ⟨fh, N, hm, rfl, rfl⟩ := k
  obtain ⟨n, hn, rfl⟩ := List.mem_map.1 ha
  refine (expire_due hm now n hn (fun m hm => hmin (m.t, m.x) (List.mem_map.2 ⟨m, hm, rfl⟩)) hl).mono ?_
  intro e w' hx
  unfold ExpS
  rw [ab_fst]
  exact hx
end
end Go.Proofs.Ytobkanlnnniabaa.I

/-
  Timers above a world: what each call leaves.
-/
namespace Go.Proofs.Ytobkanlnnniabaa.I
open Go.RowKit
set_option linter.unusedVariables false
set_option linter.unusedSimpArgs false

def Abv (w0 w : World) (t h : Nat) (A : List (Tm × Value)) (last : Int) : Prop := ∃ f, TS w t h f A last ∧ (∀ y ∈ f, w0.heap.size ≤ y) ∧ Touch [] w0 w
theorem Abv.next {w0 w w' : World} {t h : Nat} {f : List Nat} {A : List (Tm × Value)} {last : Int} (hf : ∀ y ∈ f, w0.heap.size ≤ y) (ht : Touch [] w0 w) (k : TNext w t h f A last w') : Abv w0 w' t h A last := by
  obtain ⟨f', h1, h2, h3⟩ := k
  exact ⟨f', h1, fun y hy => by
    rcases h2 y hy with e | e
    · exact hf y e
    · exact Nat.le_trans ht.size e, ht.trans h3 (fun y hy => .inr (hf y hy))⟩
section
variable {w0 w : World} {t h : Nat} {A : List (Tm × Value)} {last : Int}
theorem Abv.touch {w' : World} (k : Abv w0 w t h A last) (ht : Touch [] w w') : Abv w0 w' t h A last := by
  obtain ⟨f, h1, h2, h3⟩ := k
  exact ⟨f, h1.touch ht (by simp), h2, h3.trans ht (by simp)⟩
theorem Abv.tt (k : Abv w0 w t h A last) : Touch [] w0 w := by
  obtain ⟨f, h1, h2, h3⟩ := k
  exact h3
theorem Abv.tree (k : Abv w0 w t h A last) : Tree (A.map Prod.fst) last := by
  obtain ⟨f, h1, h2, h3⟩ := k
  exact h1.tree
theorem Abv.due (k : Abv w0 w t h A last) : ∀ s ∈ A.map Prod.fst, DueOk (A.map Prod.fst) s := by
  obtain ⟨f, h1, h2, h3⟩ := k
  exact h1.due
theorem Abv.new (w : World) : Calls Try.prog 7 #[] w fun e w' => ∃ t h, e = .returned (.pointer (some ⟨t, 0, none⟩)) ∧ Abv w w' t h [] 0 := by
  refine (tnew_any w).mono ?_
  rintro e w' ⟨t, h, f, rfl, h1, h2, h3⟩
  exact ⟨t, h, rfl, f, h1, h2, h3⟩
theorem Abv.start (k : Abv w0 w t h A last) (par due : Int) (x : Value) (hxo : x.oneCell' = true) (hR : 0 ≤ due ∧ due ≤ maxT) (hl : last < 1000) (hfew : A.length < 1000) (hp : par = 0 ∨ par ∈ tids (A.map Prod.fst)) :
    Calls Try.prog 8 #[.pointer (some ⟨t, 0, none⟩), .int .i64 par, .int .u64 due, x] w fun e w' => e = .returned (.tuple #[.int .i64 (last + 1), .bool true]) ∧ Abv w0 w' t h (A ++ [(⟨last + 1, par, due, min due (lim (A.map Prod.fst) par)⟩, x)]) (last + 1) := by
  obtain ⟨f, h1, h2, h3⟩ := k
  exact (h1.start par due x hxo hR hl hfew hp).mono fun e w' ⟨e1, e2⟩ => ⟨e1, Abv.next h2 h3 e2⟩
theorem Abv.start_no (k : Abv w0 w t h A last) (par due : Int) (x : Value) (hp : okK par) (h0 : par ≠ 0) (hn : par ∉ tids (A.map Prod.fst)) :
    Calls Try.prog 8 #[.pointer (some ⟨t, 0, none⟩), .int .i64 par, .int .u64 due, x] w fun e w' => e = .returned (.tuple #[.int .i64 0, .bool false]) ∧ Abv w0 w' t h A last := by
  obtain ⟨f, h1, h2, h3⟩ := k
  refine (h1.start_no par due x hp h0 hn).mono ?_
  rintro e w' ⟨rfl, rfl⟩
  exact ⟨rfl, f, h1, h2, h3⟩
theorem Abv.deadline (k : Abv w0 w t h A last) (s : Tm) (hs : s ∈ A.map Prod.fst) :
    Calls Try.prog 20 #[.pointer (some ⟨t, 0, none⟩), .int .i64 s.id] w fun e w' => e = .returned (.tuple #[.int .u64 s.due, .bool true]) ∧ Abv w0 w' t h A last := by
  have k' := k
  obtain ⟨f, h1, h2, h3⟩ := k
  exact (h1.deadline s hs).mono fun e w' ⟨e1, e2⟩ => ⟨e1, k'.touch e2⟩
theorem Abv.deadline_no (k : Abv w0 w t h A last) (i : Int) (hi : okK i) (hn : i ∉ tids (A.map Prod.fst)) :
    Calls Try.prog 20 #[.pointer (some ⟨t, 0, none⟩), .int .i64 i] w fun e w' => e = .returned (.tuple #[.int .u64 0, .bool false]) ∧ Abv w0 w' t h A last := by
  obtain ⟨f, h1, h2, h3⟩ := k
  refine (h1.deadline_no i hi hn).mono ?_
  rintro e w' ⟨rfl, rfl⟩
  exact ⟨rfl, f, h1, h2, h3⟩
theorem Abv.len (k : Abv w0 w t h A last) :
    Calls Try.prog 11 #[.pointer (some ⟨t, 0, none⟩)] w fun e w' => e = .returned (.int .i64 A.length) ∧ w' = w := by
  obtain ⟨f, h1, h2, h3⟩ := k
  exact h1.len
def Cut (w0 : World) (t h : Nat) (A : List (Tm × Value)) (last i : Int) (l : List Int) (w' : World) : Prop := Sub (A.map Prod.fst) i l ∧ Abv w0 w' t h (A.filter fun a => decide (a.1.id ∉ l)) last
theorem Abv.cancel (k : Abv w0 w t h A last) (i : Int) (hi : i ∈ tids (A.map Prod.fst)) :
    Calls Try.prog 18 #[.pointer (some ⟨t, 0, none⟩), .int .i64 i] w fun e w' => ∃ l : List Int, e = .returned (.int .i64 (l.length : Nat)) ∧ Cut w0 t h A last i l w' := by
  obtain ⟨f, h1, h2, h3⟩ := k
  refine (h1.cancel i hi).mono ?_
  rintro e w' ⟨l, rfl, hs, hn⟩
  exact ⟨l, rfl, hs, Abv.next h2 h3 hn⟩
theorem Abv.cancel_no (k : Abv w0 w t h A last) (i : Int) (hi : okK i) (hn : i ∉ tids (A.map Prod.fst)) :
    Calls Try.prog 18 #[.pointer (some ⟨t, 0, none⟩), .int .i64 i] w fun e w' => e = .returned (.int .i64 0) ∧ Abv w0 w' t h A last := by
  have k' := k
  obtain ⟨f, h1, h2, h3⟩ := k
  exact (h1.cancel_no i hi hn).mono fun e w' ⟨e1, e2⟩ => ⟨e1, k'.touch e2⟩
theorem Abv.expire_empty (k : Abv w0 w t h [] last) (now : Int) :
    Calls Try.prog 9 #[.pointer (some ⟨t, 0, none⟩), .int .u64 now] w fun e w' => e = .returned (.tuple #[.int .i64 0, .int .i64 0, .bool false]) ∧ Abv w0 w' t h [] last := by
  have k' := k
  obtain ⟨f, h1, h2, h3⟩ := k
  exact (h1.expire_empty now).mono fun e w' ⟨e1, e2⟩ => ⟨e1, k'.touch e2⟩
theorem Abv.expire_late (k : Abv w0 w t h A last) (now : Int) (a : Tm × Value) (ha : a ∈ A) (hmin : ∀ b ∈ A, le (tkey a.1) (tkey b.1)) (hl : now < a.1.due) :
    Calls Try.prog 9 #[.pointer (some ⟨t, 0, none⟩), .int .u64 now] w fun e w' => e = .returned (.tuple #[.int .i64 0, .int .i64 0, .bool false]) ∧ Abv w0 w' t h A last := by
  have k' := k
  obtain ⟨f, h1, h2, h3⟩ := k
  exact (h1.expire_late now a ha hmin hl).mono fun e w' ⟨e1, e2⟩ => ⟨e1, k'.touch e2⟩
theorem Abv.expire (k : Abv w0 w t h A last) (now : Int) (a : Tm × Value) (ha : a ∈ A) (hmin : ∀ b ∈ A, le (tkey a.1) (tkey b.1)) (hl : a.1.due ≤ now) :
    Calls Try.prog 9 #[.pointer (some ⟨t, 0, none⟩), .int .u64 now] w fun e w' => e = .returned (.tuple #[.int .i64 a.1.id, a.2, .bool true]) ∧ ∃ l, Cut w0 t h A last a.1.id l w' := by
  obtain ⟨f, h1, h2, h3⟩ := k
  refine (h1.expire now a ha hmin hl).mono ?_
  rintro e w' ⟨rfl, l, hs, hn⟩
  exact ⟨rfl, l, hs, Abv.next h2 h3 hn⟩
end
end Go.Proofs.Ytobkanlnnniabaa.I

/-
  A slice or a struct that came in, of elements whose type is flat but for its leaves (structs and arrays taken apart, whatever else is a leaf): every cell of it lies in memory and reads by its own leaf's type. Over any program; no condition of our own.
-/
namespace Go.Proofs.Ytobkanlnnniabaa
open Go.ChangeShapes Go.WideShapes Go.Deep
set_option linter.unusedVariables false
set_option linter.unusedSimpArgs false

def flatFs (P : Program) (f : TypeId → Option (List TypeId)) : List Field → Nat → Option (List TypeId)
  | [], _ => some []
  | x :: r, off => if x.offset = off then (f x.type).bind fun l => if l.length = P.cellsOf x.type then (flatFs P f r (off + l.length)).map (l ++ ·) else none else none

/-- The leaves of a type, cell by cell. -/
def flatT (P : Program) : Nat → TypeId → Option (List TypeId)
  | 0, _ => none
  | d + 1, t => match P.underlying t with
    | some (.struct fs) => (flatFs P (flatT P d) fs.toList 0).bind fun l => if l.length = P.cellsOf t then some l else none
    | some (.array n e) => (flatT P d e).bind fun l => if l.length = P.cellsOf e ∧ n * l.length = P.cellsOf t then some (List.replicate n l).flatten else none
    | _ => some [t]

section
variable {H : Type} {enc : TypeId × Value → H} {P : Program} {w : World} {base : Nat} {spare : Nat → Bool} {held : Bool}

/-- The value v reads by its own type t. -/
def Leaf (enc : TypeId × Value → H) (P : Program) (w : World) (base : Nat) (spare : Nat → Bool) (held : Bool) (t : TypeId) (v : Value) : Prop := ∃ m y, DataW.trod enc P w base spare held m t [v] = some y

theorem leaf_one {t : TypeId} {fuel : Nat} {cs : List Value} {x : DataW H × List MemPlace} (hs : ∀ fs, P.underlying t ≠ some (.struct fs)) (ha : ∀ n e, P.underlying t ≠ some (.array n e))
    (h : DataW.trod enc P w base spare held fuel t cs = some x) : ∃ v, cs = [v] := by
  cases fuel with
  | zero => simp [DataW.trod] at h
  | succ m =>
    unfold DataW.trod at h
    split at h <;> first
      | exact ⟨_, rfl⟩
      | (rename_i h1; exact absurd h1 (hs _))
      | (rename_i h1; exact absurd h1 (ha _ _))
      | simp at h

/-- What the reading of a value of type t says of its cells. -/
def CellsOk (enc : TypeId × Value → H) (P : Program) (w : World) (base : Nat) (spare : Nat → Bool) (held : Bool) (ts : List TypeId) (cs : List Value) : Prop :=
  cs.length = ts.length ∧ ∀ (i : Nat) (t : TypeId), ts[i]? = some t → ∃ v, cs[i]? = some v ∧ Leaf enc P w base spare held t v

theorem flatFs_ok {f : TypeId → Option (List TypeId)} {cs : List Value} (hrec : ∀ t cs x m ts, f t = some ts → DataW.trod enc P w base spare held m t cs = some x → CellsOk enc P w base spare held ts cs) :
    ∀ (l : List Field) (off : Nat) (ts : List TypeId), flatFs P f l off = some ts →
      (∀ fd ∈ l, ∃ m x, DataW.trod enc P w base spare held m fd.type ((cs.drop fd.offset).take (P.cellsOf fd.type)) = some x) →
      ∀ (i : Nat) (t : TypeId), ts[i]? = some t → ∃ v, cs[off + i]? = some v ∧ Leaf enc P w base spare held t v := by
  intro l
  induction l with
  | nil => intro off ts h _ i t hi; simp [flatFs] at h; subst h; simp at hi
  | cons fd r ih =>
    intro off ts h hall i t hi
    simp only [flatFs] at h
    split at h
    · rename_i ho
      obtain ⟨l1, h1, h2⟩ := Option.bind_eq_some_iff.1 h
      split at h2
      · rename_i hl
        obtain ⟨l2, h3, rfl⟩ := Option.map_eq_some_iff.1 h2
        obtain ⟨m, x, hx⟩ := hall fd (List.mem_cons_self)
        obtain ⟨k1, k2⟩ := hrec _ _ _ _ _ h1 hx
        by_cases hlt : i < l1.length
        · rw [List.getElem?_append_left hlt] at hi
          obtain ⟨v, hv, hleaf⟩ := k2 i t hi
          refine ⟨v, ?_, hleaf⟩
          rw [List.getElem?_take] at hv
          split at hv
          · rw [List.getElem?_drop, ho] at hv
            exact hv
          · cases hv
        · rw [List.getElem?_append_right (by omega)] at hi
          obtain ⟨v, hv, hleaf⟩ := ih _ _ h3 (fun fd' hfd => hall fd' (List.mem_cons_of_mem _ hfd)) _ _ hi
          exact ⟨v, by rw [← hv]; congr 1; omega, hleaf⟩
      · cases h2
    · cases h

theorem getElem?_flatten_replicate {α : Type} (l : List α) (n i : Nat) : (List.replicate n l).flatten[i]? = if i < n * l.length then l[i % l.length]? else none := by
  induction n generalizing i with
  | zero => simp
  | succ n ih =>
    rw [List.replicate_succ, List.flatten_cons]
    by_cases h : i < l.length
    · rw [List.getElem?_append_left h, Nat.mod_eq_of_lt h, if_pos]
      rw [Nat.succ_mul]; omega
    · rw [List.getElem?_append_right (by omega), ih]
      have e : (i - l.length) % l.length = i % l.length := by
        rw [← Nat.mod_eq_sub_mod (by omega)]
      rw [e]
      by_cases h2 : i - l.length < n * l.length
      · rw [if_pos h2, if_pos (by rw [Nat.succ_mul]; omega)]
      · rw [if_neg h2, if_neg (by rw [Nat.succ_mul]; omega)]

theorem flat_ok : ∀ (d : Nat) (t : TypeId) (cs : List Value) (x : DataW H × List MemPlace) (m : Nat) (ts : List TypeId), flatT P d t = some ts →
    DataW.trod enc P w base spare held m t cs = some x → CellsOk enc P w base spare held ts cs := by
  intro d
  induction d with
  | zero => intro t cs x m ts h; simp [flatT] at h
  | succ d ih =>
    intro t cs x m ts h hx
    simp only [flatT] at h
    split at h
    · rename_i fs hfs
      obtain ⟨l, h1, h2⟩ := Option.bind_eq_some_iff.1 h
      split at h2
      · rename_i hl
        obtain rfl := Option.some.inj h2
        obtain ⟨xs, k, _, _, hcl, hxl, hf⟩ := DataW.trod_struct hfs hx
        refine ⟨by rw [hcl, hl], ?_⟩
        have := flatFs_ok (cs := cs) ih fs.toList 0 l h1 (fun fd hfd => by
          obtain ⟨i, hi, rfl⟩ := List.getElem_of_mem hfd
          have h3 := hf i (fs.toList[i]) (by simp)
          rw [List.getElem?_eq_getElem (by rw [hxl]; simpa using hi)] at h3
          exact ⟨_, _, h3⟩)
        intro i t hi
        have := this i t hi
        simpa using this
      · cases h2
    · rename_i n e hne
      obtain ⟨l, h1, h2⟩ := Option.bind_eq_some_iff.1 h
      split at h2
      · rename_i hl
        obtain rfl := Option.some.inj h2
        obtain ⟨xs, k, _, _, hcl, hxl, hf⟩ := DataW.trod_array hne hx
        refine ⟨by rw [hcl, ← hl.2]; simp, ?_⟩
        intro i t hi
        rw [getElem?_flatten_replicate] at hi
        split at hi
        · rename_i hlt
          have hpos : 0 < l.length := by
            rcases Nat.eq_zero_or_pos l.length with h0 | h0
            · rw [h0] at hlt; omega
            · exact h0
          have hq : i / l.length < n := (Nat.div_lt_iff_lt_mul hpos).2 hlt
          have h3 := hf (i / l.length) hq
          rw [List.getElem?_eq_getElem (by rw [hxl]; exact hq)] at h3
          obtain ⟨_, k2⟩ := ih _ _ _ _ _ h1 h3
          obtain ⟨v, hv, hleaf⟩ := k2 _ _ hi
          refine ⟨v, ?_, hleaf⟩
          rw [List.getElem?_take] at hv
          split at hv
          · rw [List.getElem?_drop, ← hl.1] at hv
            rw [← hv]
            congr 1
            rw [Nat.mul_comm]
            exact (Nat.div_add_mod i l.length).symm
          · cases hv
        · cases hi
      · cases h2
    · rename_i hns hna
      obtain rfl := Option.some.inj h
      obtain ⟨v, rfl⟩ := leaf_one (fun fs hfs => hns fs hfs) (fun n e he => hna n e he) hx
      refine ⟨rfl, ?_⟩
      intro i t' hi
      match i, hi with
      | 0, hi => simp at hi; subst hi; exact ⟨v, rfl, m, x, hx⟩

theorem Leaf.int {t : TypeId} {k : IntKind} {v : Value} (ht : P.underlying t = some (.int k)) (h : Leaf enc P w base spare held t v) : ∃ n, v = .int k n ∧ (Lit.int k n).wf = true := by
  obtain ⟨m, y, h⟩ := h
  obtain ⟨n, h1, _, h2⟩ := DataW.trod_int ht h
  exact ⟨n, by simpa using h1, h2⟩
theorem Leaf.bool {t : TypeId} {v : Value} (ht : P.underlying t = some .bool) (h : Leaf enc P w base spare held t v) : ∃ b, v = .bool b := by
  obtain ⟨m, y, h⟩ := h
  obtain ⟨n, h1, _⟩ := DataW.trod_bool ht h
  exact ⟨n, by simpa using h1⟩
theorem Leaf.string {t : TypeId} {v : Value} (ht : P.underlying t = some .string) (h : Leaf enc P w base spare held t v) : ∃ s : ByteArray, v = .string s ∧ s.size ≤ maxLen := by
  obtain ⟨m, y, h⟩ := h
  obtain ⟨s, h1, _, h2⟩ := DataW.trod_string ht h
  exact ⟨s, by simpa using h1, h2⟩

/-- A slice that came in: nil; or 'cap' elements lie at ⟨b, off⟩, each of as many cells as its type has leaves. -/
def IsSlice (enc : TypeId × Value → H) (P : Program) (w : World) (base : Nat) (spare : Nat → Bool) (held : Bool) (ts : List TypeId) (v : Value) : Prop :=
  v = .slice none 0 0 ∨ ∃ (a : Addr) (len cap : Nat), v = .slice (some a) len cap ∧ len ≤ cap ∧ cap ≤ maxLen ∧
    ∀ i j t, i < len → ts[j]? = some t → ∃ u, w.cell? (a.add (i * ts.length + j)) = some u ∧ Leaf enc P w base spare held t u

theorem slice_ok {t e : TypeId} {fuel d : Nat} {v : Value} {x : DataW H × List MemPlace} {ts : List TypeId} (ht : P.underlying t = some (.slice e)) (hts : flatT P d e = some ts) (hn : ts.length = P.cellsOf e)
    (h : DataW.trod enc P w base spare held fuel t [v] = some x) : IsSlice enc P w base spare held ts v := by
  rcases open_slice ht h with ⟨h0, _⟩ | ⟨a, len, cap, m, n, D, Pl, h0, hb, hl, hm, hmm, _, hx⟩
  · exact .inl (by simpa using h0)
  · refine .inr ⟨a, len, cap, by simpa using h0, hl, hm, fun i j t' hi hj => ?_⟩
    obtain ⟨cs', h1, h2⟩ := hx i (by rw [hmm]; split <;> omega)
    obtain ⟨k1, k2⟩ := flat_ok d e cs' _ n ts hts h2
    obtain ⟨u, hu, hleaf⟩ := k2 j t' hj
    obtain ⟨_, hlen, hcell⟩ := World.cells?_some h1
    refine ⟨u, ?_, hleaf⟩
    have hjlt : j < ts.length := (List.getElem?_eq_some_iff.1 hj).1
    have := hcell j (by omega)
    rw [add_add, ← hn] at this
    rw [this, hu]

/-- .. with the address taken apart, where it has an element. -/
theorem IsSlice.at {ts : List TypeId} {v : Value} (h : IsSlice enc P w base spare held ts v) (hpos : 0 < ts.length) :
    ∃ (a : Option Addr) (len cap : Nat), v = .slice a len cap ∧ len ≤ cap ∧ cap ≤ maxLen ∧
      (len = 0 ∨ ∃ b off, a = some ⟨b, off, none⟩ ∧ ∀ i j t, i < len → ts[j]? = some t → ∃ u, w.cell? ⟨b, off + (i * ts.length + j), none⟩ = some u ∧ Leaf enc P w base spare held t u) := by
  rcases h with rfl | ⟨a, len, cap, rfl, hl, hm, hc⟩
  · exact ⟨none, 0, 0, rfl, Nat.le_refl _, by simp [maxLen], .inl rfl⟩
  · refine ⟨some a, len, cap, rfl, hl, hm, ?_⟩
    by_cases h0 : len = 0
    · exact .inl h0
    · right
      obtain ⟨b, off, spot⟩ := a
      obtain ⟨u, hu, _⟩ := hc 0 0 (ts[0]) (by omega) (by simp)
      have hs : spot = none := by simpa [Addr.add] using World.cell?_spot hu
      subst hs
      refine ⟨b, off, rfl, fun i j t hi hj => ?_⟩
      obtain ⟨u, hu, hleaf⟩ := hc i j t hi hj
      exact ⟨u, by rw [Addr.add_lit] at hu; exact hu, hleaf⟩

theorem okWide_struct {r : Reach} {t : TypeId} {fs : Array Field} {v : Value} (ht : P.underlying t = some (.struct fs)) (h : Value.okWide P w r base t v) : ∃ cs, v = .agg cs := by
  simp only [Value.okWide, ht] at h
  obtain ⟨cs, hv, _⟩ := h
  exact ⟨cs, hv⟩
theorem okWide_array {r : Reach} {t n e : Nat} {v : Value} (ht : P.underlying t = some (.array n e)) (h : Value.okWide P w r base t v) : ∃ cs, v = .agg cs := by
  simp only [Value.okWide, ht] at h
  obtain ⟨cs, hv, _⟩ := h
  exact ⟨cs, hv⟩

/-- A struct or an array by value. -/
theorem agg_ok {t : TypeId} {fuel d : Nat} {cs : Array Value} {x : DataW H × List MemPlace} {ts : List TypeId} (hts : flatT P d t = some ts)
    (h : DataW.trod enc P w base spare held fuel t cs.toList = some x) : CellsOk enc P w base spare held ts cs.toList := flat_ok d t _ _ _ _ hts h
end
end Go.Proofs.Ytobkanlnnniabaa

/-
  A slice that came in, told as a list of its elements' cells. Plain lemmas over any program.
-/
namespace Go.Proofs.Ytobkanlnnniabaa
open Go.ChangeShapes Go.WideShapes Go.Deep
set_option linter.unusedVariables false
set_option linter.unusedSimpArgs false

theorem slice_rows {H : Type} {enc : TypeId × Value → H} {P : Program} {w : World} {base : Nat} {spare : Nat → Bool} {held : Bool} {ts : List TypeId} {v : Value} (hpos : 0 < ts.length) (hv : IsSlice enc P w base spare held ts v) :
    ∃ b xs, Rd w ts.length b v xs ∧ ∀ x ∈ xs, CellsOk enc P w base spare held ts x := by
  rcases hv with rfl | ⟨a, len, cap, rfl, hl, hm, hc⟩
  · exact ⟨0, [], ⟨none, 0, rfl, Nat.le_refl _, by simp [maxLen], fun _ => rfl, fun h => absurd rfl h⟩, by simp⟩
  · obtain ⟨b, off, spot⟩ := a
    let el : Nat → List Value := fun i => (List.range ts.length).map fun j => (w.cell? ((⟨b, off, spot⟩ : Addr).add (i * ts.length + j))).getD undef
    have hel : ∀ i j, j < ts.length → (el i)[j]? = some ((w.cell? ((⟨b, off, spot⟩ : Addr).add (i * ts.length + j))).getD undef) := by
      intro i j hj
      simp [el, hj]
    refine ⟨b, (List.range len).map el, ⟨some ⟨b, off, spot⟩, cap, by simp, by simpa using hl, hm, (by intro h; cases h), fun hne => ?_⟩, ?_⟩
    · have h0 : 0 < len := by
        rcases Nat.eq_zero_or_pos len with h | h
        · subst h; simp at hne
        · exact h
      obtain ⟨u, hu, _⟩ := hc 0 0 (ts[0]) h0 (by simp)
      have hs : spot = none := by simpa [Addr.add] using World.cell?_spot hu
      subst hs
      refine ⟨off, rfl, fun i x hx => ?_⟩
      intro j u hj
      have hi : i < len := by
        have := (List.getElem?_eq_some_iff.1 hx).1
        simpa using this
      obtain rfl : el i = x := by simpa [hi] using hx
      have hjl : j < ts.length := by
        have := (List.getElem?_eq_some_iff.1 hj).1
        simpa [el] using this
      rw [hel i j hjl] at hj
      obtain ⟨u', hu', _⟩ := hc i j (ts[j]) hi (by simp [hjl])
      rw [hu'] at hj
      simp at hj
      subst hj
      rw [Addr.add_lit] at hu'
      rw [Nat.add_assoc]
      exact hu'
    · intro x hx
      obtain ⟨i, hi, rfl⟩ := List.mem_map.1 hx
      have hi' : i < len := by simpa using hi
      refine ⟨by simp [el], fun j t ht => ?_⟩
      obtain ⟨u, hu, hleaf⟩ := hc i j t hi' ht
      have hjl : j < ts.length := (List.getElem?_eq_some_iff.1 ht).1
      exact ⟨u, by rw [hel i j hjl, hu]; rfl, hleaf⟩
end Go.Proofs.Ytobkanlnnniabaa

/-
  A slice of due times that came in.
-/
namespace Go.Proofs.Ytobkanlnnniabaa
open Go.ChangeShapes Go.WideShapes Go.RowKit
set_option linter.unusedVariables false
set_option linter.unusedSimpArgs false

/-- The cells of a uint64. -/
def encU (x : Int) : List Value := [.int .u64 x]
def U64 (x : Int) : Prop := (Lit.int .u64 x).wf = true
theorem u64_rows {H : Type} {enc : TypeId × Value → H} {w : World} {base : Nat} {spare : Nat → Bool} {held : Bool} {v : Value} (hv : IsSlice enc Try.prog w base spare held [23] v) : ∃ (b : Nat) (l : List Int), Rd w 1 b v (l.map encU) ∧ ∀ x ∈ l, U64 x := by
  obtain ⟨b, xs, hr, hx⟩ := slice_rows (by simp) hv
  have h : ∃ l : List Int, xs = l.map encU ∧ ∀ x ∈ l, U64 x := by
    clear hr
    induction xs with
    | nil => exact ⟨[], rfl, by simp⟩
    | cons x xs ih =>
      obtain ⟨l, rfl, hl⟩ := ih (fun y hy => hx y (List.mem_cons_of_mem _ hy))
      obtain ⟨hlen, hc⟩ := hx x List.mem_cons_self
      obtain ⟨v0, e0, l0⟩ := hc 0 23 rfl
      obtain ⟨a, rfl, wa⟩ := l0.int Try.underlying23
      refine ⟨a :: l, ?_, ?_⟩
      · match x, hlen with
        | [y], _ => simp at e0; rw [e0]; rfl
      · intro y hy
        rcases List.mem_cons.1 hy with rfl | hy
        · exact wa
        · exact hl y hy
  obtain ⟨l, rfl, hl⟩ := h
  exact ⟨b, l, hr, hl⟩
theorem rd_u64 {w : World} {b n cap : Nat} {a : Option Addr} {l : List Int} (h : Rd w 1 b (.slice a n cap) (l.map encU)) {i : Nat} {x : Int} (hi : l[i]? = some x) :
    ∃ off, a = some ⟨b, off, none⟩ ∧ w.cell? ⟨b, off + i, none⟩ = some (.int .u64 x) := by
  obtain ⟨off, ha, hat⟩ := h.at (by intro e; simp at e; subst e; simp at hi)
  have := hat i (encU x) (by simp [hi])
  have h0 := this 0 _ rfl
  rw [Nat.mul_one] at h0
  exact ⟨off, ha, h0⟩
theorem u64_lo {x : Int} (h : U64 x) : 0 ≤ x := by
  unfold U64 at h
  simp [Lit.wf] at h
  have : IntKind.u64.min = 0 := rfl
  omega
end Go.Proofs.Ytobkanlnnniabaa

/-
  The walk of TimerExpiryOrder: true at every slice of due times and every time. No condition.
-/
namespace Go.Proofs.Ytobkanlnnniabaa
open Go.ChangeShapes Go.WideShapes Go.RowKit
set_option linter.unusedVariables false
set_option linter.unusedSimpArgs false

/-- The first i root timers. -/
def rts (l : List Int) (i : Nat) : List (Tm × Value) := (List.range i).map fun (j : Nat) => (⟨(j : Int) + 1, 0, l.getD j 0, l.getD j 0⟩, .int .i64 j)
theorem u64_max {x : Int} (h : U64 x) : 0 ≤ x ∧ x ≤ maxT := by
  refine ⟨u64_lo h, ?_⟩
  unfold U64 at h
  simp [Lit.wf] at h
  have : IntKind.u64.max = 18446744073709551615 := rfl
  unfold maxT
  omega
theorem rts_len (l : List Int) (i : Nat) : (rts l i).length = i := by simp [rts]
theorem rts_lim (l : List Int) (i : Nat) : lim ((rts l i).map Prod.fst) 0 = maxT := by
  refine lim_no ?_
  intro e
  simp [tids, rts] at e
  obtain ⟨j, _, e⟩ := e
  omega
theorem rts_step (l : List Int) (i : Nat) (x : Int) (hx : l[i]? = some x) (hm : x ≤ maxT) : rts l i ++ [(⟨(i : Int) + 1, 0, x, min x (lim ((rts l i).map Prod.fst) 0)⟩, .int .i64 i)] = rts l (i + 1) := by
  rw [rts_lim, Int.min_eq_left hm]
  simp [rts, List.range_succ, List.getD_eq_getElem?_getD, hx]
theorem rts_form {l : List Int} {n : Nat} {y : Tm × Value} (hn : n ≤ l.length) (hy : y ∈ rts l n) : ∃ (j : Nat) (d : Int), j < n ∧ l[j]? = some d ∧ y = (⟨(j : Int) + 1, 0, d, d⟩, .int .i64 j) := by
  obtain ⟨j, hj, rfl⟩ := List.mem_map.1 hy
  have hjn := List.mem_range.1 hj
  have : l[j]? = some l[j] := List.getElem?_eq_getElem (by omega)
  exact ⟨j, l[j], hjn, this, by simp [List.getD_eq_getElem?_getD, this]⟩
/-- How many are due. -/
def cnt (now : Int) (A : List (Tm × Value)) : Nat := (A.filter fun a => decide (a.1.due ≤ now)).length
theorem cnt_snoc (now : Int) (A : List (Tm × Value)) (a : Tm × Value) : cnt now (A ++ [a]) = if a.1.due ≤ now then cnt now A + 1 else cnt now A := by
  unfold cnt
  rw [List.filter_append]
  split <;> simp_all
theorem cnt_le (now : Int) (A : List (Tm × Value)) : cnt now A ≤ A.length := List.length_filter_le _ _
theorem min_at : ∀ (A : List (Tm × Value)), A ≠ [] → ∃ a ∈ A, ∀ b ∈ A, le ⟨a.1.id, a.1.due⟩ ⟨b.1.id, b.1.due⟩
  | [], h => absurd rfl h
  | [a], _ => ⟨a, by simp, by intro b hb; simp at hb; subst hb; exact le_refl _⟩
  | a :: c :: A, _ => by
    obtain ⟨m, hm, hmin⟩ := min_at (c :: A) (by simp)
    rcases le_total ⟨a.1.id, a.1.due⟩ ⟨m.1.id, m.1.due⟩ with h | h
    · refine ⟨a, by simp, ?_⟩
      intro b hb
      rcases List.mem_cons.1 hb with rfl | hb
      · exact le_refl _
      · exact le_trans h (hmin b hb)
    · refine ⟨m, List.mem_cons_of_mem _ hm, ?_⟩
      intro b hb
      rcases List.mem_cons.1 hb with rfl | hb
      · exact lt_le h
      · exact hmin b hb
/-- A subtree of root timers is one timer. -/
theorem sub_root {N : List Tm} {last id : Int} {l : List Int} (ht : Tree N last) (hp : ∀ n ∈ N, n.par = 0) (h : Sub N id l) : l = [id] := by
  have h1 := h.eq
  have h2 : (l.take l.length).flatMap (kids N) = [] := by
    rw [List.flatMap_eq_nil_iff]
    intro p hp2
    rw [List.take_length] at hp2
    have hpm := h.mem p hp2
    obtain ⟨s, hs, rfl⟩ := List.mem_map.1 hpm
    have := ht.top s hs
    unfold kids
    rw [List.filter_eq_nil_iff.2]
    · rfl
    · intro n hn
      rw [hp n hn]
      simp
      omega
  rw [h2] at h1
  exact h1
/-- What is left after i expiries. -/
structure Lf (l : List Int) (n : Nat) (now : Int) (D i : Nat) (R : List (Tm × Value)) (was elder : Int) : Prop where
  sub : ∀ b ∈ R, b ∈ rts l n
  len : R.length + i = n
  num : cnt now R + i = D
  low : ∀ b ∈ R, le ⟨elder, was⟩ ⟨b.1.id, b.1.due⟩
theorem Lf.start (l : List Int) (n : Nat) (now : Int) (hl : ∀ x ∈ l, U64 x) (hn : n ≤ l.length) : Lf l n now (cnt now (rts l n)) 0 (rts l n) 0 0 := by
  refine ⟨fun _ h => h, by simp [rts_len], rfl, ?_⟩
  intro b hb
  obtain ⟨j, d, _, hd, rfl⟩ := rts_form hn hb
  have := u64_lo (hl d (List.mem_of_getElem? hd))
  unfold le
  simp
  omega
theorem Lf.some {l : List Int} {n : Nat} {now : Int} {D i : Nat} {R : List (Tm × Value)} {was elder : Int} (k : Lf l n now D i R was elder) (hi : i < D) : ∃ a ∈ R, (∀ b ∈ R, le ⟨a.1.id, a.1.due⟩ ⟨b.1.id, b.1.due⟩) ∧ a.1.due ≤ now := by
  have hc := k.num
  have : (R.filter fun a => decide (a.1.due ≤ now)) ≠ [] := by
    intro e
    unfold cnt at hc
    rw [e] at hc
    simp at hc
    omega
  obtain ⟨c, hc⟩ := List.exists_mem_of_ne_nil _ this
  obtain ⟨hc1, hc2⟩ := List.mem_filter.1 hc
  obtain ⟨a, ha, hmin⟩ := min_at R (List.ne_nil_of_mem hc1)
  refine ⟨a, ha, hmin, ?_⟩
  have := hmin c hc1
  simp at hc2
  unfold le at this
  simp at this
  omega
theorem Lf.step {l : List Int} {n : Nat} {now : Int} {D i : Nat} {R : List (Tm × Value)} {was elder : Int} (k : Lf l n now D i R was elder) (hu : (R.map fun a => a.1.id).Nodup) {a : Tm × Value} (ha : a ∈ R) (hmin : ∀ b ∈ R, le ⟨a.1.id, a.1.due⟩ ⟨b.1.id, b.1.due⟩) (hd : a.1.due ≤ now) :
    Lf l n now D (i + 1) (R.filter fun b => decide (b.1.id ∉ [a.1.id])) a.1.due a.1.id := by
  have hf : ∀ (R : List (Tm × Value)), (R.map fun a => a.1.id).Nodup → a ∈ R → (R.filter fun b => decide (b.1.id ∉ [a.1.id])).length + 1 = R.length ∧ cnt now (R.filter fun b => decide (b.1.id ∉ [a.1.id])) + 1 = cnt now R := by
    intro R
    induction R with
    | nil =>
      intro _ h
      simp at h
    | cons c R ih =>
      intro hu ha
      simp only [List.map_cons, List.nodup_cons] at hu
      by_cases e : c.1.id = a.1.id
      · have hc : c = a := by
          rcases List.mem_cons.1 ha with h | h
          · exact h.symm
          · exact absurd (List.mem_map.2 ⟨a, h, e.symm⟩) hu.1
        subst hc
        have hr : (R.filter fun b => decide (b.1.id ∉ [c.1.id])) = R := by
          rw [List.filter_eq_self]
          intro b hb
          simp
          intro e2
          exact hu.1 (List.mem_map.2 ⟨b, hb, e2⟩)
        rw [List.filter_cons_of_neg (by simp), hr]
        refine ⟨rfl, ?_⟩
        unfold cnt
        rw [List.filter_cons_of_pos (by simpa using hd)]
        rfl
      · have ha2 : a ∈ R := by
          rcases List.mem_cons.1 ha with h | h
          · exact absurd (by rw [h]) e
          · exact h
        obtain ⟨h1, h2⟩ := ih hu.2 ha2
        rw [List.filter_cons_of_pos (by simpa using e)]
        refine ⟨by simp only [List.length_cons]; omega, ?_⟩
        unfold cnt at h2 ⊢
        by_cases hcn : c.1.due ≤ now
        · rw [List.filter_cons_of_pos (by simpa using hcn), List.filter_cons_of_pos (by simpa using hcn)]
          simp only [List.length_cons]
          omega
        · rw [List.filter_cons_of_neg (by simpa using hcn), List.filter_cons_of_neg (by simpa using hcn)]
          exact h2
  obtain ⟨h1, h2⟩ := hf R hu ha
  have q1 := k.len
  have q2 := k.num
  refine ⟨fun b hb => k.sub b (List.mem_filter.1 hb).1, by omega, by omega, fun b hb => hmin b (List.mem_filter.1 hb).1⟩
theorem Lf.none {l : List Int} {n : Nat} {now : Int} {D i : Nat} {R : List (Tm × Value)} {was elder : Int} (k : Lf l n now D i R was elder) (hi : i = D) : ∀ b ∈ R, now < b.1.due := by
  have hc := k.num
  intro b hb
  have : R.filter (fun a => decide (a.1.due ≤ now)) = [] := by
    have : (R.filter fun a => decide (a.1.due ≤ now)).length = 0 := by
      unfold cnt at hc
      omega
    exact List.eq_nil_of_length_eq_zero this
  have h := List.filter_eq_nil_iff.1 this b hb
  simp at h
  exact h
set_option maxRecDepth 100000 in
set_option maxHeartbeats 4000000 in
theorem walk3 (v : Value) (b : Nat) (l : List Int) (now : Int) (w : World) (hr : Rd w 1 b v (l.map encU)) (hl : ∀ x ∈ l, U64 x) :
    Calls Try.prog 3 #[v, .int .u64 now] w fun e w' => e = .returned (.bool true) ∧ Touch [] w w' := by
  obtain ⟨a, cap, rfl, hc, hm⟩ := hr.form
  rw [List.length_map] at hc hr ⊢
  obtain ⟨n, hn⟩ : ∃ n, n = min l.length 60 := ⟨_, rfl⟩
  have hn60 : n ≤ 60 := by omega
  have hnl : n ≤ l.length := by omega
  go_enter Try.func3, Try.ntmps3
  go_wp2_with fail
  refine (I.Abv.new w).mono ?_
  rintro e w1 ⟨t, h, rfl, k1⟩
  have H1 := Lib.hid k1
  clear k1
  go_wp2_with fail
  have hnI : min (l.length : Int) 60 = (n : Int) := by omega
  simp only [hnI]
  have HN := Lib.hid hn
  clear hn hnI
  go_loopw [7, 8] (fun vd vi wr => ∃ (i : Nat), vi = .int .i64 i ∧ i ≤ n ∧ vd = .int .i64 (cnt now (rts l i) : Nat) ∧ I.Abv w wr t h (rts l i) i) (fun _ vi _ => n - (intOf vi).toNat)
  case atStart => exact ⟨0, rfl, by omega, rfl, H1.out⟩
  case round =>
    obtain ⟨i, rfl, hin, rfl, hh⟩ := hrel
    have HH := Lib.hid hh
    clear hh
    have hcl := cnt_le now (rts l i)
    rw [rts_len] at hcl
    by_cases hlt : i < n
    · have hx : l[i]? = some l[i] := List.getElem?_eq_getElem (by omega)
      have hu := hl l[i] (List.getElem_mem _)
      generalize l[i] = x at hx hu
      have hpl := rts_step l i x hx (u64_max hu).2
      have hcs := cnt_snoc now (rts l i) (⟨(i : Int) + 1, 0, x, min x (lim ((rts l i).map Prod.fst) 0)⟩, .int .i64 i)
      rw [hpl, rts_lim, Int.min_eq_left (u64_max hu).2] at hcs
      have HPL := Lib.hid hpl
      have HCS := Lib.hid hcs
      obtain ⟨off, rfl, p1⟩ := rd_u64 (hr.touch HH.out.tt (by simp)) hx
      have HX := Lib.hid hx
      have HU := Lib.hid hu
      have hwi : IntKind.i64.wrap ((i : Int) + 1) = (i : Int) + 1 := by rw [IntKind.wrap_i64] <;> omega
      have hb1 : (i : Int) < (l.length : Int) := by omega
      have hb2 : (i : Int) < (n : Int) := by omega
      clear hx hpl hu hcs
      go_wp2_with fail
      refine (HH.out.start 0 x (.int .i64 i) rfl (u64_max HU.out) (by omega) (by rw [rts_len]; omega) (.inl rfl)).mono ?_
      rintro e w2 ⟨rfl, h2⟩
      rw [HPL.out] at h2
      have H2 := Lib.hid h2
      clear h2 p1
      obtain ⟨off', hoff, p1⟩ := rd_u64 (hr.touch H2.out.tt (by simp)) HX.out
      obtain rfl : off' = off := by simpa using hoff.symm
      clear hoff
      by_cases hd : x ≤ now
      · have HCE := Lib.hid (show cnt now (rts l (i + 1)) = cnt now (rts l i) + 1 by rw [HCS.out, if_pos hd])
        go_wp2_with fail
        go_roundw
        case rel => exact ⟨i + 1, by simp, by omega, by rw [HCE.out]; go_num, H2.out⟩
        case measure => simp [intOf]; omega
      · have HCE := Lib.hid (show cnt now (rts l (i + 1)) = cnt now (rts l i) by rw [HCS.out, if_neg hd])
        go_wp2_with fail
        go_roundw
        case rel => exact ⟨i + 1, by simp, by omega, by rw [HCE.out], H2.out⟩
        case measure => simp [intOf]; omega
    · have hie : i = n := by omega
      have hb2 : ¬ (i : Int) < (n : Int) := by omega
      subst hie
      have HL0 := Lib.hid (Lf.start l i now hl hnl)
      generalize hD : cnt now (rts l i) = D at *
      have HD := Lib.hid hD
      clear hD
      go_wp2_with fail
      go_loopw [9, 10, 11] (fun v9 v10 v11 wr => ∃ (r : Nat) (R : List (Tm × Value)) (was elder : Int), v11 = .int .i64 r ∧ r ≤ D ∧ v9 = .int .u64 was ∧ v10 = .int .i64 elder ∧ Lf l i now D r R was elder ∧ I.Abv w wr t h R i) (fun _ _ v11 _ => D - (intOf v11).toNat)
      case atStart => exact ⟨0, _, 0, 0, rfl, by omega, rfl, rfl, HL0.out, HH.out⟩
      case round =>
        obtain ⟨r, R, was, elder, rfl, hrD, rfl, rfl, hlf, hk⟩ := hrel
        have HLF := Lib.hid hlf
        have HK := Lib.hid hk
        clear hlf hk
        by_cases hlt2 : r < D
        · obtain ⟨q, hq, hmin, hdue⟩ := HLF.out.some hlt2
          obtain ⟨j, d, hji, hjd, rfl⟩ := rts_form hnl (HLF.out.sub q hq)
          have hlow := HLF.out.low _ hq
          simp only at hmin hdue hlow
          have hdup : (R.map fun a => a.1.id).Nodup := by
            have := HK.out.tree.nodup
            simpa [tids, Function.comp_def] using this
          have hroot : ∀ s ∈ R.map Prod.fst, s.par = 0 := by
            intro s hs
            obtain ⟨c, hc, rfl⟩ := List.mem_map.1 hs
            obtain ⟨_, _, _, _, rfl⟩ := rts_form hnl (HLF.out.sub c hc)
            rfl
          have HST := Lib.hid (HLF.out.step hdup hq hmin hdue)
          have HEX := Lib.hid (HK.out.expire now _ hq hmin hdue)
          have HROOT := Lib.hid hroot
          have hjl : j < l.length := by omega
          have hjb : (j : Int) < (l.length : Int) := by omega
          have hjn : ¬ (i : Int) ≤ (j : Int) := by omega
          have hj0 : ¬ (j : Int) < 0 := by omega
          have hdn : ¬ now < d := by omega
          have hdw : ¬ d < was := by unfold le at hlow; simp at hlow; omega
          have hwj : IntKind.i64.wrap ((j : Int) + 1 - 1) = (j : Int) := by rw [IntKind.wrap_i64] <;> omega
          have hwr : IntKind.i64.wrap ((r : Int) + 1) = (r : Int) + 1 := by rw [IntKind.wrap_i64] <;> omega
          have hrb : (r : Int) < (D : Int) := by omega
          have HJD := Lib.hid hjd
          have HLOW := Lib.hid hlow
          clear hq hmin hdue hjd hdup hroot hlow
          go_wp2_with fail
          refine HEX.out.mono ?_
          rintro e w2 ⟨rfl, lc, hs, h2⟩
          have hlc := sub_root HK.out.tree HROOT.out hs
          rw [hlc] at h2
          have H2 := Lib.hid h2
          clear h2 hlc hs
          obtain ⟨off, rfl, p1⟩ := rd_u64 (hr.touch H2.out.tt (by simp)) HJD.out
          by_cases hr0 : 0 < (r : Int)
          · by_cases hde : d = was
            · have hd3 : (d == was) = true := by simpa using hde
              have hd4 : ¬ (j : Int) + 1 < elder := by have := HLOW.out; unfold le at this; simp at this; omega
              have HDE := Lib.hid hde
              clear hde
              go_wp2_with fail
              go_roundw
              case rel => exact ⟨r + 1, _, _, _, by simp, by omega, rfl, rfl, HST.out, H2.out⟩
              case measure => simp [intOf]; omega
            · have hd3 : (d == was) = false := by simpa using hde
              go_wp2_with fail
              go_roundw
              case rel => exact ⟨r + 1, _, _, _, by simp, by omega, rfl, rfl, HST.out, H2.out⟩
              case measure => simp [intOf]; omega
          · go_wp2_with fail
            go_roundw
            case rel => exact ⟨r + 1, _, _, _, by simp, by omega, rfl, rfl, HST.out, H2.out⟩
            case measure => simp [intOf]; omega
        · have hre : r = D := by omega
          have HNO := Lib.hid (HLF.out.none hre)
          have hlen := HLF.out.len
          have hrb : ¬ (r : Int) < (D : Int) := by omega
          have hli : (R.length : Int) = (i : Int) - (D : Int) := by omega
          have HLI := Lib.hid hli
          have HEND := Lib.hid (show Calls Try.prog 9 #[.pointer (some ⟨t, 0, none⟩), .int .u64 now] wr fun e w' => e = .returned (.tuple #[.int .i64 0, .int .i64 0, .bool false]) ∧ I.Abv w w' t h R i from by
            by_cases hR : R = []
            · have hk := HK.out
              rw [hR] at hk ⊢
              exact hk.expire_empty now
            · obtain ⟨q, hq, hmin⟩ := min_at R hR
              exact HK.out.expire_late now q hq hmin (HNO.out q hq))
          have hws : IntKind.i64.wrap ((i : Int) - (D : Int)) = (i : Int) - (D : Int) := by rw [IntKind.wrap_i64] <;> omega
          clear hre hli hlen
          go_wp2_with fail
          refine HEND.out.mono ?_
          rintro e w2 ⟨rfl, h2⟩
          have H2 := Lib.hid h2
          clear h2
          go_wp2_with fail
          refine (awake_any _).mono ?_
          rintro e w4 ⟨rfl, t5⟩
          have H3 := Lib.hid (H2.out.touch t5)
          clear t5
          go_wp2_with fail
          refine H3.out.len.mono ?_
          rintro e w5 ⟨rfl, hw5⟩
          obtain rfl : w4 = w5 := hw5.symm
          rw [HLI.out]
          go_wp2_with fail
          go_ret
          exact ⟨by simp, H3.out.tt⟩
namespace timerExpiryOrder
theorem walk {H : Type} {enc : TypeId × Value → H} {w : World} (v : Value) (hv : IsSlice enc Try.prog w 0 (fun _ => true) true [23] v) (now : Int) (hn : (Lit.int .u64 now).wf = true) :
    Calls Try.prog 3 #[v, .int .u64 now] w fun e w' => e = .returned (.bool true) ∧ Below w.heap.size w w' := by
  obtain ⟨b, l, hr, hl⟩ := u64_rows hv
  exact (walk3 v b l now w hr hl).mono fun e w' ⟨h1, h2⟩ => ⟨h1, h2.below (by simp) (Nat.le_refl _)⟩
end timerExpiryOrder
end Go.Proofs.Ytobkanlnnniabaa

/-
  The statement 'TimerExpiryOrderSaid' of the seat: the frame of the row round the walk of the law's Go function (YtobkanlnnniabaaW3): for every input the call returns true and each argument reads as it did.
-/
namespace Go.Proofs.Ytobkanlnnniabaa.timerExpiryOrder
open Go.ChangeShapes Go.WideShapes Go.ChangeAt Go.RowKit
open Go.ChangeMaps (open_string shut_string)
set_option linter.unusedVariables false

theorem own : ownKnob Try.prog.godebug = none := by kernel_rfl
theorem laidOut : laidOutB Try.prog = true := by kernel_rfl

set_option maxRecDepth 100000 in
theorem lifted (os : Os) (started : os.Started) (H : Type) (enc : TypeId × Value → H) :
    ReturnsInHanded {} Try.checked os 3 .any (Rows.timerExpiryOrderSpec.pre6 enc Try.prog Try.f3 Rows.timerExpiryOrderRow.domain false) (Rows.timerExpiryOrderSpec.post enc Try.prog Try.f3 false true false false) := by
  refine returnsInHanded_of_change (C := Try.checked) own started (by kernel_rfl) Try.func3
    (ChangeSpec.witness6 (enc := enc) (C := Try.checked) false ⟨#[], #[.slice none 0 0, .int .u64 0], []⟩ 8 (by kernel_rfl) (by kernel_rfl) (by kernel_rfl) (by kernel_rfl)) ?_
  intro W base args ds gs before hval0 hW hcnd _
  have hval : ∀ (j : Nat) t v, Try.f3.params[j]? = some t → args[j]? = some v → Value.okWide Try.prog W .any base t v := hval0
  have hW' := hW
  obtain ⟨p, q, hA0, hV, rfl, hfz, hnd⟩ := hW
  have hA : DataW.TrodAll enc Try.prog W 0 (fun _ => true) true Try.f3.params.toList args.toList ds p := hA0
  rw [Try.params3] at hA hval
  obtain ⟨v0, vs0, d0, ds0, p0, q0, hargs, rfl, rfl, h0, r0⟩ := trodAll_cons hA
  obtain ⟨v1, vs1, d1, ds1, p1, q1, rfl, rfl, rfl, h1, r1⟩ := trodAll_cons r0
  obtain ⟨rfl, rfl, rfl⟩ := trodAll_nil r1
  obtain rfl : args = #[v0, v1] := by cases args; simp_all
  obtain ⟨rfl, rfl⟩ := trodVars_none hV
  have k0 := h0
  have lt0 : ∀ x ∈ p0, x.block < W.heap.size := by obtain ⟨m, hm⟩ := k0; exact DataW.trod_lt m _ _ _ hm
  have k1 := h1
  have lt1 : ∀ x ∈ p1, x.block < W.heap.size := by obtain ⟨m, hm⟩ := k1; exact DataW.trod_lt m _ _ _ hm
  obtain ⟨b0, len0, cap0, hv0⟩ := okWide_slice Try.underlying22 (hval 0 22 v0 rfl rfl)
  have s0 : IsSlice enc Try.prog W 0 (fun _ => true) true [23] v0 := by
    obtain ⟨fuel, hf⟩ := h0
    rw [hv0] at hf ⊢
    exact slice_ok (d := 8) Try.underlying22 (by kernel_rfl) (by kernel_rfl) (by simpa [Value.cells] using hf)
  obtain ⟨a1, rfl, e1, ee1, w1⟩ := open_int Try.underlying23 (hval 1 23 v1 rfl rfl) h1
  clear hA0 hval0
  refine (walk (H := H) (enc := enc) (w := W) v0 s0 a1 w1).mono fun e W' ⟨he, bel⟩ => ?_
  subst he
  exact ⟨_, rfl, _, _, _, [], _, [], hW', trodAll_mk1 (shut_bool Try.underlying4 _), (trodAll_cons_mk (Below.trod laidOut (by kernel_rfl) (of_decide_eq_true (by kernel_rfl)) k0 bel lt0) (trodAll_cons_mk (Below.trod laidOut (by kernel_rfl) (of_decide_eq_true (by kernel_rfl)) k1 bel lt1) trodAll_mk0)), rfl, bel.frame _, fun h => by cases h⟩

theorem over : Rows.timerExpiryOrderRow.holds Try.pinned (OpenSpec.ofChange Rows.timerExpiryOrderSpec) :=
  OpenClaim.holds_of_wide 3 Try.f3 rfl rfl rfl rfl rfl rfl rfl ⟨rfl, rfl, rfl, rfl, rfl⟩ rfl rfl rfl rfl rfl (by kernel_rfl) Try.func3 (by kernel_rfl)
    (of_decide_eq_true (by kernel_rfl)) (by unfold Func.isWrapper; first | (rw [if_pos (by decide +kernel)]; kernel_rfl) | (rw [if_neg (by decide +kernel)]; exact ⟨rfl, rfl⟩))
    (fun os started H enc _ => lifted os started H enc)

theorem proved : Rows.TimerExpiryOrderSaid := over
#print axioms proved
end Go.Proofs.Ytobkanlnnniabaa.timerExpiryOrder

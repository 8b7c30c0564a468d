/-
  The statement 'TimerMatchesModelSaid' of the seat: the frame of the row round the walk of the law's Go function (YtobkanlnnniabaaGreatWk7): for every input the call returns true and each argument reads as it did.
-/
import Derived.Test.YtobkanlnnniabaaGreatX10
import Derived.Lib.SliceRun
import Derived.Deep.Upon
import Derived.WalkKit
import Derived.ProofKit
import Derived.OpenShut
import Derived.ShutString
import Derived.ChangeOld
import Derived.Below

/-
  slices.DeleteFunc and slices.IndexFunc at Cancel's closure: one handle taken out of a list.
-/
namespace Go.Proofs.YtobkanlnnniabaaGreat.S
open Go.RowKit
set_option linter.unusedVariables false
set_option linter.unusedSimpArgs false

def isC (c : Int) (k : Int) : Bool := decide (k ≠ c)
set_option maxRecDepth 100000 in
set_option maxHeartbeats 1000000 in
theorem clos_any (c k : Int) (q : Nat) (w : World) (h : w.cell? ⟨q, 0, none⟩ = some (.int .i64 c)) :
    Calls Tryz.prog 70 #[.int .i64 k, .pointer (some ⟨q, 0, none⟩)] w fun e w' => e = .returned (.bool (!isC c k)) ∧ w = w' := by
  have e : (!isC c k) = (k == c) := by
    by_cases hh : k = c
    · simp [isC, hh]
    · simp [isC, hh, BEq.beq]
  rw [e]
  clear e
  go_enter Tryz.func70, Tryz.ntmps70
  go_wp2_with fail
  go_ret
  exact ⟨rfl, rfl⟩
/-- The place of the handle, or the length. -/
def outAt (c : Int) (ks : List Int) : Nat := ks.findIdx (fun k => !isC c k)
theorem outAt_le (c : Int) (ks : List Int) : outAt c ks ≤ ks.length := List.findIdx_le_length
theorem outAt_before {c : Int} {ks : List Int} {i : Nat} {k : Int} (hi : i < outAt c ks) (hk : ks[i]? = some k) : isC c k = true := by
  obtain ⟨hl, he⟩ := List.getElem?_eq_some_iff.1 hk
  have h2 := List.not_of_lt_findIdx (p := fun k : Int => !isC c k) (xs := ks) hi
  rw [he] at h2
  simpa using h2
theorem outAt_at {c : Int} {ks : List Int} {k : Int} (hk : ks[outAt c ks]? = some k) : isC c k = false := by
  obtain ⟨hl, he⟩ := List.getElem?_eq_some_iff.1 hk
  have h2 := List.findIdx_getElem (p := fun k : Int => !isC c k) (xs := ks) (w := hl)
  have h3 : ks[List.findIdx (fun k : Int => !isC c k) ks] = k := he
  rw [h3] at h2
  simpa using h2
def ixv (c : Int) (ks : List Int) : Int := if outAt c ks < ks.length then (outAt c ks : Int) else -1
def Row (w : World) (v : Value) (ks : List Int) : Prop := w.ownsRow 0 3 1 v ks.length (ks.map (Value.int .i64))
theorem Row.form {w : World} {v : Value} {ks : List Int} (h : Row w v ks) : ∃ a c, v = .slice a ks.length c ∧ ks.length ≤ c ∧ c ≤ maxLen ∧ (0 < ks.length → ∃ g, a = some ⟨g, 0, none⟩) := owns_form h
theorem Row.cell {w : World} {g n c : Nat} {ks : List Int} (h : Row w (.slice (some ⟨g, 0, none⟩) n c) ks) {i : Nat} {k : Int} (hk : ks[i]? = some k) : w.cell? ⟨g, i, none⟩ = some (.int .i64 k) := by
  obtain ⟨a, c', hv, _⟩ := Row.form h
  simp at hv
  obtain ⟨rfl, rfl, rfl⟩ := hv
  exact owns_cell h i _ (by simp [hk])
set_option maxRecDepth 100000 in
set_option maxHeartbeats 1000000 in
theorem ix_any (v : Value) (ks : List Int) (c : Int) (q : Nat) (w : World) (hl : ks.length ≤ 1000) (h1 : Row w v ks) (h : w.cell? ⟨q, 0, none⟩ = some (.int .i64 c)) :
    Calls Tryz.prog 48 #[v, .func (.func 70) #[] #[.pointer (some ⟨q, 0, none⟩)]] w fun e w' => e = .returned (.int .i64 (ixv c ks)) ∧ w = w' := by
  obtain ⟨a1, c1, rfl, hc1, hm1, hv1⟩ := h1.form
  have hix := outAt_le c ks
  have hcv : c1 ≤ 9223372036854775807 := by unfold maxLen at hm1; omega
  clear hm1
  go_enter Tryz.func48, Tryz.ntmps48
  go_wp2_with fail
  go_loop [8] (fun vi => ∃ (i : Nat), i ≤ outAt c ks ∧ vi = .int .i64 i) (fun vi => ks.length - (intOf vi).toNat)
  case atStart => exact ⟨0, by omega, rfl⟩
  case round =>
    obtain ⟨i, hi, rfl⟩ := hrel
    by_cases hlt : i < ks.length
    · have hx : ks[i]? = some ks[i] := List.getElem?_eq_getElem hlt
      generalize ks[i] = k at hx
      obtain ⟨g, rfl⟩ := hv1 (by omega)
      have p1 := h1.cell hx
      have q3 : (i : Int) < (ks.length : Int) := by omega
      by_cases hin : i < outAt c ks
      · have hc := Lib.hid (outAt_before hin hx)
        clear hx
        go_wp2_with fail
        refine (clos_any c k q _ h).mono ?_
        rintro e w2 ⟨rfl, rfl⟩
        rw [hc.out]
        clear p1
        go_wp2_with fail
        go_round
        case rel => exact ⟨i + 1, by omega, by go_num⟩
        case measure => simp [intOf]; omega
      · have e : outAt c ks = i := by omega
        have hc := Lib.hid (outAt_at (by rw [e]; exact hx))
        have HE := Lib.hid (show ixv c ks = (i : Int) by unfold ixv; rw [e, if_pos hlt])
        clear hx e
        go_wp2_with fail
        refine (clos_any c k q _ h).mono ?_
        rintro e w2 ⟨rfl, rfl⟩
        rw [hc.out]
        clear p1
        go_wp2_with fail
        go_ret
        exact ⟨by rw [HE.out]; rfl, rfl⟩
    · have HE := Lib.hid (show ixv c ks = -1 by unfold ixv; rw [if_neg (by omega)])
      go_wp2_with fail
      go_ret
      exact ⟨by rw [HE.out]; rfl, rfl⟩
theorem owns_setCells {w : World} {g n c : Nat} : ∀ (zs : List Value) (o : Nat) (w : World) (xs : List Value), w.ownsRow 0 3 1 (.slice (some ⟨g, 0, none⟩) n c) n xs →
    ∃ ys, (w.setCells g o zs).ownsRow 0 3 1 (.slice (some ⟨g, 0, none⟩) n c) n ys ∧ ys.take o = xs.take o
  | [], o, w, xs, h => ⟨xs, h, rfl⟩
  | z :: zs, o, w, xs, h => by
    obtain ⟨ys, h1, h2⟩ := owns_setCells (w := w) zs (o + 1) (w.setCell ⟨g, o, none⟩ z) (xs.set o z) (owns_set h o z)
    refine ⟨ys, h1, ?_⟩
    have h3 := congrArg (List.take o) h2
    rw [List.take_take, List.take_take, Nat.min_eq_left (by omega)] at h3
    rw [h3, List.take_set_of_le (by omega)]
theorem setCells_touch (b : Nat) : ∀ (vs : List Value) (o : Nat) (w : World), Touch [b] w (w.setCells b o vs)
  | [], _, w => Touch.refl _ _
  | v :: r, o, w => ((Touch.refl [b] w).setCell (p := ⟨b, o, none⟩) (by simp) v).trans (setCells_touch b r (o + 1) _) (by simp)
theorem run_clear_rows {P : Program} (w : World) (t e ty : TypeId) (z : Value) (k : Nat) (ht : P.underlying t = some (.slice e)) (hv : ∀ w, (zeroValue e).run P w = .ok z w) (hz : z.cells.size = k) (h1 : ∀ v ∈ z.cells.toList, v.oneCell' = true) (b o n c : Nat) (hn : 0 < n)
    (hc : ∀ j, j < n * k → (w.cell? ⟨b, o + j, none⟩).isSome = true) (hf : ∀ j, j < n * k → w.frozen? ⟨b, o + j, none⟩ = false) :
    ∃ zs, (Builtin.clear_ #[t] ty #[.slice (some ⟨b, o, none⟩) n c]).run P w = .ok (.tuple #[]) (w.setCells b o zs) := by
  have hl : (Builtin.zeroCells z.cells n).toList.length = n * k := by simp [Builtin.zeroCells, hz]
  have ho : ∀ v ∈ (Builtin.zeroCells z.cells n).toList, v.oneCell' = true := by
    intro v hv'
    simp only [Builtin.zeroCells] at hv'
    simp at hv'
    obtain ⟨i, hi, rfl⟩ := hv'
    have hk : 0 < z.cells.size := by
      rcases Nat.eq_zero_or_pos z.cells.size with h0 | h0
      · rw [h0] at hi; simp at hi
      · exact h0
    have hm := Nat.mod_lt i hk
    refine h1 _ ?_
    simp [hm]
  have hst := run_storeCells_cells (P := P) b o (Builtin.zeroCells z.cells n).toList 0 w (by simpa [hl] using hc) (by simpa [hl] using hf) ho
  simp only [Nat.add_zero] at hst
  obtain ⟨m, rfl⟩ : ∃ m, n = m + 1 := ⟨n - 1, by omega⟩
  exact ⟨(Builtin.zeroCells z.cells (m + 1)).toList, by simp [Builtin.clear_, run_underlying ht, hv, hst]⟩
theorem all_in {c : Int} {ks : List Int} (h : ks.length ≤ outAt c ks) : ks.filter (isC c) = ks := by
  rw [List.filter_eq_self]
  intro k hk
  obtain ⟨i, hi⟩ := List.getElem?_of_mem hk
  have := (List.getElem?_eq_some_iff.1 hi).1
  exact outAt_before (by omega) hi
theorem take_in {c : Int} {ks : List Int} (h : outAt c ks < ks.length) : (ks.take (outAt c ks + 1)).filter (isC c) = ks.take (outAt c ks) := by
  have hx := List.getElem?_eq_getElem h
  have ho := outAt_at (c := c) hx
  rw [List.take_add_one, hx, List.filter_append]
  have e1 : (ks.take (outAt c ks)).filter (isC c) = ks.take (outAt c ks) := by
    rw [List.filter_eq_self]
    intro k hk
    obtain ⟨i, hi⟩ := List.getElem?_of_mem hk
    rw [List.getElem?_take] at hi
    split at hi
    · exact outAt_before (by assumption) hi
    · cases hi
  rw [e1]
  simp [ho]
/-- What the loop of DeleteFunc has done. -/
structure Dl (w wr : World) (g n cv : Nat) (ks : List Int) (c : Int) (i j : Nat) (ds : List Int) : Prop where
  row : wr.ownsRow 0 3 1 (.slice (some ⟨g, 0, none⟩) n cv) n (ds.map (Value.int .i64))
  len : ds.length = n
  ij : i < j
  jn : j ≤ n
  pre : ds.take i = (ks.take j).filter (isC c)
  suf : ds.drop j = ks.drop j
  t : Touch [g] w wr
theorem Dl.skip {w wr : World} {g n cv i j : Nat} {ks ds : List Int} {c : Int} {k : Int} (hd : Dl w wr g n cv ks c i j ds) (hn : ks.length = n) (hj : ks[j]? = some k) (hin : isC c k = false) : Dl w wr g n cv ks c i (j + 1) ds := by
  have hjl := (List.getElem?_eq_some_iff.1 hj).1
  have h1 := hd.ij
  refine ⟨hd.row, hd.len, by omega, by omega, ?_, ?_, hd.t⟩
  · rw [List.take_add_one, hj, List.filter_append, hd.pre]
    simp [hin]
  · have := congrArg (List.drop 1) hd.suf
    rwa [List.drop_drop, List.drop_drop] at this
theorem Dl.keep {w wr : World} {g n cv i j : Nat} {ks ds : List Int} {c : Int} {k : Int} (hd : Dl w wr g n cv ks c i j ds) (hn : ks.length = n) (hj : ks[j]? = some k) (hin : isC c k = true) :
    Dl w (wr.setCell ⟨g, i, none⟩ (.int .i64 k)) g n cv ks c (i + 1) (j + 1) (ds.set i k) := by
  have hjl := (List.getElem?_eq_some_iff.1 hj).1
  have h1 := hd.ij
  have h2 := hd.jn
  have hlen := hd.len
  have hil : i < ds.length := by omega
  refine ⟨?_, by rw [List.length_set]; exact hlen, by omega, by omega, ?_, ?_, hd.t.setCell (.inl (by simp)) _⟩
  · rw [List.map_set]
    exact owns_set hd.row i _
  · rw [List.take_add_one (i := j), hj, List.filter_append, ← hd.pre, List.take_add_one]
    rw [List.take_set_of_le (by omega)]
    simp [hin, hil]
  · rw [List.drop_set_of_lt (by omega)]
    have := congrArg (List.drop 1) hd.suf
    rwa [List.drop_drop, List.drop_drop] at this
set_option maxRecDepth 100000 in
set_option maxHeartbeats 2000000 in
theorem del_any (v : Value) (ks : List Int) (c : Int) (q : Nat) (w : World) (hl : ks.length ≤ 1000) (ho : Row w v ks) (h : w.cell? ⟨q, 0, none⟩ = some (.int .i64 c)) (hq : v.ownBlock ≠ some q) :
    Calls Tryz.prog 29 #[v, .func (.func 70) #[] #[.pointer (some ⟨q, 0, none⟩)]] w fun e w' => ∃ v', e = .returned v' ∧ Row w' v' (ks.filter (isC c)) ∧ v'.ownBlock = v.ownBlock ∧ Touch v.ownBlock.toList w w' := by
  have hole := outAt_le c ks
  obtain ⟨n, hn⟩ : ∃ n, ks.length = n := ⟨_, rfl⟩
  obtain ⟨av, cv, rfl, hc1, hm1, hv3⟩ := ho.form
  have HO := Lib.hid ho
  rw [hn] at hc1 hv3 hl hole hq HO ⊢
  have hc4 : cv ≤ 9223372036854775807 := by unfold maxLen at hm1; omega
  have HN := Lib.hid hn
  clear hn ho hm1
  by_cases hlt : outAt c ks < n
  · have HE := Lib.hid (show ixv c ks = (outAt c ks : Int) by unfold ixv; rw [HN.out, if_pos hlt])
    obtain ⟨g, rfl⟩ := hv3 (by omega)
    have hqg : q ≠ g := fun e => hq (by rw [e]; rfl)
    have HT := Lib.hid (take_in (c := c) (ks := ks) (by rw [HN.out]; exact hlt))
    go_enter Tryz.func29, Tryz.ntmps29
    go_wp2_with fail
    refine (ix_any _ ks c q _ (by rw [HN.out]; exact hl) HO.out h).mono ?_
    rintro e w1 ⟨rfl, rfl⟩
    rw [HE.out]
    generalize hi0 : outAt c ks = i0 at *
    have HI0 := Lib.hid hi0
    clear hi0
    have d0 : ((i0 : Int) == -1) = false := by simp
    go_wp2_with fail
    go_loopw [5, 6] (fun vi vj wr => ∃ (i j : Nat) (ds : List Int), vi = .int .i64 i ∧ vj = .int .i64 j ∧ Dl w wr g n cv ks c i j ds) (fun _ vj _ => n - (intOf vj).toNat)
    case atStart => exact ⟨i0, i0 + 1, ks, rfl, by go_num, by have := HO.out; unfold Row at this; rwa [HN.out] at this, HN.out, by omega, by omega, HT.out.symm, rfl, Touch.refl _ _⟩
    case round =>
      obtain ⟨i, j, ds, rfl, rfl, hd⟩ := hrel
      have HD := Lib.hid hd
      have hij := hd.ij
      have hjn := hd.jn
      have hcq := hd.t.cell h (by simpa using hqg)
      clear hd
      by_cases hj : j < n
      · have hjk : j < ks.length := by rw [HN.out]; exact hj
        have hx : ks[j]? = some ks[j] := List.getElem?_eq_getElem hjk
        generalize ks[j] = k at hx
        have hdx : ds[j]? = some k := by
          have e := congrArg (fun l => l[0]?) HD.out.suf
          simp only [List.getElem?_drop, Nat.add_zero] at e
          rw [e, hx]
        have c0 := owns_cell HD.out.row j (.int .i64 k) (by simp [hdx])
        have HX := Lib.hid hx
        have hjI : (j : Int) < (n : Int) := by omega
        clear hx hdx
        cases hin : isC c k with
        | true =>
          have HIN := Lib.hid hin
          have hil : i < ds.length := by rw [HD.out.len]; omega
          have hdi := List.getElem?_eq_getElem hil
          have s0 := owns_cell HD.out.row i (.int .i64 ds[i]) (by simp [hdi])
          have f0 := owns_frozen HD.out.row i
          have hin' : (i : Int) < (n : Int) := by omega
          have HF := Lib.hid (HD.out.keep HN.out HX.out hin)
          clear hdi hin
          go_wp2_with fail
          refine (clos_any c k q _ hcq).mono ?_
          rintro e w5 ⟨rfl, rfl⟩
          rw [HIN.out]
          go_wp2_with fail
          exact ⟨⟨i + 1, j + 1, _, by go_num, by go_num, HF.out⟩, by simp [intOf]; omega⟩
        | false =>
          have HIN := Lib.hid hin
          have HF := Lib.hid (HD.out.skip HN.out HX.out hin)
          clear hin
          go_wp2_with fail
          refine (clos_any c k q _ hcq).mono ?_
          rintro e w5 ⟨rfl, rfl⟩
          rw [HIN.out]
          go_wp2_with fail
          exact ⟨⟨i, j + 1, _, rfl, by go_num, HF.out⟩, by simp [intOf]; omega⟩
      · obtain rfl : j = n := by omega
        have hpre := HD.out.pre
        rw [List.take_of_length_le (l := ks) (by rw [HN.out]; omega)] at hpre
        have row := HD.out.row
        obtain ⟨zs, hcl⟩ := run_clear_rows (P := Tryz.prog) wr 53 3 0 _ 1 Tryz.underlying53 zero3' (by rfl) (by intro v hv; simp [Value.cells] at hv; subst hv; rfl) g i (j - i) (cv - i) (by omega)
          (by
            intro q hq
            have hql : i + q < (ds.map (Value.int .i64)).length := by rw [List.length_map, HD.out.len]; omega
            rw [owns_cell row (i + q) _ (List.getElem?_eq_getElem hql)]
            rfl)
          (by intro q hq; exact owns_frozen row _)
        have hci : ¬ cv = i := by omega
        have hT2 := setCells_touch g zs i wr
        have hres : Row (wr.setCells g i zs) (.slice (some ⟨g, 0, none⟩) i cv) (ks.filter (isC c)) := by
          obtain ⟨ys, h1, h2⟩ := owns_setCells (w := wr) zs i wr _ row
          have h3 := owns_take h1 (j := i) (by omega)
          rw [Nat.mul_one, h2, ← List.map_take, hpre] at h3
          have hl3 := congrArg List.length hpre
          rw [List.length_take, HD.out.len, Nat.min_eq_left (by omega)] at hl3
          unfold Row
          rw [← hl3]
          exact h3
        have HRES := Lib.hid hres
        clear hres hpre row
        go_wp2_with fail
        go_ret
        exact ⟨_, rfl, HRES.out, rfl, HD.out.t.trans hT2 (by simp)⟩
  · have HE := Lib.hid (show ixv c ks = -1 by unfold ixv; rw [HN.out, if_neg hlt])
    have HF := Lib.hid (all_in (c := c) (ks := ks) (by rw [HN.out]; omega))
    go_enter Tryz.func29, Tryz.ntmps29
    go_wp2_with fail
    refine (ix_any _ ks c q _ (by rw [HN.out]; exact hl) HO.out h).mono ?_
    rintro e w1 ⟨rfl, rfl⟩
    rw [HE.out]
    go_wp2_with fail
    go_ret
    exact ⟨_, rfl, by rw [HF.out]; exact HO.out, rfl, Touch.refl _ _⟩
end Go.Proofs.YtobkanlnnniabaaGreat.S

/-
  The contract of Cancel.
-/
namespace Go.Proofs.YtobkanlnnniabaaGreat.S
open Go.RowKit
set_option linter.unusedVariables false
set_option linter.unusedSimpArgs false

def cutN (N : List Nd) (l : List Int) : List Nd := N.filter fun n => decide (n.t.id ∉ l)
theorem sh_cut (N : List Nd) (l : List Int) : sh (cutN N l) = (sh N).filter fun n => decide (n.id ∉ l) := by
  unfold sh cutN
  rw [List.filter_map]
  rfl
theorem cut_mem {N : List Nd} {l : List Int} {n : Nd} : n ∈ cutN N l ↔ n ∈ N ∧ n.t.id ∉ l := by
  simp [cutN]
theorem cut_step {N : List Nd} {l : List Int} {j : Nat} {i : Int} (hj : l[j]? = some i) : (cutN N (l.take j)).filter (fun n => decide (n.t.id ≠ i)) = cutN N (l.take (j + 1)) := by
  unfold cutN
  rw [List.filter_filter]
  apply List.filter_congr
  intro n _
  rw [List.take_add_one, hj]
  simp [Bool.and_comm]
/-- Between two removals. -/
def Cn (w0 : World) (t h : Nat) (fh0 : List Nat) (N : List Nd) (last : Int) (K : Int → List Int) (l : List Int) (j : Nat) (wr : World) : Prop :=
  ∃ fh, TK wr t h fh (cutN N (l.take j)) last K ∧ (∀ y ∈ fh, y ∈ fh0 ∨ w0.heap.size ≤ y) ∧ Touch fh0 w0 wr
theorem Cn.start {w0 : World} {t h : Nat} {fh0 : List Nat} {N : List Nd} {last : Int} {K : Int → List Int} {l : List Int} (k : TK w0 t h fh0 N last K) : Cn w0 t h fh0 N last K l 0 w0 := by
  refine ⟨fh0, ?_, fun y hy => .inl hy, Touch.refl _ _⟩
  have : cutN N (l.take 0) = N := by
    simp [cutN]
  rw [this]
  exact k
theorem TK.removed {w w' : World} {t h : Nat} {fh : List Nat} {N : List Nd} {last : Int} {K : Int → List Int} (k : TK w t h fh N last K) {i : Int} (nx : Next w h fh ((N.map Nd.itm).filter fun y => decide (y.id ≠ i)) last w') :
    ∃ fh', TK w' t h fh' (N.filter fun n => decide (n.t.id ≠ i)) last K ∧ (∀ y ∈ fh', y ∈ fh ∨ w.heap.size ≤ y) ∧ Touch fh w w' := by
  obtain ⟨fh', hb, hf, ht⟩ := nx
  have e : (N.map Nd.itm).filter (fun y => decide (y.id ≠ i)) = (N.filter fun n => decide (n.t.id ≠ i)).map Nd.itm := by
    rw [List.filter_map]
    rfl
  rw [e] at hb
  have hs : (N.filter fun n => decide (n.t.id ≠ i)).Sublist N := List.filter_sublist
  exact ⟨fh', k.bagged hb hf ht (fun n hn => .inl (hs.subset hn)) (k.nn.sublist hs) (Nat.le_trans hs.length_le k.few), hf, ht⟩
theorem Cn.step {w0 wr w' : World} {t h : Nat} {fh0 fh : List Nat} {N : List Nd} {last : Int} {K : Int → List Int} {l : List Int} {j : Nat} {i : Int} (hj : l[j]? = some i)
    (k : TK wr t h fh (cutN N (l.take j)) last K) (hf : ∀ y ∈ fh, y ∈ fh0 ∨ w0.heap.size ≤ y) (ht : Touch fh0 w0 wr) (nx : Next wr h fh (((cutN N (l.take j)).map Nd.itm).filter fun y => decide (y.id ≠ i)) last w') : Cn w0 t h fh0 N last K l (j + 1) w' := by
  obtain ⟨fh', k', hf', ht'⟩ := k.removed nx
  rw [cut_step hj] at k'
  refine ⟨fh', k', ?_, ht.trans ht' hf⟩
  intro y hy
  rcases hf' y hy with e | e
  · exact hf y e
  · exact .inr (Nat.le_trans ht.size e)
/-- All of a subtree is gone. -/
theorem TM.cut {w w' : World} {t h : Nat} {fh fh' : List Nat} {N N2 : List Nd} {last : Int} {K : Int → List Int} {l : List Int} {n : Nd} (k : TM w t h fh N last) (hn : n ∈ N) (hs : Sub (sh N) n.t.id l) (e : sh N2 = sh N)
    (hK : ∀ m ∈ N2, m.t.id ∉ l → K m.t.id = (kids (sh N) m.t.id).filter fun i => decide (i ≠ n.t.id)) (m : TK w' t h fh' (cutN N2 l) last K) : TM w' t h fh' (cutN N2 l) last := by
  have e2 : sh (cutN N2 l) = (sh N).filter fun n => decide (n.id ∉ l) := by rw [sh_cut, e]
  refine ⟨m.congr ?_, by rw [e2]; exact k.tree.cut hs, by rw [e2]; exact due_cut k.tree hs k.due⟩
  intro q hq
  obtain ⟨hq1, hq2⟩ := cut_mem.1 hq
  rw [e2, hK q hq1 hq2, kids_cut_eq k.tree hs hq2]
theorem kids_none {w : World} {t h : Nat} {fh : List Nat} {N : List Nd} {last : Int} (k : TM w t h fh N last) {n q : Nd} (hn : n ∈ N) (hq : q ∈ N) (hne : n.t.par ≠ q.t.id) : (kids (sh N) q.t.id).filter (fun i => decide (i ≠ n.t.id)) = kids (sh N) q.t.id := by
  rw [List.filter_eq_self]
  intro i hi
  simp only [ne_eq, decide_eq_true_eq]
  rintro rfl
  obtain ⟨s, hs, h1, h2⟩ := mem_kids.1 hi
  have := tm_inj k.ids hs (sh_mem hn) h2
  rw [← this] at hne
  exact hne h1
section
variable {w : World} {t h : Nat} {fh : List Nat} {N : List Nd} {last : Int}
set_option maxRecDepth 100000 in
set_option maxHeartbeats 1000000 in
theorem cancel_no (k : TM w t h fh N last) (i : Int) (hi : okK i) (hn : i ∉ tids (sh N)) :
    Calls Tryz.prog 60 #[.pointer (some ⟨t, 0, none⟩), .int .i64 i] w fun e w' => e = .returned (.int .i64 0) ∧ Touch [] w w' := by
  have tA := (Touch.refl [] w).alloc (.cells #[.int .i64 i] 3)
  have gA := heap_alloc_new w (.cells #[.int .i64 i] 3)
  have cA : (w.alloc (.cells #[.int .i64 i] 3)).cell? ⟨w.heap.size, 0, none⟩ = some (.int .i64 i) := by simp only [World.cell?]; rw [gA]; rfl
  have HS := Lib.hid (subtree_no (k.touch tA (by simp)) i hi hn)
  clear k hn gA
  go_enter Tryz.func60, Tryz.ntmps60
  go_wp2_with fail
  refine HS.out.mono ?_
  rintro e w' ⟨rfl, rfl⟩
  go_wp2_with fail
  go_ret
  exact ⟨rfl, tA⟩
/-- What Cancel leaves. -/
def Canc (w : World) (t h : Nat) (fh : List Nat) (N : List Nd) (last : Int) (n : Nd) (e : Ending) (w' : World) : Prop :=
  ∃ l fh' N2 pf, e = .returned (.int .i64 (l.length : Nat)) ∧ Sub (sh N) n.t.id l ∧ TM w' t h fh' (cutN N2 l) last ∧ ab N2 = ab N ∧ (∀ y ∈ TFoot t fh' (cutN N2 l), y ∈ TFoot t fh N ∨ w.heap.size ≤ y) ∧ Touch (fh ++ pf) w w' ∧ (∀ y ∈ pf, ∃ p ∈ N, p.t.id = n.t.par ∧ y ∈ p.foot)
/-- Ahead of the removals. -/
structure MidC (w w3 : World) (t h : Nat) (fh : List Nat) (N : List Nd) (last : Int) (n : Nd) (N2 : List Nd) (K : Int → List Int) (pf : List Nat) (v : Value) (l : List Int) : Prop where
  mem : TK w3 t h fh N2 last K
  e : sh N2 = sh N
  ab : ab N2 = ab N
  kk : ∀ m ∈ N2, m.t.id ∉ l → K m.t.id = (kids (sh N) m.t.id).filter fun i => decide (i ≠ n.t.id)
  tt : Touch pf w w3
  pf : ∀ y ∈ pf, ∃ p ∈ N, p.t.id = n.t.par ∧ y ∈ p.foot
  own : OwnN w w3 v l
  foot : ∀ y ∈ TFoot t fh N2, y ∈ TFoot t fh N ∨ w.heap.size ≤ y
theorem MidC.fin {w3 wr : World} {n : Nd} {N2 : List Nd} {K : Int → List Int} {pf : List Nat} {v : Value} {l : List Int} (d : MidC w w3 t h fh N last n N2 K pf v l) (k : TM w t h fh N last) (hn : n ∈ N) (hs : Sub (sh N) n.t.id l) (c : Cn w3 t h fh N2 last K l l.length wr) :
    Canc w t h fh N last n (.returned (.int .i64 (l.length : Nat))) wr := by
  obtain ⟨fh', m, hf, ht⟩ := c
  rw [List.take_length] at m
  refine ⟨l, fh', N2, pf, rfl, hs, k.cut hn hs d.e d.kk m, d.ab, ?_, ?_, d.pf⟩
  · intro y hy
    rcases TFoot.mem.1 hy with rfl | hy | ⟨q, hq, hy⟩
    · exact .inl (TFoot.mem.2 (.inl rfl))
    · rcases hf y hy with e | e
      · exact .inl (TFoot.mem.2 (.inr (.inl e)))
      · exact .inr (Nat.le_trans d.tt.size e)
    · exact d.foot y (TFoot.mem.2 (.inr (.inr ⟨q, (cut_mem.1 hq).1, hy⟩)))
  · exact (d.tt.mono (S' := fh ++ pf) (fun y hy => .inl (List.mem_append.2 (.inr hy)))).trans ht (fun y hy => .inl (List.mem_append.2 (.inl hy)))
theorem MidC.rootc {w3 : World} {n : Nd} {v : Value} {l : List Int} (k : TM w t h fh N last) (hn : n ∈ N) (hp : n.t.par ∉ tids (sh N)) (ht : Touch [] w w3) (ho : OwnN w w3 v l) : MidC w w3 t h fh N last n N (kids (sh N)) [] v l := by
  refine ⟨k.mem.touch ht (by simp), rfl, rfl, ?_, ht, by simp, ho, fun y hy => .inl hy⟩
  intro m hm _
  rw [kids_none k hn hm]
  intro e
  exact hp (by rw [e]; exact sh_tids hm)
theorem MidC.childc {w2 w3 : World} {n p : Nd} {v v' : Value} {l : List Int} (k : TM w t h fh N last) (hn : n ∈ N) (hp : p ∈ N) (hpn : p.t.id = n.t.par) (ht2 : Touch [] w w2) (ho : OwnN w w2 v l) (ht : Touch p.foot w2 w3)
    (hh : w3.heap[p.b]? = some (.cells #[.int .i64 p.t.par, .int .u64 p.t.req, p.x, v'] 98 (0, 0))) (hr : Row w3 v' ((kids (sh N) p.t.id).filter (isC n.t.id))) (hv : v'.ownBlock = p.v.ownBlock) :
    MidC w w3 t h fh N last n (N.map (setV p.t.id v')) (putK (kids (sh N)) p.t.id ((kids (sh N) p.t.id).filter (isC n.t.id))) p.foot v l := by
  have hlt := (k.mem.nd p hp).lt
  obtain ⟨m, f⟩ := (k.mem.touch ht2 (by simp)).kids_set k.ids hp ht hh hr (.inl hv)
  refine ⟨m, sh_setV _ _, ab_setV _ _, ?_, ?_, fun y hy => ⟨p, hp, hpn, hy⟩, ho.touch ht ?_, ?_⟩
  · intro q' hq' _
    obtain ⟨q, hq, rfl⟩ := List.mem_map.1 hq'
    rw [(setV_keep _ _ q).1]
    unfold putK
    by_cases e : q.t.id = p.t.id
    · rw [if_pos e, e]
      rfl
    · rw [if_neg e, kids_none k hn hq]
      rw [← hpn]
      exact fun e' => e e'.symm
  · exact (ht2.mono (by simp)).trans ht (fun y hy => .inl hy)
  · intro g hg e
    have := ho.new g hg
    have := hlt g e
    omega
  · intro y hy
    rcases f y hy with e | e
    · exact .inl e
    · exact .inr (Nat.le_trans ht2.size e)
set_option maxRecDepth 100000 in
set_option maxHeartbeats 2000000 in
theorem cancel_any (k : TM w t h fh N last) (n : Nd) (hn : n ∈ N) :
    Calls Tryz.prog 60 #[.pointer (some ⟨t, 0, none⟩), .int .i64 n.t.id] w fun e w' => Canc w t h fh N last n e w' := by
  have tA := (Touch.refl [] w).alloc (.cells #[.int .i64 n.t.id] 3)
  have gA := heap_alloc_new w (.cells #[.int .i64 n.t.id] 3)
  have cA : (w.alloc (.cells #[.int .i64 n.t.id] 3)).cell? ⟨w.heap.size, 0, none⟩ = some (.int .i64 n.t.id) := by simp only [World.cell?]; rw [gA]; rfl
  have zA : (w.alloc (.cells #[.int .i64 n.t.id] 3)).heap.size = w.heap.size + 1 := by simp
  have HA := k.touch tA (by simp)
  have HK := Lib.hid k
  have HN := Lib.hid hn
  have HS := Lib.hid (subtree_any HA n hn)
  have hqf : w.heap.size ∉ TFoot t fh N := fun e => Nat.lt_irrefl _ (k.mem.lt _ e)
  have hfew := k.mem.few
  clear k hn gA
  go_enter Tryz.func60, Tryz.ntmps60
  go_wp2_with fail
  generalize w.alloc (.cells #[.int .i64 n.t.id] 3) = wA at *
  generalize hqe : w.heap.size = q at *
  have HQE := Lib.hid hqe
  have HTA := Lib.hid tA
  have HKA := Lib.hid HA
  clear hqe HA tA
  refine HS.out.mono ?_
  rintro e w1 ⟨v, l, rfl, hsub, ho, t1⟩
  have HSUB := Lib.hid hsub
  have HO := Lib.hid ho
  have HT1 := Lib.hid t1
  have HK1 := Lib.hid (HKA.out.touch t1 (by simp))
  have cq := t1.cell cA (by simp)
  have hl0 : 0 < l.length := (List.getElem?_eq_some_iff.1 hsub.head).1
  have hl1 := hsub.few
  have hl2 : (sh N).length = N.length := by simp [sh]
  rw [hl2] at hl1
  clear hsub ho t1 cA hl2 HS
  obtain ⟨av, cv, rfl, hv1, hv2, hv3⟩ := owns_form HO.out.row
  obtain ⟨g, rfl⟩ := hv3 hl0
  have hcv : cv ≤ 9223372036854775807 := by unfold maxLen at hv2; omega
  have c0 := HK1.out.mem.cell
  have d0 : ((l.length : Int) == 0) = false := beq_eq_false_iff_ne.2 (by omega)
  clear hv2 hv3
  go_wp2_with fail
  go_quiet ((go_at_call 56; exact Calls.quiet_of ((HK1.out.draws _).get n HN.out)))
  have T2 := (Touch.refl [] w1).drews nq
  have HK2 := Lib.hid (HK1.out.draws nq)
  have HO2 := Lib.hid ((HO.out.touch T2 (by simp)).rebase (w0 := w) HTA.out.size)
  have HT2 := Lib.hid ((HTA.out.trans HT1.out (by simp)).trans T2 (by simp))
  have cq2 := T2.cell cq (by simp)
  clear T2 cq c0 HO HK1 HT1
  generalize w1.drewN nq = w2 at *
  have c0 := HK2.out.mem.cell
  obtain ⟨m0, m1, m2, m3⟩ := (HK2.out.mem.nd n HN.out).cells
  clear m1 m2 m3
  by_cases hp : n.t.par ∈ tids (sh N)
  case' neg =>
    have hp0 : okK n.t.par := by
      rcases HK2.out.tree.par n.t (sh_mem HN.out) with e | e
      · rw [e]
        exact okK_of (by omega) (by omega)
      · exact absurd e hp
    have HP0 := Lib.hid hp0
    have HPP := Lib.hid hp
    clear hp hp0
    go_wp2_with fail
    go_quiet ((go_at_call 56; exact Calls.quiet_of_same ((HK2.out.draws _).get_no n.t.par HP0.out HPP.out)))
    have T3 := HT2.out.trans ((Touch.refl [] w2).drews nq) (by simp)
    obtain ⟨N2, K, pf, hmid⟩ : ∃ N2 K pf, MidC w (w2.drewN nq) t h fh N last n N2 K pf (.slice (some ⟨g, 0, none⟩) l.length cv) l := ⟨_, _, _, MidC.rootc HK.out HN.out HPP.out T3 (HO2.out.touch ((Touch.refl [] w2).drews nq) (by simp))⟩
    clear T3 m0 c0 cq2 HP0 HPP
    generalize w2.drewN nq = w3 at *
  case' pos =>
    obtain ⟨p, hpm, hpe⟩ := sh_at hp
    rw [← hpe] at m0
    have HPM := Lib.hid hpm
    have HPE := Lib.hid hpe
    clear hp hpm hpe
    go_wp2_with fail
    go_quiet ((go_at_call 56; exact Calls.quiet_of ((HK2.out.draws _).get p HPM.out)))
    have T3 := (Touch.refl [] w2).drews nq
    have HK3 := Lib.hid (HK2.out.draws nq)
    have HO3 := Lib.hid (HO2.out.touch T3 (by simp))
    have HT3 := Lib.hid (HT2.out.trans T3 (by simp))
    have cq3 := T3.cell cq2 (by simp)
    clear T3 m0 c0 cq2 HO2 HK2 HT2
    generalize w2.drewN nq = w4 at *
    have hpn := HK3.out.mem.nd p HPM.out
    obtain ⟨m0, m1, m2, m3⟩ := hpn.cells
    have hpq : p.v.ownBlock ≠ some q := fun e => hqf (TFoot.mem.2 (.inr (.inr ⟨p, HPM.out, by simp [Nd.foot, e]⟩)))
    have hkl : (kids (sh N) p.t.id).length ≤ 1000 := by
      have := nodup_few (HK.out.tree.kids_nodup p.t.id) (fun m hm => kids_sub hm)
      have h2 : (tids (sh N)).length = N.length := by simp [tids, sh]
      omega
    have HDEL := Lib.hid (del_any p.v (kids (sh N) p.t.id) n.t.id q w4 hkl hpn.row cq3 hpq)
    have HPD := Lib.hid hpn
    have hpv := hpn.hv
    clear m0 m1 m2 hpn hpq hkl cq3
    go_wp2_with fail
    refine HDEL.out.mono ?_
    rintro e w5 ⟨v', rfl, hr5, hv5, t5⟩
    have hpb : p.b ∉ p.v.ownBlock.toList := by simpa using hpv
    have hh5 := t5.at HPD.out.hdr hpb
    have m3 : w5.cell? ⟨p.b, 3, none⟩ = some p.v := by simp [World.cell?, hh5]
    have g3 : w5.frozen? ⟨p.b, 3, none⟩ = false := by simp [World.frozen?, hh5]
    have T6 := (t5.mono (S' := p.foot) (by intro y hy; left; simp only [Nd.foot, List.mem_cons]; exact .inr hy)).trans ((Touch.refl [p.b] w5).setCell (p := ⟨p.b, 3, none⟩) (by simp) v') (by intro y hy; left; simp at hy; simp [Nd.foot, hy])
    have H6 : (w5.setCell ⟨p.b, 3, none⟩ v').heap[p.b]? = some (.cells #[.int .i64 p.t.par, .int .u64 p.t.req, p.x, v'] 98 (0, 0)) := by simp [World.setCell, Array.getElem?_modify, hh5]
    have R6 := ((Touch.refl [p.b] w5).setCell (p := ⟨p.b, 3, none⟩) (by simp) v').owns hr5 (by intro g hg e; simp at e; exact hpv (by rw [← hv5, hg, e]))
    obtain ⟨N2, K, pf, hmid⟩ : ∃ N2 K pf, MidC w (w5.setCell ⟨p.b, 3, none⟩ v') t h fh N last n N2 K pf (.slice (some ⟨g, 0, none⟩) l.length cv) l := ⟨_, _, _, MidC.childc HK.out HN.out HPM.out HPE.out HT3.out HO3.out T6 H6 R6 hv5⟩
    have HMD := Lib.hid hmid
    clear hmid
    obtain ⟨av5, cv5, rfl, hw1, hw2, hw3⟩ := hr5.form
    clear T6 H6 R6 hr5 t5 hh5 hw1 hw2 hw3 hpb hv5 hpv HDEL HK3 HO3 HT3
    go_wp2_with fail
    generalize w5.setCell ⟨p.b, 3, none⟩ (.slice av5 ((kids (sh N) p.t.id).filter (isC n.t.id)).length cv5) = w3 at *
    have hmid := HMD.out
    clear HMD m3 g3
  all_goals
    have HMID := Lib.hid hmid
    clear hmid
    go_wp2_with fail
    go_loopw [55] (fun vj wr => ∃ (j : Nat), vj = .int .i64 j ∧ j ≤ l.length ∧ Cn w3 t h fh N2 last K l j wr) (fun vj _ => l.length - (intOf vj).toNat)
    case atStart => exact ⟨0, rfl, by omega, Cn.start HMID.out.mem⟩
    case round =>
      obtain ⟨j, rfl, hjl, fhj, mj, fj, tj⟩ := hrel
      have HM := Lib.hid mj
      have HF := Lib.hid fj
      have HT := Lib.hid tj
      have cj := mj.cell
      have hgf : ∀ g', (Value.slice (some ⟨g, 0, none⟩) l.length cv).ownBlock = some g' → g' ∉ fh := by
        intro g' hg' e
        have h1 := HMID.out.own.new g' hg'
        have h2 := HK.out.mem.lt g' (TFoot.mem.2 (.inr (.inl e)))
        omega
      have HO := Lib.hid (HMID.out.own.touch tj hgf)
      clear mj fj tj hgf
      by_cases hlt : j < l.length
      · have hx := List.getElem?_eq_getElem hlt
        generalize l[j] = i at hx
        have HX := Lib.hid hx
        have p0 := owns_cell HO.out.row j (.int .i64 i) (by simp [hx])
        obtain ⟨m, hm, rfl⟩ := sh_at (N := N2) (by rw [HMID.out.e]; exact HSUB.out.mem i (List.mem_of_getElem? hx))
        have hnd := HSUB.out.nodup
        have hmc : m ∈ cutN N2 (l.take j) := cut_mem.2 ⟨hm, by
          intro e
          obtain ⟨r, hr⟩ := List.mem_iff_getElem?.1 e
          rw [List.getElem?_take] at hr
          split at hr
          · have := nodup_at hnd hr hx
            omega
          · cases hr⟩
        have HRM := Lib.hid (HM.out.bag.remove m.itm (TM.itm_mem hmc))
        have q3 : (j : Int) < (l.length : Int) := by omega
        clear hx hm hmc hnd
        go_wp2_with fail
        refine HRM.out.mono ?_
        rintro e w6 ⟨rfl, nx⟩
        have HC := Lib.hid (Cn.step HX.out HM.out HF.out HT.out nx)
        clear nx p0 cj
        go_wp2_with fail
        go_roundw
        case rel => exact ⟨j + 1, by simp, by omega, HC.out⟩
        case measure => simp [intOf]; omega
      · have hje : j = l.length := by omega
        have HFIN := Lib.hid (HMID.out.fin HK.out HN.out HSUB.out (by rw [← hje]; exact ⟨fhj, HM.out, HF.out, HT.out⟩))
        have q3 : ¬ (j : Int) < (l.length : Int) := by omega
        clear hje cj
        go_wp2_with fail
        go_ret
        exact HFIN.out
end
section
variable {w : World} {t h : Nat} {f : List Nat} {A : List (Tm × Value)} {last : Int}
theorem ab_cut (N : List Nd) (l : List Int) : ab (cutN N l) = (ab N).filter fun a => decide (a.1.id ∉ l) := by
  unfold ab cutN
  rw [List.filter_map]
  rfl
theorem Canc.next {fh : List Nat} {N : List Nd} {n : Nd} {e : Ending} {w' : World} (c : Canc w t h fh N last n e w') :
    ∃ l, e = .returned (.int .i64 (l.length : Nat)) ∧ Sub (sh N) n.t.id l ∧ TNext w t h (TFoot t fh N) ((ab N).filter fun a => decide (a.1.id ∉ l)) last w' := by
  obtain ⟨l, fh', N2, pf, rfl, hs, m, e2, hf, ht, hp⟩ := c
  refine ⟨l, rfl, hs, _, ⟨fh', _, m, by rw [ab_cut, e2], rfl⟩, hf, ht.mono ?_⟩
  intro y hy
  rcases List.mem_append.1 hy with hy | hy
  · exact .inl (TFoot.mem.2 (.inr (.inl hy)))
  · obtain ⟨p, hp1, _, hp2⟩ := hp y hy
    exact .inl (TFoot.mem.2 (.inr (.inr ⟨p, hp1, hp2⟩)))
def CancS (w : World) (t h : Nat) (f : List Nat) (A : List (Tm × Value)) (last i : Int) (e : Ending) (w' : World) : Prop :=
  ∃ l : List Int, e = .returned (.int .i64 (l.length : Nat)) ∧ Sub (A.map Prod.fst) i l ∧ TNext w t h f (A.filter fun a => decide (a.1.id ∉ l)) last w'
theorem TS.cancel (k : TS w t h f A last) (i : Int) (hi : i ∈ tids (A.map Prod.fst)) :
    Calls Tryz.prog 60 #[.pointer (some ⟨t, 0, none⟩), .int .i64 i] w fun e w' => CancS w t h f A last i e w' := by
  obtain ⟨fh, N, hm, rfl, rfl⟩ := k
  rw [ab_fst] at hi
  obtain ⟨n, hn, rfl⟩ := sh_at hi
  refine (cancel_any hm n hn).mono ?_
  intro e w' c
  unfold CancS
  rw [ab_fst]
  exact c.next
theorem TS.cancel_no (k : TS w t h f A last) (i : Int) (hi : okK i) (hn : i ∉ tids (A.map Prod.fst)) :
    Calls Tryz.prog 60 #[.pointer (some ⟨t, 0, none⟩), .int .i64 i] w fun e w' => e = .returned (.int .i64 0) ∧ Touch [] w w' := by
  obtain ⟨fh, N, hm, rfl, rfl⟩ := k
  rw [ab_fst] at hn
  exact S.cancel_no hm i hi hn
end
end Go.Proofs.YtobkanlnnniabaaGreat.S

/-
  The contract of Expire.
-/
namespace Go.Proofs.YtobkanlnnniabaaGreat.S
open Go.RowKit
set_option linter.unusedVariables false
set_option linter.unusedSimpArgs false

section
variable {w : World} {t h : Nat} {fh : List Nat} {N : List Nd} {last : Int}
set_option maxRecDepth 100000 in
set_option maxHeartbeats 1000000 in
theorem expire_empty (k : TM w t h fh [] last) (now : Int) :
    Calls Tryz.prog 44 #[.pointer (some ⟨t, 0, none⟩), .int .u64 now] w fun e w' => e = .returned (.tuple #[.int .i64 0, .string ByteArray.empty, .bool false]) ∧ Touch [] w w' := by
  have c0 := k.mem.cell
  have HM := Lib.hid (Bag.min_no k.mem.bag)
  clear k
  go_enter Tryz.func44, Tryz.ntmps44
  go_wp2_with fail
  refine HM.out.mono ?_
  rintro e w' ⟨rfl, ht⟩
  go_wp2_with fail
  go_ret3
  exact ⟨rfl, ht⟩
set_option maxRecDepth 100000 in
set_option maxHeartbeats 1000000 in
theorem expire_late (k : TM w t h fh N last) (now : Int) (n : Nd) (hn : n ∈ N) (hmin : ∀ m ∈ N, le n.itm.key m.itm.key) (hl : now < n.t.due) :
    Calls Tryz.prog 44 #[.pointer (some ⟨t, 0, none⟩), .int .u64 now] w fun e w' => e = .returned (.tuple #[.int .i64 0, .string ByteArray.empty, .bool false]) ∧ Touch [] w w' := by
  have c0 := k.mem.cell
  have HM := Lib.hid (k.mem.bag.min n.itm (TM.itm_mem hn) (by
    intro y hy
    obtain ⟨m, hm, rfl⟩ := List.mem_map.1 hy
    exact hmin m hm))
  clear k hmin
  go_enter Tryz.func44, Tryz.ntmps44
  go_wp2_with fail
  refine HM.out.mono ?_
  rintro e w' ⟨rfl, ht⟩
  have q1 : n.itm.due = n.t.due := rfl
  rw [q1]
  clear q1
  go_wp2_with fail
  go_ret3
  exact ⟨rfl, ht⟩
def Exp (w : World) (t h : Nat) (fh : List Nat) (N : List Nd) (last : Int) (n : Nd) (e : Ending) (w' : World) : Prop :=
  e = .returned (.tuple #[.int .i64 n.t.id, n.x, .bool true]) ∧ ∃ l, Sub (sh N) n.t.id l ∧ TNext w t h (TFoot t fh N) ((ab N).filter fun a => decide (a.1.id ∉ l)) last w'
theorem TNext.pre {w0 w w' : World} {t h : Nat} {f : List Nat} {A : List (Tm × Value)} {last : Int} (h0 : Touch [] w0 w) (k : TNext w t h f A last w') : TNext w0 t h f A last w' := by
  obtain ⟨f', h1, h2, h3⟩ := k
  exact ⟨f', h1, fun y hy => by
    rcases h2 y hy with e | e
    · exact .inl e
    · exact .inr (Nat.le_trans h0.size e), (h0.mono (by simp)).trans h3 (fun y hy => .inl hy)⟩
theorem TNext.post {w w' w2 : World} {t h : Nat} {f : List Nat} {A : List (Tm × Value)} {last : Int} (k : TNext w t h f A last w') (h0 : Touch [] w' w2) : TNext w t h f A last w2 := by
  obtain ⟨f', h1, h2, h3⟩ := k
  exact ⟨f', h1.touch h0 (by simp), h2, h3.trans h0 (by simp)⟩
set_option maxRecDepth 100000 in
set_option maxHeartbeats 1000000 in
theorem expire_due (k : TM w t h fh N last) (now : Int) (n : Nd) (hn : n ∈ N) (hmin : ∀ m ∈ N, le n.itm.key m.itm.key) (hl : n.t.due ≤ now) :
    Calls Tryz.prog 44 #[.pointer (some ⟨t, 0, none⟩), .int .u64 now] w fun e w' => Exp w t h fh N last n e w' := by
  have c0 := k.mem.cell
  have HM := Lib.hid (k.mem.bag.min n.itm (TM.itm_mem hn) (by
    intro y hy
    obtain ⟨m, hm, rfl⟩ := List.mem_map.1 hy
    exact hmin m hm))
  have HK := Lib.hid k
  have HN := Lib.hid hn
  have hl2 : ¬ now < n.t.due := by omega
  clear k hmin hn hl
  go_enter Tryz.func44, Tryz.ntmps44
  go_wp2_with fail
  refine HM.out.mono ?_
  rintro e w1 ⟨rfl, ht⟩
  have HT := Lib.hid ht
  have HK1 := Lib.hid (HK.out.touch ht (by simp))
  have q1 : n.itm.due = n.t.due := rfl
  have q2 : n.itm.id = n.t.id := rfl
  have q3 : n.itm.x = .pointer (some ⟨n.b, 0, none⟩) := rfl
  rw [q1, q2, q3]
  clear q1 q2 q3 HM c0 ht
  go_wp2_with fail
  refine (cancel_any HK1.out n HN.out).mono ?_
  rintro e w2 ⟨l, fh', N2, pf, rfl, hs, m, e2, hf, ht2, hp⟩
  have hb : n.b ∉ fh ++ pf := by
    intro hy
    rcases List.mem_append.1 hy with hy | hy
    · exact HK.out.mem.nf n HN.out n.b (by simp [Nd.foot]) hy
    · obtain ⟨p, hp1, hp2, hp3⟩ := hp _ hy
      have hne : n.t.id ≠ p.t.id := by
        have := HK.out.tree.up n.t (sh_mem HN.out)
        omega
      exact HK.out.mem.apart HK.out.ids HN.out hp1 hne n.b (by simp [Nd.foot]) hp3
  have x0 := ht2.cell ((HK1.out.mem.nd n HN.out).cells).2.2.1 hb
  have HC := Lib.hid (show ∃ l, Sub (sh N) n.t.id l ∧ TNext w1 t h (TFoot t fh N) ((ab N).filter fun a => decide (a.1.id ∉ l)) last w2 from by
    obtain ⟨l', e', h1, h2⟩ := Canc.next (e := .returned (.int .i64 (l.length : Nat))) ⟨l, fh', N2, pf, rfl, hs, m, e2, hf, ht2, hp⟩
    exact ⟨l', h1, h2⟩)
  clear hs m e2 hf ht2 hp hb
  go_wp2_with fail
  go_quiet (fail)
  go_wp2_with fail
  go_ret3
  obtain ⟨l', h1, h2⟩ := HC.out
  exact ⟨rfl, l', h1, (h2.pre HT.out).post ((Touch.refl [] w2).drews nq)⟩
end
section
variable {w : World} {t h : Nat} {f : List Nat} {A : List (Tm × Value)} {last : Int}
def tkey (a : Tm) : Key := ⟨a.id, a.due⟩
theorem TS.expire_empty (k : TS w t h f [] last) (now : Int) :
    Calls Tryz.prog 44 #[.pointer (some ⟨t, 0, none⟩), .int .u64 now] w fun e w' => e = .returned (.tuple #[.int .i64 0, .string ByteArray.empty, .bool false]) ∧ Touch [] w w' := by
  obtain ⟨fh, N, hm, hA, rfl⟩ := k
  have : N = [] := by
    unfold ab at hA
    simpa using hA
  subst this
  exact S.expire_empty hm now
theorem TS.expire_late (k : TS w t h f A last) (now : Int) (a : Tm × Value) (ha : a ∈ A) (hmin : ∀ b ∈ A, le (tkey a.1) (tkey b.1)) (hl : now < a.1.due) :
    Calls Tryz.prog 44 #[.pointer (some ⟨t, 0, none⟩), .int .u64 now] w fun e w' => e = .returned (.tuple #[.int .i64 0, .string ByteArray.empty, .bool false]) ∧ Touch [] w w' := by
  obtain ⟨fh, N, hm, rfl, rfl⟩ := k
  obtain ⟨n, hn, rfl⟩ := List.mem_map.1 ha
  exact S.expire_late hm now n hn (fun m hm => hmin (m.t, m.x) (List.mem_map.2 ⟨m, hm, rfl⟩)) hl
def ExpS (w : World) (t h : Nat) (f : List Nat) (A : List (Tm × Value)) (last : Int) (a : Tm × Value) (e : Ending) (w' : World) : Prop :=
  e = .returned (.tuple #[.int .i64 a.1.id, a.2, .bool true]) ∧ ∃ l, Sub (A.map Prod.fst) a.1.id l ∧ TNext w t h f (A.filter fun a => decide (a.1.id ∉ l)) last w'
theorem TS.expire (k : TS w t h f A last) (now : Int) (a : Tm × Value) (ha : a ∈ A) (hmin : ∀ b ∈ A, le (tkey a.1) (tkey b.1)) (hl : a.1.due ≤ now) :
    Calls Tryz.prog 44 #[.pointer (some ⟨t, 0, none⟩), .int .u64 now] w fun e w' => ExpS w t h f A last a e w' := by
  obtain ⟨fh, N, hm, rfl, rfl⟩ := k
  obtain ⟨n, hn, rfl⟩ := List.mem_map.1 ha
  refine (expire_due hm now n hn (fun m hm => hmin (m.t, m.x) (List.mem_map.2 ⟨m, hm, rfl⟩)) hl).mono ?_
  intro e w' hx
  unfold ExpS
  rw [ab_fst]
  exact hx
end
end Go.Proofs.YtobkanlnnniabaaGreat.S

/-
  Timers above a world: what each call leaves.
-/
namespace Go.Proofs.YtobkanlnnniabaaGreat.S
open Go.RowKit
set_option linter.unusedVariables false
set_option linter.unusedSimpArgs false

def Abv (w0 w : World) (t h : Nat) (A : List (Tm × Value)) (last : Int) : Prop := ∃ f, TS w t h f A last ∧ (∀ y ∈ f, w0.heap.size ≤ y) ∧ Touch [] w0 w
theorem Abv.next {w0 w w' : World} {t h : Nat} {f : List Nat} {A : List (Tm × Value)} {last : Int} (hf : ∀ y ∈ f, w0.heap.size ≤ y) (ht : Touch [] w0 w) (k : TNext w t h f A last w') : Abv w0 w' t h A last := by
  obtain ⟨f', h1, h2, h3⟩ := k
  exact ⟨f', h1, fun y hy => by
    rcases h2 y hy with e | e
    · exact hf y e
    · exact Nat.le_trans ht.size e, ht.trans h3 (fun y hy => .inr (hf y hy))⟩
section
variable {w0 w : World} {t h : Nat} {A : List (Tm × Value)} {last : Int}
theorem Abv.touch {w' : World} (k : Abv w0 w t h A last) (ht : Touch [] w w') : Abv w0 w' t h A last := by
  obtain ⟨f, h1, h2, h3⟩ := k
  exact ⟨f, h1.touch ht (by simp), h2, h3.trans ht (by simp)⟩
theorem Abv.tt (k : Abv w0 w t h A last) : Touch [] w0 w := by
  obtain ⟨f, h1, h2, h3⟩ := k
  exact h3
theorem Abv.tree (k : Abv w0 w t h A last) : Tree (A.map Prod.fst) last := by
  obtain ⟨f, h1, h2, h3⟩ := k
  exact h1.tree
theorem Abv.due (k : Abv w0 w t h A last) : ∀ s ∈ A.map Prod.fst, DueOk (A.map Prod.fst) s := by
  obtain ⟨f, h1, h2, h3⟩ := k
  exact h1.due
theorem Abv.new (w : World) : Calls Tryz.prog 41 #[] w fun e w' => ∃ t h, e = .returned (.pointer (some ⟨t, 0, none⟩)) ∧ Abv w w' t h [] 0 := by
  refine (tnew_any w).mono ?_
  rintro e w' ⟨t, h, f, rfl, h1, h2, h3⟩
  exact ⟨t, h, rfl, f, h1, h2, h3⟩
theorem Abv.start (k : Abv w0 w t h A last) (par due : Int) (x : Value) (hxo : x.oneCell' = true) (hR : 0 ≤ due ∧ due ≤ maxT) (hl : last < 1000) (hfew : A.length < 1000) (hp : par = 0 ∨ par ∈ tids (A.map Prod.fst)) :
    Calls Tryz.prog 42 #[.pointer (some ⟨t, 0, none⟩), .int .i64 par, .int .u64 due, x] w fun e w' => e = .returned (.tuple #[.int .i64 (last + 1), .bool true]) ∧ Abv w0 w' t h (A ++ [(⟨last + 1, par, due, min due (lim (A.map Prod.fst) par)⟩, x)]) (last + 1) := by
  obtain ⟨f, h1, h2, h3⟩ := k
  exact (h1.start par due x hxo hR hl hfew hp).mono fun e w' ⟨e1, e2⟩ => ⟨e1, Abv.next h2 h3 e2⟩
theorem Abv.start_no (k : Abv w0 w t h A last) (par due : Int) (x : Value) (hp : okK par) (h0 : par ≠ 0) (hn : par ∉ tids (A.map Prod.fst)) :
    Calls Tryz.prog 42 #[.pointer (some ⟨t, 0, none⟩), .int .i64 par, .int .u64 due, x] w fun e w' => e = .returned (.tuple #[.int .i64 0, .bool false]) ∧ Abv w0 w' t h A last := by
  obtain ⟨f, h1, h2, h3⟩ := k
  refine (h1.start_no par due x hp h0 hn).mono ?_
  rintro e w' ⟨rfl, rfl⟩
  exact ⟨rfl, f, h1, h2, h3⟩
theorem Abv.deadline (k : Abv w0 w t h A last) (s : Tm) (hs : s ∈ A.map Prod.fst) :
    Calls Tryz.prog 43 #[.pointer (some ⟨t, 0, none⟩), .int .i64 s.id] w fun e w' => e = .returned (.tuple #[.int .u64 s.due, .bool true]) ∧ Abv w0 w' t h A last := by
  have k' := k
  obtain ⟨f, h1, h2, h3⟩ := k
  exact (h1.deadline s hs).mono fun e w' ⟨e1, e2⟩ => ⟨e1, k'.touch e2⟩
theorem Abv.deadline_no (k : Abv w0 w t h A last) (i : Int) (hi : okK i) (hn : i ∉ tids (A.map Prod.fst)) :
    Calls Tryz.prog 43 #[.pointer (some ⟨t, 0, none⟩), .int .i64 i] w fun e w' => e = .returned (.tuple #[.int .u64 0, .bool false]) ∧ Abv w0 w' t h A last := by
  obtain ⟨f, h1, h2, h3⟩ := k
  refine (h1.deadline_no i hi hn).mono ?_
  rintro e w' ⟨rfl, rfl⟩
  exact ⟨rfl, f, h1, h2, h3⟩
theorem Abv.len (k : Abv w0 w t h A last) :
    Calls Tryz.prog 45 #[.pointer (some ⟨t, 0, none⟩)] w fun e w' => e = .returned (.int .i64 A.length) ∧ w' = w := by
  obtain ⟨f, h1, h2, h3⟩ := k
  exact h1.len
def Cut (w0 : World) (t h : Nat) (A : List (Tm × Value)) (last i : Int) (l : List Int) (w' : World) : Prop := Sub (A.map Prod.fst) i l ∧ Abv w0 w' t h (A.filter fun a => decide (a.1.id ∉ l)) last
theorem Abv.cancel (k : Abv w0 w t h A last) (i : Int) (hi : i ∈ tids (A.map Prod.fst)) :
    Calls Tryz.prog 60 #[.pointer (some ⟨t, 0, none⟩), .int .i64 i] w fun e w' => ∃ l : List Int, e = .returned (.int .i64 (l.length : Nat)) ∧ Cut w0 t h A last i l w' := by
  obtain ⟨f, h1, h2, h3⟩ := k
  refine (h1.cancel i hi).mono ?_
  rintro e w' ⟨l, rfl, hs, hn⟩
  exact ⟨l, rfl, hs, Abv.next h2 h3 hn⟩
theorem Abv.cancel_no (k : Abv w0 w t h A last) (i : Int) (hi : okK i) (hn : i ∉ tids (A.map Prod.fst)) :
    Calls Tryz.prog 60 #[.pointer (some ⟨t, 0, none⟩), .int .i64 i] w fun e w' => e = .returned (.int .i64 0) ∧ Abv w0 w' t h A last := by
  have k' := k
  obtain ⟨f, h1, h2, h3⟩ := k
  exact (h1.cancel_no i hi hn).mono fun e w' ⟨e1, e2⟩ => ⟨e1, k'.touch e2⟩
theorem Abv.expire_empty (k : Abv w0 w t h [] last) (now : Int) :
    Calls Tryz.prog 44 #[.pointer (some ⟨t, 0, none⟩), .int .u64 now] w fun e w' => e = .returned (.tuple #[.int .i64 0, .string ByteArray.empty, .bool false]) ∧ Abv w0 w' t h [] last := by
  have k' := k
  obtain ⟨f, h1, h2, h3⟩ := k
  exact (h1.expire_empty now).mono fun e w' ⟨e1, e2⟩ => ⟨e1, k'.touch e2⟩
theorem Abv.expire_late (k : Abv w0 w t h A last) (now : Int) (a : Tm × Value) (ha : a ∈ A) (hmin : ∀ b ∈ A, le (tkey a.1) (tkey b.1)) (hl : now < a.1.due) :
    Calls Tryz.prog 44 #[.pointer (some ⟨t, 0, none⟩), .int .u64 now] w fun e w' => e = .returned (.tuple #[.int .i64 0, .string ByteArray.empty, .bool false]) ∧ Abv w0 w' t h A last := by
  have k' := k
  obtain ⟨f, h1, h2, h3⟩ := k
  exact (h1.expire_late now a ha hmin hl).mono fun e w' ⟨e1, e2⟩ => ⟨e1, k'.touch e2⟩
theorem Abv.expire (k : Abv w0 w t h A last) (now : Int) (a : Tm × Value) (ha : a ∈ A) (hmin : ∀ b ∈ A, le (tkey a.1) (tkey b.1)) (hl : a.1.due ≤ now) :
    Calls Tryz.prog 44 #[.pointer (some ⟨t, 0, none⟩), .int .u64 now] w fun e w' => e = .returned (.tuple #[.int .i64 a.1.id, a.2, .bool true]) ∧ ∃ l, Cut w0 t h A last a.1.id l w' := by
  obtain ⟨f, h1, h2, h3⟩ := k
  refine (h1.expire now a ha hmin hl).mono ?_
  rintro e w' ⟨rfl, l, hs, hn⟩
  exact ⟨rfl, l, hs, Abv.next h2 h3 hn⟩
end
end Go.Proofs.YtobkanlnnniabaaGreat.S

/-
  The statements' sanity check is true.
-/
namespace Go.Proofs.YtobkanlnnniabaaGreat
open Go.RowKit
set_option linter.unusedVariables false
set_option linter.unusedSimpArgs false

def awA : Tm × Value := (⟨1, 0, 10, 10⟩, .string ⟨#[97]⟩)
def awB : Tm × Value := (⟨2, 1, 20, 10⟩, .string ⟨#[98]⟩)
theorem aw1 : ([] : List (Tm × Value)) ++ [((⟨0 + 1, 0, 10, min 10 (lim (([] : List (Tm × Value)).map Prod.fst) 0)⟩ : Tm), Value.string ⟨#[97]⟩)] = [awA] := by
  simp [awA, lim, maxT]
  omega
theorem aw2 : [awA] ++ [((⟨0 + 1 + 1, 1, 20, min 20 (lim ([awA].map Prod.fst) 1)⟩ : Tm), Value.string ⟨#[98]⟩)] = [awA, awB] := by
  simp [awA, awB, lim]
  omega
theorem aw3 {l : List Int} (h : Sub ([awA, awB].map Prod.fst) 1 l) : ([awA, awB].filter fun a => decide (a.1.id ∉ l)) = [] := by
  have h1 : (1 : Int) ∈ l := (h.iff 1).2 (.self (by simp [tids, awA, awB]))
  have h2 : (2 : Int) ∈ l := (h.iff 2).2 (.kid (.self (by simp [tids, awA, awB])) (by simp [kids, awA, awB]))
  simp [awA, awB, h1, h2]
set_option maxRecDepth 100000 in
set_option maxHeartbeats 2000000 in
theorem awake_any (w : World) : Calls Tryz.prog 17 #[] w fun e w' => e = .returned (.bool true) ∧ Touch [] w w' := by
  go_enter Tryz.func17, Tryz.ntmps17
  go_wp2_with fail
  refine (S.Abv.new w).mono ?_
  rintro e w1 ⟨t, h, rfl, k1⟩
  have H1 := Lib.hid k1
  clear k1
  go_wp2_with fail
  refine (H1.out.start 0 10 _ (by rfl) (by unfold maxT; omega) (by omega) (by simp) (.inl rfl)).mono ?_
  rintro e w2 ⟨rfl, k2⟩
  rw [aw1] at k2
  have H2 := Lib.hid k2
  clear k2 H1
  go_wp2_with fail
  refine (H2.out.start 1 20 _ (by rfl) (by unfold maxT; omega) (by omega) (by simp) (.inr (by simp [tids, awA]))).mono ?_
  rintro e w3 ⟨rfl, k3⟩
  rw [aw2] at k3
  have H3 := Lib.hid k3
  clear k3 H2
  go_wp2_with fail
  refine (H3.out.deadline awB.1 (by simp)).mono ?_
  rintro e w4 ⟨rfl, k4⟩
  have H4 := Lib.hid k4
  clear k4 H3
  have e1 : awB.1.due = 10 := rfl
  rw [e1]
  go_wp2_with fail
  refine (H4.out.expire 10 awA (by simp) (by simp [awA, awB, S.tkey, le]) (by simp [awA])).mono ?_
  rintro e w5 ⟨rfl, l, hs, k5⟩
  rw [aw3 hs] at k5
  have H5 := Lib.hid k5
  clear k5 H4 hs
  have e2 : awA.1.id = 1 := rfl
  have e3 : awA.2 = .string ⟨#[97]⟩ := rfl
  rw [e2, e3]
  clear e1 e2 e3
  go_wp2_with fail
  refine H5.out.len.mono ?_
  rintro e w6 ⟨rfl, rfl⟩
  go_wp2_with fail
  go_ret
  exact ⟨rfl, H5.out.tt⟩
end Go.Proofs.YtobkanlnnniabaaGreat

/-
  The walk of TimerMatchesModel: true at every slice of operations. No condition.
-/
namespace Go.Proofs.YtobkanlnnniabaaGreat.G
open Go.ChangeShapes Go.WideShapes Go.RowKit
set_option linter.unusedVariables false
set_option linter.unusedSimpArgs false
-- RL w r v
def someH (n : Int) : Int := if gmod n 11 = 10 then n else gmod n 24
theorem someH_ok {n : Int} (h : okK n) : okK (someH n) := by
  unfold someH
  split
  · exact h
  · have h1 := gmod_lo n 24 (by omega)
    have h2 := gmod_hi n 24 (by omega)
    exact okN_of (by omega) (by omega)
set_option maxRecDepth 100000 in
set_option maxHeartbeats 1000000 in
theorem some_any (n : Int) (w : World) : Calls Tryz.prog 5 #[.int .i64 n] w fun e w' => e = .returned (.int .i64 (someH n)) ∧ w = w' := by
  by_cases h : gmod n 11 = 10
  · have HE := Lib.hid (show someH n = n by unfold someH; rw [if_pos h])
    have h1 : (gmod n 11 == 10) = true := by simpa using h
    clear h
    go_enter Tryz.func5, Tryz.ntmps5
    go_wp2_with fail
    refine (mod_any n 11 _ (by omega) (by omega)).mono ?_
    rintro e w' ⟨rfl, rfl⟩
    go_wp2_with fail
    go_ret
    exact ⟨by rw [HE.out]; rfl, rfl⟩
  · have HE := Lib.hid (show someH n = gmod n 24 by unfold someH; rw [if_neg h])
    have h1 : (gmod n 11 == 10) = false := by simpa using h
    clear h
    go_enter Tryz.func5, Tryz.ntmps5
    go_wp2_with fail
    refine (mod_any n 11 _ (by omega) (by omega)).mono ?_
    rintro e w' ⟨rfl, rfl⟩
    go_wp2_with fail
    refine (mod_any n 24 _ (by omega) (by omega)).mono ?_
    rintro e w' ⟨rfl, rfl⟩
    go_wp2_with fail
    go_ret
    exact ⟨by rw [HE.out]; rfl, rfl⟩
theorem due_any (n : Int) (h : U64 n) : ∃ d : Int, (0 ≤ d ∧ d ≤ maxT) ∧ ∀ w, Calls Tryz.prog 6 #[.int .u64 n] w fun e w' => e = .returned (.int .u64 d) ∧ w = w' := by
  have hn := u64_max h
  by_cases h8 : n % 9 = 8
  · refine ⟨n, hn, fun w => ?_⟩
    have h1 : (n % 9 == 8) = true := by simpa using h8
    clear h8
    go_enter Tryz.func6, Tryz.ntmps6
    go_wp2_with fail
    go_ret
    exact ⟨rfl, rfl⟩
  · refine ⟨n % 25, ⟨Int.emod_nonneg _ (by omega), by unfold maxT; omega⟩, fun w => ?_⟩
    have h1 : (n % 9 == 8) = false := by simpa using h8
    clear h8
    go_enter Tryz.func6, Tryz.ntmps6
    go_wp2_with fail
    go_ret
    exact ⟨rfl, rfl⟩
theorem eqG (a b c : Int) (w : World) : (Op.equalIn 10000 26 (.agg #[.int .i64 a, .int .i64 b, .int .i64 c]) (.agg #[.int .i64 a, .int .i64 b, .int .i64 c])).run Tryz.prog w = .ok true w := by
  have h3 : ∀ x w, (Op.equalIn 9999 3 (.int .i64 x) (.int .i64 x)).run Tryz.prog w = .ok true w := by
    intro x w
    unfold Op.equalIn
    simp [Tryz.underlying3]
  have p0 : ∀ w, (part 3 #[.int .i64 a, .int .i64 b, .int .i64 c] 0).run Tryz.prog w = .ok (.int .i64 a) w := by
    intro w
    simp [part, Tryz.isAgg3]
  have p1 : ∀ w, (part 3 #[.int .i64 a, .int .i64 b, .int .i64 c] 1).run Tryz.prog w = .ok (.int .i64 b) w := by
    intro w
    simp [part, Tryz.isAgg3]
  have p2 : ∀ w, (part 3 #[.int .i64 a, .int .i64 b, .int .i64 c] 2).run Tryz.prog w = .ok (.int .i64 c) w := by
    intro w
    simp [part, Tryz.isAgg3]
  unfold Op.equalIn
  simp [Tryz.underlying26, Tryz.underlying3, p0, p1, p2, h3]
/-- An operation. -/
structure Opn where
  k : Int
  o : Int
  d : Int
  x : Tag
def encP (p : Opn) : List Value := [.int .i64 p.k, .int .i64 p.o, .int .u64 p.d, .int .i64 p.x.a, .int .i64 p.x.b, .int .i64 p.x.c]
def rP (l : List Opn) : List (List Value) := l.map encP
theorem rP_len (l : List Opn) : (rP l).length = l.length := by simp [rP]
theorem encP_one (p : Opn) : ∀ u ∈ encP p, u.oneCell' = true := by
  intro u hu
  simp only [encP, List.mem_cons, List.not_mem_nil, or_false] at hu
  rcases hu with rfl | rfl | rfl | rfl | rfl | rfl <;> rfl
theorem sizeP : (Tryz.prog.info? 33).map (·.size) = some 6 := by kernel_rfl
theorem cellsP {w : World} {g f : Nat} {p : Opn} (h : w.rangeAt g f (encP p)) : w.cell? ⟨g, f, none⟩ = some (.int .i64 p.k) ∧ w.cell? ⟨g, f + 1, none⟩ = some (.int .i64 p.o) ∧ w.cell? ⟨g, f + 2, none⟩ = some (.int .u64 p.d) ∧ w.rangeAt g (f + 3) [.int .i64 p.x.a, .int .i64 p.x.b, .int .i64 p.x.c] := by
  refine ⟨by simpa using h 0 _ rfl, h 1 _ rfl, h 2 _ rfl, fun i u hu => ?_⟩
  have := h (3 + i) u (by rw [Nat.add_comm]; exact hu)
  rw [← Nat.add_assoc] at this
  exact this
theorem Rd.atP {w : World} {b n cap : Nat} {a : Option Addr} {l : List Opn} (h : Rd w 6 b (.slice a n cap) (rP l)) {i : Nat} {o : Opn} (hi : l[i]? = some o) :
    ∃ off, a = some ⟨b, off, none⟩ ∧ w.rangeAt b (off + i * 6) (encP o) := by
  obtain ⟨off, ha, hat⟩ := h.at (by intro e; rw [rP, List.map_eq_nil_iff] at e; subst e; simp at hi)
  exact ⟨off, ha, hat i (encP o) (by simp [rP, hi])⟩
structure OkP (p : Opn) : Prop where
  o : okK p.o
  d : U64 p.d
theorem ops_in {H : Type} {enc : TypeId × Value → H} {w : World} {base : Nat} {spare : Nat → Bool} {held : Bool} {v : Value} (hv : IsSlice enc Tryz.prog w base spare held [3, 3, 31, 3, 3, 3] v) : ∃ (b : Nat) (l : List Opn), Rd w 6 b v (rP l) ∧ ∀ p ∈ l, OkP p := by
  obtain ⟨b, xs, hr, hx⟩ := slice_rows (by simp) hv
  have h : ∃ l : List Opn, xs = rP l ∧ ∀ p ∈ l, OkP p := by
    clear hr
    induction xs with
    | nil => exact ⟨[], rfl, by simp⟩
    | cons x xs ih =>
      obtain ⟨l, rfl, hl⟩ := ih (fun y hy => hx y (List.mem_cons_of_mem _ hy))
      obtain ⟨hlen, hc⟩ := hx x List.mem_cons_self
      obtain ⟨v0, e0, l0⟩ := hc 0 3 rfl
      obtain ⟨v1, e1, l1⟩ := hc 1 3 rfl
      obtain ⟨v2, e2, l2⟩ := hc 2 31 rfl
      obtain ⟨v3, e3, l3⟩ := hc 3 3 rfl
      obtain ⟨v4, e4, l4⟩ := hc 4 3 rfl
      obtain ⟨v5, e5, l5⟩ := hc 5 3 rfl
      obtain ⟨a0, rfl, w0⟩ := l0.int Tryz.underlying3
      obtain ⟨a1, rfl, w1⟩ := l1.int Tryz.underlying3
      obtain ⟨a2, rfl, w2⟩ := l2.int Tryz.underlying31
      obtain ⟨a3, rfl, w3⟩ := l3.int Tryz.underlying3
      obtain ⟨a4, rfl, w4⟩ := l4.int Tryz.underlying3
      obtain ⟨a5, rfl, w5⟩ := l5.int Tryz.underlying3
      refine ⟨⟨a0, a1, a2, ⟨a3, a4, a5⟩⟩ :: l, ?_, ?_⟩
      · match x, hlen with
        | [y0, y1, y2, y3, y4, y5], _ =>
          simp at e0 e1 e2 e3 e4 e5
          subst e0 e1 e2 e3 e4 e5
          rfl
      · intro y hy
        rcases List.mem_cons.1 hy with rfl | hy
        · exact ⟨w1, w2⟩
        · exact hl y hy
  obtain ⟨l, rfl, hl⟩ := h
  exact ⟨b, l, hr, hl⟩
set_option maxRecDepth 100000 in
set_option maxHeartbeats 8000000 in
theorem walk3 (v : Value) (b : Nat) (l : List Opn) (w : World) (hr : Rd w 6 b v (rP l)) (hok : ∀ p ∈ l, OkP p) :
    Calls Tryz.prog 3 #[v] w fun e w' => e = .returned (.bool true) ∧ Touch [] w w' := by
  obtain ⟨a, cap, rfl, hc, hcm⟩ := hr.form
  rw [rP_len] at hc hr ⊢
  have hcap : cap ≤ 9223372036854775807 := by unfold maxLen at hcm; omega
  have H0 := Lib.hid hr
  have OK := Lib.hid hok
  clear hcm hr hok
  go_enter Tryz.func3, Tryz.ntmps3
  go_wp2_with fail
  refine (Abv.new w).mono ?_
  rintro e w1 ⟨t, h, rfl, k1⟩
  have ta := (Touch.refl [] w1).alloc (.cells #[.slice none 0 0, .int .i64 0] 30)
  have hz : (w1.alloc (.cells #[.slice none 0 0, .int .i64 0] 30)).heap.size = w1.heap.size + 1 := by simp
  have s0 : St [] w (w1.alloc (.cells #[.slice none 0 0, .int .i64 0] 30)) t h w1.heap.size 0 := by
    refine ⟨.slice none 0 0, [], 0, ⟨k1.avoid ta ?_, ⟨heap_alloc_new w1 _, World.ownsRow_nil _ _ _ _, by simp [Value.ownBlock], by simp⟩, by simp⟩, by omega, by omega, by simp⟩
    intro g hg
    simp [RFoot, Value.ownBlock] at hg
    subst hg
    omega
  have HS0 := Lib.hid s0
  clear k1 ta s0 hz
  go_wp2_with ((with_reducible refine at_build 30 ?_); refine wpList_built rfl 30 _ rfl [] #[.slice none 0 0, .int .i64 0] rfl (by kernel_rfl) ?_)
  generalize w1.alloc (.cells #[.slice none 0 0, .int .i64 0] 30) = w2 at *
  generalize w1.heap.size = r at *
  go_loopw [5] (fun vi wr => ∃ (i : Nat), vi = .int .i64 i ∧ i ≤ l.length ∧ i ≤ 50 ∧ St [] w wr t h r i) (fun vi _ => 50 - (intOf vi).toNat)
  case atStart => exact ⟨0, rfl, by omega, by omega, HS0.out⟩
  case round =>
    obtain ⟨i, rfl, hil, hi50, hs⟩ := hrel
    have HS := Lib.hid hs
    clear hs
    by_cases hlt : i < l.length ∧ i < 50
    · have hb1 : (i : Int) < (l.length : Int) := by omega
      have hb2 : (i : Int) < 50 := by omega
      have hi5 : i < 50 := hlt.2
      have hx := List.getElem?_eq_getElem hlt.1
      have hp := OK.out _ (List.getElem_mem hlt.1)
      generalize l[i]'hlt.1 = p at hx hp
      obtain ⟨off, rfl, rI⟩ := Rd.atP (H0.out.touch HS.out.tt (by simp)) hx
      have hwi : IntKind.i64.wrap ((i : Int) + 1) = (i : Int) + 1 := by rw [IntKind.wrap_i64] <;> omega
      obtain ⟨due, hdu, hdc⟩ := due_any p.d hp.d
      obtain ⟨id, hid⟩ : ∃ id, id = someH p.o := ⟨_, rfl⟩
      have HID := Lib.hid (show okK id by rw [hid]; exact someH_ok hp.o)
      have HSH := Lib.hid (fun w => some_any p.o w)
      rw [← hid] at HSH
      have HDU := Lib.hid hdu
      have HSD := Lib.hid hdc
      have hgl : wr.heap.size < (wr.alloc (.cells (encP p).toArray 33)).heap.size := by simp
      have HSB := Lib.hid (HS.out.add ((Touch.refl [] wr).alloc (.cells (encP p).toArray 33)) (Nat.le_refl _) hgl)
      have HG := Lib.hid (heap_alloc_new wr (.cells (encP p).toArray 33))
      clear hx hp hid hdu hdc HS hlt hgl
      go_wp2_with (first | ((with_reducible refine at_load 33 ?_); refine wpList_load_mid rfl 33 _ rfl b (off + i * 6) rfl (encP p) _ rI Tryz.underlying33 rfl sizeP ?_) | ((with_reducible refine at_store 33 ?_); refine wpList_store_new rfl 33 _ _ rfl _ _ (encP p) (by rfl) (by rfl) rfl sizeP (encP_one p) ?_))
      generalize hwB : wr.alloc (.cells (encP p).toArray 33) = wB at *
      generalize hgO : wr.heap.size = gO at *
      have HO := Lib.hid (range_block (cs := encP p) HG.out)
      clear hwB hgO rI
      refine wp_region_held (S := Touch [] wB.drew) (by kernel_rfl) ?_
      change wpAnyH _ _ _ _ _ _ _ _ wB.drew
      have hO := ((Touch.refl [] wB).drew).range HO.out (by simp)
      have hGX := ((Touch.refl [] wB).drew).at HG.out (by simp)
      have HSX := Lib.hid (HSB.out.touch0 (Touch.refl [] wB).drew)
      generalize wB.drew = X at *
      have hS := Touch.refl [] X
      obtain ⟨e0, e1, e2, _⟩ := cellsP hO
      refine wpAnyH_take (i := 0) (oi := { dst := some 40, op := Op.fieldAddr 33 (Operand.tmp 6) 1, type := 0, pos := "law.go:75", after := #[], guard := none }) (v := .pointer (some ⟨gO, 1, none⟩)) rfl (by kernel_rfl) (by kernel_rfl) (by kernel_rfl) (fun _ _ _ h => h) (Or.inl ⟨by rfl, fun w' hw => by go_simp⟩) hS ?_
      try simp only [Act.put, List.setIfInBounds_toArray, List.set_cons_zero, List.set_cons_succ]
      refine wpAnyH_take (i := 1) (oi := { dst := some 41, op := Op.load 3 (Operand.tmp 40), type := 3, pos := "law.go:75", after := #[{ on := 0, ground := Ground.data }], guard := none }) (v := .int .i64 p.o) rfl (by kernel_rfl) (by kernel_rfl) (by kernel_rfl) (fun _ _ _ h => h) (Or.inl ⟨by rfl, fun w' hw => by (have q := hw.cell e1 (by simp); go_simp)⟩) hS ?_
      try simp only [Act.put, List.setIfInBounds_toArray, List.set_cons_zero, List.set_cons_succ]
      refine wpAnyH_take (i := 3) (oi := { dst := some 43, op := Op.fieldAddr 33 (Operand.tmp 6) 2, type := 0, pos := "law.go:75", after := #[], guard := none }) (v := .pointer (some ⟨gO, 2, none⟩)) rfl (by kernel_rfl) (by kernel_rfl) (by kernel_rfl) (fun _ _ _ h => h) (Or.inl ⟨by rfl, fun w' hw => by go_simp⟩) hS ?_
      try simp only [Act.put, List.setIfInBounds_toArray, List.set_cons_zero, List.set_cons_succ]
      refine wpAnyH_take (i := 4) (oi := { dst := some 44, op := Op.load 31 (Operand.tmp 43), type := 31, pos := "law.go:75", after := #[{ on := 3, ground := Ground.data }], guard := none }) (v := .int .u64 p.d) rfl (by kernel_rfl) (by kernel_rfl) (by kernel_rfl) (fun _ _ _ h => h) (Or.inl ⟨by rfl, fun w' hw => by (have q := hw.cell e2 (by simp); go_simp)⟩) hS ?_
      try simp only [Act.put, List.setIfInBounds_toArray, List.set_cons_zero, List.set_cons_succ]
      refine wpAnyH_ready (rs := [2]) (by kernel_rfl) (by simp) ?_
      refine AllReadyH.cons (o := { dst := some 42, op := Op.call { callee := Callee.value (Operand.func 5), args := #[Operand.tmp 41], argTypes := #[3] }, type := 3, pos := "law.go:75", after := #[{ on := 1, ground := Ground.data }], guard := none }) rfl (fun K hK => ?_) AllReadyH.nil
      go_simp
      refine (HSH.out _).mono ?_
      rintro e w' ⟨rfl, rfl⟩
      refine hK.out _ _ hS (fun _ => ?_)
      clear hK K
      try simp only [Act.put, List.setIfInBounds_toArray, List.set_cons_zero, List.set_cons_succ]
      refine wpAnyH_ready (rs := [5]) (by kernel_rfl) (by simp) ?_
      refine AllReadyH.cons (o := { dst := some 45, op := Op.call { callee := Callee.value (Operand.func 6), args := #[Operand.tmp 44], argTypes := #[31] }, type := 31, pos := "law.go:75", after := #[{ on := 4, ground := Ground.data }, { on := 2, ground := Ground.chain }], guard := none }) rfl (fun K hK => ?_) AllReadyH.nil
      go_simp
      refine (HSD.out _).mono ?_
      rintro e w' ⟨rfl, rfl⟩
      refine hK.out _ _ hS (fun _ => ?_)
      clear hK K
      try simp only [Act.put, List.setIfInBounds_toArray, List.set_cons_zero, List.set_cons_succ]
      refine wpAnyH_take (i := 6) (oi := { dst := some 7, op := Op.assign (Operand.tmp 42), type := 3, pos := "law.go:75", after := #[{ on := 2, ground := Ground.data }, { on := 5, ground := Ground.chain }, { on := 0, ground := Ground.phase }, { on := 1, ground := Ground.phase }, { on := 2, ground := Ground.phase }, { on := 3, ground := Ground.textOnly Departure.lateStores }, { on := 4, ground := Ground.textOnly Departure.lateStores }, { on := 5, ground := Ground.textOnly Departure.lateStoresUnsure }], guard := none }) (v := .int .i64 id) rfl (by kernel_rfl) (by kernel_rfl) (by kernel_rfl) (fun _ _ _ h => h) (Or.inl ⟨by rfl, fun w' hw => by go_simp⟩) hS ?_
      try simp only [Act.put, List.setIfInBounds_toArray, List.set_cons_zero, List.set_cons_succ]
      refine wpAnyH_take (i := 7) (oi := { dst := some 8, op := Op.assign (Operand.tmp 45), type := 31, pos := "law.go:75", after := #[{ on := 5, ground := Ground.data }, { on := 6, ground := Ground.chain }, { on := 0, ground := Ground.phase }, { on := 1, ground := Ground.phase }, { on := 2, ground := Ground.phase }, { on := 3, ground := Ground.phase }, { on := 4, ground := Ground.phase }, { on := 5, ground := Ground.phase }, { on := 6, ground := Ground.phase }], guard := none }) (v := .int .u64 due) rfl (by kernel_rfl) (by kernel_rfl) (by kernel_rfl) (fun _ _ _ h => h) (Or.inl ⟨by rfl, fun w' hw => by go_simp⟩) hS ?_
      try simp only [Act.put, List.setIfInBounds_toArray, List.set_cons_zero, List.set_cons_succ]
      refine wpAnyH_done (by kernel_rfl) ?_ _
      try simp only [Act.put, List.setIfInBounds_toArray, List.set_cons_zero, List.set_cons_succ]
      have HSY := HSX
      have HGX := Lib.hid hGX
      clear hS e0 e1 e2 HSX HO HSB HG hGX
      have ck := (cellsP hO).1
      go_wp2_with fail
      refine (mod_any p.k 8 _ (by omega) (by omega)).mono ?_
      rintro e w' ⟨rfl, hw⟩
      obtain rfl := hw
      have hm1 := gmod_lo p.k 8 (by omega)
      have hm2 := gmod_hi p.k 8 (by omega)
      generalize gmod p.k 8 = m at *
      have rX := (cellsP hO).2.2.2
      clear hO ck
      by_cases h4 : m < 4
      · obtain ⟨n, ok, hc⟩ := HSY.out.start hi5 id due HID.out HDU.out p.x
        have HC := Lib.hid hc
        clear hc HSY
        unfold tagV at HC
        go_wp2_with ((with_reducible refine at_load 26 ?_); refine wpList_load_mid rfl 26 _ rfl gO 3 rfl [.int .i64 p.x.a, .int .i64 p.x.b, .int .i64 p.x.c] _ rX Tryz.underlying26 rfl infoG ?_)
        refine HC.out.mono ?_
        rintro e w1 ⟨rfl, sm, hc2⟩
        have HC2 := Lib.hid (hc2 w1 (Touch.refl _ _))
        have rX := (cellsP (range_block (cs := encP p) (sm gO (by simp) _ HGX.out))).2.2.2
        clear hc2 HC sm
        go_wp2_with ((with_reducible refine at_load 26 ?_); refine wpList_load_mid rfl 26 _ rfl gO 3 rfl [.int .i64 p.x.a, .int .i64 p.x.b, .int .i64 p.x.c] _ rX Tryz.underlying26 rfl infoG ?_)
        refine HC2.out.mono ?_
        rintro e w2 ⟨rfl, s2, _⟩
        have HST := Lib.hid s2.weak
        clear s2 HC2
        go_wp2_with fail
        refine HST.out.same.mono ?_
        rintro e wz ⟨rfl, sz⟩
        have HSZ := Lib.hid sz
        clear sz
        go_wp2_with fail
        go_roundw
        case rel => exact ⟨i + 1, by simp, by omega, by omega, HSZ.out⟩
        case measure => simp [intOf] <;> omega
      · by_cases h6 : m < 6
        · obtain ⟨n, x, ok, hc⟩ := HSY.out.expire due
          have HC := Lib.hid hc
          clear hc HSY rX
          unfold tagV at HC
          go_wp2_with fail
          refine HC.out.mono ?_
          rintro e w1 ⟨rfl, _, hc2⟩
          have hz1 : w1.heap.size < (w1.alloc (.cells #[.int .i64 x.a, .int .i64 x.b, .int .i64 x.c] 26)).heap.size := by simp
          have HC2 := Lib.hid (hc2 w1.heap.size _ ((Touch.refl [] w1).alloc (.cells #[.int .i64 x.a, .int .i64 x.b, .int .i64 x.c] 26)) (Nat.le_refl _) hz1)
          have HG1 := Lib.hid (heap_alloc_new w1 (.cells #[.int .i64 x.a, .int .i64 x.b, .int .i64 x.c] 26))
          clear hc2 HC hz1
          go_wp2_with ((with_reducible refine at_store 26 ?_); refine wpList_store_new rfl 26 _ _ rfl _ _ [.int .i64 x.a, .int .i64 x.b, .int .i64 x.c] (by rfl) (by rfl) rfl infoG (by intro u hu; simp only [List.mem_cons, List.not_mem_nil, or_false] at hu; rcases hu with rfl | rfl | rfl <;> rfl) ?_)
          generalize w1.alloc (.cells #[.int .i64 x.a, .int .i64 x.b, .int .i64 x.c] 26) = w1' at *
          generalize w1.heap.size = g1 at *
          refine HC2.out.mono ?_
          rintro e w2 ⟨rfl, s2, sm⟩
          have hG1 := sm g1 (by simp) _ HG1.out
          have hlt1 : g1 < w2.heap.size := (Array.getElem?_eq_some_iff.1 hG1).1
          have TB := (Touch.refl [] w2).alloc (.cells #[.int .i64 x.a, .int .i64 x.b, .int .i64 x.c] 26)
          have HG2 := Lib.hid (TB.at hG1 (by simp))
          have HG3 := Lib.hid (heap_alloc_new w2 (.cells #[.int .i64 x.a, .int .i64 x.b, .int .i64 x.c] 26))
          have HST := Lib.hid (s2.weak.touch0 TB)
          clear s2 sm hG1 TB HG1 HC2
          have r1 := range_block (cs := [.int .i64 x.a, .int .i64 x.b, .int .i64 x.c]) HG2.out
          have r2 := range_block (cs := [.int .i64 x.a, .int .i64 x.b, .int .i64 x.c]) HG3.out
          go_wp2_with (first | ((with_reducible refine at_store 26 ?_); refine wpList_store_new rfl 26 _ _ rfl _ _ [.int .i64 x.a, .int .i64 x.b, .int .i64 x.c] (by rfl) (by rfl) rfl infoG (by intro u hu; simp only [List.mem_cons, List.not_mem_nil, or_false] at hu; rcases hu with rfl | rfl | rfl <;> rfl) ?_) | ((with_reducible refine at_load_g 26 3 true ?_); refine wpList_load_gg 3 true rfl (by rfl) 26 _ rfl g1 0 rfl [.int .i64 x.a, .int .i64 x.b, .int .i64 x.c] _ r1 Tryz.underlying26 rfl infoG ?_) | ((with_reducible refine at_load_g 26 3 true ?_); refine wpList_load_gg 3 true rfl (by rfl) 26 _ rfl w2.heap.size 0 rfl [.int .i64 x.a, .int .i64 x.b, .int .i64 x.c] _ r2 Tryz.underlying26 rfl infoG ?_) | ((with_reducible refine at_bin .eql 26 ?_); refine wpList_eql_g (by rfl) 26 _ _ _ rfl #[.int .i64 x.a, .int .i64 x.b, .int .i64 x.c] #[.int .i64 x.a, .int .i64 x.b, .int .i64 x.c] rfl rfl (by kernel_rfl) true (eqG _ _ _ _) ?_))
          refine HST.out.same.mono ?_
          rintro e wz ⟨rfl, sz⟩
          have HSZ := Lib.hid sz
          clear sz
          go_wp2_with fail
          go_roundw
          case rel => exact ⟨i + 1, by simp, by omega, by omega, HSZ.out⟩
          case measure => simp [intOf] <;> omega
        · by_cases h7 : m = 6
          · have q6 : (m == 6) = true := by simp [h7]
            obtain ⟨ok, hc⟩ := HSY.out.reset id due HID.out HDU.out
            have HC := Lib.hid hc
            clear hc HSY rX h7
            go_wp2_with fail
            refine HC.out.mono ?_
            rintro e w1 ⟨rfl, _, hc2⟩
            have HC2 := Lib.hid (hc2 w1 (Touch.refl _ _))
            clear hc2 HC
            go_wp2_with fail
            refine HC2.out.mono ?_
            rintro e w2 ⟨rfl, s2, _⟩
            have HST := Lib.hid s2.weak
            clear s2 HC2
            go_wp2_with fail
            refine HST.out.same.mono ?_
            rintro e wz ⟨rfl, sz⟩
            have HSZ := Lib.hid sz
            clear sz
            go_wp2_with fail
            go_roundw
            case rel => exact ⟨i + 1, by simp, by omega, by omega, HSZ.out⟩
            case measure => simp [intOf] <;> omega
          · have q6 : (m == 6) = false := by simp [h7]
            have HC := Lib.hid (HSY.out.cancel id HID.out)
            clear HSY rX h7
            go_wp2_with fail
            refine HC.out.mono ?_
            rintro e w1 ⟨mm, rfl, _, hc2⟩
            have HC2 := Lib.hid (hc2 w1 (Touch.refl _ _))
            clear hc2 HC
            go_wp2_with fail
            refine HC2.out.mono ?_
            rintro e w2 ⟨rfl, s2, _⟩
            have HST := Lib.hid s2.weak
            clear s2 HC2
            go_wp2_with fail
            refine HST.out.same.mono ?_
            rintro e wz ⟨rfl, sz⟩
            have HSZ := Lib.hid sz
            clear sz
            go_wp2_with fail
            go_roundw
            case rel => exact ⟨i + 1, by simp, by omega, by omega, HSZ.out⟩
            case measure => simp [intOf] <;> omega
    · by_cases h1 : i < l.length
      · have hb1 : (i : Int) < (l.length : Int) := by omega
        have hb2 : ¬ (i : Int) < 50 := by omega
        clear hlt h1
        go_wp2_with fail
        refine (awake_any _).mono ?_
        rintro e wz ⟨rfl, tz⟩
        have TZ := Lib.hid (HS.out.tt.trans tz (by simp))
        clear tz
        go_wp2_with fail
        go_ret
        exact ⟨rfl, TZ.out⟩
      · have hb1 : ¬ (i : Int) < (l.length : Int) := by omega
        clear hlt h1
        go_wp2_with fail
        refine (awake_any _).mono ?_
        rintro e wz ⟨rfl, tz⟩
        have TZ := Lib.hid (HS.out.tt.trans tz (by simp))
        clear tz
        go_wp2_with fail
        go_ret
        exact ⟨rfl, TZ.out⟩
theorem walk {H : Type} {enc : TypeId × Value → H} {w : World} (v : Value) (hv : IsSlice enc Tryz.prog w 0 (fun _ => true) true [3, 3, 31, 3, 3, 3] v) :
    Calls Tryz.prog 3 #[v] w fun e w' => e = .returned (.bool true) ∧ Below w.heap.size w w' := by
  obtain ⟨b, l, hr, hok⟩ := ops_in hv
  exact (walk3 v b l w hr hok).mono fun e w' ⟨h1, h2⟩ => ⟨h1, h2.below (by simp) (Nat.le_refl _)⟩
end Go.Proofs.YtobkanlnnniabaaGreat.G

/-
  The walk of TimerMatchesModel, over the frame's argument.
-/
namespace Go.Proofs.YtobkanlnnniabaaGreat.timerMatchesModel
open Go.ChangeShapes Go.WideShapes Go.RowKit
set_option linter.unusedVariables false
-- NOGTR
theorem walk {H : Type} {enc : TypeId × Value → H} {w : World} (v : Value) (hv : IsSlice enc Tryz.prog w 0 (fun _ => true) true [3, 3, 31, 3, 3, 3] v) :
    Calls Tryz.prog 3 #[v] w fun e w' => e = .returned (.bool true) ∧ Below w.heap.size w w' := G.walk v hv
end Go.Proofs.YtobkanlnnniabaaGreat.timerMatchesModel

/-
  The statement 'TimerMatchesModelSaid' of the seat: the frame of the row round the walk of the law's Go function (YtobkanlnnniabaaGreatWk7): for every input the call returns true and each argument reads as it did.
-/
namespace Go.Proofs.YtobkanlnnniabaaGreat.timerMatchesModel
open Go.ChangeShapes Go.WideShapes Go.Deep Go.ChangeAt Go.RowKit
open Go.ChangeMaps (open_string shut_string)
set_option linter.unusedVariables false

theorem own : ownKnob Tryz.prog.godebug = none := by kernel_rfl
theorem laidOut : laidOutB Tryz.prog = true := by kernel_rfl

set_option maxRecDepth 100000 in
theorem lifted (os : Os) (started : os.Started) (H : Type) (enc : TypeId × Value → H) :
    ReturnsInHanded {} Tryz.checked os 3 .any (Rows.timerMatchesModelSpec.pre6 enc Tryz.prog Tryz.f3 Rows.timerMatchesModelRow.domain false) (Rows.timerMatchesModelSpec.post enc Tryz.prog Tryz.f3 false true false false) := by
  refine returnsInHanded_of_change (C := Tryz.checked) own started (by kernel_rfl) Tryz.func3
    (ChangeSpec.witness6 (enc := enc) (C := Tryz.checked) false ⟨#[], #[.slice none 0 0], []⟩ 8 (by kernel_rfl) (by kernel_rfl) (by kernel_rfl) (by kernel_rfl)) ?_
  intro W base args ds gs before hval0 hW hcnd _
  have hval : ∀ (j : Nat) t v, Tryz.f3.params[j]? = some t → args[j]? = some v → Value.okWide Tryz.prog W .any base t v := hval0
  have hW' := hW
  obtain ⟨p, q, hA0, hV, rfl, hfz, hnd⟩ := hW
  have hA : DataW.TrodAll enc Tryz.prog W 0 (fun _ => true) true Tryz.f3.params.toList args.toList ds p := hA0
  rw [Tryz.params3] at hA hval
  obtain ⟨v0, vs0, d0, ds0, p0, q0, hargs, rfl, rfl, h0, r0⟩ := trodAll_cons hA
  obtain ⟨rfl, rfl, rfl⟩ := trodAll_nil r0
  obtain rfl : args = #[v0] := by cases args; simp_all
  obtain ⟨rfl, rfl⟩ := trodVars_none hV
  have k0 := h0
  have lt0 : ∀ x ∈ p0, x.block < W.heap.size := by obtain ⟨m, hm⟩ := k0; exact DataW.trod_lt m _ _ _ hm
  obtain ⟨b0, len0, cap0, hv0⟩ := okWide_slice Tryz.underlying22 (hval 0 22 v0 rfl rfl)
  have s0 : IsSlice enc Tryz.prog W 0 (fun _ => true) true [3, 3, 31, 3, 3, 3] v0 := by
    obtain ⟨fuel, hf⟩ := h0
    rw [hv0] at hf ⊢
    exact slice_ok (d := 8) Tryz.underlying22 (by kernel_rfl) (by kernel_rfl) (by simpa [Value.cells] using hf)
  clear hA0 hval0
  refine (walk (H := H) (enc := enc) (w := W) v0 s0).mono fun e W' ⟨he, bel⟩ => ?_
  subst he
  exact ⟨_, rfl, _, _, _, [], _, [], hW', trodAll_mk1 (shut_bool Tryz.underlying4 _), (trodAll_cons_mk (Below.trod laidOut (by kernel_rfl) (of_decide_eq_true (by kernel_rfl)) k0 bel lt0) trodAll_mk0), rfl, bel.frame _, fun h => by cases h⟩

theorem over : Rows.timerMatchesModelRow.holds Tryz.pinned (OpenSpec.ofChange Rows.timerMatchesModelSpec) :=
  OpenClaim.holds_of_wide 3 Tryz.f3 rfl rfl rfl rfl rfl rfl rfl ⟨rfl, rfl, rfl, rfl, rfl⟩ rfl rfl rfl rfl rfl (by kernel_rfl) Tryz.func3 (by kernel_rfl)
    (of_decide_eq_true (by kernel_rfl)) (by unfold Func.isWrapper; first | (rw [if_pos (by decide +kernel)]; kernel_rfl) | (rw [if_neg (by decide +kernel)]; exact ⟨rfl, rfl⟩))
    (fun os started H enc _ => lifted os started H enc)

theorem proved : Rows.TimerMatchesModelSaid := over
#print axioms proved
end Go.Proofs.YtobkanlnnniabaaGreat.timerMatchesModel

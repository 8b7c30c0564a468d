/-
  The contracts of OfConn, of slices.DeleteFunc and slices.IndexFunc at its closure: the keys of one connection.
-/
import Derived.Test.YtnglkdpmkgehoaaEq
import Derived.Test.YtnglkdpmkgehoaaRt
import Derived.Lib.SliceRun
import Derived.Deep.Upon
namespace Go.Proofs.Ytnglkdpmkgehoaa
open Go.RowKit Go.Deep
set_option linter.unusedVariables false
set_option linter.unusedSimpArgs false

def isC (c : Int) (k : Key) : Bool := decide (k.1 = c)
set_option maxRecDepth 100000 in
set_option maxHeartbeats 1000000 in
theorem clos_49 (c kc ka : Int) (q : Nat) (w : World) (h : w.cell? ⟨q, 0, none⟩ = some (.int .i64 c)) :
    Calls Try.prog 49 #[.agg #[.int .i64 kc, .int .i64 ka], .pointer (some ⟨q, 0, none⟩)] w fun e w' => e = .returned (.bool (!isC c (kc, ka))) ∧ Touch [] w w' := by
  have tA := (Touch.refl [] w).alloc (.cells #[.int .i64 kc, .int .i64 ka] 23)
  have h2 := tA.cell h (by simp)
  have e : (!isC c (kc, ka)) = (kc != c) := by
    by_cases hh : kc = c
    · simp [isC, hh]
    · simp [isC, hh, bne]
  rw [e]
  clear e h
  go_enter Try.func49, Try.ntmps49
  go_wp2_with fail
  go_ret
  exact ⟨rfl, tA⟩
/-- The first key of another connection, or the length. -/
def outAt (c : Int) (ks : List Key) : Nat := ks.findIdx (fun k => !isC c k)
theorem outAt_le (c : Int) (ks : List Key) : outAt c ks ≤ ks.length := List.findIdx_le_length
theorem outAt_before {c : Int} {ks : List Key} {i : Nat} {k : Key} (hi : i < outAt c ks) (hk : ks[i]? = some k) : isC c k = true := by
  obtain ⟨hl, he⟩ := List.getElem?_eq_some_iff.1 hk
  have h2 := List.not_of_lt_findIdx (p := fun k : Key => !isC c k) (xs := ks) hi
  rw [he] at h2
  simpa using h2
theorem outAt_at {c : Int} {ks : List Key} {k : Key} (hk : ks[outAt c ks]? = some k) : isC c k = false := by
  obtain ⟨hl, he⟩ := List.getElem?_eq_some_iff.1 hk
  have h2 := List.findIdx_getElem (p := fun k : Key => !isC c k) (xs := ks) (w := hl)
  have h3 : ks[List.findIdx (fun k : Key => !isC c k) ks] = k := he
  rw [h3] at h2
  simpa using h2
def ixv (c : Int) (ks : List Key) : Int := if outAt c ks < ks.length then (outAt c ks : Int) else -1
set_option maxRecDepth 100000 in
set_option maxHeartbeats 1000000 in
theorem ix_any (v : Value) (b : Nat) (ks : List Key) (c : Int) (q : Nat) (w : World) (hl : ks.length ≤ 1000) (h1 : Rd w 2 b v (ks.map encL)) (h : w.cell? ⟨q, 0, none⟩ = some (.int .i64 c)) :
    Calls Try.prog 53 #[v, .func (.func 49) #[] #[.pointer (some ⟨q, 0, none⟩)]] w fun e w' => e = .returned (.int .i64 (ixv c ks)) ∧ Touch [] w w' := by
  obtain ⟨a1, c1, rfl, hc1, hm1⟩ := h1.form
  rw [List.length_map] at hc1 h1 ⊢
  have hix := outAt_le c ks
  go_enter Try.func53, Try.ntmps53
  go_wp2_with fail
  go_loopw [8] (fun vi wr => ∃ (i : Nat), i ≤ outAt c ks ∧ vi = .int .i64 i ∧ Touch [] w wr) (fun vi _ => ks.length - (intOf vi).toNat)
  case atStart => exact ⟨0, by omega, rfl, Touch.refl _ _⟩
  case round =>
    obtain ⟨i, hi, rfl, ht⟩ := hrel
    by_cases hlt : i < ks.length
    · have hx : ks[i]? = some ks[i] := List.getElem?_eq_getElem hlt
      generalize ks[i] = k at hx
      obtain ⟨kc, ka⟩ := k
      obtain ⟨o1, rfl, p1, p2⟩ := rd_key (h1.touch ht (by simp)) hx
      have hq := ht.cell h (by simp)
      by_cases hin : i < outAt c ks
      · have hc := outAt_before hin hx
        clear hx
        go_wp2_with fail
        refine (clos_49 c kc ka q _ hq).mono ?_
        rintro e w2 ⟨rfl, t2⟩
        rw [hc]
        have ht2 := ht.trans t2 (by simp)
        clear p1 p2 hq hc
        go_wp2_with fail
        go_roundw
        case rel => exact ⟨i + 1, by omega, by go_num, ht2⟩
        case measure => simp [intOf]; omega
      · have e : outAt c ks = i := by omega
        have hc := outAt_at (by rw [e]; exact hx)
        have HE := Lib.hid (show ixv c ks = (i : Int) by unfold ixv; rw [e, if_pos hlt])
        clear hx e
        go_wp2_with fail
        refine (clos_49 c kc ka q _ hq).mono ?_
        rintro e w2 ⟨rfl, t2⟩
        rw [hc]
        have ht2 := ht.trans t2 (by simp)
        clear p1 p2 hq hc
        go_wp2_with fail
        go_ret
        exact ⟨by rw [HE.out]; rfl, ht2⟩
    · have HE := Lib.hid (show ixv c ks = -1 by unfold ixv; rw [if_neg (by omega)])
      go_wp2_with fail
      go_ret
      exact ⟨by rw [HE.out]; rfl, ht⟩

theorem setCells_touch (b : Nat) : ∀ (vs : List Value) (o : Nat) (w : World), Touch [b] w (w.setCells b o vs)
  | [], _, w => Touch.refl _ _
  | v :: r, o, w => ((Touch.refl [b] w).setCell (p := ⟨b, o, none⟩) (by simp) v).trans (setCells_touch b r (o + 1) _) (by simp)
theorem run_clear_rows {P : Program} (w : World) (t e ty : TypeId) (z : Value) (k : Nat) (ht : P.underlying t = some (.slice e)) (hv : ∀ w, (zeroValue e).run P w = .ok z w) (hz : z.cells.size = k) (h1 : ∀ v ∈ z.cells.toList, v.oneCell' = true) (b o n c : Nat) (hn : 0 < n)
    (hc : ∀ j, j < n * k → (w.cell? ⟨b, o + j, none⟩).isSome = true) (hf : ∀ j, j < n * k → w.frozen? ⟨b, o + j, none⟩ = false) :
    ∃ zs, (Builtin.clear_ #[t] ty #[.slice (some ⟨b, o, none⟩) n c]).run P w = .ok (.tuple #[]) (w.setCells b o zs) := by
  have hl : (Builtin.zeroCells z.cells n).toList.length = n * k := by simp [Builtin.zeroCells, hz]
  have ho : ∀ v ∈ (Builtin.zeroCells z.cells n).toList, v.oneCell' = true := by
    intro v hv'
    simp only [Builtin.zeroCells] at hv'
    simp at hv'
    obtain ⟨i, hi, rfl⟩ := hv'
    have hk : 0 < z.cells.size := by
      rcases Nat.eq_zero_or_pos z.cells.size with h0 | h0
      · rw [h0] at hi; simp at hi
      · exact h0
    have hm := Nat.mod_lt i hk
    refine h1 _ ?_
    simp [hm]
  have hst := run_storeCells_cells (P := P) b o (Builtin.zeroCells z.cells n).toList 0 w (by simpa [hl] using hc) (by simpa [hl] using hf) ho
  simp only [Nat.add_zero] at hst
  obtain ⟨m, rfl⟩ : ∃ m, n = m + 1 := ⟨n - 1, by omega⟩
  exact ⟨(Builtin.zeroCells z.cells (m + 1)).toList, by simp [Builtin.clear_, run_underlying ht, hv, hst]⟩
theorem all_in {c : Int} {ks : List Key} (h : ks.length ≤ outAt c ks) : ks.filter (isC c) = ks := by
  rw [List.filter_eq_self]
  intro k hk
  obtain ⟨i, hi⟩ := List.getElem?_of_mem hk
  have := (List.getElem?_eq_some_iff.1 hi).1
  exact outAt_before (by omega) hi
theorem take_in {c : Int} {ks : List Key} (h : outAt c ks < ks.length) : (ks.take (outAt c ks + 1)).filter (isC c) = ks.take (outAt c ks) := by
  have hx := List.getElem?_eq_getElem h
  have ho := outAt_at (c := c) hx
  rw [List.take_add_one, hx, List.filter_append]
  have e1 : (ks.take (outAt c ks)).filter (isC c) = ks.take (outAt c ks) := by
    rw [List.filter_eq_self]
    intro k hk
    obtain ⟨i, hi⟩ := List.getElem?_of_mem hk
    rw [List.getElem?_take] at hi
    split at hi
    · exact outAt_before (by assumption) hi
    · cases hi
  rw [e1]
  simp [ho]
theorem zero23 : ∀ w, (zeroValue 23).run Try.prog w = .ok (.agg #[.int .i64 0, .int .i64 0]) w := by
  intro w
  obtain ⟨i, hi, hz, _⟩ := info_parts info23
  simp [zeroValue, typeInfo, hi, hz]
theorem Rd.keep2 {w w' : World} {b cap n : Nat} {ks : List Key} (h : Rd w 2 b (.slice (some ⟨b, 0, none⟩) n cap) (ks.map encL)) (hc : ∀ o, o < n * 2 → w'.cell? ⟨b, o, none⟩ = w.cell? ⟨b, o, none⟩) : Rd w' 2 b (.slice (some ⟨b, 0, none⟩) n cap) (ks.map encL) := by
  obtain ⟨a, cap', hv, h1, h2, h3, h4⟩ := h
  simp only [Value.slice.injEq] at hv
  obtain ⟨rfl, rfl, rfl⟩ := hv
  refine ⟨_, _, rfl, h1, h2, h3, fun hne => ?_⟩
  obtain ⟨off, ha, hr⟩ := h4 hne
  simp at ha
  subst ha
  refine ⟨0, rfl, fun i x hx j u hu => ?_⟩
  have hi := (List.getElem?_eq_some_iff.1 hx).1
  have hj := (List.getElem?_eq_some_iff.1 hu).1
  have hxl := encL_two ks x (List.mem_of_getElem? hx)
  rw [hc _ (by omega)]
  exact hr i x hx j u hu
/-- What the loop of DeleteFunc has done. -/
structure Dl (w0 w wr : World) (g n cv : Nat) (ks : List Key) (c : Int) (i j : Nat) (ds : List Key) : Prop where
  row : wr.ownsRow 0 23 2 (.slice (some ⟨g, 0, none⟩) n cv) n (ds.map encL).flatten
  len : ds.length = n
  ij : i < j
  jn : j ≤ n
  pre : ds.take i = (ks.take j).filter (isC c)
  suf : ds.drop j = ks.drop j
  t : Touch [g] w wr
theorem Dl.skip {w0 w wr w5 : World} {g n cv i j : Nat} {ks ds : List Key} {c : Int} {k : Key} (hd : Dl w0 w wr g n cv ks c i j ds) (tE : Touch [] wr w5) (hn : ks.length = n) (hj : ks[j]? = some k) (hin : isC c k = false) : Dl w0 w w5 g n cv ks c i (j + 1) ds := by
  have hjl := (List.getElem?_eq_some_iff.1 hj).1
  have h1 := hd.ij
  refine ⟨tE.owns hd.row (by simp), hd.len, by omega, by omega, ?_, ?_, hd.t.trans tE (by simp)⟩
  · rw [List.take_add_one, hj, List.filter_append, hd.pre]
    simp [hin]
  · have := congrArg (List.drop 1) hd.suf
    rwa [List.drop_drop, List.drop_drop] at this
theorem Dl.keep {w0 w wr w5 : World} {g n cv i j : Nat} {ks ds : List Key} {c : Int} {k : Key} (hd : Dl w0 w wr g n cv ks c i j ds) (tE : Touch [] wr w5) (hn : ks.length = n) (hj : ks[j]? = some k) (hin : isC c k = true) :
    Dl w0 w ((w5.setCell ⟨g, i * 2, none⟩ (.int .i64 k.1)).setCell ⟨g, i * 2 + 1, none⟩ (.int .i64 k.2)) g n cv ks c (i + 1) (j + 1) (ds.set i k) := by
  have hjl := (List.getElem?_eq_some_iff.1 hj).1
  have h1 := hd.ij
  have h2 := hd.jn
  have hlen := hd.len
  have row5 := tE.owns hd.row (by simp)
  have hil : i < ds.length := by omega
  have hdi := List.getElem?_eq_getElem hil
  generalize ds[i] = d at hdi
  have e1 := flatten_set (k := 2) (ds.map encL) i 0 (encL d) (.int .i64 k.1) (encL_two ds) (by simp [hdi]) (by omega)
  have e2 := flatten_set (k := 2) ((ds.map encL).set i [.int .i64 k.1, .int .i64 d.2]) i 1 [.int .i64 k.1, .int .i64 d.2] (.int .i64 k.2) (by
    intro y hy
    rcases List.mem_or_eq_of_mem_set hy with hy | rfl
    · exact encL_two ds y hy
    · rfl) (List.getElem?_set_self (by simpa using hil)) (by omega)
  have ef : ((ds.set i k).map encL).flatten = (((ds.map encL).flatten.set (i * 2) (.int .i64 k.1)).set (i * 2 + 1) (.int .i64 k.2)) := by
    rw [Nat.add_zero] at e1
    rw [← e1]
    refine Eq.trans ?_ e2
    rw [List.map_set, List.set_set]
    rfl
  refine ⟨?_, by rw [List.length_set]; exact hlen, by omega, by omega, ?_, ?_, ?_⟩
  · rw [ef]
    exact owns_set (owns_set row5 (i * 2) _) (i * 2 + 1) _
  · rw [List.take_add_one (i := j), hj, List.filter_append, ← hd.pre, List.take_add_one]
    rw [List.take_set_of_le (by omega)]
    simp [hin, hil]
  · rw [List.drop_set_of_lt (by omega)]
    have := congrArg (List.drop 1) hd.suf
    rwa [List.drop_drop, List.drop_drop] at this
  · exact ((hd.t.trans tE (by simp)).setCell (.inl (by simp)) _).setCell (.inl (by simp)) _
set_option maxRecDepth 100000 in
set_option maxHeartbeats 2000000 in
theorem del_any (v : Value) (ks : List Key) (c : Int) (q : Nat) (w0 w : World) (hl : ks.length ≤ 1000) (ho : OwnK w0 w v ks) (h : w.cell? ⟨q, 0, none⟩ = some (.int .i64 c)) (hq : v.ownBlock ≠ some q) :
    Calls Try.prog 48 #[v, .func (.func 49) #[] #[.pointer (some ⟨q, 0, none⟩)]] w fun e w' => ∃ v' b, e = .returned v' ∧ Rd w' 2 b v' ((ks.filter (isC c)).map encL) ∧ Touch v.ownBlock.toList w w' := by
  obtain ⟨b, hb⟩ := ho.rd
  have hole := outAt_le c ks
  obtain ⟨n, hn⟩ : ∃ n, ks.length = n := ⟨_, rfl⟩
  obtain ⟨av, cv, rfl, hc1, hm1, hv3⟩ := owns_form ho.row
  rw [hn] at ho hb hc1 hv3 hl hole hq ⊢
  have hc4 : cv ≤ 9223372036854775807 := by unfold maxLen at hm1; omega
  have HN := Lib.hid hn
  clear hn
  by_cases hlt : outAt c ks < n
  · have HE := Lib.hid (show ixv c ks = (outAt c ks : Int) by unfold ixv; rw [HN.out, if_pos hlt])
    obtain ⟨g, rfl⟩ := hv3 (by omega)
    have hqg : q ≠ g := fun e => hq (by rw [e]; rfl)
    have HT := Lib.hid (take_in (c := c) (ks := ks) (by rw [HN.out]; exact hlt))
    go_enter Try.func48, Try.ntmps48
    go_wp2_with fail
    refine (ix_any _ b ks c q _ (by rw [HN.out]; exact hl) hb h).mono ?_
    rintro e w1 ⟨rfl, t1⟩
    rw [HE.out]
    generalize hi0 : outAt c ks = i0 at *
    have HI0 := Lib.hid hi0
    clear hi0
    have d0 : ((i0 : Int) == -1) = false := by simp
    go_wp2_with fail
    go_loopw [5, 6] (fun vi vj wr => ∃ (i j : Nat) (ds : List Key), vi = .int .i64 i ∧ vj = .int .i64 j ∧ Dl w0 w wr g n cv ks c i j ds) (fun _ vj _ => n - (intOf vj).toNat)
    case atStart => exact ⟨i0, i0 + 1, ks, rfl, by go_num, by have := (ho.touch t1 (by simp)).row; rwa [HN.out] at this, HN.out, by omega, by omega, HT.out.symm, rfl, t1.mono (by simp)⟩
    case round =>
      obtain ⟨i, j, ds, rfl, rfl, hd⟩ := hrel
      have HD := Lib.hid hd
      have hij := hd.ij
      have hjn := hd.jn
      have hcq := hd.t.cell h (by simpa using hqg)
      clear hd
      by_cases hj : j < n
      · have hjk : j < ks.length := by rw [HN.out]; exact hj
        have hx : ks[j]? = some ks[j] := List.getElem?_eq_getElem hjk
        generalize ks[j] = k at hx
        obtain ⟨kc, ka⟩ := k
        have hdx : ds[j]? = some (kc, ka) := by
          have e := congrArg (fun l => l[0]?) HD.out.suf
          simp only [List.getElem?_drop, Nat.add_zero] at e
          rw [e, hx]
        have c0 := owns_cell HD.out.row (j * 2 + 0) _ (flat_get (xs := ds.map encL) (k := 2) (encL_two ds) (by rw [List.getElem?_map, hdx]; rfl) (j := 0) (u := .int .i64 kc) rfl)
        have c1 := owns_cell HD.out.row (j * 2 + 1) _ (flat_get (xs := ds.map encL) (k := 2) (encL_two ds) (by rw [List.getElem?_map, hdx]; rfl) (j := 1) (u := .int .i64 ka) rfl)
        simp only [Nat.add_zero] at c0
        have tD := (Touch.refl [] wr).alloc (.cells #[.int .i64 kc, .int .i64 ka] 23)
        have gD := heap_alloc_new wr (.cells #[.int .i64 kc, .int .i64 ka] 23)
        have HX := Lib.hid hx
        have HDX := Lib.hid hdx
        have h2 := tD.cell hcq (by simp)
        obtain ⟨e0, e1⟩ := cells_two gD
        have hgl : g < wr.heap.size := (HD.out.row.lt g rfl).2
        clear hx hdx hcq
        go_wp2_with (first
          | (refine wpList_store_new rfl 23 _ _ rfl _ _ [.int .i64 kc, .int .i64 ka] (by rfl) (by rfl) rfl size23 (by simp [Value.oneCell']) ?_))
        refine (clos_49 c kc ka q _ h2).mono ?_
        rintro e w5 ⟨rfl, t5⟩
        obtain ⟨e0', e1'⟩ := cells_two (t5.at gD (by simp))
        have tE := tD.trans t5 (by simp)
        have row5 := tE.owns HD.out.row (by simp)
        have T5 := HD.out.t.trans tE (by simp)
        clear e0 e1 c0 c1 h2 gD tD t5
        cases hin : isC c (kc, ka) with
        | true =>
          have hil : i < ds.length := by rw [HD.out.len]; omega
          have hdi := List.getElem?_eq_getElem hil
          have s0 := owns_cell row5 (i * 2 + 0) _ (flat_get (xs := ds.map encL) (k := 2) (encL_two ds) (by rw [List.getElem?_map, hdi]; rfl) (j := 0) (u := .int .i64 ds[i].1) rfl)
          have s1 := owns_cell row5 (i * 2 + 1) _ (flat_get (xs := ds.map encL) (k := 2) (encL_two ds) (by rw [List.getElem?_map, hdi]; rfl) (j := 1) (u := .int .i64 ds[i].2) rfl)
          have f0 := owns_frozen row5 (i * 2)
          have f1 := owns_frozen row5 (i * 2 + 1)
          simp only [Nat.add_zero] at s0
          have hin' : i < n := by omega
          clear hdi
          generalize wr.heap.size = D at *
          have HF := Lib.hid (HD.out.keep tE HN.out HX.out hin)
          clear hin
          go_wp2_with fail
          exact ⟨⟨i + 1, j + 1, _, by go_num, by go_num, HF.out⟩, by simp [intOf]; omega⟩
        | false =>
          clear row5
          generalize wr.heap.size = D at *
          have HF := Lib.hid (HD.out.skip tE HN.out HX.out hin)
          clear hin
          go_wp2_with fail
          exact ⟨⟨i, j + 1, _, rfl, by go_num, HF.out⟩, by simp [intOf]; omega⟩
      · obtain rfl : j = n := by omega
        have hpre := HD.out.pre
        rw [List.take_of_length_le (l := ks) (by rw [HN.out]; omega)] at hpre
        have row := HD.out.row
        have hRd : Rd wr 2 g (.slice (some ⟨g, 0, none⟩) j cv) (ds.map encL) := by
          have := Rd.of_owns (k := 2) (g := g) (T := 23) (v := .slice (some ⟨g, 0, none⟩) j cv) (w := wr) (xs := ds.map encL) (encL_two ds) (by rw [List.length_map, HD.out.len]; exact row) (by simp [Value.ownBlock])
          exact this
        obtain ⟨zs, hcl⟩ := run_clear_rows (P := Try.prog) wr 39 23 0 _ 2 Try.underlying39 zero23 (by rfl) (by intro v hv; simp [Value.cells] at hv; subst hv; rfl) g (i * 2) (j - i) (cv - i) (by omega)
          (by
            intro q hq
            have hql : i * 2 + q < (ds.map encL).flatten.length := by rw [flat_len (encL_two ds), List.length_map, HD.out.len]; omega
            rw [owns_cell row (i * 2 + q) _ (List.getElem?_eq_getElem hql)]
            rfl)
          (by intro q hq; exact owns_frozen row _)
        have h6 : (j - i : Nat) = j - i := rfl
        have hci : ¬ cv = i := by omega
        have hT2 := setCells_touch g zs (i * 2) wr
        have hres : Rd (wr.setCells g (i * 2) zs) 2 g (.slice (some ⟨g, 0, none⟩) i cv) ((ks.filter (isC c)).map encL) := by
          have h7 := hRd.take i (by rw [List.length_map, HD.out.len]; omega)
          rw [← List.map_take, hpre] at h7
          refine h7.keep2 (fun o ho => World.cell?_setCells_out g zs (i * 2) wr ⟨g, o, none⟩ (fun _ _ => .inl ho))
        have HRES := Lib.hid hres
        clear hres hpre hRd row
        go_wp2_with fail
        go_ret
        exact ⟨_, rfl, ⟨g, HRES.out⟩, HD.out.t.trans hT2 (by simp)⟩
  · have HE := Lib.hid (show ixv c ks = -1 by unfold ixv; rw [HN.out, if_neg hlt])
    have HF := Lib.hid (all_in (c := c) (ks := ks) (by rw [HN.out]; omega))
    go_enter Try.func48, Try.ntmps48
    go_wp2_with fail
    refine (ix_any _ b ks c q _ (by rw [HN.out]; exact hl) hb h).mono ?_
    rintro e w1 ⟨rfl, t1⟩
    rw [HE.out]
    have hb1 := hb.touch t1 (by simp)
    go_wp2_with fail
    go_ret
    exact ⟨_, b, rfl, by rw [HF.out]; exact hb1, t1.mono (by simp)⟩
set_option maxRecDepth 100000 in
set_option maxHeartbeats 1000000 in
theorem ofconn_any (t m u : Nat) (live : List Fd) (used : List Bool) (total c : Int) (w : World) (h : Tab w t m u live used total) :
    Calls Try.prog 28 #[.pointer (some ⟨t, 0, none⟩), .int .i64 c] w fun e w' => ∃ v b, e = .returned v ∧ Rd w' 2 b v (((sortK (live.map (·.key))).filter (isC c)).map encL) ∧ Touch [] w w' := by
  have tA := (Touch.refl [] w).alloc (.cells #[.int .i64 c] 3)
  have gA := heap_alloc_new w (.cells #[.int .i64 c] 3)
  have cA : (w.alloc (.cells #[.int .i64 c] 3)).cell? ⟨w.heap.size, 0, none⟩ = some (.int .i64 c) := by simp only [World.cell?]; rw [gA]; rfl
  have hA := h.touch tA (by simp)
  have hfew := h.few
  have zA : (w.alloc (.cells #[.int .i64 c] 3)).heap.size = w.heap.size + 1 := by simp
  clear gA h
  go_enter Try.func28, Try.ntmps28
  go_wp2_with fail
  refine (endpoints_any t m u live used total _ hA).mono ?_
  rintro e w1 ⟨v, rfl, ho, t1⟩
  have hl : (sortK (live.map (·.key))).length ≤ 1000 := by rw [(sortK_perm _).length_eq]; simpa using hfew
  have hc := t1.cell cA (by simp)
  have hn := ho.new
  go_wp2_with fail
  refine (del_any v _ c w.heap.size _ _ hl ho hc (by intro e; have := hn _ e; omega)).mono ?_
  rintro e w2 ⟨v2, b2, rfl, hr, t2⟩
  have T2 := (tA.trans t1 (by simp)).trans t2 (fun y hy => .inr (by have := hn y (by simpa using hy); omega))
  go_wp2_with fail
  go_ret
  exact ⟨_, b2, rfl, hr, T2⟩
end Go.Proofs.Ytnglkdpmkgehoaa

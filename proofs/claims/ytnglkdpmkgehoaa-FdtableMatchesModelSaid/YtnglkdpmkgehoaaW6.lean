/-
  The walk of FdtableNumbersUnique: true at every number and slice of operations. No condition.
-/
import Derived.Test.YtnglkdpmkgehoaaAp
import Derived.Test.YtnglkdpmkgehoaaEs
import Derived.Test.YtnglkdpmkgehoaaAw
import Derived.Test.YtnglkdpmkgehoaaArg
namespace Go.Proofs.Ytnglkdpmkgehoaa
open Go.ChangeShapes Go.WideShapes Go.Deep Go.RowKit
set_option linter.unusedVariables false
set_option linter.unusedSimpArgs false

/-- The cells of an operation. -/
def IsOp (x : List Value) : Prop := ∃ kind c a p, x = [.int .i64 kind, .int .i64 c, .int .i64 a, .bool p] ∧ okK (c, a)
theorem isOp_cells {H : Type} {enc : TypeId × Value → H} {w : World} {base : Nat} {spare : Nat → Bool} {held : Bool} {x : List Value} (h : CellsOk enc Try.prog w base spare held [3, 3, 3, 4] x) : IsOp x := by
  obtain ⟨hl, hc⟩ := h
  obtain ⟨v0, e0, l0⟩ := hc 0 3 rfl
  obtain ⟨v1, e1, l1⟩ := hc 1 3 rfl
  obtain ⟨v2, e2, l2⟩ := hc 2 3 rfl
  obtain ⟨v3, e3, l3⟩ := hc 3 4 rfl
  obtain ⟨k, rfl, wk⟩ := l0.int Try.underlying3
  obtain ⟨c, rfl, wc⟩ := l1.int Try.underlying3
  obtain ⟨a, rfl, wa⟩ := l2.int Try.underlying3
  obtain ⟨p, rfl⟩ := l3.bool Try.underlying4
  refine ⟨k, c, a, p, ?_, wc, wa⟩
  match x, hl with
  | [x, y, z, q], _ => simp at e0 e1 e2 e3; rw [e0, e1, e2, e3]

/-- The flags of the numbers met among the first j keys. -/
def saw (live : List Fd) (ks : List Key) (j : Nat) : List Bool := (List.range 16).map fun (q : Nat) => decide (∃ x ∈ ks.take j, noOf live x = (q : Int))
theorem encL_all (ks : List Key) : ∀ x ∈ ks.map encL, x.length = 2 := by
  intro x hx
  obtain ⟨_, _, rfl⟩ := List.mem_map.1 hx
  rfl
theorem saw_len (live : List Fd) (ks : List Key) (j : Nat) : (saw live ks j).length = 16 := by simp [saw]
theorem saw_zero (live : List Fd) (ks : List Key) : saw live ks 0 = List.replicate 16 false := by simp [saw]; rfl
theorem no_key {w : World} {t m u : Nat} {live : List Fd} {used : List Bool} {total : Int} (h : Tab w t m u live used total) {ks : List Key} (hp : ks.Perm (live.map (·.key))) {j : Nat} {x : Key} (hx : ks[j]? = some x) :
    okK x ∧ ∃ q : Nat, noOf live x = q ∧ q < used.length ∧ (∀ y ∈ ks.take j, noOf live y ≠ (q : Int)) := by
  have hf : ∀ y ∈ ks, ∃ f ∈ live, f.key = y ∧ noOf live y = f.no := by
    intro y hy
    obtain ⟨f, hf, rfl⟩ := List.mem_map.1 (hp.mem_iff.1 hy)
    refine ⟨f, hf, rfl, ?_⟩
    cases hfa : fdAt live f.key with
    | none => exact absurd rfl (fdAt_none.1 hfa f hf)
    | some f' =>
      obtain ⟨h1, h2⟩ := fdAt_some hfa
      rw [noOf, hfa, key_inj h.keys h1 hf h2]
  have hnd : ks.Nodup := hp.nodup_iff.2 h.keys
  obtain ⟨f, h1, h2, h3⟩ := hf x (List.mem_of_getElem? hx)
  refine ⟨h2 ▸ h.oks f h1, f.no, h3, ?_, ?_⟩
  · have := h.nos f h1
    exact (List.getElem?_eq_some_iff.1 this).1
  · intro y hy hn
    obtain ⟨f', h1', h2', h3'⟩ := hf y (List.mem_of_mem_take hy)
    rw [h3'] at hn
    have hno : f'.no = f.no := by omega
    have hff : f' = f := by
      have hnn : (live.map (·.no)).Nodup := h.nod
      obtain ⟨i, hi⟩ := List.getElem?_of_mem h1'
      obtain ⟨i', hi'⟩ := List.getElem?_of_mem h1
      have e1 : (live.map (·.no))[i]? = some f.no := by simp [hi, hno]
      have e2 : (live.map (·.no))[i']? = some f.no := by simp [hi']
      obtain ⟨q1, e1'⟩ := List.getElem?_eq_some_iff.1 e1
      obtain ⟨q2, e2'⟩ := List.getElem?_eq_some_iff.1 e2
      have := nodup_inj hnn (hi := q1) (hj := q2) (by rw [e1', e2'])
      subst this
      rw [hi] at hi'
      exact Option.some.inj hi'
    obtain rfl : y = x := by rw [← h2, ← h2', hff]
    obtain ⟨i, hi⟩ := List.getElem?_of_mem hy
    rw [List.getElem?_take] at hi
    split at hi
    · obtain ⟨q1, e1⟩ := List.getElem?_eq_some_iff.1 hi
      obtain ⟨q2, e2⟩ := List.getElem?_eq_some_iff.1 hx
      have := nodup_inj hnd (hi := q1) (hj := q2) (by rw [e1, e2])
      omega
    · cases hi
theorem saw_at {live : List Fd} {ks : List Key} {j q : Nat} (hq : q < 16) (h : ∀ y ∈ ks.take j, noOf live y ≠ (q : Int)) : (saw live ks j)[q]? = some false := by
  simp only [saw, List.getElem?_map, List.getElem?_range hq, Option.map_some, Option.some.injEq, decide_eq_false_iff_not]
  rintro ⟨y, hy, e⟩
  exact h y hy e
theorem saw_step {live : List Fd} {ks : List Key} {j q : Nat} {x : Key} (hx : ks[j]? = some x) (hn : noOf live x = q) : saw live ks (j + 1) = (saw live ks j).set q true := by
  have hj := (List.getElem?_eq_some_iff.1 hx).1
  have e : ks.take (j + 1) = ks.take j ++ [x] := by rw [List.take_add_one, hx]; rfl
  apply List.ext_getElem?
  intro i
  rw [List.getElem?_set]
  simp only [saw, List.getElem?_map, List.length_map, List.length_range]
  by_cases hi : i < 16
  · rw [List.getElem?_range hi]
    by_cases hqi : q = i
    · subst hqi
      simp [e, hi]
      exact .inr hn
    · simp [e, hqi, hi]
      have : ¬ noOf live x = (i : Int) := by omega
      simp [this]
  · have : (List.range 16)[i]? = none := by simp; omega
    rw [this]
    simp
    intro h1
    omega
theorem set_saw (w : World) (u k : Nat) (s : List Bool) (b : Bool) (h : w.heap[u]? = some (.cells (s.map Value.bool).toArray 50 (0, 0))) :
    (w.setCell ⟨u, k, none⟩ (.bool b)).heap[u]? = some (.cells ((s.set k b).map Value.bool).toArray 50 (0, 0)) := by
  simp [World.setCell, Array.getElem?_modify, h, List.map_set]

set_option maxRecDepth 100000 in
set_option maxHeartbeats 4000000 in
theorem walk6 (n : Int) (v : Value) (b : Nat) (xs : List (List Value)) (w : World) (hr : Rd w 4 b v xs) (hx : ∀ x ∈ xs, IsOp x) :
    Calls Try.prog 6 #[.int .i64 n, v] w fun e w' => e = .returned (.bool true) ∧ Touch [] w w' := by
  have g1 := gmod_lo n 10 (by omega)
  have g2 := gmod_hi n 10 (by omega)
  have hfm := hr.form
  obtain ⟨av, cv, rfl, hc1, hc2⟩ := hfm
  have hc3 : cv ≤ 9223372036854775807 := by unfold maxLen at hc2; omega
  have hrO : ∀ wr, Touch [] w wr → Rd wr 4 b (.slice av xs.length cv) xs := fun wr ht => Rd.touch ht hr (by simp)
  have HR := Lib.hid hrO
  have HX := Lib.hid hx
  clear hrO hr hx
  go_enter Try.func6, Try.ntmps6
  go_wp2_with fail
  refine (mod_any _ _ _ (by omega) (by omega)).mono ?_
  rintro e w' ⟨rfl, rfl⟩
  generalize gmod n 10 = g at *
  obtain ⟨k0, rfl⟩ := Int.eq_ofNat_of_zero_le g1
  obtain ⟨k, hk⟩ : ∃ k, k = 1 + k0 := ⟨_, rfl⟩
  have l1 : 1 ≤ k := by omega
  have l2 : k ≤ 10 := by omega
  have hk' : (1 : Int) + (k0 : Int) = (k : Int) := by omega
  have HK := Lib.hid hk'
  clear hk hk'
  go_wp2_with fail
  rw [HK.out]
  refine (new_ex (k : Int) k _ rfl l1 (by omega)).mono ?_
  rintro _ w1 ⟨t, m, u, rfl, T1, ⟨zt, zm, zu⟩, t1⟩
  have tX := (Touch.refl [] w1).alloc (.cells #[.int .i64 k, .slice none 0 0, .int .i64 0] 46)
  have gX := heap_alloc_new w1 (.cells #[.int .i64 k, .slice none 0 0, .int .i64 0] 46)
  have hB : Both w (w1.alloc (.cells #[.int .i64 k, .slice none 0 0, .int .i64 0] 46)) t m u w1.heap.size k (.slice none 0 0) [] (List.replicate k false) 0 := by
    have hl := T1.lt
    refine ⟨T1.touch tX (by simp), ⟨gX, World.ownsRow_nil _ _ _ _, by simp [Value.ownBlock], by simp⟩, by simp, ?_, ⟨?_, ?_⟩, t1.trans tX (by simp)⟩
    · intro y hy
      have := hl y hy
      exact ⟨by omega, by simp [Value.ownBlock]⟩
    · intro y hy
      simp only [Tab.foot, List.map_nil, List.mem_cons, List.not_mem_nil, or_false] at hy
      rcases hy with rfl | rfl | rfl <;> assumption
    · intro y hy
      simp only [Rf.foot, Value.ownBlock, List.mem_cons, Option.toList, List.not_mem_nil, or_false] at hy
      have := t1.size
      omega
  clear T1 zt zm zu t1 tX gX
  have HB := Lib.hid hB
  clear hB
  go_wp2_with fail
  generalize w1.heap.size = x at *
  go_loopw [9] (fun vi wr => ∃ (i : Nat) (vr : Value) (live : List Fd) (used : List Bool) (total : Int), i ≤ xs.length ∧ i ≤ 80 ∧ vi = .int .i64 i ∧ Both w wr t m u x k vr live used total ∧ 0 ≤ total ∧ total ≤ i) (fun vi _ => xs.length - (intOf vi).toNat)
  case atStart => exact ⟨0, _, _, _, _, by omega, by omega, rfl, HB.out, by omega, by omega⟩
  case round =>
    clear HB
    obtain ⟨i, vr, live, used, total, hi, hi8, rfl, hB, tt1, tt2⟩ := hrel
    have HB := Lib.hid hB
    clear hB
    by_cases hlt : i < xs.length
    · by_cases h80 : i < 80
      · have hx0 := List.getElem?_eq_getElem hlt
        obtain ⟨kind, c, a, p, hxe, hok⟩ := HX.out _ (List.getElem_mem hlt)
        rw [hxe] at hx0
        have hR := HR.out wr HB.out.t0
        obtain ⟨off, rfl, hat⟩ := hR.at (by intro e; rw [e] at hlt; simp at hlt)
        have hc := hat i _ hx0
        have q0 := hc 0 _ rfl
        have q1 := hc 1 _ rfl
        have q2 := hc 2 _ rfl
        have q3 := hc 3 _ rfl
        simp only [Nat.add_zero] at q0
        clear hc hat hR hx0 hxe
        go_wp2_with fail
        clear q0 q1 q2 q3
        refine (apply_any w t m u x k vr live used total kind c a p wr HB.out hok ⟨tt1, by omega⟩).mono ?_
        rintro e w2 ⟨rfl, vr2, live2, used2, total2, B2, ⟨tb1, tb2⟩, _, _⟩
        have HB2 := Lib.hid B2
        clear B2 HB
        go_wp2_with fail
        refine (endpoints_any t m u live2 used2 total2 _ HB2.out.tab).mono ?_
        rintro e w3 ⟨vk, rfl, ho, t3⟩
        have hp := sortK_perm (live2.map (·.key))
        generalize sortK (live2.map (·.key)) = ks at *
        have hkl : ks.length = live2.length := by simpa using hp.length_eq
        obtain ⟨ak, ck, rfl, hk1, hk2, hk3⟩ := owns_form ho.row
        have hk4 : ck ≤ 9223372036854775807 := by unfold maxLen at hk2; omega
        have hul : used2.length = k := HB2.out.len
        have hll : live2.length ≤ used2.length := by
          have h1 := HB2.out.tab.cnt
          have h2 : used2.count true ≤ used2.length := List.count_le_length
          omega
        have B3 := HB2.out.quiet t3
        have tS := (Touch.refl [] w3).alloc (.cells #[.bool false, .bool false, .bool false, .bool false, .bool false, .bool false, .bool false, .bool false, .bool false, .bool false, .bool false, .bool false, .bool false, .bool false, .bool false, .bool false] 50)
        have gS := heap_alloc_new w3 (.cells #[.bool false, .bool false, .bool false, .bool false, .bool false, .bool false, .bool false, .bool false, .bool false, .bool false, .bool false, .bool false, .bool false, .bool false, .bool false, .bool false] 50)
        have B4 := B3.quiet tS
        have hlB := B3.lt
        have o4 := ho.touch tS (by simp)
        have holt := ho.lt
        have HB4 := Lib.hid B4
        have HO4 := Lib.hid o4
        have HP := Lib.hid hp
        have hws : w.heap.size ≤ w3.heap.size := Nat.le_trans HB2.out.t0.size t3.size
        have hxl := HB2.out.tab
        clear ho B3 B4 HB2 o4 hp hxl
        go_wp2_with fail
        generalize w3.alloc (.cells #[.bool false, .bool false, .bool false, .bool false, .bool false, .bool false, .bool false, .bool false, .bool false, .bool false, .bool false, .bool false, .bool false, .bool false, .bool false, .bool false] 50) = W at *
        generalize w3.heap.size = s at *
        go_loopw [12] (fun vj wr => ∃ (j : Nat), j ≤ ks.length ∧ vj = .int .i64 j ∧ Touch [s] W wr ∧ wr.heap[s]? = some (.cells ((saw live2 ks j).map Value.bool).toArray 50 (0, 0))) (fun vj _ => ks.length - (intOf vj).toNat)
        case atStart => exact ⟨0, by omega, rfl, Touch.refl _ _, by rw [saw_zero]; exact gS⟩
        case round =>
          obtain ⟨j, hj, rfl, tj, gj⟩ := hrel
          have B5 := HB4.out.touch tj (fun y hy hm => by have := hlB y hy; simp at hm; omega) (by simpa using hws)
          have HB5 := Lib.hid B5
          clear B5
          have o5 := HO4.out.touch tj (fun g hg hm => by have := holt g hg; simp at hm; omega)
          by_cases hjl : j < ks.length
          · have hy0 := List.getElem?_eq_getElem hjl
            generalize ks[j] = y at *
            obtain ⟨oy, q, hq1, hq2, hq3⟩ := no_key HB5.out.tab HP.out hy0
            obtain ⟨gk, rfl⟩ := hk3 (by omega)
            have c0 := owns_cell o5.row (j * 2 + 0) _ (flat_get (xs := ks.map encL) (k := 2) (encL_all ks) (by rw [List.getElem?_map, hy0]; rfl) (j := 0) (u := .int .i64 y.1) rfl)
            have c1 := owns_cell o5.row (j * 2 + 1) _ (flat_get (xs := ks.map encL) (k := 2) (encL_all ks) (by rw [List.getElem?_map, hy0]; rfl) (j := 1) (u := .int .i64 y.2) rfl)
            simp only [Nat.add_zero] at c0
            have HY := Lib.hid hy0
            have HQ := Lib.hid hq1
            have HQ3 := Lib.hid hq3
            clear hy0 hq1 hq3 o5
            go_wp2_with fail
            obtain ⟨y1, y2⟩ := y
            refine (number_any t m u live2 used2 total2 y1 y2 _ HB5.out.tab oy).mono ?_
            rintro e w5 ⟨rfl, t5⟩
            rw [HQ.out]
            have g5 := t5.at gj (by simp)
            have hsat := saw_at (live := live2) (ks := ks) (j := j) (q := q) (by omega) HQ3.out
            have cs : w5.cell? ⟨s, q, none⟩ = some (.bool false) := by simp [World.cell?, g5, hsat]
            clear c0 c1 HB5
            have hqk : ¬ k ≤ q := by omega
            have fz : w5.frozen? ⟨s, q, none⟩ = false := by simp [World.frozen?, g5]
            go_wp2_with fail
            exact ⟨⟨j + 1, by omega, by go_num, (tj.trans t5 (by simp)).setCell (.inl (by simp)) _, by rw [saw_step HY.out HQ.out]; exact set_saw _ _ _ _ _ g5⟩, by simp [intOf]; omega⟩
          · obtain rfl : j = ks.length := by omega
            clear o5
            have ek : (ks.length : Int) = (live2.length : Int) := by omega
            go_wp2_with fail
            refine (free_any t m u live2 used2 total2 _ HB5.out.tab).mono ?_
            rintro e w6 ⟨rfl, t6⟩
            have e1 : ((used2.length : Int) - (live2.length : Int)) = (k : Int) - (live2.length : Int) := by omega
            rw [e1]
            have B6 := Lib.hid (HB5.out.quiet t6)
            clear HB5
            have e2 : ((live2.length : Int) + ((k : Int) - (live2.length : Int)) != (k : Int)) = false := by simp; omega
            have e3 : ¬ k < live2.length := by omega
            go_wp2_with fail
            exact ⟨⟨i + 1, vr2, live2, used2, total2, by omega, by omega, by go_num, B6.out, by omega, by omega⟩, by simp [intOf]; omega⟩
      · obtain rfl : i = 80 := by omega
        go_wp2_with fail
        refine (awake_ok _).mono ?_
        rintro e w2 ⟨rfl, t2⟩
        go_wp2_with fail
        go_ret
        exact ⟨rfl, HB.out.t0.trans t2 (by simp)⟩
    · obtain rfl : i = xs.length := by omega
      go_wp2_with fail
      refine (awake_ok _).mono ?_
      rintro e w2 ⟨rfl, t2⟩
      go_wp2_with fail
      go_ret
      exact ⟨rfl, HB.out.t0.trans t2 (by simp)⟩
namespace fdtableNumbersUnique
theorem walk {H : Type} {enc : TypeId × Value → H} {w : World} (n : Int) (hn : (Lit.int .i64 n).wf = true) (v : Value) (hv : IsSlice enc Try.prog w 0 (fun _ => true) true [3, 3, 3, 4] v) :
    Calls Try.prog 6 #[.int .i64 n, v] w fun e w' => e = .returned (.bool true) ∧ Below w.heap.size w w' := by
  obtain ⟨b, xs, hr, hx⟩ := slice_rows (by simp) hv
  exact (walk6 n v b xs w hr (fun x h => isOp_cells (hx x h))).mono fun e w' ⟨h1, h2⟩ => ⟨h1, h2.below (by simp) (Nat.le_refl _)⟩
end fdtableNumbersUnique
end Go.Proofs.Ytnglkdpmkgehoaa

/-
  Merged texts: Iv, Wo, Arg.
-/
import Derived.Test.YtecaakgpogabjaaDoorKA12
import Derived.Deep.RegionHeld3

/-
  A region that draws its order, by an invariant: each operation once, whatever came before it. Plain lemmas over any program.
-/
namespace Go.Proofs.YtecaakgpogabjaaDoor
open Go.RowKit
set_option linter.unusedVariables false
set_option linter.unusedSimpArgs false

def ordB (ops : Array Oper) : Bool := (List.range ops.size).all fun i => match ops[i]? with | some o => o.after.all fun e => decide (e.on < i) | none => true

theorem all_listed {md : Region.Mode} {ops : Array Oper} (ho : ordB ops = true) {listed : Array Bool} (hl : listed.size = ops.size) (hr : Region.ready md ops listed = []) : ∀ i, i < ops.size → listed.getD i false = true := by
  intro i
  induction i using Nat.strongRecOn with
  | _ i ih =>
    intro hi
    cases hb : listed.getD i false with
    | true => rfl
    | false =>
      exfalso
      have hil : i < listed.size := by omega
      have h1 := List.all_eq_true.1 ho i (List.mem_range.2 hi)
      have h2 : ops[i]? = some ops[i] := Array.getElem?_eq_getElem hi
      rw [h2] at h1
      have hm : i ∈ Region.ready md ops listed := mem_ready.2 ⟨by simp [hil] at hb ⊢; exact hb, _, h2, fun e he _ => by
        have h3 := of_decide_eq_true (Array.all_eq_true'.1 h1 e he)
        exact ih _ h3 (by omega)⟩
      rw [hr] at hm
      cases hm

theorem count_set {l : Array Bool} {i : Nat} (h : l.getD i true = false) (hi : i < l.size) : (l.setIfInBounds i true).toList.count false + 1 = l.toList.count false := by
  have h2 : l.toList[i]'(by simpa using hi) = false := by simpa [hi] using h
  have h3 : 0 < l.toList.count false := List.count_pos_iff.2 (h2 ▸ List.getElem_mem _)
  rw [Array.toList_setIfInBounds, List.count_set (by simpa using hi)]
  have e : (l.toList[i]'(by simpa using hi) == false) = true := by rw [h2]; rfl
  have e2 : (true == false) = false := rfl
  rw [e, e2, if_pos rfl, if_neg (by simp)]
  omega

theorem wpAny_inv {P : Program} {md : Region.Mode} {ops : Array Oper} {Q : Exit → Act → World → Prop} (Inv : (Nat → Bool) → Act → World → Prop) (ho : ordB ops = true)
    (hstep : ∀ i o, ops[i]? = some o → ∀ L a w, L i = false → (∀ e ∈ o.after, Region.binds md e = true → L e.on = true) → Inv L a w → ∀ K' : Act → World → Prop, Shut (∀ a w, Inv (fun j => decide (j = i) || L j) a w → K' a w) → if Region.wanted o (yielded ops a.tmps) = true then Oper.wp P o a w K' Q else K' (a.put o.dst undef) w)
    (hdone : ∀ L a w, (∀ i, i < ops.size → L i = true) → Inv L a w → Q .normal a w) :
    ∀ (fuel : Nat) (listed : Array Bool) (a : Act) (w : World), listed.size = ops.size → listed.toList.count false = fuel → Inv (fun j => listed.getD j false) a w → wpAny P md ops Q fuel listed a w := by
  intro fuel
  induction fuel with
  | zero =>
    intro listed a w hs hc hI
    have hall : ∀ i, i < ops.size → listed.getD i false = true := by
      intro i hi
      have hil : i < listed.size := by omega
      cases hb : listed.getD i false with
      | true => rfl
      | false =>
        have := List.count_eq_zero.1 hc
        exact absurd (by rw [← hb]; simp [hil]) this
    refine ⟨?_, hdone _ _ _ hall hI⟩
    cases hr : Region.ready md ops listed with
    | nil => rfl
    | cons x xs =>
      obtain ⟨h1, o, h2, _⟩ := mem_ready.1 (hr ▸ List.mem_cons_self : x ∈ Region.ready md ops listed)
      have hx : x < ops.size := (Array.getElem?_eq_some_iff.1 h2).1
      have := hall x hx
      have hil : x < listed.size := by omega
      simp [hil] at this h1
      rw [this] at h1
      cases h1
  | succ fuel ih =>
    intro listed a w hs hc hI
    refine ⟨fun hr => hdone _ _ _ (all_listed ho hs hr) hI, fun i hi => ?_⟩
    obtain ⟨h1, o, h2, h3⟩ := mem_ready.1 hi
    have hx : i < ops.size := (Array.getElem?_eq_some_iff.1 h2).1
    have hil : i < listed.size := by omega
    refine wpOp_step h2 (fun K' hK => hstep i o h2 _ a w (by simp [hil] at h1 ⊢; exact h1) h3 hI K' (fun a' w' hI' => hK a' w' (ih _ a' w' (by simpa using hs) (by have := count_set h1 hil; omega) ?_)))
    have e : (fun j => (listed.setIfInBounds i true).getD j false) = fun j => decide (j = i) || listed.getD j false := by
      funext j
      by_cases hj : j = i
      · subst hj; simp [hil]
      · have : ¬ i = j := fun h => hj h.symm
        simp only [Array.getD_eq_getD_getElem?, Array.getElem?_setIfInBounds, hj, this, if_false, decide_false, Bool.false_or]
    rw [e]
    exact hI'

theorem wp_region_inv {P : Program} {ops : Array Oper} {Q : Exit → Act → World → Prop} (Inv : (Nat → Bool) → Act → World → Prop) {id : Nat} {a : Act} {w : World} (hm : P.follows .mixedOrders = true) (ho : ordB ops = true)
    (h0 : Inv (fun _ => false) a w.drew)
    (hstep : ∀ i o, ops[i]? = some o → ∀ L a w, L i = false → (∀ e ∈ o.after, Region.binds .any e = true → L e.on = true) → Inv L a w → ∀ K' : Act → World → Prop, Shut (∀ a w, Inv (fun j => decide (j = i) || L j) a w → K' a w) → if Region.wanted o (yielded ops a.tmps) = true then Oper.wp P o a w K' Q else K' (a.put o.dst undef) w)
    (hdone : ∀ L a w, (∀ i, i < ops.size → L i = true) → Inv L a w → Q .normal a w) : (Code.region id ops true).wp P Q a w := by
  refine wp_region_any hm (wpAny_inv Inv ho hstep hdone _ _ _ _ (by simp) (by simp) ?_)
  have e : (fun j => (Array.replicate ops.size false).getD j false) = fun _ => false := by
    funext j
    simp only [Array.getD_eq_getD_getElem?, Array.getElem?_replicate]
    split <;> rfl
  rw [e]
  exact h0
end Go.Proofs.YtecaakgpogabjaaDoor

/-
  The law 'Less is a weak order': the walk of its Go function.
-/
namespace Go.Proofs.YtecaakgpogabjaaDoor
open Go.RowKit
set_option linter.unusedVariables false
set_option linter.unusedSimpArgs false

/-- A new block: allotted (p), stored into (s). -/
def WoSlot (n : Nat) (p s : Bool) (t tv : Value) (w : World) : Prop :=
  p = true → ∃ g cs, t = .pointer (some ⟨g, 0, none⟩) ∧ w.heap[g]? = some (.cells (List.toArray cs) 28 (0, 0)) ∧ cs.length = 17 ∧ n ≤ g ∧ (s = true → tv = .agg cs.toArray)
theorem WoSlot.touch {n : Nat} {p s : Bool} {t tv : Value} {w w' : World} (h : WoSlot n p s t tv w) (ht : Touch [] w w') : WoSlot n p s t tv w' := fun hp => by
  obtain ⟨g, cs, e, hg, r⟩ := h hp
  exact ⟨g, cs, e, ht.at hg (by simp), r⟩
theorem WoSlot.re {n : Nat} {p s : Bool} {t tv tv' : Value} {w : World} (h : WoSlot n p s t tv w) (hs : s = false) : WoSlot n p s t tv' w := fun hp => by
  obtain ⟨g, cs, e, hg, hl, hn, _⟩ := h hp
  exact ⟨g, cs, e, hg, hl, hn, fun h => by rw [hs] at h; cases h⟩
theorem WoSlot.ne_new {n : Nat} {p s : Bool} {t tv : Value} {w : World} (h : WoSlot n p s t tv w) (hp : p = true) : t ≠ .pointer (some ⟨w.heap.size, 0, none⟩) := by
  obtain ⟨g, cs, rfl, hg, _⟩ := h hp
  intro he
  have hlt := (Array.getElem?_eq_some_iff.1 hg).1
  cases he
  exact Nat.lt_irrefl _ hlt
theorem WoSlot.new {n : Nat} {p s : Bool} {tv : Value} {W w : World} (hs : s = false) (o : Obj) (h : Touch [] W w) (ho : o = .cells (List.toArray (adr false [0, 0, 0, 0, 0, 0, 0, 0, 0, 0, 0, 0, 0, 0, 0, 0])) 28 (0, 0) := by rfl) (hn : n ≤ W.heap.size := by omega) :
    WoSlot n p s (.pointer (some ⟨w.heap.size, 0, none⟩)) tv (w.alloc o) := fun _ =>
  ⟨_, _, rfl, by rw [heap_alloc_new, ho], by simp [adr], by have := h.size; omega, fun h => by rw [hs] at h; cases h⟩
theorem WoSlot.other {n : Nat} {p s : Bool} {t tv : Value} {g : Nat} {w w' : World} (h : WoSlot n p s t tv w) (ht : Touch [g] w w') (hne : p = true → t ≠ .pointer (some ⟨g, 0, none⟩)) : WoSlot n p s t tv w' := fun hp => by
  obtain ⟨g', cs, e, hg, r⟩ := h hp
  refine ⟨g', cs, e, ht.at hg ?_, r⟩
  intro hm
  simp at hm
  subst hm
  exact hne hp e
def woAct (n : Nat) (ca cb cc : List Value) (t7 t8 t9 t10 t11 t12 t13 t14 t15 : Value) : Act :=
  { tmps := List.toArray (.agg ca.toArray :: .agg cb.toArray :: .agg cc.toArray :: .pointer (some ⟨n, 0, none⟩) :: .pointer (some ⟨n + 1, 0, none⟩) :: .pointer (some ⟨n + 2, 0, none⟩) :: .bool false :: t7 :: t8 :: t9 :: t10 :: t11 :: t12 :: t13 :: t14 :: t15 :: undef :: undef :: undef :: undef :: undef :: undef :: undef :: undef :: undef :: undef :: undef :: undef :: undef :: undef :: undef :: undef :: undef :: undef :: undef :: undef :: undef :: undef :: undef :: undef :: undef :: undef :: undef :: undef :: undef :: undef :: undef :: undef :: undef :: undef :: undef :: undef :: undef :: undef :: undef :: undef :: undef :: undef :: undef :: undef :: undef :: undef :: undef :: undef :: undef :: undef :: undef :: undef :: undef :: undef :: undef :: undef :: undef :: undef :: undef :: undef :: undef :: undef :: undef :: undef :: undef :: []), defers := [] }
def WoInv (n : Nat) (W : World) (ca cb cc : List Value) (L : Nat → Bool) (a : Act) (w : World) : Prop :=
  ∃ t7 t8 t9 t10 t11 t12 t13 t14 t15, a = woAct n ca cb cc t7 t8 t9 t10 t11 t12 t13 t14 t15 ∧
    (L 0 = true → t10 = .agg ca.toArray) ∧ (L 1 = true → ∃ x : Ad, t11 = .agg x.cells.toArray) ∧ (L 2 = true → t12 = .agg cb.toArray) ∧ (L 3 = true → ∃ x : Ad, t13 = .agg x.cells.toArray) ∧
    (L 4 = true → t14 = .agg cc.toArray) ∧ (L 5 = true → ∃ x : Ad, t15 = .agg x.cells.toArray) ∧
    WoSlot W.heap.size (L 6) (L 9) t7 t11 w ∧ WoSlot W.heap.size (L 7) (L 10) t8 t13 w ∧ WoSlot W.heap.size (L 8) (L 11) t9 t15 w ∧
    (L 6 = true → L 7 = true → t7 ≠ t8) ∧ (L 6 = true → L 8 = true → t7 ≠ t9) ∧ (L 7 = true → L 8 = true → t8 ≠ t9) ∧
    (L 9 = true → L 1 = true ∧ L 6 = true) ∧ (L 10 = true → L 3 = true ∧ L 7 = true) ∧ (L 11 = true → L 5 = true ∧ L 8 = true) ∧ Touch [] W w

theorem ad_less_iff (a c : Ad) : a.less c = true ↔ precP c.b c.xs < precP a.b a.xs ∨ (precP a.b a.xs = precP c.b c.xs ∧ scopeP a.b a.xs < scopeP c.b c.xs) := by
  unfold Ad.less
  rw [lessP_eq]
  simp
theorem ad_irr (a : Ad) : a.less a = false := by
  cases h : a.less a with
  | false => rfl
  | true => have := (ad_less_iff a a).1 h; omega
theorem ad_asym {a c : Ad} (h : a.less c = true) : c.less a = false := by
  cases h2 : c.less a with
  | false => rfl
  | true => have := (ad_less_iff _ _).1 h; have := (ad_less_iff _ _).1 h2; omega
theorem ad_trans {a b c : Ad} (h : a.less b = true) (h2 : b.less c = true) : a.less c = true := by
  have := (ad_less_iff _ _).1 h
  have := (ad_less_iff _ _).1 h2
  exact (ad_less_iff _ _).2 (by omega)
theorem ad_ntr {a b c : Ad} (h : a.less b = false) (h2 : b.less c = false) : a.less c = false := by
  cases h3 : a.less c with
  | false => rfl
  | true =>
    have := (ad_less_iff _ _).1 h3
    have := mt (ad_less_iff a b).2 (by simp [h])
    have := mt (ad_less_iff b c).2 (by simp [h2])
    omega
theorem lessA (a c : Ad) (r : Bool) (h : a.less c = r) (w : World) : Calls Tryd.prog 14 #[.agg a.cells.toArray, .agg c.cells.toArray] w fun e w' => e = .returned (.bool r) ∧ Touch [] w w' := by
  subst h
  exact less_any a.b a.xs c.b c.xs a.ok c.ok w
theorem rlessA (a c : Ad) (r : Bool) (h : a.less c = r) (w : World) : Calls Tryd.prog 16 #[.agg a.cells.toArray, .agg c.cells.toArray] w fun e w' => e = .returned (.bool r) ∧ Touch [] w w' := by
  subst h
  exact rless_any a.b a.xs c.b c.xs a.ok c.ok w
set_option maxRecDepth 100000 in
set_option maxHeartbeats 4000000 in
theorem wo_any (a b c : Ad) (w : World) : Calls Tryd.prog 5 #[.agg a.cells.toArray, .agg b.cells.toArray, .agg c.cells.toArray] w fun e w' => e = .returned (.bool true) ∧ Touch [] w w' := by
  have HLa := Lib.hid a.len
  have HLb := Lib.hid b.len
  have HLc := Lib.hid c.len
  have HIa := Lib.hid a.is
  have HIb := Lib.hid b.is
  have HIc := Lib.hid c.is
  obtain ⟨ca, hca⟩ : ∃ q, q = a.cells := ⟨_, rfl⟩
  rw [← hca] at HLa HIa ⊢
  have HCa := Lib.hid hca
  clear hca
  obtain ⟨cb, hcb⟩ : ∃ q, q = b.cells := ⟨_, rfl⟩
  rw [← hcb] at HLb HIb ⊢
  have HCb := Lib.hid hcb
  clear hcb
  obtain ⟨cc, hcc⟩ : ∃ q, q = c.cells := ⟨_, rfl⟩
  rw [← hcc] at HLc HIc ⊢
  have HCc := Lib.hid hcc
  clear hcc
  go_enter Tryd.func5, Tryd.ntmps5
  go_wp2_with fail
  have R0 := World.rangeAt_alloc (World.rangeAt_alloc (range_new w ca 28) (.cells cb.toArray 28)) (.cells cc.toArray 28)
  have R1 := World.rangeAt_alloc (range_new (w.alloc (.cells ca.toArray 28)) cb 28) (.cells cc.toArray 28)
  have R2 := range_new ((w.alloc (.cells ca.toArray 28)).alloc (.cells cb.toArray 28)) cc 28
  have T0 := Lib.hid ((((Touch.refl [] w).alloc (.cells ca.toArray 28)).alloc (.cells cb.toArray 28)).alloc (.cells cc.toArray 28))
  obtain ⟨W, hW⟩ : ∃ W, W = (((w.alloc (.cells ca.toArray 28)).alloc (.cells cb.toArray 28)).alloc (.cells cc.toArray 28)) := ⟨_, rfl⟩
  have rA : W.rangeAt w.heap.size 0 ca := by rw [hW]; exact R0
  have rB : W.rangeAt (w.heap.size + 1) 0 cb := by rw [hW]; simpa using R1
  have rC : W.rangeAt (w.heap.size + 2) 0 cc := by rw [hW]; simpa using R2
  have hWn : w.heap.size + 3 = W.heap.size := by rw [hW]; simp
  rw [← hW] at T0 ⊢
  clear hW R0 R1 R2
  refine wp_region_inv (WoInv w.heap.size W ca cb cc) (by kernel_rfl) (by kernel_rfl) ?_ ?_ ?_
  · refine ⟨undef, undef, undef, undef, undef, undef, undef, undef, undef, by rfl, ?_, ?_, ?_, ?_, ?_, ?_, ?_, ?_, ?_, ?_, ?_, ?_, ?_, ?_, ?_, ?_⟩
    · simp
    · simp
    · simp
    · simp
    · simp
    · simp
    · exact fun h => by cases h
    · exact fun h => by cases h
    · exact fun h => by cases h
    · simp
    · simp
    · simp
    · simp
    · simp
    · simp
    · exact (Touch.refl [] W).drew
  · intro i o hi L a1 w1 hL hb ⟨t7, t8, t9, t10, t11, t12, t13, t14, t15, ha, c10, c11, c12, c13, c14, c15, s7, s8, s9, d78, d79, d89, k9, k10, k11, tch⟩ K' hK0
    have hK := hK0.out
    clear hK0
    subst ha
    unfold woAct at *
    obtain _ | _ | _ | _ | _ | _ | _ | _ | _ | _ | _ | _ | i := i
    · cases hi
      try simp only [Nat.zero_add, Nat.reduceAdd] at hL hK
      refine step_of_list (by rfl) ?_
      refine wpList_load_mid rfl 28 _ rfl _ _ rfl ca _ (tch.range rA (by simp)) Tryd.underlying28 rfl (by rw [size31, HLa.out]) ?_
      refine ⟨rfl, hK _ _ ?_⟩
      refine ⟨t7, t8, t9, _, t11, t12, t13, t14, t15, by rfl, ?_, ?_, ?_, ?_, ?_, ?_, ?_, ?_, ?_, ?_, ?_, ?_, ?_, ?_, ?_, ?_⟩
      · exact fun _ => rfl
      · exact by first | exact fun _ => rfl | simpa using c11
      · exact by first | exact fun _ => rfl | simpa using c12
      · exact by first | exact fun _ => rfl | simpa using c13
      · exact by first | exact fun _ => rfl | simpa using c14
      · exact by first | exact fun _ => rfl | simpa using c15
      · exact by simpa using s7
      · exact by simpa using s8
      · exact by simpa using s9
      · exact by simpa using d78
      · exact by simpa using d79
      · exact by simpa using d89
      · exact by simpa using k9
      · exact by simpa using k10
      · exact by simpa using k11
      · exact tch
    · cases hi
      try simp only [Nat.zero_add, Nat.reduceAdd] at hL hK
      have l0 : L 0 = true := hb ⟨0, .data⟩ (by simp) (by kernel_rfl)
      obtain rfl := c10 l0
      go_simp
      refine (some_any _ _ HIa.out).mono ?_
      rintro e w2 ⟨cs', had, rfl, tt⟩
      obtain ⟨x, rfl⟩ := ad_of had
      refine hK _ _ ?_
      have hno : L 9 = false := by cases hq : L 9 with | false => rfl | true => exact absurd (k9 hq).1 (by simp [hL])
      refine ⟨t7, t8, t9, _, _, t12, t13, t14, t15, by rfl, ?_, ?_, ?_, ?_, ?_, ?_, ?_, ?_, ?_, ?_, ?_, ?_, ?_, ?_, ?_, ?_⟩
      · exact by first | exact fun _ => rfl | simpa using c10
      · exact fun _ => ⟨x, rfl⟩
      · exact by first | exact fun _ => rfl | simpa using c12
      · exact by first | exact fun _ => rfl | simpa using c13
      · exact by first | exact fun _ => rfl | simpa using c14
      · exact by first | exact fun _ => rfl | simpa using c15
      · exact by simpa using (s7.touch tt).re hno
      · exact by simpa using s8.touch tt
      · exact by simpa using s9.touch tt
      · exact by simpa using d78
      · exact by simpa using d79
      · exact by simpa using d89
      · exact by simp [hno]
      · exact by simpa using k10
      · exact by simpa using k11
      · exact tch.trans tt (by simp)
    · cases hi
      try simp only [Nat.zero_add, Nat.reduceAdd] at hL hK
      refine step_of_list (by rfl) ?_
      refine wpList_load_mid rfl 28 _ rfl _ _ rfl cb _ (tch.range rB (by simp)) Tryd.underlying28 rfl (by rw [size31, HLb.out]) ?_
      refine ⟨rfl, hK _ _ ?_⟩
      refine ⟨t7, t8, t9, t10, t11, _, t13, t14, t15, by rfl, ?_, ?_, ?_, ?_, ?_, ?_, ?_, ?_, ?_, ?_, ?_, ?_, ?_, ?_, ?_, ?_⟩
      · exact by first | exact fun _ => rfl | simpa using c10
      · exact by first | exact fun _ => rfl | simpa using c11
      · exact fun _ => rfl
      · exact by first | exact fun _ => rfl | simpa using c13
      · exact by first | exact fun _ => rfl | simpa using c14
      · exact by first | exact fun _ => rfl | simpa using c15
      · exact by simpa using s7
      · exact by simpa using s8
      · exact by simpa using s9
      · exact by simpa using d78
      · exact by simpa using d79
      · exact by simpa using d89
      · exact by simpa using k9
      · exact by simpa using k10
      · exact by simpa using k11
      · exact tch
    · cases hi
      try simp only [Nat.zero_add, Nat.reduceAdd] at hL hK
      have l2 : L 2 = true := hb ⟨2, .data⟩ (by simp) (by kernel_rfl)
      obtain rfl := c12 l2
      go_simp
      refine (some_any _ _ HIb.out).mono ?_
      rintro e w2 ⟨cs', had, rfl, tt⟩
      obtain ⟨x, rfl⟩ := ad_of had
      refine hK _ _ ?_
      have hno : L 10 = false := by cases hq : L 10 with | false => rfl | true => exact absurd (k10 hq).1 (by simp [hL])
      refine ⟨t7, t8, t9, t10, t11, _, _, t14, t15, by rfl, ?_, ?_, ?_, ?_, ?_, ?_, ?_, ?_, ?_, ?_, ?_, ?_, ?_, ?_, ?_, ?_⟩
      · exact by first | exact fun _ => rfl | simpa using c10
      · exact by first | exact fun _ => rfl | simpa using c11
      · exact by first | exact fun _ => rfl | simpa using c12
      · exact fun _ => ⟨x, rfl⟩
      · exact by first | exact fun _ => rfl | simpa using c14
      · exact by first | exact fun _ => rfl | simpa using c15
      · exact by simpa using s7.touch tt
      · exact by simpa using (s8.touch tt).re hno
      · exact by simpa using s9.touch tt
      · exact by simpa using d78
      · exact by simpa using d79
      · exact by simpa using d89
      · exact by simpa using k9
      · exact by simp [hno]
      · exact by simpa using k11
      · exact tch.trans tt (by simp)
    · cases hi
      try simp only [Nat.zero_add, Nat.reduceAdd] at hL hK
      refine step_of_list (by rfl) ?_
      refine wpList_load_mid rfl 28 _ rfl _ _ rfl cc _ (tch.range rC (by simp)) Tryd.underlying28 rfl (by rw [size31, HLc.out]) ?_
      refine ⟨rfl, hK _ _ ?_⟩
      refine ⟨t7, t8, t9, t10, t11, t12, t13, _, t15, by rfl, ?_, ?_, ?_, ?_, ?_, ?_, ?_, ?_, ?_, ?_, ?_, ?_, ?_, ?_, ?_, ?_⟩
      · exact by first | exact fun _ => rfl | simpa using c10
      · exact by first | exact fun _ => rfl | simpa using c11
      · exact by first | exact fun _ => rfl | simpa using c12
      · exact by first | exact fun _ => rfl | simpa using c13
      · exact fun _ => rfl
      · exact by first | exact fun _ => rfl | simpa using c15
      · exact by simpa using s7
      · exact by simpa using s8
      · exact by simpa using s9
      · exact by simpa using d78
      · exact by simpa using d79
      · exact by simpa using d89
      · exact by simpa using k9
      · exact by simpa using k10
      · exact by simpa using k11
      · exact tch
    · cases hi
      try simp only [Nat.zero_add, Nat.reduceAdd] at hL hK
      have l4 : L 4 = true := hb ⟨4, .data⟩ (by simp) (by kernel_rfl)
      obtain rfl := c14 l4
      go_simp
      refine (some_any _ _ HIc.out).mono ?_
      rintro e w2 ⟨cs', had, rfl, tt⟩
      obtain ⟨x, rfl⟩ := ad_of had
      refine hK _ _ ?_
      have hno : L 11 = false := by cases hq : L 11 with | false => rfl | true => exact absurd (k11 hq).1 (by simp [hL])
      refine ⟨t7, t8, t9, t10, t11, t12, t13, _, _, by rfl, ?_, ?_, ?_, ?_, ?_, ?_, ?_, ?_, ?_, ?_, ?_, ?_, ?_, ?_, ?_, ?_⟩
      · exact by first | exact fun _ => rfl | simpa using c10
      · exact by first | exact fun _ => rfl | simpa using c11
      · exact by first | exact fun _ => rfl | simpa using c12
      · exact by first | exact fun _ => rfl | simpa using c13
      · exact by first | exact fun _ => rfl | simpa using c14
      · exact fun _ => ⟨x, rfl⟩
      · exact by simpa using s7.touch tt
      · exact by simpa using s8.touch tt
      · exact by simpa using (s9.touch tt).re hno
      · exact by simpa using d78
      · exact by simpa using d79
      · exact by simpa using d89
      · exact by simpa using k9
      · exact by simpa using k10
      · exact by simp [hno]
      · exact tch.trans tt (by simp)
    · cases hi
      try simp only [Nat.zero_add, Nat.reduceAdd] at hL hK
      go_simp
      refine hK _ _ ?_
      have ta := (Touch.refl [] w1).alloc (.cells #[.bool false, .int .u8 0, .int .u8 0, .int .u8 0, .int .u8 0, .int .u8 0, .int .u8 0, .int .u8 0, .int .u8 0, .int .u8 0, .int .u8 0, .int .u8 0, .int .u8 0, .int .u8 0, .int .u8 0, .int .u8 0, .int .u8 0] 28)
      have hno : L 9 = false := by cases hq : L 9 with | false => rfl | true => exact absurd (k9 hq).2 (by simp [hL])
      refine ⟨_, t8, t9, t10, t11, t12, t13, t14, t15, by rfl, ?_, ?_, ?_, ?_, ?_, ?_, ?_, ?_, ?_, ?_, ?_, ?_, ?_, ?_, ?_, ?_⟩
      · exact by first | exact fun _ => rfl | simpa using c10
      · exact by first | exact fun _ => rfl | simpa using c11
      · exact by first | exact fun _ => rfl | simpa using c12
      · exact by first | exact fun _ => rfl | simpa using c13
      · exact by first | exact fun _ => rfl | simpa using c14
      · exact by first | exact fun _ => rfl | simpa using c15
      · exact WoSlot.new hno _ tch
      · exact by simpa using s8.touch ta
      · exact by simpa using s9.touch ta
      · exact fun _ hq => (s8.ne_new (by simpa using hq)).symm
      · exact fun _ hq => (s9.ne_new (by simpa using hq)).symm
      · exact by simpa using d89
      · exact by simp [hno]
      · exact by simpa using k10
      · exact by simpa using k11
      · exact tch.trans ta (by simp)
    · cases hi
      try simp only [Nat.zero_add, Nat.reduceAdd] at hL hK
      go_simp
      refine hK _ _ ?_
      have ta := (Touch.refl [] w1).alloc (.cells #[.bool false, .int .u8 0, .int .u8 0, .int .u8 0, .int .u8 0, .int .u8 0, .int .u8 0, .int .u8 0, .int .u8 0, .int .u8 0, .int .u8 0, .int .u8 0, .int .u8 0, .int .u8 0, .int .u8 0, .int .u8 0, .int .u8 0] 28)
      have hno : L 10 = false := by cases hq : L 10 with | false => rfl | true => exact absurd (k10 hq).2 (by simp [hL])
      refine ⟨t7, _, t9, t10, t11, t12, t13, t14, t15, by rfl, ?_, ?_, ?_, ?_, ?_, ?_, ?_, ?_, ?_, ?_, ?_, ?_, ?_, ?_, ?_, ?_⟩
      · exact by first | exact fun _ => rfl | simpa using c10
      · exact by first | exact fun _ => rfl | simpa using c11
      · exact by first | exact fun _ => rfl | simpa using c12
      · exact by first | exact fun _ => rfl | simpa using c13
      · exact by first | exact fun _ => rfl | simpa using c14
      · exact by first | exact fun _ => rfl | simpa using c15
      · exact by simpa using s7.touch ta
      · exact WoSlot.new hno _ tch
      · exact by simpa using s9.touch ta
      · exact fun hq _ => s7.ne_new (by simpa using hq)
      · exact by simpa using d79
      · exact fun _ hq => (s9.ne_new (by simpa using hq)).symm
      · exact by simpa using k9
      · exact by simp [hno]
      · exact by simpa using k11
      · exact tch.trans ta (by simp)
    · cases hi
      try simp only [Nat.zero_add, Nat.reduceAdd] at hL hK
      go_simp
      refine hK _ _ ?_
      have ta := (Touch.refl [] w1).alloc (.cells #[.bool false, .int .u8 0, .int .u8 0, .int .u8 0, .int .u8 0, .int .u8 0, .int .u8 0, .int .u8 0, .int .u8 0, .int .u8 0, .int .u8 0, .int .u8 0, .int .u8 0, .int .u8 0, .int .u8 0, .int .u8 0, .int .u8 0] 28)
      have hno : L 11 = false := by cases hq : L 11 with | false => rfl | true => exact absurd (k11 hq).2 (by simp [hL])
      refine ⟨t7, t8, _, t10, t11, t12, t13, t14, t15, by rfl, ?_, ?_, ?_, ?_, ?_, ?_, ?_, ?_, ?_, ?_, ?_, ?_, ?_, ?_, ?_, ?_⟩
      · exact by first | exact fun _ => rfl | simpa using c10
      · exact by first | exact fun _ => rfl | simpa using c11
      · exact by first | exact fun _ => rfl | simpa using c12
      · exact by first | exact fun _ => rfl | simpa using c13
      · exact by first | exact fun _ => rfl | simpa using c14
      · exact by first | exact fun _ => rfl | simpa using c15
      · exact by simpa using s7.touch ta
      · exact by simpa using s8.touch ta
      · exact WoSlot.new hno _ tch
      · exact by simpa using d78
      · exact fun hq _ => s7.ne_new (by simpa using hq)
      · exact fun hq _ => s8.ne_new (by simpa using hq)
      · exact by simpa using k9
      · exact by simpa using k10
      · exact by simp [hno]
      · exact tch.trans ta (by simp)
    · cases hi
      try simp only [Nat.zero_add, Nat.reduceAdd] at hL hK
      have l1 : L 1 = true := hb ⟨1, .data⟩ (by simp) (by kernel_rfl)
      have l6 : L 6 = true := hb ⟨6, .data⟩ (by simp) (by kernel_rfl)
      obtain ⟨x, rfl⟩ := c11 l1
      obtain ⟨g, cs, rfl, hg, hcl, hgn, _⟩ := s7 l6
      refine step_of_list (by rfl) ?_
      refine wpList_store_into rfl 28 _ _ rfl g 28 _ x.cells rfl rfl hg (by simp [hcl, x.len]) (by rw [size31, x.len]) x.one ?_
      intro w2 hg2 tt hz2
      refine ⟨rfl, hK _ _ ?_⟩
      refine ⟨_, t8, t9, t10, _, t12, t13, t14, t15, by rfl, ?_, ?_, ?_, ?_, ?_, ?_, ?_, ?_, ?_, ?_, ?_, ?_, ?_, ?_, ?_, ?_⟩
      · exact by first | exact fun _ => rfl | simpa using c10
      · exact by first | exact fun _ => rfl | simpa using c11
      · exact by first | exact fun _ => rfl | simpa using c12
      · exact by first | exact fun _ => rfl | simpa using c13
      · exact by first | exact fun _ => rfl | simpa using c14
      · exact by first | exact fun _ => rfl | simpa using c15
      · exact (by simpa [WoSlot, l6] using ⟨x.cells, hg2, x.len, hgn, rfl⟩)
      · exact by simpa using s8.other tt (fun hq hh => d78 l6 hq hh.symm)
      · exact by simpa using s9.other tt (fun hq hh => d79 l6 hq hh.symm)
      · exact by simpa using d78
      · exact by simpa using d79
      · exact by simpa using d89
      · exact by simp [l1, l6]
      · exact by simpa using k10
      · exact by simpa using k11
      · exact tch.trans tt (by intro y hy; right; simp at hy; omega)
    · cases hi
      try simp only [Nat.zero_add, Nat.reduceAdd] at hL hK
      have l3 : L 3 = true := hb ⟨3, .data⟩ (by simp) (by kernel_rfl)
      have l7 : L 7 = true := hb ⟨7, .data⟩ (by simp) (by kernel_rfl)
      obtain ⟨x, rfl⟩ := c13 l3
      obtain ⟨g, cs, rfl, hg, hcl, hgn, _⟩ := s8 l7
      refine step_of_list (by rfl) ?_
      refine wpList_store_into rfl 28 _ _ rfl g 28 _ x.cells rfl rfl hg (by simp [hcl, x.len]) (by rw [size31, x.len]) x.one ?_
      intro w2 hg2 tt hz2
      refine ⟨rfl, hK _ _ ?_⟩
      refine ⟨t7, _, t9, t10, t11, t12, _, t14, t15, by rfl, ?_, ?_, ?_, ?_, ?_, ?_, ?_, ?_, ?_, ?_, ?_, ?_, ?_, ?_, ?_, ?_⟩
      · exact by first | exact fun _ => rfl | simpa using c10
      · exact by first | exact fun _ => rfl | simpa using c11
      · exact by first | exact fun _ => rfl | simpa using c12
      · exact by first | exact fun _ => rfl | simpa using c13
      · exact by first | exact fun _ => rfl | simpa using c14
      · exact by first | exact fun _ => rfl | simpa using c15
      · exact by simpa using s7.other tt (fun hq hh => d78 hq l7 hh)
      · exact (by simpa [WoSlot, l7] using ⟨x.cells, hg2, x.len, hgn, rfl⟩)
      · exact by simpa using s9.other tt (fun hq hh => d89 l7 hq hh.symm)
      · exact by simpa using d78
      · exact by simpa using d79
      · exact by simpa using d89
      · exact by simpa using k9
      · exact by simp [l3, l7]
      · exact by simpa using k11
      · exact tch.trans tt (by intro y hy; right; simp at hy; omega)
    · cases hi
      try simp only [Nat.zero_add, Nat.reduceAdd] at hL hK
      have l5 : L 5 = true := hb ⟨5, .data⟩ (by simp) (by kernel_rfl)
      have l8 : L 8 = true := hb ⟨8, .data⟩ (by simp) (by kernel_rfl)
      obtain ⟨x, rfl⟩ := c15 l5
      obtain ⟨g, cs, rfl, hg, hcl, hgn, _⟩ := s9 l8
      refine step_of_list (by rfl) ?_
      refine wpList_store_into rfl 28 _ _ rfl g 28 _ x.cells rfl rfl hg (by simp [hcl, x.len]) (by rw [size31, x.len]) x.one ?_
      intro w2 hg2 tt hz2
      refine ⟨rfl, hK _ _ ?_⟩
      refine ⟨t7, t8, _, t10, t11, t12, t13, t14, _, by rfl, ?_, ?_, ?_, ?_, ?_, ?_, ?_, ?_, ?_, ?_, ?_, ?_, ?_, ?_, ?_, ?_⟩
      · exact by first | exact fun _ => rfl | simpa using c10
      · exact by first | exact fun _ => rfl | simpa using c11
      · exact by first | exact fun _ => rfl | simpa using c12
      · exact by first | exact fun _ => rfl | simpa using c13
      · exact by first | exact fun _ => rfl | simpa using c14
      · exact by first | exact fun _ => rfl | simpa using c15
      · exact by simpa using s7.other tt (fun hq hh => d79 hq l8 hh)
      · exact by simpa using s8.other tt (fun hq hh => d89 hq l8 hh)
      · exact (by simpa [WoSlot, l8] using ⟨x.cells, hg2, x.len, hgn, rfl⟩)
      · exact by simpa using d78
      · exact by simpa using d79
      · exact by simpa using d89
      · exact by simpa using k9
      · exact by simpa using k10
      · exact by simp [l5, l8]
      · exact tch.trans tt (by intro y hy; right; simp at hy; omega)
    · simp at hi
  · intro L a1 w1 hall ⟨t7, t8, t9, t10, t11, t12, t13, t14, t15, ha, c10, c11, c12, c13, c14, c15, s7, s8, s9, d78, d79, d89, k9, k10, k11, tch⟩
    obtain ⟨x, rfl⟩ := c11 (hall 1 (of_decide_eq_true (by kernel_rfl)))
    obtain ⟨y, rfl⟩ := c13 (hall 3 (of_decide_eq_true (by kernel_rfl)))
    obtain ⟨z, rfl⟩ := c15 (hall 5 (of_decide_eq_true (by kernel_rfl)))
    obtain ⟨g7, cs7, rfl, hg7, _, hn7, he7⟩ := s7 (hall 6 (of_decide_eq_true (by kernel_rfl)))
    obtain ⟨g8, cs8, rfl, hg8, _, hn8, he8⟩ := s8 (hall 7 (of_decide_eq_true (by kernel_rfl)))
    obtain ⟨g9, cs9, rfl, hg9, _, hn9, he9⟩ := s9 (hall 8 (of_decide_eq_true (by kernel_rfl)))
    have he7 := he7 (hall 9 (of_decide_eq_true (by kernel_rfl)))
    have he8 := he8 (hall 10 (of_decide_eq_true (by kernel_rfl)))
    have he9 := he9 (hall 11 (of_decide_eq_true (by kernel_rfl)))
    simp at he7 he8 he9
    subst he7 he8 he9
    subst ha
    have rA1 := tch.range rA (by simp)
    have rB1 := tch.range rB (by simp)
    have rX1 := range_block hg7
    have rY1 := range_block hg8
    have rZ1 := range_block hg9
    have T1 := Lib.hid (T0.out.trans tch (by simp))
    rw [HCa.out] at rA1
    rw [HCb.out] at rB1
    unfold woAct
    clear hall c10 c11 c12 c13 c14 c15 s7 s8 s9 d78 d79 d89 k9 k10 k11 hg7 hg8 hg9 rA rB rC hn7 hn8 hn9 tch T0 HLa HLb HLc HIa HIb HIc hWn
    go_wp2_with fail
    have rA : w1.drew.rangeAt w.heap.size 0 a.cells := rA1
    have rB : w1.drew.rangeAt (w.heap.size + 1) 0 b.cells := rB1
    have rX : w1.drew.rangeAt g7 0 x.cells := rX1
    have rY : w1.drew.rangeAt g8 0 y.cells := rY1
    have rZ : w1.drew.rangeAt g9 0 z.cells := rZ1
    refine wp_region_held (S := Touch [] w1.drew) (by kernel_rfl) ?_
    change wpAnyH _ _ _ _ _ _ _ _ w1.drew
    rw [HCa.out, HCb.out, HCc.out]
    have HT := Lib.hid T1.out.drew
    clear rA1 rB1 rX1 rY1 rZ1 T1
    generalize w1.drew = W2 at *
    have hS := Touch.refl [] W2
    cases hxy : x.less y
    · refine wpAnyH_take (i := 0) (oi := { dst := some 16, op := Op.load 28 (Operand.tmp 3), type := 28, pos := "law.go:60", after := #[], guard := none }) (v := .agg a.cells.toArray) rfl (by kernel_rfl) (by kernel_rfl) (by kernel_rfl) (fun _ _ _ h => h) (Or.inl ⟨by rfl, fun w' hw => exec_load_agg _ 28 _ rfl _ _ rfl a.cells _ (hw.range rA (by simp)) Tryd.underlying28 rfl (by rw [size31, Ad.len])⟩) hS ?_
      try simp only [Act.put, List.setIfInBounds_toArray, List.set_cons_zero, List.set_cons_succ]
      refine wpAnyH_take (i := 1) (oi := { dst := some 17, op := Op.load 28 (Operand.tmp 4), type := 28, pos := "law.go:60", after := #[], guard := none }) (v := .agg b.cells.toArray) rfl (by kernel_rfl) (by kernel_rfl) (by kernel_rfl) (fun _ _ _ h => h) (Or.inl ⟨by rfl, fun w' hw => exec_load_agg _ 28 _ rfl _ _ rfl b.cells _ (hw.range rB (by simp)) Tryd.underlying28 rfl (by rw [size31, Ad.len])⟩) hS ?_
      try simp only [Act.put, List.setIfInBounds_toArray, List.set_cons_zero, List.set_cons_succ]
      refine wpAnyH_take (i := 3) (oi := { dst := some 19, op := Op.load 28 (Operand.tmp 3), type := 28, pos := "law.go:60", after := #[], guard := none }) (v := .agg a.cells.toArray) rfl (by kernel_rfl) (by kernel_rfl) (by kernel_rfl) (fun _ _ _ h => h) (Or.inl ⟨by rfl, fun w' hw => exec_load_agg _ 28 _ rfl _ _ rfl a.cells _ (hw.range rA (by simp)) Tryd.underlying28 rfl (by rw [size31, Ad.len])⟩) hS ?_
      try simp only [Act.put, List.setIfInBounds_toArray, List.set_cons_zero, List.set_cons_succ]
      refine wpAnyH_take (i := 4) (oi := { dst := some 20, op := Op.load 28 (Operand.tmp 4), type := 28, pos := "law.go:60", after := #[], guard := none }) (v := .agg b.cells.toArray) rfl (by kernel_rfl) (by kernel_rfl) (by kernel_rfl) (fun _ _ _ h => h) (Or.inl ⟨by rfl, fun w' hw => exec_load_agg _ 28 _ rfl _ _ rfl b.cells _ (hw.range rB (by simp)) Tryd.underlying28 rfl (by rw [size31, Ad.len])⟩) hS ?_
      try simp only [Act.put, List.setIfInBounds_toArray, List.set_cons_zero, List.set_cons_succ]
      refine wpAnyH_ready (rs := [2]) (by kernel_rfl) (by simp) ?_
      refine AllReadyH.cons (o := { dst := some 18, op := Op.call { callee := Callee.value (Operand.func 14), args := #[Operand.tmp 16, Operand.tmp 17], argTypes := #[28, 28] }, type := 4, pos := "law.go:60", after := #[{ on := 0, ground := Ground.data }, { on := 1, ground := Ground.data }], guard := none }) rfl (fun K hK => ?_) AllReadyH.nil
      go_simp
      refine (lessA a b _ rfl _).mono ?_
      rintro e w2 ⟨rfl, t2⟩
      have hS2 := hS.trans t2 (by simp)
      refine hK.out _ _ hS2 (fun _ => ?_)
      clear hK K hS t2
      have hS := hS2
      clear hS2
      try simp only [Act.put, List.setIfInBounds_toArray, List.set_cons_zero, List.set_cons_succ]
      refine wpAnyH_ready (rs := [5]) (by kernel_rfl) (by simp) ?_
      refine AllReadyH.cons (o := { dst := some 21, op := Op.call { callee := Callee.value (Operand.func 16), args := #[Operand.tmp 19, Operand.tmp 20], argTypes := #[28, 28] }, type := 4, pos := "law.go:60", after := #[{ on := 3, ground := Ground.data }, { on := 4, ground := Ground.data }, { on := 2, ground := Ground.chain }], guard := none }) rfl (fun K hK => ?_) AllReadyH.nil
      go_simp
      refine (rlessA a b _ rfl _).mono ?_
      rintro e w5 ⟨rfl, t5⟩
      have hS2 := hS.trans t5 (by simp)
      refine hK.out _ _ hS2 (fun _ => ?_)
      clear hK K hS t5
      have hS := hS2
      clear hS2
      try simp only [Act.put, List.setIfInBounds_toArray, List.set_cons_zero, List.set_cons_succ]
      refine wpAnyH_take (i := 6) (oi := { dst := some 22, op := Op.binOp BinOp.neq 4 (Operand.tmp 18) (Operand.tmp 21) 4, type := 4, pos := "law.go:60", after := #[{ on := 2, ground := Ground.data }, { on := 5, ground := Ground.data }], guard := none }) (v := .bool false) rfl (by kernel_rfl) (by kernel_rfl) (by kernel_rfl) (fun _ _ _ h => h) (Or.inl ⟨by rfl, fun w' hw => by go_simp⟩) hS ?_
      try simp only [Act.put, List.setIfInBounds_toArray, List.set_cons_zero, List.set_cons_succ]
      refine wpAnyH_take (i := 7) (oi := { dst := some 23, op := Op.move (Operand.tmp 22), type := 4, pos := "law.go:60", after := #[{ on := 6, ground := Ground.data }, { on := 5, ground := Ground.chain }], guard := none }) (v := .bool false) rfl (by kernel_rfl) (by kernel_rfl) (by kernel_rfl) (fun _ _ _ h => h) (Or.inl ⟨by rfl, fun w' hw => by go_simp⟩) hS ?_
      try simp only [Act.put, List.setIfInBounds_toArray, List.set_cons_zero, List.set_cons_succ]
      refine wpAnyH_take (i := 8) (oi := { dst := some 24, op := Op.load 28 (Operand.tmp 7), type := 28, pos := "law.go:60", after := #[{ on := 7, ground := Ground.guard }], guard := some (7, false) }) (v := .agg x.cells.toArray) rfl (by kernel_rfl) (by kernel_rfl) (by kernel_rfl) (fun _ _ _ h => h) (Or.inl ⟨by rfl, fun w' hw => exec_load_agg _ 28 _ rfl _ _ rfl x.cells _ (hw.range rX (by simp)) Tryd.underlying28 rfl (by rw [size31, Ad.len])⟩) hS ?_
      try simp only [Act.put, List.setIfInBounds_toArray, List.set_cons_zero, List.set_cons_succ]
      refine wpAnyH_take (i := 9) (oi := { dst := some 25, op := Op.load 28 (Operand.tmp 8), type := 28, pos := "law.go:60", after := #[{ on := 7, ground := Ground.guard }], guard := some (7, false) }) (v := .agg y.cells.toArray) rfl (by kernel_rfl) (by kernel_rfl) (by kernel_rfl) (fun _ _ _ h => h) (Or.inl ⟨by rfl, fun w' hw => exec_load_agg _ 28 _ rfl _ _ rfl y.cells _ (hw.range rY (by simp)) Tryd.underlying28 rfl (by rw [size31, Ad.len])⟩) hS ?_
      try simp only [Act.put, List.setIfInBounds_toArray, List.set_cons_zero, List.set_cons_succ]
      refine wpAnyH_take (i := 11) (oi := { dst := some 27, op := Op.load 28 (Operand.tmp 7), type := 28, pos := "law.go:60", after := #[{ on := 7, ground := Ground.guard }], guard := some (7, false) }) (v := .agg x.cells.toArray) rfl (by kernel_rfl) (by kernel_rfl) (by kernel_rfl) (fun _ _ _ h => h) (Or.inl ⟨by rfl, fun w' hw => exec_load_agg _ 28 _ rfl _ _ rfl x.cells _ (hw.range rX (by simp)) Tryd.underlying28 rfl (by rw [size31, Ad.len])⟩) hS ?_
      try simp only [Act.put, List.setIfInBounds_toArray, List.set_cons_zero, List.set_cons_succ]
      refine wpAnyH_take (i := 12) (oi := { dst := some 28, op := Op.load 28 (Operand.tmp 8), type := 28, pos := "law.go:60", after := #[{ on := 7, ground := Ground.guard }], guard := some (7, false) }) (v := .agg y.cells.toArray) rfl (by kernel_rfl) (by kernel_rfl) (by kernel_rfl) (fun _ _ _ h => h) (Or.inl ⟨by rfl, fun w' hw => exec_load_agg _ 28 _ rfl _ _ rfl y.cells _ (hw.range rY (by simp)) Tryd.underlying28 rfl (by rw [size31, Ad.len])⟩) hS ?_
      try simp only [Act.put, List.setIfInBounds_toArray, List.set_cons_zero, List.set_cons_succ]
      refine wpAnyH_ready (rs := [10]) (by kernel_rfl) (by simp) ?_
      refine AllReadyH.cons (o := { dst := some 26, op := Op.call { callee := Callee.value (Operand.func 14), args := #[Operand.tmp 24, Operand.tmp 25], argTypes := #[28, 28] }, type := 4, pos := "law.go:60", after := #[{ on := 8, ground := Ground.data }, { on := 9, ground := Ground.data }, { on := 7, ground := Ground.chain }, { on := 7, ground := Ground.guard }], guard := some (7, false) }) rfl (fun K hK => ?_) AllReadyH.nil
      go_simp
      refine (lessA x y _ hxy _).mono ?_
      rintro e w10 ⟨rfl, t10⟩
      have hS2 := hS.trans t10 (by simp)
      refine hK.out _ _ hS2 (fun _ => ?_)
      clear hK K hS t10
      have hS := hS2
      clear hS2
      try simp only [Act.put, List.setIfInBounds_toArray, List.set_cons_zero, List.set_cons_succ]
      refine wpAnyH_ready (rs := [13]) (by kernel_rfl) (by simp) ?_
      refine AllReadyH.cons (o := { dst := some 29, op := Op.call { callee := Callee.value (Operand.func 16), args := #[Operand.tmp 27, Operand.tmp 28], argTypes := #[28, 28] }, type := 4, pos := "law.go:60", after := #[{ on := 11, ground := Ground.data }, { on := 12, ground := Ground.data }, { on := 10, ground := Ground.chain }, { on := 7, ground := Ground.guard }], guard := some (7, false) }) rfl (fun K hK => ?_) AllReadyH.nil
      go_simp
      refine (rlessA x y _ hxy _).mono ?_
      rintro e w13 ⟨rfl, t13⟩
      have hS2 := hS.trans t13 (by simp)
      refine hK.out _ _ hS2 (fun _ => ?_)
      clear hK K hS t13
      have hS := hS2
      clear hS2
      try simp only [Act.put, List.setIfInBounds_toArray, List.set_cons_zero, List.set_cons_succ]
      refine wpAnyH_take (i := 14) (oi := { dst := some 30, op := Op.binOp BinOp.neq 4 (Operand.tmp 26) (Operand.tmp 29) 4, type := 4, pos := "law.go:60", after := #[{ on := 10, ground := Ground.data }, { on := 13, ground := Ground.data }, { on := 7, ground := Ground.guard }], guard := some (7, false) }) (v := .bool false) rfl (by kernel_rfl) (by kernel_rfl) (by kernel_rfl) (fun _ _ _ h => h) (Or.inl ⟨by rfl, fun w' hw => by go_simp⟩) hS ?_
      try simp only [Act.put, List.setIfInBounds_toArray, List.set_cons_zero, List.set_cons_succ]
      refine wpAnyH_take (i := 15) (oi := { dst := some 31, op := Op.pick (Operand.tmp 23) (Operand.const (Value.bool true)) (Operand.tmp 30), type := 4, pos := "law.go:60", after := #[{ on := 7, ground := Ground.data }, { on := 14, ground := Ground.data }], guard := none }) (v := .bool false) rfl (by kernel_rfl) (by kernel_rfl) (by kernel_rfl) (fun _ _ _ h => h) (Or.inl ⟨by rfl, fun w' hw => by go_simp⟩) hS ?_
      try simp only [Act.put, List.setIfInBounds_toArray, List.set_cons_zero, List.set_cons_succ]
      refine wpAnyH_take (i := 16) (oi := { dst := some 32, op := Op.move (Operand.tmp 31), type := 4, pos := "law.go:60", after := #[{ on := 15, ground := Ground.data }, { on := 13, ground := Ground.chain }], guard := none }) (v := .bool false) rfl (by kernel_rfl) (by kernel_rfl) (by kernel_rfl) (fun _ _ _ h => h) (Or.inl ⟨by rfl, fun w' hw => by go_simp⟩) hS ?_
      try simp only [Act.put, List.setIfInBounds_toArray, List.set_cons_zero, List.set_cons_succ]
      refine wpAnyH_take (i := 17) (oi := { dst := some 33, op := Op.load 28 (Operand.tmp 7), type := 28, pos := "law.go:60", after := #[{ on := 16, ground := Ground.guard }], guard := some (16, false) }) (v := .agg x.cells.toArray) rfl (by kernel_rfl) (by kernel_rfl) (by kernel_rfl) (fun _ _ _ h => h) (Or.inl ⟨by rfl, fun w' hw => exec_load_agg _ 28 _ rfl _ _ rfl x.cells _ (hw.range rX (by simp)) Tryd.underlying28 rfl (by rw [size31, Ad.len])⟩) hS ?_
      try simp only [Act.put, List.setIfInBounds_toArray, List.set_cons_zero, List.set_cons_succ]
      refine wpAnyH_take (i := 18) (oi := { dst := some 34, op := Op.load 28 (Operand.tmp 7), type := 28, pos := "law.go:60", after := #[{ on := 16, ground := Ground.guard }], guard := some (16, false) }) (v := .agg x.cells.toArray) rfl (by kernel_rfl) (by kernel_rfl) (by kernel_rfl) (fun _ _ _ h => h) (Or.inl ⟨by rfl, fun w' hw => exec_load_agg _ 28 _ rfl _ _ rfl x.cells _ (hw.range rX (by simp)) Tryd.underlying28 rfl (by rw [size31, Ad.len])⟩) hS ?_
      try simp only [Act.put, List.setIfInBounds_toArray, List.set_cons_zero, List.set_cons_succ]
      refine wpAnyH_ready (rs := [19]) (by kernel_rfl) (by simp) ?_
      refine AllReadyH.cons (o := { dst := some 35, op := Op.call { callee := Callee.value (Operand.func 14), args := #[Operand.tmp 33, Operand.tmp 34], argTypes := #[28, 28] }, type := 4, pos := "law.go:60", after := #[{ on := 17, ground := Ground.data }, { on := 18, ground := Ground.data }, { on := 16, ground := Ground.chain }, { on := 16, ground := Ground.guard }], guard := some (16, false) }) rfl (fun K hK => ?_) AllReadyH.nil
      go_simp
      refine (lessA x x _ (ad_irr x) _).mono ?_
      rintro e w19 ⟨rfl, t19⟩
      have hS2 := hS.trans t19 (by simp)
      refine hK.out _ _ hS2 (fun _ => ?_)
      clear hK K hS t19
      have hS := hS2
      clear hS2
      try simp only [Act.put, List.setIfInBounds_toArray, List.set_cons_zero, List.set_cons_succ]
      refine wpAnyH_take (i := 20) (oi := { dst := some 36, op := Op.pick (Operand.tmp 32) (Operand.const (Value.bool true)) (Operand.tmp 35), type := 4, pos := "law.go:60", after := #[{ on := 16, ground := Ground.data }, { on := 19, ground := Ground.data }], guard := none }) (v := .bool false) rfl (by kernel_rfl) (by kernel_rfl) (by kernel_rfl) (fun _ _ _ h => h) (Or.inl ⟨by rfl, fun w' hw => by go_simp⟩) hS ?_
      try simp only [Act.put, List.setIfInBounds_toArray, List.set_cons_zero, List.set_cons_succ]
      refine wpAnyH_take (i := 21) (oi := { dst := some 37, op := Op.move (Operand.tmp 36), type := 4, pos := "law.go:60", after := #[{ on := 20, ground := Ground.data }, { on := 19, ground := Ground.chain }], guard := none }) (v := .bool false) rfl (by kernel_rfl) (by kernel_rfl) (by kernel_rfl) (fun _ _ _ h => h) (Or.inl ⟨by rfl, fun w' hw => by go_simp⟩) hS ?_
      try simp only [Act.put, List.setIfInBounds_toArray, List.set_cons_zero, List.set_cons_succ]
      refine wpAnyH_take (i := 22) (oi := { dst := some 38, op := Op.load 28 (Operand.tmp 7), type := 28, pos := "law.go:60", after := #[{ on := 21, ground := Ground.guard }], guard := some (21, false) }) (v := .agg x.cells.toArray) rfl (by kernel_rfl) (by kernel_rfl) (by kernel_rfl) (fun _ _ _ h => h) (Or.inl ⟨by rfl, fun w' hw => exec_load_agg _ 28 _ rfl _ _ rfl x.cells _ (hw.range rX (by simp)) Tryd.underlying28 rfl (by rw [size31, Ad.len])⟩) hS ?_
      try simp only [Act.put, List.setIfInBounds_toArray, List.set_cons_zero, List.set_cons_succ]
      refine wpAnyH_take (i := 23) (oi := { dst := some 39, op := Op.load 28 (Operand.tmp 8), type := 28, pos := "law.go:60", after := #[{ on := 21, ground := Ground.guard }], guard := some (21, false) }) (v := .agg y.cells.toArray) rfl (by kernel_rfl) (by kernel_rfl) (by kernel_rfl) (fun _ _ _ h => h) (Or.inl ⟨by rfl, fun w' hw => exec_load_agg _ 28 _ rfl _ _ rfl y.cells _ (hw.range rY (by simp)) Tryd.underlying28 rfl (by rw [size31, Ad.len])⟩) hS ?_
      try simp only [Act.put, List.setIfInBounds_toArray, List.set_cons_zero, List.set_cons_succ]
      refine wpAnyH_ready (rs := [24]) (by kernel_rfl) (by simp) ?_
      refine AllReadyH.cons (o := { dst := some 40, op := Op.call { callee := Callee.value (Operand.func 14), args := #[Operand.tmp 38, Operand.tmp 39], argTypes := #[28, 28] }, type := 4, pos := "law.go:60", after := #[{ on := 22, ground := Ground.data }, { on := 23, ground := Ground.data }, { on := 21, ground := Ground.chain }, { on := 21, ground := Ground.guard }], guard := some (21, false) }) rfl (fun K hK => ?_) AllReadyH.nil
      go_simp
      refine (lessA x y _ hxy _).mono ?_
      rintro e w24 ⟨rfl, t24⟩
      have hS2 := hS.trans t24 (by simp)
      refine hK.out _ _ hS2 (fun _ => ?_)
      clear hK K hS t24
      have hS := hS2
      clear hS2
      try simp only [Act.put, List.setIfInBounds_toArray, List.set_cons_zero, List.set_cons_succ]
      refine wpAnyH_take (i := 25) (oi := { dst := some 41, op := Op.move (Operand.tmp 40), type := 4, pos := "law.go:60", after := #[{ on := 24, ground := Ground.data }, { on := 24, ground := Ground.chain }, { on := 21, ground := Ground.guard }], guard := some (21, false) }) (v := .bool false) rfl (by kernel_rfl) (by kernel_rfl) (by kernel_rfl) (fun _ _ _ h => h) (Or.inl ⟨by rfl, fun w' hw => by go_simp⟩) hS ?_
      try simp only [Act.put, List.setIfInBounds_toArray, List.set_cons_zero, List.set_cons_succ]
      refine wpAnyH_take (i := 26) (oi := { dst := some 42, op := Op.load 28 (Operand.tmp 8), type := 28, pos := "law.go:60", after := #[{ on := 25, ground := Ground.guard }], guard := some (25, true) }) (v := undef) rfl (by kernel_rfl) (by kernel_rfl) (by kernel_rfl) (fun _ _ _ h => h) (Or.inr ⟨by rfl, rfl⟩) hS ?_
      try simp only [Act.put, List.setIfInBounds_toArray, List.set_cons_zero, List.set_cons_succ]
      refine wpAnyH_take (i := 27) (oi := { dst := some 43, op := Op.load 28 (Operand.tmp 7), type := 28, pos := "law.go:60", after := #[{ on := 25, ground := Ground.guard }], guard := some (25, true) }) (v := undef) rfl (by kernel_rfl) (by kernel_rfl) (by kernel_rfl) (fun _ _ _ h => h) (Or.inr ⟨by rfl, rfl⟩) hS ?_
      try simp only [Act.put, List.setIfInBounds_toArray, List.set_cons_zero, List.set_cons_succ]
      refine wpAnyH_take (i := 28) (oi := { dst := some 44, op := Op.call { callee := Callee.value (Operand.func 14), args := #[Operand.tmp 42, Operand.tmp 43], argTypes := #[28, 28] }, type := 4, pos := "law.go:60", after := #[{ on := 26, ground := Ground.data }, { on := 27, ground := Ground.data }, { on := 25, ground := Ground.chain }, { on := 25, ground := Ground.guard }], guard := some (25, true) }) (v := undef) rfl (by kernel_rfl) (by kernel_rfl) (by kernel_rfl) (fun _ _ _ h => h) (Or.inr ⟨by rfl, rfl⟩) hS ?_
      try simp only [Act.put, List.setIfInBounds_toArray, List.set_cons_zero, List.set_cons_succ]
      refine wpAnyH_take (i := 29) (oi := { dst := some 45, op := Op.pick (Operand.tmp 41) (Operand.tmp 44) (Operand.const (Value.bool false)), type := 4, pos := "law.go:60", after := #[{ on := 25, ground := Ground.data }, { on := 28, ground := Ground.data }, { on := 21, ground := Ground.guard }], guard := some (21, false) }) (v := .bool false) rfl (by kernel_rfl) (by kernel_rfl) (by kernel_rfl) (fun _ _ _ h => h) (Or.inl ⟨by rfl, fun w' hw => by go_simp⟩) hS ?_
      try simp only [Act.put, List.setIfInBounds_toArray, List.set_cons_zero, List.set_cons_succ]
      refine wpAnyH_take (i := 30) (oi := { dst := some 46, op := Op.pick (Operand.tmp 37) (Operand.const (Value.bool true)) (Operand.tmp 45), type := 4, pos := "law.go:60", after := #[{ on := 21, ground := Ground.data }, { on := 29, ground := Ground.data }], guard := none }) (v := .bool false) rfl (by kernel_rfl) (by kernel_rfl) (by kernel_rfl) (fun _ _ _ h => h) (Or.inl ⟨by rfl, fun w' hw => by go_simp⟩) hS ?_
      try simp only [Act.put, List.setIfInBounds_toArray, List.set_cons_zero, List.set_cons_succ]
      refine wpAnyH_done (by kernel_rfl) ?_ _
      try simp only [Act.put, List.setIfInBounds_toArray, List.set_cons_zero, List.set_cons_succ]
      go_wp2_with fail
      have hS2 := hS.drew
      refine (awake_ok _).mono ?_
      rintro e v ⟨rfl, tt⟩
      have TS := Lib.hid (hS.trans tt (by simp))
      clear hS hS2 tt
      cases hyz : y.less z <;> cases hxz : x.less z
      · go_wp2_with (first | ((with_reducible refine at_load_g 28 _ _ ?_); refine wpList_load_gg _ _ rfl (by rfl) 28 _ rfl g7 0 rfl x.cells _ (TS.out.range rX (by simp)) Tryd.underlying28 rfl (by rw [size31, Ad.len]) ?_) | ((with_reducible refine at_load_g 28 _ _ ?_); refine wpList_load_gg _ _ rfl (by rfl) 28 _ rfl g8 0 rfl y.cells _ (TS.out.range rY (by simp)) Tryd.underlying28 rfl (by rw [size31, Ad.len]) ?_) | ((with_reducible refine at_load_g 28 _ _ ?_); refine wpList_load_gg _ _ rfl (by rfl) 28 _ rfl g9 0 rfl z.cells _ (TS.out.range rZ (by simp)) Tryd.underlying28 rfl (by rw [size31, Ad.len]) ?_))
        refine (lessA x y _ hxy _).mono ?_
        rintro e v0 ⟨rfl, tt⟩
        have TS2 := Lib.hid (TS.out.trans tt (by simp))
        clear TS tt
        have TS := TS2
        clear TS2
        go_wp2_with (first | ((with_reducible refine at_load_g 28 _ _ ?_); refine wpList_load_gg _ _ rfl (by rfl) 28 _ rfl g7 0 rfl x.cells _ (TS.out.range rX (by simp)) Tryd.underlying28 rfl (by rw [size31, Ad.len]) ?_) | ((with_reducible refine at_load_g 28 _ _ ?_); refine wpList_load_gg _ _ rfl (by rfl) 28 _ rfl g8 0 rfl y.cells _ (TS.out.range rY (by simp)) Tryd.underlying28 rfl (by rw [size31, Ad.len]) ?_) | ((with_reducible refine at_load_g 28 _ _ ?_); refine wpList_load_gg _ _ rfl (by rfl) 28 _ rfl g9 0 rfl z.cells _ (TS.out.range rZ (by simp)) Tryd.underlying28 rfl (by rw [size31, Ad.len]) ?_))
        refine (lessA x y _ hxy _).mono ?_
        rintro e v1 ⟨rfl, tt⟩
        have TS2 := Lib.hid (TS.out.trans tt (by simp))
        clear TS tt
        have TS := TS2
        clear TS2
        go_wp2_with (first | ((with_reducible refine at_load_g 28 _ _ ?_); refine wpList_load_gg _ _ rfl (by rfl) 28 _ rfl g7 0 rfl x.cells _ (TS.out.range rX (by simp)) Tryd.underlying28 rfl (by rw [size31, Ad.len]) ?_) | ((with_reducible refine at_load_g 28 _ _ ?_); refine wpList_load_gg _ _ rfl (by rfl) 28 _ rfl g8 0 rfl y.cells _ (TS.out.range rY (by simp)) Tryd.underlying28 rfl (by rw [size31, Ad.len]) ?_) | ((with_reducible refine at_load_g 28 _ _ ?_); refine wpList_load_gg _ _ rfl (by rfl) 28 _ rfl g9 0 rfl z.cells _ (TS.out.range rZ (by simp)) Tryd.underlying28 rfl (by rw [size31, Ad.len]) ?_))
        refine (lessA y z _ hyz _).mono ?_
        rintro e v2 ⟨rfl, tt⟩
        have TS2 := Lib.hid (TS.out.trans tt (by simp))
        clear TS tt
        have TS := TS2
        clear TS2
        go_wp2_with (first | ((with_reducible refine at_load_g 28 _ _ ?_); refine wpList_load_gg _ _ rfl (by rfl) 28 _ rfl g7 0 rfl x.cells _ (TS.out.range rX (by simp)) Tryd.underlying28 rfl (by rw [size31, Ad.len]) ?_) | ((with_reducible refine at_load_g 28 _ _ ?_); refine wpList_load_gg _ _ rfl (by rfl) 28 _ rfl g8 0 rfl y.cells _ (TS.out.range rY (by simp)) Tryd.underlying28 rfl (by rw [size31, Ad.len]) ?_) | ((with_reducible refine at_load_g 28 _ _ ?_); refine wpList_load_gg _ _ rfl (by rfl) 28 _ rfl g9 0 rfl z.cells _ (TS.out.range rZ (by simp)) Tryd.underlying28 rfl (by rw [size31, Ad.len]) ?_))
        refine (lessA x z _ hxz _).mono ?_
        rintro e v3 ⟨rfl, tt⟩
        have TS2 := Lib.hid (TS.out.trans tt (by simp))
        clear TS tt
        have TS := TS2
        clear TS2
        go_wp2_with fail
        go_ret
        exact ⟨by rfl, HT.out.trans TS.out (by simp)⟩
      · exact absurd (ad_ntr hxy hyz) (by rw [hxz]; simp)
      · go_wp2_with (first | ((with_reducible refine at_load_g 28 _ _ ?_); refine wpList_load_gg _ _ rfl (by rfl) 28 _ rfl g7 0 rfl x.cells _ (TS.out.range rX (by simp)) Tryd.underlying28 rfl (by rw [size31, Ad.len]) ?_) | ((with_reducible refine at_load_g 28 _ _ ?_); refine wpList_load_gg _ _ rfl (by rfl) 28 _ rfl g8 0 rfl y.cells _ (TS.out.range rY (by simp)) Tryd.underlying28 rfl (by rw [size31, Ad.len]) ?_) | ((with_reducible refine at_load_g 28 _ _ ?_); refine wpList_load_gg _ _ rfl (by rfl) 28 _ rfl g9 0 rfl z.cells _ (TS.out.range rZ (by simp)) Tryd.underlying28 rfl (by rw [size31, Ad.len]) ?_))
        refine (lessA x y _ hxy _).mono ?_
        rintro e v0 ⟨rfl, tt⟩
        have TS2 := Lib.hid (TS.out.trans tt (by simp))
        clear TS tt
        have TS := TS2
        clear TS2
        go_wp2_with (first | ((with_reducible refine at_load_g 28 _ _ ?_); refine wpList_load_gg _ _ rfl (by rfl) 28 _ rfl g7 0 rfl x.cells _ (TS.out.range rX (by simp)) Tryd.underlying28 rfl (by rw [size31, Ad.len]) ?_) | ((with_reducible refine at_load_g 28 _ _ ?_); refine wpList_load_gg _ _ rfl (by rfl) 28 _ rfl g8 0 rfl y.cells _ (TS.out.range rY (by simp)) Tryd.underlying28 rfl (by rw [size31, Ad.len]) ?_) | ((with_reducible refine at_load_g 28 _ _ ?_); refine wpList_load_gg _ _ rfl (by rfl) 28 _ rfl g9 0 rfl z.cells _ (TS.out.range rZ (by simp)) Tryd.underlying28 rfl (by rw [size31, Ad.len]) ?_))
        refine (lessA x y _ hxy _).mono ?_
        rintro e v1 ⟨rfl, tt⟩
        have TS2 := Lib.hid (TS.out.trans tt (by simp))
        clear TS tt
        have TS := TS2
        clear TS2
        go_wp2_with (first | ((with_reducible refine at_load_g 28 _ _ ?_); refine wpList_load_gg _ _ rfl (by rfl) 28 _ rfl g7 0 rfl x.cells _ (TS.out.range rX (by simp)) Tryd.underlying28 rfl (by rw [size31, Ad.len]) ?_) | ((with_reducible refine at_load_g 28 _ _ ?_); refine wpList_load_gg _ _ rfl (by rfl) 28 _ rfl g8 0 rfl y.cells _ (TS.out.range rY (by simp)) Tryd.underlying28 rfl (by rw [size31, Ad.len]) ?_) | ((with_reducible refine at_load_g 28 _ _ ?_); refine wpList_load_gg _ _ rfl (by rfl) 28 _ rfl g9 0 rfl z.cells _ (TS.out.range rZ (by simp)) Tryd.underlying28 rfl (by rw [size31, Ad.len]) ?_))
        refine (lessA y z _ hyz _).mono ?_
        rintro e v2 ⟨rfl, tt⟩
        have TS2 := Lib.hid (TS.out.trans tt (by simp))
        clear TS tt
        have TS := TS2
        clear TS2
        go_wp2_with fail
        go_ret
        exact ⟨by rfl, HT.out.trans TS.out (by simp)⟩
      · go_wp2_with (first | ((with_reducible refine at_load_g 28 _ _ ?_); refine wpList_load_gg _ _ rfl (by rfl) 28 _ rfl g7 0 rfl x.cells _ (TS.out.range rX (by simp)) Tryd.underlying28 rfl (by rw [size31, Ad.len]) ?_) | ((with_reducible refine at_load_g 28 _ _ ?_); refine wpList_load_gg _ _ rfl (by rfl) 28 _ rfl g8 0 rfl y.cells _ (TS.out.range rY (by simp)) Tryd.underlying28 rfl (by rw [size31, Ad.len]) ?_) | ((with_reducible refine at_load_g 28 _ _ ?_); refine wpList_load_gg _ _ rfl (by rfl) 28 _ rfl g9 0 rfl z.cells _ (TS.out.range rZ (by simp)) Tryd.underlying28 rfl (by rw [size31, Ad.len]) ?_))
        refine (lessA x y _ hxy _).mono ?_
        rintro e v0 ⟨rfl, tt⟩
        have TS2 := Lib.hid (TS.out.trans tt (by simp))
        clear TS tt
        have TS := TS2
        clear TS2
        go_wp2_with (first | ((with_reducible refine at_load_g 28 _ _ ?_); refine wpList_load_gg _ _ rfl (by rfl) 28 _ rfl g7 0 rfl x.cells _ (TS.out.range rX (by simp)) Tryd.underlying28 rfl (by rw [size31, Ad.len]) ?_) | ((with_reducible refine at_load_g 28 _ _ ?_); refine wpList_load_gg _ _ rfl (by rfl) 28 _ rfl g8 0 rfl y.cells _ (TS.out.range rY (by simp)) Tryd.underlying28 rfl (by rw [size31, Ad.len]) ?_) | ((with_reducible refine at_load_g 28 _ _ ?_); refine wpList_load_gg _ _ rfl (by rfl) 28 _ rfl g9 0 rfl z.cells _ (TS.out.range rZ (by simp)) Tryd.underlying28 rfl (by rw [size31, Ad.len]) ?_))
        refine (lessA x y _ hxy _).mono ?_
        rintro e v1 ⟨rfl, tt⟩
        have TS2 := Lib.hid (TS.out.trans tt (by simp))
        clear TS tt
        have TS := TS2
        clear TS2
        go_wp2_with (first | ((with_reducible refine at_load_g 28 _ _ ?_); refine wpList_load_gg _ _ rfl (by rfl) 28 _ rfl g7 0 rfl x.cells _ (TS.out.range rX (by simp)) Tryd.underlying28 rfl (by rw [size31, Ad.len]) ?_) | ((with_reducible refine at_load_g 28 _ _ ?_); refine wpList_load_gg _ _ rfl (by rfl) 28 _ rfl g8 0 rfl y.cells _ (TS.out.range rY (by simp)) Tryd.underlying28 rfl (by rw [size31, Ad.len]) ?_) | ((with_reducible refine at_load_g 28 _ _ ?_); refine wpList_load_gg _ _ rfl (by rfl) 28 _ rfl g9 0 rfl z.cells _ (TS.out.range rZ (by simp)) Tryd.underlying28 rfl (by rw [size31, Ad.len]) ?_))
        refine (lessA y z _ hyz _).mono ?_
        rintro e v2 ⟨rfl, tt⟩
        have TS2 := Lib.hid (TS.out.trans tt (by simp))
        clear TS tt
        have TS := TS2
        clear TS2
        go_wp2_with fail
        go_ret
        exact ⟨by rfl, HT.out.trans TS.out (by simp)⟩
    · refine wpAnyH_take (i := 0) (oi := { dst := some 16, op := Op.load 28 (Operand.tmp 3), type := 28, pos := "law.go:60", after := #[], guard := none }) (v := .agg a.cells.toArray) rfl (by kernel_rfl) (by kernel_rfl) (by kernel_rfl) (fun _ _ _ h => h) (Or.inl ⟨by rfl, fun w' hw => exec_load_agg _ 28 _ rfl _ _ rfl a.cells _ (hw.range rA (by simp)) Tryd.underlying28 rfl (by rw [size31, Ad.len])⟩) hS ?_
      try simp only [Act.put, List.setIfInBounds_toArray, List.set_cons_zero, List.set_cons_succ]
      refine wpAnyH_take (i := 1) (oi := { dst := some 17, op := Op.load 28 (Operand.tmp 4), type := 28, pos := "law.go:60", after := #[], guard := none }) (v := .agg b.cells.toArray) rfl (by kernel_rfl) (by kernel_rfl) (by kernel_rfl) (fun _ _ _ h => h) (Or.inl ⟨by rfl, fun w' hw => exec_load_agg _ 28 _ rfl _ _ rfl b.cells _ (hw.range rB (by simp)) Tryd.underlying28 rfl (by rw [size31, Ad.len])⟩) hS ?_
      try simp only [Act.put, List.setIfInBounds_toArray, List.set_cons_zero, List.set_cons_succ]
      refine wpAnyH_take (i := 3) (oi := { dst := some 19, op := Op.load 28 (Operand.tmp 3), type := 28, pos := "law.go:60", after := #[], guard := none }) (v := .agg a.cells.toArray) rfl (by kernel_rfl) (by kernel_rfl) (by kernel_rfl) (fun _ _ _ h => h) (Or.inl ⟨by rfl, fun w' hw => exec_load_agg _ 28 _ rfl _ _ rfl a.cells _ (hw.range rA (by simp)) Tryd.underlying28 rfl (by rw [size31, Ad.len])⟩) hS ?_
      try simp only [Act.put, List.setIfInBounds_toArray, List.set_cons_zero, List.set_cons_succ]
      refine wpAnyH_take (i := 4) (oi := { dst := some 20, op := Op.load 28 (Operand.tmp 4), type := 28, pos := "law.go:60", after := #[], guard := none }) (v := .agg b.cells.toArray) rfl (by kernel_rfl) (by kernel_rfl) (by kernel_rfl) (fun _ _ _ h => h) (Or.inl ⟨by rfl, fun w' hw => exec_load_agg _ 28 _ rfl _ _ rfl b.cells _ (hw.range rB (by simp)) Tryd.underlying28 rfl (by rw [size31, Ad.len])⟩) hS ?_
      try simp only [Act.put, List.setIfInBounds_toArray, List.set_cons_zero, List.set_cons_succ]
      refine wpAnyH_ready (rs := [2]) (by kernel_rfl) (by simp) ?_
      refine AllReadyH.cons (o := { dst := some 18, op := Op.call { callee := Callee.value (Operand.func 14), args := #[Operand.tmp 16, Operand.tmp 17], argTypes := #[28, 28] }, type := 4, pos := "law.go:60", after := #[{ on := 0, ground := Ground.data }, { on := 1, ground := Ground.data }], guard := none }) rfl (fun K hK => ?_) AllReadyH.nil
      go_simp
      refine (lessA a b _ rfl _).mono ?_
      rintro e w2 ⟨rfl, t2⟩
      have hS2 := hS.trans t2 (by simp)
      refine hK.out _ _ hS2 (fun _ => ?_)
      clear hK K hS t2
      have hS := hS2
      clear hS2
      try simp only [Act.put, List.setIfInBounds_toArray, List.set_cons_zero, List.set_cons_succ]
      refine wpAnyH_ready (rs := [5]) (by kernel_rfl) (by simp) ?_
      refine AllReadyH.cons (o := { dst := some 21, op := Op.call { callee := Callee.value (Operand.func 16), args := #[Operand.tmp 19, Operand.tmp 20], argTypes := #[28, 28] }, type := 4, pos := "law.go:60", after := #[{ on := 3, ground := Ground.data }, { on := 4, ground := Ground.data }, { on := 2, ground := Ground.chain }], guard := none }) rfl (fun K hK => ?_) AllReadyH.nil
      go_simp
      refine (rlessA a b _ rfl _).mono ?_
      rintro e w5 ⟨rfl, t5⟩
      have hS2 := hS.trans t5 (by simp)
      refine hK.out _ _ hS2 (fun _ => ?_)
      clear hK K hS t5
      have hS := hS2
      clear hS2
      try simp only [Act.put, List.setIfInBounds_toArray, List.set_cons_zero, List.set_cons_succ]
      refine wpAnyH_take (i := 6) (oi := { dst := some 22, op := Op.binOp BinOp.neq 4 (Operand.tmp 18) (Operand.tmp 21) 4, type := 4, pos := "law.go:60", after := #[{ on := 2, ground := Ground.data }, { on := 5, ground := Ground.data }], guard := none }) (v := .bool false) rfl (by kernel_rfl) (by kernel_rfl) (by kernel_rfl) (fun _ _ _ h => h) (Or.inl ⟨by rfl, fun w' hw => by go_simp⟩) hS ?_
      try simp only [Act.put, List.setIfInBounds_toArray, List.set_cons_zero, List.set_cons_succ]
      refine wpAnyH_take (i := 7) (oi := { dst := some 23, op := Op.move (Operand.tmp 22), type := 4, pos := "law.go:60", after := #[{ on := 6, ground := Ground.data }, { on := 5, ground := Ground.chain }], guard := none }) (v := .bool false) rfl (by kernel_rfl) (by kernel_rfl) (by kernel_rfl) (fun _ _ _ h => h) (Or.inl ⟨by rfl, fun w' hw => by go_simp⟩) hS ?_
      try simp only [Act.put, List.setIfInBounds_toArray, List.set_cons_zero, List.set_cons_succ]
      refine wpAnyH_take (i := 8) (oi := { dst := some 24, op := Op.load 28 (Operand.tmp 7), type := 28, pos := "law.go:60", after := #[{ on := 7, ground := Ground.guard }], guard := some (7, false) }) (v := .agg x.cells.toArray) rfl (by kernel_rfl) (by kernel_rfl) (by kernel_rfl) (fun _ _ _ h => h) (Or.inl ⟨by rfl, fun w' hw => exec_load_agg _ 28 _ rfl _ _ rfl x.cells _ (hw.range rX (by simp)) Tryd.underlying28 rfl (by rw [size31, Ad.len])⟩) hS ?_
      try simp only [Act.put, List.setIfInBounds_toArray, List.set_cons_zero, List.set_cons_succ]
      refine wpAnyH_take (i := 9) (oi := { dst := some 25, op := Op.load 28 (Operand.tmp 8), type := 28, pos := "law.go:60", after := #[{ on := 7, ground := Ground.guard }], guard := some (7, false) }) (v := .agg y.cells.toArray) rfl (by kernel_rfl) (by kernel_rfl) (by kernel_rfl) (fun _ _ _ h => h) (Or.inl ⟨by rfl, fun w' hw => exec_load_agg _ 28 _ rfl _ _ rfl y.cells _ (hw.range rY (by simp)) Tryd.underlying28 rfl (by rw [size31, Ad.len])⟩) hS ?_
      try simp only [Act.put, List.setIfInBounds_toArray, List.set_cons_zero, List.set_cons_succ]
      refine wpAnyH_take (i := 11) (oi := { dst := some 27, op := Op.load 28 (Operand.tmp 7), type := 28, pos := "law.go:60", after := #[{ on := 7, ground := Ground.guard }], guard := some (7, false) }) (v := .agg x.cells.toArray) rfl (by kernel_rfl) (by kernel_rfl) (by kernel_rfl) (fun _ _ _ h => h) (Or.inl ⟨by rfl, fun w' hw => exec_load_agg _ 28 _ rfl _ _ rfl x.cells _ (hw.range rX (by simp)) Tryd.underlying28 rfl (by rw [size31, Ad.len])⟩) hS ?_
      try simp only [Act.put, List.setIfInBounds_toArray, List.set_cons_zero, List.set_cons_succ]
      refine wpAnyH_take (i := 12) (oi := { dst := some 28, op := Op.load 28 (Operand.tmp 8), type := 28, pos := "law.go:60", after := #[{ on := 7, ground := Ground.guard }], guard := some (7, false) }) (v := .agg y.cells.toArray) rfl (by kernel_rfl) (by kernel_rfl) (by kernel_rfl) (fun _ _ _ h => h) (Or.inl ⟨by rfl, fun w' hw => exec_load_agg _ 28 _ rfl _ _ rfl y.cells _ (hw.range rY (by simp)) Tryd.underlying28 rfl (by rw [size31, Ad.len])⟩) hS ?_
      try simp only [Act.put, List.setIfInBounds_toArray, List.set_cons_zero, List.set_cons_succ]
      refine wpAnyH_ready (rs := [10]) (by kernel_rfl) (by simp) ?_
      refine AllReadyH.cons (o := { dst := some 26, op := Op.call { callee := Callee.value (Operand.func 14), args := #[Operand.tmp 24, Operand.tmp 25], argTypes := #[28, 28] }, type := 4, pos := "law.go:60", after := #[{ on := 8, ground := Ground.data }, { on := 9, ground := Ground.data }, { on := 7, ground := Ground.chain }, { on := 7, ground := Ground.guard }], guard := some (7, false) }) rfl (fun K hK => ?_) AllReadyH.nil
      go_simp
      refine (lessA x y _ hxy _).mono ?_
      rintro e w10 ⟨rfl, t10⟩
      have hS2 := hS.trans t10 (by simp)
      refine hK.out _ _ hS2 (fun _ => ?_)
      clear hK K hS t10
      have hS := hS2
      clear hS2
      try simp only [Act.put, List.setIfInBounds_toArray, List.set_cons_zero, List.set_cons_succ]
      refine wpAnyH_ready (rs := [13]) (by kernel_rfl) (by simp) ?_
      refine AllReadyH.cons (o := { dst := some 29, op := Op.call { callee := Callee.value (Operand.func 16), args := #[Operand.tmp 27, Operand.tmp 28], argTypes := #[28, 28] }, type := 4, pos := "law.go:60", after := #[{ on := 11, ground := Ground.data }, { on := 12, ground := Ground.data }, { on := 10, ground := Ground.chain }, { on := 7, ground := Ground.guard }], guard := some (7, false) }) rfl (fun K hK => ?_) AllReadyH.nil
      go_simp
      refine (rlessA x y _ hxy _).mono ?_
      rintro e w13 ⟨rfl, t13⟩
      have hS2 := hS.trans t13 (by simp)
      refine hK.out _ _ hS2 (fun _ => ?_)
      clear hK K hS t13
      have hS := hS2
      clear hS2
      try simp only [Act.put, List.setIfInBounds_toArray, List.set_cons_zero, List.set_cons_succ]
      refine wpAnyH_take (i := 14) (oi := { dst := some 30, op := Op.binOp BinOp.neq 4 (Operand.tmp 26) (Operand.tmp 29) 4, type := 4, pos := "law.go:60", after := #[{ on := 10, ground := Ground.data }, { on := 13, ground := Ground.data }, { on := 7, ground := Ground.guard }], guard := some (7, false) }) (v := .bool false) rfl (by kernel_rfl) (by kernel_rfl) (by kernel_rfl) (fun _ _ _ h => h) (Or.inl ⟨by rfl, fun w' hw => by go_simp⟩) hS ?_
      try simp only [Act.put, List.setIfInBounds_toArray, List.set_cons_zero, List.set_cons_succ]
      refine wpAnyH_take (i := 15) (oi := { dst := some 31, op := Op.pick (Operand.tmp 23) (Operand.const (Value.bool true)) (Operand.tmp 30), type := 4, pos := "law.go:60", after := #[{ on := 7, ground := Ground.data }, { on := 14, ground := Ground.data }], guard := none }) (v := .bool false) rfl (by kernel_rfl) (by kernel_rfl) (by kernel_rfl) (fun _ _ _ h => h) (Or.inl ⟨by rfl, fun w' hw => by go_simp⟩) hS ?_
      try simp only [Act.put, List.setIfInBounds_toArray, List.set_cons_zero, List.set_cons_succ]
      refine wpAnyH_take (i := 16) (oi := { dst := some 32, op := Op.move (Operand.tmp 31), type := 4, pos := "law.go:60", after := #[{ on := 15, ground := Ground.data }, { on := 13, ground := Ground.chain }], guard := none }) (v := .bool false) rfl (by kernel_rfl) (by kernel_rfl) (by kernel_rfl) (fun _ _ _ h => h) (Or.inl ⟨by rfl, fun w' hw => by go_simp⟩) hS ?_
      try simp only [Act.put, List.setIfInBounds_toArray, List.set_cons_zero, List.set_cons_succ]
      refine wpAnyH_take (i := 17) (oi := { dst := some 33, op := Op.load 28 (Operand.tmp 7), type := 28, pos := "law.go:60", after := #[{ on := 16, ground := Ground.guard }], guard := some (16, false) }) (v := .agg x.cells.toArray) rfl (by kernel_rfl) (by kernel_rfl) (by kernel_rfl) (fun _ _ _ h => h) (Or.inl ⟨by rfl, fun w' hw => exec_load_agg _ 28 _ rfl _ _ rfl x.cells _ (hw.range rX (by simp)) Tryd.underlying28 rfl (by rw [size31, Ad.len])⟩) hS ?_
      try simp only [Act.put, List.setIfInBounds_toArray, List.set_cons_zero, List.set_cons_succ]
      refine wpAnyH_take (i := 18) (oi := { dst := some 34, op := Op.load 28 (Operand.tmp 7), type := 28, pos := "law.go:60", after := #[{ on := 16, ground := Ground.guard }], guard := some (16, false) }) (v := .agg x.cells.toArray) rfl (by kernel_rfl) (by kernel_rfl) (by kernel_rfl) (fun _ _ _ h => h) (Or.inl ⟨by rfl, fun w' hw => exec_load_agg _ 28 _ rfl _ _ rfl x.cells _ (hw.range rX (by simp)) Tryd.underlying28 rfl (by rw [size31, Ad.len])⟩) hS ?_
      try simp only [Act.put, List.setIfInBounds_toArray, List.set_cons_zero, List.set_cons_succ]
      refine wpAnyH_ready (rs := [19]) (by kernel_rfl) (by simp) ?_
      refine AllReadyH.cons (o := { dst := some 35, op := Op.call { callee := Callee.value (Operand.func 14), args := #[Operand.tmp 33, Operand.tmp 34], argTypes := #[28, 28] }, type := 4, pos := "law.go:60", after := #[{ on := 17, ground := Ground.data }, { on := 18, ground := Ground.data }, { on := 16, ground := Ground.chain }, { on := 16, ground := Ground.guard }], guard := some (16, false) }) rfl (fun K hK => ?_) AllReadyH.nil
      go_simp
      refine (lessA x x _ (ad_irr x) _).mono ?_
      rintro e w19 ⟨rfl, t19⟩
      have hS2 := hS.trans t19 (by simp)
      refine hK.out _ _ hS2 (fun _ => ?_)
      clear hK K hS t19
      have hS := hS2
      clear hS2
      try simp only [Act.put, List.setIfInBounds_toArray, List.set_cons_zero, List.set_cons_succ]
      refine wpAnyH_take (i := 20) (oi := { dst := some 36, op := Op.pick (Operand.tmp 32) (Operand.const (Value.bool true)) (Operand.tmp 35), type := 4, pos := "law.go:60", after := #[{ on := 16, ground := Ground.data }, { on := 19, ground := Ground.data }], guard := none }) (v := .bool false) rfl (by kernel_rfl) (by kernel_rfl) (by kernel_rfl) (fun _ _ _ h => h) (Or.inl ⟨by rfl, fun w' hw => by go_simp⟩) hS ?_
      try simp only [Act.put, List.setIfInBounds_toArray, List.set_cons_zero, List.set_cons_succ]
      refine wpAnyH_take (i := 21) (oi := { dst := some 37, op := Op.move (Operand.tmp 36), type := 4, pos := "law.go:60", after := #[{ on := 20, ground := Ground.data }, { on := 19, ground := Ground.chain }], guard := none }) (v := .bool false) rfl (by kernel_rfl) (by kernel_rfl) (by kernel_rfl) (fun _ _ _ h => h) (Or.inl ⟨by rfl, fun w' hw => by go_simp⟩) hS ?_
      try simp only [Act.put, List.setIfInBounds_toArray, List.set_cons_zero, List.set_cons_succ]
      refine wpAnyH_take (i := 22) (oi := { dst := some 38, op := Op.load 28 (Operand.tmp 7), type := 28, pos := "law.go:60", after := #[{ on := 21, ground := Ground.guard }], guard := some (21, false) }) (v := .agg x.cells.toArray) rfl (by kernel_rfl) (by kernel_rfl) (by kernel_rfl) (fun _ _ _ h => h) (Or.inl ⟨by rfl, fun w' hw => exec_load_agg _ 28 _ rfl _ _ rfl x.cells _ (hw.range rX (by simp)) Tryd.underlying28 rfl (by rw [size31, Ad.len])⟩) hS ?_
      try simp only [Act.put, List.setIfInBounds_toArray, List.set_cons_zero, List.set_cons_succ]
      refine wpAnyH_take (i := 23) (oi := { dst := some 39, op := Op.load 28 (Operand.tmp 8), type := 28, pos := "law.go:60", after := #[{ on := 21, ground := Ground.guard }], guard := some (21, false) }) (v := .agg y.cells.toArray) rfl (by kernel_rfl) (by kernel_rfl) (by kernel_rfl) (fun _ _ _ h => h) (Or.inl ⟨by rfl, fun w' hw => exec_load_agg _ 28 _ rfl _ _ rfl y.cells _ (hw.range rY (by simp)) Tryd.underlying28 rfl (by rw [size31, Ad.len])⟩) hS ?_
      try simp only [Act.put, List.setIfInBounds_toArray, List.set_cons_zero, List.set_cons_succ]
      refine wpAnyH_ready (rs := [24]) (by kernel_rfl) (by simp) ?_
      refine AllReadyH.cons (o := { dst := some 40, op := Op.call { callee := Callee.value (Operand.func 14), args := #[Operand.tmp 38, Operand.tmp 39], argTypes := #[28, 28] }, type := 4, pos := "law.go:60", after := #[{ on := 22, ground := Ground.data }, { on := 23, ground := Ground.data }, { on := 21, ground := Ground.chain }, { on := 21, ground := Ground.guard }], guard := some (21, false) }) rfl (fun K hK => ?_) AllReadyH.nil
      go_simp
      refine (lessA x y _ hxy _).mono ?_
      rintro e w24 ⟨rfl, t24⟩
      have hS2 := hS.trans t24 (by simp)
      refine hK.out _ _ hS2 (fun _ => ?_)
      clear hK K hS t24
      have hS := hS2
      clear hS2
      try simp only [Act.put, List.setIfInBounds_toArray, List.set_cons_zero, List.set_cons_succ]
      refine wpAnyH_take (i := 25) (oi := { dst := some 41, op := Op.move (Operand.tmp 40), type := 4, pos := "law.go:60", after := #[{ on := 24, ground := Ground.data }, { on := 24, ground := Ground.chain }, { on := 21, ground := Ground.guard }], guard := some (21, false) }) (v := .bool true) rfl (by kernel_rfl) (by kernel_rfl) (by kernel_rfl) (fun _ _ _ h => h) (Or.inl ⟨by rfl, fun w' hw => by go_simp⟩) hS ?_
      try simp only [Act.put, List.setIfInBounds_toArray, List.set_cons_zero, List.set_cons_succ]
      refine wpAnyH_take (i := 26) (oi := { dst := some 42, op := Op.load 28 (Operand.tmp 8), type := 28, pos := "law.go:60", after := #[{ on := 25, ground := Ground.guard }], guard := some (25, true) }) (v := .agg y.cells.toArray) rfl (by kernel_rfl) (by kernel_rfl) (by kernel_rfl) (fun _ _ _ h => h) (Or.inl ⟨by rfl, fun w' hw => exec_load_agg _ 28 _ rfl _ _ rfl y.cells _ (hw.range rY (by simp)) Tryd.underlying28 rfl (by rw [size31, Ad.len])⟩) hS ?_
      try simp only [Act.put, List.setIfInBounds_toArray, List.set_cons_zero, List.set_cons_succ]
      refine wpAnyH_take (i := 27) (oi := { dst := some 43, op := Op.load 28 (Operand.tmp 7), type := 28, pos := "law.go:60", after := #[{ on := 25, ground := Ground.guard }], guard := some (25, true) }) (v := .agg x.cells.toArray) rfl (by kernel_rfl) (by kernel_rfl) (by kernel_rfl) (fun _ _ _ h => h) (Or.inl ⟨by rfl, fun w' hw => exec_load_agg _ 28 _ rfl _ _ rfl x.cells _ (hw.range rX (by simp)) Tryd.underlying28 rfl (by rw [size31, Ad.len])⟩) hS ?_
      try simp only [Act.put, List.setIfInBounds_toArray, List.set_cons_zero, List.set_cons_succ]
      refine wpAnyH_ready (rs := [28]) (by kernel_rfl) (by simp) ?_
      refine AllReadyH.cons (o := { dst := some 44, op := Op.call { callee := Callee.value (Operand.func 14), args := #[Operand.tmp 42, Operand.tmp 43], argTypes := #[28, 28] }, type := 4, pos := "law.go:60", after := #[{ on := 26, ground := Ground.data }, { on := 27, ground := Ground.data }, { on := 25, ground := Ground.chain }, { on := 25, ground := Ground.guard }], guard := some (25, true) }) rfl (fun K hK => ?_) AllReadyH.nil
      go_simp
      refine (lessA y x _ (ad_asym hxy) _).mono ?_
      rintro e w28 ⟨rfl, t28⟩
      have hS2 := hS.trans t28 (by simp)
      refine hK.out _ _ hS2 (fun _ => ?_)
      clear hK K hS t28
      have hS := hS2
      clear hS2
      try simp only [Act.put, List.setIfInBounds_toArray, List.set_cons_zero, List.set_cons_succ]
      refine wpAnyH_take (i := 29) (oi := { dst := some 45, op := Op.pick (Operand.tmp 41) (Operand.tmp 44) (Operand.const (Value.bool false)), type := 4, pos := "law.go:60", after := #[{ on := 25, ground := Ground.data }, { on := 28, ground := Ground.data }, { on := 21, ground := Ground.guard }], guard := some (21, false) }) (v := .bool false) rfl (by kernel_rfl) (by kernel_rfl) (by kernel_rfl) (fun _ _ _ h => h) (Or.inl ⟨by rfl, fun w' hw => by go_simp⟩) hS ?_
      try simp only [Act.put, List.setIfInBounds_toArray, List.set_cons_zero, List.set_cons_succ]
      refine wpAnyH_take (i := 30) (oi := { dst := some 46, op := Op.pick (Operand.tmp 37) (Operand.const (Value.bool true)) (Operand.tmp 45), type := 4, pos := "law.go:60", after := #[{ on := 21, ground := Ground.data }, { on := 29, ground := Ground.data }], guard := none }) (v := .bool false) rfl (by kernel_rfl) (by kernel_rfl) (by kernel_rfl) (fun _ _ _ h => h) (Or.inl ⟨by rfl, fun w' hw => by go_simp⟩) hS ?_
      try simp only [Act.put, List.setIfInBounds_toArray, List.set_cons_zero, List.set_cons_succ]
      refine wpAnyH_done (by kernel_rfl) ?_ _
      try simp only [Act.put, List.setIfInBounds_toArray, List.set_cons_zero, List.set_cons_succ]
      go_wp2_with fail
      have hS2 := hS.drew
      refine (awake_ok _).mono ?_
      rintro e v ⟨rfl, tt⟩
      have TS := Lib.hid (hS.trans tt (by simp))
      clear hS hS2 tt
      cases hyz : y.less z <;> cases hxz : x.less z
      · go_wp2_with (first | ((with_reducible refine at_load_g 28 _ _ ?_); refine wpList_load_gg _ _ rfl (by rfl) 28 _ rfl g7 0 rfl x.cells _ (TS.out.range rX (by simp)) Tryd.underlying28 rfl (by rw [size31, Ad.len]) ?_) | ((with_reducible refine at_load_g 28 _ _ ?_); refine wpList_load_gg _ _ rfl (by rfl) 28 _ rfl g8 0 rfl y.cells _ (TS.out.range rY (by simp)) Tryd.underlying28 rfl (by rw [size31, Ad.len]) ?_) | ((with_reducible refine at_load_g 28 _ _ ?_); refine wpList_load_gg _ _ rfl (by rfl) 28 _ rfl g9 0 rfl z.cells _ (TS.out.range rZ (by simp)) Tryd.underlying28 rfl (by rw [size31, Ad.len]) ?_))
        refine (lessA x y _ hxy _).mono ?_
        rintro e v0 ⟨rfl, tt⟩
        have TS2 := Lib.hid (TS.out.trans tt (by simp))
        clear TS tt
        have TS := TS2
        clear TS2
        go_wp2_with (first | ((with_reducible refine at_load_g 28 _ _ ?_); refine wpList_load_gg _ _ rfl (by rfl) 28 _ rfl g7 0 rfl x.cells _ (TS.out.range rX (by simp)) Tryd.underlying28 rfl (by rw [size31, Ad.len]) ?_) | ((with_reducible refine at_load_g 28 _ _ ?_); refine wpList_load_gg _ _ rfl (by rfl) 28 _ rfl g8 0 rfl y.cells _ (TS.out.range rY (by simp)) Tryd.underlying28 rfl (by rw [size31, Ad.len]) ?_) | ((with_reducible refine at_load_g 28 _ _ ?_); refine wpList_load_gg _ _ rfl (by rfl) 28 _ rfl g9 0 rfl z.cells _ (TS.out.range rZ (by simp)) Tryd.underlying28 rfl (by rw [size31, Ad.len]) ?_))
        refine (lessA y z _ hyz _).mono ?_
        rintro e v1 ⟨rfl, tt⟩
        have TS2 := Lib.hid (TS.out.trans tt (by simp))
        clear TS tt
        have TS := TS2
        clear TS2
        go_wp2_with (first | ((with_reducible refine at_load_g 28 _ _ ?_); refine wpList_load_gg _ _ rfl (by rfl) 28 _ rfl g7 0 rfl x.cells _ (TS.out.range rX (by simp)) Tryd.underlying28 rfl (by rw [size31, Ad.len]) ?_) | ((with_reducible refine at_load_g 28 _ _ ?_); refine wpList_load_gg _ _ rfl (by rfl) 28 _ rfl g8 0 rfl y.cells _ (TS.out.range rY (by simp)) Tryd.underlying28 rfl (by rw [size31, Ad.len]) ?_) | ((with_reducible refine at_load_g 28 _ _ ?_); refine wpList_load_gg _ _ rfl (by rfl) 28 _ rfl g9 0 rfl z.cells _ (TS.out.range rZ (by simp)) Tryd.underlying28 rfl (by rw [size31, Ad.len]) ?_))
        refine (lessA x y _ hxy _).mono ?_
        rintro e v2 ⟨rfl, tt⟩
        have TS2 := Lib.hid (TS.out.trans tt (by simp))
        clear TS tt
        have TS := TS2
        clear TS2
        go_wp2_with fail
        go_ret
        exact ⟨by rfl, HT.out.trans TS.out (by simp)⟩
      · go_wp2_with (first | ((with_reducible refine at_load_g 28 _ _ ?_); refine wpList_load_gg _ _ rfl (by rfl) 28 _ rfl g7 0 rfl x.cells _ (TS.out.range rX (by simp)) Tryd.underlying28 rfl (by rw [size31, Ad.len]) ?_) | ((with_reducible refine at_load_g 28 _ _ ?_); refine wpList_load_gg _ _ rfl (by rfl) 28 _ rfl g8 0 rfl y.cells _ (TS.out.range rY (by simp)) Tryd.underlying28 rfl (by rw [size31, Ad.len]) ?_) | ((with_reducible refine at_load_g 28 _ _ ?_); refine wpList_load_gg _ _ rfl (by rfl) 28 _ rfl g9 0 rfl z.cells _ (TS.out.range rZ (by simp)) Tryd.underlying28 rfl (by rw [size31, Ad.len]) ?_))
        refine (lessA x y _ hxy _).mono ?_
        rintro e v0 ⟨rfl, tt⟩
        have TS2 := Lib.hid (TS.out.trans tt (by simp))
        clear TS tt
        have TS := TS2
        clear TS2
        go_wp2_with (first | ((with_reducible refine at_load_g 28 _ _ ?_); refine wpList_load_gg _ _ rfl (by rfl) 28 _ rfl g7 0 rfl x.cells _ (TS.out.range rX (by simp)) Tryd.underlying28 rfl (by rw [size31, Ad.len]) ?_) | ((with_reducible refine at_load_g 28 _ _ ?_); refine wpList_load_gg _ _ rfl (by rfl) 28 _ rfl g8 0 rfl y.cells _ (TS.out.range rY (by simp)) Tryd.underlying28 rfl (by rw [size31, Ad.len]) ?_) | ((with_reducible refine at_load_g 28 _ _ ?_); refine wpList_load_gg _ _ rfl (by rfl) 28 _ rfl g9 0 rfl z.cells _ (TS.out.range rZ (by simp)) Tryd.underlying28 rfl (by rw [size31, Ad.len]) ?_))
        refine (lessA y z _ hyz _).mono ?_
        rintro e v1 ⟨rfl, tt⟩
        have TS2 := Lib.hid (TS.out.trans tt (by simp))
        clear TS tt
        have TS := TS2
        clear TS2
        go_wp2_with (first | ((with_reducible refine at_load_g 28 _ _ ?_); refine wpList_load_gg _ _ rfl (by rfl) 28 _ rfl g7 0 rfl x.cells _ (TS.out.range rX (by simp)) Tryd.underlying28 rfl (by rw [size31, Ad.len]) ?_) | ((with_reducible refine at_load_g 28 _ _ ?_); refine wpList_load_gg _ _ rfl (by rfl) 28 _ rfl g8 0 rfl y.cells _ (TS.out.range rY (by simp)) Tryd.underlying28 rfl (by rw [size31, Ad.len]) ?_) | ((with_reducible refine at_load_g 28 _ _ ?_); refine wpList_load_gg _ _ rfl (by rfl) 28 _ rfl g9 0 rfl z.cells _ (TS.out.range rZ (by simp)) Tryd.underlying28 rfl (by rw [size31, Ad.len]) ?_))
        refine (lessA x y _ hxy _).mono ?_
        rintro e v2 ⟨rfl, tt⟩
        have TS2 := Lib.hid (TS.out.trans tt (by simp))
        clear TS tt
        have TS := TS2
        clear TS2
        go_wp2_with fail
        go_ret
        exact ⟨by rfl, HT.out.trans TS.out (by simp)⟩
      · exact absurd (ad_trans hxy hyz) (by rw [hxz]; simp)
      · go_wp2_with (first | ((with_reducible refine at_load_g 28 _ _ ?_); refine wpList_load_gg _ _ rfl (by rfl) 28 _ rfl g7 0 rfl x.cells _ (TS.out.range rX (by simp)) Tryd.underlying28 rfl (by rw [size31, Ad.len]) ?_) | ((with_reducible refine at_load_g 28 _ _ ?_); refine wpList_load_gg _ _ rfl (by rfl) 28 _ rfl g8 0 rfl y.cells _ (TS.out.range rY (by simp)) Tryd.underlying28 rfl (by rw [size31, Ad.len]) ?_) | ((with_reducible refine at_load_g 28 _ _ ?_); refine wpList_load_gg _ _ rfl (by rfl) 28 _ rfl g9 0 rfl z.cells _ (TS.out.range rZ (by simp)) Tryd.underlying28 rfl (by rw [size31, Ad.len]) ?_))
        refine (lessA x y _ hxy _).mono ?_
        rintro e v0 ⟨rfl, tt⟩
        have TS2 := Lib.hid (TS.out.trans tt (by simp))
        clear TS tt
        have TS := TS2
        clear TS2
        go_wp2_with (first | ((with_reducible refine at_load_g 28 _ _ ?_); refine wpList_load_gg _ _ rfl (by rfl) 28 _ rfl g7 0 rfl x.cells _ (TS.out.range rX (by simp)) Tryd.underlying28 rfl (by rw [size31, Ad.len]) ?_) | ((with_reducible refine at_load_g 28 _ _ ?_); refine wpList_load_gg _ _ rfl (by rfl) 28 _ rfl g8 0 rfl y.cells _ (TS.out.range rY (by simp)) Tryd.underlying28 rfl (by rw [size31, Ad.len]) ?_) | ((with_reducible refine at_load_g 28 _ _ ?_); refine wpList_load_gg _ _ rfl (by rfl) 28 _ rfl g9 0 rfl z.cells _ (TS.out.range rZ (by simp)) Tryd.underlying28 rfl (by rw [size31, Ad.len]) ?_))
        refine (lessA y z _ hyz _).mono ?_
        rintro e v1 ⟨rfl, tt⟩
        have TS2 := Lib.hid (TS.out.trans tt (by simp))
        clear TS tt
        have TS := TS2
        clear TS2
        go_wp2_with (first | ((with_reducible refine at_load_g 28 _ _ ?_); refine wpList_load_gg _ _ rfl (by rfl) 28 _ rfl g7 0 rfl x.cells _ (TS.out.range rX (by simp)) Tryd.underlying28 rfl (by rw [size31, Ad.len]) ?_) | ((with_reducible refine at_load_g 28 _ _ ?_); refine wpList_load_gg _ _ rfl (by rfl) 28 _ rfl g8 0 rfl y.cells _ (TS.out.range rY (by simp)) Tryd.underlying28 rfl (by rw [size31, Ad.len]) ?_) | ((with_reducible refine at_load_g 28 _ _ ?_); refine wpList_load_gg _ _ rfl (by rfl) 28 _ rfl g9 0 rfl z.cells _ (TS.out.range rZ (by simp)) Tryd.underlying28 rfl (by rw [size31, Ad.len]) ?_))
        refine (lessA x z _ hxz _).mono ?_
        rintro e v2 ⟨rfl, tt⟩
        have TS2 := Lib.hid (TS.out.trans tt (by simp))
        clear TS tt
        have TS := TS2
        clear TS2
        go_wp2_with (first | ((with_reducible refine at_load_g 28 _ _ ?_); refine wpList_load_gg _ _ rfl (by rfl) 28 _ rfl g7 0 rfl x.cells _ (TS.out.range rX (by simp)) Tryd.underlying28 rfl (by rw [size31, Ad.len]) ?_) | ((with_reducible refine at_load_g 28 _ _ ?_); refine wpList_load_gg _ _ rfl (by rfl) 28 _ rfl g8 0 rfl y.cells _ (TS.out.range rY (by simp)) Tryd.underlying28 rfl (by rw [size31, Ad.len]) ?_) | ((with_reducible refine at_load_g 28 _ _ ?_); refine wpList_load_gg _ _ rfl (by rfl) 28 _ rfl g9 0 rfl z.cells _ (TS.out.range rZ (by simp)) Tryd.underlying28 rfl (by rw [size31, Ad.len]) ?_))
        refine (lessA x y _ hxy _).mono ?_
        rintro e v3 ⟨rfl, tt⟩
        have TS2 := Lib.hid (TS.out.trans tt (by simp))
        clear TS tt
        have TS := TS2
        clear TS2
        go_wp2_with fail
        go_ret
        exact ⟨by rfl, HT.out.trans TS.out (by simp)⟩
end Go.Proofs.YtecaakgpogabjaaDoor

/-
  A slice that came in, told as a list of its elements' cells. Plain lemmas over any program.
-/
namespace Go.Proofs.YtecaakgpogabjaaDoor
open Go.ChangeShapes Go.WideShapes Go.Deep
set_option linter.unusedVariables false
set_option linter.unusedSimpArgs false

theorem slice_rows {H : Type} {enc : TypeId × Value → H} {P : Program} {w : World} {base : Nat} {spare : Nat → Bool} {held : Bool} {ts : List TypeId} {v : Value} (hpos : 0 < ts.length) (hv : IsSlice enc P w base spare held ts v) :
    ∃ b xs, Rd w ts.length b v xs ∧ ∀ x ∈ xs, CellsOk enc P w base spare held ts x := by
  rcases hv with rfl | ⟨a, len, cap, rfl, hl, hm, hc⟩
  · exact ⟨0, [], ⟨none, 0, rfl, Nat.le_refl _, by simp [maxLen], fun _ => rfl, fun h => absurd rfl h⟩, by simp⟩
  · obtain ⟨b, off, spot⟩ := a
    let el : Nat → List Value := fun i => (List.range ts.length).map fun j => (w.cell? ((⟨b, off, spot⟩ : Addr).add (i * ts.length + j))).getD undef
    have hel : ∀ i j, j < ts.length → (el i)[j]? = some ((w.cell? ((⟨b, off, spot⟩ : Addr).add (i * ts.length + j))).getD undef) := by
      intro i j hj
      simp [el, hj]
    refine ⟨b, (List.range len).map el, ⟨some ⟨b, off, spot⟩, cap, by simp, by simpa using hl, hm, (by intro h; cases h), fun hne => ?_⟩, ?_⟩
    · have h0 : 0 < len := by
        rcases Nat.eq_zero_or_pos len with h | h
        · subst h; simp at hne
        · exact h
      obtain ⟨u, hu, _⟩ := hc 0 0 (ts[0]) h0 (by simp)
      have hs : spot = none := by simpa [Addr.add] using World.cell?_spot hu
      subst hs
      refine ⟨off, rfl, fun i x hx => ?_⟩
      intro j u hj
      have hi : i < len := by
        have := (List.getElem?_eq_some_iff.1 hx).1
        simpa using this
      obtain rfl : el i = x := by simpa [hi] using hx
      have hjl : j < ts.length := by
        have := (List.getElem?_eq_some_iff.1 hj).1
        simpa [el] using this
      rw [hel i j hjl] at hj
      obtain ⟨u', hu', _⟩ := hc i j (ts[j]) hi (by simp [hjl])
      rw [hu'] at hj
      simp at hj
      subst hj
      rw [Addr.add_lit] at hu'
      rw [Nat.add_assoc]
      exact hu'
    · intro x hx
      obtain ⟨i, hi, rfl⟩ := List.mem_map.1 hx
      have hi' : i < len := by simpa using hi
      refine ⟨by simp [el], fun j t ht => ?_⟩
      obtain ⟨u, hu, hleaf⟩ := hc i j t hi' ht
      have hjl : j < ts.length := (List.getElem?_eq_some_iff.1 ht).1
      exact ⟨u, by rw [hel i j hjl, hu]; rfl, hleaf⟩
end Go.Proofs.YtecaakgpogabjaaDoor

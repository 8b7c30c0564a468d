/-
  Merged texts: Rxa.
-/
import Derived.Test.YtiklhaajhdephaaGreatDoorIB
import Derived.Test.YtiklhaajhdephaaGreatDoorIA
import Derived.Test.YtiklhaajhdephaaGreatDoorHA

/-
 The contracts of the reference pair's Answer, one for each family.
-/
namespace Go.Proofs.YtiklhaajhdephaaGreatDoor
open Go.RowKit
set_option linter.unusedVariables false
set_option linter.unusedSimpArgs false

/-- What waits for i, however far. -/
inductive Dep (md : Region.Mode) (ops : Array Oper) (i : Nat) : Nat → Prop
 | base (j : Nat) (o : Oper) (e : Edge) : ops[j]? = some o → e ∈ o.after → Region.binds md e = true → e.on = i → Dep md ops i j
 | step (j : Nat) (o : Oper) (e : Edge) : ops[j]? = some o → e ∈ o.after → Region.binds md e = true → Dep md ops i e.on → Dep md ops i j
theorem Dep.listed {md : Region.Mode} {ops : Array Oper} {i j : Nat} {l : Array Bool} (hc : Closed md ops l) (d : Dep md ops i j) : l.getD j false = true → l.getD i false = true := by
 have key : ∀ k ok, ops[k]? = some ok → l.getD k false = true → ∀ e ∈ ok.after, Region.binds md e = true → l.getD e.on false = true := by
  intro k ok hk hl e he hb
  have hs : k < l.size := by
   rcases Nat.lt_or_ge k l.size with h' | h'
   ·exact h'
   ·simp [Array.getElem?_eq_none h'] at hl
  exact hc k ok hk (by simp [hs] at hl ⊢; exact hl) hs e he hb
 induction d with
 | base j o e ho he hb hon => intro hl; rw [← hon]; exact key j o ho hl e he hb
 | step j o e ho he hb _ ih => intro hl; exact ih (key j o ho hl e he hb)
def depB (md : Region.Mode) (ops : Array Oper) (i : Nat) : Nat → Nat → Bool
 | 0, _ => false
 | f + 1, j => match ops[j]? with
  | some o => o.after.toList.any fun e => Region.binds md e && (e.on == i || depB md ops i f e.on)
  | none => false
theorem depB_spec {md : Region.Mode} {ops : Array Oper} {i : Nat} : ∀ (f j : Nat), depB md ops i f j = true → Dep md ops i j
 | 0, _, h => by cases h
 | f + 1, j, h => by
  unfold depB at h
  cases ho : ops[j]? with
  | none => rw [ho] at h; cases h
  | some o =>
   rw [ho] at h
   obtain ⟨e, he, h1⟩ := List.any_eq_true.1 h
   simp only [Bool.and_eq_true, Bool.or_eq_true, beq_iff_eq] at h1
   rcases h1.2 with h2 | h2
   ·exact .base j o e ho (by simpa using he) h1.1 h2
   ·exact .step j o e ho (by simpa using he) h1.1 (depB_spec f e.on h2)
theorem wpAnyF_firstT {P : Program} {ops : Array Oper} {Q : Exit → Act → World → Prop} {md : Region.Mode} {S : World → Prop} {F : List Nat} {i : Nat} {oi : Oper} {v : Value} (hi : ops[i]? = some oi) (hsel : ∀ (j : Nat) (o : Oper) cs b, ops[j]? = some o → o.op ≠ .select cs b)
  (hQ : ∀ c a w, Q (.panic c) (a.put oi.dst v) w → Q (.panic c) a w) (hF : ∀ j ∈ F, Dep md ops i j) :
  ∀ (fuel : Nat) (listed : Array Bool) (a : Act) (w : World), Closed md ops listed → 
   (∀ j oj, ops[j]? = some oj → j ≠ i → listed.getD j true = false → (∀ e ∈ oj.after, Region.binds md e = true → e.on ≠ i) → oi.apart ops oj = true) →
   i ∈ Region.ready md ops listed → YieldsIf P ops S oi v a → S w →
   wpAnyF P md ops Q S F fuel (listed.setIfInBounds i true) (a.put oi.dst v) w → wpAnyF P md ops Q S F (fuel + 1) listed a w := by
 intro fuel
 induction fuel with
 | zero =>
  intro listed a w _ _ hr hy hS H
  refine ⟨fun h => (by rw [h] at hr; cases hr), fun j hj => ?_⟩
  by_cases hji : j = i
  ·subst hji
   exact hy.wpOp hi hS ⟨fun _ => hS, H⟩
  ·have := ready_mono hj hji
   rw [H.1] at this
   cases this
 | succ fuel ih =>
  intro listed a w hcl hfree hr hy hS H
  refine ⟨fun h => (by rw [h] at hr; cases hr), fun j hj => ?_⟩
  by_cases hji : j = i
  ·subst hji
   exact hy.wpOp hi hS ⟨fun _ => hS, H⟩
  ·have h1 := H.2 j (ready_mono hj hji)
   obtain ⟨hjun, oj, hoj, hall⟩ := mem_ready.1 hj
   have h0 := (mem_ready.1 hr).1
   have hno : ¬ listed.getD i false = true := by
    intro h2
    rcases Nat.lt_or_ge i listed.size with h' | h'
    ·simp [h'] at h0 h2
     rw [h0] at h2
     cases h2
    ·simp [Array.getElem?_eq_none h'] at h2
   have hnot : ∀ e ∈ oj.after, Region.binds md e = true → e.on ≠ i := fun e he hb heq => hno (heq ▸ hall e he hb)
   have hjF : j ∉ F := fun hm => by
    cases hF j hm with
    | base _ o e ho he hb hon => rw [hoj] at ho; cases ho; exact hnot e he hb hon
    | step _ o e ho he hb d => rw [hoj] at ho; cases ho; exact hno (d.listed hcl (hall e he hb))
   have h2 := wpOp_putIf hoj (hfree j oj hoj hji hjun hnot) (fun cs b => hsel i oi cs b hi) (fun cs b => hsel j oj cs b hoj) hQ hy h1
   have hfree' : ∀ k ok, ops[k]? = some ok → k ≠ i → (listed.setIfInBounds j true).getD k true = false →
     (∀ e ∈ ok.after, Region.binds md e = true → e.on ≠ i) → oi.apart ops ok = true := fun k ok hk hki hun hno => by
    refine hfree k ok hk hki ?_ hno
    by_cases hjk : j = k
    ·subst hjk
     exact hjun
    ·rw [getD_set_ne true hjk] at hun
     exact hun
   refine wpOp_mono (fun a' w' h3 => ⟨fun _ => h3.2.1 hjF, ih (listed.setIfInBounds j true) a' w' (hcl.step hj) hfree' (ready_mono hr (Ne.symm hji)) h3.1 (h3.2.1 hjF) ?_⟩) h2
   rw [Array.setIfInBounds_comm _ _ hji]
   exact h3.2.2
theorem wpAnyF_takeT {P : Program} {ops : Array Oper} {Q : Exit → Act → World → Prop} {md : Region.Mode} {S : World → Prop} {F : List Nat} {i : Nat} {oi : Oper} {v : Value} {fuel : Nat} {listed : Array Bool} {a : Act} {w : World} (hi : ops[i]? = some oi)
  (hs : Region.noSelect ops = true) (hf : Region.free md ops listed i = true) (hr : (Region.ready md ops listed).contains i = true) (hw : (F.all fun j => depB md ops i 8 j) = true) (hc : closed md ops listed = true)
  (hQ : ∀ c a w, Q (.panic c) (a.put oi.dst v) w → Q (.panic c) a w) (hy : YieldsIf P ops S oi v a) (hS : S w)
  (h : wpAnyF P md ops Q S F fuel (listed.setIfInBounds i true) (a.put oi.dst v) w) : wpAnyF P md ops Q S F (fuel + 1) listed a w :=
 wpAnyF_firstT hi (Region.noSelect_spec hs) hQ (fun j hj => depB_spec 8 j (List.all_eq_true.1 hw j hj)) fuel listed a w (closed_spec hc) (Region.free_spec hi hf) (by simpa using hr) hy hS h
theorem ansL_full (b : Bool) : ∀ (L l : List Ad), ¬ L.length < 16 → ansL b L l = L
 | L, [], _ => rfl
 | L, a :: l, h => by
  have e : ansS b L a = L := by unfold ansS; rw [if_neg (fun x => h x.2.2.1)]
  show ansL b (ansS b L a) l = L
  rw [e]
  exact ansL_full b L l h
theorem ansL_stop (b : Bool) (L l : List Ad) (i : Nat) (h : ¬ (ansL b L (l.take i)).length < 16) : ansL b L l = ansL b L (l.take i) := by
 have e : ansL b L l = ansL b (ansL b L (l.take i)) (l.drop i) := by
  unfold ansL
  rw [← List.foldl_append, List.take_append_drop]
 rw [e, ansL_full _ _ _ h]
set_option maxRecDepth 100000 in
set_option maxHeartbeats 400000 in
theorem rpansD4 (w0 w : World) (h : Nat) (b : RV) (s : DS) (T : List Ad) (d : Rdl w0 w h b s T) (now : Int) (v : Value) (hr : s.p.canc = false) (ha : s.p.q4.a = true) :
  Calls Tryz.prog 63 #[.pointer (some ⟨h, 6, none⟩), .int .u64 now, .bool false, v] w fun e w' => e = .returned (.tuple #[.int .i64 0, .int .i64 5]) ∧ w = w' := by
 have c7 := d.at 7 _ rfl
 have c8 := d.at 8 _ rfl
 rw [hr] at c7
 rw [ha] at c8
 clear d hr ha
 go_enter Tryz.func63, Tryz.ntmps63
 go_wp2_with fail
 refine (rfam4 w).mono ?_
 rintro e _ ⟨rfl, rfl⟩
 go_wp2_with fail
 go_ret2
 exact ⟨rfl, rfl⟩
set_option maxRecDepth 100000 in
set_option maxHeartbeats 8000000 in
theorem rpans4 (w0 w : World) (h : Nat) (b : RV) (s : DS) (T : List Ad) (d : Rdl w0 w h b s T) (hz : w0.heap.size ≤ w.heap.size) (now : Int) (hnow : 0 ≤ now ∧ now ≤ maxT) (hr : s.p.canc = false) (ha : s.p.q4.a = false) (v : Value) (bl : Nat) (l : List Ad) (hv : Rd w 17 bl v (l.map Ad.cells)) (hb : l ≠ [] → bl ∉ rfoot h b) :
  Calls Tryz.prog 63 #[.pointer (some ⟨h, 6, none⟩), .int .u64 now, .bool false, v] w fun e w' => ∃ b', e = .returned (.tuple #[.int .i64 ((ansL false s.p.q4.l l).length : Nat), .int .i64 0]) ∧ Rdl w0 w' h b' { s with p := { s.p with q4 := ⟨true, now, ansL false s.p.q4.l l⟩ } } T ∧ RStep w w' h b b' := by
 obtain ⟨a, cap, rfl, hlc, hcm⟩ := hv.form
 simp only [List.length_map] at *
 obtain ⟨n, hn⟩ : ∃ n, n = l.length := ⟨_, rfl⟩
 have HN := Lib.hid hn
 have HV := Lib.hid hv
 have HHB := Lib.hid hb
 have c7 := d.at 7 _ rfl
 have c8 := d.at 8 _ rfl
 rw [hr] at c7
 rw [ha] at c8
 have HD := Lib.hid d
 have hn16 := d.n4
 have hnL : n ≤ 9223372036854775807 := by unfold maxLen at hcm; omega
 have HHZ := Lib.hid hz
 have HNW := Lib.hid hnow
 rw [← hn] at HV ⊢
 clear hv hn hlc hcm hb d hr ha hnow hz
 go_enter Tryz.func63, Tryz.ntmps63
 go_wp2_with fail
 refine (rfam4 w).mono ?_
 rintro e _ ⟨rfl, rfl⟩
 go_wp2_with fail
 clear c7 c8
 go_loopw [11] (fun vi wr => ∃ (i : Nat) (vb : Value), i ≤ n ∧ vi = .int .i64 i ∧ Rdl w0 wr h { b with v4 := vb } { s with p := { s.p with q4 := ⟨s.p.q4.a, s.p.q4.t, ansL false s.p.q4.l (l.take i)⟩ } } T ∧ RStep w wr h b { b with v4 := vb }) (fun vi _ => n - (intOf vi).toNat)
 case atStart => exact ⟨0, b.v4, by omega, rfl, by rw [List.take_zero]; exact HD.out, RStep.of0 (Touch.refl _ _)⟩
 case round =>
  obtain ⟨i, vb, hin, rfl, hq, ht⟩ := hrel
  have HQI := Lib.hid hq
  have HT := Lib.hid ht
  have hlen : (ansL false s.p.q4.l (l.take i)).length ≤ 16 := ansL_len hn16
  obtain ⟨aB, cB, hvbf, hlB, hcB, _⟩ := (show OwnA w0 wr vb (ansL false s.p.q4.l (l.take i)) from hq.ov4).form
  have HBF := Lib.hid hvbf
  obtain ⟨k, hk⟩ : ∃ k, k = (ansL false s.p.q4.l (l.take i)).length := ⟨_, rfl⟩
  have HK := Lib.hid hk
  rw [← hk] at hlB HBF hlen
  have cL : wr.cell? ⟨h, 12, none⟩ = some (.slice aB k cB) := by rw [← HBF.out]; exact hq.at 12 _ rfl
  clear hq ht hvbf hk
  by_cases hlt : i < n
  ·by_cases hk16 : k < 16
   ·have hk17 : (k : Int) < 16 := by omega
    obtain ⟨x, hx⟩ : ∃ x, l[i]? = some x := ⟨_, List.getElem?_eq_getElem (by rw [← HN.out]; exact hlt)⟩
    obtain ⟨o1, rfl, hat1⟩ := HV.out.at (by intro e; rw [List.map_eq_nil_iff] at e; rw [e] at hx; simp at hx)
    have hbn := HHB.out (by intro e; rw [e] at hx; simp at hx)
    have hbw : bl < w.heap.size := by
     have h0 := World.block_lt_of_cell? w _ (hat1 i x.cells (by simp [hx]) 0 _ (List.getElem?_eq_getElem (by rw [x.len]; omega)))
     exact h0
    have r1 := HT.out.t.range (hat1 i x.cells (by simp [hx])) hbn
    have HBN := Lib.hid (show bl ∉ vb.ownBlock.toList from fun hm => by
     rcases HT.out.n bl (mem_rfoot.2 ⟨1, by simpa [rpart] using hm⟩) with e | e
     ·exact hbn e
     ·omega)
    have HLX := Lib.hid x.len
    have HST := Lib.hid (ansL_step false s.p.q4.l l i x hx)
    have hwi : IntKind.i64.wrap ((i : Int) + 1) = (i : Int) + 1 := by rw [IntKind.wrap_i64] <;> omega
    have hin2 : (i : Int) < (n : Int) := by omega
    have HRX := Lib.hid r1
    have HL16 := Lib.hid (show (ansL false s.p.q4.l (l.take i)).length < 16 by rw [← HK.out]; exact hk16)
    clear hx hat1 hbn r1 hk16 hbw
    go_wp2_with fail
    clear cL
    generalize hA0 : ansL false s.p.q4.l (l.take i) = A0 at *
    clear hA0
    cases hfam : decide (x.b = false) with
    | false =>
     have HS := Lib.hid (show ansL false s.p.q4.l (l.take (i + 1)) = A0 by rw [HST.out]; unfold ansS; rw [if_neg (by intro h; rw [decide_eq_false_iff_not] at hfam; exact hfam h.1)])
     have HXB := Lib.hid (show x.b = true by cases hxb : x.b <;> simp [hxb] at hfam <;> rfl)
     clear hfam
     refine wp_region_held (S := Touch [] wr.drew) (by kernel_rfl) ?_
     change wpAnyH _ _ _ _ _ _ _ _ wr.drew
     have HQW := Lib.hid (HQI.out.touch0 ((Touch.refl [] wr).drew))
     have HRW := Lib.hid (((Touch.refl [] wr).drew).range HRX.out (by simp))
     have HTW := Lib.hid (HT.out.trans (RStep.of0 ((Touch.refl [] wr).drew)))
     generalize wr.drew = W at *
     have hS := Touch.refl [] W
     have cL : W.cell? ⟨h, 12, none⟩ = some (.slice aB k cB) := by rw [← HBF.out]; exact HQW.out.at 12 _ rfl
     have cx : W.cell? ⟨bl, o1 + i * 17, none⟩ = some (.bool true) := by rw [← HXB.out]; simpa using HRW.out 0 (.bool x.b) rfl
     obtain ⟨bB, hrB, _⟩ := (show OwnA w0 W vb A0 from HQW.out.ov4).rd
     have HRB := Lib.hid hrB
     clear hrB
     refine tkH 0 (.slice (some ⟨bl, o1, none⟩) n cap) ?_
     refine tkH 1 (.int .i64 (i : Nat)) ?_
     refine tkH 2 (.pointer (some ⟨bl, o1 + i * 17, none⟩)) ?_
     refine tkH 3 (.pointer (some ⟨bl, o1 + i * 17, none⟩)) ?_
     refine tkH 4 (.bool true) ?_ (hy := Or.inl ⟨by rfl, fun w' hw => by (have q := hw.cell cx (by simp); go_simp)⟩)
     refine tkH 5 (.bool false) ?_
     refine tkH 6 (.bool false) ?_
     refine tkH 7 (.bool false) ?_
     refine tkN 8 undef ?_
     refine tkN 9 undef ?_
     refine tkN 10 undef ?_
     refine tkN 11 undef ?_
     refine tkN 12 undef ?_
     refine tkH 13 (.bool false) ?_
     refine tkH 14 (.bool false) ?_
     refine tkN 15 undef ?_
     refine tkN 16 undef ?_
     refine tkN 17 undef ?_
     refine tkN 18 undef ?_
     refine tkN 19 undef ?_
     refine tkN 20 undef ?_
     refine tkN 21 undef ?_
     refine tkN 22 undef ?_
     refine tkN 23 undef ?_
     refine tkN 24 undef ?_
     refine tkN 25 undef ?_
     refine tkN 26 undef ?_
     refine tkH 27 (.bool false) ?_
     refine wpAnyH_done (by kernel_rfl) ?_ _
     try simp only [Act.put, sT, s0, sS]
     clear cL cx
     have HT3 := Lib.hid (hS)
     clear hS
     go_wp2_with fail
     go_roundw
     case rel => exact ⟨i + 1, vb, by omega, by go_num, by rw [HS.out]; exact HQW.out.touch0 HT3.out, HTW.out.trans (RStep.of0 HT3.out)⟩
     case measure => simp [intOf]; omega
    | true =>
     have HXB := Lib.hid (show x.b = false by simpa using hfam)
     clear hfam
     cases hval : x.valid with
     | false =>
      have HVL := Lib.hid (rvalidB x false hval)
      have HS := Lib.hid (show ansL false s.p.q4.l (l.take (i + 1)) = A0 by rw [HST.out]; unfold ansS; rw [if_neg (by intro h; rw [hval] at h; simp at h)])
      clear hval
      refine wp_region_held (S := Touch [] wr.drew) (by kernel_rfl) ?_
      change wpAnyH _ _ _ _ _ _ _ _ wr.drew
      have HQW := Lib.hid (HQI.out.touch0 ((Touch.refl [] wr).drew))
      have HRW := Lib.hid (((Touch.refl [] wr).drew).range HRX.out (by simp))
      have HTW := Lib.hid (HT.out.trans (RStep.of0 ((Touch.refl [] wr).drew)))
      generalize wr.drew = W at *
      have hS := Touch.refl [] W
      have cL : W.cell? ⟨h, 12, none⟩ = some (.slice aB k cB) := by rw [← HBF.out]; exact HQW.out.at 12 _ rfl
      have cx : W.cell? ⟨bl, o1 + i * 17, none⟩ = some (.bool false) := by rw [← HXB.out]; simpa using HRW.out 0 (.bool x.b) rfl
      obtain ⟨bB, hrB, _⟩ := (show OwnA w0 W vb A0 from HQW.out.ov4).rd
      have HRB := Lib.hid hrB
      clear hrB
      refine tkH 0 (.slice (some ⟨bl, o1, none⟩) n cap) ?_
      refine tkH 1 (.int .i64 (i : Nat)) ?_
      refine tkH 2 (.pointer (some ⟨bl, o1 + i * 17, none⟩)) ?_
      refine tkH 3 (.pointer (some ⟨bl, o1 + i * 17, none⟩)) ?_
      refine tkH 4 (.bool false) ?_ (hy := Or.inl ⟨by rfl, fun w' hw => by (have q := hw.cell cx (by simp); go_simp)⟩)
      refine tkH 5 (.bool false) ?_
      refine tkH 6 (.bool true) ?_
      refine tkH 7 (.bool true) ?_
      refine tkH 8 (.slice (some ⟨bl, o1, none⟩) n cap) ?_
      refine tkH 9 (.int .i64 (i : Nat)) ?_
      refine tkH 10 (.pointer (some ⟨bl, o1 + i * 17, none⟩)) ?_
      refine tkH 11 (.agg x.cells.toArray) ?_ (hy := Or.inl ⟨by rfl, fun w' hw => exec_load_agg _ 40 _ rfl _ _ rfl x.cells _ (hw.range HRW.out (by simp)) Tryz.underlying40 rfl (by rw [size31, HLX.out])⟩)
      refine wpAnyH_ready (rs := [12]) (by kernel_rfl) (by simp) ?_
      refine cnH rfl (fun K hK => ?_) AllReadyH.nil
      go_simp
      refine (HVL.out _).mono ?_
      rintro e w12 ⟨rfl, t12⟩
      have hS2 := hS.trans t12 (by simp)
      refine hK.out _ _ hS2 (fun _ => ?_)
      clear hK K hS t12
      have hS := hS2
      clear hS2
      try simp only [Act.put, sT, s0, sS]
      refine tkH 13 (.bool false) ?_
      refine tkH 14 (.bool false) ?_
      refine tkN 15 undef ?_
      refine tkN 16 undef ?_
      refine tkN 17 undef ?_
      refine tkN 18 undef ?_
      refine tkN 19 undef ?_
      refine tkN 20 undef ?_
      refine tkN 21 undef ?_
      refine tkN 22 undef ?_
      refine tkN 23 undef ?_
      refine tkN 24 undef ?_
      refine tkN 25 undef ?_
      refine tkN 26 undef ?_
      refine tkH 27 (.bool false) ?_
      refine wpAnyH_done (by kernel_rfl) ?_ _
      try simp only [Act.put, sT, s0, sS]
      clear cL cx
      have HT3 := Lib.hid (hS)
      clear hS
      go_wp2_with fail
      go_roundw
      case rel => exact ⟨i + 1, vb, by omega, by go_num, by rw [HS.out]; exact HQW.out.touch0 HT3.out, HTW.out.trans (RStep.of0 HT3.out)⟩
      case measure => simp [intOf]; omega
     | true =>
      have HVL := Lib.hid (rvalidB x true hval)
      cases hin2 : inL A0 x with
      | true =>
       have HS := Lib.hid (show ansL false s.p.q4.l (l.take (i + 1)) = A0 by rw [HST.out]; unfold ansS; rw [if_neg (by intro h; rw [hin2] at h; simp at h)])
       have HIN := Lib.hid hin2
       clear hval hin2
       refine wp_region_held (S := Touch [] wr.drew) (by kernel_rfl) ?_
       change wpAnyH _ _ _ _ _ _ _ _ wr.drew
       have HQW := Lib.hid (HQI.out.touch0 ((Touch.refl [] wr).drew))
       have HRW := Lib.hid (((Touch.refl [] wr).drew).range HRX.out (by simp))
       have HTW := Lib.hid (HT.out.trans (RStep.of0 ((Touch.refl [] wr).drew)))
       generalize wr.drew = W at *
       have hS := Touch.refl [] W
       have cL : W.cell? ⟨h, 12, none⟩ = some (.slice aB k cB) := by rw [← HBF.out]; exact HQW.out.at 12 _ rfl
       have cx : W.cell? ⟨bl, o1 + i * 17, none⟩ = some (.bool false) := by rw [← HXB.out]; simpa using HRW.out 0 (.bool x.b) rfl
       obtain ⟨bB, hrB, _⟩ := (show OwnA w0 W vb A0 from HQW.out.ov4).rd
       have HRB := Lib.hid hrB
       clear hrB
       refine tkH 0 (.slice (some ⟨bl, o1, none⟩) n cap) ?_
       refine tkH 1 (.int .i64 (i : Nat)) ?_
       refine tkH 2 (.pointer (some ⟨bl, o1 + i * 17, none⟩)) ?_
       refine tkH 3 (.pointer (some ⟨bl, o1 + i * 17, none⟩)) ?_
       refine tkH 4 (.bool false) ?_ (hy := Or.inl ⟨by rfl, fun w' hw => by (have q := hw.cell cx (by simp); go_simp)⟩)
       refine tkH 5 (.bool false) ?_
       refine tkH 6 (.bool true) ?_
       refine tkH 7 (.bool true) ?_
       refine tkH 8 (.slice (some ⟨bl, o1, none⟩) n cap) ?_
       refine tkH 9 (.int .i64 (i : Nat)) ?_
       refine tkH 10 (.pointer (some ⟨bl, o1 + i * 17, none⟩)) ?_
       refine tkH 11 (.agg x.cells.toArray) ?_ (hy := Or.inl ⟨by rfl, fun w' hw => exec_load_agg _ 40 _ rfl _ _ rfl x.cells _ (hw.range HRW.out (by simp)) Tryz.underlying40 rfl (by rw [size31, HLX.out])⟩)
       refine wpAnyH_ready (rs := [12]) (by kernel_rfl) (by simp) ?_
       refine cnH rfl (fun K hK => ?_) AllReadyH.nil
       go_simp
       refine (HVL.out _).mono ?_
       rintro e w12 ⟨rfl, t12⟩
       have hS2 := hS.trans t12 (by simp)
       refine hK.out _ _ hS2 (fun _ => ?_)
       clear hK K hS t12
       have hS := hS2
       clear hS2
       try simp only [Act.put, sT, s0, sS]
       refine tkH 13 (.bool true) ?_
       refine tkH 14 (.bool true) ?_
       refine tkH 15 (.pointer (some ⟨h, 6, none⟩)) ?_
       refine tkH 16 (.int .i64 0) ?_
       refine tkH 17 (.pointer (some ⟨h, 6, none⟩)) ?_
       refine tkH 18 (.pointer (some ⟨h, 12, none⟩)) ?_
       refine tkH 19 (.pointer (some ⟨h, 12, none⟩)) ?_
       refine tkH 20 (.slice aB k cB) ?_ (hy := Or.inl ⟨by rfl, fun w' hw => by (have q := hw.cell cL (by simp); go_simp)⟩)
       refine tkH 21 (.slice (some ⟨bl, o1, none⟩) n cap) ?_
       refine tkH 22 (.int .i64 (i : Nat)) ?_
       refine tkH 23 (.pointer (some ⟨bl, o1 + i * 17, none⟩)) ?_
       refine tkH 24 (.agg x.cells.toArray) ?_ (hy := Or.inl ⟨by rfl, fun w' hw => exec_load_agg _ 40 _ rfl _ _ rfl x.cells _ (hw.range HRW.out (by simp)) Tryz.underlying40 rfl (by rw [size31, HLX.out])⟩)
       refine wpAnyH_ready (rs := [25]) (by kernel_rfl) (by simp) ?_
       refine cnH rfl (fun K hK => ?_) AllReadyH.nil
       go_simp
       refine (rhasB _ bB A0 x true HIN.out _ (by rw [← HBF.out]; exact HRB.out.touch hS (by simp))).mono ?_
       rintro e w25 ⟨rfl, t25⟩
       have hS2 := hS.trans t25 (by simp)
       refine hK.out _ _ hS2 (fun _ => ?_)
       clear hK K hS t25
       have hS := hS2
       clear hS2
       try simp only [Act.put, sT, s0, sS]
       refine tkH 26 (.bool false) ?_
       refine tkH 27 (.bool false) ?_
       refine wpAnyH_done (by kernel_rfl) ?_ _
       try simp only [Act.put, sT, s0, sS]
       clear cL cx
       have HT3 := Lib.hid (hS)
       clear hS
       go_wp2_with fail
       go_roundw
       case rel => exact ⟨i + 1, vb, by omega, by go_num, by rw [HS.out]; exact HQW.out.touch0 HT3.out, HTW.out.trans (RStep.of0 HT3.out)⟩
       case measure => simp [intOf]; omega
      | false =>
       have HS := Lib.hid (show ansL false s.p.q4.l (l.take (i + 1)) = A0 ++ [x] by rw [HST.out]; unfold ansS; rw [if_pos ⟨HXB.out, hval, HL16.out, hin2⟩])
       have HIN := Lib.hid hin2
       clear hval hin2
       refine wp_region_held (S := Touch [] wr.drew) (by kernel_rfl) ?_
       change wpAnyH _ _ _ _ _ _ _ _ wr.drew
       have HQW := Lib.hid (HQI.out.touch0 ((Touch.refl [] wr).drew))
       have HRW := Lib.hid (((Touch.refl [] wr).drew).range HRX.out (by simp))
       have HTW := Lib.hid (HT.out.trans (RStep.of0 ((Touch.refl [] wr).drew)))
       generalize wr.drew = W at *
       have hS := Touch.refl [] W
       have cL : W.cell? ⟨h, 12, none⟩ = some (.slice aB k cB) := by rw [← HBF.out]; exact HQW.out.at 12 _ rfl
       have cx : W.cell? ⟨bl, o1 + i * 17, none⟩ = some (.bool false) := by rw [← HXB.out]; simpa using HRW.out 0 (.bool x.b) rfl
       obtain ⟨bB, hrB, _⟩ := (show OwnA w0 W vb A0 from HQW.out.ov4).rd
       have HRB := Lib.hid hrB
       clear hrB
       refine tkH 0 (.slice (some ⟨bl, o1, none⟩) n cap) ?_
       refine tkH 1 (.int .i64 (i : Nat)) ?_
       refine tkH 2 (.pointer (some ⟨bl, o1 + i * 17, none⟩)) ?_
       refine tkH 3 (.pointer (some ⟨bl, o1 + i * 17, none⟩)) ?_
       refine tkH 4 (.bool false) ?_ (hy := Or.inl ⟨by rfl, fun w' hw => by (have q := hw.cell cx (by simp); go_simp)⟩)
       refine tkH 5 (.bool false) ?_
       refine tkH 6 (.bool true) ?_
       refine tkH 7 (.bool true) ?_
       refine tkH 8 (.slice (some ⟨bl, o1, none⟩) n cap) ?_
       refine tkH 9 (.int .i64 (i : Nat)) ?_
       refine tkH 10 (.pointer (some ⟨bl, o1 + i * 17, none⟩)) ?_
       refine tkH 11 (.agg x.cells.toArray) ?_ (hy := Or.inl ⟨by rfl, fun w' hw => exec_load_agg _ 40 _ rfl _ _ rfl x.cells _ (hw.range HRW.out (by simp)) Tryz.underlying40 rfl (by rw [size31, HLX.out])⟩)
       refine wpAnyH_ready (rs := [12]) (by kernel_rfl) (by simp) ?_
       refine cnH rfl (fun K hK => ?_) AllReadyH.nil
       go_simp
       refine (HVL.out _).mono ?_
       rintro e w12 ⟨rfl, t12⟩
       have hS2 := hS.trans t12 (by simp)
       refine hK.out _ _ hS2 (fun _ => ?_)
       clear hK K hS t12
       have hS := hS2
       clear hS2
       try simp only [Act.put, sT, s0, sS]
       refine tkH 13 (.bool true) ?_
       refine tkH 14 (.bool true) ?_
       refine tkH 15 (.pointer (some ⟨h, 6, none⟩)) ?_
       refine tkH 16 (.int .i64 0) ?_
       refine tkH 17 (.pointer (some ⟨h, 6, none⟩)) ?_
       refine tkH 18 (.pointer (some ⟨h, 12, none⟩)) ?_
       refine tkH 19 (.pointer (some ⟨h, 12, none⟩)) ?_
       refine tkH 20 (.slice aB k cB) ?_ (hy := Or.inl ⟨by rfl, fun w' hw => by (have q := hw.cell cL (by simp); go_simp)⟩)
       refine tkH 21 (.slice (some ⟨bl, o1, none⟩) n cap) ?_
       refine tkH 22 (.int .i64 (i : Nat)) ?_
       refine tkH 23 (.pointer (some ⟨bl, o1 + i * 17, none⟩)) ?_
       refine tkH 24 (.agg x.cells.toArray) ?_ (hy := Or.inl ⟨by rfl, fun w' hw => exec_load_agg _ 40 _ rfl _ _ rfl x.cells _ (hw.range HRW.out (by simp)) Tryz.underlying40 rfl (by rw [size31, HLX.out])⟩)
       refine wpAnyH_ready (rs := [25]) (by kernel_rfl) (by simp) ?_
       refine cnH rfl (fun K hK => ?_) AllReadyH.nil
       go_simp
       refine (rhasB _ bB A0 x false HIN.out _ (by rw [← HBF.out]; exact HRB.out.touch hS (by simp))).mono ?_
       rintro e w25 ⟨rfl, t25⟩
       have hS2 := hS.trans t25 (by simp)
       refine hK.out _ _ hS2 (fun _ => ?_)
       clear hK K hS t25
       have hS := hS2
       clear hS2
       try simp only [Act.put, sT, s0, sS]
       refine tkH 26 (.bool true) ?_
       refine tkH 27 (.bool true) ?_
       refine wpAnyH_done (by kernel_rfl) ?_ _
       try simp only [Act.put, sT, s0, sS]
       clear cL cx
       have HT3 := Lib.hid hS
       have HQ3 := Lib.hid (HQW.out.touch0 HT3.out)
       have HX3 := Lib.hid (HT3.out.range HRW.out (by simp))
       have HTT := Lib.hid (HTW.out.trans (RStep.of0 HT3.out))
       clear hS
       go_wp2_with fail
       refine wp_region_F (S := Touch vb.ownBlock.toList w25.drew) [17] (by kernel_rfl) ?_
       change wpAnyF _ _ _ _ _ _ _ _ _ w25.drew
       have HQX := Lib.hid (HQ3.out.touch0 ((Touch.refl [] w25).drew))
       have HRX3 := Lib.hid (((Touch.refl [] w25).drew).range HX3.out (by simp))
       have HTX := Lib.hid (HTT.out.trans (RStep.of0 ((Touch.refl [] w25).drew)))
       generalize w25.drew = X at *
       have hS := Touch.refl vb.ownBlock.toList X
       have cL : X.cell? ⟨h, 12, none⟩ = some (.slice aB k cB) := by rw [← HBF.out]; exact HQX.out.at 12 _ rfl
       have hhb : h ∉ vb.ownBlock.toList := by intro hm; exact HQX.out.apart 0 1 (by decide) h (by simp [rpart]) (by simpa [rpart] using hm)
       have HO := Lib.hid (show OwnA w0 X vb A0 from HQX.out.ov4)
       have hzX : w0.heap.size ≤ X.heap.size := by have h1 := HTX.out.t.size; have h2 := HHZ.out; omega
       have hl1 : (A0.length + 1) * 17 ≤ 140737488355328 := by have := HL16.out; omega
       refine wpAnyF_takeT (i := 0) (oi := { dst := some 68, op := Op.move (Operand.tmp 0), type := 127, pos := "ref.go:180", after := #[], guard := none }) (v := .pointer (some ⟨h, 6, none⟩)) rfl (by kernel_rfl) (by kernel_rfl) (by kernel_rfl) (by kernel_rfl) (by kernel_rfl) (fun _ _ _ h => h) (Or.inl ⟨by rfl, fun w' hw => by go_simp⟩) hS ?_
       try simp only [Act.put, sT, s0, sS]
       refine wpAnyF_takeT (i := 1) (oi := { dst := some 69, op := Op.move (Operand.tmp 10), type := 3, pos := "ref.go:180", after := #[], guard := none }) (v := .int .i64 0) rfl (by kernel_rfl) (by kernel_rfl) (by kernel_rfl) (by kernel_rfl) (by kernel_rfl) (fun _ _ _ h => h) (Or.inl ⟨by rfl, fun w' hw => by go_simp⟩) hS ?_
       try simp only [Act.put, sT, s0, sS]
       refine wpAnyF_takeT (i := 2) (oi := { dst := some 70, op := Op.move (Operand.tmp 0), type := 127, pos := "ref.go:180", after := #[], guard := none }) (v := .pointer (some ⟨h, 6, none⟩)) rfl (by kernel_rfl) (by kernel_rfl) (by kernel_rfl) (by kernel_rfl) (by kernel_rfl) (fun _ _ _ h => h) (Or.inl ⟨by rfl, fun w' hw => by go_simp⟩) hS ?_
       try simp only [Act.put, sT, s0, sS]
       refine wpAnyF_takeT (i := 3) (oi := { dst := some 71, op := Op.move (Operand.tmp 10), type := 3, pos := "ref.go:180", after := #[], guard := none }) (v := .int .i64 0) rfl (by kernel_rfl) (by kernel_rfl) (by kernel_rfl) (by kernel_rfl) (by kernel_rfl) (fun _ _ _ h => h) (Or.inl ⟨by rfl, fun w' hw => by go_simp⟩) hS ?_
       try simp only [Act.put, sT, s0, sS]
       refine wpAnyF_takeT (i := 4) (oi := { dst := some 72, op := Op.nilCheck (Operand.tmp 70), type := 0, pos := "ref.go:180", after := #[{ on := 2, ground := Ground.data }], guard := none }) (v := .pointer (some ⟨h, 6, none⟩)) rfl (by kernel_rfl) (by kernel_rfl) (by kernel_rfl) (by kernel_rfl) (by kernel_rfl) (fun _ _ _ h => h) (Or.inl ⟨by rfl, fun w' hw => by go_simp⟩) hS ?_
       try simp only [Act.put, sT, s0, sS]
       refine wpAnyF_takeT (i := 5) (oi := { dst := some 73, op := Op.fieldAddr 70 (Operand.tmp 72) 4, type := 0, pos := "ref.go:180", after := #[{ on := 4, ground := Ground.data }], guard := none }) (v := .pointer (some ⟨h, 12, none⟩)) rfl (by kernel_rfl) (by kernel_rfl) (by kernel_rfl) (by kernel_rfl) (by kernel_rfl) (fun _ _ _ h => h) (Or.inl ⟨by rfl, fun w' hw => by go_simp⟩) hS ?_
       try simp only [Act.put, sT, s0, sS]
       refine wpAnyF_takeT (i := 6) (oi := { dst := some 74, op := Op.indexAddr 68 (Operand.tmp 73) (Operand.tmp 71), type := 0, pos := "ref.go:180", after := #[{ on := 5, ground := Ground.data }, { on := 3, ground := Ground.data }], guard := none }) (v := .pointer (some ⟨h, 12, none⟩)) rfl (by kernel_rfl) (by kernel_rfl) (by kernel_rfl) (by kernel_rfl) (by kernel_rfl) (fun _ _ _ h => h) (Or.inl ⟨by rfl, fun w' hw => by go_simp⟩) hS ?_
       try simp only [Act.put, sT, s0, sS]
       refine wpAnyF_takeT (i := 7) (oi := { dst := some 75, op := Op.load 35 (Operand.tmp 74), type := 35, pos := "ref.go:180", after := #[{ on := 6, ground := Ground.data }], guard := none }) (v := .slice aB k cB) rfl (by kernel_rfl) (by kernel_rfl) (by kernel_rfl) (by kernel_rfl) (by kernel_rfl) (fun _ _ _ h => h) (Or.inl ⟨by rfl, fun w' hw => by (have q := hw.cell cL hhb; go_simp)⟩) hS ?_
       try simp only [Act.put, sT, s0, sS]
       refine wpAnyF_takeT (i := 8) (oi := { dst := some 76, op := Op.move (Operand.tmp 3), type := 35, pos := "ref.go:180", after := #[], guard := none }) (v := .slice (some ⟨bl, o1, none⟩) n cap) rfl (by kernel_rfl) (by kernel_rfl) (by kernel_rfl) (by kernel_rfl) (by kernel_rfl) (fun _ _ _ h => h) (Or.inl ⟨by rfl, fun w' hw => by go_simp⟩) hS ?_
       try simp only [Act.put, sT, s0, sS]
       refine wpAnyF_takeT (i := 9) (oi := { dst := some 77, op := Op.move (Operand.tmp 11), type := 3, pos := "ref.go:180", after := #[], guard := none }) (v := .int .i64 (i : Nat)) rfl (by kernel_rfl) (by kernel_rfl) (by kernel_rfl) (by kernel_rfl) (by kernel_rfl) (fun _ _ _ h => h) (Or.inl ⟨by rfl, fun w' hw => by go_simp⟩) hS ?_
       try simp only [Act.put, sT, s0, sS]
       refine wpAnyF_takeT (i := 10) (oi := { dst := some 78, op := Op.indexAddr 35 (Operand.tmp 76) (Operand.tmp 77), type := 0, pos := "ref.go:180", after := #[{ on := 8, ground := Ground.data }, { on := 9, ground := Ground.data }], guard := none }) (v := .pointer (some ⟨bl, o1 + i * 17, none⟩)) rfl (by kernel_rfl) (by kernel_rfl) (by kernel_rfl) (by kernel_rfl) (by kernel_rfl) (fun _ _ _ h => h) (Or.inl ⟨by rfl, fun w' hw => by go_simp⟩) hS ?_
       try simp only [Act.put, sT, s0, sS]
       refine wpAnyF_takeT (i := 11) (oi := { dst := some 79, op := Op.load 40 (Operand.tmp 78), type := 40, pos := "ref.go:180", after := #[{ on := 10, ground := Ground.data }], guard := none }) (v := .agg x.cells.toArray) rfl (by kernel_rfl) (by kernel_rfl) (by kernel_rfl) (by kernel_rfl) (by kernel_rfl) (fun _ _ _ h => h) (Or.inl ⟨by rfl, fun w' hw => exec_load_agg _ 40 _ rfl _ _ rfl x.cells _ (hw.range HRX3.out HBN.out) Tryz.underlying40 rfl (by rw [size31, HLX.out])⟩) hS ?_
       try simp only [Act.put, sT, s0, sS]
       refine wpAnyF_takeT (i := 14) (oi := { dst := some 82, op := Op.nilCheck (Operand.tmp 68), type := 0, pos := "ref.go:180", after := #[{ on := 0, ground := Ground.data }], guard := none }) (v := .pointer (some ⟨h, 6, none⟩)) rfl (by kernel_rfl) (by kernel_rfl) (by kernel_rfl) (by kernel_rfl) (by kernel_rfl) (fun _ _ _ h => h) (Or.inl ⟨by rfl, fun w' hw => by go_simp⟩) hS ?_
       try simp only [Act.put, sT, s0, sS]
       refine wpAnyF_takeT (i := 15) (oi := { dst := some 83, op := Op.fieldAddr 70 (Operand.tmp 82) 4, type := 0, pos := "ref.go:180", after := #[{ on := 14, ground := Ground.data }], guard := none }) (v := .pointer (some ⟨h, 12, none⟩)) rfl (by kernel_rfl) (by kernel_rfl) (by kernel_rfl) (by kernel_rfl) (by kernel_rfl) (fun _ _ _ h => h) (Or.inl ⟨by rfl, fun w' hw => by go_simp⟩) hS ?_
       try simp only [Act.put, sT, s0, sS]
       refine wpAnyF_ready (rs := [12]) (by kernel_rfl) (by simp) ?_
       refine cnF rfl (fun K hK => ?_) AllReadyF.nil
       refine step_of_list rfl ?_
       refine wpList_build_ad rfl _ rfl x (by rfl) ?_
       have r6 := rd_newA X x 40
       have tA := (Touch.refl [] X).alloc (.cells [x.cells].flatten.toArray 40)
       have hS2 := hS.trans tA (by simp)
       have hO6 := (show OwnA w0 _ vb A0 from Own.touch HO.out tA (by simp))
       have zA : (X.alloc (.cells [x.cells].flatten.toArray 40)).heap.size = X.heap.size + 1 := by simp
       refine ⟨rfl, hK.out _ _ hS2 (fun _ => ?_)⟩
       clear hK K hS
       have hS := hS2
       clear hS2
       generalize hX1 : X.alloc (.cells [x.cells].flatten.toArray 40) = X1 at *
       clear hX1
       try simp only [Act.put, sT, s0, sS]
       refine wpAnyF_ready (rs := [13]) (by kernel_rfl) (by simp) ?_
       refine cnF rfl (fun K hK => ?_) AllReadyF.nil
       refine step_of_list rfl ?_
       refine wpList_app_ads w0 X1 rfl _ _ rfl vb A0 (by rw [HBF.out]; rfl) hO6 (by omega) _ _ [x] rfl r6 (by simp only [List.length_singleton]; exact hl1) ?_
       intro v7 w7 o7 t7 h7
       have hS2 := hS.trans t7 (fun y hy => .inl hy)
       refine ⟨rfl, hK.out _ _ hS2 (fun _ => ?_)⟩
       clear hK K hS
       have hS := hS2
       clear hS2
       try simp only [Act.put, sT, s0, sS]
       refine wpAnyF_takeT (i := 16) (oi := { dst := some 84, op := Op.indexAddr 68 (Operand.tmp 83) (Operand.tmp 69), type := 0, pos := "ref.go:180", after := #[{ on := 15, ground := Ground.data }, { on := 1, ground := Ground.data }, { on := 0, ground := Ground.phase }, { on := 1, ground := Ground.phase }, { on := 2, ground := Ground.phase }, { on := 3, ground := Ground.phase }, { on := 4, ground := Ground.phase }, { on := 5, ground := Ground.phase }, { on := 6, ground := Ground.phase }, { on := 7, ground := Ground.phase }, { on := 8, ground := Ground.phase }, { on := 9, ground := Ground.phase }, { on := 10, ground := Ground.phase }, { on := 11, ground := Ground.phase }, { on := 12, ground := Ground.phase }, { on := 13, ground := Ground.phase }], guard := none }) (v := .pointer (some ⟨h, 12, none⟩)) rfl (by kernel_rfl) (by kernel_rfl) (by kernel_rfl) (by kernel_rfl) (by kernel_rfl) (fun _ _ _ h => h) (Or.inl ⟨by rfl, fun w' hw => by go_simp⟩) hS ?_
       try simp only [Act.put, sT, s0, sS]
       refine wpAnyF_ready (rs := [17]) (by kernel_rfl) (by simp) ?_
       refine clF rfl (by simp) (fun K hK => ?_) AllReadyF.nil
       have q1 := hS.cell cL hhb
       have g0 : w7.frozen? ⟨h, 12, none⟩ = false := by simp [World.frozen?, hS.at HQX.out.cell hhb]
       obtain ⟨a7, c7', hv7, _, _, _⟩ := o7.form
       have h8 : v7.ownBlock = vb.ownBlock ∨ ∃ k, v7.ownBlock = some k ∧ X.heap.size ≤ k := by rcases h7 with e | e; exact .inl e; exact .inr ⟨_, e, by omega⟩
       have HPU := HQX.out.set_v4 hS o7 (by simp; have := HL16.out; omega) h8
       have HFIN := Lib.hid (show Rdl w0 (w7.setCell ⟨h, 12, none⟩ v7) h { b with v4 := v7 } { s with p := { s.p with q4 := ⟨s.p.q4.a, s.p.q4.t, A0 ++ [x]⟩ } } T ∧ RStep w (w7.setCell ⟨h, 12, none⟩ v7) h b { b with v4 := v7 } from ⟨HPU.1, HTX.out.trans (RStep.own (b' := { b with v4 := v7 }) 1 HPU.2 (fun j hj => by match j, hj with | 0, _ => rfl | 1, hj => exact absurd rfl hj | 2, _ => rfl | 3, _ => rfl | 4, _ => rfl | 5, _ => rfl | 6, _ => rfl | 7, _ => rfl | _ + 8, _ => rfl) (own_new h8))⟩)
       clear HPU h7 t7 h8
       rw [List.length_append, List.length_singleton] at hv7
       subst hv7
       go_simp
       refine hK.out _ _ ?_
       clear hK K
       try simp only [Act.put, sT, s0, sS]
       refine wpAnyF_done (by kernel_rfl) ?_ _
       try simp only [Act.put, sT, s0, sS]
       go_wp2_with fail
       go_roundw
       case rel => exact ⟨i + 1, _, by omega, by go_num, by rw [HS.out]; exact HFIN.out.1, HFIN.out.2⟩
       case measure => simp [intOf]; omega
   ·have HFI := Lib.hid (show ansL false s.p.q4.l l = ansL false s.p.q4.l (l.take i) from ansL_stop _ _ _ _ (by rw [← HK.out]; exact hk16))
    have hk17 : (16 : Int) ≤ (k : Int) := by omega
    have hin2 : (i : Int) < (n : Int) := by omega
    have HMK := Lib.hid (fun (W : World) (D : Rdl w0 W h { b with v4 := vb } { s with p := { s.p with q4 := ⟨s.p.q4.a, s.p.q4.t, ansL false s.p.q4.l (l.take i)⟩ } } T) => D.mark4 now HNW.out)
    go_wp2_with fail
    clear cL
    refine wp_region_held (S := Touch [h] wr.drew) (by kernel_rfl) ?_
    change wpAnyH _ _ _ _ _ _ _ _ wr.drew
    have HQW := Lib.hid (HQI.out.touch0 ((Touch.refl [] wr).drew))
    have HTW := Lib.hid (HT.out.trans (RStep.of0 ((Touch.refl [] wr).drew)))
    generalize wr.drew = W at *
    have hS := Touch.refl [h] W
    have cA : W.cell? ⟨h, 8, none⟩ = _ := HQW.out.at 8 _ rfl
    have cB2 : W.cell? ⟨h, 10, none⟩ = _ := HQW.out.at 10 _ rfl
    have fA := HQW.out.free 8
    have fB := HQW.out.free 10
    refine tkH 0 (.pointer (some ⟨h, 6, none⟩)) ?_
    refine tkH 1 (.int .i64 0) ?_
    refine tkH 2 (.pointer (some ⟨h, 6, none⟩)) ?_
    refine tkH 3 (.int .i64 0) ?_
    refine tkH 4 (.int .u64 now) ?_
    refine tkH 5 (.pointer (some ⟨h, 6, none⟩)) ?_
    refine tkH 6 (.pointer (some ⟨h, 8, none⟩)) ?_
    refine tkH 7 (.pointer (some ⟨h, 8, none⟩)) ?_
    refine tkH 9 (.pointer (some ⟨h, 6, none⟩)) ?_
    refine tkH 10 (.pointer (some ⟨h, 10, none⟩)) ?_
    refine wpAnyH_ready (rs := [8]) (by kernel_rfl) (by simp) ?_
    refine cnH rfl (fun K hK => ?_) AllReadyH.nil
    have hS2 := hS.setCell (p := ⟨h, 8, none⟩) (.inl (by simp)) (.bool true)
    go_simp
    refine hK.out _ _ hS2 (fun _ => ?_)
    clear hK K hS
    have hS := hS2
    clear hS2
    try simp only [Act.put, sT, s0, sS]
    refine tkH 11 (.pointer (some ⟨h, 10, none⟩)) ?_
    refine wpAnyH_ready (rs := [12]) (by kernel_rfl) (by simp) ?_
    refine cnH rfl (fun K hK => ?_) AllReadyH.nil
    have hS2 := hS.setCell (p := ⟨h, 10, none⟩) (.inl (by simp)) (.int .u64 now)
    have HMM := HMK.out W HQW.out
    have HFIN := Lib.hid (And.intro HMM.1 (HTW.out.trans (RStep.here (b := { b with v4 := vb }) HMM.2)))
    go_simp
    refine hK.out _ _ hS2 (fun _ => ?_)
    clear hK K hS HMM
    have hS := hS2
    clear hS2
    try simp only [Act.put, sT, s0, sS]
    refine wpAnyH_done (by kernel_rfl) ?_ _
    try simp only [Act.put, sT, s0, sS]
    clear cA cB2 fA fB hS
    generalize (W.setCell ⟨h, 8, none⟩ (.bool true)).setCell ⟨h, 10, none⟩ (.int .u64 now) = w12 at *
    have cL : w12.cell? ⟨h, 12, none⟩ = some (.slice aB k cB) := by rw [← HBF.out]; exact HFIN.out.1.at 12 _ rfl
    go_wp2_with fail
    go_ret2
    refine ⟨_, by rw [HFI.out, ← HK.out]; first | done | rfl, ?_, HFIN.out.2⟩
    rw [HFI.out]
    exact HFIN.out.1
  ·have HFI := Lib.hid (show ansL false s.p.q4.l l = ansL false s.p.q4.l (l.take i) by rw [List.take_of_length_le (by rw [← HN.out]; omega)])
   have HMK := Lib.hid (fun (W : World) (D : Rdl w0 W h { b with v4 := vb } { s with p := { s.p with q4 := ⟨s.p.q4.a, s.p.q4.t, ansL false s.p.q4.l (l.take i)⟩ } } T) => D.mark4 now HNW.out)
   go_wp2_with fail
   clear cL
   refine wp_region_held (S := Touch [h] wr.drew) (by kernel_rfl) ?_
   change wpAnyH _ _ _ _ _ _ _ _ wr.drew
   have HQW := Lib.hid (HQI.out.touch0 ((Touch.refl [] wr).drew))
   have HTW := Lib.hid (HT.out.trans (RStep.of0 ((Touch.refl [] wr).drew)))
   generalize wr.drew = W at *
   have hS := Touch.refl [h] W
   have cA : W.cell? ⟨h, 8, none⟩ = _ := HQW.out.at 8 _ rfl
   have cB2 : W.cell? ⟨h, 10, none⟩ = _ := HQW.out.at 10 _ rfl
   have fA := HQW.out.free 8
   have fB := HQW.out.free 10
   refine tkH 0 (.pointer (some ⟨h, 6, none⟩)) ?_
   refine tkH 1 (.int .i64 0) ?_
   refine tkH 2 (.pointer (some ⟨h, 6, none⟩)) ?_
   refine tkH 3 (.int .i64 0) ?_
   refine tkH 4 (.int .u64 now) ?_
   refine tkH 5 (.pointer (some ⟨h, 6, none⟩)) ?_
   refine tkH 6 (.pointer (some ⟨h, 8, none⟩)) ?_
   refine tkH 7 (.pointer (some ⟨h, 8, none⟩)) ?_
   refine tkH 9 (.pointer (some ⟨h, 6, none⟩)) ?_
   refine tkH 10 (.pointer (some ⟨h, 10, none⟩)) ?_
   refine wpAnyH_ready (rs := [8]) (by kernel_rfl) (by simp) ?_
   refine cnH rfl (fun K hK => ?_) AllReadyH.nil
   have hS2 := hS.setCell (p := ⟨h, 8, none⟩) (.inl (by simp)) (.bool true)
   go_simp
   refine hK.out _ _ hS2 (fun _ => ?_)
   clear hK K hS
   have hS := hS2
   clear hS2
   try simp only [Act.put, sT, s0, sS]
   refine tkH 11 (.pointer (some ⟨h, 10, none⟩)) ?_
   refine wpAnyH_ready (rs := [12]) (by kernel_rfl) (by simp) ?_
   refine cnH rfl (fun K hK => ?_) AllReadyH.nil
   have hS2 := hS.setCell (p := ⟨h, 10, none⟩) (.inl (by simp)) (.int .u64 now)
   have HMM := HMK.out W HQW.out
   have HFIN := Lib.hid (And.intro HMM.1 (HTW.out.trans (RStep.here (b := { b with v4 := vb }) HMM.2)))
   go_simp
   refine hK.out _ _ hS2 (fun _ => ?_)
   clear hK K hS HMM
   have hS := hS2
   clear hS2
   try simp only [Act.put, sT, s0, sS]
   refine wpAnyH_done (by kernel_rfl) ?_ _
   try simp only [Act.put, sT, s0, sS]
   clear cA cB2 fA fB hS
   generalize (W.setCell ⟨h, 8, none⟩ (.bool true)).setCell ⟨h, 10, none⟩ (.int .u64 now) = w12 at *
   have cL : w12.cell? ⟨h, 12, none⟩ = some (.slice aB k cB) := by rw [← HBF.out]; exact HFIN.out.1.at 12 _ rfl
   go_wp2_with fail
   go_ret2
   refine ⟨_, by rw [HFI.out, ← HK.out]; first | done | rfl, ?_, HFIN.out.2⟩
   rw [HFI.out]
   exact HFIN.out.1
set_option maxRecDepth 100000 in
set_option maxHeartbeats 400000 in
theorem rpansD6 (w0 w : World) (h : Nat) (b : RV) (s : DS) (T : List Ad) (d : Rdl w0 w h b s T) (now : Int) (v : Value) (hr : s.p.canc = false) (ha : s.p.q6.a = true) :
  Calls Tryz.prog 63 #[.pointer (some ⟨h, 6, none⟩), .int .u64 now, .bool true, v] w fun e w' => e = .returned (.tuple #[.int .i64 0, .int .i64 5]) ∧ w = w' := by
 have c7 := d.at 7 _ rfl
 have c8 := d.at 9 _ rfl
 rw [hr] at c7
 rw [ha] at c8
 clear d hr ha
 go_enter Tryz.func63, Tryz.ntmps63
 go_wp2_with fail
 refine (rfam6 w).mono ?_
 rintro e _ ⟨rfl, rfl⟩
 go_wp2_with fail
 go_ret2
 exact ⟨rfl, rfl⟩
set_option maxRecDepth 100000 in
set_option maxHeartbeats 8000000 in
theorem rpans6 (w0 w : World) (h : Nat) (b : RV) (s : DS) (T : List Ad) (d : Rdl w0 w h b s T) (hz : w0.heap.size ≤ w.heap.size) (now : Int) (hnow : 0 ≤ now ∧ now ≤ maxT) (hr : s.p.canc = false) (ha : s.p.q6.a = false) (v : Value) (bl : Nat) (l : List Ad) (hv : Rd w 17 bl v (l.map Ad.cells)) (hb : l ≠ [] → bl ∉ rfoot h b) :
  Calls Tryz.prog 63 #[.pointer (some ⟨h, 6, none⟩), .int .u64 now, .bool true, v] w fun e w' => ∃ b', e = .returned (.tuple #[.int .i64 ((ansL true s.p.q6.l l).length : Nat), .int .i64 0]) ∧ Rdl w0 w' h b' { s with p := { s.p with q6 := ⟨true, now, ansL true s.p.q6.l l⟩ } } T ∧ RStep w w' h b b' := by
 obtain ⟨a, cap, rfl, hlc, hcm⟩ := hv.form
 simp only [List.length_map] at *
 obtain ⟨n, hn⟩ : ∃ n, n = l.length := ⟨_, rfl⟩
 have HN := Lib.hid hn
 have HV := Lib.hid hv
 have HHB := Lib.hid hb
 have c7 := d.at 7 _ rfl
 have c8 := d.at 9 _ rfl
 rw [hr] at c7
 rw [ha] at c8
 have HD := Lib.hid d
 have hn16 := d.n6
 have hnL : n ≤ 9223372036854775807 := by unfold maxLen at hcm; omega
 have HHZ := Lib.hid hz
 have HNW := Lib.hid hnow
 rw [← hn] at HV ⊢
 clear hv hn hlc hcm hb d hr ha hnow hz
 go_enter Tryz.func63, Tryz.ntmps63
 go_wp2_with fail
 refine (rfam6 w).mono ?_
 rintro e _ ⟨rfl, rfl⟩
 go_wp2_with fail
 clear c7 c8
 go_loopw [11] (fun vi wr => ∃ (i : Nat) (vb : Value), i ≤ n ∧ vi = .int .i64 i ∧ Rdl w0 wr h { b with v6 := vb } { s with p := { s.p with q6 := ⟨s.p.q6.a, s.p.q6.t, ansL true s.p.q6.l (l.take i)⟩ } } T ∧ RStep w wr h b { b with v6 := vb }) (fun vi _ => n - (intOf vi).toNat)
 case atStart => exact ⟨0, b.v6, by omega, rfl, by rw [List.take_zero]; exact HD.out, RStep.of0 (Touch.refl _ _)⟩
 case round =>
  obtain ⟨i, vb, hin, rfl, hq, ht⟩ := hrel
  have HQI := Lib.hid hq
  have HT := Lib.hid ht
  have hlen : (ansL true s.p.q6.l (l.take i)).length ≤ 16 := ansL_len hn16
  obtain ⟨aB, cB, hvbf, hlB, hcB, _⟩ := (show OwnA w0 wr vb (ansL true s.p.q6.l (l.take i)) from hq.ov6).form
  have HBF := Lib.hid hvbf
  obtain ⟨k, hk⟩ : ∃ k, k = (ansL true s.p.q6.l (l.take i)).length := ⟨_, rfl⟩
  have HK := Lib.hid hk
  rw [← hk] at hlB HBF hlen
  have cL : wr.cell? ⟨h, 13, none⟩ = some (.slice aB k cB) := by rw [← HBF.out]; exact hq.at 13 _ rfl
  clear hq ht hvbf hk
  by_cases hlt : i < n
  ·by_cases hk16 : k < 16
   ·have hk17 : (k : Int) < 16 := by omega
    obtain ⟨x, hx⟩ : ∃ x, l[i]? = some x := ⟨_, List.getElem?_eq_getElem (by rw [← HN.out]; exact hlt)⟩
    obtain ⟨o1, rfl, hat1⟩ := HV.out.at (by intro e; rw [List.map_eq_nil_iff] at e; rw [e] at hx; simp at hx)
    have hbn := HHB.out (by intro e; rw [e] at hx; simp at hx)
    have hbw : bl < w.heap.size := by
     have h0 := World.block_lt_of_cell? w _ (hat1 i x.cells (by simp [hx]) 0 _ (List.getElem?_eq_getElem (by rw [x.len]; omega)))
     exact h0
    have r1 := HT.out.t.range (hat1 i x.cells (by simp [hx])) hbn
    have HBN := Lib.hid (show bl ∉ vb.ownBlock.toList from fun hm => by
     rcases HT.out.n bl (mem_rfoot.2 ⟨2, by simpa [rpart] using hm⟩) with e | e
     ·exact hbn e
     ·omega)
    have HLX := Lib.hid x.len
    have HST := Lib.hid (ansL_step true s.p.q6.l l i x hx)
    have hwi : IntKind.i64.wrap ((i : Int) + 1) = (i : Int) + 1 := by rw [IntKind.wrap_i64] <;> omega
    have hin2 : (i : Int) < (n : Int) := by omega
    have HRX := Lib.hid r1
    have HL16 := Lib.hid (show (ansL true s.p.q6.l (l.take i)).length < 16 by rw [← HK.out]; exact hk16)
    clear hx hat1 hbn r1 hk16 hbw
    go_wp2_with fail
    clear cL
    generalize hA0 : ansL true s.p.q6.l (l.take i) = A0 at *
    clear hA0
    cases hfam : decide (x.b = true) with
    | false =>
     have HS := Lib.hid (show ansL true s.p.q6.l (l.take (i + 1)) = A0 by rw [HST.out]; unfold ansS; rw [if_neg (by intro h; rw [decide_eq_false_iff_not] at hfam; exact hfam h.1)])
     have HXB := Lib.hid (show x.b = false by cases hxb : x.b <;> simp [hxb] at hfam <;> rfl)
     clear hfam
     refine wp_region_held (S := Touch [] wr.drew) (by kernel_rfl) ?_
     change wpAnyH _ _ _ _ _ _ _ _ wr.drew
     have HQW := Lib.hid (HQI.out.touch0 ((Touch.refl [] wr).drew))
     have HRW := Lib.hid (((Touch.refl [] wr).drew).range HRX.out (by simp))
     have HTW := Lib.hid (HT.out.trans (RStep.of0 ((Touch.refl [] wr).drew)))
     generalize wr.drew = W at *
     have hS := Touch.refl [] W
     have cL : W.cell? ⟨h, 13, none⟩ = some (.slice aB k cB) := by rw [← HBF.out]; exact HQW.out.at 13 _ rfl
     have cx : W.cell? ⟨bl, o1 + i * 17, none⟩ = some (.bool false) := by rw [← HXB.out]; simpa using HRW.out 0 (.bool x.b) rfl
     obtain ⟨bB, hrB, _⟩ := (show OwnA w0 W vb A0 from HQW.out.ov6).rd
     have HRB := Lib.hid hrB
     clear hrB
     refine tkH 0 (.slice (some ⟨bl, o1, none⟩) n cap) ?_
     refine tkH 1 (.int .i64 (i : Nat)) ?_
     refine tkH 2 (.pointer (some ⟨bl, o1 + i * 17, none⟩)) ?_
     refine tkH 3 (.pointer (some ⟨bl, o1 + i * 17, none⟩)) ?_
     refine tkH 4 (.bool false) ?_ (hy := Or.inl ⟨by rfl, fun w' hw => by (have q := hw.cell cx (by simp); go_simp)⟩)
     refine tkH 5 (.bool true) ?_
     refine tkH 6 (.bool false) ?_
     refine tkH 7 (.bool false) ?_
     refine tkN 8 undef ?_
     refine tkN 9 undef ?_
     refine tkN 10 undef ?_
     refine tkN 11 undef ?_
     refine tkN 12 undef ?_
     refine tkH 13 (.bool false) ?_
     refine tkH 14 (.bool false) ?_
     refine tkN 15 undef ?_
     refine tkN 16 undef ?_
     refine tkN 17 undef ?_
     refine tkN 18 undef ?_
     refine tkN 19 undef ?_
     refine tkN 20 undef ?_
     refine tkN 21 undef ?_
     refine tkN 22 undef ?_
     refine tkN 23 undef ?_
     refine tkN 24 undef ?_
     refine tkN 25 undef ?_
     refine tkN 26 undef ?_
     refine tkH 27 (.bool false) ?_
     refine wpAnyH_done (by kernel_rfl) ?_ _
     try simp only [Act.put, sT, s0, sS]
     clear cL cx
     have HT3 := Lib.hid (hS)
     clear hS
     go_wp2_with fail
     go_roundw
     case rel => exact ⟨i + 1, vb, by omega, by go_num, by rw [HS.out]; exact HQW.out.touch0 HT3.out, HTW.out.trans (RStep.of0 HT3.out)⟩
     case measure => simp [intOf]; omega
    | true =>
     have HXB := Lib.hid (show x.b = true by simpa using hfam)
     clear hfam
     cases hval : x.valid with
     | false =>
      have HVL := Lib.hid (rvalidB x false hval)
      have HS := Lib.hid (show ansL true s.p.q6.l (l.take (i + 1)) = A0 by rw [HST.out]; unfold ansS; rw [if_neg (by intro h; rw [hval] at h; simp at h)])
      clear hval
      refine wp_region_held (S := Touch [] wr.drew) (by kernel_rfl) ?_
      change wpAnyH _ _ _ _ _ _ _ _ wr.drew
      have HQW := Lib.hid (HQI.out.touch0 ((Touch.refl [] wr).drew))
      have HRW := Lib.hid (((Touch.refl [] wr).drew).range HRX.out (by simp))
      have HTW := Lib.hid (HT.out.trans (RStep.of0 ((Touch.refl [] wr).drew)))
      generalize wr.drew = W at *
      have hS := Touch.refl [] W
      have cL : W.cell? ⟨h, 13, none⟩ = some (.slice aB k cB) := by rw [← HBF.out]; exact HQW.out.at 13 _ rfl
      have cx : W.cell? ⟨bl, o1 + i * 17, none⟩ = some (.bool true) := by rw [← HXB.out]; simpa using HRW.out 0 (.bool x.b) rfl
      obtain ⟨bB, hrB, _⟩ := (show OwnA w0 W vb A0 from HQW.out.ov6).rd
      have HRB := Lib.hid hrB
      clear hrB
      refine tkH 0 (.slice (some ⟨bl, o1, none⟩) n cap) ?_
      refine tkH 1 (.int .i64 (i : Nat)) ?_
      refine tkH 2 (.pointer (some ⟨bl, o1 + i * 17, none⟩)) ?_
      refine tkH 3 (.pointer (some ⟨bl, o1 + i * 17, none⟩)) ?_
      refine tkH 4 (.bool true) ?_ (hy := Or.inl ⟨by rfl, fun w' hw => by (have q := hw.cell cx (by simp); go_simp)⟩)
      refine tkH 5 (.bool true) ?_
      refine tkH 6 (.bool true) ?_
      refine tkH 7 (.bool true) ?_
      refine tkH 8 (.slice (some ⟨bl, o1, none⟩) n cap) ?_
      refine tkH 9 (.int .i64 (i : Nat)) ?_
      refine tkH 10 (.pointer (some ⟨bl, o1 + i * 17, none⟩)) ?_
      refine tkH 11 (.agg x.cells.toArray) ?_ (hy := Or.inl ⟨by rfl, fun w' hw => exec_load_agg _ 40 _ rfl _ _ rfl x.cells _ (hw.range HRW.out (by simp)) Tryz.underlying40 rfl (by rw [size31, HLX.out])⟩)
      refine wpAnyH_ready (rs := [12]) (by kernel_rfl) (by simp) ?_
      refine cnH rfl (fun K hK => ?_) AllReadyH.nil
      go_simp
      refine (HVL.out _).mono ?_
      rintro e w12 ⟨rfl, t12⟩
      have hS2 := hS.trans t12 (by simp)
      refine hK.out _ _ hS2 (fun _ => ?_)
      clear hK K hS t12
      have hS := hS2
      clear hS2
      try simp only [Act.put, sT, s0, sS]
      refine tkH 13 (.bool false) ?_
      refine tkH 14 (.bool false) ?_
      refine tkN 15 undef ?_
      refine tkN 16 undef ?_
      refine tkN 17 undef ?_
      refine tkN 18 undef ?_
      refine tkN 19 undef ?_
      refine tkN 20 undef ?_
      refine tkN 21 undef ?_
      refine tkN 22 undef ?_
      refine tkN 23 undef ?_
      refine tkN 24 undef ?_
      refine tkN 25 undef ?_
      refine tkN 26 undef ?_
      refine tkH 27 (.bool false) ?_
      refine wpAnyH_done (by kernel_rfl) ?_ _
      try simp only [Act.put, sT, s0, sS]
      clear cL cx
      have HT3 := Lib.hid (hS)
      clear hS
      go_wp2_with fail
      go_roundw
      case rel => exact ⟨i + 1, vb, by omega, by go_num, by rw [HS.out]; exact HQW.out.touch0 HT3.out, HTW.out.trans (RStep.of0 HT3.out)⟩
      case measure => simp [intOf]; omega
     | true =>
      have HVL := Lib.hid (rvalidB x true hval)
      cases hin2 : inL A0 x with
      | true =>
       have HS := Lib.hid (show ansL true s.p.q6.l (l.take (i + 1)) = A0 by rw [HST.out]; unfold ansS; rw [if_neg (by intro h; rw [hin2] at h; simp at h)])
       have HIN := Lib.hid hin2
       clear hval hin2
       refine wp_region_held (S := Touch [] wr.drew) (by kernel_rfl) ?_
       change wpAnyH _ _ _ _ _ _ _ _ wr.drew
       have HQW := Lib.hid (HQI.out.touch0 ((Touch.refl [] wr).drew))
       have HRW := Lib.hid (((Touch.refl [] wr).drew).range HRX.out (by simp))
       have HTW := Lib.hid (HT.out.trans (RStep.of0 ((Touch.refl [] wr).drew)))
       generalize wr.drew = W at *
       have hS := Touch.refl [] W
       have cL : W.cell? ⟨h, 13, none⟩ = some (.slice aB k cB) := by rw [← HBF.out]; exact HQW.out.at 13 _ rfl
       have cx : W.cell? ⟨bl, o1 + i * 17, none⟩ = some (.bool true) := by rw [← HXB.out]; simpa using HRW.out 0 (.bool x.b) rfl
       obtain ⟨bB, hrB, _⟩ := (show OwnA w0 W vb A0 from HQW.out.ov6).rd
       have HRB := Lib.hid hrB
       clear hrB
       refine tkH 0 (.slice (some ⟨bl, o1, none⟩) n cap) ?_
       refine tkH 1 (.int .i64 (i : Nat)) ?_
       refine tkH 2 (.pointer (some ⟨bl, o1 + i * 17, none⟩)) ?_
       refine tkH 3 (.pointer (some ⟨bl, o1 + i * 17, none⟩)) ?_
       refine tkH 4 (.bool true) ?_ (hy := Or.inl ⟨by rfl, fun w' hw => by (have q := hw.cell cx (by simp); go_simp)⟩)
       refine tkH 5 (.bool true) ?_
       refine tkH 6 (.bool true) ?_
       refine tkH 7 (.bool true) ?_
       refine tkH 8 (.slice (some ⟨bl, o1, none⟩) n cap) ?_
       refine tkH 9 (.int .i64 (i : Nat)) ?_
       refine tkH 10 (.pointer (some ⟨bl, o1 + i * 17, none⟩)) ?_
       refine tkH 11 (.agg x.cells.toArray) ?_ (hy := Or.inl ⟨by rfl, fun w' hw => exec_load_agg _ 40 _ rfl _ _ rfl x.cells _ (hw.range HRW.out (by simp)) Tryz.underlying40 rfl (by rw [size31, HLX.out])⟩)
       refine wpAnyH_ready (rs := [12]) (by kernel_rfl) (by simp) ?_
       refine cnH rfl (fun K hK => ?_) AllReadyH.nil
       go_simp
       refine (HVL.out _).mono ?_
       rintro e w12 ⟨rfl, t12⟩
       have hS2 := hS.trans t12 (by simp)
       refine hK.out _ _ hS2 (fun _ => ?_)
       clear hK K hS t12
       have hS := hS2
       clear hS2
       try simp only [Act.put, sT, s0, sS]
       refine tkH 13 (.bool true) ?_
       refine tkH 14 (.bool true) ?_
       refine tkH 15 (.pointer (some ⟨h, 6, none⟩)) ?_
       refine tkH 16 (.int .i64 1) ?_
       refine tkH 17 (.pointer (some ⟨h, 6, none⟩)) ?_
       refine tkH 18 (.pointer (some ⟨h, 12, none⟩)) ?_
       refine tkH 19 (.pointer (some ⟨h, 13, none⟩)) ?_
       refine tkH 20 (.slice aB k cB) ?_ (hy := Or.inl ⟨by rfl, fun w' hw => by (have q := hw.cell cL (by simp); go_simp)⟩)
       refine tkH 21 (.slice (some ⟨bl, o1, none⟩) n cap) ?_
       refine tkH 22 (.int .i64 (i : Nat)) ?_
       refine tkH 23 (.pointer (some ⟨bl, o1 + i * 17, none⟩)) ?_
       refine tkH 24 (.agg x.cells.toArray) ?_ (hy := Or.inl ⟨by rfl, fun w' hw => exec_load_agg _ 40 _ rfl _ _ rfl x.cells _ (hw.range HRW.out (by simp)) Tryz.underlying40 rfl (by rw [size31, HLX.out])⟩)
       refine wpAnyH_ready (rs := [25]) (by kernel_rfl) (by simp) ?_
       refine cnH rfl (fun K hK => ?_) AllReadyH.nil
       go_simp
       refine (rhasB _ bB A0 x true HIN.out _ (by rw [← HBF.out]; exact HRB.out.touch hS (by simp))).mono ?_
       rintro e w25 ⟨rfl, t25⟩
       have hS2 := hS.trans t25 (by simp)
       refine hK.out _ _ hS2 (fun _ => ?_)
       clear hK K hS t25
       have hS := hS2
       clear hS2
       try simp only [Act.put, sT, s0, sS]
       refine tkH 26 (.bool false) ?_
       refine tkH 27 (.bool false) ?_
       refine wpAnyH_done (by kernel_rfl) ?_ _
       try simp only [Act.put, sT, s0, sS]
       clear cL cx
       have HT3 := Lib.hid (hS)
       clear hS
       go_wp2_with fail
       go_roundw
       case rel => exact ⟨i + 1, vb, by omega, by go_num, by rw [HS.out]; exact HQW.out.touch0 HT3.out, HTW.out.trans (RStep.of0 HT3.out)⟩
       case measure => simp [intOf]; omega
      | false =>
       have HS := Lib.hid (show ansL true s.p.q6.l (l.take (i + 1)) = A0 ++ [x] by rw [HST.out]; unfold ansS; rw [if_pos ⟨HXB.out, hval, HL16.out, hin2⟩])
       have HIN := Lib.hid hin2
       clear hval hin2
       refine wp_region_held (S := Touch [] wr.drew) (by kernel_rfl) ?_
       change wpAnyH _ _ _ _ _ _ _ _ wr.drew
       have HQW := Lib.hid (HQI.out.touch0 ((Touch.refl [] wr).drew))
       have HRW := Lib.hid (((Touch.refl [] wr).drew).range HRX.out (by simp))
       have HTW := Lib.hid (HT.out.trans (RStep.of0 ((Touch.refl [] wr).drew)))
       generalize wr.drew = W at *
       have hS := Touch.refl [] W
       have cL : W.cell? ⟨h, 13, none⟩ = some (.slice aB k cB) := by rw [← HBF.out]; exact HQW.out.at 13 _ rfl
       have cx : W.cell? ⟨bl, o1 + i * 17, none⟩ = some (.bool true) := by rw [← HXB.out]; simpa using HRW.out 0 (.bool x.b) rfl
       obtain ⟨bB, hrB, _⟩ := (show OwnA w0 W vb A0 from HQW.out.ov6).rd
       have HRB := Lib.hid hrB
       clear hrB
       refine tkH 0 (.slice (some ⟨bl, o1, none⟩) n cap) ?_
       refine tkH 1 (.int .i64 (i : Nat)) ?_
       refine tkH 2 (.pointer (some ⟨bl, o1 + i * 17, none⟩)) ?_
       refine tkH 3 (.pointer (some ⟨bl, o1 + i * 17, none⟩)) ?_
       refine tkH 4 (.bool true) ?_ (hy := Or.inl ⟨by rfl, fun w' hw => by (have q := hw.cell cx (by simp); go_simp)⟩)
       refine tkH 5 (.bool true) ?_
       refine tkH 6 (.bool true) ?_
       refine tkH 7 (.bool true) ?_
       refine tkH 8 (.slice (some ⟨bl, o1, none⟩) n cap) ?_
       refine tkH 9 (.int .i64 (i : Nat)) ?_
       refine tkH 10 (.pointer (some ⟨bl, o1 + i * 17, none⟩)) ?_
       refine tkH 11 (.agg x.cells.toArray) ?_ (hy := Or.inl ⟨by rfl, fun w' hw => exec_load_agg _ 40 _ rfl _ _ rfl x.cells _ (hw.range HRW.out (by simp)) Tryz.underlying40 rfl (by rw [size31, HLX.out])⟩)
       refine wpAnyH_ready (rs := [12]) (by kernel_rfl) (by simp) ?_
       refine cnH rfl (fun K hK => ?_) AllReadyH.nil
       go_simp
       refine (HVL.out _).mono ?_
       rintro e w12 ⟨rfl, t12⟩
       have hS2 := hS.trans t12 (by simp)
       refine hK.out _ _ hS2 (fun _ => ?_)
       clear hK K hS t12
       have hS := hS2
       clear hS2
       try simp only [Act.put, sT, s0, sS]
       refine tkH 13 (.bool true) ?_
       refine tkH 14 (.bool true) ?_
       refine tkH 15 (.pointer (some ⟨h, 6, none⟩)) ?_
       refine tkH 16 (.int .i64 1) ?_
       refine tkH 17 (.pointer (some ⟨h, 6, none⟩)) ?_
       refine tkH 18 (.pointer (some ⟨h, 12, none⟩)) ?_
       refine tkH 19 (.pointer (some ⟨h, 13, none⟩)) ?_
       refine tkH 20 (.slice aB k cB) ?_ (hy := Or.inl ⟨by rfl, fun w' hw => by (have q := hw.cell cL (by simp); go_simp)⟩)
       refine tkH 21 (.slice (some ⟨bl, o1, none⟩) n cap) ?_
       refine tkH 22 (.int .i64 (i : Nat)) ?_
       refine tkH 23 (.pointer (some ⟨bl, o1 + i * 17, none⟩)) ?_
       refine tkH 24 (.agg x.cells.toArray) ?_ (hy := Or.inl ⟨by rfl, fun w' hw => exec_load_agg _ 40 _ rfl _ _ rfl x.cells _ (hw.range HRW.out (by simp)) Tryz.underlying40 rfl (by rw [size31, HLX.out])⟩)
       refine wpAnyH_ready (rs := [25]) (by kernel_rfl) (by simp) ?_
       refine cnH rfl (fun K hK => ?_) AllReadyH.nil
       go_simp
       refine (rhasB _ bB A0 x false HIN.out _ (by rw [← HBF.out]; exact HRB.out.touch hS (by simp))).mono ?_
       rintro e w25 ⟨rfl, t25⟩
       have hS2 := hS.trans t25 (by simp)
       refine hK.out _ _ hS2 (fun _ => ?_)
       clear hK K hS t25
       have hS := hS2
       clear hS2
       try simp only [Act.put, sT, s0, sS]
       refine tkH 26 (.bool true) ?_
       refine tkH 27 (.bool true) ?_
       refine wpAnyH_done (by kernel_rfl) ?_ _
       try simp only [Act.put, sT, s0, sS]
       clear cL cx
       have HT3 := Lib.hid hS
       have HQ3 := Lib.hid (HQW.out.touch0 HT3.out)
       have HX3 := Lib.hid (HT3.out.range HRW.out (by simp))
       have HTT := Lib.hid (HTW.out.trans (RStep.of0 HT3.out))
       clear hS
       go_wp2_with fail
       refine wp_region_F (S := Touch vb.ownBlock.toList w25.drew) [17] (by kernel_rfl) ?_
       change wpAnyF _ _ _ _ _ _ _ _ _ w25.drew
       have HQX := Lib.hid (HQ3.out.touch0 ((Touch.refl [] w25).drew))
       have HRX3 := Lib.hid (((Touch.refl [] w25).drew).range HX3.out (by simp))
       have HTX := Lib.hid (HTT.out.trans (RStep.of0 ((Touch.refl [] w25).drew)))
       generalize w25.drew = X at *
       have hS := Touch.refl vb.ownBlock.toList X
       have cL : X.cell? ⟨h, 13, none⟩ = some (.slice aB k cB) := by rw [← HBF.out]; exact HQX.out.at 13 _ rfl
       have hhb : h ∉ vb.ownBlock.toList := by intro hm; exact HQX.out.apart 0 2 (by decide) h (by simp [rpart]) (by simpa [rpart] using hm)
       have HO := Lib.hid (show OwnA w0 X vb A0 from HQX.out.ov6)
       have hzX : w0.heap.size ≤ X.heap.size := by have h1 := HTX.out.t.size; have h2 := HHZ.out; omega
       have hl1 : (A0.length + 1) * 17 ≤ 140737488355328 := by have := HL16.out; omega
       refine wpAnyF_takeT (i := 0) (oi := { dst := some 68, op := Op.move (Operand.tmp 0), type := 127, pos := "ref.go:180", after := #[], guard := none }) (v := .pointer (some ⟨h, 6, none⟩)) rfl (by kernel_rfl) (by kernel_rfl) (by kernel_rfl) (by kernel_rfl) (by kernel_rfl) (fun _ _ _ h => h) (Or.inl ⟨by rfl, fun w' hw => by go_simp⟩) hS ?_
       try simp only [Act.put, sT, s0, sS]
       refine wpAnyF_takeT (i := 1) (oi := { dst := some 69, op := Op.move (Operand.tmp 10), type := 3, pos := "ref.go:180", after := #[], guard := none }) (v := .int .i64 1) rfl (by kernel_rfl) (by kernel_rfl) (by kernel_rfl) (by kernel_rfl) (by kernel_rfl) (fun _ _ _ h => h) (Or.inl ⟨by rfl, fun w' hw => by go_simp⟩) hS ?_
       try simp only [Act.put, sT, s0, sS]
       refine wpAnyF_takeT (i := 2) (oi := { dst := some 70, op := Op.move (Operand.tmp 0), type := 127, pos := "ref.go:180", after := #[], guard := none }) (v := .pointer (some ⟨h, 6, none⟩)) rfl (by kernel_rfl) (by kernel_rfl) (by kernel_rfl) (by kernel_rfl) (by kernel_rfl) (fun _ _ _ h => h) (Or.inl ⟨by rfl, fun w' hw => by go_simp⟩) hS ?_
       try simp only [Act.put, sT, s0, sS]
       refine wpAnyF_takeT (i := 3) (oi := { dst := some 71, op := Op.move (Operand.tmp 10), type := 3, pos := "ref.go:180", after := #[], guard := none }) (v := .int .i64 1) rfl (by kernel_rfl) (by kernel_rfl) (by kernel_rfl) (by kernel_rfl) (by kernel_rfl) (fun _ _ _ h => h) (Or.inl ⟨by rfl, fun w' hw => by go_simp⟩) hS ?_
       try simp only [Act.put, sT, s0, sS]
       refine wpAnyF_takeT (i := 4) (oi := { dst := some 72, op := Op.nilCheck (Operand.tmp 70), type := 0, pos := "ref.go:180", after := #[{ on := 2, ground := Ground.data }], guard := none }) (v := .pointer (some ⟨h, 6, none⟩)) rfl (by kernel_rfl) (by kernel_rfl) (by kernel_rfl) (by kernel_rfl) (by kernel_rfl) (fun _ _ _ h => h) (Or.inl ⟨by rfl, fun w' hw => by go_simp⟩) hS ?_
       try simp only [Act.put, sT, s0, sS]
       refine wpAnyF_takeT (i := 5) (oi := { dst := some 73, op := Op.fieldAddr 70 (Operand.tmp 72) 4, type := 0, pos := "ref.go:180", after := #[{ on := 4, ground := Ground.data }], guard := none }) (v := .pointer (some ⟨h, 12, none⟩)) rfl (by kernel_rfl) (by kernel_rfl) (by kernel_rfl) (by kernel_rfl) (by kernel_rfl) (fun _ _ _ h => h) (Or.inl ⟨by rfl, fun w' hw => by go_simp⟩) hS ?_
       try simp only [Act.put, sT, s0, sS]
       refine wpAnyF_takeT (i := 6) (oi := { dst := some 74, op := Op.indexAddr 68 (Operand.tmp 73) (Operand.tmp 71), type := 0, pos := "ref.go:180", after := #[{ on := 5, ground := Ground.data }, { on := 3, ground := Ground.data }], guard := none }) (v := .pointer (some ⟨h, 13, none⟩)) rfl (by kernel_rfl) (by kernel_rfl) (by kernel_rfl) (by kernel_rfl) (by kernel_rfl) (fun _ _ _ h => h) (Or.inl ⟨by rfl, fun w' hw => by go_simp⟩) hS ?_
       try simp only [Act.put, sT, s0, sS]
       refine wpAnyF_takeT (i := 7) (oi := { dst := some 75, op := Op.load 35 (Operand.tmp 74), type := 35, pos := "ref.go:180", after := #[{ on := 6, ground := Ground.data }], guard := none }) (v := .slice aB k cB) rfl (by kernel_rfl) (by kernel_rfl) (by kernel_rfl) (by kernel_rfl) (by kernel_rfl) (fun _ _ _ h => h) (Or.inl ⟨by rfl, fun w' hw => by (have q := hw.cell cL hhb; go_simp)⟩) hS ?_
       try simp only [Act.put, sT, s0, sS]
       refine wpAnyF_takeT (i := 8) (oi := { dst := some 76, op := Op.move (Operand.tmp 3), type := 35, pos := "ref.go:180", after := #[], guard := none }) (v := .slice (some ⟨bl, o1, none⟩) n cap) rfl (by kernel_rfl) (by kernel_rfl) (by kernel_rfl) (by kernel_rfl) (by kernel_rfl) (fun _ _ _ h => h) (Or.inl ⟨by rfl, fun w' hw => by go_simp⟩) hS ?_
       try simp only [Act.put, sT, s0, sS]
       refine wpAnyF_takeT (i := 9) (oi := { dst := some 77, op := Op.move (Operand.tmp 11), type := 3, pos := "ref.go:180", after := #[], guard := none }) (v := .int .i64 (i : Nat)) rfl (by kernel_rfl) (by kernel_rfl) (by kernel_rfl) (by kernel_rfl) (by kernel_rfl) (fun _ _ _ h => h) (Or.inl ⟨by rfl, fun w' hw => by go_simp⟩) hS ?_
       try simp only [Act.put, sT, s0, sS]
       refine wpAnyF_takeT (i := 10) (oi := { dst := some 78, op := Op.indexAddr 35 (Operand.tmp 76) (Operand.tmp 77), type := 0, pos := "ref.go:180", after := #[{ on := 8, ground := Ground.data }, { on := 9, ground := Ground.data }], guard := none }) (v := .pointer (some ⟨bl, o1 + i * 17, none⟩)) rfl (by kernel_rfl) (by kernel_rfl) (by kernel_rfl) (by kernel_rfl) (by kernel_rfl) (fun _ _ _ h => h) (Or.inl ⟨by rfl, fun w' hw => by go_simp⟩) hS ?_
       try simp only [Act.put, sT, s0, sS]
       refine wpAnyF_takeT (i := 11) (oi := { dst := some 79, op := Op.load 40 (Operand.tmp 78), type := 40, pos := "ref.go:180", after := #[{ on := 10, ground := Ground.data }], guard := none }) (v := .agg x.cells.toArray) rfl (by kernel_rfl) (by kernel_rfl) (by kernel_rfl) (by kernel_rfl) (by kernel_rfl) (fun _ _ _ h => h) (Or.inl ⟨by rfl, fun w' hw => exec_load_agg _ 40 _ rfl _ _ rfl x.cells _ (hw.range HRX3.out HBN.out) Tryz.underlying40 rfl (by rw [size31, HLX.out])⟩) hS ?_
       try simp only [Act.put, sT, s0, sS]
       refine wpAnyF_takeT (i := 14) (oi := { dst := some 82, op := Op.nilCheck (Operand.tmp 68), type := 0, pos := "ref.go:180", after := #[{ on := 0, ground := Ground.data }], guard := none }) (v := .pointer (some ⟨h, 6, none⟩)) rfl (by kernel_rfl) (by kernel_rfl) (by kernel_rfl) (by kernel_rfl) (by kernel_rfl) (fun _ _ _ h => h) (Or.inl ⟨by rfl, fun w' hw => by go_simp⟩) hS ?_
       try simp only [Act.put, sT, s0, sS]
       refine wpAnyF_takeT (i := 15) (oi := { dst := some 83, op := Op.fieldAddr 70 (Operand.tmp 82) 4, type := 0, pos := "ref.go:180", after := #[{ on := 14, ground := Ground.data }], guard := none }) (v := .pointer (some ⟨h, 12, none⟩)) rfl (by kernel_rfl) (by kernel_rfl) (by kernel_rfl) (by kernel_rfl) (by kernel_rfl) (fun _ _ _ h => h) (Or.inl ⟨by rfl, fun w' hw => by go_simp⟩) hS ?_
       try simp only [Act.put, sT, s0, sS]
       refine wpAnyF_ready (rs := [12]) (by kernel_rfl) (by simp) ?_
       refine cnF rfl (fun K hK => ?_) AllReadyF.nil
       refine step_of_list rfl ?_
       refine wpList_build_ad rfl _ rfl x (by rfl) ?_
       have r6 := rd_newA X x 40
       have tA := (Touch.refl [] X).alloc (.cells [x.cells].flatten.toArray 40)
       have hS2 := hS.trans tA (by simp)
       have hO6 := (show OwnA w0 _ vb A0 from Own.touch HO.out tA (by simp))
       have zA : (X.alloc (.cells [x.cells].flatten.toArray 40)).heap.size = X.heap.size + 1 := by simp
       refine ⟨rfl, hK.out _ _ hS2 (fun _ => ?_)⟩
       clear hK K hS
       have hS := hS2
       clear hS2
       generalize hX1 : X.alloc (.cells [x.cells].flatten.toArray 40) = X1 at *
       clear hX1
       try simp only [Act.put, sT, s0, sS]
       refine wpAnyF_ready (rs := [13]) (by kernel_rfl) (by simp) ?_
       refine cnF rfl (fun K hK => ?_) AllReadyF.nil
       refine step_of_list rfl ?_
       refine wpList_app_ads w0 X1 rfl _ _ rfl vb A0 (by rw [HBF.out]; rfl) hO6 (by omega) _ _ [x] rfl r6 (by simp only [List.length_singleton]; exact hl1) ?_
       intro v7 w7 o7 t7 h7
       have hS2 := hS.trans t7 (fun y hy => .inl hy)
       refine ⟨rfl, hK.out _ _ hS2 (fun _ => ?_)⟩
       clear hK K hS
       have hS := hS2
       clear hS2
       try simp only [Act.put, sT, s0, sS]
       refine wpAnyF_takeT (i := 16) (oi := { dst := some 84, op := Op.indexAddr 68 (Operand.tmp 83) (Operand.tmp 69), type := 0, pos := "ref.go:180", after := #[{ on := 15, ground := Ground.data }, { on := 1, ground := Ground.data }, { on := 0, ground := Ground.phase }, { on := 1, ground := Ground.phase }, { on := 2, ground := Ground.phase }, { on := 3, ground := Ground.phase }, { on := 4, ground := Ground.phase }, { on := 5, ground := Ground.phase }, { on := 6, ground := Ground.phase }, { on := 7, ground := Ground.phase }, { on := 8, ground := Ground.phase }, { on := 9, ground := Ground.phase }, { on := 10, ground := Ground.phase }, { on := 11, ground := Ground.phase }, { on := 12, ground := Ground.phase }, { on := 13, ground := Ground.phase }], guard := none }) (v := .pointer (some ⟨h, 13, none⟩)) rfl (by kernel_rfl) (by kernel_rfl) (by kernel_rfl) (by kernel_rfl) (by kernel_rfl) (fun _ _ _ h => h) (Or.inl ⟨by rfl, fun w' hw => by go_simp⟩) hS ?_
       try simp only [Act.put, sT, s0, sS]
       refine wpAnyF_ready (rs := [17]) (by kernel_rfl) (by simp) ?_
       refine clF rfl (by simp) (fun K hK => ?_) AllReadyF.nil
       have q1 := hS.cell cL hhb
       have g0 : w7.frozen? ⟨h, 13, none⟩ = false := by simp [World.frozen?, hS.at HQX.out.cell hhb]
       obtain ⟨a7, c7', hv7, _, _, _⟩ := o7.form
       have h8 : v7.ownBlock = vb.ownBlock ∨ ∃ k, v7.ownBlock = some k ∧ X.heap.size ≤ k := by rcases h7 with e | e; exact .inl e; exact .inr ⟨_, e, by omega⟩
       have HPU := HQX.out.set_v6 hS o7 (by simp; have := HL16.out; omega) h8
       have HFIN := Lib.hid (show Rdl w0 (w7.setCell ⟨h, 13, none⟩ v7) h { b with v6 := v7 } { s with p := { s.p with q6 := ⟨s.p.q6.a, s.p.q6.t, A0 ++ [x]⟩ } } T ∧ RStep w (w7.setCell ⟨h, 13, none⟩ v7) h b { b with v6 := v7 } from ⟨HPU.1, HTX.out.trans (RStep.own (b' := { b with v6 := v7 }) 2 HPU.2 (fun j hj => by match j, hj with | 0, _ => rfl | 1, _ => rfl | 2, hj => exact absurd rfl hj | 3, _ => rfl | 4, _ => rfl | 5, _ => rfl | 6, _ => rfl | 7, _ => rfl | _ + 8, _ => rfl) (own_new h8))⟩)
       clear HPU h7 t7 h8
       rw [List.length_append, List.length_singleton] at hv7
       subst hv7
       go_simp
       refine hK.out _ _ ?_
       clear hK K
       try simp only [Act.put, sT, s0, sS]
       refine wpAnyF_done (by kernel_rfl) ?_ _
       try simp only [Act.put, sT, s0, sS]
       go_wp2_with fail
       go_roundw
       case rel => exact ⟨i + 1, _, by omega, by go_num, by rw [HS.out]; exact HFIN.out.1, HFIN.out.2⟩
       case measure => simp [intOf]; omega
   ·have HFI := Lib.hid (show ansL true s.p.q6.l l = ansL true s.p.q6.l (l.take i) from ansL_stop _ _ _ _ (by rw [← HK.out]; exact hk16))
    have hk17 : (16 : Int) ≤ (k : Int) := by omega
    have hin2 : (i : Int) < (n : Int) := by omega
    have HMK := Lib.hid (fun (W : World) (D : Rdl w0 W h { b with v6 := vb } { s with p := { s.p with q6 := ⟨s.p.q6.a, s.p.q6.t, ansL true s.p.q6.l (l.take i)⟩ } } T) => D.mark6 now HNW.out)
    go_wp2_with fail
    clear cL
    refine wp_region_held (S := Touch [h] wr.drew) (by kernel_rfl) ?_
    change wpAnyH _ _ _ _ _ _ _ _ wr.drew
    have HQW := Lib.hid (HQI.out.touch0 ((Touch.refl [] wr).drew))
    have HTW := Lib.hid (HT.out.trans (RStep.of0 ((Touch.refl [] wr).drew)))
    generalize wr.drew = W at *
    have hS := Touch.refl [h] W
    have cA : W.cell? ⟨h, 9, none⟩ = _ := HQW.out.at 9 _ rfl
    have cB2 : W.cell? ⟨h, 11, none⟩ = _ := HQW.out.at 11 _ rfl
    have fA := HQW.out.free 9
    have fB := HQW.out.free 11
    refine tkH 0 (.pointer (some ⟨h, 6, none⟩)) ?_
    refine tkH 1 (.int .i64 1) ?_
    refine tkH 2 (.pointer (some ⟨h, 6, none⟩)) ?_
    refine tkH 3 (.int .i64 1) ?_
    refine tkH 4 (.int .u64 now) ?_
    refine tkH 5 (.pointer (some ⟨h, 6, none⟩)) ?_
    refine tkH 6 (.pointer (some ⟨h, 8, none⟩)) ?_
    refine tkH 7 (.pointer (some ⟨h, 9, none⟩)) ?_
    refine tkH 9 (.pointer (some ⟨h, 6, none⟩)) ?_
    refine tkH 10 (.pointer (some ⟨h, 10, none⟩)) ?_
    refine wpAnyH_ready (rs := [8]) (by kernel_rfl) (by simp) ?_
    refine cnH rfl (fun K hK => ?_) AllReadyH.nil
    have hS2 := hS.setCell (p := ⟨h, 9, none⟩) (.inl (by simp)) (.bool true)
    go_simp
    refine hK.out _ _ hS2 (fun _ => ?_)
    clear hK K hS
    have hS := hS2
    clear hS2
    try simp only [Act.put, sT, s0, sS]
    refine tkH 11 (.pointer (some ⟨h, 11, none⟩)) ?_
    refine wpAnyH_ready (rs := [12]) (by kernel_rfl) (by simp) ?_
    refine cnH rfl (fun K hK => ?_) AllReadyH.nil
    have hS2 := hS.setCell (p := ⟨h, 11, none⟩) (.inl (by simp)) (.int .u64 now)
    have HMM := HMK.out W HQW.out
    have HFIN := Lib.hid (And.intro HMM.1 (HTW.out.trans (RStep.here (b := { b with v6 := vb }) HMM.2)))
    go_simp
    refine hK.out _ _ hS2 (fun _ => ?_)
    clear hK K hS HMM
    have hS := hS2
    clear hS2
    try simp only [Act.put, sT, s0, sS]
    refine wpAnyH_done (by kernel_rfl) ?_ _
    try simp only [Act.put, sT, s0, sS]
    clear cA cB2 fA fB hS
    generalize (W.setCell ⟨h, 9, none⟩ (.bool true)).setCell ⟨h, 11, none⟩ (.int .u64 now) = w12 at *
    have cL : w12.cell? ⟨h, 13, none⟩ = some (.slice aB k cB) := by rw [← HBF.out]; exact HFIN.out.1.at 13 _ rfl
    go_wp2_with fail
    go_ret2
    refine ⟨_, by rw [HFI.out, ← HK.out]; first | done | rfl, ?_, HFIN.out.2⟩
    rw [HFI.out]
    exact HFIN.out.1
  ·have HFI := Lib.hid (show ansL true s.p.q6.l l = ansL true s.p.q6.l (l.take i) by rw [List.take_of_length_le (by rw [← HN.out]; omega)])
   have HMK := Lib.hid (fun (W : World) (D : Rdl w0 W h { b with v6 := vb } { s with p := { s.p with q6 := ⟨s.p.q6.a, s.p.q6.t, ansL true s.p.q6.l (l.take i)⟩ } } T) => D.mark6 now HNW.out)
   go_wp2_with fail
   clear cL
   refine wp_region_held (S := Touch [h] wr.drew) (by kernel_rfl) ?_
   change wpAnyH _ _ _ _ _ _ _ _ wr.drew
   have HQW := Lib.hid (HQI.out.touch0 ((Touch.refl [] wr).drew))
   have HTW := Lib.hid (HT.out.trans (RStep.of0 ((Touch.refl [] wr).drew)))
   generalize wr.drew = W at *
   have hS := Touch.refl [h] W
   have cA : W.cell? ⟨h, 9, none⟩ = _ := HQW.out.at 9 _ rfl
   have cB2 : W.cell? ⟨h, 11, none⟩ = _ := HQW.out.at 11 _ rfl
   have fA := HQW.out.free 9
   have fB := HQW.out.free 11
   refine tkH 0 (.pointer (some ⟨h, 6, none⟩)) ?_
   refine tkH 1 (.int .i64 1) ?_
   refine tkH 2 (.pointer (some ⟨h, 6, none⟩)) ?_
   refine tkH 3 (.int .i64 1) ?_
   refine tkH 4 (.int .u64 now) ?_
   refine tkH 5 (.pointer (some ⟨h, 6, none⟩)) ?_
   refine tkH 6 (.pointer (some ⟨h, 8, none⟩)) ?_
   refine tkH 7 (.pointer (some ⟨h, 9, none⟩)) ?_
   refine tkH 9 (.pointer (some ⟨h, 6, none⟩)) ?_
   refine tkH 10 (.pointer (some ⟨h, 10, none⟩)) ?_
   refine wpAnyH_ready (rs := [8]) (by kernel_rfl) (by simp) ?_
   refine cnH rfl (fun K hK => ?_) AllReadyH.nil
   have hS2 := hS.setCell (p := ⟨h, 9, none⟩) (.inl (by simp)) (.bool true)
   go_simp
   refine hK.out _ _ hS2 (fun _ => ?_)
   clear hK K hS
   have hS := hS2
   clear hS2
   try simp only [Act.put, sT, s0, sS]
   refine tkH 11 (.pointer (some ⟨h, 11, none⟩)) ?_
   refine wpAnyH_ready (rs := [12]) (by kernel_rfl) (by simp) ?_
   refine cnH rfl (fun K hK => ?_) AllReadyH.nil
   have hS2 := hS.setCell (p := ⟨h, 11, none⟩) (.inl (by simp)) (.int .u64 now)
   have HMM := HMK.out W HQW.out
   have HFIN := Lib.hid (And.intro HMM.1 (HTW.out.trans (RStep.here (b := { b with v6 := vb }) HMM.2)))
   go_simp
   refine hK.out _ _ hS2 (fun _ => ?_)
   clear hK K hS HMM
   have hS := hS2
   clear hS2
   try simp only [Act.put, sT, s0, sS]
   refine wpAnyH_done (by kernel_rfl) ?_ _
   try simp only [Act.put, sT, s0, sS]
   clear cA cB2 fA fB hS
   generalize (W.setCell ⟨h, 9, none⟩ (.bool true)).setCell ⟨h, 11, none⟩ (.int .u64 now) = w12 at *
   have cL : w12.cell? ⟨h, 13, none⟩ = some (.slice aB k cB) := by rw [← HBF.out]; exact HFIN.out.1.at 13 _ rfl
   go_wp2_with fail
   go_ret2
   refine ⟨_, by rw [HFI.out, ← HK.out]; first | done | rfl, ?_, HFIN.out.2⟩
   rw [HFI.out]
   exact HFIN.out.1
end Go.Proofs.YtiklhaajhdephaaGreatDoor

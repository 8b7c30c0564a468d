/-
  Merged texts: Vq, Vl, Kk, Ks, SortK, LayP, Sq, Kc, Li.
-/
import Derived.Test.YtmdnkhpkpmbeoaaV8
import Derived.Shelf.SlIterI.Collect
import Derived.Shelf.GgSortFunc.InsertionK
import Derived.Sort.OwnSorted
import Derived.Shelf.SlLaysF0
import Derived.Test.YtmdnkhpkpmbeoaaProg
import Derived.Shelf.SlSortCmp.NoneTotal

/-
  Validity and live endpoints: the program's steps as plain data are the reference's. No program in sight.
-/
namespace Go.Proofs.Ytmdnkhpkpmbeoaa
open Go.RowKit
set_option linter.unusedVariables false
set_option linter.unusedSimpArgs false

/-- The replay's state as plain data. -/
structure PS where
  live : List Key
  shut : List Key
  f : Int → List Int
def allowsQ (s : PS) (o : O) : Bool :=
  if o.k = 1 then !decide (epO o ∈ s.live)
  else if o.k = 4 then (decide (1 ≤ o.a) && !decide (o.a ∈ s.f o.c) && !decide (epO o ∈ s.live) && decide ((o.c, (0 : Int)) ∈ s.live))
  else if o.k = 3 ∨ o.k = 7 then decide (epO o ∈ s.live)
  else if o.k = 5 then (decide (epO o ∈ s.live) && !decide (epO o ∈ s.shut) && !o.d.toList.isEmpty)
  else if o.k = 6 then (decide (epO o ∈ s.live) && !decide (epO o ∈ s.shut))
  else decide (o.k = 2)
theorem allowsQ_eq (live shut : List Key) (A : List At) (o : O) : allowsP live shut A o = allowsQ ⟨live, shut, atL A⟩ o := rfl
def applyQ (s : PS) (o : O) : PS := ⟨applyL s.live o, applyS s.shut o, applyA s.f o⟩
def pstep (s : PS) (o : O) : Option PS := if allowsQ s o then some (applyQ s o) else none
def p0 : PS := ⟨[], [], fun _ => []⟩
def runP (l : List O) : Option PS := l.foldl (fun s o => s.bind fun s => pstep s o) (some p0)
def validP (l : List O) : Bool := (runP l).isSome
theorem runP_next {l : List O} {i : Nat} {o : O} (h : l[i]? = some o) : runP (l.take (i + 1)) = (runP (l.take i)).bind fun s => pstep s o := by
  rw [take_next h]
  simp [runP, List.foldl_append]
theorem foldlP_none : ∀ (l : List O), l.foldl (fun (s : Option PS) o => s.bind fun s => pstep s o) none = none
  | [] => rfl
  | o :: l => by simpa using foldlP_none l
theorem runP_none {l : List O} {i : Nat} (h : runP (l.take i) = none) : validP l = false := by
  have : runP l = none := by
    unfold runP at h ⊢
    rw [← List.take_append_drop i l, List.foldl_append, h]
    exact foldlP_none _
  simp [validP, this]
/-- The two states tell the same. -/
structure Same (s : PS) (r : RS) : Prop where
  live : s.live = r.live
  shut : s.shut = r.shut
  at_ : ∀ c a, a ∈ s.f c ↔ (c, a) ∈ r.opened
theorem remK_delS (l : List Key) (x : Key) : remK l x false = delS l x := by
  unfold remK delS
  refine List.filter_congr fun y _ => ?_
  by_cases h : y = x <;> simp [h]
theorem mem_remK {l : List Key} {x y : Key} {all : Bool} : y ∈ remK l x all ↔ y ∈ l ∧ y ≠ x ∧ ¬ (all = true ∧ y.1 = x.1) := by
  cases all <;> simp [remK]
theorem step_same {s : PS} {r : RS} (h : Same s r) (o : O) : (pstep s o = none ∧ rstep r o = none) ∨ ∃ s' r', pstep s o = some s' ∧ rstep r o = some r' ∧ Same s' r' := by
  obtain ⟨hl, hs, ha⟩ := h
  obtain ⟨live, shut, f⟩ := s
  obtain ⟨live', opened, shut'⟩ := r
  simp only at hl hs ha
  subst hl hs
  unfold pstep rstep allowsQ
  by_cases h1 : o.k = 1
  · have he : epO o = cK o := by simp [epO, h1, cK]
    simp only [h1, if_true, he]
    by_cases hm : cK o ∈ live
    · simp [hm]
    · right
      simp only [hm, decide_false, Bool.not_false, if_true, if_false]
      refine ⟨_, _, rfl, rfl, ?_, ?_, ?_⟩
      · simp [applyQ, applyL, h1, he, addS, hm]
      · simp [applyQ, applyS, h1, he, remK_delS]
      · intro c a
        rw [mem_remK]
        simp only [applyQ, applyA, h1, if_true]
        by_cases hc : c = o.c
        · simp [hc, cK]
        · simp only [hc, if_false]
          rw [ha]
          have h2 : ¬ (c, a) = cK o := fun e => hc (by simpa [cK] using congrArg Prod.fst e)
          simp [h2, cK, hc]
  by_cases h2 : o.k = 2
  · right
    simp only [h1, h2, if_true, if_false]
    refine ⟨applyQ ⟨live, shut, f⟩ o, ⟨live, opened, shut⟩, by simp, rfl, ?_, ?_, ?_⟩
    · simp [applyQ, applyL, h2]
    · simp [applyQ, applyS, h2]
    · intro c a
      simp [applyQ, applyA, h2, ha]
  by_cases h3 : o.k = 3
  · have he : epO o = cK o := by simp [epO, h3, cK]
    simp only [h1, h2, h3, if_true, if_false, he]
    by_cases hm : cK o ∈ live
    · right
      refine ⟨applyQ ⟨live, shut, f⟩ o, ⟨live, opened, shut⟩, by simp [hm], by simp [hm], ?_, ?_, ?_⟩
      · simp [applyQ, applyL, h3]
      · simp [applyQ, applyS, h3]
      · intro c a
        simp [applyQ, applyA, h3, ha]
    · left
      simp [hm]
  by_cases h4 : o.k = 4
  · have he : epO o = xK o := by simp [epO, h4, xK]
    have hf : o.a ∈ f o.c ↔ xK o ∈ opened := ha _ _
    simp only [h1, h2, h3, h4, if_true, if_false, he]
    by_cases hk : o.a < 1
    · left
      have : ¬ 1 ≤ o.a := by omega
      simp [hk, this]
    have hk1 : 1 ≤ o.a := by omega
    by_cases ho : xK o ∈ opened
    · left
      simp [ho, hf.2 ho]
    have hfo : ¬ o.a ∈ f o.c := fun e => ho (hf.1 e)
    by_cases hm : xK o ∈ live
    · left
      simp [hm]
    by_cases hc : cK o ∈ live
    · right
      have hc2 : (o.c, (0 : Int)) ∈ live := hc
      refine ⟨applyQ ⟨live, shut, f⟩ o, ⟨live ++ [xK o], opened ++ [xK o], remK shut (xK o) false⟩, by simp [hk1, hfo, hm, hc2], by simp [hk, ho, hm, hc], ?_, ?_, ?_⟩
      · simp [applyQ, applyL, h4, he, addS, hm]
      · simp [applyQ, applyS, h4, he, remK_delS]
      · intro c a
        simp only [applyQ, applyA, h4, List.mem_append, List.mem_singleton]
        by_cases hcc : c = o.c
        · subst hcc
          simp [addS, hfo, ha, xK]
        · simp [hcc, ha, xK]
    · left
      have hc2 : ¬ (o.c, (0 : Int)) ∈ live := hc
      simp [hc, hc2]
  by_cases h5 : o.k = 5
  · have he : epO o = xK o := by simp [epO, h5, xK]
    simp only [h1, h2, h3, h4, h5, if_true, if_false, he]
    by_cases hz : o.d = ⟨#[]⟩
    · left
      have : o.d.toList.isEmpty = true := by rw [hz]; simp
      simp [hz]
    have hz2 : o.d.toList.isEmpty = false := by
      cases hq : o.d.toList.isEmpty with
      | false => rfl
      | true => exact absurd ((str_nil _).1 (List.isEmpty_iff.1 hq)) hz
    by_cases hm : xK o ∈ live
    · by_cases hn : xK o ∈ shut
      · left
        simp [hm, hn]
      · right
        refine ⟨applyQ ⟨live, shut, f⟩ o, ⟨live, opened, shut⟩, by simp [hm, hn, hz2], by simp [hm, hn, hz], ?_, ?_, ?_⟩
        · simp [applyQ, applyL, h5]
        · simp [applyQ, applyS, h5]
        · intro c a
          simp [applyQ, applyA, h5, ha]
    · left
      simp [hm]
  by_cases h6 : o.k = 6
  · have he : epO o = xK o := by simp [epO, h6, xK]
    simp only [h1, h2, h3, h4, h5, h6, if_true, if_false, he]
    by_cases hm : xK o ∈ live
    · by_cases hn : xK o ∈ shut
      · left
        simp [hm, hn]
      · right
        refine ⟨applyQ ⟨live, shut, f⟩ o, ⟨live, opened, shut ++ [xK o]⟩, by simp [hm, hn], by simp [hm, hn], ?_, ?_, ?_⟩
        · simp [applyQ, applyL, h6]
        · simp [applyQ, applyS, h6, he, addS, hn]
        · intro c a
          simp [applyQ, applyA, h6, ha]
    · left
      simp [hm]
  by_cases h7 : o.k = 7
  · have he : epO o = xK o := by simp [epO, h7, xK]
    simp only [h1, h2, h3, h4, h5, h6, h7, if_true, if_false, he]
    by_cases hm : xK o ∈ live
    · right
      refine ⟨applyQ ⟨live, shut, f⟩ o, ⟨remK live (xK o) false, opened, shut⟩, by simp [hm], by simp [hm], ?_, ?_, ?_⟩
      · simp [applyQ, applyL, h7, he, remK_delS]
      · simp [applyQ, applyS, h7]
      · intro c a
        simp [applyQ, applyA, h7, ha]
    · left
      simp [hm]
  · left
    simp [h1, h2, h3, h4, h5, h6, h7]
theorem valid_same (l : List O) : validP l = validR l := by
  have key : ∀ (l : List O) (s : PS) (r : RS), Same s r → (l.foldl (fun s o => s.bind fun s => pstep s o) (some s)).isSome = (l.foldl (fun s o => s.bind fun s => rstep s o) (some r)).isSome := by
    intro l
    induction l with
    | nil => intro s r _; rfl
    | cons o l ih =>
      intro s r h
      simp only [List.foldl_cons, Option.bind_some]
      rcases step_same h o with ⟨h1, h2⟩ | ⟨s', r', h1, h2, h3⟩
      · rw [h1, h2, foldlP_none, foldl_none]
        rfl
      · rw [h1, h2]
        exact ih s' r' h3
  exact key l p0 ⟨[], [], []⟩ ⟨rfl, rfl, by simp [p0]⟩
/-- The live endpoints, in the map's own order. -/
def liveP (l : List O) : List Key := l.foldl applyL []
theorem liveP_next {l : List O} {i : Nat} {o : O} (h : l[i]? = some o) : liveP (l.take (i + 1)) = applyL (liveP (l.take i)) o := by
  rw [take_next h]
  simp [liveP, List.foldl_append]
theorem mem_insK {ks : List Key} {x y : Key} : y ∈ insK ks x ↔ y ∈ ks ∨ y = x := by
  have := List.take_append_drop (placeK ks x) ks
  constructor
  · intro h
    simp only [insK, List.mem_append, List.mem_singleton] at h
    rcases h with (h | h) | h
    · exact .inl (List.mem_of_mem_take h)
    · exact .inr h
    · exact .inl (List.mem_of_mem_drop h)
  · rintro (h | rfl)
    · rw [← this, List.mem_append] at h
      simp only [insK, List.mem_append, List.mem_singleton]
      rcases h with h | h
      · exact .inl (.inl h)
      · exact .inr h
    · simp [insK]
theorem ltK_trans {a b c : Key} (h1 : ltK a b) (h2 : ltK b c) : ltK a c := by
  unfold ltK at *
  omega
theorem ltK_irr {a b : Key} (h1 : ltK a b) (h2 : ltK b a) : False := by
  unfold ltK at *
  omega
theorem ltK_tot {a b : Key} (h1 : ¬ ltK a b) (h2 : a ≠ b) : ltK b a := by
  obtain ⟨a1, a2⟩ := a
  obtain ⟨b1, b2⟩ := b
  unfold ltK at *
  have h3 : ¬ (a1 = b1 ∧ a2 = b2) := fun h => h2 (by rw [h.1, h.2])
  simp only at *
  omega
theorem insK_sorted {ks : List Key} {x : Key} (h : ks.Pairwise ltK) (hx : x ∉ ks) : (insK ks x).Pairwise ltK := by
  unfold insK
  have hs := List.take_append_drop (placeK ks x) ks
  rw [← hs, List.pairwise_append] at h
  obtain ⟨h1, h2, h3⟩ := h
  have hlo : ∀ a ∈ ks.take (placeK ks x), ltK a x := by
    intro a ha
    obtain ⟨j, hj⟩ := List.mem_iff_getElem?.1 ha
    rw [List.getElem?_take] at hj
    split at hj
    · rename_i hjl
      exact placeK_lt ks x j a hjl hj
    · cases hj
  have hhi : ∀ a ∈ ks.drop (placeK ks x), ltK x a := by
    intro a ha
    cases hd : ks.drop (placeK ks x) with
    | nil => rw [hd] at ha; cases ha
    | cons b r =>
      have hb : ks[placeK ks x]? = some b := by
        have : (ks.drop (placeK ks x))[0]? = some b := by rw [hd]; rfl
        rw [List.getElem?_drop] at this
        simpa using this
      have hnb := placeK_ge ks x b hb
      have hbx : b ≠ x := fun e => hx (e ▸ List.mem_of_getElem? hb)
      have hxb := ltK_tot hnb hbx
      rw [hd] at ha h2
      rcases List.mem_cons.1 ha with rfl | ha
      · exact hxb
      · exact ltK_trans hxb ((List.pairwise_cons.1 h2).1 a ha)
  rw [List.append_assoc, List.pairwise_append]
  refine ⟨h1, ?_, ?_⟩
  · rw [List.singleton_append, List.pairwise_cons]
    exact ⟨hhi, h2⟩
  · intro a ha b hb
    rcases List.mem_cons.1 hb with rfl | hb
    · exact hlo a ha
    · exact ltK_trans (hlo a ha) (hhi b hb)
theorem live_same (l : List O) : (∀ x, x ∈ liveP l ↔ x ∈ liveR l) ∧ (liveP l).Nodup ∧ (liveR l).Pairwise ltK := by
  have key : ∀ (l : List O) (p r : List Key), (∀ x, x ∈ p ↔ x ∈ r) → p.Nodup → r.Pairwise ltK → (∀ x, x ∈ l.foldl applyL p ↔ x ∈ l.foldl lstep r) ∧ (l.foldl applyL p).Nodup ∧ (l.foldl lstep r).Pairwise ltK := by
    intro l
    induction l with
    | nil => intro p r h1 h2 h3; exact ⟨h1, h2, h3⟩
    | cons o l ih =>
      intro p r h1 h2 h3
      simp only [List.foldl_cons]
      have hadd : ∀ x, (∀ y, y ∈ addS p x ↔ y ∈ (if x ∈ r then r else insK r x)) ∧ (addS p x).Nodup ∧ (if x ∈ r then r else insK r x).Pairwise ltK := by
        intro x
        by_cases hx : x ∈ r
        · simp only [addS, (h1 x).2 hx, hx, if_true]
          exact ⟨h1, h2, h3⟩
        · have hxp : x ∉ p := fun e => hx ((h1 x).1 e)
          simp only [addS, hxp, hx, if_false]
          refine ⟨fun y => ?_, ?_, insK_sorted h3 hx⟩
          · rw [mem_insK, ← h1]
            simp
          · rw [List.nodup_append]
            exact ⟨h2, by simp, fun a ha b hb e => by simp at hb; subst hb; exact hxp (e ▸ ha)⟩
      by_cases h7 : o.k = 7
      · have he : xL o = epO o := by simp [xL, epO, h7]
        have ha : applyL p o = delS p (epO o) := by simp [applyL, h7]
        have hb : lstep r o = remK r (epO o) false := by simp [lstep, h7, he]
        rw [ha, hb, remK_delS]
        refine ih _ _ (fun x => ?_) (List.Sublist.nodup List.filter_sublist h2) (h3.sublist List.filter_sublist)
        simp [delS, h1]
      · by_cases h14 : o.k = 1 ∨ o.k = 4
        · have he : xL o = epO o := by
            rcases h14 with h | h <;> simp [xL, epO, h]
          have ha : applyL p o = addS p (epO o) := by simp [applyL, h14]
          have hb : lstep r o = if epO o ∈ r then r else insK r (epO o) := by simp only [lstep, h7, h14, he, if_true, if_false]
          rw [ha, hb]
          obtain ⟨q1, q2, q3⟩ := hadd (epO o)
          exact ih _ _ q1 q2 q3
        · have ha : applyL p o = p := by simp [applyL, h7, h14]
          have hb : lstep r o = r := by simp [lstep, h7, h14]
          rw [ha, hb]
          exact ih _ _ h1 h2 h3
  exact key l [] [] (by simp) (by simp) (by simp)
theorem perm_of_same {p r : List Key} (h : ∀ x, x ∈ p ↔ x ∈ r) (h1 : p.Nodup) (h2 : r.Nodup) : p.Perm r := (List.perm_ext_iff_of_nodup h1 h2).2 h
theorem ltK_nodup {r : List Key} (h : r.Pairwise ltK) : r.Nodup := h.imp fun {a b} hab e => by subst e; exact ltK_irr hab hab
end Go.Proofs.Ytmdnkhpkpmbeoaa

/-
  The program's Valid.
-/
namespace Go.Proofs.Ytmdnkhpkpmbeoaa
open Go.RowKit
set_option linter.unusedVariables false
set_option linter.unusedSimpArgs false

set_option maxRecDepth 100000 in
set_option maxHeartbeats 4000000 in
theorem valid_any (v : Value) (b : Nat) (l : List O) (w : World) (hr : Rd w 23 b v (rO l)) (hok : ∀ o ∈ l, OkO o) (hl : l.length ≤ 1000000) :
    Calls Try.prog 15 #[v] w fun e w' => e = .returned (.bool (validR l)) ∧ Touch [] w w' := by
  rw [← valid_same]
  obtain ⟨a, cap, rfl, hc, hcm⟩ := hr.form
  rw [rO_len] at hc hr ⊢
  clear hcm
  go_enter Try.func15, Try.ntmps15
  go_wp2_with fail
  refine (newr_any _).mono ?_
  rintro e w1 ⟨g, ml, ms, ma, rfl, hp⟩
  have HP := Lib.hid hp
  clear hp
  go_wp2_with fail
  go_loopw [9] (fun vi wr => ∃ (i : Nat) (live shut : List Key) (A : List At), vi = .int .i64 i ∧ i ≤ l.length ∧ runP (l.take i) = some ⟨live, shut, atL A⟩ ∧ Rp w wr g ml ms ma live shut A) (fun vi _ => l.length - (intOf vi).toNat)
  case atStart => exact ⟨0, [], [], [], rfl, by omega, rfl, HP.out⟩
  case round =>
    obtain ⟨i, live, shut, A, rfl, hil, hrun, hp⟩ := hrel
    have HR := Lib.hid hp
    have HRUN := Lib.hid hrun
    clear hp hrun
    by_cases hlt : i < l.length
    · have hb1 : (i : Int) < (l.length : Int) := by omega
      have hx2 := List.getElem?_eq_getElem hlt
      have OKI := Lib.hid (hok _ (List.getElem_mem hlt))
      generalize l[i] = o at hx2 OKI
      obtain ⟨off, rfl, rI⟩ := (hr.touch HR.out.tt (by simp)).atO hx2
      have HX := Lib.hid (show runP (l.take (i + 1)) = pstep ⟨live, shut, atL A⟩ o by rw [runP_next hx2, HRUN.out]; rfl)
      have hwi : IntKind.i64.wrap ((i : Int) + 1) = (i : Int) + 1 := by rw [IntKind.wrap_i64] <;> omega
      have tb := (Touch.refl [] wr).alloc (.cells (encO o).toArray 36)
      have RBX := Lib.hid (range_block (heap_alloc_new wr (.cells (encO o).toArray 36)))
      have HR1 := Lib.hid (HR.out.touch tb)
      clear hx2 HRUN tb
      go_wp2_with (first
          | ((with_reducible refine at_load 36 ?_); refine wpList_load_mid rfl 36 _ rfl b (off + i * 23) rfl (encO o) _ rI Try.underlying36 rfl (by rw [infoO, OKI.out.len]) ?_)
          | ((with_reducible refine at_store 36 ?_); refine wpList_store_new rfl 36 _ _ rfl _ _ (encO o) (by rfl) (by rfl) (by rw [OKI.out.len]; rfl) (by rw [infoO, OKI.out.len]) OKI.out.one ?_)
          | ((with_reducible refine at_load 36 ?_); refine wpList_load_mid rfl 36 _ rfl wr.heap.size (0) rfl (encO o) _ RBX.out Try.underlying36 rfl (by rw [infoO, OKI.out.len]) ?_))
      refine (allows_any o OKI.out HR1.out).mono ?_
      rintro e w3 ⟨rfl, t3⟩
      have HR2 := Lib.hid (HR1.out.touch t3)
      have RBX := Lib.hid (t3.range RBX.out (by simp))
      clear t3 rI
      rw [allowsQ_eq]
      cases hq : allowsQ ⟨live, shut, atL A⟩ o with
      | false =>
        have HE := Lib.hid (show validP l = false from runP_none (i := i + 1) (by rw [HX.out]; simp [pstep, hq]))
        clear HX hq
        go_wp2_with fail
        go_ret
        exact ⟨by rw [HE.out]; rfl, HR2.out.tt⟩
      | true =>
        have HE := Lib.hid (show runP (l.take (i + 1)) = some (applyQ ⟨live, shut, atL A⟩ o) by rw [HX.out]; simp [pstep, hq])
        clear HX hq
        go_wp2_with ((with_reducible refine at_load 36 ?_); refine wpList_load_mid rfl 36 _ rfl wr.heap.size (0) rfl (encO o) _ RBX.out Try.underlying36 rfl (by rw [infoO, OKI.out.len]) ?_)
        refine (apply_any o OKI.out HR2.out).mono ?_
        rintro e w4 ⟨rfl, A', hp, hat⟩
        have HP4 := Lib.hid hp
        have HAT := Lib.hid hat
        clear hp hat
        go_wp2_with fail
        go_roundw
        case rel => exact ⟨i + 1, _, _, A', by simp, by omega, by rw [HE.out]; simp only [applyQ]; congr 2; funext c; exact (HAT.out c).symm, HP4.out⟩
        case measure => simp [intOf]; omega
    · have hb1 : ¬ (i : Int) < (l.length : Int) := by omega
      have HE := Lib.hid (show validP l = true by
        have := HRUN.out
        rw [List.take_of_length_le (by omega)] at this
        simp [validP, this])
      go_wp2_with fail
      go_ret
      exact ⟨by rw [HE.out]; rfl, HR.out.tt⟩
end Go.Proofs.Ytmdnkhpkpmbeoaa

/-
  maps.Keys at a set of endpoints: what its iterator gives.
-/
namespace Go.Proofs.Ytmdnkhpkpmbeoaa
open Go.RowKit Go.Maps Go.Sort Go.Shelf
open Go.MapKept (Stamped)
set_option linter.unusedVariables false
set_option linter.unusedSimpArgs false

theorem grown_of_touch {w w' : World} {r : Nat} (t : Touch [r] w w') : w.grownBy w' (some r) := ⟨t.os, t.tape, t.output, t.size, fun k hk hne => t.block k hk (by simp; intro e; exact hne (by rw [e]))⟩
theorem grown_alloc (w : World) (o : Obj) : w.grownBy (w.alloc o) none := ⟨rfl, rfl, rfl, by simp, fun k hk _ => Below.heap_alloc _ _ _ hk⟩
section
variable {P : Program} {α : Type} [DecidableEq α] {enc : α → Value} {ok : α → Prop} {w : World} {b : Nat} {kv : List (α × Value)} {o : Oper} {ops : Array Oper} {rest : List Oper} {a : Act} {Q : Exit → Act → World → Prop} {F : Fence} {n : Nat} {k : TypeId} {es : Array MapEntry} {clock : Nat}
theorem wpListIn_range_mp (hg : o.guard = none) (m : Operand) (t : TypeId) (hop : o.op = Op.range t m) (e : TypeId) (ht : P.underlying t = some (.map k e)) (hm : a.eval m = .map (some b)) (h : MpE enc ok w b es clock kv)
    (hK : It (w.alloc (.mapIter (some b) clock #[] clock)) w.heap.size b es clock [] → wpListIn F n P ops Q rest (a.put o.dst (.pointer (some ⟨w.heap.size, 0, none⟩))) (w.alloc (.mapIter (some b) clock #[] clock))) : wpListIn F n P ops Q (o :: rest) a w := by
  refine wpListIn_plain hg fun K' hK' => ?_
  obtain ⟨hrun, hit⟩ := h.range ht
  unfold Oper.wpIn
  refine ⟨by simp [Oper.about, hop], ?_⟩
  rw [Oper.semAt_plain F _ _ (by rw [hop]; intro c hc'; cases hc')]
  simp [execOp, hop, hm, hrun, Result.andThen]
  exact hK' _ _ (hK hit)
theorem wpListIn_next_mp (hg : o.guard = none) (it : Operand) (hop : o.op = Op.next it false) {r : Nat} {S : List Nat} (hit : a.eval it = .pointer (some ⟨r, 0, none⟩)) (h : MpE enc ok w b es clock kv) (hi : It w r b es clock S) (hrb : r ≠ b)
    (hDone : (∀ j < kv.length, j ∈ S) → wpListIn F n P ops Q rest (a.put o.dst (.tuple #[.bool false])) w)
    (hMore : ∀ j p w', j ∉ S → kv[j]? = some p → Touch [r] w w' → w'.heap.size = w.heap.size → It w' r b es clock (S ++ [j]) → (Instr.entry (.pointer (some ⟨r, 0, none⟩))).run P w' = .ok (.tuple #[enc p.1, p.2]) w' →
      wpListIn F n P ops Q rest (a.put o.dst (.tuple #[.bool true, enc p.1, p.2])) w') : wpListIn F n P ops Q (o :: rest) a w := by
  refine wpListIn_plain hg fun K' hK' => ?_
  unfold Oper.wpIn
  refine ⟨by simp [Oper.about, hop], ?_⟩
  rw [Oper.semAt_plain F _ _ (by rw [hop]; intro c hc'; cases hc')]
  rcases h.next (P := P) hi hrb o.type with ⟨h0, hrun⟩ | ⟨j, p, w', h1, h2, hrun, h3, h4, h5, h6⟩
  · simp [execOp, hop, hit, hrun, Result.andThen]
    exact hK' _ _ (hDone h0)
  · simp [execOp, hop, hit, hrun, Result.andThen]
    exact hK' _ _ (hMore j p w' h1 h2 h3 h4 h5 h6)
end
theorem It.walks {w w' : World} {r b : Nat} {es : Array MapEntry} {clock : Nat} {S : List Nat} (h : It w r b es clock S) (k : KeepsWalks w w') : It w' r b es clock S := by
  obtain ⟨seen, h1, h2⟩ := h
  exact ⟨seen, k.same _ _ h1 rfl, h2⟩
theorem MpE.walks {α : Type} {enc : α → Value} {ok : α → Prop} {w w' : World} {b : Nat} {es : Array MapEntry} {clock : Nat} {kv : List (α × Value)} (h : MpE enc ok w b es clock kv) (k : KeepsWalks w w') : MpE enc ok w' b es clock kv := ⟨k.same _ _ h.blk rfl, h.st, h.eq, h.oks⟩
theorem left_lt {es : Array MapEntry} {clock : Nat} (hs : Stamped es clock) {seen seen' : Array Nat} {S : List Nat} {j : Nat} (h : ∀ i e, es[i]? = some e → (e.born ∈ seen.toList ↔ i ∈ S)) (h' : ∀ i e, es[i]? = some e → (e.born ∈ seen'.toList ↔ i ∈ S ++ [j])) (hj : j < es.size) (hjS : j ∉ S) : (leftOf es seen').size < (leftOf es seen).size := by
  have hje : es[j]? = some es[j] := Array.getElem?_eq_getElem hj
  have key : es.toList.filter (fun e => !seen'.contains e.born) = (es.toList.filter fun e => !seen.contains e.born).filter fun e => decide (e.born ≠ es[j].born) := by
    rw [List.filter_filter]
    refine List.filter_congr fun e he => ?_
    obtain ⟨i, hi⟩ := List.mem_iff_getElem?.1 he
    rw [Array.getElem?_toList] at hi
    have h1 := h i e hi
    have h2 := h' i e hi
    have h3 : e.born = es[j].born ↔ i = j := ⟨fun q => born_inj hs hi hje q, fun q => by subst q; rw [hje] at hi; cases hi; rfl⟩
    rw [Bool.eq_iff_iff]
    simp only [Bool.and_eq_true, Bool.not_eq_true', decide_eq_true_eq, ne_eq, h3, ← Bool.not_eq_true, Array.contains_iff_mem, ← Array.mem_toList_iff, h1, h2, List.mem_append, List.mem_singleton, not_or]
    exact And.comm
  have e1 : (leftOf es seen').size = (es.toList.filter fun e => !seen'.contains e.born).length := by
    unfold leftOf
    rw [← Array.length_toList, Array.toList_filter]
  have e2 : (leftOf es seen).size = (es.toList.filter fun e => !seen.contains e.born).length := by
    unfold leftOf
    rw [← Array.length_toList, Array.toList_filter]
  rw [e1, e2, key, List.length_filter_lt_length_iff_exists]
  refine ⟨es[j], List.mem_filter.2 ⟨by simp, ?_⟩, by simp⟩
  have h1 := h j _ hje
  simp only [Bool.not_eq_true', ← Bool.not_eq_true, Array.contains_iff_mem, ← Array.mem_toList_iff, h1]
  exact hjS
theorem It.left_lt {α : Type} {enc : α → Value} {ok : α → Prop} {w w' : World} {b r : Nat} {es : Array MapEntry} {clock : Nat} {kv : List (α × Value)} {S : List Nat} {j : Nat} (m : MpE enc ok w b es clock kv) (m' : MpE enc ok w' b es clock kv) (h : It w r b es clock S) (h' : It w' r b es clock (S ++ [j])) (hjS : j ∉ S) : w'.rangeLeft b r < w.rangeLeft b r := by
  obtain ⟨seen, a1, a2, _, _⟩ := h
  obtain ⟨seen', b1, b2, _, b4⟩ := h'
  simp only [World.rangeLeft, m.blk, m'.blk, a1, b1]
  exact Go.Proofs.Ytmdnkhpkpmbeoaa.left_lt m.st a2 b2 (b4 j (by simp)) hjS
set_option maxRecDepth 100000 in
set_option maxHeartbeats 2000000 in
theorem keys1_in (F : Fence) (n : Nat) (hf : F.fn 55) (hro : F.round = none) (hn : 1 ≤ n) (l Bm b : Nat) (ks : List Key) (J : List Key → World → Prop)
    (hY : ∀ pre x W, J pre W → pre.length < ks.length → YieldAt F (n - 1) Try.prog l #[encK x] W fun e W' => e = .returned (.bool true) ∧ J (pre ++ [x]) W' ∧ KeepsWalks W W')
    (W : World) (hJ : AbidesFrom W.heap.size J) (hm : W.cell? ⟨Bm, 0, none⟩ = some (.map (some b))) (hown : Mp encK okK W b (ks.map tr)) (h0 : J [] W) :
    CallsIn F n Try.prog 55 #[.func (.yield l) #[] #[], .pointer (some ⟨Bm, 0, none⟩)] W fun e W' => (∃ v, e = .returned v) ∧ ∃ ss : List Key, ss.Perm ks ∧ J ss W' := by
  obtain ⟨es, clock, hE⟩ := hown
  have hbl : b < W.heap.size := (Array.getElem?_eq_some_iff.1 hE.blk).1
  have hE1 := hE.touch ((Touch.refl [] W).alloc (.mapIter (some b) clock #[] clock)) (by simp)
  have hJ1 := hJ [] W _ none h0 (grown_alloc W (.mapIter (some b) clock #[] clock)) (fun r e => by cases e)
  refine callsIn_of_wp Try.func55 rfl hf ?_ hro
  simp only [Try.ntmps55, List.size_toArray, List.length_cons, List.length_nil, Nat.reduceAdd, Nat.reduceSub, Array.replicate_succ, Array.replicate_zero, List.push_toArray, List.append_toArray, List.nil_append, List.cons_append]
  gi_wp2_with (first
    | (gi_at_range; refine wpListIn_range_mp rfl _ 66 rfl 4 Try.underlying66 rfl hE ?_; intro hit0)
    | gi_in)
  go_frame
  gi_loopw [3] (fun _ wr => ∃ (S : List Nat), MpE encK okK wr b es clock (ks.map tr) ∧ It wr W.heap.size b es clock S ∧ J (came ks S) wr) (fun _ wr => wr.rangeLeft b W.heap.size)
  case atStart => exact ⟨[], hE1, hit0, hJ1⟩
  case round =>
    obtain ⟨S, hm1, hit1, hJs⟩ := hrel
    have hbd := hit1.bound hm1
    rw [List.length_map] at hbd
    have hrb : W.heap.size ≠ b := by omega
    gi_wp2_with (first
      | (gi_at_next; refine wpListIn_next_mp rfl _ rfl rfl hm1 hit1 hrb ?_ ?_)
      | gi_in)
    · intro hall
      have hperm := came_all (l := ks) hit1.nodup hbd hall
      gi_wp2
      go_end0
      exact ⟨⟨_, rfl⟩, came ks S, hperm, hJs⟩
    · intro j xc xa pv w2 hj yc ya hx0 hxe t2 z2 hit2 hen
      obtain ⟨x, rfl⟩ : ∃ x : Key, x = (xc, xa) := ⟨_, rfl⟩
      simp only [tr, Prod.mk.injEq] at hxe
      obtain ⟨⟨rfl, rfl⟩, rfl⟩ := hxe
      obtain ⟨x, hxd⟩ : ∃ x : Key, x = (yc, ya) := ⟨_, rfl⟩
      have hx : ks[j]? = some x := by rw [hxd]; exact hx0
      have hx1 : yc = x.1 := by rw [hxd]
      have hx2 : ya = x.2 := by rw [hxd]
      rw [hx1, hx2] at hen ⊢
      clear hxd hx0 hx1 hx2
      have hjl := (List.getElem?_eq_some_iff.1 hx).1
      have hSlt : (came ks S).length < ks.length := by
        rw [came_len hbd]
        have hn : (S ++ [j]).Nodup := hit2.nodup
        have := few_of_lt ks.length (S ++ [j]) hn (by
          intro y hy
          rcases List.mem_append.1 hy with hy | hy
          · exact hbd y hy
          · simp at hy; omega)
        simp at this
        omega
      have hm2 : MpE encK okK w2 b es clock (ks.map tr) := hm1.touch t2 (by simpa using hrb.symm)
      have hJ2 := hJ _ wr w2 _ hJs (grown_of_touch t2) (fun r e => by
        cases e
        obtain ⟨seen, hs1, _⟩ := hit1
        exact ⟨Nat.le_refl _, _, hs1, rfl⟩)
      have hJ3 := hJ _ w2 _ none hJ2 (grown_alloc w2 (.cells #[.int .i64 x.1, .int .i64 x.2] 30)) (fun r e => by cases e)
      obtain ⟨fn, tmps, assign, body, hy, hR⟩ := hY (came ks S) x _ hJ3 hSlt
      have hw3 : KeepsWalks w2 (w2.alloc (.cells #[.int .i64 x.1, .int .i64 x.2] 30)) := KeepsWalks.alloc _ _
      simp only [encK] at hen hy ⊢
      clear z2 hJ2
      gi_wp2
      refine hR.mono ?_
      rintro e W3 ⟨rfl, hJ4, hk3⟩
      gi_wp2
      go_roundw
      case rel => exact ⟨S ++ [j], (hm2.walks hw3).walks hk3, (hit2.walks hw3).walks hk3, by rw [came_snoc hx]; exact hJ4⟩
      case measure => exact It.left_lt hm1 ((hm2.walks hw3).walks hk3) hit1 ((hit2.walks hw3).walks hk3) hj
end Go.Proofs.Ytmdnkhpkpmbeoaa

/-
  slices.AppendSeq and slices.Collect at endpoints.
-/
namespace Go.Proofs.Ytmdnkhpkpmbeoaa
open Go.RowKit Go.Maps Go.Sort Go.Shelf
set_option linter.unusedVariables false
set_option linter.unusedSimpArgs false

def EpapAssign : Code := (Code.region 2 #[{ dst := some 5, op := Op.alloc 30, type := 0, pos := "iter.go:51", after := #[], guard := none }, { dst := none, op := Op.store 30 (Operand.tmp 5) (Operand.tmp 7), type := 0, pos := "iter.go:51", after := #[{ on := 0, ground := Ground.data }, { on := 0, ground := Ground.phase }], guard := none }] false)
def EpapBody : Code := (Code.block 1 (Code.region 3 #[{ dst := some 8, op := Op.load 27 (Operand.tmp 2), type := 27, pos := "iter.go:52", after := #[], guard := none }, { dst := some 9, op := Op.load 30 (Operand.tmp 5), type := 30, pos := "iter.go:52", after := #[], guard := none }, { dst := some 10, op := Op.buildSlice 27 1 #[(0, Operand.tmp 9)], type := 27, pos := "iter.go:52", after := #[{ on := 1, ground := Ground.data }], guard := none }, { dst := some 11, op := Op.call { callee := Callee.builtin Builtin.append, args := #[Operand.tmp 8, Operand.tmp 10], argTypes := #[27, 27] }, type := 27, pos := "iter.go:52", after := #[{ on := 0, ground := Ground.data }, { on := 2, ground := Ground.data }], guard := none }, { dst := none, op := Op.store 27 (Operand.tmp 2) (Operand.tmp 11), type := 0, pos := "iter.go:52", after := #[{ on := 3, ground := Ground.data }, { on := 3, ground := Ground.chain }, { on := 0, ground := Ground.phase }, { on := 1, ground := Ground.phase }, { on := 2, ground := Ground.phase }, { on := 3, ground := Ground.phase }], guard := none }] false))
/-- The loop's record: AppendSeq's temporaries as they stood at the entering: 's' boxed in block Bs; sv: the iterator's value. -/
def EpapRec (fn : FuncId) (sv : Value) (Bs D : Nat) (st : LoopState) (pend : Option Code) : Loop :=
  { state := st, pending := pend, fn, tmps := #[.slice none 0 0, sv, .pointer (some ⟨Bs, 0, none⟩), undef, .slice none 0 0, undef, sv, undef, undef, undef, undef, undef, undef], params := #[7], assign := EpapAssign, body := EpapBody, defers := D }

/-- BETWEEN TWO ROUNDS: the box holds a slice that owns, in a block of the call's own, what has come so far; IT IS nil JUST AS LONG AS NOTHING HAS COME; nothing that lay before the call has turned. -/
structure EpApAt (w0 : World) (fn : FuncId) (sv : Value) (Bs l D : Nat) (ss : List Key) (W : World) : Prop where
  box : ∃ v, W.heap[Bs]? = some (.cells #[v] 27 (0, 0)) ∧ W.ownsRow w0.heap.size 30 2 v ss.length (ss.map encE).flatten ∧ (v = .slice none 0 0 ↔ ss = [])
  L : W.heap[l]? = some (.loop (EpapRec fn sv Bs D .ready none))
  K : W.heap[D]? = some (.deferred (some []))
  below : Below w0.heap.size w0 W

theorem Epap_abides (w0 : World) (fn : FuncId) (sv : Value) (Bs l D B : Nat) (hB : w0.heap.size ≤ B) : AbidesFrom B (EpApAt w0 fn sv Bs l D) := fun s W W' row h hg hrow => by
  have hrow' : ∀ r, row = some r → ∃ o : Obj, W.heap[r]? = some o ∧ o.isWalk = true := fun r e => (hrow r e).2
  obtain ⟨v, hv, hr, hn⟩ := h.box
  exact ⟨⟨v, (grownBy_keeps hg hrow' hv rfl).trans hv, ownsRow_abides_a hr hg hrow', hn⟩, (grownBy_keeps hg hrow' h.L rfl).trans h.L, (grownBy_keeps hg hrow' h.K rfl).trans h.K,
    h.below.grown hg h.below.size (fun k e => Nat.le_trans hB (hrow k e).1)⟩

set_option maxRecDepth 100000 in
set_option maxHeartbeats 2000000 in
theorem EpapYield (F : Fence) (m : Nat) (w0 : World) (fn : FuncId) (hfn : F.fn fn) (sv : Value) (Bs l D : Nat) (hBl : Bs ≠ l) (hDl : D ≠ l) (hDB : D ≠ Bs) (h0B : w0.heap.size ≤ Bs) (h0l : w0.heap.size ≤ l)
    (N : Nat) (hN : N ≤ maxLen) (hNb : N * 16 ≤ 140737488355328) (ss : List Key) (x : Key) (W : World) (h : EpApAt w0 fn sv Bs l D ss W) (hlen : ss.length < N) :
    YieldAt F m Try.prog l #[encK x] W fun e W' => e = .returned (.bool true) ∧ EpApAt w0 fn sv Bs l D (ss ++ [x]) W' ∧ KeepsWalks W W' := by
  have hne : (27 : Nat) ≠ 30 := by decide
  have u24 := run_underlying Try.underlying27
  have u26 := run_underlying Try.underlying30
  obtain ⟨i0, z0, hi, hz0, hz1, hz2, hz3⟩ := info_parts (T := 30) (k := 2) (bytes := 16) (by kernel_rfl)
  obtain ⟨v, hv, hrow, _⟩ := h.box
  refine ⟨fn, #[.slice none 0 0, sv, .pointer (some ⟨Bs, 0, none⟩), undef, .slice none 0 0, undef, sv, encK x, undef, undef, undef, undef, undef], EpapAssign, EpapBody, by simpa [EpapRec] using run_yield (P := Try.prog) (args := #[encK x]) h.L rfl, roundIn_of_wpIn hfn ?_⟩
  have hl0 : l < W.heap.size := (Array.getElem?_eq_some_iff.1 h.L).1
  have hB0 : Bs < W.heap.size := (Array.getElem?_eq_some_iff.1 hv).1
  have hD0 : D < W.heap.size := (Array.getElem?_eq_some_iff.1 h.K).1
  obtain ⟨W1, hW1⟩ : ∃ W1, W1 = W.alloc (.cells #[.int .i64 x.1, .int .i64 x.2] 30) := ⟨_, rfl⟩
  have hk1 : KeepsWalks W W1 := by rw [hW1]; exact KeepsWalks.alloc _ _
  have hold : ∀ k, k < W.heap.size → W1.heap[k]? = W.heap[k]? := fun k hk => by rw [hW1]; exact Below.heap_alloc _ _ k hk
  have hv1 := (hold Bs hB0).trans hv
  have hL1 := (hold l hl0).trans h.L
  have hK1 := (hold D hD0).trans h.K
  have hX1 : W1.heap[W.heap.size]? = some (.cells #[.int .i64 x.1, .int .i64 x.2] 30 (0, 0)) := by rw [hW1]; exact heap_alloc_new W _
  have hrow1 : W1.ownsRow w0.heap.size 30 2 v ss.length (ss.map encE).flatten := by rw [hW1]; exact hrow.alloc _
  have hb1 : Below w0.heap.size w0 W1 := by rw [hW1]; exact h.below.alloc h.below.size _
  have hl : l < W1.heap.size := (Array.getElem?_eq_some_iff.1 hL1).1
  have hbr := run_beginRound (P := Try.prog) hL1 rfl
  obtain ⟨W2, hW2⟩ : ∃ W2, W1.putObj l (.loop { EpapRec fn sv Bs D .ready none with state := .busy }) = W2 := ⟨_, rfl⟩
  rw [hW2] at hbr
  have hg2 : W1.grownBy W2 (some l) := by rw [← hW2]; exact grownBy_putObj_a _ _ _
  have hk2 : KeepsWalks W W2 := hk1.trans (by rw [← hW2]; exact KeepsWalks.putObj _ hL1 rfl)
  have hv2 : W2.heap[Bs]? = some (.cells #[v] 27 (0, 0)) := by rw [← hW2]; exact (World.putObj_heap_other hBl).trans hv1
  have hK2 : W2.heap[D]? = some (.deferred (some [])) := by rw [← hW2]; exact (World.putObj_heap_other hDl).trans hK1
  have hL2 : W2.heap[l]? = some (.loop { EpapRec fn sv Bs D .ready none with state := .busy }) := by rw [← hW2]; exact World.putObj_heap_same hl
  have hX2 : W2.heap[W.heap.size]? = some (.cells #[.int .i64 x.1, .int .i64 x.2] 30 (0, 0)) := by rw [← hW2]; exact (World.putObj_heap_other (by omega)).trans hX1
  have e0 : W2.cell? ⟨W.heap.size, 0, none⟩ = some (.int .i64 x.1) := by simp [World.cell?, hX2]
  have e1 : W2.cell? ⟨W.heap.size, 1, none⟩ = some (.int .i64 x.2) := by simp [World.cell?, hX2]
  have hrow2 : W2.ownsRow w0.heap.size 30 2 v ss.length (ss.map encE).flatten := hrow1.kept hg2 (ownsRow_ne_a hrow1 hL1 (fun cur e => by first | cases e | exact hne (Obj.cells.inj e).2.1))
  have hb2 : Below w0.heap.size w0 W2 := hb1.grown hg2 hb1.size (fun k e => by cases e; exact h0l)
  obtain ⟨hc2, hf2⟩ := cell_of_box_a hv2
  have hBlt : Bs < W2.heap.size := (Array.getElem?_eq_some_iff.1 hv2).1
  have hl2 : l < W2.heap.size := (Array.getElem?_eq_some_iff.1 hL2).1
  have hDlt : D < W2.heap.size := (Array.getElem?_eq_some_iff.1 hK2).1
  have ne_of : ∀ {j : Nat} {o : Obj}, W2.heap[j]? = some o → (∀ cur, o ≠ .cells cur 30 (0, 0)) → some j ≠ v.ownBlock := fun hj hno => by
    rcases ownsRow_ne_a hrow2 hj hno with e | e
    · rw [e]; simp
    · exact fun e' => e e'.symm
  clear hW2
  unfold EpapAssign
  simp only [encK]
  gi_wp2_with gi_round_op_a
  rw [← hW1]
  refine ⟨W2, hbr, ?_⟩
  unfold EpapBody
  gi_wp2_with (first
    | (gi_at_builtin; refine wpListIn_append_own _ rfl _ _ 27 rfl w0.heap.size 30 i0 _ 2 16 Try.underlying27 hi hz0 hz1 hz2 hz3 (by decide) _ _ _ rfl (hrow2.alloc _) ⟨W2.heap.size, 0, none⟩ 1 1 (encE x) rfl rfl (by intro j u hu; rw [Addr.add_lit]; exact range_new W2 (encE x) 30 j u hu) (by simp [encE, Value.oneCell']) (by omega) (by omega) (by have := hb2.size; simp; omega) ?_; intro v' w3 hown' hg3 hnil3
       have hv3 : w3.heap[Bs]? = some (.cells #[v] 27 (0, 0)) := (hg3.block Bs (by simp; omega) (ne_of hv2 (fun cur e => by first | cases e | exact hne (Obj.cells.inj e).2.1))).trans ((Below.heap_alloc _ _ Bs hBlt).trans hv2)
       obtain ⟨hc3, hf3⟩ := cell_of_box_a hv3
       obtain ⟨g', cap', cur', rfl, hbase', hgb', hr1, hr2, hr3, hr4⟩ : ∃ g' cap' cur', v' = .slice (some ⟨g', 0, none⟩) (ss.length + 1) cap' ∧ w0.heap.size ≤ g' ∧ w3.heap[g']? = some (.cells cur' 30 (0, 0)) ∧ ss.length + 1 ≤ cap' ∧ cap' ≤ maxLen ∧ cur'.size = cap' * 2 ∧ cur'.toList.take ((ss.length + 1) * 2) = (ss.map encE).flatten ++ encE x := by
         rcases hown'.2 with ⟨_, h0⟩ | h'
         · exact absurd h0 (by omega)
         · exact h'
       go_frame)
    | gi_round_op_a)
  have hg3' : (W2.alloc (.cells #[.int .i64 x.1, .int .i64 x.2] 30)).grownBy w3 v.ownBlock := hg3
  have hL3 : w3.heap[l]? = some (.loop { EpapRec fn sv Bs D .ready none with state := .busy }) := (hg3'.block l (by simp; omega) (ne_of hL2 (fun cur e => by first | cases e | exact hne (Obj.cells.inj e).2.1))).trans ((Below.heap_alloc _ _ l hl2).trans hL2)
  have hK3 : w3.heap[D]? = some (.deferred (some [])) := (hg3'.block D (by simp; omega) (ne_of hK2 (fun cur e => by first | cases e | exact hne (Obj.cells.inj e).2.1))).trans ((Below.heap_alloc _ _ D hDlt).trans hK2)
  obtain ⟨w4, hw4⟩ : ∃ w4, w3.setCell ⟨Bs, 0, none⟩ (.slice (some ⟨g', 0, none⟩) (ss.length + 1) cap') = w4 := ⟨_, rfl⟩
  rw [hw4]
  have hg4 : w3.grownBy w4 (some Bs) := by rw [← hw4]; exact grownBy_setCell0_a _ _ _
  have hv4 : w4.heap[Bs]? = some (.cells #[.slice (some ⟨g', 0, none⟩) (ss.length + 1) cap'] 27 (0, 0)) := by rw [← hw4]; exact heap_setCell_box_a _ hv3
  have hL4 : w4.heap[l]? = some (.loop { EpapRec fn sv Bs D .ready none with state := .busy }) := (hg4.block l (Array.getElem?_eq_some_iff.1 hL3).1 (fun e => hBl (by cases e; rfl))).trans hL3
  have hK4 : w4.heap[D]? = some (.deferred (some [])) := (hg4.block D (Array.getElem?_eq_some_iff.1 hK3).1 (fun e => hDB (by cases e; rfl))).trans hK3
  have hrow4 := hown'.kept hg4 (ownsRow_ne_a hown' hv3 (fun cur e => by first | cases e | exact hne (Obj.cells.inj e).2.1))
  have hl4 : l < w4.heap.size := (Array.getElem?_eq_some_iff.1 hL4).1
  have hb3 : Below w0.heap.size w0 w3 := (hb2.alloc hb2.size _).grown hg3' (by have := hb2.size; simp; omega) (fun k e => (hrow2.lt k e).1)
  have hb4 : Below w0.heap.size w0 w4 := hb3.grown hg4 hb3.size (fun k e => by cases e; exact h0B)
  have hk4 : KeepsWalks W w4 := ((hk2.trans (KeepsWalks.alloc _ _)).trans (KeepsWalks.of_grownBy hg3' (ownsRow_not_walk_a (hrow2.alloc _)))).trans (by rw [← hw4]; exact KeepsWalks.setCell _ _ _)
  clear hw4
  refine ⟨_, _, run_endRound none hL4, rfl, ⟨⟨_, (World.putObj_heap_other hBl).trans hv4, ?_, by simp⟩, World.putObj_heap_same hl4, (World.putObj_heap_other hDl).trans hK4, hb4.grown (grownBy_putObj_a _ _ _) hb4.size (fun k e => by cases e; exact h0l)⟩, hk4.trans (KeepsWalks.putObj _ hL4 rfl)⟩
  have := hrow4.kept (grownBy_putObj_a w4 l (.loop { { EpapRec fn sv Bs D .ready none with state := .busy } with state := if (none : Option Code).isNone then .ready else .done, pending := none })) (ownsRow_ne_a hrow4 hL4 (fun cur e => by first | cases e | exact hne (Obj.cells.inj e).2.1))
  simpa using this


set_option maxRecDepth 100000 in
set_option maxHeartbeats 2000000 in
/-- **slices.AppendSeq(nil, seq), AGAINST WHATEVER ITERATOR VALUE THAT 'SeqGives'**: it hands back a slice that owns, in a block of the call's own, JUST WHAT THE ITERATOR GAVE, IN THAT ORDER; nil JUST WHERE IT GAVE NOTHING (as Go: 'slices.Collect' of nothing is nil); nothing that lay before the call has turned. -/
theorem EpappendSeq_in (F : Fence) (n : Nat) (h11 : F.fn 59) (hro : F.round = none) (hn : 2 ≤ n) (g : Nat) (lb : Array Value) (hFg : F.fn g) (eg : ∀ args w, (callFunc g args).run Try.prog w = .ok (.enter g args) w)
    (S : List Key → Prop) (N : Nat) (hN : N ≤ maxLen) (hNb : N * 16 ≤ 140737488355328) (w : World) (hseq : SeqGives F (n - 1) Try.prog g lb encK S N w) :
    CallsIn F n Try.prog 59 #[.slice none 0 0, .func (.func g) #[] lb] w fun e w' => ∃ (v : Value) (ss : List Key), e = .returned v ∧ S ss ∧ w'.ownsRow w.heap.size 30 2 v ss.length (ss.map encE).flatten ∧ (v = .slice none 0 0 ↔ ss = []) ∧ Below w.heap.size w w' := by
  have h1 : 1 ≤ n := by omega
  have hne : (27 : Nat) ≠ 30 := by decide
  have u24 := run_underlying Try.underlying27
  have u26 := run_underlying Try.underlying30
  refine callsIn_of_wp_marks Try.func59 rfl h11 ?_ hro
  simp only [Try.ntmps59, List.size_toArray, List.length_cons, List.length_nil, Nat.reduceAdd, Nat.reduceSub, Array.replicate_succ, Array.replicate_zero, List.push_toArray, List.append_toArray, List.nil_append, List.cons_append]
  gi_wp2
  refine wpIn_rangeFunc ?_
  intro fn hfn
  rw [hro]
  obtain ⟨W0, hW0⟩ : ∃ W0, w.alloc (.cells #[.slice none 0 0] 27) = W0 := ⟨_, rfl⟩
  have hs0 : W0.heap.size = w.heap.size + 1 := by rw [← hW0]; simp
  have hv0 : W0.heap[w.heap.size]? = some (.cells #[.slice none 0 0] 27 (0, 0)) := by rw [← hW0]; exact World.alloc_heap_new w _
  have hb0 : Below w.heap.size w W0 := by rw [← hW0]; exact (Below.refl _ w).alloc (Nat.le_refl _) _
  rw [hW0]
  obtain ⟨W1, hW1⟩ : ∃ W1, (W0.alloc (.deferred (some []))).alloc (.loop (EpapRec fn (.func (.func g) #[] lb) w.heap.size W0.heap.size .ready none)) = W1 := ⟨_, rfl⟩
  have hold : ∀ k, k < W0.heap.size → W1.heap[k]? = W0.heap[k]? := fun k hk => by
    rw [← hW1]; exact (Below.heap_alloc _ _ k (by simp; omega)).trans (Below.heap_alloc _ _ k hk)
  have hb1 : Below w.heap.size w W1 := by rw [← hW1]; exact (hb0.alloc hb0.size _).alloc (by have := hb0.size; simp; omega) _
  have hs1 : W1.heap.size = W0.heap.size + 2 := by rw [← hW1]; simp
  have hM : EpApAt w fn (.func (.func g) #[] lb) w.heap.size (W0.heap.size + 1) W0.heap.size [] W1 :=
    ⟨⟨_, (hold w.heap.size (by omega)).trans hv0, ⟨rfl, .inl ⟨rfl, rfl⟩⟩, by simp⟩,
     by rw [← hW1]; have := World.alloc_heap_new (W0.alloc (.deferred (some []))) (.loop (EpapRec fn (.func (.func g) #[] lb) w.heap.size W0.heap.size .ready none)); rwa [World.size_alloc] at this,
     by rw [← hW1]; exact (Below.heap_alloc _ _ _ (by simp)).trans (World.alloc_heap_new W0 _), hb1⟩
  refine ⟨W0.heap.size + 1, [{ target := .collected W0.heap.size, args := #[] }], W1, { target := .fn (.func g) lb, args := #[.func (.yield (W0.heap.size + 1)) #[] #[]] }, W1, g,
    #[.func (.yield (W0.heap.size + 1)) #[] #[]] ++ lb, W1, ?_, ?_, ?_, ?_, fun _ => h1, ?_⟩
  · rw [← hW1]; exact run_enterLoop_outer _ _ _ _ _
  · simp [resolve, go_sem]
  · intro f' hf'; simp [Target.leads] at hf'; subst hf'; exact hFg
  · simp [invoke, go_sem, eg]
  · refine (hseq (W0.heap.size + 1) (EpApAt w fn (.func (.func g) #[] lb) w.heap.size (W0.heap.size + 1) W0.heap.size) W1 hb1 (Epap_abides _ _ _ _ _ _ _ hb1.size)
      (fun pre x W hJ hl => EpapYield F (n - 1 - 1) w fn hfn _ w.heap.size (W0.heap.size + 1) W0.heap.size (by omega) (by omega) (by omega) (Nat.le_refl _) (by omega) N hN hNb pre x W hJ hl) hM).mono ?_
    rintro e W2 ⟨⟨v0, rfl⟩, ss, hS, h2⟩
    obtain ⟨v, hv, hrow, hnil⟩ := h2.box
    have hend := run_endLoop (P := Try.prog) h2.L (by simp [EpapRec])
    obtain ⟨W3, hW3⟩ : ∃ W3, W2.putObj (W0.heap.size + 1) (.loop { EpapRec fn (.func (.func g) #[] lb) w.heap.size W0.heap.size .ready none with state := .exhausted }) = W3 := ⟨_, rfl⟩
    rw [hW3] at hend
    have hg3 : W2.grownBy W3 (some (W0.heap.size + 1)) := by rw [← hW3]; exact grownBy_putObj_a _ _ _
    have hv3 : W3.heap[w.heap.size]? = some (.cells #[v] 27 (0, 0)) := by rw [← hW3]; exact (World.putObj_heap_other (by omega)).trans hv
    have hK3 : W3.heap[W0.heap.size]? = some (.deferred (some [])) := by rw [← hW3]; exact (World.putObj_heap_other (by omega)).trans h2.K
    have hrow3 := hrow.kept hg3 (ownsRow_ne_a hrow h2.L (fun cur e => by first | cases e | exact hne (Obj.cells.inj e).2.1))
    have hb3 : Below w.heap.size w W3 := h2.below.grown hg3 h2.below.size (fun k e => by cases e; omega)
    obtain ⟨hc3, hf3⟩ := cell_of_box_a hv3
    clear hW3
    refine ⟨none, W3, hend, ?_⟩
    gi_wp2
    rw [← hs0]
    refine ⟨by simp, .inl ⟨_, _, rfl, run_takeDeferred hK3, ?_⟩⟩
    exact ⟨_, results_tmp rfl _ _ _, v, ss, rfl, hS, hrow3.kept (grownBy_putObj_a _ _ _) (ownsRow_ne_a hrow3 hK3 (fun cur e => by first | cases e | exact hne (Obj.cells.inj e).2.1)), hnil, hb3.grown (grownBy_putObj_a _ _ _) hb3.size (fun k e => by cases e; omega)⟩


end Go.Proofs.Ytmdnkhpkpmbeoaa

/-
  A slice of structs of the call's own, ahead of and behind the library's sort. Plain lemmas over any program.
-/
namespace Go.Proofs.Ytmdnkhpkpmbeoaa
open Go.RowKit Go.Sort Go.Shelf
set_option linter.unusedVariables false
set_option linter.unusedSimpArgs false

section
variable {α : Type} [Inhabited α] {enc : α → List Value} {k : Nat}
theorem flat_enc (hk : ∀ x, (enc x).length = k) (d : List α) (j : Nat) (hj : j < d.length * k) : (d.map enc).flatten[j]? = some (flatK enc k d.toArray)[j]! := by
  have hk0 : 0 < k := by
    rcases Nat.eq_zero_or_pos k with h | h
    · subst h; simp at hj
    · exact h
  have hq : j / k < d.length := (Nat.div_lt_iff_lt_mul hk0).2 hj
  have hm : j % k < k := Nat.mod_lt _ hk0
  rw [get_flatK _ _ _ _ (by simpa using hj)]
  have h1 : (d.map enc)[j / k]? = some (enc d[j / k]) := by simp [hq]
  have h2 : (enc d[j / k])[j % k]? = some ((enc d[j / k])[j % k]'(by rw [hk]; exact hm)) := List.getElem?_eq_getElem _
  have := flat_get (k := k) (xs := d.map enc) (by intro x hx; obtain ⟨y, _, rfl⟩ := List.mem_map.1 hx; exact hk y) h1 h2
  rw [Nat.div_add_mod'] at this
  rw [this]
  have e1 : d.toArray[j / k]! = d[j / k] := by
    rw [getElem!_pos _ _ (by simpa using hq)]
    simp
  rw [e1, getElem!_pos _ _ (by rw [hk]; exact hm)]
theorem owns_holds {w : World} {e : TypeId} {g cap : Nat} (hk : ∀ x, (enc x).length = k) (d : List α) (ho : w.ownsRow 0 e k (.slice (some ⟨g, 0, none⟩) d.length cap) d.length (d.map enc).flatten) : HoldsK enc k w g 0 d.toArray := by
  intro j hj
  have hj' : j < d.length * k := by simpa using hj
  rw [Nat.zero_add]
  exact ⟨owns_cell ho j _ (flat_enc hk d j hj'), owns_frozen ho j⟩
theorem touch_sorted (w : World) (g n : Nat) (d : Array α) (os : Array Obj) : Touch [g] w (sortWorldK enc k w g 0 n d os) := by
  refine ⟨rfl, rfl, rfl, by simp [sortWorldK, putRowK, putRow, mapBlock, ahead, grow], fun i hi hn => ?_⟩
  unfold sortWorldK
  rw [heap_grow_old _ _ (by simpa [putRowK, putRow, mapBlock, ahead] using hi)]
  have : g ≠ i := by simpa [eq_comm] using hn
  simp [putRowK, putRow, mapBlock, Sort.ahead, Array.getElem?_modify, this]
theorem owns_sorted {w : World} {e : TypeId} {g cap n : Nat} {os : Array Obj} (hk : ∀ x, (enc x).length = k) (d d' : List α) (hl : d'.length = d.length) (ho : w.ownsRow 0 e k (.slice (some ⟨g, 0, none⟩) d.length cap) d.length (d.map enc).flatten) :
    (sortWorldK enc k w g 0 n d'.toArray os).ownsRow 0 e k (.slice (some ⟨g, 0, none⟩) d'.length cap) d'.length (d'.map enc).flatten := by
  obtain ⟨_, h2⟩ := ho
  have hfl : (d'.map enc).flatten.length = d'.length * k := by
    have := flat_len (k := k) (xs := d'.map enc) (by intro x hx; obtain ⟨y, _, rfl⟩ := List.mem_map.1 hx; exact hk y)
    simpa using this
  refine ⟨hfl, ?_⟩
  rcases h2 with ⟨h3, _⟩ | ⟨g', cap', cur, hv, hb, hh, h4, h5, h6, h7⟩
  · cases h3
  · simp only [Value.slice.injEq, Option.some.injEq, Addr.mk.injEq, and_true, true_and] at hv
    obtain ⟨rfl, rfl⟩ := hv
    have hg : g < w.heap.size := (Array.getElem?_eq_some_iff.1 hh).1
    refine .inr ⟨g, cap, putCells id 0 (flatK enc k d'.toArray) cur, rfl, hb, ?_, by omega, h5, by simp [putCells, h6], ?_⟩
    · unfold sortWorldK
      rw [heap_grow_old _ _ (by simpa [putRowK, putRow, mapBlock, ahead] using hg)]
      simp [putRowK, putRow, mapBlock, Sort.ahead, Array.getElem?_modify, hh, onCells]
    · have hle : d'.length * k ≤ cur.size := by rw [h6, hl]; exact Nat.mul_le_mul_right _ h4
      apply List.ext_getElem?
      intro j
      by_cases hj : j < d'.length * k
      · rw [List.getElem?_take_of_lt hj, Array.getElem?_toList, flat_enc hk d' j hj]
        have hjc : j < cur.size := by omega
        simp [putCells, hj, hjc]
      · rw [List.getElem?_take_eq_none (by omega), List.getElem?_eq_none (by omega)]
end
end Go.Proofs.Ytmdnkhpkpmbeoaa

/-
  DERIVED: THE SHELF's CONTRACTS AT THIS DUMP, IN PLAIN WORDS (tools/lay-plain.mjs out of 'YtmdnkhpkpmbeoaaLay.lean', which tools/lay-shelf.mjs wrote): THE SAME DECLARATIONS UNDER THE SAME NAMES: 'import', 'namespace', 'open', 'def', 'theorem' AND NOTHING ELSE: no command of the shelf's: FOR A HAND-IN. Each laying: the table of numbers ('.._ren') and one theorem, a field a fact of the dump's own or the kernel's comparison; each contract: ONE APPLICATION.
-/
namespace Go.Proofs
open Go.Shelf
def Try.sortL_ren : Go.Shelf.Ren := ⟨fun | 6 => 54 | 15 => 61 | 14 => 60 | 28 => 70 | 29 => 71 | 20 => 62 | 21 => 63 | 22 => 64 | 23 => 65 | 24 => 66 | 25 => 67 | 26 => 68 | 27 => 69 | 46 => 72 | 47 => 73 | 48 => 74 | 49 => 75 | 50 => 76 | 57 => 77 | n => n, fun | 22 => 27 | 24 => 30 | 25 => 71 | 3 => 3 | 39 => 58 | 0 => 0 | 53 => 105 | 55 => 107 | 4 => 4 | 46 => 98 | 45 => 97 | 50 => 102 | 5 => 5 | 9 => 9 | 66 => 108 | 70 => 112 | 76 => 114 | 77 => 115 | n => n, fun | n => n⟩
theorem Try.sortL : Go.Proofs.SlLaysF0.n6 Try.prog Try.sortL_ren := {
  mixed := by kernel_rfl
  f6 := ⟨Try.f54.name, by decide, Try.func54.trans (congrArg some (by kernel_rfl))⟩
  f14 := ⟨Try.f60.name, by decide, Try.func60.trans (congrArg some (by kernel_rfl))⟩
  f15 := Try.func61.trans (congrArg some (by kernel_rfl))
  f20 := ⟨Try.f62.name, by decide, Try.func62.trans (congrArg some (by kernel_rfl))⟩
  f21 := ⟨Try.f63.name, by decide, Try.func63.trans (congrArg some (by kernel_rfl))⟩
  f22 := ⟨Try.f64.name, by decide, Try.func64.trans (congrArg some (by kernel_rfl))⟩
  f23 := ⟨Try.f65.name, by decide, Try.func65.trans (congrArg some (by kernel_rfl))⟩
  f24 := ⟨Try.f66.name, by decide, Try.func66.trans (congrArg some (by kernel_rfl))⟩
  f25 := ⟨Try.f67.name, by decide, Try.func67.trans (congrArg some (by kernel_rfl))⟩
  f26 := ⟨Try.f68.name, by decide, Try.func68.trans (congrArg some (by kernel_rfl))⟩
  f27 := ⟨Try.f69.name, by decide, Try.func69.trans (congrArg some (by kernel_rfl))⟩
  f28 := Try.func70.trans (congrArg some (by kernel_rfl))
  f29 := Try.func71.trans (congrArg some (by kernel_rfl))
  f46 := ⟨Try.f72.name, by decide, Try.func72.trans (congrArg some (by kernel_rfl))⟩
  f47 := Try.func73.trans (congrArg some (by kernel_rfl))
  f48 := Try.func74.trans (congrArg some (by kernel_rfl))
  f49 := ⟨Try.f75.name, by decide, Try.func75.trans (congrArg some (by kernel_rfl))⟩
  f50 := ⟨Try.f76.name, by decide, Try.func76.trans (congrArg some (by kernel_rfl))⟩
  f57 := ⟨Try.f77.name, by decide, Try.func77.trans (congrArg some (by kernel_rfl))⟩
  t0 := Try.underlying0
  a0 := Try.isAgg0
  z0 := Try.sizeOf0
  v0 := Try.zeroValue0
  t3 := Try.underlying3
  a3 := Try.isAgg3
  z3 := Try.sizeOf3
  v3 := Try.zeroValue3
  t4 := Try.underlying4
  a4 := Try.isAgg4
  z4 := Try.sizeOf4
  v4 := Try.zeroValue4
  t5 := Try.underlying5
  a5 := Try.isAgg5
  z5 := Try.sizeOf5
  v5 := Try.zeroValue5
  t9 := Try.underlying9
  a9 := Try.isAgg9
  z9 := Try.sizeOf9
  v9 := Try.zeroValue9
  t22 := Try.underlying27
  a22 := Try.isAgg27
  z22 := Try.sizeOf27
  v22 := Try.zeroValue27
  t25 := Try.underlying71
  a25 := Try.isAgg71
  z25 := Try.sizeOf71
  v25 := Try.zeroValue71
  t39 := Try.underlying58
  a39 := Try.isAgg58
  z39 := Try.sizeOf58
  v39 := Try.zeroValue58
  t45 := Try.underlying97
  a45 := Try.isAgg97
  z45 := Try.sizeOf97
  v45 := Try.zeroValue97
  t46 := Try.underlying98
  a46 := Try.isAgg98
  z46 := Try.sizeOf98
  v46 := Try.zeroValue98
  t50 := Try.underlying102
  a50 := Try.isAgg102
  z50 := Try.sizeOf102
  v50 := Try.zeroValue102
  t53 := Try.underlying105
  a53 := Try.isAgg105
  z53 := Try.sizeOf105
  v53 := Try.zeroValue105
  t55 := Try.underlying107
  a55 := Try.isAgg107
  z55 := Try.sizeOf107
  v55 := Try.zeroValue107
  t66 := Try.underlying108
  a66 := Try.isAgg108
  z66 := Try.sizeOf108
  v66 := Try.zeroValue108
  t70 := Try.underlying112
  a70 := Try.isAgg112
  z70 := Try.sizeOf112
  v70 := Try.zeroValue112
  t76 := Try.underlying114
  a76 := Try.isAgg114
  z76 := Try.sizeOf114
  v76 := Try.zeroValue114
  t77 := Try.underlying115
  a77 := Try.isAgg115
  z77 := Try.sizeOf115
  v77 := Try.zeroValue115 }
end Go.Proofs

/-
  The comparison of endpoints, and the library's sort at them.
-/
namespace Go.Proofs.Ytmdnkhpkpmbeoaa
open Go.RowKit Go.Sort Go.Shelf Go.Lib
set_option linter.unusedVariables false
set_option linter.unusedSimpArgs false

theorem cells_two {w : World} {B : Nat} {x y : Value} {T : TypeId} (h : w.heap[B]? = some (.cells #[x, y] T (0, 0))) : w.cell? ⟨B, 0, none⟩ = some x ∧ w.cell? ⟨B, 1, none⟩ = some y := by
  simp [World.cell?, h]
theorem once {P G : Prop} (f : Hid P → G) (p : P) : G := f (Lib.hid p)
theorem encE_len (x : Key) : (encE x).length = 2 := rfl
theorem encE_one (x : Key) : ∀ v ∈ encE x, v.oneCell' = true := by
  intro v hv
  simp only [encE, List.mem_cons, List.not_mem_nil, or_false] at hv
  rcases hv with rfl | rfl <;> rfl
def cmpI (x y : Int) : Int := if x < y then -1 else if y < x then 1 else 0
def cmpK (p q : Key) : Int := if cmpI p.1 q.1 = 0 then cmpI p.2 q.2 else cmpI p.1 q.1
theorem nan_any (x : Int) (w : World) : Calls Try.prog 56 #[.int .i64 x] w fun e w' => e = .returned (.bool false) ∧ w = w' := by
  go_enter Try.func56, Try.ntmps56
  go_wp2_with fail
  go_ret
  exact ⟨rfl, rfl⟩
theorem compare_any (x y : Int) (w : World) : Calls Try.prog 39 #[.int .i64 x, .int .i64 y] w fun e w' => e = .returned (.int .i64 (cmpI x y)) ∧ w = w' := by
  by_cases h1 : x < y
  · have e : cmpI x y = -1 := by simp [cmpI, h1]
    rw [e]
    go_enter Try.func39, Try.ntmps39
    go_wp2_with fail
    refine (nan_any x _).mono ?_
    rintro e w' ⟨rfl, rfl⟩
    go_wp2_with fail
    refine (nan_any y _).mono ?_
    rintro e w' ⟨rfl, rfl⟩
    go_wp2_with fail
    go_ret
    exact ⟨rfl, rfl⟩
  · by_cases h2 : y < x
    · have e : cmpI x y = 1 := by simp [cmpI, h1, h2]
      rw [e]
      go_enter Try.func39, Try.ntmps39
      go_wp2_with fail
      refine (nan_any x _).mono ?_
      rintro e w' ⟨rfl, rfl⟩
      go_wp2_with fail
      refine (nan_any y _).mono ?_
      rintro e w' ⟨rfl, rfl⟩
      go_wp2_with fail
      go_ret
      exact ⟨rfl, rfl⟩
    · have e : cmpI x y = 0 := by simp [cmpI, h1, h2]
      rw [e]
      go_enter Try.func39, Try.ntmps39
      go_wp2_with fail
      refine (nan_any x _).mono ?_
      rintro e w' ⟨rfl, rfl⟩
      go_wp2_with fail
      refine (nan_any y _).mono ?_
      rintro e w' ⟨rfl, rfl⟩
      go_wp2_with fail
      go_ret
      exact ⟨rfl, rfl⟩
/-- cmp.Or of two. -/
theorem or_two (b : Nat) (x y : Int) (w : World) (h : w.heap[b]? = some (.cells #[.int .i64 x, .int .i64 y] 3 (0, 0))) :
    Calls Try.prog 38 #[.slice (some ⟨b, 0, none⟩) 2 2] w fun e w' => e = .returned (.int .i64 (if x = 0 then y else x)) ∧ w = w' := by
  obtain ⟨c0, c1⟩ := cells_two h
  clear h
  by_cases hx : x = 0
  · subst hx
    rw [if_pos rfl]
    by_cases hy : y = 0
    · subst hy
      go_enter Try.func38, Try.ntmps38
      go_wp2_with fail
      refine wp_loop_rounds 3 ?_
      rw [rounds_succ]
      go_wp2_with fail
      rw [rounds_succ]
      go_wp2_with fail
      rw [rounds_succ]
      go_wp2_with fail
      go_ret
      exact ⟨rfl, rfl⟩
    · have hb : (y == 0) = false := by simpa using hy
      have hb2 : (y != 0) = true := by simpa using hy
      go_enter Try.func38, Try.ntmps38
      go_wp2_with fail
      refine wp_loop_rounds 3 ?_
      rw [rounds_succ]
      go_wp2_with fail
      rw [rounds_succ]
      go_wp2_with fail
      go_ret
      exact ⟨rfl, rfl⟩
  · rw [if_neg hx]
    have hb : (x == 0) = false := by simpa using hx
    have hb2 : (x != 0) = true := by simpa using hx
    go_enter Try.func38, Try.ntmps38
    go_wp2_with fail
    refine wp_loop_rounds 3 ?_
    rw [rounds_succ]
    go_wp2_with fail
    go_ret
    exact ⟨rfl, rfl⟩

set_option maxRecDepth 100000 in
set_option maxHeartbeats 1000000 in
theorem clos_37 (x y : Key) (w : World) : Calls Try.prog 37 #[.agg #[.int .i64 x.1, .int .i64 x.2], .agg #[.int .i64 y.1, .int .i64 y.2]] w fun e w' => e = .returned (.int .i64 (cmpK x y)) ∧ ∃ q os', w' = grow (w.drewN q) os' := by
  have gA := ((Touch.refl [] (w.alloc (.cells #[.int .i64 x.1, .int .i64 x.2] 30))).alloc (.cells #[.int .i64 y.1, .int .i64 y.2] 30)).at (heap_alloc_new w (.cells #[.int .i64 x.1, .int .i64 x.2] 30)) (by simp)
  have gB := heap_alloc_new (w.alloc (.cells #[.int .i64 x.1, .int .i64 x.2] 30)) (.cells #[.int .i64 y.1, .int .i64 y.2] 30)
  rw [World.size_alloc] at gB
  have hfin : ∃ q os', ((w.alloc (.cells #[.int .i64 x.1, .int .i64 x.2] 30)).alloc (.cells #[.int .i64 y.1, .int .i64 y.2] 30)).drew.alloc (.cells #[.int .i64 (cmpI x.1 y.1), .int .i64 (cmpI x.2 y.2)] 3) = grow (w.drewN q) os' :=
    ⟨1, _, by simp only [alloc_eq_grow, drew_grow, grow_grow]; rfl⟩
  go_enter Try.func37, Try.ntmps37
  go_wp2_with fail
  have gA' := ((Touch.refl [] ((w.alloc (.cells #[.int .i64 x.1, .int .i64 x.2] 30)).alloc (.cells #[.int .i64 y.1, .int .i64 y.2] 30))).drew).at gA (by simp)
  have gB' := ((Touch.refl [] ((w.alloc (.cells #[.int .i64 x.1, .int .i64 x.2] 30)).alloc (.cells #[.int .i64 y.1, .int .i64 y.2] 30))).drew).at gB (by simp)
  obtain ⟨a0, a1⟩ := cells_two gA'
  obtain ⟨b0, b1⟩ := cells_two gB'
  clear gA gB gA' gB'
  obtain ⟨W, hW⟩ : ∃ W, W = (((w.alloc (.cells #[.int .i64 x.1, .int .i64 x.2] 30)).alloc (.cells #[.int .i64 y.1, .int .i64 y.2] 30)).drew) := ⟨_, rfl⟩
  rw [← hW] at a0 a1 b0 b1 hfin
  have HW := Lib.hid hW
  clear hW
  apply once
  · intro REST
    refine wp_region_held (S := Touch [] W) (by kernel_rfl) ?_
    change wpAnyH _ _ _ _ _ _ _ _ (((w.alloc (.cells #[.int .i64 x.1, .int .i64 x.2] 30)).alloc (.cells #[.int .i64 y.1, .int .i64 y.2] 30)).drew)
    rw [← HW.out]
    have hS := Touch.refl [] W
    refine wpAnyH_take (i := 0) (oi := { dst := some 5, op := Op.fieldAddr 30 (Operand.tmp 2) 0, type := 0, pos := "trace.go:93", after := #[], guard := none }) (v := .pointer (some ⟨w.heap.size, 0, none⟩)) rfl (by kernel_rfl) (by kernel_rfl) (by kernel_rfl) (fun _ _ _ h => h) (Or.inl ⟨by rfl, fun w' hw => by go_simp⟩) hS ?_
    try simp only [Act.put, List.setIfInBounds_toArray, List.set_cons_zero, List.set_cons_succ]
    refine wpAnyH_take (i := 1) (oi := { dst := some 6, op := Op.load 3 (Operand.tmp 5), type := 3, pos := "trace.go:93", after := #[{ on := 0, ground := Ground.data }], guard := none }) (v := .int .i64 x.1) rfl (by kernel_rfl) (by kernel_rfl) (by kernel_rfl) (fun _ _ _ h => h) (Or.inl ⟨by rfl, fun w' hw => by (have q := hw.cell a0 (by simp); go_simp)⟩) hS ?_
    try simp only [Act.put, List.setIfInBounds_toArray, List.set_cons_zero, List.set_cons_succ]
    refine wpAnyH_take (i := 2) (oi := { dst := some 7, op := Op.fieldAddr 30 (Operand.tmp 3) 0, type := 0, pos := "trace.go:93", after := #[], guard := none }) (v := .pointer (some ⟨w.heap.size + 1, 0, none⟩)) rfl (by kernel_rfl) (by kernel_rfl) (by kernel_rfl) (fun _ _ _ h => h) (Or.inl ⟨by rfl, fun w' hw => by go_simp⟩) hS ?_
    try simp only [Act.put, List.setIfInBounds_toArray, List.set_cons_zero, List.set_cons_succ]
    refine wpAnyH_take (i := 3) (oi := { dst := some 8, op := Op.load 3 (Operand.tmp 7), type := 3, pos := "trace.go:93", after := #[{ on := 2, ground := Ground.data }], guard := none }) (v := .int .i64 y.1) rfl (by kernel_rfl) (by kernel_rfl) (by kernel_rfl) (fun _ _ _ h => h) (Or.inl ⟨by rfl, fun w' hw => by (have q := hw.cell b0 (by simp); go_simp)⟩) hS ?_
    try simp only [Act.put, List.setIfInBounds_toArray, List.set_cons_zero, List.set_cons_succ]
    refine wpAnyH_take (i := 5) (oi := { dst := some 10, op := Op.fieldAddr 30 (Operand.tmp 2) 1, type := 0, pos := "trace.go:93", after := #[], guard := none }) (v := .pointer (some ⟨w.heap.size, 1, none⟩)) rfl (by kernel_rfl) (by kernel_rfl) (by kernel_rfl) (fun _ _ _ h => h) (Or.inl ⟨by rfl, fun w' hw => by go_simp⟩) hS ?_
    try simp only [Act.put, List.setIfInBounds_toArray, List.set_cons_zero, List.set_cons_succ]
    refine wpAnyH_take (i := 6) (oi := { dst := some 11, op := Op.load 3 (Operand.tmp 10), type := 3, pos := "trace.go:93", after := #[{ on := 5, ground := Ground.data }], guard := none }) (v := .int .i64 x.2) rfl (by kernel_rfl) (by kernel_rfl) (by kernel_rfl) (fun _ _ _ h => h) (Or.inl ⟨by rfl, fun w' hw => by (have q := hw.cell a1 (by simp); go_simp)⟩) hS ?_
    try simp only [Act.put, List.setIfInBounds_toArray, List.set_cons_zero, List.set_cons_succ]
    refine wpAnyH_take (i := 7) (oi := { dst := some 12, op := Op.fieldAddr 30 (Operand.tmp 3) 1, type := 0, pos := "trace.go:93", after := #[], guard := none }) (v := .pointer (some ⟨w.heap.size + 1, 1, none⟩)) rfl (by kernel_rfl) (by kernel_rfl) (by kernel_rfl) (fun _ _ _ h => h) (Or.inl ⟨by rfl, fun w' hw => by go_simp⟩) hS ?_
    try simp only [Act.put, List.setIfInBounds_toArray, List.set_cons_zero, List.set_cons_succ]
    refine wpAnyH_take (i := 8) (oi := { dst := some 13, op := Op.load 3 (Operand.tmp 12), type := 3, pos := "trace.go:93", after := #[{ on := 7, ground := Ground.data }], guard := none }) (v := .int .i64 y.2) rfl (by kernel_rfl) (by kernel_rfl) (by kernel_rfl) (fun _ _ _ h => h) (Or.inl ⟨by rfl, fun w' hw => by (have q := hw.cell b1 (by simp); go_simp)⟩) hS ?_
    try simp only [Act.put, List.setIfInBounds_toArray, List.set_cons_zero, List.set_cons_succ]
    refine wpAnyH_ready (rs := [4]) (by kernel_rfl) (by simp) ?_
    refine AllReadyH.cons (o := { dst := some 9, op := Op.call { callee := Callee.value (Operand.func 39), args := #[Operand.tmp 6, Operand.tmp 8], argTypes := #[3, 3] }, type := 3, pos := "trace.go:93", after := #[{ on := 1, ground := Ground.data }, { on := 3, ground := Ground.data }], guard := none }) rfl (fun K hK => ?_) AllReadyH.nil
    go_simp
    refine (compare_any _ _ _).mono ?_
    rintro e w' ⟨rfl, rfl⟩
    refine hK.out _ _ hS (fun _ => ?_)
    clear hK K
    try simp only [Act.put, List.setIfInBounds_toArray, List.set_cons_zero, List.set_cons_succ]
    refine wpAnyH_ready (rs := [9]) (by kernel_rfl) (by simp) ?_
    refine AllReadyH.cons (o := { dst := some 14, op := Op.call { callee := Callee.value (Operand.func 39), args := #[Operand.tmp 11, Operand.tmp 13], argTypes := #[3, 3] }, type := 3, pos := "trace.go:93", after := #[{ on := 6, ground := Ground.data }, { on := 8, ground := Ground.data }, { on := 4, ground := Ground.chain }], guard := none }) rfl (fun K hK => ?_) AllReadyH.nil
    go_simp
    refine (compare_any _ _ _).mono ?_
    rintro e w' ⟨rfl, rfl⟩
    refine hK.out _ _ hS (fun _ => ?_)
    clear hK K
    try simp only [Act.put, List.setIfInBounds_toArray, List.set_cons_zero, List.set_cons_succ]
    refine wpAnyH_ready (rs := [10]) (by kernel_rfl) (by simp) ?_
    refine AllReadyH.cons (o := { dst := some 15, op := Op.buildSlice 89 2 #[(0, Operand.tmp 9), (1, Operand.tmp 14)], type := 89, pos := "trace.go:93", after := #[{ on := 4, ground := Ground.data }, { on := 9, ground := Ground.data }], guard := none }) rfl (fun K hK => ?_) AllReadyH.nil
    go_simp
    have hS2 := hS.alloc (.cells #[.int .i64 (cmpI x.1 y.1), .int .i64 (cmpI x.2 y.2)] 3)
    have gC := heap_alloc_new W (.cells #[.int .i64 (cmpI x.1 y.1), .int .i64 (cmpI x.2 y.2)] 3)
    refine hK.out _ (W.alloc (.cells #[.int .i64 (cmpI x.1 y.1), .int .i64 (cmpI x.2 y.2)] 3)) hS2 (fun _ => ?_)
    clear hK K hS
    have hS := hS2
    clear hS2
    try simp only [Act.put, List.setIfInBounds_toArray, List.set_cons_zero, List.set_cons_succ]
    refine wpAnyH_ready (rs := [11]) (by kernel_rfl) (by simp) ?_
    refine AllReadyH.cons (o := { dst := some 16, op := Op.call { callee := Callee.value (Operand.func 38), args := #[Operand.tmp 15], argTypes := #[89] }, type := 3, pos := "trace.go:93", after := #[{ on := 10, ground := Ground.data }, { on := 9, ground := Ground.chain }], guard := none }) rfl (fun K hK => ?_) AllReadyH.nil
    go_simp
    refine (or_two W.heap.size _ _ _ gC).mono ?_
    rintro e w' ⟨rfl, rfl⟩
    rw [show (if cmpI x.1 y.1 = 0 then cmpI x.2 y.2 else cmpI x.1 y.1) = cmpK x y from rfl]
    refine hK.out _ (W.alloc (.cells #[.int .i64 (cmpI x.1 y.1), .int .i64 (cmpI x.2 y.2)] 3)) hS (fun _ => ?_)
    clear hK K
    try simp only [Act.put, List.setIfInBounds_toArray, List.set_cons_zero, List.set_cons_succ]
    refine wpAnyH_take (i := 12) (oi := { dst := some 4, op := Op.assign (Operand.tmp 16), type := 3, pos := "trace.go:93", after := #[{ on := 11, ground := Ground.data }, { on := 11, ground := Ground.chain }, { on := 0, ground := Ground.phase }, { on := 1, ground := Ground.phase }, { on := 2, ground := Ground.phase }, { on := 3, ground := Ground.phase }, { on := 4, ground := Ground.phase }, { on := 5, ground := Ground.phase }, { on := 6, ground := Ground.phase }, { on := 7, ground := Ground.phase }, { on := 8, ground := Ground.phase }, { on := 9, ground := Ground.phase }, { on := 10, ground := Ground.phase }, { on := 11, ground := Ground.phase }], guard := none }) (v := .int .i64 (cmpK x y)) rfl (by kernel_rfl) (by kernel_rfl) (by kernel_rfl) (fun _ _ _ h => h) (Or.inl ⟨by rfl, fun w' hw => by go_simp⟩) hS ?_
    try simp only [Act.put, List.setIfInBounds_toArray, List.set_cons_zero, List.set_cons_succ]
    refine wpAnyH_done (by kernel_rfl) ?_ _
    exact REST.out
  · go_wp2_with fail
    go_ret
    exact ⟨rfl, hfin⟩

/-- A slice of endpoints of the call's own, made since w0. -/
structure OwnK (w0 w : World) (v : Value) (ks : List Key) : Prop where
  row : w.ownsRow 0 30 2 v ks.length (ks.map encE).flatten
  new : ∀ g, v.ownBlock = some g → w0.heap.size ≤ g
theorem OwnK.nil (w0 w : World) : OwnK w0 w (.slice none 0 0) [] := ⟨World.ownsRow_nil _ _ _ _, by simp [Value.ownBlock]⟩
theorem OwnK.touch {S : List Nat} {w0 w w' : World} {v : Value} {ks : List Key} (h : OwnK w0 w v ks) (t : Touch S w w') (hn : ∀ g, v.ownBlock = some g → g ∉ S) : OwnK w0 w' v ks := ⟨t.owns h.row hn, h.new⟩
theorem OwnK.lt {w0 w : World} {v : Value} {ks : List Key} (h : OwnK w0 w v ks) : ∀ g, v.ownBlock = some g → g < w.heap.size := fun g hg => (h.row.lt g hg).2
theorem OwnK.older {w0 w1 w : World} {v : Value} {ks : List Key} (h : OwnK w1 w v ks) (hz : w0.heap.size ≤ w1.heap.size) : OwnK w0 w v ks := ⟨h.row, fun g hg => Nat.le_trans hz (h.new g hg)⟩

theorem ltC (x y : Key) : ltOf cmpK x y = decide (x.1 < y.1 ∨ (x.1 = y.1 ∧ x.2 < y.2)) := by
  unfold ltOf cmpK cmpI
  by_cases h1 : x.1 < y.1
  · simp [h1]
  · by_cases h2 : y.1 < x.1
    · have : ¬ x.1 = y.1 := by omega
      simp [h1, h2, this]
    · have h3 : x.1 = y.1 := by omega
      by_cases h4 : x.2 < y.2
      · simp [h3, h4]
      · by_cases h5 : y.2 < x.2 <;> simp [h3, h4, h5]
theorem swoK : SWO (ltOf cmpK) where
  irrefl x := by rw [ltC]; simp
  trans x y z h1 h2 := by rw [ltC] at *; simp at *; omega
  ntrans x y z h1 h2 := by rw [ltC] at *; simp at *; omega
theorem totK (x y : Key) (h1 : ltOf cmpK x y = false) (h2 : ltOf cmpK y x = false) : x = y := by
  rw [ltC] at *
  simp at *
  obtain ⟨a, b⟩ := x
  obtain ⟨c, d⟩ := y
  simp at *
  omega
def sortK (l : List Key) : List Key := l.mergeSort fun x y => !ltOf cmpK y x
theorem sortK_perm (l : List Key) : (sortK l).Perm l := List.mergeSort_perm _ _
theorem sortK_sorted (l : List Key) : (sortK l).Pairwise (fun x y => (!ltOf cmpK y x) = true) := by
  refine List.pairwise_mergeSort (le := fun x y => !ltOf cmpK y x) ?_ ?_ l
  · intro a b c h1 h2
    simp only [Bool.not_eq_true'] at *
    exact swoK.ntrans _ _ _ h2 h1
  · intro a b
    simp only [ltC]
    simp
    omega
theorem sorted_unique : ∀ {l l' : List Key}, l.Perm l' → l.Pairwise (fun x y => (!ltOf cmpK y x) = true) → l'.Pairwise (fun x y => (!ltOf cmpK y x) = true) → l = l'
  | [], l', hp, _, _ => (List.nil_perm.1 hp).symm
  | x :: l, l', hp, h1, h2 => by
    cases l' with
    | nil => simp at hp
    | cons y l' =>
      have hxy : x = y := by
        have hx : x ∈ y :: l' := hp.subset List.mem_cons_self
        have hy : y ∈ x :: l := hp.symm.subset List.mem_cons_self
        rcases List.mem_cons.1 hx with e | hx
        · exact e
        rcases List.mem_cons.1 hy with e | hy
        · exact e.symm
        have a1 := (List.pairwise_cons.1 h1).1 y hy
        have a2 := (List.pairwise_cons.1 h2).1 x hx
        exact totK x y (by simpa using a2) (by simpa using a1)
      subst hxy
      rw [sorted_unique (List.Perm.cons_inv hp) (List.pairwise_cons.1 h1).2 (List.pairwise_cons.1 h2).2]
theorem sortK_of_perm {l l' : List Key} (h : l.Perm l') : sortK l = sortK l' :=
  sorted_unique ((sortK_perm l).trans (h.trans (sortK_perm l').symm)) (sortK_sorted l) (sortK_sorted l')

theorem sizeOf30q : ∀ w, (Go.sizeOf 30).run Try.prog w = .ok 2 w := by
  intro w
  kernel_rfl
theorem isAgg30q : ∀ w, (isAgg 30).run Try.prog w = .ok true w := by
  intro w
  kernel_rfl
theorem cmpLays37 (blk off size : Nat) (w : World) : CmpLays Try.prog 37 #[] encE 2 cmpK blk off size w := fun _ _ _ _ x y => clos_37 x y _
theorem sort_any (v : Value) (ks : List Key) (w0 w : World) (ho : OwnK w0 w v ks) (hl : ks.length ≤ 1000) :
    Calls Try.prog 54 #[v, .func (.func 37) #[] #[]] w fun e w' => e = .returned (.tuple #[]) ∧ OwnK w0 w' v (sortK ks) ∧ Touch v.ownBlock.toList w w' := by
  have eg : ∀ args w, (callFunc 37 args).run Try.prog w = .ok (.enter 37 args) w := enters_of Try.func37 (by kernel_rfl) rfl
  obtain ⟨a, c, rfl, _, _, h3⟩ := owns_form ho.row
  cases ks with
  | nil =>
    have hcon := AnyF.slices_SortFunc_none { Try.sortL with } a c (.func (.func 37) #[] #[]) w
    change Calls Try.prog 54 _ _ _ at hcon
    refine hcon.mono fun e w' ⟨he, hw⟩ => ⟨he, ?_⟩
    subst hw
    have : sortK [] = [] := by simp [sortK]
    rw [this]
    exact ⟨ho, Touch.refl _ _⟩
  | cons k ks =>
    obtain ⟨g, rfl⟩ := h3 (by simp)
    have hcon := AnyQ.slices_SortFunc_total Try.sortL 2 isAgg30q sizeOf30q encE (fun _ => rfl) encE_one cmpK swoK 37 #[] g 0 c (k :: ks).toArray w eg (cmpLays37 g 0 _ w) (owns_holds encE_len (k :: ks) ho.row) (ho.lt g rfl) (by simp at hl ⊢; omega) totK
    change Calls Try.prog 54 _ _ _ at hcon
    have hl2 : (sortK (k :: ks)).length = (k :: ks).length := (sortK_perm _).length_eq
    refine hcon.mono fun e w' ⟨he, n, os, hw⟩ => ⟨he, ?_⟩
    have hs := owns_sorted (n := n) (os := os) encE_len (k :: ks) (sortK (k :: ks)) hl2 ho.row
    have ht := touch_sorted (enc := encE) (k := 2) w g n (sortK (k :: ks)).toArray os
    have hw2 : w' = sortWorldK encE 2 w g 0 n (sortK (k :: ks)).toArray os := by rw [hw]; rfl
    rw [hw2]
    refine ⟨⟨?_, ho.new⟩, by simpa [Value.ownBlock] using ht⟩
    rw [hl2] at hs ⊢
    exact hs


end Go.Proofs.Ytmdnkhpkpmbeoaa

/-
  maps.Keys, slices.Collect and slices.SortedFunc at endpoints.
-/
namespace Go.Proofs.Ytmdnkhpkpmbeoaa
open Go.RowKit Go.Maps Go.Sort Go.Shelf
set_option linter.unusedVariables false
set_option linter.unusedSimpArgs false

theorem keysE_any (mb : Option Nat) (w : World) : CallsIn Fence.wide 5 Try.prog 36 #[.map mb] w fun e w' => e = .returned (.func (.func 55) #[] #[.pointer (some ⟨w.heap.size, 0, none⟩)]) ∧ w' = w.alloc (.cells #[.map mb] 66) := by
  have u66 := run_underlying Try.underlying66
  refine callsIn_of_wp Try.func36 rfl trivial ?_ rfl
  simp only [Try.ntmps36, List.size_toArray, List.length_cons, List.length_nil, Nat.reduceAdd, Nat.reduceSub, Array.replicate_succ, Array.replicate_zero, List.push_toArray, List.append_toArray, List.nil_append, List.cons_append]
  gi_wp2
  go_ret
  exact ⟨rfl, rfl⟩
theorem keysE_gives (n : Nat) (hn : 1 ≤ n) (Bm b : Nat) (ks : List Key) (w : World) (hBm : Bm < w.heap.size) (hm : w.cell? ⟨Bm, 0, none⟩ = some (.map (some b))) (hown : Mp encK okK w b (ks.map tr)) :
    SeqGives Fence.wide n Try.prog 55 #[.pointer (some ⟨Bm, 0, none⟩)] encK (fun ss => ss.Perm ks) ks.length w := fun l J W hW hJ hY h0 => by
  have hown' : Mp encK okK W b (ks.map tr) := by
    obtain ⟨es, clock, h⟩ := hown
    exact ⟨es, clock, ⟨(hW.block b (Array.getElem?_eq_some_iff.1 h.blk).1).trans h.blk, h.st, h.eq, h.oks⟩⟩
  exact keys1_in Fence.wide n trivial rfl hn l Bm b ks J hY W hJ ((hW.cell (p := ⟨Bm, 0, none⟩) hBm).trans hm) hown' h0
theorem collectE_any (Bm b : Nat) (ks : List Key) (hl : ks.length ≤ 1000) (w : World) (hBm : Bm < w.heap.size) (hm : w.cell? ⟨Bm, 0, none⟩ = some (.map (some b))) (hown : Mp encK okK w b (ks.map tr)) :
    CallsIn Fence.wide 4 Try.prog 53 #[.func (.func 55) #[] #[.pointer (some ⟨Bm, 0, none⟩)]] w fun e w' => ∃ v ss, e = .returned v ∧ ss.Perm ks ∧ OwnK w w' v ss ∧ Touch [] w w' := by
  have u27 := run_underlying Try.underlying27
  have hseq := keysE_gives 2 (by omega) Bm b ks w hBm hm hown
  have hN : ks.length ≤ maxLen := by unfold maxLen; omega
  have cA := EpappendSeq_in Fence.wide 3 trivial rfl (by omega) 55 #[.pointer (some ⟨Bm, 0, none⟩)] trivial (enters_of Try.func55 (by kernel_rfl) rfl) _ ks.length hN (by omega) w hseq
  have hf : Fence.wide.fn 59 := trivial
  refine callsIn_of_wp Try.func53 rfl trivial ?_ rfl
  simp only [Try.ntmps53, List.size_toArray, List.length_cons, List.length_nil, Nat.reduceAdd, Nat.reduceSub, Array.replicate_succ, Array.replicate_zero, List.push_toArray, List.append_toArray, List.nil_append, List.cons_append]
  gi_wp2_with (gi_at_call 59; refine cA.mono ?_; rintro e w' ⟨v, ss, rfl, hS, hrow, hnil, hb⟩)
  go_ret
  exact ⟨v, ss, rfl, hS, ⟨ownsRow_base_a hrow (by simp), fun g hg => (hrow.lt g hg).1⟩, Touch.of_below hb⟩
theorem sortedE_any (Bm b : Nat) (ks : List Key) (hl : ks.length ≤ 1000) (w : World) (hBm : Bm < w.heap.size) (hm : w.cell? ⟨Bm, 0, none⟩ = some (.map (some b))) (hown : Mp encK okK w b (ks.map tr)) :
    Calls Try.prog 35 #[.func (.func 55) #[] #[.pointer (some ⟨Bm, 0, none⟩)], .func (.func 37) #[] #[]] w fun e w' => ∃ v, e = .returned v ∧ OwnK w w' v (sortK ks) ∧ Touch [] w w' := by
  have cC := callsIn_wide.1 (collectE_any Bm b ks hl w hBm hm hown)
  clear hm hown
  go_enter Try.func35, Try.ntmps35
  go_wp2_with fail
  refine cC.mono ?_
  rintro e w1 ⟨v, ss, rfl, hp, ho, t1⟩
  have T1 := Lib.hid t1
  clear t1
  have hl2 : ss.length ≤ 1000 := by have := hp.length_eq; omega
  have HQ := Lib.hid (sortK_of_perm hp)
  clear hp
  go_wp2_with fail
  refine (sort_any v ss w w1 ho hl2).mono ?_
  rintro e w2 ⟨rfl, ho2, t2⟩
  have T2 := Lib.hid (T1.out.trans t2 (fun x hx => .inr (ho.new x (by simpa using hx))))
  clear t2
  go_wp2_with fail
  go_ret
  exact ⟨v, rfl, by rw [← HQ.out]; exact ho2, T2.out⟩
theorem keysE_any' (mb : Option Nat) (w : World) : Calls Try.prog 36 #[.map mb] w fun e w' => e = .returned (.func (.func 55) #[] #[.pointer (some ⟨w.heap.size, 0, none⟩)]) ∧ w' = w.alloc (.cells #[.map mb] 66) := callsIn_wide.1 (keysE_any mb w)
end Go.Proofs.Ytmdnkhpkpmbeoaa

/-
  The program's LiveEndpoints.
-/
namespace Go.Proofs.Ytmdnkhpkpmbeoaa
open Go.RowKit Go.Sort Go.Shelf
set_option linter.unusedVariables false
set_option linter.unusedSimpArgs false

theorem applyL_len (live : List Key) (o : O) : (applyL live o).length ≤ live.length + 1 := by
  unfold applyL addS delS
  split
  · split <;> simp
  · split
    · exact Nat.le_succ_of_le (List.length_filter_le _ _)
    · omega
theorem liveP_len (l : List O) : (liveP l).length ≤ l.length := by
  have key : ∀ (l : List O) (a : List Key), (l.foldl applyL a).length ≤ a.length + l.length := by
    intro l
    induction l with
    | nil => intro a; simp
    | cons o l ih =>
      intro a
      have h1 := ih (applyL a o)
      have h2 := applyL_len a o
      simp only [List.foldl_cons, List.length_cons]
      omega
  have := key l []
  simpa [liveP] using this
theorem live_sort (l : List O) : sortK (liveP l) = liveR l := by
  obtain ⟨h1, h2, h3⟩ := live_same l
  refine sorted_unique ((sortK_perm _).trans (perm_of_same h1 h2 (ltK_nodup h3))) (sortK_sorted _) (h3.imp fun {x y} hxy => ?_)
  rw [ltC]
  have : ¬ ltK y x := fun h => ltK_irr hxy h
  unfold ltK at this hxy
  simp
  omega
set_option maxRecDepth 100000 in
set_option maxHeartbeats 4000000 in
theorem live_any (v : Value) (b : Nat) (l : List O) (w : World) (hr : Rd w 23 b v (rO l)) (hok : ∀ o ∈ l, OkO o) (hl : l.length ≤ 1000) :
    Calls Try.prog 11 #[v] w fun e w' => ∃ v', e = .returned v' ∧ OwnK w w' v' (liveR l) ∧ Touch [] w w' := by
  have HLS := Lib.hid (live_sort l)
  have HLL := Lib.hid (liveP_len l)
  obtain ⟨a, cap, rfl, hc, hcm⟩ := hr.form
  rw [rO_len] at hc hr ⊢
  clear hcm
  go_enter Try.func11, Try.ntmps11
  go_wp2_with fail
  refine (newr_any _).mono ?_
  rintro e w1 ⟨g, ml, ms, ma, rfl, hp⟩
  have HP := Lib.hid hp
  clear hp
  go_wp2_with fail
  go_loopw [9] (fun vi wr => ∃ (i : Nat) (shut : List Key) (A : List At), vi = .int .i64 i ∧ i ≤ l.length ∧ Rp w wr g ml ms ma (liveP (l.take i)) shut A) (fun vi _ => l.length - (intOf vi).toNat)
  case atStart => exact ⟨0, [], [], rfl, by omega, HP.out⟩
  case round =>
    obtain ⟨i, shut, A, rfl, hil, hp⟩ := hrel
    have HR := Lib.hid hp
    clear hp
    by_cases hlt : i < l.length
    · have hb1 : (i : Int) < (l.length : Int) := by omega
      have hx2 := List.getElem?_eq_getElem hlt
      have OKI := Lib.hid (hok _ (List.getElem_mem hlt))
      generalize l[i] = o at hx2 OKI
      obtain ⟨off, rfl, rI⟩ := (hr.touch HR.out.tt (by simp)).atO hx2
      have HX := Lib.hid (liveP_next hx2)
      have hwi : IntKind.i64.wrap ((i : Int) + 1) = (i : Int) + 1 := by rw [IntKind.wrap_i64] <;> omega
      have tb := (Touch.refl [] wr).alloc (.cells (encO o).toArray 36)
      have RBX := Lib.hid (range_block (heap_alloc_new wr (.cells (encO o).toArray 36)))
      have HR1 := Lib.hid (HR.out.touch tb)
      clear hx2 tb
      go_wp2_with (first
          | ((with_reducible refine at_load 36 ?_); refine wpList_load_mid rfl 36 _ rfl b (off + i * 23) rfl (encO o) _ rI Try.underlying36 rfl (by rw [infoO, OKI.out.len]) ?_)
          | ((with_reducible refine at_store 36 ?_); refine wpList_store_new rfl 36 _ _ rfl _ _ (encO o) (by rfl) (by rfl) (by rw [OKI.out.len]; rfl) (by rw [infoO, OKI.out.len]) OKI.out.one ?_)
          | ((with_reducible refine at_load 36 ?_); refine wpList_load_mid rfl 36 _ rfl wr.heap.size (0) rfl (encO o) _ RBX.out Try.underlying36 rfl (by rw [infoO, OKI.out.len]) ?_))
      refine (apply_any o OKI.out HR1.out).mono ?_
      rintro e w4 ⟨rfl, A', hp, hat⟩
      have HP4 := Lib.hid hp
      clear hp hat
      go_wp2_with fail
      go_roundw
      case rel => exact ⟨i + 1, _, A', by simp, by omega, by rw [HX.out]; exact HP4.out⟩
      case measure => simp [intOf]; omega
    · have hb1 : ¬ (i : Int) < (l.length : Int) := by omega
      rw [List.take_of_length_le (by omega)] at HR
      obtain ⟨c0, c1, c2⟩ := HR.out.cells
      have HMP := Lib.hid (HR.out.lv.touch ((Touch.refl [] wr).alloc (.cells #[.map (some ml)] 66)) (by simp))
      go_wp2_with fail
      refine (keysE_any' _ _).mono ?_
      rintro e w5 ⟨rfl, rfl⟩
      have cS := Lib.hid (sortedE_any wr.heap.size ml (liveP l) (by have := HLL.out; omega) (wr.alloc (.cells #[.map (some ml)] 66)) (by simp) (by simp) HMP.out)
      go_wp2_with fail
      refine cS.out.mono ?_
      rintro e w6 ⟨v', rfl, ho, t6⟩
      have T6 := Lib.hid ((HR.out.tt.alloc (.cells #[.map (some ml)] 66)).trans t6 (by simp))
      have HO := Lib.hid ho
      have HZ := Lib.hid HR.out.tt.size
      clear t6 ho
      go_wp2_with fail
      go_ret
      exact ⟨v', rfl, by rw [← HLS.out]; exact HO.out.older (by have := HZ.out; simp; omega), T6.out⟩
end Go.Proofs.Ytmdnkhpkpmbeoaa

/-
  Merged texts: Rp, Al.
-/
import Derived.Test.YtmdnkhpkpmbeoaaV4
import Derived.Deep.CutRange
import Derived.Deep.CutBlock

/-
  The replay: what it is in memory, what its operations make of it.
-/
namespace Go.Proofs.Ytmdnkhpkpmbeoaa
open Go.RowKit
set_option linter.unusedVariables false
set_option linter.unusedSimpArgs false

theorem zeroB (w : World) : (zeroValue 4).run Try.prog w = .ok (.bool false) w := by kernel_rfl
theorem zeroM (w : World) : (zeroValue 85).run Try.prog w = .ok (.map none) w := by kernel_rfl
def tr {α : Type} (x : α) : α × Value := (x, .bool true)
/-- A set: one more, one less. -/
def addS {α : Type} [DecidableEq α] (l : List α) (x : α) : List α := if x ∈ l then l else l ++ [x]
def delS {α : Type} [DecidableEq α] (l : List α) (x : α) : List α := l.filter fun y => decide (y ≠ x)
section
variable {α : Type} [DecidableEq α]
theorem look_tr (l : List α) (x : α) : look (l.map tr) x = if x ∈ l then some (.bool true) else none := by
  induction l with
  | nil => rfl
  | cons y r ih =>
    unfold look at *
    simp only [List.map_cons, List.find?_cons, tr]
    by_cases h : y = x
    · simp [h]
    · have h2 : ¬ x = y := fun e => h e.symm
      simp only [h, decide_false, List.mem_cons, h2, false_or]
      exact ih
theorem put_tr (l : List α) (x : α) : put (l.map tr) x (.bool true) = (addS l x).map tr := by
  unfold put addS
  rw [look_tr]
  by_cases h : x ∈ l
  · simp only [h, if_true, Option.isSome_some]
    rw [List.map_map]
    refine List.map_congr_left fun y _ => ?_
    simp only [Function.comp, tr]
    by_cases h2 : y = x <;> simp [h2]
  · simp [h, tr]
theorem del_tr (l : List α) (x : α) : del (l.map tr) x = (delS l x).map tr := by
  unfold del delS
  rw [List.filter_map]
  congr 1
  refine List.filter_congr fun y _ => ?_
  by_cases h : y = x <;> simp [tr, h]
end
/-- A connection's attempts: the connection, the block of its map, the attempts. -/
structure At where
  c : Int
  b : Nat
  l : List Int
def atv (p : At) : Int × Value := (p.c, .map (some p.b))
def atF (A : List At) (c : Int) : Option At := A.find? fun p => decide (p.c = c)
def atL (A : List At) (c : Int) : List Int := match atF A c with | some p => p.l | none => []
theorem look_at (A : List At) (c : Int) : look (A.map atv) c = (atF A c).map fun p => .map (some p.b) := by
  induction A with
  | nil => rfl
  | cons f r ih =>
    unfold look atF at *
    simp only [List.map_cons, List.find?_cons, atv]
    by_cases h : f.c = c
    · simp [h]
    · simp only [h, decide_false]
      exact ih
theorem atF_some {A : List At} {c : Int} {p : At} (h : atF A c = some p) : p ∈ A ∧ p.c = c := ⟨List.mem_of_find?_eq_some h, by simpa using List.find?_some h⟩
/-- The connection's map is a new one. -/
def setAt (A : List At) (q : At) : List At := if (atF A q.c).isSome then A.map (fun p => if p.c = q.c then q else p) else A ++ [q]
theorem put_at (A : List At) (q : At) : put (A.map atv) q.c (.map (some q.b)) = (setAt A q).map atv := by
  unfold put setAt
  rw [look_at]
  by_cases h : (atF A q.c).isSome
  · simp only [Option.isSome_map, h, if_true]
    rw [List.map_map, List.map_map]
    refine List.map_congr_left fun y _ => ?_
    simp only [Function.comp, atv]
    by_cases h2 : y.c = q.c <;> simp [h2]
  · simp [h, atv]
/-- One more attempt. -/
def addAt (A : List At) (c a : Int) : List At := A.map fun p => if p.c = c then { p with l := addS p.l a } else p
theorem addAt_v (A : List At) (c a : Int) : (addAt A c a).map atv = A.map atv := by
  unfold addAt
  rw [List.map_map]
  refine List.map_congr_left fun y _ => ?_
  simp only [Function.comp, atv]
  split <;> rfl
theorem addAt_b (A : List At) (c a : Int) : (addAt A c a).map (·.b) = A.map (·.b) := by
  unfold addAt
  rw [List.map_map]
  refine List.map_congr_left fun y _ => ?_
  simp only [Function.comp]
  split <;> rfl
def Rfoot (g ml ms ma : Nat) (A : List At) : List Nat := g :: ml :: ms :: ma :: A.map (·.b)
/-- The replay at block g. -/
structure Rp (w0 w : World) (g ml ms ma : Nat) (live shut : List Key) (A : List At) : Prop where
  hdr : w.heap[g]? = some (.cells #[.map (some ml), .map (some ms), .map (some ma)] 69 (0, 0))
  lv : Mp encK okK w ml (live.map tr)
  sh : Mp encK okK w ms (shut.map tr)
  av : Mp encZ wf w ma (A.map atv)
  inn : ∀ p ∈ A, Mp encZ wf w p.b (p.l.map tr)
  cs : (A.map (·.c)).Nodup
  n1 : g ≠ ml ∧ g ≠ ms ∧ g ≠ ma ∧ ml ≠ ms ∧ ml ≠ ma ∧ ms ≠ ma
  n2 : ∀ p ∈ A, p.b ≠ g ∧ p.b ≠ ml ∧ p.b ≠ ms ∧ p.b ≠ ma
  n3 : (A.map (·.b)).Nodup
  new : ∀ y ∈ Rfoot g ml ms ma A, w0.heap.size ≤ y
  tt : Touch [] w0 w
section
variable {w0 w w' : World} {g ml ms ma : Nat} {live shut : List Key} {A : List At}
theorem Rp.touch (h : Rp w0 w g ml ms ma live shut A) (t : Touch [] w w') : Rp w0 w' g ml ms ma live shut A :=
  ⟨t.at h.hdr (by simp), h.lv.touch t (by simp), h.sh.touch t (by simp), h.av.touch t (by simp), fun p hp => (h.inn p hp).touch t (by simp), h.cs, h.n1, h.n2, h.n3, h.new, h.tt.trans t (by simp)⟩
theorem Rp.nw (h : Rp w0 w g ml ms ma live shut A) : w0.heap.size ≤ g ∧ w0.heap.size ≤ ml ∧ w0.heap.size ≤ ms ∧ w0.heap.size ≤ ma := ⟨h.new _ (by simp [Rfoot]), h.new _ (by simp [Rfoot]), h.new _ (by simp [Rfoot]), h.new _ (by simp [Rfoot])⟩
theorem Rp.cells (h : Rp w0 w g ml ms ma live shut A) : w.cell? ⟨g, 0, none⟩ = some (.map (some ml)) ∧ w.cell? ⟨g, 1, none⟩ = some (.map (some ms)) ∧ w.cell? ⟨g, 2, none⟩ = some (.map (some ma)) := by
  simp [World.cell?, h.hdr]
/-- The live endpoints have changed. -/
theorem Rp.setL (h : Rp w0 w g ml ms ma live shut A) (t : Touch [ml] w w') {l2 : List Key} (q : Mp encK okK w' ml (l2.map tr)) : Rp w0 w' g ml ms ma l2 shut A := by
  obtain ⟨a1, a2, a3, a4, a5, a6⟩ := h.n1
  exact ⟨t.at h.hdr (by simpa using a1), q, h.sh.touch t (by simpa using Ne.symm a4), h.av.touch t (by simpa using Ne.symm a5), fun p hp => (h.inn p hp).touch t (by simpa using (h.n2 p hp).2.1), h.cs, h.n1, h.n2, h.n3, h.new, h.tt.trans t (by intro y hy; right; simp at hy; subst hy; exact h.nw.2.1)⟩
theorem Rp.setS (h : Rp w0 w g ml ms ma live shut A) (t : Touch [ms] w w') {l2 : List Key} (q : Mp encK okK w' ms (l2.map tr)) : Rp w0 w' g ml ms ma live l2 A := by
  obtain ⟨a1, a2, a3, a4, a5, a6⟩ := h.n1
  exact ⟨t.at h.hdr (by simpa using a2), h.lv.touch t (by simpa using a4), q, h.av.touch t (by simpa using Ne.symm a6), fun p hp => (h.inn p hp).touch t (by simpa using (h.n2 p hp).2.2.1), h.cs, h.n1, h.n2, h.n3, h.new, h.tt.trans t (by intro y hy; right; simp at hy; subst hy; exact h.nw.2.2.1)⟩
/-- A connection's map is a new one. -/
theorem Rp.setA (h : Rp w0 w g ml ms ma live shut A) (t : Touch [ml, ma] w w') {q : At} {l2 : List Key} (hq : Mp encK okK w' ml (l2.map tr)) (m : Mp encZ wf w' ma ((setAt A q).map atv)) (hin : Mp encZ wf w' q.b (q.l.map tr))
    (hb : q.b ∉ Rfoot g ml ms ma A) (hn : w0.heap.size ≤ q.b) : Rp w0 w' g ml ms ma l2 shut (setAt A q) := by
  obtain ⟨a1, a2, a3, a4, a5, a6⟩ := h.n1
  simp only [Rfoot, List.mem_cons, not_or] at hb
  obtain ⟨b1, b2, b3, b4, b5⟩ := hb
  have hmem : ∀ p ∈ setAt A q, p = q ∨ p ∈ A := by
    intro p hp
    unfold setAt at hp
    split at hp
    · obtain ⟨r, hr, e⟩ := List.mem_map.1 hp
      split at e
      · exact .inl e.symm
      · exact .inr (e ▸ hr)
    · rcases List.mem_append.1 hp with hp | hp
      · exact .inr hp
      · exact .inl (by simpa using hp)
  refine ⟨t.at h.hdr (by simp [a1, a3]), hq, h.sh.touch t (by simp [Ne.symm a4, a6]), m, ?_, ?_, h.n1, ?_, ?_, ?_, h.tt.trans t (by intro y hy; right; simp at hy; rcases hy with rfl | rfl; exact h.nw.2.1; exact h.nw.2.2.2)⟩
  · intro p hp
    rcases hmem p hp with rfl | hp
    · exact hin
    · exact (h.inn p hp).touch t (by simp [(h.n2 p hp).2.1, (h.n2 p hp).2.2.2])
  · have := m.nodup
    rw [List.map_map] at this
    exact this
  · intro p hp
    rcases hmem p hp with rfl | hp
    · exact ⟨b1, b2, b3, b4⟩
    · exact h.n2 p hp
  · unfold setAt
    split
    · rename_i hs
      obtain ⟨p0, hp0⟩ := Option.isSome_iff_exists.1 hs
      have hcs := h.cs
      have hn3 := h.n3
      clear hmem m hin t
      rw [List.map_map]
      have key : ∀ (A : List At), (A.map (·.c)).Nodup → (A.map (·.b)).Nodup → q.b ∉ A.map (·.b) → (A.map ((·.b) ∘ fun p => if p.c = q.c then q else p)).Nodup := by
        intro A
        induction A with
        | nil => simp
        | cons a r ih =>
          intro h1 h2 h3
          simp only [List.map_cons, List.nodup_cons, List.mem_cons, not_or] at h1 h2 h3 ⊢
          refine ⟨?_, ih h1.2 h2.2 h3.2⟩
          simp only [Function.comp]
          intro hm
          obtain ⟨p, hp, e⟩ := List.mem_map.1 hm
          simp only [Function.comp] at e
          by_cases ha : a.c = q.c
          · by_cases hpc : p.c = q.c
            · exact h1.1 (List.mem_map.2 ⟨p, hp, by rw [hpc, ha]⟩)
            · simp only [ha, hpc, if_true, if_false] at e
              exact h3.2 (List.mem_map.2 ⟨p, hp, e⟩)
          · by_cases hpc : p.c = q.c
            · simp only [ha, hpc, if_true, if_false] at e
              exact h3.1 e
            · simp only [ha, hpc, if_false] at e
              exact h2.1 (List.mem_map.2 ⟨p, hp, e⟩)
      exact key A hcs hn3 b5
    · rw [List.map_append, List.nodup_append]
      refine ⟨h.n3, by simp, fun x hx y hy e => ?_⟩
      simp at hy
      subst hy
      exact b5 (e ▸ hx)
  · intro y hy
    simp only [Rfoot, List.mem_cons, List.mem_map] at hy
    rcases hy with rfl | rfl | rfl | rfl | ⟨p, hp, rfl⟩
    · exact h.nw.1
    · exact h.nw.2.1
    · exact h.nw.2.2.1
    · exact h.nw.2.2.2
    · rcases hmem p hp with rfl | hp
      · exact hn
      · exact h.new _ (by simp only [Rfoot, List.mem_cons]; exact .inr (.inr (.inr (.inr (List.mem_map.2 ⟨p, hp, rfl⟩)))))
/-- One more attempt in a connection's map. -/
theorem Rp.setI (h : Rp w0 w g ml ms ma live shut A) {c a : Int} {p : At} (hp : atF A c = some p) (t : Touch [p.b] w w') (q : Mp encZ wf w' p.b ((addS p.l a).map tr)) : Rp w0 w' g ml ms ma live shut (addAt A c a) := by
  obtain ⟨hpA, hpc⟩ := atF_some hp
  obtain ⟨e1, e2, e3, e4⟩ := h.n2 p hpA
  have hmem : ∀ r ∈ addAt A c a, ∃ r0 ∈ A, r0.b = r.b ∧ r0.c = r.c ∧ ((r0.c = c ∧ r.l = addS r0.l a) ∨ (r0.c ≠ c ∧ r.l = r0.l)) := by
    intro r hr
    obtain ⟨r0, h0, e⟩ := List.mem_map.1 hr
    refine ⟨r0, h0, ?_⟩
    split at e
    · rename_i hc
      subst e
      exact ⟨rfl, rfl, .inl ⟨hc, rfl⟩⟩
    · rename_i hc
      subst e
      exact ⟨rfl, rfl, .inr ⟨hc, rfl⟩⟩
  have hinj : ∀ r ∈ A, r.c = c → r = p := by
    intro r hr hc
    obtain ⟨i, hi, e5⟩ := List.getElem_of_mem hr
    obtain ⟨j, hj, e6⟩ := List.getElem_of_mem hpA
    have := nodup_inj (l := A.map (·.c)) (hi := by simpa using hi) (hj := by simpa using hj) h.cs (by simp [e5, e6, hc, hpc])
    subst this
    rw [← e5, ← e6]
  have hbne : ∀ r ∈ A, r.c ≠ c → r.b ≠ p.b := by
    intro r hr hc e
    obtain ⟨i, hi, e5⟩ := List.getElem_of_mem hr
    obtain ⟨j, hj, e6⟩ := List.getElem_of_mem hpA
    have := nodup_inj (l := A.map (·.b)) (hi := by simpa using hi) (hj := by simpa using hj) h.n3 (by simp [e5, e6, e])
    subst this
    rw [e5] at e6
    rw [e6] at hc
    exact hc hpc
  refine ⟨t.at h.hdr (by simpa using Ne.symm e1), h.lv.touch t (by simpa using Ne.symm e2), h.sh.touch t (by simpa using Ne.symm e3), by rw [addAt_v]; exact h.av.touch t (by simpa using Ne.symm e4), ?_, ?_, h.n1, ?_, by rw [addAt_b]; exact h.n3, ?_, h.tt.trans t (by intro y hy; right; simp at hy; subst hy; exact h.new _ (by simp only [Rfoot, List.mem_cons]; exact .inr (.inr (.inr (.inr (List.mem_map.2 ⟨p, hpA, rfl⟩)))))) ⟩
  · intro r hr
    obtain ⟨r0, h0, hb, hc, hh | hh⟩ := hmem r hr
    · have := hinj r0 h0 hh.1
      subst this
      rw [← hb, hh.2]
      exact q
    · rw [← hb, hh.2]
      exact (h.inn r0 h0).touch t (by simpa using hbne r0 h0 hh.1)
  · have : (addAt A c a).map (·.c) = A.map (·.c) := by
      unfold addAt
      rw [List.map_map]
      refine List.map_congr_left fun y _ => ?_
      simp only [Function.comp]
      split <;> rfl
    rw [this]
    exact h.cs
  · intro r hr
    obtain ⟨r0, h0, hb, _⟩ := hmem r hr
    rw [← hb]
    exact h.n2 r0 h0
  · intro y hy
    simp only [Rfoot, addAt_b] at hy
    exact h.new y hy
end
theorem atF_setAt (A : List At) (q : At) (c : Int) : atF (setAt A q) c = if c = q.c then some q else atF A c := by
  unfold setAt
  by_cases hs : (atF A q.c).isSome
  · simp only [hs, if_true]
    induction A with
    | nil => simp [atF] at hs
    | cons a r ih =>
      unfold atF at *
      simp only [List.map_cons, List.find?_cons]
      by_cases ha : a.c = q.c
      · simp only [ha, if_true]
        by_cases hc : c = q.c
        · simp [hc]
        · have h2 : ¬ q.c = c := fun e => hc e.symm
          simp only [h2, decide_false, hc, if_false]
          by_cases hr : (r.find? fun p => decide (p.c = q.c)).isSome
          · have := ih hr
            rw [this]
            simp [hc]
          · have hno : ∀ p ∈ r, ¬ p.c = q.c := by
              intro p hp e
              exact hr (List.find?_isSome.2 ⟨p, hp, by simpa using e⟩)
            have : r.map (fun p => if p.c = q.c then q else p) = r := by
              rw [List.map_congr_left (g := id) (fun p hp => by simp [hno p hp])]
              simp
            rw [this]
      · simp only [ha, if_false]
        simp only [List.find?_cons, ha, decide_false] at hs
        by_cases hc2 : a.c = c
        · have h3 : ¬ c = q.c := fun e => ha (hc2.trans e)
          simp [hc2, h3]
        · simp only [hc2, decide_false]
          exact ih hs
  · rw [if_neg hs]
    unfold atF at *
    rw [List.find?_append]
    by_cases hc : c = q.c
    · subst hc
      have : (A.find? fun p => decide (p.c = q.c)) = none := by simpa using hs
      rw [this]
      simp
    · have h2 : ¬ q.c = c := fun e => hc e.symm
      simp [hc, h2]
theorem atF_addAt (A : List At) (c a c' : Int) : atF (addAt A c a) c' = (atF A c').map fun p => if p.c = c then { p with l := addS p.l a } else p := by
  unfold atF addAt
  rw [List.find?_map]
  congr 1
  refine congrArg (fun f => A.find? f) (funext fun p => ?_)
  simp only [Function.comp]
  split <;> rfl
theorem atL_setAt (A : List At) (q : At) (c : Int) : atL (setAt A q) c = if c = q.c then q.l else atL A c := by
  unfold atL
  rw [atF_setAt]
  by_cases hc : c = q.c <;> simp [hc]
theorem atL_addAt {A : List At} {c a : Int} {p : At} (hp : atF A c = some p) (c' : Int) : atL (addAt A c a) c' = if c' = c then addS (atL A c') a else atL A c' := by
  unfold atL
  rw [atF_addAt]
  by_cases hc : c' = c
  · subst hc
    simp [hp, (atF_some hp).2]
  · cases h : atF A c' with
    | none => simp [hc]
    | some r =>
      have : ¬ r.c = c := fun e => hc ((atF_some h).2.symm.trans e)
      simp [hc, this]
end Go.Proofs.Ytmdnkhpkpmbeoaa

/-
  The replay: newReplay, allows.
-/
namespace Go.Proofs.Ytmdnkhpkpmbeoaa
open Go.RowKit
set_option linter.unusedVariables false
set_option linter.unusedSimpArgs false

set_option maxRecDepth 100000 in
set_option maxHeartbeats 4000000 in
theorem newr_any (w : World) : Calls Try.prog 33 #[] w fun e w' => ∃ g ml ms ma, e = .returned (.pointer (some ⟨g, 0, none⟩)) ∧ Rp w w' g ml ms ma [] [] [] := by
  have t1 := (Touch.refl [] w).alloc (.map #[] 0)
  have t2 := (Touch.refl [] (w.alloc (.map #[] 0))).alloc (.map #[] 0)
  have t3 := (Touch.refl [] ((w.alloc (.map #[] 0)).alloc (.map #[] 0))).alloc (.map #[] 0)
  have t4 := (Touch.refl [] (((w.alloc (.map #[] 0)).alloc (.map #[] 0)).alloc (.map #[] 0))).alloc (.cells #[.map (some w.heap.size), .map (some (w.heap.size + 1)), .map (some (w.heap.size + 1 + 1))] 69)
  have m1 : Mp encK okK (w.alloc (.map #[] 0)) w.heap.size [] := Mp.made w
  have m2 : Mp encK okK ((w.alloc (.map #[] 0)).alloc (.map #[] 0)) (w.heap.size + 1) [] := by have := Mp.made (enc := encK) (ok := okK) (w.alloc (.map #[] 0)); simpa using this
  have m3 : Mp encZ wf (((w.alloc (.map #[] 0)).alloc (.map #[] 0)).alloc (.map #[] 0)) (w.heap.size + 1 + 1) [] := by have := Mp.made (enc := encZ) (ok := wf) ((w.alloc (.map #[] 0)).alloc (.map #[] 0)); simpa using this
  have h4 := heap_alloc_new (((w.alloc (.map #[] 0)).alloc (.map #[] 0)).alloc (.map #[] 0)) (.cells #[.map (some w.heap.size), .map (some (w.heap.size + 1)), .map (some (w.heap.size + 1 + 1))] 69)
  have H := Lib.hid (Rp.mk (w0 := w) (g := w.heap.size + 1 + 1 + 1) (live := []) (shut := []) (A := []) (by simpa using h4) ((((m1.touch t2 (by simp)).touch t3 (by simp)).touch t4 (by simp))) ((m2.touch t3 (by simp)).touch t4 (by simp)) (m3.touch t4 (by simp)) (by simp) (by simp) (by omega) (by simp) (by simp) (by intro y hy; simp [Rfoot] at hy; omega) (((t1.trans t2 (by simp)).trans t3 (by simp)).trans t4 (by simp)))
  clear t1 t2 t3 t4 m1 m2 m3 h4
  go_enter Try.func33, Try.ntmps33
  have u1 := run_underlying Try.underlying66
  have u2 := run_underlying Try.underlying67
  have hmm := @run_makeMap Try.prog
  go_wp2_with fail
  go_ret
  exact ⟨_, _, _, _, rfl, H.out⟩
/-- Whether an output is valid in a state. -/
def allowsP (live shut : List Key) (A : List At) (o : O) : Bool :=
  if o.k = 1 then !decide (epO o ∈ live)
  else if o.k = 4 then (decide (1 ≤ o.a) && !decide (o.a ∈ atL A o.c) && !decide (epO o ∈ live) && decide ((o.c, (0 : Int)) ∈ live))
  else if o.k = 3 ∨ o.k = 7 then decide (epO o ∈ live)
  else if o.k = 5 then (decide (epO o ∈ live) && !decide (epO o ∈ shut) && !o.d.toList.isEmpty)
  else if o.k = 6 then (decide (epO o ∈ live) && !decide (epO o ∈ shut))
  else decide (o.k = 2)
theorem exec_lookup {P : Program} {a : Act} {w : World} (op : Oper) (t : TypeId) (x y : Operand) (c : Bool) (ho : op.op = .lookup t x y c) (vx vy : Value) (hx : a.eval x = vx) (hy : a.eval y = vy) (v : Value) (hr : (Instr.lookup t vx vy c).run P w = .ok v w) : (execOp a.eval op).run P w = .ok (.value v) w := by
  unfold execOp
  simp only [ho, hx, hy, Sem.run_bind, hr, Result.andThen_ok, Sem.run_pure]
section
variable {w0 w : World} {g ml ms ma : Nat} {live shut : List Key} {A : List At}
theorem Rp.lookL (h : Rp w0 w g ml ms ma live shut A) (x : Key) (hx : okK x) : (Instr.lookup 66 (.map (some ml)) (encK x) false).run Try.prog w = .ok (.bool (decide (x ∈ live))) w := by
  have := h.lv.lookup keyK Try.underlying66 (zeroB _) hx false
  rw [look_tr] at this
  rw [this]
  by_cases hm : x ∈ live <;> simp [hm]
theorem Rp.lookS (h : Rp w0 w g ml ms ma live shut A) (x : Key) (hx : okK x) : (Instr.lookup 66 (.map (some ms)) (encK x) false).run Try.prog w = .ok (.bool (decide (x ∈ shut))) w := by
  have := h.sh.lookup keyK Try.underlying66 (zeroB _) hx false
  rw [look_tr] at this
  rw [this]
  by_cases hm : x ∈ shut <;> simp [hm]
def mapA (A : List At) (c : Int) : Value := match atF A c with | some p => .map (some p.b) | none => .map none
theorem Rp.lookA (h : Rp w0 w g ml ms ma live shut A) {c : Int} (hc : wf c) : (Instr.lookup 67 (.map (some ma)) (.int .i64 c) false).run Try.prog w = .ok (mapA A c) w := by
  have := h.av.lookup keyZ Try.underlying67 (zeroM _) hc false
  rw [look_at] at this
  refine this.trans ?_
  unfold mapA
  cases atF A c <;> rfl
theorem Rp.lookI (h : Rp w0 w g ml ms ma live shut A) {c a : Int} (ha : wf a) : (Instr.lookup 85 (mapA A c) (.int .i64 a) false).run Try.prog w = .ok (.bool (decide (a ∈ atL A c))) w := by
  unfold mapA atL
  cases hf : atF A c with
  | none =>
    obtain ⟨l, hl⟩ := keyZ.lit a ha
    have hck := keyZ.K.check w true hl
    simp only [encZ] at hck
    simp [Instr.lookup, run_underlying Try.underlying85, Result.andThen, zeroB, hck, Instr.findKey]
    simp [Instr.findNow, Instr.findAsking, zeroB]
  | some p =>
    have := (h.inn p (atF_some hf).1).lookup keyZ Try.underlying85 (zeroB _) ha false
    rw [look_tr] at this
    refine this.trans ?_
    by_cases hm : a ∈ p.l <;> simp [hm]
end
set_option maxRecDepth 100000 in
set_option maxHeartbeats 4000000 in
theorem allows_any {w0 w : World} {g ml ms ma : Nat} {live shut : List Key} {A : List At} (o : O) (ok : OkO o) (h : Rp w0 w g ml ms ma live shut A) :
    Calls Try.prog 43 #[.pointer (some ⟨g, 0, none⟩), .agg (encO o).toArray] w fun e w' => e = .returned (.bool (allowsP live shut A o)) ∧ Touch [] w w' := by
  have T0 := (Touch.refl [] w).alloc (.cells (encO o).toArray 36)
  have HB := Lib.hid (heap_alloc_new w (.cells (encO o).toArray 36))
  have HT0 := Lib.hid T0
  have OKI := Lib.hid ok
  have HR := Lib.hid h
  have HXO := Lib.hid (epO_ok ok)
  have HCO := Lib.hid (show okK (o.c, 0) from ⟨ok.c, wf_small (by simp) (by simp)⟩)
  clear T0 ok h
  go_enter Try.func43, Try.ntmps43
  go_wp2_with ((with_reducible refine at_load 36 ?_); refine wpList_load_mid rfl 36 _ rfl w.heap.size (0) rfl (encO o) _ (range_block HB.out) Try.underlying36 rfl (by rw [infoO, OKI.out.len]) ?_)
  refine (ep_any o OKI.out _).mono ?_
  rintro e w2 ⟨rfl, t2⟩
  obtain ⟨⟨ec, ea⟩, he⟩ : ∃ p, epO o = p := ⟨_, rfl⟩
  rw [he]
  simp only [encK]
  have HEP := Lib.hid he
  clear he
  go_upto_region 2 with (fail)
  have t3 := (HT0.out.trans t2 (by simp)).alloc (.cells #[.int .i64 ec, .int .i64 ea] 30)
  have t4 := t2.alloc (.cells #[.int .i64 ec, .int .i64 ea] 30)
  have HW := Lib.hid (HR.out.touch t3)
  have HBW := Lib.hid (t4.at HB.out (by simp))
  have HEW := Lib.hid (heap_alloc_new w2 (.cells #[.int .i64 ec, .int .i64 ea] 30))
  have TW := Lib.hid t3
  have HGE := Lib.hid (show w2.heap.size ≠ w.heap.size by have := t2.size; simp at this; omega)
  clear t2 t3 t4 HR HB HT0
  obtain ⟨gB, hgB⟩ : ∃ g, g = w.heap.size := ⟨_, rfl⟩
  rw [← hgB] at HBW ⊢
  obtain ⟨gE, hgE⟩ : ∃ g, g = w2.heap.size := ⟨_, rfl⟩
  rw [← hgE] at HEW ⊢
  clear hgB hgE
  generalize w2.alloc (.cells #[.int .i64 ec, .int .i64 ea] 30) = W at *
  obtain ⟨b0, b1, b2, b3, _, _, _⟩ := O.cells OKI.out (range_block HBW.out)
  try simp only [Nat.zero_add] at b0 b1 b2 b3
  have e0 : W.cell? ⟨gE, 0, none⟩ = some (.int .i64 ec) := by simp [World.cell?, HEW.out]
  have e1 : W.cell? ⟨gE, 1, none⟩ = some (.int .i64 ea) := by simp [World.cell?, HEW.out]
  obtain ⟨c0, c1, c2⟩ := HW.out.cells
  obtain ⟨L1, L2, L3, L4⟩ : (∀ n, (Instr.lookup 66 (.map (some ml)) (.agg #[.int .i64 ec, .int .i64 ea]) false).run Try.prog (W.drewN n) = .ok (.bool (decide (epO o ∈ live))) (W.drewN n)) ∧ (∀ n, (Instr.lookup 66 (.map (some ms)) (.agg #[.int .i64 ec, .int .i64 ea]) false).run Try.prog (W.drewN n) = .ok (.bool (decide (epO o ∈ shut))) (W.drewN n)) ∧ (∀ n, (Instr.lookup 67 (.map (some ma)) (.int .i64 o.c) false).run Try.prog (W.drewN n) = .ok (mapA A o.c) (W.drewN n)) ∧ (∀ n, (Instr.lookup 85 (mapA A o.c) (.int .i64 o.a) false).run Try.prog (W.drewN n) = .ok (.bool (decide (o.a ∈ atL A o.c))) (W.drewN n)) := by
    have hw : ∀ n, Rp w0 (W.drewN n) g ml ms ma live shut A := fun n => HW.out.touch ((Touch.refl [] W).drews n)
    refine ⟨fun n => ?_, fun n => ?_, fun n => (hw n).lookA OKI.out.c, fun n => (hw n).lookI OKI.out.a⟩
    · have := (hw n).lookL (epO o) HXO.out
      rw [HEP.out] at this ⊢
      exact this
    · have := (hw n).lookS (epO o) HXO.out
      rw [HEP.out] at this ⊢
      exact this
  obtain ⟨lb, hlb⟩ : ∃ lb, decide (epO o ∈ live) = lb := ⟨_, rfl⟩
  obtain ⟨sb, hsb⟩ : ∃ sb, decide (epO o ∈ shut) = sb := ⟨_, rfl⟩
  obtain ⟨mb, hmb⟩ : ∃ mb, decide (o.a ∈ atL A o.c) = mb := ⟨_, rfl⟩
  obtain ⟨cb, hcb⟩ : ∃ cb, decide ((o.c, (0 : Int)) ∈ live) = cb := ⟨_, rfl⟩
  obtain ⟨mv, hmv⟩ : ∃ mv, mapA A o.c = mv := ⟨_, rfl⟩
  rw [hlb] at L1
  rw [hsb] at L2
  rw [hmv] at L3 L4
  rw [hmb] at L4
  have HLB := Lib.hid hlb
  have HSB := Lib.hid hsb
  have HMB := Lib.hid hmb
  have HCB := Lib.hid hcb
  have HMV := Lib.hid hmv
  clear hlb hsb hmb hcb hmv
  by_cases h1 : o.k = 1
  · have q1 : (o.k == 1) = true := by simp [h1]
    cases lb with
    | true =>
      have HP := Lib.hid (show allowsP live shut A o = false by simp [allowsP, h1, HLB.out])
      go_wp2_with fail
      go_quiet (fail)
      go_wp2_with fail
      go_ret
      exact ⟨by rw [HP.out]; rfl, TW.out.drews _⟩
    | false =>
      have HP := Lib.hid (show allowsP live shut A o = true by simp [allowsP, h1, HLB.out])
      go_wp2_with fail
      go_quiet (fail)
      go_wp2_with fail
      go_ret
      exact ⟨by rw [HP.out]; rfl, TW.out.drews _⟩
  have q1 : (o.k == 1) = false := by simp [h1]
  by_cases h4 : o.k = 4
  · have q4 : (o.k == 4) = true := by simp [h4]
    by_cases ha : 1 ≤ o.a
    · have qa : decide (1 ≤ o.a) = true := decide_eq_true ha
      cases mb with
      | true =>
        have HP := Lib.hid (show allowsP live shut A o = false by simp [allowsP, h4, ha, HMB.out])
        go_wp2_with fail
        go_quiet (fail)
        go_wp2_with fail
        go_ret
        exact ⟨by rw [HP.out]; rfl, TW.out.drews _⟩
      | false =>
        cases lb with
        | true =>
          have HP := Lib.hid (show allowsP live shut A o = false by simp [allowsP, h4, ha, HMB.out, HLB.out])
          go_wp2_with fail
          go_quiet (fail)
          go_wp2_with fail
          go_ret
          exact ⟨by rw [HP.out]; rfl, TW.out.drews _⟩
        | false =>
          go_upto_region 6 with (fail)
          have HW2 := Lib.hid (HW.out.touch ((Touch.refl [] W).drew))
          have TW2 := Lib.hid (TW.out.drew)
          refine wp_region_held (S := Touch [] W.drew) (by kernel_rfl) ?_
          change wpAnyH _ _ _ _ _ _ _ _ W.drew
          clear L1 L2 L3 L4
          have c0 : W.drew.cell? ⟨g, 0, none⟩ = some (.map (some ml)) := c0
          have c2 : W.drew.cell? ⟨g, 2, none⟩ = some (.map (some ma)) := c2
          have b1 : W.drew.cell? ⟨gB, 1, none⟩ = some (.int .i64 o.c) := b1
          have b2 : W.drew.cell? ⟨gB, 2, none⟩ = some (.int .i64 o.a) := b2
          have re : W.drew.rangeAt gE 0 (encE (epO o)) := by rw [HEP.out]; exact range_block HEW.out
          clear HW HBW HEW TW HGE b0 b3 e0 e1 c1
          generalize W.drew = X at *
          have hS := Touch.refl [] X
          refine wpAnyH_take (i := 0) (oi := { dst := some 21, op := Op.fieldAddr 36 (Operand.tmp 3) 2, type := 0, pos := "trace.go:42", after := #[], guard := none }) (v := .pointer (some ⟨gB, 2, none⟩)) rfl (by kernel_rfl) (by kernel_rfl) (by kernel_rfl) (fun _ _ _ h => h) (Or.inl ⟨by rfl, fun w' hw => by go_simp⟩) hS ?_
          try simp only [Act.put, List.setIfInBounds_toArray, List.set_cons_zero, List.set_cons_succ]
          refine wpAnyH_take (i := 1) (oi := { dst := some 22, op := Op.load 3 (Operand.tmp 21), type := 3, pos := "trace.go:42", after := #[{ on := 0, ground := Ground.data }], guard := none }) (v := .int .i64 o.a) rfl (by kernel_rfl) (by kernel_rfl) (by kernel_rfl) (fun _ _ _ h => h) (Or.inl ⟨by rfl, fun w' hw => by (have q := hw.cell b2 (by simp); go_simp)⟩) hS ?_
          try simp only [Act.put, List.setIfInBounds_toArray, List.set_cons_zero, List.set_cons_succ]
          refine wpAnyH_take (i := 2) (oi := { dst := some 23, op := Op.binOp BinOp.geq 3 (Operand.tmp 22) (Operand.const (Value.int IntKind.i64 1)) 3, type := 4, pos := "trace.go:42", after := #[{ on := 1, ground := Ground.data }], guard := none }) (v := .bool true) rfl (by kernel_rfl) (by kernel_rfl) (by kernel_rfl) (fun _ _ _ h => h) (Or.inl ⟨by rfl, fun w' hw => by go_simp⟩) hS ?_
          try simp only [Act.put, List.setIfInBounds_toArray, List.set_cons_zero, List.set_cons_succ]
          refine wpAnyH_take (i := 3) (oi := { dst := some 24, op := Op.move (Operand.tmp 23), type := 4, pos := "trace.go:42", after := #[{ on := 2, ground := Ground.data }], guard := none }) (v := .bool true) rfl (by kernel_rfl) (by kernel_rfl) (by kernel_rfl) (fun _ _ _ h => h) (Or.inl ⟨by rfl, fun w' hw => by go_simp⟩) hS ?_
          try simp only [Act.put, List.setIfInBounds_toArray, List.set_cons_zero, List.set_cons_succ]
          refine wpAnyH_take (i := 4) (oi := { dst := some 25, op := Op.move (Operand.tmp 0), type := 59, pos := "trace.go:42", after := #[{ on := 3, ground := Ground.guard }], guard := some (3, true) }) (v := .pointer (some ⟨g, 0, none⟩)) rfl (by kernel_rfl) (by kernel_rfl) (by kernel_rfl) (fun _ _ _ h => h) (Or.inl ⟨by rfl, fun w' hw => by go_simp⟩) hS ?_
          try simp only [Act.put, List.setIfInBounds_toArray, List.set_cons_zero, List.set_cons_succ]
          refine wpAnyH_take (i := 5) (oi := { dst := some 26, op := Op.nilCheck (Operand.tmp 25), type := 0, pos := "trace.go:42", after := #[{ on := 4, ground := Ground.data }, { on := 3, ground := Ground.guard }], guard := some (3, true) }) (v := .pointer (some ⟨g, 0, none⟩)) rfl (by kernel_rfl) (by kernel_rfl) (by kernel_rfl) (fun _ _ _ h => h) (Or.inl ⟨by rfl, fun w' hw => by go_simp⟩) hS ?_
          try simp only [Act.put, List.setIfInBounds_toArray, List.set_cons_zero, List.set_cons_succ]
          refine wpAnyH_take (i := 6) (oi := { dst := some 27, op := Op.fieldAddr 69 (Operand.tmp 26) 2, type := 0, pos := "trace.go:42", after := #[{ on := 5, ground := Ground.data }, { on := 3, ground := Ground.guard }], guard := some (3, true) }) (v := .pointer (some ⟨g, 2, none⟩)) rfl (by kernel_rfl) (by kernel_rfl) (by kernel_rfl) (fun _ _ _ h => h) (Or.inl ⟨by rfl, fun w' hw => by go_simp⟩) hS ?_
          try simp only [Act.put, List.setIfInBounds_toArray, List.set_cons_zero, List.set_cons_succ]
          refine wpAnyH_take (i := 7) (oi := { dst := some 28, op := Op.load 67 (Operand.tmp 27), type := 67, pos := "trace.go:42", after := #[{ on := 6, ground := Ground.data }, { on := 3, ground := Ground.guard }], guard := some (3, true) }) (v := .map (some ma)) rfl (by kernel_rfl) (by kernel_rfl) (by kernel_rfl) (fun _ _ _ h => h) (Or.inl ⟨by rfl, fun w' hw => by (have q := hw.cell c2 (by simp); go_simp)⟩) hS ?_
          try simp only [Act.put, List.setIfInBounds_toArray, List.set_cons_zero, List.set_cons_succ]
          refine wpAnyH_take (i := 8) (oi := { dst := some 29, op := Op.fieldAddr 36 (Operand.tmp 3) 1, type := 0, pos := "trace.go:42", after := #[{ on := 3, ground := Ground.guard }], guard := some (3, true) }) (v := .pointer (some ⟨gB, 1, none⟩)) rfl (by kernel_rfl) (by kernel_rfl) (by kernel_rfl) (fun _ _ _ h => h) (Or.inl ⟨by rfl, fun w' hw => by go_simp⟩) hS ?_
          try simp only [Act.put, List.setIfInBounds_toArray, List.set_cons_zero, List.set_cons_succ]
          refine wpAnyH_take (i := 9) (oi := { dst := some 30, op := Op.load 3 (Operand.tmp 29), type := 3, pos := "trace.go:42", after := #[{ on := 8, ground := Ground.data }, { on := 3, ground := Ground.guard }], guard := some (3, true) }) (v := .int .i64 o.c) rfl (by kernel_rfl) (by kernel_rfl) (by kernel_rfl) (fun _ _ _ h => h) (Or.inl ⟨by rfl, fun w' hw => by (have q := hw.cell b1 (by simp); go_simp)⟩) hS ?_
          try simp only [Act.put, List.setIfInBounds_toArray, List.set_cons_zero, List.set_cons_succ]
          refine wpAnyH_take (i := 10) (oi := { dst := some 31, op := Op.lookup 67 (Operand.tmp 28) (Operand.tmp 30) false, type := 85, pos := "trace.go:42", after := #[{ on := 7, ground := Ground.data }, { on := 9, ground := Ground.data }, { on := 3, ground := Ground.guard }], guard := some (3, true) }) (v := mv) rfl (by kernel_rfl) (by kernel_rfl) (by kernel_rfl) (fun _ _ _ h => h) (Or.inl ⟨by rfl, fun w' hw => exec_lookup _ _ _ _ false rfl _ _ rfl rfl _ (by have q := (HW2.out.touch hw).lookA OKI.out.c; rw [HMV.out] at q; exact q)⟩) hS ?_
          try simp only [Act.put, List.setIfInBounds_toArray, List.set_cons_zero, List.set_cons_succ]
          refine wpAnyH_take (i := 11) (oi := { dst := some 32, op := Op.fieldAddr 36 (Operand.tmp 3) 2, type := 0, pos := "trace.go:42", after := #[{ on := 3, ground := Ground.guard }], guard := some (3, true) }) (v := .pointer (some ⟨gB, 2, none⟩)) rfl (by kernel_rfl) (by kernel_rfl) (by kernel_rfl) (fun _ _ _ h => h) (Or.inl ⟨by rfl, fun w' hw => by go_simp⟩) hS ?_
          try simp only [Act.put, List.setIfInBounds_toArray, List.set_cons_zero, List.set_cons_succ]
          refine wpAnyH_take (i := 12) (oi := { dst := some 33, op := Op.load 3 (Operand.tmp 32), type := 3, pos := "trace.go:42", after := #[{ on := 11, ground := Ground.data }, { on := 3, ground := Ground.guard }], guard := some (3, true) }) (v := .int .i64 o.a) rfl (by kernel_rfl) (by kernel_rfl) (by kernel_rfl) (fun _ _ _ h => h) (Or.inl ⟨by rfl, fun w' hw => by (have q := hw.cell b2 (by simp); go_simp)⟩) hS ?_
          try simp only [Act.put, List.setIfInBounds_toArray, List.set_cons_zero, List.set_cons_succ]
          refine wpAnyH_take (i := 13) (oi := { dst := some 34, op := Op.lookup 85 (Operand.tmp 31) (Operand.tmp 33) false, type := 4, pos := "trace.go:42", after := #[{ on := 10, ground := Ground.data }, { on := 12, ground := Ground.data }, { on := 3, ground := Ground.guard }], guard := some (3, true) }) (v := .bool false) rfl (by kernel_rfl) (by kernel_rfl) (by kernel_rfl) (fun _ _ _ h => h) (Or.inl ⟨by rfl, fun w' hw => exec_lookup _ _ _ _ false rfl _ _ rfl rfl _ (by have q := (HW2.out.touch hw).lookI (c := o.c) OKI.out.a; rw [HMV.out, HMB.out] at q; exact q)⟩) hS ?_
          try simp only [Act.put, List.setIfInBounds_toArray, List.set_cons_zero, List.set_cons_succ]
          refine wpAnyH_take (i := 14) (oi := { dst := some 35, op := Op.unOp UnOp.not 4 (Operand.tmp 34), type := 4, pos := "trace.go:42", after := #[{ on := 13, ground := Ground.data }, { on := 3, ground := Ground.guard }], guard := some (3, true) }) (v := .bool true) rfl (by kernel_rfl) (by kernel_rfl) (by kernel_rfl) (fun _ _ _ h => h) (Or.inl ⟨by rfl, fun w' hw => by go_simp⟩) hS ?_
          try simp only [Act.put, List.setIfInBounds_toArray, List.set_cons_zero, List.set_cons_succ]
          refine wpAnyH_take (i := 15) (oi := { dst := some 36, op := Op.pick (Operand.tmp 24) (Operand.tmp 35) (Operand.const (Value.bool false)), type := 4, pos := "trace.go:42", after := #[{ on := 3, ground := Ground.data }, { on := 14, ground := Ground.data }], guard := none }) (v := .bool true) rfl (by kernel_rfl) (by kernel_rfl) (by kernel_rfl) (fun _ _ _ h => h) (Or.inl ⟨by rfl, fun w' hw => by go_simp⟩) hS ?_
          try simp only [Act.put, List.setIfInBounds_toArray, List.set_cons_zero, List.set_cons_succ]
          refine wpAnyH_take (i := 16) (oi := { dst := some 37, op := Op.move (Operand.tmp 36), type := 4, pos := "trace.go:42", after := #[{ on := 15, ground := Ground.data }, { on := 3, ground := Ground.chain }], guard := none }) (v := .bool true) rfl (by kernel_rfl) (by kernel_rfl) (by kernel_rfl) (fun _ _ _ h => h) (Or.inl ⟨by rfl, fun w' hw => by go_simp⟩) hS ?_
          try simp only [Act.put, List.setIfInBounds_toArray, List.set_cons_zero, List.set_cons_succ]
          refine wpAnyH_take (i := 17) (oi := { dst := some 38, op := Op.move (Operand.tmp 0), type := 59, pos := "trace.go:42", after := #[{ on := 16, ground := Ground.guard }], guard := some (16, true) }) (v := .pointer (some ⟨g, 0, none⟩)) rfl (by kernel_rfl) (by kernel_rfl) (by kernel_rfl) (fun _ _ _ h => h) (Or.inl ⟨by rfl, fun w' hw => by go_simp⟩) hS ?_
          try simp only [Act.put, List.setIfInBounds_toArray, List.set_cons_zero, List.set_cons_succ]
          refine wpAnyH_take (i := 18) (oi := { dst := some 39, op := Op.nilCheck (Operand.tmp 38), type := 0, pos := "trace.go:42", after := #[{ on := 17, ground := Ground.data }, { on := 16, ground := Ground.guard }], guard := some (16, true) }) (v := .pointer (some ⟨g, 0, none⟩)) rfl (by kernel_rfl) (by kernel_rfl) (by kernel_rfl) (fun _ _ _ h => h) (Or.inl ⟨by rfl, fun w' hw => by go_simp⟩) hS ?_
          try simp only [Act.put, List.setIfInBounds_toArray, List.set_cons_zero, List.set_cons_succ]
          refine wpAnyH_take (i := 19) (oi := { dst := some 40, op := Op.fieldAddr 69 (Operand.tmp 39) 0, type := 0, pos := "trace.go:42", after := #[{ on := 18, ground := Ground.data }, { on := 16, ground := Ground.guard }], guard := some (16, true) }) (v := .pointer (some ⟨g, 0, none⟩)) rfl (by kernel_rfl) (by kernel_rfl) (by kernel_rfl) (fun _ _ _ h => h) (Or.inl ⟨by rfl, fun w' hw => by go_simp⟩) hS ?_
          try simp only [Act.put, List.setIfInBounds_toArray, List.set_cons_zero, List.set_cons_succ]
          refine wpAnyH_take (i := 20) (oi := { dst := some 41, op := Op.load 66 (Operand.tmp 40), type := 66, pos := "trace.go:42", after := #[{ on := 19, ground := Ground.data }, { on := 16, ground := Ground.guard }], guard := some (16, true) }) (v := .map (some ml)) rfl (by kernel_rfl) (by kernel_rfl) (by kernel_rfl) (fun _ _ _ h => h) (Or.inl ⟨by rfl, fun w' hw => by (have q := hw.cell c0 (by simp); go_simp)⟩) hS ?_
          try simp only [Act.put, List.setIfInBounds_toArray, List.set_cons_zero, List.set_cons_succ]
          refine wpAnyH_take (i := 21) (oi := { dst := some 42, op := Op.load 30 (Operand.tmp 5), type := 30, pos := "trace.go:42", after := #[{ on := 16, ground := Ground.guard }], guard := some (16, true) }) (v := .agg (encE (epO o)).toArray) rfl (by kernel_rfl) (by kernel_rfl) (by kernel_rfl) (fun _ _ _ h => h) (Or.inl ⟨by rfl, fun w' hw => exec_load_agg _ 30 _ rfl _ _ rfl (encE (epO o)) _ (hw.range re (by simp)) Try.underlying30 rfl (by rw [infoE]; rfl)⟩) hS ?_
          try simp only [Act.put, List.setIfInBounds_toArray, List.set_cons_zero, List.set_cons_succ]
          refine wpAnyH_take (i := 22) (oi := { dst := some 43, op := Op.lookup 66 (Operand.tmp 41) (Operand.tmp 42) false, type := 4, pos := "trace.go:42", after := #[{ on := 20, ground := Ground.data }, { on := 21, ground := Ground.data }, { on := 16, ground := Ground.guard }], guard := some (16, true) }) (v := .bool false) rfl (by kernel_rfl) (by kernel_rfl) (by kernel_rfl) (fun _ _ _ h => h) (Or.inl ⟨by rfl, fun w' hw => exec_lookup _ _ _ _ false rfl _ _ rfl rfl _ (by have q := (HW2.out.touch hw).lookL (epO o) HXO.out; rw [HLB.out] at q; exact q)⟩) hS ?_
          try simp only [Act.put, List.setIfInBounds_toArray, List.set_cons_zero, List.set_cons_succ]
          refine wpAnyH_take (i := 23) (oi := { dst := some 44, op := Op.unOp UnOp.not 4 (Operand.tmp 43), type := 4, pos := "trace.go:42", after := #[{ on := 22, ground := Ground.data }, { on := 16, ground := Ground.guard }], guard := some (16, true) }) (v := .bool true) rfl (by kernel_rfl) (by kernel_rfl) (by kernel_rfl) (fun _ _ _ h => h) (Or.inl ⟨by rfl, fun w' hw => by go_simp⟩) hS ?_
          try simp only [Act.put, List.setIfInBounds_toArray, List.set_cons_zero, List.set_cons_succ]
          refine wpAnyH_take (i := 24) (oi := { dst := some 45, op := Op.pick (Operand.tmp 37) (Operand.tmp 44) (Operand.const (Value.bool false)), type := 4, pos := "trace.go:42", after := #[{ on := 16, ground := Ground.data }, { on := 23, ground := Ground.data }], guard := none }) (v := .bool true) rfl (by kernel_rfl) (by kernel_rfl) (by kernel_rfl) (fun _ _ _ h => h) (Or.inl ⟨by rfl, fun w' hw => by go_simp⟩) hS ?_
          try simp only [Act.put, List.setIfInBounds_toArray, List.set_cons_zero, List.set_cons_succ]
          refine wpAnyH_take (i := 25) (oi := { dst := some 46, op := Op.move (Operand.tmp 45), type := 4, pos := "trace.go:42", after := #[{ on := 24, ground := Ground.data }, { on := 16, ground := Ground.chain }], guard := none }) (v := .bool true) rfl (by kernel_rfl) (by kernel_rfl) (by kernel_rfl) (fun _ _ _ h => h) (Or.inl ⟨by rfl, fun w' hw => by go_simp⟩) hS ?_
          try simp only [Act.put, List.setIfInBounds_toArray, List.set_cons_zero, List.set_cons_succ]
          refine wpAnyH_take (i := 26) (oi := { dst := some 47, op := Op.move (Operand.tmp 0), type := 59, pos := "trace.go:42", after := #[{ on := 25, ground := Ground.guard }], guard := some (25, true) }) (v := .pointer (some ⟨g, 0, none⟩)) rfl (by kernel_rfl) (by kernel_rfl) (by kernel_rfl) (fun _ _ _ h => h) (Or.inl ⟨by rfl, fun w' hw => by go_simp⟩) hS ?_
          try simp only [Act.put, List.setIfInBounds_toArray, List.set_cons_zero, List.set_cons_succ]
          refine wpAnyH_take (i := 27) (oi := { dst := some 48, op := Op.nilCheck (Operand.tmp 47), type := 0, pos := "trace.go:42", after := #[{ on := 26, ground := Ground.data }, { on := 25, ground := Ground.guard }], guard := some (25, true) }) (v := .pointer (some ⟨g, 0, none⟩)) rfl (by kernel_rfl) (by kernel_rfl) (by kernel_rfl) (fun _ _ _ h => h) (Or.inl ⟨by rfl, fun w' hw => by go_simp⟩) hS ?_
          try simp only [Act.put, List.setIfInBounds_toArray, List.set_cons_zero, List.set_cons_succ]
          refine wpAnyH_take (i := 28) (oi := { dst := some 49, op := Op.fieldAddr 69 (Operand.tmp 48) 0, type := 0, pos := "trace.go:42", after := #[{ on := 27, ground := Ground.data }, { on := 25, ground := Ground.guard }], guard := some (25, true) }) (v := .pointer (some ⟨g, 0, none⟩)) rfl (by kernel_rfl) (by kernel_rfl) (by kernel_rfl) (fun _ _ _ h => h) (Or.inl ⟨by rfl, fun w' hw => by go_simp⟩) hS ?_
          try simp only [Act.put, List.setIfInBounds_toArray, List.set_cons_zero, List.set_cons_succ]
          refine wpAnyH_take (i := 29) (oi := { dst := some 50, op := Op.load 66 (Operand.tmp 49), type := 66, pos := "trace.go:42", after := #[{ on := 28, ground := Ground.data }, { on := 25, ground := Ground.guard }], guard := some (25, true) }) (v := .map (some ml)) rfl (by kernel_rfl) (by kernel_rfl) (by kernel_rfl) (fun _ _ _ h => h) (Or.inl ⟨by rfl, fun w' hw => by (have q := hw.cell c0 (by simp); go_simp)⟩) hS ?_
          try simp only [Act.put, List.setIfInBounds_toArray, List.set_cons_zero, List.set_cons_succ]
          refine wpAnyH_take (i := 30) (oi := { dst := some 51, op := Op.fieldAddr 36 (Operand.tmp 3) 1, type := 0, pos := "trace.go:42", after := #[{ on := 25, ground := Ground.guard }], guard := some (25, true) }) (v := .pointer (some ⟨gB, 1, none⟩)) rfl (by kernel_rfl) (by kernel_rfl) (by kernel_rfl) (fun _ _ _ h => h) (Or.inl ⟨by rfl, fun w' hw => by go_simp⟩) hS ?_
          try simp only [Act.put, List.setIfInBounds_toArray, List.set_cons_zero, List.set_cons_succ]
          refine wpAnyH_take (i := 31) (oi := { dst := some 52, op := Op.load 3 (Operand.tmp 51), type := 3, pos := "trace.go:42", after := #[{ on := 30, ground := Ground.data }, { on := 25, ground := Ground.guard }], guard := some (25, true) }) (v := .int .i64 o.c) rfl (by kernel_rfl) (by kernel_rfl) (by kernel_rfl) (fun _ _ _ h => h) (Or.inl ⟨by rfl, fun w' hw => by (have q := hw.cell b1 (by simp); go_simp)⟩) hS ?_
          try simp only [Act.put, List.setIfInBounds_toArray, List.set_cons_zero, List.set_cons_succ]
          refine wpAnyH_ready (rs := [32]) (by kernel_rfl) (by simp) ?_
          refine AllReadyH.cons (o := { dst := some 53, op := Op.call { callee := Callee.value (Operand.func 57), args := #[Operand.tmp 52], argTypes := #[3] }, type := 30, pos := "trace.go:42", after := #[{ on := 31, ground := Ground.data }, { on := 25, ground := Ground.chain }, { on := 25, ground := Ground.guard }], guard := some (25, true) }) rfl (fun K hK => ?_) AllReadyH.nil
          go_simp
          refine (client_any _ _).mono ?_
          rintro e w9 ⟨rfl, t9⟩
          have hS2 := hS.trans t9 (by simp)
          refine hK.out _ _ hS2 (fun _ => ?_)
          clear hK K hS t9
          have hS := hS2
          clear hS2
          try simp only [Act.put, List.setIfInBounds_toArray, List.set_cons_zero, List.set_cons_succ]
          refine wpAnyH_take (i := 33) (oi := { dst := some 54, op := Op.lookup 66 (Operand.tmp 50) (Operand.tmp 53) false, type := 4, pos := "trace.go:42", after := #[{ on := 29, ground := Ground.data }, { on := 32, ground := Ground.data }, { on := 25, ground := Ground.guard }], guard := some (25, true) }) (v := .bool cb) rfl (by kernel_rfl) (by kernel_rfl) (by kernel_rfl) (fun _ _ _ h => h) (Or.inl ⟨by rfl, fun w' hw => exec_lookup _ _ _ _ false rfl _ _ rfl rfl _ (by have q := (HW2.out.touch hw).lookL (o.c, 0) HCO.out; rw [HCB.out] at q; exact q)⟩) hS ?_
          try simp only [Act.put, List.setIfInBounds_toArray, List.set_cons_zero, List.set_cons_succ]
          refine wpAnyH_take (i := 34) (oi := { dst := some 55, op := Op.pick (Operand.tmp 46) (Operand.tmp 54) (Operand.const (Value.bool false)), type := 4, pos := "trace.go:42", after := #[{ on := 25, ground := Ground.data }, { on := 33, ground := Ground.data }], guard := none }) (v := .bool cb) rfl (by kernel_rfl) (by kernel_rfl) (by kernel_rfl) (fun _ _ _ h => h) (Or.inl ⟨by rfl, fun w' hw => by go_simp⟩) hS ?_
          try simp only [Act.put, List.setIfInBounds_toArray, List.set_cons_zero, List.set_cons_succ]
          refine wpAnyH_take (i := 35) (oi := { dst := some 4, op := Op.assign (Operand.tmp 55), type := 4, pos := "trace.go:42", after := #[{ on := 34, ground := Ground.data }, { on := 32, ground := Ground.chain }, { on := 0, ground := Ground.phase }, { on := 1, ground := Ground.phase }, { on := 2, ground := Ground.phase }, { on := 3, ground := Ground.phase }, { on := 4, ground := Ground.phase }, { on := 5, ground := Ground.phase }, { on := 6, ground := Ground.phase }, { on := 7, ground := Ground.phase }, { on := 8, ground := Ground.phase }, { on := 9, ground := Ground.phase }, { on := 10, ground := Ground.phase }, { on := 11, ground := Ground.phase }, { on := 12, ground := Ground.phase }, { on := 13, ground := Ground.phase }, { on := 14, ground := Ground.phase }, { on := 15, ground := Ground.phase }, { on := 16, ground := Ground.phase }, { on := 17, ground := Ground.phase }, { on := 18, ground := Ground.phase }, { on := 19, ground := Ground.phase }, { on := 20, ground := Ground.phase }, { on := 21, ground := Ground.phase }, { on := 22, ground := Ground.phase }, { on := 23, ground := Ground.phase }, { on := 24, ground := Ground.phase }, { on := 25, ground := Ground.phase }, { on := 26, ground := Ground.phase }, { on := 27, ground := Ground.phase }, { on := 28, ground := Ground.phase }, { on := 29, ground := Ground.phase }, { on := 30, ground := Ground.phase }, { on := 31, ground := Ground.phase }, { on := 32, ground := Ground.phase }, { on := 33, ground := Ground.phase }, { on := 34, ground := Ground.phase }], guard := none }) (v := .bool cb) rfl (by kernel_rfl) (by kernel_rfl) (by kernel_rfl) (fun _ _ _ h => h) (Or.inl ⟨by rfl, fun w' hw => by go_simp⟩) hS ?_
          try simp only [Act.put, List.setIfInBounds_toArray, List.set_cons_zero, List.set_cons_succ]
          refine wpAnyH_done (by kernel_rfl) ?_ _
          try simp only [Act.put, List.setIfInBounds_toArray, List.set_cons_zero, List.set_cons_succ]
          have TZ := Lib.hid (TW2.out.trans hS (by simp))
          clear hS
          have HP := Lib.hid (show allowsP live shut A o = cb by simp [allowsP, h4, ha, HMB.out, HLB.out, HCB.out])
          go_wp2_with fail
          go_ret
          exact ⟨by rw [HP.out]; rfl, TZ.out⟩
    · have qa : decide (1 ≤ o.a) = false := decide_eq_false ha
      have HP := Lib.hid (show allowsP live shut A o = false by simp [allowsP, h4, ha])
      go_wp2_with fail
      go_quiet (fail)
      go_wp2_with fail
      go_ret
      exact ⟨by rw [HP.out]; rfl, TW.out.drews _⟩
  have q4 : (o.k == 4) = false := by simp [h4]
  by_cases h3 : o.k = 3
  · have q3 : (o.k == 3) = true := by simp [h3]
    cases lb with
    | true =>
      have HP := Lib.hid (show allowsP live shut A o = true by simp [allowsP, h3, HLB.out])
      go_wp2_with fail
      go_quiet (fail)
      go_wp2_with fail
      go_ret
      exact ⟨by rw [HP.out]; rfl, TW.out.drews _⟩
    | false =>
      have HP := Lib.hid (show allowsP live shut A o = false by simp [allowsP, h3, HLB.out])
      go_wp2_with fail
      go_quiet (fail)
      go_wp2_with fail
      go_ret
      exact ⟨by rw [HP.out]; rfl, TW.out.drews _⟩
  have q3 : (o.k == 3) = false := by simp [h3]
  by_cases h7 : o.k = 7
  · have q7 : (o.k == 7) = true := by simp [h7]
    cases lb with
    | true =>
      have HP := Lib.hid (show allowsP live shut A o = true by simp [allowsP, h7, HLB.out])
      go_wp2_with fail
      go_quiet (fail)
      go_wp2_with fail
      go_ret
      exact ⟨by rw [HP.out]; rfl, TW.out.drews _⟩
    | false =>
      have HP := Lib.hid (show allowsP live shut A o = false by simp [allowsP, h7, HLB.out])
      go_wp2_with fail
      go_quiet (fail)
      go_wp2_with fail
      go_ret
      exact ⟨by rw [HP.out]; rfl, TW.out.drews _⟩
  have q7 : (o.k == 7) = false := by simp [h7]
  by_cases h5 : o.k = 5
  · have q5 : (o.k == 5) = true := by simp [h5]
    cases lb with
    | true =>
      cases sb with
      | true =>
        have HP := Lib.hid (show allowsP live shut A o = false by simp [allowsP, h5, HLB.out, HSB.out])
        go_wp2_with fail
        go_quiet (fail)
        go_wp2_with fail
        go_ret
        exact ⟨by rw [HP.out]; rfl, TW.out.drews _⟩
      | false =>
        by_cases hz : o.d.toList.isEmpty = true
        · have HP := Lib.hid (show allowsP live shut A o = false by simp [allowsP, h5, HLB.out, HSB.out, hz])
          go_wp2_with fail
          go_quiet (fail)
          go_wp2_with fail
          go_ret
          exact ⟨by rw [HP.out]; rfl, TW.out.drews _⟩
        · have hz2 : o.d.toList.isEmpty = false := by simpa using hz
          clear hz
          have HP := Lib.hid (show allowsP live shut A o = true by simp [allowsP, h5, HLB.out, HSB.out, hz2])
          go_wp2_with fail
          go_quiet (fail)
          go_wp2_with fail
          go_ret
          exact ⟨by rw [HP.out]; rfl, TW.out.drews _⟩
    | false =>
      have HP := Lib.hid (show allowsP live shut A o = false by simp [allowsP, h5, HLB.out])
      go_wp2_with fail
      go_quiet (fail)
      go_wp2_with fail
      go_ret
      exact ⟨by rw [HP.out]; rfl, TW.out.drews _⟩
  have q5 : (o.k == 5) = false := by simp [h5]
  by_cases h6 : o.k = 6
  · have q6 : (o.k == 6) = true := by simp [h6]
    cases lb with
    | true =>
      cases sb with
      | true =>
        have HP := Lib.hid (show allowsP live shut A o = false by simp [allowsP, h6, HLB.out, HSB.out])
        go_wp2_with fail
        go_quiet (fail)
        go_wp2_with fail
        go_ret
        exact ⟨by rw [HP.out]; rfl, TW.out.drews _⟩
      | false =>
        have HP := Lib.hid (show allowsP live shut A o = true by simp [allowsP, h6, HLB.out, HSB.out])
        go_wp2_with fail
        go_quiet (fail)
        go_wp2_with fail
        go_ret
        exact ⟨by rw [HP.out]; rfl, TW.out.drews _⟩
    | false =>
      have HP := Lib.hid (show allowsP live shut A o = false by simp [allowsP, h6, HLB.out])
      go_wp2_with fail
      go_quiet (fail)
      go_wp2_with fail
      go_ret
      exact ⟨by rw [HP.out]; rfl, TW.out.drews _⟩
  have q6 : (o.k == 6) = false := by simp [h6]
  by_cases h2 : o.k = 2
  · have q2 : (o.k == 2) = true := by simp [h2]
    have HP := Lib.hid (show allowsP live shut A o = true by simp [allowsP, h1, h4, h3, h7, h5, h6, h2])
    go_wp2_with fail
    go_ret
    exact ⟨by rw [HP.out]; rfl, TW.out⟩
  · have q2 : (o.k == 2) = false := by simp [h2]
    have HP := Lib.hid (show allowsP live shut A o = false by simp [allowsP, h1, h4, h3, h7, h5, h6, h2])
    go_wp2_with fail
    go_ret
    exact ⟨by rw [HP.out]; rfl, TW.out⟩
end Go.Proofs.Ytmdnkhpkpmbeoaa

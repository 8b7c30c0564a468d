/-
  Merged texts: Xg.
-/
import Derived.Test.YtiklhaajhdephaaDoorHD

/-
  Plain: a dialer whose addresses all fail, or are skipped.
-/
namespace Go.Proofs.YtiklhaajhdephaaDoor
open Go.RowKit
set_option linter.unusedVariables false
set_option linter.unusedSimpArgs false

theorem okX (i : Nat) : okB [42, 0, 0, ((i % 256 : Nat) : Int), 0, 0, 0, 0, 0, 0, 0, 0, 0, 0, 0, 0] := by
  refine ⟨rfl, fun x hx => ?_⟩
  simp only [List.mem_cons, List.not_mem_nil, or_false] at hx
  omega
def xA (b : Bool) (i : Nat) : Ad := ⟨b, [42, 0, 0, ((i % 256 : Nat) : Int), 0, 0, 0, 0, 0, 0, 0, 0, 0, 0, 0, 0], okX i⟩
theorem xA_cells {b : Bool} {i : Nat} (h : i < 8) : adr b [42, 0, 0, (i : Int), 0, 0, 0, 0, 0, 0, 0, 0, 0, 0, 0, 0] = (xA b i).cells := by
  show _ = adr b [42, 0, 0, ((i % 256 : Nat) : Int), 0, 0, 0, 0, 0, 0, 0, 0, 0, 0, 0, 0]
  rw [Nat.mod_eq_of_lt (by omega)]
def xL8 (b : Bool) : List Ad := [xA b 0, xA b 1, xA b 2, xA b 3, xA b 4, xA b 5, xA b 6, xA b 7]
theorem xL_at {b : Bool} {i : Nat} (h : i < 8) : (xL8 b)[i]? = some (xA b i) := by
  match i, h with
  | 0, _ => rfl
  | 1, _ => rfl
  | 2, _ => rfl
  | 3, _ => rfl
  | 4, _ => rfl
  | 5, _ => rfl
  | 6, _ => rfl
  | 7, _ => rfl
theorem xL_step {b : Bool} {i : Nat} (h : i < 8) : (xL8 b).take (i + 1) = (xL8 b).take i ++ [xA b i] := by
  rw [List.take_add_one, xL_at h]
  rfl
theorem xL_len (b : Bool) {n : Nat} (h : n ≤ 8) : ((xL8 b).take n).length = n := by
  rw [List.length_take]
  have : (xL8 b).length = 8 := rfl
  omega
set_option maxRecDepth 100000 in
theorem xL_nodup (b : Bool) : (xL8 b).Nodup := by cases b <;> decide
theorem xL_ok (b : Bool) : ∀ a ∈ xL8 b, a.valid = true ∧ a.b = b := by
  intro a ha
  have h : ((xL8 b).all fun a => a.valid && (a.b == b)) = true := by cases b <;> decide
  have := List.all_eq_true.1 h a ha
  simpa using this
theorem ansL_all {b : Bool} : ∀ (l acc : List Ad), (acc ++ l).Nodup → (∀ a ∈ l, a.valid = true ∧ a.b = b) → (acc ++ l).length ≤ 16 → ansL b acc l = acc ++ l
  | [], acc, _, _, _ => by simp [ansL]
  | a :: r, acc, hn, ho, hl => by
    have h1 : a ∉ acc := fun hm => by
      rw [List.nodup_append] at hn
      exact hn.2.2 a hm a (by simp) rfl
    have e : ansS b acc a = acc ++ [a] := by
      unfold ansS
      rw [if_pos ⟨(ho a (by simp)).2, (ho a (by simp)).1, by simp at hl; omega, by simpa [inL] using h1⟩]
    unfold ansL
    rw [List.foldl_cons, e]
    have := ansL_all (b := b) r (acc ++ [a]) (by simpa using hn) (fun x hx => ho x (by simp [hx])) (by simpa using hl)
    unfold ansL at this
    rw [this]
    simp
theorem addL_all : ∀ (l acc : List Ad), (acc ++ l).Nodup → (∀ a ∈ l, a.valid = true) → addL acc l = acc ++ l
  | [], acc, _, _ => by simp [addL]
  | a :: r, acc, hn, ho => by
    have h1 : a ∉ acc := fun hm => by
      rw [List.nodup_append] at hn
      exact hn.2.2 a hm a (by simp) rfl
    have e : addS acc a = acc ++ [a] := by
      unfold addS
      rw [if_pos ⟨ho a (by simp), by simpa [inL] using h1⟩]
    unfold addL
    rw [List.foldl_cons, e]
    have := addL_all r (acc ++ [a]) (by simpa using hn) (fun x hx => ho x (by simp [hx]))
    unfold addL at this
    rw [this]
    simp
theorem xL_ans (b : Bool) (n : Nat) : ansL b [] ((xL8 b).take n) = (xL8 b).take n := by
  have := ansL_all (b := b) ((xL8 b).take n) [] (by simpa using (xL_nodup b).sublist (List.take_sublist n _)) (fun a ha => xL_ok b a (List.mem_of_mem_take ha)) (by
    rw [List.nil_append, List.length_take]
    have : (xL8 b).length = 8 := rfl
    omega)
  simpa using this
theorem xL_add (b : Bool) (n : Nat) : addL [] ((xL8 b).take n) = (xL8 b).take n := by
  have := addL_all ((xL8 b).take n) [] (by simpa using (xL_nodup b).sublist (List.take_sublist n _)) (fun a ha => (xL_ok b a (List.mem_of_mem_take ha)).1)
  simpa using this
/-! ### the least reason -/
theorem best_app (l : List Nat) (y : Nat) : best (l ++ [y]) = bestN (best l) y := by
  unfold best
  rw [List.foldl_append]
  rfl
theorem best_pos : ∀ (l : List Nat), l ≠ [] → (∀ x ∈ l, 1 ≤ x) → best l ≠ 0 := by
  have key : ∀ (l : List Nat) (b : Nat), b ≠ 0 → (∀ x ∈ l, 1 ≤ x) → l.foldl bestN b ≠ 0 := by
    intro l
    induction l with
    | nil => intro b hb _; exact hb
    | cons a r ih =>
      intro b hb h
      rw [List.foldl_cons]
      refine ih _ ?_ (fun x hx => h x (by simp [hx]))
      have := h a (by simp)
      unfold bestN
      split <;> omega
  intro l hl h
  cases l with
  | nil => exact absurd rfl hl
  | cons a r =>
    unfold best
    rw [List.foldl_cons]
    refine key r _ ?_ (fun x hx => h x (by simp [hx]))
    have := h a (by simp)
    unfold bestN
    split <;> omega
theorem prim_app (l : List Nat) (y : Nat) (hl : l ≠ []) (h : ∀ x ∈ l, 1 ≤ x) (hy : 1 ≤ y) : primN (l ++ [y]) = min (primN l) y := by
  have h1 := best_pos l hl h
  unfold primN
  rw [best_app, if_neg h1]
  unfold bestN
  by_cases hb : best l = 0 ∨ y < best l
  · rw [if_pos hb, if_neg (by omega)]; omega
  · rw [if_neg hb, if_neg h1]; omega
/-! ### the dialer -/
structure Ex (c : Cfg) (n i ls : Nat) (s : DS) : Prop where
  c : s.c = c
  com : s.p.complete = true
  len : s.A.length = n
  kl : s.K.length = i
  inv : Inv s.A s.K
  nb : s.nb = 0
  act : s.act = []
  st : s.S.length ≤ i
  rs : ∀ x ∈ s.rs, 1 ≤ x ∧ x ≤ 7
  rne : s.rs ≠ []
  rl : s.rs.length ≤ i + 2
  pr : primN s.rs = ls
section
variable {c : Cfg} {n i ls : Nat} {s : DS}
theorem Ex.res (h : Ex c n i ls s) : s.resolved = true := by unfold DS.resolved; rw [h.com]; simp
theorem Ex.ready (h : Ex c n i ls s) (now : Int) : s.ready now = true := by unfold DS.ready PS.ready; rw [h.com]; simp
theorem Ex.left (h : Ex c n i ls s) (hi : i < n) : ∃ a r, remP s.c.ff s.A s.K = a :: r := by
  have h1 := h.inv.left s.c.ff
  rw [h.kl, h.len] at h1
  cases hr : remP s.c.ff s.A s.K with
  | nil => rw [hr] at h1; simp at h1; omega
  | cons a r => exact ⟨a, r, rfl⟩
theorem Ex.cand (h : Ex c n i ls s) (hi : i < n) (hn : n ≤ 8) (hm : 1 ≤ c.mc) {now : Int} (h0 : 0 ≤ now) : ∃ a r, s.cand now = a :: r := by
  obtain ⟨a, r, hr⟩ := h.left hi
  refine ⟨a, r, ?_⟩
  unfold DS.cand
  rw [if_neg (by rw [h.ready, h.nb]; simp; omega)]
  unfold DS.next
  rw [if_neg (by rw [h.act, h.c]; have := h.st; simp; omega)]
  exact hr
theorem Ex.on (h : Ex c n i ls s) (hi : i < n) (hn : n ≤ 8) : s.over = false := by
  obtain ⟨a, r, hr⟩ := h.left hi
  have := h.st
  unfold DS.over
  rw [hr, h.res]
  simp
  omega
theorem Ex.over (h : Ex c n n ls s) : s.over = true := by
  have h1 := h.inv.left s.c.ff
  rw [h.kl, h.len] at h1
  have h2 : remP s.c.ff s.A s.K = [] := List.eq_nil_of_length_eq_zero (by omega)
  unfold DS.over
  rw [h2, h.res, h.act]
  simp
theorem whyN_id {y : Nat} (h : 1 ≤ y ∧ y ≤ 7) : whyN (y : Int) = y := by
  unfold whyN
  rw [if_pos (by simp [isWhy]; omega)]
  simp
theorem Ex.rs_app (h : Ex c n i ls s) {y : Nat} (hy : 1 ≤ y ∧ y ≤ 7) : (∀ x ∈ s.rs ++ [whyN y], 1 ≤ x ∧ x ≤ 7) ∧ s.rs ++ [whyN y] ≠ [] ∧ (s.rs ++ [whyN y]).length ≤ i + 1 + 2 ∧ primN (s.rs ++ [whyN y]) = min ls y := by
  have := h.rl
  refine ⟨?_, by simp, by simp; omega, ?_⟩
  · intro x hx
    rw [whyN_id hy] at hx
    rcases List.mem_append.1 hx with e | e
    · exact h.rs x e
    · simp at e; omega
  · rw [whyN_id hy, prim_app _ _ h.rne (fun x hx => (h.rs x hx).1) hy.1, h.pr]
theorem Ex.skip (h : Ex c n i ls s) {a : Ad} {r : List Ad} (hr : remP s.c.ff s.A s.K = a :: r) {y : Nat} (hy : 1 ≤ y ∧ y ≤ 7) : Ex c n (i + 1) (min ls y) (s.skip a y) := by
  obtain ⟨n1, n2, n3, n4, n5⟩ := h.inv.next hr
  obtain ⟨r1, r2, r3, r4⟩ := h.rs_app hy
  exact ⟨h.c, h.com, h.len, by show (takeK s.A s.K a).length = _; rw [n5, h.kl], n3, h.nb, h.act, Nat.le_trans h.st (by omega), r1, r2, r3, r4⟩
theorem Ex.failed (h : Ex c n i ls s) {a : Ad} {r : List Ad} (hr : remP s.c.ff s.A s.K = a :: r) {y : Nat} (hy : 1 ≤ y ∧ y ≤ 7) (now draw : Int) : Ex c n (i + 1) (min ls y) ((s.startS now draw a).fail ((s.S.length + 1 : Nat) : Int) y) := by
  obtain ⟨n1, n2, n3, n4, n5⟩ := h.inv.next hr
  obtain ⟨r1, r2, r3, r4⟩ := h.rs_app hy
  refine ⟨h.c, h.com, h.len, by show (takeK s.A s.K a).length = _; rw [n5, h.kl], n3, rfl, ?_, ?_, r1, r2, r3, r4⟩
  · show (s.act ++ [s.S.length + 1]).filter (fun (k : Nat) => !decide ((k : Int) = ((s.S.length + 1 : Nat) : Int))) = []
    rw [h.act]
    simp
  · show (s.S ++ [a]).length ≤ i + 1
    have := h.st
    simp
    omega
theorem Ex.busy (s : DS) (now draw : Int) (a : Ad) : (s.startS now draw a).over = false := by
  unfold DS.over
  rw [show decide ((s.startS now draw a).act.length = 0) = false by simp [DS.startS]]
  simp
theorem Ex.has (s : DS) (now draw : Int) (a : Ad) : (s.startS now draw a).has ((s.S.length + 1 : Nat) : Int) = true := by
  unfold DS.has
  simp only [decide_eq_true_eq]
  exact ⟨s.S.length + 1, by simp [DS.startS], rfl⟩
end
/-! ### an answer of either family -/
def DS.ansB (f : Bool) (s : DS) (now : Int) (l : List Ad) (y : Int) : DS := if f = true then s.ans6 now l y else s.ans4 now l y
def PS.at (p : PS) (f : Bool) : QS := if f = true then p.q6 else p.q4
theorem dansB (f : Bool) (w0 w : World) (h : Nat) (b : DV) (s : DS) (d : Dl w0 w h b s) (hz : w0.heap.size ≤ w.heap.size) (hA : s.A.length ≤ 900000) (hl : s.rs.length ≤ 1000000) (now : Int) (hn : 0 ≤ now ∧ now ≤ maxT) (v : Value) (bl : Nat) (l : List Ad) (hv : Rd w 17 bl v (l.map Ad.cells)) (hb : l ≠ [] → bl ∉ dfoot h b) (y : Int) (hr : s.resolved = false) (hcn : s.p.canc = false) (ha : (s.p.at f).a = false) :
    Calls Tryd.prog 46 #[.pointer (some ⟨h, 0, none⟩), .int .u64 now, .bool f, v, .int .i64 y] w fun e w' => e = .returned (.int .i64 0) ∧ ∃ b', Dl w0 w' h b' (s.ansB f now l y) ∧ Step w w' h b b' := by
  cases f with
  | false => exact dans4 w0 w h b s d hz hA hl now hn v bl l hv hb y hr hcn ha
  | true => exact dans6 w0 w h b s d hz hA hl now hn v bl l hv hb y hr hcn ha
/-- Behind the first answer. -/
structure Ex1 (c : Cfg) (f : Bool) (n : Nat) (s : DS) : Prop where
  c : s.c = c
  lit : s.lit = false
  canc : s.p.canc = false
  a : (s.p.at f).a = true
  o : (s.p.at (!f)).a = false
  ol : (s.p.at (!f)).l = []
  A : s.A = (xL8 f).take n
  K : s.K = []
  nb : s.nb = 0
  S : s.S = []
  act : s.act = []
  rs : s.rs = if n = 0 then [4] else []
theorem ex1 (c : Cfg) (f : Bool) {n : Nat} (hn : n ≤ 8) : Ex1 c f n ((initS c []).ansB f 0 ((xL8 f).take n) 0) := by
  have hl := xL_len f hn
  have h0 : whyN 0 = 4 := by decide
  cases f with
  | false =>
    have e : (initS c []).ansB false 0 ((xL8 false).take n) 0 = ⟨c, false, ⟨c.rd, false, ⟨true, 0, ansL false [] ((xL8 false).take n)⟩, ⟨false, 0, []⟩⟩, addL [] (ansL false [] ((xL8 false).take n)), [], 0, [], [], if (ansL false [] ((xL8 false).take n)).length = 0 then [] ++ [whyN 0] else []⟩ := rfl
    rw [e]
    simp only [xL_ans, xL_add, hl, h0]
    exact ⟨rfl, rfl, rfl, rfl, rfl, rfl, rfl, rfl, rfl, rfl, rfl, rfl⟩
  | true =>
    have e : (initS c []).ansB true 0 ((xL8 true).take n) 0 = ⟨c, false, ⟨c.rd, false, ⟨false, 0, []⟩, ⟨true, 0, ansL true [] ((xL8 true).take n)⟩⟩, addL [] (ansL true [] ((xL8 true).take n)), [], 0, [], [], if (ansL true [] ((xL8 true).take n)).length = 0 then [] ++ [whyN 0] else []⟩ := rfl
    rw [e]
    simp only [xL_ans, xL_add, hl, h0]
    exact ⟨rfl, rfl, rfl, rfl, rfl, rfl, rfl, rfl, rfl, rfl, rfl, rfl⟩
theorem Ex1.res {c : Cfg} {f : Bool} {n : Nat} {s : DS} (h : Ex1 c f n s) : s.resolved = false := by
  have ho := h.o
  unfold DS.resolved PS.complete
  rw [h.lit]
  cases f with
  | false => simp only [PS.at, Bool.not_false, if_true] at ho; rw [ho]; simp
  | true => simp [PS.at] at ho; rw [ho]; simp
theorem Ex1.over {c : Cfg} {f : Bool} {n : Nat} {s : DS} (h : Ex1 c f n s) : s.over = false := by
  unfold DS.over
  rw [h.res]
  rfl
theorem Ex1.next {c : Cfg} {f : Bool} {n : Nat} {s : DS} (h : Ex1 c f n s) (hn : n ≤ 8) : Ex c n 0 4 (s.ansB (!f) 0 [] 4) := by
  have ha := h.a
  have ho := h.ol
  have h4 : whyN 4 = 4 := by decide
  have hrs : (if n = 0 then [4] else []) ++ [4] = s.rs ++ [whyN 4] := by rw [h.rs, h4]
  have hR : (∀ x ∈ s.rs ++ [whyN 4], 1 ≤ x ∧ x ≤ 7) ∧ s.rs ++ [whyN 4] ≠ [] ∧ (s.rs ++ [whyN 4]).length ≤ 0 + 2 ∧ primN (s.rs ++ [whyN 4]) = 4 := by
    rw [← hrs]
    by_cases h0 : n = 0
    · rw [if_pos h0]; exact ⟨by simp, by simp, by simp, by decide⟩
    · rw [if_neg h0]; exact ⟨by simp, by simp, by simp, by decide⟩
  have hAd : addL s.A [] = s.A := rfl
  have hI : Inv s.A s.K := by
    rw [h.A, h.K]
    exact ⟨(xL_nodup f).sublist (List.take_sublist n _), List.nodup_nil, by simp⟩
  cases f with
  | false =>
    simp only [PS.at, Bool.not_false, if_true] at ho
    simp [PS.at] at ha
    have e : s.ansB (!false) 0 [] 4 = { s with p := { s.p with q6 := ⟨true, 0, s.p.q6.l⟩ }, A := addL s.A s.p.q6.l, rs := if s.p.q6.l.length = 0 then s.rs ++ [whyN 4] else s.rs } := rfl
    rw [e, ho]
    refine ⟨h.c, by simp [PS.complete, ha], ?_, ?_, hI, h.nb, h.act, ?_, hR.1, hR.2.1, hR.2.2.1, hR.2.2.2⟩
    · show (addL s.A []).length = n; rw [hAd, h.A]; exact xL_len _ hn
    · show s.K.length = 0; rw [h.K]; rfl
    · show s.S.length ≤ 0; rw [h.S]; simp
  | true =>
    simp [PS.at] at ho
    simp [PS.at] at ha
    have e : s.ansB (!true) 0 [] 4 = { s with p := { s.p with q4 := ⟨true, 0, s.p.q4.l⟩ }, A := addL s.A s.p.q4.l, rs := if s.p.q4.l.length = 0 then s.rs ++ [whyN 4] else s.rs } := rfl
    rw [e, ho]
    refine ⟨h.c, by simp [PS.complete, ha], ?_, ?_, hI, h.nb, h.act, ?_, hR.1, hR.2.1, hR.2.2.1, hR.2.2.2⟩
    · show (addL s.A []).length = n; rw [hAd, h.A]; exact xL_len _ hn
    · show s.K.length = 0; rw [h.K]; rfl
    · show s.S.length ≤ 0; rw [h.S]; simp
end Go.Proofs.YtiklhaajhdephaaDoor

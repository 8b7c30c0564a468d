/-
  Merged texts: Ryo, Rya, Ryg.
-/
import Derived.Test.YtiklhaajhdephaaGreatDoorID
import Derived.Test.YtiklhaajhdephaaGreatDoorHD
import Derived.Test.YtiklhaajhdephaaGreatDoorHC
import Derived.Test.YtiklhaajhdephaaGreatDoorGB
import Derived.Test.YtiklhaajhdephaaGreatDoorGG
import Derived.Test.YtiklhaajhdephaaGreatDoorGA

/-
 The dialer and its reference: what each operation makes of a state, and that both do it. Plain lemmas.
-/
namespace Go.Proofs.YtiklhaajhdephaaGreatDoor
open Go.RowKit
set_option linter.unusedVariables false
set_option linter.unusedSimpArgs false

/-- A call of f on the dialer at h leads from s to s' and answers r. -/
def IDoes (w0 : World) (f h : Nat) (args : List Value) (s s' : DS) (r : Value) (pre : World → DV → Prop) : Prop :=
 ∀ w b, w0.heap.size ≤ w.heap.size → Dl w0 w h b s → pre w b → Calls Tryz.prog f (.pointer (some ⟨h, 0, none⟩) :: args).toArray w fun e w' => e = .returned r ∧ ∃ b', Dl w0 w' h b' s' ∧ Step w w' h b b'
/-- The same of the reference. -/
def RDoes (w0 : World) (f h : Nat) (args : List Value) (s s' : DS) (r : Value) (pre : World → RV → Prop) : Prop :=
 ∀ w b, w0.heap.size ≤ w.heap.size → Rdl w0 w h b s (tknP s.A s.K) → pre w b → Calls Tryz.prog f (.pointer (some ⟨h, 0, none⟩) :: args).toArray w fun e w' => e = .returned r ∧ ∃ b', Rdl w0 w' h b' s' (tknP s'.A s'.K) ∧ RStep w w' h b b'
/-- What an operation keeps: the configuration, what was started (more may come). -/
structure After (s s' : DS) (N : Nat) : Prop where
 ok : Ok s' N
 pre : s.S <+: s'.S
 c : s'.c = s.c
theorem After.same {s : DS} {N : Nat} (o : Ok s N) : After s s (N + 1) := ⟨o.more (by omega), List.prefix_refl _, rfl⟩
theorem Ok.act {s : DS} {N : Nat} (o : Ok s N) : s.act.length ≤ 8 := by
 obtain ⟨_, _, _, _, _, h⟩ := s.c.valid_iff o.cfg
 have := o.actm
 omega
/-! ### Answer -/
def DS.ansA (s : DS) (f : Bool) : Bool := bif f then s.p.q6.a else s.p.q4.a
def DS.ansE (s : DS) (f : Bool) : Int := if s.resolved = true then 7 else if s.ansA f = true then 5 else 0
def DS.ansN (s : DS) (now : Int) (f : Bool) (l : List Ad) (y : Int) : DS := if s.resolved = true then s else if s.ansA f = true then s else bif f then s.ans6 now l y else s.ans4 now l y
theorem Ok.ansN {s : DS} {N : Nat} (o : Ok s N) (now : Int) (f : Bool) {l : List Ad} (hl : l.length ≤ 6) (y : Int) : After s (s.ansN now f l y) (N + 1) ∧ tknP (s.ansN now f l y).A (s.ansN now f l y).K = tknP s.A s.K := by
 unfold DS.ansN
 by_cases hr : s.resolved = true
 ·rw [if_pos hr]; exact ⟨.same o, rfl⟩
 ·have hr2 : s.resolved = false := by simpa using hr
  rw [if_neg hr]
  by_cases ha : s.ansA f = true
  ·rw [if_pos ha]; exact ⟨.same o, rfl⟩
  ·rw [if_neg ha]
   cases f with
   | false =>
    have h := o.ans4 (now := now) (y := y) hl hr2 (by simpa [DS.ansA] using ha)
    exact ⟨⟨h.1, List.prefix_refl _, rfl⟩, h.2⟩
   | true =>
    have h := o.ans6 (now := now) (y := y) hl hr2 (by simpa [DS.ansA] using ha)
    exact ⟨⟨h.1, List.prefix_refl _, rfl⟩, h.2⟩
theorem ians {w0 : World} {h : Nat} {s : DS} {N : Nat} (o : Ok s N) (hN : N ≤ 900000) {now : Int} (hn : 0 ≤ now ∧ now ≤ maxT) (f : Bool) (v : Value) (bl : Nat) {l : List Ad} (y : Int) :
  IDoes w0 32 h [.int .u64 now, .bool f, v, .int .i64 y] s (s.ansN now f l y) (.int .i64 (s.ansE f)) (fun w b => Rd w 17 bl v (l.map Ad.cells) ∧ (l ≠ [] → bl ∉ dfoot h b)) := by
 intro w b hz d ⟨hv, hb⟩
 unfold DS.ansN DS.ansE
 by_cases hr : s.resolved = true
 ·rw [if_pos hr, if_pos hr]
  exact (dansR w0 w h b s d now f v y hr).mono fun e w' ⟨he, hw⟩ => ⟨he, b, by rw [← hw]; exact d, by rw [← hw]; exact Step.refl _ _ _⟩
 ·have hr2 : s.resolved = false := by simpa using hr
  have hA := o.a17
  have hl := o.lenR
  rw [if_neg hr, if_neg hr]
  by_cases ha : s.ansA f = true
  ·rw [if_pos ha, if_pos ha]
   cases f with
   | false => exact (dansD4 w0 w h b s d now v y hr2 (o.canc0 hr2) (by simpa [DS.ansA] using ha)).mono fun e w' ⟨he, hw⟩ => ⟨he, b, by rw [← hw]; exact d, by rw [← hw]; exact Step.refl _ _ _⟩
   | true => exact (dansD6 w0 w h b s d now v y hr2 (o.canc0 hr2) (by simpa [DS.ansA] using ha)).mono fun e w' ⟨he, hw⟩ => ⟨he, b, by rw [← hw]; exact d, by rw [← hw]; exact Step.refl _ _ _⟩
  ·rw [if_neg ha, if_neg ha]
   cases f with
   | false => exact dans4 w0 w h b s d hz (by omega) (by omega) now hn v bl l hv hb y hr2 (o.canc0 hr2) (by simpa [DS.ansA] using ha)
   | true => exact dans6 w0 w h b s d hz (by omega) (by omega) now hn v bl l hv hb y hr2 (o.canc0 hr2) (by simpa [DS.ansA] using ha)
theorem rans {w0 : World} {h : Nat} {s : DS} {N : Nat} (o : Ok s N) (hN : N ≤ 900000) {now : Int} (hn : 0 ≤ now ∧ now ≤ maxT) (f : Bool) (v : Value) (bl : Nat) {l : List Ad} (hl6 : l.length ≤ 6) (y : Int) :
  RDoes w0 33 h [.int .u64 now, .bool f, v, .int .i64 y] s (s.ansN now f l y) (.int .i64 (s.ansE f)) (fun w b => Rd w 17 bl v (l.map Ad.cells) ∧ (l ≠ [] → bl ∉ rfoot h b)) := by
 intro w b hz d ⟨hv, hb⟩
 have hT := (o.ansN now f hl6 y).2
 rw [hT]
 clear hT
 unfold DS.ansN DS.ansE
 by_cases hr : s.resolved = true
 ·rw [if_pos hr, if_pos hr]
  exact (ransR w0 w h b s _ d now f v y hr).mono fun e w' ⟨he, hw⟩ => ⟨he, b, by rw [← hw]; exact d, by rw [← hw]; exact RStep.of0 (Touch.refl _ _)⟩
 ·have hr2 : s.resolved = false := by simpa using hr
  have hA := o.a17
  have hl := o.lenR
  rw [if_neg hr, if_neg hr]
  by_cases ha : s.ansA f = true
  ·rw [if_pos ha, if_pos ha]
   cases f with
   | false => exact (ransD4 w0 w h b s _ d now v y hr2 (o.canc0 hr2) (by simpa [DS.ansA] using ha)).mono fun e w' ⟨he, hw⟩ => ⟨he, b, by rw [← hw]; exact d, by rw [← hw]; exact RStep.of0 (Touch.refl _ _)⟩
   | true => exact (ransD6 w0 w h b s _ d now v y hr2 (o.canc0 hr2) (by simpa [DS.ansA] using ha)).mono fun e w' ⟨he, hw⟩ => ⟨he, b, by rw [← hw]; exact d, by rw [← hw]; exact RStep.of0 (Touch.refl _ _)⟩
  ·rw [if_neg ha, if_neg ha]
   cases f with
   | false => exact rans4 w0 w h b s _ d hz (by omega) (by omega) now hn v bl l hv hb y hr2 (o.canc0 hr2) (by simpa [DS.ansA] using ha)
   | true => exact rans6 w0 w h b s _ d hz (by omega) (by omega) now hn v bl l hv hb y hr2 (o.canc0 hr2) (by simpa [DS.ansA] using ha)
/-! ### CancelQueries -/
theorem Ok.cancelN {s : DS} {N : Nat} (o : Ok s N) : After s s.cancel (N + 1) := by
 refine ⟨o.cancel.1, ?_, ?_⟩ <;> (unfold DS.cancel; split <;> simp)
theorem icancel {w0 : World} {h : Nat} {s : DS} {N : Nat} (o : Ok s N) (hN : N ≤ 900000) : IDoes w0 34 h [] s s.cancel (.tuple #[]) (fun _ _ => True) :=
 fun w b hz d _ => dcancel_any w0 w h b s d hz (by have := o.lenR; omega)
theorem rcancel {w0 : World} {h : Nat} {s : DS} {N : Nat} (o : Ok s N) (hN : N ≤ 900000) : RDoes w0 35 h [] s s.cancel (.tuple #[]) (fun _ _ => True) :=
 fun w b hz d _ => (rcancel_any w0 w h b s _ d hz (by have := o.lenR; omega)).mono fun e w' ⟨he, b', d', st⟩ => ⟨he, b', by rw [o.cancel.2.1, o.cancel.2.2]; exact d', st⟩
/-! ### Start -/
def DS.startM (s : DS) (now : Int) : Int := match s.cand now with
 | [] => 0
 | _ :: _ => ((s.S.length + 1 : Nat) : Int)
def DS.startN (s : DS) (now draw : Int) : DS := match s.cand now with
 | [] => s
 | a :: _ => s.startS now draw a
theorem Ok.startN {s : DS} {N : Nat} (o : Ok s N) {now draw : Int} (hn : 0 ≤ now ∧ now ≤ maxT) (hd : 0 ≤ draw ∧ draw ≤ maxT) : After s (s.startN now draw) (N + 1) := by
 unfold DS.startN
 cases hc : s.cand now with
 | nil => exact .same o
 | cons a r => exact ⟨(o.start hn hd hc).1.more (by omega), List.prefix_append _ _, rfl⟩
theorem istart {w0 : World} {h : Nat} {s : DS} {N : Nat} (o : Ok s N) {now draw : Int} (hn : 0 ≤ now ∧ now ≤ maxT) (hd : 0 ≤ draw ∧ draw ≤ maxT) :
  IDoes w0 10 h [.int .u64 now, .int .u64 draw] s (s.startN now draw) (.tuple #[.int .i64 (s.startM now), .bool (!(s.cand now).isEmpty)]) (fun _ _ => True) := by
 intro w b hz d _
 have hA := o.a17
 have hK := o.k17
 unfold DS.startN DS.startM
 cases hc : s.cand now with
 | nil => exact (dstart_no w0 w h b s d (by omega) now draw hn hc).mono fun e w' ⟨he, t⟩ => ⟨he, b, d.touch0 t, Step.of0 t⟩
 | cons a r => exact dstart_yes w0 w h b s d hz (by omega) (by omega) o.actb o.cfg now draw hn hd a r hc
theorem rstart {w0 : World} {h : Nat} {s : DS} {N : Nat} (o : Ok s N) {now draw : Int} (hn : 0 ≤ now ∧ now ≤ maxT) (hd : 0 ≤ draw ∧ draw ≤ maxT) :
  RDoes w0 36 h [.int .u64 now, .int .u64 draw] s (s.startN now draw) (.tuple #[.int .i64 (s.startM now), .bool (!(s.cand now).isEmpty)]) (fun _ _ => True) := by
 intro w b hz d _
 have hA := o.act
 unfold DS.startN DS.startM
 cases hc : s.cand now with
 | nil => exact (rstart_no w0 w h b s _ d o.ref now draw hc).mono fun e w' ⟨he, t⟩ => ⟨he, b, d.touch0 t, RStep.of0 t⟩
 | cons a r =>
  have hT := (o.start hn hd hc).2.2
  exact (rstart_yes w0 w h b s _ d o.ref hz (by omega) o.cfg now draw hn hd a r hc).mono fun e w' ⟨he, b', d', st⟩ => ⟨he, b', by rw [hT]; exact d', st⟩
/-! ### Skip -/
def DS.skipN (s : DS) (now y : Int) : DS := match s.cand now with
 | [] => s
 | a :: _ => s.skip a y
theorem Ok.skipN {s : DS} {N : Nat} (o : Ok s N) (now y : Int) : After s (s.skipN now y) (N + 1) := by
 unfold DS.skipN
 cases hc : s.cand now with
 | nil => exact .same o
 | cons a r => exact ⟨(o.skip hc).1, List.prefix_refl _, rfl⟩
theorem iskip {w0 : World} {h : Nat} {s : DS} {N : Nat} (o : Ok s N) (hN : N ≤ 900000) {now : Int} (hn : 0 ≤ now ∧ now ≤ maxT) (y : Int) :
  IDoes w0 37 h [.int .u64 now, .int .i64 y] s (s.skipN now y) (.bool (!(s.cand now).isEmpty)) (fun _ _ => True) := by
 intro w b hz d _
 have hA := o.a17
 have hK := o.k17
 have hl := o.lenR
 unfold DS.skipN
 cases hc : s.cand now with
 | nil => exact (dskip_no w0 w h b s d (by omega) now hn y hc).mono fun e w' ⟨he, t⟩ => ⟨he, b, d.touch0 t, Step.of0 t⟩
 | cons a r => exact dskip_yes w0 w h b s d hz (by omega) (by omega) (by omega) now hn y a r hc
theorem rskip {w0 : World} {h : Nat} {s : DS} {N : Nat} (o : Ok s N) (hN : N ≤ 900000) {now : Int} (y : Int) :
  RDoes w0 38 h [.int .u64 now, .int .i64 y] s (s.skipN now y) (.bool (!(s.cand now).isEmpty)) (fun _ _ => True) := by
 intro w b hz d _
 have hl := o.lenR
 unfold DS.skipN
 cases hc : s.cand now with
 | nil => exact (rskip_no w0 w h b s _ d o.ref now y hc).mono fun e w' ⟨he, t⟩ => ⟨he, b, d.touch0 t, RStep.of0 t⟩
 | cons a r =>
  have hT := (o.skip (y := y) hc).2
  exact (rskip_yes w0 w h b s _ d o.ref hz (by omega) now y a r hc).mono fun e w' ⟨he, b', d', st⟩ => ⟨he, b', by rw [hT]; exact d', st⟩
/-! ### Fail -/
def DS.failN (s : DS) (x y : Int) : DS := if s.has x = true then s.fail x y else s
theorem Ok.failN {s : DS} {N : Nat} (o : Ok s N) (x y : Int) : After s (s.failN x y) (N + 1) := by
 unfold DS.failN
 split
 ·exact ⟨o.fail x y, List.prefix_refl _, rfl⟩
 ·exact .same o
theorem ifail {w0 : World} {h : Nat} {s : DS} {N : Nat} (o : Ok s N) (hN : N ≤ 900000) {x : Int} (hx : okZ x) (y : Int) :
  IDoes w0 39 h [.int .i64 x, .int .i64 y] s (s.failN x y) (.bool (s.has x)) (fun _ _ => True) := by
 intro w b hz d _
 have hl := o.lenR
 unfold DS.failN
 cases hh : s.has x with
 | true => exact dfail_yes w0 w h b s d hz (by omega) x y hx hh
 | false => exact (dfail_no w0 w h b s d x y hx hh).mono fun e w' ⟨he, hw⟩ => ⟨he, b, by rw [← hw]; exact d, by rw [← hw]; exact Step.refl _ _ _⟩
theorem rfail {w0 : World} {h : Nat} {s : DS} {N : Nat} (o : Ok s N) (hN : N ≤ 900000) (x y : Int) :
  RDoes w0 40 h [.int .i64 x, .int .i64 y] s (s.failN x y) (.bool (s.has x)) (fun _ _ => True) := by
 intro w b hz d _
 have hl := o.lenR
 have ha := o.act
 unfold DS.failN
 cases hh : s.has x with
 | true => exact rfail_yes w0 w h b s _ d hz (by omega) (by omega) x y hh
 | false => exact (rfail_no w0 w h b s _ d x y hh).mono fun e w' ⟨he, hw⟩ => ⟨he, b, by rw [← hw]; exact d, by rw [← hw]; exact RStep.of0 (Touch.refl _ _)⟩
/-! ### the two side by side -/
/-- A dialer in state s, a reference in state t. -/
structure Two (w0 w : World) (hI : Nat) (bI : DV) (hR : Nat) (bR : RV) (s t : DS) (N : Nat) : Prop where
 di : Dl w0 w hI bI s
 dr : Rdl w0 w hR bR t (tknP t.A t.K)
 oi : Ok s N
 or : Ok t N
 sep : Sep (dfoot hI bI) (rfoot hR bR)
def bfoot (hI : Nat) (bI : DV) (hR : Nat) (bR : RV) : List Nat := dfoot hI bI ++ rfoot hR bR
structure BStep (w w' : World) (hI : Nat) (bI bI' : DV) (hR : Nat) (bR bR' : RV) : Prop where
 t : Touch (bfoot hI bI hR bR) w w'
 n : ∀ g ∈ bfoot hI bI' hR bR', g ∈ bfoot hI bI hR bR ∨ w.heap.size ≤ g
section
variable {w0 w w' w1 w2 : World} {hI : Nat} {bI bI' b1 b2 : DV} {hR : Nat} {bR bR' r1 r2 : RV} {s t s' t' : DS} {N N' : Nat} {S : List Nat}
theorem Two.lt (B : Two w0 w hI bI hR bR s t N) : ∀ g ∈ bfoot hI bI hR bR, w0.heap.size ≤ g ∧ g < w.heap.size := by
 intro g hg
 rcases List.mem_append.1 hg with e | e
 ·obtain ⟨i, hi⟩ := mem_dfoot.1 e; exact B.di.lt i g hi
 ·obtain ⟨i, hi⟩ := mem_rfoot.1 e; exact B.dr.lt i g hi
theorem Two.touch (B : Two w0 w hI bI hR bR s t N) (T : Touch S w w') (hd : ∀ g ∈ bfoot hI bI hR bR, g ∉ S) : Two w0 w' hI bI hR bR s t N :=
 ⟨B.di.touch T (fun i g hg => hd g (List.mem_append_left _ (mem_dfoot.2 ⟨i, hg⟩))), B.dr.touch T (fun i g hg => hd g (List.mem_append_right _ (mem_rfoot.2 ⟨i, hg⟩))), B.oi, B.or, B.sep⟩
theorem Two.touch0 (B : Two w0 w hI bI hR bR s t N) (T : Touch [] w w') : Two w0 w' hI bI hR bR s t N := B.touch T (fun g hg => by simp)
theorem Two.more (B : Two w0 w hI bI hR bR s t N) (h : N ≤ N') : Two w0 w hI bI hR bR s t N' := { B with oi := B.oi.more h, or := B.or.more h }
theorem BStep.of0 (T : Touch [] w w') : BStep w w' hI bI bI hR bR bR := ⟨T.mono (by simp), fun g hg => .inl hg⟩
theorem BStep.trans (a : BStep w w1 hI bI b1 hR bR r1) (c : BStep w1 w2 hI b1 b2 hR r1 r2) : BStep w w2 hI bI b2 hR bR r2 :=
 ⟨a.t.trans c.t (fun x hx => a.n x hx), fun g hg => by
  rcases c.n g hg with e | e
  ·exact a.n g e
  ·exact .inr (Nat.le_trans a.t.size e)⟩
theorem BStep.away (st : BStep w w' hI bI bI' hR bR bR') {g : Nat} (hg : g ∉ bfoot hI bI hR bR) (hl : g < w.heap.size) : g ∉ bfoot hI bI' hR bR' := fun hm => by
 rcases st.n g hm with e | e
 ·exact hg e
 ·omega
/-- The implementation's step: the reference does not see it. -/
theorem Two.mid (B : Two w0 w hI bI hR bR s t N) (st : Step w w1 hI bI bI') : Rdl w0 w1 hR bR t (tknP t.A t.K) :=
 B.dr.touch st.t (fun i g hg hm => B.sep g hm (mem_rfoot.2 ⟨i, hg⟩))
/-- The implementation alone has made a step. -/
theorem Two.left (B : Two w0 w hI bI hR bR s t N) (d1 : Dl w0 w1 hI bI' s') (st : Step w w1 hI bI bI') (a : Ok s' N') (h : N ≤ N') : Two w0 w1 hI bI' hR bR s' t N' ∧ BStep w w1 hI bI bI' hR bR bR := by
 have hlt : ∀ g ∈ rfoot hR bR, g < w.heap.size := fun g hg => (B.lt g (List.mem_append_right _ hg)).2
 refine ⟨⟨d1, B.mid st, a, B.or.more h, fun g hg hm => ?_⟩, ⟨st.t.mono (fun x hx => .inl (List.mem_append_left _ hx)), fun g hg => ?_⟩⟩
 ·rcases st.n g hg with e | e
  ·exact B.sep g e hm
  ·have := hlt g hm; omega
 ·rcases List.mem_append.1 hg with e | e
  ·rcases st.n g e with e | e
   ·exact .inl (List.mem_append_left _ e)
   ·exact .inr e
  ·exact .inl (List.mem_append_right _ e)
/-- Both have made their steps. -/
theorem Two.join (B : Two w0 w hI bI hR bR s t N) (d1 : Dl w0 w1 hI bI' s') (st : Step w w1 hI bI bI') (d2 : Rdl w0 w2 hR bR' t' (tknP t'.A t'.K)) (rt : RStep w1 w2 hR bR bR') (a : Ok s' N') (c : Ok t' N') :
  Two w0 w2 hI bI' hR bR' s' t' N' ∧ BStep w w2 hI bI bI' hR bR bR' := by
 have hlt : ∀ g ∈ rfoot hR bR, g < w.heap.size := fun g hg => (B.lt g (List.mem_append_right _ hg)).2
 have hdis : ∀ g ∈ dfoot hI bI', g ∉ rfoot hR bR := by
  intro g hg hm
  rcases st.n g hg with e | e
  ·exact B.sep g e hm
  ·have := hlt g hm; omega
 refine ⟨⟨d1.touch rt.t (fun i g hg => hdis g (mem_dfoot.2 ⟨i, hg⟩)), d2, a, c, fun g hg hm => ?_⟩, ⟨?_, ?_⟩⟩
 ·rcases rt.n g hm with e | e
  ·exact hdis g hg e
  ·obtain ⟨i, hi⟩ := mem_dfoot.1 hg
   have := (d1.lt i g hi).2
   omega
 ·exact (st.t.mono (fun x hx => .inl (List.mem_append_left _ hx))).trans rt.t (fun x hx => .inl (List.mem_append_right _ hx))
 ·intro g hg
  rcases List.mem_append.1 hg with e | e
  ·rcases st.n g e with e | e
   ·exact .inl (List.mem_append_left _ e)
   ·exact .inr e
  ·rcases rt.n g e with e | e
   ·exact .inl (List.mem_append_right _ e)
   ·exact .inr (Nat.le_trans st.t.size e)
/-- What an operation on both leaves behind: they answered r alike if they were alike, and are alike then. -/
def Done (w0 w w' : World) (hI : Nat) (bI : DV) (hR : Nat) (bR : RV) (s t : DS) (N : Nat) (r : Bool) : Prop :=
 ∃ bI' bR' s' t', Two w0 w' hI bI' hR bR' s' t' (N + 1) ∧ BStep w w' hI bI bI' hR bR bR' ∧ After s s' (N + 1) ∧ After t t' (N + 1) ∧ (s = t → r = true ∧ s' = t')
theorem Done.after {r : Bool} (T : Touch [] w w1) (D : Done w0 w1 w' hI bI hR bR s t N r) : Done w0 w w' hI bI hR bR s t N r := by
 obtain ⟨bI', bR', s', t', h1, h2, h3⟩ := D
 exact ⟨bI', bR', s', t', h1, (BStep.of0 T).trans h2, h3⟩
theorem Two.done (B : Two w0 w hI bI hR bR s t N) {r : Bool} (a : After s s' (N + 1)) (c : After t t' (N + 1)) (e : s = t → r = true ∧ s' = t') (d1 : Dl w0 w1 hI bI' s') (st : Step w w1 hI bI bI') (d2 : Rdl w0 w2 hR bR' t' (tknP t'.A t'.K)) (rt : RStep w1 w2 hR bR bR') : Done w0 w w2 hI bI hR bR s t N r :=
 ⟨bI', bR', s', t', (B.join d1 st d2 rt a.ok c.ok).1, (B.join d1 st d2 rt a.ok c.ok).2, a, c, e⟩
theorem Two.idle (B : Two w0 w hI bI hR bR s t N) (T : Touch [] w w') : Done w0 w w' hI bI hR bR s t N true :=
 ⟨bI, bR, s, t, (B.touch0 T).more (by omega), BStep.of0 T, .same B.oi, .same B.or, fun h => ⟨rfl, h⟩⟩
end
end Go.Proofs.YtiklhaajhdephaaGreatDoor

/-
 The contract of apply: the operation goes to the dialer and to its reference, and both answer alike where they were alike.
-/
namespace Go.Proofs.YtiklhaajhdephaaGreatDoor
open Go.RowKit
set_option linter.unusedVariables false
set_option linter.unusedSimpArgs false

theorem cellAt {w : World} {b k : Nat} {cs : Array Value} {T : TypeId} {u : Nat × Nat} {v : Value} (h : w.heap[b]? = some (.cells cs T u)) (hv : cs[k]? = some v) : w.cell? ⟨b, k, none⟩ = some v := by
 rw [cell_of_row _ _ _ _ _ _ h]
 exact hv
set_option maxRecDepth 100000 in
set_option maxHeartbeats 16000000 in
theorem apply_any (w0 : World) (hI : Nat) (bI : DV) (hR : Nat) (bR : RV) (s t : DS) (N : Nat) (w : World) (B : Two w0 w hI bI hR bR s t N) (hz : w0.heap.size ≤ w.heap.size) (hN : N ≤ 900000) (now : Int) (hn : 0 ≤ now ∧ now ≤ maxT) (kd : Int) (f : Bool) (v : Value) (bl : Nat) (xs : List (List Value)) (hv : Rd w 17 bl v xs) (hx : ∀ x ∈ xs, IsAd x) (wy tr draw pass : Int) (hd : 0 ≤ draw ∧ draw ≤ maxT) :
  Calls Tryz.prog 12 #[.agg #[.pointer (some ⟨hI, 0, none⟩), .pointer (some ⟨hR, 0, none⟩)], .agg #[.int .i64 kd, .bool f, v, .int .i64 wy, .int .i64 tr, .int .u64 draw, .int .u64 pass], .int .u64 now] w fun e w' => ∃ r, e = .returned (.bool r) ∧ Done w0 w w' hI bI hR bR s t N r := by
 have m1 := gmod_lo kd 10 (by decide)
 have m2 := gmod_hi kd 10 (by decide)
 have HX8 := Lib.hid (show okZ (gmod tr 8) by have h1 := gmod_lo tr 8 (by decide); have h2 := gmod_hi tr 8 (by decide); have h3 := okZ_nat (n := (gmod tr 8).toNat) (by omega); rw [Int.toNat_of_nonneg h1] at h3; exact h3)
 have G3 := heap_alloc_new w (.cells #[.pointer (some ⟨hI, 0, none⟩), .pointer (some ⟨hR, 0, none⟩)] 34)
 have G4 := heap_alloc_new (w.alloc (.cells #[.pointer (some ⟨hI, 0, none⟩), .pointer (some ⟨hR, 0, none⟩)] 34)) (.cells #[.int .i64 kd, .bool f, v, .int .i64 wy, .int .i64 tr, .int .u64 draw, .int .u64 pass] 37)
 have TW := ((Touch.refl [] w).alloc (.cells #[.pointer (some ⟨hI, 0, none⟩), .pointer (some ⟨hR, 0, none⟩)] 34)).alloc (.cells #[.int .i64 kd, .bool f, v, .int .i64 wy, .int .i64 tr, .int .u64 draw, .int .u64 pass] 37)
 have hz4 : (w.alloc (.cells #[.pointer (some ⟨hI, 0, none⟩), .pointer (some ⟨hR, 0, none⟩)] 34)).heap.size = w.heap.size + 1 := by simp
 rw [hz4] at G4
 have HG3r := Lib.hid (((Touch.refl [] (w.alloc (.cells #[.pointer (some ⟨hI, 0, none⟩), .pointer (some ⟨hR, 0, none⟩)] 34))).alloc (.cells #[.int .i64 kd, .bool f, v, .int .i64 wy, .int .i64 tr, .int .u64 draw, .int .u64 pass] 37)).at G3 (by simp))
 have HG4r := Lib.hid G4
 have HT := Lib.hid TW
 have HB := Lib.hid (B.touch0 TW)
 have HZ := Lib.hid (Nat.le_trans hz TW.size)
 have HV := Lib.hid (Rd.touch TW hv (by simp))
 have HG3 := Lib.hid (show w.heap.size ∉ bfoot hI bI hR bR from fun hm => by have := (B.lt _ hm).2; omega)
 have HG4 := Lib.hid (show w.heap.size + 1 ∉ bfoot hI bI hR bR from fun hm => by have := (B.lt _ hm).2; omega)
 have HN := Lib.hid hN
 have HNW := Lib.hid hn
 have HD := Lib.hid hd
 have HXS := Lib.hid hx
 clear B hz hN hn hd hv hx G3 G4 TW hz4
 go_enter Tryz.func12, Tryz.ntmps12
 go_wp2_with fail
 generalize (w.alloc (.cells #[.pointer (some ⟨hI, 0, none⟩), .pointer (some ⟨hR, 0, none⟩)] 34)).alloc (.cells #[.int .i64 kd, .bool f, v, .int .i64 wy, .int .i64 tr, .int .u64 draw, .int .u64 pass] 37) = W at *
 generalize w.heap.size + 1 = g4 at *
 generalize w.heap.size = g3 at *
 refine wp_region_held (S := Touch ([]) W.drew) (by kernel_rfl) ?_
 change wpAnyH _ _ _ _ _ _ _ _ W.drew
 have tD := (Touch.refl [] W).drew
 have HB1 := Lib.hid (HB.out.touch0 tD)
 have HT1 := Lib.hid (HT.out.trans tD (by simp))
 have HZ1 := Lib.hid (Nat.le_trans HZ.out tD.size)
 have HRA := Lib.hid (tD.at HG3r.out (by simp))
 have HRB := Lib.hid (tD.at HG4r.out (by simp))
 have HVX := Lib.hid (Rd.touch tD HV.out (by simp))
 generalize W.drew = X at *
 clear tD HB HT HZ HG3r HG4r HV
 have hS := Touch.refl [] X
 refine tkH 0 (.pointer (some ⟨g4, 3, none⟩)) ?_
 refine tkH 1 (.int .i64 wy) ?_ (hy := Or.inl ⟨by rfl, fun w' hw => by (have q := hw.cell (cellAt HRB.out (k := 3) rfl) (by simp); go_simp)⟩)
 refine tkH 3 (.pointer (some ⟨g4, 4, none⟩)) ?_
 refine tkH 4 (.int .i64 tr) ?_ (hy := Or.inl ⟨by rfl, fun w' hw => by (have q := hw.cell (cellAt HRB.out (k := 4) rfl) (by simp); go_simp)⟩)
 refine wpAnyH_ready (rs := [2]) (by kernel_rfl) (by simp) ?_
 refine cnH rfl (fun K hK => ?_) AllReadyH.nil
 go_simp
 refine (mod_any wy 10 _ (by decide) (by decide)).mono ?_
 rintro e _ ⟨rfl, rfl⟩
 refine hK.out _ _ hS (fun _ => ?_)
 clear hK K
 try simp only [Act.put, sT, s0, sS]
 refine wpAnyH_ready (rs := [5]) (by kernel_rfl) (by simp) ?_
 refine cnH rfl (fun K hK => ?_) AllReadyH.nil
 go_simp
 refine (mod_any tr 8 _ (by decide) (by decide)).mono ?_
 rintro e _ ⟨rfl, rfl⟩
 refine hK.out _ _ hS (fun _ => ?_)
 clear hK K
 try simp only [Act.put, sT, s0, sS]
 refine tkH 6 (.int .i64 (gmod wy 10)) ?_
 refine tkH 7 (.int .i64 (gmod tr 8)) ?_
 refine wpAnyH_done (by kernel_rfl) ?_ _
 try simp only [Act.put, sT, s0, sS]
 clear hS
 generalize gmod wy 10 = y at *
 generalize gmod tr 8 = x at *
 have c40 := cellAt HRB.out (k := 0) rfl
 have c42 := cellAt HRB.out (k := 2) rfl
 have c43 := cellAt HRB.out (k := 3) rfl
 go_wp2_with fail
 refine (mod_any kd 10 X (by decide) (by decide)).mono ?_
 rintro e _ ⟨rfl, rfl⟩
 generalize gmod kd 10 = q at *
 rcases (by omega : q = 0 ∨ q = 1 ∨ q = 2 ∨ q = 3 ∨ q = 4 ∨ q = 5 ∨ q = 6 ∨ q = 7 ∨ q = 8 ∨ q = 9) with rfl | rfl | rfl | rfl | rfl | rfl | rfl | rfl | rfl | rfl
 iterate 2
  ·clear c40 c43
   go_wp2_with fail
   refine (someAddrs_any v bl 6 xs X (by omega) HVX.out HXS.out).mono ?_
   rintro e w3 ⟨vx, ys, rfl, hys, hyl, ox, t3⟩
   obtain ⟨Y, rfl⟩ := ads_of hys
   have hY6 : Y.length ≤ 6 := by simpa using hyl
   obtain ⟨bx, hrx, hbx⟩ := OwnA.rdn (show OwnA X w3 vx Y from ox)
   have HBX := Lib.hid (show Y ≠ [] → bx ∉ bfoot hI bI hR bR from fun hne hm => by have h1 := ox.new bx (hbx hne); have h2 := (HB1.out.lt bx hm).2; omega)
   have HBL := Lib.hid (show Y ≠ [] → bx < w3.heap.size from fun hne => Own.lt ox bx (hbx hne))
   have HB3 := Lib.hid (HB1.out.touch0 t3)
   have HR33 := Lib.hid (t3.at HRA.out (by simp))
   have HR43 := Lib.hid (t3.at HRB.out (by simp))
   have HT3 := Lib.hid (HT1.out.trans t3 (by simp))
   have HZ3 := Lib.hid (Nat.le_trans HZ1.out t3.size)
   have HRX := Lib.hid hrx
   have HIA := Lib.hid (ians HB3.out.oi HN.out HNW.out f vx bx (l := Y) (h := hI) (w0 := w0) y)
   have HRF := Lib.hid (rans HB3.out.or HN.out HNW.out f vx bx hY6 (h := hR) (w0 := w0) y)
   have HAI := Lib.hid (HB3.out.oi.ansN now f hY6 y).1
   have HAR := Lib.hid (HB3.out.or.ansN now f hY6 y).1
   obtain ⟨r1, hr1⟩ : ∃ r, s.ansE f = r := ⟨_, rfl⟩
   obtain ⟨r2, hr2⟩ : ∃ r, t.ansE f = r := ⟨_, rfl⟩
   have HST := Lib.hid (show s = t → (r1 == r2) = true ∧ s.ansN now f Y y = t.ansN now f Y y from fun h => by subst h; rw [← hr1, ← hr2]; simp)
   rw [hr1] at HIA
   rw [hr2] at HRF
   clear hys hyl ox hbx hrx hY6 c42 hr1 hr2 t3
   go_wp2_with fail
   refine wp_region_held (S := Touch (bfoot hI bI hR bR) w3.drew) (by kernel_rfl) ?_
   change wpAnyH _ _ _ _ _ _ _ _ w3.drew
   have tD := (Touch.refl [] w3).drew
   have HB4 := Lib.hid (HB3.out.touch0 tD)
   have HT4 := Lib.hid (HT3.out.trans tD (by simp))
   have HZ4 := Lib.hid (Nat.le_trans HZ3.out tD.size)
   have HR34 := Lib.hid (tD.at HR33.out (by simp))
   have HR44 := Lib.hid (tD.at HR43.out (by simp))
   have HRX4 := Lib.hid (HRX.out.far tD (by simp))
   generalize w3.drew = X4 at *
   clear tD
   have hS := Touch.refl (bfoot hI bI hR bR) X4
   refine tkH 0 (.pointer (some ⟨g3, 0, none⟩)) ?_
   refine tkH 1 (.pointer (some ⟨hI, 0, none⟩)) ?_ (hy := Or.inl ⟨by rfl, fun w' hw => by (have q := hw.cell (cellAt HR34.out (k := 0) rfl) HG3.out; go_simp)⟩)
   refine tkH 2 (.int .u64 now) ?_
   refine tkH 3 (.pointer (some ⟨g4, 1, none⟩)) ?_
   refine tkH 4 (.bool f) ?_ (hy := Or.inl ⟨by rfl, fun w' hw => by (have q := hw.cell (cellAt HR44.out (k := 1) rfl) HG4.out; go_simp)⟩)
   refine tkH 5 vx ?_
   refine tkH 6 (.int .i64 y) ?_
   refine tkH 8 (.pointer (some ⟨g3, 1, none⟩)) ?_
   refine tkH 9 (.pointer (some ⟨hR, 0, none⟩)) ?_ (hy := Or.inl ⟨by rfl, fun w' hw => by (have q := hw.cell (cellAt HR34.out (k := 1) rfl) HG3.out; go_simp)⟩)
   refine tkH 10 (.int .u64 now) ?_
   refine tkH 11 (.pointer (some ⟨g4, 1, none⟩)) ?_
   refine tkH 12 (.bool f) ?_ (hy := Or.inl ⟨by rfl, fun w' hw => by (have q := hw.cell (cellAt HR44.out (k := 1) rfl) HG4.out; go_simp)⟩)
   refine tkH 13 vx ?_
   refine tkH 14 (.int .i64 y) ?_
   refine wpAnyH_ready (rs := [7]) (by kernel_rfl) (by simp) ?_
   refine cnH rfl (fun K hK => ?_) AllReadyH.nil
   go_simp
   refine (HIA.out X4 bI HZ4.out HB4.out.di ⟨HRX4.out, fun hne hm => HBX.out hne (List.mem_append_left _ hm)⟩).mono ?_
   rintro e u7 ⟨rfl, b7, d7, s7⟩
   have hS2 := hS.trans s7.t (fun g hg => .inl (List.mem_append_left _ hg))
   have HDD := Lib.hid d7
   have HSS := Lib.hid s7
   refine hK.out _ _ hS2 (fun _ => ?_)
   clear hK K hS d7 s7
   have hS := hS2
   clear hS2
   try simp only [Act.put, sT, s0, sS]
   refine wpAnyH_ready (rs := [15]) (by kernel_rfl) (by simp) ?_
   refine cnH rfl (fun K hK => ?_) AllReadyH.nil
   go_simp
   refine (HRF.out u7 bR (Nat.le_trans HZ4.out HSS.out.t.size) (HB4.out.mid HSS.out) ⟨HRX4.out.far HSS.out.t (fun hne hm => HBX.out (by simpa using hne) (List.mem_append_left _ hm)), fun hne hm => HBX.out hne (List.mem_append_right _ hm)⟩).mono ?_
   rintro e u8 ⟨rfl, b8, d8, s8⟩
   have hS2 := hS.trans s8.t (fun g hg => .inl (List.mem_append_right _ hg))
   have HFIN := Lib.hid ((HB4.out.done (r := (r1 == r2)) HAI.out HAR.out HST.out HDD.out HSS.out d8 s8).after HT4.out)
   refine hK.out _ _ hS2 (fun _ => ?_)
   clear hK K hS d8 s8
   have hS := hS2
   clear hS2
   try simp only [Act.put, sT, s0, sS]
   refine tkH 16 (.bool (r1 == r2)) ?_
   refine tkH 17 (.bool (r1 == r2)) ?_
   refine wpAnyH_done (by kernel_rfl) ?_ _
   try simp only [Act.put, sT, s0, sS]
   clear hS
   go_wp2_with fail
   go_ret
   exact ⟨_, rfl, HFIN.out⟩
 ·clear c40 c42
  go_wp2_with fail
  refine (mod_any wy 4 X (by decide) (by decide)).mono ?_
  rintro e _ ⟨rfl, rfl⟩
  have HIA := Lib.hid (icancel HB1.out.oi HN.out (h := hI) (w0 := w0))
  have HRF := Lib.hid (rcancel HB1.out.or HN.out (h := hR) (w0 := w0))
  have HAI := Lib.hid HB1.out.oi.cancelN
  have HAR := Lib.hid HB1.out.or.cancelN
  cases h4 : (gmod wy 4 == 0)
  ·go_wp2_with fail
   go_ret
   exact ⟨_, rfl, (HB1.out.idle (Touch.refl [] X)).after HT1.out⟩
  ·have c30 := cellAt HRA.out (k := 0) rfl
   clear c43
   go_wp2_with fail
   refine (HIA.out X bI HZ1.out HB1.out.di trivial).mono ?_
   rintro e u7 ⟨rfl, b7, d7, s7⟩
   have c31 := cellAt (s7.t.at HRA.out (fun hm => HG3.out (List.mem_append_left _ hm))) (k := 1) rfl
   have HDD := Lib.hid d7
   have HSS := Lib.hid s7
   clear d7 s7 c30
   go_wp2_with fail
   refine (HRF.out u7 bR (Nat.le_trans HZ1.out HSS.out.t.size) (HB1.out.mid HSS.out) trivial).mono ?_
   rintro e u8 ⟨rfl, b8, d8, s8⟩
   have HFIN := Lib.hid ((HB1.out.done (r := true) HAI.out HAR.out (fun h => by subst h; exact ⟨rfl, rfl⟩) HDD.out HSS.out d8 s8).after HT1.out)
   clear d8 s8
   go_wp2_with fail
   go_ret
   exact ⟨_, rfl, HFIN.out⟩
 iterate 3
  ·clear c40 c42 c43
   have HIA := Lib.hid (istart HB1.out.oi HNW.out HD.out (h := hI) (w0 := w0))
   have HRF := Lib.hid (rstart HB1.out.or HNW.out HD.out (h := hR) (w0 := w0))
   have HAI := Lib.hid (HB1.out.oi.startN HNW.out HD.out)
   have HAR := Lib.hid (HB1.out.or.startN HNW.out HD.out)
   obtain ⟨m1, hm1⟩ : ∃ r, s.startM now = r := ⟨_, rfl⟩
   obtain ⟨m2, hm2⟩ : ∃ r, t.startM now = r := ⟨_, rfl⟩
   obtain ⟨k1, hk1⟩ : ∃ r, (!(s.cand now).isEmpty) = r := ⟨_, rfl⟩
   obtain ⟨k2, hk2⟩ : ∃ r, (!(t.cand now).isEmpty) = r := ⟨_, rfl⟩
   have HST := Lib.hid (show s = t → (m1 == m2) = true ∧ (k1 == k2) = true ∧ s.startN now draw = t.startN now draw from fun h => by subst h; rw [← hm1, ← hm2, ← hk1, ← hk2]; simp)
   rw [hm1, hk1] at HIA
   rw [hm2, hk2] at HRF
   have c30 := cellAt HRA.out (k := 0) rfl
   have c45 := cellAt HRB.out (k := 5) rfl
   clear hm1 hm2 hk1 hk2
   go_wp2_with fail
   refine (HIA.out X bI HZ1.out HB1.out.di trivial).mono ?_
   rintro e u7 ⟨rfl, b7, d7, s7⟩
   have c31 := cellAt (s7.t.at HRA.out (fun hm => HG3.out (List.mem_append_left _ hm))) (k := 1) rfl
   have c55 := cellAt (s7.t.at HRB.out (fun hm => HG4.out (List.mem_append_left _ hm))) (k := 5) rfl
   have HDD := Lib.hid d7
   have HSS := Lib.hid s7
   clear d7 s7 c30 c45
   go_wp2_with fail
   refine (HRF.out u7 bR (Nat.le_trans HZ1.out HSS.out.t.size) (HB1.out.mid HSS.out) trivial).mono ?_
   rintro e u8 ⟨rfl, b8, d8, s8⟩
   have HFN := Lib.hid (fun (r : Bool) (e : s = t → r = true ∧ s.startN now draw = t.startN now draw) => (HB1.out.done (r := r) HAI.out HAR.out e HDD.out HSS.out d8 s8).after HT1.out)
   clear d8 s8
   cases hc : (m1 == m2)
   ·go_wp2_with fail
    go_ret
    exact ⟨_, rfl, HFN.out _ (fun h => by have := (HST.out h).1; rw [hc] at this; cases this)⟩
   ·go_wp2_with fail
    go_ret
    exact ⟨_, rfl, HFN.out _ (fun h => (HST.out h).2)⟩
 ·clear c40 c42 c43
  have HIA := Lib.hid (iskip HB1.out.oi HN.out HNW.out (h := hI) (w0 := w0) y)
  have HRF := Lib.hid (rskip HB1.out.or HN.out (h := hR) (w0 := w0) (now := now) y)
  have HAI := Lib.hid (HB1.out.oi.skipN now y)
  have HAR := Lib.hid (HB1.out.or.skipN now y)
  obtain ⟨r1, hr1⟩ : ∃ r, (!(s.cand now).isEmpty) = r := ⟨_, rfl⟩
  obtain ⟨r2, hr2⟩ : ∃ r, (!(t.cand now).isEmpty) = r := ⟨_, rfl⟩
  have HST := Lib.hid (show s = t → (r1 == r2) = true ∧ s.skipN now y = t.skipN now y from fun h => by subst h; rw [← hr1, ← hr2]; simp)
  rw [hr1] at HIA
  rw [hr2] at HRF
  clear hr1 hr2
  go_wp2_with fail
  refine wp_region_held (S := Touch (bfoot hI bI hR bR) X.drew) (by kernel_rfl) ?_
  change wpAnyH _ _ _ _ _ _ _ _ X.drew
  have tD := (Touch.refl [] X).drew
  have HB4 := Lib.hid (HB1.out.touch0 tD)
  have HT4 := Lib.hid (HT1.out.trans tD (by simp))
  have HZ4 := Lib.hid (Nat.le_trans HZ1.out tD.size)
  have HR34 := Lib.hid (tD.at HRA.out (by simp))
  generalize X.drew = X4 at *
  clear tD
  have hS := Touch.refl (bfoot hI bI hR bR) X4
  refine tkH 0 (.pointer (some ⟨g3, 0, none⟩)) ?_
  refine tkH 1 (.pointer (some ⟨hI, 0, none⟩)) ?_ (hy := Or.inl ⟨by rfl, fun w' hw => by (have q := hw.cell (cellAt HR34.out (k := 0) rfl) HG3.out; go_simp)⟩)
  refine tkH 2 (.int .u64 now) ?_
  refine tkH 3 (.int .i64 y) ?_
  refine tkH 5 (.pointer (some ⟨g3, 1, none⟩)) ?_
  refine tkH 6 (.pointer (some ⟨hR, 0, none⟩)) ?_ (hy := Or.inl ⟨by rfl, fun w' hw => by (have q := hw.cell (cellAt HR34.out (k := 1) rfl) HG3.out; go_simp)⟩)
  refine tkH 7 (.int .u64 now) ?_
  refine tkH 8 (.int .i64 y) ?_
  refine wpAnyH_ready (rs := [4]) (by kernel_rfl) (by simp) ?_
  refine cnH rfl (fun K hK => ?_) AllReadyH.nil
  go_simp
  refine (HIA.out X4 bI HZ4.out HB4.out.di trivial).mono ?_
  rintro e u7 ⟨rfl, b7, d7, s7⟩
  have hS2 := hS.trans s7.t (fun g hg => .inl (List.mem_append_left _ hg))
  have HDD := Lib.hid d7
  have HSS := Lib.hid s7
  refine hK.out _ _ hS2 (fun _ => ?_)
  clear hK K hS d7 s7
  have hS := hS2
  clear hS2
  try simp only [Act.put, sT, s0, sS]
  refine wpAnyH_ready (rs := [9]) (by kernel_rfl) (by simp) ?_
  refine cnH rfl (fun K hK => ?_) AllReadyH.nil
  go_simp
  refine (HRF.out u7 bR (Nat.le_trans HZ4.out HSS.out.t.size) (HB4.out.mid HSS.out) trivial).mono ?_
  rintro e u8 ⟨rfl, b8, d8, s8⟩
  have hS2 := hS.trans s8.t (fun g hg => .inl (List.mem_append_right _ hg))
  have HFIN := Lib.hid ((HB4.out.done (r := (r1 == r2)) HAI.out HAR.out HST.out HDD.out HSS.out d8 s8).after HT4.out)
  refine hK.out _ _ hS2 (fun _ => ?_)
  clear hK K hS d8 s8
  have hS := hS2
  clear hS2
  try simp only [Act.put, sT, s0, sS]
  refine tkH 10 (.bool (r1 == r2)) ?_
  refine tkH 11 (.bool (r1 == r2)) ?_
  refine wpAnyH_done (by kernel_rfl) ?_ _
  try simp only [Act.put, sT, s0, sS]
  clear hS
  go_wp2_with fail
  go_ret
  exact ⟨_, rfl, HFIN.out⟩
 iterate 2
  ·clear c40 c42 c43
   have HIA := Lib.hid (ifail HB1.out.oi HN.out HX8.out (h := hI) (w0 := w0) y)
   have HRF := Lib.hid (rfail HB1.out.or HN.out (h := hR) (w0 := w0) x y)
   have HAI := Lib.hid (HB1.out.oi.failN x y)
   have HAR := Lib.hid (HB1.out.or.failN x y)
   obtain ⟨r1, hr1⟩ : ∃ r, s.has x = r := ⟨_, rfl⟩
   obtain ⟨r2, hr2⟩ : ∃ r, t.has x = r := ⟨_, rfl⟩
   have HST := Lib.hid (show s = t → (r1 == r2) = true ∧ s.failN x y = t.failN x y from fun h => by subst h; rw [← hr1, ← hr2]; simp)
   rw [hr1] at HIA
   rw [hr2] at HRF
   clear hr1 hr2
   go_wp2_with fail
   refine wp_region_held (S := Touch (bfoot hI bI hR bR) X.drew) (by kernel_rfl) ?_
   change wpAnyH _ _ _ _ _ _ _ _ X.drew
   have tD := (Touch.refl [] X).drew
   have HB4 := Lib.hid (HB1.out.touch0 tD)
   have HT4 := Lib.hid (HT1.out.trans tD (by simp))
   have HZ4 := Lib.hid (Nat.le_trans HZ1.out tD.size)
   have HR34 := Lib.hid (tD.at HRA.out (by simp))
   generalize X.drew = X4 at *
   clear tD
   have hS := Touch.refl (bfoot hI bI hR bR) X4
   refine tkH 0 (.pointer (some ⟨g3, 0, none⟩)) ?_
   refine tkH 1 (.pointer (some ⟨hI, 0, none⟩)) ?_ (hy := Or.inl ⟨by rfl, fun w' hw => by (have q := hw.cell (cellAt HR34.out (k := 0) rfl) HG3.out; go_simp)⟩)
   refine tkH 2 (.int .i64 x) ?_
   refine tkH 3 (.int .i64 y) ?_
   refine tkH 5 (.pointer (some ⟨g3, 1, none⟩)) ?_
   refine tkH 6 (.pointer (some ⟨hR, 0, none⟩)) ?_ (hy := Or.inl ⟨by rfl, fun w' hw => by (have q := hw.cell (cellAt HR34.out (k := 1) rfl) HG3.out; go_simp)⟩)
   refine tkH 7 (.int .i64 x) ?_
   refine tkH 8 (.int .i64 y) ?_
   refine wpAnyH_ready (rs := [4]) (by kernel_rfl) (by simp) ?_
   refine cnH rfl (fun K hK => ?_) AllReadyH.nil
   go_simp
   refine (HIA.out X4 bI HZ4.out HB4.out.di trivial).mono ?_
   rintro e u7 ⟨rfl, b7, d7, s7⟩
   have hS2 := hS.trans s7.t (fun g hg => .inl (List.mem_append_left _ hg))
   have HDD := Lib.hid d7
   have HSS := Lib.hid s7
   refine hK.out _ _ hS2 (fun _ => ?_)
   clear hK K hS d7 s7
   have hS := hS2
   clear hS2
   try simp only [Act.put, sT, s0, sS]
   refine wpAnyH_ready (rs := [9]) (by kernel_rfl) (by simp) ?_
   refine cnH rfl (fun K hK => ?_) AllReadyH.nil
   go_simp
   refine (HRF.out u7 bR (Nat.le_trans HZ4.out HSS.out.t.size) (HB4.out.mid HSS.out) trivial).mono ?_
   rintro e u8 ⟨rfl, b8, d8, s8⟩
   have hS2 := hS.trans s8.t (fun g hg => .inl (List.mem_append_right _ hg))
   have HFIN := Lib.hid ((HB4.out.done (r := (r1 == r2)) HAI.out HAR.out HST.out HDD.out HSS.out d8 s8).after HT4.out)
   refine hK.out _ _ hS2 (fun _ => ?_)
   clear hK K hS d8 s8
   have hS := hS2
   clear hS2
   try simp only [Act.put, sT, s0, sS]
   refine tkH 10 (.bool (r1 == r2)) ?_
   refine tkH 11 (.bool (r1 == r2)) ?_
   refine wpAnyH_done (by kernel_rfl) ?_ _
   try simp only [Act.put, sT, s0, sS]
   clear hS
   go_wp2_with fail
   go_ret
   exact ⟨_, rfl, HFIN.out⟩
 ·go_wp2_with fail
  go_ret
  exact ⟨_, rfl, (HB1.out.idle (Touch.refl [] X)).after HT1.out⟩
end Go.Proofs.YtiklhaajhdephaaGreatDoor

/-
 What comes into the laws on the dialer: the operations, the addresses given; a valid address out of any.
-/
namespace Go.Proofs.YtiklhaajhdephaaGreatDoor
open Go.RowKit Go.Deep
set_option linter.unusedVariables false
set_option linter.unusedSimpArgs false

theorem u64_of {n : Int} (h : (Lit.int .u64 n).wf = true) : 0 ≤ n ∧ n ≤ maxT := by
 have m1 : IntKind.u64.max = 18446744073709551615 := rfl
 have m2 : IntKind.u64.min = 0 := rfl
 simp [Lit.wf] at h
 unfold maxT
 omega
theorem i64_of {n : Int} (h : (Lit.int .i64 n).wf = true) : -9223372036854775808 ≤ n ∧ n ≤ 9223372036854775807 := by
 have m1 : IntKind.i64.max = 9223372036854775807 := rfl
 have m2 : IntKind.i64.min = -9223372036854775808 := rfl
 simp [Lit.wf] at h
 omega
theorem cfg_of {H : Type} {enc : TypeId × Value → H} {w : World} {base : Nat} {spare : Nat → Bool} {held : Bool} {cs : Array Value} (h : CellsOk enc Tryz.prog w base spare held [22, 22, 22, 3, 3] cs.toList) : ∃ c : Cfg, cs = c.cells.toArray ∧ c.Ok := by
 obtain ⟨hlen, hc⟩ := h
 obtain ⟨v0, e0, l0⟩ := hc 0 22 rfl
 obtain ⟨v1, e1, l1⟩ := hc 1 22 rfl
 obtain ⟨v2, e2, l2⟩ := hc 2 22 rfl
 obtain ⟨v3, e3, l3⟩ := hc 3 3 rfl
 obtain ⟨v4, e4, l4⟩ := hc 4 3 rfl
 obtain ⟨a, rfl, ha⟩ := l0.int Tryz.underlying22
 obtain ⟨b, rfl, hb⟩ := l1.int Tryz.underlying22
 obtain ⟨c, rfl, hcc⟩ := l2.int Tryz.underlying22
 obtain ⟨d, rfl, hd⟩ := l3.int Tryz.underlying3
 obtain ⟨e, rfl, he⟩ := l4.int Tryz.underlying3
 refine ⟨⟨a, b, c, d, e⟩, ?_, ?_⟩
 ·obtain ⟨L⟩ := cs
  simp only at hlen e0 e1 e2 e3 e4
  match L, hlen with
  | [x0, x1, x2, x3, x4], _ => simp at e0 e1 e2 e3 e4; rw [e0, e1, e2, e3, e4]; rfl
 ·exact ⟨u64_of ha, u64_of hb, u64_of hcc, i64_of hd, i64_of he⟩

set_option maxRecDepth 100000 in
set_option maxHeartbeats 2000000 in
theorem validV_any (a : Ad) (w : World) :
  Calls Tryz.prog 16 #[.agg a.cells.toArray] w fun e w' => ∃ a' : Ad, a'.valid = true ∧ e = .returned (.agg a'.cells.toArray) ∧ Touch [] w w' := by
 obtain ⟨b, xs, hok⟩ := a
 have h : IsAd (adr b xs) := ⟨b, xs, rfl, hok.1, hok.2⟩
 show Calls Tryz.prog 16 #[.agg (adr b xs).toArray] w _
 have htk : (adr b xs).take 1 = [.bool b] := rfl
 have hb : (adr b xs)[0]? = some (.bool b) := rfl
 obtain ⟨x0, e0, r0⟩ := h.byte 0 (by omega)
 obtain ⟨x1, e1, r1⟩ := h.byte 1 (by omega)
 obtain ⟨x2, e2, r2⟩ := h.byte 2 (by omega)
 obtain ⟨x3, e3, r3⟩ := h.byte 3 (by omega)
 simp only [Nat.reduceAdd] at e0 e1 e2 e3
 have hlen := h.len
 have HL := Lib.hid hlen
 have HT := Lib.hid htk
 have HO := Lib.hid h.one
 have HX := Lib.hid (show b = true → ∃ a' : Ad, a'.valid = true ∧ a'.cells = adr b xs from fun e => ⟨⟨b, xs, hok⟩, by simp [Ad.valid, vld, e], rfl⟩)
 generalize adr b xs = cs at *
 clear hlen htk h hok
 cases b
 ·go_enter Tryz.func16, Tryz.ntmps16
  go_wp2_with (refine wpList_store_part rfl 38 _ _ rfl w.heap.size 1 40 cs _ rfl rfl (heap_alloc2_old w _ _) (by rw [HL.out]; simp) size29 (by simp [Value.oneCell']) ?_)
  intro w2 hg2 t2 hz2
  have hres := t2.at (heap_alloc2_new w _ _) (by simp)
  have hrg := range_block hg2
  rw [HT.out, List.drop_of_length_le (by rw [HL.out]; simp)] at hrg
  go_wp2_with (first
   | (refine wpList_load_mid rfl 40 _ rfl _ _ rfl _ _ hrg Tryz.underlying40 rfl size31 ?_)
   | (refine wpList_store_into rfl 40 _ _ rfl (w.heap.size + 1) 40 _ _ rfl rfl hres rfl size31 (by simp [Value.oneCell']) ?_))
  intro w3 hg3 t3 hz3
  go_wp2_with fail
  refine ret_adr rfl (cs := adr false [x0, x1, x2, x3, 0, 0, 0, 0, 0, 0, 0, 0, 0, 0, 0, 0]) rfl rfl hg3 ⟨⟨false, [x0, x1, x2, x3, 0, 0, 0, 0, 0, 0, 0, 0, 0, 0, 0, 0], rfl, ?_⟩, by simp [Ad.valid, vld], rfl, ?_⟩
  ·intro x hx
   simp at hx
   rcases hx with rfl | rfl | rfl | rfl | rfl <;> omega
  ·exact ((((Touch.refl [] w).alloc _).alloc _).trans t2 (by simp)).trans t3 (by simp)
 ·have hrg := World.rangeAt_alloc (range_new w cs 40) (.cells #[.bool false, .int .u8 0, .int .u8 0, .int .u8 0, .int .u8 0, .int .u8 0, .int .u8 0, .int .u8 0, .int .u8 0, .int .u8 0, .int .u8 0, .int .u8 0, .int .u8 0, .int .u8 0, .int .u8 0, .int .u8 0, .int .u8 0] 40)
  go_enter Tryz.func16, Tryz.ntmps16
  go_wp2_with (first
   | (refine wpList_load_mid rfl 40 _ rfl _ _ rfl cs _ hrg Tryz.underlying40 rfl (by rw [size31, HL.out]) ?_)
   | (refine wpList_store_into rfl 40 _ _ rfl (w.heap.size + 1) 40 _ cs rfl rfl (heap_alloc2_new w _ _) (by rw [HL.out]; rfl) (by rw [size31, HL.out]) HO.out ?_))
  intro w3 hg3 t3 hz3
  go_wp2_with fail
  refine ret_adr rfl HL.out rfl hg3 ?_
  obtain ⟨a', h1, h2⟩ := HX.out (by simp)
  exact ⟨a', h1, by rw [h2], (((Touch.refl [] w).alloc _).alloc _).trans t3 (by simp)⟩
/-- The operations, as the law's slice holds them. -/
def OpAt (w : World) (b o : Nat) (kd : Int) (f : Bool) (v : Value) (wy tr draw pass : Int) : Prop := w.rangeAt b o [.int .i64 kd, .bool f, v, .int .i64 wy, .int .i64 tr, .int .u64 draw, .int .u64 pass]
def Ops (w : World) (a : Option Addr) (n : Nat) : Prop :=
 ∀ i, i < n → ∃ b o kd f v wy tr draw pass bl xs, a = some ⟨b, o, none⟩ ∧ OpAt w b (o + i * 7) kd f v wy tr draw pass ∧ Rd w 17 bl v xs ∧ (∀ x ∈ xs, IsAd x) ∧ (0 ≤ draw ∧ draw ≤ maxT) ∧ (0 ≤ pass ∧ pass ≤ maxT)
theorem ops_of {H : Type} {enc : TypeId × Value → H} {w : World} {v : Value} (hv : IsSlice enc Tryz.prog w 0 (fun _ => true) true [3, 4, 35, 3, 3, 22, 22] v) :
  ∃ a n cap, v = .slice a n cap ∧ n ≤ cap ∧ cap ≤ maxLen ∧ Ops w a n := by
 obtain ⟨a, len, cap, rfl, hl, hm, hc⟩ := hv.at (by simp)
 refine ⟨a, len, cap, rfl, hl, hm, ?_⟩
 intro i hi
 rcases hc with h0 | ⟨b, off, rfl, hc⟩
 ·omega
 ·obtain ⟨u0, hu0, l0⟩ := hc i 0 3 hi rfl
  obtain ⟨u1, hu1, l1⟩ := hc i 1 4 hi rfl
  obtain ⟨u2, hu2, l2⟩ := hc i 2 35 hi rfl
  obtain ⟨u3, hu3, l3⟩ := hc i 3 3 hi rfl
  obtain ⟨u4, hu4, l4⟩ := hc i 4 3 hi rfl
  obtain ⟨u5, hu5, l5⟩ := hc i 5 22 hi rfl
  obtain ⟨u6, hu6, l6⟩ := hc i 6 22 hi rfl
  obtain ⟨kd, rfl, _⟩ := l0.int Tryz.underlying3
  obtain ⟨f, rfl⟩ := l1.bool Tryz.underlying4
  obtain ⟨wy, rfl, _⟩ := l3.int Tryz.underlying3
  obtain ⟨tr, rfl, _⟩ := l4.int Tryz.underlying3
  obtain ⟨draw, rfl, h5⟩ := l5.int Tryz.underlying22
  obtain ⟨pass, rfl, h6⟩ := l6.int Tryz.underlying22
  obtain ⟨m, y, hy⟩ := l2
  have hs : IsSlice enc Tryz.prog w 0 (fun _ => true) true [4, 5, 5, 5, 5, 5, 5, 5, 5, 5, 5, 5, 5, 5, 5, 5, 5] u2 := slice_ok (d := 8) Tryz.underlying35 (by kernel_rfl) (by kernel_rfl) hy
  obtain ⟨b2, xs, hr, hx⟩ := slice_rows (by simp) hs
  simp at hu0 hu1 hu2 hu3 hu4 hu5 hu6
  refine ⟨b, off, kd, f, u2, wy, tr, draw, pass, b2, xs, rfl, ?_, hr, fun x h => isAd_cells (hx x h), u64_of h5, u64_of h6⟩
  intro j v hj
  match j, hj with
  | 0, hj => simp at hj; subst hj; simpa using hu0
  | 1, hj => simp at hj; subst hj; simpa [Nat.add_assoc] using hu1
  | 2, hj => simp at hj; subst hj; simpa [Nat.add_assoc] using hu2
  | 3, hj => simp at hj; subst hj; simpa [Nat.add_assoc] using hu3
  | 4, hj => simp at hj; subst hj; simpa [Nat.add_assoc] using hu4
  | 5, hj => simp at hj; subst hj; simpa [Nat.add_assoc] using hu5
  | 6, hj => simp at hj; subst hj; simpa [Nat.add_assoc] using hu6
  | j + 7, hj => simp at hj
end Go.Proofs.YtiklhaajhdephaaGreatDoor

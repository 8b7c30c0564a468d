/-
  Merged texts: Rx, Rxw, Rxq, Rxm, Rxp, Rxt, Rxv.
-/
import Derived.Test.YtiklhaajhdephaaGreatDoorHB
import Derived.Test.YtiklhaajhdephaaGreatDoorGP
import Derived.Test.YtiklhaajhdephaaGreatDoorGN
import Derived.Test.YtiklhaajhdephaaGreatDoorGJ
import Derived.Test.YtiklhaajhdephaaGreatDoorGQ

/-
 The reference's dialer in memory: one block, seven slices; what a step on one of them leaves of the others. Plain lemmas.
-/
namespace Go.Proofs.YtiklhaajhdephaaGreatDoor
open Go.RowKit
set_option linter.unusedVariables false
set_option linter.unusedSimpArgs false

structure RV where
 v4 : Value
 v6 : Value
 vs : Value
 vt : Value
 vp : Value
 va : Value
 vr : Value
def rpart (h : Nat) (b : RV) : Nat → List Nat
 | 0 => [h]
 | 1 => b.v4.ownBlock.toList
 | 2 => b.v6.ownBlock.toList
 | 3 => b.vs.ownBlock.toList
 | 4 => b.vt.ownBlock.toList
 | 5 => b.vp.ownBlock.toList
 | 6 => b.va.ownBlock.toList
 | 7 => b.vr.ownBlock.toList
 | _ => []
/-- The reference's dialer at block h; T: what was taken. -/
structure Rdl (w0 w : World) (h : Nat) (b : RV) (s : DS) (T : List Ad) : Prop where
 cell : w.heap[h]? = some (.cells #[.int .u64 s.c.rd, .int .u64 s.c.ad, .int .u64 s.c.jit, .int .i64 s.c.ff, .int .i64 s.c.mc, .bool s.lit, .int .u64 s.p.delay, .bool s.p.canc, .bool s.p.q4.a, .bool s.p.q6.a, .int .u64 s.p.q4.t, .int .u64 s.p.q6.t, b.v4, b.v6, .int .i64 s.c.ff, b.vs, b.vt, b.vp, b.va, .int .u64 s.nb, b.vr] 74 (0, 0))
 new : w0.heap.size ≤ h
 ov4 : OwnA w0 w b.v4 s.p.q4.l
 ov6 : OwnA w0 w b.v6 s.p.q6.l
 ovs : OwnA w0 w b.vs s.A
 ovt : OwnA w0 w b.vt T
 ovp : OwnA w0 w b.vp s.S
 ova : OwnK w0 w b.va s.act
 ovr : OwnK w0 w b.vr s.rs
 apart : Apart (rpart h b)
 n4 : s.p.q4.l.length ≤ 16
 n6 : s.p.q6.l.length ≤ 16
 d : 0 ≤ s.p.delay ∧ s.p.delay ≤ maxT
 e4 : 0 ≤ s.p.q4.t ∧ s.p.q4.t ≤ maxT
 e6 : 0 ≤ s.p.q6.t ∧ s.p.q6.t ≤ maxT
section
variable {w0 w : World} {h : Nat} {b : RV} {s : DS} {T : List Ad}
theorem Rdl.lt (d : Rdl w0 w h b s T) : ∀ i, ∀ g ∈ rpart h b i, w0.heap.size ≤ g ∧ g < w.heap.size := by
 intro i g hg
 match i, hg with
 | 0, hg => simp [rpart] at hg; subst hg; exact ⟨d.new, (Array.getElem?_eq_some_iff.1 d.cell).1⟩
 | 1, hg => simp [rpart] at hg; exact ⟨d.ov4.new g hg, Own.lt d.ov4 g hg⟩
 | 2, hg => simp [rpart] at hg; exact ⟨d.ov6.new g hg, Own.lt d.ov6 g hg⟩
 | 3, hg => simp [rpart] at hg; exact ⟨d.ovs.new g hg, Own.lt d.ovs g hg⟩
 | 4, hg => simp [rpart] at hg; exact ⟨d.ovt.new g hg, Own.lt d.ovt g hg⟩
 | 5, hg => simp [rpart] at hg; exact ⟨d.ovp.new g hg, Own.lt d.ovp g hg⟩
 | 6, hg => simp [rpart] at hg; exact ⟨d.ova.2 g hg, d.ova.lt g hg⟩
 | 7, hg => simp [rpart] at hg; exact ⟨d.ovr.2 g hg, d.ovr.lt g hg⟩
 | _ + 8, hg => simp [rpart] at hg
theorem Rdl.touch {w' : World} {S : List Nat} (d : Rdl w0 w h b s T) (t : Touch S w w') (hd : ∀ i, ∀ g ∈ rpart h b i, g ∉ S) : Rdl w0 w' h b s T :=
 ⟨t.at d.cell (hd 0 h (by simp [rpart])), d.new, Own.touch d.ov4 t (fun g hg => hd 1 g (by simp [rpart, hg])), Own.touch d.ov6 t (fun g hg => hd 2 g (by simp [rpart, hg])), Own.touch d.ovs t (fun g hg => hd 3 g (by simp [rpart, hg])), Own.touch d.ovt t (fun g hg => hd 4 g (by simp [rpart, hg])), Own.touch d.ovp t (fun g hg => hd 5 g (by simp [rpart, hg])), d.ova.touch t (fun g hg => hd 6 g (by simp [rpart, hg])), d.ovr.touch t (fun g hg => hd 7 g (by simp [rpart, hg])), d.apart, d.n4, d.n6, d.d, d.e4, d.e6⟩
theorem Rdl.touch0 {w' : World} (d : Rdl w0 w h b s T) (t : Touch [] w w') : Rdl w0 w' h b s T := d.touch t (fun i g hg => by simp)
theorem Rdl.free (d : Rdl w0 w h b s T) (k : Nat) : w.frozen? ⟨h, k, none⟩ = false := by simp [World.frozen?, d.cell]
theorem Rdl.at (d : Rdl w0 w h b s T) (k : Nat) (v : Value) (hv : (#[.int .u64 s.c.rd, .int .u64 s.c.ad, .int .u64 s.c.jit, .int .i64 s.c.ff, .int .i64 s.c.mc, .bool s.lit, .int .u64 s.p.delay, .bool s.p.canc, .bool s.p.q4.a, .bool s.p.q6.a, .int .u64 s.p.q4.t, .int .u64 s.p.q6.t, b.v4, b.v6, .int .i64 s.c.ff, b.vs, b.vt, b.vp, b.va, .int .u64 s.nb, b.vr] : Array Value)[k]? = some v) : w.cell? ⟨h, k, none⟩ = some v := by
 rw [cell_of_row _ _ _ _ _ _ d.cell]
 exact hv
theorem Rdl.off {S : List Nat} (d : Rdl w0 w h b s T) (i0 : Nat) (hS : ∀ g ∈ S, g ∈ rpart h b i0) : ∀ j, j ≠ i0 → ∀ g ∈ rpart h b j, g ∉ S :=
 fun j hj g hg hm => d.apart j i0 hj g hg (hS g hm)
theorem Rdl.set_v4 {w2 : World} {x : Value} {L : List Ad} (d : Rdl w0 w h b s T) (t : Touch b.v4.ownBlock.toList w w2) (q : OwnA w0 w2 x L) (hL : L.length ≤ 16) (hv : x.ownBlock = b.v4.ownBlock ∨ ∃ k, x.ownBlock = some k ∧ w.heap.size ≤ k) :
  Rdl w0 (w2.setCell ⟨h, 12, none⟩ x) h { b with v4 := x } { s with p := { s.p with q4 := ⟨s.p.q4.a, s.p.q4.t, L⟩ } } T ∧ Touch (h :: b.v4.ownBlock.toList) w (w2.setCell ⟨h, 12, none⟩ x) := by
 have t2 : Touch [h] w2 (w2.setCell ⟨h, 12, none⟩ x) := (Touch.refl [h] w2).setCell (p := ⟨h, 12, none⟩) (.inl (by simp)) _
 have o := d.off 1 (S := b.v4.ownBlock.toList) (by simp [rpart])
 have hc := t.at d.cell (o 0 (by decide) h (by simp [rpart]))
 have TT : Touch (h :: b.v4.ownBlock.toList) w (w2.setCell ⟨h, 12, none⟩ x) := (t.mono (fun x hx => .inl (by simp; right; simpa using hx))).trans t2 (fun x hx => .inl (by simp at hx; simp [hx]))
 have hlt : h < w.heap.size := (Array.getElem?_eq_some_iff.1 d.cell).1
 have off : ∀ j, j ≠ 0 → j ≠ 1 → ∀ g ∈ rpart h b j, g ∉ h :: b.v4.ownBlock.toList := by
  intro j h0 h4 g hg hm
  rcases List.mem_cons.1 hm with e | e
  ·exact d.apart j 0 h0 g hg (by simp [rpart, e])
  ·exact o j h4 g hg e
 have hne : ∀ g, x.ownBlock = some g → g ∉ [h] := by
  intro g hg
  simp
  intro e
  subst e
  rcases hv with e | ⟨k, e, hk⟩
  ·exact d.apart 0 1 (by decide) g (by simp [rpart]) (by rw [e] at hg; simp [rpart, hg])
  ·rw [e] at hg; cases hg; omega
 refine ⟨⟨?_, d.new, Own.touch q t2 hne, Own.touch d.ov6 TT (fun g hg => off 2 (by decide) (by decide) g (by simp [rpart, hg])), Own.touch d.ovs TT (fun g hg => off 3 (by decide) (by decide) g (by simp [rpart, hg])), Own.touch d.ovt TT (fun g hg => off 4 (by decide) (by decide) g (by simp [rpart, hg])), Own.touch d.ovp TT (fun g hg => off 5 (by decide) (by decide) g (by simp [rpart, hg])), d.ova.touch TT (fun g hg => off 6 (by decide) (by decide) g (by simp [rpart, hg])), d.ovr.touch TT (fun g hg => off 7 (by decide) (by decide) g (by simp [rpart, hg])), ?_, hL, d.n6, d.d, d.e4, d.e6⟩, TT⟩
 ·simp [World.setCell, Array.getElem?_modify, hc]
 ·refine Apart.upd 1 d.apart (fun i g hg => (d.lt i g hg).2) (fun j hj => by match j, hj with | 0, _ => rfl | 1, hj => exact absurd rfl hj | 2, _ => rfl | 3, _ => rfl | 4, _ => rfl | 5, _ => rfl | 6, _ => rfl | 7, _ => rfl | _ + 8, _ => rfl) ?_
  intro g hg
  simp [rpart] at hg
  rcases hv with e | ⟨k, e, hk⟩
  ·exact .inl (by rw [e] at hg; simp [rpart, hg])
  ·rw [e] at hg; cases hg; exact .inr hk
theorem Rdl.set_v6 {w2 : World} {x : Value} {L : List Ad} (d : Rdl w0 w h b s T) (t : Touch b.v6.ownBlock.toList w w2) (q : OwnA w0 w2 x L) (hL : L.length ≤ 16) (hv : x.ownBlock = b.v6.ownBlock ∨ ∃ k, x.ownBlock = some k ∧ w.heap.size ≤ k) :
  Rdl w0 (w2.setCell ⟨h, 13, none⟩ x) h { b with v6 := x } { s with p := { s.p with q6 := ⟨s.p.q6.a, s.p.q6.t, L⟩ } } T ∧ Touch (h :: b.v6.ownBlock.toList) w (w2.setCell ⟨h, 13, none⟩ x) := by
 have t2 : Touch [h] w2 (w2.setCell ⟨h, 13, none⟩ x) := (Touch.refl [h] w2).setCell (p := ⟨h, 13, none⟩) (.inl (by simp)) _
 have o := d.off 2 (S := b.v6.ownBlock.toList) (by simp [rpart])
 have hc := t.at d.cell (o 0 (by decide) h (by simp [rpart]))
 have TT : Touch (h :: b.v6.ownBlock.toList) w (w2.setCell ⟨h, 13, none⟩ x) := (t.mono (fun x hx => .inl (by simp; right; simpa using hx))).trans t2 (fun x hx => .inl (by simp at hx; simp [hx]))
 have hlt : h < w.heap.size := (Array.getElem?_eq_some_iff.1 d.cell).1
 have off : ∀ j, j ≠ 0 → j ≠ 2 → ∀ g ∈ rpart h b j, g ∉ h :: b.v6.ownBlock.toList := by
  intro j h0 h4 g hg hm
  rcases List.mem_cons.1 hm with e | e
  ·exact d.apart j 0 h0 g hg (by simp [rpart, e])
  ·exact o j h4 g hg e
 have hne : ∀ g, x.ownBlock = some g → g ∉ [h] := by
  intro g hg
  simp
  intro e
  subst e
  rcases hv with e | ⟨k, e, hk⟩
  ·exact d.apart 0 2 (by decide) g (by simp [rpart]) (by rw [e] at hg; simp [rpart, hg])
  ·rw [e] at hg; cases hg; omega
 refine ⟨⟨?_, d.new, Own.touch d.ov4 TT (fun g hg => off 1 (by decide) (by decide) g (by simp [rpart, hg])), Own.touch q t2 hne, Own.touch d.ovs TT (fun g hg => off 3 (by decide) (by decide) g (by simp [rpart, hg])), Own.touch d.ovt TT (fun g hg => off 4 (by decide) (by decide) g (by simp [rpart, hg])), Own.touch d.ovp TT (fun g hg => off 5 (by decide) (by decide) g (by simp [rpart, hg])), d.ova.touch TT (fun g hg => off 6 (by decide) (by decide) g (by simp [rpart, hg])), d.ovr.touch TT (fun g hg => off 7 (by decide) (by decide) g (by simp [rpart, hg])), ?_, d.n4, hL, d.d, d.e4, d.e6⟩, TT⟩
 ·simp [World.setCell, Array.getElem?_modify, hc]
 ·refine Apart.upd 2 d.apart (fun i g hg => (d.lt i g hg).2) (fun j hj => by match j, hj with | 0, _ => rfl | 1, _ => rfl | 2, hj => exact absurd rfl hj | 3, _ => rfl | 4, _ => rfl | 5, _ => rfl | 6, _ => rfl | 7, _ => rfl | _ + 8, _ => rfl) ?_
  intro g hg
  simp [rpart] at hg
  rcases hv with e | ⟨k, e, hk⟩
  ·exact .inl (by rw [e] at hg; simp [rpart, hg])
  ·rw [e] at hg; cases hg; exact .inr hk
theorem Rdl.set_vs {w2 : World} {x : Value} {L : List Ad} (d : Rdl w0 w h b s T) (t : Touch b.vs.ownBlock.toList w w2) (q : OwnA w0 w2 x L) (hv : x.ownBlock = b.vs.ownBlock ∨ ∃ k, x.ownBlock = some k ∧ w.heap.size ≤ k) :
  Rdl w0 (w2.setCell ⟨h, 15, none⟩ x) h { b with vs := x } { s with A := L } T ∧ Touch (h :: b.vs.ownBlock.toList) w (w2.setCell ⟨h, 15, none⟩ x) := by
 have t2 : Touch [h] w2 (w2.setCell ⟨h, 15, none⟩ x) := (Touch.refl [h] w2).setCell (p := ⟨h, 15, none⟩) (.inl (by simp)) _
 have o := d.off 3 (S := b.vs.ownBlock.toList) (by simp [rpart])
 have hc := t.at d.cell (o 0 (by decide) h (by simp [rpart]))
 have TT : Touch (h :: b.vs.ownBlock.toList) w (w2.setCell ⟨h, 15, none⟩ x) := (t.mono (fun x hx => .inl (by simp; right; simpa using hx))).trans t2 (fun x hx => .inl (by simp at hx; simp [hx]))
 have hlt : h < w.heap.size := (Array.getElem?_eq_some_iff.1 d.cell).1
 have off : ∀ j, j ≠ 0 → j ≠ 3 → ∀ g ∈ rpart h b j, g ∉ h :: b.vs.ownBlock.toList := by
  intro j h0 h4 g hg hm
  rcases List.mem_cons.1 hm with e | e
  ·exact d.apart j 0 h0 g hg (by simp [rpart, e])
  ·exact o j h4 g hg e
 have hne : ∀ g, x.ownBlock = some g → g ∉ [h] := by
  intro g hg
  simp
  intro e
  subst e
  rcases hv with e | ⟨k, e, hk⟩
  ·exact d.apart 0 3 (by decide) g (by simp [rpart]) (by rw [e] at hg; simp [rpart, hg])
  ·rw [e] at hg; cases hg; omega
 refine ⟨⟨?_, d.new, Own.touch d.ov4 TT (fun g hg => off 1 (by decide) (by decide) g (by simp [rpart, hg])), Own.touch d.ov6 TT (fun g hg => off 2 (by decide) (by decide) g (by simp [rpart, hg])), Own.touch q t2 hne, Own.touch d.ovt TT (fun g hg => off 4 (by decide) (by decide) g (by simp [rpart, hg])), Own.touch d.ovp TT (fun g hg => off 5 (by decide) (by decide) g (by simp [rpart, hg])), d.ova.touch TT (fun g hg => off 6 (by decide) (by decide) g (by simp [rpart, hg])), d.ovr.touch TT (fun g hg => off 7 (by decide) (by decide) g (by simp [rpart, hg])), ?_, d.n4, d.n6, d.d, d.e4, d.e6⟩, TT⟩
 ·simp [World.setCell, Array.getElem?_modify, hc]
 ·refine Apart.upd 3 d.apart (fun i g hg => (d.lt i g hg).2) (fun j hj => by match j, hj with | 0, _ => rfl | 1, _ => rfl | 2, _ => rfl | 3, hj => exact absurd rfl hj | 4, _ => rfl | 5, _ => rfl | 6, _ => rfl | 7, _ => rfl | _ + 8, _ => rfl) ?_
  intro g hg
  simp [rpart] at hg
  rcases hv with e | ⟨k, e, hk⟩
  ·exact .inl (by rw [e] at hg; simp [rpart, hg])
  ·rw [e] at hg; cases hg; exact .inr hk
theorem Rdl.set_vp {w2 : World} {x : Value} {L : List Ad} (d : Rdl w0 w h b s T) (t : Touch b.vp.ownBlock.toList w w2) (q : OwnA w0 w2 x L) (hv : x.ownBlock = b.vp.ownBlock ∨ ∃ k, x.ownBlock = some k ∧ w.heap.size ≤ k) :
  Rdl w0 (w2.setCell ⟨h, 17, none⟩ x) h { b with vp := x } { s with S := L } T ∧ Touch (h :: b.vp.ownBlock.toList) w (w2.setCell ⟨h, 17, none⟩ x) := by
 have t2 : Touch [h] w2 (w2.setCell ⟨h, 17, none⟩ x) := (Touch.refl [h] w2).setCell (p := ⟨h, 17, none⟩) (.inl (by simp)) _
 have o := d.off 5 (S := b.vp.ownBlock.toList) (by simp [rpart])
 have hc := t.at d.cell (o 0 (by decide) h (by simp [rpart]))
 have TT : Touch (h :: b.vp.ownBlock.toList) w (w2.setCell ⟨h, 17, none⟩ x) := (t.mono (fun x hx => .inl (by simp; right; simpa using hx))).trans t2 (fun x hx => .inl (by simp at hx; simp [hx]))
 have hlt : h < w.heap.size := (Array.getElem?_eq_some_iff.1 d.cell).1
 have off : ∀ j, j ≠ 0 → j ≠ 5 → ∀ g ∈ rpart h b j, g ∉ h :: b.vp.ownBlock.toList := by
  intro j h0 h4 g hg hm
  rcases List.mem_cons.1 hm with e | e
  ·exact d.apart j 0 h0 g hg (by simp [rpart, e])
  ·exact o j h4 g hg e
 have hne : ∀ g, x.ownBlock = some g → g ∉ [h] := by
  intro g hg
  simp
  intro e
  subst e
  rcases hv with e | ⟨k, e, hk⟩
  ·exact d.apart 0 5 (by decide) g (by simp [rpart]) (by rw [e] at hg; simp [rpart, hg])
  ·rw [e] at hg; cases hg; omega
 refine ⟨⟨?_, d.new, Own.touch d.ov4 TT (fun g hg => off 1 (by decide) (by decide) g (by simp [rpart, hg])), Own.touch d.ov6 TT (fun g hg => off 2 (by decide) (by decide) g (by simp [rpart, hg])), Own.touch d.ovs TT (fun g hg => off 3 (by decide) (by decide) g (by simp [rpart, hg])), Own.touch d.ovt TT (fun g hg => off 4 (by decide) (by decide) g (by simp [rpart, hg])), Own.touch q t2 hne, d.ova.touch TT (fun g hg => off 6 (by decide) (by decide) g (by simp [rpart, hg])), d.ovr.touch TT (fun g hg => off 7 (by decide) (by decide) g (by simp [rpart, hg])), ?_, d.n4, d.n6, d.d, d.e4, d.e6⟩, TT⟩
 ·simp [World.setCell, Array.getElem?_modify, hc]
 ·refine Apart.upd 5 d.apart (fun i g hg => (d.lt i g hg).2) (fun j hj => by match j, hj with | 0, _ => rfl | 1, _ => rfl | 2, _ => rfl | 3, _ => rfl | 4, _ => rfl | 5, hj => exact absurd rfl hj | 6, _ => rfl | 7, _ => rfl | _ + 8, _ => rfl) ?_
  intro g hg
  simp [rpart] at hg
  rcases hv with e | ⟨k, e, hk⟩
  ·exact .inl (by rw [e] at hg; simp [rpart, hg])
  ·rw [e] at hg; cases hg; exact .inr hk
theorem Rdl.set_va {w2 : World} {x : Value} {L : List Nat} (d : Rdl w0 w h b s T) (t : Touch b.va.ownBlock.toList w w2) (q : OwnK w0 w2 x L) (hv : x.ownBlock = b.va.ownBlock ∨ ∃ k, x.ownBlock = some k ∧ w.heap.size ≤ k) :
  Rdl w0 (w2.setCell ⟨h, 18, none⟩ x) h { b with va := x } { s with act := L } T ∧ Touch (h :: b.va.ownBlock.toList) w (w2.setCell ⟨h, 18, none⟩ x) := by
 have t2 : Touch [h] w2 (w2.setCell ⟨h, 18, none⟩ x) := (Touch.refl [h] w2).setCell (p := ⟨h, 18, none⟩) (.inl (by simp)) _
 have o := d.off 6 (S := b.va.ownBlock.toList) (by simp [rpart])
 have hc := t.at d.cell (o 0 (by decide) h (by simp [rpart]))
 have TT : Touch (h :: b.va.ownBlock.toList) w (w2.setCell ⟨h, 18, none⟩ x) := (t.mono (fun x hx => .inl (by simp; right; simpa using hx))).trans t2 (fun x hx => .inl (by simp at hx; simp [hx]))
 have hlt : h < w.heap.size := (Array.getElem?_eq_some_iff.1 d.cell).1
 have off : ∀ j, j ≠ 0 → j ≠ 6 → ∀ g ∈ rpart h b j, g ∉ h :: b.va.ownBlock.toList := by
  intro j h0 h4 g hg hm
  rcases List.mem_cons.1 hm with e | e
  ·exact d.apart j 0 h0 g hg (by simp [rpart, e])
  ·exact o j h4 g hg e
 have hne : ∀ g, x.ownBlock = some g → g ∉ [h] := by
  intro g hg
  simp
  intro e
  subst e
  rcases hv with e | ⟨k, e, hk⟩
  ·exact d.apart 0 6 (by decide) g (by simp [rpart]) (by rw [e] at hg; simp [rpart, hg])
  ·rw [e] at hg; cases hg; omega
 refine ⟨⟨?_, d.new, Own.touch d.ov4 TT (fun g hg => off 1 (by decide) (by decide) g (by simp [rpart, hg])), Own.touch d.ov6 TT (fun g hg => off 2 (by decide) (by decide) g (by simp [rpart, hg])), Own.touch d.ovs TT (fun g hg => off 3 (by decide) (by decide) g (by simp [rpart, hg])), Own.touch d.ovt TT (fun g hg => off 4 (by decide) (by decide) g (by simp [rpart, hg])), Own.touch d.ovp TT (fun g hg => off 5 (by decide) (by decide) g (by simp [rpart, hg])), q.touch t2 hne, d.ovr.touch TT (fun g hg => off 7 (by decide) (by decide) g (by simp [rpart, hg])), ?_, d.n4, d.n6, d.d, d.e4, d.e6⟩, TT⟩
 ·simp [World.setCell, Array.getElem?_modify, hc]
 ·refine Apart.upd 6 d.apart (fun i g hg => (d.lt i g hg).2) (fun j hj => by match j, hj with | 0, _ => rfl | 1, _ => rfl | 2, _ => rfl | 3, _ => rfl | 4, _ => rfl | 5, _ => rfl | 6, hj => exact absurd rfl hj | 7, _ => rfl | _ + 8, _ => rfl) ?_
  intro g hg
  simp [rpart] at hg
  rcases hv with e | ⟨k, e, hk⟩
  ·exact .inl (by rw [e] at hg; simp [rpart, hg])
  ·rw [e] at hg; cases hg; exact .inr hk
theorem Rdl.set_vr {w2 : World} {x : Value} {L : List Nat} (d : Rdl w0 w h b s T) (t : Touch b.vr.ownBlock.toList w w2) (q : OwnK w0 w2 x L) (hv : x.ownBlock = b.vr.ownBlock ∨ ∃ k, x.ownBlock = some k ∧ w.heap.size ≤ k) :
  Rdl w0 (w2.setCell ⟨h, 20, none⟩ x) h { b with vr := x } { s with rs := L } T ∧ Touch (h :: b.vr.ownBlock.toList) w (w2.setCell ⟨h, 20, none⟩ x) := by
 have t2 : Touch [h] w2 (w2.setCell ⟨h, 20, none⟩ x) := (Touch.refl [h] w2).setCell (p := ⟨h, 20, none⟩) (.inl (by simp)) _
 have o := d.off 7 (S := b.vr.ownBlock.toList) (by simp [rpart])
 have hc := t.at d.cell (o 0 (by decide) h (by simp [rpart]))
 have TT : Touch (h :: b.vr.ownBlock.toList) w (w2.setCell ⟨h, 20, none⟩ x) := (t.mono (fun x hx => .inl (by simp; right; simpa using hx))).trans t2 (fun x hx => .inl (by simp at hx; simp [hx]))
 have hlt : h < w.heap.size := (Array.getElem?_eq_some_iff.1 d.cell).1
 have off : ∀ j, j ≠ 0 → j ≠ 7 → ∀ g ∈ rpart h b j, g ∉ h :: b.vr.ownBlock.toList := by
  intro j h0 h4 g hg hm
  rcases List.mem_cons.1 hm with e | e
  ·exact d.apart j 0 h0 g hg (by simp [rpart, e])
  ·exact o j h4 g hg e
 have hne : ∀ g, x.ownBlock = some g → g ∉ [h] := by
  intro g hg
  simp
  intro e
  subst e
  rcases hv with e | ⟨k, e, hk⟩
  ·exact d.apart 0 7 (by decide) g (by simp [rpart]) (by rw [e] at hg; simp [rpart, hg])
  ·rw [e] at hg; cases hg; omega
 refine ⟨⟨?_, d.new, Own.touch d.ov4 TT (fun g hg => off 1 (by decide) (by decide) g (by simp [rpart, hg])), Own.touch d.ov6 TT (fun g hg => off 2 (by decide) (by decide) g (by simp [rpart, hg])), Own.touch d.ovs TT (fun g hg => off 3 (by decide) (by decide) g (by simp [rpart, hg])), Own.touch d.ovt TT (fun g hg => off 4 (by decide) (by decide) g (by simp [rpart, hg])), Own.touch d.ovp TT (fun g hg => off 5 (by decide) (by decide) g (by simp [rpart, hg])), d.ova.touch TT (fun g hg => off 6 (by decide) (by decide) g (by simp [rpart, hg])), q.touch t2 hne, ?_, d.n4, d.n6, d.d, d.e4, d.e6⟩, TT⟩
 ·simp [World.setCell, Array.getElem?_modify, hc]
 ·refine Apart.upd 7 d.apart (fun i g hg => (d.lt i g hg).2) (fun j hj => by match j, hj with | 0, _ => rfl | 1, _ => rfl | 2, _ => rfl | 3, _ => rfl | 4, _ => rfl | 5, _ => rfl | 6, _ => rfl | 7, hj => exact absurd rfl hj | _ + 8, _ => rfl) ?_
  intro g hg
  simp [rpart] at hg
  rcases hv with e | ⟨k, e, hk⟩
  ·exact .inl (by rw [e] at hg; simp [rpart, hg])
  ·rw [e] at hg; cases hg; exact .inr hk
theorem Rdl.set_vaN {w2 : World} {x : Value} {L : List Nat} (d : Rdl w0 w h b s T) (t : Touch b.va.ownBlock.toList w w2) (q : OwnK w0 w2 x L) (hv : ∀ g ∈ x.ownBlock.toList, g ∈ b.va.ownBlock.toList ∨ w.heap.size ≤ g) :
  Rdl w0 (w2.setCell ⟨h, 18, none⟩ x) h { b with va := x } { s with act := L } T ∧ Touch (h :: b.va.ownBlock.toList) w (w2.setCell ⟨h, 18, none⟩ x) := by
 have t2 : Touch [h] w2 (w2.setCell ⟨h, 18, none⟩ x) := (Touch.refl [h] w2).setCell (p := ⟨h, 18, none⟩) (.inl (by simp)) _
 have o := d.off 6 (S := b.va.ownBlock.toList) (by simp [rpart])
 have hc := t.at d.cell (o 0 (by decide) h (by simp [rpart]))
 have TT : Touch (h :: b.va.ownBlock.toList) w (w2.setCell ⟨h, 18, none⟩ x) := (t.mono (fun x hx => .inl (by simp; right; simpa using hx))).trans t2 (fun x hx => .inl (by simp at hx; simp [hx]))
 have hlt : h < w.heap.size := (Array.getElem?_eq_some_iff.1 d.cell).1
 have off : ∀ j, j ≠ 0 → j ≠ 6 → ∀ g ∈ rpart h b j, g ∉ h :: b.va.ownBlock.toList := by
  intro j h0 h4 g hg hm
  rcases List.mem_cons.1 hm with e | e
  ·exact d.apart j 0 h0 g hg (by simp [rpart, e])
  ·exact o j h4 g hg e
 have hne : ∀ g, x.ownBlock = some g → g ∉ [h] := by
  intro g hg
  simp
  intro e
  subst e
  rcases hv g (by simp [hg]) with e | e
  ·exact d.apart 0 6 (by decide) g (by simp [rpart]) (by simpa [rpart] using e)
  ·omega
 refine ⟨⟨?_, d.new, Own.touch d.ov4 TT (fun g hg => off 1 (by decide) (by decide) g (by simp [rpart, hg])), Own.touch d.ov6 TT (fun g hg => off 2 (by decide) (by decide) g (by simp [rpart, hg])), Own.touch d.ovs TT (fun g hg => off 3 (by decide) (by decide) g (by simp [rpart, hg])), Own.touch d.ovt TT (fun g hg => off 4 (by decide) (by decide) g (by simp [rpart, hg])), Own.touch d.ovp TT (fun g hg => off 5 (by decide) (by decide) g (by simp [rpart, hg])), q.touch t2 hne, d.ovr.touch TT (fun g hg => off 7 (by decide) (by decide) g (by simp [rpart, hg])), ?_, d.n4, d.n6, d.d, d.e4, d.e6⟩, TT⟩
 ·simp [World.setCell, Array.getElem?_modify, hc]
 ·refine Apart.upd 6 d.apart (fun i g hg => (d.lt i g hg).2) (fun j hj => by match j, hj with | 0, _ => rfl | 1, _ => rfl | 2, _ => rfl | 3, _ => rfl | 4, _ => rfl | 5, _ => rfl | 6, hj => exact absurd rfl hj | 7, _ => rfl | _ + 8, _ => rfl) ?_
  intro g hg
  simp [rpart] at hg
  rcases hv g (by simp [hg]) with e | e
  ·exact .inl (by simpa [rpart] using e)
  ·exact .inr e
theorem Rdl.set_nb (d : Rdl w0 w h b s T) (n : Int) : Rdl w0 (w.setCell ⟨h, 19, none⟩ (.int .u64 n)) h b { s with nb := n } T ∧ Touch [h] w (w.setCell ⟨h, 19, none⟩ (.int .u64 n)) := by
 have t : Touch [h] w (w.setCell ⟨h, 19, none⟩ (.int .u64 n)) := ((Touch.refl [h] w).setCell (p := ⟨h, 19, none⟩) (.inl (by simp)) _)
 have o := d.off 0 (S := [h]) (by simp [rpart])
 refine ⟨⟨?_, d.new, Own.touch d.ov4 t (fun g hg => o 1 (by decide) g (by simp [rpart, hg])), Own.touch d.ov6 t (fun g hg => o 2 (by decide) g (by simp [rpart, hg])), Own.touch d.ovs t (fun g hg => o 3 (by decide) g (by simp [rpart, hg])), Own.touch d.ovt t (fun g hg => o 4 (by decide) g (by simp [rpart, hg])), Own.touch d.ovp t (fun g hg => o 5 (by decide) g (by simp [rpart, hg])), d.ova.touch t (fun g hg => o 6 (by decide) g (by simp [rpart, hg])), d.ovr.touch t (fun g hg => o 7 (by decide) g (by simp [rpart, hg])), d.apart, d.n4, d.n6, d.d, d.e4, d.e6⟩, t⟩
 simp [World.setCell, Array.getElem?_modify, d.cell]
theorem Rdl.mark4 (d : Rdl w0 w h b s T) (now : Int) (hn : 0 ≤ now ∧ now ≤ maxT) : Rdl w0 ((w.setCell ⟨h, 8, none⟩ (.bool true)).setCell ⟨h, 10, none⟩ (.int .u64 now)) h b { s with p := { s.p with q4 := ⟨true, now, s.p.q4.l⟩ } } T ∧ Touch [h] w ((w.setCell ⟨h, 8, none⟩ (.bool true)).setCell ⟨h, 10, none⟩ (.int .u64 now)) := by
 have t : Touch [h] w ((w.setCell ⟨h, 8, none⟩ (.bool true)).setCell ⟨h, 10, none⟩ (.int .u64 now)) := (((Touch.refl [h] w).setCell (p := ⟨h, 8, none⟩) (.inl (by simp)) _).setCell (p := ⟨h, 10, none⟩) (.inl (by simp)) _)
 have o := d.off 0 (S := [h]) (by simp [rpart])
 refine ⟨⟨?_, d.new, Own.touch d.ov4 t (fun g hg => o 1 (by decide) g (by simp [rpart, hg])), Own.touch d.ov6 t (fun g hg => o 2 (by decide) g (by simp [rpart, hg])), Own.touch d.ovs t (fun g hg => o 3 (by decide) g (by simp [rpart, hg])), Own.touch d.ovt t (fun g hg => o 4 (by decide) g (by simp [rpart, hg])), Own.touch d.ovp t (fun g hg => o 5 (by decide) g (by simp [rpart, hg])), d.ova.touch t (fun g hg => o 6 (by decide) g (by simp [rpart, hg])), d.ovr.touch t (fun g hg => o 7 (by decide) g (by simp [rpart, hg])), d.apart, d.n4, d.n6, d.d, hn, d.e6⟩, t⟩
 simp [World.setCell, Array.getElem?_modify, d.cell]
theorem Rdl.mark6 (d : Rdl w0 w h b s T) (now : Int) (hn : 0 ≤ now ∧ now ≤ maxT) : Rdl w0 ((w.setCell ⟨h, 9, none⟩ (.bool true)).setCell ⟨h, 11, none⟩ (.int .u64 now)) h b { s with p := { s.p with q6 := ⟨true, now, s.p.q6.l⟩ } } T ∧ Touch [h] w ((w.setCell ⟨h, 9, none⟩ (.bool true)).setCell ⟨h, 11, none⟩ (.int .u64 now)) := by
 have t : Touch [h] w ((w.setCell ⟨h, 9, none⟩ (.bool true)).setCell ⟨h, 11, none⟩ (.int .u64 now)) := (((Touch.refl [h] w).setCell (p := ⟨h, 9, none⟩) (.inl (by simp)) _).setCell (p := ⟨h, 11, none⟩) (.inl (by simp)) _)
 have o := d.off 0 (S := [h]) (by simp [rpart])
 refine ⟨⟨?_, d.new, Own.touch d.ov4 t (fun g hg => o 1 (by decide) g (by simp [rpart, hg])), Own.touch d.ov6 t (fun g hg => o 2 (by decide) g (by simp [rpart, hg])), Own.touch d.ovs t (fun g hg => o 3 (by decide) g (by simp [rpart, hg])), Own.touch d.ovt t (fun g hg => o 4 (by decide) g (by simp [rpart, hg])), Own.touch d.ovp t (fun g hg => o 5 (by decide) g (by simp [rpart, hg])), d.ova.touch t (fun g hg => o 6 (by decide) g (by simp [rpart, hg])), d.ovr.touch t (fun g hg => o 7 (by decide) g (by simp [rpart, hg])), d.apart, d.n4, d.n6, d.d, d.e4, hn⟩, t⟩
 simp [World.setCell, Array.getElem?_modify, d.cell]
theorem Rdl.setK (d : Rdl w0 w h b s T) (K : List Nat) : Rdl w0 w h b { s with K := K } T := ⟨d.cell, d.new, d.ov4, d.ov6, d.ovs, d.ovt, d.ovp, d.ova, d.ovr, d.apart, d.n4, d.n6, d.d, d.e4, d.e6⟩
theorem Rdl.older {w1 : World} (d : Rdl w1 w h b s T) (hz : w0.heap.size ≤ w1.heap.size) : Rdl w0 w h b s T :=
 ⟨d.cell, Nat.le_trans hz d.new, Own.older d.ov4 hz, Own.older d.ov6 hz, Own.older d.ovs hz, Own.older d.ovt hz, Own.older d.ovp hz, ⟨d.ova.1, fun g hg => Nat.le_trans hz (d.ova.2 g hg)⟩, ⟨d.ovr.1, fun g hg => Nat.le_trans hz (d.ovr.2 g hg)⟩, d.apart, d.n4, d.n6, d.d, d.e4, d.e6⟩
end
/-- All blocks of a reference's dialer. -/
def rfoot (h : Nat) (b : RV) : List Nat := (List.range 8).flatMap (rpart h b)
theorem mem_rfoot {h : Nat} {b : RV} {g : Nat} : g ∈ rfoot h b ↔ ∃ i, g ∈ rpart h b i := by
 unfold rfoot
 rw [List.mem_flatMap]
 constructor
 ·rintro ⟨i, _, e⟩; exact ⟨i, e⟩
 ·rintro ⟨i, e⟩
  refine ⟨i, ?_, e⟩
  rw [List.mem_range]
  rcases Nat.lt_or_ge i 8 with h1 | h1
  ·exact h1
  ·obtain ⟨k, rfl⟩ : ∃ k, i = k + 8 := ⟨i - 8, by omega⟩
   simp [rpart] at e
structure RStep (w w' : World) (h : Nat) (b b' : RV) : Prop where
 t : Touch (rfoot h b) w w'
 n : ∀ g ∈ rfoot h b', g ∈ rfoot h b ∨ w.heap.size ≤ g
theorem RStep.of0 {w w' : World} {h : Nat} {b : RV} (t : Touch [] w w') : RStep w w' h b b := ⟨t.mono (by simp), fun g hg => .inl hg⟩
theorem RStep.trans {w w1 w2 : World} {h : Nat} {b b1 b2 : RV} (a : RStep w w1 h b b1) (c : RStep w1 w2 h b1 b2) : RStep w w2 h b b2 :=
 ⟨a.t.trans c.t (fun x hx => a.n x hx), fun g hg => by
  rcases c.n g hg with e | e
  ·exact a.n g e
  ·exact .inr (Nat.le_trans a.t.size e)⟩
theorem RStep.own {w w' : World} {h : Nat} {b b' : RV} (i0 : Nat) (t : Touch (h :: rpart h b i0) w w') (he : ∀ j, j ≠ i0 → rpart h b' j = rpart h b j) (hn : ∀ g ∈ rpart h b' i0, g ∈ rpart h b i0 ∨ w.heap.size ≤ g) : RStep w w' h b b' :=
 ⟨t.mono (fun x hx => .inl (by
  rcases List.mem_cons.1 hx with e | e
  ·exact mem_rfoot.2 ⟨0, by simp [rpart, e]⟩
  ·exact mem_rfoot.2 ⟨i0, e⟩)), fun g hg => by
  obtain ⟨i, hi⟩ := mem_rfoot.1 hg
  by_cases e : i = i0
  ·subst e
   rcases hn g hi with e | e
   ·exact .inl (mem_rfoot.2 ⟨i, e⟩)
   ·exact .inr e
  ·rw [he i e] at hi
   exact .inl (mem_rfoot.2 ⟨i, hi⟩)⟩
theorem RStep.here {w w' : World} {h : Nat} {b : RV} (t : Touch [h] w w') : RStep w w' h b b := ⟨t.mono (fun x hx => .inl (by simp at hx; subst hx; exact mem_rfoot.2 ⟨0, by simp [rpart]⟩)), fun g hg => .inl hg⟩
theorem RStep.out {w0 w w' : World} {h : Nat} {b b' : RV} {s : DS} {T : List Ad} (st : RStep w w' h b b') (d : Rdl w0 w h b s T) (t : Touch [] w0 w) : Touch [] w0 w' := t.trans st.t (fun g hg => .inr (by obtain ⟨i, hi⟩ := mem_rfoot.1 hg; exact (d.lt i g hi).1))
end Go.Proofs.YtiklhaajhdephaaGreatDoor

/-
 The reference's queue inside a greater block (cells 14, 15, 16). Plain lemmas.
-/
namespace Go.Proofs.YtiklhaajhdephaaGreatDoor
open Go.RowKit
set_option linter.unusedVariables false
set_option linter.unusedSimpArgs false

/-- A block with room for the queue's two slices. -/
structure FOK (F : Value → Value → Array Value) (first : Int) : Prop where
 g0 : ∀ a b, (F a b)[14]? = some (.int .i64 first)
 g1 : ∀ a b, (F a b)[15]? = some a
 g2 : ∀ a b, (F a b)[16]? = some b
 s1 : ∀ a b x, (F a b).setIfInBounds 15 x = F x b
 s2 : ∀ a b x, (F a b).setIfInBounds 16 x = F a x
structure Rqw (F : Value → Value → Array Value) (w0 w : World) (h : Nat) (vs vt : Value) (first : Int) (A T : List Ad) : Prop where
 ok : FOK F first
 cell : w.heap[h]? = some (.cells (F vs vt) 74 (0, 0))
 new : w0.heap.size ≤ h
 seen : OwnA w0 w vs A
 take : OwnA w0 w vt T
 ha : vs.ownBlock ≠ some h
 ht : vt.ownBlock ≠ some h
 hat : ∀ g, vs.ownBlock = some g → vt.ownBlock ≠ some g
section
variable {F : Value → Value → Array Value} {w0 w w2 : World} {h : Nat} {vs vt v2 : Value} {first : Int} {A A2 T T2 : List Ad}
theorem Rqw.touch {w' : World} {S : List Nat} (q : Rqw F w0 w h vs vt first A T) (t : Touch S w w') (hd : ∀ g ∈ qfoot h vs vt, g ∉ S) : Rqw F w0 w' h vs vt first A T :=
 ⟨q.ok, t.at q.cell (hd h (by simp [qfoot])), q.new, Own.touch q.seen t (fun g hg => hd g (by simp [qfoot, hg])), Own.touch q.take t (fun g hg => hd g (by simp [qfoot, hg])), q.ha, q.ht, q.hat⟩
theorem Rqw.cells (q : Rqw F w0 w h vs vt first A T) : w.cell? ⟨h, 14, none⟩ = some (.int .i64 first) ∧ w.cell? ⟨h, 15, none⟩ = some vs ∧ w.cell? ⟨h, 16, none⟩ = some vt := by
 refine ⟨?_, ?_, ?_⟩ <;> rw [cell_of_row _ _ _ _ _ _ q.cell]
 ·exact q.ok.g0 _ _
 ·exact q.ok.g1 _ _
 ·exact q.ok.g2 _ _
theorem Rqw.push (q : Rqw F w0 w h vs vt first A T) (t : Touch vs.ownBlock.toList w w2) (o : OwnA w0 w2 v2 A2) (hv : v2.ownBlock = vs.ownBlock ∨ ∃ k, v2.ownBlock = some k ∧ w.heap.size ≤ k) :
  Rqw F w0 (w2.setCell ⟨h, 15, none⟩ v2) h v2 vt first A2 T ∧ Touch (h :: vs.ownBlock.toList) w (w2.setCell ⟨h, 15, none⟩ v2) := by
 have hlt : h < w.heap.size := (Array.getElem?_eq_some_iff.1 q.cell).1
 have hc := t.at q.cell (by intro hm; exact q.ha (by simpa using hm))
 have t2 : Touch [h] w2 (w2.setCell ⟨h, 15, none⟩ v2) := (Touch.refl [h] w2).setCell (p := ⟨h, 15, none⟩) (.inl (by simp)) _
 have hne : v2.ownBlock ≠ some h := by
  rcases hv with e | ⟨k, e, hk⟩
  ·rw [e]; exact q.ha
  ·rw [e]; intro e2; cases e2; omega
 refine ⟨⟨q.ok, ?_, q.new, Own.touch o t2 (fun g hg => by simp; intro e; subst e; exact hne hg), ?_, hne, q.ht, ?_⟩, ?_⟩
 ·simp [World.setCell, Array.getElem?_modify, hc, q.ok.s1]
 ·have h1 : OwnA w0 w2 vt T := Own.touch q.take t (fun g hg => by simp; intro e; exact q.hat g e hg)
  exact Own.touch h1 t2 (fun g hg => by simp; intro e; subst e; exact q.ht hg)
 ·intro g hg
  rcases hv with e | ⟨k, e, hk⟩
  ·exact q.hat g (by rw [← e]; exact hg)
  ·rw [e] at hg; cases hg
   intro e2
   have := Own.lt q.take _ e2
   omega
 ·exact (t.mono (fun x hx => .inl (by simp; right; simpa using hx))).trans t2 (fun x hx => .inl (by simp at hx; simp [hx]))
theorem Rqw.pushT (q : Rqw F w0 w h vs vt first A T) (t : Touch vt.ownBlock.toList w w2) (o : OwnA w0 w2 v2 T2) (hv : v2.ownBlock = vt.ownBlock ∨ ∃ k, v2.ownBlock = some k ∧ w.heap.size ≤ k) :
  Rqw F w0 (w2.setCell ⟨h, 16, none⟩ v2) h vs v2 first A T2 ∧ Touch (h :: vt.ownBlock.toList) w (w2.setCell ⟨h, 16, none⟩ v2) := by
 have hlt : h < w.heap.size := (Array.getElem?_eq_some_iff.1 q.cell).1
 have hc := t.at q.cell (by intro hm; exact q.ht (by simpa using hm))
 have t2 : Touch [h] w2 (w2.setCell ⟨h, 16, none⟩ v2) := (Touch.refl [h] w2).setCell (p := ⟨h, 16, none⟩) (.inl (by simp)) _
 have hne : v2.ownBlock ≠ some h := by
  rcases hv with e | ⟨k, e, hk⟩
  ·rw [e]; exact q.ht
  ·rw [e]; intro e2; cases e2; omega
 refine ⟨⟨q.ok, ?_, q.new, ?_, Own.touch o t2 (fun g hg => by simp; intro e; subst e; exact hne hg), q.ha, hne, ?_⟩, ?_⟩
 ·simp [World.setCell, Array.getElem?_modify, hc, q.ok.s2]
 ·have h1 : OwnA w0 w2 vs A := Own.touch q.seen t (fun g hg => by simp; intro e; exact q.hat g hg e)
  exact Own.touch h1 t2 (fun g hg => by simp; intro e; subst e; exact q.ha hg)
 ·intro g hg
  rcases hv with e | ⟨k, e, hk⟩
  ·rw [e]; exact q.hat g hg
  ·rw [e]; intro e2; cases e2
   have := Own.lt q.seen _ hg
   omega
 ·exact (t.mono (fun x hx => .inl (by simp; right; simpa using hx))).trans t2 (fun x hx => .inl (by simp at hx; simp [hx]))
end
section
variable {w0 w : World} {h : Nat} {b : RV} {s : DS} {T : List Ad}
/-- The dialer's block as a function of the queue's slices. -/
def rowF (b : RV) (s : DS) (x y : Value) : Array Value := #[.int .u64 s.c.rd, .int .u64 s.c.ad, .int .u64 s.c.jit, .int .i64 s.c.ff, .int .i64 s.c.mc, .bool s.lit, .int .u64 s.p.delay, .bool s.p.canc, .bool s.p.q4.a, .bool s.p.q6.a, .int .u64 s.p.q4.t, .int .u64 s.p.q6.t, b.v4, b.v6, .int .i64 s.c.ff, x, y, b.vp, b.va, .int .u64 s.nb, b.vr]
theorem rowF_ok (b : RV) (s : DS) : FOK (rowF b s) s.c.ff := ⟨fun _ _ => rfl, fun _ _ => rfl, fun _ _ => rfl, fun _ _ _ => rfl, fun _ _ _ => rfl⟩
theorem Rdl.queue (d : Rdl w0 w h b s T) : Rqw (rowF b s) w0 w h b.vs b.vt s.c.ff s.A T :=
 ⟨rowF_ok b s, d.cell, d.new, d.ovs, d.ovt, fun e => d.apart 0 3 (by decide) h (by simp [rpart]) (by simp [rpart, e]), fun e => d.apart 0 4 (by decide) h (by simp [rpart]) (by simp [rpart, e]), fun g e e2 => d.apart 3 4 (by decide) g (by simp [rpart, e]) (by simp [rpart, e2])⟩
/-- The queue changed: the dialer after it. -/
theorem Rdl.ofAdd {w' : World} {x : Value} {A : List Ad} (d : Rdl w0 w h b s T) (q : Rqw (rowF b s) w0 w' h x b.vt s.c.ff A T) (t : Touch (h :: b.vs.ownBlock.toList) w w') (hv : x.ownBlock = b.vs.ownBlock ∨ ∃ k, x.ownBlock = some k ∧ w.heap.size ≤ k) :
  Rdl w0 w' h { b with vs := x } { s with A := A } T ∧ RStep w w' h b { b with vs := x } := by
 have off : ∀ j, j ≠ 0 → j ≠ 3 → ∀ g ∈ rpart h b j, g ∉ h :: b.vs.ownBlock.toList := by
  intro j h0 h4 g hg hm
  rcases List.mem_cons.1 hm with e | e
  ·exact d.apart j 0 h0 g hg (by simp [rpart, e])
  ·exact d.apart j 3 h4 g hg (by simpa [rpart] using e)
 refine ⟨⟨q.cell, d.new, Own.touch d.ov4 t (fun g hg => off 1 (by decide) (by decide) g (by simp [rpart, hg])), Own.touch d.ov6 t (fun g hg => off 2 (by decide) (by decide) g (by simp [rpart, hg])), q.seen, q.take, Own.touch d.ovp t (fun g hg => off 5 (by decide) (by decide) g (by simp [rpart, hg])), d.ova.touch t (fun g hg => off 6 (by decide) (by decide) g (by simp [rpart, hg])), d.ovr.touch t (fun g hg => off 7 (by decide) (by decide) g (by simp [rpart, hg])), ?_, d.n4, d.n6, d.d, d.e4, d.e6⟩, ?_⟩
 ·refine Apart.upd 3 d.apart (fun i g hg => (d.lt i g hg).2) (fun j hj => by match j, hj with | 0, _ => rfl | 1, _ => rfl | 2, _ => rfl | 3, hj => exact absurd rfl hj | 4, _ => rfl | 5, _ => rfl | 6, _ => rfl | 7, _ => rfl | _ + 8, _ => rfl) ?_
  intro g hg
  simp [rpart] at hg
  rcases hv with e | ⟨k, e, hk⟩
  ·exact .inl (by rw [e] at hg; simp [rpart, hg])
  ·rw [e] at hg; cases hg; exact .inr hk
 ·refine RStep.own 3 (by simpa [rpart] using t) (fun j hj => by match j, hj with | 0, _ => rfl | 1, _ => rfl | 2, _ => rfl | 3, hj => exact absurd rfl hj | 4, _ => rfl | 5, _ => rfl | 6, _ => rfl | 7, _ => rfl | _ + 8, _ => rfl) ?_
  intro g hg
  simp [rpart] at hg
  rcases hv with e | ⟨k, e, hk⟩
  ·exact .inl (by rw [e] at hg; simp [rpart, hg])
  ·rw [e] at hg; cases hg; exact .inr hk
theorem Rdl.ofTake {w' : World} {x : Value} {T' : List Ad} (d : Rdl w0 w h b s T) (q : Rqw (rowF b s) w0 w' h b.vs x s.c.ff s.A T') (t : Touch (h :: b.vt.ownBlock.toList) w w') (hv : x.ownBlock = b.vt.ownBlock ∨ ∃ k, x.ownBlock = some k ∧ w.heap.size ≤ k) :
  Rdl w0 w' h { b with vt := x } s T' ∧ RStep w w' h b { b with vt := x } := by
 have off : ∀ j, j ≠ 0 → j ≠ 4 → ∀ g ∈ rpart h b j, g ∉ h :: b.vt.ownBlock.toList := by
  intro j h0 h4 g hg hm
  rcases List.mem_cons.1 hm with e | e
  ·exact d.apart j 0 h0 g hg (by simp [rpart, e])
  ·exact d.apart j 4 h4 g hg (by simpa [rpart] using e)
 refine ⟨⟨q.cell, d.new, Own.touch d.ov4 t (fun g hg => off 1 (by decide) (by decide) g (by simp [rpart, hg])), Own.touch d.ov6 t (fun g hg => off 2 (by decide) (by decide) g (by simp [rpart, hg])), q.seen, q.take, Own.touch d.ovp t (fun g hg => off 5 (by decide) (by decide) g (by simp [rpart, hg])), d.ova.touch t (fun g hg => off 6 (by decide) (by decide) g (by simp [rpart, hg])), d.ovr.touch t (fun g hg => off 7 (by decide) (by decide) g (by simp [rpart, hg])), ?_, d.n4, d.n6, d.d, d.e4, d.e6⟩, ?_⟩
 ·refine Apart.upd 4 d.apart (fun i g hg => (d.lt i g hg).2) (fun j hj => by match j, hj with | 0, _ => rfl | 1, _ => rfl | 2, _ => rfl | 3, _ => rfl | 4, hj => exact absurd rfl hj | 5, _ => rfl | 6, _ => rfl | 7, _ => rfl | _ + 8, _ => rfl) ?_
  intro g hg
  simp [rpart] at hg
  rcases hv with e | ⟨k, e, hk⟩
  ·exact .inl (by rw [e] at hg; simp [rpart, hg])
  ·rw [e] at hg; cases hg; exact .inr hk
 ·refine RStep.own 4 (by simpa [rpart] using t) (fun j hj => by match j, hj with | 0, _ => rfl | 1, _ => rfl | 2, _ => rfl | 3, _ => rfl | 4, hj => exact absurd rfl hj | 5, _ => rfl | 6, _ => rfl | 7, _ => rfl | _ + 8, _ => rfl) ?_
  intro g hg
  simp [rpart] at hg
  rcases hv with e | ⟨k, e, hk⟩
  ·exact .inl (by rw [e] at hg; simp [rpart, hg])
  ·rw [e] at hg; cases hg; exact .inr hk
end
end Go.Proofs.YtiklhaajhdephaaGreatDoor

/-
 The reference's queue in memory; the contract of its Add.
-/
namespace Go.Proofs.YtiklhaajhdephaaGreatDoor
open Go.RowKit
set_option linter.unusedVariables false
set_option linter.unusedSimpArgs false

theorem rvalidB (a : Ad) (r : Bool) (h : a.valid = r) (w : World) : Calls Tryz.prog 56 #[.agg a.cells.toArray] w fun e w' => e = .returned (.bool r) ∧ Touch [] w w' := by
 subst h
 exact rvalid_any a.b a.xs a.ok w
theorem rhasB (v : Value) (b : Nat) (l : List Ad) (a : Ad) (r : Bool) (h : inL l a = r) (w : World) (h1 : Rd w 17 b v (l.map Ad.cells)) :
  Calls Tryz.prog 11 #[v, .agg a.cells.toArray] w fun e w' => e = .returned (.bool r) ∧ Touch [] w w' := by
 subst h
 exact rhas_any v b l a w h1
set_option maxRecDepth 100000 in
set_option maxHeartbeats 4000000 in
theorem radd_any (F : Value → Value → Array Value) (w0 w : World) (h : Nat) (va vt : Value) (first : Int) (A T : List Ad) (q : Rqw F w0 w h va vt first A T) (hz : w0.heap.size ≤ w.heap.size) (v : Value) (b : Nat) (l : List Ad) (hv : Rd w 17 b v (l.map Ad.cells)) (hb : l ≠ [] → b ∉ qfoot h va vt) (hl : (A.length + l.length) * 17 ≤ 140737488351232) :
  Calls Tryz.prog 26 #[.pointer (some ⟨h, 14, none⟩), v] w fun e w' => ∃ va', e = .returned (.int .i64 (((addL A l).length - A.length : Nat) : Int)) ∧ Rqw F w0 w' h va' vt first (addL A l) T ∧ Touch (h :: va.ownBlock.toList) w w' ∧ (va'.ownBlock = va.ownBlock ∨ ∃ k, va'.ownBlock = some k ∧ w.heap.size ≤ k) := by
 obtain ⟨a, cap, rfl, hlc, hcm⟩ := hv.form
 simp only [List.length_map] at *
 obtain ⟨n, hn⟩ : ∃ n, n = l.length := ⟨_, rfl⟩
 obtain ⟨m, hm⟩ : ∃ m, m = A.length := ⟨_, rfl⟩
 have HN := Lib.hid hn
 have HM := Lib.hid hm
 have HV := Lib.hid hv
 have HQ := Lib.hid q
 have HHB := Lib.hid hb
 rw [← hn] at HV ⊢
 rw [← hn, ← hm] at hl
 clear hv hn hm hlc hcm q hb
 go_enter Tryz.func26, Tryz.ntmps26
 go_wp2_with fail
 go_loopw [5, 6] (fun vn vi wr => ∃ (i : Nat) (vb : Value), i ≤ n ∧ vi = .int .i64 i ∧ vn = .int .i64 (((addL A (l.take i)).length - A.length : Nat) : Int) ∧ Rqw F w0 wr h vb vt first (addL A (l.take i)) T ∧ Touch (h :: va.ownBlock.toList) w wr ∧ (vb.ownBlock = va.ownBlock ∨ ∃ k, vb.ownBlock = some k ∧ w.heap.size ≤ k)) (fun _ vi _ => n - (intOf vi).toNat)
 case atStart => exact ⟨0, va, by omega, rfl, by simp [addL], by simpa [addL] using HQ.out, Touch.refl _ _, .inl rfl⟩
 case round =>
  obtain ⟨i, vb, hin, rfl, rfl, hq, ht, hvb⟩ := hrel
  have HQI := Lib.hid hq
  have HT := Lib.hid ht
  have HVB := Lib.hid hvb
  have hlen := addL_len A (l.take i)
  obtain ⟨aB, cB, hvbf, hlB, hcB, _⟩ := hq.seen.form
  have HBF := Lib.hid hvbf
  obtain ⟨k, hk⟩ : ∃ k, k = (addL A (l.take i)).length := ⟨_, rfl⟩
  have HK := Lib.hid hk
  have hkb : m ≤ k ∧ k ≤ m + i := by rw [hk, HM.out]; refine ⟨hlen.1, ?_⟩; have := hlen.2; rw [List.length_take] at this; omega
  obtain ⟨d, hd⟩ : ∃ d, d = k - m := ⟨_, rfl⟩
  have HD := Lib.hid hd
  rw [← hk] at hlB HBF ⊢
  rw [← HM.out, ← hd]
  clear hq ht hvb hlen hvbf hk hd
  by_cases hlt : i < n
  ·obtain ⟨x, hx⟩ : ∃ x, l[i]? = some x := ⟨_, List.getElem?_eq_getElem (by rw [← HN.out]; exact hlt)⟩
   obtain ⟨o1, rfl, hat1⟩ := HV.out.at (by intro e; rw [List.map_eq_nil_iff] at e; rw [e] at hx; simp at hx)
   have hbn := HHB.out (by intro e; rw [e] at hx; simp at hx)
   have r1 := HT.out.range (hat1 i x.cells (by simp [hx])) (by intro hm; apply hbn; simp only [qfoot, List.mem_cons, List.mem_append] at hm ⊢; rcases hm with e | e; exact .inl e; exact .inr (.inl e))
   have HBN := Lib.hid (show b ∉ vb.ownBlock.toList from by
    intro hm
    rcases HVB.out with e | ⟨q, e, hq⟩
    ·rw [e] at hm
     exact hbn (by simp only [qfoot, List.mem_cons, List.mem_append]; exact .inr (.inl hm))
    ·rw [e] at hm
     simp at hm
     have h0 := World.block_lt_of_cell? w _ (hat1 i x.cells (by simp [hx]) 0 _ (List.getElem?_eq_getElem (by rw [x.len]; omega)))
     simp only at h0
     omega)
   have HLX := Lib.hid x.len
   have HST := Lib.hid (addL_step A l i x hx)
   have hwi : IntKind.i64.wrap ((i : Int) + 1) = (i : Int) + 1 := by rw [IntKind.wrap_i64] <;> omega
   have hwd : IntKind.i64.wrap ((d : Int) + 1) = (d : Int) + 1 := by have := HD.out; rw [IntKind.wrap_i64] <;> omega
   have hin2 : (i : Int) < (n : Int) := by omega
   have HRX := Lib.hid r1
   clear hx hat1 hbn r1
   go_wp2_with fail
   generalize hA0 : addL A (l.take i) = A0 at *
   clear hA0
   cases hval : x.valid with
   | false =>
    have HVL := Lib.hid (rvalidB x false hval)
    have HS := Lib.hid (show addL A (l.take (i + 1)) = A0 by rw [HST.out]; unfold addS; rw [if_neg (by simp [hval])])
    clear hval
    refine wp_region_held (S := Touch [] wr.drew) (by kernel_rfl) ?_
    change wpAnyH _ _ _ _ _ _ _ _ wr.drew
    have HQW := Lib.hid (HQI.out.touch ((Touch.refl [] wr).drew) (by simp))
    have HRW := Lib.hid (((Touch.refl [] wr).drew).range HRX.out (by simp))
    have HTW := Lib.hid (HT.out.drew)
    generalize wr.drew = W at *
    have hS := Touch.refl [] W
    have c1 := HQW.out.cells.2.1
    rw [HBF.out] at c1
    obtain ⟨bB, hrB, _⟩ := HQW.out.seen.rd
    have HRB := Lib.hid hrB
    clear hrB
    refine tkH 0 (.slice (some ⟨b, o1, none⟩) n cap) ?_
    refine tkH 1 (.int .i64 (i : Nat)) ?_
    refine tkH 2 (.pointer (some ⟨b, o1 + i * 17, none⟩)) ?_
    refine tkH 3 (.agg x.cells.toArray) ?_ (hy := Or.inl ⟨by rfl, fun w' hw => exec_load_agg _ 40 _ rfl _ _ rfl x.cells _ (hw.range HRW.out (by simp)) Tryz.underlying40 rfl (by rw [size31, HLX.out])⟩)
    refine wpAnyH_ready (rs := [4]) (by kernel_rfl) (by simp) ?_
    refine cnH rfl (fun K hK => ?_) AllReadyH.nil
    go_simp
    refine (HVL.out _).mono ?_
    rintro e w4 ⟨rfl, t4⟩
    have hS2 := hS.trans t4 (by simp)
    refine hK.out _ _ hS2 (fun _ => ?_)
    clear hK K hS t4
    have hS := hS2
    clear hS2
    try simp only [Act.put, sT, s0, sS]
    refine tkH 5 (.bool false) ?_
    refine tkN 6 undef ?_
    refine tkN 7 undef ?_
    refine tkN 8 undef ?_
    refine tkN 9 undef ?_
    refine tkN 10 undef ?_
    refine tkN 11 undef ?_
    refine tkN 12 undef ?_
    refine tkN 13 undef ?_
    refine tkN 14 undef ?_
    refine tkN 15 undef ?_
    refine tkH 16 (.bool false) ?_
    refine wpAnyH_done (by kernel_rfl) ?_ _
    try simp only [Act.put, sT, s0, sS]
    clear c1
    have HT3 := Lib.hid (hS)
    clear hS
    go_wp2_with fail
    go_roundw
    case rel => exact ⟨i + 1, vb, by omega, by go_num, by rw [HS.out, ← HK.out, ← HD.out], by rw [HS.out]; exact HQW.out.touch HT3.out (by simp), HTW.out.trans HT3.out (by simp), HVB.out⟩
    case measure => simp [intOf]; omega
   | true =>
    have HVL := Lib.hid (rvalidB x true hval)
    cases hin3 : inL A0 x with
    | true =>
     have HS := Lib.hid (show addL A (l.take (i + 1)) = A0 by rw [HST.out]; unfold addS; rw [if_neg (by simp [hin3])])
     have HIN := Lib.hid hin3
     clear hval hin3
     refine wp_region_held (S := Touch [] wr.drew) (by kernel_rfl) ?_
     change wpAnyH _ _ _ _ _ _ _ _ wr.drew
     have HQW := Lib.hid (HQI.out.touch ((Touch.refl [] wr).drew) (by simp))
     have HRW := Lib.hid (((Touch.refl [] wr).drew).range HRX.out (by simp))
     have HTW := Lib.hid (HT.out.drew)
     generalize wr.drew = W at *
     have hS := Touch.refl [] W
     have c1 := HQW.out.cells.2.1
     rw [HBF.out] at c1
     obtain ⟨bB, hrB, _⟩ := HQW.out.seen.rd
     have HRB := Lib.hid hrB
     clear hrB
     refine tkH 0 (.slice (some ⟨b, o1, none⟩) n cap) ?_
     refine tkH 1 (.int .i64 (i : Nat)) ?_
     refine tkH 2 (.pointer (some ⟨b, o1 + i * 17, none⟩)) ?_
     refine tkH 3 (.agg x.cells.toArray) ?_ (hy := Or.inl ⟨by rfl, fun w' hw => exec_load_agg _ 40 _ rfl _ _ rfl x.cells _ (hw.range HRW.out (by simp)) Tryz.underlying40 rfl (by rw [size31, HLX.out])⟩)
     refine wpAnyH_ready (rs := [4]) (by kernel_rfl) (by simp) ?_
     refine cnH rfl (fun K hK => ?_) AllReadyH.nil
     go_simp
     refine (HVL.out _).mono ?_
     rintro e w4 ⟨rfl, t4⟩
     have hS2 := hS.trans t4 (by simp)
     refine hK.out _ _ hS2 (fun _ => ?_)
     clear hK K hS t4
     have hS := hS2
     clear hS2
     try simp only [Act.put, sT, s0, sS]
     refine tkH 5 (.bool true) ?_
     refine tkH 6 (.pointer (some ⟨h, 14, none⟩)) ?_
     refine tkH 7 (.pointer (some ⟨h, 14, none⟩)) ?_
     refine tkH 8 (.pointer (some ⟨h, 15, none⟩)) ?_
     refine tkH 9 (.slice aB k cB) ?_ (hy := Or.inl ⟨by rfl, fun w' hw => by (have q := hw.cell c1 (by simp); go_simp)⟩)
     refine tkH 10 (.slice (some ⟨b, o1, none⟩) n cap) ?_
     refine tkH 11 (.int .i64 (i : Nat)) ?_
     refine tkH 12 (.pointer (some ⟨b, o1 + i * 17, none⟩)) ?_
     refine tkH 13 (.agg x.cells.toArray) ?_ (hy := Or.inl ⟨by rfl, fun w' hw => exec_load_agg _ 40 _ rfl _ _ rfl x.cells _ (hw.range HRW.out (by simp)) Tryz.underlying40 rfl (by rw [size31, HLX.out])⟩)
     refine wpAnyH_ready (rs := [14]) (by kernel_rfl) (by simp) ?_
     refine cnH rfl (fun K hK => ?_) AllReadyH.nil
     go_simp
     refine (rhasB _ bB A0 x true HIN.out _ (by rw [← HBF.out]; exact HRB.out.touch hS (by simp))).mono ?_
     rintro e w14 ⟨rfl, t14⟩
     have hS2 := hS.trans t14 (by simp)
     refine hK.out _ _ hS2 (fun _ => ?_)
     clear hK K hS t14
     have hS := hS2
     clear hS2
     try simp only [Act.put, sT, s0, sS]
     refine tkH 15 (.bool false) ?_
     refine tkH 16 (.bool false) ?_
     refine wpAnyH_done (by kernel_rfl) ?_ _
     try simp only [Act.put, sT, s0, sS]
     clear c1
     have HT3 := Lib.hid (hS)
     clear hS
     go_wp2_with fail
     go_roundw
     case rel => exact ⟨i + 1, vb, by omega, by go_num, by rw [HS.out, ← HK.out, ← HD.out], by rw [HS.out]; exact HQW.out.touch HT3.out (by simp), HTW.out.trans HT3.out (by simp), HVB.out⟩
     case measure => simp [intOf]; omega
    | false =>
     have HS := Lib.hid (show addL A (l.take (i + 1)) = A0 ++ [x] by rw [HST.out]; unfold addS; rw [if_pos ⟨hval, hin3⟩])
     have HIN := Lib.hid hin3
     clear hval hin3
     refine wp_region_held (S := Touch [] wr.drew) (by kernel_rfl) ?_
     change wpAnyH _ _ _ _ _ _ _ _ wr.drew
     have HQW := Lib.hid (HQI.out.touch ((Touch.refl [] wr).drew) (by simp))
     have HRW := Lib.hid (((Touch.refl [] wr).drew).range HRX.out (by simp))
     have HTW := Lib.hid (HT.out.drew)
     generalize wr.drew = W at *
     have hS := Touch.refl [] W
     have c1 := HQW.out.cells.2.1
     rw [HBF.out] at c1
     obtain ⟨bB, hrB, _⟩ := HQW.out.seen.rd
     have HRB := Lib.hid hrB
     clear hrB
     refine tkH 0 (.slice (some ⟨b, o1, none⟩) n cap) ?_
     refine tkH 1 (.int .i64 (i : Nat)) ?_
     refine tkH 2 (.pointer (some ⟨b, o1 + i * 17, none⟩)) ?_
     refine tkH 3 (.agg x.cells.toArray) ?_ (hy := Or.inl ⟨by rfl, fun w' hw => exec_load_agg _ 40 _ rfl _ _ rfl x.cells _ (hw.range HRW.out (by simp)) Tryz.underlying40 rfl (by rw [size31, HLX.out])⟩)
     refine wpAnyH_ready (rs := [4]) (by kernel_rfl) (by simp) ?_
     refine cnH rfl (fun K hK => ?_) AllReadyH.nil
     go_simp
     refine (HVL.out _).mono ?_
     rintro e w4 ⟨rfl, t4⟩
     have hS2 := hS.trans t4 (by simp)
     refine hK.out _ _ hS2 (fun _ => ?_)
     clear hK K hS t4
     have hS := hS2
     clear hS2
     try simp only [Act.put, sT, s0, sS]
     refine tkH 5 (.bool true) ?_
     refine tkH 6 (.pointer (some ⟨h, 14, none⟩)) ?_
     refine tkH 7 (.pointer (some ⟨h, 14, none⟩)) ?_
     refine tkH 8 (.pointer (some ⟨h, 15, none⟩)) ?_
     refine tkH 9 (.slice aB k cB) ?_ (hy := Or.inl ⟨by rfl, fun w' hw => by (have q := hw.cell c1 (by simp); go_simp)⟩)
     refine tkH 10 (.slice (some ⟨b, o1, none⟩) n cap) ?_
     refine tkH 11 (.int .i64 (i : Nat)) ?_
     refine tkH 12 (.pointer (some ⟨b, o1 + i * 17, none⟩)) ?_
     refine tkH 13 (.agg x.cells.toArray) ?_ (hy := Or.inl ⟨by rfl, fun w' hw => exec_load_agg _ 40 _ rfl _ _ rfl x.cells _ (hw.range HRW.out (by simp)) Tryz.underlying40 rfl (by rw [size31, HLX.out])⟩)
     refine wpAnyH_ready (rs := [14]) (by kernel_rfl) (by simp) ?_
     refine cnH rfl (fun K hK => ?_) AllReadyH.nil
     go_simp
     refine (rhasB _ bB A0 x false HIN.out _ (by rw [← HBF.out]; exact HRB.out.touch hS (by simp))).mono ?_
     rintro e w14 ⟨rfl, t14⟩
     have hS2 := hS.trans t14 (by simp)
     refine hK.out _ _ hS2 (fun _ => ?_)
     clear hK K hS t14
     have hS := hS2
     clear hS2
     try simp only [Act.put, sT, s0, sS]
     refine tkH 15 (.bool true) ?_
     refine tkH 16 (.bool true) ?_
     refine wpAnyH_done (by kernel_rfl) ?_ _
     try simp only [Act.put, sT, s0, sS]
     clear c1
     have HT3 := Lib.hid hS
     have HQ3 := Lib.hid (HQW.out.touch HT3.out (by simp))
     have HX3 := Lib.hid (HT3.out.range HRW.out (by simp))
     have HTT := Lib.hid (HTW.out.trans HT3.out (by simp))
     clear hS
     go_wp2_with fail
     refine wp_region_F (S := Touch vb.ownBlock.toList w14.drew) [13] (by kernel_rfl) ?_
     change wpAnyF _ _ _ _ _ _ _ _ _ w14.drew
     have HQX := Lib.hid (HQ3.out.touch ((Touch.refl [] w14).drew) (by simp))
     have HRX3 := Lib.hid (((Touch.refl [] w14).drew).range HX3.out (by simp))
     have HTX := Lib.hid (HTT.out.drew)
     generalize w14.drew = X at *
     have hS := Touch.refl vb.ownBlock.toList X
     have c1 := HQX.out.cells.2.1
     rw [HBF.out] at c1
     have hhb : h ∉ vb.ownBlock.toList := by intro hm; exact HQX.out.ha (by simpa using hm)
     have HO := Lib.hid HQX.out.seen
     have hzX : w0.heap.size ≤ X.heap.size := by have := HTX.out.size; omega
     have hl1 : (A0.length + 1) * 17 ≤ 140737488355328 := by rw [← HK.out]; omega
     refine tkF 0 (.pointer (some ⟨h, 14, none⟩)) ?_
     refine tkF 1 (.pointer (some ⟨h, 14, none⟩)) ?_
     refine tkF 2 (.pointer (some ⟨h, 14, none⟩)) ?_
     refine tkF 3 (.pointer (some ⟨h, 15, none⟩)) ?_
     refine tkF 4 (.slice aB k cB) ?_ (hy := Or.inl ⟨by rfl, fun w' hw => by (have q := hw.cell c1 hhb; go_simp)⟩)
     refine tkF 5 (.slice (some ⟨b, o1, none⟩) n cap) ?_
     refine tkF 6 (.int .i64 (i : Nat)) ?_
     refine tkF 7 (.pointer (some ⟨b, o1 + i * 17, none⟩)) ?_
     refine tkF 8 (.agg x.cells.toArray) ?_ (hy := Or.inl ⟨by rfl, fun w' hw => exec_load_agg _ 40 _ rfl _ _ rfl x.cells _ (hw.range HRX3.out HBN.out) Tryz.underlying40 rfl (by rw [size31, HLX.out])⟩)
     refine wpAnyF_ready (rs := [9]) (by kernel_rfl) (by simp) ?_
     refine cnF rfl (fun K hK => ?_) AllReadyF.nil
     refine step_of_list rfl ?_
     refine wpList_build_ad rfl _ rfl x (by rfl) ?_
     have r6 := rd_newA X x 40
     have tA := (Touch.refl [] X).alloc (.cells [x.cells].flatten.toArray 40)
     have hS2 := hS.trans tA (by simp)
     have hO6 := (show OwnA w0 _ vb A0 from Own.touch HO.out tA (by simp))
     have zA : (X.alloc (.cells [x.cells].flatten.toArray 40)).heap.size = X.heap.size + 1 := by simp
     refine ⟨rfl, hK.out _ _ hS2 (fun _ => ?_)⟩
     clear hK K hS
     have hS := hS2
     clear hS2
     generalize hX1 : X.alloc (.cells [x.cells].flatten.toArray 40) = X1 at *
     clear hX1
     try simp only [Act.put, sT, s0, sS]
     refine wpAnyF_ready (rs := [10]) (by kernel_rfl) (by simp) ?_
     refine cnF rfl (fun K hK => ?_) AllReadyF.nil
     refine step_of_list rfl ?_
     refine wpList_app_ads w0 X1 rfl _ _ rfl vb A0 (by rw [HBF.out]; rfl) hO6 (by omega) _ _ [x] rfl r6 (by simp only [List.length_singleton]; exact hl1) ?_
     intro v7 w7 o7 t7 h7
     have hS2 := hS.trans t7 (fun y hy => .inl hy)
     refine ⟨rfl, hK.out _ _ hS2 (fun _ => ?_)⟩
     clear hK K hS
     have hS := hS2
     clear hS2
     try simp only [Act.put, sT, s0, sS]
     refine tkF 11 (.pointer (some ⟨h, 14, none⟩)) ?_
     refine tkF 12 (.pointer (some ⟨h, 15, none⟩)) ?_
     refine wpAnyF_ready (rs := [13]) (by kernel_rfl) (by simp) ?_
     refine clF rfl (by simp) (fun K hK => ?_) AllReadyF.nil
     have q1 := hS.cell c1 hhb
     have g0 : w7.frozen? ⟨h, 15, none⟩ = false := by simp [World.frozen?, hS.at HQX.out.cell hhb]
     obtain ⟨a7, c7, hv7, _, _, _⟩ := o7.form
     have HPU := HQX.out.push hS o7 (by rcases h7 with e | e; exact .inl e; exact .inr ⟨_, e, by omega⟩)
     have HFIN := Lib.hid (show Rqw F w0 (w7.setCell ⟨h, 15, none⟩ v7) h v7 vt first (A0 ++ [x]) T ∧ Touch (h :: va.ownBlock.toList) w (w7.setCell ⟨h, 15, none⟩ v7) ∧ (v7.ownBlock = va.ownBlock ∨ ∃ k, v7.ownBlock = some k ∧ w.heap.size ≤ k) from ⟨HPU.1, HTX.out.trans HPU.2 (by intro y hy; simp only [List.mem_cons, Option.mem_toList] at hy ⊢; rcases hy with e | e; exact .inl (.inl e); rcases HVB.out with e2 | ⟨q, e2, hq⟩; rw [e2] at e; exact .inl (.inr e); rw [e2] at e; cases e; exact .inr hq), by rcases h7 with e | e; rw [e]; exact HVB.out; exact .inr ⟨_, e, by have := HTX.out.size; omega⟩⟩)
     clear HPU h7 t7
     rw [List.length_append, List.length_singleton] at hv7
     subst hv7
     go_simp
     refine hK.out _ _ ?_
     clear hK K
     try simp only [Act.put, sT, s0, sS]
     refine wpAnyF_done (by kernel_rfl) ?_ _
     try simp only [Act.put, sT, s0, sS]
     go_wp2_with fail
     go_roundw
     case rel => exact ⟨i + 1, _, by omega, by go_num, by rw [HS.out, List.length_append, List.length_singleton, ← HK.out, show k + 1 - m = d + 1 by have := HD.out; omega]; go_num, by rw [HS.out]; exact HFIN.out.1, HFIN.out.2.1, HFIN.out.2.2⟩
     case measure => simp [intOf]; omega
  ·have HFIN := Lib.hid (show l.take i = l from List.take_of_length_le (by rw [← HN.out]; omega))
   go_wp2_with fail
   go_ret
   refine ⟨vb, ?_, by have h := HQI.out; rw [HFIN.out] at h; exact h, HT.out, HVB.out⟩
   have h := HK.out
   rw [HFIN.out] at h
   rw [← h, ← HM.out, ← HD.out]
   first | done | rfl
end Go.Proofs.YtiklhaajhdephaaGreatDoor

/-
 The contract of the reference's Remaining.
-/
namespace Go.Proofs.YtiklhaajhdephaaGreatDoor
open Go.RowKit
set_option linter.unusedVariables false
set_option linter.unusedSimpArgs false

/-- The first i addresses without those of T. -/
def leftF (A T : List Ad) (i : Nat) : List Ad := (A.take i).filter (fun x => !inL T x)
theorem leftF_step (A T : List Ad) (i : Nat) (x : Ad) (hx : A[i]? = some x) : leftF A T (i + 1) = if inL T x = true then leftF A T i else leftF A T i ++ [x] := by
 unfold leftF
 rw [List.take_add_one, hx, Option.toList_some, List.filter_append]
 cases h : inL T x <;> simp [h]
theorem leftF_len (A T : List Ad) (i : Nat) : (leftF A T i).length ≤ i := by
 unfold leftF
 refine Nat.le_trans (List.length_filter_le _ _) ?_
 rw [List.length_take]; omega
/-- What the reference's Remaining returns. -/
def remR (first : Int) (A T : List Ad) : List Ad :=
 match sortS Ad.less (leftF A T A.length) with
 | [] => []
 | a :: r => match T.getLast? with
  | none => interA (a :: r) first a.b
  | some t => interA (a :: r) 1 (!t.b)
set_option maxRecDepth 100000 in
set_option maxHeartbeats 4000000 in
theorem rrem_any (F : Value → Value → Array Value) (w0 w : World) (h : Nat) (va vt : Value) (first : Int) (A T : List Ad) (q : Rqw F w0 w h va vt first A T) (hA : A.length ≤ 1000000) (hT : T.length ≤ 1000000) :
  Calls Tryz.prog 76 #[.pointer (some ⟨h, 14, none⟩)] w fun e w' => ∃ v', e = .returned v' ∧ OwnA w w' v' (remR first A T) ∧ Touch [] w w' := by
 obtain ⟨aA, cA, hva, hlA, hcA, _⟩ := q.seen.form
 obtain ⟨aT, cT, hvt, hlT, hcT, hatT⟩ := q.take.form
 obtain ⟨n, hn⟩ : ∃ n, n = A.length := ⟨_, rfl⟩
 obtain ⟨k, hk⟩ : ∃ k, k = T.length := ⟨_, rfl⟩
 have HN := Lib.hid hn
 have HK := Lib.hid hk
 have HQ := Lib.hid q
 obtain ⟨c0, c1, c2⟩ := q.cells
 rw [hva, ← hn] at c1
 rw [hvt, ← hk] at c2
 rw [← hn] at hA hlA hva
 rw [← hk] at hvt hatT hT
 have HVA := Lib.hid hva
 have HVT := Lib.hid hvt
 have HC := Lib.hid (And.intro c0 (And.intro c1 c2))
 clear hn hk hlT hcT hcA q hva hvt
 go_enter Tryz.func76, Tryz.ntmps76
 go_wp2_with fail
 clear c0 c1 c2
 go_loopw [3, 4] (fun vl vi wr => ∃ i : Nat, i ≤ n ∧ vi = .int .i64 i ∧ OwnA w wr vl (leftF A T i) ∧ Touch [] w wr) (fun _ vi _ => n - (intOf vi).toNat)
 case atStart => exact ⟨0, by omega, rfl, Own.nil _ _, Touch.refl _ _⟩
 case round =>
  obtain ⟨i, hin, rfl, hown, ht⟩ := hrel
  have HT := Lib.hid ht
  have HO := Lib.hid hown
  obtain ⟨c0, c1, c2⟩ := HC.out
  have d0 := ht.cell c0 (by simp)
  have d1 := ht.cell c1 (by simp)
  have d2 := ht.cell c2 (by simp)
  clear hown ht c0 c1 c2
  by_cases hlt : i < n
  ·obtain ⟨x, hx⟩ : ∃ x, A[i]? = some x := ⟨_, List.getElem?_eq_getElem (by rw [← HN.out]; exact hlt)⟩
   obtain ⟨bA, hrA, _⟩ := (HQ.out.touch HT.out (by simp)).seen.rd
   rw [HVA.out] at hrA
   obtain ⟨oA, rfl, hatA⟩ := hrA.at (by intro e; rw [List.map_eq_nil_iff] at e; rw [e] at hx; simp at hx)
   have HRX := Lib.hid (hatA i x.cells (by simp [hx]))
   obtain ⟨bT, hrT, _⟩ := (HQ.out.touch HT.out (by simp)).take.rd
   rw [HVT.out] at hrT
   have HRT := Lib.hid hrT
   have HLX := Lib.hid x.len
   have HST := Lib.hid (leftF_step A T i x hx)
   have hwi : IntKind.i64.wrap ((i : Int) + 1) = (i : Int) + 1 := by rw [IntKind.wrap_i64] <;> omega
   have hin2 : (i : Int) < (n : Int) := by omega
   have hll := leftF_len A T i
   have HLL := Lib.hid (show ((leftF A T i).length + 1) * 17 ≤ 140737488355328 by omega)
   clear hx hrA hatA hll hrT
   cases hk : inL T x with
   | true =>
    have HHK := Lib.hid hk
    have HS := Lib.hid (show leftF A T (i + 1) = leftF A T i by rw [HST.out, if_pos hk])
    clear hk
    go_wp2_with fail
    refine wp_region_held (S := Touch [] wr.drew) (by kernel_rfl) ?_
    change wpAnyH _ _ _ _ _ _ _ _ wr.drew
    have HTW := Lib.hid (HT.out.drew)
    have HW := Lib.hid ((Touch.refl [] wr).drew)
    have e1 := HW.out.cell d1 (by simp)
    have e2 := HW.out.cell d2 (by simp)
    have HRW := Lib.hid (HW.out.range HRX.out (by simp))
    generalize wr.drew = W at *
    have hS := Touch.refl [] W
    refine tkH 0 (.pointer (some ⟨h, 14, none⟩)) ?_
    refine tkH 1 (.pointer (some ⟨h, 14, none⟩)) ?_
    refine tkH 2 (.pointer (some ⟨h, 16, none⟩)) ?_
    refine tkH 3 (.slice aT k cT) ?_ (hy := Or.inl ⟨by rfl, fun w' hw => by (have q := hw.cell e2 (by simp); go_simp)⟩)
    refine tkH 4 (.pointer (some ⟨h, 14, none⟩)) ?_
    refine tkH 5 (.pointer (some ⟨h, 14, none⟩)) ?_
    refine tkH 6 (.pointer (some ⟨h, 15, none⟩)) ?_
    refine tkH 7 (.slice (some ⟨bA, oA, none⟩) n cA) ?_ (hy := Or.inl ⟨by rfl, fun w' hw => by (have q := hw.cell e1 (by simp); go_simp)⟩)
    refine tkH 8 (.int .i64 (i : Nat)) ?_
    refine tkH 9 (.pointer (some ⟨bA, oA + i * 17, none⟩)) ?_
    refine tkH 10 (.agg x.cells.toArray) ?_ (hy := Or.inl ⟨by rfl, fun w' hw => exec_load_agg _ 40 _ rfl _ _ rfl x.cells _ (hw.range HRW.out (by simp)) Tryz.underlying40 rfl (by rw [size31, HLX.out])⟩)
    refine wpAnyH_ready (rs := [11]) (by kernel_rfl) (by simp) ?_
    refine cnH rfl (fun K hK => ?_) AllReadyH.nil
    go_simp
    refine (rhasB _ bT T x true HHK.out _ ((HRT.out.touch HW.out (by simp)).touch hS (by simp))).mono ?_
    rintro e w11 ⟨rfl, t11⟩
    have hS2 := hS.trans t11 (by simp)
    refine hK.out _ _ hS2 (fun _ => ?_)
    clear hK K hS t11
    have hS := hS2
    clear hS2
    try simp only [Act.put, sT, s0, sS]
    refine tkH 12 (.bool false) ?_
    refine wpAnyH_done (by kernel_rfl) ?_ _
    try simp only [Act.put, sT, s0, sS]
    clear e1 e2
    have HT2 := Lib.hid (HTW.out.trans hS (by simp))
    have HO2 := Lib.hid (show OwnA w _ u3 (leftF A T i) from Own.touch (Own.touch HO.out HW.out (by simp)) hS (by simp))
    clear hS
    go_wp2_with fail
    go_roundw
    case rel => exact ⟨i + 1, by omega, by go_num, by rw [HS.out]; exact HO2.out, HT2.out⟩
    case measure => simp [intOf]; omega
   | false =>
    have HHK := Lib.hid hk
    have HS := Lib.hid (show leftF A T (i + 1) = leftF A T i ++ [x] by rw [HST.out, if_neg (by simp [hk])])
    clear hk
    go_wp2_with fail
    refine wp_region_held (S := Touch [] wr.drew) (by kernel_rfl) ?_
    change wpAnyH _ _ _ _ _ _ _ _ wr.drew
    have HTW := Lib.hid (HT.out.drew)
    have HW := Lib.hid ((Touch.refl [] wr).drew)
    have e1 := HW.out.cell d1 (by simp)
    have e2 := HW.out.cell d2 (by simp)
    have HRW := Lib.hid (HW.out.range HRX.out (by simp))
    generalize wr.drew = W at *
    have hS := Touch.refl [] W
    refine tkH 0 (.pointer (some ⟨h, 14, none⟩)) ?_
    refine tkH 1 (.pointer (some ⟨h, 14, none⟩)) ?_
    refine tkH 2 (.pointer (some ⟨h, 16, none⟩)) ?_
    refine tkH 3 (.slice aT k cT) ?_ (hy := Or.inl ⟨by rfl, fun w' hw => by (have q := hw.cell e2 (by simp); go_simp)⟩)
    refine tkH 4 (.pointer (some ⟨h, 14, none⟩)) ?_
    refine tkH 5 (.pointer (some ⟨h, 14, none⟩)) ?_
    refine tkH 6 (.pointer (some ⟨h, 15, none⟩)) ?_
    refine tkH 7 (.slice (some ⟨bA, oA, none⟩) n cA) ?_ (hy := Or.inl ⟨by rfl, fun w' hw => by (have q := hw.cell e1 (by simp); go_simp)⟩)
    refine tkH 8 (.int .i64 (i : Nat)) ?_
    refine tkH 9 (.pointer (some ⟨bA, oA + i * 17, none⟩)) ?_
    refine tkH 10 (.agg x.cells.toArray) ?_ (hy := Or.inl ⟨by rfl, fun w' hw => exec_load_agg _ 40 _ rfl _ _ rfl x.cells _ (hw.range HRW.out (by simp)) Tryz.underlying40 rfl (by rw [size31, HLX.out])⟩)
    refine wpAnyH_ready (rs := [11]) (by kernel_rfl) (by simp) ?_
    refine cnH rfl (fun K hK => ?_) AllReadyH.nil
    go_simp
    refine (rhasB _ bT T x false HHK.out _ ((HRT.out.touch HW.out (by simp)).touch hS (by simp))).mono ?_
    rintro e w11 ⟨rfl, t11⟩
    have hS2 := hS.trans t11 (by simp)
    refine hK.out _ _ hS2 (fun _ => ?_)
    clear hK K hS t11
    have hS := hS2
    clear hS2
    try simp only [Act.put, sT, s0, sS]
    refine tkH 12 (.bool true) ?_
    refine wpAnyH_done (by kernel_rfl) ?_ _
    try simp only [Act.put, sT, s0, sS]
    clear e1 e2
    have HT2 := Lib.hid (HTW.out.trans hS (by simp))
    have HO2 := Lib.hid (show OwnA w _ u3 (leftF A T i) from Own.touch (Own.touch HO.out HW.out (by simp)) hS (by simp))
    have rx2 := hS.range (HW.out.range HRX.out (by simp)) (by simp)
    have d1b := hS.cell (HW.out.cell d1 (by simp)) (by simp)
    clear hS
    go_wp2_with (first
     | ((with_reducible refine at_load 40 ?_); refine wpList_load_mid rfl 40 _ rfl bA (oA + i * 17) rfl x.cells _ rx2 Tryz.underlying40 rfl (by rw [size31, HLX.out]) ?_)
     | (refine wpList_build_ad rfl _ rfl x (by rfl) ?_)
     | (at_builtin; refine wpList_app_ad w _ (by rfl) _ _ (by rfl) _ (leftF A T i) (by rfl) HO2.out HT2.out.size x (by rfl) HLL.out ?_))
    intro v3 w3 ho3 t3 hv3
    have HO3 := Lib.hid ho3
    have HT3 := Lib.hid (HT2.out.trans t3 (fun g hg => .inr (by have := HO2.out.new g (by simpa using hg); omega)))
    clear ho3 t3 hv3 rx2
    go_wp2_with fail
    go_roundw
    case rel => exact ⟨i + 1, by omega, by go_num, by rw [HS.out]; exact HO3.out, HT3.out⟩
    case measure => simp [intOf]; omega
  ·have HLP := Lib.hid (show leftF A T i = leftF A T A.length by rw [show i = A.length by rw [← HN.out]; omega])
   obtain ⟨bl, hrl, _⟩ := HO.out.rd
   have HSO := Lib.hid (rsort_any u3 bl (leftF A T i) wr hrl (by have := leftF_len A T i; omega))
   rw [HLP.out] at HSO
   clear hrl
   go_wp2_with fail
   clear d0 d1 d2
   refine HSO.out.mono ?_
   rintro e w2 ⟨vs, rfl, os, t2⟩
   have HT2 := Lib.hid (HT.out.trans t2 (by simp))
   have HOS := Lib.hid (show OwnA w w2 vs (sortS Ad.less (leftF A T A.length)) from Own.older os HT.out.size)
   obtain ⟨c0, c1, c2⟩ := HC.out
   have d0 := HT2.out.cell c0 (by simp)
   have d1 := HT2.out.cell c1 (by simp)
   have d2 := HT2.out.cell c2 (by simp)
   have HQ2 := Lib.hid (HQ.out.touch HT2.out (by simp))
   clear os t2 c0 c1 c2 HSO HC
   have hres : remR first A T = match sortS Ad.less (leftF A T A.length) with
    | [] => []
    | a :: r => match T.getLast? with
     | none => interA (a :: r) first a.b
     | some t => interA (a :: r) 1 (!t.b) := rfl
   have hsl : (sortS Ad.less (leftF A T A.length)).length ≤ 1000000 := by rw [sortS_len]; have := leftF_len A T A.length; rw [← HN.out] at this ⊢; omega
   cases hs : sortS Ad.less (leftF A T A.length) with
   | nil =>
    rw [hs] at hres HOS
    obtain ⟨a0, c0', rfl, _, _, _⟩ := HOS.out.form
    have HRES := Lib.hid hres
    clear hres hs hsl
    go_wp2_with fail
    go_ret
    exact ⟨_, rfl, by rw [HRES.out]; exact Own.nil _ _, HT2.out⟩
   | cons a r =>
    rw [hs] at hres HOS hsl
    obtain ⟨a0, cS, hvs, hlS, hcS, hat0⟩ := HOS.out.form
    obtain ⟨gs, rfl⟩ := hat0 (by simp)
    obtain ⟨bs, hrs, _⟩ := HOS.out.rd
    have HRS := Lib.hid hrs
    obtain ⟨ls, hls⟩ : ∃ ls, ls = (a :: r).length := ⟨_, rfl⟩
    have hls0 : 0 < ls := by rw [hls]; simp
    have hlq : ((ls : Int) == 0) = false := by simp only [beq_eq_false_iff_ne, ne_eq]; omega
    rw [← hls] at hvs hlS
    subst hvs
    have hra := own_at (l := a :: r) (i := 0) (a := a) (by have := HOS.out.row'; rw [← hls] at this; exact this) rfl
    have hfl : w2.cell? ⟨gs, 0, none⟩ = some (.bool a.b) := by
     have := hra 0 (.bool a.b) rfl
     simpa using this
    have HIN := fun (f : Int) (b6 : Bool) (W : World) (tW : Touch [] w2 W) => inter14 (.slice (some ⟨gs, 0, none⟩) ls cS) bs f b6 ((a :: r).map Ad.cells) W (by rw [List.length_map]; exact hsl) (hrs.touch tW (by simp)) (fun x hx => by obtain ⟨y, _, rfl⟩ := List.mem_map.1 hx; exact y.is)
    have HIN := Lib.hid HIN
    have HRES := Lib.hid hres
    clear hres hs hsl hra hrs hat0 hls
    by_cases hk0 : k = 0
    ·have hK0 : T = [] := List.eq_nil_of_length_eq_zero (by rw [← HK.out]; exact hk0)
     have HL := Lib.hid (show remR first A T = interA (a :: r) first a.b by rw [HRES.out, hK0]; rfl)
     have hkq : ((k : Int) == 0) = true := by simp only [beq_iff_eq]; omega
     clear hk0 hK0
     go_wp2_with fail
     refine wp_region_held (S := Touch [] w2.drew) (by kernel_rfl) ?_
     change wpAnyH _ _ _ _ _ _ _ _ w2.drew
     have hTd := Lib.hid (HT2.out.drew)
     have HId := Lib.hid ((Touch.refl [] w2).drew)
     have e0 : w2.drew.cell? ⟨h, 14, none⟩ = some (.int .i64 first) := d0
     have e3 : w2.drew.cell? ⟨gs, 0, none⟩ = some (.bool a.b) := hfl
     generalize w2.drew = W at *
     have hS := Touch.refl [] W
     refine tkH 0 (.slice (some ⟨gs, 0, none⟩) ls cS) ?_
     refine tkH 1 (.pointer (some ⟨h, 14, none⟩)) ?_
     refine tkH 2 (.pointer (some ⟨h, 14, none⟩)) ?_
     refine tkH 3 (.pointer (some ⟨h, 14, none⟩)) ?_
     refine tkH 4 (.int .i64 first) ?_ (hy := Or.inl ⟨by rfl, fun w' hw => by (have q := hw.cell e0 (by simp); go_simp)⟩)
     refine tkH 5 (.slice (some ⟨gs, 0, none⟩) ls cS) ?_
     refine tkH 6 (.pointer (some ⟨gs, 0, none⟩)) ?_
     refine tkH 7 (.pointer (some ⟨gs, 0, none⟩)) ?_
     refine tkH 8 (.bool a.b) ?_ (hy := Or.inl ⟨by rfl, fun w' hw => by (have q := hw.cell e3 (by simp); go_simp)⟩)
     refine wpAnyH_ready (rs := [9]) (by kernel_rfl) (by simp) ?_
     refine cnH rfl (fun K hK => ?_) AllReadyH.nil
     go_simp
     refine ((HIN.out first a.b _ (HId.out.trans hS (by simp))).mono) ?_
     rintro e wF ⟨vF, rfl, oF, tF⟩
     have hS2 := hS.trans tF (by simp)
     have oF := Own.older oF hS.size
     refine hK.out _ _ hS2 (fun _ => ?_)
     clear hK K hS tF
     have hS := hS2
     clear hS2
     try simp only [Act.put, sT, s0, sS]
     refine tkH 10 vF ?_
     refine wpAnyH_done (by kernel_rfl) ?_ _
     try simp only [Act.put, sT, s0, sS]
     have HOF := Lib.hid (show OwnA w wF vF (interA (a :: r) first a.b) by have h := (show Own W wF vF _ from oF); rw [inter_ad] at h; exact Own.older h hTd.out.size)
     have HTF := Lib.hid (hTd.out.trans hS (by simp))
     clear hS oF
     go_wp2_with fail
     go_ret
     exact ⟨_, rfl, by rw [HL.out]; exact HOF.out, HTF.out⟩
    ·obtain ⟨k1, hk1⟩ : ∃ k1, k1 = k - 1 := ⟨_, rfl⟩
     obtain ⟨tl, htl⟩ : ∃ tl, T[k1]? = some tl := ⟨_, List.getElem?_eq_getElem (by rw [← HK.out]; omega)⟩
     have HL := Lib.hid (show remR first A T = interA (a :: r) 1 (!tl.b) by rw [HRES.out, List.getLast?_eq_getElem?, ← HK.out, ← hk1, htl])
     have hkq : ((k : Int) == 0) = false := by simp only [beq_eq_false_iff_ne, ne_eq]; omega
     obtain ⟨gt, rfl⟩ := hatT (by omega)
     have hwk1 : IntKind.i64.wrap ((k : Int) - 1) = (k1 : Int) := by rw [IntKind.wrap_i64] <;> omega
     have hft : w2.cell? ⟨gt, k1 * 17, none⟩ = some (.bool tl.b) := by
      have h := HQ2.out.take
      rw [HVT.out] at h
      have h2 := own_at (l := T) (i := k1) (a := tl) (by have := h.row'; rw [← HK.out] at this; exact this) htl
      have := h2 0 (.bool tl.b) rfl
      simpa using this
     have hk1k : (k1 : Int) < (k : Int) := by omega
     clear hk0 htl hk1
     go_wp2_with fail
     refine wp_region_held (S := Touch [] w2.drew) (by kernel_rfl) ?_
     change wpAnyH _ _ _ _ _ _ _ _ w2.drew
     have hTd := Lib.hid (HT2.out.drew)
     have HId := Lib.hid ((Touch.refl [] w2).drew)
     have e0 : w2.drew.cell? ⟨h, 14, none⟩ = some (.int .i64 first) := d0
     have e2 : w2.drew.cell? ⟨h, 16, none⟩ = some (.slice (some ⟨gt, 0, none⟩) k cT) := d2
     have e5 : w2.drew.cell? ⟨gt, k1 * 17, none⟩ = some (.bool tl.b) := hft
     generalize w2.drew = W at *
     have hS := Touch.refl [] W
     refine tkH 0 (.slice (some ⟨gs, 0, none⟩) ls cS) ?_
     refine tkH 1 (.pointer (some ⟨h, 14, none⟩)) ?_
     refine tkH 2 (.pointer (some ⟨h, 14, none⟩)) ?_
     refine tkH 3 (.pointer (some ⟨h, 16, none⟩)) ?_
     refine tkH 4 (.slice (some ⟨gt, 0, none⟩) k cT) ?_ (hy := Or.inl ⟨by rfl, fun w' hw => by (have q := hw.cell e2 (by simp); go_simp)⟩)
     refine tkH 5 (.pointer (some ⟨h, 14, none⟩)) ?_
     refine tkH 6 (.pointer (some ⟨h, 14, none⟩)) ?_
     refine tkH 7 (.pointer (some ⟨h, 16, none⟩)) ?_
     refine tkH 8 (.slice (some ⟨gt, 0, none⟩) k cT) ?_ (hy := Or.inl ⟨by rfl, fun w' hw => by (have q := hw.cell e2 (by simp); go_simp)⟩)
     refine tkH 9 (.int .i64 (k : Nat)) ?_
     refine tkH 10 (.int .i64 (k1 : Nat)) ?_
     refine tkH 11 (.pointer (some ⟨gt, k1 * 17, none⟩)) ?_
     refine tkH 12 (.pointer (some ⟨gt, k1 * 17, none⟩)) ?_
     refine tkH 13 (.bool tl.b) ?_ (hy := Or.inl ⟨by rfl, fun w' hw => by (have q := hw.cell e5 (by simp); go_simp)⟩)
     refine tkH 14 (.bool (!tl.b)) ?_
     refine wpAnyH_ready (rs := [15]) (by kernel_rfl) (by simp) ?_
     refine cnH rfl (fun K hK => ?_) AllReadyH.nil
     go_simp
     refine ((HIN.out 1 (!tl.b) _ (HId.out.trans hS (by simp))).mono) ?_
     rintro e wF ⟨vF, rfl, oF, tF⟩
     have hS2 := hS.trans tF (by simp)
     have oF := Own.older oF hS.size
     refine hK.out _ _ hS2 (fun _ => ?_)
     clear hK K hS tF
     have hS := hS2
     clear hS2
     try simp only [Act.put, sT, s0, sS]
     refine tkH 16 vF ?_
     refine wpAnyH_done (by kernel_rfl) ?_ _
     try simp only [Act.put, sT, s0, sS]
     have HOF := Lib.hid (show OwnA w wF vF (interA (a :: r) 1 (!tl.b)) by have h := (show Own W wF vF _ from oF); rw [inter_ad] at h; exact Own.older h hTd.out.size)
     have HTF := Lib.hid (hTd.out.trans hS (by simp))
     clear hS oF
     go_wp2_with fail
     go_ret
     exact ⟨_, rfl, by rw [HL.out]; exact HOF.out, HTF.out⟩
end Go.Proofs.YtiklhaajhdephaaGreatDoor

/-
 The reference's small functions: family, tick addition, reasons, the pair's functions that only read.
-/
namespace Go.Proofs.YtiklhaajhdephaaGreatDoor
open Go.RowKit
set_option linter.unusedVariables false
set_option linter.unusedSimpArgs false

set_option maxHeartbeats 400000 in
theorem rfam4 (w : World) : Calls Tryz.prog 65 #[.bool false] w fun e w' => e = .returned (.int .i64 0) ∧ w = w' := by
 go_enter Tryz.func65, Tryz.ntmps65
 go_wp2_with fail
 go_ret
 exact ⟨rfl, rfl⟩
set_option maxHeartbeats 400000 in
theorem rfam6 (w : World) : Calls Tryz.prog 65 #[.bool true] w fun e w' => e = .returned (.int .i64 1) ∧ w = w' := by
 go_enter Tryz.func65, Tryz.ntmps65
 go_wp2_with fail
 go_ret
 exact ⟨rfl, rfl⟩
set_option maxHeartbeats 400000 in
theorem radd01 (a b : Int) (w : World) (ha : 0 ≤ a ∧ a ≤ maxT) (hb : 0 ≤ b ∧ b ≤ maxT) :
  Calls Tryz.prog 69 #[.int .u64 a, .int .u64 b] w fun e w' => e = .returned (.int .u64 (addT a b)) ∧ w = w' := by
 by_cases h : maxT - a < b
 ·have h1 := wrap_u64 (n := 18446744073709551615 - a) (by unfold maxT at ha; omega) (by unfold maxT; omega)
  have h2 : decide (18446744073709551615 - a < b) = true := by simpa [maxT] using h
  have HF := Lib.hid (show addT a b = 18446744073709551615 by unfold addT maxT at *; rw [if_pos (by omega)])
  clear ha hb h
  go_enter Tryz.func69, Tryz.ntmps69
  go_wp2_with fail
  go_ret
  exact ⟨by rw [HF.out]; rfl, rfl⟩
 ·have h1 := wrap_u64 (n := 18446744073709551615 - a) (by unfold maxT at ha; omega) (by unfold maxT; omega)
  have h2 : decide (18446744073709551615 - a < b) = false := by simpa [maxT] using h
  have h3 := wrap_u64 (n := a + b) (by omega) (by omega)
  have HF := Lib.hid (show addT a b = a + b by unfold addT maxT at *; rw [if_neg (by omega)])
  clear ha hb h
  go_enter Tryz.func69, Tryz.ntmps69
  go_wp2_with fail
  go_ret
  exact ⟨by rw [HF.out]; rfl, rfl⟩
set_option maxHeartbeats 1000000 in
theorem rprim_any (w0 : World) (v : Value) (l : List Nat) (w : World) (h1 : OwnK w0 w v l) (hl : ∀ x ∈ l, 1 ≤ x ∧ x ≤ 7) :
  Calls Tryz.prog 79 #[v] w fun e w' => e = .returned (.int .i64 (primN l : Nat)) ∧ w = w' := by
 obtain ⟨a, c, rfl, hc, hm, hat⟩ := h1.form
 obtain ⟨n, hn⟩ : ∃ n, n = l.length := ⟨_, rfl⟩
 have HN := Lib.hid hn
 have HL := Lib.hid hl
 have H1 := Lib.hid h1
 rw [← hn] at hc hat ⊢
 unfold maxLen at hm
 clear hn hl h1
 go_enter Tryz.func79, Tryz.ntmps79
 go_wp2_with fail
 go_loop [3, 4] (fun v3 v4 => ∃ i : Nat, i ≤ n ∧ v4 = .int .i64 i ∧ v3 = .int .i64 (best (l.take i) : Nat)) (fun _ v4 => n - (intOf v4).toNat)
 case atStart => exact ⟨0, by omega, rfl, rfl⟩
 case round =>
  obtain ⟨i, hin, rfl, rfl⟩ := hrel
  have hB := best_hi (l.take i) (fun x hx => (HL.out x (List.mem_of_mem_take hx)).2)
  by_cases hlt : i < n
  ·obtain ⟨x, hx⟩ : ∃ x, l[i]? = some x := ⟨_, List.getElem?_eq_getElem (by rw [← HN.out]; exact hlt)⟩
   have hx7 := HL.out x (List.mem_of_getElem? hx)
   obtain ⟨g, rfl⟩ := hat (by omega)
   have hcx := H1.out.cell rfl hx
   have HST := Lib.hid (best_step l i x hx)
   have hwi : IntKind.i64.wrap ((i : Int) + 1) = (i : Int) + 1 := by rw [IntKind.wrap_i64] <;> omega
   have hin2 : (i : Int) < (n : Int) := by omega
   have hx1 : decide ((1 : Int) ≤ (x : Int)) = true := by simp; omega
   have hx2 : decide ((x : Int) ≤ 7) = true := by simp; omega
   have hx3 : (1 : Int) ≤ (x : Int) := by omega
   have hx4 : (x : Int) ≤ 7 := by omega
   generalize hbb : best (l.take i) = b at *
   clear hx hbb hx7
   by_cases hb0 : b = 0
   ·subst hb0
    go_wp2_with fail
    go_round
    case rel => exact ⟨i + 1, by omega, by go_num, by rw [HST.out]; rfl⟩
    case measure => simp [intOf]; omega
   ·have hb1 : ((b : Int) == 0) = false := by simp; omega
    by_cases hxb : x < b
    ·have HS2 := Lib.hid (show bestN b x = x by unfold bestN; rw [if_pos (.inr hxb)])
     have hxb2 : decide (x < b) = true := by simpa using hxb
     have hxb3 : (x : Int) < (b : Int) := by omega
     clear hxb hb0
     go_wp2_with fail
     go_round
     case rel => exact ⟨i + 1, by omega, by go_num, by rw [HST.out, HS2.out]⟩
     case measure => simp [intOf]; omega
    ·have HS2 := Lib.hid (show bestN b x = b by unfold bestN; rw [if_neg (by omega)])
     have hxb2 : decide (x < b) = false := by simpa using hxb
     have hxb3 : (b : Int) ≤ (x : Int) := by omega
     clear hxb hb0
     go_wp2_with fail
     go_round
     case rel => exact ⟨i + 1, by omega, by go_num, by rw [HST.out, HS2.out]⟩
     case measure => simp [intOf]; omega
  ·have HFI := Lib.hid (show l.take i = l from List.take_of_length_le (by rw [← HN.out]; omega))
   rw [HFI.out] at hB ⊢
   have HP := Lib.hid (show primN l = if best l = 0 then 4 else best l from rfl)
   by_cases hb0 : best l = 0
   ·have HP2 := Lib.hid (show primN l = 4 by rw [HP.out, if_pos hb0])
    rw [hb0]
    clear hb0
    go_wp2_with fail
    go_ret
    exact ⟨by rw [HP2.out]; rfl, rfl⟩
   ·have HP2 := Lib.hid (show primN l = best l by rw [HP.out, if_neg hb0])
    have hb1 : ((best l : Int) == 0) = false := by simp; omega
    clear hb0
    go_wp2_with fail
    go_ret
    exact ⟨by rw [HP2.out]; rfl, rfl⟩
set_option maxHeartbeats 400000 in
theorem rcomplete_any (w0 w : World) (h : Nat) (b : RV) (s : DS) (T : List Ad) (d : Rdl w0 w h b s T) (r : Bool) (hr : s.p.complete = r) :
  Calls Tryz.prog 80 #[.pointer (some ⟨h, 6, none⟩)] w fun e w' => e = .returned (.bool r) ∧ w = w' := by
 have c2 := d.at 8 _ rfl
 have c5 := d.at 9 _ rfl
 unfold PS.complete at hr
 have HR := Lib.hid hr
 clear d hr
 cases h4 : s.p.q4.a
 all_goals
  rw [h4] at c2 HR
  clear h4
  cases h6 : s.p.q6.a
  all_goals
   rw [h6] at c5 HR
   clear h6
   go_enter Tryz.func80, Tryz.ntmps80
   go_wp2_with fail
   go_ret
   exact ⟨by rw [← HR.out]; rfl, rfl⟩
set_option maxHeartbeats 400000 in
theorem rres_any (w0 w : World) (h : Nat) (b : RV) (s : DS) (T : List Ad) (d : Rdl w0 w h b s T) (r : Bool) (hr : s.resolved = r) :
  Calls Tryz.prog 50 #[.pointer (some ⟨h, 0, none⟩)] w fun e w' => e = .returned (.bool r) ∧ w = w' := by
 have c5 := d.at 5 _ rfl
 have HD := Lib.hid d
 clear d
 unfold DS.resolved at hr
 cases hl : s.lit with
 | true =>
  rw [hl] at c5 hr
  have HR := Lib.hid hr
  clear hl hr
  go_enter Tryz.func50, Tryz.ntmps50
  go_wp2_with fail
  go_ret
  exact ⟨by rw [← HR.out]; rfl, rfl⟩
 | false =>
  rw [hl] at c5 hr
  have HC := Lib.hid (rcomplete_any w0 w h b s T HD.out r (by simpa using hr))
  clear hl hr
  go_enter Tryz.func50, Tryz.ntmps50
  go_wp2_with fail
  refine HC.out.mono ?_
  rintro e _ ⟨rfl, rfl⟩
  go_wp2_with fail
  go_ret
  exact ⟨rfl, rfl⟩
end Go.Proofs.YtiklhaajhdephaaGreatDoor

/-
 The contract of the reference's Take.
-/
namespace Go.Proofs.YtiklhaajhdephaaGreatDoor
open Go.RowKit
set_option linter.unusedVariables false
set_option linter.unusedSimpArgs false

set_option maxRecDepth 100000 in
set_option maxHeartbeats 8000000 in
theorem rtake_any (F : Value → Value → Array Value) (w0 w : World) (h : Nat) (va vt : Value) (first : Int) (A T : List Ad) (q : Rqw F w0 w h va vt first A T) (hz : w0.heap.size ≤ w.heap.size) (hA : A.length ≤ 1000000) (hT : T.length ≤ 1000000) :
  Calls Tryz.prog 68 #[.pointer (some ⟨h, 14, none⟩)] w fun e w' => e = .returned (.tuple #[.agg (headA (remR first A T)).cells.toArray, .bool (!(remR first A T).isEmpty)]) ∧
   ∃ vt', Rqw F w0 w' h va vt' first A (if (remR first A T).isEmpty then T else T ++ [headA (remR first A T)]) ∧ Touch (h :: vt.ownBlock.toList) w w' ∧ (vt'.ownBlock = vt.ownBlock ∨ ∃ k, vt'.ownBlock = some k ∧ w.heap.size ≤ k) := by
 have HT := Lib.hid ((Touch.refl [] w).alloc (.cells (adr false (List.replicate 16 0)).toArray 40))
 have HG := Lib.hid (heap_alloc_new w (.cells (adr false (List.replicate 16 0)).toArray 40))
 have HR := Lib.hid (rrem_any F w0 (w.alloc (.cells (adr false (List.replicate 16 0)).toArray 40)) h va vt first A T (q.touch HT.out (by simp)) hA hT)
 have HQ := Lib.hid q
 clear q
 generalize remR first A T = R at *
 go_enter Tryz.func68, Tryz.ntmps68
 go_wp2_with fail
 refine HR.out.mono ?_
 rintro e w1 ⟨v, rfl, ho, t1⟩
 have HT1 := Lib.hid (HT.out.trans t1 (by simp))
 have HG1 := Lib.hid (t1.at HG.out (by simp))
 cases R with
 | nil =>
  obtain ⟨a0, c0, rfl, _, _, _⟩ := ho.form
  have HZL := Lib.hid zAd.len
  clear ho t1 HR HT HG
  go_wp2_with (first
   | ((with_reducible refine at_build 40 ?_); refine wpList_built (by rfl) 40 _ (by rfl) _ _ (by rfl) built_zAd ?_)
   | ((with_reducible refine at_store 40 ?_); refine wpList_store_into rfl 40 _ _ rfl w.heap.size 40 _ zAd.cells rfl rfl HG1.out (by rw [HZL.out]; rfl) (by rw [size31, HZL.out]) zAd.one ?_))
  intro w4 h4 t4 z4
  have HT4 := Lib.hid (HT1.out.trans t4 (by intro y hy; right; simp at hy; omega))
  go_wp2_with fail
  exact ret_row_tmp rfl size31 Tryz.underlying40 rfl HZL.out rfl rfl h4 ⟨rfl, vt, HQ.out.touch HT4.out (by simp), HT4.out.mono (by simp), .inl rfl⟩
 | cons a r =>
  obtain ⟨a0, c0, hv, hl, hc, hat⟩ := ho.form
  obtain ⟨g, rfl⟩ := hat (by simp)
  obtain ⟨ls, hls⟩ : ∃ ls, ls = (a :: r).length := ⟨_, rfl⟩
  have hls0 : 0 < ls := by rw [hls]; simp
  have hlq : ((ls : Int) == 0) = false := by simp only [beq_eq_false_iff_ne, ne_eq]; omega
  rw [← hls] at hv hl
  have hgn := ho.new g (by rw [hv]; rfl)
  have zw : (w.alloc (.cells (adr false (List.replicate 16 0)).toArray 40)).heap.size = w.heap.size + 1 := by simp
  rw [zw] at hgn
  subst hv
  have ra := own_at (l := a :: r) (i := 0) (a := a) (by have := ho.row'; rw [← hls] at this; exact this) rfl
  simp only [Nat.zero_mul] at ra
  have HLA := Lib.hid a.len
  have HRA := Lib.hid ra
  obtain ⟨aT, cT, hvt, hlT, hcT, _⟩ := HQ.out.take.form
  obtain ⟨kT, hkT⟩ : ∃ kT, kT = T.length := ⟨_, rfl⟩
  have HK := Lib.hid hkT
  rw [← hkT] at hvt hT
  have HVT := Lib.hid hvt
  have HQ1 := Lib.hid (HQ.out.touch HT1.out (by simp))
  have hsz1 : w.heap.size < w1.heap.size := by have := t1.size; rw [zw] at this; omega
  simp only [headA, List.isEmpty_cons, Bool.not_false, Bool.false_eq_true, if_false]
  clear ho t1 HR HT HG hat hls hvt hkT hlT ra
  go_wp2_with fail
  refine wp_region_F (S := Touch vt.ownBlock.toList w1.drew) [12] (by kernel_rfl) ?_
  change wpAnyF _ _ _ _ _ _ _ _ _ w1.drew
  have HQX := Lib.hid (HQ1.out.touch ((Touch.refl [] w1).drew) (by simp))
  have HRX := Lib.hid (((Touch.refl [] w1).drew).range HRA.out (by simp))
  have HTX := Lib.hid (HT1.out.drew)
  have HGX := Lib.hid (((Touch.refl [] w1).drew).at HG1.out (by simp))
  have zX : w1.drew.heap.size = w1.heap.size := by simp
  generalize w1.drew = X at *
  have hS := Touch.refl vt.ownBlock.toList X
  have c2 := HQX.out.cells.2.2
  rw [HVT.out] at c2
  have hhb : h ∉ vt.ownBlock.toList := by intro hm; exact HQX.out.ht (by simpa using hm)
  have hgb : g ∉ vt.ownBlock.toList := by intro hm; have := Own.lt HQ.out.take _ (by simpa using hm); omega
  have hwb : w.heap.size ∉ vt.ownBlock.toList := by intro hm; have := Own.lt HQ.out.take _ (by simpa using hm); omega
  have HO := Lib.hid HQX.out.take
  have hl1 : (T.length + 1) * 17 ≤ 140737488355328 := by rw [← HK.out]; omega
  refine tkF 0 (.pointer (some ⟨h, 14, none⟩)) ?_
  refine tkF 1 (.pointer (some ⟨h, 14, none⟩)) ?_
  refine tkF 2 (.pointer (some ⟨h, 14, none⟩)) ?_
  refine tkF 3 (.pointer (some ⟨h, 16, none⟩)) ?_
  refine tkF 4 (.slice aT kT cT) ?_ (hy := Or.inl ⟨by rfl, fun w' hw => by (have q := hw.cell c2 hhb; go_simp)⟩)
  refine tkF 5 (.slice (some ⟨g, 0, none⟩) ls c0) ?_
  refine tkF 6 (.pointer (some ⟨g, 0, none⟩)) ?_
  refine tkF 7 (.agg a.cells.toArray) ?_ (hy := Or.inl ⟨by rfl, fun w' hw => exec_load_agg _ 40 _ rfl _ _ rfl a.cells _ (hw.range HRX.out hgb) Tryz.underlying40 rfl (by rw [size31, HLA.out])⟩)
  refine wpAnyF_ready (rs := [8]) (by kernel_rfl) (by simp) ?_
  refine cnF rfl (fun K hK => ?_) AllReadyF.nil
  refine step_of_list rfl ?_
  refine wpList_build_ad rfl _ rfl a (by rfl) ?_
  have r6 := rd_newA X a 40
  have tA := (Touch.refl [] X).alloc (.cells [a.cells].flatten.toArray 40)
  have hS2 := hS.trans tA (by simp)
  have hO6 := (show OwnA w0 _ vt T from Own.touch HO.out tA (by simp))
  have zA : (X.alloc (.cells [a.cells].flatten.toArray 40)).heap.size = X.heap.size + 1 := by simp
  refine ⟨rfl, hK.out _ _ hS2 (fun _ => ?_)⟩
  clear hK K hS
  have hS := hS2
  clear hS2
  generalize hX1 : X.alloc (.cells [a.cells].flatten.toArray 40) = X1 at *
  clear hX1
  try simp only [Act.put, sT, s0, sS]
  refine wpAnyF_ready (rs := [9]) (by kernel_rfl) (by simp) ?_
  refine cnF rfl (fun K hK => ?_) AllReadyF.nil
  refine step_of_list rfl ?_
  refine wpList_app_ads w0 X1 rfl _ _ rfl vt T (by rw [HVT.out]; rfl) hO6 (by omega) _ _ [a] rfl r6 (by simp only [List.length_singleton]; exact hl1) ?_
  intro v7 w7 o7 t7 h7
  have hS2 := hS.trans t7 (fun y hy => .inl hy)
  refine ⟨rfl, hK.out _ _ hS2 (fun _ => ?_)⟩
  clear hK K hS
  have hS := hS2
  clear hS2
  try simp only [Act.put, sT, s0, sS]
  refine tkF 10 (.pointer (some ⟨h, 14, none⟩)) ?_
  refine tkF 11 (.pointer (some ⟨h, 16, none⟩)) ?_
  refine wpAnyF_ready (rs := [12]) (by kernel_rfl) (by simp) ?_
  refine clF rfl (by simp) (fun K hK => ?_) AllReadyF.nil
  have q1 := hS.cell c2 hhb
  have g0 : w7.frozen? ⟨h, 16, none⟩ = false := by simp [World.frozen?, hS.at HQX.out.cell hhb]
  obtain ⟨a7, c7, hv7, _, _, _⟩ := o7.form
  have HPU := HQX.out.pushT hS o7 (by rcases h7 with e | e; exact .inl e; exact .inr ⟨_, e, by omega⟩)
  have HF5 := Lib.hid (show Rqw F w0 (w7.setCell ⟨h, 16, none⟩ v7) h va v7 first A (T ++ [a]) ∧ Touch (h :: vt.ownBlock.toList) w (w7.setCell ⟨h, 16, none⟩ v7) ∧ (v7.ownBlock = vt.ownBlock ∨ ∃ k, v7.ownBlock = some k ∧ w.heap.size ≤ k) from ⟨HPU.1, (HTX.out.mono (by simp)).trans HPU.2 (fun y hy => .inl hy), by rcases h7 with e | e; exact .inl e; exact .inr ⟨_, e, by omega⟩⟩)
  have HNW := Lib.hid (show ∀ g ∈ qfoot h va v7, g ≠ w.heap.size from by intro g hg e; subst e; simp only [qfoot, List.mem_cons, List.mem_append, Option.mem_toList] at hg; rcases hg with e | e | e; (have := (Array.getElem?_eq_some_iff.1 HQ.out.cell).1; omega); (have := Own.lt HQ.out.seen _ e; omega); (rcases h7 with e2 | e2; (rw [e2] at e; have := Own.lt HQ.out.take _ e; omega); (rw [e2] at e; simp at e; omega)))
  have t5 : Touch (h :: vt.ownBlock.toList) X (w7.setCell ⟨h, 16, none⟩ v7) := HPU.2
  have r5 := t5.range HRX.out (by intro hm; simp only [List.mem_cons] at hm; rcases hm with e | e; (have := (Array.getElem?_eq_some_iff.1 HQ.out.cell).1; omega); exact hgb e)
  have HG5 := Lib.hid (t5.at HGX.out (by intro hm; simp only [List.mem_cons] at hm; rcases hm with e | e; (have := (Array.getElem?_eq_some_iff.1 HQ.out.cell).1; omega); exact hwb e))
  clear HPU h7 t7 t5
  rw [List.length_append, List.length_singleton] at hv7
  subst hv7
  go_simp
  refine hK.out _ _ ?_
  clear hK K
  try simp only [Act.put, sT, s0, sS]
  refine wpAnyF_done (by kernel_rfl) ?_ _
  try simp only [Act.put, sT, s0, sS]
  go_wp2_with (first
   | ((with_reducible refine at_load 40 ?_); refine wpList_load_mid rfl 40 _ rfl g 0 rfl a.cells _ r5 Tryz.underlying40 rfl (by rw [size31, HLA.out]) ?_)
   | ((with_reducible refine at_store 40 ?_); refine wpList_store_into rfl 40 _ _ rfl w.heap.size 40 _ a.cells rfl rfl HG5.out (by rw [HLA.out]; rfl) (by rw [size31, HLA.out]) a.one ?_))
  intro w6 h6 t6 z6
  go_wp2_with fail
  refine ret_row_tmp rfl size31 Tryz.underlying40 rfl HLA.out rfl rfl h6 ⟨rfl, ?_⟩
  have hfoot := HNW.out
  exact ⟨_, HF5.out.1.touch t6 (by intro g hg; simp; exact hfoot g hg), HF5.out.2.1.trans t6 (by intro y hy; right; simp at hy; omega), HF5.out.2.2⟩
end Go.Proofs.YtiklhaajhdephaaGreatDoor

/-
 Plain: the reference's queue and the program's leave the same addresses.
-/
namespace Go.Proofs.YtiklhaajhdephaaGreatDoor
open Go.RowKit
set_option linter.unusedVariables false
set_option linter.unusedSimpArgs false

theorem inL_tkn {A : List Ad} {K : List Nat} (h : Inv A K) {n : Nat} {x : Ad} (hx : A[n]? = some x) : (inL (tknP A K) x = true) ↔ n ∈ K := by
 have e : (inL (tknP A K) x = true) ↔ x ∈ tknP A K := by simp [inL]
 rw [e, tknP_mem]
 constructor
 ·rintro ⟨i, hi, hxi⟩
  rw [← nodup_at h.nodA hxi hx]
  exact hi
 ·intro hn
  exact ⟨n, hn, hx⟩
theorem leftF_eq {A : List Ad} {K : List Nat} (h : Inv A K) : ∀ n, n ≤ A.length → leftF A (tknP A K) n = leftN A K n
 | 0, _ => by simp [leftF, leftN]
 | n + 1, hn => by
  have hx : A[n]? = some (A[n]'(by omega)) := List.getElem?_eq_getElem (by omega)
  rw [leftF_step A _ n _ hx, leftN_step A K n _ hx, leftF_eq h n (by omega)]
  by_cases hk : n ∈ K
  ·rw [if_pos ((inL_tkn h hx).2 hk), if_pos hk]
  ·rw [if_neg (fun e => hk ((inL_tkn h hx).1 e)), if_neg hk]
theorem tkn_last {A : List Ad} {K : List Nat} (hb : ∀ i ∈ K, i < A.length) : (tknP A K).getLast? = lastT A K := by
 rcases List.eq_nil_or_concat K with rfl | ⟨K', k, rfl⟩
 ·simp [tknP, lastT]
 ·rw [List.concat_eq_append] at hb ⊢
  have hk : A[k]? = some (A[k]'(hb k (by simp))) := List.getElem?_eq_getElem (hb k (by simp))
  unfold tknP lastT
  rw [List.filterMap_append]
  simp [hk]
theorem remR_eq {A : List Ad} {K : List Nat} (h : Inv A K) (first : Int) : remR first A (tknP A K) = remP first A K := by
 unfold remR remP
 rw [leftF_eq h _ (Nat.le_refl _), tkn_last h.bound]
 rfl
end Go.Proofs.YtiklhaajhdephaaGreatDoor

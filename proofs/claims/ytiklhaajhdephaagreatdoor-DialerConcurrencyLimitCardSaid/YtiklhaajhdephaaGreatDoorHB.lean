/-
  Merged texts: Ds, Dc, Dw.
-/
import Derived.Test.YtiklhaajhdephaaGreatDoorHA
import Derived.Test.YtiklhaajhdephaaGreatDoorGQ
import Derived.Test.YtiklhaajhdephaaGreatDoorGA
import Derived.Test.YtiklhaajhdephaaGreatDoorGN
import Derived.Test.YtiklhaajhdephaaGreatDoorGM
import Derived.Test.YtiklhaajhdephaaGreatDoorGD
import Derived.Test.YtiklhaajhdephaaGreatDoorGO

/-
 A dialer in memory: its parts lie apart; what a step on one part leaves of the others. Plain lemmas.
-/
namespace Go.Proofs.YtiklhaajhdephaaGreatDoor
open Go.RowKit
set_option linter.unusedVariables false
set_option linter.unusedSimpArgs false

/-! ### parts that lie apart -/
def Apart (f : Nat → List Nat) : Prop := ∀ i j, i ≠ j → Sep (f i) (f j)
theorem Apart.upd {f f' : Nat → List Nat} {n : Nat} (i0 : Nat) (h : Apart f) (hlt : ∀ i, ∀ g ∈ f i, g < n) (he : ∀ j, j ≠ i0 → f' j = f j) (hn : ∀ g ∈ f' i0, g ∈ f i0 ∨ n ≤ g) : Apart f' := by
 have key : ∀ j, j ≠ i0 → Sep (f' i0) (f' j) := by
  intro j hj g hg hm
  rw [he j hj] at hm
  rcases hn g hg with e | e
  ·exact h i0 j (Ne.symm hj) g e hm
  ·have := hlt j g hm; omega
 intro i j hij
 by_cases hi : i = i0
 ·subst hi; exact key j (Ne.symm hij)
 ·by_cases hj : j = i0
  ·subst hj; exact (key i hi).symm
  ·rw [he i hi, he j hj]; exact h i j hij
/-! ### the set of attempts -/
def encZ (i : Int) : Value := .int .i64 i
def okZ (i : Int) : Prop := (Lit.int .i64 i).wf = true
theorem keyZ : KE Tryz.prog 3 encZ okZ where
 K := Go.Maps.int_keyed Tryz.underlying3
 lit := by
  intro c h1
  exact ⟨_, Go.Maps.keyOf_int_mk Tryz.underlying3 h1⟩
 inj := by
  intro a b h
  simpa [encZ] using h
theorem okZ_nat {n : Nat} (h : n ≤ 1000000) : okZ (n : Int) := by
 have h1 : IntKind.i64.max = 9223372036854775807 := rfl
 have h2 : IntKind.i64.min = -9223372036854775808 := rfl
 simp [okZ, Lit.wf]
 omega
/-- The map of the attempts in progress, as it stands. -/
def actM (l : List Nat) : List (Int × Value) := l.map fun (k : Nat) => ((k : Int), Value.bool true)
theorem look_act (l : List Nat) (x : Int) : look (actM l) x = if ∃ k ∈ l, (k : Int) = x then some (.bool true) else none := by
 unfold look actM
 induction l with
 | nil => simp
 | cons a r ih =>
  rw [List.map_cons, List.find?_cons]
  by_cases h : (a : Int) = x
  ·simp [h]
  ·simp only [h, decide_false, List.mem_cons, exists_eq_or_imp, false_or]
   exact ih
theorem put_act {l : List Nat} {k : Nat} (h : k ∉ l) : put (actM l) (k : Int) (.bool true) = actM (l ++ [k]) := by
 have hl : look (actM l) (k : Int) = none := by
  rw [look_act, if_neg]
  rintro ⟨j, hj, e⟩
  have e2 : j = k := by omega
  exact h (e2 ▸ hj)
 unfold put
 rw [hl]
 simp [actM]
theorem del_act (l : List Nat) (x : Int) : del (actM l) x = actM (l.filter fun k => !decide ((k : Int) = x)) := by
 unfold del actM
 rw [List.filter_map]
 rfl
/-! ### the dialer -/
structure DS where
 c : Cfg
 lit : Bool
 p : PS
 A : List Ad
 K : List Nat
 nb : Int
 S : List Ad
 act : List Nat
 rs : List Nat
structure DV where
 hq : Nat
 hc : Nat
 hm : Nat
 v4 : Value
 v6 : Value
 va : Value
 vt : Value
 vs : Value
 vr : Value
def dpart (h : Nat) (b : DV) : Nat → List Nat
 | 0 => [h]
 | 1 => pfoot b.hq b.v4 b.v6
 | 2 => qfoot b.hc b.va b.vt
 | 3 => [b.hm]
 | 4 => b.vs.ownBlock.toList
 | 5 => b.vr.ownBlock.toList
 | _ => []
structure Dl (w0 w : World) (h : Nat) (b : DV) (s : DS) : Prop where
 cell : w.heap[h]? = some (.cells #[.int .u64 s.c.rd, .int .u64 s.c.ad, .int .u64 s.c.jit, .int .i64 s.c.ff, .int .i64 s.c.mc, .bool s.lit, .pointer (some ⟨b.hq, 0, none⟩), .pointer (some ⟨b.hc, 0, none⟩), .int .u64 s.nb, b.vs, .map (some b.hm), b.vr] 64 (0, 0))
 new : w0.heap.size ≤ h
 pr : Pr w0 w b.hq b.v4 b.v6 s.p
 qu : Qu w0 w b.hc b.va b.vt s.c.ff s.A s.K
 mp : Mp encZ okZ w b.hm (actM s.act)
 mnew : w0.heap.size ≤ b.hm
 so : OwnA w0 w b.vs s.S
 ro : OwnK w0 w b.vr s.rs
 apart : Apart (dpart h b)
section
variable {w0 w : World} {h : Nat} {b : DV} {s : DS}
theorem Dl.lt (d : Dl w0 w h b s) : ∀ i, ∀ g ∈ dpart h b i, w0.heap.size ≤ g ∧ g < w.heap.size := by
 intro i g hg
 match i, hg with
 | 0, hg => simp [dpart] at hg; subst hg; exact ⟨d.new, (Array.getElem?_eq_some_iff.1 d.cell).1⟩
 | 1, hg => exact d.pr.lt g hg
 | 2, hg => exact d.qu.lt g hg
 | 3, hg => simp [dpart] at hg; subst hg; exact ⟨d.mnew, d.mp.lt⟩
 | 4, hg => simp [dpart] at hg; exact ⟨d.so.new g hg, Own.lt d.so g hg⟩
 | 5, hg => simp [dpart] at hg; exact ⟨d.ro.2 g hg, d.ro.lt g hg⟩
 | _ + 6, hg => simp [dpart] at hg
theorem Dl.touch {w' : World} {S : List Nat} (d : Dl w0 w h b s) (t : Touch S w w') (hd : ∀ i, ∀ g ∈ dpart h b i, g ∉ S) : Dl w0 w' h b s :=
 ⟨t.at d.cell (hd 0 h (by simp [dpart])), d.new, d.pr.touch t (hd 1), d.qu.touch t (hd 2), d.mp.touch t (hd 3 _ (by simp [dpart])), d.mnew, Own.touch d.so t (fun g hg => hd 4 g (by simp [dpart, hg])), d.ro.touch t (fun g hg => hd 5 g (by simp [dpart, hg])), d.apart⟩
theorem Dl.touch0 {w' : World} (d : Dl w0 w h b s) (t : Touch [] w w') : Dl w0 w' h b s := d.touch t (fun i g hg => by simp)
theorem Dl.free (d : Dl w0 w h b s) (k : Nat) : w.frozen? ⟨h, k, none⟩ = false := by simp [World.frozen?, d.cell]
theorem Dl.cells (d : Dl w0 w h b s) : w.cell? ⟨h, 0, none⟩ = some (.int .u64 s.c.rd) ∧ w.cell? ⟨h, 1, none⟩ = some (.int .u64 s.c.ad) ∧ w.cell? ⟨h, 2, none⟩ = some (.int .u64 s.c.jit) ∧ w.cell? ⟨h, 3, none⟩ = some (.int .i64 s.c.ff) ∧ w.cell? ⟨h, 4, none⟩ = some (.int .i64 s.c.mc) ∧ w.cell? ⟨h, 5, none⟩ = some (.bool s.lit)
  ∧ w.cell? ⟨h, 6, none⟩ = some (.pointer (some ⟨b.hq, 0, none⟩)) ∧ w.cell? ⟨h, 7, none⟩ = some (.pointer (some ⟨b.hc, 0, none⟩)) ∧ w.cell? ⟨h, 8, none⟩ = some (.int .u64 s.nb) ∧ w.cell? ⟨h, 9, none⟩ = some b.vs ∧ w.cell? ⟨h, 10, none⟩ = some (.map (some b.hm)) ∧ w.cell? ⟨h, 11, none⟩ = some b.vr := by
 refine ⟨?_, ?_, ?_, ?_, ?_, ?_, ?_, ?_, ?_, ?_, ?_, ?_⟩ <;> rw [cell_of_row _ _ _ _ _ _ d.cell] <;> rfl
/-- Blocks of one part only are written: the others stay. -/
theorem Dl.off {S : List Nat} (d : Dl w0 w h b s) (i0 : Nat) (hS : ∀ g ∈ S, g ∈ dpart h b i0) : ∀ j, j ≠ i0 → ∀ g ∈ dpart h b j, g ∉ S :=
 fun j hj g hg hm => d.apart j i0 hj g hg (hS g hm)
/-- A step on the queue. -/
theorem Dl.setQ {w' : World} {S : List Nat} {va vt : Value} {A : List Ad} {K : List Nat} (d : Dl w0 w h b s) (t : Touch S w w') (hS : ∀ g ∈ S, g ∈ qfoot b.hc b.va b.vt) (q : Qu w0 w' b.hc va vt s.c.ff A K) (hn : ∀ g ∈ qfoot b.hc va vt, g ∈ qfoot b.hc b.va b.vt ∨ w.heap.size ≤ g) :
  Dl w0 w' h { b with va := va, vt := vt } { s with A := A, K := K } := by
 have o := d.off 2 hS
 refine ⟨t.at d.cell (o 0 (by decide) h (by simp [dpart])), d.new, d.pr.touch t (o 1 (by decide)), q, d.mp.touch t (o 3 (by decide) _ (by simp [dpart])), d.mnew, Own.touch d.so t (fun g hg => o 4 (by decide) g (by simp [dpart, hg])), d.ro.touch t (fun g hg => o 5 (by decide) g (by simp [dpart, hg])), ?_⟩
 exact Apart.upd 2 d.apart (fun i g hg => (d.lt i g hg).2) (fun j hj => by match j, hj with | 0, _ => rfl | 1, _ => rfl | 2, hj => exact absurd rfl hj | 3, _ => rfl | 4, _ => rfl | 5, _ => rfl | _ + 6, _ => rfl) hn
/-- A step on the pair. -/
theorem Dl.setP {w' : World} {S : List Nat} {v4 v6 : Value} {p : PS} (d : Dl w0 w h b s) (t : Touch S w w') (hS : ∀ g ∈ S, g ∈ pfoot b.hq b.v4 b.v6) (q : Pr w0 w' b.hq v4 v6 p) (hn : ∀ g ∈ pfoot b.hq v4 v6, g ∈ pfoot b.hq b.v4 b.v6 ∨ w.heap.size ≤ g) :
  Dl w0 w' h { b with v4 := v4, v6 := v6 } { s with p := p } := by
 have o := d.off 1 hS
 refine ⟨t.at d.cell (o 0 (by decide) h (by simp [dpart])), d.new, q, d.qu.touch t (o 2 (by decide)), d.mp.touch t (o 3 (by decide) _ (by simp [dpart])), d.mnew, Own.touch d.so t (fun g hg => o 4 (by decide) g (by simp [dpart, hg])), d.ro.touch t (fun g hg => o 5 (by decide) g (by simp [dpart, hg])), ?_⟩
 exact Apart.upd 1 d.apart (fun i g hg => (d.lt i g hg).2) (fun j hj => by match j, hj with | 0, _ => rfl | 1, hj => exact absurd rfl hj | 2, _ => rfl | 3, _ => rfl | 4, _ => rfl | 5, _ => rfl | _ + 6, _ => rfl) hn
/-- A step on the map. -/
theorem Dl.setM {w' : World} {l : List Nat} (d : Dl w0 w h b s) (t : Touch [b.hm] w w') (q : Mp encZ okZ w' b.hm (actM l)) : Dl w0 w' h b { s with act := l } := by
 have o := d.off 3 (S := [b.hm]) (by simp [dpart])
 exact ⟨t.at d.cell (o 0 (by decide) h (by simp [dpart])), d.new, d.pr.touch t (o 1 (by decide)), d.qu.touch t (o 2 (by decide)), q, d.mnew, Own.touch d.so t (fun g hg => o 4 (by decide) g (by simp [dpart, hg])), d.ro.touch t (fun g hg => o 5 (by decide) g (by simp [dpart, hg])), d.apart⟩
/-- The time before which nothing starts. -/
theorem Dl.setN (d : Dl w0 w h b s) (n : Int) : Dl w0 (w.setCell ⟨h, 8, none⟩ (.int .u64 n)) h b { s with nb := n } ∧ Touch [h] w (w.setCell ⟨h, 8, none⟩ (.int .u64 n)) := by
 have t : Touch [h] w (w.setCell ⟨h, 8, none⟩ (.int .u64 n)) := (Touch.refl [h] w).setCell (p := ⟨h, 8, none⟩) (.inl (by simp)) _
 have o := d.off 0 (S := [h]) (by simp [dpart])
 refine ⟨⟨?_, d.new, d.pr.touch t (o 1 (by decide)), d.qu.touch t (o 2 (by decide)), d.mp.touch t (o 3 (by decide) _ (by simp [dpart])), d.mnew, Own.touch d.so t (fun g hg => o 4 (by decide) g (by simp [dpart, hg])), d.ro.touch t (fun g hg => o 5 (by decide) g (by simp [dpart, hg])), d.apart⟩, t⟩
 simp [World.setCell, Array.getElem?_modify, d.cell]
/-- The started addresses grow. -/
theorem Dl.setS {w2 : World} {v2 : Value} {L : List Ad} (d : Dl w0 w h b s) (t : Touch b.vs.ownBlock.toList w w2) (q : OwnA w0 w2 v2 L) (hv : v2.ownBlock = b.vs.ownBlock ∨ ∃ k, v2.ownBlock = some k ∧ w.heap.size ≤ k) :
  Dl w0 (w2.setCell ⟨h, 9, none⟩ v2) h { b with vs := v2 } { s with S := L } ∧ Touch (h :: b.vs.ownBlock.toList) w (w2.setCell ⟨h, 9, none⟩ v2) := by
 have t2 : Touch [h] w2 (w2.setCell ⟨h, 9, none⟩ v2) := (Touch.refl [h] w2).setCell (p := ⟨h, 9, none⟩) (.inl (by simp)) _
 have o := d.off 4 (S := b.vs.ownBlock.toList) (by simp [dpart])
 have hc := t.at d.cell (o 0 (by decide) h (by simp [dpart]))
 have T : Touch (h :: b.vs.ownBlock.toList) w (w2.setCell ⟨h, 9, none⟩ v2) := (t.mono (fun x hx => .inl (by simp; right; simpa using hx))).trans t2 (fun x hx => .inl (by simp at hx; simp [hx]))
 have hlt : h < w.heap.size := (Array.getElem?_eq_some_iff.1 d.cell).1
 have off : ∀ j, j ≠ 0 → j ≠ 4 → ∀ g ∈ dpart h b j, g ∉ h :: b.vs.ownBlock.toList := by
  intro j h0 h4 g hg hm
  rcases List.mem_cons.1 hm with e | e
  ·exact d.apart j 0 h0 g hg (by simp [dpart, e])
  ·exact o j h4 g hg e
 have hne : ∀ g, v2.ownBlock = some g → g ∉ [h] := by
  intro g hg
  simp
  intro e
  subst e
  rcases hv with e | ⟨k, e, hk⟩
  ·exact d.apart 0 4 (by decide) g (by simp [dpart]) (by rw [e] at hg; simp [dpart, hg])
  ·rw [e] at hg; cases hg; omega
 refine ⟨⟨?_, d.new, d.pr.touch T (off 1 (by decide) (by decide)), d.qu.touch T (off 2 (by decide) (by decide)), d.mp.touch T (off 3 (by decide) (by decide) _ (by simp [dpart])), d.mnew, Own.touch q t2 hne, d.ro.touch T (fun g hg => off 5 (by decide) (by decide) g (by simp [dpart, hg])), ?_⟩, T⟩
 ·simp [World.setCell, Array.getElem?_modify, hc]
 ·refine Apart.upd 4 d.apart (fun i g hg => (d.lt i g hg).2) (fun j hj => by match j, hj with | 0, _ => rfl | 1, _ => rfl | 2, _ => rfl | 3, _ => rfl | 4, hj => exact absurd rfl hj | 5, _ => rfl | _ + 6, _ => rfl) ?_
  intro g hg
  simp [dpart] at hg
  rcases hv with e | ⟨k, e, hk⟩
  ·exact .inl (by rw [e] at hg; simp [dpart, hg])
  ·rw [e] at hg; cases hg; exact .inr hk
/-- The reasons grow. -/
theorem Dl.setR {w2 : World} {v2 : Value} {L : List Nat} (d : Dl w0 w h b s) (t : Touch b.vr.ownBlock.toList w w2) (q : OwnK w0 w2 v2 L) (hv : v2.ownBlock = b.vr.ownBlock ∨ ∃ k, v2.ownBlock = some k ∧ w.heap.size ≤ k) :
  Dl w0 (w2.setCell ⟨h, 11, none⟩ v2) h { b with vr := v2 } { s with rs := L } ∧ Touch (h :: b.vr.ownBlock.toList) w (w2.setCell ⟨h, 11, none⟩ v2) := by
 have t2 : Touch [h] w2 (w2.setCell ⟨h, 11, none⟩ v2) := (Touch.refl [h] w2).setCell (p := ⟨h, 11, none⟩) (.inl (by simp)) _
 have o := d.off 5 (S := b.vr.ownBlock.toList) (by simp [dpart])
 have hc := t.at d.cell (o 0 (by decide) h (by simp [dpart]))
 have T : Touch (h :: b.vr.ownBlock.toList) w (w2.setCell ⟨h, 11, none⟩ v2) := (t.mono (fun x hx => .inl (by simp; right; simpa using hx))).trans t2 (fun x hx => .inl (by simp at hx; simp [hx]))
 have hlt : h < w.heap.size := (Array.getElem?_eq_some_iff.1 d.cell).1
 have off : ∀ j, j ≠ 0 → j ≠ 5 → ∀ g ∈ dpart h b j, g ∉ h :: b.vr.ownBlock.toList := by
  intro j h0 h5 g hg hm
  rcases List.mem_cons.1 hm with e | e
  ·exact d.apart j 0 h0 g hg (by simp [dpart, e])
  ·exact o j h5 g hg e
 have hne : ∀ g, v2.ownBlock = some g → g ∉ [h] := by
  intro g hg
  simp
  intro e
  subst e
  rcases hv with e | ⟨k, e, hk⟩
  ·exact d.apart 0 5 (by decide) g (by simp [dpart]) (by rw [e] at hg; simp [dpart, hg])
  ·rw [e] at hg; cases hg; omega
 refine ⟨⟨?_, d.new, d.pr.touch T (off 1 (by decide) (by decide)), d.qu.touch T (off 2 (by decide) (by decide)), d.mp.touch T (off 3 (by decide) (by decide) _ (by simp [dpart])), d.mnew, Own.touch d.so T (fun g hg => off 4 (by decide) (by decide) g (by simp [dpart, hg])), q.touch t2 hne, ?_⟩, T⟩
 ·simp [World.setCell, Array.getElem?_modify, hc]
 ·refine Apart.upd 5 d.apart (fun i g hg => (d.lt i g hg).2) (fun j hj => by match j, hj with | 0, _ => rfl | 1, _ => rfl | 2, _ => rfl | 3, _ => rfl | 4, _ => rfl | 5, hj => exact absurd rfl hj | _ + 6, _ => rfl) ?_
  intro g hg
  simp [dpart] at hg
  rcases hv with e | ⟨k, e, hk⟩
  ·exact .inl (by rw [e] at hg; simp [dpart, hg])
  ·rw [e] at hg; cases hg; exact .inr hk
theorem Dl.older {w1 : World} (d : Dl w1 w h b s) (hz : w0.heap.size ≤ w1.heap.size) : Dl w0 w h b s :=
 ⟨d.cell, Nat.le_trans hz d.new, ⟨d.pr.cell, Nat.le_trans hz d.pr.new, Own.older d.pr.o4 hz, Own.older d.pr.o6 hz, d.pr.h4, d.pr.h6, d.pr.h46, d.pr.n4, d.pr.n6, d.pr.d, d.pr.e4, d.pr.e6⟩, d.qu.older hz, d.mp, Nat.le_trans hz d.mnew, Own.older d.so hz, ⟨d.ro.1, fun g hg => Nat.le_trans hz (d.ro.2 g hg)⟩, d.apart⟩
end
/-- All blocks of a dialer. -/
def dfoot (h : Nat) (b : DV) : List Nat := dpart h b 0 ++ (dpart h b 1 ++ (dpart h b 2 ++ (dpart h b 3 ++ (dpart h b 4 ++ dpart h b 5))))
theorem mem_dfoot {h : Nat} {b : DV} {g : Nat} : g ∈ dfoot h b ↔ ∃ i, g ∈ dpart h b i := by
 unfold dfoot
 simp only [List.mem_append]
 constructor
 ·rintro (e | e | e | e | e | e)
  ·exact ⟨0, e⟩
  ·exact ⟨1, e⟩
  ·exact ⟨2, e⟩
  ·exact ⟨3, e⟩
  ·exact ⟨4, e⟩
  ·exact ⟨5, e⟩
 ·rintro ⟨i, e⟩
  match i, e with
  | 0, e => exact .inl e
  | 1, e => exact .inr (.inl e)
  | 2, e => exact .inr (.inr (.inl e))
  | 3, e => exact .inr (.inr (.inr (.inl e)))
  | 4, e => exact .inr (.inr (.inr (.inr (.inl e))))
  | 5, e => exact .inr (.inr (.inr (.inr (.inr e))))
  | _ + 6, e => simp [dpart] at e
/-- A step of a dialer: what it wrote was its own or new, and what it owns now was its own or is new. -/
structure Step (w w' : World) (h : Nat) (b b' : DV) : Prop where
 t : Touch (dfoot h b) w w'
 n : ∀ g ∈ dfoot h b', g ∈ dfoot h b ∨ w.heap.size ≤ g
theorem Step.refl (w : World) (h : Nat) (b : DV) : Step w w h b b := ⟨Touch.refl _ _, fun g hg => .inl hg⟩
theorem Step.of0 {w w' : World} {h : Nat} {b : DV} (t : Touch [] w w') : Step w w' h b b := ⟨t.mono (by simp), fun g hg => .inl hg⟩
theorem Step.trans {w w1 w2 : World} {h : Nat} {b b1 b2 : DV} (a : Step w w1 h b b1) (c : Step w1 w2 h b1 b2) : Step w w2 h b b2 :=
 ⟨a.t.trans c.t (fun x hx => a.n x hx), fun g hg => by
  rcases c.n g hg with e | e
  ·exact a.n g e
  ·exact .inr (Nat.le_trans a.t.size e)⟩
theorem Step.part {w w' : World} {h : Nat} {b b' : DV} {S : List Nat} (i0 : Nat) (t : Touch S w w') (hS : ∀ g ∈ S, g ∈ dfoot h b) (he : ∀ j, j ≠ i0 → dpart h b' j = dpart h b j) (hn : ∀ g ∈ dpart h b' i0, g ∈ dpart h b i0 ∨ w.heap.size ≤ g) : Step w w' h b b' :=
 ⟨t.mono (fun x hx => .inl (hS x hx)), fun g hg => by
  obtain ⟨i, hi⟩ := mem_dfoot.1 hg
  by_cases e : i = i0
  ·subst e
   rcases hn g hi with e | e
   ·exact .inl (mem_dfoot.2 ⟨i, e⟩)
   ·exact .inr e
  ·rw [he i e] at hi
   exact .inl (mem_dfoot.2 ⟨i, hi⟩)⟩
end Go.Proofs.YtiklhaajhdephaaGreatDoor

/-
 The contracts of the dialer's functions that only read.
-/
namespace Go.Proofs.YtiklhaajhdephaaGreatDoor
open Go.RowKit
set_option linter.unusedVariables false
set_option linter.unusedSimpArgs false

theorem mlen {w : World} {b : Nat} {l : List Nat} (hm : Mp encZ okZ w b (actM l)) (ty : TypeId) : (Builtin.len_ #[62] ty #[.map (some b)]).run Tryz.prog w = .ok (.int .i64 (l.length : Nat)) w := by
 have := hm.len Tryz.underlying62 ty
 rw [this]
 simp [actM]
def DS.resolved (s : DS) : Bool := s.lit || s.p.complete
set_option maxHeartbeats 400000 in
theorem dres_any (w0 w : World) (h : Nat) (b : DV) (s : DS) (d : Dl w0 w h b s) (r : Bool) (hr : s.resolved = r) :
  Calls Tryz.prog 43 #[.pointer (some ⟨h, 0, none⟩)] w fun e w' => e = .returned (.bool r) ∧ w = w' := by
 obtain ⟨_, _, _, _, _, c5, c6, _⟩ := d.cells
 have HP := Lib.hid d.pr
 clear d
 unfold DS.resolved at hr
 cases hl : s.lit with
 | true =>
  rw [hl] at c5 hr
  have HR := Lib.hid hr
  clear hl hr
  go_enter Tryz.func43, Tryz.ntmps43
  go_wp2_with fail
  go_ret
  exact ⟨by rw [← HR.out]; rfl, rfl⟩
 | false =>
  rw [hl] at c5 hr
  have HC := Lib.hid (pcomplete_any w0 w b.hq b.v4 b.v6 s.p HP.out r (by simpa using hr))
  clear hl hr
  go_enter Tryz.func43, Tryz.ntmps43
  go_wp2_with fail
  refine HC.out.mono ?_
  rintro e _ ⟨rfl, rfl⟩
  go_wp2_with fail
  go_ret
  exact ⟨rfl, rfl⟩
def DS.ready (s : DS) (now : Int) : Bool := s.lit || s.p.ready now
set_option maxHeartbeats 400000 in
theorem drdy_any (w0 w : World) (h : Nat) (b : DV) (s : DS) (d : Dl w0 w h b s) (now : Int) (hn : 0 ≤ now ∧ now ≤ maxT) (r : Bool) (hr : s.ready now = r) :
  Calls Tryz.prog 27 #[.pointer (some ⟨h, 0, none⟩), .int .u64 now] w fun e w' => e = .returned (.bool r) ∧ Touch [] w w' := by
 obtain ⟨_, _, _, _, _, c5, c6, _⟩ := d.cells
 have HP := Lib.hid d.pr
 clear d
 unfold DS.ready at hr
 cases hl : s.lit with
 | true =>
  rw [hl] at c5 hr
  have HR := Lib.hid hr
  clear hl hr hn
  go_enter Tryz.func27, Tryz.ntmps27
  go_wp2_with fail
  go_ret
  exact ⟨by rw [← HR.out]; rfl, Touch.refl _ _⟩
 | false =>
  rw [hl] at c5 hr
  have HC := Lib.hid (pready_any w0 w b.hq b.v4 b.v6 s.p HP.out now hn r (by simpa using hr))
  clear hl hr hn
  go_enter Tryz.func27, Tryz.ntmps27
  go_wp2_with fail
  refine HC.out.mono ?_
  rintro e w1 ⟨rfl, t1⟩
  have HT1 := Lib.hid t1
  clear t1
  go_wp2_with fail
  go_ret
  exact ⟨rfl, HT1.out⟩
/-- What could be tried next. -/
def DS.next (s : DS) : List Ad := if s.c.mc ≤ (s.act.length : Int) ∨ 64 ≤ s.S.length then [] else remP s.c.ff s.A s.K
set_option maxRecDepth 100000 in
set_option maxHeartbeats 4000000 in
theorem dnext_any (w0 w : World) (h : Nat) (b : DV) (s : DS) (d : Dl w0 w h b s) (hA : s.A.length ≤ 20) :
  Calls Tryz.prog 28 #[.pointer (some ⟨h, 0, none⟩)] w fun e w' => e = .returned (.tuple #[.agg (headA s.next).cells.toArray, .bool (!s.next.isEmpty)]) ∧ Touch [] w w' := by
 have HT := Lib.hid ((Touch.refl [] w).alloc (.cells (adr false (List.replicate 16 0)).toArray 40))
 have HG := Lib.hid (heap_alloc_new w (.cells (adr false (List.replicate 16 0)).toArray 40))
 have HD := Lib.hid (d.touch0 HT.out)
 obtain ⟨_, _, _, _, c4, _, _, c7, _, c9, c10, _⟩ := HD.out.cells
 obtain ⟨aS, kS, hvs, _, _, _⟩ := HD.out.so.form
 obtain ⟨n, hn⟩ : ∃ n, n = s.act.length := ⟨_, rfl⟩
 obtain ⟨m, hm⟩ : ∃ m, m = s.S.length := ⟨_, rfl⟩
 rw [hvs, ← hm] at c9
 have HN := Lib.hid hn
 have HM := Lib.hid hm
 have HV := Lib.hid (show s.next = if s.c.mc ≤ (n : Int) ∨ 64 ≤ m then [] else remP s.c.ff s.A s.K by rw [hn, hm]; rfl)
 clear hn hm hvs d
 by_cases hA1 : s.c.mc ≤ (n : Int)
 ·have HV2 := Lib.hid (show s.next = [] by rw [HV.out, if_pos (.inl hA1)])
  have HZL := Lib.hid zAd.len
  rw [HV2.out]
  go_enter Tryz.func28, Tryz.ntmps28
  go_wp2_with fail
  refine wp_region_held (S := Touch [] (w.alloc (.cells (adr false (List.replicate 16 0)).toArray 40)).drew) (by kernel_rfl) ?_
  change wpAnyH _ _ _ _ _ _ _ _ (w.alloc (.cells (adr false (List.replicate 16 0)).toArray 40)).drew
  have tD := (Touch.refl [] (w.alloc (.cells (adr false (List.replicate 16 0)).toArray 40))).drew
  have HDW := Lib.hid (HD.out.touch0 tD)
  have c4 := tD.cell c4 (by simp)
  have c9 := tD.cell c9 (by simp)
  have c10 := tD.cell c10 (by simp)
  have HTZ := Lib.hid tD
  generalize (w.alloc (.cells (adr false (List.replicate 16 0)).toArray 40)).drew = W at *
  clear tD
  have hS := Touch.refl [] W
  refine tkH 0 (.pointer (some ⟨h, 0, none⟩)) ?_
  refine tkH 1 (.pointer (some ⟨h, 0, none⟩)) ?_
  refine tkH 2 (.pointer (some ⟨h, 10, none⟩)) ?_
  refine tkH 3 (.map (some b.hm)) ?_ (hy := Or.inl ⟨by rfl, fun w' hw => by (have q := hw.cell c10 (by simp); go_simp)⟩)
  refine tkH 4 (.int .i64 (n : Nat)) ?_ (hy := Or.inl ⟨by rfl, fun w' hw => by (have q0 := (by have h := mlen (HDW.out.mp.touch hw (by simp)) 3; rw [← HN.out] at h; exact h : (Builtin.len_ #[62] 3 #[.map (some b.hm)]).run Tryz.prog w' = .ok (.int .i64 (n : Nat)) w'); go_simp)⟩)
  refine tkH 5 (.pointer (some ⟨h, 0, none⟩)) ?_
  refine tkH 6 (.pointer (some ⟨h, 0, none⟩)) ?_
  refine tkH 7 (.pointer (some ⟨h, 0, none⟩)) ?_
  refine tkH 8 (.pointer (some ⟨h, 4, none⟩)) ?_
  refine tkH 9 (.int .i64 s.c.mc) ?_ (hy := Or.inl ⟨by rfl, fun w' hw => by (have q := hw.cell c4 (by simp); go_simp)⟩)
  refine tkH 10 (.bool true) ?_ (hy := Or.inl ⟨by rfl, fun w' hw => by (have q0 := hA1; go_simp)⟩)
  refine tkH 11 (.bool true) ?_
  refine tkN 12 undef ?_
  refine tkN 13 undef ?_
  refine tkN 14 undef ?_
  refine tkN 15 undef ?_
  refine tkN 16 undef ?_
  refine tkN 17 undef ?_
  refine tkH 18 (.bool true) ?_
  refine wpAnyH_done (by kernel_rfl) ?_ _
  try simp only [Act.put, sT, s0, sS]
  clear hS
  clear c4 c9 c10
  have HG1 := Lib.hid (HTZ.out.at HG.out (by simp))
  have HT1 := Lib.hid (HT.out.trans HTZ.out (by simp))
  go_wp2_with (first | ((with_reducible refine at_build 40 ?_); refine wpList_built (by rfl) 40 _ (by rfl) _ _ (by rfl) built_zAd ?_) | ((with_reducible refine at_store 40 ?_); refine wpList_store_into rfl 40 _ _ rfl w.heap.size 40 _ zAd.cells rfl rfl HG1.out (by rw [HZL.out]; rfl) (by rw [size31, HZL.out]) zAd.one ?_))
  intro w4 h4 t4 z4
  go_wp2_with fail
  exact ret_row_tmp rfl size31 Tryz.underlying40 rfl HZL.out rfl rfl h4 ⟨rfl, HT1.out.trans t4 (by intro y hy; right; simp at hy; omega)⟩
 ·by_cases hS1 : 64 ≤ m
  ·have HV2 := Lib.hid (show s.next = [] by rw [HV.out, if_pos (.inr hS1)])
   have HZL := Lib.hid zAd.len
   have hA2 : (n : Int) < s.c.mc := by omega
   have hS2 : (64 : Int) ≤ (m : Int) := by omega
   rw [HV2.out]
   clear hA1
   go_enter Tryz.func28, Tryz.ntmps28
   go_wp2_with fail
   refine wp_region_held (S := Touch [] (w.alloc (.cells (adr false (List.replicate 16 0)).toArray 40)).drew) (by kernel_rfl) ?_
   change wpAnyH _ _ _ _ _ _ _ _ (w.alloc (.cells (adr false (List.replicate 16 0)).toArray 40)).drew
   have tD := (Touch.refl [] (w.alloc (.cells (adr false (List.replicate 16 0)).toArray 40))).drew
   have HDW := Lib.hid (HD.out.touch0 tD)
   have c4 := tD.cell c4 (by simp)
   have c9 := tD.cell c9 (by simp)
   have c10 := tD.cell c10 (by simp)
   have HTZ := Lib.hid tD
   generalize (w.alloc (.cells (adr false (List.replicate 16 0)).toArray 40)).drew = W at *
   clear tD
   have hS := Touch.refl [] W
   refine tkH 0 (.pointer (some ⟨h, 0, none⟩)) ?_
   refine tkH 1 (.pointer (some ⟨h, 0, none⟩)) ?_
   refine tkH 2 (.pointer (some ⟨h, 10, none⟩)) ?_
   refine tkH 3 (.map (some b.hm)) ?_ (hy := Or.inl ⟨by rfl, fun w' hw => by (have q := hw.cell c10 (by simp); go_simp)⟩)
   refine tkH 4 (.int .i64 (n : Nat)) ?_ (hy := Or.inl ⟨by rfl, fun w' hw => by (have q0 := (by have h := mlen (HDW.out.mp.touch hw (by simp)) 3; rw [← HN.out] at h; exact h : (Builtin.len_ #[62] 3 #[.map (some b.hm)]).run Tryz.prog w' = .ok (.int .i64 (n : Nat)) w'); go_simp)⟩)
   refine tkH 5 (.pointer (some ⟨h, 0, none⟩)) ?_
   refine tkH 6 (.pointer (some ⟨h, 0, none⟩)) ?_
   refine tkH 7 (.pointer (some ⟨h, 0, none⟩)) ?_
   refine tkH 8 (.pointer (some ⟨h, 4, none⟩)) ?_
   refine tkH 9 (.int .i64 s.c.mc) ?_ (hy := Or.inl ⟨by rfl, fun w' hw => by (have q := hw.cell c4 (by simp); go_simp)⟩)
   refine tkH 10 (.bool false) ?_ (hy := Or.inl ⟨by rfl, fun w' hw => by (have q0 := hA2; go_simp)⟩)
   refine tkH 11 (.bool false) ?_
   refine tkH 12 (.pointer (some ⟨h, 0, none⟩)) ?_
   refine tkH 13 (.pointer (some ⟨h, 0, none⟩)) ?_
   refine tkH 14 (.pointer (some ⟨h, 9, none⟩)) ?_
   refine tkH 15 (.slice aS m kS) ?_ (hy := Or.inl ⟨by rfl, fun w' hw => by (have q := hw.cell c9 (by simp); go_simp)⟩)
   refine tkH 16 (.int .i64 (m : Nat)) ?_
   refine tkH 17 (.bool true) ?_ (hy := Or.inl ⟨by rfl, fun w' hw => by (have q0 := hS1; have q1 := hS2; go_simp)⟩)
   refine tkH 18 (.bool true) ?_
   refine wpAnyH_done (by kernel_rfl) ?_ _
   try simp only [Act.put, sT, s0, sS]
   clear hS
   clear c4 c9 c10
   have HG1 := Lib.hid (HTZ.out.at HG.out (by simp))
   have HT1 := Lib.hid (HT.out.trans HTZ.out (by simp))
   go_wp2_with (first | ((with_reducible refine at_build 40 ?_); refine wpList_built (by rfl) 40 _ (by rfl) _ _ (by rfl) built_zAd ?_) | ((with_reducible refine at_store 40 ?_); refine wpList_store_into rfl 40 _ _ rfl w.heap.size 40 _ zAd.cells rfl rfl HG1.out (by rw [HZL.out]; rfl) (by rw [size31, HZL.out]) zAd.one ?_))
   intro w4 h4 t4 z4
   go_wp2_with fail
   exact ret_row_tmp rfl size31 Tryz.underlying40 rfl HZL.out rfl rfl h4 ⟨rfl, HT1.out.trans t4 (by intro y hy; right; simp at hy; omega)⟩
  ·have HV2 := Lib.hid (show s.next = remP s.c.ff s.A s.K by rw [HV.out, if_neg (by omega)])
   have hA2 : (n : Int) < s.c.mc := by omega
   have hS2 : (m : Int) < 64 := by omega
   have hS3 : m < 64 := by omega
   rw [HV2.out]
   obtain ⟨x, hx⟩ : ∃ x, x = headA (remP s.c.ff s.A s.K) := ⟨_, rfl⟩
   rw [← hx]
   have HX := Lib.hid hx
   clear hA1 hS1 hx
   go_enter Tryz.func28, Tryz.ntmps28
   go_wp2_with fail
   refine wp_region_held (S := Touch [] (w.alloc (.cells (adr false (List.replicate 16 0)).toArray 40)).drew) (by kernel_rfl) ?_
   change wpAnyH _ _ _ _ _ _ _ _ (w.alloc (.cells (adr false (List.replicate 16 0)).toArray 40)).drew
   have tD := (Touch.refl [] (w.alloc (.cells (adr false (List.replicate 16 0)).toArray 40))).drew
   have HDW := Lib.hid (HD.out.touch0 tD)
   have c4 := tD.cell c4 (by simp)
   have c9 := tD.cell c9 (by simp)
   have c10 := tD.cell c10 (by simp)
   have HTZ := Lib.hid tD
   generalize (w.alloc (.cells (adr false (List.replicate 16 0)).toArray 40)).drew = W at *
   clear tD
   have hS := Touch.refl [] W
   refine tkH 0 (.pointer (some ⟨h, 0, none⟩)) ?_
   refine tkH 1 (.pointer (some ⟨h, 0, none⟩)) ?_
   refine tkH 2 (.pointer (some ⟨h, 10, none⟩)) ?_
   refine tkH 3 (.map (some b.hm)) ?_ (hy := Or.inl ⟨by rfl, fun w' hw => by (have q := hw.cell c10 (by simp); go_simp)⟩)
   refine tkH 4 (.int .i64 (n : Nat)) ?_ (hy := Or.inl ⟨by rfl, fun w' hw => by (have q0 := (by have h := mlen (HDW.out.mp.touch hw (by simp)) 3; rw [← HN.out] at h; exact h : (Builtin.len_ #[62] 3 #[.map (some b.hm)]).run Tryz.prog w' = .ok (.int .i64 (n : Nat)) w'); go_simp)⟩)
   refine tkH 5 (.pointer (some ⟨h, 0, none⟩)) ?_
   refine tkH 6 (.pointer (some ⟨h, 0, none⟩)) ?_
   refine tkH 7 (.pointer (some ⟨h, 0, none⟩)) ?_
   refine tkH 8 (.pointer (some ⟨h, 4, none⟩)) ?_
   refine tkH 9 (.int .i64 s.c.mc) ?_ (hy := Or.inl ⟨by rfl, fun w' hw => by (have q := hw.cell c4 (by simp); go_simp)⟩)
   refine tkH 10 (.bool false) ?_ (hy := Or.inl ⟨by rfl, fun w' hw => by (have q0 := hA2; go_simp)⟩)
   refine tkH 11 (.bool false) ?_
   refine tkH 12 (.pointer (some ⟨h, 0, none⟩)) ?_
   refine tkH 13 (.pointer (some ⟨h, 0, none⟩)) ?_
   refine tkH 14 (.pointer (some ⟨h, 9, none⟩)) ?_
   refine tkH 15 (.slice aS m kS) ?_ (hy := Or.inl ⟨by rfl, fun w' hw => by (have q := hw.cell c9 (by simp); go_simp)⟩)
   refine tkH 16 (.int .i64 (m : Nat)) ?_
   refine tkH 17 (.bool false) ?_ (hy := Or.inl ⟨by rfl, fun w' hw => by (have q0 := hS2; have q1 := hS3; go_simp)⟩)
   refine tkH 18 (.bool false) ?_
   refine wpAnyH_done (by kernel_rfl) ?_ _
   try simp only [Act.put, sT, s0, sS]
   clear hS
   have HPK := Lib.hid (qpeek_any w0 W b.hc b.va b.vt s.c.ff s.A s.K (HD.out.qu.touch HTZ.out (by simp)) hA)
   rw [← HX.out] at HPK
   have HXL := Lib.hid x.len
   have d7 : W.cell? ⟨h, 7, none⟩ = some (.pointer (some ⟨b.hc, 0, none⟩)) := HTZ.out.cell c7 (by simp)
   clear c4 c7 c9 c10
   go_wp2_with fail
   refine HPK.out.mono ?_
   rintro e w1 ⟨rfl, t1⟩
   have HT1 := Lib.hid (HT.out.trans (HTZ.out.trans t1 (by simp)) (by simp))
   have HG1 := Lib.hid ((HTZ.out.trans t1 (by simp)).at HG.out (by simp))
   clear t1 d7
   go_wp2_with ((with_reducible refine at_store 40 ?_); refine wpList_store_into rfl 40 _ _ rfl w.heap.size 40 _ x.cells rfl rfl HG1.out (by rw [HXL.out]; rfl) (by rw [size31, HXL.out]) x.one ?_)
   intro w4 h4 t4 z4
   go_wp2_with fail
   exact ret_row_tmp rfl size31 Tryz.underlying40 rfl HXL.out rfl rfl h4 ⟨rfl, HT1.out.trans t4 (by intro y hy; right; simp at hy; omega)⟩
/-- What may be tried now. -/
def DS.cand (s : DS) (now : Int) : List Ad := if s.ready now = false ∨ now < s.nb then [] else s.next
set_option maxRecDepth 100000 in
set_option maxHeartbeats 4000000 in
theorem dcand_any (w0 w : World) (h : Nat) (b : DV) (s : DS) (d : Dl w0 w h b s) (hA : s.A.length ≤ 20) (now : Int) (hn : 0 ≤ now ∧ now ≤ maxT) :
  Calls Tryz.prog 9 #[.pointer (some ⟨h, 0, none⟩), .int .u64 now] w fun e w' => e = .returned (.tuple #[.agg (headA (s.cand now)).cells.toArray, .bool (!(s.cand now).isEmpty)]) ∧ Touch [] w w' := by
 have HT := Lib.hid ((Touch.refl [] w).alloc (.cells (adr false (List.replicate 16 0)).toArray 40))
 have HG := Lib.hid (heap_alloc_new w (.cells (adr false (List.replicate 16 0)).toArray 40))
 have HD := Lib.hid (d.touch0 HT.out)
 have HV := Lib.hid (show s.cand now = if s.ready now = false ∨ now < s.nb then [] else s.next from rfl)
 have HZL := Lib.hid zAd.len
 clear d
 cases hr : s.ready now with
 | false =>
  have HRD := Lib.hid (drdy_any w0 _ h b s HD.out now hn false hr)
  have HV2 := Lib.hid (show s.cand now = [] by rw [HV.out, if_pos (.inl hr)])
  rw [HV2.out]
  clear hr hn
  go_enter Tryz.func9, Tryz.ntmps9
  go_wp2_with fail
  refine HRD.out.mono ?_
  rintro e W ⟨rfl, t1⟩
  have HTZ := Lib.hid t1
  clear t1
  have HG1 := Lib.hid (HTZ.out.at HG.out (by simp))
  have HT1 := Lib.hid (HT.out.trans HTZ.out (by simp))
  go_wp2_with (first | ((with_reducible refine at_build 40 ?_); refine wpList_built (by rfl) 40 _ (by rfl) _ _ (by rfl) built_zAd ?_) | ((with_reducible refine at_store 40 ?_); refine wpList_store_into rfl 40 _ _ rfl w.heap.size 40 _ zAd.cells rfl rfl HG1.out (by rw [HZL.out]; rfl) (by rw [size31, HZL.out]) zAd.one ?_))
  intro w4 h4 t4 z4
  go_wp2_with fail
  exact ret_row_tmp rfl size31 Tryz.underlying40 rfl HZL.out rfl rfl h4 ⟨rfl, HT1.out.trans t4 (by intro y hy; right; simp at hy; omega)⟩
 | true =>
  have HRD := Lib.hid (drdy_any w0 _ h b s HD.out now hn true hr)
  by_cases hnb : now < s.nb
  ·have HV2 := Lib.hid (show s.cand now = [] by rw [HV.out, if_pos (.inr hnb)])
   rw [HV2.out]
   clear hr hn
   go_enter Tryz.func9, Tryz.ntmps9
   go_wp2_with fail
   refine HRD.out.mono ?_
   rintro e W ⟨rfl, t1⟩
   have HTZ := Lib.hid t1
   obtain ⟨_, _, _, _, _, _, _, _, c8, _, _, _⟩ := (HD.out.touch0 t1).cells
   clear t1
   have HG1 := Lib.hid (HTZ.out.at HG.out (by simp))
   have HT1 := Lib.hid (HT.out.trans HTZ.out (by simp))
   go_wp2_with (first | ((with_reducible refine at_build 40 ?_); refine wpList_built (by rfl) 40 _ (by rfl) _ _ (by rfl) built_zAd ?_) | ((with_reducible refine at_store 40 ?_); refine wpList_store_into rfl 40 _ _ rfl w.heap.size 40 _ zAd.cells rfl rfl HG1.out (by rw [HZL.out]; rfl) (by rw [size31, HZL.out]) zAd.one ?_))
   intro w4 h4 t4 z4
   go_wp2_with fail
   exact ret_row_tmp rfl size31 Tryz.underlying40 rfl HZL.out rfl rfl h4 ⟨rfl, HT1.out.trans t4 (by intro y hy; right; simp at hy; omega)⟩
  ·have HV2 := Lib.hid (show s.cand now = s.next by rw [HV.out, if_neg (by rw [hr]; simp; omega)])
   have hnb2 : decide (now < s.nb) = false := by simpa using hnb
   rw [HV2.out]
   obtain ⟨x, hx⟩ : ∃ x, x = headA s.next := ⟨_, rfl⟩
   rw [← hx]
   have HX := Lib.hid hx
   clear hr hn hnb hx
   go_enter Tryz.func9, Tryz.ntmps9
   go_wp2_with fail
   refine HRD.out.mono ?_
   rintro e W ⟨rfl, t1⟩
   have HTZ := Lib.hid t1
   obtain ⟨_, _, _, _, _, _, _, _, c8, _, _, _⟩ := (HD.out.touch0 t1).cells
   have HPK := Lib.hid (dnext_any w0 W h b s (HD.out.touch0 t1) hA)
   rw [← HX.out] at HPK
   have HXL := Lib.hid x.len
   clear t1
   go_wp2_with fail
   refine HPK.out.mono ?_
   rintro e w1 ⟨rfl, t1⟩
   have HT1 := Lib.hid (HT.out.trans (HTZ.out.trans t1 (by simp)) (by simp))
   have HG1 := Lib.hid ((HTZ.out.trans t1 (by simp)).at HG.out (by simp))
   clear t1 c8
   go_wp2_with ((with_reducible refine at_store 40 ?_); refine wpList_store_into rfl 40 _ _ rfl w.heap.size 40 _ x.cells rfl rfl HG1.out (by rw [HXL.out]; rfl) (by rw [size31, HXL.out]) x.one ?_)
   intro w4 h4 t4 z4
   go_wp2_with fail
   exact ret_row_tmp rfl size31 Tryz.underlying40 rfl HXL.out rfl rfl h4 ⟨rfl, HT1.out.trans t4 (by intro y hy; right; simp at hy; omega)⟩
/-- The earliest time after now at which something may be tried, if nothing else happens. -/
def DS.nextStart (s : DS) (now : Int) : Int :=
 if s.next.isEmpty = true then maxT else if s.ready now = true then max s.nb (addT now 1) else match s.p.dl with
  | none => maxT
  | some u => max (max s.nb (addT now 1)) u
set_option maxRecDepth 100000 in
set_option maxHeartbeats 8000000 in
theorem dns_any (w0 w : World) (h : Nat) (b : DV) (s : DS) (d : Dl w0 w h b s) (hA : s.A.length ≤ 20) (now : Int) (hn : 0 ≤ now ∧ now ≤ maxT) (r : Int) (hr : s.nextStart now = r) :
  Calls Tryz.prog 45 #[.pointer (some ⟨h, 0, none⟩), .int .u64 now] w fun e w' => e = .returned (.int .u64 r) ∧ Touch [] w w' := by
 have HNX := Lib.hid (dnext_any w0 w h b s d hA)
 have HD0 := Lib.hid d
 have HR0 := Lib.hid (show (if s.next.isEmpty = true then maxT else if s.ready now = true then max s.nb (addT now 1) else match s.p.dl with | none => maxT | some u => max (max s.nb (addT now 1)) u) = r from hr)
 obtain ⟨x, hx⟩ : ∃ x, x = headA s.next := ⟨_, rfl⟩
 rw [← hx] at HNX
 have HXL := Lib.hid x.len
 have HHN := Lib.hid hn
 clear hr d hx hn
 generalize s.next.isEmpty = em at *
 go_enter Tryz.func45, Tryz.ntmps45
 go_wp2_with fail
 refine HNX.out.mono ?_
 rintro e w1 ⟨rfl, t1⟩
 have HT1 := Lib.hid t1
 have HN := Lib.hid (heap_alloc_new w1 (.cells (adr false (List.replicate 16 0)).toArray 40))
 have HA := Lib.hid ((Touch.refl [] w1).alloc (.cells (adr false (List.replicate 16 0)).toArray 40))
 clear t1 HNX
 cases em with
 | true =>
  have HR := Lib.hid (show r = 18446744073709551615 by have h := HR0.out; rw [if_pos rfl] at h; exact h.symm)
  go_wp2_with ((with_reducible refine at_store 40 ?_); refine wpList_store_into rfl 40 _ _ rfl w1.heap.size 40 _ x.cells rfl rfl HN.out (by rw [HXL.out]; rfl) (by rw [size31, HXL.out]) x.one ?_)
  intro w2 h2 t2 z2
  have HT2 := Lib.hid (HT1.out.trans (HA.out.trans t2 (by intro y hy; right; simp at hy; omega)) (by simp))
  clear h2 t2 z2 HN HA
  go_wp2_with fail
  go_ret
  exact ⟨by rw [HR.out]; rfl, HT2.out⟩
 | false =>
  have HR := Lib.hid (show (if s.ready now = true then max s.nb (addT now 1) else match s.p.dl with | none => maxT | some u => max (max s.nb (addT now 1)) u) = r by have h := HR0.out; rw [if_neg (by simp)] at h; exact h)
  go_wp2_with ((with_reducible refine at_store 40 ?_); refine wpList_store_into rfl 40 _ _ rfl w1.heap.size 40 _ x.cells rfl rfl HN.out (by rw [HXL.out]; rfl) (by rw [size31, HXL.out]) x.one ?_)
  intro w2 h2 t2 z2
  have HT2 := Lib.hid (HT1.out.trans (HA.out.trans t2 (by intro y hy; right; simp at hy; omega)) (by simp))
  have HD2 := Lib.hid (HD0.out.touch0 HT2.out)
  obtain ⟨_, _, _, _, _, _, c6, _, c8, _, _, _⟩ := HD2.out.cells
  clear h2 t2 z2 HN HA HR0
  go_wp2_with fail
  refine wp_region_held (S := Touch [] w2.drew) (by kernel_rfl) ?_
  change wpAnyH _ _ _ _ _ _ _ _ w2.drew
  have tD := (Touch.refl [] w2).drew
  have c8 := tD.cell c8 (by simp)
  have HTD := Lib.hid tD
  generalize w2.drew = W at *
  clear tD
  have hS := Touch.refl [] W
  refine tkH 0 (.pointer (some ⟨h, 0, none⟩)) ?_
  refine tkH 1 (.pointer (some ⟨h, 0, none⟩)) ?_
  refine tkH 2 (.pointer (some ⟨h, 8, none⟩)) ?_
  refine tkH 3 (.int .u64 s.nb) ?_ (hy := Or.inl ⟨by rfl, fun w' hw => by (have q := hw.cell c8 (by simp); go_simp)⟩)
  refine tkH 4 (.int .u64 now) ?_
  refine wpAnyH_ready (rs := [5]) (by kernel_rfl) (by simp) ?_
  refine cnH rfl (fun K hK => ?_) AllReadyH.nil
  go_simp
  refine (tadd_any now 1 _ HHN.out ⟨by decide, by decide⟩).mono ?_
  rintro e _ ⟨rfl, rfl⟩
  refine hK.out _ _ hS (fun _ => ?_)
  clear hK K
  try simp only [Act.put, sT, s0, sS]
  refine tkH 6 (.int .u64 (max s.nb (addT now 1))) ?_
  refine tkH 7 (.int .u64 (max s.nb (addT now 1))) ?_
  refine wpAnyH_done (by kernel_rfl) ?_ _
  try simp only [Act.put, sT, s0, sS]
  have HTZ := Lib.hid (HTD.out.trans hS (by simp))
  clear hS
  generalize max s.nb (addT now 1) = M at *
  clear c8
  have HDW := Lib.hid (HD2.out.touch0 HTZ.out)
  have HTW := Lib.hid (HT2.out.trans HTZ.out (by simp))
  cases hrd : s.ready now with
  | true =>
   have HR2 := Lib.hid (show M = r by have h := HR.out; rw [if_pos hrd] at h; exact h)
   have HRD := Lib.hid (drdy_any w0 W h b s HDW.out now HHN.out true hrd)
   clear hrd c6
   go_wp2_with fail
   refine HRD.out.mono ?_
   rintro e w3 ⟨rfl, t3⟩
   have HT3 := Lib.hid (HTW.out.trans t3 (by simp))
   clear t3
   go_wp2_with fail
   go_ret
   exact ⟨by rw [← HR2.out]; rfl, HT3.out⟩
  | false =>
   have HR2 := Lib.hid (show (match s.p.dl with | none => maxT | some u => max M u) = r by have h := HR.out; rw [if_neg (by rw [hrd]; simp)] at h; exact h)
   have HRD := Lib.hid (drdy_any w0 W h b s HDW.out now HHN.out false hrd)
   clear hrd c6
   go_wp2_with fail
   refine HRD.out.mono ?_
   rintro e w3 ⟨rfl, t3⟩
   have HT3 := Lib.hid (HTW.out.trans t3 (by simp))
   have HD3 := Lib.hid (HDW.out.touch0 t3)
   obtain ⟨_, _, _, _, _, _, c6, _, _, _, _, _⟩ := HD3.out.cells
   clear t3
   cases hdl : s.p.dl with
   | none =>
    have HR3 := Lib.hid (show (18446744073709551615 : Int) = r by have h := HR2.out; rw [hdl] at h; exact h)
    have HDL := Lib.hid (pdl_no w0 w3 b.hq b.v4 b.v6 s.p HD3.out.pr hdl)
    clear hdl
    go_wp2_with fail
    refine HDL.out.mono ?_
    rintro e w4 ⟨rfl, t4⟩
    have HT4 := Lib.hid (HT3.out.trans t4 (by simp))
    clear t4 c6
    go_wp2_with fail
    go_ret
    exact ⟨by rw [← HR3.out]; rfl, HT4.out⟩
   | some u =>
    have HR3 := Lib.hid (show max M u = r by have h := HR2.out; rw [hdl] at h; exact h)
    have HDL := Lib.hid (pdl_yes w0 w3 b.hq b.v4 b.v6 s.p HD3.out.pr u hdl)
    clear hdl
    go_wp2_with fail
    refine HDL.out.mono ?_
    rintro e w4 ⟨rfl, t4⟩
    have HT4 := Lib.hid (HT3.out.trans t4 (by simp))
    clear t4 c6
    go_wp2_with fail
    go_ret
    exact ⟨by rw [← HR3.out]; rfl, HT4.out⟩
/-- Is there nothing left to hope for? -/
def DS.over (s : DS) : Bool := s.resolved && (decide (s.act.length = 0) && !(!(remP s.c.ff s.A s.K).isEmpty && decide (s.S.length < 64)))
set_option maxRecDepth 100000 in
set_option maxHeartbeats 8000000 in
theorem dexh_any (w0 w : World) (h : Nat) (b : DV) (s : DS) (d : Dl w0 w h b s) (hA : s.A.length ≤ 20) (hR : ∀ x ∈ s.rs, 1 ≤ x ∧ x ≤ 7) (o : Bool) (ho : s.over = o) (r : Nat) (hrr : (if o = true then primN s.rs else 0) = r) :
  Calls Tryz.prog 48 #[.pointer (some ⟨h, 0, none⟩)] w fun e w' => e = .returned (.tuple #[.int .i64 (r : Int), .bool o]) ∧ Touch [] w w' := by
 obtain ⟨_, _, _, _, _, _, _, c7, _, _, _, _⟩ := d.cells
 have HPK := Lib.hid (qpeek_any w0 w b.hc b.va b.vt s.c.ff s.A s.K d.qu hA)
 have HD0 := Lib.hid d
 have HRS := Lib.hid hR
 have HO := Lib.hid (show o = (s.resolved && (decide (s.act.length = 0) && !(!(remP s.c.ff s.A s.K).isEmpty && decide (s.S.length < 64)))) from ho.symm)
 have HRR := Lib.hid hrr
 clear ho hrr
 obtain ⟨x, hx⟩ : ∃ x, x = headA (remP s.c.ff s.A s.K) := ⟨_, rfl⟩
 rw [← hx] at HPK
 have HXL := Lib.hid x.len
 obtain ⟨lf, hlf⟩ : ∃ lf, lf = !(remP s.c.ff s.A s.K).isEmpty := ⟨_, rfl⟩
 rw [← hlf] at HPK HO
 obtain ⟨n, hn⟩ : ∃ n, n = s.act.length := ⟨_, rfl⟩
 obtain ⟨m, hm⟩ : ∃ m, m = s.S.length := ⟨_, rfl⟩
 rw [← hn, ← hm] at HO
 have HNN := Lib.hid hn
 have HMM := Lib.hid hm
 clear d hx hlf hn hm hR
 go_enter Tryz.func48, Tryz.ntmps48
 go_wp2_with fail
 refine HPK.out.mono ?_
 rintro e w1 ⟨rfl, t1⟩
 have HT1 := Lib.hid t1
 have HN := Lib.hid (heap_alloc_new w1 (.cells (adr false (List.replicate 16 0)).toArray 40))
 have HA := Lib.hid ((Touch.refl [] w1).alloc (.cells (adr false (List.replicate 16 0)).toArray 40))
 clear t1 HPK c7
 go_wp2_with ((with_reducible refine at_store 40 ?_); refine wpList_store_into rfl 40 _ _ rfl w1.heap.size 40 _ x.cells rfl rfl HN.out (by rw [HXL.out]; rfl) (by rw [size31, HXL.out]) x.one ?_)
 intro w2 h2 t2 z2
 have HT2 := Lib.hid (HT1.out.trans (HA.out.trans t2 (by intro y hy; right; simp at hy; omega)) (by simp))
 have HD2 := Lib.hid (HD0.out.touch0 HT2.out)
 obtain ⟨_, _, _, _, _, _, _, _, _, c9, c10, c11⟩ := HD2.out.cells
 obtain ⟨aS, kS, hvs, _, _, _⟩ := HD2.out.so.form
 rw [hvs, ← HMM.out] at c9
 have hml := mlen HD2.out.mp 3
 rw [← HNN.out] at hml
 clear h2 t2 z2 HN HA hvs
 cases hr : s.resolved with
 | false =>
  have HO2 := Lib.hid (show o = false by rw [HO.out, hr]; rfl)
  have HRV := Lib.hid (dres_any w0 w2 h b s HD2.out false hr)
  clear hr
  go_wp2_with fail
  refine HRV.out.mono ?_
  rintro e _ ⟨rfl, rfl⟩
  go_wp2_with fail
  go_ret2
  exact ⟨by rw [HO2.out, show r = 0 by have h := HRR.out; rw [if_neg (by rw [HO2.out]; simp)] at h; exact h.symm]; rfl, HT2.out⟩
 | true =>
  have HRV := Lib.hid (dres_any w0 w2 h b s HD2.out true hr)
  have HO2 := Lib.hid (show o = (decide (n = 0) && !(lf && decide (m < 64))) by rw [HO.out, hr]; rfl)
  clear hr
  by_cases hn0 : n = 0
  ·subst hn0
   cases lf with
   | false =>
    have HO3 := Lib.hid (show o = true by rw [HO2.out]; rfl)
    have HPR := Lib.hid (prim_any w0 b.vr s.rs w2 HD2.out.ro HRS.out)
    go_wp2_with fail
    refine HRV.out.mono ?_
    rintro e _ ⟨rfl, rfl⟩
    go_wp2_with fail
    refine HPR.out.mono ?_
    rintro e _ ⟨rfl, rfl⟩
    go_wp2_with fail
    go_ret2
    exact ⟨by rw [HO3.out, show r = primN s.rs by have h := HRR.out; rw [if_pos HO3.out] at h; exact h.symm]; rfl, HT2.out⟩
   | true =>
    by_cases hm64 : m < 64
    ·have HO3 := Lib.hid (show o = false by rw [HO2.out]; simp [hm64])
     have hm65 : (m : Int) < 64 := by omega
     go_wp2_with fail
     refine HRV.out.mono ?_
     rintro e _ ⟨rfl, rfl⟩
     go_wp2_with fail
     go_ret2
     exact ⟨by rw [HO3.out, show r = 0 by have h := HRR.out; rw [if_neg (by rw [HO3.out]; simp)] at h; exact h.symm]; rfl, HT2.out⟩
    ·have HO3 := Lib.hid (show o = true by rw [HO2.out]; simp [hm64])
     have hm65 : decide ((m : Int) < 64) = false := by simp; omega
     have hm66 : decide (m < 64) = false := by simpa using hm64
     clear hm64
     have HPR := Lib.hid (prim_any w0 b.vr s.rs w2 HD2.out.ro HRS.out)
     go_wp2_with fail
     refine HRV.out.mono ?_
     rintro e _ ⟨rfl, rfl⟩
     go_wp2_with fail
     refine HPR.out.mono ?_
     rintro e _ ⟨rfl, rfl⟩
     go_wp2_with fail
     go_ret2
     exact ⟨by rw [HO3.out, show r = primN s.rs by have h := HRR.out; rw [if_pos HO3.out] at h; exact h.symm]; rfl, HT2.out⟩
  ·have HO3 := Lib.hid (show o = false by rw [HO2.out]; simp [hn0])
   have hn1 : 0 < n := by omega
   have hn2 : (0 : Int) < (n : Int) := by omega
   clear hn0
   go_wp2_with fail
   refine HRV.out.mono ?_
   rintro e _ ⟨rfl, rfl⟩
   go_wp2_with fail
   go_ret2
   exact ⟨by rw [HO3.out, show r = 0 by have h := HRR.out; rw [if_neg (by rw [HO3.out]; simp)] at h; exact h.symm]; rfl, HT2.out⟩
end Go.Proofs.YtiklhaajhdephaaGreatDoor

/-
 The contracts of the dialer's functions that write.
-/
namespace Go.Proofs.YtiklhaajhdephaaGreatDoor
open Go.RowKit
set_option linter.unusedVariables false
set_option linter.unusedSimpArgs false

theorem Step.own {w w' : World} {h : Nat} {b b' : DV} (i0 : Nat) (t : Touch (h :: dpart h b i0) w w') (he : ∀ j, j ≠ i0 → dpart h b' j = dpart h b j) (hn : ∀ g ∈ dpart h b' i0, g ∈ dpart h b i0 ∨ w.heap.size ≤ g) : Step w w' h b b' :=
 Step.part i0 t (fun g hg => by
  rcases List.mem_cons.1 hg with e | e
  ·exact mem_dfoot.2 ⟨0, by simp [dpart, e]⟩
  ·exact mem_dfoot.2 ⟨i0, e⟩) he hn
theorem Step.one {w w' : World} {h : Nat} {b b' : DV} (i0 : Nat) (t : Touch (dpart h b i0) w w') (he : ∀ j, j ≠ i0 → dpart h b' j = dpart h b j) (hn : ∀ g ∈ dpart h b' i0, g ∈ dpart h b i0 ∨ w.heap.size ≤ g) : Step w w' h b b' :=
 Step.part i0 t (fun g hg => mem_dfoot.2 ⟨i0, hg⟩) he hn
theorem own_new {v v' : Value} {n : Nat} (hv : v'.ownBlock = v.ownBlock ∨ ∃ k, v'.ownBlock = some k ∧ n ≤ k) : ∀ g ∈ v'.ownBlock.toList, g ∈ v.ownBlock.toList ∨ n ≤ g := by
 intro g hg
 simp at hg
 rcases hv with e | ⟨k, e, hk⟩
 ·exact .inl (by rw [e] at hg; simp [hg])
 ·rw [e] at hg; cases hg; exact .inr hk
/-- The reason that is recorded. -/
def whyN (x : Int) : Nat := if isWhy x = true then x.toNat else 4
theorem whyN_ok (x : Int) : 1 ≤ whyN x ∧ whyN x ≤ 7 := by
 unfold whyN isWhy
 split
 ·rename_i h
  simp at h
  omega
 ·omega
set_option maxRecDepth 100000 in
set_option maxHeartbeats 2000000 in
theorem drec_any (w0 w : World) (h : Nat) (b : DV) (s : DS) (d : Dl w0 w h b s) (hz : w0.heap.size ≤ w.heap.size) (hl : s.rs.length ≤ 1000000) (x : Int) :
  Calls Tryz.prog 62 #[.pointer (some ⟨h, 0, none⟩), .int .i64 x] w fun e w' => e = .returned (.tuple #[]) ∧ ∃ v', Dl w0 w' h { b with vr := v' } { s with rs := s.rs ++ [whyN x] } ∧ Step w w' h b { b with vr := v' } := by
 obtain ⟨_, _, _, _, _, _, _, _, _, _, _, c11⟩ := d.cells
 obtain ⟨aR, kR, hvr, _, _, _⟩ := d.ro.form
 have HD := Lib.hid d
 have HVR := Lib.hid hvr
 have HZ := Lib.hid hz
 have HL := Lib.hid hl
 rw [hvr] at c11
 have HO := Lib.hid (show OwnK w0 w (.slice aR s.rs.length kR) s.rs by rw [← hvr]; exact d.ro)
 obtain ⟨k, hk⟩ : ∃ k, k = whyN x := ⟨_, rfl⟩
 have HK := Lib.hid hk
 rw [← hk]
 obtain ⟨n, hn⟩ : ∃ n, n = s.rs.length := ⟨_, rfl⟩
 have HNN := Lib.hid hn
 rw [← hn] at c11 HO HVR
 clear d hvr hk hz hl hn
 cases hw : isWhy x with
 | true =>
  have HX := Lib.hid (show x = (k : Int) by rw [HK.out]; unfold whyN; rw [if_pos hw]; unfold isWhy at hw; simp at hw; omega)
  have HW := Lib.hid (why_any x w)
  rw [hw] at HW
  clear hw
  go_enter Tryz.func62, Tryz.ntmps62
  go_wp2_with fail
  refine HW.out.mono ?_
  rintro e _ ⟨rfl, rfl⟩
  have HB := Lib.hid (show (w.alloc (.cells #[.int .i64 x] 3)).cell? ⟨w.heap.size, 0, none⟩ = some (.int .i64 (k : Int)) by rw [cell_of_row _ _ _ _ _ _ (heap_alloc_new w _)]; rw [HX.out]; rfl)
  have HTB := Lib.hid ((Touch.refl [] w).alloc (.cells #[.int .i64 x] 3))
  have HOB := Lib.hid (HO.out.touch HTB.out (by simp))
  go_wp2_with (at_builtin; refine wpList_app_k w0 (w.alloc (.cells #[.int .i64 x] 3)) (by rfl) _ _ (by rfl) _ s.rs (by rfl) HOB.out (by have := HZ.out; simp; omega) w.heap.size k (by rfl) HB.out (by have := HL.out; omega) ?_)
  intro v7 w7 o7 t7 h7
  obtain ⟨a7, k7, hv7, _, _, _⟩ := o7.form
  rw [List.length_append, List.length_singleton, ← HNN.out] at hv7
  subst hv7
  have hz1 : w.heap.size ≤ (w.alloc (.cells #[.int .i64 x] 3)).heap.size := by simp
  have T7 : Touch b.vr.ownBlock.toList w w7 := by rw [HVR.out]; exact (HTB.out.mono (by simp)).trans t7 (fun y hy => .inl hy)
  have h8 : (Value.slice a7 (n + 1) k7).ownBlock = b.vr.ownBlock ∨ ∃ k, (Value.slice a7 (n + 1) k7).ownBlock = some k ∧ w.heap.size ≤ k := by rw [HVR.out]; rcases h7 with e | e; exact .inl e; exact .inr ⟨_, e, by simp⟩
  have HSR := Lib.hid (HD.out.setR T7 o7 h8)
  have hhb : h ∉ b.vr.ownBlock.toList := by intro hm; exact HD.out.apart 0 5 (by decide) h (by simp [dpart]) (by simpa [dpart] using hm)
  have d11 := T7.cell c11 hhb
  have f11 : w7.frozen? ⟨h, 11, none⟩ = false := by simp [World.frozen?, T7.at HD.out.cell hhb]
  have HST := Lib.hid (show Step w (w7.setCell ⟨h, 11, none⟩ (.slice a7 (n + 1) k7)) h b { b with vr := .slice a7 (n + 1) k7 } from Step.own 5 HSR.out.2 (fun j hj => by match j, hj with | 0, _ => rfl | 1, _ => rfl | 2, _ => rfl | 3, _ => rfl | 4, _ => rfl | 5, hj => exact absurd rfl hj | _ + 6, _ => rfl) (own_new h8))
  clear t7 o7 h7 T7 h8 hhb c11 hz1
  go_wp2_with fail
  exact end0 rfl rfl ⟨rfl, _, HSR.out.1, HST.out⟩
 | false =>
  have HX := Lib.hid (show k = 4 by rw [HK.out]; unfold whyN; rw [if_neg (by rw [hw]; simp)])
  have HW := Lib.hid (why_any x w)
  rw [hw] at HW
  clear hw
  go_enter Tryz.func62, Tryz.ntmps62
  go_wp2_with fail
  refine HW.out.mono ?_
  rintro e _ ⟨rfl, rfl⟩
  have HB := Lib.hid (show (w.alloc (.cells #[.int .i64 4] 3)).cell? ⟨w.heap.size, 0, none⟩ = some (.int .i64 (k : Int)) by rw [cell_of_row _ _ _ _ _ _ (heap_alloc_new w _)]; rw [HX.out]; rfl)
  have HTB := Lib.hid ((Touch.refl [] w).alloc (.cells #[.int .i64 4] 3))
  have HOB := Lib.hid (HO.out.touch HTB.out (by simp))
  go_wp2_with (at_builtin; refine wpList_app_k w0 (w.alloc (.cells #[.int .i64 4] 3)) (by rfl) _ _ (by rfl) _ s.rs (by rfl) HOB.out (by have := HZ.out; simp; omega) w.heap.size k (by rfl) HB.out (by have := HL.out; omega) ?_)
  intro v7 w7 o7 t7 h7
  obtain ⟨a7, k7, hv7, _, _, _⟩ := o7.form
  rw [List.length_append, List.length_singleton, ← HNN.out] at hv7
  subst hv7
  have hz1 : w.heap.size ≤ (w.alloc (.cells #[.int .i64 4] 3)).heap.size := by simp
  have T7 : Touch b.vr.ownBlock.toList w w7 := by rw [HVR.out]; exact (HTB.out.mono (by simp)).trans t7 (fun y hy => .inl hy)
  have h8 : (Value.slice a7 (n + 1) k7).ownBlock = b.vr.ownBlock ∨ ∃ k, (Value.slice a7 (n + 1) k7).ownBlock = some k ∧ w.heap.size ≤ k := by rw [HVR.out]; rcases h7 with e | e; exact .inl e; exact .inr ⟨_, e, by simp⟩
  have HSR := Lib.hid (HD.out.setR T7 o7 h8)
  have hhb : h ∉ b.vr.ownBlock.toList := by intro hm; exact HD.out.apart 0 5 (by decide) h (by simp [dpart]) (by simpa [dpart] using hm)
  have d11 := T7.cell c11 hhb
  have f11 : w7.frozen? ⟨h, 11, none⟩ = false := by simp [World.frozen?, T7.at HD.out.cell hhb]
  have HST := Lib.hid (show Step w (w7.setCell ⟨h, 11, none⟩ (.slice a7 (n + 1) k7)) h b { b with vr := .slice a7 (n + 1) k7 } from Step.own 5 HSR.out.2 (fun j hj => by match j, hj with | 0, _ => rfl | 1, _ => rfl | 2, _ => rfl | 3, _ => rfl | 4, _ => rfl | 5, hj => exact absurd rfl hj | _ + 6, _ => rfl) (own_new h8))
  clear t7 o7 h7 T7 h8 hhb c11 hz1
  go_wp2_with fail
  exact end0 rfl rfl ⟨rfl, _, HSR.out.1, HST.out⟩
theorem wpList_delZ {w : World} {m : Nat} {l : List Nat} {o : Oper} {ops : Array Oper} {rest : List Oper} {a : Act} {Q : Exit → Act → World → Prop} (hg : o.guard = none) (y x : Operand) (hop : o.op = Op.call { callee := Callee.builtin Builtin.delete, args := #[y, x], argTypes := #[62, 3] })
  (h : Mp encZ okZ w m (actM l)) (z : Int) (hz : okZ z) (hm : a.eval y = .map (some m)) (hx : a.eval x = encZ z)
  (hK : ∀ w', Mp encZ okZ w' m (actM (l.filter fun k => !decide ((k : Int) = z))) → Touch [m] w w' → w'.heap.size = w.heap.size → wpList Tryz.prog ops Q rest (a.put o.dst (.tuple #[])) w') : wpList Tryz.prog ops Q (o :: rest) a w := by
 refine wpList_plain hg fun K' hK' => ?_
 obtain ⟨w', hrun, r1, r2, r3⟩ := h.drop keyZ Tryz.underlying62 hz o.type
 rw [del_act] at r1
 unfold Oper.wp
 simp [execOp, hop, resolve, invoke, builtin, hm, hx, hrun, Result.andThen]
 exact hK' _ _ (hK w' r1 r2 r3)
theorem zeroBZ (w : World) : (zeroValue 4).run Tryz.prog w = .ok (.bool false) w := by kernel_rfl
theorem lookZ {w : World} {m : Nat} {l : List Nat} (h : Mp encZ okZ w m (actM l)) {z : Int} (hz : okZ z) (r : Bool) (hr : decide (∃ k ∈ l, (k : Int) = z) = r) : (Instr.lookup 62 (.map (some m)) (.int .i64 z) false).run Tryz.prog w = .ok (.bool r) w := by
 have := h.lookup keyZ Tryz.underlying62 (zeroBZ w) hz false
 rw [look_act] at this
 simp only [Bool.false_eq_true, if_false] at this
 rw [← hr]
 by_cases hx : ∃ k ∈ l, (k : Int) = z
 ·rw [if_pos hx] at this
  rw [show decide (∃ k ∈ l, (k : Int) = z) = true by simpa using hx]
  exact this
 ·rw [if_neg hx] at this
  rw [show decide (∃ k ∈ l, (k : Int) = z) = false by simpa using hx]
  exact this
/-- Is the attempt in progress? -/
def DS.has (s : DS) (x : Int) : Bool := decide (∃ k ∈ s.act, (k : Int) = x)
def DS.fail (s : DS) (x y : Int) : DS := { s with act := s.act.filter fun k => !decide ((k : Int) = x), rs := s.rs ++ [whyN y], nb := 0 }
set_option maxRecDepth 100000 in
set_option maxHeartbeats 2000000 in
theorem dfail_no (w0 w : World) (h : Nat) (b : DV) (s : DS) (d : Dl w0 w h b s) (x y : Int) (hx : okZ x) (hh : s.has x = false) :
  Calls Tryz.prog 39 #[.pointer (some ⟨h, 0, none⟩), .int .i64 x, .int .i64 y] w fun e w' => e = .returned (.bool false) ∧ w = w' := by
 obtain ⟨_, _, _, _, _, _, _, _, _, _, c10, _⟩ := d.cells
 have hl := lookZ d.mp hx false hh
 clear d hx hh
 go_enter Tryz.func39, Tryz.ntmps39
 go_wp2_with fail
 go_ret
 exact ⟨rfl, rfl⟩
set_option maxRecDepth 100000 in
set_option maxHeartbeats 4000000 in
theorem dfail_yes (w0 w : World) (h : Nat) (b : DV) (s : DS) (d : Dl w0 w h b s) (hz : w0.heap.size ≤ w.heap.size) (hl : s.rs.length ≤ 1000000) (x y : Int) (hx : okZ x) (hh : s.has x = true) :
  Calls Tryz.prog 39 #[.pointer (some ⟨h, 0, none⟩), .int .i64 x, .int .i64 y] w fun e w' => e = .returned (.bool true) ∧ ∃ b', Dl w0 w' h b' (s.fail x y) ∧ Step w w' h b b' := by
 obtain ⟨_, _, _, _, _, _, _, _, _, _, c10, _⟩ := d.cells
 have hlk := lookZ d.mp hx true hh
 have HD := Lib.hid d
 have HX := Lib.hid hx
 have HZ := Lib.hid hz
 have HL := Lib.hid hl
 clear d hx hh hz hl
 go_enter Tryz.func39, Tryz.ntmps39
 go_wp2_with (refine wpList_delZ rfl _ _ rfl HD.out.mp x HX.out (by rfl) (by rfl) ?_)
 intro w1 m1 t1 z1
 have HD1 := Lib.hid (HD.out.setM t1 m1)
 have HS1 := Lib.hid (show Step w w1 h b b from Step.one 3 (by simpa [dpart] using t1) (fun j hj => rfl) (fun g hg => .inl hg))
 have HRC := Lib.hid (drec_any w0 w1 h b _ HD1.out (by have := HZ.out; omega) HL.out y)
 clear m1 t1 z1 hlk c10
 go_wp2_with fail
 refine HRC.out.mono ?_
 rintro e w2 ⟨rfl, v2, d2, s2⟩
 have HD2 := Lib.hid d2
 have HS2 := Lib.hid (HS1.out.trans s2)
 obtain ⟨_, _, _, _, _, _, _, _, c8, _, _, _⟩ := d2.cells
 have f8 := d2.free 8
 have HN := Lib.hid (d2.setN 0)
 have HS3 := Lib.hid (HS2.out.trans (Step.own 0 (b' := { b with vr := v2 }) (HN.out.2.mono (by simp)) (fun j hj => rfl) (fun g hg => .inl hg)))
 clear d2 s2 HRC
 go_wp2_with fail
 go_ret
 exact ⟨rfl, _, HN.out.1, HS3.out⟩
theorem cand_rem {s : DS} {now : Int} {a : Ad} {r : List Ad} (h : s.cand now = a :: r) : remP s.c.ff s.A s.K = a :: r ∧ s.S.length < 64 ∧ (s.act.length : Int) < s.c.mc := by
 unfold DS.cand at h
 split at h
 ·cases h
 ·unfold DS.next at h
  split at h
  ·cases h
  ·rename_i h2
   exact ⟨h, by omega, by omega⟩
theorem step_q {w w' : World} {h : Nat} {b : DV} {va vt : Value} {S : List Nat} (t : Touch S w w') (hS : ∀ g ∈ S, g ∈ qfoot b.hc b.va b.vt) (hn : ∀ g ∈ qfoot b.hc va vt, g ∈ qfoot b.hc b.va b.vt ∨ w.heap.size ≤ g) : Step w w' h b { b with va := va, vt := vt } :=
 Step.one 2 (t.mono (fun x hx => .inl (hS x hx))) (fun j hj => by match j, hj with | 0, _ => rfl | 1, _ => rfl | 2, hj => exact absurd rfl hj | 3, _ => rfl | 4, _ => rfl | 5, _ => rfl | _ + 6, _ => rfl) hn
def DS.skip (s : DS) (a : Ad) (y : Int) : DS := { s with K := takeK s.A s.K a, rs := s.rs ++ [whyN y] }
set_option maxRecDepth 100000 in
set_option maxHeartbeats 4000000 in
theorem dskip_no (w0 w : World) (h : Nat) (b : DV) (s : DS) (d : Dl w0 w h b s) (hA : s.A.length ≤ 20) (now : Int) (hn : 0 ≤ now ∧ now ≤ maxT) (y : Int) (hc : s.cand now = []) :
  Calls Tryz.prog 37 #[.pointer (some ⟨h, 0, none⟩), .int .u64 now, .int .i64 y] w fun e w' => e = .returned (.bool false) ∧ Touch [] w w' := by
 have HC := Lib.hid (dcand_any w0 w h b s d hA now hn)
 rw [hc] at HC
 have HZL := Lib.hid (headA []).len
 have HZO := Lib.hid (headA []).one
 clear d hc hn
 generalize headA [] = za at *
 go_enter Tryz.func37, Tryz.ntmps37
 go_wp2_with fail
 refine HC.out.mono ?_
 rintro e w1 ⟨rfl, t1⟩
 have HT1 := Lib.hid t1
 have HN := Lib.hid (heap_alloc_new w1 (.cells (adr false (List.replicate 16 0)).toArray 40))
 have HA := Lib.hid ((Touch.refl [] w1).alloc (.cells (adr false (List.replicate 16 0)).toArray 40))
 clear t1 HC
 go_wp2_with ((with_reducible refine at_store 40 ?_); refine wpList_store_into rfl 40 _ _ rfl w1.heap.size 40 _ za.cells rfl rfl HN.out (by rw [HZL.out]; rfl) (by rw [size31, HZL.out]) HZO.out ?_)
 intro w2 h2 t2 z2
 have HT2 := Lib.hid (HT1.out.trans (HA.out.trans t2 (by intro y hy; right; simp at hy; omega)) (by simp))
 clear h2 t2 z2 HN HA
 go_wp2_with fail
 go_ret
 exact ⟨rfl, HT2.out⟩
set_option maxRecDepth 100000 in
set_option maxHeartbeats 4000000 in
theorem dskip_yes (w0 w : World) (h : Nat) (b : DV) (s : DS) (d : Dl w0 w h b s) (hz : w0.heap.size ≤ w.heap.size) (hA : s.A.length ≤ 20) (hK : s.K.length ≤ 1000000) (hl : s.rs.length ≤ 1000000) (now : Int) (hn : 0 ≤ now ∧ now ≤ maxT) (y : Int) (a : Ad) (r : List Ad) (hc : s.cand now = a :: r) :
  Calls Tryz.prog 37 #[.pointer (some ⟨h, 0, none⟩), .int .u64 now, .int .i64 y] w fun e w' => e = .returned (.bool true) ∧ ∃ b', Dl w0 w' h b' (s.skip a y) ∧ Step w w' h b b' := by
 have HC := Lib.hid (dcand_any w0 w h b s d hA now hn)
 have HR := Lib.hid (cand_rem hc).1
 rw [hc] at HC
 have HXL := Lib.hid a.len
 have HD := Lib.hid d
 have HZ := Lib.hid hz
 have HL := Lib.hid hl
 simp only [headA, List.isEmpty_cons, Bool.not_false] at HC
 clear d hc hn hz hl
 go_enter Tryz.func37, Tryz.ntmps37
 go_wp2_with fail
 refine HC.out.mono ?_
 rintro e w1 ⟨rfl, t1⟩
 have HT1 := Lib.hid t1
 have HN := Lib.hid (heap_alloc_new w1 (.cells (adr false (List.replicate 16 0)).toArray 40))
 have HA := Lib.hid ((Touch.refl [] w1).alloc (.cells (adr false (List.replicate 16 0)).toArray 40))
 clear t1 HC
 go_wp2_with ((with_reducible refine at_store 40 ?_); refine wpList_store_into rfl 40 _ _ rfl w1.heap.size 40 _ a.cells rfl rfl HN.out (by rw [HXL.out]; rfl) (by rw [size31, HXL.out]) a.one ?_)
 intro w2 h2 t2 z2
 have HT2 := Lib.hid (HT1.out.trans (HA.out.trans t2 (by intro y hy; right; simp at hy; omega)) (by simp))
 have HD2 := Lib.hid (HD.out.touch0 HT2.out)
 obtain ⟨_, _, _, _, _, _, _, c7, _, _, _, _⟩ := HD2.out.cells
 have HTK := Lib.hid (qtake_any w0 w2 b.hc b.va b.vt s.c.ff s.A s.K HD2.out.qu (by have := HZ.out; have := HT2.out.size; omega) hA hK)
 rw [HR.out] at HTK
 simp only [headA, List.isEmpty_cons, Bool.not_false, Bool.false_eq_true, if_false] at HTK
 clear h2 t2 z2 HN HA
 go_wp2_with fail
 refine HTK.out.mono ?_
 rintro e w3 ⟨rfl, vt3, q3, t3, hv3⟩
 have HD3 := Lib.hid (HD2.out.setQ t3 (foot_take b.hc _ _) q3 (foot_new_take hv3))
 have HS3 := Lib.hid ((Step.of0 (h := h) (b := b) HT2.out).trans (step_q (h := h) t3 (foot_take b.hc _ _) (foot_new_take hv3)))
 have HRC := Lib.hid (drec_any w0 w3 h _ _ HD3.out (by have := HZ.out; have := HT2.out.size; have := t3.size; omega) HL.out y)
 clear q3 t3 hv3 HTK c7
 go_wp2_with fail
 refine HRC.out.mono ?_
 rintro e w4 ⟨rfl, v4, d4, s4⟩
 have HD4 := Lib.hid d4
 have HS4 := Lib.hid (HS3.out.trans s4)
 clear d4 s4
 go_wp2_with fail
 go_ret
 exact ⟨rfl, _, HD4.out, HS4.out⟩
end Go.Proofs.YtiklhaajhdephaaGreatDoor

/-
  Merged texts: TuG, TqG, Gd, Flat, Arg, Gx, TsG, DlG.
-/
import Derived.Test.YtobkanlnnniabaaGreatX3
import Derived.Lib.Hide
import Derived.Deep.Slices
import Derived.OpenShut
import Derived.WideShapes
import Derived.Lib.SliceRun
import Derived.Deep.Upon

/-
  The contract of subtree.
-/
namespace Go.Proofs.YtobkanlnnniabaaGreat.G
open Go.RowKit
set_option linter.unusedVariables false
set_option linter.unusedSimpArgs false

section
variable {w : World} {t h : Nat} {fh : List Nat} {N : List Nd} {last : Int}
set_option maxRecDepth 100000 in
set_option maxHeartbeats 1000000 in
theorem subtree_no (k : TM w t h fh N last) (i : Int) (hi : okK i) (hn : i ∉ tids (sh N)) :
    Calls Tryz.prog 27 #[.pointer (some ⟨t, 0, none⟩), .int .i64 i] w fun e w' => e = .returned (.slice none 0 0) ∧ w' = w := by
  have c0 := k.mem.cell
  have HG := Lib.hid (k.get_no i hi hn)
  clear k hn
  go_enter Tryz.func27, Tryz.ntmps27
  go_wp2_with fail
  refine HG.out.mono ?_
  rintro e w' ⟨rfl, rfl⟩
  go_wp2_with fail
  go_ret
  exact ⟨rfl, rfl⟩
def SubR (N : List Tm) (id : Int) (w0 w' : World) (e : Ending) : Prop := ∃ v l, e = .returned v ∧ Sub N id l ∧ OwnN w0 w' v l ∧ Touch [] w0 w'
set_option maxRecDepth 100000 in
set_option maxHeartbeats 2000000 in
theorem subtree_any (k : TM w t h fh N last) (n : Nd) (hn : n ∈ N) :
    Calls Tryz.prog 27 #[.pointer (some ⟨t, 0, none⟩), .int .i64 n.t.id] w fun e w' => SubR (sh N) n.t.id w w' e := by
  have c0 := k.mem.cell
  have HK := Lib.hid k
  have HN := Lib.hid hn
  have hlen : (sh N).length = N.length := by simp [sh]
  have hfew := k.mem.few
  have HLEN := Lib.hid hlen
  have HI := Lib.hid (sh_tids hn)
  clear k hn hlen
  go_enter Tryz.func27, Tryz.ntmps27
  go_wp2_with fail
  refine (HK.out.get n HN.out).mono ?_
  rintro e w' ⟨rfl, q, rfl⟩
  have HO := Lib.hid ((OwnN.one (w.drewN q) n.t.id).rebase (w0 := w) (by simp))
  have HT := Lib.hid (((Touch.refl [] w).drews q).alloc (.cells #[.int .i64 n.t.id] 3))
  go_wp2_with fail
  go_loopw [8, 9] (fun vl vi wr => ∃ (i : Nat) (l : List Int), vi = .int .i64 i ∧ Bfs (sh N) n.t.id l i ∧ OwnN w wr vl l ∧ Touch [] w wr) (fun _ vi _ => N.length - (intOf vi).toNat)
  case atStart => exact ⟨0, _, rfl, Bfs.start HK.out.tree HI.out, HO.out, HT.out⟩
  case round =>
    obtain ⟨i, l, rfl, hb, ho, ht⟩ := hrel
    have HB := Lib.hid hb
    have HO := Lib.hid ho
    have HT := Lib.hid ht
    have hll := hb.few
    rw [HLEN.out] at hll
    obtain ⟨av, cv, rfl, hv1, hv2, hv3⟩ := owns_form ho.row
    have hcv : cv ≤ 9223372036854775807 := by unfold maxLen at hv2; omega
    clear hb ho ht hv2
    by_cases hlt : i < l.length
    · obtain ⟨g, rfl⟩ := hv3 (by omega)
      have hx := List.getElem?_eq_getElem hlt
      generalize l[i] = p at hx
      have HX := Lib.hid hx
      have p0 := owns_cell HO.out.row i (.int .i64 p) (by simp [hx])
      obtain ⟨m, hm, rfl⟩ := sh_at (HB.out.mem p (List.mem_of_getElem? hx))
      have HM := Lib.hid hm
      have hk1 := HK.out.touch HT.out (by simp)
      have HK1 := Lib.hid hk1
      have c1 := hk1.mem.cell
      obtain ⟨m0, m1, m2, m3⟩ := (hk1.mem.nd m hm).cells
      have HS := Lib.hid (HB.out.step HK.out.tree hx)
      have hsf := HS.out.few
      rw [HLEN.out, List.length_append] at hsf
      have q3 : (i : Int) < (l.length : Int) := by omega
      have hwi : IntKind.i64.wrap ((i : Int) + 1) = (i : Int) + 1 := by rw [IntKind.wrap_i64] <;> omega
      clear hx hm hk1 m0 m1 m2
      go_wp2_with fail
      go_quiet ((go_at_call 19; exact Calls.quiet_of ((HK1.out.draws _).get m HM.out)))
      have T2 := (Touch.refl [] wr).drews nq
      go_wp2_with (at_builtin; refine wpList_appN (by rfl) _ _ (by rfl) _ _ l (kids (sh N) m.t.id) (by rfl) (by rfl) (HO.out.touch T2 (by simp)) (Nat.le_trans HT.out.size T2.size) ((HK1.out.draws nq).mem.nd m HM.out).row (by omega) ?_)
      intro v' w3 o3 t3
      have O3 := Lib.hid o3
      have T3 := Lib.hid ((HT.out.trans T2 (by simp)).trans t3 (by intro y hy; right; exact HO.out.new y (by simpa using hy)))
      clear o3 t3 T2 p0 m3 c1
      try simp only [Act.put]
      go_wp2_with fail
      go_roundw
      case rel => exact ⟨i + 1, _, by simp, HS.out, O3.out, T3.out⟩
      case measure => simp [intOf]; omega
    · have hil := HB.out.il
      have hie : i = l.length := by omega
      have HIE := Lib.hid hie
      clear hie
      go_wp2_with fail
      go_ret
      exact ⟨_, l, rfl, by have := HB.out; rwa [HIE.out] at this, HO.out, HT.out⟩
end
end Go.Proofs.YtobkanlnnniabaaGreat.G

/-
  One more timer: what its memory is.
-/
namespace Go.Proofs.YtobkanlnnniabaaGreat.G
open Go.RowKit
set_option linter.unusedVariables false
set_option linter.unusedSimpArgs false

section
variable {w : World} {t h : Nat} {fh : List Nat} {N : List Nd} {last : Int}
theorem TK.congr {K K' : Int → List Int} (k : TK w t h fh N last K) (e : ∀ n ∈ N, K n.t.id = K' n.t.id) : TK w t h fh N last K' :=
  ⟨k.hdr, k.bag, fun n hn => by rw [← e n hn]; exact k.nd n hn, k.rq, k.few, k.tf, k.nt, k.nf, k.nn⟩
/-- The new timer. -/
def newN (last par req due : Int) (x : Tag) (b : Nat) : Nd := ⟨⟨last + 1, par, req, due⟩, x, b, .slice none 0 0⟩
theorem TK.pushed (k : TM w t h fh N last) {w' : World} {par req due : Int} {x : Tag} {b : Nat} (hb : w.heap[b]? = some (.cells #[.int .i64 par, .int .u64 req, .int .i64 x.a, .int .i64 x.b, .int .i64 x.c, .slice none 0 0] 55 (0, 0))) (hn : b ∉ TFoot t fh N) (hx : x.oneCell' = true) (hr : 0 ≤ req ∧ req ≤ maxT) (hl : N.length < 1000)
    (nx : Next w h fh (N.map Nd.itm ++ [⟨last + 1, due, .pointer (some ⟨b, 0, none⟩)⟩]) (last + 1) w') :
    ∃ fh', TK w' t h fh' (N ++ [newN last par req due x b]) (last + 1) (kids (sh N)) ∧ (∀ y ∈ fh', y ∈ fh ∨ w.heap.size ≤ y) ∧ Touch fh w w' := by
  obtain ⟨fh', hb', hf', ht'⟩ := nx
  have hlt := k.mem.lt
  have hbl : b < w.heap.size := (Array.getElem?_eq_some_iff.1 hb).1
  have hbf : b ∉ fh := fun e => hn (TFoot.mem.2 (.inr (.inl e)))
  have hbt : b ≠ t := fun e => hn (TFoot.mem.2 (.inl e))
  have hbn : ∀ n ∈ N, b ∉ n.foot := fun n hn' e => hn (TFoot.mem.2 (.inr (.inr ⟨n, hn', e⟩)))
  have hnf : (newN last par req due x b).foot = [b] := rfl
  have hk0 : kids (sh N) (last + 1) = [] := by
    unfold kids
    rw [List.filter_eq_nil_iff.2]
    · rfl
    · intro s hs
      have h1 := k.tree.up s hs
      have h2 := k.tree.top s hs
      simp only [decide_eq_true_eq]
      omega
  have hold : ∀ y, y < w.heap.size → y ∉ fh → y ∉ fh' := by
    intro y hy hyf e
    rcases hf' y e with e | e
    · exact hyf e
    · omega
  refine ⟨fh', ⟨ht'.at k.mem.hdr k.mem.tf, ?_, ?_, ?_, by simp; omega, ?_, ?_, ?_, ?_⟩, hf', ht'⟩
  · rw [List.map_append]
    exact hb'
  · intro n hn'
    rcases List.mem_append.1 hn' with hn' | hn'
    · exact (k.mem.nd n hn').touch ht' (k.mem.nf n hn')
    · simp at hn'
      subst hn'
      refine ⟨ht'.at hb hbf, ?_, hx, by simp [newN, Value.ownBlock]⟩
      have : (newN last par req due x b).t.id = last + 1 := rfl
      rw [this, hk0]
      exact World.ownsRow_nil _ _ _ _
  · intro n hn'
    rcases List.mem_append.1 hn' with hn' | hn'
    · exact k.mem.rq n hn'
    · simp at hn'
      subst hn'
      exact hr
  · exact hold t (hlt t (TFoot.mem.2 (.inl rfl))) k.mem.tf
  · intro n hn'
    rcases List.mem_append.1 hn' with hn' | hn'
    · exact k.mem.nt n hn'
    · simp at hn'
      subst hn'
      rw [hnf]
      simpa using Ne.symm hbt
  · intro n hn' y hy
    rcases List.mem_append.1 hn' with hn' | hn'
    · exact hold y (hlt y (TFoot.mem.2 (.inr (.inr ⟨n, hn', hy⟩)))) (k.mem.nf n hn' y hy)
    · simp at hn'
      subst hn'
      rw [hnf] at hy
      simp at hy
      subst hy
      exact hold y hbl hbf
  · rw [List.pairwise_append]
    refine ⟨k.mem.nn, by simp, ?_⟩
    intro a ha c hc y hy
    simp at hc
    subst hc
    rw [hnf]
    simp
    rintro rfl
    exact hbn a ha hy
theorem sh_snoc (n : Nd) : sh (N ++ [n]) = sh N ++ [n.t] := by simp [sh]
theorem ab_snoc (n : Nd) : ab (N ++ [n]) = ab N ++ [(n.t, n.x)] := by simp [ab]
theorem ab_setV (id : Int) (v : Value) : ab (N.map (setV id v)) = ab N := by
  unfold ab
  rw [List.map_map]
  apply List.map_congr_left
  intro n _
  simp [(setV_keep id v n).1, (setV_keep id v n).2.2.2]
/-- A root timer has been pushed. -/
theorem TM.root {w0 : World} (k : TM w0 t h fh N last) {w' : World} {fh' : List Nat} {req : Int} {x : Tag} {b : Nat} (hlo : 0 ≤ last) (m : TK w' t h fh' (N ++ [newN last 0 req (min req (lim (sh N) 0)) x b]) (last + 1) (kids (sh N))) :
    TM w' t h fh' (N ++ [newN last 0 req (min req (lim (sh N) 0)) x b]) (last + 1) := by
  have ht : Tree (sh (N ++ [newN last 0 req (min req (lim (sh N) 0)) x b])) (last + 1) := by
    rw [sh_snoc]
    exact k.tree.snoc rfl hlo (.inl rfl)
  refine ⟨m.congr ?_, ht, ?_⟩
  · intro n hn
    rw [sh_snoc, kids_snoc, if_neg]
    have h1 := ht.top n.t (sh_mem hn)
    show (0 : Int) ≠ n.t.id
    omega
  · rw [sh_snoc]
    exact due_snoc k.tree rfl hlo (.inl rfl) rfl k.due
/-- A child has been pushed and told to its parent p. -/
theorem TM.child {w0 : World} (k : TM w0 t h fh N last) {w1 w' : World} {fh' : List Nat} {req : Int} {x : Tag} {v' : Value} {b : Nat} {p : Nd} (hp : p ∈ N) (hlo : 0 ≤ last) (m : TK w1 t h fh' (N ++ [newN last p.t.id req (min req (lim (sh N) p.t.id)) x b]) (last + 1) (kids (sh N)))
    (ht : Touch p.foot w1 w') (hh : w'.heap[p.b]? = some (.cells #[.int .i64 p.t.par, .int .u64 p.t.req, .int .i64 p.x.a, .int .i64 p.x.b, .int .i64 p.x.c, v'] 55 (0, 0))) (hr : w'.ownsRow 0 3 1 v' (kids (sh N) p.t.id ++ [last + 1]).length ((kids (sh N) p.t.id ++ [last + 1]).map (Value.int .i64)))
    (hn : v'.ownBlock = p.v.ownBlock ∨ v'.ownBlock = none ∨ ∃ g, v'.ownBlock = some g ∧ w1.heap.size ≤ g) :
    TM w' t h fh' ((N ++ [newN last p.t.id req (min req (lim (sh N) p.t.id)) x b]).map (setV p.t.id v')) (last + 1) ∧ ∀ y ∈ TFoot t fh' ((N ++ [newN last p.t.id req (min req (lim (sh N) p.t.id)) x b]).map (setV p.t.id v')), y ∈ TFoot t fh' (N ++ [newN last p.t.id req (min req (lim (sh N) p.t.id)) x b]) ∨ w1.heap.size ≤ y := by
  have hpt : p.t.id ∈ tids (sh N) := sh_tids hp
  have htr : Tree (sh (N ++ [newN last p.t.id req (min req (lim (sh N) p.t.id)) x b])) (last + 1) := by
    rw [sh_snoc]
    exact k.tree.snoc rfl hlo (.inr hpt)
  obtain ⟨m2, f2⟩ := m.kids_set htr.nodup (List.mem_append.2 (.inl hp)) ht hh hr hn
  refine ⟨⟨m2.congr ?_, by rw [sh_setV]; exact htr, ?_⟩, f2⟩
  · intro n hn
    rw [sh_setV, sh_snoc, kids_snoc]
    unfold putK
    by_cases e : n.t.id = p.t.id
    · have e2 : (newN last p.t.id req (min req (lim (sh N) p.t.id)) x b).t.par = p.t.id := rfl
      rw [if_pos e, e, if_pos e2]
      rfl
    · rw [if_neg e, if_neg]
      exact fun h => e h.symm
  · rw [sh_setV, sh_snoc]
    exact due_snoc k.tree rfl hlo (.inr hpt) rfl k.due
theorem TM.root_next {W w4 : World} {fh' : List Nat} {req : Int} {x : Tag} {b : Nat} (k : TM w t h fh N last) (hlo : 0 ≤ last) (T0 : Touch [] w W) (hb : w.heap.size ≤ b)
    (m : TK w4 t h fh' (N ++ [newN last 0 req (min req (lim (sh N) 0)) x b]) (last + 1) (kids (sh N))) (f4 : ∀ y ∈ fh', y ∈ fh ∨ W.heap.size ≤ y) (t4 : Touch fh W w4) :
    TNext w t h (TFoot t fh N) (ab N ++ [(⟨last + 1, 0, req, min req (lim (sh N) 0)⟩, x)]) (last + 1) w4 := by
  refine ⟨_, ⟨fh', _, k.root hlo m, ab_snoc _, rfl⟩, ?_, ?_⟩
  · intro y hy
    rcases TFoot.mem.1 hy with rfl | hy | ⟨n, hn, hy⟩
    · exact .inl (TFoot.mem.2 (.inl rfl))
    · rcases f4 y hy with e | e
      · exact .inl (TFoot.mem.2 (.inr (.inl e)))
      · exact .inr (Nat.le_trans T0.size e)
    · rcases List.mem_append.1 hn with hn | hn
      · exact .inl (TFoot.mem.2 (.inr (.inr ⟨n, hn, hy⟩)))
      · simp at hn
        subst hn
        simp [newN, Nd.foot, Value.ownBlock] at hy
        subst hy
        exact .inr hb
  · exact (T0.mono (by simp)).trans t4 (fun y hy => .inl (TFoot.mem.2 (.inr (.inl hy))))
theorem TM.child_next {W w1 w' : World} {fh' : List Nat} {req : Int} {x : Tag} {v' : Value} {b : Nat} {p : Nd} (k : TM w t h fh N last) (hp : p ∈ N) (hlo : 0 ≤ last) (T0 : Touch [] w W) (hb : w.heap.size ≤ b)
    (m : TK w1 t h fh' (N ++ [newN last p.t.id req (min req (lim (sh N) p.t.id)) x b]) (last + 1) (kids (sh N))) (f4 : ∀ y ∈ fh', y ∈ fh ∨ W.heap.size ≤ y) (t4 : Touch fh W w1)
    (ht : Touch p.foot w1 w') (hh : w'.heap[p.b]? = some (.cells #[.int .i64 p.t.par, .int .u64 p.t.req, .int .i64 p.x.a, .int .i64 p.x.b, .int .i64 p.x.c, v'] 55 (0, 0))) (hr : w'.ownsRow 0 3 1 v' (kids (sh N) p.t.id ++ [last + 1]).length ((kids (sh N) p.t.id ++ [last + 1]).map (Value.int .i64)))
    (hn : v'.ownBlock = p.v.ownBlock ∨ v'.ownBlock = none ∨ ∃ g, v'.ownBlock = some g ∧ w1.heap.size ≤ g) :
    TNext w t h (TFoot t fh N) (ab N ++ [(⟨last + 1, p.t.id, req, min req (lim (sh N) p.t.id)⟩, x)]) (last + 1) w' := by
  obtain ⟨m2, f2⟩ := k.child hp hlo m ht hh hr hn
  refine ⟨_, ⟨fh', _, m2, by rw [ab_setV]; exact ab_snoc _, rfl⟩, ?_, ?_⟩
  · intro y hy
    rcases f2 y hy with hy | hy
    · rcases TFoot.mem.1 hy with rfl | hy | ⟨n, hn, hy⟩
      · exact .inl (TFoot.mem.2 (.inl rfl))
      · rcases f4 y hy with e | e
        · exact .inl (TFoot.mem.2 (.inr (.inl e)))
        · exact .inr (Nat.le_trans T0.size e)
      · rcases List.mem_append.1 hn with hn | hn
        · exact .inl (TFoot.mem.2 (.inr (.inr ⟨n, hn, hy⟩)))
        · simp at hn
          subst hn
          simp [newN, Nd.foot, Value.ownBlock] at hy
          subst hy
          exact .inr hb
    · exact .inr (Nat.le_trans T0.size (Nat.le_trans t4.size hy))
  · refine ((T0.mono (by simp)).trans t4 (fun y hy => .inl (TFoot.mem.2 (.inr (.inl hy))))).trans ht (fun y hy => .inl (TFoot.mem.2 (.inr (.inr ⟨p, hp, hy⟩))))
end
end Go.Proofs.YtobkanlnnniabaaGreat.G

/-
  Struct operations under a guard that is met. Plain lemmas over any program.
-/
namespace Go.Proofs.YtobkanlnnniabaaGreat
open Go.RowKit
set_option linter.unusedVariables false
set_option linter.unusedSimpArgs false

/-! Guards for the arms of a walk: 'with_reducible refine at_load 28 ?_' fails at once where the next operation is another. -/
section
variable {P : Program} {ops : Array Oper} {rest : List Oper} {a : Act} {w : World} {Q : Exit → Act → World → Prop} {d : Option Tmp} {x y : Operand} {t : TypeId} {p : String} {af : Array Go.Edge}
theorem at_load (ty : TypeId) (h : wpList P ops Q ({ dst := d, op := .load ty x, type := t, pos := p, after := af, guard := none } :: rest) a w) : wpList P ops Q ({ dst := d, op := .load ty x, type := t, pos := p, after := af, guard := none } :: rest) a w := h
theorem at_load_g (ty : TypeId) (k : Nat) (s : Bool) (h : wpList P ops Q ({ dst := d, op := .load ty x, type := t, pos := p, after := af, guard := some (k, s) } :: rest) a w) : wpList P ops Q ({ dst := d, op := .load ty x, type := t, pos := p, after := af, guard := some (k, s) } :: rest) a w := h
theorem at_store (ty : TypeId) {g : Option (Nat × Bool)} (h : wpList P ops Q ({ dst := d, op := .store ty x y, type := t, pos := p, after := af, guard := g } :: rest) a w) : wpList P ops Q ({ dst := d, op := .store ty x y, type := t, pos := p, after := af, guard := g } :: rest) a w := h
theorem at_bin (b : BinOp) (ty : TypeId) {ty2 : TypeId} {g : Option (Nat × Bool)} (h : wpList P ops Q ({ dst := d, op := .binOp b ty x y ty2, type := t, pos := p, after := af, guard := g } :: rest) a w) : wpList P ops Q ({ dst := d, op := .binOp b ty x y ty2, type := t, pos := p, after := af, guard := g } :: rest) a w := h
theorem at_build (ty : TypeId) {ps : Array (Nat × Operand)} {g : Option (Nat × Bool)} (h : wpList P ops Q ({ dst := d, op := .build ty ps, type := t, pos := p, after := af, guard := g } :: rest) a w) : wpList P ops Q ({ dst := d, op := .build ty ps, type := t, pos := p, after := af, guard := g } :: rest) a w := h
theorem at_callb (b : Builtin) {ars : Array Operand} {ts : Array TypeId} {g : Option (Nat × Bool)} (h : wpList P ops Q ({ dst := d, op := .call { callee := .builtin b, args := ars, argTypes := ts }, type := t, pos := p, after := af, guard := g } :: rest) a w) : wpList P ops Q ({ dst := d, op := .call { callee := .builtin b, args := ars, argTypes := ts }, type := t, pos := p, after := af, guard := g } :: rest) a w := h
end
theorem wpList_want {P : Program} {ops : Array Oper} {rest : List Oper} {o : Oper} {a : Act} {w : World} {Q : Exit → Act → World → Prop} (hw : Region.wanted o (yielded ops a.tmps) = true)
    (h : ∀ K : Act → World → Prop, (∀ a w, wpList P ops Q rest a w → K a w) → o.wp P a w K Q) : wpList P ops Q (o :: rest) a w :=
  wpList_step fun K hK => by rw [if_pos hw]; exact h K hK
theorem wpList_load_g {P : Program} {ops : Array Oper} {rest : List Oper} {op : Oper} {a : Act} {w : World} {Q : Exit → Act → World → Prop} (hw : Region.wanted op (yielded ops a.tmps) = true) (ty : TypeId) (x : Operand) (ho : op.op = .load ty x)
    (b o : Nat) (hx : a.eval x = .pointer (some ⟨b, o, none⟩)) (cs : List Value) (d : TypeDesc) (hc : w.rangeAt b o cs)
    (hu : P.underlying ty = some d) (hd : d.isRow = true) (hi : (P.info? ty).map (·.size) = some cs.length)
    (h : wpList P ops Q rest (a.put op.dst (.agg cs.toArray)) w) : wpList P ops Q (op :: rest) a w :=
  wpList_want hw fun _ hK => wp_load_mid ty x ho b o hx cs d hc hu hd hi (hK _ _ h)
theorem wpList_load_gg {P : Program} {ops : Array Oper} {rest : List Oper} {op : Oper} {a : Act} {w : World} {Q : Exit → Act → World → Prop} (k : Nat) (s : Bool) (hgd : op.guard = some (k, s)) (hw : Region.wanted op (yielded ops a.tmps) = true) (ty : TypeId) (x : Operand) (ho : op.op = .load ty x)
    (b o : Nat) (hx : a.eval x = .pointer (some ⟨b, o, none⟩)) (cs : List Value) (d : TypeDesc) (hc : w.rangeAt b o cs)
    (hu : P.underlying ty = some d) (hd : d.isRow = true) (hi : (P.info? ty).map (·.size) = some cs.length)
    (h : wpList P ops Q rest (a.put op.dst (.agg cs.toArray)) w) : wpList P ops Q (op :: rest) a w :=
  wpList_want hw fun _ hK => wp_load_mid ty x ho b o hx cs d hc hu hd hi (hK _ _ h)
theorem wpList_eql_g {P : Program} {ops : Array Oper} {rest : List Oper} {op : Oper} {a : Act} {w : World} {Q : Exit → Act → World → Prop} (hw : Region.wanted op (yielded ops a.tmps) = true) (t t' : TypeId) (x y : Operand) (ho : op.op = .binOp .eql t x y t')
    (xs ys : Array Value) (hx : a.eval x = .agg xs) (hy : a.eval y = .agg ys) (hm : P.eqGuardType P.depth t = false) (r : Bool) (hr : (Op.equalIn 10000 t (.agg xs) (.agg ys)).run P w = .ok r w)
    (h : wpList P ops Q rest (a.put op.dst (.bool r)) w) : wpList P ops Q (op :: rest) a w := by
  refine wpList_want hw fun K hK => ?_
  have hb : (binOp .eql t (.agg xs) (.agg ys)).run P w = .ok (.bool r) w := by rw [run_eql_struct, hr]; rfl
  have := hK _ _ h
  unfold Oper.wp execOp
  simp only [ho, hx, hy, Sem.run_bind, run_eqGuard_agg w _ _ _ _ _ _ hm, Result.andThen_ok, hb, Sem.run_pure]
  exact this
theorem wpList_neq_g {P : Program} {ops : Array Oper} {rest : List Oper} {op : Oper} {a : Act} {w : World} {Q : Exit → Act → World → Prop} (hw : Region.wanted op (yielded ops a.tmps) = true) (t t' : TypeId) (x y : Operand) (ho : op.op = .binOp .neq t x y t')
    (xs ys : Array Value) (hx : a.eval x = .agg xs) (hy : a.eval y = .agg ys) (hm : P.eqGuardType P.depth t = false) (r : Bool) (hr : (Op.equalIn 10000 t (.agg xs) (.agg ys)).run P w = .ok r w)
    (h : wpList P ops Q rest (a.put op.dst (.bool (!r))) w) : wpList P ops Q (op :: rest) a w := by
  refine wpList_want hw fun K hK => ?_
  have hb : (binOp .neq t (.agg xs) (.agg ys)).run P w = .ok (.bool (!r)) w := by rw [run_neq_struct, hr]; rfl
  have := hK _ _ h
  unfold Oper.wp execOp
  simp only [ho, hx, hy, Sem.run_bind, run_eqGuard_agg w _ _ _ _ _ _ hm, Result.andThen_ok, hb, Sem.run_pure]
  exact this
end Go.Proofs.YtobkanlnnniabaaGreat

/-
  A slice or a struct that came in, of elements whose type is flat but for its leaves (structs and arrays taken apart, whatever else is a leaf): every cell of it lies in memory and reads by its own leaf's type. Over any program; no condition of our own.
-/
namespace Go.Proofs.YtobkanlnnniabaaGreat
open Go.ChangeShapes Go.WideShapes Go.Deep
set_option linter.unusedVariables false
set_option linter.unusedSimpArgs false

def flatFs (P : Program) (f : TypeId → Option (List TypeId)) : List Field → Nat → Option (List TypeId)
  | [], _ => some []
  | x :: r, off => if x.offset = off then (f x.type).bind fun l => if l.length = P.cellsOf x.type then (flatFs P f r (off + l.length)).map (l ++ ·) else none else none

/-- The leaves of a type, cell by cell. -/
def flatT (P : Program) : Nat → TypeId → Option (List TypeId)
  | 0, _ => none
  | d + 1, t => match P.underlying t with
    | some (.struct fs) => (flatFs P (flatT P d) fs.toList 0).bind fun l => if l.length = P.cellsOf t then some l else none
    | some (.array n e) => (flatT P d e).bind fun l => if l.length = P.cellsOf e ∧ n * l.length = P.cellsOf t then some (List.replicate n l).flatten else none
    | _ => some [t]

section
variable {H : Type} {enc : TypeId × Value → H} {P : Program} {w : World} {base : Nat} {spare : Nat → Bool} {held : Bool}

/-- The value v reads by its own type t. -/
def Leaf (enc : TypeId × Value → H) (P : Program) (w : World) (base : Nat) (spare : Nat → Bool) (held : Bool) (t : TypeId) (v : Value) : Prop := ∃ m y, DataW.trod enc P w base spare held m t [v] = some y

theorem leaf_one {t : TypeId} {fuel : Nat} {cs : List Value} {x : DataW H × List MemPlace} (hs : ∀ fs, P.underlying t ≠ some (.struct fs)) (ha : ∀ n e, P.underlying t ≠ some (.array n e))
    (h : DataW.trod enc P w base spare held fuel t cs = some x) : ∃ v, cs = [v] := by
  cases fuel with
  | zero => simp [DataW.trod] at h
  | succ m =>
    unfold DataW.trod at h
    split at h <;> first
      | exact ⟨_, rfl⟩
      | (rename_i h1; exact absurd h1 (hs _))
      | (rename_i h1; exact absurd h1 (ha _ _))
      | simp at h

/-- What the reading of a value of type t says of its cells. -/
def CellsOk (enc : TypeId × Value → H) (P : Program) (w : World) (base : Nat) (spare : Nat → Bool) (held : Bool) (ts : List TypeId) (cs : List Value) : Prop :=
  cs.length = ts.length ∧ ∀ (i : Nat) (t : TypeId), ts[i]? = some t → ∃ v, cs[i]? = some v ∧ Leaf enc P w base spare held t v

theorem flatFs_ok {f : TypeId → Option (List TypeId)} {cs : List Value} (hrec : ∀ t cs x m ts, f t = some ts → DataW.trod enc P w base spare held m t cs = some x → CellsOk enc P w base spare held ts cs) :
    ∀ (l : List Field) (off : Nat) (ts : List TypeId), flatFs P f l off = some ts →
      (∀ fd ∈ l, ∃ m x, DataW.trod enc P w base spare held m fd.type ((cs.drop fd.offset).take (P.cellsOf fd.type)) = some x) →
      ∀ (i : Nat) (t : TypeId), ts[i]? = some t → ∃ v, cs[off + i]? = some v ∧ Leaf enc P w base spare held t v := by
  intro l
  induction l with
  | nil => intro off ts h _ i t hi; simp [flatFs] at h; subst h; simp at hi
  | cons fd r ih =>
    intro off ts h hall i t hi
    simp only [flatFs] at h
    split at h
    · rename_i ho
      obtain ⟨l1, h1, h2⟩ := Option.bind_eq_some_iff.1 h
      split at h2
      · rename_i hl
        obtain ⟨l2, h3, rfl⟩ := Option.map_eq_some_iff.1 h2
        obtain ⟨m, x, hx⟩ := hall fd (List.mem_cons_self)
        obtain ⟨k1, k2⟩ := hrec _ _ _ _ _ h1 hx
        by_cases hlt : i < l1.length
        · rw [List.getElem?_append_left hlt] at hi
          obtain ⟨v, hv, hleaf⟩ := k2 i t hi
          refine ⟨v, ?_, hleaf⟩
          rw [List.getElem?_take] at hv
          split at hv
          · rw [List.getElem?_drop, ho] at hv
            exact hv
          · cases hv
        · rw [List.getElem?_append_right (by omega)] at hi
          obtain ⟨v, hv, hleaf⟩ := ih _ _ h3 (fun fd' hfd => hall fd' (List.mem_cons_of_mem _ hfd)) _ _ hi
          exact ⟨v, by rw [← hv]; congr 1; omega, hleaf⟩
      · cases h2
    · cases h

theorem getElem?_flatten_replicate {α : Type} (l : List α) (n i : Nat) : (List.replicate n l).flatten[i]? = if i < n * l.length then l[i % l.length]? else none := by
  induction n generalizing i with
  | zero => simp
  | succ n ih =>
    rw [List.replicate_succ, List.flatten_cons]
    by_cases h : i < l.length
    · rw [List.getElem?_append_left h, Nat.mod_eq_of_lt h, if_pos]
      rw [Nat.succ_mul]; omega
    · rw [List.getElem?_append_right (by omega), ih]
      have e : (i - l.length) % l.length = i % l.length := by
        rw [← Nat.mod_eq_sub_mod (by omega)]
      rw [e]
      by_cases h2 : i - l.length < n * l.length
      · rw [if_pos h2, if_pos (by rw [Nat.succ_mul]; omega)]
      · rw [if_neg h2, if_neg (by rw [Nat.succ_mul]; omega)]

theorem flat_ok : ∀ (d : Nat) (t : TypeId) (cs : List Value) (x : DataW H × List MemPlace) (m : Nat) (ts : List TypeId), flatT P d t = some ts →
    DataW.trod enc P w base spare held m t cs = some x → CellsOk enc P w base spare held ts cs := by
  intro d
  induction d with
  | zero => intro t cs x m ts h; simp [flatT] at h
  | succ d ih =>
    intro t cs x m ts h hx
    simp only [flatT] at h
    split at h
    · rename_i fs hfs
      obtain ⟨l, h1, h2⟩ := Option.bind_eq_some_iff.1 h
      split at h2
      · rename_i hl
        obtain rfl := Option.some.inj h2
        obtain ⟨xs, k, _, _, hcl, hxl, hf⟩ := DataW.trod_struct hfs hx
        refine ⟨by rw [hcl, hl], ?_⟩
        have := flatFs_ok (cs := cs) ih fs.toList 0 l h1 (fun fd hfd => by
          obtain ⟨i, hi, rfl⟩ := List.getElem_of_mem hfd
          have h3 := hf i (fs.toList[i]) (by simp)
          rw [List.getElem?_eq_getElem (by rw [hxl]; simpa using hi)] at h3
          exact ⟨_, _, h3⟩)
        intro i t hi
        have := this i t hi
        simpa using this
      · cases h2
    · rename_i n e hne
      obtain ⟨l, h1, h2⟩ := Option.bind_eq_some_iff.1 h
      split at h2
      · rename_i hl
        obtain rfl := Option.some.inj h2
        obtain ⟨xs, k, _, _, hcl, hxl, hf⟩ := DataW.trod_array hne hx
        refine ⟨by rw [hcl, ← hl.2]; simp, ?_⟩
        intro i t hi
        rw [getElem?_flatten_replicate] at hi
        split at hi
        · rename_i hlt
          have hpos : 0 < l.length := by
            rcases Nat.eq_zero_or_pos l.length with h0 | h0
            · rw [h0] at hlt; omega
            · exact h0
          have hq : i / l.length < n := (Nat.div_lt_iff_lt_mul hpos).2 hlt
          have h3 := hf (i / l.length) hq
          rw [List.getElem?_eq_getElem (by rw [hxl]; exact hq)] at h3
          obtain ⟨_, k2⟩ := ih _ _ _ _ _ h1 h3
          obtain ⟨v, hv, hleaf⟩ := k2 _ _ hi
          refine ⟨v, ?_, hleaf⟩
          rw [List.getElem?_take] at hv
          split at hv
          · rw [List.getElem?_drop, ← hl.1] at hv
            rw [← hv]
            congr 1
            rw [Nat.mul_comm]
            exact (Nat.div_add_mod i l.length).symm
          · cases hv
        · cases hi
      · cases h2
    · rename_i hns hna
      obtain rfl := Option.some.inj h
      obtain ⟨v, rfl⟩ := leaf_one (fun fs hfs => hns fs hfs) (fun n e he => hna n e he) hx
      refine ⟨rfl, ?_⟩
      intro i t' hi
      match i, hi with
      | 0, hi => simp at hi; subst hi; exact ⟨v, rfl, m, x, hx⟩

theorem Leaf.int {t : TypeId} {k : IntKind} {v : Value} (ht : P.underlying t = some (.int k)) (h : Leaf enc P w base spare held t v) : ∃ n, v = .int k n ∧ (Lit.int k n).wf = true := by
  obtain ⟨m, y, h⟩ := h
  obtain ⟨n, h1, _, h2⟩ := DataW.trod_int ht h
  exact ⟨n, by simpa using h1, h2⟩
theorem Leaf.bool {t : TypeId} {v : Value} (ht : P.underlying t = some .bool) (h : Leaf enc P w base spare held t v) : ∃ b, v = .bool b := by
  obtain ⟨m, y, h⟩ := h
  obtain ⟨n, h1, _⟩ := DataW.trod_bool ht h
  exact ⟨n, by simpa using h1⟩
theorem Leaf.string {t : TypeId} {v : Value} (ht : P.underlying t = some .string) (h : Leaf enc P w base spare held t v) : ∃ s : ByteArray, v = .string s ∧ s.size ≤ maxLen := by
  obtain ⟨m, y, h⟩ := h
  obtain ⟨s, h1, _, h2⟩ := DataW.trod_string ht h
  exact ⟨s, by simpa using h1, h2⟩

/-- A slice that came in: nil; or 'cap' elements lie at ⟨b, off⟩, each of as many cells as its type has leaves. -/
def IsSlice (enc : TypeId × Value → H) (P : Program) (w : World) (base : Nat) (spare : Nat → Bool) (held : Bool) (ts : List TypeId) (v : Value) : Prop :=
  v = .slice none 0 0 ∨ ∃ (a : Addr) (len cap : Nat), v = .slice (some a) len cap ∧ len ≤ cap ∧ cap ≤ maxLen ∧
    ∀ i j t, i < len → ts[j]? = some t → ∃ u, w.cell? (a.add (i * ts.length + j)) = some u ∧ Leaf enc P w base spare held t u

theorem slice_ok {t e : TypeId} {fuel d : Nat} {v : Value} {x : DataW H × List MemPlace} {ts : List TypeId} (ht : P.underlying t = some (.slice e)) (hts : flatT P d e = some ts) (hn : ts.length = P.cellsOf e)
    (h : DataW.trod enc P w base spare held fuel t [v] = some x) : IsSlice enc P w base spare held ts v := by
  rcases open_slice ht h with ⟨h0, _⟩ | ⟨a, len, cap, m, n, D, Pl, h0, hb, hl, hm, hmm, _, hx⟩
  · exact .inl (by simpa using h0)
  · refine .inr ⟨a, len, cap, by simpa using h0, hl, hm, fun i j t' hi hj => ?_⟩
    obtain ⟨cs', h1, h2⟩ := hx i (by rw [hmm]; split <;> omega)
    obtain ⟨k1, k2⟩ := flat_ok d e cs' _ n ts hts h2
    obtain ⟨u, hu, hleaf⟩ := k2 j t' hj
    obtain ⟨_, hlen, hcell⟩ := World.cells?_some h1
    refine ⟨u, ?_, hleaf⟩
    have hjlt : j < ts.length := (List.getElem?_eq_some_iff.1 hj).1
    have := hcell j (by omega)
    rw [add_add, ← hn] at this
    rw [this, hu]

/-- .. with the address taken apart, where it has an element. -/
theorem IsSlice.at {ts : List TypeId} {v : Value} (h : IsSlice enc P w base spare held ts v) (hpos : 0 < ts.length) :
    ∃ (a : Option Addr) (len cap : Nat), v = .slice a len cap ∧ len ≤ cap ∧ cap ≤ maxLen ∧
      (len = 0 ∨ ∃ b off, a = some ⟨b, off, none⟩ ∧ ∀ i j t, i < len → ts[j]? = some t → ∃ u, w.cell? ⟨b, off + (i * ts.length + j), none⟩ = some u ∧ Leaf enc P w base spare held t u) := by
  rcases h with rfl | ⟨a, len, cap, rfl, hl, hm, hc⟩
  · exact ⟨none, 0, 0, rfl, Nat.le_refl _, by simp [maxLen], .inl rfl⟩
  · refine ⟨some a, len, cap, rfl, hl, hm, ?_⟩
    by_cases h0 : len = 0
    · exact .inl h0
    · right
      obtain ⟨b, off, spot⟩ := a
      obtain ⟨u, hu, _⟩ := hc 0 0 (ts[0]) (by omega) (by simp)
      have hs : spot = none := by simpa [Addr.add] using World.cell?_spot hu
      subst hs
      refine ⟨b, off, rfl, fun i j t hi hj => ?_⟩
      obtain ⟨u, hu, hleaf⟩ := hc i j t hi hj
      exact ⟨u, by rw [Addr.add_lit] at hu; exact hu, hleaf⟩

theorem okWide_struct {r : Reach} {t : TypeId} {fs : Array Field} {v : Value} (ht : P.underlying t = some (.struct fs)) (h : Value.okWide P w r base t v) : ∃ cs, v = .agg cs := by
  simp only [Value.okWide, ht] at h
  obtain ⟨cs, hv, _⟩ := h
  exact ⟨cs, hv⟩
theorem okWide_array {r : Reach} {t n e : Nat} {v : Value} (ht : P.underlying t = some (.array n e)) (h : Value.okWide P w r base t v) : ∃ cs, v = .agg cs := by
  simp only [Value.okWide, ht] at h
  obtain ⟨cs, hv, _⟩ := h
  exact ⟨cs, hv⟩

/-- A struct or an array by value. -/
theorem agg_ok {t : TypeId} {fuel d : Nat} {cs : Array Value} {x : DataW H × List MemPlace} {ts : List TypeId} (hts : flatT P d t = some ts)
    (h : DataW.trod enc P w base spare held fuel t cs.toList = some x) : CellsOk enc P w base spare held ts cs.toList := flat_ok d t _ _ _ _ hts h
end
end Go.Proofs.YtobkanlnnniabaaGreat

/-
  A slice that came in, told as a list of its elements' cells. Plain lemmas over any program.
-/
namespace Go.Proofs.YtobkanlnnniabaaGreat
open Go.ChangeShapes Go.WideShapes Go.Deep
set_option linter.unusedVariables false
set_option linter.unusedSimpArgs false

theorem slice_rows {H : Type} {enc : TypeId × Value → H} {P : Program} {w : World} {base : Nat} {spare : Nat → Bool} {held : Bool} {ts : List TypeId} {v : Value} (hpos : 0 < ts.length) (hv : IsSlice enc P w base spare held ts v) :
    ∃ b xs, Rd w ts.length b v xs ∧ ∀ x ∈ xs, CellsOk enc P w base spare held ts x := by
  rcases hv with rfl | ⟨a, len, cap, rfl, hl, hm, hc⟩
  · exact ⟨0, [], ⟨none, 0, rfl, Nat.le_refl _, by simp [maxLen], fun _ => rfl, fun h => absurd rfl h⟩, by simp⟩
  · obtain ⟨b, off, spot⟩ := a
    let el : Nat → List Value := fun i => (List.range ts.length).map fun j => (w.cell? ((⟨b, off, spot⟩ : Addr).add (i * ts.length + j))).getD undef
    have hel : ∀ i j, j < ts.length → (el i)[j]? = some ((w.cell? ((⟨b, off, spot⟩ : Addr).add (i * ts.length + j))).getD undef) := by
      intro i j hj
      simp [el, hj]
    refine ⟨b, (List.range len).map el, ⟨some ⟨b, off, spot⟩, cap, by simp, by simpa using hl, hm, (by intro h; cases h), fun hne => ?_⟩, ?_⟩
    · have h0 : 0 < len := by
        rcases Nat.eq_zero_or_pos len with h | h
        · subst h; simp at hne
        · exact h
      obtain ⟨u, hu, _⟩ := hc 0 0 (ts[0]) h0 (by simp)
      have hs : spot = none := by simpa [Addr.add] using World.cell?_spot hu
      subst hs
      refine ⟨off, rfl, fun i x hx => ?_⟩
      intro j u hj
      have hi : i < len := by
        have := (List.getElem?_eq_some_iff.1 hx).1
        simpa using this
      obtain rfl : el i = x := by simpa [hi] using hx
      have hjl : j < ts.length := by
        have := (List.getElem?_eq_some_iff.1 hj).1
        simpa [el] using this
      rw [hel i j hjl] at hj
      obtain ⟨u', hu', _⟩ := hc i j (ts[j]) hi (by simp [hjl])
      rw [hu'] at hj
      simp at hj
      subst hj
      rw [Addr.add_lit] at hu'
      rw [Nat.add_assoc]
      exact hu'
    · intro x hx
      obtain ⟨i, hi, rfl⟩ := List.mem_map.1 hx
      have hi' : i < len := by simpa using hi
      refine ⟨by simp [el], fun j t ht => ?_⟩
      obtain ⟨u, hu, hleaf⟩ := hc i j t hi' ht
      have hjl : j < ts.length := (List.getElem?_eq_some_iff.1 ht).1
      exact ⟨u, by rw [hel i j hjl, hu]; rfl, hleaf⟩
end Go.Proofs.YtobkanlnnniabaaGreat

/-
  Structs of three cells, rows of structs: built, appended, loaded; a call's three results.
-/
namespace Go.Proofs.YtobkanlnnniabaaGreat
open Go.RowKit
set_option linter.unusedVariables false
set_option linter.unusedSimpArgs false

/-- A row of one's own, made behind w0. -/
structure OwnR (T k : Nat) (w0 w : World) (v : Value) (xs : List (List Value)) : Prop where
  row : w.ownsRow 0 T k v xs.length xs.flatten
  new : ∀ g, v.ownBlock = some g → w0.heap.size ≤ g
theorem OwnR.touch {T k : Nat} {w0 w w' : World} {v : Value} {xs : List (List Value)} {S : List Nat} (h : OwnR T k w0 w v xs) (t : Touch S w w') (hS : ∀ g, v.ownBlock = some g → g ∉ S) : OwnR T k w0 w' v xs := ⟨t.owns h.row hS, h.new⟩
theorem OwnR.touch0 {T k : Nat} {w0 w w' : World} {v : Value} {xs : List (List Value)} (h : OwnR T k w0 w v xs) (t : Touch [] w w') : OwnR T k w0 w' v xs := h.touch t (by simp)
theorem OwnR.rebase {T k : Nat} {w0 w1 w : World} {v : Value} {xs : List (List Value)} (h : OwnR T k w1 w v xs) (hs : w0.heap.size ≤ w1.heap.size) : OwnR T k w0 w v xs := ⟨h.row, fun g hg => Nat.le_trans hs (h.new g hg)⟩
theorem OwnR.rd {T k : Nat} {w0 w : World} {v : Value} {xs : List (List Value)} (h : OwnR T k w0 w v xs) (hk : ∀ x ∈ xs, x.length = k) : Rd w k (v.ownBlock.getD 0) v xs :=
  Rd.of_owns hk h.row (fun b hb => by simp [hb])
theorem OwnR.nil (T k : Nat) (w0 w : World) : OwnR T k w0 w (.slice none 0 0) [] := ⟨⟨by simp, .inl ⟨rfl, rfl⟩⟩, by simp [Value.ownBlock]⟩

theorem exec_load_agg {P : Program} {a : Act} {w : World} (op : Oper) (ty : TypeId) (x : Operand) (ho : op.op = .load ty x)
    (b o : Nat) (hx : a.eval x = .pointer (some ⟨b, o, none⟩)) (cs : List Value) (d : TypeDesc) (hc : w.rangeAt b o cs)
    (hu : P.underlying ty = some d) (hd : d.isRow = true) (hi : (P.info? ty).map (·.size) = some cs.length) : (execOp a.eval op).run P w = .ok (.value (.agg cs.toArray)) w := by
  unfold execOp
  simp only [ho, hx, Instr.loadAt, Instr.sureAddr, Sem.run_bind, Sem.run_pure, Result.andThen_ok, run_loadVar_mid w b o ty cs d hc hu hd hi]
/-- A slice type t of structs e of k cells. -/
structure RT (t e k bytes : Nat) : Prop where
  ht : Tryz.prog.underlying t = some (.slice e)
  hi : ∃ i z, Tryz.prog.info? e = some i ∧ i.zero = some z ∧ i.size = k ∧ i.bytes = bytes ∧ z.cells.size = k
  k0 : 0 < k
  k1 : k ≤ 100
  sm : bytes ≤ 128
theorem info_parts {T k bytes : Nat} (h : (Tryz.prog.info? T).map (fun i => (i.size, i.bytes, i.zero.map fun z => z.cells.size)) = some (k, bytes, some k)) : ∃ i z, Tryz.prog.info? T = some i ∧ i.zero = some z ∧ i.size = k ∧ i.bytes = bytes ∧ z.cells.size = k := by
  cases hi : Tryz.prog.info? T with
  | none => simp [hi] at h
  | some i =>
    simp only [hi, Option.map_some, Option.some.injEq, Prod.mk.injEq] at h
    obtain ⟨h1, h2, h3⟩ := h
    cases hz : i.zero with
    | none => simp [hz] at h3
    | some z => exact ⟨i, z, rfl, hz, h1, h2, by simpa [hz] using h3⟩
theorem at_bs (ty : TypeId) (m : Nat) {P : Program} {ops : Array Oper} {rest : List Oper} {a : Act} {w : World} {Q : Exit → Act → World → Prop} {d : Option Tmp} {t : TypeId} {p : String} {af : Array Go.Edge} {ps : Array (Nat × Operand)} {g : Option (Nat × Bool)} (h : wpList P ops Q ({ dst := d, op := .buildSlice ty m ps, type := t, pos := p, after := af, guard := g } :: rest) a w) : wpList P ops Q ({ dst := d, op := .buildSlice ty m ps, type := t, pos := p, after := af, guard := g } :: rest) a w := h
section
variable {t e k bytes : Nat} {ops : Array Oper} {rest : List Oper} {op : Oper} {a : Act} {w w0 : World} {Q : Exit → Act → World → Prop}
/-- A slice of one struct. -/
theorem wpList_build1 (R : RT t e k bytes) (hgd : op.guard = none) (x : Operand) (ho : op.op = .buildSlice t 1 #[(0, x)]) (cs : List Value) (hl : cs.length = k) (hx : a.eval x = .agg cs.toArray)
    (h : wpList Tryz.prog ops Q rest (a.put op.dst (.slice (some ⟨w.heap.size, 0, none⟩) 1 1)) (w.alloc (.cells cs.toArray e))) : wpList Tryz.prog ops Q (op :: rest) a w := by
  obtain ⟨i, z, hi, hz, hs, hb, hc⟩ := R.hi
  refine wpList_buildSlice_rows hgd t 1 _ ho e k i z R.ht hi hz hs R.k0 [cs] rfl (by simp [hl]) (by have := R.k1; omega) (by simp [hx]) ?_
  simpa using h
/-- One struct behind a row of one's own. -/
theorem wpList_app1R (R : RT t e k bytes) (w : World) (hgd : op.guard = none) (s x : Operand) (ho : op.op = .call { callee := .builtin .append, args := #[s, x], argTypes := #[t, t] })
    (v : Value) (xs : List (List Value)) (hs : a.eval s = v) (hown : OwnR e k w0 w v xs) (h0 : w0.heap.size ≤ w.heap.size) (cs : List Value) (T : TypeId) (hx : a.eval x = .slice (some ⟨w.heap.size, 0, none⟩) 1 1) (hl : cs.length = k) (h1 : ∀ u ∈ cs, u.oneCell' = true) (hn : xs.length ≤ 100000000)
    (h : ∀ v' w', OwnR e k w0 w' v' (xs ++ [cs]) → Touch v.ownBlock.toList w w' → wpList Tryz.prog ops Q rest (a.put op.dst v') w') : wpList Tryz.prog ops Q (op :: rest) a (w.alloc (.cells cs.toArray T)) := by
  obtain ⟨i, z, hi, hz, hsz, hb, hc⟩ := R.hi
  refine wpList_app_rec w hgd s x t ho e i z k bytes R.ht hi hz hsz hb hc R.k0 v xs.length _ hs hown.row cs T hx hl h1 (by unfold maxLen; omega) ?_ ?_
  · have := R.sm
    calc (xs.length + 1) * bytes ≤ 100000001 * 128 := Nat.mul_le_mul (by omega) this
      _ ≤ _ := by omega
  · intro v' w' o' t' b'
    refine h v' w' ⟨by simpa using o', fun g hg => ?_⟩ t'
    rcases b' with e | e
    · exact hown.new g (by rw [← e]; exact hg)
    · rw [hg] at e
      injection e with e
      omega
/-- A row that can be read behind a row of one's own. -/
theorem wpList_appR (R : RT t e k bytes) (w : World) (hgd : op.guard = none) (s x : Operand) (ho : op.op = .call { callee := .builtin .append, args := #[s, x], argTypes := #[t, t] })
    (v : Value) (xs : List (List Value)) (hs : a.eval s = v) (hown : OwnR e k w0 w v xs) (h0 : w0.heap.size ≤ w.heap.size) (b : Nat) (u : Value) (ys : List (List Value)) (hx : a.eval x = u) (hr : Rd w k b u ys) (hk : ∀ y ∈ ys, y.length = k) (h1 : ∀ u ∈ ys.flatten, u.oneCell' = true) (hn : xs.length + ys.length ≤ 100000000)
    (h : ∀ v' w', OwnR e k w0 w' v' (xs ++ ys) → Touch v.ownBlock.toList w w' → wpList Tryz.prog ops Q rest (a.put op.dst v') w') : wpList Tryz.prog ops Q (op :: rest) a w := by
  obtain ⟨i, z, hi, hz, hsz, hb, hc⟩ := R.hi
  obtain ⟨ao, c, rfl, hc1, hc2⟩ := hr.form
  refine wpList_app w hgd s x t ho e i z k bytes R.ht hi hz hsz hb hc R.k0 v xs.length _ hs hown.row ao ys.length c ys.flatten hx (flat_len hk) ?_ (hr.news R.k0 hk).2 h1 (by unfold maxLen; omega) ?_ ?_
  · intro e
    have := (hr.news R.k0 hk).1 e
    have := hc1
    omega
  · have := R.sm
    calc (xs.length + ys.length) * bytes ≤ 100000000 * 128 := Nat.mul_le_mul hn this
      _ ≤ _ := by omega
  · intro v' w' o' t' b'
    refine h v' w' ⟨by simpa using o', fun g hg => ?_⟩ t'
    rcases b' with e | e
    · exact hown.new g (by rw [← e]; exact hg)
    · rw [hg] at e
      injection e with e
      omega
end
theorem wpList_built {ops : Array Oper} {rest : List Oper} {o : Oper} {a : Act} {w : World} {Q : Exit → Act → World → Prop} (hgd : o.guard = none) (t : TypeId) (parts : Array (Nat × Operand)) (ho : o.op = .build t parts)
    (vals : List (Nat × Value)) (cells : Array Value) (hv : (parts.toList.map fun p => (p.1, a.eval p.2)) = vals) (hb : Tryz.prog.built t vals = some cells)
    (h : wpList Tryz.prog ops Q rest (a.put o.dst (.agg cells)) w) : wpList Tryz.prog ops Q (o :: rest) a w := by
  refine wpList_plain hgd fun _ hK => ?_
  have hr := run_build (P := Tryz.prog) w t (parts.map fun (i, x) => (i, a.eval x)) cells (by rw [Array.toList_map, ← hb, ← hv])
  unfold Oper.wp execOp
  simp only [ho, Sem.run_bind, hr, Result.andThen_ok]
  exact hK _ _ h
theorem infoG : (Tryz.prog.info? 26).map (·.size) = some 3 := by kernel_rfl
theorem ret_cell {fn : Func} {a p c : Tmp} {ty : TypeId} {k : Nat} {d : TypeDesc} (h : fn.results = #[.tmp a, .cell p ty, .tmp c]) (hsz : (Tryz.prog.info? ty).map (·.size) = some k) (hun : Tryz.prog.underlying ty = some d) (hd : d.isRow = true) {R : Ending → World → Prop} {tmps : Array Value} {w : World} {g : Nat} {T : TypeId} {cs : List Value} {x z : Value} (hl : cs.length = k)
    (hp : tmps.getD p undef = .pointer (some ⟨g, 0, none⟩)) (hx : tmps.getD a undef = x) (hz : tmps.getD c undef = z) (hg : w.heap[g]? = some (.cells cs.toArray T (0, 0))) (hR : R (.returned (.tuple #[x, .agg cs.toArray, z])) w) : bodyPost Tryz.prog fn R .ret { tmps := tmps, defers := [] } w := by
  have h2 := run_loadVar_mid (P := Tryz.prog) w g 0 ty cs d (range_block hg) hun hd (by rw [hsz, hl])
  have h0 : (results fn tmps).run Tryz.prog w = ((asAddr (tmps.getD p undef)).run Tryz.prog w).andThen fun q w₁ => ((loadVar ty q).run Tryz.prog w₁).andThen fun v w₂ => .ok (.tuple #[tmps.getD a undef, v, tmps.getD c undef]) w₂ := by
    simp only [results, h]
    simp [Sem.run_bind, Result.andThen]
  exact bodyPost_ret (by rw [h0, hp, hx, hz]; simp only [asAddr, Sem.run_pure, Result.andThen_ok, h2]) rfl hR
end Go.Proofs.YtobkanlnnniabaaGreat

/-
  The contract of Start.
-/
namespace Go.Proofs.YtobkanlnnniabaaGreat.G
open Go.RowKit
set_option linter.unusedVariables false
set_option linter.unusedSimpArgs false

theorem TM.u64 {w : World} {t h : Nat} {fh : List Nat} {N : List Nd} {last : Int} (k : TM w t h fh N last) : True := trivial
theorem TNext.pre0 {w0 w w' : World} {t h : Nat} {f : List Nat} {A : List (Tm × Tag)} {last : Int} (h0 : Touch [] w0 w) (k : TNext w t h f A last w') : TNext w0 t h f A last w' := by
  obtain ⟨f', h1, h2, h3⟩ := k
  exact ⟨f', h1, fun y hy => by
    rcases h2 y hy with e | e
    · exact .inl e
    · exact .inr (Nat.le_trans h0.size e), (h0.mono (by simp)).trans h3 (fun y hy => .inl hy)⟩
section
variable {w0 : World} {t h : Nat} {fh : List Nat} {N : List Nd} {last : Int}
set_option maxRecDepth 100000 in
set_option maxHeartbeats 2000000 in
theorem start_root (k0 : TM w0 t h fh N last) (due : Int) (x : Tag) (hxo : x.oneCell' = true) (hR : 0 ≤ due ∧ due ≤ maxT) (hl : last < 1000) (hfew : N.length < 1000) :
    Calls Tryz.prog 8 #[.pointer (some ⟨t, 0, none⟩), .int .i64 0, .int .u64 due, .agg #[.int .i64 x.a, .int .i64 x.b, .int .i64 x.c]] w0 fun e w' => e = .returned (.tuple #[.int .i64 (last + 1), .bool true]) ∧ TNext w0 t h (TFoot t fh N) (ab N ++ [(⟨last + 1, 0, due, min due (lim (sh N) 0)⟩, x)]) (last + 1) w' := by
  have TB := (Touch.refl [] w0).alloc (.cells #[.int .i64 x.a, .int .i64 x.b, .int .i64 x.c] 26)
  have RB := range_new w0 [.int .i64 x.a, .int .i64 x.b, .int .i64 x.c] 26
  have k := k0.touch TB (by simp)
  obtain ⟨w, hw0⟩ : ∃ w, w = w0.alloc (.cells #[.int .i64 x.a, .int .i64 x.b, .int .i64 x.c] 26) := ⟨_, rfl⟩
  rw [← hw0] at k TB RB
  obtain ⟨gB, hgB⟩ : ∃ gB, gB = w0.heap.size := ⟨_, rfl⟩
  rw [← hgB] at RB
  have HTB := Lib.hid TB
  clear k0 TB
  have c0 := k.mem.cell
  have c0' := c0
  rw [hw0] at c0'
  have htf := k.mem.tf
  have hlo := k.mem.bag.lo.1
  have HG := Lib.hid (k.get_no 0 (okK_of (by omega) (by omega)) k.tree.zero)
  have HK := Lib.hid k
  have HR := Lib.hid hR
  have HD := Lib.hid hR.2
  have HP := Lib.hid (show okK 0 from okK_of (by omega) (by omega))
  have hnb : w.heap.size ∉ TFoot t fh N := fun e => Nat.lt_irrefl _ (k.mem.lt _ e)
  clear k hR
  go_enter Tryz.func8, Tryz.ntmps8
  go_wp2_with fail
  rw [← hw0, ← hgB]
  clear hw0 hgB c0'
  refine HG.out.mono ?_
  rintro e w' ⟨rfl, hw⟩
  obtain rfl : w = w' := hw.symm
  clear hw
  go_wp2_with (first | ((with_reducible refine at_load 26 ?_); refine wpList_load_mid rfl 26 _ rfl gB 0 rfl [.int .i64 x.a, .int .i64 x.b, .int .i64 x.c] _ RB Tryz.underlying26 rfl infoG ?_) | ((with_reducible refine at_build 55 ?_); refine wpList_built rfl 55 _ rfl [(0, .int .i64 0), (1, .int .u64 due), (2, .agg #[.int .i64 x.a, .int .i64 x.b, .int .i64 x.c])] #[.int .i64 0, .int .u64 due, .int .i64 x.a, .int .i64 x.b, .int .i64 x.c, .slice none 0 0] rfl (by kernel_rfl) ?_))
  have T0 := ((Touch.refl [] w).alloc (.cells #[.int .i64 0, .int .u64 due, .int .i64 x.a, .int .i64 x.b, .int .i64 x.c, .slice none 0 0] 55)).drew
  have HW0 := HK.out.touch T0 (by simp)
  have hb0 := ((Touch.refl [] (w.alloc (.cells #[.int .i64 0, .int .u64 due, .int .i64 x.a, .int .i64 x.b, .int .i64 x.c, .slice none 0 0] 55))).drew).at (heap_alloc_new w (.cells #[.int .i64 0, .int .u64 due, .int .i64 x.a, .int .i64 x.b, .int .i64 x.c, .slice none 0 0] 55)) (by simp)
  obtain ⟨W, hW⟩ : ∃ W, W = (w.alloc (.cells #[.int .i64 0, .int .u64 due, .int .i64 x.a, .int .i64 x.b, .int .i64 x.c, .slice none 0 0] 55)).drew := ⟨_, rfl⟩
  refine wp_region_held (S := Touch fh W) (by kernel_rfl) ?_
  change wpAnyH _ _ _ _ _ _ _ _ (w.alloc (.cells #[.int .i64 0, .int .u64 due, .int .i64 x.a, .int .i64 x.b, .int .i64 x.c, .slice none 0 0] 55)).drew
  rw [← hW] at T0 HW0 hb0 ⊢
  clear hW
  have HW := Lib.hid HW0
  have HT0 := Lib.hid T0
  have c0 := HW0.mem.cell
  clear HW0 T0
  generalize hnbe : w.heap.size = nb at *
  have hnz : w.heap.size ≤ nb := Nat.le_of_eq hnbe
  have hb := hb0
  have b0 : W.cell? ⟨nb, 0, none⟩ = some (.int .i64 0) := by simp [World.cell?, hb]
  clear hb0 hnbe
  have hS := Touch.refl fh W
  refine wpAnyH_take (i := 0) (oi := { dst := some 36, op := Op.move (Operand.tmp 0), type := 23, pos := "timer.go:43", after := #[], guard := none }) (v := .pointer (some ⟨t, 0, none⟩)) rfl (by kernel_rfl) (by kernel_rfl) (by kernel_rfl) (fun _ _ _ h => h) (Or.inl ⟨by rfl, fun w' hw => by go_simp⟩) hS ?_
  try simp only [Act.put, List.setIfInBounds_toArray, List.set_cons_zero, List.set_cons_succ]
  refine wpAnyH_take (i := 1) (oi := { dst := some 37, op := Op.nilCheck (Operand.tmp 36), type := 0, pos := "timer.go:43", after := #[{ on := 0, ground := Ground.data }], guard := none }) (v := .pointer (some ⟨t, 0, none⟩)) rfl (by kernel_rfl) (by kernel_rfl) (by kernel_rfl) (fun _ _ _ h => h) (Or.inl ⟨by rfl, fun w' hw => by go_simp⟩) hS ?_
  try simp only [Act.put, List.setIfInBounds_toArray, List.set_cons_zero, List.set_cons_succ]
  refine wpAnyH_take (i := 2) (oi := { dst := some 38, op := Op.fieldAddr 49 (Operand.tmp 37) 0, type := 0, pos := "timer.go:43", after := #[{ on := 1, ground := Ground.data }], guard := none }) (v := .pointer (some ⟨t, 0, none⟩)) rfl (by kernel_rfl) (by kernel_rfl) (by kernel_rfl) (fun _ _ _ h => h) (Or.inl ⟨by rfl, fun w' hw => by go_simp⟩) hS ?_
  try simp only [Act.put, List.setIfInBounds_toArray, List.set_cons_zero, List.set_cons_succ]
  refine wpAnyH_take (i := 3) (oi := { dst := some 39, op := Op.load 45 (Operand.tmp 38), type := 45, pos := "timer.go:43", after := #[{ on := 2, ground := Ground.data }], guard := none }) (v := .pointer (some ⟨h, 0, none⟩)) rfl (by kernel_rfl) (by kernel_rfl) (by kernel_rfl) (fun _ _ _ h => h) (Or.inl ⟨by rfl, fun w' hw => by (have q := hw.cell c0 htf; go_simp)⟩) hS ?_
  try simp only [Act.put, List.setIfInBounds_toArray, List.set_cons_zero, List.set_cons_succ]
  refine wpAnyH_take (i := 4) (oi := { dst := some 40, op := Op.move (Operand.tmp 2), type := 31, pos := "timer.go:43", after := #[], guard := none }) (v := .int .u64 due) rfl (by kernel_rfl) (by kernel_rfl) (by kernel_rfl) (fun _ _ _ h => h) (Or.inl ⟨by rfl, fun w' hw => by go_simp⟩) hS ?_
  try simp only [Act.put, List.setIfInBounds_toArray, List.set_cons_zero, List.set_cons_succ]
  refine wpAnyH_take (i := 5) (oi := { dst := some 41, op := Op.move (Operand.tmp 0), type := 23, pos := "timer.go:43", after := #[], guard := none }) (v := .pointer (some ⟨t, 0, none⟩)) rfl (by kernel_rfl) (by kernel_rfl) (by kernel_rfl) (fun _ _ _ h => h) (Or.inl ⟨by rfl, fun w' hw => by go_simp⟩) hS ?_
  try simp only [Act.put, List.setIfInBounds_toArray, List.set_cons_zero, List.set_cons_succ]
  refine wpAnyH_take (i := 6) (oi := { dst := some 42, op := Op.move (Operand.tmp 13), type := 47, pos := "timer.go:43", after := #[], guard := none }) (v := .pointer (some ⟨nb, 0, none⟩)) rfl (by kernel_rfl) (by kernel_rfl) (by kernel_rfl) (fun _ _ _ h => h) (Or.inl ⟨by rfl, fun w' hw => by go_simp⟩) hS ?_
  try simp only [Act.put, List.setIfInBounds_toArray, List.set_cons_zero, List.set_cons_succ]
  refine wpAnyH_take (i := 10) (oi := { dst := some 46, op := Op.move (Operand.tmp 13), type := 47, pos := "timer.go:43", after := #[], guard := none }) (v := .pointer (some ⟨nb, 0, none⟩)) rfl (by kernel_rfl) (by kernel_rfl) (by kernel_rfl) (fun _ _ _ h => h) (Or.inl ⟨by rfl, fun w' hw => by go_simp⟩) hS ?_
  try simp only [Act.put, List.setIfInBounds_toArray, List.set_cons_zero, List.set_cons_succ]
  refine wpAnyH_ready (rs := [7]) (by kernel_rfl) (by simp) ?_
  refine AllReadyH.cons (o := { dst := some 43, op := Op.call { callee := Callee.value (Operand.func 22), args := #[Operand.tmp 41, Operand.tmp 42], argTypes := #[23, 47] }, type := 31, pos := "timer.go:43", after := #[{ on := 5, ground := Ground.data }, { on := 6, ground := Ground.data }], guard := none }) rfl (fun K hK => ?_) AllReadyH.nil
  go_simp
  refine (limit_any HW.out nb 0 HP.out b0).mono ?_
  rintro e w' ⟨rfl, q2, rfl⟩
  have hS2 := hS.drews q2
  have HW2 := Lib.hid (HW.out.draws q2)
  have hb2 := (((Touch.refl [] W).drews q2).at hb (by simp))
  refine hK.out _ _ hS2 (fun _ => ?_)
  clear hK K hS HW hb b0
  have hS := hS2
  clear hS2
  generalize W.drewN q2 = W2 at *
  try simp only [Act.put, List.setIfInBounds_toArray, List.set_cons_zero, List.set_cons_succ]
  refine wpAnyH_ready (rs := [8]) (by kernel_rfl) (by simp) ?_
  refine AllReadyH.cons (o := { dst := some 44, op := Op.buildSlice 83 2 #[(0, Operand.tmp 40), (1, Operand.tmp 43)], type := 83, pos := "timer.go:43", after := #[{ on := 4, ground := Ground.data }, { on := 7, ground := Ground.data }], guard := none }) rfl (fun K hK => ?_) AllReadyH.nil
  go_simp
  have hS2 := hS.alloc (.cells #[.int .u64 due, .int .u64 (lim (sh N) 0)] 31)
  have gC := heap_alloc_new W2 (.cells #[.int .u64 due, .int .u64 (lim (sh N) 0)] 31)
  have tC := (Touch.refl [] W2).alloc (.cells #[.int .u64 due, .int .u64 (lim (sh N) 0)] 31)
  have HW3 := Lib.hid (HW2.out.touch tC (by simp))
  have hb3 := tC.at hb2 (by simp)
  refine hK.out _ _ hS2 (fun _ => ?_)
  clear hK K hS hb2 HW2 tC
  have hS := hS2
  clear hS2
  generalize W2.alloc (.cells #[.int .u64 due, .int .u64 (lim (sh N) 0)] 31) = W3 at *
  generalize W2.heap.size = g at *
  obtain ⟨d0, d1⟩ := cells_two gC
  clear gC
  try simp only [Act.put, List.setIfInBounds_toArray, List.set_cons_zero, List.set_cons_succ]
  refine wpAnyH_ready (rs := [9]) (by kernel_rfl) (by simp) ?_
  refine AllReadyH.cons (o := { dst := some 45, op := Op.call { callee := Callee.value (Operand.func 21), args := #[Operand.tmp 44], argTypes := #[83] }, type := 31, pos := "timer.go:43", after := #[{ on := 8, ground := Ground.data }, { on := 7, ground := Ground.chain }], guard := none }) rfl (fun K hK => ?_) AllReadyH.nil
  go_simp
  refine (min_two due (lim (sh N) 0) g _ HD.out d0 d1).mono ?_
  rintro e w' ⟨rfl, rfl⟩
  refine hK.out _ _ hS (fun _ => ?_)
  clear hK K d0 d1
  try simp only [Act.put, List.setIfInBounds_toArray, List.set_cons_zero, List.set_cons_succ]
  refine wpAnyH_ready (rs := [11]) (by kernel_rfl) (by simp) ?_
  refine AllReadyH.cons (o := { dst := some 47, op := Op.call { callee := Callee.value (Operand.func 20), args := #[Operand.tmp 39, Operand.tmp 45, Operand.tmp 46], argTypes := #[45, 31, 47] }, type := 3, pos := "timer.go:43", after := #[{ on := 3, ground := Ground.data }, { on := 9, ground := Ground.data }, { on := 10, ground := Ground.data }, { on := 9, ground := Ground.chain }], guard := none }) rfl (fun K hK => ?_) AllReadyH.nil
  go_simp
  refine (HW3.out.mem.bag.push (min due (lim (sh N) 0)) (.pointer (some ⟨nb, 0, none⟩)) rfl (by omega) (by simpa using hfew)).mono ?_
  rintro e w4 ⟨rfl, nx⟩
  have hS0 := hS
  obtain ⟨fh', m4, f4, t4⟩ := TK.pushed HW3.out hb3 hnb hxo HR.out hfew nx
  have hS2 := hS.trans t4 (fun y hy => .inl hy)
  refine hK.out _ _ hS2 (fun _ => ?_)
  clear hK K hS nx t4 hb3 HW3
  have M4 := Lib.hid m4
  have F4 := Lib.hid (show ∀ y ∈ fh', y ∈ fh ∨ W.heap.size ≤ y from fun y hy => by rcases f4 y hy with e | e; exact .inl e; exact .inr (Nat.le_trans hS0.size e))
  have hS := hS2
  clear hS2 m4 f4
  try simp only [Act.put, List.setIfInBounds_toArray, List.set_cons_zero, List.set_cons_succ]
  refine wpAnyH_take (i := 12) (oi := { dst := some 14, op := Op.assign (Operand.tmp 47), type := 3, pos := "timer.go:43", after := #[{ on := 11, ground := Ground.data }, { on := 11, ground := Ground.chain }, { on := 0, ground := Ground.phase }, { on := 1, ground := Ground.phase }, { on := 2, ground := Ground.phase }, { on := 3, ground := Ground.phase }, { on := 4, ground := Ground.phase }, { on := 5, ground := Ground.phase }, { on := 6, ground := Ground.phase }, { on := 7, ground := Ground.phase }, { on := 8, ground := Ground.phase }, { on := 9, ground := Ground.phase }, { on := 10, ground := Ground.phase }, { on := 11, ground := Ground.phase }], guard := none }) (v := .int .i64 (last + 1)) rfl (by kernel_rfl) (by kernel_rfl) (by kernel_rfl) (fun _ _ _ h => h) (Or.inl ⟨by rfl, fun w' hw => by go_simp⟩) hS ?_
  try simp only [Act.put, List.setIfInBounds_toArray, List.set_cons_zero, List.set_cons_succ]
  refine wpAnyH_done (by kernel_rfl) ?_ _
  try simp only [Act.put, List.setIfInBounds_toArray, List.set_cons_zero, List.set_cons_succ]
  go_wp2_with fail
  go_ret2
  exact ⟨rfl, (HK.out.root_next hlo HT0.out hnz M4.out F4.out hS).pre0 HTB.out⟩
set_option maxRecDepth 100000 in
set_option maxHeartbeats 2000000 in
theorem start_no (k0 : TM w0 t h fh N last) (par due : Int) (x : Tag) (hp : okK par) (h0 : par ≠ 0) (hn : par ∉ tids (sh N)) :
    Calls Tryz.prog 8 #[.pointer (some ⟨t, 0, none⟩), .int .i64 par, .int .u64 due, .agg #[.int .i64 x.a, .int .i64 x.b, .int .i64 x.c]] w0 fun e w' => e = .returned (.tuple #[.int .i64 0, .bool false]) ∧ Touch [] w0 w' := by
  have TB := (Touch.refl [] w0).alloc (.cells #[.int .i64 x.a, .int .i64 x.b, .int .i64 x.c] 26)
  have RB := range_new w0 [.int .i64 x.a, .int .i64 x.b, .int .i64 x.c] 26
  have k := k0.touch TB (by simp)
  obtain ⟨w, hw0⟩ : ∃ w, w = w0.alloc (.cells #[.int .i64 x.a, .int .i64 x.b, .int .i64 x.c] 26) := ⟨_, rfl⟩
  rw [← hw0] at k TB RB
  obtain ⟨gB, hgB⟩ : ∃ gB, gB = w0.heap.size := ⟨_, rfl⟩
  rw [← hgB] at RB
  have HTB := Lib.hid TB
  clear k0 TB
  have c0 := k.mem.cell
  have c0' := c0
  rw [hw0] at c0'
  have HG := Lib.hid (k.get_no par hp hn)
  have q1 : (par != 0) = true := by simpa using h0
  have q2 : (par == 0) = false := by simpa using h0
  clear k hn
  go_enter Tryz.func8, Tryz.ntmps8
  go_wp2_with fail
  rw [← hw0, ← hgB]
  clear hw0 hgB c0'
  refine HG.out.mono ?_
  rintro e w' ⟨rfl, hw⟩
  obtain rfl : w = w' := hw.symm
  clear hw
  go_wp2_with fail
  go_ret2
  exact ⟨rfl, HTB.out⟩
set_option maxRecDepth 100000 in
set_option maxHeartbeats 2000000 in
theorem start_child (k0 : TM w0 t h fh N last) (p : Nd) (hp : p ∈ N) (due : Int) (x : Tag) (hxo : x.oneCell' = true) (hR : 0 ≤ due ∧ due ≤ maxT) (hl : last < 1000) (hfew : N.length < 1000) :
    Calls Tryz.prog 8 #[.pointer (some ⟨t, 0, none⟩), .int .i64 p.t.id, .int .u64 due, .agg #[.int .i64 x.a, .int .i64 x.b, .int .i64 x.c]] w0 fun e w' => e = .returned (.tuple #[.int .i64 (last + 1), .bool true]) ∧ TNext w0 t h (TFoot t fh N) (ab N ++ [(⟨last + 1, p.t.id, due, min due (lim (sh N) p.t.id)⟩, x)]) (last + 1) w' := by
  have TB := (Touch.refl [] w0).alloc (.cells #[.int .i64 x.a, .int .i64 x.b, .int .i64 x.c] 26)
  have RB := range_new w0 [.int .i64 x.a, .int .i64 x.b, .int .i64 x.c] 26
  have k := k0.touch TB (by simp)
  obtain ⟨w, hw0⟩ : ∃ w, w = w0.alloc (.cells #[.int .i64 x.a, .int .i64 x.b, .int .i64 x.c] 26) := ⟨_, rfl⟩
  rw [← hw0] at k TB RB
  obtain ⟨gB, hgB⟩ : ∃ gB, gB = w0.heap.size := ⟨_, rfl⟩
  rw [← hgB] at RB
  have HTB := Lib.hid TB
  clear k0 TB
  have c0 := k.mem.cell
  have c0' := c0
  rw [hw0] at c0'
  have htf := k.mem.tf
  have hlo := k.mem.bag.lo.1
  have HG := Lib.hid (k.get p hp)
  have HK0 := Lib.hid k
  have HPN := Lib.hid hp
  have HR := Lib.hid hR
  have HD := Lib.hid hR.2
  have HP := Lib.hid (k.oki (sh_tids hp)).1
  clear k hR hp
  go_enter Tryz.func8, Tryz.ntmps8
  go_wp2_with fail
  rw [← hw0, ← hgB]
  clear hw0 hgB c0'
  refine HG.out.mono ?_
  rintro e w' ⟨rfl, q, rfl⟩
  have HK := Lib.hid (HK0.out.draws q)
  have hnb : (w.drewN q).heap.size ∉ TFoot t fh N := fun e => Nat.lt_irrefl _ (HK.out.mem.lt _ e)
  have TQ := Lib.hid ((Touch.refl [] w).drews q)
  have RB := TQ.out.range RB (by simp)
  clear HG
  generalize w.drewN q = wq at *
  have c0 := HK.out.mem.cell
  go_wp2_with (first | ((with_reducible refine at_load 26 ?_); refine wpList_load_mid rfl 26 _ rfl gB 0 rfl [.int .i64 x.a, .int .i64 x.b, .int .i64 x.c] _ RB Tryz.underlying26 rfl infoG ?_) | ((with_reducible refine at_build 55 ?_); refine wpList_built rfl 55 _ rfl [(0, .int .i64 p.t.id), (1, .int .u64 due), (2, .agg #[.int .i64 x.a, .int .i64 x.b, .int .i64 x.c])] #[.int .i64 p.t.id, .int .u64 due, .int .i64 x.a, .int .i64 x.b, .int .i64 x.c, .slice none 0 0] rfl (by kernel_rfl) ?_))
  have T0 := ((Touch.refl [] wq).alloc (.cells #[.int .i64 p.t.id, .int .u64 due, .int .i64 x.a, .int .i64 x.b, .int .i64 x.c, .slice none 0 0] 55)).drew
  have HW0 := HK.out.touch T0 (by simp)
  have hb0 := ((Touch.refl [] (wq.alloc (.cells #[.int .i64 p.t.id, .int .u64 due, .int .i64 x.a, .int .i64 x.b, .int .i64 x.c, .slice none 0 0] 55))).drew).at (heap_alloc_new wq (.cells #[.int .i64 p.t.id, .int .u64 due, .int .i64 x.a, .int .i64 x.b, .int .i64 x.c, .slice none 0 0] 55)) (by simp)
  obtain ⟨W, hW⟩ : ∃ W, W = (wq.alloc (.cells #[.int .i64 p.t.id, .int .u64 due, .int .i64 x.a, .int .i64 x.b, .int .i64 x.c, .slice none 0 0] 55)).drew := ⟨_, rfl⟩
  refine wp_region_held (S := Touch fh W) (by kernel_rfl) ?_
  change wpAnyH _ _ _ _ _ _ _ _ (wq.alloc (.cells #[.int .i64 p.t.id, .int .u64 due, .int .i64 x.a, .int .i64 x.b, .int .i64 x.c, .slice none 0 0] 55)).drew
  rw [← hW] at T0 HW0 hb0 ⊢
  clear hW
  have HW := Lib.hid HW0
  have HT0 := Lib.hid (TQ.out.trans T0 (by simp))
  have c0 := HW0.mem.cell
  clear HW0 T0
  generalize hnbe : wq.heap.size = nb at *
  have hnz : w.heap.size ≤ nb := Nat.le_trans TQ.out.size (Nat.le_of_eq hnbe)
  have hb := hb0
  have b0 : W.cell? ⟨nb, 0, none⟩ = some (.int .i64 p.t.id) := by simp [World.cell?, hb]
  clear hb0 hnbe
  have hS := Touch.refl fh W
  refine wpAnyH_take (i := 0) (oi := { dst := some 36, op := Op.move (Operand.tmp 0), type := 23, pos := "timer.go:43", after := #[], guard := none }) (v := .pointer (some ⟨t, 0, none⟩)) rfl (by kernel_rfl) (by kernel_rfl) (by kernel_rfl) (fun _ _ _ h => h) (Or.inl ⟨by rfl, fun w' hw => by go_simp⟩) hS ?_
  try simp only [Act.put, List.setIfInBounds_toArray, List.set_cons_zero, List.set_cons_succ]
  refine wpAnyH_take (i := 1) (oi := { dst := some 37, op := Op.nilCheck (Operand.tmp 36), type := 0, pos := "timer.go:43", after := #[{ on := 0, ground := Ground.data }], guard := none }) (v := .pointer (some ⟨t, 0, none⟩)) rfl (by kernel_rfl) (by kernel_rfl) (by kernel_rfl) (fun _ _ _ h => h) (Or.inl ⟨by rfl, fun w' hw => by go_simp⟩) hS ?_
  try simp only [Act.put, List.setIfInBounds_toArray, List.set_cons_zero, List.set_cons_succ]
  refine wpAnyH_take (i := 2) (oi := { dst := some 38, op := Op.fieldAddr 49 (Operand.tmp 37) 0, type := 0, pos := "timer.go:43", after := #[{ on := 1, ground := Ground.data }], guard := none }) (v := .pointer (some ⟨t, 0, none⟩)) rfl (by kernel_rfl) (by kernel_rfl) (by kernel_rfl) (fun _ _ _ h => h) (Or.inl ⟨by rfl, fun w' hw => by go_simp⟩) hS ?_
  try simp only [Act.put, List.setIfInBounds_toArray, List.set_cons_zero, List.set_cons_succ]
  refine wpAnyH_take (i := 3) (oi := { dst := some 39, op := Op.load 45 (Operand.tmp 38), type := 45, pos := "timer.go:43", after := #[{ on := 2, ground := Ground.data }], guard := none }) (v := .pointer (some ⟨h, 0, none⟩)) rfl (by kernel_rfl) (by kernel_rfl) (by kernel_rfl) (fun _ _ _ h => h) (Or.inl ⟨by rfl, fun w' hw => by (have q := hw.cell c0 htf; go_simp)⟩) hS ?_
  try simp only [Act.put, List.setIfInBounds_toArray, List.set_cons_zero, List.set_cons_succ]
  refine wpAnyH_take (i := 4) (oi := { dst := some 40, op := Op.move (Operand.tmp 2), type := 31, pos := "timer.go:43", after := #[], guard := none }) (v := .int .u64 due) rfl (by kernel_rfl) (by kernel_rfl) (by kernel_rfl) (fun _ _ _ h => h) (Or.inl ⟨by rfl, fun w' hw => by go_simp⟩) hS ?_
  try simp only [Act.put, List.setIfInBounds_toArray, List.set_cons_zero, List.set_cons_succ]
  refine wpAnyH_take (i := 5) (oi := { dst := some 41, op := Op.move (Operand.tmp 0), type := 23, pos := "timer.go:43", after := #[], guard := none }) (v := .pointer (some ⟨t, 0, none⟩)) rfl (by kernel_rfl) (by kernel_rfl) (by kernel_rfl) (fun _ _ _ h => h) (Or.inl ⟨by rfl, fun w' hw => by go_simp⟩) hS ?_
  try simp only [Act.put, List.setIfInBounds_toArray, List.set_cons_zero, List.set_cons_succ]
  refine wpAnyH_take (i := 6) (oi := { dst := some 42, op := Op.move (Operand.tmp 13), type := 47, pos := "timer.go:43", after := #[], guard := none }) (v := .pointer (some ⟨nb, 0, none⟩)) rfl (by kernel_rfl) (by kernel_rfl) (by kernel_rfl) (fun _ _ _ h => h) (Or.inl ⟨by rfl, fun w' hw => by go_simp⟩) hS ?_
  try simp only [Act.put, List.setIfInBounds_toArray, List.set_cons_zero, List.set_cons_succ]
  refine wpAnyH_take (i := 10) (oi := { dst := some 46, op := Op.move (Operand.tmp 13), type := 47, pos := "timer.go:43", after := #[], guard := none }) (v := .pointer (some ⟨nb, 0, none⟩)) rfl (by kernel_rfl) (by kernel_rfl) (by kernel_rfl) (fun _ _ _ h => h) (Or.inl ⟨by rfl, fun w' hw => by go_simp⟩) hS ?_
  try simp only [Act.put, List.setIfInBounds_toArray, List.set_cons_zero, List.set_cons_succ]
  refine wpAnyH_ready (rs := [7]) (by kernel_rfl) (by simp) ?_
  refine AllReadyH.cons (o := { dst := some 43, op := Op.call { callee := Callee.value (Operand.func 22), args := #[Operand.tmp 41, Operand.tmp 42], argTypes := #[23, 47] }, type := 31, pos := "timer.go:43", after := #[{ on := 5, ground := Ground.data }, { on := 6, ground := Ground.data }], guard := none }) rfl (fun K hK => ?_) AllReadyH.nil
  go_simp
  refine (limit_any HW.out nb p.t.id HP.out b0).mono ?_
  rintro e w' ⟨rfl, q2, rfl⟩
  have hS2 := hS.drews q2
  have HW2 := Lib.hid (HW.out.draws q2)
  have hb2 := (((Touch.refl [] W).drews q2).at hb (by simp))
  refine hK.out _ _ hS2 (fun _ => ?_)
  clear hK K hS HW hb b0
  have hS := hS2
  clear hS2
  generalize W.drewN q2 = W2 at *
  try simp only [Act.put, List.setIfInBounds_toArray, List.set_cons_zero, List.set_cons_succ]
  refine wpAnyH_ready (rs := [8]) (by kernel_rfl) (by simp) ?_
  refine AllReadyH.cons (o := { dst := some 44, op := Op.buildSlice 83 2 #[(0, Operand.tmp 40), (1, Operand.tmp 43)], type := 83, pos := "timer.go:43", after := #[{ on := 4, ground := Ground.data }, { on := 7, ground := Ground.data }], guard := none }) rfl (fun K hK => ?_) AllReadyH.nil
  go_simp
  have hS2 := hS.alloc (.cells #[.int .u64 due, .int .u64 (lim (sh N) p.t.id)] 31)
  have gC := heap_alloc_new W2 (.cells #[.int .u64 due, .int .u64 (lim (sh N) p.t.id)] 31)
  have tC := (Touch.refl [] W2).alloc (.cells #[.int .u64 due, .int .u64 (lim (sh N) p.t.id)] 31)
  have HW3 := Lib.hid (HW2.out.touch tC (by simp))
  have hb3 := tC.at hb2 (by simp)
  refine hK.out _ _ hS2 (fun _ => ?_)
  clear hK K hS hb2 HW2 tC
  have hS := hS2
  clear hS2
  generalize W2.alloc (.cells #[.int .u64 due, .int .u64 (lim (sh N) p.t.id)] 31) = W3 at *
  generalize W2.heap.size = g at *
  obtain ⟨d0, d1⟩ := cells_two gC
  clear gC
  try simp only [Act.put, List.setIfInBounds_toArray, List.set_cons_zero, List.set_cons_succ]
  refine wpAnyH_ready (rs := [9]) (by kernel_rfl) (by simp) ?_
  refine AllReadyH.cons (o := { dst := some 45, op := Op.call { callee := Callee.value (Operand.func 21), args := #[Operand.tmp 44], argTypes := #[83] }, type := 31, pos := "timer.go:43", after := #[{ on := 8, ground := Ground.data }, { on := 7, ground := Ground.chain }], guard := none }) rfl (fun K hK => ?_) AllReadyH.nil
  go_simp
  refine (min_two due (lim (sh N) p.t.id) g _ HD.out d0 d1).mono ?_
  rintro e w' ⟨rfl, rfl⟩
  refine hK.out _ _ hS (fun _ => ?_)
  clear hK K d0 d1
  try simp only [Act.put, List.setIfInBounds_toArray, List.set_cons_zero, List.set_cons_succ]
  refine wpAnyH_ready (rs := [11]) (by kernel_rfl) (by simp) ?_
  refine AllReadyH.cons (o := { dst := some 47, op := Op.call { callee := Callee.value (Operand.func 20), args := #[Operand.tmp 39, Operand.tmp 45, Operand.tmp 46], argTypes := #[45, 31, 47] }, type := 3, pos := "timer.go:43", after := #[{ on := 3, ground := Ground.data }, { on := 9, ground := Ground.data }, { on := 10, ground := Ground.data }, { on := 9, ground := Ground.chain }], guard := none }) rfl (fun K hK => ?_) AllReadyH.nil
  go_simp
  refine (HW3.out.mem.bag.push (min due (lim (sh N) p.t.id)) (.pointer (some ⟨nb, 0, none⟩)) rfl (by omega) (by simpa using hfew)).mono ?_
  rintro e w4 ⟨rfl, nx⟩
  have hS0 := hS
  obtain ⟨fh', m4, f4, t4⟩ := TK.pushed HW3.out hb3 hnb hxo HR.out hfew nx
  have hS2 := hS.trans t4 (fun y hy => .inl hy)
  refine hK.out _ _ hS2 (fun _ => ?_)
  clear hK K hS nx t4 hb3 HW3
  have M4 := Lib.hid m4
  have F4 := Lib.hid (show ∀ y ∈ fh', y ∈ fh ∨ W.heap.size ≤ y from fun y hy => by rcases f4 y hy with e | e; exact .inl e; exact .inr (Nat.le_trans hS0.size e))
  have hS := hS2
  clear hS2 m4 f4
  try simp only [Act.put, List.setIfInBounds_toArray, List.set_cons_zero, List.set_cons_succ]
  refine wpAnyH_take (i := 12) (oi := { dst := some 14, op := Op.assign (Operand.tmp 47), type := 3, pos := "timer.go:43", after := #[{ on := 11, ground := Ground.data }, { on := 11, ground := Ground.chain }, { on := 0, ground := Ground.phase }, { on := 1, ground := Ground.phase }, { on := 2, ground := Ground.phase }, { on := 3, ground := Ground.phase }, { on := 4, ground := Ground.phase }, { on := 5, ground := Ground.phase }, { on := 6, ground := Ground.phase }, { on := 7, ground := Ground.phase }, { on := 8, ground := Ground.phase }, { on := 9, ground := Ground.phase }, { on := 10, ground := Ground.phase }, { on := 11, ground := Ground.phase }], guard := none }) (v := .int .i64 (last + 1)) rfl (by kernel_rfl) (by kernel_rfl) (by kernel_rfl) (fun _ _ _ h => h) (Or.inl ⟨by rfl, fun w' hw => by go_simp⟩) hS ?_
  try simp only [Act.put, List.setIfInBounds_toArray, List.set_cons_zero, List.set_cons_succ]
  refine wpAnyH_done (by kernel_rfl) ?_ _
  have hpn := (M4.out.nd p (List.mem_append.2 (.inl HPN.out)))
  have HPD := Lib.hid hpn
  have hpl := hpn.lt
  obtain ⟨m0, m1, m2, m3⟩ := hpn.cells
  have hrow := hpn.row
  have hpv := hpn.hv
  have hkl : (kids (sh N) p.t.id).length ≤ 1000 := by
    have := nodup_few (HK.out.tree.kids_nodup p.t.id) (fun m hm => kids_sub hm)
    have h2 : (tids (sh N)).length = N.length := by simp [tids, sh]
    omega
  obtain ⟨i3, z3, hi3, hz3, hs3, hb3, hc3⟩ := ninfo_parts info3
  clear m0 m1 m2 hpn
  try simp only [Act.put, List.setIfInBounds_toArray, List.set_cons_zero, List.set_cons_succ]
  go_wp2_with (at_builtin; refine wpList_app1 w4 (by rfl) _ _ 53 (by rfl) 3 i3 z3 8 Tryz.underlying53 hi3 hz3 hs3 hb3 hc3 p.v _ _ (by rfl) hrow (.int .i64 (last + 1)) 3 (by rfl) (by rfl) (by unfold maxLen; omega) (by omega) ?_)
  intro v' w5 o5 t5 b5
  have hpb : p.b ∉ p.v.ownBlock.toList := by simpa using hpv
  have hh5 := t5.at HPD.out.hdr hpb
  have m3 : w5.cell? ⟨p.b, 5, none⟩ = some p.v := by simp [World.cell?, hh5]
  have g3 : w5.frozen? ⟨p.b, 5, none⟩ = false := by simp [World.frozen?, hh5]
  have hb5 : v'.ownBlock ≠ some p.b := by
    rcases b5 with e | e
    · rw [e]
      exact hpv
    · rw [e]
      intro e
      have := hpl p.b (by simp [Nd.foot])
      simp at e
      omega
  have T6 := (t5.mono (S' := p.foot) (by intro y hy; left; simp only [Nd.foot, List.mem_cons]; exact .inr hy)).trans ((Touch.refl [p.b] w5).setCell (p := ⟨p.b, 5, none⟩) (by simp) v') (by intro y hy; left; simp at hy; simp [Nd.foot, hy])
  have H6 : (w5.setCell ⟨p.b, 5, none⟩ v').heap[p.b]? = some (.cells #[.int .i64 p.t.par, .int .u64 p.t.req, .int .i64 p.x.a, .int .i64 p.x.b, .int .i64 p.x.c, v'] 55 (0, 0)) := by simp [World.setCell, Array.getElem?_modify, hh5]
  have R6 := ((Touch.refl [p.b] w5).setCell (p := ⟨p.b, 5, none⟩) (by simp) v').owns o5 (by intro g hg e; simp at e; exact hb5 (by rw [hg, e]))
  have HF := Lib.hid (HK0.out.child_next HPN.out hlo HT0.out hnz M4.out F4.out hS T6 H6 (by simpa using R6) (by rcases b5 with e | e; exact .inl e; exact .inr (.inr ⟨_, e, by omega⟩)))
  obtain ⟨av5, cv5, rfl, hw1, hw2, hw3⟩ := owns_form o5
  clear T6 H6 R6 o5 t5 hh5 hrow hb5 b5 hpl hS hw1 hw2 hw3
  try simp only [Act.put, List.setIfInBounds_toArray, List.set_cons_zero, List.set_cons_succ]
  go_wp2_with fail
  go_ret2
  exact ⟨rfl, HF.out.pre0 HTB.out⟩
end
section
variable {w : World} {t h : Nat} {f : List Nat} {A : List (Tm × Tag)} {last : Int}
theorem TS.start (k : TS w t h f A last) (par due : Int) (x : Tag) (hxo : x.oneCell' = true) (hR : 0 ≤ due ∧ due ≤ maxT) (hl : last < 1000) (hfew : A.length < 1000) (hp : par = 0 ∨ par ∈ tids (A.map Prod.fst)) :
    Calls Tryz.prog 8 #[.pointer (some ⟨t, 0, none⟩), .int .i64 par, .int .u64 due, .agg #[.int .i64 x.a, .int .i64 x.b, .int .i64 x.c]] w fun e w' => e = .returned (.tuple #[.int .i64 (last + 1), .bool true]) ∧ TNext w t h f (A ++ [(⟨last + 1, par, due, min due (lim (A.map Prod.fst) par)⟩, x)]) (last + 1) w' := by
  obtain ⟨fh, N, hm, rfl, rfl⟩ := k
  rw [ab_fst] at hp ⊢
  have hfew' : N.length < 1000 := by simpa [ab] using hfew
  rcases hp with rfl | hp
  · exact start_root hm due x hxo hR hl hfew'
  · obtain ⟨n, hn, rfl⟩ := sh_at hp
    exact start_child hm n hn due x hxo hR hl hfew'
theorem TS.start_no (k : TS w t h f A last) (par due : Int) (x : Tag) (hp : okK par) (h0 : par ≠ 0) (hn : par ∉ tids (A.map Prod.fst)) :
    Calls Tryz.prog 8 #[.pointer (some ⟨t, 0, none⟩), .int .i64 par, .int .u64 due, .agg #[.int .i64 x.a, .int .i64 x.b, .int .i64 x.c]] w fun e w' => e = .returned (.tuple #[.int .i64 0, .bool false]) ∧ Touch [] w w' := by
  obtain ⟨fh, N, hm, rfl, rfl⟩ := k
  rw [ab_fst] at hn
  exact G.start_no hm par due x hp h0 hn
end
end Go.Proofs.YtobkanlnnniabaaGreat.G

/-
  slices.DeleteFunc and slices.IndexFunc at Cancel's closure: one handle taken out of a list.
-/
namespace Go.Proofs.YtobkanlnnniabaaGreat.G
open Go.RowKit
set_option linter.unusedVariables false
set_option linter.unusedSimpArgs false

def isC (c : Int) (k : Int) : Bool := decide (k ≠ c)
set_option maxRecDepth 100000 in
set_option maxHeartbeats 1000000 in
theorem clos_any (c k : Int) (q : Nat) (w : World) (h : w.cell? ⟨q, 0, none⟩ = some (.int .i64 c)) :
    Calls Tryz.prog 30 #[.int .i64 k, .pointer (some ⟨q, 0, none⟩)] w fun e w' => e = .returned (.bool (!isC c k)) ∧ w = w' := by
  have e : (!isC c k) = (k == c) := by
    by_cases hh : k = c
    · simp [isC, hh]
    · simp [isC, hh, BEq.beq]
  rw [e]
  clear e
  go_enter Tryz.func30, Tryz.ntmps30
  go_wp2_with fail
  go_ret
  exact ⟨rfl, rfl⟩
/-- The place of the handle, or the length. -/
def outAt (c : Int) (ks : List Int) : Nat := ks.findIdx (fun k => !isC c k)
theorem outAt_le (c : Int) (ks : List Int) : outAt c ks ≤ ks.length := List.findIdx_le_length
theorem outAt_before {c : Int} {ks : List Int} {i : Nat} {k : Int} (hi : i < outAt c ks) (hk : ks[i]? = some k) : isC c k = true := by
  obtain ⟨hl, he⟩ := List.getElem?_eq_some_iff.1 hk
  have h2 := List.not_of_lt_findIdx (p := fun k : Int => !isC c k) (xs := ks) hi
  rw [he] at h2
  simpa using h2
theorem outAt_at {c : Int} {ks : List Int} {k : Int} (hk : ks[outAt c ks]? = some k) : isC c k = false := by
  obtain ⟨hl, he⟩ := List.getElem?_eq_some_iff.1 hk
  have h2 := List.findIdx_getElem (p := fun k : Int => !isC c k) (xs := ks) (w := hl)
  have h3 : ks[List.findIdx (fun k : Int => !isC c k) ks] = k := he
  rw [h3] at h2
  simpa using h2
def ixv (c : Int) (ks : List Int) : Int := if outAt c ks < ks.length then (outAt c ks : Int) else -1
def Row (w : World) (v : Value) (ks : List Int) : Prop := w.ownsRow 0 3 1 v ks.length (ks.map (Value.int .i64))
theorem Row.form {w : World} {v : Value} {ks : List Int} (h : Row w v ks) : ∃ a c, v = .slice a ks.length c ∧ ks.length ≤ c ∧ c ≤ maxLen ∧ (0 < ks.length → ∃ g, a = some ⟨g, 0, none⟩) := owns_form h
theorem Row.cell {w : World} {g n c : Nat} {ks : List Int} (h : Row w (.slice (some ⟨g, 0, none⟩) n c) ks) {i : Nat} {k : Int} (hk : ks[i]? = some k) : w.cell? ⟨g, i, none⟩ = some (.int .i64 k) := by
  obtain ⟨a, c', hv, _⟩ := Row.form h
  simp at hv
  obtain ⟨rfl, rfl, rfl⟩ := hv
  exact owns_cell h i _ (by simp [hk])
set_option maxRecDepth 100000 in
set_option maxHeartbeats 1000000 in
theorem ix_any (v : Value) (ks : List Int) (c : Int) (q : Nat) (w : World) (hl : ks.length ≤ 1000) (h1 : Row w v ks) (h : w.cell? ⟨q, 0, none⟩ = some (.int .i64 c)) :
    Calls Tryz.prog 48 #[v, .func (.func 30) #[] #[.pointer (some ⟨q, 0, none⟩)]] w fun e w' => e = .returned (.int .i64 (ixv c ks)) ∧ w = w' := by
  obtain ⟨a1, c1, rfl, hc1, hm1, hv1⟩ := h1.form
  have hix := outAt_le c ks
  have hcv : c1 ≤ 9223372036854775807 := by unfold maxLen at hm1; omega
  clear hm1
  go_enter Tryz.func48, Tryz.ntmps48
  go_wp2_with fail
  go_loop [8] (fun vi => ∃ (i : Nat), i ≤ outAt c ks ∧ vi = .int .i64 i) (fun vi => ks.length - (intOf vi).toNat)
  case atStart => exact ⟨0, by omega, rfl⟩
  case round =>
    obtain ⟨i, hi, rfl⟩ := hrel
    by_cases hlt : i < ks.length
    · have hx : ks[i]? = some ks[i] := List.getElem?_eq_getElem hlt
      generalize ks[i] = k at hx
      obtain ⟨g, rfl⟩ := hv1 (by omega)
      have p1 := h1.cell hx
      have q3 : (i : Int) < (ks.length : Int) := by omega
      by_cases hin : i < outAt c ks
      · have hc := Lib.hid (outAt_before hin hx)
        clear hx
        go_wp2_with fail
        refine (clos_any c k q _ h).mono ?_
        rintro e w2 ⟨rfl, rfl⟩
        rw [hc.out]
        clear p1
        go_wp2_with fail
        go_round
        case rel => exact ⟨i + 1, by omega, by go_num⟩
        case measure => simp [intOf]; omega
      · have e : outAt c ks = i := by omega
        have hc := Lib.hid (outAt_at (by rw [e]; exact hx))
        have HE := Lib.hid (show ixv c ks = (i : Int) by unfold ixv; rw [e, if_pos hlt])
        clear hx e
        go_wp2_with fail
        refine (clos_any c k q _ h).mono ?_
        rintro e w2 ⟨rfl, rfl⟩
        rw [hc.out]
        clear p1
        go_wp2_with fail
        go_ret
        exact ⟨by rw [HE.out]; rfl, rfl⟩
    · have HE := Lib.hid (show ixv c ks = -1 by unfold ixv; rw [if_neg (by omega)])
      go_wp2_with fail
      go_ret
      exact ⟨by rw [HE.out]; rfl, rfl⟩
theorem owns_setCells {w : World} {g n c : Nat} : ∀ (zs : List Value) (o : Nat) (w : World) (xs : List Value), w.ownsRow 0 3 1 (.slice (some ⟨g, 0, none⟩) n c) n xs →
    ∃ ys, (w.setCells g o zs).ownsRow 0 3 1 (.slice (some ⟨g, 0, none⟩) n c) n ys ∧ ys.take o = xs.take o
  | [], o, w, xs, h => ⟨xs, h, rfl⟩
  | z :: zs, o, w, xs, h => by
    obtain ⟨ys, h1, h2⟩ := owns_setCells (w := w) zs (o + 1) (w.setCell ⟨g, o, none⟩ z) (xs.set o z) (owns_set h o z)
    refine ⟨ys, h1, ?_⟩
    have h3 := congrArg (List.take o) h2
    rw [List.take_take, List.take_take, Nat.min_eq_left (by omega)] at h3
    rw [h3, List.take_set_of_le (by omega)]
theorem setCells_touch (b : Nat) : ∀ (vs : List Value) (o : Nat) (w : World), Touch [b] w (w.setCells b o vs)
  | [], _, w => Touch.refl _ _
  | v :: r, o, w => ((Touch.refl [b] w).setCell (p := ⟨b, o, none⟩) (by simp) v).trans (setCells_touch b r (o + 1) _) (by simp)
theorem run_clear_rows {P : Program} (w : World) (t e ty : TypeId) (z : Value) (k : Nat) (ht : P.underlying t = some (.slice e)) (hv : ∀ w, (zeroValue e).run P w = .ok z w) (hz : z.cells.size = k) (h1 : ∀ v ∈ z.cells.toList, v.oneCell' = true) (b o n c : Nat) (hn : 0 < n)
    (hc : ∀ j, j < n * k → (w.cell? ⟨b, o + j, none⟩).isSome = true) (hf : ∀ j, j < n * k → w.frozen? ⟨b, o + j, none⟩ = false) :
    ∃ zs, (Builtin.clear_ #[t] ty #[.slice (some ⟨b, o, none⟩) n c]).run P w = .ok (.tuple #[]) (w.setCells b o zs) := by
  have hl : (Builtin.zeroCells z.cells n).toList.length = n * k := by simp [Builtin.zeroCells, hz]
  have ho : ∀ v ∈ (Builtin.zeroCells z.cells n).toList, v.oneCell' = true := by
    intro v hv'
    simp only [Builtin.zeroCells] at hv'
    simp at hv'
    obtain ⟨i, hi, rfl⟩ := hv'
    have hk : 0 < z.cells.size := by
      rcases Nat.eq_zero_or_pos z.cells.size with h0 | h0
      · rw [h0] at hi; simp at hi
      · exact h0
    have hm := Nat.mod_lt i hk
    refine h1 _ ?_
    simp [hm]
  have hst := run_storeCells_cells (P := P) b o (Builtin.zeroCells z.cells n).toList 0 w (by simpa [hl] using hc) (by simpa [hl] using hf) ho
  simp only [Nat.add_zero] at hst
  obtain ⟨m, rfl⟩ : ∃ m, n = m + 1 := ⟨n - 1, by omega⟩
  exact ⟨(Builtin.zeroCells z.cells (m + 1)).toList, by simp [Builtin.clear_, run_underlying ht, hv, hst]⟩
theorem all_in {c : Int} {ks : List Int} (h : ks.length ≤ outAt c ks) : ks.filter (isC c) = ks := by
  rw [List.filter_eq_self]
  intro k hk
  obtain ⟨i, hi⟩ := List.getElem?_of_mem hk
  have := (List.getElem?_eq_some_iff.1 hi).1
  exact outAt_before (by omega) hi
theorem take_in {c : Int} {ks : List Int} (h : outAt c ks < ks.length) : (ks.take (outAt c ks + 1)).filter (isC c) = ks.take (outAt c ks) := by
  have hx := List.getElem?_eq_getElem h
  have ho := outAt_at (c := c) hx
  rw [List.take_add_one, hx, List.filter_append]
  have e1 : (ks.take (outAt c ks)).filter (isC c) = ks.take (outAt c ks) := by
    rw [List.filter_eq_self]
    intro k hk
    obtain ⟨i, hi⟩ := List.getElem?_of_mem hk
    rw [List.getElem?_take] at hi
    split at hi
    · exact outAt_before (by assumption) hi
    · cases hi
  rw [e1]
  simp [ho]
/-- What the loop of DeleteFunc has done. -/
structure Dl (w wr : World) (g n cv : Nat) (ks : List Int) (c : Int) (i j : Nat) (ds : List Int) : Prop where
  row : wr.ownsRow 0 3 1 (.slice (some ⟨g, 0, none⟩) n cv) n (ds.map (Value.int .i64))
  len : ds.length = n
  ij : i < j
  jn : j ≤ n
  pre : ds.take i = (ks.take j).filter (isC c)
  suf : ds.drop j = ks.drop j
  t : Touch [g] w wr
theorem Dl.skip {w wr : World} {g n cv i j : Nat} {ks ds : List Int} {c : Int} {k : Int} (hd : Dl w wr g n cv ks c i j ds) (hn : ks.length = n) (hj : ks[j]? = some k) (hin : isC c k = false) : Dl w wr g n cv ks c i (j + 1) ds := by
  have hjl := (List.getElem?_eq_some_iff.1 hj).1
  have h1 := hd.ij
  refine ⟨hd.row, hd.len, by omega, by omega, ?_, ?_, hd.t⟩
  · rw [List.take_add_one, hj, List.filter_append, hd.pre]
    simp [hin]
  · have := congrArg (List.drop 1) hd.suf
    rwa [List.drop_drop, List.drop_drop] at this
theorem Dl.keep {w wr : World} {g n cv i j : Nat} {ks ds : List Int} {c : Int} {k : Int} (hd : Dl w wr g n cv ks c i j ds) (hn : ks.length = n) (hj : ks[j]? = some k) (hin : isC c k = true) :
    Dl w (wr.setCell ⟨g, i, none⟩ (.int .i64 k)) g n cv ks c (i + 1) (j + 1) (ds.set i k) := by
  have hjl := (List.getElem?_eq_some_iff.1 hj).1
  have h1 := hd.ij
  have h2 := hd.jn
  have hlen := hd.len
  have hil : i < ds.length := by omega
  refine ⟨?_, by rw [List.length_set]; exact hlen, by omega, by omega, ?_, ?_, hd.t.setCell (.inl (by simp)) _⟩
  · rw [List.map_set]
    exact owns_set hd.row i _
  · rw [List.take_add_one (i := j), hj, List.filter_append, ← hd.pre, List.take_add_one]
    rw [List.take_set_of_le (by omega)]
    simp [hin, hil]
  · rw [List.drop_set_of_lt (by omega)]
    have := congrArg (List.drop 1) hd.suf
    rwa [List.drop_drop, List.drop_drop] at this
set_option maxRecDepth 100000 in
set_option maxHeartbeats 2000000 in
theorem del_any (v : Value) (ks : List Int) (c : Int) (q : Nat) (w : World) (hl : ks.length ≤ 1000) (ho : Row w v ks) (h : w.cell? ⟨q, 0, none⟩ = some (.int .i64 c)) (hq : v.ownBlock ≠ some q) :
    Calls Tryz.prog 29 #[v, .func (.func 30) #[] #[.pointer (some ⟨q, 0, none⟩)]] w fun e w' => ∃ v', e = .returned v' ∧ Row w' v' (ks.filter (isC c)) ∧ v'.ownBlock = v.ownBlock ∧ Touch v.ownBlock.toList w w' := by
  have hole := outAt_le c ks
  obtain ⟨n, hn⟩ : ∃ n, ks.length = n := ⟨_, rfl⟩
  obtain ⟨av, cv, rfl, hc1, hm1, hv3⟩ := ho.form
  have HO := Lib.hid ho
  rw [hn] at hc1 hv3 hl hole hq HO ⊢
  have hc4 : cv ≤ 9223372036854775807 := by unfold maxLen at hm1; omega
  have HN := Lib.hid hn
  clear hn ho hm1
  by_cases hlt : outAt c ks < n
  · have HE := Lib.hid (show ixv c ks = (outAt c ks : Int) by unfold ixv; rw [HN.out, if_pos hlt])
    obtain ⟨g, rfl⟩ := hv3 (by omega)
    have hqg : q ≠ g := fun e => hq (by rw [e]; rfl)
    have HT := Lib.hid (take_in (c := c) (ks := ks) (by rw [HN.out]; exact hlt))
    go_enter Tryz.func29, Tryz.ntmps29
    go_wp2_with fail
    refine (ix_any _ ks c q _ (by rw [HN.out]; exact hl) HO.out h).mono ?_
    rintro e w1 ⟨rfl, rfl⟩
    rw [HE.out]
    generalize hi0 : outAt c ks = i0 at *
    have HI0 := Lib.hid hi0
    clear hi0
    have d0 : ((i0 : Int) == -1) = false := by simp
    go_wp2_with fail
    go_loopw [5, 6] (fun vi vj wr => ∃ (i j : Nat) (ds : List Int), vi = .int .i64 i ∧ vj = .int .i64 j ∧ Dl w wr g n cv ks c i j ds) (fun _ vj _ => n - (intOf vj).toNat)
    case atStart => exact ⟨i0, i0 + 1, ks, rfl, by go_num, by have := HO.out; unfold Row at this; rwa [HN.out] at this, HN.out, by omega, by omega, HT.out.symm, rfl, Touch.refl _ _⟩
    case round =>
      obtain ⟨i, j, ds, rfl, rfl, hd⟩ := hrel
      have HD := Lib.hid hd
      have hij := hd.ij
      have hjn := hd.jn
      have hcq := hd.t.cell h (by simpa using hqg)
      clear hd
      by_cases hj : j < n
      · have hjk : j < ks.length := by rw [HN.out]; exact hj
        have hx : ks[j]? = some ks[j] := List.getElem?_eq_getElem hjk
        generalize ks[j] = k at hx
        have hdx : ds[j]? = some k := by
          have e := congrArg (fun l => l[0]?) HD.out.suf
          simp only [List.getElem?_drop, Nat.add_zero] at e
          rw [e, hx]
        have c0 := owns_cell HD.out.row j (.int .i64 k) (by simp [hdx])
        have HX := Lib.hid hx
        have hjI : (j : Int) < (n : Int) := by omega
        clear hx hdx
        cases hin : isC c k with
        | true =>
          have HIN := Lib.hid hin
          have hil : i < ds.length := by rw [HD.out.len]; omega
          have hdi := List.getElem?_eq_getElem hil
          have s0 := owns_cell HD.out.row i (.int .i64 ds[i]) (by simp [hdi])
          have f0 := owns_frozen HD.out.row i
          have hin' : (i : Int) < (n : Int) := by omega
          have HF := Lib.hid (HD.out.keep HN.out HX.out hin)
          clear hdi hin
          go_wp2_with fail
          refine (clos_any c k q _ hcq).mono ?_
          rintro e w5 ⟨rfl, rfl⟩
          rw [HIN.out]
          go_wp2_with fail
          exact ⟨⟨i + 1, j + 1, _, by go_num, by go_num, HF.out⟩, by simp [intOf]; omega⟩
        | false =>
          have HIN := Lib.hid hin
          have HF := Lib.hid (HD.out.skip HN.out HX.out hin)
          clear hin
          go_wp2_with fail
          refine (clos_any c k q _ hcq).mono ?_
          rintro e w5 ⟨rfl, rfl⟩
          rw [HIN.out]
          go_wp2_with fail
          exact ⟨⟨i, j + 1, _, rfl, by go_num, HF.out⟩, by simp [intOf]; omega⟩
      · obtain rfl : j = n := by omega
        have hpre := HD.out.pre
        rw [List.take_of_length_le (l := ks) (by rw [HN.out]; omega)] at hpre
        have row := HD.out.row
        obtain ⟨zs, hcl⟩ := run_clear_rows (P := Tryz.prog) wr 53 3 0 _ 1 Tryz.underlying53 zero3' (by rfl) (by intro v hv; simp [Value.cells] at hv; subst hv; rfl) g i (j - i) (cv - i) (by omega)
          (by
            intro q hq
            have hql : i + q < (ds.map (Value.int .i64)).length := by rw [List.length_map, HD.out.len]; omega
            rw [owns_cell row (i + q) _ (List.getElem?_eq_getElem hql)]
            rfl)
          (by intro q hq; exact owns_frozen row _)
        have hci : ¬ cv = i := by omega
        have hT2 := setCells_touch g zs i wr
        have hres : Row (wr.setCells g i zs) (.slice (some ⟨g, 0, none⟩) i cv) (ks.filter (isC c)) := by
          obtain ⟨ys, h1, h2⟩ := owns_setCells (w := wr) zs i wr _ row
          have h3 := owns_take h1 (j := i) (by omega)
          rw [Nat.mul_one, h2, ← List.map_take, hpre] at h3
          have hl3 := congrArg List.length hpre
          rw [List.length_take, HD.out.len, Nat.min_eq_left (by omega)] at hl3
          unfold Row
          rw [← hl3]
          exact h3
        have HRES := Lib.hid hres
        clear hres hpre row
        go_wp2_with fail
        go_ret
        exact ⟨_, rfl, HRES.out, rfl, HD.out.t.trans hT2 (by simp)⟩
  · have HE := Lib.hid (show ixv c ks = -1 by unfold ixv; rw [HN.out, if_neg hlt])
    have HF := Lib.hid (all_in (c := c) (ks := ks) (by rw [HN.out]; omega))
    go_enter Tryz.func29, Tryz.ntmps29
    go_wp2_with fail
    refine (ix_any _ ks c q _ (by rw [HN.out]; exact hl) HO.out h).mono ?_
    rintro e w1 ⟨rfl, rfl⟩
    rw [HE.out]
    go_wp2_with fail
    go_ret
    exact ⟨_, rfl, by rw [HF.out]; exact HO.out, rfl, Touch.refl _ _⟩
end Go.Proofs.YtobkanlnnniabaaGreat.G

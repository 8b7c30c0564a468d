/-
  Merged texts: TqS, TsS, DlS, TcS, TeS, TaS, Aw.
-/
import Derived.Test.YtobkanlnnniabaaKD3
import Derived.Lib.SliceRun
import Derived.Deep.Upon

/-
  One more timer: what its memory is.
-/
namespace Go.Proofs.Ytobkanlnnniabaa.S
open Go.RowKit
set_option linter.unusedVariables false
set_option linter.unusedSimpArgs false

section
variable {w : World} {t h : Nat} {fh : List Nat} {N : List Nd} {last : Int}
theorem TK.congr {K K' : Int → List Int} (k : TK w t h fh N last K) (e : ∀ n ∈ N, K n.t.id = K' n.t.id) : TK w t h fh N last K' :=
  ⟨k.hdr, k.bag, fun n hn => by rw [← e n hn]; exact k.nd n hn, k.rq, k.few, k.tf, k.nt, k.nf, k.nn⟩
/-- The new timer. -/
def newN (last par req due : Int) (x : Value) (b : Nat) : Nd := ⟨⟨last + 1, par, req, due⟩, x, b, .slice none 0 0⟩
theorem TK.pushed (k : TM w t h fh N last) {w' : World} {par req due : Int} {x : Value} {b : Nat} (hb : w.heap[b]? = some (.cells #[.int .i64 par, .int .u64 req, x, .slice none 0 0] 70 (0, 0))) (hn : b ∉ TFoot t fh N) (hx : x.oneCell' = true) (hr : 0 ≤ req ∧ req ≤ maxT) (hl : N.length < 1000)
    (nx : Next w h fh (N.map Nd.itm ++ [⟨last + 1, due, .pointer (some ⟨b, 0, none⟩)⟩]) (last + 1) w') :
    ∃ fh', TK w' t h fh' (N ++ [newN last par req due x b]) (last + 1) (kids (sh N)) ∧ (∀ y ∈ fh', y ∈ fh ∨ w.heap.size ≤ y) ∧ Touch fh w w' := by
  obtain ⟨fh', hb', hf', ht'⟩ := nx
  have hlt := k.mem.lt
  have hbl : b < w.heap.size := (Array.getElem?_eq_some_iff.1 hb).1
  have hbf : b ∉ fh := fun e => hn (TFoot.mem.2 (.inr (.inl e)))
  have hbt : b ≠ t := fun e => hn (TFoot.mem.2 (.inl e))
  have hbn : ∀ n ∈ N, b ∉ n.foot := fun n hn' e => hn (TFoot.mem.2 (.inr (.inr ⟨n, hn', e⟩)))
  have hnf : (newN last par req due x b).foot = [b] := rfl
  have hk0 : kids (sh N) (last + 1) = [] := by
    unfold kids
    rw [List.filter_eq_nil_iff.2]
    · rfl
    · intro s hs
      have h1 := k.tree.up s hs
      have h2 := k.tree.top s hs
      simp only [decide_eq_true_eq]
      omega
  have hold : ∀ y, y < w.heap.size → y ∉ fh → y ∉ fh' := by
    intro y hy hyf e
    rcases hf' y e with e | e
    · exact hyf e
    · omega
  refine ⟨fh', ⟨ht'.at k.mem.hdr k.mem.tf, ?_, ?_, ?_, by simp; omega, ?_, ?_, ?_, ?_⟩, hf', ht'⟩
  · rw [List.map_append]
    exact hb'
  · intro n hn'
    rcases List.mem_append.1 hn' with hn' | hn'
    · exact (k.mem.nd n hn').touch ht' (k.mem.nf n hn')
    · simp at hn'
      subst hn'
      refine ⟨ht'.at hb hbf, ?_, hx, by simp [newN, Value.ownBlock]⟩
      have : (newN last par req due x b).t.id = last + 1 := rfl
      rw [this, hk0]
      exact World.ownsRow_nil _ _ _ _
  · intro n hn'
    rcases List.mem_append.1 hn' with hn' | hn'
    · exact k.mem.rq n hn'
    · simp at hn'
      subst hn'
      exact hr
  · exact hold t (hlt t (TFoot.mem.2 (.inl rfl))) k.mem.tf
  · intro n hn'
    rcases List.mem_append.1 hn' with hn' | hn'
    · exact k.mem.nt n hn'
    · simp at hn'
      subst hn'
      rw [hnf]
      simpa using Ne.symm hbt
  · intro n hn' y hy
    rcases List.mem_append.1 hn' with hn' | hn'
    · exact hold y (hlt y (TFoot.mem.2 (.inr (.inr ⟨n, hn', hy⟩)))) (k.mem.nf n hn' y hy)
    · simp at hn'
      subst hn'
      rw [hnf] at hy
      simp at hy
      subst hy
      exact hold y hbl hbf
  · rw [List.pairwise_append]
    refine ⟨k.mem.nn, by simp, ?_⟩
    intro a ha c hc y hy
    simp at hc
    subst hc
    rw [hnf]
    simp
    rintro rfl
    exact hbn a ha hy
theorem sh_snoc (n : Nd) : sh (N ++ [n]) = sh N ++ [n.t] := by simp [sh]
theorem ab_snoc (n : Nd) : ab (N ++ [n]) = ab N ++ [(n.t, n.x)] := by simp [ab]
theorem ab_setV (id : Int) (v : Value) : ab (N.map (setV id v)) = ab N := by
  unfold ab
  rw [List.map_map]
  apply List.map_congr_left
  intro n _
  simp [(setV_keep id v n).1, (setV_keep id v n).2.2.2]
/-- A root timer has been pushed. -/
theorem TM.root {w0 : World} (k : TM w0 t h fh N last) {w' : World} {fh' : List Nat} {req : Int} {x : Value} {b : Nat} (hlo : 0 ≤ last) (m : TK w' t h fh' (N ++ [newN last 0 req (min req (lim (sh N) 0)) x b]) (last + 1) (kids (sh N))) :
    TM w' t h fh' (N ++ [newN last 0 req (min req (lim (sh N) 0)) x b]) (last + 1) := by
  have ht : Tree (sh (N ++ [newN last 0 req (min req (lim (sh N) 0)) x b])) (last + 1) := by
    rw [sh_snoc]
    exact k.tree.snoc rfl hlo (.inl rfl)
  refine ⟨m.congr ?_, ht, ?_⟩
  · intro n hn
    rw [sh_snoc, kids_snoc, if_neg]
    have h1 := ht.top n.t (sh_mem hn)
    show (0 : Int) ≠ n.t.id
    omega
  · rw [sh_snoc]
    exact due_snoc k.tree rfl hlo (.inl rfl) rfl k.due
/-- A child has been pushed and told to its parent p. -/
theorem TM.child {w0 : World} (k : TM w0 t h fh N last) {w1 w' : World} {fh' : List Nat} {req : Int} {x v' : Value} {b : Nat} {p : Nd} (hp : p ∈ N) (hlo : 0 ≤ last) (m : TK w1 t h fh' (N ++ [newN last p.t.id req (min req (lim (sh N) p.t.id)) x b]) (last + 1) (kids (sh N)))
    (ht : Touch p.foot w1 w') (hh : w'.heap[p.b]? = some (.cells #[.int .i64 p.t.par, .int .u64 p.t.req, p.x, v'] 70 (0, 0))) (hr : w'.ownsRow 0 3 1 v' (kids (sh N) p.t.id ++ [last + 1]).length ((kids (sh N) p.t.id ++ [last + 1]).map (Value.int .i64)))
    (hn : v'.ownBlock = p.v.ownBlock ∨ v'.ownBlock = none ∨ ∃ g, v'.ownBlock = some g ∧ w1.heap.size ≤ g) :
    TM w' t h fh' ((N ++ [newN last p.t.id req (min req (lim (sh N) p.t.id)) x b]).map (setV p.t.id v')) (last + 1) ∧ ∀ y ∈ TFoot t fh' ((N ++ [newN last p.t.id req (min req (lim (sh N) p.t.id)) x b]).map (setV p.t.id v')), y ∈ TFoot t fh' (N ++ [newN last p.t.id req (min req (lim (sh N) p.t.id)) x b]) ∨ w1.heap.size ≤ y := by
  have hpt : p.t.id ∈ tids (sh N) := sh_tids hp
  have htr : Tree (sh (N ++ [newN last p.t.id req (min req (lim (sh N) p.t.id)) x b])) (last + 1) := by
    rw [sh_snoc]
    exact k.tree.snoc rfl hlo (.inr hpt)
  obtain ⟨m2, f2⟩ := m.kids_set htr.nodup (List.mem_append.2 (.inl hp)) ht hh hr hn
  refine ⟨⟨m2.congr ?_, by rw [sh_setV]; exact htr, ?_⟩, f2⟩
  · intro n hn
    rw [sh_setV, sh_snoc, kids_snoc]
    unfold putK
    by_cases e : n.t.id = p.t.id
    · have e2 : (newN last p.t.id req (min req (lim (sh N) p.t.id)) x b).t.par = p.t.id := rfl
      rw [if_pos e, e, if_pos e2]
      rfl
    · rw [if_neg e, if_neg]
      exact fun h => e h.symm
  · rw [sh_setV, sh_snoc]
    exact due_snoc k.tree rfl hlo (.inr hpt) rfl k.due
theorem TM.root_next {W w4 : World} {fh' : List Nat} {req : Int} {x : Value} {b : Nat} (k : TM w t h fh N last) (hlo : 0 ≤ last) (T0 : Touch [] w W) (hb : w.heap.size ≤ b)
    (m : TK w4 t h fh' (N ++ [newN last 0 req (min req (lim (sh N) 0)) x b]) (last + 1) (kids (sh N))) (f4 : ∀ y ∈ fh', y ∈ fh ∨ W.heap.size ≤ y) (t4 : Touch fh W w4) :
    TNext w t h (TFoot t fh N) (ab N ++ [(⟨last + 1, 0, req, min req (lim (sh N) 0)⟩, x)]) (last + 1) w4 := by
  refine ⟨_, ⟨fh', _, k.root hlo m, ab_snoc _, rfl⟩, ?_, ?_⟩
  · intro y hy
    rcases TFoot.mem.1 hy with rfl | hy | ⟨n, hn, hy⟩
    · exact .inl (TFoot.mem.2 (.inl rfl))
    · rcases f4 y hy with e | e
      · exact .inl (TFoot.mem.2 (.inr (.inl e)))
      · exact .inr (Nat.le_trans T0.size e)
    · rcases List.mem_append.1 hn with hn | hn
      · exact .inl (TFoot.mem.2 (.inr (.inr ⟨n, hn, hy⟩)))
      · simp at hn
        subst hn
        simp [newN, Nd.foot, Value.ownBlock] at hy
        subst hy
        exact .inr hb
  · exact (T0.mono (by simp)).trans t4 (fun y hy => .inl (TFoot.mem.2 (.inr (.inl hy))))
theorem TM.child_next {W w1 w' : World} {fh' : List Nat} {req : Int} {x v' : Value} {b : Nat} {p : Nd} (k : TM w t h fh N last) (hp : p ∈ N) (hlo : 0 ≤ last) (T0 : Touch [] w W) (hb : w.heap.size ≤ b)
    (m : TK w1 t h fh' (N ++ [newN last p.t.id req (min req (lim (sh N) p.t.id)) x b]) (last + 1) (kids (sh N))) (f4 : ∀ y ∈ fh', y ∈ fh ∨ W.heap.size ≤ y) (t4 : Touch fh W w1)
    (ht : Touch p.foot w1 w') (hh : w'.heap[p.b]? = some (.cells #[.int .i64 p.t.par, .int .u64 p.t.req, p.x, v'] 70 (0, 0))) (hr : w'.ownsRow 0 3 1 v' (kids (sh N) p.t.id ++ [last + 1]).length ((kids (sh N) p.t.id ++ [last + 1]).map (Value.int .i64)))
    (hn : v'.ownBlock = p.v.ownBlock ∨ v'.ownBlock = none ∨ ∃ g, v'.ownBlock = some g ∧ w1.heap.size ≤ g) :
    TNext w t h (TFoot t fh N) (ab N ++ [(⟨last + 1, p.t.id, req, min req (lim (sh N) p.t.id)⟩, x)]) (last + 1) w' := by
  obtain ⟨m2, f2⟩ := k.child hp hlo m ht hh hr hn
  refine ⟨_, ⟨fh', _, m2, by rw [ab_setV]; exact ab_snoc _, rfl⟩, ?_, ?_⟩
  · intro y hy
    rcases f2 y hy with hy | hy
    · rcases TFoot.mem.1 hy with rfl | hy | ⟨n, hn, hy⟩
      · exact .inl (TFoot.mem.2 (.inl rfl))
      · rcases f4 y hy with e | e
        · exact .inl (TFoot.mem.2 (.inr (.inl e)))
        · exact .inr (Nat.le_trans T0.size e)
      · rcases List.mem_append.1 hn with hn | hn
        · exact .inl (TFoot.mem.2 (.inr (.inr ⟨n, hn, hy⟩)))
        · simp at hn
          subst hn
          simp [newN, Nd.foot, Value.ownBlock] at hy
          subst hy
          exact .inr hb
    · exact .inr (Nat.le_trans T0.size (Nat.le_trans t4.size hy))
  · refine ((T0.mono (by simp)).trans t4 (fun y hy => .inl (TFoot.mem.2 (.inr (.inl hy))))).trans ht (fun y hy => .inl (TFoot.mem.2 (.inr (.inr ⟨p, hp, hy⟩))))
end
end Go.Proofs.Ytobkanlnnniabaa.S

/-
  The contract of Start.
-/
namespace Go.Proofs.Ytobkanlnnniabaa.S
open Go.RowKit
set_option linter.unusedVariables false
set_option linter.unusedSimpArgs false

theorem TM.u64 {w : World} {t h : Nat} {fh : List Nat} {N : List Nd} {last : Int} (k : TM w t h fh N last) : True := trivial
section
variable {w : World} {t h : Nat} {fh : List Nat} {N : List Nd} {last : Int}
set_option maxRecDepth 100000 in
set_option maxHeartbeats 2000000 in
theorem start_root (k : TM w t h fh N last) (due : Int) (x : Value) (hxo : x.oneCell' = true) (hR : 0 ≤ due ∧ due ≤ maxT) (hl : last < 1000) (hfew : N.length < 1000) :
    Calls Try.prog 15 #[.pointer (some ⟨t, 0, none⟩), .int .i64 0, .int .u64 due, x] w fun e w' => e = .returned (.tuple #[.int .i64 (last + 1), .bool true]) ∧ TNext w t h (TFoot t fh N) (ab N ++ [(⟨last + 1, 0, due, min due (lim (sh N) 0)⟩, x)]) (last + 1) w' := by
  have c0 := k.mem.cell
  have htf := k.mem.tf
  have hlo := k.mem.bag.lo.1
  have HG := Lib.hid (k.get_no 0 (okK_of (by omega) (by omega)) k.tree.zero)
  have HK := Lib.hid k
  have HR := Lib.hid hR
  have HD := Lib.hid hR.2
  have HP := Lib.hid (show okK 0 from okK_of (by omega) (by omega))
  have hnb : w.heap.size ∉ TFoot t fh N := fun e => Nat.lt_irrefl _ (k.mem.lt _ e)
  have hxc : x.cells = #[x] := by
    cases x <;> first | rfl | simp [Value.oneCell'] at hxo
  simp only [Value.cells] at hxc
  clear k hR
  go_enter Try.func15, Try.ntmps15
  go_wp2_with fail
  refine HG.out.mono ?_
  rintro e w' ⟨rfl, hw⟩
  obtain rfl : w = w' := hw.symm
  clear hw
  go_wp2_with fail
  have T0 := ((Touch.refl [] w).alloc (.cells #[.int .i64 0, .int .u64 due, x, .slice none 0 0] 70)).drew
  have HW0 := HK.out.touch T0 (by simp)
  have hb0 := ((Touch.refl [] (w.alloc (.cells #[.int .i64 0, .int .u64 due, x, .slice none 0 0] 70))).drew).at (heap_alloc_new w (.cells #[.int .i64 0, .int .u64 due, x, .slice none 0 0] 70)) (by simp)
  obtain ⟨W, hW⟩ : ∃ W, W = (w.alloc (.cells #[.int .i64 0, .int .u64 due, x, .slice none 0 0] 70)).drew := ⟨_, rfl⟩
  refine wp_region_held (S := Touch fh W) (by kernel_rfl) ?_
  change wpAnyH _ _ _ _ _ _ _ _ (w.alloc (.cells #[.int .i64 0, .int .u64 due, x, .slice none 0 0] 70)).drew
  rw [← hW] at T0 HW0 hb0 ⊢
  clear hW
  have HW := Lib.hid HW0
  have HT0 := Lib.hid T0
  have c0 := HW0.mem.cell
  clear HW0 T0
  generalize hnbe : w.heap.size = nb at *
  have hnz : w.heap.size ≤ nb := Nat.le_of_eq hnbe
  have hb := hb0
  have b0 : W.cell? ⟨nb, 0, none⟩ = some (.int .i64 0) := by simp [World.cell?, hb]
  clear hb0 hnbe
  have hS := Touch.refl fh W
  refine wpAnyH_take (i := 0) (oi := { dst := some 36, op := Op.move (Operand.tmp 0), type := 34, pos := "timer.go:43", after := #[], guard := none }) (v := .pointer (some ⟨t, 0, none⟩)) rfl (by kernel_rfl) (by kernel_rfl) (by kernel_rfl) (fun _ _ _ h => h) (Or.inl ⟨by rfl, fun w' hw => by go_simp⟩) hS ?_
  try simp only [Act.put, List.setIfInBounds_toArray, List.set_cons_zero, List.set_cons_succ]
  refine wpAnyH_take (i := 1) (oi := { dst := some 37, op := Op.nilCheck (Operand.tmp 36), type := 0, pos := "timer.go:43", after := #[{ on := 0, ground := Ground.data }], guard := none }) (v := .pointer (some ⟨t, 0, none⟩)) rfl (by kernel_rfl) (by kernel_rfl) (by kernel_rfl) (fun _ _ _ h => h) (Or.inl ⟨by rfl, fun w' hw => by go_simp⟩) hS ?_
  try simp only [Act.put, List.setIfInBounds_toArray, List.set_cons_zero, List.set_cons_succ]
  refine wpAnyH_take (i := 2) (oi := { dst := some 38, op := Op.fieldAddr 66 (Operand.tmp 37) 0, type := 0, pos := "timer.go:43", after := #[{ on := 1, ground := Ground.data }], guard := none }) (v := .pointer (some ⟨t, 0, none⟩)) rfl (by kernel_rfl) (by kernel_rfl) (by kernel_rfl) (fun _ _ _ h => h) (Or.inl ⟨by rfl, fun w' hw => by go_simp⟩) hS ?_
  try simp only [Act.put, List.setIfInBounds_toArray, List.set_cons_zero, List.set_cons_succ]
  refine wpAnyH_take (i := 3) (oi := { dst := some 39, op := Op.load 62 (Operand.tmp 38), type := 62, pos := "timer.go:43", after := #[{ on := 2, ground := Ground.data }], guard := none }) (v := .pointer (some ⟨h, 0, none⟩)) rfl (by kernel_rfl) (by kernel_rfl) (by kernel_rfl) (fun _ _ _ h => h) (Or.inl ⟨by rfl, fun w' hw => by (have q := hw.cell c0 htf; go_simp)⟩) hS ?_
  try simp only [Act.put, List.setIfInBounds_toArray, List.set_cons_zero, List.set_cons_succ]
  refine wpAnyH_take (i := 4) (oi := { dst := some 40, op := Op.move (Operand.tmp 2), type := 23, pos := "timer.go:43", after := #[], guard := none }) (v := .int .u64 due) rfl (by kernel_rfl) (by kernel_rfl) (by kernel_rfl) (fun _ _ _ h => h) (Or.inl ⟨by rfl, fun w' hw => by go_simp⟩) hS ?_
  try simp only [Act.put, List.setIfInBounds_toArray, List.set_cons_zero, List.set_cons_succ]
  refine wpAnyH_take (i := 5) (oi := { dst := some 41, op := Op.move (Operand.tmp 0), type := 34, pos := "timer.go:43", after := #[], guard := none }) (v := .pointer (some ⟨t, 0, none⟩)) rfl (by kernel_rfl) (by kernel_rfl) (by kernel_rfl) (fun _ _ _ h => h) (Or.inl ⟨by rfl, fun w' hw => by go_simp⟩) hS ?_
  try simp only [Act.put, List.setIfInBounds_toArray, List.set_cons_zero, List.set_cons_succ]
  refine wpAnyH_take (i := 6) (oi := { dst := some 42, op := Op.move (Operand.tmp 13), type := 64, pos := "timer.go:43", after := #[], guard := none }) (v := .pointer (some ⟨nb, 0, none⟩)) rfl (by kernel_rfl) (by kernel_rfl) (by kernel_rfl) (fun _ _ _ h => h) (Or.inl ⟨by rfl, fun w' hw => by go_simp⟩) hS ?_
  try simp only [Act.put, List.setIfInBounds_toArray, List.set_cons_zero, List.set_cons_succ]
  refine wpAnyH_take (i := 10) (oi := { dst := some 46, op := Op.move (Operand.tmp 13), type := 64, pos := "timer.go:43", after := #[], guard := none }) (v := .pointer (some ⟨nb, 0, none⟩)) rfl (by kernel_rfl) (by kernel_rfl) (by kernel_rfl) (fun _ _ _ h => h) (Or.inl ⟨by rfl, fun w' hw => by go_simp⟩) hS ?_
  try simp only [Act.put, List.setIfInBounds_toArray, List.set_cons_zero, List.set_cons_succ]
  refine wpAnyH_ready (rs := [7]) (by kernel_rfl) (by simp) ?_
  refine AllReadyH.cons (o := { dst := some 43, op := Op.call { callee := Callee.value (Operand.func 34), args := #[Operand.tmp 41, Operand.tmp 42], argTypes := #[34, 64] }, type := 23, pos := "timer.go:43", after := #[{ on := 5, ground := Ground.data }, { on := 6, ground := Ground.data }], guard := none }) rfl (fun K hK => ?_) AllReadyH.nil
  go_simp
  refine (limit_any HW.out nb 0 HP.out b0).mono ?_
  rintro e w' ⟨rfl, q2, rfl⟩
  have hS2 := hS.drews q2
  have HW2 := Lib.hid (HW.out.draws q2)
  have hb2 := (((Touch.refl [] W).drews q2).at hb (by simp))
  refine hK.out _ _ hS2 (fun _ => ?_)
  clear hK K hS HW hb b0
  have hS := hS2
  clear hS2
  generalize W.drewN q2 = W2 at *
  try simp only [Act.put, List.setIfInBounds_toArray, List.set_cons_zero, List.set_cons_succ]
  refine wpAnyH_ready (rs := [8]) (by kernel_rfl) (by simp) ?_
  refine AllReadyH.cons (o := { dst := some 44, op := Op.buildSlice 22 2 #[(0, Operand.tmp 40), (1, Operand.tmp 43)], type := 22, pos := "timer.go:43", after := #[{ on := 4, ground := Ground.data }, { on := 7, ground := Ground.data }], guard := none }) rfl (fun K hK => ?_) AllReadyH.nil
  go_simp
  have hS2 := hS.alloc (.cells #[.int .u64 due, .int .u64 (lim (sh N) 0)] 23)
  have gC := heap_alloc_new W2 (.cells #[.int .u64 due, .int .u64 (lim (sh N) 0)] 23)
  have tC := (Touch.refl [] W2).alloc (.cells #[.int .u64 due, .int .u64 (lim (sh N) 0)] 23)
  have HW3 := Lib.hid (HW2.out.touch tC (by simp))
  have hb3 := tC.at hb2 (by simp)
  refine hK.out _ _ hS2 (fun _ => ?_)
  clear hK K hS hb2 HW2 tC
  have hS := hS2
  clear hS2
  generalize W2.alloc (.cells #[.int .u64 due, .int .u64 (lim (sh N) 0)] 23) = W3 at *
  generalize W2.heap.size = g at *
  obtain ⟨d0, d1⟩ := cells_two gC
  clear gC
  try simp only [Act.put, List.setIfInBounds_toArray, List.set_cons_zero, List.set_cons_succ]
  refine wpAnyH_ready (rs := [9]) (by kernel_rfl) (by simp) ?_
  refine AllReadyH.cons (o := { dst := some 45, op := Op.call { callee := Callee.value (Operand.func 25), args := #[Operand.tmp 44], argTypes := #[22] }, type := 23, pos := "timer.go:43", after := #[{ on := 8, ground := Ground.data }, { on := 7, ground := Ground.chain }], guard := none }) rfl (fun K hK => ?_) AllReadyH.nil
  go_simp
  refine (min_two due (lim (sh N) 0) g _ HD.out d0 d1).mono ?_
  rintro e w' ⟨rfl, rfl⟩
  refine hK.out _ _ hS (fun _ => ?_)
  clear hK K d0 d1
  try simp only [Act.put, List.setIfInBounds_toArray, List.set_cons_zero, List.set_cons_succ]
  refine wpAnyH_ready (rs := [11]) (by kernel_rfl) (by simp) ?_
  refine AllReadyH.cons (o := { dst := some 47, op := Op.call { callee := Callee.value (Operand.func 33), args := #[Operand.tmp 39, Operand.tmp 45, Operand.tmp 46], argTypes := #[62, 23, 64] }, type := 3, pos := "timer.go:43", after := #[{ on := 3, ground := Ground.data }, { on := 9, ground := Ground.data }, { on := 10, ground := Ground.data }, { on := 9, ground := Ground.chain }], guard := none }) rfl (fun K hK => ?_) AllReadyH.nil
  go_simp
  refine (HW3.out.mem.bag.push (min due (lim (sh N) 0)) (.pointer (some ⟨nb, 0, none⟩)) rfl (by omega) (by simpa using hfew)).mono ?_
  rintro e w4 ⟨rfl, nx⟩
  have hS0 := hS
  obtain ⟨fh', m4, f4, t4⟩ := TK.pushed HW3.out hb3 hnb hxo HR.out hfew nx
  have hS2 := hS.trans t4 (fun y hy => .inl hy)
  refine hK.out _ _ hS2 (fun _ => ?_)
  clear hK K hS nx t4 hb3 HW3
  have M4 := Lib.hid m4
  have F4 := Lib.hid (show ∀ y ∈ fh', y ∈ fh ∨ W.heap.size ≤ y from fun y hy => by rcases f4 y hy with e | e; exact .inl e; exact .inr (Nat.le_trans hS0.size e))
  have hS := hS2
  clear hS2 m4 f4
  try simp only [Act.put, List.setIfInBounds_toArray, List.set_cons_zero, List.set_cons_succ]
  refine wpAnyH_take (i := 12) (oi := { dst := some 14, op := Op.assign (Operand.tmp 47), type := 3, pos := "timer.go:43", after := #[{ on := 11, ground := Ground.data }, { on := 11, ground := Ground.chain }, { on := 0, ground := Ground.phase }, { on := 1, ground := Ground.phase }, { on := 2, ground := Ground.phase }, { on := 3, ground := Ground.phase }, { on := 4, ground := Ground.phase }, { on := 5, ground := Ground.phase }, { on := 6, ground := Ground.phase }, { on := 7, ground := Ground.phase }, { on := 8, ground := Ground.phase }, { on := 9, ground := Ground.phase }, { on := 10, ground := Ground.phase }, { on := 11, ground := Ground.phase }], guard := none }) (v := .int .i64 (last + 1)) rfl (by kernel_rfl) (by kernel_rfl) (by kernel_rfl) (fun _ _ _ h => h) (Or.inl ⟨by rfl, fun w' hw => by go_simp⟩) hS ?_
  try simp only [Act.put, List.setIfInBounds_toArray, List.set_cons_zero, List.set_cons_succ]
  refine wpAnyH_done (by kernel_rfl) ?_ _
  try simp only [Act.put, List.setIfInBounds_toArray, List.set_cons_zero, List.set_cons_succ]
  go_wp2_with fail
  go_ret2
  exact ⟨rfl, HK.out.root_next hlo HT0.out hnz M4.out F4.out hS⟩
set_option maxRecDepth 100000 in
set_option maxHeartbeats 2000000 in
theorem start_no (k : TM w t h fh N last) (par due : Int) (x : Value) (hp : okK par) (h0 : par ≠ 0) (hn : par ∉ tids (sh N)) :
    Calls Try.prog 15 #[.pointer (some ⟨t, 0, none⟩), .int .i64 par, .int .u64 due, x] w fun e w' => e = .returned (.tuple #[.int .i64 0, .bool false]) ∧ w' = w := by
  have c0 := k.mem.cell
  have HG := Lib.hid (k.get_no par hp hn)
  have q1 : (par != 0) = true := by simpa using h0
  have q2 : (par == 0) = false := by simpa using h0
  clear k hn
  go_enter Try.func15, Try.ntmps15
  go_wp2_with fail
  refine HG.out.mono ?_
  rintro e w' ⟨rfl, hw⟩
  obtain rfl : w = w' := hw.symm
  clear hw
  go_wp2_with fail
  go_ret2
  exact ⟨rfl, rfl⟩
set_option maxRecDepth 100000 in
set_option maxHeartbeats 2000000 in
theorem start_child (k : TM w t h fh N last) (p : Nd) (hp : p ∈ N) (due : Int) (x : Value) (hxo : x.oneCell' = true) (hR : 0 ≤ due ∧ due ≤ maxT) (hl : last < 1000) (hfew : N.length < 1000) :
    Calls Try.prog 15 #[.pointer (some ⟨t, 0, none⟩), .int .i64 p.t.id, .int .u64 due, x] w fun e w' => e = .returned (.tuple #[.int .i64 (last + 1), .bool true]) ∧ TNext w t h (TFoot t fh N) (ab N ++ [(⟨last + 1, p.t.id, due, min due (lim (sh N) p.t.id)⟩, x)]) (last + 1) w' := by
  have c0 := k.mem.cell
  have htf := k.mem.tf
  have hlo := k.mem.bag.lo.1
  have HG := Lib.hid (k.get p hp)
  have HK0 := Lib.hid k
  have HPN := Lib.hid hp
  have HR := Lib.hid hR
  have HD := Lib.hid hR.2
  have HP := Lib.hid (k.oki (sh_tids hp)).1
  have hxc : x.cells = #[x] := by
    cases x <;> first | rfl | simp [Value.oneCell'] at hxo
  simp only [Value.cells] at hxc
  clear k hR hp
  go_enter Try.func15, Try.ntmps15
  go_wp2_with fail
  refine HG.out.mono ?_
  rintro e w' ⟨rfl, q, rfl⟩
  have HK := Lib.hid (HK0.out.draws q)
  have hnb : (w.drewN q).heap.size ∉ TFoot t fh N := fun e => Nat.lt_irrefl _ (HK.out.mem.lt _ e)
  have TQ := Lib.hid ((Touch.refl [] w).drews q)
  clear HG
  generalize w.drewN q = wq at *
  have c0 := HK.out.mem.cell
  go_wp2_with fail
  have T0 := ((Touch.refl [] wq).alloc (.cells #[.int .i64 p.t.id, .int .u64 due, x, .slice none 0 0] 70)).drew
  have HW0 := HK.out.touch T0 (by simp)
  have hb0 := ((Touch.refl [] (wq.alloc (.cells #[.int .i64 p.t.id, .int .u64 due, x, .slice none 0 0] 70))).drew).at (heap_alloc_new wq (.cells #[.int .i64 p.t.id, .int .u64 due, x, .slice none 0 0] 70)) (by simp)
  obtain ⟨W, hW⟩ : ∃ W, W = (wq.alloc (.cells #[.int .i64 p.t.id, .int .u64 due, x, .slice none 0 0] 70)).drew := ⟨_, rfl⟩
  refine wp_region_held (S := Touch fh W) (by kernel_rfl) ?_
  change wpAnyH _ _ _ _ _ _ _ _ (wq.alloc (.cells #[.int .i64 p.t.id, .int .u64 due, x, .slice none 0 0] 70)).drew
  rw [← hW] at T0 HW0 hb0 ⊢
  clear hW
  have HW := Lib.hid HW0
  have HT0 := Lib.hid (TQ.out.trans T0 (by simp))
  have c0 := HW0.mem.cell
  clear HW0 T0
  generalize hnbe : wq.heap.size = nb at *
  have hnz : w.heap.size ≤ nb := Nat.le_trans TQ.out.size (Nat.le_of_eq hnbe)
  have hb := hb0
  have b0 : W.cell? ⟨nb, 0, none⟩ = some (.int .i64 p.t.id) := by simp [World.cell?, hb]
  clear hb0 hnbe
  have hS := Touch.refl fh W
  refine wpAnyH_take (i := 0) (oi := { dst := some 36, op := Op.move (Operand.tmp 0), type := 34, pos := "timer.go:43", after := #[], guard := none }) (v := .pointer (some ⟨t, 0, none⟩)) rfl (by kernel_rfl) (by kernel_rfl) (by kernel_rfl) (fun _ _ _ h => h) (Or.inl ⟨by rfl, fun w' hw => by go_simp⟩) hS ?_
  try simp only [Act.put, List.setIfInBounds_toArray, List.set_cons_zero, List.set_cons_succ]
  refine wpAnyH_take (i := 1) (oi := { dst := some 37, op := Op.nilCheck (Operand.tmp 36), type := 0, pos := "timer.go:43", after := #[{ on := 0, ground := Ground.data }], guard := none }) (v := .pointer (some ⟨t, 0, none⟩)) rfl (by kernel_rfl) (by kernel_rfl) (by kernel_rfl) (fun _ _ _ h => h) (Or.inl ⟨by rfl, fun w' hw => by go_simp⟩) hS ?_
  try simp only [Act.put, List.setIfInBounds_toArray, List.set_cons_zero, List.set_cons_succ]
  refine wpAnyH_take (i := 2) (oi := { dst := some 38, op := Op.fieldAddr 66 (Operand.tmp 37) 0, type := 0, pos := "timer.go:43", after := #[{ on := 1, ground := Ground.data }], guard := none }) (v := .pointer (some ⟨t, 0, none⟩)) rfl (by kernel_rfl) (by kernel_rfl) (by kernel_rfl) (fun _ _ _ h => h) (Or.inl ⟨by rfl, fun w' hw => by go_simp⟩) hS ?_
  try simp only [Act.put, List.setIfInBounds_toArray, List.set_cons_zero, List.set_cons_succ]
  refine wpAnyH_take (i := 3) (oi := { dst := some 39, op := Op.load 62 (Operand.tmp 38), type := 62, pos := "timer.go:43", after := #[{ on := 2, ground := Ground.data }], guard := none }) (v := .pointer (some ⟨h, 0, none⟩)) rfl (by kernel_rfl) (by kernel_rfl) (by kernel_rfl) (fun _ _ _ h => h) (Or.inl ⟨by rfl, fun w' hw => by (have q := hw.cell c0 htf; go_simp)⟩) hS ?_
  try simp only [Act.put, List.setIfInBounds_toArray, List.set_cons_zero, List.set_cons_succ]
  refine wpAnyH_take (i := 4) (oi := { dst := some 40, op := Op.move (Operand.tmp 2), type := 23, pos := "timer.go:43", after := #[], guard := none }) (v := .int .u64 due) rfl (by kernel_rfl) (by kernel_rfl) (by kernel_rfl) (fun _ _ _ h => h) (Or.inl ⟨by rfl, fun w' hw => by go_simp⟩) hS ?_
  try simp only [Act.put, List.setIfInBounds_toArray, List.set_cons_zero, List.set_cons_succ]
  refine wpAnyH_take (i := 5) (oi := { dst := some 41, op := Op.move (Operand.tmp 0), type := 34, pos := "timer.go:43", after := #[], guard := none }) (v := .pointer (some ⟨t, 0, none⟩)) rfl (by kernel_rfl) (by kernel_rfl) (by kernel_rfl) (fun _ _ _ h => h) (Or.inl ⟨by rfl, fun w' hw => by go_simp⟩) hS ?_
  try simp only [Act.put, List.setIfInBounds_toArray, List.set_cons_zero, List.set_cons_succ]
  refine wpAnyH_take (i := 6) (oi := { dst := some 42, op := Op.move (Operand.tmp 13), type := 64, pos := "timer.go:43", after := #[], guard := none }) (v := .pointer (some ⟨nb, 0, none⟩)) rfl (by kernel_rfl) (by kernel_rfl) (by kernel_rfl) (fun _ _ _ h => h) (Or.inl ⟨by rfl, fun w' hw => by go_simp⟩) hS ?_
  try simp only [Act.put, List.setIfInBounds_toArray, List.set_cons_zero, List.set_cons_succ]
  refine wpAnyH_take (i := 10) (oi := { dst := some 46, op := Op.move (Operand.tmp 13), type := 64, pos := "timer.go:43", after := #[], guard := none }) (v := .pointer (some ⟨nb, 0, none⟩)) rfl (by kernel_rfl) (by kernel_rfl) (by kernel_rfl) (fun _ _ _ h => h) (Or.inl ⟨by rfl, fun w' hw => by go_simp⟩) hS ?_
  try simp only [Act.put, List.setIfInBounds_toArray, List.set_cons_zero, List.set_cons_succ]
  refine wpAnyH_ready (rs := [7]) (by kernel_rfl) (by simp) ?_
  refine AllReadyH.cons (o := { dst := some 43, op := Op.call { callee := Callee.value (Operand.func 34), args := #[Operand.tmp 41, Operand.tmp 42], argTypes := #[34, 64] }, type := 23, pos := "timer.go:43", after := #[{ on := 5, ground := Ground.data }, { on := 6, ground := Ground.data }], guard := none }) rfl (fun K hK => ?_) AllReadyH.nil
  go_simp
  refine (limit_any HW.out nb p.t.id HP.out b0).mono ?_
  rintro e w' ⟨rfl, q2, rfl⟩
  have hS2 := hS.drews q2
  have HW2 := Lib.hid (HW.out.draws q2)
  have hb2 := (((Touch.refl [] W).drews q2).at hb (by simp))
  refine hK.out _ _ hS2 (fun _ => ?_)
  clear hK K hS HW hb b0
  have hS := hS2
  clear hS2
  generalize W.drewN q2 = W2 at *
  try simp only [Act.put, List.setIfInBounds_toArray, List.set_cons_zero, List.set_cons_succ]
  refine wpAnyH_ready (rs := [8]) (by kernel_rfl) (by simp) ?_
  refine AllReadyH.cons (o := { dst := some 44, op := Op.buildSlice 22 2 #[(0, Operand.tmp 40), (1, Operand.tmp 43)], type := 22, pos := "timer.go:43", after := #[{ on := 4, ground := Ground.data }, { on := 7, ground := Ground.data }], guard := none }) rfl (fun K hK => ?_) AllReadyH.nil
  go_simp
  have hS2 := hS.alloc (.cells #[.int .u64 due, .int .u64 (lim (sh N) p.t.id)] 23)
  have gC := heap_alloc_new W2 (.cells #[.int .u64 due, .int .u64 (lim (sh N) p.t.id)] 23)
  have tC := (Touch.refl [] W2).alloc (.cells #[.int .u64 due, .int .u64 (lim (sh N) p.t.id)] 23)
  have HW3 := Lib.hid (HW2.out.touch tC (by simp))
  have hb3 := tC.at hb2 (by simp)
  refine hK.out _ _ hS2 (fun _ => ?_)
  clear hK K hS hb2 HW2 tC
  have hS := hS2
  clear hS2
  generalize W2.alloc (.cells #[.int .u64 due, .int .u64 (lim (sh N) p.t.id)] 23) = W3 at *
  generalize W2.heap.size = g at *
  obtain ⟨d0, d1⟩ := cells_two gC
  clear gC
  try simp only [Act.put, List.setIfInBounds_toArray, List.set_cons_zero, List.set_cons_succ]
  refine wpAnyH_ready (rs := [9]) (by kernel_rfl) (by simp) ?_
  refine AllReadyH.cons (o := { dst := some 45, op := Op.call { callee := Callee.value (Operand.func 25), args := #[Operand.tmp 44], argTypes := #[22] }, type := 23, pos := "timer.go:43", after := #[{ on := 8, ground := Ground.data }, { on := 7, ground := Ground.chain }], guard := none }) rfl (fun K hK => ?_) AllReadyH.nil
  go_simp
  refine (min_two due (lim (sh N) p.t.id) g _ HD.out d0 d1).mono ?_
  rintro e w' ⟨rfl, rfl⟩
  refine hK.out _ _ hS (fun _ => ?_)
  clear hK K d0 d1
  try simp only [Act.put, List.setIfInBounds_toArray, List.set_cons_zero, List.set_cons_succ]
  refine wpAnyH_ready (rs := [11]) (by kernel_rfl) (by simp) ?_
  refine AllReadyH.cons (o := { dst := some 47, op := Op.call { callee := Callee.value (Operand.func 33), args := #[Operand.tmp 39, Operand.tmp 45, Operand.tmp 46], argTypes := #[62, 23, 64] }, type := 3, pos := "timer.go:43", after := #[{ on := 3, ground := Ground.data }, { on := 9, ground := Ground.data }, { on := 10, ground := Ground.data }, { on := 9, ground := Ground.chain }], guard := none }) rfl (fun K hK => ?_) AllReadyH.nil
  go_simp
  refine (HW3.out.mem.bag.push (min due (lim (sh N) p.t.id)) (.pointer (some ⟨nb, 0, none⟩)) rfl (by omega) (by simpa using hfew)).mono ?_
  rintro e w4 ⟨rfl, nx⟩
  have hS0 := hS
  obtain ⟨fh', m4, f4, t4⟩ := TK.pushed HW3.out hb3 hnb hxo HR.out hfew nx
  have hS2 := hS.trans t4 (fun y hy => .inl hy)
  refine hK.out _ _ hS2 (fun _ => ?_)
  clear hK K hS nx t4 hb3 HW3
  have M4 := Lib.hid m4
  have F4 := Lib.hid (show ∀ y ∈ fh', y ∈ fh ∨ W.heap.size ≤ y from fun y hy => by rcases f4 y hy with e | e; exact .inl e; exact .inr (Nat.le_trans hS0.size e))
  have hS := hS2
  clear hS2 m4 f4
  try simp only [Act.put, List.setIfInBounds_toArray, List.set_cons_zero, List.set_cons_succ]
  refine wpAnyH_take (i := 12) (oi := { dst := some 14, op := Op.assign (Operand.tmp 47), type := 3, pos := "timer.go:43", after := #[{ on := 11, ground := Ground.data }, { on := 11, ground := Ground.chain }, { on := 0, ground := Ground.phase }, { on := 1, ground := Ground.phase }, { on := 2, ground := Ground.phase }, { on := 3, ground := Ground.phase }, { on := 4, ground := Ground.phase }, { on := 5, ground := Ground.phase }, { on := 6, ground := Ground.phase }, { on := 7, ground := Ground.phase }, { on := 8, ground := Ground.phase }, { on := 9, ground := Ground.phase }, { on := 10, ground := Ground.phase }, { on := 11, ground := Ground.phase }], guard := none }) (v := .int .i64 (last + 1)) rfl (by kernel_rfl) (by kernel_rfl) (by kernel_rfl) (fun _ _ _ h => h) (Or.inl ⟨by rfl, fun w' hw => by go_simp⟩) hS ?_
  try simp only [Act.put, List.setIfInBounds_toArray, List.set_cons_zero, List.set_cons_succ]
  refine wpAnyH_done (by kernel_rfl) ?_ _
  have hpn := (M4.out.nd p (List.mem_append.2 (.inl HPN.out)))
  have HPD := Lib.hid hpn
  have hpl := hpn.lt
  obtain ⟨m0, m1, m2, m3⟩ := hpn.cells
  have hrow := hpn.row
  have hpv := hpn.hv
  have hkl : (kids (sh N) p.t.id).length ≤ 1000 := by
    have := nodup_few (HK.out.tree.kids_nodup p.t.id) (fun m hm => kids_sub hm)
    have h2 : (tids (sh N)).length = N.length := by simp [tids, sh]
    omega
  obtain ⟨i3, z3, hi3, hz3, hs3, hb3, hc3⟩ := ninfo_parts info3
  clear m0 m1 m2 hpn
  try simp only [Act.put, List.setIfInBounds_toArray, List.set_cons_zero, List.set_cons_succ]
  go_wp2_with (at_builtin; refine wpList_app1 w4 (by rfl) _ _ 33 (by rfl) 3 i3 z3 8 Try.underlying33 hi3 hz3 hs3 hb3 hc3 p.v _ _ (by rfl) hrow (.int .i64 (last + 1)) 3 (by rfl) (by rfl) (by unfold maxLen; omega) (by omega) ?_)
  intro v' w5 o5 t5 b5
  have hpb : p.b ∉ p.v.ownBlock.toList := by simpa using hpv
  have hh5 := t5.at HPD.out.hdr hpb
  have m3 : w5.cell? ⟨p.b, 3, none⟩ = some p.v := by simp [World.cell?, hh5]
  have g3 : w5.frozen? ⟨p.b, 3, none⟩ = false := by simp [World.frozen?, hh5]
  have hb5 : v'.ownBlock ≠ some p.b := by
    rcases b5 with e | e
    · rw [e]
      exact hpv
    · rw [e]
      intro e
      have := hpl p.b (by simp [Nd.foot])
      simp at e
      omega
  have T6 := (t5.mono (S' := p.foot) (by intro y hy; left; simp only [Nd.foot, List.mem_cons]; exact .inr hy)).trans ((Touch.refl [p.b] w5).setCell (p := ⟨p.b, 3, none⟩) (by simp) v') (by intro y hy; left; simp at hy; simp [Nd.foot, hy])
  have H6 : (w5.setCell ⟨p.b, 3, none⟩ v').heap[p.b]? = some (.cells #[.int .i64 p.t.par, .int .u64 p.t.req, p.x, v'] 70 (0, 0)) := by simp [World.setCell, Array.getElem?_modify, hh5]
  have R6 := ((Touch.refl [p.b] w5).setCell (p := ⟨p.b, 3, none⟩) (by simp) v').owns o5 (by intro g hg e; simp at e; exact hb5 (by rw [hg, e]))
  have HF := Lib.hid (HK0.out.child_next HPN.out hlo HT0.out hnz M4.out F4.out hS T6 H6 (by simpa using R6) (by rcases b5 with e | e; exact .inl e; exact .inr (.inr ⟨_, e, by omega⟩)))
  obtain ⟨av5, cv5, rfl, hw1, hw2, hw3⟩ := owns_form o5
  clear T6 H6 R6 o5 t5 hh5 hrow hb5 b5 hpl hS hw1 hw2 hw3
  try simp only [Act.put, List.setIfInBounds_toArray, List.set_cons_zero, List.set_cons_succ]
  go_wp2_with fail
  go_ret2
  exact ⟨rfl, HF.out⟩
end
section
variable {w : World} {t h : Nat} {f : List Nat} {A : List (Tm × Value)} {last : Int}
theorem TS.start (k : TS w t h f A last) (par due : Int) (x : Value) (hxo : x.oneCell' = true) (hR : 0 ≤ due ∧ due ≤ maxT) (hl : last < 1000) (hfew : A.length < 1000) (hp : par = 0 ∨ par ∈ tids (A.map Prod.fst)) :
    Calls Try.prog 15 #[.pointer (some ⟨t, 0, none⟩), .int .i64 par, .int .u64 due, x] w fun e w' => e = .returned (.tuple #[.int .i64 (last + 1), .bool true]) ∧ TNext w t h f (A ++ [(⟨last + 1, par, due, min due (lim (A.map Prod.fst) par)⟩, x)]) (last + 1) w' := by
  obtain ⟨fh, N, hm, rfl, rfl⟩ := k
  rw [ab_fst] at hp ⊢
  have hfew' : N.length < 1000 := by simpa [ab] using hfew
  rcases hp with rfl | hp
  · exact start_root hm due x hxo hR hl hfew'
  · obtain ⟨n, hn, rfl⟩ := sh_at hp
    exact start_child hm n hn due x hxo hR hl hfew'
theorem TS.start_no (k : TS w t h f A last) (par due : Int) (x : Value) (hp : okK par) (h0 : par ≠ 0) (hn : par ∉ tids (A.map Prod.fst)) :
    Calls Try.prog 15 #[.pointer (some ⟨t, 0, none⟩), .int .i64 par, .int .u64 due, x] w fun e w' => e = .returned (.tuple #[.int .i64 0, .bool false]) ∧ w' = w := by
  obtain ⟨fh, N, hm, rfl, rfl⟩ := k
  rw [ab_fst] at hn
  exact S.start_no hm par due x hp h0 hn
end
end Go.Proofs.Ytobkanlnnniabaa.S

/-
  slices.DeleteFunc and slices.IndexFunc at Cancel's closure: one handle taken out of a list.
-/
namespace Go.Proofs.Ytobkanlnnniabaa.S
open Go.RowKit
set_option linter.unusedVariables false
set_option linter.unusedSimpArgs false

def isC (c : Int) (k : Int) : Bool := decide (k ≠ c)
set_option maxRecDepth 100000 in
set_option maxHeartbeats 1000000 in
theorem clos_any (c k : Int) (q : Nat) (w : World) (h : w.cell? ⟨q, 0, none⟩ = some (.int .i64 c)) :
    Calls Try.prog 37 #[.int .i64 k, .pointer (some ⟨q, 0, none⟩)] w fun e w' => e = .returned (.bool (!isC c k)) ∧ w = w' := by
  have e : (!isC c k) = (k == c) := by
    by_cases hh : k = c
    · simp [isC, hh]
    · simp [isC, hh, BEq.beq]
  rw [e]
  clear e
  go_enter Try.func37, Try.ntmps37
  go_wp2_with fail
  go_ret
  exact ⟨rfl, rfl⟩
/-- The place of the handle, or the length. -/
def outAt (c : Int) (ks : List Int) : Nat := ks.findIdx (fun k => !isC c k)
theorem outAt_le (c : Int) (ks : List Int) : outAt c ks ≤ ks.length := List.findIdx_le_length
theorem outAt_before {c : Int} {ks : List Int} {i : Nat} {k : Int} (hi : i < outAt c ks) (hk : ks[i]? = some k) : isC c k = true := by
  obtain ⟨hl, he⟩ := List.getElem?_eq_some_iff.1 hk
  have h2 := List.not_of_lt_findIdx (p := fun k : Int => !isC c k) (xs := ks) hi
  rw [he] at h2
  simpa using h2
theorem outAt_at {c : Int} {ks : List Int} {k : Int} (hk : ks[outAt c ks]? = some k) : isC c k = false := by
  obtain ⟨hl, he⟩ := List.getElem?_eq_some_iff.1 hk
  have h2 := List.findIdx_getElem (p := fun k : Int => !isC c k) (xs := ks) (w := hl)
  have h3 : ks[List.findIdx (fun k : Int => !isC c k) ks] = k := he
  rw [h3] at h2
  simpa using h2
def ixv (c : Int) (ks : List Int) : Int := if outAt c ks < ks.length then (outAt c ks : Int) else -1
def Row (w : World) (v : Value) (ks : List Int) : Prop := w.ownsRow 0 3 1 v ks.length (ks.map (Value.int .i64))
theorem Row.form {w : World} {v : Value} {ks : List Int} (h : Row w v ks) : ∃ a c, v = .slice a ks.length c ∧ ks.length ≤ c ∧ c ≤ maxLen ∧ (0 < ks.length → ∃ g, a = some ⟨g, 0, none⟩) := owns_form h
theorem Row.cell {w : World} {g n c : Nat} {ks : List Int} (h : Row w (.slice (some ⟨g, 0, none⟩) n c) ks) {i : Nat} {k : Int} (hk : ks[i]? = some k) : w.cell? ⟨g, i, none⟩ = some (.int .i64 k) := by
  obtain ⟨a, c', hv, _⟩ := Row.form h
  simp at hv
  obtain ⟨rfl, rfl, rfl⟩ := hv
  exact owns_cell h i _ (by simp [hk])
set_option maxRecDepth 100000 in
set_option maxHeartbeats 1000000 in
theorem ix_any (v : Value) (ks : List Int) (c : Int) (q : Nat) (w : World) (hl : ks.length ≤ 1000) (h1 : Row w v ks) (h : w.cell? ⟨q, 0, none⟩ = some (.int .i64 c)) :
    Calls Try.prog 48 #[v, .func (.func 37) #[] #[.pointer (some ⟨q, 0, none⟩)]] w fun e w' => e = .returned (.int .i64 (ixv c ks)) ∧ w = w' := by
  obtain ⟨a1, c1, rfl, hc1, hm1, hv1⟩ := h1.form
  have hix := outAt_le c ks
  have hcv : c1 ≤ 9223372036854775807 := by unfold maxLen at hm1; omega
  clear hm1
  go_enter Try.func48, Try.ntmps48
  go_wp2_with fail
  go_loop [8] (fun vi => ∃ (i : Nat), i ≤ outAt c ks ∧ vi = .int .i64 i) (fun vi => ks.length - (intOf vi).toNat)
  case atStart => exact ⟨0, by omega, rfl⟩
  case round =>
    obtain ⟨i, hi, rfl⟩ := hrel
    by_cases hlt : i < ks.length
    · have hx : ks[i]? = some ks[i] := List.getElem?_eq_getElem hlt
      generalize ks[i] = k at hx
      obtain ⟨g, rfl⟩ := hv1 (by omega)
      have p1 := h1.cell hx
      have q3 : (i : Int) < (ks.length : Int) := by omega
      by_cases hin : i < outAt c ks
      · have hc := Lib.hid (outAt_before hin hx)
        clear hx
        go_wp2_with fail
        refine (clos_any c k q _ h).mono ?_
        rintro e w2 ⟨rfl, rfl⟩
        rw [hc.out]
        clear p1
        go_wp2_with fail
        go_round
        case rel => exact ⟨i + 1, by omega, by go_num⟩
        case measure => simp [intOf]; omega
      · have e : outAt c ks = i := by omega
        have hc := Lib.hid (outAt_at (by rw [e]; exact hx))
        have HE := Lib.hid (show ixv c ks = (i : Int) by unfold ixv; rw [e, if_pos hlt])
        clear hx e
        go_wp2_with fail
        refine (clos_any c k q _ h).mono ?_
        rintro e w2 ⟨rfl, rfl⟩
        rw [hc.out]
        clear p1
        go_wp2_with fail
        go_ret
        exact ⟨by rw [HE.out]; rfl, rfl⟩
    · have HE := Lib.hid (show ixv c ks = -1 by unfold ixv; rw [if_neg (by omega)])
      go_wp2_with fail
      go_ret
      exact ⟨by rw [HE.out]; rfl, rfl⟩
theorem owns_setCells {w : World} {g n c : Nat} : ∀ (zs : List Value) (o : Nat) (w : World) (xs : List Value), w.ownsRow 0 3 1 (.slice (some ⟨g, 0, none⟩) n c) n xs →
    ∃ ys, (w.setCells g o zs).ownsRow 0 3 1 (.slice (some ⟨g, 0, none⟩) n c) n ys ∧ ys.take o = xs.take o
  | [], o, w, xs, h => ⟨xs, h, rfl⟩
  | z :: zs, o, w, xs, h => by
    obtain ⟨ys, h1, h2⟩ := owns_setCells (w := w) zs (o + 1) (w.setCell ⟨g, o, none⟩ z) (xs.set o z) (owns_set h o z)
    refine ⟨ys, h1, ?_⟩
    have h3 := congrArg (List.take o) h2
    rw [List.take_take, List.take_take, Nat.min_eq_left (by omega)] at h3
    rw [h3, List.take_set_of_le (by omega)]
theorem setCells_touch (b : Nat) : ∀ (vs : List Value) (o : Nat) (w : World), Touch [b] w (w.setCells b o vs)
  | [], _, w => Touch.refl _ _
  | v :: r, o, w => ((Touch.refl [b] w).setCell (p := ⟨b, o, none⟩) (by simp) v).trans (setCells_touch b r (o + 1) _) (by simp)
theorem run_clear_rows {P : Program} (w : World) (t e ty : TypeId) (z : Value) (k : Nat) (ht : P.underlying t = some (.slice e)) (hv : ∀ w, (zeroValue e).run P w = .ok z w) (hz : z.cells.size = k) (h1 : ∀ v ∈ z.cells.toList, v.oneCell' = true) (b o n c : Nat) (hn : 0 < n)
    (hc : ∀ j, j < n * k → (w.cell? ⟨b, o + j, none⟩).isSome = true) (hf : ∀ j, j < n * k → w.frozen? ⟨b, o + j, none⟩ = false) :
    ∃ zs, (Builtin.clear_ #[t] ty #[.slice (some ⟨b, o, none⟩) n c]).run P w = .ok (.tuple #[]) (w.setCells b o zs) := by
  have hl : (Builtin.zeroCells z.cells n).toList.length = n * k := by simp [Builtin.zeroCells, hz]
  have ho : ∀ v ∈ (Builtin.zeroCells z.cells n).toList, v.oneCell' = true := by
    intro v hv'
    simp only [Builtin.zeroCells] at hv'
    simp at hv'
    obtain ⟨i, hi, rfl⟩ := hv'
    have hk : 0 < z.cells.size := by
      rcases Nat.eq_zero_or_pos z.cells.size with h0 | h0
      · rw [h0] at hi; simp at hi
      · exact h0
    have hm := Nat.mod_lt i hk
    refine h1 _ ?_
    simp [hm]
  have hst := run_storeCells_cells (P := P) b o (Builtin.zeroCells z.cells n).toList 0 w (by simpa [hl] using hc) (by simpa [hl] using hf) ho
  simp only [Nat.add_zero] at hst
  obtain ⟨m, rfl⟩ : ∃ m, n = m + 1 := ⟨n - 1, by omega⟩
  exact ⟨(Builtin.zeroCells z.cells (m + 1)).toList, by simp [Builtin.clear_, run_underlying ht, hv, hst]⟩
theorem all_in {c : Int} {ks : List Int} (h : ks.length ≤ outAt c ks) : ks.filter (isC c) = ks := by
  rw [List.filter_eq_self]
  intro k hk
  obtain ⟨i, hi⟩ := List.getElem?_of_mem hk
  have := (List.getElem?_eq_some_iff.1 hi).1
  exact outAt_before (by omega) hi
theorem take_in {c : Int} {ks : List Int} (h : outAt c ks < ks.length) : (ks.take (outAt c ks + 1)).filter (isC c) = ks.take (outAt c ks) := by
  have hx := List.getElem?_eq_getElem h
  have ho := outAt_at (c := c) hx
  rw [List.take_add_one, hx, List.filter_append]
  have e1 : (ks.take (outAt c ks)).filter (isC c) = ks.take (outAt c ks) := by
    rw [List.filter_eq_self]
    intro k hk
    obtain ⟨i, hi⟩ := List.getElem?_of_mem hk
    rw [List.getElem?_take] at hi
    split at hi
    · exact outAt_before (by assumption) hi
    · cases hi
  rw [e1]
  simp [ho]
/-- What the loop of DeleteFunc has done. -/
structure Dl (w wr : World) (g n cv : Nat) (ks : List Int) (c : Int) (i j : Nat) (ds : List Int) : Prop where
  row : wr.ownsRow 0 3 1 (.slice (some ⟨g, 0, none⟩) n cv) n (ds.map (Value.int .i64))
  len : ds.length = n
  ij : i < j
  jn : j ≤ n
  pre : ds.take i = (ks.take j).filter (isC c)
  suf : ds.drop j = ks.drop j
  t : Touch [g] w wr
theorem Dl.skip {w wr : World} {g n cv i j : Nat} {ks ds : List Int} {c : Int} {k : Int} (hd : Dl w wr g n cv ks c i j ds) (hn : ks.length = n) (hj : ks[j]? = some k) (hin : isC c k = false) : Dl w wr g n cv ks c i (j + 1) ds := by
  have hjl := (List.getElem?_eq_some_iff.1 hj).1
  have h1 := hd.ij
  refine ⟨hd.row, hd.len, by omega, by omega, ?_, ?_, hd.t⟩
  · rw [List.take_add_one, hj, List.filter_append, hd.pre]
    simp [hin]
  · have := congrArg (List.drop 1) hd.suf
    rwa [List.drop_drop, List.drop_drop] at this
theorem Dl.keep {w wr : World} {g n cv i j : Nat} {ks ds : List Int} {c : Int} {k : Int} (hd : Dl w wr g n cv ks c i j ds) (hn : ks.length = n) (hj : ks[j]? = some k) (hin : isC c k = true) :
    Dl w (wr.setCell ⟨g, i, none⟩ (.int .i64 k)) g n cv ks c (i + 1) (j + 1) (ds.set i k) := by
  have hjl := (List.getElem?_eq_some_iff.1 hj).1
  have h1 := hd.ij
  have h2 := hd.jn
  have hlen := hd.len
  have hil : i < ds.length := by omega
  refine ⟨?_, by rw [List.length_set]; exact hlen, by omega, by omega, ?_, ?_, hd.t.setCell (.inl (by simp)) _⟩
  · rw [List.map_set]
    exact owns_set hd.row i _
  · rw [List.take_add_one (i := j), hj, List.filter_append, ← hd.pre, List.take_add_one]
    rw [List.take_set_of_le (by omega)]
    simp [hin, hil]
  · rw [List.drop_set_of_lt (by omega)]
    have := congrArg (List.drop 1) hd.suf
    rwa [List.drop_drop, List.drop_drop] at this
set_option maxRecDepth 100000 in
set_option maxHeartbeats 2000000 in
theorem del_any (v : Value) (ks : List Int) (c : Int) (q : Nat) (w : World) (hl : ks.length ≤ 1000) (ho : Row w v ks) (h : w.cell? ⟨q, 0, none⟩ = some (.int .i64 c)) (hq : v.ownBlock ≠ some q) :
    Calls Try.prog 36 #[v, .func (.func 37) #[] #[.pointer (some ⟨q, 0, none⟩)]] w fun e w' => ∃ v', e = .returned v' ∧ Row w' v' (ks.filter (isC c)) ∧ v'.ownBlock = v.ownBlock ∧ Touch v.ownBlock.toList w w' := by
  have hole := outAt_le c ks
  obtain ⟨n, hn⟩ : ∃ n, ks.length = n := ⟨_, rfl⟩
  obtain ⟨av, cv, rfl, hc1, hm1, hv3⟩ := ho.form
  have HO := Lib.hid ho
  rw [hn] at hc1 hv3 hl hole hq HO ⊢
  have hc4 : cv ≤ 9223372036854775807 := by unfold maxLen at hm1; omega
  have HN := Lib.hid hn
  clear hn ho hm1
  by_cases hlt : outAt c ks < n
  · have HE := Lib.hid (show ixv c ks = (outAt c ks : Int) by unfold ixv; rw [HN.out, if_pos hlt])
    obtain ⟨g, rfl⟩ := hv3 (by omega)
    have hqg : q ≠ g := fun e => hq (by rw [e]; rfl)
    have HT := Lib.hid (take_in (c := c) (ks := ks) (by rw [HN.out]; exact hlt))
    go_enter Try.func36, Try.ntmps36
    go_wp2_with fail
    refine (ix_any _ ks c q _ (by rw [HN.out]; exact hl) HO.out h).mono ?_
    rintro e w1 ⟨rfl, rfl⟩
    rw [HE.out]
    generalize hi0 : outAt c ks = i0 at *
    have HI0 := Lib.hid hi0
    clear hi0
    have d0 : ((i0 : Int) == -1) = false := by simp
    go_wp2_with fail
    go_loopw [5, 6] (fun vi vj wr => ∃ (i j : Nat) (ds : List Int), vi = .int .i64 i ∧ vj = .int .i64 j ∧ Dl w wr g n cv ks c i j ds) (fun _ vj _ => n - (intOf vj).toNat)
    case atStart => exact ⟨i0, i0 + 1, ks, rfl, by go_num, by have := HO.out; unfold Row at this; rwa [HN.out] at this, HN.out, by omega, by omega, HT.out.symm, rfl, Touch.refl _ _⟩
    case round =>
      obtain ⟨i, j, ds, rfl, rfl, hd⟩ := hrel
      have HD := Lib.hid hd
      have hij := hd.ij
      have hjn := hd.jn
      have hcq := hd.t.cell h (by simpa using hqg)
      clear hd
      by_cases hj : j < n
      · have hjk : j < ks.length := by rw [HN.out]; exact hj
        have hx : ks[j]? = some ks[j] := List.getElem?_eq_getElem hjk
        generalize ks[j] = k at hx
        have hdx : ds[j]? = some k := by
          have e := congrArg (fun l => l[0]?) HD.out.suf
          simp only [List.getElem?_drop, Nat.add_zero] at e
          rw [e, hx]
        have c0 := owns_cell HD.out.row j (.int .i64 k) (by simp [hdx])
        have HX := Lib.hid hx
        have hjI : (j : Int) < (n : Int) := by omega
        clear hx hdx
        cases hin : isC c k with
        | true =>
          have HIN := Lib.hid hin
          have hil : i < ds.length := by rw [HD.out.len]; omega
          have hdi := List.getElem?_eq_getElem hil
          have s0 := owns_cell HD.out.row i (.int .i64 ds[i]) (by simp [hdi])
          have f0 := owns_frozen HD.out.row i
          have hin' : (i : Int) < (n : Int) := by omega
          have HF := Lib.hid (HD.out.keep HN.out HX.out hin)
          clear hdi hin
          go_wp2_with fail
          refine (clos_any c k q _ hcq).mono ?_
          rintro e w5 ⟨rfl, rfl⟩
          rw [HIN.out]
          go_wp2_with fail
          exact ⟨⟨i + 1, j + 1, _, by go_num, by go_num, HF.out⟩, by simp [intOf]; omega⟩
        | false =>
          have HIN := Lib.hid hin
          have HF := Lib.hid (HD.out.skip HN.out HX.out hin)
          clear hin
          go_wp2_with fail
          refine (clos_any c k q _ hcq).mono ?_
          rintro e w5 ⟨rfl, rfl⟩
          rw [HIN.out]
          go_wp2_with fail
          exact ⟨⟨i, j + 1, _, rfl, by go_num, HF.out⟩, by simp [intOf]; omega⟩
      · obtain rfl : j = n := by omega
        have hpre := HD.out.pre
        rw [List.take_of_length_le (l := ks) (by rw [HN.out]; omega)] at hpre
        have row := HD.out.row
        obtain ⟨zs, hcl⟩ := run_clear_rows (P := Try.prog) wr 33 3 0 _ 1 Try.underlying33 zero3' (by rfl) (by intro v hv; simp [Value.cells] at hv; subst hv; rfl) g i (j - i) (cv - i) (by omega)
          (by
            intro q hq
            have hql : i + q < (ds.map (Value.int .i64)).length := by rw [List.length_map, HD.out.len]; omega
            rw [owns_cell row (i + q) _ (List.getElem?_eq_getElem hql)]
            rfl)
          (by intro q hq; exact owns_frozen row _)
        have hci : ¬ cv = i := by omega
        have hT2 := setCells_touch g zs i wr
        have hres : Row (wr.setCells g i zs) (.slice (some ⟨g, 0, none⟩) i cv) (ks.filter (isC c)) := by
          obtain ⟨ys, h1, h2⟩ := owns_setCells (w := wr) zs i wr _ row
          have h3 := owns_take h1 (j := i) (by omega)
          rw [Nat.mul_one, h2, ← List.map_take, hpre] at h3
          have hl3 := congrArg List.length hpre
          rw [List.length_take, HD.out.len, Nat.min_eq_left (by omega)] at hl3
          unfold Row
          rw [← hl3]
          exact h3
        have HRES := Lib.hid hres
        clear hres hpre row
        go_wp2_with fail
        go_ret
        exact ⟨_, rfl, HRES.out, rfl, HD.out.t.trans hT2 (by simp)⟩
  · have HE := Lib.hid (show ixv c ks = -1 by unfold ixv; rw [HN.out, if_neg hlt])
    have HF := Lib.hid (all_in (c := c) (ks := ks) (by rw [HN.out]; omega))
    go_enter Try.func36, Try.ntmps36
    go_wp2_with fail
    refine (ix_any _ ks c q _ (by rw [HN.out]; exact hl) HO.out h).mono ?_
    rintro e w1 ⟨rfl, rfl⟩
    rw [HE.out]
    go_wp2_with fail
    go_ret
    exact ⟨_, rfl, by rw [HF.out]; exact HO.out, rfl, Touch.refl _ _⟩
end Go.Proofs.Ytobkanlnnniabaa.S

/-
  The contract of Cancel.
-/
namespace Go.Proofs.Ytobkanlnnniabaa.S
open Go.RowKit
set_option linter.unusedVariables false
set_option linter.unusedSimpArgs false

def cutN (N : List Nd) (l : List Int) : List Nd := N.filter fun n => decide (n.t.id ∉ l)
theorem sh_cut (N : List Nd) (l : List Int) : sh (cutN N l) = (sh N).filter fun n => decide (n.id ∉ l) := by
  unfold sh cutN
  rw [List.filter_map]
  rfl
theorem cut_mem {N : List Nd} {l : List Int} {n : Nd} : n ∈ cutN N l ↔ n ∈ N ∧ n.t.id ∉ l := by
  simp [cutN]
theorem cut_step {N : List Nd} {l : List Int} {j : Nat} {i : Int} (hj : l[j]? = some i) : (cutN N (l.take j)).filter (fun n => decide (n.t.id ≠ i)) = cutN N (l.take (j + 1)) := by
  unfold cutN
  rw [List.filter_filter]
  apply List.filter_congr
  intro n _
  rw [List.take_add_one, hj]
  simp [Bool.and_comm]
/-- Between two removals. -/
def Cn (w0 : World) (t h : Nat) (fh0 : List Nat) (N : List Nd) (last : Int) (K : Int → List Int) (l : List Int) (j : Nat) (wr : World) : Prop :=
  ∃ fh, TK wr t h fh (cutN N (l.take j)) last K ∧ (∀ y ∈ fh, y ∈ fh0 ∨ w0.heap.size ≤ y) ∧ Touch fh0 w0 wr
theorem Cn.start {w0 : World} {t h : Nat} {fh0 : List Nat} {N : List Nd} {last : Int} {K : Int → List Int} {l : List Int} (k : TK w0 t h fh0 N last K) : Cn w0 t h fh0 N last K l 0 w0 := by
  refine ⟨fh0, ?_, fun y hy => .inl hy, Touch.refl _ _⟩
  have : cutN N (l.take 0) = N := by
    simp [cutN]
  rw [this]
  exact k
theorem TK.removed {w w' : World} {t h : Nat} {fh : List Nat} {N : List Nd} {last : Int} {K : Int → List Int} (k : TK w t h fh N last K) {i : Int} (nx : Next w h fh ((N.map Nd.itm).filter fun y => decide (y.id ≠ i)) last w') :
    ∃ fh', TK w' t h fh' (N.filter fun n => decide (n.t.id ≠ i)) last K ∧ (∀ y ∈ fh', y ∈ fh ∨ w.heap.size ≤ y) ∧ Touch fh w w' := by
  obtain ⟨fh', hb, hf, ht⟩ := nx
  have e : (N.map Nd.itm).filter (fun y => decide (y.id ≠ i)) = (N.filter fun n => decide (n.t.id ≠ i)).map Nd.itm := by
    rw [List.filter_map]
    rfl
  rw [e] at hb
  have hs : (N.filter fun n => decide (n.t.id ≠ i)).Sublist N := List.filter_sublist
  exact ⟨fh', k.bagged hb hf ht (fun n hn => .inl (hs.subset hn)) (k.nn.sublist hs) (Nat.le_trans hs.length_le k.few), hf, ht⟩
theorem Cn.step {w0 wr w' : World} {t h : Nat} {fh0 fh : List Nat} {N : List Nd} {last : Int} {K : Int → List Int} {l : List Int} {j : Nat} {i : Int} (hj : l[j]? = some i)
    (k : TK wr t h fh (cutN N (l.take j)) last K) (hf : ∀ y ∈ fh, y ∈ fh0 ∨ w0.heap.size ≤ y) (ht : Touch fh0 w0 wr) (nx : Next wr h fh (((cutN N (l.take j)).map Nd.itm).filter fun y => decide (y.id ≠ i)) last w') : Cn w0 t h fh0 N last K l (j + 1) w' := by
  obtain ⟨fh', k', hf', ht'⟩ := k.removed nx
  rw [cut_step hj] at k'
  refine ⟨fh', k', ?_, ht.trans ht' hf⟩
  intro y hy
  rcases hf' y hy with e | e
  · exact hf y e
  · exact .inr (Nat.le_trans ht.size e)
/-- All of a subtree is gone. -/
theorem TM.cut {w w' : World} {t h : Nat} {fh fh' : List Nat} {N N2 : List Nd} {last : Int} {K : Int → List Int} {l : List Int} {n : Nd} (k : TM w t h fh N last) (hn : n ∈ N) (hs : Sub (sh N) n.t.id l) (e : sh N2 = sh N)
    (hK : ∀ m ∈ N2, m.t.id ∉ l → K m.t.id = (kids (sh N) m.t.id).filter fun i => decide (i ≠ n.t.id)) (m : TK w' t h fh' (cutN N2 l) last K) : TM w' t h fh' (cutN N2 l) last := by
  have e2 : sh (cutN N2 l) = (sh N).filter fun n => decide (n.id ∉ l) := by rw [sh_cut, e]
  refine ⟨m.congr ?_, by rw [e2]; exact k.tree.cut hs, by rw [e2]; exact due_cut k.tree hs k.due⟩
  intro q hq
  obtain ⟨hq1, hq2⟩ := cut_mem.1 hq
  rw [e2, hK q hq1 hq2, kids_cut_eq k.tree hs hq2]
theorem kids_none {w : World} {t h : Nat} {fh : List Nat} {N : List Nd} {last : Int} (k : TM w t h fh N last) {n q : Nd} (hn : n ∈ N) (hq : q ∈ N) (hne : n.t.par ≠ q.t.id) : (kids (sh N) q.t.id).filter (fun i => decide (i ≠ n.t.id)) = kids (sh N) q.t.id := by
  rw [List.filter_eq_self]
  intro i hi
  simp only [ne_eq, decide_eq_true_eq]
  rintro rfl
  obtain ⟨s, hs, h1, h2⟩ := mem_kids.1 hi
  have := tm_inj k.ids hs (sh_mem hn) h2
  rw [← this] at hne
  exact hne h1
section
variable {w : World} {t h : Nat} {fh : List Nat} {N : List Nd} {last : Int}
set_option maxRecDepth 100000 in
set_option maxHeartbeats 1000000 in
theorem cancel_no (k : TM w t h fh N last) (i : Int) (hi : okK i) (hn : i ∉ tids (sh N)) :
    Calls Try.prog 16 #[.pointer (some ⟨t, 0, none⟩), .int .i64 i] w fun e w' => e = .returned (.int .i64 0) ∧ Touch [] w w' := by
  have tA := (Touch.refl [] w).alloc (.cells #[.int .i64 i] 3)
  have gA := heap_alloc_new w (.cells #[.int .i64 i] 3)
  have cA : (w.alloc (.cells #[.int .i64 i] 3)).cell? ⟨w.heap.size, 0, none⟩ = some (.int .i64 i) := by simp only [World.cell?]; rw [gA]; rfl
  have HS := Lib.hid (subtree_no (k.touch tA (by simp)) i hi hn)
  clear k hn gA
  go_enter Try.func16, Try.ntmps16
  go_wp2_with fail
  refine HS.out.mono ?_
  rintro e w' ⟨rfl, rfl⟩
  go_wp2_with fail
  go_ret
  exact ⟨rfl, tA⟩
/-- What Cancel leaves. -/
def Canc (w : World) (t h : Nat) (fh : List Nat) (N : List Nd) (last : Int) (n : Nd) (e : Ending) (w' : World) : Prop :=
  ∃ l fh' N2 pf, e = .returned (.int .i64 (l.length : Nat)) ∧ Sub (sh N) n.t.id l ∧ TM w' t h fh' (cutN N2 l) last ∧ ab N2 = ab N ∧ (∀ y ∈ TFoot t fh' (cutN N2 l), y ∈ TFoot t fh N ∨ w.heap.size ≤ y) ∧ Touch (fh ++ pf) w w' ∧ (∀ y ∈ pf, ∃ p ∈ N, p.t.id = n.t.par ∧ y ∈ p.foot)
/-- Ahead of the removals. -/
structure MidC (w w3 : World) (t h : Nat) (fh : List Nat) (N : List Nd) (last : Int) (n : Nd) (N2 : List Nd) (K : Int → List Int) (pf : List Nat) (v : Value) (l : List Int) : Prop where
  mem : TK w3 t h fh N2 last K
  e : sh N2 = sh N
  ab : ab N2 = ab N
  kk : ∀ m ∈ N2, m.t.id ∉ l → K m.t.id = (kids (sh N) m.t.id).filter fun i => decide (i ≠ n.t.id)
  tt : Touch pf w w3
  pf : ∀ y ∈ pf, ∃ p ∈ N, p.t.id = n.t.par ∧ y ∈ p.foot
  own : OwnN w w3 v l
  foot : ∀ y ∈ TFoot t fh N2, y ∈ TFoot t fh N ∨ w.heap.size ≤ y
theorem MidC.fin {w3 wr : World} {n : Nd} {N2 : List Nd} {K : Int → List Int} {pf : List Nat} {v : Value} {l : List Int} (d : MidC w w3 t h fh N last n N2 K pf v l) (k : TM w t h fh N last) (hn : n ∈ N) (hs : Sub (sh N) n.t.id l) (c : Cn w3 t h fh N2 last K l l.length wr) :
    Canc w t h fh N last n (.returned (.int .i64 (l.length : Nat))) wr := by
  obtain ⟨fh', m, hf, ht⟩ := c
  rw [List.take_length] at m
  refine ⟨l, fh', N2, pf, rfl, hs, k.cut hn hs d.e d.kk m, d.ab, ?_, ?_, d.pf⟩
  · intro y hy
    rcases TFoot.mem.1 hy with rfl | hy | ⟨q, hq, hy⟩
    · exact .inl (TFoot.mem.2 (.inl rfl))
    · rcases hf y hy with e | e
      · exact .inl (TFoot.mem.2 (.inr (.inl e)))
      · exact .inr (Nat.le_trans d.tt.size e)
    · exact d.foot y (TFoot.mem.2 (.inr (.inr ⟨q, (cut_mem.1 hq).1, hy⟩)))
  · exact (d.tt.mono (S' := fh ++ pf) (fun y hy => .inl (List.mem_append.2 (.inr hy)))).trans ht (fun y hy => .inl (List.mem_append.2 (.inl hy)))
theorem MidC.rootc {w3 : World} {n : Nd} {v : Value} {l : List Int} (k : TM w t h fh N last) (hn : n ∈ N) (hp : n.t.par ∉ tids (sh N)) (ht : Touch [] w w3) (ho : OwnN w w3 v l) : MidC w w3 t h fh N last n N (kids (sh N)) [] v l := by
  refine ⟨k.mem.touch ht (by simp), rfl, rfl, ?_, ht, by simp, ho, fun y hy => .inl hy⟩
  intro m hm _
  rw [kids_none k hn hm]
  intro e
  exact hp (by rw [e]; exact sh_tids hm)
theorem MidC.childc {w2 w3 : World} {n p : Nd} {v v' : Value} {l : List Int} (k : TM w t h fh N last) (hn : n ∈ N) (hp : p ∈ N) (hpn : p.t.id = n.t.par) (ht2 : Touch [] w w2) (ho : OwnN w w2 v l) (ht : Touch p.foot w2 w3)
    (hh : w3.heap[p.b]? = some (.cells #[.int .i64 p.t.par, .int .u64 p.t.req, p.x, v'] 70 (0, 0))) (hr : Row w3 v' ((kids (sh N) p.t.id).filter (isC n.t.id))) (hv : v'.ownBlock = p.v.ownBlock) :
    MidC w w3 t h fh N last n (N.map (setV p.t.id v')) (putK (kids (sh N)) p.t.id ((kids (sh N) p.t.id).filter (isC n.t.id))) p.foot v l := by
  have hlt := (k.mem.nd p hp).lt
  obtain ⟨m, f⟩ := (k.mem.touch ht2 (by simp)).kids_set k.ids hp ht hh hr (.inl hv)
  refine ⟨m, sh_setV _ _, ab_setV _ _, ?_, ?_, fun y hy => ⟨p, hp, hpn, hy⟩, ho.touch ht ?_, ?_⟩
  · intro q' hq' _
    obtain ⟨q, hq, rfl⟩ := List.mem_map.1 hq'
    rw [(setV_keep _ _ q).1]
    unfold putK
    by_cases e : q.t.id = p.t.id
    · rw [if_pos e, e]
      rfl
    · rw [if_neg e, kids_none k hn hq]
      rw [← hpn]
      exact fun e' => e e'.symm
  · exact (ht2.mono (by simp)).trans ht (fun y hy => .inl hy)
  · intro g hg e
    have := ho.new g hg
    have := hlt g e
    omega
  · intro y hy
    rcases f y hy with e | e
    · exact .inl e
    · exact .inr (Nat.le_trans ht2.size e)
set_option maxRecDepth 100000 in
set_option maxHeartbeats 2000000 in
theorem cancel_any (k : TM w t h fh N last) (n : Nd) (hn : n ∈ N) :
    Calls Try.prog 16 #[.pointer (some ⟨t, 0, none⟩), .int .i64 n.t.id] w fun e w' => Canc w t h fh N last n e w' := by
  have tA := (Touch.refl [] w).alloc (.cells #[.int .i64 n.t.id] 3)
  have gA := heap_alloc_new w (.cells #[.int .i64 n.t.id] 3)
  have cA : (w.alloc (.cells #[.int .i64 n.t.id] 3)).cell? ⟨w.heap.size, 0, none⟩ = some (.int .i64 n.t.id) := by simp only [World.cell?]; rw [gA]; rfl
  have zA : (w.alloc (.cells #[.int .i64 n.t.id] 3)).heap.size = w.heap.size + 1 := by simp
  have HA := k.touch tA (by simp)
  have HK := Lib.hid k
  have HN := Lib.hid hn
  have HS := Lib.hid (subtree_any HA n hn)
  have hqf : w.heap.size ∉ TFoot t fh N := fun e => Nat.lt_irrefl _ (k.mem.lt _ e)
  have hfew := k.mem.few
  clear k hn gA
  go_enter Try.func16, Try.ntmps16
  go_wp2_with fail
  generalize w.alloc (.cells #[.int .i64 n.t.id] 3) = wA at *
  generalize hqe : w.heap.size = q at *
  have HQE := Lib.hid hqe
  have HTA := Lib.hid tA
  have HKA := Lib.hid HA
  clear hqe HA tA
  refine HS.out.mono ?_
  rintro e w1 ⟨v, l, rfl, hsub, ho, t1⟩
  have HSUB := Lib.hid hsub
  have HO := Lib.hid ho
  have HT1 := Lib.hid t1
  have HK1 := Lib.hid (HKA.out.touch t1 (by simp))
  have cq := t1.cell cA (by simp)
  have hl0 : 0 < l.length := (List.getElem?_eq_some_iff.1 hsub.head).1
  have hl1 := hsub.few
  have hl2 : (sh N).length = N.length := by simp [sh]
  rw [hl2] at hl1
  clear hsub ho t1 cA hl2 HS
  obtain ⟨av, cv, rfl, hv1, hv2, hv3⟩ := owns_form HO.out.row
  obtain ⟨g, rfl⟩ := hv3 hl0
  have hcv : cv ≤ 9223372036854775807 := by unfold maxLen at hv2; omega
  have c0 := HK1.out.mem.cell
  have d0 : ((l.length : Int) == 0) = false := beq_eq_false_iff_ne.2 (by omega)
  clear hv2 hv3
  go_wp2_with fail
  go_quiet ((go_at_call 32; exact Calls.quiet_of ((HK1.out.draws _).get n HN.out)))
  have T2 := (Touch.refl [] w1).drews nq
  have HK2 := Lib.hid (HK1.out.draws nq)
  have HO2 := Lib.hid ((HO.out.touch T2 (by simp)).rebase (w0 := w) HTA.out.size)
  have HT2 := Lib.hid ((HTA.out.trans HT1.out (by simp)).trans T2 (by simp))
  have cq2 := T2.cell cq (by simp)
  clear T2 cq c0 HO HK1 HT1
  generalize w1.drewN nq = w2 at *
  have c0 := HK2.out.mem.cell
  obtain ⟨m0, m1, m2, m3⟩ := (HK2.out.mem.nd n HN.out).cells
  clear m1 m2 m3
  by_cases hp : n.t.par ∈ tids (sh N)
  case' neg =>
    have hp0 : okK n.t.par := by
      rcases HK2.out.tree.par n.t (sh_mem HN.out) with e | e
      · rw [e]
        exact okK_of (by omega) (by omega)
      · exact absurd e hp
    have HP0 := Lib.hid hp0
    have HPP := Lib.hid hp
    clear hp hp0
    go_wp2_with fail
    go_quiet ((go_at_call 32; exact Calls.quiet_of_same ((HK2.out.draws _).get_no n.t.par HP0.out HPP.out)))
    have T3 := HT2.out.trans ((Touch.refl [] w2).drews nq) (by simp)
    obtain ⟨N2, K, pf, hmid⟩ : ∃ N2 K pf, MidC w (w2.drewN nq) t h fh N last n N2 K pf (.slice (some ⟨g, 0, none⟩) l.length cv) l := ⟨_, _, _, MidC.rootc HK.out HN.out HPP.out T3 (HO2.out.touch ((Touch.refl [] w2).drews nq) (by simp))⟩
    clear T3 m0 c0 cq2 HP0 HPP
    generalize w2.drewN nq = w3 at *
  case' pos =>
    obtain ⟨p, hpm, hpe⟩ := sh_at hp
    rw [← hpe] at m0
    have HPM := Lib.hid hpm
    have HPE := Lib.hid hpe
    clear hp hpm hpe
    go_wp2_with fail
    go_quiet ((go_at_call 32; exact Calls.quiet_of ((HK2.out.draws _).get p HPM.out)))
    have T3 := (Touch.refl [] w2).drews nq
    have HK3 := Lib.hid (HK2.out.draws nq)
    have HO3 := Lib.hid (HO2.out.touch T3 (by simp))
    have HT3 := Lib.hid (HT2.out.trans T3 (by simp))
    have cq3 := T3.cell cq2 (by simp)
    clear T3 m0 c0 cq2 HO2 HK2 HT2
    generalize w2.drewN nq = w4 at *
    have hpn := HK3.out.mem.nd p HPM.out
    obtain ⟨m0, m1, m2, m3⟩ := hpn.cells
    have hpq : p.v.ownBlock ≠ some q := fun e => hqf (TFoot.mem.2 (.inr (.inr ⟨p, HPM.out, by simp [Nd.foot, e]⟩)))
    have hkl : (kids (sh N) p.t.id).length ≤ 1000 := by
      have := nodup_few (HK.out.tree.kids_nodup p.t.id) (fun m hm => kids_sub hm)
      have h2 : (tids (sh N)).length = N.length := by simp [tids, sh]
      omega
    have HDEL := Lib.hid (del_any p.v (kids (sh N) p.t.id) n.t.id q w4 hkl hpn.row cq3 hpq)
    have HPD := Lib.hid hpn
    have hpv := hpn.hv
    clear m0 m1 m2 hpn hpq hkl cq3
    go_wp2_with fail
    refine HDEL.out.mono ?_
    rintro e w5 ⟨v', rfl, hr5, hv5, t5⟩
    have hpb : p.b ∉ p.v.ownBlock.toList := by simpa using hpv
    have hh5 := t5.at HPD.out.hdr hpb
    have m3 : w5.cell? ⟨p.b, 3, none⟩ = some p.v := by simp [World.cell?, hh5]
    have g3 : w5.frozen? ⟨p.b, 3, none⟩ = false := by simp [World.frozen?, hh5]
    have T6 := (t5.mono (S' := p.foot) (by intro y hy; left; simp only [Nd.foot, List.mem_cons]; exact .inr hy)).trans ((Touch.refl [p.b] w5).setCell (p := ⟨p.b, 3, none⟩) (by simp) v') (by intro y hy; left; simp at hy; simp [Nd.foot, hy])
    have H6 : (w5.setCell ⟨p.b, 3, none⟩ v').heap[p.b]? = some (.cells #[.int .i64 p.t.par, .int .u64 p.t.req, p.x, v'] 70 (0, 0)) := by simp [World.setCell, Array.getElem?_modify, hh5]
    have R6 := ((Touch.refl [p.b] w5).setCell (p := ⟨p.b, 3, none⟩) (by simp) v').owns hr5 (by intro g hg e; simp at e; exact hpv (by rw [← hv5, hg, e]))
    obtain ⟨N2, K, pf, hmid⟩ : ∃ N2 K pf, MidC w (w5.setCell ⟨p.b, 3, none⟩ v') t h fh N last n N2 K pf (.slice (some ⟨g, 0, none⟩) l.length cv) l := ⟨_, _, _, MidC.childc HK.out HN.out HPM.out HPE.out HT3.out HO3.out T6 H6 R6 hv5⟩
    have HMD := Lib.hid hmid
    clear hmid
    obtain ⟨av5, cv5, rfl, hw1, hw2, hw3⟩ := hr5.form
    clear T6 H6 R6 hr5 t5 hh5 hw1 hw2 hw3 hpb hv5 hpv HDEL HK3 HO3 HT3
    go_wp2_with fail
    generalize w5.setCell ⟨p.b, 3, none⟩ (.slice av5 ((kids (sh N) p.t.id).filter (isC n.t.id)).length cv5) = w3 at *
    have hmid := HMD.out
    clear HMD m3 g3
  all_goals
    have HMID := Lib.hid hmid
    clear hmid
    go_wp2_with fail
    go_loopw [55] (fun vj wr => ∃ (j : Nat), vj = .int .i64 j ∧ j ≤ l.length ∧ Cn w3 t h fh N2 last K l j wr) (fun vj _ => l.length - (intOf vj).toNat)
    case atStart => exact ⟨0, rfl, by omega, Cn.start HMID.out.mem⟩
    case round =>
      obtain ⟨j, rfl, hjl, fhj, mj, fj, tj⟩ := hrel
      have HM := Lib.hid mj
      have HF := Lib.hid fj
      have HT := Lib.hid tj
      have cj := mj.cell
      have hgf : ∀ g', (Value.slice (some ⟨g, 0, none⟩) l.length cv).ownBlock = some g' → g' ∉ fh := by
        intro g' hg' e
        have h1 := HMID.out.own.new g' hg'
        have h2 := HK.out.mem.lt g' (TFoot.mem.2 (.inr (.inl e)))
        omega
      have HO := Lib.hid (HMID.out.own.touch tj hgf)
      clear mj fj tj hgf
      by_cases hlt : j < l.length
      · have hx := List.getElem?_eq_getElem hlt
        generalize l[j] = i at hx
        have HX := Lib.hid hx
        have p0 := owns_cell HO.out.row j (.int .i64 i) (by simp [hx])
        obtain ⟨m, hm, rfl⟩ := sh_at (N := N2) (by rw [HMID.out.e]; exact HSUB.out.mem i (List.mem_of_getElem? hx))
        have hnd := HSUB.out.nodup
        have hmc : m ∈ cutN N2 (l.take j) := cut_mem.2 ⟨hm, by
          intro e
          obtain ⟨r, hr⟩ := List.mem_iff_getElem?.1 e
          rw [List.getElem?_take] at hr
          split at hr
          · have := nodup_at hnd hr hx
            omega
          · cases hr⟩
        have HRM := Lib.hid (HM.out.bag.remove m.itm (TM.itm_mem hmc))
        have q3 : (j : Int) < (l.length : Int) := by omega
        clear hx hm hmc hnd
        go_wp2_with fail
        refine HRM.out.mono ?_
        rintro e w6 ⟨rfl, nx⟩
        have HC := Lib.hid (Cn.step HX.out HM.out HF.out HT.out nx)
        clear nx p0 cj
        go_wp2_with fail
        go_roundw
        case rel => exact ⟨j + 1, by simp, by omega, HC.out⟩
        case measure => simp [intOf]; omega
      · have hje : j = l.length := by omega
        have HFIN := Lib.hid (HMID.out.fin HK.out HN.out HSUB.out (by rw [← hje]; exact ⟨fhj, HM.out, HF.out, HT.out⟩))
        have q3 : ¬ (j : Int) < (l.length : Int) := by omega
        clear hje cj
        go_wp2_with fail
        go_ret
        exact HFIN.out
end
section
variable {w : World} {t h : Nat} {f : List Nat} {A : List (Tm × Value)} {last : Int}
theorem ab_cut (N : List Nd) (l : List Int) : ab (cutN N l) = (ab N).filter fun a => decide (a.1.id ∉ l) := by
  unfold ab cutN
  rw [List.filter_map]
  rfl
theorem Canc.next {fh : List Nat} {N : List Nd} {n : Nd} {e : Ending} {w' : World} (c : Canc w t h fh N last n e w') :
    ∃ l, e = .returned (.int .i64 (l.length : Nat)) ∧ Sub (sh N) n.t.id l ∧ TNext w t h (TFoot t fh N) ((ab N).filter fun a => decide (a.1.id ∉ l)) last w' := by
  obtain ⟨l, fh', N2, pf, rfl, hs, m, e2, hf, ht, hp⟩ := c
  refine ⟨l, rfl, hs, _, ⟨fh', _, m, by rw [ab_cut, e2], rfl⟩, hf, ht.mono ?_⟩
  intro y hy
  rcases List.mem_append.1 hy with hy | hy
  · exact .inl (TFoot.mem.2 (.inr (.inl hy)))
  · obtain ⟨p, hp1, _, hp2⟩ := hp y hy
    exact .inl (TFoot.mem.2 (.inr (.inr ⟨p, hp1, hp2⟩)))
def CancS (w : World) (t h : Nat) (f : List Nat) (A : List (Tm × Value)) (last i : Int) (e : Ending) (w' : World) : Prop :=
  ∃ l : List Int, e = .returned (.int .i64 (l.length : Nat)) ∧ Sub (A.map Prod.fst) i l ∧ TNext w t h f (A.filter fun a => decide (a.1.id ∉ l)) last w'
theorem TS.cancel (k : TS w t h f A last) (i : Int) (hi : i ∈ tids (A.map Prod.fst)) :
    Calls Try.prog 16 #[.pointer (some ⟨t, 0, none⟩), .int .i64 i] w fun e w' => CancS w t h f A last i e w' := by
  obtain ⟨fh, N, hm, rfl, rfl⟩ := k
  rw [ab_fst] at hi
  obtain ⟨n, hn, rfl⟩ := sh_at hi
  refine (cancel_any hm n hn).mono ?_
  intro e w' c
  unfold CancS
  rw [ab_fst]
  exact c.next
theorem TS.cancel_no (k : TS w t h f A last) (i : Int) (hi : okK i) (hn : i ∉ tids (A.map Prod.fst)) :
    Calls Try.prog 16 #[.pointer (some ⟨t, 0, none⟩), .int .i64 i] w fun e w' => e = .returned (.int .i64 0) ∧ Touch [] w w' := by
  obtain ⟨fh, N, hm, rfl, rfl⟩ := k
  rw [ab_fst] at hn
  exact S.cancel_no hm i hi hn
end
end Go.Proofs.Ytobkanlnnniabaa.S

/-
  The contract of Expire.
-/
namespace Go.Proofs.Ytobkanlnnniabaa.S
open Go.RowKit
set_option linter.unusedVariables false
set_option linter.unusedSimpArgs false

section
variable {w : World} {t h : Nat} {fh : List Nat} {N : List Nd} {last : Int}
set_option maxRecDepth 100000 in
set_option maxHeartbeats 1000000 in
theorem expire_empty (k : TM w t h fh [] last) (now : Int) :
    Calls Try.prog 28 #[.pointer (some ⟨t, 0, none⟩), .int .u64 now] w fun e w' => e = .returned (.tuple #[.int .i64 0, .string ByteArray.empty, .bool false]) ∧ Touch [] w w' := by
  have c0 := k.mem.cell
  have HM := Lib.hid (Bag.min_no k.mem.bag)
  clear k
  go_enter Try.func28, Try.ntmps28
  go_wp2_with fail
  refine HM.out.mono ?_
  rintro e w' ⟨rfl, ht⟩
  go_wp2_with fail
  go_ret3
  exact ⟨rfl, ht⟩
set_option maxRecDepth 100000 in
set_option maxHeartbeats 1000000 in
theorem expire_late (k : TM w t h fh N last) (now : Int) (n : Nd) (hn : n ∈ N) (hmin : ∀ m ∈ N, le n.itm.key m.itm.key) (hl : now < n.t.due) :
    Calls Try.prog 28 #[.pointer (some ⟨t, 0, none⟩), .int .u64 now] w fun e w' => e = .returned (.tuple #[.int .i64 0, .string ByteArray.empty, .bool false]) ∧ Touch [] w w' := by
  have c0 := k.mem.cell
  have HM := Lib.hid (k.mem.bag.min n.itm (TM.itm_mem hn) (by
    intro y hy
    obtain ⟨m, hm, rfl⟩ := List.mem_map.1 hy
    exact hmin m hm))
  clear k hmin
  go_enter Try.func28, Try.ntmps28
  go_wp2_with fail
  refine HM.out.mono ?_
  rintro e w' ⟨rfl, ht⟩
  have q1 : n.itm.due = n.t.due := rfl
  rw [q1]
  clear q1
  go_wp2_with fail
  go_ret3
  exact ⟨rfl, ht⟩
def Exp (w : World) (t h : Nat) (fh : List Nat) (N : List Nd) (last : Int) (n : Nd) (e : Ending) (w' : World) : Prop :=
  e = .returned (.tuple #[.int .i64 n.t.id, n.x, .bool true]) ∧ ∃ l, Sub (sh N) n.t.id l ∧ TNext w t h (TFoot t fh N) ((ab N).filter fun a => decide (a.1.id ∉ l)) last w'
theorem TNext.pre {w0 w w' : World} {t h : Nat} {f : List Nat} {A : List (Tm × Value)} {last : Int} (h0 : Touch [] w0 w) (k : TNext w t h f A last w') : TNext w0 t h f A last w' := by
  obtain ⟨f', h1, h2, h3⟩ := k
  exact ⟨f', h1, fun y hy => by
    rcases h2 y hy with e | e
    · exact .inl e
    · exact .inr (Nat.le_trans h0.size e), (h0.mono (by simp)).trans h3 (fun y hy => .inl hy)⟩
theorem TNext.post {w w' w2 : World} {t h : Nat} {f : List Nat} {A : List (Tm × Value)} {last : Int} (k : TNext w t h f A last w') (h0 : Touch [] w' w2) : TNext w t h f A last w2 := by
  obtain ⟨f', h1, h2, h3⟩ := k
  exact ⟨f', h1.touch h0 (by simp), h2, h3.trans h0 (by simp)⟩
set_option maxRecDepth 100000 in
set_option maxHeartbeats 1000000 in
theorem expire_due (k : TM w t h fh N last) (now : Int) (n : Nd) (hn : n ∈ N) (hmin : ∀ m ∈ N, le n.itm.key m.itm.key) (hl : n.t.due ≤ now) :
    Calls Try.prog 28 #[.pointer (some ⟨t, 0, none⟩), .int .u64 now] w fun e w' => Exp w t h fh N last n e w' := by
  have c0 := k.mem.cell
  have HM := Lib.hid (k.mem.bag.min n.itm (TM.itm_mem hn) (by
    intro y hy
    obtain ⟨m, hm, rfl⟩ := List.mem_map.1 hy
    exact hmin m hm))
  have HK := Lib.hid k
  have HN := Lib.hid hn
  have hl2 : ¬ now < n.t.due := by omega
  clear k hmin hn hl
  go_enter Try.func28, Try.ntmps28
  go_wp2_with fail
  refine HM.out.mono ?_
  rintro e w1 ⟨rfl, ht⟩
  have HT := Lib.hid ht
  have HK1 := Lib.hid (HK.out.touch ht (by simp))
  have q1 : n.itm.due = n.t.due := rfl
  have q2 : n.itm.id = n.t.id := rfl
  have q3 : n.itm.x = .pointer (some ⟨n.b, 0, none⟩) := rfl
  rw [q1, q2, q3]
  clear q1 q2 q3 HM c0 ht
  go_wp2_with fail
  refine (cancel_any HK1.out n HN.out).mono ?_
  rintro e w2 ⟨l, fh', N2, pf, rfl, hs, m, e2, hf, ht2, hp⟩
  have hb : n.b ∉ fh ++ pf := by
    intro hy
    rcases List.mem_append.1 hy with hy | hy
    · exact HK.out.mem.nf n HN.out n.b (by simp [Nd.foot]) hy
    · obtain ⟨p, hp1, hp2, hp3⟩ := hp _ hy
      have hne : n.t.id ≠ p.t.id := by
        have := HK.out.tree.up n.t (sh_mem HN.out)
        omega
      exact HK.out.mem.apart HK.out.ids HN.out hp1 hne n.b (by simp [Nd.foot]) hp3
  have x0 := ht2.cell ((HK1.out.mem.nd n HN.out).cells).2.2.1 hb
  have HC := Lib.hid (show ∃ l, Sub (sh N) n.t.id l ∧ TNext w1 t h (TFoot t fh N) ((ab N).filter fun a => decide (a.1.id ∉ l)) last w2 from by
    obtain ⟨l', e', h1, h2⟩ := Canc.next (e := .returned (.int .i64 (l.length : Nat))) ⟨l, fh', N2, pf, rfl, hs, m, e2, hf, ht2, hp⟩
    exact ⟨l', h1, h2⟩)
  clear hs m e2 hf ht2 hp hb
  go_wp2_with fail
  go_quiet (fail)
  go_wp2_with fail
  go_ret3
  obtain ⟨l', h1, h2⟩ := HC.out
  exact ⟨rfl, l', h1, (h2.pre HT.out).post ((Touch.refl [] w2).drews nq)⟩
end
section
variable {w : World} {t h : Nat} {f : List Nat} {A : List (Tm × Value)} {last : Int}
def tkey (a : Tm) : Key := ⟨a.id, a.due⟩
theorem TS.expire_empty (k : TS w t h f [] last) (now : Int) :
    Calls Try.prog 28 #[.pointer (some ⟨t, 0, none⟩), .int .u64 now] w fun e w' => e = .returned (.tuple #[.int .i64 0, .string ByteArray.empty, .bool false]) ∧ Touch [] w w' := by
  obtain ⟨fh, N, hm, hA, rfl⟩ := k
  have : N = [] := by
    unfold ab at hA
    simpa using hA
  subst this
  exact S.expire_empty hm now
theorem TS.expire_late (k : TS w t h f A last) (now : Int) (a : Tm × Value) (ha : a ∈ A) (hmin : ∀ b ∈ A, le (tkey a.1) (tkey b.1)) (hl : now < a.1.due) :
    Calls Try.prog 28 #[.pointer (some ⟨t, 0, none⟩), .int .u64 now] w fun e w' => e = .returned (.tuple #[.int .i64 0, .string ByteArray.empty, .bool false]) ∧ Touch [] w w' := by
  obtain ⟨fh, N, hm, rfl, rfl⟩ := k
  obtain ⟨n, hn, rfl⟩ := List.mem_map.1 ha
  exact S.expire_late hm now n hn (fun m hm => hmin (m.t, m.x) (List.mem_map.2 ⟨m, hm, rfl⟩)) hl
def ExpS (w : World) (t h : Nat) (f : List Nat) (A : List (Tm × Value)) (last : Int) (a : Tm × Value) (e : Ending) (w' : World) : Prop :=
  e = .returned (.tuple #[.int .i64 a.1.id, a.2, .bool true]) ∧ ∃ l, Sub (A.map Prod.fst) a.1.id l ∧ TNext w t h f (A.filter fun a => decide (a.1.id ∉ l)) last w'
theorem TS.expire (k : TS w t h f A last) (now : Int) (a : Tm × Value) (ha : a ∈ A) (hmin : ∀ b ∈ A, le (tkey a.1) (tkey b.1)) (hl : a.1.due ≤ now) :
    Calls Try.prog 28 #[.pointer (some ⟨t, 0, none⟩), .int .u64 now] w fun e w' => ExpS w t h f A last a e w' := by
  obtain ⟨fh, N, hm, rfl, rfl⟩ := k
  obtain ⟨n, hn, rfl⟩ := List.mem_map.1 ha
  refine (expire_due hm now n hn (fun m hm => hmin (m.t, m.x) (List.mem_map.2 ⟨m, hm, rfl⟩)) hl).mono ?_
  intro e w' hx
  unfold ExpS
  rw [ab_fst]
  exact hx
end
end Go.Proofs.Ytobkanlnnniabaa.S

/-
  Timers above a world: what each call leaves.
-/
namespace Go.Proofs.Ytobkanlnnniabaa.S
open Go.RowKit
set_option linter.unusedVariables false
set_option linter.unusedSimpArgs false

def Abv (w0 w : World) (t h : Nat) (A : List (Tm × Value)) (last : Int) : Prop := ∃ f, TS w t h f A last ∧ (∀ y ∈ f, w0.heap.size ≤ y) ∧ Touch [] w0 w
theorem Abv.next {w0 w w' : World} {t h : Nat} {f : List Nat} {A : List (Tm × Value)} {last : Int} (hf : ∀ y ∈ f, w0.heap.size ≤ y) (ht : Touch [] w0 w) (k : TNext w t h f A last w') : Abv w0 w' t h A last := by
  obtain ⟨f', h1, h2, h3⟩ := k
  exact ⟨f', h1, fun y hy => by
    rcases h2 y hy with e | e
    · exact hf y e
    · exact Nat.le_trans ht.size e, ht.trans h3 (fun y hy => .inr (hf y hy))⟩
section
variable {w0 w : World} {t h : Nat} {A : List (Tm × Value)} {last : Int}
theorem Abv.touch {w' : World} (k : Abv w0 w t h A last) (ht : Touch [] w w') : Abv w0 w' t h A last := by
  obtain ⟨f, h1, h2, h3⟩ := k
  exact ⟨f, h1.touch ht (by simp), h2, h3.trans ht (by simp)⟩
theorem Abv.tt (k : Abv w0 w t h A last) : Touch [] w0 w := by
  obtain ⟨f, h1, h2, h3⟩ := k
  exact h3
theorem Abv.tree (k : Abv w0 w t h A last) : Tree (A.map Prod.fst) last := by
  obtain ⟨f, h1, h2, h3⟩ := k
  exact h1.tree
theorem Abv.due (k : Abv w0 w t h A last) : ∀ s ∈ A.map Prod.fst, DueOk (A.map Prod.fst) s := by
  obtain ⟨f, h1, h2, h3⟩ := k
  exact h1.due
theorem Abv.new (w : World) : Calls Try.prog 12 #[] w fun e w' => ∃ t h, e = .returned (.pointer (some ⟨t, 0, none⟩)) ∧ Abv w w' t h [] 0 := by
  refine (tnew_any w).mono ?_
  rintro e w' ⟨t, h, f, rfl, h1, h2, h3⟩
  exact ⟨t, h, rfl, f, h1, h2, h3⟩
theorem Abv.start (k : Abv w0 w t h A last) (par due : Int) (x : Value) (hxo : x.oneCell' = true) (hR : 0 ≤ due ∧ due ≤ maxT) (hl : last < 1000) (hfew : A.length < 1000) (hp : par = 0 ∨ par ∈ tids (A.map Prod.fst)) :
    Calls Try.prog 15 #[.pointer (some ⟨t, 0, none⟩), .int .i64 par, .int .u64 due, x] w fun e w' => e = .returned (.tuple #[.int .i64 (last + 1), .bool true]) ∧ Abv w0 w' t h (A ++ [(⟨last + 1, par, due, min due (lim (A.map Prod.fst) par)⟩, x)]) (last + 1) := by
  obtain ⟨f, h1, h2, h3⟩ := k
  exact (h1.start par due x hxo hR hl hfew hp).mono fun e w' ⟨e1, e2⟩ => ⟨e1, Abv.next h2 h3 e2⟩
theorem Abv.start_no (k : Abv w0 w t h A last) (par due : Int) (x : Value) (hp : okK par) (h0 : par ≠ 0) (hn : par ∉ tids (A.map Prod.fst)) :
    Calls Try.prog 15 #[.pointer (some ⟨t, 0, none⟩), .int .i64 par, .int .u64 due, x] w fun e w' => e = .returned (.tuple #[.int .i64 0, .bool false]) ∧ Abv w0 w' t h A last := by
  obtain ⟨f, h1, h2, h3⟩ := k
  refine (h1.start_no par due x hp h0 hn).mono ?_
  rintro e w' ⟨rfl, rfl⟩
  exact ⟨rfl, f, h1, h2, h3⟩
theorem Abv.deadline (k : Abv w0 w t h A last) (s : Tm) (hs : s ∈ A.map Prod.fst) :
    Calls Try.prog 14 #[.pointer (some ⟨t, 0, none⟩), .int .i64 s.id] w fun e w' => e = .returned (.tuple #[.int .u64 s.due, .bool true]) ∧ Abv w0 w' t h A last := by
  have k' := k
  obtain ⟨f, h1, h2, h3⟩ := k
  exact (h1.deadline s hs).mono fun e w' ⟨e1, e2⟩ => ⟨e1, k'.touch e2⟩
theorem Abv.deadline_no (k : Abv w0 w t h A last) (i : Int) (hi : okK i) (hn : i ∉ tids (A.map Prod.fst)) :
    Calls Try.prog 14 #[.pointer (some ⟨t, 0, none⟩), .int .i64 i] w fun e w' => e = .returned (.tuple #[.int .u64 0, .bool false]) ∧ Abv w0 w' t h A last := by
  obtain ⟨f, h1, h2, h3⟩ := k
  refine (h1.deadline_no i hi hn).mono ?_
  rintro e w' ⟨rfl, rfl⟩
  exact ⟨rfl, f, h1, h2, h3⟩
theorem Abv.len (k : Abv w0 w t h A last) :
    Calls Try.prog 29 #[.pointer (some ⟨t, 0, none⟩)] w fun e w' => e = .returned (.int .i64 A.length) ∧ w' = w := by
  obtain ⟨f, h1, h2, h3⟩ := k
  exact h1.len
def Cut (w0 : World) (t h : Nat) (A : List (Tm × Value)) (last i : Int) (l : List Int) (w' : World) : Prop := Sub (A.map Prod.fst) i l ∧ Abv w0 w' t h (A.filter fun a => decide (a.1.id ∉ l)) last
theorem Abv.cancel (k : Abv w0 w t h A last) (i : Int) (hi : i ∈ tids (A.map Prod.fst)) :
    Calls Try.prog 16 #[.pointer (some ⟨t, 0, none⟩), .int .i64 i] w fun e w' => ∃ l : List Int, e = .returned (.int .i64 (l.length : Nat)) ∧ Cut w0 t h A last i l w' := by
  obtain ⟨f, h1, h2, h3⟩ := k
  refine (h1.cancel i hi).mono ?_
  rintro e w' ⟨l, rfl, hs, hn⟩
  exact ⟨l, rfl, hs, Abv.next h2 h3 hn⟩
theorem Abv.cancel_no (k : Abv w0 w t h A last) (i : Int) (hi : okK i) (hn : i ∉ tids (A.map Prod.fst)) :
    Calls Try.prog 16 #[.pointer (some ⟨t, 0, none⟩), .int .i64 i] w fun e w' => e = .returned (.int .i64 0) ∧ Abv w0 w' t h A last := by
  have k' := k
  obtain ⟨f, h1, h2, h3⟩ := k
  exact (h1.cancel_no i hi hn).mono fun e w' ⟨e1, e2⟩ => ⟨e1, k'.touch e2⟩
theorem Abv.expire_empty (k : Abv w0 w t h [] last) (now : Int) :
    Calls Try.prog 28 #[.pointer (some ⟨t, 0, none⟩), .int .u64 now] w fun e w' => e = .returned (.tuple #[.int .i64 0, .string ByteArray.empty, .bool false]) ∧ Abv w0 w' t h [] last := by
  have k' := k
  obtain ⟨f, h1, h2, h3⟩ := k
  exact (h1.expire_empty now).mono fun e w' ⟨e1, e2⟩ => ⟨e1, k'.touch e2⟩
theorem Abv.expire_late (k : Abv w0 w t h A last) (now : Int) (a : Tm × Value) (ha : a ∈ A) (hmin : ∀ b ∈ A, le (tkey a.1) (tkey b.1)) (hl : now < a.1.due) :
    Calls Try.prog 28 #[.pointer (some ⟨t, 0, none⟩), .int .u64 now] w fun e w' => e = .returned (.tuple #[.int .i64 0, .string ByteArray.empty, .bool false]) ∧ Abv w0 w' t h A last := by
  have k' := k
  obtain ⟨f, h1, h2, h3⟩ := k
  exact (h1.expire_late now a ha hmin hl).mono fun e w' ⟨e1, e2⟩ => ⟨e1, k'.touch e2⟩
theorem Abv.expire (k : Abv w0 w t h A last) (now : Int) (a : Tm × Value) (ha : a ∈ A) (hmin : ∀ b ∈ A, le (tkey a.1) (tkey b.1)) (hl : a.1.due ≤ now) :
    Calls Try.prog 28 #[.pointer (some ⟨t, 0, none⟩), .int .u64 now] w fun e w' => e = .returned (.tuple #[.int .i64 a.1.id, a.2, .bool true]) ∧ ∃ l, Cut w0 t h A last a.1.id l w' := by
  obtain ⟨f, h1, h2, h3⟩ := k
  refine (h1.expire now a ha hmin hl).mono ?_
  rintro e w' ⟨rfl, l, hs, hn⟩
  exact ⟨rfl, l, hs, Abv.next h2 h3 hn⟩
end
end Go.Proofs.Ytobkanlnnniabaa.S

/-
  The statements' sanity check is true.
-/
namespace Go.Proofs.Ytobkanlnnniabaa
open Go.RowKit
set_option linter.unusedVariables false
set_option linter.unusedSimpArgs false

def awA : Tm × Value := (⟨1, 0, 10, 10⟩, .string ⟨#[97]⟩)
def awB : Tm × Value := (⟨2, 1, 20, 10⟩, .string ⟨#[98]⟩)
theorem aw1 : ([] : List (Tm × Value)) ++ [((⟨0 + 1, 0, 10, min 10 (lim (([] : List (Tm × Value)).map Prod.fst) 0)⟩ : Tm), Value.string ⟨#[97]⟩)] = [awA] := by
  simp [awA, lim, maxT]
  omega
theorem aw2 : [awA] ++ [((⟨0 + 1 + 1, 1, 20, min 20 (lim ([awA].map Prod.fst) 1)⟩ : Tm), Value.string ⟨#[98]⟩)] = [awA, awB] := by
  simp [awA, awB, lim]
  omega
theorem aw3 {l : List Int} (h : Sub ([awA, awB].map Prod.fst) 1 l) : ([awA, awB].filter fun a => decide (a.1.id ∉ l)) = [] := by
  have h1 : (1 : Int) ∈ l := (h.iff 1).2 (.self (by simp [tids, awA, awB]))
  have h2 : (2 : Int) ∈ l := (h.iff 2).2 (.kid (.self (by simp [tids, awA, awB])) (by simp [kids, awA, awB]))
  simp [awA, awB, h1, h2]
set_option maxRecDepth 100000 in
set_option maxHeartbeats 2000000 in
theorem awake_any (w : World) : Calls Try.prog 10 #[] w fun e w' => e = .returned (.bool true) ∧ Touch [] w w' := by
  go_enter Try.func10, Try.ntmps10
  go_wp2_with fail
  refine (S.Abv.new w).mono ?_
  rintro e w1 ⟨t, h, rfl, k1⟩
  have H1 := Lib.hid k1
  clear k1
  go_wp2_with fail
  refine (H1.out.start 0 10 _ (by rfl) (by unfold maxT; omega) (by omega) (by simp) (.inl rfl)).mono ?_
  rintro e w2 ⟨rfl, k2⟩
  rw [aw1] at k2
  have H2 := Lib.hid k2
  clear k2 H1
  go_wp2_with fail
  refine (H2.out.start 1 20 _ (by rfl) (by unfold maxT; omega) (by omega) (by simp) (.inr (by simp [tids, awA]))).mono ?_
  rintro e w3 ⟨rfl, k3⟩
  rw [aw2] at k3
  have H3 := Lib.hid k3
  clear k3 H2
  go_wp2_with fail
  refine (H3.out.deadline awB.1 (by simp)).mono ?_
  rintro e w4 ⟨rfl, k4⟩
  have H4 := Lib.hid k4
  clear k4 H3
  have e1 : awB.1.due = 10 := rfl
  rw [e1]
  go_wp2_with fail
  refine (H4.out.expire 10 awA (by simp) (by simp [awA, awB, S.tkey, le]) (by simp [awA])).mono ?_
  rintro e w5 ⟨rfl, l, hs, k5⟩
  rw [aw3 hs] at k5
  have H5 := Lib.hid k5
  clear k5 H4 hs
  have e2 : awA.1.id = 1 := rfl
  have e3 : awA.2 = .string ⟨#[97]⟩ := rfl
  rw [e2, e3]
  clear e1 e2 e3
  go_wp2_with fail
  refine H5.out.len.mono ?_
  rintro e w6 ⟨rfl, rfl⟩
  go_wp2_with fail
  go_ret
  exact ⟨rfl, H5.out.tt⟩
end Go.Proofs.Ytobkanlnnniabaa

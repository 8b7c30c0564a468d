/-
  Merged texts: Mk, Ea, Ap, Ar.
-/
import Derived.Test.YtiklhaajhdephaaGreatDoorGD
import Derived.Test.YtiklhaajhdephaaGreatDoorGA
import Derived.DeepKeys4
import Derived.Test.YtiklhaajhdephaaGreatDoorGB
import Derived.Test.YtiklhaajhdephaaGreatDoorGE

/-
 Maps whose keys are addresses.
-/
namespace Go.Proofs.YtiklhaajhdephaaGreatDoor
open Go.RowKit
set_option linter.unusedVariables false
set_option linter.unusedSimpArgs false

def Ad.key (a : Ad) : Bool × List Int := (a.b, a.xs)
theorem Ad.key_inj {a c : Ad} (h : a.key = c.key) : a = c := by
 obtain ⟨b, xs, ok⟩ := a
 obtain ⟨b', xs', ok'⟩ := c
 simp only [Ad.key, Prod.mk.injEq] at h
 obtain ⟨rfl, rfl⟩ := h
 rfl
end Go.Proofs.YtiklhaajhdephaaGreatDoor

/-
 Equality of addresses, of lists of addresses; the contracts of Equal and of the reference's Contains.
-/
namespace Go.Proofs.YtiklhaajhdephaaGreatDoor
open Go.RowKit
set_option linter.unusedVariables false
set_option linter.unusedSimpArgs false

instance : DecidableEq Ad := fun a c => decidable_of_iff (a.key = c.key) ⟨Ad.key_inj, fun h => by rw [h]⟩
set_option maxRecDepth 100000 in
theorem lits_ad (a : Ad) : Tryz.prog.keyLits 5 40 a.cells = some (Lit.bool a.b :: a.xs.map (Lit.int .u8)) := by
 obtain ⟨b, xs, hl, hr⟩ := a
 obtain ⟨x0, x1, x2, x3, x4, x5, x6, x7, x8, x9, x10, x11, x12, x13, x14, x15, rfl⟩ := two8 xs hl
 have hwf : ∀ x : Int, 0 ≤ x ∧ x ≤ 255 → (Lit.int .u8 x).wf = true := by
  intro x hx
  simp [Lit.wf, IntKind.min, IntKind.max, IntKind.signed, IntKind.bits]
  omega
 have hk1 : ∀ x ∈ [x0, x1, x2, x3, x4, x5, x6, x7, x8, x9, x10, x11, x12, x13, x14, x15], ∀ d, Tryz.prog.keyLits (d + 1) 5 [.int .u8 x] = some [.int .u8 x] := by
  intro x hx d
  simp [Program.keyLits, Tryz.underlying5, hwf x (hr x hx)]
 simp only [List.mem_cons, List.not_mem_nil, or_false, forall_eq_or_imp, forall_eq] at hk1
 obtain ⟨k0, k1, k2, k3, k4, k5, k6, k7, k8, k9, k10, k11, k12, k13, k14, k15⟩ := hk1
 have c5 : Tryz.prog.cellsOf 5 = 1 := by kernel_rfl
 have c4 : Tryz.prog.cellsOf 4 = 1 := by kernel_rfl
 have c29 : Tryz.prog.cellsOf 38 = 16 := by kernel_rfl
 have c31 : Tryz.prog.cellsOf 40 = 17 := by kernel_rfl
 have hk2 : Tryz.prog.keyLits 4 38 ([x0, x1, x2, x3, x4, x5, x6, x7, x8, x9, x10, x11, x12, x13, x14, x15].map (Value.int .u8)) = some ([x0, x1, x2, x3, x4, x5, x6, x7, x8, x9, x10, x11, x12, x13, x14, x15].map (Lit.int .u8)) := by
  unfold Program.keyLits
  simp [Tryz.underlying38, c5, c29, List.range, List.range.loop, k0, k1, k2, k3, k4, k5, k6, k7, k8, k9, k10, k11, k12, k13, k14, k15]
 have hk3 : Tryz.prog.keyLits 4 4 [.bool b] = some [.bool b] := by
  simp [Program.keyLits, Tryz.underlying4]
 simp only [List.map_cons, List.map_nil] at hk2
 unfold Program.keyLits
 simp [Tryz.underlying40, Ad.cells, adr, c4, c29, c31, hk2, hk3]
set_option maxRecDepth 100000 in
theorem eq_ad (x y : Ad) (w : World) : (Op.equalIn 10000 40 (.agg x.cells.toArray) (.agg y.cells.toArray)).run Tryz.prog w = .ok (decide (x = y)) w := by
 have hf : ∀ z : Ad, (Value.agg z.cells.toArray).formed Tryz.prog 40 = true := by
  intro z
  have c31 : Tryz.prog.cellsOf 40 = 17 := by kernel_rfl
  simp [Value.formed, Tryz.underlying40, c31, z.len]
 obtain ⟨r, hrun, hi⟩ := run_equalIn_deep 9995 5 40 (by kernel_rfl) w 5 5 (.agg x.cells.toArray) (.agg y.cells.toArray) _ _ (hf x) (hf y) (lits_ad x) (lits_ad y)
 rw [hrun]
 congr 1
 rw [Bool.eq_iff_iff, hi, decide_eq_true_eq]
 constructor
 ·intro h
  simp only [List.cons.injEq, Lit.bool.injEq] at h
  exact Ad.key_inj (Prod.ext h.1 ((List.map_inj_right (fun a b h => by simpa using h)).1 h.2))
 ·intro h; rw [h]
theorem eq_ad_t (x y : Ad) (h : x = y) (w : World) : (Op.equalIn 10000 40 (.agg x.cells.toArray) (.agg y.cells.toArray)).run Tryz.prog w = .ok true w := by
 rw [eq_ad, show decide (x = y) = true by simpa using h]
theorem eq_ad_f (x y : Ad) (h : ¬ x = y) (w : World) : (Op.equalIn 10000 40 (.agg x.cells.toArray) (.agg y.cells.toArray)).run Tryz.prog w = .ok false w := by
 rw [eq_ad, show decide (x = y) = false by simpa using h]
/-- Whether a is among l. -/
def inL (l : List Ad) (a : Ad) : Bool := decide (a ∈ l)
set_option maxRecDepth 100000 in
set_option maxHeartbeats 2000000 in
theorem rhas_any (v : Value) (b : Nat) (l : List Ad) (a : Ad) (w : World) (h1 : Rd w 17 b v (l.map Ad.cells)) :
  Calls Tryz.prog 11 #[v, .agg a.cells.toArray] w fun e w' => e = .returned (.bool (inL l a)) ∧ Touch [] w w' := by
 obtain ⟨a1, c1, rfl, hc1, hm1⟩ := h1.form
 simp only [List.length_map] at *
 have H1 := Lib.hid h1
 have hn1 : l.length ≤ 9223372036854775807 := by unfold maxLen at hm1; omega
 obtain ⟨n, hn⟩ : ∃ n, n = l.length := ⟨_, rfl⟩
 have HN := Lib.hid hn
 rw [← hn]
 rw [← hn] at hn1
 have HA := Lib.hid (range_new w a.cells 40)
 have HTA := Lib.hid ((Touch.refl [] w).alloc (.cells a.cells.toArray 40))
 have HLA := Lib.hid a.len
 generalize hr : inL l a = r at *
 have HR := Lib.hid hr
 clear h1 hm1 hn hc1 hr
 go_enter Tryz.func11, Tryz.ntmps11
 go_wp2_with fail
 go_loopw [5] (fun vi wr => ∃ (i : Nat), i ≤ n ∧ vi = .int .i64 i ∧ inL (l.take i) a = false ∧ Touch [] (w.alloc (.cells a.cells.toArray 40)) wr) (fun vi _ => n - (intOf vi).toNat)
 case atStart => exact ⟨0, by omega, rfl, rfl, Touch.refl _ _⟩
 case round =>
  obtain ⟨i, hin, rfl, hno, ht⟩ := hrel
  have HT := Lib.hid ht
  have HNO := Lib.hid hno
  have ra := ht.range HA.out (by simp)
  clear ht hno HA
  by_cases hlt : i < n
  ·obtain ⟨x, hx⟩ : ∃ x, l[i]? = some x := ⟨_, List.getElem?_eq_getElem (by rw [← HN.out]; exact hlt)⟩
   obtain ⟨o1, rfl, hat1⟩ := H1.out.at (by intro e; rw [List.map_eq_nil_iff] at e; rw [e] at hx; simp at hx)
   have r1 := (HTA.out.trans HT.out (by simp)).range (hat1 i x.cells (by simp [hx])) (by simp)
   have HX := Lib.hid hx
   have HLX := Lib.hid x.len
   have hwi : IntKind.i64.wrap ((i : Int) + 1) = (i : Int) + 1 := by rw [IntKind.wrap_i64] <;> omega
   have hin2 : (i : Int) < (n : Int) := by omega
   clear hx hat1
   by_cases hxy : x = a
   ·have HXY := Lib.hid (show r = true by rw [← HR.out]; unfold inL; rw [decide_eq_true_eq, ← hxy]; exact List.mem_of_getElem? HX.out)
    have HE := Lib.hid (eq_ad_t x a hxy)
    clear hxy
    go_wp2_with fail
    refine wp_region_held (S := Touch [] wr.drew) (by kernel_rfl) ?_
    change wpAnyH _ _ _ _ _ _ _ _ wr.drew
    have r1 : wr.drew.rangeAt b (o1 + i * 17) x.cells := r1
    have ra : wr.drew.rangeAt w.heap.size 0 a.cells := ra
    have HTd := Lib.hid (HT.out.drew)
    clear HT
    generalize wr.drew = W at *
    have hS := Touch.refl [] W
    refine tkH 0 (.slice (some ⟨b, o1, none⟩) n c1) ?_
    refine tkH 1 (.int .i64 (i : Nat)) ?_
    refine tkH 2 (.pointer (some ⟨b, o1 + i * 17, none⟩)) ?_
    refine tkH 3 (.agg x.cells.toArray) ?_ (hy := Or.inl ⟨by rfl, fun w' hw => exec_load_agg _ 40 _ rfl _ _ rfl x.cells _ (hw.range r1 (by simp)) Tryz.underlying40 rfl (by rw [size31, HLX.out])⟩)
    refine tkH 4 (.agg a.cells.toArray) ?_ (hy := Or.inl ⟨by rfl, fun w' hw => exec_load_agg _ 40 _ rfl _ _ rfl a.cells _ (hw.range ra (by simp)) Tryz.underlying40 rfl (by rw [size31, HLA.out])⟩)
    refine tkH 5 (.bool true) ?_ (hy := Or.inl ⟨by rfl, fun w' hw => exec_eql_agg _ 40 _ _ _ rfl x.cells.toArray a.cells.toArray rfl rfl (by kernel_rfl) true (HE.out w')⟩)
    refine wpAnyH_done (by kernel_rfl) ?_ _
    try simp only [Act.put, sT, s0, sS]
    have HT2 := Lib.hid (HTd.out.trans hS (by simp))
    clear hS HTd
    go_wp2_with fail
    go_ret
    exact ⟨by rw [HXY.out]; first | done | rfl, HTA.out.trans HT2.out (by simp)⟩
   ·have HXY := Lib.hid hxy
    have HE := Lib.hid (eq_ad_f x a hxy)
    clear hxy
    go_wp2_with fail
    refine wp_region_held (S := Touch [] wr.drew) (by kernel_rfl) ?_
    change wpAnyH _ _ _ _ _ _ _ _ wr.drew
    have r1 : wr.drew.rangeAt b (o1 + i * 17) x.cells := r1
    have ra : wr.drew.rangeAt w.heap.size 0 a.cells := ra
    have HTd := Lib.hid (HT.out.drew)
    clear HT
    generalize wr.drew = W at *
    have hS := Touch.refl [] W
    refine tkH 0 (.slice (some ⟨b, o1, none⟩) n c1) ?_
    refine tkH 1 (.int .i64 (i : Nat)) ?_
    refine tkH 2 (.pointer (some ⟨b, o1 + i * 17, none⟩)) ?_
    refine tkH 3 (.agg x.cells.toArray) ?_ (hy := Or.inl ⟨by rfl, fun w' hw => exec_load_agg _ 40 _ rfl _ _ rfl x.cells _ (hw.range r1 (by simp)) Tryz.underlying40 rfl (by rw [size31, HLX.out])⟩)
    refine tkH 4 (.agg a.cells.toArray) ?_ (hy := Or.inl ⟨by rfl, fun w' hw => exec_load_agg _ 40 _ rfl _ _ rfl a.cells _ (hw.range ra (by simp)) Tryz.underlying40 rfl (by rw [size31, HLA.out])⟩)
    refine tkH 5 (.bool false) ?_ (hy := Or.inl ⟨by rfl, fun w' hw => exec_eql_agg _ 40 _ _ _ rfl x.cells.toArray a.cells.toArray rfl rfl (by kernel_rfl) false (HE.out w')⟩)
    refine wpAnyH_done (by kernel_rfl) ?_ _
    try simp only [Act.put, sT, s0, sS]
    have HT2 := Lib.hid (HTd.out.trans hS (by simp))
    clear hS HTd
    go_wp2_with fail
    go_roundw
    case rel => exact ⟨i + 1, by omega, by go_num, by
     have h := HNO.out
     unfold inL at h ⊢
     rw [decide_eq_false_iff_not] at h ⊢
     rw [List.take_add_one, HX.out]
     simp only [Option.toList_some, List.mem_append, List.mem_singleton]
     rintro (e | e)
     ·exact h e
     ·exact HXY.out e.symm, HT2.out⟩
    case measure => simp [intOf]; omega
  ·have HFIN := Lib.hid (show r = false by
    rw [← HR.out]
    have h := HNO.out
    rw [List.take_of_length_le (by rw [← HN.out]; omega)] at h
    exact h)
   go_wp2_with fail
   go_ret
   exact ⟨by rw [HFIN.out]; first | done | rfl, HTA.out.trans HT.out (by simp)⟩
end Go.Proofs.YtiklhaajhdephaaGreatDoor

/-
 append at rows of addresses: one address, many addresses; the contracts of the reference's Dedup and Sort.
-/
namespace Go.Proofs.YtiklhaajhdephaaGreatDoor
open Go.RowKit
set_option linter.unusedVariables false
set_option linter.unusedSimpArgs false

theorem ads_one17 (l : List Ad) : ∀ u ∈ (l.map Ad.cells).flatten, u.oneCell' = true := ads_one (by intro x hx; obtain ⟨y, _, rfl⟩ := List.mem_map.1 hx; exact y.is)
theorem OwnA.rd {w0 w : World} {v : Value} {l : List Ad} (h : OwnA w0 w v l) : ∃ b, Rd w 17 b v (l.map Ad.cells) ∧ (v.ownBlock = some b ∨ v.ownBlock = none) := by
 cases hb : v.ownBlock with
 | none => exact ⟨0, Rd.of_owns (ads_len17 l) h.row (by intro b hb2; rw [hb] at hb2; cases hb2), .inr rfl⟩
 | some g => exact ⟨g, Rd.of_owns (ads_len17 l) h.row (by intro b hb2; rw [hb] at hb2; cases hb2; rfl), .inl rfl⟩
theorem wpList_build_ad {ops : Array Oper} {rest : List Oper} {op : Oper} {a : Act} {w : World} {Q : Exit → Act → World → Prop} (hgd : op.guard = none) (parts : Array (Nat × Operand)) (ho : op.op = .buildSlice 35 1 parts)
  (y : Ad) (he : (parts.toList.map fun (p : Nat × Operand) => (p.1, a.eval p.2)) = [(0, .agg y.cells.toArray)])
  (h : wpList Tryz.prog ops Q rest (a.put op.dst (.slice (some ⟨w.heap.size, 0, none⟩) 1 1)) (w.alloc (.cells [y.cells].flatten.toArray 40))) : wpList Tryz.prog ops Q (op :: rest) a w := by
 obtain ⟨iA, hiA, hzA, hsA, hbA⟩ := info_parts info40
 exact wpList_buildSlice_rows hgd 35 1 parts ho 40 17 iA _ Tryz.underlying35 hiA hzA hsA (by omega) [y.cells] rfl (by simp [y.len]) (by omega) (by rw [he]; rfl) h
theorem own_app {w0 w w' : World} {v v' : Value} {l m : List Ad} (hown : OwnA w0 w v l) (hz : w0.heap.size ≤ w.heap.size) (ho : w'.ownsRow 0 40 17 v' (l.length + m.length) ((l.map Ad.cells).flatten ++ (m.map Ad.cells).flatten)) (hv : v'.ownBlock = v.ownBlock ∨ ∃ k, v'.ownBlock = some k ∧ w.heap.size ≤ k) : OwnA w0 w' v' (l ++ m) := by
 refine ⟨?_, ?_⟩
 ·rw [List.map_append, List.flatten_append, List.length_append, List.length_map, List.length_map]
  exact ho
 ·intro g hg
  rcases hv with e | ⟨k, e, hk⟩
  ·rw [e] at hg; exact hown.new g hg
  ·rw [e] at hg; cases hg; omega
theorem wpList_app_ad {ops : Array Oper} {rest : List Oper} {o : Oper} {a : Act} {Q : Exit → Act → World → Prop} (w0 w : World) (hgd : o.guard = none) (s x : Operand)
  (ho : o.op = .call { callee := .builtin .append, args := #[s, x], argTypes := #[35, 35] })
  (v : Value) (l : List Ad) (hs : a.eval s = v) (hown : OwnA w0 w v l) (hz : w0.heap.size ≤ w.heap.size) (y : Ad) (hx : a.eval x = .slice (some ⟨w.heap.size, 0, none⟩) 1 1) (hl : (l.length + 1) * 17 ≤ 140737488355328)
  (h : ∀ v' w', OwnA w0 w' v' (l ++ [y]) → Touch v.ownBlock.toList w w' → (v'.ownBlock = v.ownBlock ∨ v'.ownBlock = some (w.heap.size + 1)) → wpList Tryz.prog ops Q rest (a.put o.dst v') w') : wpList Tryz.prog ops Q (o :: rest) a (w.alloc (.cells [y.cells].flatten.toArray 40)) := by
 obtain ⟨iA, hiA, hzA, hsA, hbA⟩ := info_parts info40
 refine wpList_app_rec _ hgd s x 35 ho 40 iA _ 17 17 Tryz.underlying35 hiA hzA hsA hbA rfl (by omega) v l.length _ hs hown.row' ([y.cells].flatten) 40 hx (by simp [y.len]) (by simpa using y.one) (by unfold maxLen; omega) (by omega) ?_
 intro v' w' ho2 t2 hv2
 refine h v' w' (own_app (m := [y]) hown hz (by simpa using ho2) ?_) t2 hv2
 rcases hv2 with e | e
 ·exact .inl e
 ·exact .inr ⟨_, e, by omega⟩
/-- append(s, m..): a row of the call's own, then what another slice reads. -/
theorem wpList_app_ads {ops : Array Oper} {rest : List Oper} {o : Oper} {a : Act} {Q : Exit → Act → World → Prop} (w0 w : World) (hgd : o.guard = none) (s x : Operand)
  (ho : o.op = .call { callee := .builtin .append, args := #[s, x], argTypes := #[35, 35] })
  (v : Value) (l : List Ad) (hs : a.eval s = v) (hown : OwnA w0 w v l) (hz : w0.heap.size ≤ w.heap.size) (v2 : Value) (b : Nat) (m : List Ad) (hx : a.eval x = v2) (hm : Rd w 17 b v2 (m.map Ad.cells)) (hl : (l.length + m.length) * 17 ≤ 140737488355328)
  (h : ∀ v' w', OwnA w0 w' v' (l ++ m) → Touch v.ownBlock.toList w w' → (v'.ownBlock = v.ownBlock ∨ v'.ownBlock = some w.heap.size) → wpList Tryz.prog ops Q rest (a.put o.dst v') w') : wpList Tryz.prog ops Q (o :: rest) a w := by
 obtain ⟨iA, hiA, hzA, hsA, hbA⟩ := info_parts info40
 obtain ⟨ao, cap, rfl, hlc, hcm⟩ := hm.form
 rw [List.length_map] at hm hx hlc
 obtain ⟨hnone, hnews⟩ := hm.news (by omega) (ads_len17 m)
 refine wpList_app _ hgd s x 35 ho 40 iA _ 17 17 Tryz.underlying35 hiA hzA hsA hbA rfl (by omega) v l.length _ hs hown.row' ao m.length cap ((m.map Ad.cells).flatten) hx (ads_flat m) hnone hnews (ads_one17 m) (by unfold maxLen; omega) (by omega) ?_
 intro v' w' ho2 t2 hv2
 refine h v' w' (own_app hown hz ho2 ?_) t2 hv2
 rcases hv2 with e | e
 ·exact .inl e
 ·exact .inr ⟨_, e, Nat.le_refl _⟩
end Go.Proofs.YtiklhaajhdephaaGreatDoor

/-
 The cells of an address that came in.
-/
namespace Go.Proofs.YtiklhaajhdephaaGreatDoor
open Go.ChangeShapes Go.WideShapes Go.Deep
set_option linter.unusedVariables false
set_option linter.unusedSimpArgs false

theorem isAd_cells {H : Type} {enc : TypeId × Value → H} {w : World} {base : Nat} {spare : Nat → Bool} {held : Bool} {x : List Value}
  (h : CellsOk enc Tryz.prog w base spare held [4, 5, 5, 5, 5, 5, 5, 5, 5, 5, 5, 5, 5, 5, 5, 5, 5] x) : IsAd x := by
 obtain ⟨hl, hc⟩ := h
 cases x with
 | nil => simp at hl
 | cons u r =>
  obtain ⟨v, hv, l0⟩ := hc 0 4 rfl
  simp at hv
  subst hv
  obtain ⟨b, rfl⟩ := l0.bool Tryz.underlying4
  have hr : r.length = 16 := by simpa using hl
  have key : ∀ j, j < 16 → ∃ n : Int, r[j]? = some (.int .u8 n) ∧ 0 ≤ n ∧ n ≤ 255 := by
   intro j hj
   have : [4, 5, 5, 5, 5, 5, 5, 5, 5, 5, 5, 5, 5, 5, 5, 5, 5][j + 1]? = some 5 := by
    have : ∀ j : Fin 16, [4, 5, 5, 5, 5, 5, 5, 5, 5, 5, 5, 5, 5, 5, 5, 5, 5][j.val + 1]? = some 5 := by decide
    exact this ⟨j, hj⟩
   obtain ⟨v, hv, l⟩ := hc (j + 1) 5 this
   obtain ⟨n, rfl, hw⟩ := l.int Tryz.underlying5
   refine ⟨n, by simpa using hv, ?_⟩
   simp [Lit.wf, IntKind.min, IntKind.max, IntKind.signed, IntKind.bits] at hw
   omega
  refine ⟨b, r.map fun v => match v with | .int _ n => n | _ => 0, ?_, by simpa using hr, ?_⟩
  ·unfold adr
   congr 1
   apply List.ext_getElem?
   intro j
   by_cases hj : j < 16
   ·obtain ⟨n, hn, _⟩ := key j hj
    simp [hn]
   ·simp [List.getElem?_eq_none (show r.length ≤ j by omega)]
  ·intro y hy
   obtain ⟨z, hz, rfl⟩ := List.mem_map.1 hy
   obtain ⟨j, hj, rfl⟩ := List.getElem_of_mem hz
   obtain ⟨n, hn, h1, h2⟩ := key j (by omega)
   rw [List.getElem?_eq_getElem hj] at hn
   simp at hn
   rw [hn]
   exact ⟨h1, h2⟩

end Go.Proofs.YtiklhaajhdephaaGreatDoor

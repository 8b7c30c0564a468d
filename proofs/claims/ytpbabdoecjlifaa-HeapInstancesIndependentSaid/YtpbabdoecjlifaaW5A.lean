/-
  The walk of HeapInstancesIndependent: true at every slice of due times and every address.
-/
import Derived.Test.YtpbabdoecjlifaaEqA
import Derived.Test.YtpbabdoecjlifaaAr
namespace Go.Proofs.Ytpbabdoecjlifaa.A
open Go.ChangeShapes Go.WideShapes Go.RowKit Go.Sort
set_option linter.unusedVariables false
set_option linter.unusedSimpArgs false

def pa (l : List Int) (cs : List Value) (i : Nat) : List Itm := (List.range i).map fun (j : Nat) => ⟨(j : Int) + 1, l.getD j 0, .agg cs.toArray⟩
def strX : Value := .string { data := #[120] }
def ps (l : List Int) (i : Nat) : List Itm := (List.range i).map fun (j : Nat) => ⟨(j : Int) + 1, 18446744073709551615 - l.getD j 0, strX⟩
theorem pa_step (l : List Int) (cs : List Value) (i : Nat) (x : Int) (hx : l[i]? = some x) : pa l cs (i + 1) = pa l cs i ++ [⟨(i : Int) + 1, x, .agg cs.toArray⟩] := by
  simp [pa, List.range_succ, List.getD_eq_getElem?_getD, hx]
theorem ps_step (l : List Int) (i : Nat) (x : Int) (hx : l[i]? = some x) : ps l (i + 1) = ps l i ++ [⟨(i : Int) + 1, 18446744073709551615 - x, strX⟩] := by
  simp [ps, List.range_succ, List.getD_eq_getElem?_getD, hx]
theorem pa_len (l : List Int) (cs : List Value) (i : Nat) : (pa l cs i).length = i := by simp [pa]
theorem ps_len (l : List Int) (i : Nat) : (ps l i).length = i := by simp [ps]
theorem pa_get {l : List Int} {cs : List Value} {n : Nat} {y : Itm} (hy : y ∈ pa l cs n) : ∃ j, j < n ∧ y = ⟨(j : Int) + 1, l.getD j 0, .agg cs.toArray⟩ := by
  obtain ⟨j, hj, rfl⟩ := List.mem_map.1 hy
  exact ⟨j, List.mem_range.1 hj, rfl⟩
theorem Two.start {w0 w1 w2 : World} {h h2 m2 : Nat} {f : List Nat} {v2 : Value} (b1 : Bag w1 h f [] 0) (f1 : ∀ y ∈ f, w0.heap.size ≤ y) (t1 : Touch [] w0 w1) (b2 : S.HB w2 h2 m2 v2 [] [] 0) (f2 : ∀ y ∈ S.Hp.foot h2 m2 v2, w1.heap.size ≤ y) (t2 : Touch [] w1 w2) : Two w0 w2 h h2 [] [] 0 0 :=
  ⟨f, _, b1.touch t2 (by simp), ⟨m2, v2, [], [], b2, List.Perm.refl _, rfl⟩, fun y hy hy2 => by have := b1.lt y hy; have := f2 y hy2; omega, f1, fun y hy => Nat.le_trans t1.size (f2 y hy), t1.trans t2 (by simp)⟩
section
variable {w0 w : World} {h h2 : Nat} {L M : List Itm} {n n2 : Int}
theorem Two.t0 (k : Two w0 w h h2 L M n n2) : Touch [] w0 w := by
  obtain ⟨f, f2, a, b, c, d, e, g⟩ := k
  exact g
theorem Two.pushA (k : Two w0 w h h2 L M n n2) (due : Int) (cs : List Value) (hcl : cs.length = 17) (hc1 : ∀ u ∈ cs, u.oneCell' = true) (hl : n < 1000) (hL : L.length < 1000) :
    Calls Try.prog 28 #[.pointer (some ⟨h, 0, none⟩), .int .u64 due, .agg cs.toArray] w fun e w' => e = .returned (.int .i64 (n + 1)) ∧ Two w0 w' h h2 (L ++ [⟨n + 1, due, .agg cs.toArray⟩]) M (n + 1) n2 := by
  obtain ⟨f, f2, a, b, c, d, e, g⟩ := k
  refine (a.push due cs hcl hc1 hl hL).mono ?_
  rintro r w' ⟨rfl, k⟩
  exact ⟨rfl, Two.nextA (L := L) (n := n) b c d e g k⟩
theorem Two.pushS (k : Two w0 w h h2 L M n n2) (due : Int) (x : Value) (h1 : x.oneCell' = true) (hl : n2 < 1000) (hL : M.length < 1000) :
    Calls Try.prog 29 #[.pointer (some ⟨h2, 0, none⟩), .int .u64 due, x] w fun e w' => e = .returned (.int .i64 (n2 + 1)) ∧ Two w0 w' h h2 L (M ++ [⟨n2 + 1, due, x⟩]) n (n2 + 1) := by
  obtain ⟨f, f2, a, b, c, d, e, g⟩ := k
  refine (b.push due x h1 hl hL).mono ?_
  rintro r w' ⟨rfl, k⟩
  exact ⟨rfl, Two.nextS (M := M) (n2 := n2) a c d e g k⟩
theorem ex_least (hL : L ≠ []) : ∃ x ∈ L, ∀ y ∈ L, le x.key y.key := by
  have h1 := sortI_perm L
  have h2 := sortI_sorted L
  generalize sortI L = A at *
  match A, h1, h2 with
  | [], h1, _ => exact absurd (List.nil_perm.1 h1) hL
  | x :: r, h1, h2 =>
    refine ⟨x, h1.mem_iff.1 List.mem_cons_self, fun y hy => ?_⟩
    rcases List.mem_cons.1 (h1.mem_iff.2 hy) with rfl | hy
    · unfold le
      omega
    · exact (List.pairwise_cons.1 h2).1 y hy
theorem Two.popA (k : Two w0 w h h2 L M n n2) (hL : L ≠ []) :
    Calls Try.prog 32 #[.pointer (some ⟨h, 0, none⟩)] w fun e w' => ∃ x ∈ L, e = .returned (.tuple #[.int .i64 x.id, .int .u64 x.due, .agg (cx x).toArray, .bool true]) ∧ Two w0 w' h h2 (L.filter fun y => decide (y.id ≠ x.id)) M n n2 ∧ (L.filter fun y => decide (y.id ≠ x.id)).length + 1 = L.length := by
  obtain ⟨f, f2, a, b, c, d, e, g⟩ := k
  obtain ⟨x, hx, hm⟩ := ex_least hL
  refine (a.pop x hx hm).mono ?_
  rintro r w' ⟨rfl, k⟩
  refine ⟨x, hx, rfl, Two.nextA (L := L) (n := n) b c d e g k, ?_⟩
  obtain ⟨i, hi, e⟩ := List.getElem_of_mem hx
  rw [← erase_filter L i x a.ids (by rw [List.getElem?_eq_getElem hi, e]), List.length_eraseIdx_of_lt hi]
  omega
theorem Two.lenA (k : Two w0 w h h2 L M n n2) : Calls Try.prog 33 #[.pointer (some ⟨h, 0, none⟩)] w fun e w' => e = .returned (.int .i64 L.length) ∧ w = w' := by
  obtain ⟨f, f2, a, b, c, d, e, g⟩ := k
  exact a.len
theorem Two.handlesA (k : Two w0 w h h2 L M n n2) : Calls Try.prog 31 #[.pointer (some ⟨h, 0, none⟩)] w fun e w' => ∃ (v : Value) (ks : List Int), e = .returned v ∧ ks.length = L.length ∧ OwnN w w' v ks ∧ Two w0 w' h h2 L M n n2 ∧ (∀ w'', Touch v.ownBlock.toList w' w'' → Two w0 w'' h h2 L M n n2) := by
  obtain ⟨f, f2, a, b, c, d, e, g⟩ := k
  refine a.handles.mono ?_
  rintro r w' ⟨v, ks, rfl, hp, _, ho, ht⟩
  refine ⟨v, ks.map Itm.id, rfl, by rw [List.length_map, hp.length_eq], ho, ⟨f, f2, a.touch ht (by simp), b.touch ht (by simp), c, d, e, g.trans ht (by simp)⟩, ?_⟩
  intro w'' t
  have hlt := a.lt
  have hlt2 := b.lt
  have hn := ho.new
  have ka := a.touch ht (by simp)
  have kb := b.touch ht (by simp)
  have kg := g.trans ht (by simp)
  refine ⟨f, f2, ka.touch t ?_, kb.touch t ?_, c, d, e, kg.trans t ?_⟩
  · intro y hy hy2
    have := hn y (by simpa using hy2)
    have := hlt y hy
    omega
  · intro y hy hy2
    have := hn y (by simpa using hy2)
    have := hlt2 y hy
    omega
  · intro y hy
    have := hn y (by simpa using hy)
    exact .inr (Nat.le_trans g.size this)
end
theorem isAd_cells {H : Type} {enc : TypeId × Value → H} {w : World} {base : Nat} {spare : Nat → Bool} {held : Bool} {x : List Value}
    (h : CellsOk enc Try.prog w base spare held [4, 5, 5, 5, 5, 5, 5, 5, 5, 5, 5, 5, 5, 5, 5, 5, 5] x) : IsAd x := by
  obtain ⟨hl, hc⟩ := h
  cases x with
  | nil => simp at hl
  | cons u r =>
    obtain ⟨v, hv, l0⟩ := hc 0 4 rfl
    simp at hv
    subst hv
    obtain ⟨b, rfl⟩ := l0.bool Try.underlying4
    have hr : r.length = 16 := by simpa using hl
    have key : ∀ j, j < 16 → ∃ n : Int, r[j]? = some (.int .u8 n) ∧ 0 ≤ n ∧ n ≤ 255 := by
      intro j hj
      have : [4, 5, 5, 5, 5, 5, 5, 5, 5, 5, 5, 5, 5, 5, 5, 5, 5][j + 1]? = some 5 := by
        have : ∀ j : Fin 16, [4, 5, 5, 5, 5, 5, 5, 5, 5, 5, 5, 5, 5, 5, 5, 5, 5][j.val + 1]? = some 5 := by decide
        exact this ⟨j, hj⟩
      obtain ⟨v, hv, l⟩ := hc (j + 1) 5 this
      obtain ⟨n, rfl, hw⟩ := l.int Try.underlying5
      refine ⟨n, by simpa using hv, ?_⟩
      simp [Lit.wf, IntKind.min, IntKind.max, IntKind.signed, IntKind.bits] at hw
      omega
    refine ⟨b, r.map fun v => match v with | .int _ n => n | _ => 0, ?_, by simpa using hr, ?_⟩
    · unfold adr
      congr 1
      apply List.ext_getElem?
      intro j
      by_cases hj : j < 16
      · obtain ⟨n, hn, _⟩ := key j hj
        simp [hn]
      · simp [List.getElem?_eq_none (show r.length ≤ j by omega)]
    · intro y hy
      obtain ⟨z, hz, rfl⟩ := List.mem_map.1 hy
      obtain ⟨j, hj, rfl⟩ := List.getElem_of_mem hz
      obtain ⟨n, hn, h1, h2⟩ := key j (by omega)
      rw [List.getElem?_eq_getElem hj] at hn
      simp at hn
      rw [hn]
      exact ⟨h1, h2⟩

set_option maxRecDepth 100000 in
set_option maxHeartbeats 4000000 in
theorem walk5 (v : Value) (b : Nat) (l : List Int) (ab : Bool) (xs : List Int) (w : World) (hr : Rd w 1 b v (l.map encU)) (hl : ∀ x ∈ l, U64 x) (hxs : okB xs) :
    Calls Try.prog 5 #[v, .agg (adr ab xs).toArray] w fun e w' => e = .returned (.bool true) ∧ Touch [] w w' := by
  obtain ⟨a, cap, rfl, hc, hm⟩ := hr.form
  rw [List.length_map] at hc hr ⊢
  have hcl : (adr ab xs).length = 17 := by simp [adr, hxs.1]
  have hc1 : ∀ u ∈ adr ab xs, u.oneCell' = true := by
    intro u hu
    rcases List.mem_cons.1 hu with rfl | hu
    · rfl
    · obtain ⟨x, _, rfl⟩ := List.mem_map.1 hu
      rfl
  have HEQ := Lib.hid (fun w => show (Op.equalIn 10000 54 (.agg (adr ab xs).toArray) (.agg (adr ab xs).toArray)).run Try.prog w = .ok true w by rw [eq_ads _ _ _ _ hxs hxs]; simp)
  generalize adr ab xs = cs at *
  obtain ⟨n, hn⟩ : ∃ n, n = min l.length 40 := ⟨_, rfl⟩
  have hn40 : n ≤ 40 := by omega
  have hnl : n ≤ l.length := by omega
  have HCL := Lib.hid hcl
  have HC1 := Lib.hid hc1
  have T0 := Lib.hid ((Touch.refl [] w).alloc (.cells cs.toArray 54))
  have Z0 := Lib.hid (heap_alloc_new w (.cells cs.toArray 54))
  have hz0 : (w.alloc (.cells cs.toArray 54)).heap.size = w.heap.size + 1 := by simp
  have HZ0 := Lib.hid (show w.heap.size < (w.alloc (.cells cs.toArray 54)).heap.size by omega)
  clear hcl hc1 hz0
  go_enter Try.func5, Try.ntmps5
  go_wp2_with fail
  refine (Bag.new _).mono ?_
  rintro e w1 ⟨ha, fa, rfl, hb1, hf1, ht1⟩
  go_wp2_with fail
  refine (S.new_any _).mono ?_
  rintro e w2 ⟨hs, m2, v2, rfl, hb2, hf2, ht2⟩
  have H0 := Lib.hid (Two.start hb1 hf1 ht1 hb2 hf2 ht2)
  clear hb1 hf1 ht1 hb2 hf2 ht2
  go_wp2_with fail
  have hrW := Lib.hid (hr.touch T0.out (by simp))
  have HRB := Lib.hid (range_block Z0.out)
  have HT0 := Lib.hid T0.out
  generalize hW0 : w.alloc (.cells cs.toArray 54) = W0 at *
  have hnI : min (l.length : Int) 40 = (n : Int) := by omega
  simp only [hnI]
  have HN := Lib.hid hn
  clear hn hnI hr T0 Z0 hW0
  go_loopw [8] (fun vi wr => ∃ (i : Nat), vi = .int .i64 i ∧ i ≤ n ∧ Two W0 wr ha hs (pa l cs i) (ps l i) i i) (fun vi _ => n - (intOf vi).toNat)
  case atStart => exact ⟨0, rfl, by omega, H0.out⟩
  case round =>
    obtain ⟨i, rfl, hin, hh⟩ := hrel
    have HH := Lib.hid hh
    clear hh
    by_cases hlt : i < n
    · have hx : l[i]? = some l[i] := List.getElem?_eq_getElem (by omega)
      have hpl := pa_step l cs i _ hx
      have hpl2 := ps_step l i _ hx
      have hux := hl _ (List.getElem_mem (l := l) (n := i) (by omega))
      generalize l[i] = x at hx hpl hpl2 hux
      have HPL := Lib.hid hpl
      have HPL2 := Lib.hid hpl2
      obtain ⟨off, rfl, p1⟩ := rd_u64 hrW.out hx
      have hwi : IntKind.i64.wrap ((i : Int) + 1) = (i : Int) + 1 := by rw [IntKind.wrap_i64] <;> omega
      have hwx : IntKind.u64.wrap (18446744073709551615 - x) = 18446744073709551615 - x := by simp [U64, Lit.wf, IntKind.min, IntKind.max, IntKind.signed, IntKind.bits] at hux; rw [IntKind.wrap_u64]; omega
      have hb1 : (i : Int) < (l.length : Int) := by omega
      have hb2 : (i : Int) < (n : Int) := by omega
      have HX := Lib.hid hx
      have HP1 := Lib.hid p1
      clear hx hpl hpl2 hux p1
      go_wp2_with fail
      have HHd := Lib.hid (HH.out.touch ((Touch.refl [] wr).drew))
      have p1 := HP1.out
      have rB := HRB.out
      refine wp_region_held (S := Touch [] W0) (by kernel_rfl) ?_
      change wpAnyH _ _ _ _ _ _ _ _ wr.drew
      have hS := HHd.out.t0
      generalize wr.drew = W at *
      refine wpAnyH_take (i := 0) (oi := { dst := some 30, op := Op.move (Operand.tmp 5), type := 55, pos := "law.go:204", after := #[], guard := none }) (v := .pointer (some ⟨ha, 0, none⟩)) rfl (by kernel_rfl) (by kernel_rfl) (by kernel_rfl) (fun _ _ _ h => h) (Or.inl ⟨by rfl, fun w' hw => by go_simp⟩) hS ?_
      try simp only [Act.put, List.setIfInBounds_toArray, List.set_cons_zero, List.set_cons_succ]
      refine wpAnyH_take (i := 1) (oi := { dst := some 31, op := Op.move (Operand.tmp 0), type := 50, pos := "law.go:204", after := #[], guard := none }) (v := .slice (some ⟨b, off, none⟩) l.length cap) rfl (by kernel_rfl) (by kernel_rfl) (by kernel_rfl) (fun _ _ _ h => h) (Or.inl ⟨by rfl, fun w' hw => by go_simp⟩) hS ?_
      try simp only [Act.put, List.setIfInBounds_toArray, List.set_cons_zero, List.set_cons_succ]
      refine wpAnyH_take (i := 2) (oi := { dst := some 32, op := Op.move (Operand.tmp 8), type := 3, pos := "law.go:204", after := #[], guard := none }) (v := .int .i64 i) rfl (by kernel_rfl) (by kernel_rfl) (by kernel_rfl) (fun _ _ _ h => h) (Or.inl ⟨by rfl, fun w' hw => by go_simp⟩) hS ?_
      try simp only [Act.put, List.setIfInBounds_toArray, List.set_cons_zero, List.set_cons_succ]
      refine wpAnyH_take (i := 3) (oi := { dst := some 33, op := Op.indexAddr 50 (Operand.tmp 31) (Operand.tmp 32), type := 0, pos := "law.go:204", after := #[{ on := 1, ground := Ground.data }, { on := 2, ground := Ground.data }], guard := none }) (v := .pointer (some ⟨b, off + i, none⟩)) rfl (by kernel_rfl) (by kernel_rfl) (by kernel_rfl) (fun _ _ _ h => h) (Or.inl ⟨by rfl, fun w' hw => by go_simp⟩) hS ?_
      try simp only [Act.put, List.setIfInBounds_toArray, List.set_cons_zero, List.set_cons_succ]
      refine wpAnyH_take (i := 4) (oi := { dst := some 34, op := Op.load 29 (Operand.tmp 33), type := 29, pos := "law.go:204", after := #[{ on := 3, ground := Ground.data }], guard := none }) (v := .int .u64 x) rfl (by kernel_rfl) (by kernel_rfl) (by kernel_rfl) (fun _ _ _ h => h) (Or.inl ⟨by rfl, fun w' hw => by (have q := hw.cell p1 (by simp); go_simp)⟩) hS ?_
      try simp only [Act.put, List.setIfInBounds_toArray, List.set_cons_zero, List.set_cons_succ]
      refine wpAnyH_take (i := 5) (oi := { dst := some 35, op := Op.load 54 (Operand.tmp 3), type := 54, pos := "law.go:204", after := #[], guard := none }) (v := .agg cs.toArray) rfl (by kernel_rfl) (by kernel_rfl) (by kernel_rfl) (fun _ _ _ h => h) (Or.inl ⟨by rfl, fun w' hw => exec_load_agg _ 54 _ rfl _ _ rfl cs _ (hw.range rB (by simp)) Try.underlying54 rfl (by rw [infoD, HCL.out])⟩) hS ?_
      try simp only [Act.put, List.setIfInBounds_toArray, List.set_cons_zero, List.set_cons_succ]
      refine wpAnyH_ready (rs := [6]) (by kernel_rfl) (by simp) ?_
      refine AllReadyH.cons (o := { dst := some 36, op := Op.call { callee := Callee.value (Operand.func 28), args := #[Operand.tmp 30, Operand.tmp 34, Operand.tmp 35], argTypes := #[55, 29, 54] }, type := 3, pos := "law.go:204", after := #[{ on := 0, ground := Ground.data }, { on := 4, ground := Ground.data }, { on := 5, ground := Ground.data }], guard := none }) rfl (fun K hK => ?_) AllReadyH.nil
      go_simp
      refine (HHd.out.pushA x cs HCL.out HC1.out (by omega) (by rw [pa_len]; omega)).mono ?_
      rintro e w2 ⟨rfl, h2⟩
      have H2 := Lib.hid h2
      have hS2 := h2.t0
      refine hK.out _ _ hS2 (fun _ => ?_)
      clear hK K hS h2
      have hS := hS2
      clear hS2
      try simp only [Act.put, List.setIfInBounds_toArray, List.set_cons_zero, List.set_cons_succ]
      refine wpAnyH_done (by kernel_rfl) ?_ _
      try simp only [Act.put, List.setIfInBounds_toArray, List.set_cons_zero, List.set_cons_succ]
      clear p1 rB hS
      have p1 := H2.out.t0.cell HP1.out (by simp)
      go_wp2_with fail
      refine (H2.out.pushS (18446744073709551615 - x) strX rfl (by omega) (by rw [ps_len]; omega)).mono ?_
      rintro e w3 ⟨rfl, h3⟩
      have H3 := Lib.hid h3
      clear h3 p1
      go_wp2_with fail
      refine H3.out.handlesA.mono ?_
      rintro e w4 ⟨v4, ks, rfl, hkl, ho4, h4, h4'⟩
      have H4 := Lib.hid h4'
      have HO4 := Lib.hid ho4
      have HKL := Lib.hid hkl
      clear h4 h4' ho4 hkl
      go_wp2_with fail
      refine (over_any v4 ks _ _ HO4.out (by rw [HKL.out, List.length_append, pa_len]; simp; omega)).mono ?_
      rintro e w5 ⟨rfl, t5⟩
      have H5 := Lib.hid (H4.out _ t5)
      clear t5
      go_wp2_with fail
      go_roundw
      case rel => exact ⟨i + 1, by simp, by omega, by rw [HPL.out, HPL2.out]; exact H5.out⟩
      case measure => simp [intOf]; omega
    · have hie : i = n := by omega
      have hb2 : ¬ (i : Int) < (n : Int) := by omega
      have HHn := Lib.hid (show Two W0 wr ha hs (pa l cs n) (ps l n) n n by rw [← hie]; exact HH.out)
      have HE := Lib.hid hie
      have HNL := Lib.hid hnl
      clear hie HH hlt hin hnl
      go_wp2_with fail
      rename World => wA
      clear HE
      go_loopw [9] (fun vi wr => ∃ (q : Nat) (L : List Itm), vi = .int .i64 q ∧ q ≤ n ∧ L.length + q = n ∧ (∀ y ∈ L, y ∈ pa l cs n) ∧ Two W0 wr ha hs L (ps l n) n n) (fun vi _ => n - (intOf vi).toNat)
      case atStart => exact ⟨0, pa l cs n, rfl, by omega, by simp [pa_len], fun _ h => h, HHn.out⟩
      case round =>
        obtain ⟨q, L, rfl, hqn, hLl, hLm, hh⟩ := hrel
        have HH := Lib.hid hh
        have HLL := Lib.hid hLl
        have HLM := Lib.hid hLm
        clear hh hLl hLm
        by_cases hlt : q < n
        · have hne : L ≠ [] := by
            intro e
            have := HLL.out
            rw [e] at this
            simp at this
            omega
          have hb2 : (q : Int) < (n : Int) := by omega
          go_wp2_with fail
          refine (HH.out.popA hne).mono ?_
          rintro e w3 ⟨x, hxL, rfl, h3, hl3⟩
          obtain ⟨j, hj, hxe⟩ := pa_get (HLM.out x hxL)
          have hjl : j < l.length := by have := HNL.out; omega
          have hz : l[j]? = some l[j] := List.getElem?_eq_getElem hjl
          generalize l[j] = z at hz
          have hzd : l.getD j 0 = z := by simp [List.getD_eq_getElem?_getD, hz]
          rw [hzd] at hxe
          have hx1 : x.id = (j : Int) + 1 := by rw [hxe]
          have hx2 : x.due = z := by rw [hxe]
          have hx3 : cx x = cs := by rw [hxe]; simp [cx]
          have H3 := Lib.hid h3
          have HL3 := Lib.hid hl3
          have HZ := Lib.hid hz
          rw [hx1, hx2, hx3]
          have hjb : (j : Int) < (l.length : Int) := by omega
          have hj1 : IntKind.i64.wrap ((j : Int) + 1 - 1) = (j : Int) := by rw [IntKind.wrap_i64] <;> omega
          have hd1 : decide ((j : Int) + 1 < 1) = false := by simp; omega
          have hd2 : decide ((n : Int) < (j : Int) + 1) = false := by simp; omega
          clear h3 hl3 hz hzd hxe hx1 hx2 hx3 hne
          obtain ⟨off, rfl, p0⟩ := rd_u64 hrW.out HZ.out
          have t3 := H3.out.t0.alloc (.cells cs.toArray 54)
          have p1 := t3.cell p0 (by simp)
          have r1 := t3.range HRB.out (by simp)
          have r2 := range_block (heap_alloc_new w3 (.cells cs.toArray 54))
          have T3 := Lib.hid t3
          clear p0 t3
          go_wp2_with (first
            | ((with_reducible refine at_store 54 ?_); refine wpList_store_new rfl 54 _ _ rfl _ _ cs (by rfl) (by rfl) (by rw [HCL.out]; rfl) (by rw [infoD, HCL.out]) HC1.out ?_)
            | ((with_reducible refine at_load_g 54 _ _ ?_); refine wpList_load_gg _ _ rfl (by rfl) 54 _ rfl w3.heap.size 0 rfl cs _ r2 Try.underlying54 rfl (by rw [infoD, HCL.out]) ?_)
            | ((with_reducible refine at_load_g 54 _ _ ?_); refine wpList_load_gg _ _ rfl (by rfl) 54 _ rfl w.heap.size 0 rfl cs _ r1 Try.underlying54 rfl (by rw [infoD, HCL.out]) ?_)
            | ((with_reducible refine at_bin .neq 54 ?_); refine wpList_neq_g (by rfl) 54 _ _ _ rfl cs.toArray cs.toArray rfl rfl (by kernel_rfl) true (HEQ.out _) ?_))
          go_roundw
          case rel =>
            refine ⟨q + 1, L.filter fun y => decide (y.id ≠ x.id), by simp, by omega, ?_, fun y hy => HLM.out y (List.mem_filter.1 hy).1, H3.out.touch ((Touch.refl [] w3).alloc _)⟩
            have := HLL.out
            have := HL3.out
            omega
          case measure => simp [intOf]; omega
        · have hqe : q = n := by omega
          have hb2 : ¬ (q : Int) < (n : Int) := by omega
          have hL0 : L = [] := by
            have := HLL.out
            exact List.length_eq_zero_iff.1 (by omega)
          have HHq := Lib.hid (show Two W0 wr ha hs [] (ps l n) n n by rw [← hL0]; exact HH.out)
          have HQ := Lib.hid hqe
          clear HH HLL HLM hqe hlt hqn hL0
          go_wp2_with fail
          refine (awake_any _).mono ?_
          rintro e w5 ⟨rfl, t5⟩
          have H5 := Lib.hid (HHq.out.touch t5)
          clear t5
          go_wp2_with fail
          refine H5.out.lenA.mono ?_
          rintro e w6 ⟨rfl, rfl⟩
          go_wp2_with fail
          refine H5.out.hasS.len.mono ?_
          rintro e w6 ⟨rfl, rfl⟩
          rw [ps_len]
          go_wp2_with fail
          refine (H5.out.hasS.handles (S.sortI_perm _) (S.sortI_sorted _)).mono ?_
          rintro e w6 ⟨v6, rfl, ho6, t6⟩
          have H6 := Lib.hid (H5.out.touch t6)
          have HO6 := Lib.hid ho6
          clear t6 ho6
          go_wp2_with fail
          refine (H6.out.hasS.handles (S.sortI_perm _) (S.sortI_sorted _)).mono ?_
          rintro e w7 ⟨v7, rfl, ho7, t7⟩
          have H7 := Lib.hid (H6.out.touch t7)
          have HO7 := Lib.hid ho7
          have HO6' := Lib.hid (HO6.out.touch t7 (by simp))
          clear t7 ho7
          obtain ⟨b6, r6⟩ := HO6'.out.rd
          obtain ⟨b7, r7⟩ := HO7.out.rd
          go_wp2_with fail
          refine (equal_self v6 v7 b6 b7 _ w7 (by rw [List.length_map, (S.sortI_perm _).length_eq, ps_len]; omega) r6 r7).mono ?_
          rintro e w8 ⟨rfl, t8⟩
          have H8 := Lib.hid (HT0.out.trans (H7.out.t0.trans t8 (by simp)) (by simp))
          clear t8 r6 r7
          go_wp2_with fail
          go_ret
          exact ⟨rfl, H8.out⟩
end Go.Proofs.Ytpbabdoecjlifaa.A
namespace Go.Proofs.Ytpbabdoecjlifaa.heapInstancesIndependent
open Go.ChangeShapes Go.WideShapes Go.RowKit
theorem walk {H : Type} {enc : TypeId × Value → H} {w : World} (v : Value) (hv : IsSlice enc Try.prog w 0 (fun _ => true) true [29] v) (c1 : Array Value) (s1 : CellsOk enc Try.prog w 0 (fun _ => true) true [4, 5, 5, 5, 5, 5, 5, 5, 5, 5, 5, 5, 5, 5, 5, 5, 5] c1.toList) :
    Calls Try.prog 5 #[v, .agg c1] w fun e w' => e = .returned (.bool true) ∧ Below w.heap.size w w' := by
  obtain ⟨b, l, hr, hl⟩ := u64_rows hv
  obtain ⟨ab, xs, hc, hx1, hx2⟩ := A.isAd_cells s1
  have hc1 : c1 = (A.adr ab xs).toArray := by rw [← hc]
  rw [hc1]
  exact (A.walk5 v b l ab xs w hr hl ⟨hx1, hx2⟩).mono fun e w' ⟨h1, h2⟩ => ⟨h1, h2.below (by simp) (Nat.le_refl _)⟩
end Go.Proofs.Ytpbabdoecjlifaa.heapInstancesIndependent

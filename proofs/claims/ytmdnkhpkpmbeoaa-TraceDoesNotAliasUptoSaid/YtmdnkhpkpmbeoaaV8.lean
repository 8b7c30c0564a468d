/-
  Merged texts: Rl.
-/
import Derived.Test.YtmdnkhpkpmbeoaaV7

/-
  The reference's LiveEndpoints.
-/
namespace Go.Proofs.Ytmdnkhpkpmbeoaa
open Go.RowKit
set_option linter.unusedVariables false
set_option linter.unusedSimpArgs false

def ltK (p q : Key) : Prop := p.1 < q.1 ∨ (p.1 = q.1 ∧ p.2 < q.2)
instance (p q : Key) : Decidable (ltK p q) := by unfold ltK; infer_instance
/-- The place of x in an ordered list. -/
def placeK : List Key → Key → Nat
  | [], _ => 0
  | k :: r, x => if ltK k x then placeK r x + 1 else 0
def insK (ks : List Key) (x : Key) : List Key := ks.take (placeK ks x) ++ [x] ++ ks.drop (placeK ks x)
theorem placeK_le : ∀ (ks : List Key) (x : Key), placeK ks x ≤ ks.length
  | [], _ => Nat.le_refl _
  | k :: r, x => by
    unfold placeK
    split
    · have := placeK_le r x
      simp
      omega
    · simp
theorem placeK_lt : ∀ (ks : List Key) (x : Key) (j : Nat) (k : Key), j < placeK ks x → ks[j]? = some k → ltK k x
  | [], _, _, _, h, _ => by simp [placeK] at h
  | a :: r, x, j, k, h, hk => by
    unfold placeK at h
    split at h
    · cases j with
      | zero => simp at hk; subst hk; assumption
      | succ j => exact placeK_lt r x j k (by omega) (by simpa using hk)
    · omega
theorem placeK_ge : ∀ (ks : List Key) (x : Key) (k : Key), ks[placeK ks x]? = some k → ¬ ltK k x
  | [], _, _, h => by simp at h
  | a :: r, x, k, h => by
    unfold placeK at h
    split at h
    · exact placeK_ge r x k (by simpa using h)
    · simp at h; subst h; assumption
/-- What an output does to the list of the live endpoints. -/
def xL (o : O) : Key := (o.c, if o.k = 1 then 0 else o.a)
def lstep (ks : List Key) (o : O) : List Key := if o.k = 7 then remK ks (xL o) false else if o.k = 1 ∨ o.k = 4 then (if xL o ∈ ks then ks else insK ks (xL o)) else ks
def liveR (l : List O) : List Key := l.foldl lstep []
theorem liveR_next {l : List O} {i : Nat} {o : O} (h : l[i]? = some o) : liveR (l.take (i + 1)) = lstep (liveR (l.take i)) o := by
  rw [take_next h]
  simp [liveR, List.foldl_append]
theorem insK_len (ks : List Key) (x : Key) : (insK ks x).length = ks.length + 1 := by
  have := placeK_le ks x
  simp [insK]
  omega
theorem insK_ok {ks : List Key} {x : Key} (h : ∀ k ∈ ks, okK k) (hx : okK x) : ∀ k ∈ insK ks x, okK k := by
  intro k hk
  simp only [insK, List.mem_append, List.mem_singleton] at hk
  rcases hk with (hk | rfl) | hk
  · exact h k (List.mem_of_mem_take hk)
  · exact hx
  · exact h k (List.mem_of_mem_drop hk)
set_option maxRecDepth 100000 in
set_option maxHeartbeats 4000000 in
theorem rlive_any (v : Value) (b : Nat) (l : List O) (w : World) (hr : Rd w 23 b v (rO l)) (hok : ∀ o ∈ l, OkO o) (hl : l.length ≤ 1000000) :
    Calls Try.prog 26 #[v] w fun e w' => Lv' w (liveR l) l.length e w' := by
  obtain ⟨a, cap, rfl, hc, hcm⟩ := hr.form
  rw [rO_len] at hc hr ⊢
  clear hcm
  go_enter Try.func26, Try.ntmps26
  go_wp2_with fail
  go_loopw [3, 4] (fun v3 vi wr => ∃ (i : Nat), vi = .int .i64 i ∧ i ≤ l.length ∧ Lv wr v3 (liveR (l.take i)) i ∧ Touch [] w wr) (fun _ vi _ => l.length - (intOf vi).toNat)
  case atStart => exact ⟨0, rfl, by omega, Lv.nil _ _, Touch.refl _ _⟩
  case round =>
    obtain ⟨i, rfl, hil, hl3, ht⟩ := hrel
    have HT := Lib.hid ht
    have H3 := Lib.hid hl3
    clear hl3 ht
    by_cases hlt : i < l.length
    · have hb1 : (i : Int) < (l.length : Int) := by omega
      have hx2 := List.getElem?_eq_getElem hlt
      have OKI := Lib.hid (hok _ (List.getElem_mem hlt))
      generalize l[i] = o at hx2 OKI
      obtain ⟨off, rfl, rI⟩ := hr.atO hx2
      have RI := Lib.hid rI
      have HX := Lib.hid (liveR_next hx2)
      have hwi : IntKind.i64.wrap ((i : Int) + 1) = (i : Int) + 1 := by rw [IntKind.wrap_i64] <;> omega
      have HI := Lib.hid (show i ≤ 10000000 by omega)
      have KL := Lib.hid (show okK (xL o) from ⟨OKI.out.c, by unfold xL; split; exact wf_small (by simp) (by simp); exact OKI.out.a⟩)
      generalize hks : liveR (l.take i) = ks at *
      clear hx2 rI hks
      go_wp2_with fail
      have TW0 := Lib.hid (HT.out.drew)
      have LW := Lib.hid (H3.out.touch ((Touch.refl [] wr).drew))
      refine wp_region_held (S := Touch [] w) (by kernel_rfl) ?_
      change wpAnyH _ _ _ _ _ _ _ _ wr.drew
      generalize wr.drew = W at *
      have hS := TW0.out
      obtain ⟨_, c1, c2, _, _, _, _⟩ := O.cells OKI.out RI.out
      refine wpAnyH_take (i := 0) (oi := { dst := some 13, op := Op.move (Operand.tmp 0), type := 22, pos := "trace.go:83", after := #[], guard := none }) (v := .slice (some ⟨b, off, none⟩) l.length cap) rfl (by kernel_rfl) (by kernel_rfl) (by kernel_rfl) (fun _ _ _ h => h) (Or.inl ⟨by rfl, fun w' hw => by go_simp⟩) hS ?_
      try simp only [Act.put, List.setIfInBounds_toArray, List.set_cons_zero, List.set_cons_succ]
      refine wpAnyH_take (i := 1) (oi := { dst := some 14, op := Op.move (Operand.tmp 4), type := 3, pos := "trace.go:83", after := #[], guard := none }) (v := .int .i64 i) rfl (by kernel_rfl) (by kernel_rfl) (by kernel_rfl) (fun _ _ _ h => h) (Or.inl ⟨by rfl, fun w' hw => by go_simp⟩) hS ?_
      try simp only [Act.put, List.setIfInBounds_toArray, List.set_cons_zero, List.set_cons_succ]
      refine wpAnyH_take (i := 2) (oi := { dst := some 15, op := Op.indexAddr 22 (Operand.tmp 13) (Operand.tmp 14), type := 0, pos := "trace.go:83", after := #[{ on := 0, ground := Ground.data }, { on := 1, ground := Ground.data }], guard := none }) (v := .pointer (some ⟨b, off + i * 23, none⟩)) rfl (by kernel_rfl) (by kernel_rfl) (by kernel_rfl) (fun _ _ _ h => h) (Or.inl ⟨by rfl, fun w' hw => by go_simp⟩) hS ?_
      try simp only [Act.put, List.setIfInBounds_toArray, List.set_cons_zero, List.set_cons_succ]
      refine wpAnyH_take (i := 3) (oi := { dst := some 16, op := Op.fieldAddr 36 (Operand.tmp 15) 1, type := 0, pos := "trace.go:83", after := #[{ on := 2, ground := Ground.data }], guard := none }) (v := .pointer (some ⟨b, off + i * 23 + 1, none⟩)) rfl (by kernel_rfl) (by kernel_rfl) (by kernel_rfl) (fun _ _ _ h => h) (Or.inl ⟨by rfl, fun w' hw => by go_simp⟩) hS ?_
      try simp only [Act.put, List.setIfInBounds_toArray, List.set_cons_zero, List.set_cons_succ]
      refine wpAnyH_take (i := 4) (oi := { dst := some 17, op := Op.load 3 (Operand.tmp 16), type := 3, pos := "trace.go:83", after := #[{ on := 3, ground := Ground.data }], guard := none }) (v := .int .i64 o.c) rfl (by kernel_rfl) (by kernel_rfl) (by kernel_rfl) (fun _ _ _ h => h) (Or.inl ⟨by rfl, fun w' hw => by (have q := hw.cell c1 (by simp); go_simp)⟩) hS ?_
      try simp only [Act.put, List.setIfInBounds_toArray, List.set_cons_zero, List.set_cons_succ]
      refine wpAnyH_take (i := 5) (oi := { dst := some 18, op := Op.move (Operand.tmp 0), type := 22, pos := "trace.go:83", after := #[], guard := none }) (v := .slice (some ⟨b, off, none⟩) l.length cap) rfl (by kernel_rfl) (by kernel_rfl) (by kernel_rfl) (fun _ _ _ h => h) (Or.inl ⟨by rfl, fun w' hw => by go_simp⟩) hS ?_
      try simp only [Act.put, List.setIfInBounds_toArray, List.set_cons_zero, List.set_cons_succ]
      refine wpAnyH_take (i := 6) (oi := { dst := some 19, op := Op.move (Operand.tmp 4), type := 3, pos := "trace.go:83", after := #[], guard := none }) (v := .int .i64 i) rfl (by kernel_rfl) (by kernel_rfl) (by kernel_rfl) (fun _ _ _ h => h) (Or.inl ⟨by rfl, fun w' hw => by go_simp⟩) hS ?_
      try simp only [Act.put, List.setIfInBounds_toArray, List.set_cons_zero, List.set_cons_succ]
      refine wpAnyH_take (i := 7) (oi := { dst := some 20, op := Op.indexAddr 22 (Operand.tmp 18) (Operand.tmp 19), type := 0, pos := "trace.go:83", after := #[{ on := 5, ground := Ground.data }, { on := 6, ground := Ground.data }], guard := none }) (v := .pointer (some ⟨b, off + i * 23, none⟩)) rfl (by kernel_rfl) (by kernel_rfl) (by kernel_rfl) (fun _ _ _ h => h) (Or.inl ⟨by rfl, fun w' hw => by go_simp⟩) hS ?_
      try simp only [Act.put, List.setIfInBounds_toArray, List.set_cons_zero, List.set_cons_succ]
      refine wpAnyH_take (i := 8) (oi := { dst := some 21, op := Op.fieldAddr 36 (Operand.tmp 20) 2, type := 0, pos := "trace.go:83", after := #[{ on := 7, ground := Ground.data }], guard := none }) (v := .pointer (some ⟨b, off + i * 23 + 2, none⟩)) rfl (by kernel_rfl) (by kernel_rfl) (by kernel_rfl) (fun _ _ _ h => h) (Or.inl ⟨by rfl, fun w' hw => by go_simp⟩) hS ?_
      try simp only [Act.put, List.setIfInBounds_toArray, List.set_cons_zero, List.set_cons_succ]
      refine wpAnyH_take (i := 9) (oi := { dst := some 22, op := Op.load 3 (Operand.tmp 21), type := 3, pos := "trace.go:83", after := #[{ on := 8, ground := Ground.data }], guard := none }) (v := .int .i64 o.a) rfl (by kernel_rfl) (by kernel_rfl) (by kernel_rfl) (fun _ _ _ h => h) (Or.inl ⟨by rfl, fun w' hw => by (have q := hw.cell c2 (by simp); go_simp)⟩) hS ?_
      try simp only [Act.put, List.setIfInBounds_toArray, List.set_cons_zero, List.set_cons_succ]
      refine wpAnyH_take (i := 10) (oi := { dst := some 23, op := Op.build 30 #[(0, Operand.tmp 17), (1, Operand.tmp 22)], type := 30, pos := "trace.go:83", after := #[{ on := 4, ground := Ground.data }, { on := 9, ground := Ground.data }], guard := none }) (v := .agg (encE (o.c, o.a)).toArray) rfl (by kernel_rfl) (by kernel_rfl) (by kernel_rfl) (fun _ _ _ h => h) (Or.inl ⟨by rfl, fun w' hw => exec_builtY _ 30 _ rfl [(0, .int .i64 o.c), (1, .int .i64 o.a)] _ rfl (built_ep o.c o.a)⟩) hS ?_
      try simp only [Act.put, List.setIfInBounds_toArray, List.set_cons_zero, List.set_cons_succ]
      refine wpAnyH_ready (rs := [11]) (by kernel_rfl) (by simp) ?_
      refine AllReadyH.cons (o := { dst := some 5, op := Op.alloc 30, type := 0, pos := "trace.go:83", after := #[], guard := none }) rfl (fun K hK => ?_) AllReadyH.nil
      go_simp
      have hS2 := hS.alloc (.cells #[.int .i64 0, .int .i64 0] 30)
      have Z5 := Lib.hid (heap_alloc_new W (.cells #[.int .i64 0, .int .i64 0] 30))
      refine hK.out _ _ hS2 (fun _ => ?_)
      clear hK K hS
      have hS := hS2
      clear hS2
      try simp only [Act.put, List.setIfInBounds_toArray, List.set_cons_zero, List.set_cons_succ]
      refine wpAnyH_ready (rs := [12]) (by kernel_rfl) (by simp) ?_
      refine AllReadyH.cons (o := { dst := none, op := Op.store 30 (Operand.tmp 5) (Operand.tmp 23), type := 0, pos := "trace.go:83", after := #[{ on := 11, ground := Ground.data }, { on := 10, ground := Ground.data }, { on := 0, ground := Ground.phase }, { on := 1, ground := Ground.phase }, { on := 2, ground := Ground.phase }, { on := 3, ground := Ground.phase }, { on := 4, ground := Ground.phase }, { on := 5, ground := Ground.phase }, { on := 6, ground := Ground.phase }, { on := 7, ground := Ground.phase }, { on := 8, ground := Ground.phase }, { on := 9, ground := Ground.phase }, { on := 10, ground := Ground.phase }, { on := 11, ground := Ground.phase }], guard := none }) rfl (fun K hK => ?_) AllReadyH.nil
      refine step_of_list rfl ?_
      refine wpList_store_into rfl 30 _ _ rfl W.heap.size 30 _ (encE (o.c, o.a)) rfl rfl Z5.out rfl (by rw [infoE]; rfl) (by simp [encE, Value.oneCell']) ?_
      intro wz h' t' z'
      have hS2 := hS.trans t' (by intro q hq; right; have := TW0.out.size; simp at hq; omega)
      have tz := ((Touch.refl [] W).alloc (.cells #[.int .i64 0, .int .i64 0] 30)).trans t' (by intro q hq; right; simp at hq; omega)
      refine ⟨rfl, hK.out _ _ hS2 (fun _ => ?_)⟩
      clear hK K hS
      have hS := hS2
      clear hS2
      have F5 := Lib.hid h'
      clear h' t' z'
      obtain ⟨g5, hg5⟩ : ∃ g, g = W.heap.size := ⟨_, rfl⟩
      rw [← hg5] at F5 ⊢
      have hw5 : w.heap.size ≤ g5 := by have := TW0.out.size; omega
      have hgW := Lib.hid (show W.heap.size ≤ g5 by omega)
      clear hg5
      try simp only [Act.put, List.setIfInBounds_toArray, List.set_cons_zero, List.set_cons_succ]
      refine wpAnyH_done (by kernel_rfl) ?_ _
      try simp only [Act.put, List.setIfInBounds_toArray, List.set_cons_zero, List.set_cons_succ]
      have HL2 := Lib.hid (LW.out.touch tz)
      have tzz := Lib.hid tz
      have TZ := Lib.hid hS
      clear hS tz c1 c2
      obtain ⟨d0, _, _, _, _, _, _⟩ := O.cells OKI.out (TZ.out.range RI.out (by simp))
      by_cases h1 : o.k = 1
      · have q1 : (o.k == 1) = true := by simp [h1]
        have q7 : (o.k == 7) = false := by simp [h1]
        have HXL := Lib.hid (show xL o = (o.c, 0) by simp [xL, h1])
        have z5 : wz.cell? ⟨g5, 1, none⟩ = some (.int .i64 o.a) := by simp [World.cell?, F5.out, encE]
        have z6 : wz.frozen? ⟨g5, 1, none⟩ = false := by simp [World.frozen?, F5.out]
        go_upto_region 8 with (fail)
        have tq := (Touch.refl [g5] wz).setCell (p := ⟨g5, 1, none⟩) (by simp) (.int .i64 0)
        have F5 := Lib.hid (show (wz.setCell ⟨g5, 1, none⟩ (.int .i64 0)).heap[g5]? = some (.cells (encE (xL o)).toArray 30 (0, 0)) by
          rw [HXL.out]
          simp [World.setCell, Array.getElem?_modify, F5.out]
          rfl)
        have tq2 : Touch [] W (wz.setCell ⟨g5, 1, none⟩ (.int .i64 0)) := tzz.out.trans tq (by intro q hq; right; simp at hq; subst hq; exact hgW.out)
        have TC := Lib.hid (TZ.out.trans tq (by intro q hq; right; simp at hq; omega))
        have HL := Lib.hid (LW.out.touch tq2)
        have d9 := (TC.out.range RI.out (by simp))
        obtain ⟨d9, _, _, _, _, _, _⟩ := O.cells OKI.out d9
        clear tq tq2 z5 z6 d0 q1
        have q1 : (o.k == 1) = true := by simp [h1]
        generalize wz.setCell ⟨g5, 1, none⟩ (.int .i64 0) = wy at *
        go_wp2_with ((with_reducible refine at_load 30 ?_); refine wpList_load_mid rfl 30 _ rfl g5 (0) rfl (encE (xL o)) _ (range_block F5.out) Try.underlying30 rfl (by rw [infoE]; rfl) ?_)
        refine (HL.out.contains HI.out (xL o) KL.out).mono ?_
        rintro e w4 ⟨rfl, tt⟩
        have HL := Lib.hid (HL.out.touch tt)
        have F5 := Lib.hid (tt.at F5.out (by simp))
        have TC := Lib.hid (TC.out.trans tt (by simp))
        clear tt
        cases hdA : decide (xL o ∈ ks) with
        | true =>
          have HR := Lib.hid (show liveR (l.take (i + 1)) = ks by rw [HX.out]; simp [lstep, h1, of_decide_eq_true hdA])
          go_wp2_with fail
          go_roundw
          case rel => exact ⟨i + 1, by simp, by omega, by rw [HR.out]; exact HL.out.more (by omega), TC.out⟩
          case measure => simp [intOf]; omega
        | false =>
          have HR := Lib.hid (show liveR (l.take (i + 1)) = insK ks (xL o) by rw [HX.out]; simp [lstep, h1, of_decide_eq_false hdA])
          obtain ⟨⟨b3, hrk⟩, hkok, hkl⟩ := HL.out
          obtain ⟨a3, cap3, rfl, hk3, _⟩ := hrk.form
          rw [rE_len] at hrk hk3 ⊢
          have HRK := Lib.hid hrk
          have HKS := Lib.hid hkok
          have HKL := Lib.hid hkl
          obtain ⟨xc, hxc⟩ : ∃ xc, xc = (xL o).1 := ⟨_, rfl⟩
          obtain ⟨xa, hxa⟩ : ∃ xa, xa = (xL o).2 := ⟨_, rfl⟩
          have HXE := Lib.hid (show xL o = (xc, xa) by rw [hxc, hxa])
          clear hdA HX hrk hkok hkl hxc hxa
          go_wp2_with fail
          go_loopw [6] (fun vk wq => ∃ (k : Nat), vk = .int .i64 k ∧ k ≤ placeK ks (xL o) ∧ Touch [] w4 wq) (fun vk _ => ks.length - (intOf vk).toNat)
          case atStart => exact ⟨0, rfl, by omega, Touch.refl _ _⟩
          case round =>
            obtain ⟨k, rfl, hkin, htq⟩ := hrel
            have HTQ := Lib.hid htq
            have x0 : wr.cell? ⟨g5, 0, none⟩ = some (.int .i64 xc) := by have := (E.cells (range_block (htq.at F5.out (by simp)))).1; rw [HXE.out] at this; exact this
            have x1 : wr.cell? ⟨g5, 1, none⟩ = some (.int .i64 xa) := by have := (E.cells (range_block (htq.at F5.out (by simp)))).2; rw [HXE.out] at this; exact this
            have hwk : IntKind.i64.wrap ((k : Int) + 1) = (k : Int) + 1 := by have := placeK_le ks (xL o); have := HKL.out; rw [IntKind.wrap_i64] <;> omega
            clear htq
            by_cases hkl : k < ks.length
            · have hb3 : (k : Int) < (ks.length : Int) := by omega
              have hy2 := List.getElem?_eq_getElem hkl
              generalize ks[k] = y at hy2
              obtain ⟨off3, rfl, rY⟩ := (HRK.out.touch HTQ.out (by simp)).atE hy2
              obtain ⟨e0, e1⟩ := E.cells rY
              have HLT := Lib.hid (fun h : k < placeK ks (xL o) => placeK_lt ks (xL o) k y h hy2)
              have HGE := Lib.hid (fun h : k = placeK ks (xL o) => placeK_ge ks (xL o) y (by rw [← h]; exact hy2))
              clear hy2 rY
              by_cases hkp : k < placeK ks (xL o)
              · have hlt2 := HLT.out hkp
                rw [HXE.out] at hlt2
                by_cases hc : y.1 < xc
                · have qc : decide (y.1 < xc) = true := decide_eq_true hc
                  clear hlt2 hc
                  go_wp2_with fail
                  go_quiet (fail)
                  go_wp2_with fail
                  go_roundw
                  case rel => exact ⟨k + 1, by simp, by omega, HTQ.out.drews _⟩
                  case measure => simp [intOf]; omega
                · have he : y.1 = xc ∧ y.2 < xa := by rcases hlt2 with h | h; exact absurd h hc; exact h
                  have qc : decide (y.1 < xc) = false := decide_eq_false hc
                  have qe : (y.1 == xc) = true := by simp [he.1]
                  have qa : decide (y.2 < xa) = true := decide_eq_true he.2
                  clear hlt2 hc he
                  go_wp2_with fail
                  go_quiet (fail)
                  go_wp2_with fail
                  go_roundw
                  case rel => exact ⟨k + 1, by simp, by omega, HTQ.out.drews _⟩
                  case measure => simp [intOf]; omega
              · have hge := HGE.out (by omega)
                rw [HXE.out] at hge
                have qc : decide (y.1 < xc) = false := decide_eq_false (fun h => hge (.inl h))
                by_cases he : y.1 = xc
                · have qe : (y.1 == xc) = true := by simp [he]
                  have qa : decide (y.2 < xa) = false := decide_eq_false (fun h => hge (.inr ⟨he, h⟩))
                  clear hge he
                  go_wp2_with fail
                  go_quiet (fail)
                  go_upto_region 17 with (fail)
                  have HTX := Lib.hid (HTQ.out.drews nq)
                  have hkp : k = placeK ks (xL o) := by omega
                  have TW17 := Lib.hid (((TC.out.trans HTX.out (by simp))).drew)
                  have FX := Lib.hid ((HTX.out.drew).at F5.out (by simp))
                  have HRW := Lib.hid (HRK.out.touch (HTX.out.drew) (by simp))
                  have HINS := Lib.hid (show (insK ks (xL o)).map encE = [] ++ (rE ks).take k ++ [encE (xL o)] ++ (rE ks).drop k by rw [hkp]; simp [insK, rE, List.map_take, List.map_drop])
                  obtain ⟨p, hp⟩ : ∃ p, p = k := ⟨_, rfl⟩
                  rw [← hp] at HINS ⊢
                  have hpl : p ≤ ks.length := by have := placeK_le ks (xL o); omega
                  have hpc : (p : Int) ≤ (cap3 : Int) := by omega
                  have hkl := HKL.out
                  clear hp hkp hkin
                  refine wp_region_held (S := Touch [] (wr.drewN nq).drew) (by kernel_rfl) ?_
                  change wpAnyH _ _ _ _ _ _ _ _ (wr.drewN nq).drew
                  generalize (wr.drewN nq).drew = W at *
                  have hS := Touch.refl [] W
                  refine wpAnyH_take (i := 0) (oi := { dst := some 83, op := Op.move (Operand.tmp 3), type := 27, pos := "trace.go:98", after := #[], guard := none }) (v := .slice (some ⟨b3, off3, none⟩) ks.length cap3) rfl (by kernel_rfl) (by kernel_rfl) (by kernel_rfl) (fun _ _ _ h => h) (Or.inl ⟨by rfl, fun w' hw => by go_simp⟩) hS ?_
                  try simp only [Act.put, List.setIfInBounds_toArray, List.set_cons_zero, List.set_cons_succ]
                  refine wpAnyH_take (i := 1) (oi := { dst := some 84, op := Op.move (Operand.tmp 6), type := 3, pos := "trace.go:98", after := #[], guard := none }) (v := .int .i64 (p : Nat)) rfl (by kernel_rfl) (by kernel_rfl) (by kernel_rfl) (fun _ _ _ h => h) (Or.inl ⟨by rfl, fun w' hw => by go_simp⟩) hS ?_
                  try simp only [Act.put, List.setIfInBounds_toArray, List.set_cons_zero, List.set_cons_succ]
                  refine wpAnyH_take (i := 2) (oi := { dst := some 85, op := Op.slice 27 (Operand.tmp 83) none (some (Operand.tmp 84)) none, type := 27, pos := "trace.go:98", after := #[{ on := 0, ground := Ground.data }, { on := 1, ground := Ground.data }], guard := none }) (v := .slice (some ⟨b3, off3, none⟩) p cap3) rfl (by kernel_rfl) (by kernel_rfl) (by kernel_rfl) (fun _ _ _ h => h) (Or.inl ⟨by rfl, fun w' hw => by go_simp⟩) hS ?_
                  try simp only [Act.put, List.setIfInBounds_toArray, List.set_cons_zero, List.set_cons_succ]
                  refine wpAnyH_take (i := 4) (oi := { dst := some 87, op := Op.load 30 (Operand.tmp 5), type := 30, pos := "trace.go:98", after := #[], guard := none }) (v := .agg (encE (xL o)).toArray) rfl (by kernel_rfl) (by kernel_rfl) (by kernel_rfl) (fun _ _ _ h => h) (Or.inl ⟨by rfl, fun w' hw => exec_load_agg _ 30 _ rfl _ _ rfl (encE (xL o)) _ (hw.range (range_block FX.out) (by simp)) Try.underlying30 rfl (by rw [infoE]; rfl)⟩) hS ?_
                  try simp only [Act.put, List.setIfInBounds_toArray, List.set_cons_zero, List.set_cons_succ]
                  refine wpAnyH_take (i := 7) (oi := { dst := some 90, op := Op.move (Operand.tmp 3), type := 27, pos := "trace.go:98", after := #[], guard := none }) (v := .slice (some ⟨b3, off3, none⟩) ks.length cap3) rfl (by kernel_rfl) (by kernel_rfl) (by kernel_rfl) (fun _ _ _ h => h) (Or.inl ⟨by rfl, fun w' hw => by go_simp⟩) hS ?_
                  try simp only [Act.put, List.setIfInBounds_toArray, List.set_cons_zero, List.set_cons_succ]
                  refine wpAnyH_take (i := 8) (oi := { dst := some 91, op := Op.move (Operand.tmp 6), type := 3, pos := "trace.go:98", after := #[], guard := none }) (v := .int .i64 (p : Nat)) rfl (by kernel_rfl) (by kernel_rfl) (by kernel_rfl) (fun _ _ _ h => h) (Or.inl ⟨by rfl, fun w' hw => by go_simp⟩) hS ?_
                  try simp only [Act.put, List.setIfInBounds_toArray, List.set_cons_zero, List.set_cons_succ]
                  refine wpAnyH_take (i := 9) (oi := { dst := some 92, op := Op.slice 27 (Operand.tmp 90) (some (Operand.tmp 91)) none none, type := 27, pos := "trace.go:98", after := #[{ on := 7, ground := Ground.data }, { on := 8, ground := Ground.data }], guard := none }) (v := cutv (some ⟨b3, off3, none⟩) ks.length cap3 p 2) rfl (by kernel_rfl) (by kernel_rfl) (by kernel_rfl) (fun _ _ _ h => h) (yieldsIf_from (by rfl) 27 _ _ rfl 30 2 Try.underlying27 infoE (some ⟨b3, off3, none⟩) ks.length cap3 p rfl rfl (by omega)) hS ?_
                  try simp only [Act.put, List.setIfInBounds_toArray, List.set_cons_zero, List.set_cons_succ]
                  refine wpAnyH_ready (rs := [3, 5]) (by kernel_rfl) (by simp) ?_
                  refine AllReadyH.cons (o := { dst := some 86, op := Op.call { callee := Callee.builtin Builtin.append, args := #[Operand.const (Value.slice none 0 0), Operand.tmp 85], argTypes := #[27, 27] }, type := 27, pos := "trace.go:98", after := #[{ on := 2, ground := Ground.data }], guard := none }) rfl (fun K hK => ?_) (AllReadyH.cons (o := { dst := some 88, op := Op.buildSlice 27 1 #[(0, Operand.tmp 87)], type := 27, pos := "trace.go:98", after := #[{ on := 4, ground := Ground.data }], guard := none }) rfl (fun K hK => ?_) AllReadyH.nil)
                  · refine step_of_list rfl ?_
                    refine wpList_appR rtE W rfl _ _ (by rfl) (.slice none 0 0) [] rfl (OwnR.nil 30 2 W _) (Nat.le_refl _) b3 (.slice (some ⟨b3, off3, none⟩) p cap3) ((rE ks).take p) rfl (HRW.out.take p (by rw [rE_len]; omega)) (fun x hx => encE_lens ks x (List.mem_of_mem_take hx)) (fun u hu => encE_ones ks u (by obtain ⟨x, hx, hu⟩ := List.mem_flatten.1 hu; exact List.mem_flatten.2 ⟨x, List.mem_of_mem_take hx, hu⟩)) (by simp [rE_len]; omega) ?_
                    intro v2 w2 o2 t2
                    have hS2 := hS.trans t2 (by simp [Value.ownBlock])
                    refine ⟨rfl, hK.out _ _ hS2 (fun _ => ?_)⟩
                    clear hK K hS
                    have hS := hS2
                    clear hS2
                    have HO2 := Lib.hid o2
                    have HT2 := Lib.hid (show Touch [] _ w2 from t2)
                    try simp only [Act.put, List.setIfInBounds_toArray, List.set_cons_zero, List.set_cons_succ]
                    refine wpAnyH_ready (rs := [5]) (by kernel_rfl) (by simp) ?_
                    refine AllReadyH.cons (o := { dst := some 88, op := Op.buildSlice 27 1 #[(0, Operand.tmp 87)], type := 27, pos := "trace.go:98", after := #[{ on := 4, ground := Ground.data }], guard := none }) rfl (fun K hK => ?_) AllReadyH.nil
                    refine step_of_list rfl ?_
                    refine wpList_build1 rtE rfl _ rfl (encE (xL o)) rfl rfl ?_
                    have hS2 := hS.alloc (.cells (encE (xL o)).toArray 30)
                    refine ⟨rfl, hK.out _ _ hS2 (fun _ => ?_)⟩
                    clear hK K hS
                    have hS := hS2
                    clear hS2
                    have HB2 := Lib.hid (heap_alloc_new w2 (.cells (encE (xL o)).toArray 30))
                    have HO2 := Lib.hid (HO2.out.touch0 ((Touch.refl [] w2).alloc (.cells (encE (xL o)).toArray 30)))
                    try simp only [Act.put, List.setIfInBounds_toArray, List.set_cons_zero, List.set_cons_succ]
                    refine wpAnyH_ready (rs := [6]) (by kernel_rfl) (by simp) ?_
                    refine AllReadyH.cons (o := { dst := some 89, op := Op.call { callee := Callee.builtin Builtin.append, args := #[Operand.tmp 86, Operand.tmp 88], argTypes := #[27, 27] }, type := 27, pos := "trace.go:98", after := #[{ on := 3, ground := Ground.data }, { on := 5, ground := Ground.data }, { on := 3, ground := Ground.chain }], guard := none }) rfl (fun K hK => ?_) AllReadyH.nil
                    refine step_of_list rfl ?_
                    refine wpList_appR rtE _ rfl _ _ (by rfl) v2 ([] ++ (rE ks).take p) rfl HO2.out hS.size _ (.slice (some ⟨w2.heap.size, 0, none⟩) 1 1) [encE (xL o)] rfl (Rd.one HB2.out rfl) (by simp [encE]) (encE_ones [xL o]) (by simp [rE_len]; omega) ?_
                    intro v3 w3 o3 t3
                    have hS3 := hS.trans t3 (by intro y hy; right; exact HO2.out.new y (by simpa using hy))
                    refine ⟨rfl, hK.out _ _ hS3 (fun _ => ?_)⟩
                    clear hK K hS
                    have hS := hS3
                    clear hS3
                    have HO3 := Lib.hid o3
                    clear o3
                    try simp only [Act.put, List.setIfInBounds_toArray, List.set_cons_zero, List.set_cons_succ]
                    refine wpAnyH_ready (rs := [10]) (by kernel_rfl) (by simp) ?_
                    refine AllReadyH.cons (o := { dst := some 93, op := Op.call { callee := Callee.builtin Builtin.append, args := #[Operand.tmp 89, Operand.tmp 92], argTypes := #[27, 27] }, type := 27, pos := "trace.go:98", after := #[{ on := 6, ground := Ground.data }, { on := 9, ground := Ground.data }, { on := 6, ground := Ground.chain }], guard := none }) rfl (fun K hK => ?_) AllReadyH.nil
                    refine step_of_list rfl ?_
                    refine wpList_appR rtE w3 rfl _ _ (by rfl) v3 ([] ++ (rE ks).take p ++ [encE (xL o)]) rfl HO3.out hS.size b3 (cutv (some ⟨b3, off3, none⟩) ks.length cap3 p 2) ((rE ks).drop p) rfl ((HRW.out.touch hS (by simp)).drop (P := Try.prog) (T := 0) (e := 0) p (by rw [rE_len]; omega)) (fun x hx => encE_lens ks x (List.mem_of_mem_drop hx)) (fun u hu => encE_ones ks u (by obtain ⟨x, hx, hu⟩ := List.mem_flatten.1 hu; exact List.mem_flatten.2 ⟨x, List.mem_of_mem_drop hx, hu⟩)) (by simp [rE_len]; omega) ?_
                    intro v4 w4' o4 t4
                    have hS3 := hS.trans t4 (by intro y hy; right; exact HO3.out.new y (by simpa using hy))
                    refine ⟨rfl, hK.out _ _ hS3 (fun _ => ?_)⟩
                    clear hK K hS
                    have hS := hS3
                    clear hS3
                    have HO4 := Lib.hid o4
                    clear o4
                    try simp only [Act.put, List.setIfInBounds_toArray, List.set_cons_zero, List.set_cons_succ]
                    refine wpAnyH_take (i := 11) (oi := { dst := some 3, op := Op.assign (Operand.tmp 93), type := 27, pos := "trace.go:98", after := #[{ on := 10, ground := Ground.data }, { on := 10, ground := Ground.chain }, { on := 0, ground := Ground.phase }, { on := 1, ground := Ground.phase }, { on := 2, ground := Ground.phase }, { on := 3, ground := Ground.phase }, { on := 4, ground := Ground.phase }, { on := 5, ground := Ground.phase }, { on := 6, ground := Ground.phase }, { on := 7, ground := Ground.phase }, { on := 8, ground := Ground.phase }, { on := 9, ground := Ground.phase }, { on := 10, ground := Ground.phase }], guard := none }) (v := v4) rfl (by kernel_rfl) (by kernel_rfl) (by kernel_rfl) (fun _ _ _ h => h) (Or.inl ⟨by rfl, fun w' hw => by go_simp⟩) hS ?_
                    try simp only [Act.put, List.setIfInBounds_toArray, List.set_cons_zero, List.set_cons_succ]
                    refine wpAnyH_done (by kernel_rfl) ?_ _
                    try simp only [Act.put, List.setIfInBounds_toArray, List.set_cons_zero, List.set_cons_succ]
                    have HT4 := Lib.hid hS
                    clear hS
                    have HN := Lib.hid (show Lv w4' v4 (insK ks (xL o)) (i + 1) from ⟨⟨_, by have := HO4.out.rd (fun x hx => encE_lens (insK ks (xL o)) x (by rw [← HINS.out] at hx; exact hx)); rw [← HINS.out] at this; exact this⟩, insK_ok HKS.out KL.out, by rw [insK_len]; have := HKL.out; omega⟩)
                    go_wp2_with fail
                    go_roundw
                    case rel => exact ⟨i + 1, by simp, by omega, by rw [HR.out]; exact HN.out, TW17.out.trans HT4.out (by simp)⟩
                    case measure => simp [intOf]; omega
                  · refine step_of_list rfl ?_
                    refine wpList_build1 rtE rfl _ rfl (encE (xL o)) rfl rfl ?_
                    have hS2 := hS.alloc (.cells (encE (xL o)).toArray 30)
                    refine ⟨rfl, hK.out _ _ hS2 (fun _ => ?_)⟩
                    clear hK K hS
                    have hS := hS2
                    clear hS2
                    have HB := Lib.hid (heap_alloc_new W (.cells (encE (xL o)).toArray 30))
                    try simp only [Act.put, List.setIfInBounds_toArray, List.set_cons_zero, List.set_cons_succ]
                    refine wpAnyH_ready (rs := [3]) (by kernel_rfl) (by simp) ?_
                    refine AllReadyH.cons (o := { dst := some 86, op := Op.call { callee := Callee.builtin Builtin.append, args := #[Operand.const (Value.slice none 0 0), Operand.tmp 85], argTypes := #[27, 27] }, type := 27, pos := "trace.go:98", after := #[{ on := 2, ground := Ground.data }], guard := none }) rfl (fun K hK => ?_) AllReadyH.nil
                    refine step_of_list rfl ?_
                    refine wpList_appR rtE (W.alloc (.cells (encE (xL o)).toArray 30)) rfl _ _ (by rfl) (.slice none 0 0) [] rfl (OwnR.nil 30 2 W _) (by simp) b3 (.slice (some ⟨b3, off3, none⟩) p cap3) ((rE ks).take p) rfl ((HRW.out.touch ((Touch.refl [] W).alloc _) (by simp)).take p (by rw [rE_len]; omega)) (fun x hx => encE_lens ks x (List.mem_of_mem_take hx)) (fun u hu => encE_ones ks u (by obtain ⟨x, hx, hu⟩ := List.mem_flatten.1 hu; exact List.mem_flatten.2 ⟨x, List.mem_of_mem_take hx, hu⟩)) (by simp [rE_len]; omega) ?_
                    intro v2 w2 o2 t2
                    have hS2 := hS.trans t2 (by simp [Value.ownBlock])
                    refine ⟨rfl, hK.out _ _ hS2 (fun _ => ?_)⟩
                    clear hK K hS
                    have hS := hS2
                    clear hS2
                    have HO2 := Lib.hid o2
                    have HT2 := Lib.hid (show Touch [] _ w2 from t2)
                    have HB2 := Lib.hid (HT2.out.at HB.out (by simp))
                    try simp only [Act.put, List.setIfInBounds_toArray, List.set_cons_zero, List.set_cons_succ]
                    refine wpAnyH_ready (rs := [6]) (by kernel_rfl) (by simp) ?_
                    refine AllReadyH.cons (o := { dst := some 89, op := Op.call { callee := Callee.builtin Builtin.append, args := #[Operand.tmp 86, Operand.tmp 88], argTypes := #[27, 27] }, type := 27, pos := "trace.go:98", after := #[{ on := 3, ground := Ground.data }, { on := 5, ground := Ground.data }, { on := 3, ground := Ground.chain }], guard := none }) rfl (fun K hK => ?_) AllReadyH.nil
                    refine step_of_list rfl ?_
                    refine wpList_appR rtE _ rfl _ _ (by rfl) v2 ([] ++ (rE ks).take p) rfl HO2.out hS.size _ (.slice (some ⟨W.heap.size, 0, none⟩) 1 1) [encE (xL o)] rfl (Rd.one HB2.out rfl) (by simp [encE]) (encE_ones [xL o]) (by simp [rE_len]; omega) ?_
                    intro v3 w3 o3 t3
                    have hS3 := hS.trans t3 (by intro y hy; right; exact HO2.out.new y (by simpa using hy))
                    refine ⟨rfl, hK.out _ _ hS3 (fun _ => ?_)⟩
                    clear hK K hS
                    have hS := hS3
                    clear hS3
                    have HO3 := Lib.hid o3
                    clear o3
                    try simp only [Act.put, List.setIfInBounds_toArray, List.set_cons_zero, List.set_cons_succ]
                    refine wpAnyH_ready (rs := [10]) (by kernel_rfl) (by simp) ?_
                    refine AllReadyH.cons (o := { dst := some 93, op := Op.call { callee := Callee.builtin Builtin.append, args := #[Operand.tmp 89, Operand.tmp 92], argTypes := #[27, 27] }, type := 27, pos := "trace.go:98", after := #[{ on := 6, ground := Ground.data }, { on := 9, ground := Ground.data }, { on := 6, ground := Ground.chain }], guard := none }) rfl (fun K hK => ?_) AllReadyH.nil
                    refine step_of_list rfl ?_
                    refine wpList_appR rtE w3 rfl _ _ (by rfl) v3 ([] ++ (rE ks).take p ++ [encE (xL o)]) rfl HO3.out hS.size b3 (cutv (some ⟨b3, off3, none⟩) ks.length cap3 p 2) ((rE ks).drop p) rfl ((HRW.out.touch hS (by simp)).drop (P := Try.prog) (T := 0) (e := 0) p (by rw [rE_len]; omega)) (fun x hx => encE_lens ks x (List.mem_of_mem_drop hx)) (fun u hu => encE_ones ks u (by obtain ⟨x, hx, hu⟩ := List.mem_flatten.1 hu; exact List.mem_flatten.2 ⟨x, List.mem_of_mem_drop hx, hu⟩)) (by simp [rE_len]; omega) ?_
                    intro v4 w4' o4 t4
                    have hS3 := hS.trans t4 (by intro y hy; right; exact HO3.out.new y (by simpa using hy))
                    refine ⟨rfl, hK.out _ _ hS3 (fun _ => ?_)⟩
                    clear hK K hS
                    have hS := hS3
                    clear hS3
                    have HO4 := Lib.hid o4
                    clear o4
                    try simp only [Act.put, List.setIfInBounds_toArray, List.set_cons_zero, List.set_cons_succ]
                    refine wpAnyH_take (i := 11) (oi := { dst := some 3, op := Op.assign (Operand.tmp 93), type := 27, pos := "trace.go:98", after := #[{ on := 10, ground := Ground.data }, { on := 10, ground := Ground.chain }, { on := 0, ground := Ground.phase }, { on := 1, ground := Ground.phase }, { on := 2, ground := Ground.phase }, { on := 3, ground := Ground.phase }, { on := 4, ground := Ground.phase }, { on := 5, ground := Ground.phase }, { on := 6, ground := Ground.phase }, { on := 7, ground := Ground.phase }, { on := 8, ground := Ground.phase }, { on := 9, ground := Ground.phase }, { on := 10, ground := Ground.phase }], guard := none }) (v := v4) rfl (by kernel_rfl) (by kernel_rfl) (by kernel_rfl) (fun _ _ _ h => h) (Or.inl ⟨by rfl, fun w' hw => by go_simp⟩) hS ?_
                    try simp only [Act.put, List.setIfInBounds_toArray, List.set_cons_zero, List.set_cons_succ]
                    refine wpAnyH_done (by kernel_rfl) ?_ _
                    try simp only [Act.put, List.setIfInBounds_toArray, List.set_cons_zero, List.set_cons_succ]
                    have HT4 := Lib.hid hS
                    clear hS
                    have HN := Lib.hid (show Lv w4' v4 (insK ks (xL o)) (i + 1) from ⟨⟨_, by have := HO4.out.rd (fun x hx => encE_lens (insK ks (xL o)) x (by rw [← HINS.out] at hx; exact hx)); rw [← HINS.out] at this; exact this⟩, insK_ok HKS.out KL.out, by rw [insK_len]; have := HKL.out; omega⟩)
                    go_wp2_with fail
                    go_roundw
                    case rel => exact ⟨i + 1, by simp, by omega, by rw [HR.out]; exact HN.out, TW17.out.trans HT4.out (by simp)⟩
                    case measure => simp [intOf]; omega
                · have qe : (y.1 == xc) = false := by simp [he]
                  clear hge he
                  go_wp2_with fail
                  go_quiet (fail)
                  go_upto_region 17 with (fail)
                  have HTX := Lib.hid (HTQ.out.drews nq)
                  have hkp : k = placeK ks (xL o) := by omega
                  have TW17 := Lib.hid (((TC.out.trans HTX.out (by simp))).drew)
                  have FX := Lib.hid ((HTX.out.drew).at F5.out (by simp))
                  have HRW := Lib.hid (HRK.out.touch (HTX.out.drew) (by simp))
                  have HINS := Lib.hid (show (insK ks (xL o)).map encE = [] ++ (rE ks).take k ++ [encE (xL o)] ++ (rE ks).drop k by rw [hkp]; simp [insK, rE, List.map_take, List.map_drop])
                  obtain ⟨p, hp⟩ : ∃ p, p = k := ⟨_, rfl⟩
                  rw [← hp] at HINS ⊢
                  have hpl : p ≤ ks.length := by have := placeK_le ks (xL o); omega
                  have hpc : (p : Int) ≤ (cap3 : Int) := by omega
                  have hkl := HKL.out
                  clear hp hkp hkin
                  refine wp_region_held (S := Touch [] (wr.drewN nq).drew) (by kernel_rfl) ?_
                  change wpAnyH _ _ _ _ _ _ _ _ (wr.drewN nq).drew
                  generalize (wr.drewN nq).drew = W at *
                  have hS := Touch.refl [] W
                  refine wpAnyH_take (i := 0) (oi := { dst := some 83, op := Op.move (Operand.tmp 3), type := 27, pos := "trace.go:98", after := #[], guard := none }) (v := .slice (some ⟨b3, off3, none⟩) ks.length cap3) rfl (by kernel_rfl) (by kernel_rfl) (by kernel_rfl) (fun _ _ _ h => h) (Or.inl ⟨by rfl, fun w' hw => by go_simp⟩) hS ?_
                  try simp only [Act.put, List.setIfInBounds_toArray, List.set_cons_zero, List.set_cons_succ]
                  refine wpAnyH_take (i := 1) (oi := { dst := some 84, op := Op.move (Operand.tmp 6), type := 3, pos := "trace.go:98", after := #[], guard := none }) (v := .int .i64 (p : Nat)) rfl (by kernel_rfl) (by kernel_rfl) (by kernel_rfl) (fun _ _ _ h => h) (Or.inl ⟨by rfl, fun w' hw => by go_simp⟩) hS ?_
                  try simp only [Act.put, List.setIfInBounds_toArray, List.set_cons_zero, List.set_cons_succ]
                  refine wpAnyH_take (i := 2) (oi := { dst := some 85, op := Op.slice 27 (Operand.tmp 83) none (some (Operand.tmp 84)) none, type := 27, pos := "trace.go:98", after := #[{ on := 0, ground := Ground.data }, { on := 1, ground := Ground.data }], guard := none }) (v := .slice (some ⟨b3, off3, none⟩) p cap3) rfl (by kernel_rfl) (by kernel_rfl) (by kernel_rfl) (fun _ _ _ h => h) (Or.inl ⟨by rfl, fun w' hw => by go_simp⟩) hS ?_
                  try simp only [Act.put, List.setIfInBounds_toArray, List.set_cons_zero, List.set_cons_succ]
                  refine wpAnyH_take (i := 4) (oi := { dst := some 87, op := Op.load 30 (Operand.tmp 5), type := 30, pos := "trace.go:98", after := #[], guard := none }) (v := .agg (encE (xL o)).toArray) rfl (by kernel_rfl) (by kernel_rfl) (by kernel_rfl) (fun _ _ _ h => h) (Or.inl ⟨by rfl, fun w' hw => exec_load_agg _ 30 _ rfl _ _ rfl (encE (xL o)) _ (hw.range (range_block FX.out) (by simp)) Try.underlying30 rfl (by rw [infoE]; rfl)⟩) hS ?_
                  try simp only [Act.put, List.setIfInBounds_toArray, List.set_cons_zero, List.set_cons_succ]
                  refine wpAnyH_take (i := 7) (oi := { dst := some 90, op := Op.move (Operand.tmp 3), type := 27, pos := "trace.go:98", after := #[], guard := none }) (v := .slice (some ⟨b3, off3, none⟩) ks.length cap3) rfl (by kernel_rfl) (by kernel_rfl) (by kernel_rfl) (fun _ _ _ h => h) (Or.inl ⟨by rfl, fun w' hw => by go_simp⟩) hS ?_
                  try simp only [Act.put, List.setIfInBounds_toArray, List.set_cons_zero, List.set_cons_succ]
                  refine wpAnyH_take (i := 8) (oi := { dst := some 91, op := Op.move (Operand.tmp 6), type := 3, pos := "trace.go:98", after := #[], guard := none }) (v := .int .i64 (p : Nat)) rfl (by kernel_rfl) (by kernel_rfl) (by kernel_rfl) (fun _ _ _ h => h) (Or.inl ⟨by rfl, fun w' hw => by go_simp⟩) hS ?_
                  try simp only [Act.put, List.setIfInBounds_toArray, List.set_cons_zero, List.set_cons_succ]
                  refine wpAnyH_take (i := 9) (oi := { dst := some 92, op := Op.slice 27 (Operand.tmp 90) (some (Operand.tmp 91)) none none, type := 27, pos := "trace.go:98", after := #[{ on := 7, ground := Ground.data }, { on := 8, ground := Ground.data }], guard := none }) (v := cutv (some ⟨b3, off3, none⟩) ks.length cap3 p 2) rfl (by kernel_rfl) (by kernel_rfl) (by kernel_rfl) (fun _ _ _ h => h) (yieldsIf_from (by rfl) 27 _ _ rfl 30 2 Try.underlying27 infoE (some ⟨b3, off3, none⟩) ks.length cap3 p rfl rfl (by omega)) hS ?_
                  try simp only [Act.put, List.setIfInBounds_toArray, List.set_cons_zero, List.set_cons_succ]
                  refine wpAnyH_ready (rs := [3, 5]) (by kernel_rfl) (by simp) ?_
                  refine AllReadyH.cons (o := { dst := some 86, op := Op.call { callee := Callee.builtin Builtin.append, args := #[Operand.const (Value.slice none 0 0), Operand.tmp 85], argTypes := #[27, 27] }, type := 27, pos := "trace.go:98", after := #[{ on := 2, ground := Ground.data }], guard := none }) rfl (fun K hK => ?_) (AllReadyH.cons (o := { dst := some 88, op := Op.buildSlice 27 1 #[(0, Operand.tmp 87)], type := 27, pos := "trace.go:98", after := #[{ on := 4, ground := Ground.data }], guard := none }) rfl (fun K hK => ?_) AllReadyH.nil)
                  · refine step_of_list rfl ?_
                    refine wpList_appR rtE W rfl _ _ (by rfl) (.slice none 0 0) [] rfl (OwnR.nil 30 2 W _) (Nat.le_refl _) b3 (.slice (some ⟨b3, off3, none⟩) p cap3) ((rE ks).take p) rfl (HRW.out.take p (by rw [rE_len]; omega)) (fun x hx => encE_lens ks x (List.mem_of_mem_take hx)) (fun u hu => encE_ones ks u (by obtain ⟨x, hx, hu⟩ := List.mem_flatten.1 hu; exact List.mem_flatten.2 ⟨x, List.mem_of_mem_take hx, hu⟩)) (by simp [rE_len]; omega) ?_
                    intro v2 w2 o2 t2
                    have hS2 := hS.trans t2 (by simp [Value.ownBlock])
                    refine ⟨rfl, hK.out _ _ hS2 (fun _ => ?_)⟩
                    clear hK K hS
                    have hS := hS2
                    clear hS2
                    have HO2 := Lib.hid o2
                    have HT2 := Lib.hid (show Touch [] _ w2 from t2)
                    try simp only [Act.put, List.setIfInBounds_toArray, List.set_cons_zero, List.set_cons_succ]
                    refine wpAnyH_ready (rs := [5]) (by kernel_rfl) (by simp) ?_
                    refine AllReadyH.cons (o := { dst := some 88, op := Op.buildSlice 27 1 #[(0, Operand.tmp 87)], type := 27, pos := "trace.go:98", after := #[{ on := 4, ground := Ground.data }], guard := none }) rfl (fun K hK => ?_) AllReadyH.nil
                    refine step_of_list rfl ?_
                    refine wpList_build1 rtE rfl _ rfl (encE (xL o)) rfl rfl ?_
                    have hS2 := hS.alloc (.cells (encE (xL o)).toArray 30)
                    refine ⟨rfl, hK.out _ _ hS2 (fun _ => ?_)⟩
                    clear hK K hS
                    have hS := hS2
                    clear hS2
                    have HB2 := Lib.hid (heap_alloc_new w2 (.cells (encE (xL o)).toArray 30))
                    have HO2 := Lib.hid (HO2.out.touch0 ((Touch.refl [] w2).alloc (.cells (encE (xL o)).toArray 30)))
                    try simp only [Act.put, List.setIfInBounds_toArray, List.set_cons_zero, List.set_cons_succ]
                    refine wpAnyH_ready (rs := [6]) (by kernel_rfl) (by simp) ?_
                    refine AllReadyH.cons (o := { dst := some 89, op := Op.call { callee := Callee.builtin Builtin.append, args := #[Operand.tmp 86, Operand.tmp 88], argTypes := #[27, 27] }, type := 27, pos := "trace.go:98", after := #[{ on := 3, ground := Ground.data }, { on := 5, ground := Ground.data }, { on := 3, ground := Ground.chain }], guard := none }) rfl (fun K hK => ?_) AllReadyH.nil
                    refine step_of_list rfl ?_
                    refine wpList_appR rtE _ rfl _ _ (by rfl) v2 ([] ++ (rE ks).take p) rfl HO2.out hS.size _ (.slice (some ⟨w2.heap.size, 0, none⟩) 1 1) [encE (xL o)] rfl (Rd.one HB2.out rfl) (by simp [encE]) (encE_ones [xL o]) (by simp [rE_len]; omega) ?_
                    intro v3 w3 o3 t3
                    have hS3 := hS.trans t3 (by intro y hy; right; exact HO2.out.new y (by simpa using hy))
                    refine ⟨rfl, hK.out _ _ hS3 (fun _ => ?_)⟩
                    clear hK K hS
                    have hS := hS3
                    clear hS3
                    have HO3 := Lib.hid o3
                    clear o3
                    try simp only [Act.put, List.setIfInBounds_toArray, List.set_cons_zero, List.set_cons_succ]
                    refine wpAnyH_ready (rs := [10]) (by kernel_rfl) (by simp) ?_
                    refine AllReadyH.cons (o := { dst := some 93, op := Op.call { callee := Callee.builtin Builtin.append, args := #[Operand.tmp 89, Operand.tmp 92], argTypes := #[27, 27] }, type := 27, pos := "trace.go:98", after := #[{ on := 6, ground := Ground.data }, { on := 9, ground := Ground.data }, { on := 6, ground := Ground.chain }], guard := none }) rfl (fun K hK => ?_) AllReadyH.nil
                    refine step_of_list rfl ?_
                    refine wpList_appR rtE w3 rfl _ _ (by rfl) v3 ([] ++ (rE ks).take p ++ [encE (xL o)]) rfl HO3.out hS.size b3 (cutv (some ⟨b3, off3, none⟩) ks.length cap3 p 2) ((rE ks).drop p) rfl ((HRW.out.touch hS (by simp)).drop (P := Try.prog) (T := 0) (e := 0) p (by rw [rE_len]; omega)) (fun x hx => encE_lens ks x (List.mem_of_mem_drop hx)) (fun u hu => encE_ones ks u (by obtain ⟨x, hx, hu⟩ := List.mem_flatten.1 hu; exact List.mem_flatten.2 ⟨x, List.mem_of_mem_drop hx, hu⟩)) (by simp [rE_len]; omega) ?_
                    intro v4 w4' o4 t4
                    have hS3 := hS.trans t4 (by intro y hy; right; exact HO3.out.new y (by simpa using hy))
                    refine ⟨rfl, hK.out _ _ hS3 (fun _ => ?_)⟩
                    clear hK K hS
                    have hS := hS3
                    clear hS3
                    have HO4 := Lib.hid o4
                    clear o4
                    try simp only [Act.put, List.setIfInBounds_toArray, List.set_cons_zero, List.set_cons_succ]
                    refine wpAnyH_take (i := 11) (oi := { dst := some 3, op := Op.assign (Operand.tmp 93), type := 27, pos := "trace.go:98", after := #[{ on := 10, ground := Ground.data }, { on := 10, ground := Ground.chain }, { on := 0, ground := Ground.phase }, { on := 1, ground := Ground.phase }, { on := 2, ground := Ground.phase }, { on := 3, ground := Ground.phase }, { on := 4, ground := Ground.phase }, { on := 5, ground := Ground.phase }, { on := 6, ground := Ground.phase }, { on := 7, ground := Ground.phase }, { on := 8, ground := Ground.phase }, { on := 9, ground := Ground.phase }, { on := 10, ground := Ground.phase }], guard := none }) (v := v4) rfl (by kernel_rfl) (by kernel_rfl) (by kernel_rfl) (fun _ _ _ h => h) (Or.inl ⟨by rfl, fun w' hw => by go_simp⟩) hS ?_
                    try simp only [Act.put, List.setIfInBounds_toArray, List.set_cons_zero, List.set_cons_succ]
                    refine wpAnyH_done (by kernel_rfl) ?_ _
                    try simp only [Act.put, List.setIfInBounds_toArray, List.set_cons_zero, List.set_cons_succ]
                    have HT4 := Lib.hid hS
                    clear hS
                    have HN := Lib.hid (show Lv w4' v4 (insK ks (xL o)) (i + 1) from ⟨⟨_, by have := HO4.out.rd (fun x hx => encE_lens (insK ks (xL o)) x (by rw [← HINS.out] at hx; exact hx)); rw [← HINS.out] at this; exact this⟩, insK_ok HKS.out KL.out, by rw [insK_len]; have := HKL.out; omega⟩)
                    go_wp2_with fail
                    go_roundw
                    case rel => exact ⟨i + 1, by simp, by omega, by rw [HR.out]; exact HN.out, TW17.out.trans HT4.out (by simp)⟩
                    case measure => simp [intOf]; omega
                  · refine step_of_list rfl ?_
                    refine wpList_build1 rtE rfl _ rfl (encE (xL o)) rfl rfl ?_
                    have hS2 := hS.alloc (.cells (encE (xL o)).toArray 30)
                    refine ⟨rfl, hK.out _ _ hS2 (fun _ => ?_)⟩
                    clear hK K hS
                    have hS := hS2
                    clear hS2
                    have HB := Lib.hid (heap_alloc_new W (.cells (encE (xL o)).toArray 30))
                    try simp only [Act.put, List.setIfInBounds_toArray, List.set_cons_zero, List.set_cons_succ]
                    refine wpAnyH_ready (rs := [3]) (by kernel_rfl) (by simp) ?_
                    refine AllReadyH.cons (o := { dst := some 86, op := Op.call { callee := Callee.builtin Builtin.append, args := #[Operand.const (Value.slice none 0 0), Operand.tmp 85], argTypes := #[27, 27] }, type := 27, pos := "trace.go:98", after := #[{ on := 2, ground := Ground.data }], guard := none }) rfl (fun K hK => ?_) AllReadyH.nil
                    refine step_of_list rfl ?_
                    refine wpList_appR rtE (W.alloc (.cells (encE (xL o)).toArray 30)) rfl _ _ (by rfl) (.slice none 0 0) [] rfl (OwnR.nil 30 2 W _) (by simp) b3 (.slice (some ⟨b3, off3, none⟩) p cap3) ((rE ks).take p) rfl ((HRW.out.touch ((Touch.refl [] W).alloc _) (by simp)).take p (by rw [rE_len]; omega)) (fun x hx => encE_lens ks x (List.mem_of_mem_take hx)) (fun u hu => encE_ones ks u (by obtain ⟨x, hx, hu⟩ := List.mem_flatten.1 hu; exact List.mem_flatten.2 ⟨x, List.mem_of_mem_take hx, hu⟩)) (by simp [rE_len]; omega) ?_
                    intro v2 w2 o2 t2
                    have hS2 := hS.trans t2 (by simp [Value.ownBlock])
                    refine ⟨rfl, hK.out _ _ hS2 (fun _ => ?_)⟩
                    clear hK K hS
                    have hS := hS2
                    clear hS2
                    have HO2 := Lib.hid o2
                    have HT2 := Lib.hid (show Touch [] _ w2 from t2)
                    have HB2 := Lib.hid (HT2.out.at HB.out (by simp))
                    try simp only [Act.put, List.setIfInBounds_toArray, List.set_cons_zero, List.set_cons_succ]
                    refine wpAnyH_ready (rs := [6]) (by kernel_rfl) (by simp) ?_
                    refine AllReadyH.cons (o := { dst := some 89, op := Op.call { callee := Callee.builtin Builtin.append, args := #[Operand.tmp 86, Operand.tmp 88], argTypes := #[27, 27] }, type := 27, pos := "trace.go:98", after := #[{ on := 3, ground := Ground.data }, { on := 5, ground := Ground.data }, { on := 3, ground := Ground.chain }], guard := none }) rfl (fun K hK => ?_) AllReadyH.nil
                    refine step_of_list rfl ?_
                    refine wpList_appR rtE _ rfl _ _ (by rfl) v2 ([] ++ (rE ks).take p) rfl HO2.out hS.size _ (.slice (some ⟨W.heap.size, 0, none⟩) 1 1) [encE (xL o)] rfl (Rd.one HB2.out rfl) (by simp [encE]) (encE_ones [xL o]) (by simp [rE_len]; omega) ?_
                    intro v3 w3 o3 t3
                    have hS3 := hS.trans t3 (by intro y hy; right; exact HO2.out.new y (by simpa using hy))
                    refine ⟨rfl, hK.out _ _ hS3 (fun _ => ?_)⟩
                    clear hK K hS
                    have hS := hS3
                    clear hS3
                    have HO3 := Lib.hid o3
                    clear o3
                    try simp only [Act.put, List.setIfInBounds_toArray, List.set_cons_zero, List.set_cons_succ]
                    refine wpAnyH_ready (rs := [10]) (by kernel_rfl) (by simp) ?_
                    refine AllReadyH.cons (o := { dst := some 93, op := Op.call { callee := Callee.builtin Builtin.append, args := #[Operand.tmp 89, Operand.tmp 92], argTypes := #[27, 27] }, type := 27, pos := "trace.go:98", after := #[{ on := 6, ground := Ground.data }, { on := 9, ground := Ground.data }, { on := 6, ground := Ground.chain }], guard := none }) rfl (fun K hK => ?_) AllReadyH.nil
                    refine step_of_list rfl ?_
                    refine wpList_appR rtE w3 rfl _ _ (by rfl) v3 ([] ++ (rE ks).take p ++ [encE (xL o)]) rfl HO3.out hS.size b3 (cutv (some ⟨b3, off3, none⟩) ks.length cap3 p 2) ((rE ks).drop p) rfl ((HRW.out.touch hS (by simp)).drop (P := Try.prog) (T := 0) (e := 0) p (by rw [rE_len]; omega)) (fun x hx => encE_lens ks x (List.mem_of_mem_drop hx)) (fun u hu => encE_ones ks u (by obtain ⟨x, hx, hu⟩ := List.mem_flatten.1 hu; exact List.mem_flatten.2 ⟨x, List.mem_of_mem_drop hx, hu⟩)) (by simp [rE_len]; omega) ?_
                    intro v4 w4' o4 t4
                    have hS3 := hS.trans t4 (by intro y hy; right; exact HO3.out.new y (by simpa using hy))
                    refine ⟨rfl, hK.out _ _ hS3 (fun _ => ?_)⟩
                    clear hK K hS
                    have hS := hS3
                    clear hS3
                    have HO4 := Lib.hid o4
                    clear o4
                    try simp only [Act.put, List.setIfInBounds_toArray, List.set_cons_zero, List.set_cons_succ]
                    refine wpAnyH_take (i := 11) (oi := { dst := some 3, op := Op.assign (Operand.tmp 93), type := 27, pos := "trace.go:98", after := #[{ on := 10, ground := Ground.data }, { on := 10, ground := Ground.chain }, { on := 0, ground := Ground.phase }, { on := 1, ground := Ground.phase }, { on := 2, ground := Ground.phase }, { on := 3, ground := Ground.phase }, { on := 4, ground := Ground.phase }, { on := 5, ground := Ground.phase }, { on := 6, ground := Ground.phase }, { on := 7, ground := Ground.phase }, { on := 8, ground := Ground.phase }, { on := 9, ground := Ground.phase }, { on := 10, ground := Ground.phase }], guard := none }) (v := v4) rfl (by kernel_rfl) (by kernel_rfl) (by kernel_rfl) (fun _ _ _ h => h) (Or.inl ⟨by rfl, fun w' hw => by go_simp⟩) hS ?_
                    try simp only [Act.put, List.setIfInBounds_toArray, List.set_cons_zero, List.set_cons_succ]
                    refine wpAnyH_done (by kernel_rfl) ?_ _
                    try simp only [Act.put, List.setIfInBounds_toArray, List.set_cons_zero, List.set_cons_succ]
                    have HT4 := Lib.hid hS
                    clear hS
                    have HN := Lib.hid (show Lv w4' v4 (insK ks (xL o)) (i + 1) from ⟨⟨_, by have := HO4.out.rd (fun x hx => encE_lens (insK ks (xL o)) x (by rw [← HINS.out] at hx; exact hx)); rw [← HINS.out] at this; exact this⟩, insK_ok HKS.out KL.out, by rw [insK_len]; have := HKL.out; omega⟩)
                    go_wp2_with fail
                    go_roundw
                    case rel => exact ⟨i + 1, by simp, by omega, by rw [HR.out]; exact HN.out, TW17.out.trans HT4.out (by simp)⟩
                    case measure => simp [intOf]; omega
            · have hb3 : ¬ (k : Int) < (ks.length : Int) := by omega
              have hkp2 := placeK_le ks (xL o)
              go_wp2_with fail
              go_quiet (fail)
              go_upto_region 17 with (fail)
              have HTX := Lib.hid (HTQ.out.drews nq)
              have hkp : k = placeK ks (xL o) := by omega
              have TW17 := Lib.hid (((TC.out.trans HTX.out (by simp))).drew)
              have FX := Lib.hid ((HTX.out.drew).at F5.out (by simp))
              have HRW := Lib.hid (HRK.out.touch (HTX.out.drew) (by simp))
              have HINS := Lib.hid (show (insK ks (xL o)).map encE = [] ++ (rE ks).take k ++ [encE (xL o)] ++ (rE ks).drop k by rw [hkp]; simp [insK, rE, List.map_take, List.map_drop])
              obtain ⟨p, hp⟩ : ∃ p, p = k := ⟨_, rfl⟩
              rw [← hp] at HINS ⊢
              have hpl : p ≤ ks.length := by have := placeK_le ks (xL o); omega
              have hpc : (p : Int) ≤ (cap3 : Int) := by omega
              have hkl := HKL.out
              clear hp hkp hkin
              refine wp_region_held (S := Touch [] (wr.drewN nq).drew) (by kernel_rfl) ?_
              change wpAnyH _ _ _ _ _ _ _ _ (wr.drewN nq).drew
              generalize (wr.drewN nq).drew = W at *
              have hS := Touch.refl [] W
              refine wpAnyH_take (i := 0) (oi := { dst := some 83, op := Op.move (Operand.tmp 3), type := 27, pos := "trace.go:98", after := #[], guard := none }) (v := .slice a3 ks.length cap3) rfl (by kernel_rfl) (by kernel_rfl) (by kernel_rfl) (fun _ _ _ h => h) (Or.inl ⟨by rfl, fun w' hw => by go_simp⟩) hS ?_
              try simp only [Act.put, List.setIfInBounds_toArray, List.set_cons_zero, List.set_cons_succ]
              refine wpAnyH_take (i := 1) (oi := { dst := some 84, op := Op.move (Operand.tmp 6), type := 3, pos := "trace.go:98", after := #[], guard := none }) (v := .int .i64 (p : Nat)) rfl (by kernel_rfl) (by kernel_rfl) (by kernel_rfl) (fun _ _ _ h => h) (Or.inl ⟨by rfl, fun w' hw => by go_simp⟩) hS ?_
              try simp only [Act.put, List.setIfInBounds_toArray, List.set_cons_zero, List.set_cons_succ]
              refine wpAnyH_take (i := 2) (oi := { dst := some 85, op := Op.slice 27 (Operand.tmp 83) none (some (Operand.tmp 84)) none, type := 27, pos := "trace.go:98", after := #[{ on := 0, ground := Ground.data }, { on := 1, ground := Ground.data }], guard := none }) (v := .slice a3 p cap3) rfl (by kernel_rfl) (by kernel_rfl) (by kernel_rfl) (fun _ _ _ h => h) (Or.inl ⟨by rfl, fun w' hw => by go_simp⟩) hS ?_
              try simp only [Act.put, List.setIfInBounds_toArray, List.set_cons_zero, List.set_cons_succ]
              refine wpAnyH_take (i := 4) (oi := { dst := some 87, op := Op.load 30 (Operand.tmp 5), type := 30, pos := "trace.go:98", after := #[], guard := none }) (v := .agg (encE (xL o)).toArray) rfl (by kernel_rfl) (by kernel_rfl) (by kernel_rfl) (fun _ _ _ h => h) (Or.inl ⟨by rfl, fun w' hw => exec_load_agg _ 30 _ rfl _ _ rfl (encE (xL o)) _ (hw.range (range_block FX.out) (by simp)) Try.underlying30 rfl (by rw [infoE]; rfl)⟩) hS ?_
              try simp only [Act.put, List.setIfInBounds_toArray, List.set_cons_zero, List.set_cons_succ]
              refine wpAnyH_take (i := 7) (oi := { dst := some 90, op := Op.move (Operand.tmp 3), type := 27, pos := "trace.go:98", after := #[], guard := none }) (v := .slice a3 ks.length cap3) rfl (by kernel_rfl) (by kernel_rfl) (by kernel_rfl) (fun _ _ _ h => h) (Or.inl ⟨by rfl, fun w' hw => by go_simp⟩) hS ?_
              try simp only [Act.put, List.setIfInBounds_toArray, List.set_cons_zero, List.set_cons_succ]
              refine wpAnyH_take (i := 8) (oi := { dst := some 91, op := Op.move (Operand.tmp 6), type := 3, pos := "trace.go:98", after := #[], guard := none }) (v := .int .i64 (p : Nat)) rfl (by kernel_rfl) (by kernel_rfl) (by kernel_rfl) (fun _ _ _ h => h) (Or.inl ⟨by rfl, fun w' hw => by go_simp⟩) hS ?_
              try simp only [Act.put, List.setIfInBounds_toArray, List.set_cons_zero, List.set_cons_succ]
              refine wpAnyH_take (i := 9) (oi := { dst := some 92, op := Op.slice 27 (Operand.tmp 90) (some (Operand.tmp 91)) none none, type := 27, pos := "trace.go:98", after := #[{ on := 7, ground := Ground.data }, { on := 8, ground := Ground.data }], guard := none }) (v := cutv a3 ks.length cap3 p 2) rfl (by kernel_rfl) (by kernel_rfl) (by kernel_rfl) (fun _ _ _ h => h) (yieldsIf_from (by rfl) 27 _ _ rfl 30 2 Try.underlying27 infoE a3 ks.length cap3 p rfl rfl (by omega)) hS ?_
              try simp only [Act.put, List.setIfInBounds_toArray, List.set_cons_zero, List.set_cons_succ]
              refine wpAnyH_ready (rs := [3, 5]) (by kernel_rfl) (by simp) ?_
              refine AllReadyH.cons (o := { dst := some 86, op := Op.call { callee := Callee.builtin Builtin.append, args := #[Operand.const (Value.slice none 0 0), Operand.tmp 85], argTypes := #[27, 27] }, type := 27, pos := "trace.go:98", after := #[{ on := 2, ground := Ground.data }], guard := none }) rfl (fun K hK => ?_) (AllReadyH.cons (o := { dst := some 88, op := Op.buildSlice 27 1 #[(0, Operand.tmp 87)], type := 27, pos := "trace.go:98", after := #[{ on := 4, ground := Ground.data }], guard := none }) rfl (fun K hK => ?_) AllReadyH.nil)
              · refine step_of_list rfl ?_
                refine wpList_appR rtE W rfl _ _ (by rfl) (.slice none 0 0) [] rfl (OwnR.nil 30 2 W _) (Nat.le_refl _) b3 (.slice a3 p cap3) ((rE ks).take p) rfl (HRW.out.take p (by rw [rE_len]; omega)) (fun x hx => encE_lens ks x (List.mem_of_mem_take hx)) (fun u hu => encE_ones ks u (by obtain ⟨x, hx, hu⟩ := List.mem_flatten.1 hu; exact List.mem_flatten.2 ⟨x, List.mem_of_mem_take hx, hu⟩)) (by simp [rE_len]; omega) ?_
                intro v2 w2 o2 t2
                have hS2 := hS.trans t2 (by simp [Value.ownBlock])
                refine ⟨rfl, hK.out _ _ hS2 (fun _ => ?_)⟩
                clear hK K hS
                have hS := hS2
                clear hS2
                have HO2 := Lib.hid o2
                have HT2 := Lib.hid (show Touch [] _ w2 from t2)
                try simp only [Act.put, List.setIfInBounds_toArray, List.set_cons_zero, List.set_cons_succ]
                refine wpAnyH_ready (rs := [5]) (by kernel_rfl) (by simp) ?_
                refine AllReadyH.cons (o := { dst := some 88, op := Op.buildSlice 27 1 #[(0, Operand.tmp 87)], type := 27, pos := "trace.go:98", after := #[{ on := 4, ground := Ground.data }], guard := none }) rfl (fun K hK => ?_) AllReadyH.nil
                refine step_of_list rfl ?_
                refine wpList_build1 rtE rfl _ rfl (encE (xL o)) rfl rfl ?_
                have hS2 := hS.alloc (.cells (encE (xL o)).toArray 30)
                refine ⟨rfl, hK.out _ _ hS2 (fun _ => ?_)⟩
                clear hK K hS
                have hS := hS2
                clear hS2
                have HB2 := Lib.hid (heap_alloc_new w2 (.cells (encE (xL o)).toArray 30))
                have HO2 := Lib.hid (HO2.out.touch0 ((Touch.refl [] w2).alloc (.cells (encE (xL o)).toArray 30)))
                try simp only [Act.put, List.setIfInBounds_toArray, List.set_cons_zero, List.set_cons_succ]
                refine wpAnyH_ready (rs := [6]) (by kernel_rfl) (by simp) ?_
                refine AllReadyH.cons (o := { dst := some 89, op := Op.call { callee := Callee.builtin Builtin.append, args := #[Operand.tmp 86, Operand.tmp 88], argTypes := #[27, 27] }, type := 27, pos := "trace.go:98", after := #[{ on := 3, ground := Ground.data }, { on := 5, ground := Ground.data }, { on := 3, ground := Ground.chain }], guard := none }) rfl (fun K hK => ?_) AllReadyH.nil
                refine step_of_list rfl ?_
                refine wpList_appR rtE _ rfl _ _ (by rfl) v2 ([] ++ (rE ks).take p) rfl HO2.out hS.size _ (.slice (some ⟨w2.heap.size, 0, none⟩) 1 1) [encE (xL o)] rfl (Rd.one HB2.out rfl) (by simp [encE]) (encE_ones [xL o]) (by simp [rE_len]; omega) ?_
                intro v3 w3 o3 t3
                have hS3 := hS.trans t3 (by intro y hy; right; exact HO2.out.new y (by simpa using hy))
                refine ⟨rfl, hK.out _ _ hS3 (fun _ => ?_)⟩
                clear hK K hS
                have hS := hS3
                clear hS3
                have HO3 := Lib.hid o3
                clear o3
                try simp only [Act.put, List.setIfInBounds_toArray, List.set_cons_zero, List.set_cons_succ]
                refine wpAnyH_ready (rs := [10]) (by kernel_rfl) (by simp) ?_
                refine AllReadyH.cons (o := { dst := some 93, op := Op.call { callee := Callee.builtin Builtin.append, args := #[Operand.tmp 89, Operand.tmp 92], argTypes := #[27, 27] }, type := 27, pos := "trace.go:98", after := #[{ on := 6, ground := Ground.data }, { on := 9, ground := Ground.data }, { on := 6, ground := Ground.chain }], guard := none }) rfl (fun K hK => ?_) AllReadyH.nil
                refine step_of_list rfl ?_
                refine wpList_appR rtE w3 rfl _ _ (by rfl) v3 ([] ++ (rE ks).take p ++ [encE (xL o)]) rfl HO3.out hS.size b3 (cutv a3 ks.length cap3 p 2) ((rE ks).drop p) rfl ((HRW.out.touch hS (by simp)).drop (P := Try.prog) (T := 0) (e := 0) p (by rw [rE_len]; omega)) (fun x hx => encE_lens ks x (List.mem_of_mem_drop hx)) (fun u hu => encE_ones ks u (by obtain ⟨x, hx, hu⟩ := List.mem_flatten.1 hu; exact List.mem_flatten.2 ⟨x, List.mem_of_mem_drop hx, hu⟩)) (by simp [rE_len]; omega) ?_
                intro v4 w4' o4 t4
                have hS3 := hS.trans t4 (by intro y hy; right; exact HO3.out.new y (by simpa using hy))
                refine ⟨rfl, hK.out _ _ hS3 (fun _ => ?_)⟩
                clear hK K hS
                have hS := hS3
                clear hS3
                have HO4 := Lib.hid o4
                clear o4
                try simp only [Act.put, List.setIfInBounds_toArray, List.set_cons_zero, List.set_cons_succ]
                refine wpAnyH_take (i := 11) (oi := { dst := some 3, op := Op.assign (Operand.tmp 93), type := 27, pos := "trace.go:98", after := #[{ on := 10, ground := Ground.data }, { on := 10, ground := Ground.chain }, { on := 0, ground := Ground.phase }, { on := 1, ground := Ground.phase }, { on := 2, ground := Ground.phase }, { on := 3, ground := Ground.phase }, { on := 4, ground := Ground.phase }, { on := 5, ground := Ground.phase }, { on := 6, ground := Ground.phase }, { on := 7, ground := Ground.phase }, { on := 8, ground := Ground.phase }, { on := 9, ground := Ground.phase }, { on := 10, ground := Ground.phase }], guard := none }) (v := v4) rfl (by kernel_rfl) (by kernel_rfl) (by kernel_rfl) (fun _ _ _ h => h) (Or.inl ⟨by rfl, fun w' hw => by go_simp⟩) hS ?_
                try simp only [Act.put, List.setIfInBounds_toArray, List.set_cons_zero, List.set_cons_succ]
                refine wpAnyH_done (by kernel_rfl) ?_ _
                try simp only [Act.put, List.setIfInBounds_toArray, List.set_cons_zero, List.set_cons_succ]
                have HT4 := Lib.hid hS
                clear hS
                have HN := Lib.hid (show Lv w4' v4 (insK ks (xL o)) (i + 1) from ⟨⟨_, by have := HO4.out.rd (fun x hx => encE_lens (insK ks (xL o)) x (by rw [← HINS.out] at hx; exact hx)); rw [← HINS.out] at this; exact this⟩, insK_ok HKS.out KL.out, by rw [insK_len]; have := HKL.out; omega⟩)
                go_wp2_with fail
                go_roundw
                case rel => exact ⟨i + 1, by simp, by omega, by rw [HR.out]; exact HN.out, TW17.out.trans HT4.out (by simp)⟩
                case measure => simp [intOf]; omega
              · refine step_of_list rfl ?_
                refine wpList_build1 rtE rfl _ rfl (encE (xL o)) rfl rfl ?_
                have hS2 := hS.alloc (.cells (encE (xL o)).toArray 30)
                refine ⟨rfl, hK.out _ _ hS2 (fun _ => ?_)⟩
                clear hK K hS
                have hS := hS2
                clear hS2
                have HB := Lib.hid (heap_alloc_new W (.cells (encE (xL o)).toArray 30))
                try simp only [Act.put, List.setIfInBounds_toArray, List.set_cons_zero, List.set_cons_succ]
                refine wpAnyH_ready (rs := [3]) (by kernel_rfl) (by simp) ?_
                refine AllReadyH.cons (o := { dst := some 86, op := Op.call { callee := Callee.builtin Builtin.append, args := #[Operand.const (Value.slice none 0 0), Operand.tmp 85], argTypes := #[27, 27] }, type := 27, pos := "trace.go:98", after := #[{ on := 2, ground := Ground.data }], guard := none }) rfl (fun K hK => ?_) AllReadyH.nil
                refine step_of_list rfl ?_
                refine wpList_appR rtE (W.alloc (.cells (encE (xL o)).toArray 30)) rfl _ _ (by rfl) (.slice none 0 0) [] rfl (OwnR.nil 30 2 W _) (by simp) b3 (.slice a3 p cap3) ((rE ks).take p) rfl ((HRW.out.touch ((Touch.refl [] W).alloc _) (by simp)).take p (by rw [rE_len]; omega)) (fun x hx => encE_lens ks x (List.mem_of_mem_take hx)) (fun u hu => encE_ones ks u (by obtain ⟨x, hx, hu⟩ := List.mem_flatten.1 hu; exact List.mem_flatten.2 ⟨x, List.mem_of_mem_take hx, hu⟩)) (by simp [rE_len]; omega) ?_
                intro v2 w2 o2 t2
                have hS2 := hS.trans t2 (by simp [Value.ownBlock])
                refine ⟨rfl, hK.out _ _ hS2 (fun _ => ?_)⟩
                clear hK K hS
                have hS := hS2
                clear hS2
                have HO2 := Lib.hid o2
                have HT2 := Lib.hid (show Touch [] _ w2 from t2)
                have HB2 := Lib.hid (HT2.out.at HB.out (by simp))
                try simp only [Act.put, List.setIfInBounds_toArray, List.set_cons_zero, List.set_cons_succ]
                refine wpAnyH_ready (rs := [6]) (by kernel_rfl) (by simp) ?_
                refine AllReadyH.cons (o := { dst := some 89, op := Op.call { callee := Callee.builtin Builtin.append, args := #[Operand.tmp 86, Operand.tmp 88], argTypes := #[27, 27] }, type := 27, pos := "trace.go:98", after := #[{ on := 3, ground := Ground.data }, { on := 5, ground := Ground.data }, { on := 3, ground := Ground.chain }], guard := none }) rfl (fun K hK => ?_) AllReadyH.nil
                refine step_of_list rfl ?_
                refine wpList_appR rtE _ rfl _ _ (by rfl) v2 ([] ++ (rE ks).take p) rfl HO2.out hS.size _ (.slice (some ⟨W.heap.size, 0, none⟩) 1 1) [encE (xL o)] rfl (Rd.one HB2.out rfl) (by simp [encE]) (encE_ones [xL o]) (by simp [rE_len]; omega) ?_
                intro v3 w3 o3 t3
                have hS3 := hS.trans t3 (by intro y hy; right; exact HO2.out.new y (by simpa using hy))
                refine ⟨rfl, hK.out _ _ hS3 (fun _ => ?_)⟩
                clear hK K hS
                have hS := hS3
                clear hS3
                have HO3 := Lib.hid o3
                clear o3
                try simp only [Act.put, List.setIfInBounds_toArray, List.set_cons_zero, List.set_cons_succ]
                refine wpAnyH_ready (rs := [10]) (by kernel_rfl) (by simp) ?_
                refine AllReadyH.cons (o := { dst := some 93, op := Op.call { callee := Callee.builtin Builtin.append, args := #[Operand.tmp 89, Operand.tmp 92], argTypes := #[27, 27] }, type := 27, pos := "trace.go:98", after := #[{ on := 6, ground := Ground.data }, { on := 9, ground := Ground.data }, { on := 6, ground := Ground.chain }], guard := none }) rfl (fun K hK => ?_) AllReadyH.nil
                refine step_of_list rfl ?_
                refine wpList_appR rtE w3 rfl _ _ (by rfl) v3 ([] ++ (rE ks).take p ++ [encE (xL o)]) rfl HO3.out hS.size b3 (cutv a3 ks.length cap3 p 2) ((rE ks).drop p) rfl ((HRW.out.touch hS (by simp)).drop (P := Try.prog) (T := 0) (e := 0) p (by rw [rE_len]; omega)) (fun x hx => encE_lens ks x (List.mem_of_mem_drop hx)) (fun u hu => encE_ones ks u (by obtain ⟨x, hx, hu⟩ := List.mem_flatten.1 hu; exact List.mem_flatten.2 ⟨x, List.mem_of_mem_drop hx, hu⟩)) (by simp [rE_len]; omega) ?_
                intro v4 w4' o4 t4
                have hS3 := hS.trans t4 (by intro y hy; right; exact HO3.out.new y (by simpa using hy))
                refine ⟨rfl, hK.out _ _ hS3 (fun _ => ?_)⟩
                clear hK K hS
                have hS := hS3
                clear hS3
                have HO4 := Lib.hid o4
                clear o4
                try simp only [Act.put, List.setIfInBounds_toArray, List.set_cons_zero, List.set_cons_succ]
                refine wpAnyH_take (i := 11) (oi := { dst := some 3, op := Op.assign (Operand.tmp 93), type := 27, pos := "trace.go:98", after := #[{ on := 10, ground := Ground.data }, { on := 10, ground := Ground.chain }, { on := 0, ground := Ground.phase }, { on := 1, ground := Ground.phase }, { on := 2, ground := Ground.phase }, { on := 3, ground := Ground.phase }, { on := 4, ground := Ground.phase }, { on := 5, ground := Ground.phase }, { on := 6, ground := Ground.phase }, { on := 7, ground := Ground.phase }, { on := 8, ground := Ground.phase }, { on := 9, ground := Ground.phase }, { on := 10, ground := Ground.phase }], guard := none }) (v := v4) rfl (by kernel_rfl) (by kernel_rfl) (by kernel_rfl) (fun _ _ _ h => h) (Or.inl ⟨by rfl, fun w' hw => by go_simp⟩) hS ?_
                try simp only [Act.put, List.setIfInBounds_toArray, List.set_cons_zero, List.set_cons_succ]
                refine wpAnyH_done (by kernel_rfl) ?_ _
                try simp only [Act.put, List.setIfInBounds_toArray, List.set_cons_zero, List.set_cons_succ]
                have HT4 := Lib.hid hS
                clear hS
                have HN := Lib.hid (show Lv w4' v4 (insK ks (xL o)) (i + 1) from ⟨⟨_, by have := HO4.out.rd (fun x hx => encE_lens (insK ks (xL o)) x (by rw [← HINS.out] at hx; exact hx)); rw [← HINS.out] at this; exact this⟩, insK_ok HKS.out KL.out, by rw [insK_len]; have := HKL.out; omega⟩)
                go_wp2_with fail
                go_roundw
                case rel => exact ⟨i + 1, by simp, by omega, by rw [HR.out]; exact HN.out, TW17.out.trans HT4.out (by simp)⟩
                case measure => simp [intOf]; omega
      
      have q1 : (o.k == 1) = false := by simp [h1]
      have HXL := Lib.hid (show xL o = (o.c, o.a) by simp [xL, h1])
      have F5 := Lib.hid (show wz.heap[g5]? = some (.cells (encE (xL o)).toArray 30 (0, 0)) by rw [HXL.out]; exact F5.out)
      have TC := Lib.hid TZ.out
      have HL := Lib.hid HL2.out
      by_cases h7 : o.k = 7
      · have q7 : (o.k == 7) = true := by simp [h7]
        go_wp2_with ((with_reducible refine at_load 30 ?_); refine wpList_load_mid rfl 30 _ rfl g5 (0) rfl (encE (xL o)) _ (range_block F5.out) Try.underlying30 rfl (by rw [infoE]; rfl) ?_)
        refine (HL.out.rem HI.out (xL o) false KL.out).mono ?_
        rintro e w4 ⟨p3, rfl, lv, tt⟩
        have HL := Lib.hid lv
        have TC := Lib.hid (TC.out.trans tt (by simp))
        clear lv tt
        have HR := Lib.hid (show liveR (l.take (i + 1)) = remK ks (xL o) false by rw [HX.out]; simp [lstep, h7])
        go_wp2_with fail
        go_roundw
        case rel => exact ⟨i + 1, by simp, by omega, by rw [HR.out]; exact HL.out, TC.out⟩
        case measure => simp [intOf]; omega
      have q7 : (o.k == 7) = false := by simp [h7]
      by_cases h4 : o.k = 4
      · have q4 : (o.k == 4) = true := by simp [h4]
        go_wp2_with ((with_reducible refine at_load 30 ?_); refine wpList_load_mid rfl 30 _ rfl g5 (0) rfl (encE (xL o)) _ (range_block F5.out) Try.underlying30 rfl (by rw [infoE]; rfl) ?_)
        refine (HL.out.contains HI.out (xL o) KL.out).mono ?_
        rintro e w4 ⟨rfl, tt⟩
        have HL := Lib.hid (HL.out.touch tt)
        have F5 := Lib.hid (tt.at F5.out (by simp))
        have TC := Lib.hid (TC.out.trans tt (by simp))
        clear tt
        cases hdA : decide (xL o ∈ ks) with
        | true =>
          have HR := Lib.hid (show liveR (l.take (i + 1)) = ks by rw [HX.out]; simp [lstep, h4, of_decide_eq_true hdA])
          go_wp2_with fail
          go_roundw
          case rel => exact ⟨i + 1, by simp, by omega, by rw [HR.out]; exact HL.out.more (by omega), TC.out⟩
          case measure => simp [intOf]; omega
        | false =>
          have HR := Lib.hid (show liveR (l.take (i + 1)) = insK ks (xL o) by rw [HX.out]; simp [lstep, h4, of_decide_eq_false hdA])
          obtain ⟨⟨b3, hrk⟩, hkok, hkl⟩ := HL.out
          obtain ⟨a3, cap3, rfl, hk3, _⟩ := hrk.form
          rw [rE_len] at hrk hk3 ⊢
          have HRK := Lib.hid hrk
          have HKS := Lib.hid hkok
          have HKL := Lib.hid hkl
          obtain ⟨xc, hxc⟩ : ∃ xc, xc = (xL o).1 := ⟨_, rfl⟩
          obtain ⟨xa, hxa⟩ : ∃ xa, xa = (xL o).2 := ⟨_, rfl⟩
          have HXE := Lib.hid (show xL o = (xc, xa) by rw [hxc, hxa])
          clear hdA HX hrk hkok hkl hxc hxa
          go_wp2_with fail
          go_loopw [6] (fun vk wq => ∃ (k : Nat), vk = .int .i64 k ∧ k ≤ placeK ks (xL o) ∧ Touch [] w4 wq) (fun vk _ => ks.length - (intOf vk).toNat)
          case atStart => exact ⟨0, rfl, by omega, Touch.refl _ _⟩
          case round =>
            obtain ⟨k, rfl, hkin, htq⟩ := hrel
            have HTQ := Lib.hid htq
            have x0 : wr.cell? ⟨g5, 0, none⟩ = some (.int .i64 xc) := by have := (E.cells (range_block (htq.at F5.out (by simp)))).1; rw [HXE.out] at this; exact this
            have x1 : wr.cell? ⟨g5, 1, none⟩ = some (.int .i64 xa) := by have := (E.cells (range_block (htq.at F5.out (by simp)))).2; rw [HXE.out] at this; exact this
            have hwk : IntKind.i64.wrap ((k : Int) + 1) = (k : Int) + 1 := by have := placeK_le ks (xL o); have := HKL.out; rw [IntKind.wrap_i64] <;> omega
            clear htq
            by_cases hkl : k < ks.length
            · have hb3 : (k : Int) < (ks.length : Int) := by omega
              have hy2 := List.getElem?_eq_getElem hkl
              generalize ks[k] = y at hy2
              obtain ⟨off3, rfl, rY⟩ := (HRK.out.touch HTQ.out (by simp)).atE hy2
              obtain ⟨e0, e1⟩ := E.cells rY
              have HLT := Lib.hid (fun h : k < placeK ks (xL o) => placeK_lt ks (xL o) k y h hy2)
              have HGE := Lib.hid (fun h : k = placeK ks (xL o) => placeK_ge ks (xL o) y (by rw [← h]; exact hy2))
              clear hy2 rY
              by_cases hkp : k < placeK ks (xL o)
              · have hlt2 := HLT.out hkp
                rw [HXE.out] at hlt2
                by_cases hc : y.1 < xc
                · have qc : decide (y.1 < xc) = true := decide_eq_true hc
                  clear hlt2 hc
                  go_wp2_with fail
                  go_quiet (fail)
                  go_wp2_with fail
                  go_roundw
                  case rel => exact ⟨k + 1, by simp, by omega, HTQ.out.drews _⟩
                  case measure => simp [intOf]; omega
                · have he : y.1 = xc ∧ y.2 < xa := by rcases hlt2 with h | h; exact absurd h hc; exact h
                  have qc : decide (y.1 < xc) = false := decide_eq_false hc
                  have qe : (y.1 == xc) = true := by simp [he.1]
                  have qa : decide (y.2 < xa) = true := decide_eq_true he.2
                  clear hlt2 hc he
                  go_wp2_with fail
                  go_quiet (fail)
                  go_wp2_with fail
                  go_roundw
                  case rel => exact ⟨k + 1, by simp, by omega, HTQ.out.drews _⟩
                  case measure => simp [intOf]; omega
              · have hge := HGE.out (by omega)
                rw [HXE.out] at hge
                have qc : decide (y.1 < xc) = false := decide_eq_false (fun h => hge (.inl h))
                by_cases he : y.1 = xc
                · have qe : (y.1 == xc) = true := by simp [he]
                  have qa : decide (y.2 < xa) = false := decide_eq_false (fun h => hge (.inr ⟨he, h⟩))
                  clear hge he
                  go_wp2_with fail
                  go_quiet (fail)
                  go_upto_region 17 with (fail)
                  have HTX := Lib.hid (HTQ.out.drews nq)
                  have hkp : k = placeK ks (xL o) := by omega
                  have TW17 := Lib.hid (((TC.out.trans HTX.out (by simp))).drew)
                  have FX := Lib.hid ((HTX.out.drew).at F5.out (by simp))
                  have HRW := Lib.hid (HRK.out.touch (HTX.out.drew) (by simp))
                  have HINS := Lib.hid (show (insK ks (xL o)).map encE = [] ++ (rE ks).take k ++ [encE (xL o)] ++ (rE ks).drop k by rw [hkp]; simp [insK, rE, List.map_take, List.map_drop])
                  obtain ⟨p, hp⟩ : ∃ p, p = k := ⟨_, rfl⟩
                  rw [← hp] at HINS ⊢
                  have hpl : p ≤ ks.length := by have := placeK_le ks (xL o); omega
                  have hpc : (p : Int) ≤ (cap3 : Int) := by omega
                  have hkl := HKL.out
                  clear hp hkp hkin
                  refine wp_region_held (S := Touch [] (wr.drewN nq).drew) (by kernel_rfl) ?_
                  change wpAnyH _ _ _ _ _ _ _ _ (wr.drewN nq).drew
                  generalize (wr.drewN nq).drew = W at *
                  have hS := Touch.refl [] W
                  refine wpAnyH_take (i := 0) (oi := { dst := some 83, op := Op.move (Operand.tmp 3), type := 27, pos := "trace.go:98", after := #[], guard := none }) (v := .slice (some ⟨b3, off3, none⟩) ks.length cap3) rfl (by kernel_rfl) (by kernel_rfl) (by kernel_rfl) (fun _ _ _ h => h) (Or.inl ⟨by rfl, fun w' hw => by go_simp⟩) hS ?_
                  try simp only [Act.put, List.setIfInBounds_toArray, List.set_cons_zero, List.set_cons_succ]
                  refine wpAnyH_take (i := 1) (oi := { dst := some 84, op := Op.move (Operand.tmp 6), type := 3, pos := "trace.go:98", after := #[], guard := none }) (v := .int .i64 (p : Nat)) rfl (by kernel_rfl) (by kernel_rfl) (by kernel_rfl) (fun _ _ _ h => h) (Or.inl ⟨by rfl, fun w' hw => by go_simp⟩) hS ?_
                  try simp only [Act.put, List.setIfInBounds_toArray, List.set_cons_zero, List.set_cons_succ]
                  refine wpAnyH_take (i := 2) (oi := { dst := some 85, op := Op.slice 27 (Operand.tmp 83) none (some (Operand.tmp 84)) none, type := 27, pos := "trace.go:98", after := #[{ on := 0, ground := Ground.data }, { on := 1, ground := Ground.data }], guard := none }) (v := .slice (some ⟨b3, off3, none⟩) p cap3) rfl (by kernel_rfl) (by kernel_rfl) (by kernel_rfl) (fun _ _ _ h => h) (Or.inl ⟨by rfl, fun w' hw => by go_simp⟩) hS ?_
                  try simp only [Act.put, List.setIfInBounds_toArray, List.set_cons_zero, List.set_cons_succ]
                  refine wpAnyH_take (i := 4) (oi := { dst := some 87, op := Op.load 30 (Operand.tmp 5), type := 30, pos := "trace.go:98", after := #[], guard := none }) (v := .agg (encE (xL o)).toArray) rfl (by kernel_rfl) (by kernel_rfl) (by kernel_rfl) (fun _ _ _ h => h) (Or.inl ⟨by rfl, fun w' hw => exec_load_agg _ 30 _ rfl _ _ rfl (encE (xL o)) _ (hw.range (range_block FX.out) (by simp)) Try.underlying30 rfl (by rw [infoE]; rfl)⟩) hS ?_
                  try simp only [Act.put, List.setIfInBounds_toArray, List.set_cons_zero, List.set_cons_succ]
                  refine wpAnyH_take (i := 7) (oi := { dst := some 90, op := Op.move (Operand.tmp 3), type := 27, pos := "trace.go:98", after := #[], guard := none }) (v := .slice (some ⟨b3, off3, none⟩) ks.length cap3) rfl (by kernel_rfl) (by kernel_rfl) (by kernel_rfl) (fun _ _ _ h => h) (Or.inl ⟨by rfl, fun w' hw => by go_simp⟩) hS ?_
                  try simp only [Act.put, List.setIfInBounds_toArray, List.set_cons_zero, List.set_cons_succ]
                  refine wpAnyH_take (i := 8) (oi := { dst := some 91, op := Op.move (Operand.tmp 6), type := 3, pos := "trace.go:98", after := #[], guard := none }) (v := .int .i64 (p : Nat)) rfl (by kernel_rfl) (by kernel_rfl) (by kernel_rfl) (fun _ _ _ h => h) (Or.inl ⟨by rfl, fun w' hw => by go_simp⟩) hS ?_
                  try simp only [Act.put, List.setIfInBounds_toArray, List.set_cons_zero, List.set_cons_succ]
                  refine wpAnyH_take (i := 9) (oi := { dst := some 92, op := Op.slice 27 (Operand.tmp 90) (some (Operand.tmp 91)) none none, type := 27, pos := "trace.go:98", after := #[{ on := 7, ground := Ground.data }, { on := 8, ground := Ground.data }], guard := none }) (v := cutv (some ⟨b3, off3, none⟩) ks.length cap3 p 2) rfl (by kernel_rfl) (by kernel_rfl) (by kernel_rfl) (fun _ _ _ h => h) (yieldsIf_from (by rfl) 27 _ _ rfl 30 2 Try.underlying27 infoE (some ⟨b3, off3, none⟩) ks.length cap3 p rfl rfl (by omega)) hS ?_
                  try simp only [Act.put, List.setIfInBounds_toArray, List.set_cons_zero, List.set_cons_succ]
                  refine wpAnyH_ready (rs := [3, 5]) (by kernel_rfl) (by simp) ?_
                  refine AllReadyH.cons (o := { dst := some 86, op := Op.call { callee := Callee.builtin Builtin.append, args := #[Operand.const (Value.slice none 0 0), Operand.tmp 85], argTypes := #[27, 27] }, type := 27, pos := "trace.go:98", after := #[{ on := 2, ground := Ground.data }], guard := none }) rfl (fun K hK => ?_) (AllReadyH.cons (o := { dst := some 88, op := Op.buildSlice 27 1 #[(0, Operand.tmp 87)], type := 27, pos := "trace.go:98", after := #[{ on := 4, ground := Ground.data }], guard := none }) rfl (fun K hK => ?_) AllReadyH.nil)
                  · refine step_of_list rfl ?_
                    refine wpList_appR rtE W rfl _ _ (by rfl) (.slice none 0 0) [] rfl (OwnR.nil 30 2 W _) (Nat.le_refl _) b3 (.slice (some ⟨b3, off3, none⟩) p cap3) ((rE ks).take p) rfl (HRW.out.take p (by rw [rE_len]; omega)) (fun x hx => encE_lens ks x (List.mem_of_mem_take hx)) (fun u hu => encE_ones ks u (by obtain ⟨x, hx, hu⟩ := List.mem_flatten.1 hu; exact List.mem_flatten.2 ⟨x, List.mem_of_mem_take hx, hu⟩)) (by simp [rE_len]; omega) ?_
                    intro v2 w2 o2 t2
                    have hS2 := hS.trans t2 (by simp [Value.ownBlock])
                    refine ⟨rfl, hK.out _ _ hS2 (fun _ => ?_)⟩
                    clear hK K hS
                    have hS := hS2
                    clear hS2
                    have HO2 := Lib.hid o2
                    have HT2 := Lib.hid (show Touch [] _ w2 from t2)
                    try simp only [Act.put, List.setIfInBounds_toArray, List.set_cons_zero, List.set_cons_succ]
                    refine wpAnyH_ready (rs := [5]) (by kernel_rfl) (by simp) ?_
                    refine AllReadyH.cons (o := { dst := some 88, op := Op.buildSlice 27 1 #[(0, Operand.tmp 87)], type := 27, pos := "trace.go:98", after := #[{ on := 4, ground := Ground.data }], guard := none }) rfl (fun K hK => ?_) AllReadyH.nil
                    refine step_of_list rfl ?_
                    refine wpList_build1 rtE rfl _ rfl (encE (xL o)) rfl rfl ?_
                    have hS2 := hS.alloc (.cells (encE (xL o)).toArray 30)
                    refine ⟨rfl, hK.out _ _ hS2 (fun _ => ?_)⟩
                    clear hK K hS
                    have hS := hS2
                    clear hS2
                    have HB2 := Lib.hid (heap_alloc_new w2 (.cells (encE (xL o)).toArray 30))
                    have HO2 := Lib.hid (HO2.out.touch0 ((Touch.refl [] w2).alloc (.cells (encE (xL o)).toArray 30)))
                    try simp only [Act.put, List.setIfInBounds_toArray, List.set_cons_zero, List.set_cons_succ]
                    refine wpAnyH_ready (rs := [6]) (by kernel_rfl) (by simp) ?_
                    refine AllReadyH.cons (o := { dst := some 89, op := Op.call { callee := Callee.builtin Builtin.append, args := #[Operand.tmp 86, Operand.tmp 88], argTypes := #[27, 27] }, type := 27, pos := "trace.go:98", after := #[{ on := 3, ground := Ground.data }, { on := 5, ground := Ground.data }, { on := 3, ground := Ground.chain }], guard := none }) rfl (fun K hK => ?_) AllReadyH.nil
                    refine step_of_list rfl ?_
                    refine wpList_appR rtE _ rfl _ _ (by rfl) v2 ([] ++ (rE ks).take p) rfl HO2.out hS.size _ (.slice (some ⟨w2.heap.size, 0, none⟩) 1 1) [encE (xL o)] rfl (Rd.one HB2.out rfl) (by simp [encE]) (encE_ones [xL o]) (by simp [rE_len]; omega) ?_
                    intro v3 w3 o3 t3
                    have hS3 := hS.trans t3 (by intro y hy; right; exact HO2.out.new y (by simpa using hy))
                    refine ⟨rfl, hK.out _ _ hS3 (fun _ => ?_)⟩
                    clear hK K hS
                    have hS := hS3
                    clear hS3
                    have HO3 := Lib.hid o3
                    clear o3
                    try simp only [Act.put, List.setIfInBounds_toArray, List.set_cons_zero, List.set_cons_succ]
                    refine wpAnyH_ready (rs := [10]) (by kernel_rfl) (by simp) ?_
                    refine AllReadyH.cons (o := { dst := some 93, op := Op.call { callee := Callee.builtin Builtin.append, args := #[Operand.tmp 89, Operand.tmp 92], argTypes := #[27, 27] }, type := 27, pos := "trace.go:98", after := #[{ on := 6, ground := Ground.data }, { on := 9, ground := Ground.data }, { on := 6, ground := Ground.chain }], guard := none }) rfl (fun K hK => ?_) AllReadyH.nil
                    refine step_of_list rfl ?_
                    refine wpList_appR rtE w3 rfl _ _ (by rfl) v3 ([] ++ (rE ks).take p ++ [encE (xL o)]) rfl HO3.out hS.size b3 (cutv (some ⟨b3, off3, none⟩) ks.length cap3 p 2) ((rE ks).drop p) rfl ((HRW.out.touch hS (by simp)).drop (P := Try.prog) (T := 0) (e := 0) p (by rw [rE_len]; omega)) (fun x hx => encE_lens ks x (List.mem_of_mem_drop hx)) (fun u hu => encE_ones ks u (by obtain ⟨x, hx, hu⟩ := List.mem_flatten.1 hu; exact List.mem_flatten.2 ⟨x, List.mem_of_mem_drop hx, hu⟩)) (by simp [rE_len]; omega) ?_
                    intro v4 w4' o4 t4
                    have hS3 := hS.trans t4 (by intro y hy; right; exact HO3.out.new y (by simpa using hy))
                    refine ⟨rfl, hK.out _ _ hS3 (fun _ => ?_)⟩
                    clear hK K hS
                    have hS := hS3
                    clear hS3
                    have HO4 := Lib.hid o4
                    clear o4
                    try simp only [Act.put, List.setIfInBounds_toArray, List.set_cons_zero, List.set_cons_succ]
                    refine wpAnyH_take (i := 11) (oi := { dst := some 3, op := Op.assign (Operand.tmp 93), type := 27, pos := "trace.go:98", after := #[{ on := 10, ground := Ground.data }, { on := 10, ground := Ground.chain }, { on := 0, ground := Ground.phase }, { on := 1, ground := Ground.phase }, { on := 2, ground := Ground.phase }, { on := 3, ground := Ground.phase }, { on := 4, ground := Ground.phase }, { on := 5, ground := Ground.phase }, { on := 6, ground := Ground.phase }, { on := 7, ground := Ground.phase }, { on := 8, ground := Ground.phase }, { on := 9, ground := Ground.phase }, { on := 10, ground := Ground.phase }], guard := none }) (v := v4) rfl (by kernel_rfl) (by kernel_rfl) (by kernel_rfl) (fun _ _ _ h => h) (Or.inl ⟨by rfl, fun w' hw => by go_simp⟩) hS ?_
                    try simp only [Act.put, List.setIfInBounds_toArray, List.set_cons_zero, List.set_cons_succ]
                    refine wpAnyH_done (by kernel_rfl) ?_ _
                    try simp only [Act.put, List.setIfInBounds_toArray, List.set_cons_zero, List.set_cons_succ]
                    have HT4 := Lib.hid hS
                    clear hS
                    have HN := Lib.hid (show Lv w4' v4 (insK ks (xL o)) (i + 1) from ⟨⟨_, by have := HO4.out.rd (fun x hx => encE_lens (insK ks (xL o)) x (by rw [← HINS.out] at hx; exact hx)); rw [← HINS.out] at this; exact this⟩, insK_ok HKS.out KL.out, by rw [insK_len]; have := HKL.out; omega⟩)
                    go_wp2_with fail
                    go_roundw
                    case rel => exact ⟨i + 1, by simp, by omega, by rw [HR.out]; exact HN.out, TW17.out.trans HT4.out (by simp)⟩
                    case measure => simp [intOf]; omega
                  · refine step_of_list rfl ?_
                    refine wpList_build1 rtE rfl _ rfl (encE (xL o)) rfl rfl ?_
                    have hS2 := hS.alloc (.cells (encE (xL o)).toArray 30)
                    refine ⟨rfl, hK.out _ _ hS2 (fun _ => ?_)⟩
                    clear hK K hS
                    have hS := hS2
                    clear hS2
                    have HB := Lib.hid (heap_alloc_new W (.cells (encE (xL o)).toArray 30))
                    try simp only [Act.put, List.setIfInBounds_toArray, List.set_cons_zero, List.set_cons_succ]
                    refine wpAnyH_ready (rs := [3]) (by kernel_rfl) (by simp) ?_
                    refine AllReadyH.cons (o := { dst := some 86, op := Op.call { callee := Callee.builtin Builtin.append, args := #[Operand.const (Value.slice none 0 0), Operand.tmp 85], argTypes := #[27, 27] }, type := 27, pos := "trace.go:98", after := #[{ on := 2, ground := Ground.data }], guard := none }) rfl (fun K hK => ?_) AllReadyH.nil
                    refine step_of_list rfl ?_
                    refine wpList_appR rtE (W.alloc (.cells (encE (xL o)).toArray 30)) rfl _ _ (by rfl) (.slice none 0 0) [] rfl (OwnR.nil 30 2 W _) (by simp) b3 (.slice (some ⟨b3, off3, none⟩) p cap3) ((rE ks).take p) rfl ((HRW.out.touch ((Touch.refl [] W).alloc _) (by simp)).take p (by rw [rE_len]; omega)) (fun x hx => encE_lens ks x (List.mem_of_mem_take hx)) (fun u hu => encE_ones ks u (by obtain ⟨x, hx, hu⟩ := List.mem_flatten.1 hu; exact List.mem_flatten.2 ⟨x, List.mem_of_mem_take hx, hu⟩)) (by simp [rE_len]; omega) ?_
                    intro v2 w2 o2 t2
                    have hS2 := hS.trans t2 (by simp [Value.ownBlock])
                    refine ⟨rfl, hK.out _ _ hS2 (fun _ => ?_)⟩
                    clear hK K hS
                    have hS := hS2
                    clear hS2
                    have HO2 := Lib.hid o2
                    have HT2 := Lib.hid (show Touch [] _ w2 from t2)
                    have HB2 := Lib.hid (HT2.out.at HB.out (by simp))
                    try simp only [Act.put, List.setIfInBounds_toArray, List.set_cons_zero, List.set_cons_succ]
                    refine wpAnyH_ready (rs := [6]) (by kernel_rfl) (by simp) ?_
                    refine AllReadyH.cons (o := { dst := some 89, op := Op.call { callee := Callee.builtin Builtin.append, args := #[Operand.tmp 86, Operand.tmp 88], argTypes := #[27, 27] }, type := 27, pos := "trace.go:98", after := #[{ on := 3, ground := Ground.data }, { on := 5, ground := Ground.data }, { on := 3, ground := Ground.chain }], guard := none }) rfl (fun K hK => ?_) AllReadyH.nil
                    refine step_of_list rfl ?_
                    refine wpList_appR rtE _ rfl _ _ (by rfl) v2 ([] ++ (rE ks).take p) rfl HO2.out hS.size _ (.slice (some ⟨W.heap.size, 0, none⟩) 1 1) [encE (xL o)] rfl (Rd.one HB2.out rfl) (by simp [encE]) (encE_ones [xL o]) (by simp [rE_len]; omega) ?_
                    intro v3 w3 o3 t3
                    have hS3 := hS.trans t3 (by intro y hy; right; exact HO2.out.new y (by simpa using hy))
                    refine ⟨rfl, hK.out _ _ hS3 (fun _ => ?_)⟩
                    clear hK K hS
                    have hS := hS3
                    clear hS3
                    have HO3 := Lib.hid o3
                    clear o3
                    try simp only [Act.put, List.setIfInBounds_toArray, List.set_cons_zero, List.set_cons_succ]
                    refine wpAnyH_ready (rs := [10]) (by kernel_rfl) (by simp) ?_
                    refine AllReadyH.cons (o := { dst := some 93, op := Op.call { callee := Callee.builtin Builtin.append, args := #[Operand.tmp 89, Operand.tmp 92], argTypes := #[27, 27] }, type := 27, pos := "trace.go:98", after := #[{ on := 6, ground := Ground.data }, { on := 9, ground := Ground.data }, { on := 6, ground := Ground.chain }], guard := none }) rfl (fun K hK => ?_) AllReadyH.nil
                    refine step_of_list rfl ?_
                    refine wpList_appR rtE w3 rfl _ _ (by rfl) v3 ([] ++ (rE ks).take p ++ [encE (xL o)]) rfl HO3.out hS.size b3 (cutv (some ⟨b3, off3, none⟩) ks.length cap3 p 2) ((rE ks).drop p) rfl ((HRW.out.touch hS (by simp)).drop (P := Try.prog) (T := 0) (e := 0) p (by rw [rE_len]; omega)) (fun x hx => encE_lens ks x (List.mem_of_mem_drop hx)) (fun u hu => encE_ones ks u (by obtain ⟨x, hx, hu⟩ := List.mem_flatten.1 hu; exact List.mem_flatten.2 ⟨x, List.mem_of_mem_drop hx, hu⟩)) (by simp [rE_len]; omega) ?_
                    intro v4 w4' o4 t4
                    have hS3 := hS.trans t4 (by intro y hy; right; exact HO3.out.new y (by simpa using hy))
                    refine ⟨rfl, hK.out _ _ hS3 (fun _ => ?_)⟩
                    clear hK K hS
                    have hS := hS3
                    clear hS3
                    have HO4 := Lib.hid o4
                    clear o4
                    try simp only [Act.put, List.setIfInBounds_toArray, List.set_cons_zero, List.set_cons_succ]
                    refine wpAnyH_take (i := 11) (oi := { dst := some 3, op := Op.assign (Operand.tmp 93), type := 27, pos := "trace.go:98", after := #[{ on := 10, ground := Ground.data }, { on := 10, ground := Ground.chain }, { on := 0, ground := Ground.phase }, { on := 1, ground := Ground.phase }, { on := 2, ground := Ground.phase }, { on := 3, ground := Ground.phase }, { on := 4, ground := Ground.phase }, { on := 5, ground := Ground.phase }, { on := 6, ground := Ground.phase }, { on := 7, ground := Ground.phase }, { on := 8, ground := Ground.phase }, { on := 9, ground := Ground.phase }, { on := 10, ground := Ground.phase }], guard := none }) (v := v4) rfl (by kernel_rfl) (by kernel_rfl) (by kernel_rfl) (fun _ _ _ h => h) (Or.inl ⟨by rfl, fun w' hw => by go_simp⟩) hS ?_
                    try simp only [Act.put, List.setIfInBounds_toArray, List.set_cons_zero, List.set_cons_succ]
                    refine wpAnyH_done (by kernel_rfl) ?_ _
                    try simp only [Act.put, List.setIfInBounds_toArray, List.set_cons_zero, List.set_cons_succ]
                    have HT4 := Lib.hid hS
                    clear hS
                    have HN := Lib.hid (show Lv w4' v4 (insK ks (xL o)) (i + 1) from ⟨⟨_, by have := HO4.out.rd (fun x hx => encE_lens (insK ks (xL o)) x (by rw [← HINS.out] at hx; exact hx)); rw [← HINS.out] at this; exact this⟩, insK_ok HKS.out KL.out, by rw [insK_len]; have := HKL.out; omega⟩)
                    go_wp2_with fail
                    go_roundw
                    case rel => exact ⟨i + 1, by simp, by omega, by rw [HR.out]; exact HN.out, TW17.out.trans HT4.out (by simp)⟩
                    case measure => simp [intOf]; omega
                · have qe : (y.1 == xc) = false := by simp [he]
                  clear hge he
                  go_wp2_with fail
                  go_quiet (fail)
                  go_upto_region 17 with (fail)
                  have HTX := Lib.hid (HTQ.out.drews nq)
                  have hkp : k = placeK ks (xL o) := by omega
                  have TW17 := Lib.hid (((TC.out.trans HTX.out (by simp))).drew)
                  have FX := Lib.hid ((HTX.out.drew).at F5.out (by simp))
                  have HRW := Lib.hid (HRK.out.touch (HTX.out.drew) (by simp))
                  have HINS := Lib.hid (show (insK ks (xL o)).map encE = [] ++ (rE ks).take k ++ [encE (xL o)] ++ (rE ks).drop k by rw [hkp]; simp [insK, rE, List.map_take, List.map_drop])
                  obtain ⟨p, hp⟩ : ∃ p, p = k := ⟨_, rfl⟩
                  rw [← hp] at HINS ⊢
                  have hpl : p ≤ ks.length := by have := placeK_le ks (xL o); omega
                  have hpc : (p : Int) ≤ (cap3 : Int) := by omega
                  have hkl := HKL.out
                  clear hp hkp hkin
                  refine wp_region_held (S := Touch [] (wr.drewN nq).drew) (by kernel_rfl) ?_
                  change wpAnyH _ _ _ _ _ _ _ _ (wr.drewN nq).drew
                  generalize (wr.drewN nq).drew = W at *
                  have hS := Touch.refl [] W
                  refine wpAnyH_take (i := 0) (oi := { dst := some 83, op := Op.move (Operand.tmp 3), type := 27, pos := "trace.go:98", after := #[], guard := none }) (v := .slice (some ⟨b3, off3, none⟩) ks.length cap3) rfl (by kernel_rfl) (by kernel_rfl) (by kernel_rfl) (fun _ _ _ h => h) (Or.inl ⟨by rfl, fun w' hw => by go_simp⟩) hS ?_
                  try simp only [Act.put, List.setIfInBounds_toArray, List.set_cons_zero, List.set_cons_succ]
                  refine wpAnyH_take (i := 1) (oi := { dst := some 84, op := Op.move (Operand.tmp 6), type := 3, pos := "trace.go:98", after := #[], guard := none }) (v := .int .i64 (p : Nat)) rfl (by kernel_rfl) (by kernel_rfl) (by kernel_rfl) (fun _ _ _ h => h) (Or.inl ⟨by rfl, fun w' hw => by go_simp⟩) hS ?_
                  try simp only [Act.put, List.setIfInBounds_toArray, List.set_cons_zero, List.set_cons_succ]
                  refine wpAnyH_take (i := 2) (oi := { dst := some 85, op := Op.slice 27 (Operand.tmp 83) none (some (Operand.tmp 84)) none, type := 27, pos := "trace.go:98", after := #[{ on := 0, ground := Ground.data }, { on := 1, ground := Ground.data }], guard := none }) (v := .slice (some ⟨b3, off3, none⟩) p cap3) rfl (by kernel_rfl) (by kernel_rfl) (by kernel_rfl) (fun _ _ _ h => h) (Or.inl ⟨by rfl, fun w' hw => by go_simp⟩) hS ?_
                  try simp only [Act.put, List.setIfInBounds_toArray, List.set_cons_zero, List.set_cons_succ]
                  refine wpAnyH_take (i := 4) (oi := { dst := some 87, op := Op.load 30 (Operand.tmp 5), type := 30, pos := "trace.go:98", after := #[], guard := none }) (v := .agg (encE (xL o)).toArray) rfl (by kernel_rfl) (by kernel_rfl) (by kernel_rfl) (fun _ _ _ h => h) (Or.inl ⟨by rfl, fun w' hw => exec_load_agg _ 30 _ rfl _ _ rfl (encE (xL o)) _ (hw.range (range_block FX.out) (by simp)) Try.underlying30 rfl (by rw [infoE]; rfl)⟩) hS ?_
                  try simp only [Act.put, List.setIfInBounds_toArray, List.set_cons_zero, List.set_cons_succ]
                  refine wpAnyH_take (i := 7) (oi := { dst := some 90, op := Op.move (Operand.tmp 3), type := 27, pos := "trace.go:98", after := #[], guard := none }) (v := .slice (some ⟨b3, off3, none⟩) ks.length cap3) rfl (by kernel_rfl) (by kernel_rfl) (by kernel_rfl) (fun _ _ _ h => h) (Or.inl ⟨by rfl, fun w' hw => by go_simp⟩) hS ?_
                  try simp only [Act.put, List.setIfInBounds_toArray, List.set_cons_zero, List.set_cons_succ]
                  refine wpAnyH_take (i := 8) (oi := { dst := some 91, op := Op.move (Operand.tmp 6), type := 3, pos := "trace.go:98", after := #[], guard := none }) (v := .int .i64 (p : Nat)) rfl (by kernel_rfl) (by kernel_rfl) (by kernel_rfl) (fun _ _ _ h => h) (Or.inl ⟨by rfl, fun w' hw => by go_simp⟩) hS ?_
                  try simp only [Act.put, List.setIfInBounds_toArray, List.set_cons_zero, List.set_cons_succ]
                  refine wpAnyH_take (i := 9) (oi := { dst := some 92, op := Op.slice 27 (Operand.tmp 90) (some (Operand.tmp 91)) none none, type := 27, pos := "trace.go:98", after := #[{ on := 7, ground := Ground.data }, { on := 8, ground := Ground.data }], guard := none }) (v := cutv (some ⟨b3, off3, none⟩) ks.length cap3 p 2) rfl (by kernel_rfl) (by kernel_rfl) (by kernel_rfl) (fun _ _ _ h => h) (yieldsIf_from (by rfl) 27 _ _ rfl 30 2 Try.underlying27 infoE (some ⟨b3, off3, none⟩) ks.length cap3 p rfl rfl (by omega)) hS ?_
                  try simp only [Act.put, List.setIfInBounds_toArray, List.set_cons_zero, List.set_cons_succ]
                  refine wpAnyH_ready (rs := [3, 5]) (by kernel_rfl) (by simp) ?_
                  refine AllReadyH.cons (o := { dst := some 86, op := Op.call { callee := Callee.builtin Builtin.append, args := #[Operand.const (Value.slice none 0 0), Operand.tmp 85], argTypes := #[27, 27] }, type := 27, pos := "trace.go:98", after := #[{ on := 2, ground := Ground.data }], guard := none }) rfl (fun K hK => ?_) (AllReadyH.cons (o := { dst := some 88, op := Op.buildSlice 27 1 #[(0, Operand.tmp 87)], type := 27, pos := "trace.go:98", after := #[{ on := 4, ground := Ground.data }], guard := none }) rfl (fun K hK => ?_) AllReadyH.nil)
                  · refine step_of_list rfl ?_
                    refine wpList_appR rtE W rfl _ _ (by rfl) (.slice none 0 0) [] rfl (OwnR.nil 30 2 W _) (Nat.le_refl _) b3 (.slice (some ⟨b3, off3, none⟩) p cap3) ((rE ks).take p) rfl (HRW.out.take p (by rw [rE_len]; omega)) (fun x hx => encE_lens ks x (List.mem_of_mem_take hx)) (fun u hu => encE_ones ks u (by obtain ⟨x, hx, hu⟩ := List.mem_flatten.1 hu; exact List.mem_flatten.2 ⟨x, List.mem_of_mem_take hx, hu⟩)) (by simp [rE_len]; omega) ?_
                    intro v2 w2 o2 t2
                    have hS2 := hS.trans t2 (by simp [Value.ownBlock])
                    refine ⟨rfl, hK.out _ _ hS2 (fun _ => ?_)⟩
                    clear hK K hS
                    have hS := hS2
                    clear hS2
                    have HO2 := Lib.hid o2
                    have HT2 := Lib.hid (show Touch [] _ w2 from t2)
                    try simp only [Act.put, List.setIfInBounds_toArray, List.set_cons_zero, List.set_cons_succ]
                    refine wpAnyH_ready (rs := [5]) (by kernel_rfl) (by simp) ?_
                    refine AllReadyH.cons (o := { dst := some 88, op := Op.buildSlice 27 1 #[(0, Operand.tmp 87)], type := 27, pos := "trace.go:98", after := #[{ on := 4, ground := Ground.data }], guard := none }) rfl (fun K hK => ?_) AllReadyH.nil
                    refine step_of_list rfl ?_
                    refine wpList_build1 rtE rfl _ rfl (encE (xL o)) rfl rfl ?_
                    have hS2 := hS.alloc (.cells (encE (xL o)).toArray 30)
                    refine ⟨rfl, hK.out _ _ hS2 (fun _ => ?_)⟩
                    clear hK K hS
                    have hS := hS2
                    clear hS2
                    have HB2 := Lib.hid (heap_alloc_new w2 (.cells (encE (xL o)).toArray 30))
                    have HO2 := Lib.hid (HO2.out.touch0 ((Touch.refl [] w2).alloc (.cells (encE (xL o)).toArray 30)))
                    try simp only [Act.put, List.setIfInBounds_toArray, List.set_cons_zero, List.set_cons_succ]
                    refine wpAnyH_ready (rs := [6]) (by kernel_rfl) (by simp) ?_
                    refine AllReadyH.cons (o := { dst := some 89, op := Op.call { callee := Callee.builtin Builtin.append, args := #[Operand.tmp 86, Operand.tmp 88], argTypes := #[27, 27] }, type := 27, pos := "trace.go:98", after := #[{ on := 3, ground := Ground.data }, { on := 5, ground := Ground.data }, { on := 3, ground := Ground.chain }], guard := none }) rfl (fun K hK => ?_) AllReadyH.nil
                    refine step_of_list rfl ?_
                    refine wpList_appR rtE _ rfl _ _ (by rfl) v2 ([] ++ (rE ks).take p) rfl HO2.out hS.size _ (.slice (some ⟨w2.heap.size, 0, none⟩) 1 1) [encE (xL o)] rfl (Rd.one HB2.out rfl) (by simp [encE]) (encE_ones [xL o]) (by simp [rE_len]; omega) ?_
                    intro v3 w3 o3 t3
                    have hS3 := hS.trans t3 (by intro y hy; right; exact HO2.out.new y (by simpa using hy))
                    refine ⟨rfl, hK.out _ _ hS3 (fun _ => ?_)⟩
                    clear hK K hS
                    have hS := hS3
                    clear hS3
                    have HO3 := Lib.hid o3
                    clear o3
                    try simp only [Act.put, List.setIfInBounds_toArray, List.set_cons_zero, List.set_cons_succ]
                    refine wpAnyH_ready (rs := [10]) (by kernel_rfl) (by simp) ?_
                    refine AllReadyH.cons (o := { dst := some 93, op := Op.call { callee := Callee.builtin Builtin.append, args := #[Operand.tmp 89, Operand.tmp 92], argTypes := #[27, 27] }, type := 27, pos := "trace.go:98", after := #[{ on := 6, ground := Ground.data }, { on := 9, ground := Ground.data }, { on := 6, ground := Ground.chain }], guard := none }) rfl (fun K hK => ?_) AllReadyH.nil
                    refine step_of_list rfl ?_
                    refine wpList_appR rtE w3 rfl _ _ (by rfl) v3 ([] ++ (rE ks).take p ++ [encE (xL o)]) rfl HO3.out hS.size b3 (cutv (some ⟨b3, off3, none⟩) ks.length cap3 p 2) ((rE ks).drop p) rfl ((HRW.out.touch hS (by simp)).drop (P := Try.prog) (T := 0) (e := 0) p (by rw [rE_len]; omega)) (fun x hx => encE_lens ks x (List.mem_of_mem_drop hx)) (fun u hu => encE_ones ks u (by obtain ⟨x, hx, hu⟩ := List.mem_flatten.1 hu; exact List.mem_flatten.2 ⟨x, List.mem_of_mem_drop hx, hu⟩)) (by simp [rE_len]; omega) ?_
                    intro v4 w4' o4 t4
                    have hS3 := hS.trans t4 (by intro y hy; right; exact HO3.out.new y (by simpa using hy))
                    refine ⟨rfl, hK.out _ _ hS3 (fun _ => ?_)⟩
                    clear hK K hS
                    have hS := hS3
                    clear hS3
                    have HO4 := Lib.hid o4
                    clear o4
                    try simp only [Act.put, List.setIfInBounds_toArray, List.set_cons_zero, List.set_cons_succ]
                    refine wpAnyH_take (i := 11) (oi := { dst := some 3, op := Op.assign (Operand.tmp 93), type := 27, pos := "trace.go:98", after := #[{ on := 10, ground := Ground.data }, { on := 10, ground := Ground.chain }, { on := 0, ground := Ground.phase }, { on := 1, ground := Ground.phase }, { on := 2, ground := Ground.phase }, { on := 3, ground := Ground.phase }, { on := 4, ground := Ground.phase }, { on := 5, ground := Ground.phase }, { on := 6, ground := Ground.phase }, { on := 7, ground := Ground.phase }, { on := 8, ground := Ground.phase }, { on := 9, ground := Ground.phase }, { on := 10, ground := Ground.phase }], guard := none }) (v := v4) rfl (by kernel_rfl) (by kernel_rfl) (by kernel_rfl) (fun _ _ _ h => h) (Or.inl ⟨by rfl, fun w' hw => by go_simp⟩) hS ?_
                    try simp only [Act.put, List.setIfInBounds_toArray, List.set_cons_zero, List.set_cons_succ]
                    refine wpAnyH_done (by kernel_rfl) ?_ _
                    try simp only [Act.put, List.setIfInBounds_toArray, List.set_cons_zero, List.set_cons_succ]
                    have HT4 := Lib.hid hS
                    clear hS
                    have HN := Lib.hid (show Lv w4' v4 (insK ks (xL o)) (i + 1) from ⟨⟨_, by have := HO4.out.rd (fun x hx => encE_lens (insK ks (xL o)) x (by rw [← HINS.out] at hx; exact hx)); rw [← HINS.out] at this; exact this⟩, insK_ok HKS.out KL.out, by rw [insK_len]; have := HKL.out; omega⟩)
                    go_wp2_with fail
                    go_roundw
                    case rel => exact ⟨i + 1, by simp, by omega, by rw [HR.out]; exact HN.out, TW17.out.trans HT4.out (by simp)⟩
                    case measure => simp [intOf]; omega
                  · refine step_of_list rfl ?_
                    refine wpList_build1 rtE rfl _ rfl (encE (xL o)) rfl rfl ?_
                    have hS2 := hS.alloc (.cells (encE (xL o)).toArray 30)
                    refine ⟨rfl, hK.out _ _ hS2 (fun _ => ?_)⟩
                    clear hK K hS
                    have hS := hS2
                    clear hS2
                    have HB := Lib.hid (heap_alloc_new W (.cells (encE (xL o)).toArray 30))
                    try simp only [Act.put, List.setIfInBounds_toArray, List.set_cons_zero, List.set_cons_succ]
                    refine wpAnyH_ready (rs := [3]) (by kernel_rfl) (by simp) ?_
                    refine AllReadyH.cons (o := { dst := some 86, op := Op.call { callee := Callee.builtin Builtin.append, args := #[Operand.const (Value.slice none 0 0), Operand.tmp 85], argTypes := #[27, 27] }, type := 27, pos := "trace.go:98", after := #[{ on := 2, ground := Ground.data }], guard := none }) rfl (fun K hK => ?_) AllReadyH.nil
                    refine step_of_list rfl ?_
                    refine wpList_appR rtE (W.alloc (.cells (encE (xL o)).toArray 30)) rfl _ _ (by rfl) (.slice none 0 0) [] rfl (OwnR.nil 30 2 W _) (by simp) b3 (.slice (some ⟨b3, off3, none⟩) p cap3) ((rE ks).take p) rfl ((HRW.out.touch ((Touch.refl [] W).alloc _) (by simp)).take p (by rw [rE_len]; omega)) (fun x hx => encE_lens ks x (List.mem_of_mem_take hx)) (fun u hu => encE_ones ks u (by obtain ⟨x, hx, hu⟩ := List.mem_flatten.1 hu; exact List.mem_flatten.2 ⟨x, List.mem_of_mem_take hx, hu⟩)) (by simp [rE_len]; omega) ?_
                    intro v2 w2 o2 t2
                    have hS2 := hS.trans t2 (by simp [Value.ownBlock])
                    refine ⟨rfl, hK.out _ _ hS2 (fun _ => ?_)⟩
                    clear hK K hS
                    have hS := hS2
                    clear hS2
                    have HO2 := Lib.hid o2
                    have HT2 := Lib.hid (show Touch [] _ w2 from t2)
                    have HB2 := Lib.hid (HT2.out.at HB.out (by simp))
                    try simp only [Act.put, List.setIfInBounds_toArray, List.set_cons_zero, List.set_cons_succ]
                    refine wpAnyH_ready (rs := [6]) (by kernel_rfl) (by simp) ?_
                    refine AllReadyH.cons (o := { dst := some 89, op := Op.call { callee := Callee.builtin Builtin.append, args := #[Operand.tmp 86, Operand.tmp 88], argTypes := #[27, 27] }, type := 27, pos := "trace.go:98", after := #[{ on := 3, ground := Ground.data }, { on := 5, ground := Ground.data }, { on := 3, ground := Ground.chain }], guard := none }) rfl (fun K hK => ?_) AllReadyH.nil
                    refine step_of_list rfl ?_
                    refine wpList_appR rtE _ rfl _ _ (by rfl) v2 ([] ++ (rE ks).take p) rfl HO2.out hS.size _ (.slice (some ⟨W.heap.size, 0, none⟩) 1 1) [encE (xL o)] rfl (Rd.one HB2.out rfl) (by simp [encE]) (encE_ones [xL o]) (by simp [rE_len]; omega) ?_
                    intro v3 w3 o3 t3
                    have hS3 := hS.trans t3 (by intro y hy; right; exact HO2.out.new y (by simpa using hy))
                    refine ⟨rfl, hK.out _ _ hS3 (fun _ => ?_)⟩
                    clear hK K hS
                    have hS := hS3
                    clear hS3
                    have HO3 := Lib.hid o3
                    clear o3
                    try simp only [Act.put, List.setIfInBounds_toArray, List.set_cons_zero, List.set_cons_succ]
                    refine wpAnyH_ready (rs := [10]) (by kernel_rfl) (by simp) ?_
                    refine AllReadyH.cons (o := { dst := some 93, op := Op.call { callee := Callee.builtin Builtin.append, args := #[Operand.tmp 89, Operand.tmp 92], argTypes := #[27, 27] }, type := 27, pos := "trace.go:98", after := #[{ on := 6, ground := Ground.data }, { on := 9, ground := Ground.data }, { on := 6, ground := Ground.chain }], guard := none }) rfl (fun K hK => ?_) AllReadyH.nil
                    refine step_of_list rfl ?_
                    refine wpList_appR rtE w3 rfl _ _ (by rfl) v3 ([] ++ (rE ks).take p ++ [encE (xL o)]) rfl HO3.out hS.size b3 (cutv (some ⟨b3, off3, none⟩) ks.length cap3 p 2) ((rE ks).drop p) rfl ((HRW.out.touch hS (by simp)).drop (P := Try.prog) (T := 0) (e := 0) p (by rw [rE_len]; omega)) (fun x hx => encE_lens ks x (List.mem_of_mem_drop hx)) (fun u hu => encE_ones ks u (by obtain ⟨x, hx, hu⟩ := List.mem_flatten.1 hu; exact List.mem_flatten.2 ⟨x, List.mem_of_mem_drop hx, hu⟩)) (by simp [rE_len]; omega) ?_
                    intro v4 w4' o4 t4
                    have hS3 := hS.trans t4 (by intro y hy; right; exact HO3.out.new y (by simpa using hy))
                    refine ⟨rfl, hK.out _ _ hS3 (fun _ => ?_)⟩
                    clear hK K hS
                    have hS := hS3
                    clear hS3
                    have HO4 := Lib.hid o4
                    clear o4
                    try simp only [Act.put, List.setIfInBounds_toArray, List.set_cons_zero, List.set_cons_succ]
                    refine wpAnyH_take (i := 11) (oi := { dst := some 3, op := Op.assign (Operand.tmp 93), type := 27, pos := "trace.go:98", after := #[{ on := 10, ground := Ground.data }, { on := 10, ground := Ground.chain }, { on := 0, ground := Ground.phase }, { on := 1, ground := Ground.phase }, { on := 2, ground := Ground.phase }, { on := 3, ground := Ground.phase }, { on := 4, ground := Ground.phase }, { on := 5, ground := Ground.phase }, { on := 6, ground := Ground.phase }, { on := 7, ground := Ground.phase }, { on := 8, ground := Ground.phase }, { on := 9, ground := Ground.phase }, { on := 10, ground := Ground.phase }], guard := none }) (v := v4) rfl (by kernel_rfl) (by kernel_rfl) (by kernel_rfl) (fun _ _ _ h => h) (Or.inl ⟨by rfl, fun w' hw => by go_simp⟩) hS ?_
                    try simp only [Act.put, List.setIfInBounds_toArray, List.set_cons_zero, List.set_cons_succ]
                    refine wpAnyH_done (by kernel_rfl) ?_ _
                    try simp only [Act.put, List.setIfInBounds_toArray, List.set_cons_zero, List.set_cons_succ]
                    have HT4 := Lib.hid hS
                    clear hS
                    have HN := Lib.hid (show Lv w4' v4 (insK ks (xL o)) (i + 1) from ⟨⟨_, by have := HO4.out.rd (fun x hx => encE_lens (insK ks (xL o)) x (by rw [← HINS.out] at hx; exact hx)); rw [← HINS.out] at this; exact this⟩, insK_ok HKS.out KL.out, by rw [insK_len]; have := HKL.out; omega⟩)
                    go_wp2_with fail
                    go_roundw
                    case rel => exact ⟨i + 1, by simp, by omega, by rw [HR.out]; exact HN.out, TW17.out.trans HT4.out (by simp)⟩
                    case measure => simp [intOf]; omega
            · have hb3 : ¬ (k : Int) < (ks.length : Int) := by omega
              have hkp2 := placeK_le ks (xL o)
              go_wp2_with fail
              go_quiet (fail)
              go_upto_region 17 with (fail)
              have HTX := Lib.hid (HTQ.out.drews nq)
              have hkp : k = placeK ks (xL o) := by omega
              have TW17 := Lib.hid (((TC.out.trans HTX.out (by simp))).drew)
              have FX := Lib.hid ((HTX.out.drew).at F5.out (by simp))
              have HRW := Lib.hid (HRK.out.touch (HTX.out.drew) (by simp))
              have HINS := Lib.hid (show (insK ks (xL o)).map encE = [] ++ (rE ks).take k ++ [encE (xL o)] ++ (rE ks).drop k by rw [hkp]; simp [insK, rE, List.map_take, List.map_drop])
              obtain ⟨p, hp⟩ : ∃ p, p = k := ⟨_, rfl⟩
              rw [← hp] at HINS ⊢
              have hpl : p ≤ ks.length := by have := placeK_le ks (xL o); omega
              have hpc : (p : Int) ≤ (cap3 : Int) := by omega
              have hkl := HKL.out
              clear hp hkp hkin
              refine wp_region_held (S := Touch [] (wr.drewN nq).drew) (by kernel_rfl) ?_
              change wpAnyH _ _ _ _ _ _ _ _ (wr.drewN nq).drew
              generalize (wr.drewN nq).drew = W at *
              have hS := Touch.refl [] W
              refine wpAnyH_take (i := 0) (oi := { dst := some 83, op := Op.move (Operand.tmp 3), type := 27, pos := "trace.go:98", after := #[], guard := none }) (v := .slice a3 ks.length cap3) rfl (by kernel_rfl) (by kernel_rfl) (by kernel_rfl) (fun _ _ _ h => h) (Or.inl ⟨by rfl, fun w' hw => by go_simp⟩) hS ?_
              try simp only [Act.put, List.setIfInBounds_toArray, List.set_cons_zero, List.set_cons_succ]
              refine wpAnyH_take (i := 1) (oi := { dst := some 84, op := Op.move (Operand.tmp 6), type := 3, pos := "trace.go:98", after := #[], guard := none }) (v := .int .i64 (p : Nat)) rfl (by kernel_rfl) (by kernel_rfl) (by kernel_rfl) (fun _ _ _ h => h) (Or.inl ⟨by rfl, fun w' hw => by go_simp⟩) hS ?_
              try simp only [Act.put, List.setIfInBounds_toArray, List.set_cons_zero, List.set_cons_succ]
              refine wpAnyH_take (i := 2) (oi := { dst := some 85, op := Op.slice 27 (Operand.tmp 83) none (some (Operand.tmp 84)) none, type := 27, pos := "trace.go:98", after := #[{ on := 0, ground := Ground.data }, { on := 1, ground := Ground.data }], guard := none }) (v := .slice a3 p cap3) rfl (by kernel_rfl) (by kernel_rfl) (by kernel_rfl) (fun _ _ _ h => h) (Or.inl ⟨by rfl, fun w' hw => by go_simp⟩) hS ?_
              try simp only [Act.put, List.setIfInBounds_toArray, List.set_cons_zero, List.set_cons_succ]
              refine wpAnyH_take (i := 4) (oi := { dst := some 87, op := Op.load 30 (Operand.tmp 5), type := 30, pos := "trace.go:98", after := #[], guard := none }) (v := .agg (encE (xL o)).toArray) rfl (by kernel_rfl) (by kernel_rfl) (by kernel_rfl) (fun _ _ _ h => h) (Or.inl ⟨by rfl, fun w' hw => exec_load_agg _ 30 _ rfl _ _ rfl (encE (xL o)) _ (hw.range (range_block FX.out) (by simp)) Try.underlying30 rfl (by rw [infoE]; rfl)⟩) hS ?_
              try simp only [Act.put, List.setIfInBounds_toArray, List.set_cons_zero, List.set_cons_succ]
              refine wpAnyH_take (i := 7) (oi := { dst := some 90, op := Op.move (Operand.tmp 3), type := 27, pos := "trace.go:98", after := #[], guard := none }) (v := .slice a3 ks.length cap3) rfl (by kernel_rfl) (by kernel_rfl) (by kernel_rfl) (fun _ _ _ h => h) (Or.inl ⟨by rfl, fun w' hw => by go_simp⟩) hS ?_
              try simp only [Act.put, List.setIfInBounds_toArray, List.set_cons_zero, List.set_cons_succ]
              refine wpAnyH_take (i := 8) (oi := { dst := some 91, op := Op.move (Operand.tmp 6), type := 3, pos := "trace.go:98", after := #[], guard := none }) (v := .int .i64 (p : Nat)) rfl (by kernel_rfl) (by kernel_rfl) (by kernel_rfl) (fun _ _ _ h => h) (Or.inl ⟨by rfl, fun w' hw => by go_simp⟩) hS ?_
              try simp only [Act.put, List.setIfInBounds_toArray, List.set_cons_zero, List.set_cons_succ]
              refine wpAnyH_take (i := 9) (oi := { dst := some 92, op := Op.slice 27 (Operand.tmp 90) (some (Operand.tmp 91)) none none, type := 27, pos := "trace.go:98", after := #[{ on := 7, ground := Ground.data }, { on := 8, ground := Ground.data }], guard := none }) (v := cutv a3 ks.length cap3 p 2) rfl (by kernel_rfl) (by kernel_rfl) (by kernel_rfl) (fun _ _ _ h => h) (yieldsIf_from (by rfl) 27 _ _ rfl 30 2 Try.underlying27 infoE a3 ks.length cap3 p rfl rfl (by omega)) hS ?_
              try simp only [Act.put, List.setIfInBounds_toArray, List.set_cons_zero, List.set_cons_succ]
              refine wpAnyH_ready (rs := [3, 5]) (by kernel_rfl) (by simp) ?_
              refine AllReadyH.cons (o := { dst := some 86, op := Op.call { callee := Callee.builtin Builtin.append, args := #[Operand.const (Value.slice none 0 0), Operand.tmp 85], argTypes := #[27, 27] }, type := 27, pos := "trace.go:98", after := #[{ on := 2, ground := Ground.data }], guard := none }) rfl (fun K hK => ?_) (AllReadyH.cons (o := { dst := some 88, op := Op.buildSlice 27 1 #[(0, Operand.tmp 87)], type := 27, pos := "trace.go:98", after := #[{ on := 4, ground := Ground.data }], guard := none }) rfl (fun K hK => ?_) AllReadyH.nil)
              · refine step_of_list rfl ?_
                refine wpList_appR rtE W rfl _ _ (by rfl) (.slice none 0 0) [] rfl (OwnR.nil 30 2 W _) (Nat.le_refl _) b3 (.slice a3 p cap3) ((rE ks).take p) rfl (HRW.out.take p (by rw [rE_len]; omega)) (fun x hx => encE_lens ks x (List.mem_of_mem_take hx)) (fun u hu => encE_ones ks u (by obtain ⟨x, hx, hu⟩ := List.mem_flatten.1 hu; exact List.mem_flatten.2 ⟨x, List.mem_of_mem_take hx, hu⟩)) (by simp [rE_len]; omega) ?_
                intro v2 w2 o2 t2
                have hS2 := hS.trans t2 (by simp [Value.ownBlock])
                refine ⟨rfl, hK.out _ _ hS2 (fun _ => ?_)⟩
                clear hK K hS
                have hS := hS2
                clear hS2
                have HO2 := Lib.hid o2
                have HT2 := Lib.hid (show Touch [] _ w2 from t2)
                try simp only [Act.put, List.setIfInBounds_toArray, List.set_cons_zero, List.set_cons_succ]
                refine wpAnyH_ready (rs := [5]) (by kernel_rfl) (by simp) ?_
                refine AllReadyH.cons (o := { dst := some 88, op := Op.buildSlice 27 1 #[(0, Operand.tmp 87)], type := 27, pos := "trace.go:98", after := #[{ on := 4, ground := Ground.data }], guard := none }) rfl (fun K hK => ?_) AllReadyH.nil
                refine step_of_list rfl ?_
                refine wpList_build1 rtE rfl _ rfl (encE (xL o)) rfl rfl ?_
                have hS2 := hS.alloc (.cells (encE (xL o)).toArray 30)
                refine ⟨rfl, hK.out _ _ hS2 (fun _ => ?_)⟩
                clear hK K hS
                have hS := hS2
                clear hS2
                have HB2 := Lib.hid (heap_alloc_new w2 (.cells (encE (xL o)).toArray 30))
                have HO2 := Lib.hid (HO2.out.touch0 ((Touch.refl [] w2).alloc (.cells (encE (xL o)).toArray 30)))
                try simp only [Act.put, List.setIfInBounds_toArray, List.set_cons_zero, List.set_cons_succ]
                refine wpAnyH_ready (rs := [6]) (by kernel_rfl) (by simp) ?_
                refine AllReadyH.cons (o := { dst := some 89, op := Op.call { callee := Callee.builtin Builtin.append, args := #[Operand.tmp 86, Operand.tmp 88], argTypes := #[27, 27] }, type := 27, pos := "trace.go:98", after := #[{ on := 3, ground := Ground.data }, { on := 5, ground := Ground.data }, { on := 3, ground := Ground.chain }], guard := none }) rfl (fun K hK => ?_) AllReadyH.nil
                refine step_of_list rfl ?_
                refine wpList_appR rtE _ rfl _ _ (by rfl) v2 ([] ++ (rE ks).take p) rfl HO2.out hS.size _ (.slice (some ⟨w2.heap.size, 0, none⟩) 1 1) [encE (xL o)] rfl (Rd.one HB2.out rfl) (by simp [encE]) (encE_ones [xL o]) (by simp [rE_len]; omega) ?_
                intro v3 w3 o3 t3
                have hS3 := hS.trans t3 (by intro y hy; right; exact HO2.out.new y (by simpa using hy))
                refine ⟨rfl, hK.out _ _ hS3 (fun _ => ?_)⟩
                clear hK K hS
                have hS := hS3
                clear hS3
                have HO3 := Lib.hid o3
                clear o3
                try simp only [Act.put, List.setIfInBounds_toArray, List.set_cons_zero, List.set_cons_succ]
                refine wpAnyH_ready (rs := [10]) (by kernel_rfl) (by simp) ?_
                refine AllReadyH.cons (o := { dst := some 93, op := Op.call { callee := Callee.builtin Builtin.append, args := #[Operand.tmp 89, Operand.tmp 92], argTypes := #[27, 27] }, type := 27, pos := "trace.go:98", after := #[{ on := 6, ground := Ground.data }, { on := 9, ground := Ground.data }, { on := 6, ground := Ground.chain }], guard := none }) rfl (fun K hK => ?_) AllReadyH.nil
                refine step_of_list rfl ?_
                refine wpList_appR rtE w3 rfl _ _ (by rfl) v3 ([] ++ (rE ks).take p ++ [encE (xL o)]) rfl HO3.out hS.size b3 (cutv a3 ks.length cap3 p 2) ((rE ks).drop p) rfl ((HRW.out.touch hS (by simp)).drop (P := Try.prog) (T := 0) (e := 0) p (by rw [rE_len]; omega)) (fun x hx => encE_lens ks x (List.mem_of_mem_drop hx)) (fun u hu => encE_ones ks u (by obtain ⟨x, hx, hu⟩ := List.mem_flatten.1 hu; exact List.mem_flatten.2 ⟨x, List.mem_of_mem_drop hx, hu⟩)) (by simp [rE_len]; omega) ?_
                intro v4 w4' o4 t4
                have hS3 := hS.trans t4 (by intro y hy; right; exact HO3.out.new y (by simpa using hy))
                refine ⟨rfl, hK.out _ _ hS3 (fun _ => ?_)⟩
                clear hK K hS
                have hS := hS3
                clear hS3
                have HO4 := Lib.hid o4
                clear o4
                try simp only [Act.put, List.setIfInBounds_toArray, List.set_cons_zero, List.set_cons_succ]
                refine wpAnyH_take (i := 11) (oi := { dst := some 3, op := Op.assign (Operand.tmp 93), type := 27, pos := "trace.go:98", after := #[{ on := 10, ground := Ground.data }, { on := 10, ground := Ground.chain }, { on := 0, ground := Ground.phase }, { on := 1, ground := Ground.phase }, { on := 2, ground := Ground.phase }, { on := 3, ground := Ground.phase }, { on := 4, ground := Ground.phase }, { on := 5, ground := Ground.phase }, { on := 6, ground := Ground.phase }, { on := 7, ground := Ground.phase }, { on := 8, ground := Ground.phase }, { on := 9, ground := Ground.phase }, { on := 10, ground := Ground.phase }], guard := none }) (v := v4) rfl (by kernel_rfl) (by kernel_rfl) (by kernel_rfl) (fun _ _ _ h => h) (Or.inl ⟨by rfl, fun w' hw => by go_simp⟩) hS ?_
                try simp only [Act.put, List.setIfInBounds_toArray, List.set_cons_zero, List.set_cons_succ]
                refine wpAnyH_done (by kernel_rfl) ?_ _
                try simp only [Act.put, List.setIfInBounds_toArray, List.set_cons_zero, List.set_cons_succ]
                have HT4 := Lib.hid hS
                clear hS
                have HN := Lib.hid (show Lv w4' v4 (insK ks (xL o)) (i + 1) from ⟨⟨_, by have := HO4.out.rd (fun x hx => encE_lens (insK ks (xL o)) x (by rw [← HINS.out] at hx; exact hx)); rw [← HINS.out] at this; exact this⟩, insK_ok HKS.out KL.out, by rw [insK_len]; have := HKL.out; omega⟩)
                go_wp2_with fail
                go_roundw
                case rel => exact ⟨i + 1, by simp, by omega, by rw [HR.out]; exact HN.out, TW17.out.trans HT4.out (by simp)⟩
                case measure => simp [intOf]; omega
              · refine step_of_list rfl ?_
                refine wpList_build1 rtE rfl _ rfl (encE (xL o)) rfl rfl ?_
                have hS2 := hS.alloc (.cells (encE (xL o)).toArray 30)
                refine ⟨rfl, hK.out _ _ hS2 (fun _ => ?_)⟩
                clear hK K hS
                have hS := hS2
                clear hS2
                have HB := Lib.hid (heap_alloc_new W (.cells (encE (xL o)).toArray 30))
                try simp only [Act.put, List.setIfInBounds_toArray, List.set_cons_zero, List.set_cons_succ]
                refine wpAnyH_ready (rs := [3]) (by kernel_rfl) (by simp) ?_
                refine AllReadyH.cons (o := { dst := some 86, op := Op.call { callee := Callee.builtin Builtin.append, args := #[Operand.const (Value.slice none 0 0), Operand.tmp 85], argTypes := #[27, 27] }, type := 27, pos := "trace.go:98", after := #[{ on := 2, ground := Ground.data }], guard := none }) rfl (fun K hK => ?_) AllReadyH.nil
                refine step_of_list rfl ?_
                refine wpList_appR rtE (W.alloc (.cells (encE (xL o)).toArray 30)) rfl _ _ (by rfl) (.slice none 0 0) [] rfl (OwnR.nil 30 2 W _) (by simp) b3 (.slice a3 p cap3) ((rE ks).take p) rfl ((HRW.out.touch ((Touch.refl [] W).alloc _) (by simp)).take p (by rw [rE_len]; omega)) (fun x hx => encE_lens ks x (List.mem_of_mem_take hx)) (fun u hu => encE_ones ks u (by obtain ⟨x, hx, hu⟩ := List.mem_flatten.1 hu; exact List.mem_flatten.2 ⟨x, List.mem_of_mem_take hx, hu⟩)) (by simp [rE_len]; omega) ?_
                intro v2 w2 o2 t2
                have hS2 := hS.trans t2 (by simp [Value.ownBlock])
                refine ⟨rfl, hK.out _ _ hS2 (fun _ => ?_)⟩
                clear hK K hS
                have hS := hS2
                clear hS2
                have HO2 := Lib.hid o2
                have HT2 := Lib.hid (show Touch [] _ w2 from t2)
                have HB2 := Lib.hid (HT2.out.at HB.out (by simp))
                try simp only [Act.put, List.setIfInBounds_toArray, List.set_cons_zero, List.set_cons_succ]
                refine wpAnyH_ready (rs := [6]) (by kernel_rfl) (by simp) ?_
                refine AllReadyH.cons (o := { dst := some 89, op := Op.call { callee := Callee.builtin Builtin.append, args := #[Operand.tmp 86, Operand.tmp 88], argTypes := #[27, 27] }, type := 27, pos := "trace.go:98", after := #[{ on := 3, ground := Ground.data }, { on := 5, ground := Ground.data }, { on := 3, ground := Ground.chain }], guard := none }) rfl (fun K hK => ?_) AllReadyH.nil
                refine step_of_list rfl ?_
                refine wpList_appR rtE _ rfl _ _ (by rfl) v2 ([] ++ (rE ks).take p) rfl HO2.out hS.size _ (.slice (some ⟨W.heap.size, 0, none⟩) 1 1) [encE (xL o)] rfl (Rd.one HB2.out rfl) (by simp [encE]) (encE_ones [xL o]) (by simp [rE_len]; omega) ?_
                intro v3 w3 o3 t3
                have hS3 := hS.trans t3 (by intro y hy; right; exact HO2.out.new y (by simpa using hy))
                refine ⟨rfl, hK.out _ _ hS3 (fun _ => ?_)⟩
                clear hK K hS
                have hS := hS3
                clear hS3
                have HO3 := Lib.hid o3
                clear o3
                try simp only [Act.put, List.setIfInBounds_toArray, List.set_cons_zero, List.set_cons_succ]
                refine wpAnyH_ready (rs := [10]) (by kernel_rfl) (by simp) ?_
                refine AllReadyH.cons (o := { dst := some 93, op := Op.call { callee := Callee.builtin Builtin.append, args := #[Operand.tmp 89, Operand.tmp 92], argTypes := #[27, 27] }, type := 27, pos := "trace.go:98", after := #[{ on := 6, ground := Ground.data }, { on := 9, ground := Ground.data }, { on := 6, ground := Ground.chain }], guard := none }) rfl (fun K hK => ?_) AllReadyH.nil
                refine step_of_list rfl ?_
                refine wpList_appR rtE w3 rfl _ _ (by rfl) v3 ([] ++ (rE ks).take p ++ [encE (xL o)]) rfl HO3.out hS.size b3 (cutv a3 ks.length cap3 p 2) ((rE ks).drop p) rfl ((HRW.out.touch hS (by simp)).drop (P := Try.prog) (T := 0) (e := 0) p (by rw [rE_len]; omega)) (fun x hx => encE_lens ks x (List.mem_of_mem_drop hx)) (fun u hu => encE_ones ks u (by obtain ⟨x, hx, hu⟩ := List.mem_flatten.1 hu; exact List.mem_flatten.2 ⟨x, List.mem_of_mem_drop hx, hu⟩)) (by simp [rE_len]; omega) ?_
                intro v4 w4' o4 t4
                have hS3 := hS.trans t4 (by intro y hy; right; exact HO3.out.new y (by simpa using hy))
                refine ⟨rfl, hK.out _ _ hS3 (fun _ => ?_)⟩
                clear hK K hS
                have hS := hS3
                clear hS3
                have HO4 := Lib.hid o4
                clear o4
                try simp only [Act.put, List.setIfInBounds_toArray, List.set_cons_zero, List.set_cons_succ]
                refine wpAnyH_take (i := 11) (oi := { dst := some 3, op := Op.assign (Operand.tmp 93), type := 27, pos := "trace.go:98", after := #[{ on := 10, ground := Ground.data }, { on := 10, ground := Ground.chain }, { on := 0, ground := Ground.phase }, { on := 1, ground := Ground.phase }, { on := 2, ground := Ground.phase }, { on := 3, ground := Ground.phase }, { on := 4, ground := Ground.phase }, { on := 5, ground := Ground.phase }, { on := 6, ground := Ground.phase }, { on := 7, ground := Ground.phase }, { on := 8, ground := Ground.phase }, { on := 9, ground := Ground.phase }, { on := 10, ground := Ground.phase }], guard := none }) (v := v4) rfl (by kernel_rfl) (by kernel_rfl) (by kernel_rfl) (fun _ _ _ h => h) (Or.inl ⟨by rfl, fun w' hw => by go_simp⟩) hS ?_
                try simp only [Act.put, List.setIfInBounds_toArray, List.set_cons_zero, List.set_cons_succ]
                refine wpAnyH_done (by kernel_rfl) ?_ _
                try simp only [Act.put, List.setIfInBounds_toArray, List.set_cons_zero, List.set_cons_succ]
                have HT4 := Lib.hid hS
                clear hS
                have HN := Lib.hid (show Lv w4' v4 (insK ks (xL o)) (i + 1) from ⟨⟨_, by have := HO4.out.rd (fun x hx => encE_lens (insK ks (xL o)) x (by rw [← HINS.out] at hx; exact hx)); rw [← HINS.out] at this; exact this⟩, insK_ok HKS.out KL.out, by rw [insK_len]; have := HKL.out; omega⟩)
                go_wp2_with fail
                go_roundw
                case rel => exact ⟨i + 1, by simp, by omega, by rw [HR.out]; exact HN.out, TW17.out.trans HT4.out (by simp)⟩
                case measure => simp [intOf]; omega
      
      have q4 : (o.k == 4) = false := by simp [h4]
      have HR := Lib.hid (show liveR (l.take (i + 1)) = ks by rw [HX.out]; simp [lstep, h1, h7, h4])
      go_wp2_with fail
      go_roundw
      case rel => exact ⟨i + 1, by simp, by omega, by rw [HR.out]; exact HL.out.more (by omega), TC.out⟩
      case measure => simp [intOf]; omega
    · have hb1 : ¬ (i : Int) < (l.length : Int) := by omega
      have HE := Lib.hid (show Lv wr u3 (liveR l) l.length by
        have := H3.out
        rw [List.take_of_length_le (by omega)] at this
        exact this.more (by omega))
      go_wp2_with fail
      go_ret
      exact ⟨u3, rfl, HE.out, HT.out⟩
end Go.Proofs.Ytmdnkhpkpmbeoaa

/-
  Merged texts: W4.
-/
import Derived.Test.YtiklhaajhdephaaDoorKB1
import Derived.Test.YtiklhaajhdephaaDoorKB2

/-
  The walk of AddrsortIsStableSort: true at every list.
-/
namespace Go.Proofs.YtiklhaajhdephaaDoor.addrsortIsStableSort
open Go.RowKit Go.Deep
set_option linter.unusedVariables false
set_option linter.unusedSimpArgs false

theorem rd_lt {w : World} {k b i : Nat} {v : Value} {xs : List (List Value)} {x : List Value} (h : Rd w k b v xs) (hx : xs[i]? = some x) (h0 : 0 < x.length) : b < w.heap.size := by
  obtain ⟨a, cap, rfl, _, _⟩ := h.form
  obtain ⟨off, rfl, hat⟩ := h.at (by intro e; rw [e] at hx; simp at hx)
  exact World.block_lt_of_cell? w _ (hat i x hx 0 _ (List.getElem?_eq_getElem h0))
theorem infoB : (Tryd.prog.info? 4).map (fun i => (i.zero, i.size, i.bytes)) = some (some (.bool false), 1, 1) := by kernel_rfl
set_option maxRecDepth 100000 in
set_option maxHeartbeats 8000000 in
theorem walk0 (v : Value) (b : Nat) (xs : List (List Value)) (w : World) (hv : Rd w 17 b v xs) (hxs : ∀ x ∈ xs, IsAd x) :
    Calls Tryd.prog 4 #[v] w fun e w' => e = .returned (.bool true) ∧ Touch [] w w' := by
  have HSA := Lib.hid (someAddrs_any v b 24 xs w (by omega) hv hxs)
  clear hv hxs
  go_enter Tryd.func4, Tryd.ntmps4
  go_wp2_with fail
  refine HSA.out.mono ?_
  rintro e w1 ⟨vx, ys, rfl, hys, hyl, ho, t1⟩
  obtain ⟨l, rfl⟩ := ads_of hys
  obtain ⟨n, hn⟩ : ∃ n, n = l.length := ⟨_, rfl⟩
  have hn24 : n ≤ 24 := by rw [hn]; simpa using hyl
  obtain ⟨bx, hrx, _⟩ := (show OwnA w w1 vx l from ho).rd
  have HSO := Lib.hid (sortA_any vx bx l w1 hrx (by omega))
  have HRX := Lib.hid hrx
  have HT1 := Lib.hid t1
  have HN := Lib.hid hn
  clear hys hyl ho hrx t1 hn HSA
  go_wp2_with fail
  refine HSO.out.mono ?_
  rintro e w2 ⟨vs, rfl, ho, t2⟩
  obtain ⟨Z, hZ, hse⟩ := sorted_mk l
  have hZn : Z.length = n := by rw [HN.out, hZ.len]
  rw [hse] at ho
  obtain ⟨bs, hrs, _⟩ := ho.rd
  have HRX2 := Lib.hid (HRX.out.touch t2 (by simp))
  have HT2 := Lib.hid (HT1.out.trans t2 (by simp))
  obtain ⟨ax, cx, rfl, hcx, hmx⟩ := HRX2.out.form
  obtain ⟨aS, cs, rfl, hcs, hms⟩ := hrs.form
  simp only [List.length_map] at *
  rw [← HN.out] at HRX2 ⊢
  rw [hZn] at hrs ⊢
  have HRS := Lib.hid hrs
  have HZ := Lib.hid hZ
  have HZN := Lib.hid hZn
  have HSE := Lib.hid hse
  have hq : ((n : Int) != (n : Int)) = false := by simp
  clear ho t2 hrs hZ hZn hse HSO HRX HT1 hcx hmx hcs hms
  go_wp2_with fail
  go_loopw [5] (fun vi wr => ∃ i : Nat, i ≤ n ∧ vi = .int .i64 i ∧ Touch [] w2 wr) (fun vi _ => n - (intOf vi).toNat)
  case atStart => exact ⟨0, by omega, rfl, Touch.refl _ _⟩
  case round =>
    obtain ⟨i, hin, rfl, ht⟩ := hrel
    have HT := Lib.hid ht
    obtain ⟨i1, hi1⟩ : ∃ i1, i1 = i + 1 := ⟨_, rfl⟩
    have hwi : IntKind.i64.wrap ((i : Int) + 1) = (i1 : Int) := by rw [IntKind.wrap_i64] <;> omega
    clear ht
    by_cases hlt : i1 < n
    · obtain ⟨p, hp⟩ : ∃ p, Z[i]? = some p := ⟨_, List.getElem?_eq_getElem (by rw [HZN.out]; omega)⟩
      obtain ⟨q, hqq⟩ : ∃ q, Z[i + 1]? = some q := ⟨_, List.getElem?_eq_getElem (by rw [HZN.out]; omega)⟩
      obtain ⟨os, rfl, hat⟩ := HRS.out.at (by intro e; rw [List.map_eq_nil_iff, List.map_eq_nil_iff] at e; rw [e] at hp; simp at hp)
      have rp := HT.out.range (hat i p.1.cells (by simp [hp])) (by simp)
      have rq := HT.out.range (hat i1 q.1.cells (by rw [hi1]; simp [hqq])) (by simp)
      have HLE := Lib.hid (lessA q.1 p.1 false (HZ.out.adj hp hqq))
      have HLP := Lib.hid p.1.len
      have HLQ := Lib.hid q.1.len
      have hin2 : (i : Int) < (n : Int) := by omega
      have hi12 : (i1 : Int) < (n : Int) := by omega
      have HI1 := Lib.hid hi1
      clear hp hqq hat hi1
      go_wp2_with fail
      refine wp_region_held (S := Touch [] wr.drew) (by kernel_rfl) ?_
      change wpAnyH _ _ _ _ _ _ _ _ wr.drew
      have rp : wr.drew.rangeAt bs (os + i * 17) p.1.cells := rp
      have rq : wr.drew.rangeAt bs (os + i1 * 17) q.1.cells := rq
      have HTd := Lib.hid (HT.out.drew)
      clear HT
      generalize wr.drew = W at *
      have hS := Touch.refl [] W
      refine wpAnyH_take (i := 0) (oi := { dst := some 26, op := Op.move (Operand.tmp 4), type := 22, pos := "law.go:34", after := #[], guard := none }) (v := .slice (some ⟨bs, os, none⟩) n cs) rfl (by kernel_rfl) (by kernel_rfl) (by kernel_rfl) (fun _ _ _ h => h) (Or.inl ⟨by rfl, fun w' hw => by go_simp⟩) hS ?_
      try simp only [Act.put, List.setIfInBounds_toArray, List.set_cons_zero, List.set_cons_succ]
      refine wpAnyH_take (i := 1) (oi := { dst := some 27, op := Op.move (Operand.tmp 5), type := 3, pos := "law.go:34", after := #[], guard := none }) (v := .int .i64 (i : Nat)) rfl (by kernel_rfl) (by kernel_rfl) (by kernel_rfl) (fun _ _ _ h => h) (Or.inl ⟨by rfl, fun w' hw => by go_simp⟩) hS ?_
      try simp only [Act.put, List.setIfInBounds_toArray, List.set_cons_zero, List.set_cons_succ]
      refine wpAnyH_take (i := 2) (oi := { dst := some 28, op := Op.binOp BinOp.add 3 (Operand.tmp 27) (Operand.const (Value.int IntKind.i64 1)) 3, type := 3, pos := "law.go:34", after := #[{ on := 1, ground := Ground.data }], guard := none }) (v := .int .i64 (i1 : Nat)) rfl (by kernel_rfl) (by kernel_rfl) (by kernel_rfl) (fun _ _ _ h => h) (Or.inl ⟨by rfl, fun w' hw => by go_simp⟩) hS ?_
      try simp only [Act.put, List.setIfInBounds_toArray, List.set_cons_zero, List.set_cons_succ]
      refine wpAnyH_take (i := 3) (oi := { dst := some 29, op := Op.indexAddr 22 (Operand.tmp 26) (Operand.tmp 28), type := 0, pos := "law.go:34", after := #[{ on := 0, ground := Ground.data }, { on := 2, ground := Ground.data }], guard := none }) (v := .pointer (some ⟨bs, os + i1 * 17, none⟩)) rfl (by kernel_rfl) (by kernel_rfl) (by kernel_rfl) (fun _ _ _ h => h) (Or.inl ⟨by rfl, fun w' hw => by go_simp⟩) hS ?_
      try simp only [Act.put, List.setIfInBounds_toArray, List.set_cons_zero, List.set_cons_succ]
      refine wpAnyH_take (i := 4) (oi := { dst := some 30, op := Op.load 28 (Operand.tmp 29), type := 28, pos := "law.go:34", after := #[{ on := 3, ground := Ground.data }], guard := none }) (v := .agg q.1.cells.toArray) rfl (by kernel_rfl) (by kernel_rfl) (by kernel_rfl) (fun _ _ _ h => h) (Or.inl ⟨by rfl, fun w' hw => exec_load_agg _ 28 _ rfl _ _ rfl q.1.cells _ (hw.range rq (by simp)) Tryd.underlying28 rfl (by rw [size31, HLQ.out])⟩) hS ?_
      try simp only [Act.put, List.setIfInBounds_toArray, List.set_cons_zero, List.set_cons_succ]
      refine wpAnyH_take (i := 5) (oi := { dst := some 31, op := Op.move (Operand.tmp 4), type := 22, pos := "law.go:34", after := #[], guard := none }) (v := .slice (some ⟨bs, os, none⟩) n cs) rfl (by kernel_rfl) (by kernel_rfl) (by kernel_rfl) (fun _ _ _ h => h) (Or.inl ⟨by rfl, fun w' hw => by go_simp⟩) hS ?_
      try simp only [Act.put, List.setIfInBounds_toArray, List.set_cons_zero, List.set_cons_succ]
      refine wpAnyH_take (i := 6) (oi := { dst := some 32, op := Op.move (Operand.tmp 5), type := 3, pos := "law.go:34", after := #[], guard := none }) (v := .int .i64 (i : Nat)) rfl (by kernel_rfl) (by kernel_rfl) (by kernel_rfl) (fun _ _ _ h => h) (Or.inl ⟨by rfl, fun w' hw => by go_simp⟩) hS ?_
      try simp only [Act.put, List.setIfInBounds_toArray, List.set_cons_zero, List.set_cons_succ]
      refine wpAnyH_take (i := 7) (oi := { dst := some 33, op := Op.indexAddr 22 (Operand.tmp 31) (Operand.tmp 32), type := 0, pos := "law.go:34", after := #[{ on := 5, ground := Ground.data }, { on := 6, ground := Ground.data }], guard := none }) (v := .pointer (some ⟨bs, os + i * 17, none⟩)) rfl (by kernel_rfl) (by kernel_rfl) (by kernel_rfl) (fun _ _ _ h => h) (Or.inl ⟨by rfl, fun w' hw => by go_simp⟩) hS ?_
      try simp only [Act.put, List.setIfInBounds_toArray, List.set_cons_zero, List.set_cons_succ]
      refine wpAnyH_take (i := 8) (oi := { dst := some 34, op := Op.load 28 (Operand.tmp 33), type := 28, pos := "law.go:34", after := #[{ on := 7, ground := Ground.data }], guard := none }) (v := .agg p.1.cells.toArray) rfl (by kernel_rfl) (by kernel_rfl) (by kernel_rfl) (fun _ _ _ h => h) (Or.inl ⟨by rfl, fun w' hw => exec_load_agg _ 28 _ rfl _ _ rfl p.1.cells _ (hw.range rp (by simp)) Tryd.underlying28 rfl (by rw [size31, HLP.out])⟩) hS ?_
      try simp only [Act.put, List.setIfInBounds_toArray, List.set_cons_zero, List.set_cons_succ]
      refine wpAnyH_ready (rs := [9]) (by kernel_rfl) (by simp) ?_
      refine AllReadyH.cons (o := { dst := some 35, op := Op.call { callee := Callee.value (Operand.func 19), args := #[Operand.tmp 30, Operand.tmp 34], argTypes := #[28, 28] }, type := 4, pos := "law.go:34", after := #[{ on := 4, ground := Ground.data }, { on := 8, ground := Ground.data }], guard := none }) rfl (fun K hK => ?_) AllReadyH.nil
      go_simp
      refine (HLE.out _).mono ?_
      rintro e w9 ⟨rfl, t9⟩
      have hS2 := hS.trans t9 (by simp)
      refine hK.out _ _ hS2 (fun _ => ?_)
      clear hK K hS t9
      have hS := hS2
      clear hS2
      try simp only [Act.put, List.setIfInBounds_toArray, List.set_cons_zero, List.set_cons_succ]
      refine wpAnyH_done (by kernel_rfl) ?_ _
      try simp only [Act.put, List.setIfInBounds_toArray, List.set_cons_zero, List.set_cons_succ]
      have HT3 := Lib.hid (HTd.out.trans hS (by simp))
      clear hS HTd
      go_wp2_with fail
      go_roundw
      case rel => exact ⟨i1, by omega, rfl, HT3.out⟩
      case measure => simp [intOf]; have := HI1.out; omega
    · obtain ⟨iB, hiB, hzB, hsB, hbB⟩ := info_parts infoB
      obtain ⟨w3, hrun, hown, hg⟩ := run_make_full (P := Tryd.prog) wr 0 33 4 iB (.bool false) 1 Tryd.underlying33 hiB hzB hsB .i64 .i64 n (by rw [hbB]; omega) (by unfold maxLen; omega) (by omega)
      have hown2 : w3.ownsRow 0 4 1 (.slice (some ⟨wr.heap.size, 0, none⟩) n n) n (usedL Z 0 n) := by
        rw [usedL_zero]
        have e : (madeCells (Value.bool false).cells (n * 1)).toList = List.replicate n (.bool false) := by rw [Nat.mul_one]; exact toList_madeCells_one _ _
        rw [e] at hown
        exact hown
      have t3 : Touch [] wr w3 := (Touch.refl [] wr).grown hg (by intro k hk; cases hk)
      have HOW := Lib.hid hown2
      have HX3 := Lib.hid (HRX2.out.touch (HT.out.trans t3 (by simp)) (by simp))
      have HS3 := Lib.hid (HRS.out.touch (HT.out.trans t3 (by simp)) (by simp))
      have hbx : wr.heap.size ≤ wr.heap.size := Nat.le_refl _
      have HT3 := Lib.hid ((HT2.out.trans HT.out (by simp)).trans t3 (by simp))
      have HGB := Lib.hid (show w2.heap.size ≤ wr.heap.size from HT.out.size)
      have HG2 := Lib.hid (show w.heap.size ≤ wr.heap.size from Nat.le_trans HT2.out.size HT.out.size)
      have HBX := Lib.hid (show 0 < n → bx < wr.heap.size ∧ bs < wr.heap.size from fun h0 => by
        obtain ⟨x, hx⟩ : ∃ x, l[0]? = some x := ⟨_, List.getElem?_eq_getElem (by rw [← HN.out]; exact h0)⟩
        obtain ⟨p, hp⟩ : ∃ p, Z[0]? = some p := ⟨_, List.getElem?_eq_getElem (by rw [HZN.out]; exact h0)⟩
        have h1 := rd_lt HRX2.out (i := 0) (x := x.cells) (by simp [hx]) (by rw [x.len]; omega)
        have h2 := rd_lt HRS.out (i := 0) (x := p.1.cells) (by simp [hp]) (by rw [p.1.len]; omega)
        have := HGB.out
        omega)
      go_wp2_with fail
      clear hrun
      generalize hgu : wr.heap.size = gu at *
      clear hown hown2 hg t3 hbx hi1 hwi hlt hin HT HRX2 HRS HT2 hgu HGB hiB hzB hsB hbB
      go_loopw [7, 8, 9] (fun v7 v8 v9 wq => ∃ i : Nat, i ≤ n ∧ v7 = .int .i64 i ∧ wq.ownsRow 0 4 1 (.slice (some ⟨gu, 0, none⟩) n n) n (usedL Z i n) ∧ Touch [gu] w3 wq) (fun v7 _ _ _ => n - (intOf v7).toNat)
      case atStart => exact ⟨0, by omega, rfl, HOW.out, Touch.refl _ _⟩
      case round =>
        obtain ⟨i, hin, rfl, hown, ht⟩ := hrel
        have HT := Lib.hid ht
        have HOU := Lib.hid hown
        have hwi : IntKind.i64.wrap ((i : Int) + 1) = (i : Int) + 1 := by rw [IntKind.wrap_i64] <;> omega
        clear ht hown HOW
        by_cases hlt : i < n
        · obtain ⟨⟨c, t⟩, hz⟩ : ∃ p, Z[i]? = some p := ⟨_, List.getElem?_eq_getElem (by rw [HZN.out]; exact hlt)⟩
          have hlt2 := HZ.out.at hz
          have htn : t < n := by
            rcases Nat.lt_or_ge t l.length with h | h
            · rw [HN.out]; exact h
            · rw [List.getElem?_eq_none h] at hlt2; cases hlt2
          obtain ⟨hbx, hbs⟩ := HBX.out (by omega)
          obtain ⟨os, rfl, hats⟩ := HS3.out.at (by intro e; rw [List.map_eq_nil_iff, List.map_eq_nil_iff] at e; rw [e] at hz; simp at hz)
          obtain ⟨ox, rfl, hatx⟩ := HX3.out.at (by intro e; rw [List.map_eq_nil_iff] at e; rw [e] at hlt2; simp at hlt2)
          have HRC := Lib.hid (HT.out.range (hats i c.cells (by simp [hz])) (by simp; omega))
          have HRT := Lib.hid (HT.out.range (hatx t c.cells (by simp [hlt2])) (by simp; omega))
          have HAX := Lib.hid (show ∀ k y, l[k]? = some y → wr.rangeAt bx (ox + k * 17) y.cells from fun k y hy => HT.out.range (hatx k y.cells (by simp [hy])) (by simp; omega))
          have HAX0 := Lib.hid (show ∀ k y, l[k]? = some y → w3.rangeAt bx (ox + k * 17) y.cells from fun k y hy => hatx k y.cells (by simp [hy]))
          have HZI := Lib.hid hz
          have HLC := Lib.hid c.len
          have hin2 : (i : Int) < (n : Int) := by omega
          have htn2 : (t : Int) < (n : Int) := by omega
          have HBN := Lib.hid (show bx ≠ gu ∧ bs ≠ gu by omega)
          clear hz hlt2 hats hatx hbx hbs
          go_wp2_with fail
          go_loopw [8] (fun v8 wq => ∃ k : Nat, k ≤ t ∧ v8 = .int .i64 k ∧ Touch [] wr wq) (fun v8 _ => t - (intOf v8).toNat)
          case atStart => exact ⟨0, by omega, rfl, Touch.refl _ _⟩
          case round =>
            obtain ⟨k, hkt, rfl, ht⟩ := hrel
            have HTC := Lib.hid ht
            have hwk : IntKind.i64.wrap ((k : Int) + 1) = (k : Int) + 1 := by rw [IntKind.wrap_i64] <;> omega
            have hkn : (k : Int) < (n : Int) := by omega
            have HOC := Lib.hid (ht.owns HOU.out (by simp))
            clear ht
            by_cases hk : k < t
            · obtain ⟨y, hy⟩ : ∃ y, l[k]? = some y := ⟨_, List.getElem?_eq_getElem (by rw [← HN.out]; omega)⟩
              have HLY := Lib.hid y.len
              have ry := HTC.out.range (HAX.out k y hy) (by simp)
              have rc := HTC.out.range HRC.out (by simp)
              cases hu : decide (k ∈ (Z.take i).map Prod.snd) with
              | true =>
                have hcell := owns_cell HOC.out k _ (usedL_at Z i n k (by omega) _ hu)
                clear hu hy
                go_wp2_with fail
                refine wp_region_held (S := Touch [] wr.drew) (by kernel_rfl) ?_
                change wpAnyH _ _ _ _ _ _ _ _ wr.drew
                have ry : wr.drew.rangeAt bx (ox + k * 17) y.cells := ry
                have rc : wr.drew.rangeAt bs (os + i * 17) c.cells := rc
                have hcell : wr.drew.cell? ⟨gu, k, none⟩ = some (.bool true) := hcell
                have HTd := Lib.hid (HTC.out.drew)
                have HId := Lib.hid ((Touch.refl [] wr).drew)
                generalize wr.drew = W at *
                have hS := Touch.refl [] W
                refine wpAnyH_take (i := 0) (oi := { dst := some 45, op := Op.move (Operand.tmp 8), type := 3, pos := "law.go:41", after := #[], guard := none }) (v := .int .i64 (k : Nat)) rfl (by kernel_rfl) (by kernel_rfl) (by kernel_rfl) (fun _ _ _ h => h) (Or.inl ⟨by rfl, fun w' hw => by go_simp⟩) hS ?_
                try simp only [Act.put, List.setIfInBounds_toArray, List.set_cons_zero, List.set_cons_succ]
                refine wpAnyH_take (i := 1) (oi := { dst := some 46, op := Op.move (Operand.tmp 3), type := 22, pos := "law.go:41", after := #[], guard := none }) (v := .slice (some ⟨bx, ox, none⟩) n cx) rfl (by kernel_rfl) (by kernel_rfl) (by kernel_rfl) (fun _ _ _ h => h) (Or.inl ⟨by rfl, fun w' hw => by go_simp⟩) hS ?_
                try simp only [Act.put, List.setIfInBounds_toArray, List.set_cons_zero, List.set_cons_succ]
                refine wpAnyH_take (i := 2) (oi := { dst := some 47, op := Op.call { callee := Callee.builtin Builtin.len, args := #[Operand.tmp 46], argTypes := #[22] }, type := 3, pos := "law.go:41", after := #[{ on := 1, ground := Ground.data }], guard := none }) (v := .int .i64 (n : Nat)) rfl (by kernel_rfl) (by kernel_rfl) (by kernel_rfl) (fun _ _ _ h => h) (Or.inl ⟨by rfl, fun w' hw => by go_simp⟩) hS ?_
                try simp only [Act.put, List.setIfInBounds_toArray, List.set_cons_zero, List.set_cons_succ]
                refine wpAnyH_take (i := 3) (oi := { dst := some 48, op := Op.binOp BinOp.lss 3 (Operand.tmp 45) (Operand.tmp 47) 3, type := 4, pos := "law.go:41", after := #[{ on := 0, ground := Ground.data }, { on := 2, ground := Ground.data }], guard := none }) (v := .bool true) rfl (by kernel_rfl) (by kernel_rfl) (by kernel_rfl) (fun _ _ _ h => h) (Or.inl ⟨by rfl, fun w' hw => by (have q := hkn; go_simp)⟩) hS ?_
                try simp only [Act.put, List.setIfInBounds_toArray, List.set_cons_zero, List.set_cons_succ]
                refine wpAnyH_take (i := 4) (oi := { dst := some 49, op := Op.move (Operand.tmp 48), type := 4, pos := "law.go:41", after := #[{ on := 3, ground := Ground.data }], guard := none }) (v := .bool true) rfl (by kernel_rfl) (by kernel_rfl) (by kernel_rfl) (fun _ _ _ h => h) (Or.inl ⟨by rfl, fun w' hw => by go_simp⟩) hS ?_
                try simp only [Act.put, List.setIfInBounds_toArray, List.set_cons_zero, List.set_cons_succ]
                refine wpAnyH_take (i := 5) (oi := { dst := some 50, op := Op.move (Operand.tmp 6), type := 33, pos := "law.go:41", after := #[{ on := 4, ground := Ground.guard }], guard := some (4, true) }) (v := .slice (some ⟨gu, 0, none⟩) n n) rfl (by kernel_rfl) (by kernel_rfl) (by kernel_rfl) (fun _ _ _ h => h) (Or.inl ⟨by rfl, fun w' hw => by go_simp⟩) hS ?_
                try simp only [Act.put, List.setIfInBounds_toArray, List.set_cons_zero, List.set_cons_succ]
                refine wpAnyH_take (i := 6) (oi := { dst := some 51, op := Op.move (Operand.tmp 8), type := 3, pos := "law.go:41", after := #[{ on := 4, ground := Ground.guard }], guard := some (4, true) }) (v := .int .i64 (k : Nat)) rfl (by kernel_rfl) (by kernel_rfl) (by kernel_rfl) (fun _ _ _ h => h) (Or.inl ⟨by rfl, fun w' hw => by go_simp⟩) hS ?_
                try simp only [Act.put, List.setIfInBounds_toArray, List.set_cons_zero, List.set_cons_succ]
                refine wpAnyH_take (i := 7) (oi := { dst := some 52, op := Op.indexAddr 33 (Operand.tmp 50) (Operand.tmp 51), type := 0, pos := "law.go:41", after := #[{ on := 5, ground := Ground.data }, { on := 6, ground := Ground.data }, { on := 4, ground := Ground.guard }], guard := some (4, true) }) (v := .pointer (some ⟨gu, k, none⟩)) rfl (by kernel_rfl) (by kernel_rfl) (by kernel_rfl) (fun _ _ _ h => h) (Or.inl ⟨by rfl, fun w' hw => by go_simp⟩) hS ?_
                try simp only [Act.put, List.setIfInBounds_toArray, List.set_cons_zero, List.set_cons_succ]
                refine wpAnyH_take (i := 8) (oi := { dst := some 53, op := Op.load 4 (Operand.tmp 52), type := 4, pos := "law.go:41", after := #[{ on := 7, ground := Ground.data }, { on := 4, ground := Ground.guard }], guard := some (4, true) }) (v := .bool true) rfl (by kernel_rfl) (by kernel_rfl) (by kernel_rfl) (fun _ _ _ h => h) (Or.inl ⟨by rfl, fun w' hw => by (have q := hw.cell hcell (by simp); go_simp)⟩) hS ?_
                try simp only [Act.put, List.setIfInBounds_toArray, List.set_cons_zero, List.set_cons_succ]
                refine wpAnyH_take (i := 9) (oi := { dst := some 54, op := Op.move (Operand.tmp 53), type := 4, pos := "law.go:41", after := #[{ on := 8, ground := Ground.data }, { on := 4, ground := Ground.chain }, { on := 4, ground := Ground.guard }], guard := some (4, true) }) (v := .bool true) rfl (by kernel_rfl) (by kernel_rfl) (by kernel_rfl) (fun _ _ _ h => h) (Or.inl ⟨by rfl, fun w' hw => by go_simp⟩) hS ?_
                try simp only [Act.put, List.setIfInBounds_toArray, List.set_cons_zero, List.set_cons_succ]
                refine wpAnyH_take (i := 10) (oi := { dst := some 55, op := Op.move (Operand.tmp 3), type := 22, pos := "law.go:41", after := #[{ on := 9, ground := Ground.guard }], guard := some (9, false) }) (v := undef) rfl (by kernel_rfl) (by kernel_rfl) (by kernel_rfl) (fun _ _ _ h => h) (Or.inr ⟨by rfl, rfl⟩) hS ?_
                try simp only [Act.put, List.setIfInBounds_toArray, List.set_cons_zero, List.set_cons_succ]
                refine wpAnyH_take (i := 11) (oi := { dst := some 56, op := Op.move (Operand.tmp 8), type := 3, pos := "law.go:41", after := #[{ on := 9, ground := Ground.guard }], guard := some (9, false) }) (v := undef) rfl (by kernel_rfl) (by kernel_rfl) (by kernel_rfl) (fun _ _ _ h => h) (Or.inr ⟨by rfl, rfl⟩) hS ?_
                try simp only [Act.put, List.setIfInBounds_toArray, List.set_cons_zero, List.set_cons_succ]
                refine wpAnyH_take (i := 12) (oi := { dst := some 57, op := Op.indexAddr 22 (Operand.tmp 55) (Operand.tmp 56), type := 0, pos := "law.go:41", after := #[{ on := 10, ground := Ground.data }, { on := 11, ground := Ground.data }, { on := 9, ground := Ground.guard }], guard := some (9, false) }) (v := undef) rfl (by kernel_rfl) (by kernel_rfl) (by kernel_rfl) (fun _ _ _ h => h) (Or.inr ⟨by rfl, rfl⟩) hS ?_
                try simp only [Act.put, List.setIfInBounds_toArray, List.set_cons_zero, List.set_cons_succ]
                refine wpAnyH_take (i := 13) (oi := { dst := some 58, op := Op.load 28 (Operand.tmp 57), type := 28, pos := "law.go:41", after := #[{ on := 12, ground := Ground.data }, { on := 9, ground := Ground.guard }], guard := some (9, false) }) (v := undef) rfl (by kernel_rfl) (by kernel_rfl) (by kernel_rfl) (fun _ _ _ h => h) (Or.inr ⟨by rfl, rfl⟩) hS ?_
                try simp only [Act.put, List.setIfInBounds_toArray, List.set_cons_zero, List.set_cons_succ]
                refine wpAnyH_take (i := 14) (oi := { dst := some 59, op := Op.move (Operand.tmp 4), type := 22, pos := "law.go:41", after := #[{ on := 9, ground := Ground.guard }], guard := some (9, false) }) (v := undef) rfl (by kernel_rfl) (by kernel_rfl) (by kernel_rfl) (fun _ _ _ h => h) (Or.inr ⟨by rfl, rfl⟩) hS ?_
                try simp only [Act.put, List.setIfInBounds_toArray, List.set_cons_zero, List.set_cons_succ]
                refine wpAnyH_take (i := 15) (oi := { dst := some 60, op := Op.move (Operand.tmp 7), type := 3, pos := "law.go:41", after := #[{ on := 9, ground := Ground.guard }], guard := some (9, false) }) (v := undef) rfl (by kernel_rfl) (by kernel_rfl) (by kernel_rfl) (fun _ _ _ h => h) (Or.inr ⟨by rfl, rfl⟩) hS ?_
                try simp only [Act.put, List.setIfInBounds_toArray, List.set_cons_zero, List.set_cons_succ]
                refine wpAnyH_take (i := 16) (oi := { dst := some 61, op := Op.indexAddr 22 (Operand.tmp 59) (Operand.tmp 60), type := 0, pos := "law.go:41", after := #[{ on := 14, ground := Ground.data }, { on := 15, ground := Ground.data }, { on := 9, ground := Ground.guard }], guard := some (9, false) }) (v := undef) rfl (by kernel_rfl) (by kernel_rfl) (by kernel_rfl) (fun _ _ _ h => h) (Or.inr ⟨by rfl, rfl⟩) hS ?_
                try simp only [Act.put, List.setIfInBounds_toArray, List.set_cons_zero, List.set_cons_succ]
                refine wpAnyH_take (i := 17) (oi := { dst := some 62, op := Op.load 28 (Operand.tmp 61), type := 28, pos := "law.go:41", after := #[{ on := 16, ground := Ground.data }, { on := 9, ground := Ground.guard }], guard := some (9, false) }) (v := undef) rfl (by kernel_rfl) (by kernel_rfl) (by kernel_rfl) (fun _ _ _ h => h) (Or.inr ⟨by rfl, rfl⟩) hS ?_
                try simp only [Act.put, List.setIfInBounds_toArray, List.set_cons_zero, List.set_cons_succ]
                refine wpAnyH_take (i := 18) (oi := { dst := some 63, op := Op.binOp BinOp.neq 28 (Operand.tmp 58) (Operand.tmp 62) 28, type := 4, pos := "law.go:41", after := #[{ on := 13, ground := Ground.data }, { on := 17, ground := Ground.data }, { on := 9, ground := Ground.guard }], guard := some (9, false) }) (v := undef) rfl (by kernel_rfl) (by kernel_rfl) (by kernel_rfl) (fun _ _ _ h => h) (Or.inr ⟨by rfl, rfl⟩) hS ?_
                try simp only [Act.put, List.setIfInBounds_toArray, List.set_cons_zero, List.set_cons_succ]
                refine wpAnyH_take (i := 19) (oi := { dst := some 64, op := Op.pick (Operand.tmp 54) (Operand.const (Value.bool true)) (Operand.tmp 63), type := 4, pos := "law.go:41", after := #[{ on := 9, ground := Ground.data }, { on := 18, ground := Ground.data }, { on := 4, ground := Ground.guard }], guard := some (4, true) }) (v := .bool true) rfl (by kernel_rfl) (by kernel_rfl) (by kernel_rfl) (fun _ _ _ h => h) (Or.inl ⟨by rfl, fun w' hw => by go_simp⟩) hS ?_
                try simp only [Act.put, List.setIfInBounds_toArray, List.set_cons_zero, List.set_cons_succ]
                refine wpAnyH_take (i := 20) (oi := { dst := some 65, op := Op.pick (Operand.tmp 49) (Operand.tmp 64) (Operand.const (Value.bool false)), type := 4, pos := "law.go:41", after := #[{ on := 4, ground := Ground.data }, { on := 19, ground := Ground.data }], guard := none }) (v := .bool true) rfl (by kernel_rfl) (by kernel_rfl) (by kernel_rfl) (fun _ _ _ h => h) (Or.inl ⟨by rfl, fun w' hw => by go_simp⟩) hS ?_
                try simp only [Act.put, List.setIfInBounds_toArray, List.set_cons_zero, List.set_cons_succ]
                refine wpAnyH_done (by kernel_rfl) ?_ _
                try simp only [Act.put, List.setIfInBounds_toArray, List.set_cons_zero, List.set_cons_succ]
                have HT4 := Lib.hid (HTd.out.trans hS (by simp))
                have HIC := Lib.hid (HId.out.trans hS (by simp))
                clear hS HTd HId hcell ry rc
                go_wp2_with fail
                go_roundw
                case rel => exact ⟨k + 1, by omega, by go_num, HT4.out⟩
                case measure => simp [intOf]; omega
              | false =>
                have hcell := owns_cell HOC.out k _ (usedL_at Z i n k (by omega) _ hu)
                have HE := Lib.hid (eq_ad_f y c (HZ.out.other HZI.out hy (by simpa using hu) hk))
                clear hu hy
                go_wp2_with fail
                refine wp_region_held (S := Touch [] wr.drew) (by kernel_rfl) ?_
                change wpAnyH _ _ _ _ _ _ _ _ wr.drew
                have ry : wr.drew.rangeAt bx (ox + k * 17) y.cells := ry
                have rc : wr.drew.rangeAt bs (os + i * 17) c.cells := rc
                have hcell : wr.drew.cell? ⟨gu, k, none⟩ = some (.bool false) := hcell
                have HTd := Lib.hid (HTC.out.drew)
                have HId := Lib.hid ((Touch.refl [] wr).drew)
                generalize wr.drew = W at *
                have hS := Touch.refl [] W
                refine wpAnyH_take (i := 0) (oi := { dst := some 45, op := Op.move (Operand.tmp 8), type := 3, pos := "law.go:41", after := #[], guard := none }) (v := .int .i64 (k : Nat)) rfl (by kernel_rfl) (by kernel_rfl) (by kernel_rfl) (fun _ _ _ h => h) (Or.inl ⟨by rfl, fun w' hw => by go_simp⟩) hS ?_
                try simp only [Act.put, List.setIfInBounds_toArray, List.set_cons_zero, List.set_cons_succ]
                refine wpAnyH_take (i := 1) (oi := { dst := some 46, op := Op.move (Operand.tmp 3), type := 22, pos := "law.go:41", after := #[], guard := none }) (v := .slice (some ⟨bx, ox, none⟩) n cx) rfl (by kernel_rfl) (by kernel_rfl) (by kernel_rfl) (fun _ _ _ h => h) (Or.inl ⟨by rfl, fun w' hw => by go_simp⟩) hS ?_
                try simp only [Act.put, List.setIfInBounds_toArray, List.set_cons_zero, List.set_cons_succ]
                refine wpAnyH_take (i := 2) (oi := { dst := some 47, op := Op.call { callee := Callee.builtin Builtin.len, args := #[Operand.tmp 46], argTypes := #[22] }, type := 3, pos := "law.go:41", after := #[{ on := 1, ground := Ground.data }], guard := none }) (v := .int .i64 (n : Nat)) rfl (by kernel_rfl) (by kernel_rfl) (by kernel_rfl) (fun _ _ _ h => h) (Or.inl ⟨by rfl, fun w' hw => by go_simp⟩) hS ?_
                try simp only [Act.put, List.setIfInBounds_toArray, List.set_cons_zero, List.set_cons_succ]
                refine wpAnyH_take (i := 3) (oi := { dst := some 48, op := Op.binOp BinOp.lss 3 (Operand.tmp 45) (Operand.tmp 47) 3, type := 4, pos := "law.go:41", after := #[{ on := 0, ground := Ground.data }, { on := 2, ground := Ground.data }], guard := none }) (v := .bool true) rfl (by kernel_rfl) (by kernel_rfl) (by kernel_rfl) (fun _ _ _ h => h) (Or.inl ⟨by rfl, fun w' hw => by (have q := hkn; go_simp)⟩) hS ?_
                try simp only [Act.put, List.setIfInBounds_toArray, List.set_cons_zero, List.set_cons_succ]
                refine wpAnyH_take (i := 4) (oi := { dst := some 49, op := Op.move (Operand.tmp 48), type := 4, pos := "law.go:41", after := #[{ on := 3, ground := Ground.data }], guard := none }) (v := .bool true) rfl (by kernel_rfl) (by kernel_rfl) (by kernel_rfl) (fun _ _ _ h => h) (Or.inl ⟨by rfl, fun w' hw => by go_simp⟩) hS ?_
                try simp only [Act.put, List.setIfInBounds_toArray, List.set_cons_zero, List.set_cons_succ]
                refine wpAnyH_take (i := 5) (oi := { dst := some 50, op := Op.move (Operand.tmp 6), type := 33, pos := "law.go:41", after := #[{ on := 4, ground := Ground.guard }], guard := some (4, true) }) (v := .slice (some ⟨gu, 0, none⟩) n n) rfl (by kernel_rfl) (by kernel_rfl) (by kernel_rfl) (fun _ _ _ h => h) (Or.inl ⟨by rfl, fun w' hw => by go_simp⟩) hS ?_
                try simp only [Act.put, List.setIfInBounds_toArray, List.set_cons_zero, List.set_cons_succ]
                refine wpAnyH_take (i := 6) (oi := { dst := some 51, op := Op.move (Operand.tmp 8), type := 3, pos := "law.go:41", after := #[{ on := 4, ground := Ground.guard }], guard := some (4, true) }) (v := .int .i64 (k : Nat)) rfl (by kernel_rfl) (by kernel_rfl) (by kernel_rfl) (fun _ _ _ h => h) (Or.inl ⟨by rfl, fun w' hw => by go_simp⟩) hS ?_
                try simp only [Act.put, List.setIfInBounds_toArray, List.set_cons_zero, List.set_cons_succ]
                refine wpAnyH_take (i := 7) (oi := { dst := some 52, op := Op.indexAddr 33 (Operand.tmp 50) (Operand.tmp 51), type := 0, pos := "law.go:41", after := #[{ on := 5, ground := Ground.data }, { on := 6, ground := Ground.data }, { on := 4, ground := Ground.guard }], guard := some (4, true) }) (v := .pointer (some ⟨gu, k, none⟩)) rfl (by kernel_rfl) (by kernel_rfl) (by kernel_rfl) (fun _ _ _ h => h) (Or.inl ⟨by rfl, fun w' hw => by go_simp⟩) hS ?_
                try simp only [Act.put, List.setIfInBounds_toArray, List.set_cons_zero, List.set_cons_succ]
                refine wpAnyH_take (i := 8) (oi := { dst := some 53, op := Op.load 4 (Operand.tmp 52), type := 4, pos := "law.go:41", after := #[{ on := 7, ground := Ground.data }, { on := 4, ground := Ground.guard }], guard := some (4, true) }) (v := .bool false) rfl (by kernel_rfl) (by kernel_rfl) (by kernel_rfl) (fun _ _ _ h => h) (Or.inl ⟨by rfl, fun w' hw => by (have q := hw.cell hcell (by simp); go_simp)⟩) hS ?_
                try simp only [Act.put, List.setIfInBounds_toArray, List.set_cons_zero, List.set_cons_succ]
                refine wpAnyH_take (i := 9) (oi := { dst := some 54, op := Op.move (Operand.tmp 53), type := 4, pos := "law.go:41", after := #[{ on := 8, ground := Ground.data }, { on := 4, ground := Ground.chain }, { on := 4, ground := Ground.guard }], guard := some (4, true) }) (v := .bool false) rfl (by kernel_rfl) (by kernel_rfl) (by kernel_rfl) (fun _ _ _ h => h) (Or.inl ⟨by rfl, fun w' hw => by go_simp⟩) hS ?_
                try simp only [Act.put, List.setIfInBounds_toArray, List.set_cons_zero, List.set_cons_succ]
                refine wpAnyH_take (i := 10) (oi := { dst := some 55, op := Op.move (Operand.tmp 3), type := 22, pos := "law.go:41", after := #[{ on := 9, ground := Ground.guard }], guard := some (9, false) }) (v := .slice (some ⟨bx, ox, none⟩) n cx) rfl (by kernel_rfl) (by kernel_rfl) (by kernel_rfl) (fun _ _ _ h => h) (Or.inl ⟨by rfl, fun w' hw => by go_simp⟩) hS ?_
                try simp only [Act.put, List.setIfInBounds_toArray, List.set_cons_zero, List.set_cons_succ]
                refine wpAnyH_take (i := 11) (oi := { dst := some 56, op := Op.move (Operand.tmp 8), type := 3, pos := "law.go:41", after := #[{ on := 9, ground := Ground.guard }], guard := some (9, false) }) (v := .int .i64 (k : Nat)) rfl (by kernel_rfl) (by kernel_rfl) (by kernel_rfl) (fun _ _ _ h => h) (Or.inl ⟨by rfl, fun w' hw => by go_simp⟩) hS ?_
                try simp only [Act.put, List.setIfInBounds_toArray, List.set_cons_zero, List.set_cons_succ]
                refine wpAnyH_take (i := 12) (oi := { dst := some 57, op := Op.indexAddr 22 (Operand.tmp 55) (Operand.tmp 56), type := 0, pos := "law.go:41", after := #[{ on := 10, ground := Ground.data }, { on := 11, ground := Ground.data }, { on := 9, ground := Ground.guard }], guard := some (9, false) }) (v := .pointer (some ⟨bx, ox + k * 17, none⟩)) rfl (by kernel_rfl) (by kernel_rfl) (by kernel_rfl) (fun _ _ _ h => h) (Or.inl ⟨by rfl, fun w' hw => by go_simp⟩) hS ?_
                try simp only [Act.put, List.setIfInBounds_toArray, List.set_cons_zero, List.set_cons_succ]
                refine wpAnyH_take (i := 13) (oi := { dst := some 58, op := Op.load 28 (Operand.tmp 57), type := 28, pos := "law.go:41", after := #[{ on := 12, ground := Ground.data }, { on := 9, ground := Ground.guard }], guard := some (9, false) }) (v := .agg y.cells.toArray) rfl (by kernel_rfl) (by kernel_rfl) (by kernel_rfl) (fun _ _ _ h => h) (Or.inl ⟨by rfl, fun w' hw => exec_load_agg _ 28 _ rfl _ _ rfl y.cells _ (hw.range ry (by simp)) Tryd.underlying28 rfl (by rw [size31, HLY.out])⟩) hS ?_
                try simp only [Act.put, List.setIfInBounds_toArray, List.set_cons_zero, List.set_cons_succ]
                refine wpAnyH_take (i := 14) (oi := { dst := some 59, op := Op.move (Operand.tmp 4), type := 22, pos := "law.go:41", after := #[{ on := 9, ground := Ground.guard }], guard := some (9, false) }) (v := .slice (some ⟨bs, os, none⟩) n cs) rfl (by kernel_rfl) (by kernel_rfl) (by kernel_rfl) (fun _ _ _ h => h) (Or.inl ⟨by rfl, fun w' hw => by go_simp⟩) hS ?_
                try simp only [Act.put, List.setIfInBounds_toArray, List.set_cons_zero, List.set_cons_succ]
                refine wpAnyH_take (i := 15) (oi := { dst := some 60, op := Op.move (Operand.tmp 7), type := 3, pos := "law.go:41", after := #[{ on := 9, ground := Ground.guard }], guard := some (9, false) }) (v := .int .i64 (i : Nat)) rfl (by kernel_rfl) (by kernel_rfl) (by kernel_rfl) (fun _ _ _ h => h) (Or.inl ⟨by rfl, fun w' hw => by go_simp⟩) hS ?_
                try simp only [Act.put, List.setIfInBounds_toArray, List.set_cons_zero, List.set_cons_succ]
                refine wpAnyH_take (i := 16) (oi := { dst := some 61, op := Op.indexAddr 22 (Operand.tmp 59) (Operand.tmp 60), type := 0, pos := "law.go:41", after := #[{ on := 14, ground := Ground.data }, { on := 15, ground := Ground.data }, { on := 9, ground := Ground.guard }], guard := some (9, false) }) (v := .pointer (some ⟨bs, os + i * 17, none⟩)) rfl (by kernel_rfl) (by kernel_rfl) (by kernel_rfl) (fun _ _ _ h => h) (Or.inl ⟨by rfl, fun w' hw => by go_simp⟩) hS ?_
                try simp only [Act.put, List.setIfInBounds_toArray, List.set_cons_zero, List.set_cons_succ]
                refine wpAnyH_take (i := 17) (oi := { dst := some 62, op := Op.load 28 (Operand.tmp 61), type := 28, pos := "law.go:41", after := #[{ on := 16, ground := Ground.data }, { on := 9, ground := Ground.guard }], guard := some (9, false) }) (v := .agg c.cells.toArray) rfl (by kernel_rfl) (by kernel_rfl) (by kernel_rfl) (fun _ _ _ h => h) (Or.inl ⟨by rfl, fun w' hw => exec_load_agg _ 28 _ rfl _ _ rfl c.cells _ (hw.range rc (by simp)) Tryd.underlying28 rfl (by rw [size31, HLC.out])⟩) hS ?_
                try simp only [Act.put, List.setIfInBounds_toArray, List.set_cons_zero, List.set_cons_succ]
                refine wpAnyH_take (i := 18) (oi := { dst := some 63, op := Op.binOp BinOp.neq 28 (Operand.tmp 58) (Operand.tmp 62) 28, type := 4, pos := "law.go:41", after := #[{ on := 13, ground := Ground.data }, { on := 17, ground := Ground.data }, { on := 9, ground := Ground.guard }], guard := some (9, false) }) (v := .bool true) rfl (by kernel_rfl) (by kernel_rfl) (by kernel_rfl) (fun _ _ _ h => h) (Or.inl ⟨by rfl, fun w' hw => exec_neq_agg _ 28 _ _ _ rfl y.cells.toArray c.cells.toArray rfl rfl (by kernel_rfl) false (HE.out w')⟩) hS ?_
                try simp only [Act.put, List.setIfInBounds_toArray, List.set_cons_zero, List.set_cons_succ]
                refine wpAnyH_take (i := 19) (oi := { dst := some 64, op := Op.pick (Operand.tmp 54) (Operand.const (Value.bool true)) (Operand.tmp 63), type := 4, pos := "law.go:41", after := #[{ on := 9, ground := Ground.data }, { on := 18, ground := Ground.data }, { on := 4, ground := Ground.guard }], guard := some (4, true) }) (v := .bool true) rfl (by kernel_rfl) (by kernel_rfl) (by kernel_rfl) (fun _ _ _ h => h) (Or.inl ⟨by rfl, fun w' hw => by go_simp⟩) hS ?_
                try simp only [Act.put, List.setIfInBounds_toArray, List.set_cons_zero, List.set_cons_succ]
                refine wpAnyH_take (i := 20) (oi := { dst := some 65, op := Op.pick (Operand.tmp 49) (Operand.tmp 64) (Operand.const (Value.bool false)), type := 4, pos := "law.go:41", after := #[{ on := 4, ground := Ground.data }, { on := 19, ground := Ground.data }], guard := none }) (v := .bool true) rfl (by kernel_rfl) (by kernel_rfl) (by kernel_rfl) (fun _ _ _ h => h) (Or.inl ⟨by rfl, fun w' hw => by go_simp⟩) hS ?_
                try simp only [Act.put, List.setIfInBounds_toArray, List.set_cons_zero, List.set_cons_succ]
                refine wpAnyH_done (by kernel_rfl) ?_ _
                try simp only [Act.put, List.setIfInBounds_toArray, List.set_cons_zero, List.set_cons_succ]
                have HT4 := Lib.hid (HTd.out.trans hS (by simp))
                have HIC := Lib.hid (HId.out.trans hS (by simp))
                clear hS HTd HId hcell ry rc
                go_wp2_with fail
                go_roundw
                case rel => exact ⟨k + 1, by omega, by go_num, HT4.out⟩
                case measure => simp [intOf]; omega
            · obtain rfl : k = t := by omega
              have hu : decide (k ∈ (Z.take i).map Prod.snd) = false := by simpa using HZ.out.new HZI.out
              have hcell := owns_cell HOC.out k _ (usedL_at Z i n k htn _ hu)
              have HE := Lib.hid (eq_ad_t c c rfl)
              have ry := HTC.out.range HRT.out (by simp)
              have rc := HTC.out.range HRC.out (by simp)
              have hkq : ((k : Int) == (n : Int)) = false := by simp only [beq_eq_false_iff_ne, ne_eq]; omega
              clear hu
              go_wp2_with fail
              refine wp_region_held (S := Touch [] wr.drew) (by kernel_rfl) ?_
              change wpAnyH _ _ _ _ _ _ _ _ wr.drew
              have ry : wr.drew.rangeAt bx (ox + k * 17) c.cells := ry
              have rc : wr.drew.rangeAt bs (os + i * 17) c.cells := rc
              have hcell : wr.drew.cell? ⟨gu, k, none⟩ = some (.bool false) := hcell
              have HTd := Lib.hid (HTC.out.drew)
              have HId := Lib.hid ((Touch.refl [] wr).drew)
              generalize wr.drew = W at *
              have hS := Touch.refl [] W
              refine wpAnyH_take (i := 0) (oi := { dst := some 45, op := Op.move (Operand.tmp 8), type := 3, pos := "law.go:41", after := #[], guard := none }) (v := .int .i64 (k : Nat)) rfl (by kernel_rfl) (by kernel_rfl) (by kernel_rfl) (fun _ _ _ h => h) (Or.inl ⟨by rfl, fun w' hw => by go_simp⟩) hS ?_
              try simp only [Act.put, List.setIfInBounds_toArray, List.set_cons_zero, List.set_cons_succ]
              refine wpAnyH_take (i := 1) (oi := { dst := some 46, op := Op.move (Operand.tmp 3), type := 22, pos := "law.go:41", after := #[], guard := none }) (v := .slice (some ⟨bx, ox, none⟩) n cx) rfl (by kernel_rfl) (by kernel_rfl) (by kernel_rfl) (fun _ _ _ h => h) (Or.inl ⟨by rfl, fun w' hw => by go_simp⟩) hS ?_
              try simp only [Act.put, List.setIfInBounds_toArray, List.set_cons_zero, List.set_cons_succ]
              refine wpAnyH_take (i := 2) (oi := { dst := some 47, op := Op.call { callee := Callee.builtin Builtin.len, args := #[Operand.tmp 46], argTypes := #[22] }, type := 3, pos := "law.go:41", after := #[{ on := 1, ground := Ground.data }], guard := none }) (v := .int .i64 (n : Nat)) rfl (by kernel_rfl) (by kernel_rfl) (by kernel_rfl) (fun _ _ _ h => h) (Or.inl ⟨by rfl, fun w' hw => by go_simp⟩) hS ?_
              try simp only [Act.put, List.setIfInBounds_toArray, List.set_cons_zero, List.set_cons_succ]
              refine wpAnyH_take (i := 3) (oi := { dst := some 48, op := Op.binOp BinOp.lss 3 (Operand.tmp 45) (Operand.tmp 47) 3, type := 4, pos := "law.go:41", after := #[{ on := 0, ground := Ground.data }, { on := 2, ground := Ground.data }], guard := none }) (v := .bool true) rfl (by kernel_rfl) (by kernel_rfl) (by kernel_rfl) (fun _ _ _ h => h) (Or.inl ⟨by rfl, fun w' hw => by (have q := hkn; go_simp)⟩) hS ?_
              try simp only [Act.put, List.setIfInBounds_toArray, List.set_cons_zero, List.set_cons_succ]
              refine wpAnyH_take (i := 4) (oi := { dst := some 49, op := Op.move (Operand.tmp 48), type := 4, pos := "law.go:41", after := #[{ on := 3, ground := Ground.data }], guard := none }) (v := .bool true) rfl (by kernel_rfl) (by kernel_rfl) (by kernel_rfl) (fun _ _ _ h => h) (Or.inl ⟨by rfl, fun w' hw => by go_simp⟩) hS ?_
              try simp only [Act.put, List.setIfInBounds_toArray, List.set_cons_zero, List.set_cons_succ]
              refine wpAnyH_take (i := 5) (oi := { dst := some 50, op := Op.move (Operand.tmp 6), type := 33, pos := "law.go:41", after := #[{ on := 4, ground := Ground.guard }], guard := some (4, true) }) (v := .slice (some ⟨gu, 0, none⟩) n n) rfl (by kernel_rfl) (by kernel_rfl) (by kernel_rfl) (fun _ _ _ h => h) (Or.inl ⟨by rfl, fun w' hw => by go_simp⟩) hS ?_
              try simp only [Act.put, List.setIfInBounds_toArray, List.set_cons_zero, List.set_cons_succ]
              refine wpAnyH_take (i := 6) (oi := { dst := some 51, op := Op.move (Operand.tmp 8), type := 3, pos := "law.go:41", after := #[{ on := 4, ground := Ground.guard }], guard := some (4, true) }) (v := .int .i64 (k : Nat)) rfl (by kernel_rfl) (by kernel_rfl) (by kernel_rfl) (fun _ _ _ h => h) (Or.inl ⟨by rfl, fun w' hw => by go_simp⟩) hS ?_
              try simp only [Act.put, List.setIfInBounds_toArray, List.set_cons_zero, List.set_cons_succ]
              refine wpAnyH_take (i := 7) (oi := { dst := some 52, op := Op.indexAddr 33 (Operand.tmp 50) (Operand.tmp 51), type := 0, pos := "law.go:41", after := #[{ on := 5, ground := Ground.data }, { on := 6, ground := Ground.data }, { on := 4, ground := Ground.guard }], guard := some (4, true) }) (v := .pointer (some ⟨gu, k, none⟩)) rfl (by kernel_rfl) (by kernel_rfl) (by kernel_rfl) (fun _ _ _ h => h) (Or.inl ⟨by rfl, fun w' hw => by go_simp⟩) hS ?_
              try simp only [Act.put, List.setIfInBounds_toArray, List.set_cons_zero, List.set_cons_succ]
              refine wpAnyH_take (i := 8) (oi := { dst := some 53, op := Op.load 4 (Operand.tmp 52), type := 4, pos := "law.go:41", after := #[{ on := 7, ground := Ground.data }, { on := 4, ground := Ground.guard }], guard := some (4, true) }) (v := .bool false) rfl (by kernel_rfl) (by kernel_rfl) (by kernel_rfl) (fun _ _ _ h => h) (Or.inl ⟨by rfl, fun w' hw => by (have q := hw.cell hcell (by simp); go_simp)⟩) hS ?_
              try simp only [Act.put, List.setIfInBounds_toArray, List.set_cons_zero, List.set_cons_succ]
              refine wpAnyH_take (i := 9) (oi := { dst := some 54, op := Op.move (Operand.tmp 53), type := 4, pos := "law.go:41", after := #[{ on := 8, ground := Ground.data }, { on := 4, ground := Ground.chain }, { on := 4, ground := Ground.guard }], guard := some (4, true) }) (v := .bool false) rfl (by kernel_rfl) (by kernel_rfl) (by kernel_rfl) (fun _ _ _ h => h) (Or.inl ⟨by rfl, fun w' hw => by go_simp⟩) hS ?_
              try simp only [Act.put, List.setIfInBounds_toArray, List.set_cons_zero, List.set_cons_succ]
              refine wpAnyH_take (i := 10) (oi := { dst := some 55, op := Op.move (Operand.tmp 3), type := 22, pos := "law.go:41", after := #[{ on := 9, ground := Ground.guard }], guard := some (9, false) }) (v := .slice (some ⟨bx, ox, none⟩) n cx) rfl (by kernel_rfl) (by kernel_rfl) (by kernel_rfl) (fun _ _ _ h => h) (Or.inl ⟨by rfl, fun w' hw => by go_simp⟩) hS ?_
              try simp only [Act.put, List.setIfInBounds_toArray, List.set_cons_zero, List.set_cons_succ]
              refine wpAnyH_take (i := 11) (oi := { dst := some 56, op := Op.move (Operand.tmp 8), type := 3, pos := "law.go:41", after := #[{ on := 9, ground := Ground.guard }], guard := some (9, false) }) (v := .int .i64 (k : Nat)) rfl (by kernel_rfl) (by kernel_rfl) (by kernel_rfl) (fun _ _ _ h => h) (Or.inl ⟨by rfl, fun w' hw => by go_simp⟩) hS ?_
              try simp only [Act.put, List.setIfInBounds_toArray, List.set_cons_zero, List.set_cons_succ]
              refine wpAnyH_take (i := 12) (oi := { dst := some 57, op := Op.indexAddr 22 (Operand.tmp 55) (Operand.tmp 56), type := 0, pos := "law.go:41", after := #[{ on := 10, ground := Ground.data }, { on := 11, ground := Ground.data }, { on := 9, ground := Ground.guard }], guard := some (9, false) }) (v := .pointer (some ⟨bx, ox + k * 17, none⟩)) rfl (by kernel_rfl) (by kernel_rfl) (by kernel_rfl) (fun _ _ _ h => h) (Or.inl ⟨by rfl, fun w' hw => by go_simp⟩) hS ?_
              try simp only [Act.put, List.setIfInBounds_toArray, List.set_cons_zero, List.set_cons_succ]
              refine wpAnyH_take (i := 13) (oi := { dst := some 58, op := Op.load 28 (Operand.tmp 57), type := 28, pos := "law.go:41", after := #[{ on := 12, ground := Ground.data }, { on := 9, ground := Ground.guard }], guard := some (9, false) }) (v := .agg c.cells.toArray) rfl (by kernel_rfl) (by kernel_rfl) (by kernel_rfl) (fun _ _ _ h => h) (Or.inl ⟨by rfl, fun w' hw => exec_load_agg _ 28 _ rfl _ _ rfl c.cells _ (hw.range ry (by simp)) Tryd.underlying28 rfl (by rw [size31, HLC.out])⟩) hS ?_
              try simp only [Act.put, List.setIfInBounds_toArray, List.set_cons_zero, List.set_cons_succ]
              refine wpAnyH_take (i := 14) (oi := { dst := some 59, op := Op.move (Operand.tmp 4), type := 22, pos := "law.go:41", after := #[{ on := 9, ground := Ground.guard }], guard := some (9, false) }) (v := .slice (some ⟨bs, os, none⟩) n cs) rfl (by kernel_rfl) (by kernel_rfl) (by kernel_rfl) (fun _ _ _ h => h) (Or.inl ⟨by rfl, fun w' hw => by go_simp⟩) hS ?_
              try simp only [Act.put, List.setIfInBounds_toArray, List.set_cons_zero, List.set_cons_succ]
              refine wpAnyH_take (i := 15) (oi := { dst := some 60, op := Op.move (Operand.tmp 7), type := 3, pos := "law.go:41", after := #[{ on := 9, ground := Ground.guard }], guard := some (9, false) }) (v := .int .i64 (i : Nat)) rfl (by kernel_rfl) (by kernel_rfl) (by kernel_rfl) (fun _ _ _ h => h) (Or.inl ⟨by rfl, fun w' hw => by go_simp⟩) hS ?_
              try simp only [Act.put, List.setIfInBounds_toArray, List.set_cons_zero, List.set_cons_succ]
              refine wpAnyH_take (i := 16) (oi := { dst := some 61, op := Op.indexAddr 22 (Operand.tmp 59) (Operand.tmp 60), type := 0, pos := "law.go:41", after := #[{ on := 14, ground := Ground.data }, { on := 15, ground := Ground.data }, { on := 9, ground := Ground.guard }], guard := some (9, false) }) (v := .pointer (some ⟨bs, os + i * 17, none⟩)) rfl (by kernel_rfl) (by kernel_rfl) (by kernel_rfl) (fun _ _ _ h => h) (Or.inl ⟨by rfl, fun w' hw => by go_simp⟩) hS ?_
              try simp only [Act.put, List.setIfInBounds_toArray, List.set_cons_zero, List.set_cons_succ]
              refine wpAnyH_take (i := 17) (oi := { dst := some 62, op := Op.load 28 (Operand.tmp 61), type := 28, pos := "law.go:41", after := #[{ on := 16, ground := Ground.data }, { on := 9, ground := Ground.guard }], guard := some (9, false) }) (v := .agg c.cells.toArray) rfl (by kernel_rfl) (by kernel_rfl) (by kernel_rfl) (fun _ _ _ h => h) (Or.inl ⟨by rfl, fun w' hw => exec_load_agg _ 28 _ rfl _ _ rfl c.cells _ (hw.range rc (by simp)) Tryd.underlying28 rfl (by rw [size31, HLC.out])⟩) hS ?_
              try simp only [Act.put, List.setIfInBounds_toArray, List.set_cons_zero, List.set_cons_succ]
              refine wpAnyH_take (i := 18) (oi := { dst := some 63, op := Op.binOp BinOp.neq 28 (Operand.tmp 58) (Operand.tmp 62) 28, type := 4, pos := "law.go:41", after := #[{ on := 13, ground := Ground.data }, { on := 17, ground := Ground.data }, { on := 9, ground := Ground.guard }], guard := some (9, false) }) (v := .bool false) rfl (by kernel_rfl) (by kernel_rfl) (by kernel_rfl) (fun _ _ _ h => h) (Or.inl ⟨by rfl, fun w' hw => exec_neq_agg _ 28 _ _ _ rfl c.cells.toArray c.cells.toArray rfl rfl (by kernel_rfl) true (HE.out w')⟩) hS ?_
              try simp only [Act.put, List.setIfInBounds_toArray, List.set_cons_zero, List.set_cons_succ]
              refine wpAnyH_take (i := 19) (oi := { dst := some 64, op := Op.pick (Operand.tmp 54) (Operand.const (Value.bool true)) (Operand.tmp 63), type := 4, pos := "law.go:41", after := #[{ on := 9, ground := Ground.data }, { on := 18, ground := Ground.data }, { on := 4, ground := Ground.guard }], guard := some (4, true) }) (v := .bool false) rfl (by kernel_rfl) (by kernel_rfl) (by kernel_rfl) (fun _ _ _ h => h) (Or.inl ⟨by rfl, fun w' hw => by go_simp⟩) hS ?_
              try simp only [Act.put, List.setIfInBounds_toArray, List.set_cons_zero, List.set_cons_succ]
              refine wpAnyH_take (i := 20) (oi := { dst := some 65, op := Op.pick (Operand.tmp 49) (Operand.tmp 64) (Operand.const (Value.bool false)), type := 4, pos := "law.go:41", after := #[{ on := 4, ground := Ground.data }, { on := 19, ground := Ground.data }], guard := none }) (v := .bool false) rfl (by kernel_rfl) (by kernel_rfl) (by kernel_rfl) (fun _ _ _ h => h) (Or.inl ⟨by rfl, fun w' hw => by go_simp⟩) hS ?_
              try simp only [Act.put, List.setIfInBounds_toArray, List.set_cons_zero, List.set_cons_succ]
              refine wpAnyH_done (by kernel_rfl) ?_ _
              try simp only [Act.put, List.setIfInBounds_toArray, List.set_cons_zero, List.set_cons_succ]
              have HT4 := Lib.hid (HTd.out.trans hS (by simp))
              have HIC := Lib.hid (HId.out.trans hS (by simp))
              clear hS HTd HId hcell ry rc
              have HO5 := Lib.hid (HIC.out.owns HOC.out (by simp))
              have hc5 := owns_cell HO5.out k _ (usedL_at Z i n k htn _ rfl)
              have hf5 := owns_frozen HO5.out k
              go_wp2_with fail
              have HO6 := Lib.hid (show (W.setCell ⟨gu, k, none⟩ (.bool true)).ownsRow 0 4 1 (.slice (some ⟨gu, 0, none⟩) n n) n (usedL Z (i + 1) n) by rw [usedL_step HZI.out]; exact owns_set HO5.out k (.bool true))
              have HT6 := Lib.hid (show Touch [gu] w3 (W.setCell ⟨gu, k, none⟩ (.bool true)) from ((HT.out.trans HT4.out (by simp)).setCell (p := ⟨gu, k, none⟩) (.inl (by simp)) _))
              generalize W.setCell ⟨gu, k, none⟩ (.bool true) = W5 at *
              clear HO5 hc5 hf5 HT4 HIC HT HOU HTC HOC HRC HRT HAX hkq hk hkt htn2 hkn HE
              go_loopw [9] (fun v9 wq => ∃ j : Nat, j ≤ k ∧ v9 = .int .i64 j ∧ Touch [] W5 wq) (fun v9 _ => k - (intOf v9).toNat)
              case atStart => exact ⟨0, by omega, rfl, Touch.refl _ _⟩
              case round =>
                obtain ⟨j, hjk, rfl, ht⟩ := hrel
                have HTC := Lib.hid ht
                have hwj : IntKind.i64.wrap ((j : Int) + 1) = (j : Int) + 1 := by rw [IntKind.wrap_i64] <;> omega
                have HOC := Lib.hid (ht.owns HO6.out (by simp))
                clear ht
                by_cases hj : j < k
                · obtain ⟨y, hy⟩ : ∃ y, l[j]? = some y := ⟨_, List.getElem?_eq_getElem (by rw [← HN.out]; omega)⟩
                  have HLY := Lib.hid y.len
                  have ry := HTC.out.range (HT6.out.range (HAX0.out j y hy) (by have := HBN.out.1; simp; omega)) (by simp)
                  have rc := HTC.out.range (HT6.out.range (HAX0.out k c (HZ.out.at HZI.out)) (by have := HBN.out.1; simp; omega)) (by simp)
                  have hjn : (j : Int) < (n : Int) := by omega
                  have hkn : (k : Int) < (n : Int) := by omega
                  cases hu : decide (j ∈ (Z.take (i + 1)).map Prod.snd) with
                  | true =>
                    have hcell := owns_cell HOC.out j _ (usedL_at Z (i + 1) n j (by omega) _ hu)
                    clear hu hy
                    go_wp2_with fail
                    refine wp_region_held (S := Touch [] wr.drew) (by kernel_rfl) ?_
                    change wpAnyH _ _ _ _ _ _ _ _ wr.drew
                    have ry : wr.drew.rangeAt bx (ox + j * 17) y.cells := ry
                    have rc : wr.drew.rangeAt bx (ox + k * 17) c.cells := rc
                    have hcell : wr.drew.cell? ⟨gu, j, none⟩ = some (.bool true) := hcell
                    have HTd := Lib.hid (HTC.out.drew)
                    generalize wr.drew = W at *
                    have hS := Touch.refl [] W
                    refine wpAnyH_take (i := 0) (oi := { dst := some 80, op := Op.move (Operand.tmp 6), type := 33, pos := "law.go:49", after := #[], guard := none }) (v := .slice (some ⟨gu, 0, none⟩) n n) rfl (by kernel_rfl) (by kernel_rfl) (by kernel_rfl) (fun _ _ _ h => h) (Or.inl ⟨by rfl, fun w' hw => by go_simp⟩) hS ?_
                    try simp only [Act.put, List.setIfInBounds_toArray, List.set_cons_zero, List.set_cons_succ]
                    refine wpAnyH_take (i := 1) (oi := { dst := some 81, op := Op.move (Operand.tmp 9), type := 3, pos := "law.go:49", after := #[], guard := none }) (v := .int .i64 (j : Nat)) rfl (by kernel_rfl) (by kernel_rfl) (by kernel_rfl) (fun _ _ _ h => h) (Or.inl ⟨by rfl, fun w' hw => by go_simp⟩) hS ?_
                    try simp only [Act.put, List.setIfInBounds_toArray, List.set_cons_zero, List.set_cons_succ]
                    refine wpAnyH_take (i := 2) (oi := { dst := some 82, op := Op.indexAddr 33 (Operand.tmp 80) (Operand.tmp 81), type := 0, pos := "law.go:49", after := #[{ on := 0, ground := Ground.data }, { on := 1, ground := Ground.data }], guard := none }) (v := .pointer (some ⟨gu, j, none⟩)) rfl (by kernel_rfl) (by kernel_rfl) (by kernel_rfl) (fun _ _ _ h => h) (Or.inl ⟨by rfl, fun w' hw => by go_simp⟩) hS ?_
                    try simp only [Act.put, List.setIfInBounds_toArray, List.set_cons_zero, List.set_cons_succ]
                    refine wpAnyH_take (i := 3) (oi := { dst := some 83, op := Op.load 4 (Operand.tmp 82), type := 4, pos := "law.go:49", after := #[{ on := 2, ground := Ground.data }], guard := none }) (v := .bool true) rfl (by kernel_rfl) (by kernel_rfl) (by kernel_rfl) (fun _ _ _ h => h) (Or.inl ⟨by rfl, fun w' hw => by (have q := hw.cell hcell (by simp); go_simp)⟩) hS ?_
                    try simp only [Act.put, List.setIfInBounds_toArray, List.set_cons_zero, List.set_cons_succ]
                    refine wpAnyH_take (i := 4) (oi := { dst := some 84, op := Op.unOp UnOp.not 4 (Operand.tmp 83), type := 4, pos := "law.go:49", after := #[{ on := 3, ground := Ground.data }], guard := none }) (v := .bool false) rfl (by kernel_rfl) (by kernel_rfl) (by kernel_rfl) (fun _ _ _ h => h) (Or.inl ⟨by rfl, fun w' hw => by go_simp⟩) hS ?_
                    try simp only [Act.put, List.setIfInBounds_toArray, List.set_cons_zero, List.set_cons_succ]
                    refine wpAnyH_take (i := 5) (oi := { dst := some 85, op := Op.move (Operand.tmp 84), type := 4, pos := "law.go:49", after := #[{ on := 4, ground := Ground.data }], guard := none }) (v := .bool false) rfl (by kernel_rfl) (by kernel_rfl) (by kernel_rfl) (fun _ _ _ h => h) (Or.inl ⟨by rfl, fun w' hw => by go_simp⟩) hS ?_
                    try simp only [Act.put, List.setIfInBounds_toArray, List.set_cons_zero, List.set_cons_succ]
                    refine wpAnyH_take (i := 6) (oi := { dst := some 86, op := Op.move (Operand.tmp 3), type := 22, pos := "law.go:49", after := #[{ on := 5, ground := Ground.guard }], guard := some (5, true) }) (v := undef) rfl (by kernel_rfl) (by kernel_rfl) (by kernel_rfl) (fun _ _ _ h => h) (Or.inr ⟨by rfl, rfl⟩) hS ?_
                    try simp only [Act.put, List.setIfInBounds_toArray, List.set_cons_zero, List.set_cons_succ]
                    refine wpAnyH_take (i := 7) (oi := { dst := some 87, op := Op.move (Operand.tmp 8), type := 3, pos := "law.go:49", after := #[{ on := 5, ground := Ground.guard }], guard := some (5, true) }) (v := undef) rfl (by kernel_rfl) (by kernel_rfl) (by kernel_rfl) (fun _ _ _ h => h) (Or.inr ⟨by rfl, rfl⟩) hS ?_
                    try simp only [Act.put, List.setIfInBounds_toArray, List.set_cons_zero, List.set_cons_succ]
                    refine wpAnyH_take (i := 8) (oi := { dst := some 88, op := Op.indexAddr 22 (Operand.tmp 86) (Operand.tmp 87), type := 0, pos := "law.go:49", after := #[{ on := 6, ground := Ground.data }, { on := 7, ground := Ground.data }, { on := 5, ground := Ground.guard }], guard := some (5, true) }) (v := undef) rfl (by kernel_rfl) (by kernel_rfl) (by kernel_rfl) (fun _ _ _ h => h) (Or.inr ⟨by rfl, rfl⟩) hS ?_
                    try simp only [Act.put, List.setIfInBounds_toArray, List.set_cons_zero, List.set_cons_succ]
                    refine wpAnyH_take (i := 9) (oi := { dst := some 89, op := Op.load 28 (Operand.tmp 88), type := 28, pos := "law.go:49", after := #[{ on := 8, ground := Ground.data }, { on := 5, ground := Ground.guard }], guard := some (5, true) }) (v := undef) rfl (by kernel_rfl) (by kernel_rfl) (by kernel_rfl) (fun _ _ _ h => h) (Or.inr ⟨by rfl, rfl⟩) hS ?_
                    try simp only [Act.put, List.setIfInBounds_toArray, List.set_cons_zero, List.set_cons_succ]
                    refine wpAnyH_take (i := 10) (oi := { dst := some 90, op := Op.move (Operand.tmp 3), type := 22, pos := "law.go:49", after := #[{ on := 5, ground := Ground.guard }], guard := some (5, true) }) (v := undef) rfl (by kernel_rfl) (by kernel_rfl) (by kernel_rfl) (fun _ _ _ h => h) (Or.inr ⟨by rfl, rfl⟩) hS ?_
                    try simp only [Act.put, List.setIfInBounds_toArray, List.set_cons_zero, List.set_cons_succ]
                    refine wpAnyH_take (i := 11) (oi := { dst := some 91, op := Op.move (Operand.tmp 9), type := 3, pos := "law.go:49", after := #[{ on := 5, ground := Ground.guard }], guard := some (5, true) }) (v := undef) rfl (by kernel_rfl) (by kernel_rfl) (by kernel_rfl) (fun _ _ _ h => h) (Or.inr ⟨by rfl, rfl⟩) hS ?_
                    try simp only [Act.put, List.setIfInBounds_toArray, List.set_cons_zero, List.set_cons_succ]
                    refine wpAnyH_take (i := 12) (oi := { dst := some 92, op := Op.indexAddr 22 (Operand.tmp 90) (Operand.tmp 91), type := 0, pos := "law.go:49", after := #[{ on := 10, ground := Ground.data }, { on := 11, ground := Ground.data }, { on := 5, ground := Ground.guard }], guard := some (5, true) }) (v := undef) rfl (by kernel_rfl) (by kernel_rfl) (by kernel_rfl) (fun _ _ _ h => h) (Or.inr ⟨by rfl, rfl⟩) hS ?_
                    try simp only [Act.put, List.setIfInBounds_toArray, List.set_cons_zero, List.set_cons_succ]
                    refine wpAnyH_take (i := 13) (oi := { dst := some 93, op := Op.load 28 (Operand.tmp 92), type := 28, pos := "law.go:49", after := #[{ on := 12, ground := Ground.data }, { on := 5, ground := Ground.guard }], guard := some (5, true) }) (v := undef) rfl (by kernel_rfl) (by kernel_rfl) (by kernel_rfl) (fun _ _ _ h => h) (Or.inr ⟨by rfl, rfl⟩) hS ?_
                    try simp only [Act.put, List.setIfInBounds_toArray, List.set_cons_zero, List.set_cons_succ]
                    refine wpAnyH_take (i := 14) (oi := { dst := some 94, op := Op.call { callee := Callee.value (Operand.func 19), args := #[Operand.tmp 89, Operand.tmp 93], argTypes := #[28, 28] }, type := 4, pos := "law.go:49", after := #[{ on := 9, ground := Ground.data }, { on := 13, ground := Ground.data }, { on := 5, ground := Ground.chain }, { on := 5, ground := Ground.guard }], guard := some (5, true) }) (v := undef) rfl (by kernel_rfl) (by kernel_rfl) (by kernel_rfl) (fun _ _ _ h => h) (Or.inr ⟨by rfl, rfl⟩) hS ?_
                    try simp only [Act.put, List.setIfInBounds_toArray, List.set_cons_zero, List.set_cons_succ]
                    refine wpAnyH_take (i := 15) (oi := { dst := some 95, op := Op.unOp UnOp.not 4 (Operand.tmp 94), type := 4, pos := "law.go:49", after := #[{ on := 14, ground := Ground.data }, { on := 5, ground := Ground.guard }], guard := some (5, true) }) (v := undef) rfl (by kernel_rfl) (by kernel_rfl) (by kernel_rfl) (fun _ _ _ h => h) (Or.inr ⟨by rfl, rfl⟩) hS ?_
                    try simp only [Act.put, List.setIfInBounds_toArray, List.set_cons_zero, List.set_cons_succ]
                    refine wpAnyH_take (i := 16) (oi := { dst := some 96, op := Op.pick (Operand.tmp 85) (Operand.tmp 95) (Operand.const (Value.bool false)), type := 4, pos := "law.go:49", after := #[{ on := 5, ground := Ground.data }, { on := 15, ground := Ground.data }], guard := none }) (v := .bool false) rfl (by kernel_rfl) (by kernel_rfl) (by kernel_rfl) (fun _ _ _ h => h) (Or.inl ⟨by rfl, fun w' hw => by go_simp⟩) hS ?_
                    try simp only [Act.put, List.setIfInBounds_toArray, List.set_cons_zero, List.set_cons_succ]
                    refine wpAnyH_take (i := 17) (oi := { dst := some 97, op := Op.move (Operand.tmp 96), type := 4, pos := "law.go:49", after := #[{ on := 16, ground := Ground.data }, { on := 14, ground := Ground.chain }], guard := none }) (v := .bool false) rfl (by kernel_rfl) (by kernel_rfl) (by kernel_rfl) (fun _ _ _ h => h) (Or.inl ⟨by rfl, fun w' hw => by go_simp⟩) hS ?_
                    try simp only [Act.put, List.setIfInBounds_toArray, List.set_cons_zero, List.set_cons_succ]
                    refine wpAnyH_take (i := 18) (oi := { dst := some 98, op := Op.move (Operand.tmp 3), type := 22, pos := "law.go:49", after := #[{ on := 17, ground := Ground.guard }], guard := some (17, true) }) (v := undef) rfl (by kernel_rfl) (by kernel_rfl) (by kernel_rfl) (fun _ _ _ h => h) (Or.inr ⟨by rfl, rfl⟩) hS ?_
                    try simp only [Act.put, List.setIfInBounds_toArray, List.set_cons_zero, List.set_cons_succ]
                    refine wpAnyH_take (i := 19) (oi := { dst := some 99, op := Op.move (Operand.tmp 9), type := 3, pos := "law.go:49", after := #[{ on := 17, ground := Ground.guard }], guard := some (17, true) }) (v := undef) rfl (by kernel_rfl) (by kernel_rfl) (by kernel_rfl) (fun _ _ _ h => h) (Or.inr ⟨by rfl, rfl⟩) hS ?_
                    try simp only [Act.put, List.setIfInBounds_toArray, List.set_cons_zero, List.set_cons_succ]
                    refine wpAnyH_take (i := 20) (oi := { dst := some 100, op := Op.indexAddr 22 (Operand.tmp 98) (Operand.tmp 99), type := 0, pos := "law.go:49", after := #[{ on := 18, ground := Ground.data }, { on := 19, ground := Ground.data }, { on := 17, ground := Ground.guard }], guard := some (17, true) }) (v := undef) rfl (by kernel_rfl) (by kernel_rfl) (by kernel_rfl) (fun _ _ _ h => h) (Or.inr ⟨by rfl, rfl⟩) hS ?_
                    try simp only [Act.put, List.setIfInBounds_toArray, List.set_cons_zero, List.set_cons_succ]
                    refine wpAnyH_take (i := 21) (oi := { dst := some 101, op := Op.load 28 (Operand.tmp 100), type := 28, pos := "law.go:49", after := #[{ on := 20, ground := Ground.data }, { on := 17, ground := Ground.guard }], guard := some (17, true) }) (v := undef) rfl (by kernel_rfl) (by kernel_rfl) (by kernel_rfl) (fun _ _ _ h => h) (Or.inr ⟨by rfl, rfl⟩) hS ?_
                    try simp only [Act.put, List.setIfInBounds_toArray, List.set_cons_zero, List.set_cons_succ]
                    refine wpAnyH_take (i := 22) (oi := { dst := some 102, op := Op.move (Operand.tmp 3), type := 22, pos := "law.go:49", after := #[{ on := 17, ground := Ground.guard }], guard := some (17, true) }) (v := undef) rfl (by kernel_rfl) (by kernel_rfl) (by kernel_rfl) (fun _ _ _ h => h) (Or.inr ⟨by rfl, rfl⟩) hS ?_
                    try simp only [Act.put, List.setIfInBounds_toArray, List.set_cons_zero, List.set_cons_succ]
                    refine wpAnyH_take (i := 23) (oi := { dst := some 103, op := Op.move (Operand.tmp 8), type := 3, pos := "law.go:49", after := #[{ on := 17, ground := Ground.guard }], guard := some (17, true) }) (v := undef) rfl (by kernel_rfl) (by kernel_rfl) (by kernel_rfl) (fun _ _ _ h => h) (Or.inr ⟨by rfl, rfl⟩) hS ?_
                    try simp only [Act.put, List.setIfInBounds_toArray, List.set_cons_zero, List.set_cons_succ]
                    refine wpAnyH_take (i := 24) (oi := { dst := some 104, op := Op.indexAddr 22 (Operand.tmp 102) (Operand.tmp 103), type := 0, pos := "law.go:49", after := #[{ on := 22, ground := Ground.data }, { on := 23, ground := Ground.data }, { on := 17, ground := Ground.guard }], guard := some (17, true) }) (v := undef) rfl (by kernel_rfl) (by kernel_rfl) (by kernel_rfl) (fun _ _ _ h => h) (Or.inr ⟨by rfl, rfl⟩) hS ?_
                    try simp only [Act.put, List.setIfInBounds_toArray, List.set_cons_zero, List.set_cons_succ]
                    refine wpAnyH_take (i := 25) (oi := { dst := some 105, op := Op.load 28 (Operand.tmp 104), type := 28, pos := "law.go:49", after := #[{ on := 24, ground := Ground.data }, { on := 17, ground := Ground.guard }], guard := some (17, true) }) (v := undef) rfl (by kernel_rfl) (by kernel_rfl) (by kernel_rfl) (fun _ _ _ h => h) (Or.inr ⟨by rfl, rfl⟩) hS ?_
                    try simp only [Act.put, List.setIfInBounds_toArray, List.set_cons_zero, List.set_cons_succ]
                    refine wpAnyH_take (i := 26) (oi := { dst := some 106, op := Op.call { callee := Callee.value (Operand.func 19), args := #[Operand.tmp 101, Operand.tmp 105], argTypes := #[28, 28] }, type := 4, pos := "law.go:49", after := #[{ on := 21, ground := Ground.data }, { on := 25, ground := Ground.data }, { on := 17, ground := Ground.chain }, { on := 17, ground := Ground.guard }], guard := some (17, true) }) (v := undef) rfl (by kernel_rfl) (by kernel_rfl) (by kernel_rfl) (fun _ _ _ h => h) (Or.inr ⟨by rfl, rfl⟩) hS ?_
                    try simp only [Act.put, List.setIfInBounds_toArray, List.set_cons_zero, List.set_cons_succ]
                    refine wpAnyH_take (i := 27) (oi := { dst := some 107, op := Op.unOp UnOp.not 4 (Operand.tmp 106), type := 4, pos := "law.go:49", after := #[{ on := 26, ground := Ground.data }, { on := 17, ground := Ground.guard }], guard := some (17, true) }) (v := undef) rfl (by kernel_rfl) (by kernel_rfl) (by kernel_rfl) (fun _ _ _ h => h) (Or.inr ⟨by rfl, rfl⟩) hS ?_
                    try simp only [Act.put, List.setIfInBounds_toArray, List.set_cons_zero, List.set_cons_succ]
                    refine wpAnyH_take (i := 28) (oi := { dst := some 108, op := Op.pick (Operand.tmp 97) (Operand.tmp 107) (Operand.const (Value.bool false)), type := 4, pos := "law.go:49", after := #[{ on := 17, ground := Ground.data }, { on := 27, ground := Ground.data }], guard := none }) (v := .bool false) rfl (by kernel_rfl) (by kernel_rfl) (by kernel_rfl) (fun _ _ _ h => h) (Or.inl ⟨by rfl, fun w' hw => by go_simp⟩) hS ?_
                    try simp only [Act.put, List.setIfInBounds_toArray, List.set_cons_zero, List.set_cons_succ]
                    refine wpAnyH_done (by kernel_rfl) ?_ _
                    try simp only [Act.put, List.setIfInBounds_toArray, List.set_cons_zero, List.set_cons_succ]
                    have HT4 := Lib.hid (HTd.out.trans hS (by simp))
                    clear hS HTd hcell ry rc
                    go_wp2_with fail
                    go_roundw
                    case rel => exact ⟨j + 1, by omega, by go_num, HT4.out⟩
                    case measure => simp [intOf]; omega
                  | false =>
                    have hcell := owns_cell HOC.out j _ (usedL_at Z (i + 1) n j (by omega) _ hu)
                    have HLS := Lib.hid (lessA c y true (HZ.out.stable HZI.out hy (fun hm => by
                      rw [decide_eq_false_iff_not] at hu
                      refine hu ?_
                      rw [List.take_add_one, List.map_append, List.mem_append]
                      exact .inl hm) hj))
                    clear hu hy
                    go_wp2_with fail
                    refine wp_region_held (S := Touch [] wr.drew) (by kernel_rfl) ?_
                    change wpAnyH _ _ _ _ _ _ _ _ wr.drew
                    have ry : wr.drew.rangeAt bx (ox + j * 17) y.cells := ry
                    have rc : wr.drew.rangeAt bx (ox + k * 17) c.cells := rc
                    have hcell : wr.drew.cell? ⟨gu, j, none⟩ = some (.bool false) := hcell
                    have HTd := Lib.hid (HTC.out.drew)
                    generalize wr.drew = W at *
                    have hS := Touch.refl [] W
                    refine wpAnyH_take (i := 0) (oi := { dst := some 80, op := Op.move (Operand.tmp 6), type := 33, pos := "law.go:49", after := #[], guard := none }) (v := .slice (some ⟨gu, 0, none⟩) n n) rfl (by kernel_rfl) (by kernel_rfl) (by kernel_rfl) (fun _ _ _ h => h) (Or.inl ⟨by rfl, fun w' hw => by go_simp⟩) hS ?_
                    try simp only [Act.put, List.setIfInBounds_toArray, List.set_cons_zero, List.set_cons_succ]
                    refine wpAnyH_take (i := 1) (oi := { dst := some 81, op := Op.move (Operand.tmp 9), type := 3, pos := "law.go:49", after := #[], guard := none }) (v := .int .i64 (j : Nat)) rfl (by kernel_rfl) (by kernel_rfl) (by kernel_rfl) (fun _ _ _ h => h) (Or.inl ⟨by rfl, fun w' hw => by go_simp⟩) hS ?_
                    try simp only [Act.put, List.setIfInBounds_toArray, List.set_cons_zero, List.set_cons_succ]
                    refine wpAnyH_take (i := 2) (oi := { dst := some 82, op := Op.indexAddr 33 (Operand.tmp 80) (Operand.tmp 81), type := 0, pos := "law.go:49", after := #[{ on := 0, ground := Ground.data }, { on := 1, ground := Ground.data }], guard := none }) (v := .pointer (some ⟨gu, j, none⟩)) rfl (by kernel_rfl) (by kernel_rfl) (by kernel_rfl) (fun _ _ _ h => h) (Or.inl ⟨by rfl, fun w' hw => by go_simp⟩) hS ?_
                    try simp only [Act.put, List.setIfInBounds_toArray, List.set_cons_zero, List.set_cons_succ]
                    refine wpAnyH_take (i := 3) (oi := { dst := some 83, op := Op.load 4 (Operand.tmp 82), type := 4, pos := "law.go:49", after := #[{ on := 2, ground := Ground.data }], guard := none }) (v := .bool false) rfl (by kernel_rfl) (by kernel_rfl) (by kernel_rfl) (fun _ _ _ h => h) (Or.inl ⟨by rfl, fun w' hw => by (have q := hw.cell hcell (by simp); go_simp)⟩) hS ?_
                    try simp only [Act.put, List.setIfInBounds_toArray, List.set_cons_zero, List.set_cons_succ]
                    refine wpAnyH_take (i := 4) (oi := { dst := some 84, op := Op.unOp UnOp.not 4 (Operand.tmp 83), type := 4, pos := "law.go:49", after := #[{ on := 3, ground := Ground.data }], guard := none }) (v := .bool true) rfl (by kernel_rfl) (by kernel_rfl) (by kernel_rfl) (fun _ _ _ h => h) (Or.inl ⟨by rfl, fun w' hw => by go_simp⟩) hS ?_
                    try simp only [Act.put, List.setIfInBounds_toArray, List.set_cons_zero, List.set_cons_succ]
                    refine wpAnyH_take (i := 5) (oi := { dst := some 85, op := Op.move (Operand.tmp 84), type := 4, pos := "law.go:49", after := #[{ on := 4, ground := Ground.data }], guard := none }) (v := .bool true) rfl (by kernel_rfl) (by kernel_rfl) (by kernel_rfl) (fun _ _ _ h => h) (Or.inl ⟨by rfl, fun w' hw => by go_simp⟩) hS ?_
                    try simp only [Act.put, List.setIfInBounds_toArray, List.set_cons_zero, List.set_cons_succ]
                    refine wpAnyH_take (i := 6) (oi := { dst := some 86, op := Op.move (Operand.tmp 3), type := 22, pos := "law.go:49", after := #[{ on := 5, ground := Ground.guard }], guard := some (5, true) }) (v := .slice (some ⟨bx, ox, none⟩) n cx) rfl (by kernel_rfl) (by kernel_rfl) (by kernel_rfl) (fun _ _ _ h => h) (Or.inl ⟨by rfl, fun w' hw => by go_simp⟩) hS ?_
                    try simp only [Act.put, List.setIfInBounds_toArray, List.set_cons_zero, List.set_cons_succ]
                    refine wpAnyH_take (i := 7) (oi := { dst := some 87, op := Op.move (Operand.tmp 8), type := 3, pos := "law.go:49", after := #[{ on := 5, ground := Ground.guard }], guard := some (5, true) }) (v := .int .i64 (k : Nat)) rfl (by kernel_rfl) (by kernel_rfl) (by kernel_rfl) (fun _ _ _ h => h) (Or.inl ⟨by rfl, fun w' hw => by go_simp⟩) hS ?_
                    try simp only [Act.put, List.setIfInBounds_toArray, List.set_cons_zero, List.set_cons_succ]
                    refine wpAnyH_take (i := 8) (oi := { dst := some 88, op := Op.indexAddr 22 (Operand.tmp 86) (Operand.tmp 87), type := 0, pos := "law.go:49", after := #[{ on := 6, ground := Ground.data }, { on := 7, ground := Ground.data }, { on := 5, ground := Ground.guard }], guard := some (5, true) }) (v := .pointer (some ⟨bx, ox + k * 17, none⟩)) rfl (by kernel_rfl) (by kernel_rfl) (by kernel_rfl) (fun _ _ _ h => h) (Or.inl ⟨by rfl, fun w' hw => by go_simp⟩) hS ?_
                    try simp only [Act.put, List.setIfInBounds_toArray, List.set_cons_zero, List.set_cons_succ]
                    refine wpAnyH_take (i := 9) (oi := { dst := some 89, op := Op.load 28 (Operand.tmp 88), type := 28, pos := "law.go:49", after := #[{ on := 8, ground := Ground.data }, { on := 5, ground := Ground.guard }], guard := some (5, true) }) (v := .agg c.cells.toArray) rfl (by kernel_rfl) (by kernel_rfl) (by kernel_rfl) (fun _ _ _ h => h) (Or.inl ⟨by rfl, fun w' hw => exec_load_agg _ 28 _ rfl _ _ rfl c.cells _ (hw.range rc (by simp)) Tryd.underlying28 rfl (by rw [size31, HLC.out])⟩) hS ?_
                    try simp only [Act.put, List.setIfInBounds_toArray, List.set_cons_zero, List.set_cons_succ]
                    refine wpAnyH_take (i := 10) (oi := { dst := some 90, op := Op.move (Operand.tmp 3), type := 22, pos := "law.go:49", after := #[{ on := 5, ground := Ground.guard }], guard := some (5, true) }) (v := .slice (some ⟨bx, ox, none⟩) n cx) rfl (by kernel_rfl) (by kernel_rfl) (by kernel_rfl) (fun _ _ _ h => h) (Or.inl ⟨by rfl, fun w' hw => by go_simp⟩) hS ?_
                    try simp only [Act.put, List.setIfInBounds_toArray, List.set_cons_zero, List.set_cons_succ]
                    refine wpAnyH_take (i := 11) (oi := { dst := some 91, op := Op.move (Operand.tmp 9), type := 3, pos := "law.go:49", after := #[{ on := 5, ground := Ground.guard }], guard := some (5, true) }) (v := .int .i64 (j : Nat)) rfl (by kernel_rfl) (by kernel_rfl) (by kernel_rfl) (fun _ _ _ h => h) (Or.inl ⟨by rfl, fun w' hw => by go_simp⟩) hS ?_
                    try simp only [Act.put, List.setIfInBounds_toArray, List.set_cons_zero, List.set_cons_succ]
                    refine wpAnyH_take (i := 12) (oi := { dst := some 92, op := Op.indexAddr 22 (Operand.tmp 90) (Operand.tmp 91), type := 0, pos := "law.go:49", after := #[{ on := 10, ground := Ground.data }, { on := 11, ground := Ground.data }, { on := 5, ground := Ground.guard }], guard := some (5, true) }) (v := .pointer (some ⟨bx, ox + j * 17, none⟩)) rfl (by kernel_rfl) (by kernel_rfl) (by kernel_rfl) (fun _ _ _ h => h) (Or.inl ⟨by rfl, fun w' hw => by go_simp⟩) hS ?_
                    try simp only [Act.put, List.setIfInBounds_toArray, List.set_cons_zero, List.set_cons_succ]
                    refine wpAnyH_take (i := 13) (oi := { dst := some 93, op := Op.load 28 (Operand.tmp 92), type := 28, pos := "law.go:49", after := #[{ on := 12, ground := Ground.data }, { on := 5, ground := Ground.guard }], guard := some (5, true) }) (v := .agg y.cells.toArray) rfl (by kernel_rfl) (by kernel_rfl) (by kernel_rfl) (fun _ _ _ h => h) (Or.inl ⟨by rfl, fun w' hw => exec_load_agg _ 28 _ rfl _ _ rfl y.cells _ (hw.range ry (by simp)) Tryd.underlying28 rfl (by rw [size31, HLY.out])⟩) hS ?_
                    try simp only [Act.put, List.setIfInBounds_toArray, List.set_cons_zero, List.set_cons_succ]
                    refine wpAnyH_ready (rs := [14]) (by kernel_rfl) (by simp) ?_
                    refine AllReadyH.cons (o := { dst := some 94, op := Op.call { callee := Callee.value (Operand.func 19), args := #[Operand.tmp 89, Operand.tmp 93], argTypes := #[28, 28] }, type := 4, pos := "law.go:49", after := #[{ on := 9, ground := Ground.data }, { on := 13, ground := Ground.data }, { on := 5, ground := Ground.chain }, { on := 5, ground := Ground.guard }], guard := some (5, true) }) rfl (fun K hK => ?_) AllReadyH.nil
                    go_simp
                    refine (HLS.out _).mono ?_
                    rintro e w14 ⟨rfl, t14⟩
                    have hS2 := hS.trans t14 (by simp)
                    refine hK.out _ _ hS2 (fun _ => ?_)
                    clear hK K hS t14
                    have hS := hS2
                    clear hS2
                    try simp only [Act.put, List.setIfInBounds_toArray, List.set_cons_zero, List.set_cons_succ]
                    refine wpAnyH_take (i := 15) (oi := { dst := some 95, op := Op.unOp UnOp.not 4 (Operand.tmp 94), type := 4, pos := "law.go:49", after := #[{ on := 14, ground := Ground.data }, { on := 5, ground := Ground.guard }], guard := some (5, true) }) (v := .bool false) rfl (by kernel_rfl) (by kernel_rfl) (by kernel_rfl) (fun _ _ _ h => h) (Or.inl ⟨by rfl, fun w' hw => by go_simp⟩) hS ?_
                    try simp only [Act.put, List.setIfInBounds_toArray, List.set_cons_zero, List.set_cons_succ]
                    refine wpAnyH_take (i := 16) (oi := { dst := some 96, op := Op.pick (Operand.tmp 85) (Operand.tmp 95) (Operand.const (Value.bool false)), type := 4, pos := "law.go:49", after := #[{ on := 5, ground := Ground.data }, { on := 15, ground := Ground.data }], guard := none }) (v := .bool false) rfl (by kernel_rfl) (by kernel_rfl) (by kernel_rfl) (fun _ _ _ h => h) (Or.inl ⟨by rfl, fun w' hw => by go_simp⟩) hS ?_
                    try simp only [Act.put, List.setIfInBounds_toArray, List.set_cons_zero, List.set_cons_succ]
                    refine wpAnyH_take (i := 17) (oi := { dst := some 97, op := Op.move (Operand.tmp 96), type := 4, pos := "law.go:49", after := #[{ on := 16, ground := Ground.data }, { on := 14, ground := Ground.chain }], guard := none }) (v := .bool false) rfl (by kernel_rfl) (by kernel_rfl) (by kernel_rfl) (fun _ _ _ h => h) (Or.inl ⟨by rfl, fun w' hw => by go_simp⟩) hS ?_
                    try simp only [Act.put, List.setIfInBounds_toArray, List.set_cons_zero, List.set_cons_succ]
                    refine wpAnyH_take (i := 18) (oi := { dst := some 98, op := Op.move (Operand.tmp 3), type := 22, pos := "law.go:49", after := #[{ on := 17, ground := Ground.guard }], guard := some (17, true) }) (v := undef) rfl (by kernel_rfl) (by kernel_rfl) (by kernel_rfl) (fun _ _ _ h => h) (Or.inr ⟨by rfl, rfl⟩) hS ?_
                    try simp only [Act.put, List.setIfInBounds_toArray, List.set_cons_zero, List.set_cons_succ]
                    refine wpAnyH_take (i := 19) (oi := { dst := some 99, op := Op.move (Operand.tmp 9), type := 3, pos := "law.go:49", after := #[{ on := 17, ground := Ground.guard }], guard := some (17, true) }) (v := undef) rfl (by kernel_rfl) (by kernel_rfl) (by kernel_rfl) (fun _ _ _ h => h) (Or.inr ⟨by rfl, rfl⟩) hS ?_
                    try simp only [Act.put, List.setIfInBounds_toArray, List.set_cons_zero, List.set_cons_succ]
                    refine wpAnyH_take (i := 20) (oi := { dst := some 100, op := Op.indexAddr 22 (Operand.tmp 98) (Operand.tmp 99), type := 0, pos := "law.go:49", after := #[{ on := 18, ground := Ground.data }, { on := 19, ground := Ground.data }, { on := 17, ground := Ground.guard }], guard := some (17, true) }) (v := undef) rfl (by kernel_rfl) (by kernel_rfl) (by kernel_rfl) (fun _ _ _ h => h) (Or.inr ⟨by rfl, rfl⟩) hS ?_
                    try simp only [Act.put, List.setIfInBounds_toArray, List.set_cons_zero, List.set_cons_succ]
                    refine wpAnyH_take (i := 21) (oi := { dst := some 101, op := Op.load 28 (Operand.tmp 100), type := 28, pos := "law.go:49", after := #[{ on := 20, ground := Ground.data }, { on := 17, ground := Ground.guard }], guard := some (17, true) }) (v := undef) rfl (by kernel_rfl) (by kernel_rfl) (by kernel_rfl) (fun _ _ _ h => h) (Or.inr ⟨by rfl, rfl⟩) hS ?_
                    try simp only [Act.put, List.setIfInBounds_toArray, List.set_cons_zero, List.set_cons_succ]
                    refine wpAnyH_take (i := 22) (oi := { dst := some 102, op := Op.move (Operand.tmp 3), type := 22, pos := "law.go:49", after := #[{ on := 17, ground := Ground.guard }], guard := some (17, true) }) (v := undef) rfl (by kernel_rfl) (by kernel_rfl) (by kernel_rfl) (fun _ _ _ h => h) (Or.inr ⟨by rfl, rfl⟩) hS ?_
                    try simp only [Act.put, List.setIfInBounds_toArray, List.set_cons_zero, List.set_cons_succ]
                    refine wpAnyH_take (i := 23) (oi := { dst := some 103, op := Op.move (Operand.tmp 8), type := 3, pos := "law.go:49", after := #[{ on := 17, ground := Ground.guard }], guard := some (17, true) }) (v := undef) rfl (by kernel_rfl) (by kernel_rfl) (by kernel_rfl) (fun _ _ _ h => h) (Or.inr ⟨by rfl, rfl⟩) hS ?_
                    try simp only [Act.put, List.setIfInBounds_toArray, List.set_cons_zero, List.set_cons_succ]
                    refine wpAnyH_take (i := 24) (oi := { dst := some 104, op := Op.indexAddr 22 (Operand.tmp 102) (Operand.tmp 103), type := 0, pos := "law.go:49", after := #[{ on := 22, ground := Ground.data }, { on := 23, ground := Ground.data }, { on := 17, ground := Ground.guard }], guard := some (17, true) }) (v := undef) rfl (by kernel_rfl) (by kernel_rfl) (by kernel_rfl) (fun _ _ _ h => h) (Or.inr ⟨by rfl, rfl⟩) hS ?_
                    try simp only [Act.put, List.setIfInBounds_toArray, List.set_cons_zero, List.set_cons_succ]
                    refine wpAnyH_take (i := 25) (oi := { dst := some 105, op := Op.load 28 (Operand.tmp 104), type := 28, pos := "law.go:49", after := #[{ on := 24, ground := Ground.data }, { on := 17, ground := Ground.guard }], guard := some (17, true) }) (v := undef) rfl (by kernel_rfl) (by kernel_rfl) (by kernel_rfl) (fun _ _ _ h => h) (Or.inr ⟨by rfl, rfl⟩) hS ?_
                    try simp only [Act.put, List.setIfInBounds_toArray, List.set_cons_zero, List.set_cons_succ]
                    refine wpAnyH_take (i := 26) (oi := { dst := some 106, op := Op.call { callee := Callee.value (Operand.func 19), args := #[Operand.tmp 101, Operand.tmp 105], argTypes := #[28, 28] }, type := 4, pos := "law.go:49", after := #[{ on := 21, ground := Ground.data }, { on := 25, ground := Ground.data }, { on := 17, ground := Ground.chain }, { on := 17, ground := Ground.guard }], guard := some (17, true) }) (v := undef) rfl (by kernel_rfl) (by kernel_rfl) (by kernel_rfl) (fun _ _ _ h => h) (Or.inr ⟨by rfl, rfl⟩) hS ?_
                    try simp only [Act.put, List.setIfInBounds_toArray, List.set_cons_zero, List.set_cons_succ]
                    refine wpAnyH_take (i := 27) (oi := { dst := some 107, op := Op.unOp UnOp.not 4 (Operand.tmp 106), type := 4, pos := "law.go:49", after := #[{ on := 26, ground := Ground.data }, { on := 17, ground := Ground.guard }], guard := some (17, true) }) (v := undef) rfl (by kernel_rfl) (by kernel_rfl) (by kernel_rfl) (fun _ _ _ h => h) (Or.inr ⟨by rfl, rfl⟩) hS ?_
                    try simp only [Act.put, List.setIfInBounds_toArray, List.set_cons_zero, List.set_cons_succ]
                    refine wpAnyH_take (i := 28) (oi := { dst := some 108, op := Op.pick (Operand.tmp 97) (Operand.tmp 107) (Operand.const (Value.bool false)), type := 4, pos := "law.go:49", after := #[{ on := 17, ground := Ground.data }, { on := 27, ground := Ground.data }], guard := none }) (v := .bool false) rfl (by kernel_rfl) (by kernel_rfl) (by kernel_rfl) (fun _ _ _ h => h) (Or.inl ⟨by rfl, fun w' hw => by go_simp⟩) hS ?_
                    try simp only [Act.put, List.setIfInBounds_toArray, List.set_cons_zero, List.set_cons_succ]
                    refine wpAnyH_done (by kernel_rfl) ?_ _
                    try simp only [Act.put, List.setIfInBounds_toArray, List.set_cons_zero, List.set_cons_succ]
                    have HT4 := Lib.hid (HTd.out.trans hS (by simp))
                    clear hS HTd hcell ry rc
                    go_wp2_with fail
                    go_roundw
                    case rel => exact ⟨j + 1, by omega, by go_num, HT4.out⟩
                    case measure => simp [intOf]; omega
                · go_wp2_with fail
                  go_roundw
                  case rel => exact ⟨i + 1, by omega, by go_num, HOC.out, HT6.out.trans HTC.out (by simp)⟩
                  case measure => simp [intOf]; omega
        · have HT7 := Lib.hid (HT3.out.trans HT.out (by intro y hy; right; simp at hy; rw [hy]; exact HG2.out))
          have hbs : Rd wr 17 bs (.slice aS n cs) ((Z.map Prod.fst).map Ad.cells) := by
            rcases Nat.eq_zero_or_pos n with h0 | h0
            · have hz0 : Z = [] := List.eq_nil_of_length_eq_zero (by rw [HZN.out]; exact h0)
              have h := HS3.out
              rw [hz0, h0] at h ⊢
              obtain ⟨a', cap', hv', h1, h2, h3, h4⟩ := h
              exact ⟨a', cap', hv', h1, h2, h3, fun h => absurd rfl h⟩
            · exact HS3.out.touch HT.out (by have := (HBX.out h0).2; simp; omega)
          have HRF := Lib.hid hbs
          clear hbs
          go_wp2_with fail
          refine (awake_ok _).mono ?_
          rintro e w8 ⟨rfl, t8⟩
          have HRG := Lib.hid (HRF.out.touch t8 (by simp))
          have HT8 := Lib.hid (HT7.out.trans t8 (by simp))
          have hzl : (Z.map Prod.fst).length ≤ 1000000 := by rw [List.length_map, HZN.out]; omega
          have HSO2 := Lib.hid (sortA_any _ bs (Z.map Prod.fst) w8 HRG.out hzl)
          clear t8 hzl
          go_wp2_with fail
          refine HSO2.out.mono ?_
          rintro e w9 ⟨v9, rfl, o9, t9⟩
          rw [← HSE.out, sortS_idem, HSE.out] at o9
          obtain ⟨b9, r9, _⟩ := o9.rd
          have HR9 := Lib.hid r9
          have HRH := Lib.hid (HRG.out.touch t9 (by simp))
          have HT9 := Lib.hid (HT8.out.trans t9 (by simp))
          clear o9 t9 r9
          go_wp2_with fail
          refine (equalT _ _ b9 bs _ _ HR9.out HRH.out).mono ?_
          rintro e w10 ⟨rfl, t10⟩
          have HT10 := Lib.hid (HT9.out.trans t10 (by simp))
          clear t10
          go_wp2_with fail
          go_ret
          exact ⟨rfl, HT10.out⟩
theorem walk {H : Type} {enc : TypeId × Value → H} {w : World} (v : Value) (hv : IsSlice enc Tryd.prog w 0 (fun _ => true) true [4, 5, 5, 5, 5, 5, 5, 5, 5, 5, 5, 5, 5, 5, 5, 5, 5] v) :
    Calls Tryd.prog 4 #[v] w fun e w' => e = .returned (.bool true) ∧ Below w.heap.size w w' := by
  obtain ⟨b, xs, hr, hx⟩ := slice_rows (by simp) hv
  exact (walk0 v b xs w hr (fun x h => isAd_cells (hx x h))).mono fun e w' ⟨h1, h2⟩ => ⟨h1, h2.below (by simp) (Nat.le_refl _)⟩
end Go.Proofs.YtiklhaajhdephaaDoor.addrsortIsStableSort

/-
  The contract of the reference table's Endpoints: the keys, sorted.
-/
import Derived.Test.YtnglkdpmkgehoaaEq
import Derived.Test.YtnglkdpmkgehoaaRc
import Derived.Deep.QuietTactic
import Derived.BigQuiet
namespace Go.Proofs.Ytnglkdpmkgehoaa
open Go.RowKit Go.Deep
set_option linter.unusedVariables false
set_option linter.unusedSimpArgs false

theorem encL_take (ks : List Key) (i : Nat) : ∀ x ∈ (ks.map encL).take i, x.length = 2 := fun x hx => encL_two ks x (List.mem_of_mem_take hx)
theorem encL_drop (ks : List Key) (i : Nat) : ∀ x ∈ (ks.map encL).drop i, x.length = 2 := fun x hx => encL_two ks x (List.mem_of_mem_drop hx)
theorem encL_one_sub {ks : List Key} {l : List (List Value)} (h : l.Sublist (ks.map encL)) : ∀ u ∈ l.flatten, u.oneCell' = true := by
  intro u hu
  obtain ⟨x, hx, hux⟩ := List.mem_flatten.1 hu
  obtain ⟨y, _, rfl⟩ := List.mem_map.1 (h.subset hx)
  exact encL_one y u hux
/-- The place of a key among sorted keys. -/
def pos (x : Key) (ks : List Key) : Nat := ks.findIdx fun y => !ltOf cmpK y x
theorem pos_le (x : Key) (ks : List Key) : pos x ks ≤ ks.length := List.findIdx_le_length
theorem pos_at {x y : Key} {ks : List Key} (h : ks[pos x ks]? = some y) : ltOf cmpK y x = false := by
  obtain ⟨hl, he⟩ := List.getElem?_eq_some_iff.1 h
  have h2 := List.findIdx_getElem (p := fun y : Key => !ltOf cmpK y x) (xs := ks) (w := hl)
  have h3 : ks[List.findIdx (fun y : Key => !ltOf cmpK y x) ks] = y := he
  rw [h3] at h2
  simpa using h2
theorem pos_before {x y : Key} {ks : List Key} {k : Nat} (hk : k < pos x ks) (h : ks[k]? = some y) : ltOf cmpK y x = true := by
  obtain ⟨hl, he⟩ := List.getElem?_eq_some_iff.1 h
  have h2 := List.not_of_lt_findIdx (p := fun y : Key => !ltOf cmpK y x) (xs := ks) hk
  rw [he] at h2
  simpa using h2
theorem pos_sorted {x : Key} {L : List Key} : (sortK L).take (pos x (sortK L)) ++ x :: (sortK L).drop (pos x (sortK L)) = sortK (L ++ [x]) := by
  have hs := sortK_sorted L
  have hp := sortK_perm L
  generalize hS : sortK L = S at *
  refine sorted_unique ?_ ?_ (sortK_sorted _)
  · refine List.Perm.trans ?_ (sortK_perm _).symm
    have h1 : (S.take (pos x S) ++ x :: S.drop (pos x S)).Perm (x :: S) := by
      refine List.perm_middle.trans ?_
      rw [List.take_append_drop]
    exact h1.trans ((hp.cons x).trans (List.perm_append_singleton x L).symm)
  · have hbef : ∀ y ∈ S.take (pos x S), ltOf cmpK y x = true := by
      intro y hy
      obtain ⟨i, hi⟩ := List.getElem?_of_mem hy
      rw [List.getElem?_take] at hi
      split at hi
      · exact pos_before (by assumption) hi
      · cases hi
    have haft : ∀ y ∈ S.drop (pos x S), ltOf cmpK y x = false := by
      intro y hy
      obtain ⟨i, hi⟩ := List.getElem?_of_mem hy
      rw [List.getElem?_drop] at hi
      have hlt : pos x S < S.length := by
        have := (List.getElem?_eq_some_iff.1 hi).1
        omega
      have h0 := pos_at (x := x) (List.getElem?_eq_getElem hlt)
      rcases Nat.eq_zero_or_pos i with rfl | hpos
      · rw [Nat.add_zero, List.getElem?_eq_getElem hlt] at hi
        cases hi
        exact h0
      · obtain ⟨hl2, he2⟩ := List.getElem?_eq_some_iff.1 hi
        have h3 := (List.pairwise_iff_getElem.1 hs) (pos x S) (pos x S + i) hlt hl2 (by omega)
        rw [he2] at h3
        simp only [Bool.not_eq_true'] at h3
        exact swoK.ntrans _ _ _ h3 h0
    rw [List.pairwise_append]
    refine ⟨hs.sublist (List.take_sublist _ _), ?_, ?_⟩
    · rw [List.pairwise_cons]
      refine ⟨fun y hy => by simp [haft y hy], hs.sublist (List.drop_sublist _ _)⟩
    · intro a ha b hb
      rcases List.mem_cons.1 hb with rfl | hb
      · have h1 := hbef a ha
        rw [ltK] at h1 ⊢
        simp only [decide_eq_true_eq, Bool.not_eq_true', decide_eq_false_iff_not] at h1 ⊢
        omega
      · have h1 := hbef a ha
        have h2 := haft b hb
        rw [ltK] at h1 h2 ⊢
        simp only [decide_eq_true_eq, Bool.not_eq_true', decide_eq_false_iff_not] at h1 h2 ⊢
        omega

theorem ins_own {w : World} {x : Key} {ks ks2 : List Key} {k n : Nat} {v : Value} (hk : pos x ks = k) (hn : ks.length = n) (hp : ks.take (pos x ks) ++ x :: ks.drop (pos x ks) = ks2) (hle : pos x ks ≤ n)
    (o : w.ownsRow 0 23 2 v (k + 1 + (n - k)) (((ks.map encL).take k).flatten ++ [Value.int .i64 x.1, .int .i64 x.2] ++ ((ks.map encL).drop k).flatten)) : w.ownsRow 0 23 2 v ks2.length (ks2.map encL).flatten := by
  subst hk
  have e1 : ks2.length = pos x ks + 1 + (n - pos x ks) := by rw [← hp]; simp; omega
  have e2 : (ks2.map encL).flatten = ((ks.map encL).take (pos x ks)).flatten ++ [Value.int .i64 x.1, .int .i64 x.2] ++ ((ks.map encL).drop (pos x ks)).flatten := by
    rw [← hp]
    simp [encL]
  rw [e1, e2]
  exact o
set_option maxRecDepth 100000 in
set_option maxHeartbeats 4000000 in
theorem rend_any (x : Nat) (limit : Int) (v : Value) (live : List Fd) (total : Int) (w : World) (h : Rf w x limit v live total) :
    Calls Try.prog 27 #[.pointer (some ⟨x, 0, none⟩)] w fun e w' => ∃ v, e = .returned v ∧ OwnK w w' v (sortK (live.map (·.key))) ∧ Touch [] w w' := by
  obtain ⟨i23, hi23, hz23, hs23, hb23⟩ := info_parts info23
  have hfew := h.few
  obtain ⟨lv, lc, rfl, hv1, hv2, hv3⟩ := h.form
  have hR := Lib.hid (fun wr (ht : Touch [] w wr) => h.touch ht (by simp))
  clear h
  go_enter Try.func27, Try.ntmps27
  go_wp2_with fail
  go_loopw [3, 4] (fun vo vi wr => ∃ (i : Nat), i ≤ live.length ∧ vi = .int .i64 i ∧ OwnK w wr vo (sortK ((live.take i).map (·.key))) ∧ Touch [] w wr) (fun _ vi _ => live.length - (intOf vi).toNat)
  case atStart => exact ⟨0, by omega, rfl, by simpa [sortK] using OwnK.nil w w, Touch.refl _ _⟩
  case round =>
    obtain ⟨i, hi, rfl, ho, ht⟩ := hrel
    have hRr := hR.out wr ht
    obtain ⟨c0, c1, c2⟩ := hRr.cells
    by_cases hlt : i < live.length
    · have hfi : live[i]? = some live[i] := List.getElem?_eq_getElem hlt
      obtain ⟨g, rfl, hgx⟩ := hv3 (by omega)
      obtain ⟨q0, q1, _, _⟩ := hRr.elems hfi
      have hsnoc : (live.take (i + 1)).map (·.key) = (live.take i).map (·.key) ++ [live[i].key] := by
        rw [List.take_add_one, hfi, List.map_append]
        rfl
      generalize live[i] = f at *
      have hks := sortK_perm ((live.take i).map (·.key))
      have hkl : (sortK ((live.take i).map (·.key))).length = i := by
        have := hks.length_eq
        rw [this]
        simp
        omega
      have hpos := pos_sorted (x := f.key) (L := (live.take i).map (·.key))
      rw [← hsnoc] at hpos
      generalize sortK ((live.take i).map (·.key)) = ks at *
      obtain ⟨⟨kc, ka⟩, fg, fno, fst⟩ := f
      simp only at q0 q1 hpos
      have HPos := Lib.hid hpos
      have HKL := Lib.hid hkl
      clear hpos hks hsnoc hfi hRr hkl
      obtain ⟨av, cv, rfl, hk1, hk2, hk3⟩ := owns_form ho.row
      have hk4 : cv ≤ 9223372036854775807 := by unfold maxLen at hk2; omega
      have hvnew := ho.new
      obtain ⟨b, hb⟩ := ho.rd
      obtain ⟨n, hn⟩ : ∃ n, ks.length = n := ⟨_, rfl⟩
      rw [hn] at hb hk1 hk3 ho hvnew ⊢
      have HN := Lib.hid hn
      have hni0 : n = i := by rw [← hn]; exact HKL.out
      have HNI := Lib.hid hni0
      clear hni0
      clear hn
      have tD := (Touch.refl [] wr).alloc (.cells #[.int .i64 kc, .int .i64 ka] 23)
      obtain ⟨d0, d1⟩ := cells_two (heap_alloc_new wr (.cells #[.int .i64 kc, .int .i64 ka] 23))
      go_wp2_with (first
        | (refine wpList_store_new rfl 23 _ _ rfl _ _ [.int .i64 kc, .int .i64 ka] (by rfl) (by rfl) rfl size23 (by simp [Value.oneCell']) ?_))
      have T1 := ht.trans tD (by simp)
      have hbW := hb.touch tD (by simp)
      have zD := tD.size
      clear q0 q1 c0 c1 c2
      generalize wr.alloc (.cells #[.int .i64 kc, .int .i64 ka] 23) = W at *
      generalize wr.heap.size = D at *
      go_loopw [6] (fun vk wq => ∃ (k : Nat), k ≤ pos (kc, ka) ks ∧ vk = .int .i64 k ∧ Touch [] W wq) (fun vk _ => n - (intOf vk).toNat)
      case atStart => exact ⟨0, by omega, rfl, Touch.refl _ _⟩
      case round =>
        obtain ⟨k, hk, rfl, tq⟩ := hrel
        have hple := pos_le (kc, ka) ks
        rw [HN.out] at hple
        have x0 := tq.cell d0 (by simp)
        have x1 := tq.cell d1 (by simp)
        have hbq := hbW.touch tq (by simp)
        by_cases hkn : k < n
        · have hy := List.getElem?_eq_getElem (l := ks) (i := k) (by rw [HN.out]; exact hkn)
          generalize ks[k]'(by rw [HN.out]; exact hkn) = y at hy
          obtain ⟨yc, ya⟩ := y
          obtain ⟨off, rfl, y0, y1⟩ := rd_key hbq hy
          have hcond : k < pos (kc, ka) ks ↔ (yc < kc ∨ (yc = kc ∧ ya < ka)) := by
            constructor
            · intro h1
              have := pos_before h1 hy
              rw [ltK] at this
              simpa using this
            · intro h1
              rcases Nat.lt_or_ge k (pos (kc, ka) ks) with h2 | h2
              · exact h2
              · exfalso
                have e : k = pos (kc, ka) ks := by omega
                have := pos_at (x := (kc, ka)) (by rw [← e]; exact hy)
                rw [ltK] at this
                simp at this
                omega
          have HC := Lib.hid hcond
          clear hcond hy hbq
          by_cases a1 : yc < kc
          · have hlt2 := HC.out.2 (.inl a1)
            have ed : decide (yc < kc) = true := by simpa using a1
            have ek : decide (k < n) = true := by simpa using hkn
            go_wp2_with fail
            go_quiet (fail)
            go_wp2_with fail
            go_roundw
            case rel => exact ⟨k + 1, by omega, by go_num, tq.drews _⟩
            case measure => simp [intOf]; omega
          · by_cases a2 : yc = kc
            · have e2 : (yc == kc) = true := by simpa using a2
              have ed : decide (yc < kc) = false := by simpa using a1
              have ek : decide (k < n) = true := by simpa using hkn
              by_cases a3 : ya < ka
              · have hlt2 := HC.out.2 (.inr ⟨a2, a3⟩)
                clear a2
                go_wp2_with fail
                go_quiet (fail)
                go_wp2_with fail
                go_roundw
                case rel => exact ⟨k + 1, by omega, by go_num, tq.drews _⟩
                case measure => simp [intOf]; omega
              · have hkp : pos (kc, ka) ks = k := by
                  rcases Nat.lt_or_ge k (pos (kc, ka) ks) with h2 | h2
                  · have := HC.out.1 h2
                    omega
                  · omega
                clear a2
                go_wp2_with fail
                go_quiet (fail)
                go_wp2_with fail
                have hkpH := Lib.hid hkp
                clear hkp
                have tV : Touch [] W (wr.drewN nq).drew := (tq.drews nq).drew
                have x0 := tV.cell d0 (by simp)
                have x1 := tV.cell d1 (by simp)
                have hRd := hbW.touch tV (by simp)
                have hS := Touch.refl [] (wr.drewN nq).drew
                have hkn2 : k ≤ n := by omega
                have i2 : (k : Int) ≤ (cv : Int) := by omega
                have i3 : ¬ cv < k := by omega
                have hnB : n ≤ 1000 := by have := HNI.out; omega
                refine wp_region_held (S := Touch [] (wr.drewN nq).drew) (by kernel_rfl) ?_
                change wpAnyH _ _ _ _ _ _ _ _ (wr.drewN nq).drew
                generalize (wr.drewN nq).drew = V at *
                refine wpAnyH_take (i := 0) (oi := { dst := some 60, op := Op.move (Operand.tmp 3), type := 39, pos := "ref.go:395", after := #[], guard := none }) (v := .slice (some ⟨b, off, none⟩) n cv) rfl (by kernel_rfl) (by kernel_rfl) (by kernel_rfl) (fun _ _ _ h => h) (Or.inl ⟨by rfl, fun w' hw => by go_simp⟩) hS ?_
                try simp only [Act.put, List.setIfInBounds_toArray, List.set_cons_zero, List.set_cons_succ]
                refine wpAnyH_take (i := 1) (oi := { dst := some 61, op := Op.move (Operand.tmp 6), type := 3, pos := "ref.go:395", after := #[], guard := none }) (v := .int .i64 k) rfl (by kernel_rfl) (by kernel_rfl) (by kernel_rfl) (fun _ _ _ h => h) (Or.inl ⟨by rfl, fun w' hw => by go_simp⟩) hS ?_
                try simp only [Act.put, List.setIfInBounds_toArray, List.set_cons_zero, List.set_cons_succ]
                refine wpAnyH_take (i := 2) (oi := { dst := some 62, op := Op.slice 39 (Operand.tmp 60) none (some (Operand.tmp 61)) none, type := 39, pos := "ref.go:395", after := #[{ on := 0, ground := Ground.data }, { on := 1, ground := Ground.data }], guard := none }) (v := .slice (some ⟨b, off, none⟩) k cv) rfl (by kernel_rfl) (by kernel_rfl) (by kernel_rfl) (fun _ _ _ h => h) (Or.inl ⟨by rfl, fun w' hw => by go_simp⟩) hS ?_
                try simp only [Act.put, List.setIfInBounds_toArray, List.set_cons_zero, List.set_cons_succ]
                refine wpAnyH_take (i := 4) (oi := { dst := some 64, op := Op.load 23 (Operand.tmp 5), type := 23, pos := "ref.go:395", after := #[], guard := none }) (v := .agg #[.int .i64 kc, .int .i64 ka]) rfl (by kernel_rfl) (by kernel_rfl) (by kernel_rfl) (fun _ _ _ h => h) (Or.inl ⟨by rfl, fun w' hw => by (have q0 := hw.cell x0 (by simp); have q1 := hw.cell x1 (by simp); go_simp)⟩) hS ?_
                try simp only [Act.put, List.setIfInBounds_toArray, List.set_cons_zero, List.set_cons_succ]
                refine wpAnyH_take (i := 7) (oi := { dst := some 67, op := Op.move (Operand.tmp 3), type := 39, pos := "ref.go:395", after := #[], guard := none }) (v := .slice (some ⟨b, off, none⟩) n cv) rfl (by kernel_rfl) (by kernel_rfl) (by kernel_rfl) (fun _ _ _ h => h) (Or.inl ⟨by rfl, fun w' hw => by go_simp⟩) hS ?_
                try simp only [Act.put, List.setIfInBounds_toArray, List.set_cons_zero, List.set_cons_succ]
                refine wpAnyH_take (i := 8) (oi := { dst := some 68, op := Op.move (Operand.tmp 6), type := 3, pos := "ref.go:395", after := #[], guard := none }) (v := .int .i64 k) rfl (by kernel_rfl) (by kernel_rfl) (by kernel_rfl) (fun _ _ _ h => h) (Or.inl ⟨by rfl, fun w' hw => by go_simp⟩) hS ?_
                try simp only [Act.put, List.setIfInBounds_toArray, List.set_cons_zero, List.set_cons_succ]
                refine wpAnyH_take (i := 9) (oi := { dst := some 69, op := Op.slice 39 (Operand.tmp 67) (some (Operand.tmp 68)) none none, type := 39, pos := "ref.go:395", after := #[{ on := 7, ground := Ground.data }, { on := 8, ground := Ground.data }], guard := none }) (v := cutv (some ⟨b, off, none⟩) n cv k 2) rfl (by kernel_rfl) (by kernel_rfl) (by kernel_rfl) (fun _ _ _ h => h) (yieldsIf_from (by rfl) 39 _ _ rfl 23 2 Try.underlying39 size23 _ _ _ k (by rfl) (by rfl) (by omega)) hS ?_
                try simp only [Act.put, List.setIfInBounds_toArray, List.set_cons_zero, List.set_cons_succ]
                refine wpAnyH_ready (rs := [3, 5]) (by kernel_rfl) (by simp) ?_
                refine AllReadyH.cons (o := { dst := some 63, op := Op.call { callee := Callee.builtin Builtin.append, args := #[Operand.const (Value.slice none 0 0), Operand.tmp 62], argTypes := #[39, 39] }, type := 39, pos := "ref.go:395", after := #[{ on := 2, ground := Ground.data }], guard := none }) rfl (fun K hK => ?_) (AllReadyH.cons (o := { dst := some 65, op := Op.buildSlice 39 1 #[(0, Operand.tmp 64)], type := 39, pos := "ref.go:395", after := #[{ on := 4, ground := Ground.data }], guard := none }) rfl (fun K hK => ?_) AllReadyH.nil)
                · have r1 := (hRd.touch hS (by simp)).take k (by rw [List.length_map, HN.out]; omega)
                  obtain ⟨p1, p2⟩ := r1.news (by omega) (encL_take ks k)
                  refine step_app _ (by rfl) (.const (.slice none 0 0)) (.tmp 62) 39 (by rfl) 23 i23 _ 2 16 Try.underlying39 hi23 hz23 hs23 hb23 rfl (by omega) _ 0 _ (by rfl) (World.ownsRow_nil _ _ _ _) _ k _ ((ks.map encL).take k).flatten (by rfl) (by rw [flat_len (encL_take ks k), List.length_take, List.length_map, HN.out]; congr 1; omega) p1 p2 (encL_one_sub (List.take_sublist _ _)) (by unfold maxLen; omega) (by omega) ?_
                  intro v1 w1 o1 t1 b1
                  simp only [Nat.zero_add, List.nil_append] at o1
                  have t1' : Touch [] V w1 := t1.mono (by simp [Value.ownBlock])
                  have hnew1 := own_new b1 (m := V.heap.size) (by simp [Value.ownBlock]) hS.size
                  have hS2 := hS.trans t1' (by simp)
                  refine hK.out _ _ hS2 (fun _ => ?_)
                  clear hK K hS
                  have hS := hS2
                  clear hS2
                  clear p1 p2 r1 t1 b1 t1'
                  try simp only [Act.put, List.setIfInBounds_toArray, List.set_cons_zero, List.set_cons_succ]
                  refine wpAnyH_ready (rs := [5]) (by kernel_rfl) (by simp) ?_
                  refine AllReadyH.cons (o := { dst := some 65, op := Op.buildSlice 39 1 #[(0, Operand.tmp 64)], type := 39, pos := "ref.go:395", after := #[{ on := 4, ground := Ground.data }], guard := none }) rfl (fun K hK => ?_) AllReadyH.nil
                  refine step_of_list rfl ?_
                  refine wpList_buildSlice_rows rfl 39 1 _ rfl 23 2 i23 _ Try.underlying39 hi23 hz23 hs23 (by omega) [[.int .i64 kc, .int .i64 ka]] rfl (by simp) (by omega) (by rfl) ?_
                  change wpList _ _ _ _ _ (w1.alloc (.cells #[Value.int .i64 kc, .int .i64 ka] 23))
                  have tb := (Touch.refl [] w1).alloc (.cells #[Value.int .i64 kc, .int .i64 ka] 23)
                  have gb := range_new w1 [Value.int .i64 kc, .int .i64 ka] 23
                  have o1 := o1.alloc (.cells #[Value.int .i64 kc, .int .i64 ka] 23)
                  have hS2 := hS.trans tb (by simp)
                  refine ⟨rfl, hK.out _ _ hS2 (fun _ => ?_)⟩
                  clear hK K hS
                  have hS := hS2
                  clear hS2
                  try simp only [Act.put, List.setIfInBounds_toArray, List.set_cons_zero, List.set_cons_succ]
                  refine wpAnyH_ready (rs := [6]) (by kernel_rfl) (by simp) ?_
                  refine AllReadyH.cons (o := { dst := some 66, op := Op.call { callee := Callee.builtin Builtin.append, args := #[Operand.tmp 63, Operand.tmp 65], argTypes := #[39, 39] }, type := 39, pos := "ref.go:395", after := #[{ on := 3, ground := Ground.data }, { on := 5, ground := Ground.data }, { on := 3, ground := Ground.chain }], guard := none }) rfl (fun K hK => ?_) AllReadyH.nil
                  refine step_app _ (by rfl) (.tmp 63) (.tmp 65) 39 (by rfl) 23 i23 _ 2 16 Try.underlying39 hi23 hz23 hs23 hb23 rfl (by omega) _ k _ (by rfl) o1 _ 1 1 [Value.int .i64 kc, .int .i64 ka] (by rfl) (by rfl) (by intro h; cases h) (by intro ad h j u hu; cases h; rw [Addr.add_lit]; exact gb j u hu) (by intro u hu; simp at hu; rcases hu with rfl | rfl <;> rfl) (by unfold maxLen; omega) (by omega) ?_
                  intro v2 w2 o2 t2 b2
                  have hnew2 := own_new b2 hnew1 hS.size
                  have hS2 := hS.trans t2 (fun y hy => .inr (hnew1 y (by simpa using hy)))
                  refine hK.out _ _ hS2 (fun _ => ?_)
                  clear hK K hS
                  have hS := hS2
                  clear hS2
                  clear t2 b2 o1 gb
                  try simp only [Act.put, List.setIfInBounds_toArray, List.set_cons_zero, List.set_cons_succ]
                  refine wpAnyH_ready (rs := [10]) (by kernel_rfl) (by simp) ?_
                  refine AllReadyH.cons (o := { dst := some 70, op := Op.call { callee := Callee.builtin Builtin.append, args := #[Operand.tmp 66, Operand.tmp 69], argTypes := #[39, 39] }, type := 39, pos := "ref.go:395", after := #[{ on := 6, ground := Ground.data }, { on := 9, ground := Ground.data }, { on := 6, ground := Ground.chain }], guard := none }) rfl (fun K hK => ?_) AllReadyH.nil
                  have r3 := (hRd.touch hS (by simp)).drop (P := Try.prog) (T := 0) (e := 0) k (by rw [List.length_map, HN.out]; omega)
                  obtain ⟨p1, p2⟩ := r3.news (by omega) (encL_drop ks k)
                  refine step_app _ (by rfl) (.tmp 66) (.tmp 69) 39 (by rfl) 23 i23 _ 2 16 Try.underlying39 hi23 hz23 hs23 hb23 rfl (by omega) _ (k + 1) _ (by rfl) o2 _ (n - k) _ ((ks.map encL).drop k).flatten (by rfl) (by rw [flat_len (encL_drop ks k)]; simp [HN.out]) p1 p2 (encL_one_sub (List.drop_sublist _ _)) (by unfold maxLen; omega) (by omega) ?_
                  intro v3 w3 o3 t3 b3
                  have hnew3 := own_new b3 hnew2 hS.size
                  have hS2 := hS.trans t3 (fun y hy => .inr (hnew2 y (by simpa using hy)))
                  refine hK.out _ _ hS2 (fun _ => ?_)
                  clear hK K hS
                  have hS := hS2
                  clear hS2
                  clear t3 b3 o2 p1 p2 r3
                  try simp only [Act.put, List.setIfInBounds_toArray, List.set_cons_zero, List.set_cons_succ]
                  refine wpAnyH_take (i := 11) (oi := { dst := some 3, op := Op.assign (Operand.tmp 70), type := 39, pos := "ref.go:395", after := #[{ on := 10, ground := Ground.data }, { on := 10, ground := Ground.chain }, { on := 0, ground := Ground.phase }, { on := 1, ground := Ground.phase }, { on := 2, ground := Ground.phase }, { on := 3, ground := Ground.phase }, { on := 4, ground := Ground.phase }, { on := 5, ground := Ground.phase }, { on := 6, ground := Ground.phase }, { on := 7, ground := Ground.phase }, { on := 8, ground := Ground.phase }, { on := 9, ground := Ground.phase }, { on := 10, ground := Ground.phase }], guard := none }) (v := v3) rfl (by kernel_rfl) (by kernel_rfl) (by kernel_rfl) (fun _ _ _ h => h) (Or.inl ⟨by rfl, fun w' hw => by go_simp⟩) hS ?_
                  try simp only [Act.put, List.setIfInBounds_toArray, List.set_cons_zero, List.set_cons_succ]
                  refine wpAnyH_done (by kernel_rfl) ?_ _
                  have o5 := ins_own hkpH.out HN.out HPos.out hple o3
                  have T5 := T1.trans (tV.trans hS (by simp)) (by simp)
                  have OK : OwnK w w3 v3 (sortK ((live.take (i + 1)).map (·.key))) := ⟨o5, fun g2 hg2 => Nat.le_trans (Nat.le_trans T1.size tV.size) (hnew3 g2 hg2)⟩
                  have HOK := Lib.hid OK
                  clear OK o5 o3 hnew3 hnew2 hnew1
                  go_wp2_with fail
                  go_roundw
                  case rel => exact ⟨i + 1, by omega, by go_num, HOK.out, T5⟩
                  case measure => simp [intOf]; omega
                · refine step_of_list rfl ?_
                  refine wpList_buildSlice_rows rfl 39 1 _ rfl 23 2 i23 _ Try.underlying39 hi23 hz23 hs23 (by omega) [[.int .i64 kc, .int .i64 ka]] rfl (by simp) (by omega) (by rfl) ?_
                  change wpList _ _ _ _ _ (V.alloc (.cells #[Value.int .i64 kc, .int .i64 ka] 23))
                  have tb := (Touch.refl [] V).alloc (.cells #[Value.int .i64 kc, .int .i64 ka] 23)
                  have gb := range_new V [Value.int .i64 kc, .int .i64 ka] 23
                  have hS2 := hS.trans tb (by simp)
                  refine ⟨rfl, hK.out _ _ hS2 (fun _ => ?_)⟩
                  clear hK K hS
                  have hS := hS2
                  clear hS2
                  try simp only [Act.put, List.setIfInBounds_toArray, List.set_cons_zero, List.set_cons_succ]
                  refine wpAnyH_ready (rs := [3]) (by kernel_rfl) (by simp) ?_
                  refine AllReadyH.cons (o := { dst := some 63, op := Op.call { callee := Callee.builtin Builtin.append, args := #[Operand.const (Value.slice none 0 0), Operand.tmp 62], argTypes := #[39, 39] }, type := 39, pos := "ref.go:395", after := #[{ on := 2, ground := Ground.data }], guard := none }) rfl (fun K hK => ?_) AllReadyH.nil
                  have r1 := (hRd.touch hS (by simp)).take k (by rw [List.length_map, HN.out]; omega)
                  obtain ⟨p1, p2⟩ := r1.news (by omega) (encL_take ks k)
                  refine step_app _ (by rfl) (.const (.slice none 0 0)) (.tmp 62) 39 (by rfl) 23 i23 _ 2 16 Try.underlying39 hi23 hz23 hs23 hb23 rfl (by omega) _ 0 _ (by rfl) (World.ownsRow_nil _ _ _ _) _ k _ ((ks.map encL).take k).flatten (by rfl) (by rw [flat_len (encL_take ks k), List.length_take, List.length_map, HN.out]; congr 1; omega) p1 p2 (encL_one_sub (List.take_sublist _ _)) (by unfold maxLen; omega) (by omega) ?_
                  intro v1 w1 o1 t1 b1
                  simp only [Nat.zero_add, List.nil_append] at o1
                  have t1' : Touch [] (V.alloc (.cells #[Value.int .i64 kc, .int .i64 ka] 23)) w1 := t1.mono (by simp [Value.ownBlock])
                  have hnew1 := own_new b1 (m := V.heap.size) (by simp [Value.ownBlock]) hS.size
                  have hS2 := hS.trans t1' (by simp)
                  have gb := Touch.range t1' gb (by simp)
                  refine hK.out _ _ hS2 (fun _ => ?_)
                  clear hK K hS
                  have hS := hS2
                  clear hS2
                  clear p1 p2 r1 t1 b1 t1'
                  try simp only [Act.put, List.setIfInBounds_toArray, List.set_cons_zero, List.set_cons_succ]
                  refine wpAnyH_ready (rs := [6]) (by kernel_rfl) (by simp) ?_
                  refine AllReadyH.cons (o := { dst := some 66, op := Op.call { callee := Callee.builtin Builtin.append, args := #[Operand.tmp 63, Operand.tmp 65], argTypes := #[39, 39] }, type := 39, pos := "ref.go:395", after := #[{ on := 3, ground := Ground.data }, { on := 5, ground := Ground.data }, { on := 3, ground := Ground.chain }], guard := none }) rfl (fun K hK => ?_) AllReadyH.nil
                  refine step_app _ (by rfl) (.tmp 63) (.tmp 65) 39 (by rfl) 23 i23 _ 2 16 Try.underlying39 hi23 hz23 hs23 hb23 rfl (by omega) _ k _ (by rfl) o1 _ 1 1 [Value.int .i64 kc, .int .i64 ka] (by rfl) (by rfl) (by intro h; cases h) (by intro ad h j u hu; cases h; rw [Addr.add_lit]; exact gb j u hu) (by intro u hu; simp at hu; rcases hu with rfl | rfl <;> rfl) (by unfold maxLen; omega) (by omega) ?_
                  intro v2 w2 o2 t2 b2
                  have hnew2 := own_new b2 hnew1 hS.size
                  have hS2 := hS.trans t2 (fun y hy => .inr (hnew1 y (by simpa using hy)))
                  refine hK.out _ _ hS2 (fun _ => ?_)
                  clear hK K hS
                  have hS := hS2
                  clear hS2
                  clear t2 b2 o1 gb
                  try simp only [Act.put, List.setIfInBounds_toArray, List.set_cons_zero, List.set_cons_succ]
                  refine wpAnyH_ready (rs := [10]) (by kernel_rfl) (by simp) ?_
                  refine AllReadyH.cons (o := { dst := some 70, op := Op.call { callee := Callee.builtin Builtin.append, args := #[Operand.tmp 66, Operand.tmp 69], argTypes := #[39, 39] }, type := 39, pos := "ref.go:395", after := #[{ on := 6, ground := Ground.data }, { on := 9, ground := Ground.data }, { on := 6, ground := Ground.chain }], guard := none }) rfl (fun K hK => ?_) AllReadyH.nil
                  have r3 := (hRd.touch hS (by simp)).drop (P := Try.prog) (T := 0) (e := 0) k (by rw [List.length_map, HN.out]; omega)
                  obtain ⟨p1, p2⟩ := r3.news (by omega) (encL_drop ks k)
                  refine step_app _ (by rfl) (.tmp 66) (.tmp 69) 39 (by rfl) 23 i23 _ 2 16 Try.underlying39 hi23 hz23 hs23 hb23 rfl (by omega) _ (k + 1) _ (by rfl) o2 _ (n - k) _ ((ks.map encL).drop k).flatten (by rfl) (by rw [flat_len (encL_drop ks k)]; simp [HN.out]) p1 p2 (encL_one_sub (List.drop_sublist _ _)) (by unfold maxLen; omega) (by omega) ?_
                  intro v3 w3 o3 t3 b3
                  have hnew3 := own_new b3 hnew2 hS.size
                  have hS2 := hS.trans t3 (fun y hy => .inr (hnew2 y (by simpa using hy)))
                  refine hK.out _ _ hS2 (fun _ => ?_)
                  clear hK K hS
                  have hS := hS2
                  clear hS2
                  clear t3 b3 o2 p1 p2 r3
                  try simp only [Act.put, List.setIfInBounds_toArray, List.set_cons_zero, List.set_cons_succ]
                  refine wpAnyH_take (i := 11) (oi := { dst := some 3, op := Op.assign (Operand.tmp 70), type := 39, pos := "ref.go:395", after := #[{ on := 10, ground := Ground.data }, { on := 10, ground := Ground.chain }, { on := 0, ground := Ground.phase }, { on := 1, ground := Ground.phase }, { on := 2, ground := Ground.phase }, { on := 3, ground := Ground.phase }, { on := 4, ground := Ground.phase }, { on := 5, ground := Ground.phase }, { on := 6, ground := Ground.phase }, { on := 7, ground := Ground.phase }, { on := 8, ground := Ground.phase }, { on := 9, ground := Ground.phase }, { on := 10, ground := Ground.phase }], guard := none }) (v := v3) rfl (by kernel_rfl) (by kernel_rfl) (by kernel_rfl) (fun _ _ _ h => h) (Or.inl ⟨by rfl, fun w' hw => by go_simp⟩) hS ?_
                  try simp only [Act.put, List.setIfInBounds_toArray, List.set_cons_zero, List.set_cons_succ]
                  refine wpAnyH_done (by kernel_rfl) ?_ _
                  have o5 := ins_own hkpH.out HN.out HPos.out hple o3
                  have T5 := T1.trans (tV.trans hS (by simp)) (by simp)
                  have OK : OwnK w w3 v3 (sortK ((live.take (i + 1)).map (·.key))) := ⟨o5, fun g2 hg2 => Nat.le_trans (Nat.le_trans T1.size tV.size) (hnew3 g2 hg2)⟩
                  have HOK := Lib.hid OK
                  clear OK o5 o3 hnew3 hnew2 hnew1
                  go_wp2_with fail
                  go_roundw
                  case rel => exact ⟨i + 1, by omega, by go_num, HOK.out, T5⟩
                  case measure => simp [intOf]; omega
            · have e2 : (yc == kc) = false := by simpa using a2
              have ed : decide (yc < kc) = false := by simpa using a1
              have ek : decide (k < n) = true := by simpa using hkn
              have hkp : pos (kc, ka) ks = k := by
                rcases Nat.lt_or_ge k (pos (kc, ka) ks) with h2 | h2
                · have := HC.out.1 h2
                  omega
                · omega
              clear a2
              go_wp2_with fail
              go_quiet (fail)
              go_wp2_with fail
              have hkpH := Lib.hid hkp
              clear hkp
              have tV : Touch [] W (wr.drewN nq).drew := (tq.drews nq).drew
              have x0 := tV.cell d0 (by simp)
              have x1 := tV.cell d1 (by simp)
              have hRd := hbW.touch tV (by simp)
              have hS := Touch.refl [] (wr.drewN nq).drew
              have hkn2 : k ≤ n := by omega
              have i2 : (k : Int) ≤ (cv : Int) := by omega
              have i3 : ¬ cv < k := by omega
              have hnB : n ≤ 1000 := by have := HNI.out; omega
              refine wp_region_held (S := Touch [] (wr.drewN nq).drew) (by kernel_rfl) ?_
              change wpAnyH _ _ _ _ _ _ _ _ (wr.drewN nq).drew
              generalize (wr.drewN nq).drew = V at *
              refine wpAnyH_take (i := 0) (oi := { dst := some 60, op := Op.move (Operand.tmp 3), type := 39, pos := "ref.go:395", after := #[], guard := none }) (v := .slice (some ⟨b, off, none⟩) n cv) rfl (by kernel_rfl) (by kernel_rfl) (by kernel_rfl) (fun _ _ _ h => h) (Or.inl ⟨by rfl, fun w' hw => by go_simp⟩) hS ?_
              try simp only [Act.put, List.setIfInBounds_toArray, List.set_cons_zero, List.set_cons_succ]
              refine wpAnyH_take (i := 1) (oi := { dst := some 61, op := Op.move (Operand.tmp 6), type := 3, pos := "ref.go:395", after := #[], guard := none }) (v := .int .i64 k) rfl (by kernel_rfl) (by kernel_rfl) (by kernel_rfl) (fun _ _ _ h => h) (Or.inl ⟨by rfl, fun w' hw => by go_simp⟩) hS ?_
              try simp only [Act.put, List.setIfInBounds_toArray, List.set_cons_zero, List.set_cons_succ]
              refine wpAnyH_take (i := 2) (oi := { dst := some 62, op := Op.slice 39 (Operand.tmp 60) none (some (Operand.tmp 61)) none, type := 39, pos := "ref.go:395", after := #[{ on := 0, ground := Ground.data }, { on := 1, ground := Ground.data }], guard := none }) (v := .slice (some ⟨b, off, none⟩) k cv) rfl (by kernel_rfl) (by kernel_rfl) (by kernel_rfl) (fun _ _ _ h => h) (Or.inl ⟨by rfl, fun w' hw => by go_simp⟩) hS ?_
              try simp only [Act.put, List.setIfInBounds_toArray, List.set_cons_zero, List.set_cons_succ]
              refine wpAnyH_take (i := 4) (oi := { dst := some 64, op := Op.load 23 (Operand.tmp 5), type := 23, pos := "ref.go:395", after := #[], guard := none }) (v := .agg #[.int .i64 kc, .int .i64 ka]) rfl (by kernel_rfl) (by kernel_rfl) (by kernel_rfl) (fun _ _ _ h => h) (Or.inl ⟨by rfl, fun w' hw => by (have q0 := hw.cell x0 (by simp); have q1 := hw.cell x1 (by simp); go_simp)⟩) hS ?_
              try simp only [Act.put, List.setIfInBounds_toArray, List.set_cons_zero, List.set_cons_succ]
              refine wpAnyH_take (i := 7) (oi := { dst := some 67, op := Op.move (Operand.tmp 3), type := 39, pos := "ref.go:395", after := #[], guard := none }) (v := .slice (some ⟨b, off, none⟩) n cv) rfl (by kernel_rfl) (by kernel_rfl) (by kernel_rfl) (fun _ _ _ h => h) (Or.inl ⟨by rfl, fun w' hw => by go_simp⟩) hS ?_
              try simp only [Act.put, List.setIfInBounds_toArray, List.set_cons_zero, List.set_cons_succ]
              refine wpAnyH_take (i := 8) (oi := { dst := some 68, op := Op.move (Operand.tmp 6), type := 3, pos := "ref.go:395", after := #[], guard := none }) (v := .int .i64 k) rfl (by kernel_rfl) (by kernel_rfl) (by kernel_rfl) (fun _ _ _ h => h) (Or.inl ⟨by rfl, fun w' hw => by go_simp⟩) hS ?_
              try simp only [Act.put, List.setIfInBounds_toArray, List.set_cons_zero, List.set_cons_succ]
              refine wpAnyH_take (i := 9) (oi := { dst := some 69, op := Op.slice 39 (Operand.tmp 67) (some (Operand.tmp 68)) none none, type := 39, pos := "ref.go:395", after := #[{ on := 7, ground := Ground.data }, { on := 8, ground := Ground.data }], guard := none }) (v := cutv (some ⟨b, off, none⟩) n cv k 2) rfl (by kernel_rfl) (by kernel_rfl) (by kernel_rfl) (fun _ _ _ h => h) (yieldsIf_from (by rfl) 39 _ _ rfl 23 2 Try.underlying39 size23 _ _ _ k (by rfl) (by rfl) (by omega)) hS ?_
              try simp only [Act.put, List.setIfInBounds_toArray, List.set_cons_zero, List.set_cons_succ]
              refine wpAnyH_ready (rs := [3, 5]) (by kernel_rfl) (by simp) ?_
              refine AllReadyH.cons (o := { dst := some 63, op := Op.call { callee := Callee.builtin Builtin.append, args := #[Operand.const (Value.slice none 0 0), Operand.tmp 62], argTypes := #[39, 39] }, type := 39, pos := "ref.go:395", after := #[{ on := 2, ground := Ground.data }], guard := none }) rfl (fun K hK => ?_) (AllReadyH.cons (o := { dst := some 65, op := Op.buildSlice 39 1 #[(0, Operand.tmp 64)], type := 39, pos := "ref.go:395", after := #[{ on := 4, ground := Ground.data }], guard := none }) rfl (fun K hK => ?_) AllReadyH.nil)
              · have r1 := (hRd.touch hS (by simp)).take k (by rw [List.length_map, HN.out]; omega)
                obtain ⟨p1, p2⟩ := r1.news (by omega) (encL_take ks k)
                refine step_app _ (by rfl) (.const (.slice none 0 0)) (.tmp 62) 39 (by rfl) 23 i23 _ 2 16 Try.underlying39 hi23 hz23 hs23 hb23 rfl (by omega) _ 0 _ (by rfl) (World.ownsRow_nil _ _ _ _) _ k _ ((ks.map encL).take k).flatten (by rfl) (by rw [flat_len (encL_take ks k), List.length_take, List.length_map, HN.out]; congr 1; omega) p1 p2 (encL_one_sub (List.take_sublist _ _)) (by unfold maxLen; omega) (by omega) ?_
                intro v1 w1 o1 t1 b1
                simp only [Nat.zero_add, List.nil_append] at o1
                have t1' : Touch [] V w1 := t1.mono (by simp [Value.ownBlock])
                have hnew1 := own_new b1 (m := V.heap.size) (by simp [Value.ownBlock]) hS.size
                have hS2 := hS.trans t1' (by simp)
                refine hK.out _ _ hS2 (fun _ => ?_)
                clear hK K hS
                have hS := hS2
                clear hS2
                clear p1 p2 r1 t1 b1 t1'
                try simp only [Act.put, List.setIfInBounds_toArray, List.set_cons_zero, List.set_cons_succ]
                refine wpAnyH_ready (rs := [5]) (by kernel_rfl) (by simp) ?_
                refine AllReadyH.cons (o := { dst := some 65, op := Op.buildSlice 39 1 #[(0, Operand.tmp 64)], type := 39, pos := "ref.go:395", after := #[{ on := 4, ground := Ground.data }], guard := none }) rfl (fun K hK => ?_) AllReadyH.nil
                refine step_of_list rfl ?_
                refine wpList_buildSlice_rows rfl 39 1 _ rfl 23 2 i23 _ Try.underlying39 hi23 hz23 hs23 (by omega) [[.int .i64 kc, .int .i64 ka]] rfl (by simp) (by omega) (by rfl) ?_
                change wpList _ _ _ _ _ (w1.alloc (.cells #[Value.int .i64 kc, .int .i64 ka] 23))
                have tb := (Touch.refl [] w1).alloc (.cells #[Value.int .i64 kc, .int .i64 ka] 23)
                have gb := range_new w1 [Value.int .i64 kc, .int .i64 ka] 23
                have o1 := o1.alloc (.cells #[Value.int .i64 kc, .int .i64 ka] 23)
                have hS2 := hS.trans tb (by simp)
                refine ⟨rfl, hK.out _ _ hS2 (fun _ => ?_)⟩
                clear hK K hS
                have hS := hS2
                clear hS2
                try simp only [Act.put, List.setIfInBounds_toArray, List.set_cons_zero, List.set_cons_succ]
                refine wpAnyH_ready (rs := [6]) (by kernel_rfl) (by simp) ?_
                refine AllReadyH.cons (o := { dst := some 66, op := Op.call { callee := Callee.builtin Builtin.append, args := #[Operand.tmp 63, Operand.tmp 65], argTypes := #[39, 39] }, type := 39, pos := "ref.go:395", after := #[{ on := 3, ground := Ground.data }, { on := 5, ground := Ground.data }, { on := 3, ground := Ground.chain }], guard := none }) rfl (fun K hK => ?_) AllReadyH.nil
                refine step_app _ (by rfl) (.tmp 63) (.tmp 65) 39 (by rfl) 23 i23 _ 2 16 Try.underlying39 hi23 hz23 hs23 hb23 rfl (by omega) _ k _ (by rfl) o1 _ 1 1 [Value.int .i64 kc, .int .i64 ka] (by rfl) (by rfl) (by intro h; cases h) (by intro ad h j u hu; cases h; rw [Addr.add_lit]; exact gb j u hu) (by intro u hu; simp at hu; rcases hu with rfl | rfl <;> rfl) (by unfold maxLen; omega) (by omega) ?_
                intro v2 w2 o2 t2 b2
                have hnew2 := own_new b2 hnew1 hS.size
                have hS2 := hS.trans t2 (fun y hy => .inr (hnew1 y (by simpa using hy)))
                refine hK.out _ _ hS2 (fun _ => ?_)
                clear hK K hS
                have hS := hS2
                clear hS2
                clear t2 b2 o1 gb
                try simp only [Act.put, List.setIfInBounds_toArray, List.set_cons_zero, List.set_cons_succ]
                refine wpAnyH_ready (rs := [10]) (by kernel_rfl) (by simp) ?_
                refine AllReadyH.cons (o := { dst := some 70, op := Op.call { callee := Callee.builtin Builtin.append, args := #[Operand.tmp 66, Operand.tmp 69], argTypes := #[39, 39] }, type := 39, pos := "ref.go:395", after := #[{ on := 6, ground := Ground.data }, { on := 9, ground := Ground.data }, { on := 6, ground := Ground.chain }], guard := none }) rfl (fun K hK => ?_) AllReadyH.nil
                have r3 := (hRd.touch hS (by simp)).drop (P := Try.prog) (T := 0) (e := 0) k (by rw [List.length_map, HN.out]; omega)
                obtain ⟨p1, p2⟩ := r3.news (by omega) (encL_drop ks k)
                refine step_app _ (by rfl) (.tmp 66) (.tmp 69) 39 (by rfl) 23 i23 _ 2 16 Try.underlying39 hi23 hz23 hs23 hb23 rfl (by omega) _ (k + 1) _ (by rfl) o2 _ (n - k) _ ((ks.map encL).drop k).flatten (by rfl) (by rw [flat_len (encL_drop ks k)]; simp [HN.out]) p1 p2 (encL_one_sub (List.drop_sublist _ _)) (by unfold maxLen; omega) (by omega) ?_
                intro v3 w3 o3 t3 b3
                have hnew3 := own_new b3 hnew2 hS.size
                have hS2 := hS.trans t3 (fun y hy => .inr (hnew2 y (by simpa using hy)))
                refine hK.out _ _ hS2 (fun _ => ?_)
                clear hK K hS
                have hS := hS2
                clear hS2
                clear t3 b3 o2 p1 p2 r3
                try simp only [Act.put, List.setIfInBounds_toArray, List.set_cons_zero, List.set_cons_succ]
                refine wpAnyH_take (i := 11) (oi := { dst := some 3, op := Op.assign (Operand.tmp 70), type := 39, pos := "ref.go:395", after := #[{ on := 10, ground := Ground.data }, { on := 10, ground := Ground.chain }, { on := 0, ground := Ground.phase }, { on := 1, ground := Ground.phase }, { on := 2, ground := Ground.phase }, { on := 3, ground := Ground.phase }, { on := 4, ground := Ground.phase }, { on := 5, ground := Ground.phase }, { on := 6, ground := Ground.phase }, { on := 7, ground := Ground.phase }, { on := 8, ground := Ground.phase }, { on := 9, ground := Ground.phase }, { on := 10, ground := Ground.phase }], guard := none }) (v := v3) rfl (by kernel_rfl) (by kernel_rfl) (by kernel_rfl) (fun _ _ _ h => h) (Or.inl ⟨by rfl, fun w' hw => by go_simp⟩) hS ?_
                try simp only [Act.put, List.setIfInBounds_toArray, List.set_cons_zero, List.set_cons_succ]
                refine wpAnyH_done (by kernel_rfl) ?_ _
                have o5 := ins_own hkpH.out HN.out HPos.out hple o3
                have T5 := T1.trans (tV.trans hS (by simp)) (by simp)
                have OK : OwnK w w3 v3 (sortK ((live.take (i + 1)).map (·.key))) := ⟨o5, fun g2 hg2 => Nat.le_trans (Nat.le_trans T1.size tV.size) (hnew3 g2 hg2)⟩
                have HOK := Lib.hid OK
                clear OK o5 o3 hnew3 hnew2 hnew1
                go_wp2_with fail
                go_roundw
                case rel => exact ⟨i + 1, by omega, by go_num, HOK.out, T5⟩
                case measure => simp [intOf]; omega
              · refine step_of_list rfl ?_
                refine wpList_buildSlice_rows rfl 39 1 _ rfl 23 2 i23 _ Try.underlying39 hi23 hz23 hs23 (by omega) [[.int .i64 kc, .int .i64 ka]] rfl (by simp) (by omega) (by rfl) ?_
                change wpList _ _ _ _ _ (V.alloc (.cells #[Value.int .i64 kc, .int .i64 ka] 23))
                have tb := (Touch.refl [] V).alloc (.cells #[Value.int .i64 kc, .int .i64 ka] 23)
                have gb := range_new V [Value.int .i64 kc, .int .i64 ka] 23
                have hS2 := hS.trans tb (by simp)
                refine ⟨rfl, hK.out _ _ hS2 (fun _ => ?_)⟩
                clear hK K hS
                have hS := hS2
                clear hS2
                try simp only [Act.put, List.setIfInBounds_toArray, List.set_cons_zero, List.set_cons_succ]
                refine wpAnyH_ready (rs := [3]) (by kernel_rfl) (by simp) ?_
                refine AllReadyH.cons (o := { dst := some 63, op := Op.call { callee := Callee.builtin Builtin.append, args := #[Operand.const (Value.slice none 0 0), Operand.tmp 62], argTypes := #[39, 39] }, type := 39, pos := "ref.go:395", after := #[{ on := 2, ground := Ground.data }], guard := none }) rfl (fun K hK => ?_) AllReadyH.nil
                have r1 := (hRd.touch hS (by simp)).take k (by rw [List.length_map, HN.out]; omega)
                obtain ⟨p1, p2⟩ := r1.news (by omega) (encL_take ks k)
                refine step_app _ (by rfl) (.const (.slice none 0 0)) (.tmp 62) 39 (by rfl) 23 i23 _ 2 16 Try.underlying39 hi23 hz23 hs23 hb23 rfl (by omega) _ 0 _ (by rfl) (World.ownsRow_nil _ _ _ _) _ k _ ((ks.map encL).take k).flatten (by rfl) (by rw [flat_len (encL_take ks k), List.length_take, List.length_map, HN.out]; congr 1; omega) p1 p2 (encL_one_sub (List.take_sublist _ _)) (by unfold maxLen; omega) (by omega) ?_
                intro v1 w1 o1 t1 b1
                simp only [Nat.zero_add, List.nil_append] at o1
                have t1' : Touch [] (V.alloc (.cells #[Value.int .i64 kc, .int .i64 ka] 23)) w1 := t1.mono (by simp [Value.ownBlock])
                have hnew1 := own_new b1 (m := V.heap.size) (by simp [Value.ownBlock]) hS.size
                have hS2 := hS.trans t1' (by simp)
                have gb := Touch.range t1' gb (by simp)
                refine hK.out _ _ hS2 (fun _ => ?_)
                clear hK K hS
                have hS := hS2
                clear hS2
                clear p1 p2 r1 t1 b1 t1'
                try simp only [Act.put, List.setIfInBounds_toArray, List.set_cons_zero, List.set_cons_succ]
                refine wpAnyH_ready (rs := [6]) (by kernel_rfl) (by simp) ?_
                refine AllReadyH.cons (o := { dst := some 66, op := Op.call { callee := Callee.builtin Builtin.append, args := #[Operand.tmp 63, Operand.tmp 65], argTypes := #[39, 39] }, type := 39, pos := "ref.go:395", after := #[{ on := 3, ground := Ground.data }, { on := 5, ground := Ground.data }, { on := 3, ground := Ground.chain }], guard := none }) rfl (fun K hK => ?_) AllReadyH.nil
                refine step_app _ (by rfl) (.tmp 63) (.tmp 65) 39 (by rfl) 23 i23 _ 2 16 Try.underlying39 hi23 hz23 hs23 hb23 rfl (by omega) _ k _ (by rfl) o1 _ 1 1 [Value.int .i64 kc, .int .i64 ka] (by rfl) (by rfl) (by intro h; cases h) (by intro ad h j u hu; cases h; rw [Addr.add_lit]; exact gb j u hu) (by intro u hu; simp at hu; rcases hu with rfl | rfl <;> rfl) (by unfold maxLen; omega) (by omega) ?_
                intro v2 w2 o2 t2 b2
                have hnew2 := own_new b2 hnew1 hS.size
                have hS2 := hS.trans t2 (fun y hy => .inr (hnew1 y (by simpa using hy)))
                refine hK.out _ _ hS2 (fun _ => ?_)
                clear hK K hS
                have hS := hS2
                clear hS2
                clear t2 b2 o1 gb
                try simp only [Act.put, List.setIfInBounds_toArray, List.set_cons_zero, List.set_cons_succ]
                refine wpAnyH_ready (rs := [10]) (by kernel_rfl) (by simp) ?_
                refine AllReadyH.cons (o := { dst := some 70, op := Op.call { callee := Callee.builtin Builtin.append, args := #[Operand.tmp 66, Operand.tmp 69], argTypes := #[39, 39] }, type := 39, pos := "ref.go:395", after := #[{ on := 6, ground := Ground.data }, { on := 9, ground := Ground.data }, { on := 6, ground := Ground.chain }], guard := none }) rfl (fun K hK => ?_) AllReadyH.nil
                have r3 := (hRd.touch hS (by simp)).drop (P := Try.prog) (T := 0) (e := 0) k (by rw [List.length_map, HN.out]; omega)
                obtain ⟨p1, p2⟩ := r3.news (by omega) (encL_drop ks k)
                refine step_app _ (by rfl) (.tmp 66) (.tmp 69) 39 (by rfl) 23 i23 _ 2 16 Try.underlying39 hi23 hz23 hs23 hb23 rfl (by omega) _ (k + 1) _ (by rfl) o2 _ (n - k) _ ((ks.map encL).drop k).flatten (by rfl) (by rw [flat_len (encL_drop ks k)]; simp [HN.out]) p1 p2 (encL_one_sub (List.drop_sublist _ _)) (by unfold maxLen; omega) (by omega) ?_
                intro v3 w3 o3 t3 b3
                have hnew3 := own_new b3 hnew2 hS.size
                have hS2 := hS.trans t3 (fun y hy => .inr (hnew2 y (by simpa using hy)))
                refine hK.out _ _ hS2 (fun _ => ?_)
                clear hK K hS
                have hS := hS2
                clear hS2
                clear t3 b3 o2 p1 p2 r3
                try simp only [Act.put, List.setIfInBounds_toArray, List.set_cons_zero, List.set_cons_succ]
                refine wpAnyH_take (i := 11) (oi := { dst := some 3, op := Op.assign (Operand.tmp 70), type := 39, pos := "ref.go:395", after := #[{ on := 10, ground := Ground.data }, { on := 10, ground := Ground.chain }, { on := 0, ground := Ground.phase }, { on := 1, ground := Ground.phase }, { on := 2, ground := Ground.phase }, { on := 3, ground := Ground.phase }, { on := 4, ground := Ground.phase }, { on := 5, ground := Ground.phase }, { on := 6, ground := Ground.phase }, { on := 7, ground := Ground.phase }, { on := 8, ground := Ground.phase }, { on := 9, ground := Ground.phase }, { on := 10, ground := Ground.phase }], guard := none }) (v := v3) rfl (by kernel_rfl) (by kernel_rfl) (by kernel_rfl) (fun _ _ _ h => h) (Or.inl ⟨by rfl, fun w' hw => by go_simp⟩) hS ?_
                try simp only [Act.put, List.setIfInBounds_toArray, List.set_cons_zero, List.set_cons_succ]
                refine wpAnyH_done (by kernel_rfl) ?_ _
                have o5 := ins_own hkpH.out HN.out HPos.out hple o3
                have T5 := T1.trans (tV.trans hS (by simp)) (by simp)
                have OK : OwnK w w3 v3 (sortK ((live.take (i + 1)).map (·.key))) := ⟨o5, fun g2 hg2 => Nat.le_trans (Nat.le_trans T1.size tV.size) (hnew3 g2 hg2)⟩
                have HOK := Lib.hid OK
                clear OK o5 o3 hnew3 hnew2 hnew1
                go_wp2_with fail
                go_roundw
                case rel => exact ⟨i + 1, by omega, by go_num, HOK.out, T5⟩
                case measure => simp [intOf]; omega
        · have hkp : pos (kc, ka) ks = k := by omega
          have ek : decide (k < n) = false := by simpa using hkn
          go_wp2_with fail
          go_quiet (fail)
          go_wp2_with fail
          have hkpH := Lib.hid hkp
          clear hkp
          have tV : Touch [] W (wr.drewN nq).drew := (tq.drews nq).drew
          have x0 := tV.cell d0 (by simp)
          have x1 := tV.cell d1 (by simp)
          have hRd := hbW.touch tV (by simp)
          have hS := Touch.refl [] (wr.drewN nq).drew
          have hkn2 : k ≤ n := by omega
          have i2 : (k : Int) ≤ (cv : Int) := by omega
          have i3 : ¬ cv < k := by omega
          have hnB : n ≤ 1000 := by have := HNI.out; omega
          refine wp_region_held (S := Touch [] (wr.drewN nq).drew) (by kernel_rfl) ?_
          change wpAnyH _ _ _ _ _ _ _ _ (wr.drewN nq).drew
          generalize (wr.drewN nq).drew = V at *
          refine wpAnyH_take (i := 0) (oi := { dst := some 60, op := Op.move (Operand.tmp 3), type := 39, pos := "ref.go:395", after := #[], guard := none }) (v := .slice (av) n cv) rfl (by kernel_rfl) (by kernel_rfl) (by kernel_rfl) (fun _ _ _ h => h) (Or.inl ⟨by rfl, fun w' hw => by go_simp⟩) hS ?_
          try simp only [Act.put, List.setIfInBounds_toArray, List.set_cons_zero, List.set_cons_succ]
          refine wpAnyH_take (i := 1) (oi := { dst := some 61, op := Op.move (Operand.tmp 6), type := 3, pos := "ref.go:395", after := #[], guard := none }) (v := .int .i64 k) rfl (by kernel_rfl) (by kernel_rfl) (by kernel_rfl) (fun _ _ _ h => h) (Or.inl ⟨by rfl, fun w' hw => by go_simp⟩) hS ?_
          try simp only [Act.put, List.setIfInBounds_toArray, List.set_cons_zero, List.set_cons_succ]
          refine wpAnyH_take (i := 2) (oi := { dst := some 62, op := Op.slice 39 (Operand.tmp 60) none (some (Operand.tmp 61)) none, type := 39, pos := "ref.go:395", after := #[{ on := 0, ground := Ground.data }, { on := 1, ground := Ground.data }], guard := none }) (v := .slice (av) k cv) rfl (by kernel_rfl) (by kernel_rfl) (by kernel_rfl) (fun _ _ _ h => h) (Or.inl ⟨by rfl, fun w' hw => by go_simp⟩) hS ?_
          try simp only [Act.put, List.setIfInBounds_toArray, List.set_cons_zero, List.set_cons_succ]
          refine wpAnyH_take (i := 4) (oi := { dst := some 64, op := Op.load 23 (Operand.tmp 5), type := 23, pos := "ref.go:395", after := #[], guard := none }) (v := .agg #[.int .i64 kc, .int .i64 ka]) rfl (by kernel_rfl) (by kernel_rfl) (by kernel_rfl) (fun _ _ _ h => h) (Or.inl ⟨by rfl, fun w' hw => by (have q0 := hw.cell x0 (by simp); have q1 := hw.cell x1 (by simp); go_simp)⟩) hS ?_
          try simp only [Act.put, List.setIfInBounds_toArray, List.set_cons_zero, List.set_cons_succ]
          refine wpAnyH_take (i := 7) (oi := { dst := some 67, op := Op.move (Operand.tmp 3), type := 39, pos := "ref.go:395", after := #[], guard := none }) (v := .slice (av) n cv) rfl (by kernel_rfl) (by kernel_rfl) (by kernel_rfl) (fun _ _ _ h => h) (Or.inl ⟨by rfl, fun w' hw => by go_simp⟩) hS ?_
          try simp only [Act.put, List.setIfInBounds_toArray, List.set_cons_zero, List.set_cons_succ]
          refine wpAnyH_take (i := 8) (oi := { dst := some 68, op := Op.move (Operand.tmp 6), type := 3, pos := "ref.go:395", after := #[], guard := none }) (v := .int .i64 k) rfl (by kernel_rfl) (by kernel_rfl) (by kernel_rfl) (fun _ _ _ h => h) (Or.inl ⟨by rfl, fun w' hw => by go_simp⟩) hS ?_
          try simp only [Act.put, List.setIfInBounds_toArray, List.set_cons_zero, List.set_cons_succ]
          refine wpAnyH_take (i := 9) (oi := { dst := some 69, op := Op.slice 39 (Operand.tmp 67) (some (Operand.tmp 68)) none none, type := 39, pos := "ref.go:395", after := #[{ on := 7, ground := Ground.data }, { on := 8, ground := Ground.data }], guard := none }) (v := cutv (av) n cv k 2) rfl (by kernel_rfl) (by kernel_rfl) (by kernel_rfl) (fun _ _ _ h => h) (yieldsIf_from (by rfl) 39 _ _ rfl 23 2 Try.underlying39 size23 _ _ _ k (by rfl) (by rfl) (by omega)) hS ?_
          try simp only [Act.put, List.setIfInBounds_toArray, List.set_cons_zero, List.set_cons_succ]
          refine wpAnyH_ready (rs := [3, 5]) (by kernel_rfl) (by simp) ?_
          refine AllReadyH.cons (o := { dst := some 63, op := Op.call { callee := Callee.builtin Builtin.append, args := #[Operand.const (Value.slice none 0 0), Operand.tmp 62], argTypes := #[39, 39] }, type := 39, pos := "ref.go:395", after := #[{ on := 2, ground := Ground.data }], guard := none }) rfl (fun K hK => ?_) (AllReadyH.cons (o := { dst := some 65, op := Op.buildSlice 39 1 #[(0, Operand.tmp 64)], type := 39, pos := "ref.go:395", after := #[{ on := 4, ground := Ground.data }], guard := none }) rfl (fun K hK => ?_) AllReadyH.nil)
          · have r1 := (hRd.touch hS (by simp)).take k (by rw [List.length_map, HN.out]; omega)
            obtain ⟨p1, p2⟩ := r1.news (by omega) (encL_take ks k)
            refine step_app _ (by rfl) (.const (.slice none 0 0)) (.tmp 62) 39 (by rfl) 23 i23 _ 2 16 Try.underlying39 hi23 hz23 hs23 hb23 rfl (by omega) _ 0 _ (by rfl) (World.ownsRow_nil _ _ _ _) _ k _ ((ks.map encL).take k).flatten (by rfl) (by rw [flat_len (encL_take ks k), List.length_take, List.length_map, HN.out]; congr 1; omega) p1 p2 (encL_one_sub (List.take_sublist _ _)) (by unfold maxLen; omega) (by omega) ?_
            intro v1 w1 o1 t1 b1
            simp only [Nat.zero_add, List.nil_append] at o1
            have t1' : Touch [] V w1 := t1.mono (by simp [Value.ownBlock])
            have hnew1 := own_new b1 (m := V.heap.size) (by simp [Value.ownBlock]) hS.size
            have hS2 := hS.trans t1' (by simp)
            refine hK.out _ _ hS2 (fun _ => ?_)
            clear hK K hS
            have hS := hS2
            clear hS2
            clear p1 p2 r1 t1 b1 t1'
            try simp only [Act.put, List.setIfInBounds_toArray, List.set_cons_zero, List.set_cons_succ]
            refine wpAnyH_ready (rs := [5]) (by kernel_rfl) (by simp) ?_
            refine AllReadyH.cons (o := { dst := some 65, op := Op.buildSlice 39 1 #[(0, Operand.tmp 64)], type := 39, pos := "ref.go:395", after := #[{ on := 4, ground := Ground.data }], guard := none }) rfl (fun K hK => ?_) AllReadyH.nil
            refine step_of_list rfl ?_
            refine wpList_buildSlice_rows rfl 39 1 _ rfl 23 2 i23 _ Try.underlying39 hi23 hz23 hs23 (by omega) [[.int .i64 kc, .int .i64 ka]] rfl (by simp) (by omega) (by rfl) ?_
            change wpList _ _ _ _ _ (w1.alloc (.cells #[Value.int .i64 kc, .int .i64 ka] 23))
            have tb := (Touch.refl [] w1).alloc (.cells #[Value.int .i64 kc, .int .i64 ka] 23)
            have gb := range_new w1 [Value.int .i64 kc, .int .i64 ka] 23
            have o1 := o1.alloc (.cells #[Value.int .i64 kc, .int .i64 ka] 23)
            have hS2 := hS.trans tb (by simp)
            refine ⟨rfl, hK.out _ _ hS2 (fun _ => ?_)⟩
            clear hK K hS
            have hS := hS2
            clear hS2
            try simp only [Act.put, List.setIfInBounds_toArray, List.set_cons_zero, List.set_cons_succ]
            refine wpAnyH_ready (rs := [6]) (by kernel_rfl) (by simp) ?_
            refine AllReadyH.cons (o := { dst := some 66, op := Op.call { callee := Callee.builtin Builtin.append, args := #[Operand.tmp 63, Operand.tmp 65], argTypes := #[39, 39] }, type := 39, pos := "ref.go:395", after := #[{ on := 3, ground := Ground.data }, { on := 5, ground := Ground.data }, { on := 3, ground := Ground.chain }], guard := none }) rfl (fun K hK => ?_) AllReadyH.nil
            refine step_app _ (by rfl) (.tmp 63) (.tmp 65) 39 (by rfl) 23 i23 _ 2 16 Try.underlying39 hi23 hz23 hs23 hb23 rfl (by omega) _ k _ (by rfl) o1 _ 1 1 [Value.int .i64 kc, .int .i64 ka] (by rfl) (by rfl) (by intro h; cases h) (by intro ad h j u hu; cases h; rw [Addr.add_lit]; exact gb j u hu) (by intro u hu; simp at hu; rcases hu with rfl | rfl <;> rfl) (by unfold maxLen; omega) (by omega) ?_
            intro v2 w2 o2 t2 b2
            have hnew2 := own_new b2 hnew1 hS.size
            have hS2 := hS.trans t2 (fun y hy => .inr (hnew1 y (by simpa using hy)))
            refine hK.out _ _ hS2 (fun _ => ?_)
            clear hK K hS
            have hS := hS2
            clear hS2
            clear t2 b2 o1 gb
            try simp only [Act.put, List.setIfInBounds_toArray, List.set_cons_zero, List.set_cons_succ]
            refine wpAnyH_ready (rs := [10]) (by kernel_rfl) (by simp) ?_
            refine AllReadyH.cons (o := { dst := some 70, op := Op.call { callee := Callee.builtin Builtin.append, args := #[Operand.tmp 66, Operand.tmp 69], argTypes := #[39, 39] }, type := 39, pos := "ref.go:395", after := #[{ on := 6, ground := Ground.data }, { on := 9, ground := Ground.data }, { on := 6, ground := Ground.chain }], guard := none }) rfl (fun K hK => ?_) AllReadyH.nil
            have r3 := (hRd.touch hS (by simp)).drop (P := Try.prog) (T := 0) (e := 0) k (by rw [List.length_map, HN.out]; omega)
            obtain ⟨p1, p2⟩ := r3.news (by omega) (encL_drop ks k)
            refine step_app _ (by rfl) (.tmp 66) (.tmp 69) 39 (by rfl) 23 i23 _ 2 16 Try.underlying39 hi23 hz23 hs23 hb23 rfl (by omega) _ (k + 1) _ (by rfl) o2 _ (n - k) _ ((ks.map encL).drop k).flatten (by rfl) (by rw [flat_len (encL_drop ks k)]; simp [HN.out]) p1 p2 (encL_one_sub (List.drop_sublist _ _)) (by unfold maxLen; omega) (by omega) ?_
            intro v3 w3 o3 t3 b3
            have hnew3 := own_new b3 hnew2 hS.size
            have hS2 := hS.trans t3 (fun y hy => .inr (hnew2 y (by simpa using hy)))
            refine hK.out _ _ hS2 (fun _ => ?_)
            clear hK K hS
            have hS := hS2
            clear hS2
            clear t3 b3 o2 p1 p2 r3
            try simp only [Act.put, List.setIfInBounds_toArray, List.set_cons_zero, List.set_cons_succ]
            refine wpAnyH_take (i := 11) (oi := { dst := some 3, op := Op.assign (Operand.tmp 70), type := 39, pos := "ref.go:395", after := #[{ on := 10, ground := Ground.data }, { on := 10, ground := Ground.chain }, { on := 0, ground := Ground.phase }, { on := 1, ground := Ground.phase }, { on := 2, ground := Ground.phase }, { on := 3, ground := Ground.phase }, { on := 4, ground := Ground.phase }, { on := 5, ground := Ground.phase }, { on := 6, ground := Ground.phase }, { on := 7, ground := Ground.phase }, { on := 8, ground := Ground.phase }, { on := 9, ground := Ground.phase }, { on := 10, ground := Ground.phase }], guard := none }) (v := v3) rfl (by kernel_rfl) (by kernel_rfl) (by kernel_rfl) (fun _ _ _ h => h) (Or.inl ⟨by rfl, fun w' hw => by go_simp⟩) hS ?_
            try simp only [Act.put, List.setIfInBounds_toArray, List.set_cons_zero, List.set_cons_succ]
            refine wpAnyH_done (by kernel_rfl) ?_ _
            have o5 := ins_own hkpH.out HN.out HPos.out hple o3
            have T5 := T1.trans (tV.trans hS (by simp)) (by simp)
            have OK : OwnK w w3 v3 (sortK ((live.take (i + 1)).map (·.key))) := ⟨o5, fun g2 hg2 => Nat.le_trans (Nat.le_trans T1.size tV.size) (hnew3 g2 hg2)⟩
            have HOK := Lib.hid OK
            clear OK o5 o3 hnew3 hnew2 hnew1
            go_wp2_with fail
            go_roundw
            case rel => exact ⟨i + 1, by omega, by go_num, HOK.out, T5⟩
            case measure => simp [intOf]; omega
          · refine step_of_list rfl ?_
            refine wpList_buildSlice_rows rfl 39 1 _ rfl 23 2 i23 _ Try.underlying39 hi23 hz23 hs23 (by omega) [[.int .i64 kc, .int .i64 ka]] rfl (by simp) (by omega) (by rfl) ?_
            change wpList _ _ _ _ _ (V.alloc (.cells #[Value.int .i64 kc, .int .i64 ka] 23))
            have tb := (Touch.refl [] V).alloc (.cells #[Value.int .i64 kc, .int .i64 ka] 23)
            have gb := range_new V [Value.int .i64 kc, .int .i64 ka] 23
            have hS2 := hS.trans tb (by simp)
            refine ⟨rfl, hK.out _ _ hS2 (fun _ => ?_)⟩
            clear hK K hS
            have hS := hS2
            clear hS2
            try simp only [Act.put, List.setIfInBounds_toArray, List.set_cons_zero, List.set_cons_succ]
            refine wpAnyH_ready (rs := [3]) (by kernel_rfl) (by simp) ?_
            refine AllReadyH.cons (o := { dst := some 63, op := Op.call { callee := Callee.builtin Builtin.append, args := #[Operand.const (Value.slice none 0 0), Operand.tmp 62], argTypes := #[39, 39] }, type := 39, pos := "ref.go:395", after := #[{ on := 2, ground := Ground.data }], guard := none }) rfl (fun K hK => ?_) AllReadyH.nil
            have r1 := (hRd.touch hS (by simp)).take k (by rw [List.length_map, HN.out]; omega)
            obtain ⟨p1, p2⟩ := r1.news (by omega) (encL_take ks k)
            refine step_app _ (by rfl) (.const (.slice none 0 0)) (.tmp 62) 39 (by rfl) 23 i23 _ 2 16 Try.underlying39 hi23 hz23 hs23 hb23 rfl (by omega) _ 0 _ (by rfl) (World.ownsRow_nil _ _ _ _) _ k _ ((ks.map encL).take k).flatten (by rfl) (by rw [flat_len (encL_take ks k), List.length_take, List.length_map, HN.out]; congr 1; omega) p1 p2 (encL_one_sub (List.take_sublist _ _)) (by unfold maxLen; omega) (by omega) ?_
            intro v1 w1 o1 t1 b1
            simp only [Nat.zero_add, List.nil_append] at o1
            have t1' : Touch [] (V.alloc (.cells #[Value.int .i64 kc, .int .i64 ka] 23)) w1 := t1.mono (by simp [Value.ownBlock])
            have hnew1 := own_new b1 (m := V.heap.size) (by simp [Value.ownBlock]) hS.size
            have hS2 := hS.trans t1' (by simp)
            have gb := Touch.range t1' gb (by simp)
            refine hK.out _ _ hS2 (fun _ => ?_)
            clear hK K hS
            have hS := hS2
            clear hS2
            clear p1 p2 r1 t1 b1 t1'
            try simp only [Act.put, List.setIfInBounds_toArray, List.set_cons_zero, List.set_cons_succ]
            refine wpAnyH_ready (rs := [6]) (by kernel_rfl) (by simp) ?_
            refine AllReadyH.cons (o := { dst := some 66, op := Op.call { callee := Callee.builtin Builtin.append, args := #[Operand.tmp 63, Operand.tmp 65], argTypes := #[39, 39] }, type := 39, pos := "ref.go:395", after := #[{ on := 3, ground := Ground.data }, { on := 5, ground := Ground.data }, { on := 3, ground := Ground.chain }], guard := none }) rfl (fun K hK => ?_) AllReadyH.nil
            refine step_app _ (by rfl) (.tmp 63) (.tmp 65) 39 (by rfl) 23 i23 _ 2 16 Try.underlying39 hi23 hz23 hs23 hb23 rfl (by omega) _ k _ (by rfl) o1 _ 1 1 [Value.int .i64 kc, .int .i64 ka] (by rfl) (by rfl) (by intro h; cases h) (by intro ad h j u hu; cases h; rw [Addr.add_lit]; exact gb j u hu) (by intro u hu; simp at hu; rcases hu with rfl | rfl <;> rfl) (by unfold maxLen; omega) (by omega) ?_
            intro v2 w2 o2 t2 b2
            have hnew2 := own_new b2 hnew1 hS.size
            have hS2 := hS.trans t2 (fun y hy => .inr (hnew1 y (by simpa using hy)))
            refine hK.out _ _ hS2 (fun _ => ?_)
            clear hK K hS
            have hS := hS2
            clear hS2
            clear t2 b2 o1 gb
            try simp only [Act.put, List.setIfInBounds_toArray, List.set_cons_zero, List.set_cons_succ]
            refine wpAnyH_ready (rs := [10]) (by kernel_rfl) (by simp) ?_
            refine AllReadyH.cons (o := { dst := some 70, op := Op.call { callee := Callee.builtin Builtin.append, args := #[Operand.tmp 66, Operand.tmp 69], argTypes := #[39, 39] }, type := 39, pos := "ref.go:395", after := #[{ on := 6, ground := Ground.data }, { on := 9, ground := Ground.data }, { on := 6, ground := Ground.chain }], guard := none }) rfl (fun K hK => ?_) AllReadyH.nil
            have r3 := (hRd.touch hS (by simp)).drop (P := Try.prog) (T := 0) (e := 0) k (by rw [List.length_map, HN.out]; omega)
            obtain ⟨p1, p2⟩ := r3.news (by omega) (encL_drop ks k)
            refine step_app _ (by rfl) (.tmp 66) (.tmp 69) 39 (by rfl) 23 i23 _ 2 16 Try.underlying39 hi23 hz23 hs23 hb23 rfl (by omega) _ (k + 1) _ (by rfl) o2 _ (n - k) _ ((ks.map encL).drop k).flatten (by rfl) (by rw [flat_len (encL_drop ks k)]; simp [HN.out]) p1 p2 (encL_one_sub (List.drop_sublist _ _)) (by unfold maxLen; omega) (by omega) ?_
            intro v3 w3 o3 t3 b3
            have hnew3 := own_new b3 hnew2 hS.size
            have hS2 := hS.trans t3 (fun y hy => .inr (hnew2 y (by simpa using hy)))
            refine hK.out _ _ hS2 (fun _ => ?_)
            clear hK K hS
            have hS := hS2
            clear hS2
            clear t3 b3 o2 p1 p2 r3
            try simp only [Act.put, List.setIfInBounds_toArray, List.set_cons_zero, List.set_cons_succ]
            refine wpAnyH_take (i := 11) (oi := { dst := some 3, op := Op.assign (Operand.tmp 70), type := 39, pos := "ref.go:395", after := #[{ on := 10, ground := Ground.data }, { on := 10, ground := Ground.chain }, { on := 0, ground := Ground.phase }, { on := 1, ground := Ground.phase }, { on := 2, ground := Ground.phase }, { on := 3, ground := Ground.phase }, { on := 4, ground := Ground.phase }, { on := 5, ground := Ground.phase }, { on := 6, ground := Ground.phase }, { on := 7, ground := Ground.phase }, { on := 8, ground := Ground.phase }, { on := 9, ground := Ground.phase }, { on := 10, ground := Ground.phase }], guard := none }) (v := v3) rfl (by kernel_rfl) (by kernel_rfl) (by kernel_rfl) (fun _ _ _ h => h) (Or.inl ⟨by rfl, fun w' hw => by go_simp⟩) hS ?_
            try simp only [Act.put, List.setIfInBounds_toArray, List.set_cons_zero, List.set_cons_succ]
            refine wpAnyH_done (by kernel_rfl) ?_ _
            have o5 := ins_own hkpH.out HN.out HPos.out hple o3
            have T5 := T1.trans (tV.trans hS (by simp)) (by simp)
            have OK : OwnK w w3 v3 (sortK ((live.take (i + 1)).map (·.key))) := ⟨o5, fun g2 hg2 => Nat.le_trans (Nat.le_trans T1.size tV.size) (hnew3 g2 hg2)⟩
            have HOK := Lib.hid OK
            clear OK o5 o3 hnew3 hnew2 hnew1
            go_wp2_with fail
            go_roundw
            case rel => exact ⟨i + 1, by omega, by go_num, HOK.out, T5⟩
            case measure => simp [intOf]; omega
    · obtain rfl : i = live.length := by omega
      go_wp2_with fail
      go_ret
      exact ⟨_, rfl, by rw [List.take_length] at ho; exact ho, ht⟩
end Go.Proofs.Ytnglkdpmkgehoaa

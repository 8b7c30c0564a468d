/-
  Merged texts: MiG, UdG, RmG, Er, Bu, BgG, TmP, TrG, Mn, TgG, Gn, Ap.
-/
import Derived.Test.YtobkanlnnniabaaGreatX2
import Derived.Lib.Hide

/-
  The contracts of New, Len, At, Min.
-/
namespace Go.Proofs.YtobkanlnnniabaaGreat.G
open Go.RowKit
set_option linter.unusedVariables false
set_option linter.unusedSimpArgs false

theorem results_tmp4 {fn : Func} {t u v x : Tmp} (h : fn.results = #[.tmp t, .tmp u, .tmp v, .tmp x]) (tmps : Array Value) (P : Program) (w : World) :
    (results fn tmps).run P w = .ok (.tuple #[tmps.getD t undef, tmps.getD u undef, tmps.getD v undef, tmps.getD x undef]) w := by
  simp [results, h]
theorem Hp.fresh (w : World) : HB ((w.alloc (.map #[] 0)).alloc (.cells #[.slice none 0 0, .map (some w.heap.size), .int .i64 0] 80)) (w.heap.size + 1) w.heap.size (.slice none 0 0) [] [] 0 := by
  have t := (Touch.refl [] (w.alloc (.map #[] 0))).alloc (.cells #[.slice none 0 0, .map (some w.heap.size), .int .i64 0] 80)
  have z1 : (w.alloc (.map #[] 0)).heap.size = w.heap.size + 1 := by simp
  refine ⟨⟨?_, World.ownsRow_nil _ _ _ _, (Mp.made w).touch t (by simp), by simp, by simp, by omega, by simp [Value.ownBlock], by simp⟩, by simp, ⟨by simp, by intro id _; rfl⟩, ?_, by simp, by omega, by omega⟩
  · have := heap_alloc_new (w.alloc (.map #[] 0)) (.cells #[.slice none 0 0, .map (some w.heap.size), .int .i64 0] 80)
    rw [z1] at this
    exact this
  · intro b hb u v hu
    simp at hu
set_option maxRecDepth 100000 in
set_option maxHeartbeats 1000000 in
theorem new_any (w : World) : Calls Tryz.prog 18 #[] w fun e w' => ∃ (h m : Nat) (v : Value), e = .returned (.pointer (some ⟨h, 0, none⟩)) ∧ HB w' h m v [] [] 0 ∧ (∀ y ∈ Hp.foot h m v, w.heap.size ≤ y) ∧ Touch [] w w' := by
  have H := Lib.hid (Hp.fresh w)
  have T := Lib.hid (((Touch.refl [] w).alloc (.map #[] 0)).alloc (.cells #[.slice none 0 0, .map (some w.heap.size), .int .i64 0] 80))
  have hmm := @run_makeMap Tryz.prog
  have hu77 := Tryz.underlying77
  go_enter Tryz.func18, Tryz.ntmps18
  go_wp2_with fail
  go_ret
  exact ⟨_, _, _, rfl, H.out, by intro y hy; simp [Hp.foot, Value.ownBlock] at hy; omega, T.out⟩
section
variable (h m : Nat) (v : Value) (its : List Itm) (kv : List (Int × Value)) (last : Int) (w : World) (k : HB w h m v its kv last)
include k
set_option maxRecDepth 100000 in
set_option maxHeartbeats 1000000 in
theorem len_any : Calls Tryz.prog 50 #[.pointer (some ⟨h, 0, none⟩)] w fun e w' => e = .returned (.int .i64 its.length) ∧ w = w' := by
  obtain ⟨av, cv, rfl, hv1, hv2, hv3⟩ := k.hp.form
  obtain ⟨c0, c1, c2⟩ := k.hp.cells
  clear hv3 k
  go_enter Tryz.func50, Tryz.ntmps50
  go_wp2_with fail
  go_ret
  exact ⟨rfl, rfl⟩
set_option maxRecDepth 100000 in
set_option maxHeartbeats 1000000 in
theorem min_none (hn : its = []) : Calls Tryz.prog 24 #[.pointer (some ⟨h, 0, none⟩)] w fun e w' => e = .returned (.tuple #[.int .i64 0, .int .u64 0, .pointer none, .bool false]) ∧ Touch [] w w' := by
  subst hn
  obtain ⟨av, cv, rfl, hv1, hv2, hv3⟩ := k.hp.form
  obtain ⟨c0, c1, c2⟩ := k.hp.cells
  simp only [List.length_nil] at c0
  clear hv3 k
  go_enter Tryz.func24, Tryz.ntmps24
  go_wp2_with fail
  (try simp only [Exit.inBlock, Exit.then]); refine bodyPost_ret (results_tmp4 rfl _ _ _) rfl ?_
  exact ⟨rfl, Touch.refl _ _⟩
set_option maxRecDepth 100000 in
set_option maxHeartbeats 1000000 in
theorem min_some (x : Itm) (hx : its[0]? = some x) : Calls Tryz.prog 24 #[.pointer (some ⟨h, 0, none⟩)] w fun e w' => e = .returned (.tuple #[.int .i64 x.id, .int .u64 x.due, x.x, .bool true]) ∧ Touch [] w w' := by
  have hil := (List.getElem?_eq_some_iff.1 hx).1
  obtain ⟨av, cv, rfl, hv1, hv2, hv3⟩ := k.hp.form
  obtain ⟨g, rfl, hgh, hgm⟩ := hv3 (by omega)
  obtain ⟨c0, c1, c2⟩ := k.hp.cells
  obtain ⟨e0, e1, e2⟩ := k.hp.elem hx
  simp only [Nat.zero_mul, Nat.zero_add] at e0 e1 e2
  have h1x := k.hp.one x (List.mem_of_getElem? hx)
  have q1 : ¬ (its.length : Int) = 0 := by omega
  have q2 : ¬ its.length = 0 := by omega
  have q3 : (0 : Int) < (its.length : Int) := by omega
  have tB := (Touch.refl [] w).alloc (.cells #[.int .i64 x.id, .int .u64 x.due, x.x] 82)
  obtain ⟨b0, b1, b2⟩ := cells_three (heap_alloc_new w (.cells #[.int .i64 x.id, .int .u64 x.due, x.x] 82))
  clear hv3 k hx
  go_enter Tryz.func24, Tryz.ntmps24
  go_wp2_with (refine wpList_store_new rfl 82 _ _ rfl _ _ [.int .i64 x.id, .int .u64 x.due, x.x] (by rfl) (by rfl) rfl infoE (by intro u hu; simp at hu; rcases hu with rfl | rfl | rfl; rfl; rfl; exact h1x) ?_)
  simp only [Act.put]
  generalize w.alloc (.cells #[.int .i64 x.id, .int .u64 x.due, x.x] 82) = W at *
  clear c0 c1 c2 e0 e1 e2
  go_quiet (fail)
  have T := tB.drews nq
  clear tB
  go_wp2_with fail
  (try simp only [Exit.inBlock, Exit.then]); refine bodyPost_ret (results_tmp4 rfl _ _ _) rfl ?_
  exact ⟨rfl, T⟩
end
end Go.Proofs.YtobkanlnnniabaaGreat.G

/-
  The contract of Update.
-/
namespace Go.Proofs.YtobkanlnnniabaaGreat.G
open Go.RowKit
set_option linter.unusedVariables false
set_option linter.unusedSimpArgs false

theorem zero3 (w : World) : (zeroValue 3).run Tryz.prog w = .ok (.int .i64 0) w := by kernel_rfl
theorem flatI_due (its : List Itm) (i : Nat) (x : Itm) (d : Int) (h : its[i]? = some x) : (its.map encI).flatten.set (i * 3 + 1) (.int .u64 d) = ((its.set i ⟨x.id, d, x.x⟩).map encI).flatten := by
  induction its generalizing i with
  | nil => simp at h
  | cons a r ih =>
    cases i with
    | zero =>
      simp at h
      subst h
      simp [encI]
    | succ i =>
      have := ih i (by simpa using h)
      simp only [List.set_cons_succ, List.map_cons, List.flatten_cons]
      rw [← this]
      have e : (i + 1) * 3 + 1 = i * 3 + 1 + 3 := by omega
      rw [e]
      simp [encI]
theorem ids_set {its : List Itm} {i : Nat} {x y : Itm} (h : its[i]? = some x) (e : y.id = x.id) : (its.set i y).map Itm.id = its.map Itm.id := by
  rw [List.map_set, e]
  obtain ⟨h1, h2⟩ := List.getElem?_eq_some_iff.1 h
  have : x.id = (its.map Itm.id)[i]'(by simpa using h1) := by simp [h2]
  rw [this]
  exact List.set_getElem_self _
theorem not_ids {its : List Itm} {id : Int} : (∀ y ∈ its, y.id ≠ id) ↔ id ∉ its.map Itm.id := by
  simp
theorem Hp.due {w : World} {h m g n c : Nat} {its : List Itm} {kv : List (Int × Value)} {last : Int} (k : Hp w h m (.slice (some ⟨g, 0, none⟩) n c) its kv last) {i : Nat} {x : Itm} (hx : its[i]? = some x) (d : Int) :
    Hp (w.setCell ⟨g, i * 3 + 1, none⟩ (.int .u64 d)) h m (.slice (some ⟨g, 0, none⟩) n c) (its.set i ⟨x.id, d, x.x⟩) kv last ∧ Touch [g] w (w.setCell ⟨g, i * 3 + 1, none⟩ (.int .u64 d)) := by
  have t := (Touch.refl [g] w).setCell (p := ⟨g, i * 3 + 1, none⟩) (by simp) (.int .u64 d)
  have hg1 : g ≠ h := fun e => k.hv.1 (by rw [e]; rfl)
  have hg2 : g ≠ m := fun e => k.hv.2 (by rw [e]; rfl)
  have hn : n = its.length := by
    obtain ⟨a', c', hv, _⟩ := owns_form k.row
    simp at hv
    exact hv.2.1
  subst hn
  have hrow := owns_set k.row (i * 3 + 1) (.int .u64 d)
  rw [flatI_due its i x d hx] at hrow
  refine ⟨⟨t.at k.hdr (by simpa using Ne.symm hg1), by rw [List.length_set]; exact hrow, k.mp.touch t (by simpa using Ne.symm hg2), ?_, ?_, k.hm, k.hv, by rw [List.length_set]; exact k.few⟩, t⟩
  · intro y hy
    rcases List.mem_or_eq_of_mem_set hy with hy | rfl
    · exact k.one y hy
    · exact k.one x (List.mem_of_getElem? hx)
  · intro y hy
    rcases List.mem_or_eq_of_mem_set hy with hy | rfl
    · exact k.oks y hy
    · exact k.oks x (List.mem_of_getElem? hx)
section
variable (h m : Nat) (v : Value) (its : List Itm) (kv : List (Int × Value)) (last : Int) (w : World) (k : HB w h m v its kv last)
include k
theorem HB.look_run (id : Int) (hid : okK id) : (Instr.lookup 77 (.map (some m)) (.int .i64 id) true).run Tryz.prog w = .ok (.tuple #[(look kv id).getD (.int .i64 0), .bool (look kv id).isSome]) w :=
  k.hp.mp.lookup key3 Tryz.underlying77 (zero3 w) hid true
set_option maxRecDepth 100000 in
set_option maxHeartbeats 1000000 in
theorem update_none (id due : Int) (hid : okK id) (hn : ∀ y ∈ its, y.id ≠ id) : Calls Tryz.prog 28 #[.pointer (some ⟨h, 0, none⟩), .int .i64 id, .int .u64 due] w fun e w' => e = .returned (.bool false) ∧ w = w' := by
  obtain ⟨c0, c1, c2⟩ := k.hp.cells
  have hq := k.look_run h m v its kv last w id hid
  rw [k.ix.no id hn] at hq
  simp only [Option.getD_none, Option.isSome_none] at hq
  clear k hn
  go_enter Tryz.func28, Tryz.ntmps28
  go_wp2_with fail
  go_ret
  exact ⟨rfl, rfl⟩
set_option maxRecDepth 100000 in
set_option maxHeartbeats 1000000 in
theorem update_some (i : Nat) (x : Itm) (due : Int) (hx : its[i]? = some x) : Calls Tryz.prog 28 #[.pointer (some ⟨h, 0, none⟩), .int .i64 x.id, .int .u64 due] w fun e w' => ∃ its' kv', e = .returned (.bool true) ∧ HB w' h m v its' kv' last ∧ its'.Perm (its.set i ⟨x.id, due, x.x⟩) ∧ Touch (Hp.foot h m v) w w' := by
  have hil := (List.getElem?_eq_some_iff.1 hx).1
  obtain ⟨av, cv, rfl, hv1, hv2, hv3⟩ := k.hp.form
  obtain ⟨g, rfl, hgh, hgm⟩ := hv3 (by omega)
  obtain ⟨c0, c1, c2⟩ := k.hp.cells
  obtain ⟨e0, e1, e2⟩ := k.hp.elem hx
  have fz := owns_frozen k.hp.row (i * 3 + 1)
  have hq := k.look_run h m _ its kv last w x.id (k.hp.oks x (List.mem_of_getElem? hx))
  rw [k.ix.at_ i x hx] at hq
  simp only [Option.getD_some, Option.isSome_some] at hq
  have q3 : (i : Int) < (its.length : Int) := by omega
  obtain ⟨p1, t1⟩ := k.hp.due hx due
  have hids := ids_set (y := ⟨x.id, due, x.x⟩) hx rfl
  have hnd : ((its.set i ⟨x.id, due, x.x⟩).map Itm.id).Nodup := by rw [hids]; exact k.ids
  have FX := Lib.hid (fix_any h m _ _ kv last i ⟨x.id, due, x.x⟩ _ p1 (by rw [List.getElem?_set_self hil]) hnd (by
    intro j y hj hy
    rw [List.getElem?_set_ne (Ne.symm hj)] at hy
    exact k.ix.at_ j y hy) k.heap.up)
  have HK := Lib.hid k
  have HI := Lib.hid hids
  have HN := Lib.hid hnd
  have HX := Lib.hid hx
  clear k hids hnd p1 hv3 hx
  go_enter Tryz.func28, Tryz.ntmps28
  go_wp2_with fail
  refine FX.out.mono ?_
  rintro e w2 ⟨its2, kv2, rfl, hp2, hperm2, hh2, ha2, ho2, t2⟩
  have B2 := Lib.hid (HB.sifted hp2 hperm2 HN.out hh2 ha2 ho2 (by
    intro id hid
    exact HK.out.ix.no id (by rw [not_ids, ← HI.out, ← not_ids]; exact hid)) (by
    intro y hy
    rcases List.mem_or_eq_of_mem_set hy with hy | rfl
    · exact HK.out.top y hy
    · exact HK.out.top x (List.mem_of_getElem? HX.out)) HK.out.lo HK.out.hi)
  have PM := Lib.hid hperm2
  have T2 := Lib.hid (show Touch (Hp.foot h m (.slice (some ⟨g, 0, none⟩) its.length cv)) w w2 from (t1.mono (by simp [Hp.foot, Value.ownBlock])).trans t2 (by intro y hy; left; simp only [Hp.foot, List.mem_cons] at hy ⊢; exact .inr hy))
  clear hp2 hperm2 hh2 ha2 ho2 t2 t1 c0 c1 c2 e0 e1 e2 hq fz
  go_wp2_with fail
  go_ret
  exact ⟨its2, kv2, rfl, B2.out, PM.out, T2.out⟩
end
end Go.Proofs.YtobkanlnnniabaaGreat.G

/-
  The contracts of Remove and Pop.
-/
namespace Go.Proofs.YtobkanlnnniabaaGreat.G
open Go.RowKit
set_option linter.unusedVariables false
set_option linter.unusedSimpArgs false

theorem owns_take {w : World} {base e size n c j : Nat} {a : Option Addr} {xs : List Value} (h : w.ownsRow base e size (.slice a n c) n xs) (hj : j ≤ n) : w.ownsRow base e size (.slice a j c) j (xs.take (j * size)) := by
  obtain ⟨h1, h2⟩ := h
  have hjs : j * size ≤ n * size := Nat.mul_le_mul_right _ hj
  refine ⟨by rw [List.length_take]; omega, ?_⟩
  rcases h2 with ⟨h2, h3⟩ | ⟨g', cap, cur, hv, hb, hh, hn, hm, hs, ht⟩
  · simp at h2
    obtain ⟨rfl, rfl, rfl⟩ := h2
    have : j = 0 := by omega
    subst this
    exact .inl ⟨rfl, by simp⟩
  · simp at hv
    obtain ⟨rfl, rfl⟩ := hv
    refine .inr ⟨g', c, cur, rfl, hb, hh, by omega, hm, hs, ?_⟩
    rw [← ht, List.take_take, Nat.min_eq_left hjs]
theorem flatI_take (its : List Itm) (j : Nat) : (its.map encI).flatten.take (j * 3) = ((its.take j).map encI).flatten := by
  induction its generalizing j with
  | nil => simp
  | cons a r ih =>
    cases j with
    | zero => simp
    | succ j =>
      have := ih j
      simp only [List.take_succ_cons, List.map_cons, List.flatten_cons]
      rw [← this]
      have e : (j + 1) * 3 = j * 3 + 3 := by omega
      rw [e]
      simp [encI]
/-- The last entry in the place of the one at i: what is left. -/
theorem take_set_perm {its : List Itm} {i n : Nat} {x : Itm} (hn : its.length = n + 1) (hi : i < n) (hx : its[n]? = some x) : ((its.take n).set i x).Perm (its.eraseIdx i) := by
  obtain ⟨h1, h2⟩ := List.getElem?_eq_some_iff.1 hx
  have e1 : its = its.take n ++ [x] := by
    have := List.take_append_drop n its
    rw [List.drop_eq_getElem_cons h1, h2, List.drop_eq_nil_of_le (by omega)] at this
    exact this.symm
  have hl : (its.take n).length = n := by rw [List.length_take]; omega
  generalize its.take n = A at *
  subst e1
  rw [List.eraseIdx_append_of_lt_length (by omega)]
  rw [List.set_eq_take_append_cons_drop, if_pos (by omega), List.eraseIdx_eq_take_drop_succ]
  refine (List.perm_middle).trans ?_
  exact (List.perm_append_singleton x _).symm
theorem take_erase {its : List Itm} {n : Nat} (hn : its.length = n + 1) : its.take n = its.eraseIdx n := by
  rw [List.eraseIdx_eq_take_drop_succ, List.drop_eq_nil_of_le (by omega), List.append_nil]
theorem erase_mem {its : List Itm} {i : Nat} {x y : Itm} (hn : (its.map Itm.id).Nodup) (hx : its[i]? = some x) : y ∈ its.eraseIdx i ↔ y ∈ its ∧ y.id ≠ x.id := by
  rw [List.mem_eraseIdx_iff_getElem?]
  constructor
  · rintro ⟨j, hj, hy⟩
    exact ⟨List.mem_of_getElem? hy, ids_ne hn hy hx hj⟩
  · rintro ⟨hy, hne⟩
    obtain ⟨j, hj, hy⟩ := List.getElem_of_mem hy
    refine ⟨j, ?_, by rw [List.getElem?_eq_getElem hj, hy]⟩
    rintro rfl
    rw [List.getElem?_eq_getElem hj, hy] at hx
    cases hx
    exact hne rfl
theorem erase_nodup {its : List Itm} {i : Nat} (hn : (its.map Itm.id).Nodup) : ((its.eraseIdx i).map Itm.id).Nodup := ((List.eraseIdx_sublist its i).map Itm.id).nodup hn
section
variable {w : World} {h m : Nat} {v : Value} {its : List Itm} {kv : List (Int × Value)} {last : Int}
/-- The map without an entry. -/
theorem Hp.drop (k : Hp w h m v its kv last) {w' : World} {kv' : List (Int × Value)} (hm : Mp encK okK w' m kv') (t : Touch [m] w w') : Hp w' h m v its kv' last :=
  ⟨t.at k.hdr (by simpa using k.hm), t.owns k.row (by intro g hg e; simp at e; exact k.hv.2 (by rw [hg, e])), hm, k.one, k.oks, k.hm, k.hv, k.few⟩
/-- The last place is cleared and cut off. -/
theorem Hp.cut {g n c : Nat} (k : Hp w h m (.slice (some ⟨g, 0, none⟩) (n + 1) c) its kv last) {w2 : World} {z : Value} (hl : its.length = n + 1)
    (row : w2.ownsRow 0 82 3 (.slice (some ⟨g, 0, none⟩) (n + 1) c) (n + 1) ((its.map encI).flatten.take (n * 3) ++ [.int .i64 0, .int .u64 0, z] ++ (its.map encI).flatten.drop (n * 3 + 3))) (t : Touch [g] w w2) :
    Hp (w2.setCell ⟨h, 0, none⟩ (.slice (some ⟨g, 0, none⟩) n c)) h m (.slice (some ⟨g, 0, none⟩) n c) (its.take n) kv last ∧ Touch (Hp.foot h m (.slice (some ⟨g, 0, none⟩) (n + 1) c)) w (w2.setCell ⟨h, 0, none⟩ (.slice (some ⟨g, 0, none⟩) n c)) := by
  have hr := owns_take row (j := n) (by omega)
  have hfl : (its.map encI).flatten.length = its.length * 3 := by rw [flat_len (encI_len its), List.length_map]
  rw [List.append_assoc, List.take_append_of_le_length (by rw [List.length_take, hfl]; omega), List.take_take, Nat.min_self, flatI_take] at hr
  have hln : (its.take n).length = n := by rw [List.length_take]; omega
  obtain ⟨p, t2, _⟩ := k.lay (v' := .slice (some ⟨g, 0, none⟩) n c) (its' := its.take n) (w2 := w2) (by simpa [Value.ownBlock] using t) (by rw [hln]; exact hr) (.inl rfl) (fun it hit => k.one it (List.mem_of_mem_take hit)) (fun it hit => k.oks it (List.mem_of_mem_take hit)) (by have := k.few; omega)
  exact ⟨p, t2⟩
end
/-- What a call leaves: a heap in order of the entries L. -/
def Left (h m : Nat) (v : Value) (L : List Itm) (last : Int) (w w' : World) : Prop := ∃ v' its' kv', HB w' h m v' its' kv' last ∧ its'.Perm L ∧ Foot h m v v' w ∧ Touch (Hp.foot h m v) w w'
section
variable (h m : Nat) (v : Value) (its : List Itm) (kv : List (Int × Value)) (last : Int) (w : World) (k : HB w h m v its kv last)
include k
set_option maxRecDepth 100000 in
set_option maxHeartbeats 1000000 in
theorem remove_none (id : Int) (hid : okK id) (hn : ∀ y ∈ its, y.id ≠ id) : Calls Tryz.prog 31 #[.pointer (some ⟨h, 0, none⟩), .int .i64 id] w fun e w' => e = .returned (.bool false) ∧ w = w' := by
  obtain ⟨c0, c1, c2⟩ := k.hp.cells
  have hq := k.look_run h m v its kv last w id hid
  rw [k.ix.no id hn] at hq
  simp only [Option.getD_none, Option.isSome_none] at hq
  clear k hn
  go_enter Tryz.func31, Tryz.ntmps31
  go_wp2_with fail
  go_ret
  exact ⟨rfl, rfl⟩
set_option maxRecDepth 100000 in
set_option maxHeartbeats 2000000 in
theorem remove_some (i : Nat) (x : Itm) (hx : its[i]? = some x) : Calls Tryz.prog 31 #[.pointer (some ⟨h, 0, none⟩), .int .i64 x.id] w fun e w' => e = .returned (.bool true) ∧ Left h m v (its.eraseIdx i) last w w' := by
  have hil := (List.getElem?_eq_some_iff.1 hx).1
  obtain ⟨n, hn⟩ : ∃ n, its.length = n + 1 := ⟨its.length - 1, by omega⟩
  obtain ⟨av, cv, rfl, hv1, hv2, hv3⟩ := k.hp.form
  obtain ⟨g, rfl, hgh, hgm⟩ := hv3 (by omega)
  rw [hn] at k hv1
  have hfew := k.hp.few
  obtain ⟨c0, c1, c2⟩ := k.hp.cells
  have hq := k.look_run h m _ its kv last w x.id (k.hp.oks x (List.mem_of_getElem? hx))
  rw [k.ix.at_ i x hx] at hq
  simp only [Option.getD_some, Option.isSome_some] at hq
  have hkx := k.hp.oks x (List.mem_of_getElem? hx)
  have hmp := k.hp.mp
  have HK := Lib.hid k
  have HX := Lib.hid hx
  have HNN := Lib.hid hn
  clear k hv3 hx hn
  go_enter Tryz.func31, Tryz.ntmps31
  go_wp2_with (refine wpList_delete_mp rfl _ _ 77 3 rfl 3 key3 Tryz.underlying77 hmp x.id hkx (by rfl) (by rfl) ?_)
  intro w1 hm1 t1 _z1
  clear _z1
  have HP1 := Lib.hid (HK.out.hp.drop hm1 t1)
  have hz := List.getElem?_eq_getElem (l := its) (i := n) (by have := HNN.out; omega)
  generalize its[n]'(by have := HNN.out; omega) = z at hz
  have h1z := HK.out.hp.one z (List.mem_of_getElem? hz)
  have hkz := HK.out.hp.oks z (List.mem_of_getElem? hz)
  have HZ := Lib.hid hz
  obtain ⟨c0, c1, c2⟩ := HP1.out.cells
  obtain ⟨z0, z1', z2⟩ := HP1.out.elem hz
  have hgl : g < w1.heap.size := HP1.out.lt g (by simp [Hp.foot, Value.ownBlock])
  have hwn : IntKind.i64.wrap ((n : Int) + 1 - 1) = (n : Int) := by rw [IntKind.wrap_i64] <;> omega
  have hnb : (n : Int) < (n : Int) + 1 := by omega
  have tB := (Touch.refl [] w1).alloc (.cells #[.int .i64 z.id, .int .u64 z.due, z.x] 82)
  have gB := heap_alloc_new w1 (.cells #[.int .i64 z.id, .int .u64 z.due, z.x] 82)
  have HP2 := Lib.hid (HP1.out.touch tB (by simp))
  obtain ⟨d0, d1, d2⟩ := HP2.out.cells
  clear hz hm1 hmp hq
  try simp only [Act.put]
  have hlen : (its.map encI).flatten.length = its.length * 3 := by rw [flat_len (encI_len its), List.length_map]
  have hroom : n * 3 + 3 ≤ (its.map encI).flatten.length := by rw [hlen, HNN.out]; omega
  have hrow := HP2.out.row
  rw [HNN.out] at hrow
  clear hlen
  go_wp2_with (first
    | (refine wpList_store_new rfl 82 _ _ rfl _ _ [.int .i64 z.id, .int .u64 z.due, z.x] (by rfl) (by rfl) rfl infoE (by intro u hu; simp at hu; rcases hu with rfl | rfl | rfl; rfl; rfl; exact h1z) ?_)
    | (refine wpList_store_own rfl 82 _ _ rfl g (n * 3) (n + 1) cv 82 3 _ [.int .i64 0, .int .u64 0, .pointer none] hrow (by rfl) (by rfl) hroom infoE (by intro u hu; simp at hu; rcases hu with rfl | rfl | rfl <;> rfl) ?_))
  intro w2 row2 t2 z2'
  try simp only [Act.put]
  generalize w1.alloc (.cells #[.int .i64 z.id, .int .u64 z.due, z.x] 82) = W at *
  have HBg : w1.heap.size ≠ g := by omega
  have HBh : w1.heap.size ≠ h := by have := HP1.out.lt h (by simp [Hp.foot]); omega
  have HBm : w1.heap.size ≠ m := by have := HP1.out.lt m (by simp [Hp.foot]); omega
  have hsz := t1.size
  generalize w1.heap.size = B at *
  obtain ⟨p3, t3⟩ := HP2.out.cut (z := .pointer none) HNN.out (by rw [List.append_assoc]; exact row2) t2
  have HP3 := Lib.hid p3
  have c0 := t2.cell (HP2.out.cells.1) (by simpa using Ne.symm hgh)
  have f0 : w2.frozen? ⟨h, 0, none⟩ = false := by simp [World.frozen?, t2.at HP2.out.hdr (by simpa using Ne.symm hgh)]
  have T3 := Lib.hid (show Touch (Hp.foot h m (.slice (some ⟨g, 0, none⟩) (n + 1) cv)) w _ from ((t1.mono (by simp [Hp.foot])).trans tB (by simp)).trans t3 (fun y hy => .inl hy))
  have gB3 := t3.at gB (by simp [Hp.foot, Value.ownBlock]; exact ⟨HBh, HBm, HBg⟩)
  obtain ⟨b0, b1, b2⟩ := cells_three (t2.at gB (by simpa using HBg))
  clear d0 d1 d2 hrow hroom
  clear p3 row2 t2 z2' c1 c2 z0 z1' z2 t3 gB t1
  have hln : (its.take n).length = n := by rw [List.length_take, HNN.out]; omega
  by_cases hi : i < n
  · have hlt : (i : Int) < (n : Int) := by omega
    go_wp2_with fail
    generalize hw3 : w2.setCell ⟨h, 0, none⟩ (.slice (some ⟨g, 0, none⟩) n cv) = w3 at *
    clear hw3
    refine (set_any h m _ _ _ last i z.id z.due z.x w3 HP3.out (by rw [hln]; exact hi) h1z hkz).mono ?_
    rintro e w4 ⟨rfl, hp4, t4⟩
    have hids : ∀ y, y ∈ (its.take n).set i z ↔ y ∈ its ∧ y.id ≠ x.id := fun y => ((take_set_perm HNN.out hi HZ.out).mem_iff).trans (erase_mem HK.out.ids HX.out)
    have hpm := Lib.hid (take_set_perm HNN.out hi HZ.out)
    have hnd : (((its.take n).set i z).map Itm.id).Nodup := ((hpm.out).map Itm.id).nodup_iff.2 (erase_nodup HK.out.ids)
    have hzx : z.id ≠ x.id := ids_ne HK.out.ids HZ.out HX.out (by omega)
    have FX := Lib.hid (fix_any h m _ ((its.take n).set i z) _ last i z w4 hp4 (by rw [List.getElem?_set_self (by omega)]) hnd (by
      intro j y hj hy
      have hjl := (List.getElem?_eq_some_iff.1 hy).1
      rw [List.length_set, hln] at hjl
      rw [List.getElem?_set_ne (Ne.symm hj), List.getElem?_take_of_lt hjl] at hy
      rw [look_put_other _ _ _ _ (ids_ne HK.out.ids hy HZ.out (by omega)), look_del_other _ _ _ (ids_ne HK.out.ids hy HX.out hj)]
      exact HK.out.ix.at_ j y hy) (HK.out.heap.take n).up)
    have HOT := Lib.hid (show ∀ id, (∀ y ∈ (its.take n).set i z, y.id ≠ id) → look (put (del kv x.id) z.id (.int .i64 i)) id = none from by
      intro id hid
      have hz1 : id ≠ z.id := Ne.symm (hid z ((hids z).2 ⟨List.mem_of_getElem? HZ.out, hzx⟩))
      rw [look_put_other _ _ _ _ hz1]
      by_cases hx1 : id = x.id
      · rw [hx1, look_del_same]
      · rw [look_del_other _ _ _ hx1]
        refine HK.out.ix.no id fun y hy e => ?_
        exact hid y ((hids y).2 ⟨hy, by rw [e]; exact hx1⟩) e)
    have HTOP := Lib.hid (show ∀ y ∈ (its.take n).set i z, 1 ≤ y.id ∧ y.id ≤ last from fun y hy => HK.out.top y ((hids y).1 hy).1)
    have HND := Lib.hid hnd
    have T4 := Lib.hid (show Touch (Hp.foot h m (.slice (some ⟨g, 0, none⟩) (n + 1) cv)) w w4 from T3.out.trans t4 (by intro y hy; left; simp only [Hp.foot, List.mem_cons] at hy ⊢; exact .inr hy))
    clear hids hnd hp4 t4 b0 b1 b2 T3 HP3 gB3 c0 f0 hzx
    go_wp2_with fail
    refine FX.out.mono ?_
    rintro e w5 ⟨its5, kv5, rfl, hp5, hperm5, hh5, ha5, ho5, t5⟩
    have B5 := Lib.hid (HB.sifted hp5 hperm5 HND.out hh5 ha5 ho5 HOT.out HTOP.out HK.out.lo HK.out.hi)
    have PM := Lib.hid (hperm5.trans hpm.out)
    have T5 := Lib.hid (show Touch (Hp.foot h m (.slice (some ⟨g, 0, none⟩) (n + 1) cv)) w w5 from T4.out.trans t5 (by intro y hy; left; simp only [Hp.foot, List.mem_cons] at hy ⊢; exact .inr hy))
    clear hp5 hperm5 hh5 ha5 ho5 t5
    go_wp2_with fail
    go_ret
    exact ⟨rfl, _, its5, kv5, B5.out, PM.out, fun y hy => .inl hy, T5.out⟩
  · have hlt : ¬ (i : Int) < (n : Int) := by omega
    have hin : i = n := by have := HNN.out; omega
    have B3 := Lib.hid (show HB _ h m _ (its.take n) (del kv x.id) last from ⟨HP3.out, by rw [take_erase HNN.out]; exact erase_nodup HK.out.ids, ⟨fun j y hy => by
      have hjl := (List.getElem?_eq_some_iff.1 hy).1
      rw [hln] at hjl
      rw [List.getElem?_take_of_lt hjl] at hy
      rw [look_del_other _ _ _ (ids_ne HK.out.ids hy HX.out (by omega))]
      exact HK.out.ix.at_ j y hy, fun id hid => by
      by_cases hx1 : id = x.id
      · rw [hx1, look_del_same]
      · rw [look_del_other _ _ _ hx1]
        refine HK.out.ix.no id fun y hy e => ?_
        refine hid y ?_ e
        rw [take_erase HNN.out, ← hin]
        exact (erase_mem HK.out.ids HX.out).2 ⟨hy, by rw [e]; exact hx1⟩⟩, HK.out.heap.take n, fun y hy => HK.out.top y (List.mem_of_mem_take hy), HK.out.lo, HK.out.hi⟩)
    have PM := Lib.hid (show (its.take n).Perm (its.eraseIdx i) by rw [take_erase HNN.out, hin])
    clear hin hln
    go_wp2_with fail
    go_ret
    exact ⟨rfl, _, _, _, B3.out, PM.out, fun y hy => .inl hy, T3.out⟩
end
end Go.Proofs.YtobkanlnnniabaaGreat.G

/-
  An entry taken out of a list, as a filter.
-/
namespace Go.Proofs.YtobkanlnnniabaaGreat
open Go.RowKit
set_option linter.unusedVariables false
set_option linter.unusedSimpArgs false

theorem erase_filter : ∀ (its : List Itm) (i : Nat) (x : Itm), (its.map Itm.id).Nodup → its[i]? = some x → its.eraseIdx i = its.filter fun y => decide (y.id ≠ x.id)
  | [], i, x, _, h => by simp at h
  | a :: r, 0, x, hn, h => by
    simp at h
    subst h
    simp only [List.map_cons, List.nodup_cons] at hn
    have : ∀ y ∈ r, decide (y.id ≠ a.id) = true := by
      intro y hy
      simp only [decide_eq_true_eq]
      intro e
      exact hn.1 (by rw [← e]; exact List.mem_map.2 ⟨y, hy, rfl⟩)
    rw [List.eraseIdx_cons_zero, List.filter_cons_of_neg (by simp), List.filter_eq_self.2 this]
  | a :: r, i + 1, x, hn, h => by
    have hx : r[i]? = some x := by simpa using h
    simp only [List.map_cons, List.nodup_cons] at hn
    have hax : a.id ≠ x.id := fun e => hn.1 (by rw [e]; exact List.mem_map.2 ⟨x, List.mem_of_getElem? hx, rfl⟩)
    rw [List.eraseIdx_cons_succ, List.filter_cons_of_pos (by simpa using hax), erase_filter r i x hn.2 hx]
end Go.Proofs.YtobkanlnnniabaaGreat

/-
  Entries of a bag: one changed, one found.
-/
namespace Go.Proofs.YtobkanlnnniabaaGreat
open Go.RowKit
set_option linter.unusedVariables false
set_option linter.unusedSimpArgs false

def upd (id due : Int) (z : Itm) : Itm := if z.id = id then ⟨id, due, z.x⟩ else z
theorem set_upd {its : List Itm} {i : Nat} {x : Itm} (hn : (its.map Itm.id).Nodup) (hx : its[i]? = some x) (due : Int) : its.set i ⟨x.id, due, x.x⟩ = its.map (upd x.id due) := by
  apply List.ext_getElem?
  intro j
  rw [List.getElem?_map]
  by_cases hj : j = i
  · subst hj
    rw [List.getElem?_set_self (List.getElem?_eq_some_iff.1 hx).1, hx]
    simp [upd]
  · rw [List.getElem?_set_ne (Ne.symm hj)]
    cases hy : its[j]? with
    | none => rfl
    | some y =>
      have := ids_ne hn hy hx hj
      simp [upd, this]
theorem mem_at {its L : List Itm} (hp : its.Perm L) {x : Itm} (hx : x ∈ L) : ∃ i : Nat, its[i]? = some x := by
  obtain ⟨i, hi, e⟩ := List.getElem_of_mem (hp.mem_iff.2 hx)
  exact ⟨i, by rw [List.getElem?_eq_getElem hi, e]⟩
theorem sorted_unique_ids : ∀ {A M : List Itm}, A.Perm M → A.Pairwise (fun x y => le x.key y.key) → M.Pairwise (fun x y => le x.key y.key) → (A.map Itm.id).Nodup → A = M
  | [], M, h1, _, _, _ => (List.nil_perm.1 h1).symm
  | a :: A, M, h1, h2, h3, h4 => by
    cases M with
    | nil => simp at h1
    | cons b M =>
      have hb : b ∈ a :: A := h1.symm.subset List.mem_cons_self
      have ha : a ∈ b :: M := h1.subset List.mem_cons_self
      have e : a = b := by
        rcases List.mem_cons.1 hb with e | hb
        · exact e.symm
        rcases List.mem_cons.1 ha with e | ha
        · exact e
        exfalso
        have l1 := (List.pairwise_cons.1 h2).1 b hb
        have l2 := (List.pairwise_cons.1 h3).1 a ha
        have l3 : a.id = b.id := by
          have : a.key.id = b.key.id := by unfold le at l1 l2; omega
          exact this
        simp only [List.map_cons, List.nodup_cons] at h4
        exact h4.1 (by rw [l3]; exact List.mem_map.2 ⟨b, hb, rfl⟩)
      subst e
      simp only [List.map_cons, List.nodup_cons] at h4
      rw [sorted_unique_ids (List.Perm.cons_inv h1) (List.pairwise_cons.1 h2).2 (List.pairwise_cons.1 h3).2 h4.2]
theorem zero3' (w : World) : (zeroValue 3).run Tryz.prog w = .ok (.int .i64 0) w := by kernel_rfl
end Go.Proofs.YtobkanlnnniabaaGreat

/-
  A heap as a bag of entries.
-/
namespace Go.Proofs.YtobkanlnnniabaaGreat.G
open Go.RowKit Go.Sort Go.Shelf
set_option linter.unusedVariables false
set_option linter.unusedSimpArgs false

section
variable (h m : Nat) (v : Value) (its : List Itm) (kv : List (Int × Value)) (last : Int) (w : World) (k : HB w h m v its kv last)
include k
set_option maxRecDepth 100000 in
set_option maxHeartbeats 1000000 in
theorem get_none (id : Int) (hid : okK id) (hn : ∀ y ∈ its, y.id ≠ id) : Calls Tryz.prog 19 #[.pointer (some ⟨h, 0, none⟩), .int .i64 id] w fun e w' => e = .returned (.tuple #[.int .u64 0, .pointer none, .bool false]) ∧ w = w' := by
  obtain ⟨c0, c1, c2⟩ := k.hp.cells
  have hq := k.look_run h m v its kv last w id hid
  rw [k.ix.no id hn] at hq
  simp only [Option.getD_none, Option.isSome_none] at hq
  clear k hn
  go_enter Tryz.func19, Tryz.ntmps19
  go_wp2_with fail
  go_ret3
  exact ⟨rfl, rfl⟩
set_option maxRecDepth 100000 in
set_option maxHeartbeats 1000000 in
theorem get_some (i : Nat) (x : Itm) (hx : its[i]? = some x) : Calls Tryz.prog 19 #[.pointer (some ⟨h, 0, none⟩), .int .i64 x.id] w fun e w' => e = .returned (.tuple #[.int .u64 x.due, x.x, .bool true]) ∧ ∃ q, w' = w.drewN q := by
  have hil := (List.getElem?_eq_some_iff.1 hx).1
  obtain ⟨av, cv, rfl, hv1, hv2, hv3⟩ := k.hp.form
  obtain ⟨g, rfl, hgh, hgm⟩ := hv3 (by omega)
  obtain ⟨c0, c1, c2⟩ := k.hp.cells
  obtain ⟨e0, e1, e2⟩ := k.hp.elem hx
  have hq := k.look_run h m _ its kv last w x.id (k.hp.oks x (List.mem_of_getElem? hx))
  rw [k.ix.at_ i x hx] at hq
  simp only [Option.getD_some, Option.isSome_some] at hq
  have q3 : (i : Int) < (its.length : Int) := by omega
  clear k hv3 hx
  go_enter Tryz.func19, Tryz.ntmps19
  go_wp2_with fail
  go_quiet (fail)
  go_wp2_with fail
  go_ret3
  exact ⟨rfl, nq, rfl⟩
end
/-- The heap at h lies in the blocks f and bears the entries L. -/
def Bag (w : World) (h : Nat) (f : List Nat) (L : List Itm) (last : Int) : Prop := ∃ m v its kv, HB w h m v its kv last ∧ its.Perm L ∧ f = Hp.foot h m v
/-- What a call leaves. -/
def Next (w : World) (h : Nat) (f : List Nat) (L : List Itm) (last : Int) (w' : World) : Prop := ∃ f', Bag w' h f' L last ∧ (∀ y ∈ f', y ∈ f ∨ w.heap.size ≤ y) ∧ Touch f w w'
section
variable {w : World} {h : Nat} {f : List Nat} {L : List Itm} {last : Int}
theorem Bag.lt (k : Bag w h f L last) : ∀ y ∈ f, y < w.heap.size := by
  obtain ⟨m, v, its, kv, hb, hp, rfl⟩ := k
  exact hb.hp.lt
theorem Bag.touch {S : List Nat} {w' : World} (k : Bag w h f L last) (t : Touch S w w') (hS : ∀ y ∈ f, y ∉ S) : Bag w' h f L last := by
  obtain ⟨m, v, its, kv, hb, hp, rfl⟩ := k
  exact ⟨m, v, its, kv, hb.touch t hS, hp, rfl⟩
theorem Bag.ids (k : Bag w h f L last) : (L.map Itm.id).Nodup := by
  obtain ⟨m, v, its, kv, hb, hp, rfl⟩ := k
  exact (hp.map Itm.id).nodup_iff.1 hb.ids
theorem Bag.oks (k : Bag w h f L last) : ∀ y ∈ L, okK y.id ∧ 1 ≤ y.id ∧ y.id ≤ last := by
  obtain ⟨m, v, its, kv, hb, hp, rfl⟩ := k
  intro y hy
  have hy' := hp.mem_iff.2 hy
  exact ⟨hb.hp.oks y hy', hb.top y hy'⟩
theorem Bag.lo (k : Bag w h f L last) : 0 ≤ last ∧ last ≤ 1000 := by
  obtain ⟨m, v, its, kv, hb, hp, rfl⟩ := k
  exact ⟨hb.lo, hb.hi⟩
theorem Bag.perm {L' : List Itm} (k : Bag w h f L last) (hp' : L.Perm L') : Bag w h f L' last := by
  obtain ⟨m, v, its, kv, hb, hp, rfl⟩ := k
  exact ⟨m, v, its, kv, hb, hp.trans hp', rfl⟩
theorem Bag.new (w : World) : Calls Tryz.prog 18 #[] w fun e w' => ∃ h f, e = .returned (.pointer (some ⟨h, 0, none⟩)) ∧ Bag w' h f [] 0 ∧ (∀ y ∈ f, w.heap.size ≤ y) ∧ Touch [] w w' := by
  refine (new_any w).mono ?_
  rintro e w' ⟨h, m, v, rfl, hb, hf, ht⟩
  exact ⟨h, _, rfl, ⟨m, v, [], [], hb, List.Perm.refl _, rfl⟩, hf, ht⟩
theorem Bag.push (k : Bag w h f L last) (due : Int) (x : Value) (h1 : x.oneCell' = true) (hl : last < 1000) (hL : L.length < 1000) :
    Calls Tryz.prog 20 #[.pointer (some ⟨h, 0, none⟩), .int .u64 due, x] w fun e w' => e = .returned (.int .i64 (last + 1)) ∧ Next w h f (L ++ [⟨last + 1, due, x⟩]) (last + 1) w' := by
  obtain ⟨m, v, its, kv, hb, hp, rfl⟩ := k
  refine (push_any h m v its kv last due x w hb h1 hl (by rw [hp.length_eq]; exact hL)).mono ?_
  rintro e w' ⟨v', its', kv', rfl, hb', hp', hf', ht'⟩
  exact ⟨rfl, _, ⟨m, v', its', kv', hb', hp'.trans (hp.append_right _), rfl⟩, hf', ht'⟩
theorem Left.next {m : Nat} {v : Value} {L' : List Itm} {w' : World} (k : Left h m v L' last w w') (hp : L'.Perm L) : Next w h (Hp.foot h m v) L last w' := by
  obtain ⟨v', its', kv', hb', hp', hf', ht'⟩ := k
  exact ⟨_, ⟨m, v', its', kv', hb', hp'.trans hp, rfl⟩, hf', ht'⟩
theorem Bag.min_no (k : Bag w h f [] last) : Calls Tryz.prog 24 #[.pointer (some ⟨h, 0, none⟩)] w fun e w' => e = .returned (.tuple #[.int .i64 0, .int .u64 0, .pointer none, .bool false]) ∧ Touch [] w w' := by
  obtain ⟨m, v, its, kv, hb, hp, rfl⟩ := k
  exact min_none h m v its kv last w hb (List.perm_nil.1 hp)
theorem Bag.min (k : Bag w h f L last) (x : Itm) (hx : x ∈ L) (hm : ∀ y ∈ L, le x.key y.key) :
    Calls Tryz.prog 24 #[.pointer (some ⟨h, 0, none⟩)] w fun e w' => e = .returned (.tuple #[.int .i64 x.id, .int .u64 x.due, x.x, .bool true]) ∧ Touch [] w w' := by
  obtain ⟨m, v, its, kv, hb, hp, rfl⟩ := k
  obtain ⟨i, hi⟩ := mem_at hp hx
  have h0 : 0 < its.length := by have := (List.getElem?_eq_some_iff.1 hi).1; omega
  have hz := List.getElem?_eq_getElem h0
  generalize its[0] = z at hz
  have hzi : i = 0 := by
    rcases Nat.eq_zero_or_pos i with e | e
    · exact e
    exfalso
    have l1 := hb.heap.least hz i x hi
    have l2 := hm z (hp.mem_iff.1 (List.mem_of_getElem? hz))
    refine ids_ne hb.ids hi hz (by omega) ?_
    have : x.key.id = z.key.id := by unfold le at l1 l2; omega
    exact this
  subst hzi
  exact min_some h m v its kv last w hb x hi
theorem Bag.update (k : Bag w h f L last) (x : Itm) (due : Int) (hx : x ∈ L) :
    Calls Tryz.prog 28 #[.pointer (some ⟨h, 0, none⟩), .int .i64 x.id, .int .u64 due] w fun e w' => e = .returned (.bool true) ∧ Next w h f (L.map (upd x.id due)) last w' := by
  obtain ⟨m, v, its, kv, hb, hp, rfl⟩ := k
  obtain ⟨i, hi⟩ := mem_at hp hx
  refine (update_some h m v its kv last w hb i x due hi).mono ?_
  rintro e w' ⟨its', kv', rfl, hb', hp', ht'⟩
  rw [set_upd hb.ids hi] at hp'
  exact ⟨rfl, _, ⟨m, v, its', kv', hb', hp'.trans (hp.map _), rfl⟩, fun y hy => .inl hy, ht'⟩
theorem Bag.update_no (k : Bag w h f L last) (id due : Int) (hid : okK id) (hn : ∀ y ∈ L, y.id ≠ id) :
    Calls Tryz.prog 28 #[.pointer (some ⟨h, 0, none⟩), .int .i64 id, .int .u64 due] w fun e w' => e = .returned (.bool false) ∧ w = w' := by
  obtain ⟨m, v, its, kv, hb, hp, rfl⟩ := k
  exact update_none h m v its kv last w hb id due hid (fun y hy => hn y (hp.mem_iff.1 hy))
theorem Bag.remove (k : Bag w h f L last) (x : Itm) (hx : x ∈ L) :
    Calls Tryz.prog 31 #[.pointer (some ⟨h, 0, none⟩), .int .i64 x.id] w fun e w' => e = .returned (.bool true) ∧ Next w h f (L.filter fun y => decide (y.id ≠ x.id)) last w' := by
  obtain ⟨m, v, its, kv, hb, hp, rfl⟩ := k
  obtain ⟨i, hi⟩ := mem_at hp hx
  refine (remove_some h m v its kv last w hb i x hi).mono ?_
  rintro e w' ⟨rfl, hl⟩
  refine ⟨rfl, hl.next ?_⟩
  rw [erase_filter its i x hb.ids hi]
  exact hp.filter _
theorem Bag.remove_no (k : Bag w h f L last) (id : Int) (hid : okK id) (hn : ∀ y ∈ L, y.id ≠ id) :
    Calls Tryz.prog 31 #[.pointer (some ⟨h, 0, none⟩), .int .i64 id] w fun e w' => e = .returned (.bool false) ∧ w = w' := by
  obtain ⟨m, v, its, kv, hb, hp, rfl⟩ := k
  exact remove_none h m v its kv last w hb id hid (fun y hy => hn y (hp.mem_iff.1 hy))
theorem Bag.len (k : Bag w h f L last) : Calls Tryz.prog 50 #[.pointer (some ⟨h, 0, none⟩)] w fun e w' => e = .returned (.int .i64 L.length) ∧ w = w' := by
  obtain ⟨m, v, its, kv, hb, hp, rfl⟩ := k
  rw [← hp.length_eq]
  exact len_any h m v its kv last w hb
theorem Bag.get (k : Bag w h f L last) (x : Itm) (hx : x ∈ L) :
    Calls Tryz.prog 19 #[.pointer (some ⟨h, 0, none⟩), .int .i64 x.id] w fun e w' => e = .returned (.tuple #[.int .u64 x.due, x.x, .bool true]) ∧ ∃ q, w' = w.drewN q := by
  obtain ⟨m, v, its, kv, hb, hp, rfl⟩ := k
  obtain ⟨i, hi⟩ := mem_at hp hx
  exact get_some h m v its kv last w hb i x hi
theorem Bag.get_no (k : Bag w h f L last) (id : Int) (hid : okK id) (hn : ∀ y ∈ L, y.id ≠ id) :
    Calls Tryz.prog 19 #[.pointer (some ⟨h, 0, none⟩), .int .i64 id] w fun e w' => e = .returned (.tuple #[.int .u64 0, .pointer none, .bool false]) ∧ w = w' := by
  obtain ⟨m, v, its, kv, hb, hp, rfl⟩ := k
  exact get_none h m v its kv last w hb id hid (fun y hy => hn y (hp.mem_iff.1 hy))
end
end Go.Proofs.YtobkanlnnniabaaGreat.G

/-
  Nested timers as lists: subtrees, what removing one and changing a deadline does. Plain law; no program in sight.
-/
namespace Go.Proofs.YtobkanlnnniabaaGreat
set_option linter.unusedVariables false
set_option linter.unusedSimpArgs false

/-- What a timer is to the others: its handle, its parent's, the deadline asked for and the effective one. -/
structure Tm where
  id : Int
  par : Int
  req : Int
  due : Int
theorem nodup_at {l : List Int} (h : l.Nodup) {i j : Nat} {a : Int} (hi : l[i]? = some a) (hj : l[j]? = some a) : i = j := by
  obtain ⟨h1, e1⟩ := List.getElem?_eq_some_iff.1 hi
  obtain ⟨h2, e2⟩ := List.getElem?_eq_some_iff.1 hj
  have h3 := List.pairwise_iff_getElem.1 h
  rcases Nat.lt_trichotomy i j with hlt | e | hlt
  · exact absurd (e1.trans e2.symm) (h3 i j h1 h2 hlt)
  · exact e
  · exact absurd (e2.trans e1.symm) (h3 j i h2 h1 hlt)
theorem nodup_few : ∀ {l m : List Int}, l.Nodup → (∀ k ∈ l, k ∈ m) → l.length ≤ m.length
  | [], _, _, _ => Nat.zero_le _
  | a :: l, m, h, hs => by
    have ha := hs a List.mem_cons_self
    rw [List.nodup_cons] at h
    have := nodup_few (m := m.erase a) h.2 (fun k hk => by
      have hne : k ≠ a := by
        rintro rfl
        exact h.1 hk
      rw [List.mem_erase_of_ne hne]
      exact hs k (List.mem_cons_of_mem _ hk))
    rw [List.length_erase_of_mem ha] at this
    have := List.length_pos_of_mem ha
    simp only [List.length_cons]
    omega
def maxT : Int := 18446744073709551615
def tids (N : List Tm) : List Int := N.map Tm.id
/-- The direct children's handles. -/
def kids (N : List Tm) (p : Int) : List Int := (N.filter fun n => decide (n.par = p)).map Tm.id
/-- The parent's effective deadline. -/
def lim (N : List Tm) (p : Int) : Int := ((N.find? fun n => decide (n.id = p)).map Tm.due).getD maxT
/-- The shape of a set of timers: handles in ascending order from 1 to last, each parent 0 or there, less than its child. -/
structure Tree (N : List Tm) (last : Int) : Prop where
  sorted : N.Pairwise fun a b => a.id < b.id
  top : ∀ n ∈ N, 1 ≤ n.id ∧ n.id ≤ last
  par : ∀ n ∈ N, n.par = 0 ∨ n.par ∈ tids N
  up : ∀ n ∈ N, n.par < n.id
/-- A timer's deadline is right. -/
def DueOk (N : List Tm) (n : Tm) : Prop := n.due = min n.req (lim N n.par)
section
variable {N : List Tm} {last : Int}
theorem Tree.nodup (h : Tree N last) : (tids N).Nodup := by
  unfold tids
  rw [List.nodup_iff_pairwise_ne, List.pairwise_map]
  exact h.sorted.imp fun {a b} h e => by omega
theorem tm_inj (h : (tids N).Nodup) {a b : Tm} (ha : a ∈ N) (hb : b ∈ N) (e : a.id = b.id) : a = b := by
  induction N with
  | nil => simp at ha
  | cons c N ih =>
    simp only [tids, List.map_cons, List.nodup_cons] at h
    rcases List.mem_cons.1 ha with rfl | ha' <;> rcases List.mem_cons.1 hb with rfl | hb'
    · rfl
    · exact absurd (List.mem_map.2 ⟨b, hb', e.symm⟩) h.1
    · exact absurd (List.mem_map.2 ⟨a, ha', e⟩) h.1
    · exact ih h.2 ha' hb'
theorem mem_kids {p m : Int} : m ∈ kids N p ↔ ∃ n ∈ N, n.par = p ∧ n.id = m := by
  simp [kids, and_assoc]
theorem kids_sub {p m : Int} (h : m ∈ kids N p) : m ∈ tids N := by
  obtain ⟨n, hn, _, rfl⟩ := mem_kids.1 h
  exact List.mem_map.2 ⟨n, hn, rfl⟩
theorem Tree.kids_up (h : Tree N last) {p m : Int} (hm : m ∈ kids N p) : p < m := by
  obtain ⟨n, hn, rfl, rfl⟩ := mem_kids.1 hm
  exact h.up n hn
theorem Tree.kids_nodup (h : Tree N last) (p : Int) : (kids N p).Nodup := by
  have h1 := h.nodup
  unfold kids tids at *
  exact List.Sublist.nodup (List.Sublist.map _ List.filter_sublist) h1
theorem Tree.kids_disj (h : Tree N last) {p q m : Int} (hp : m ∈ kids N p) (hq : m ∈ kids N q) : p = q := by
  obtain ⟨n, hn, rfl, rfl⟩ := mem_kids.1 hp
  obtain ⟨k, hk, rfl, e⟩ := mem_kids.1 hq
  rw [tm_inj h.nodup hk hn e]
/-- What the walk down from id has listed, the first i of its entries looked up. -/
structure Bfs (N : List Tm) (id : Int) (l : List Int) (i : Nat) : Prop where
  eq : l = id :: (l.take i).flatMap (kids N)
  il : i ≤ l.length
  nodup : l.Nodup
  mem : ∀ k ∈ l, k ∈ tids N
  late : ∀ (j : Nat) p, j < i → l[j]? = some p → ∀ m ∈ kids N p, m ∈ l.drop (j + 1)
theorem Bfs.start (h : Tree N last) {id : Int} (hi : id ∈ tids N) : Bfs N id [id] 0 :=
  ⟨by simp, by simp, by simp, by simpa using hi, by intro j p hj; omega⟩
theorem Bfs.ge (h : Tree N last) {id : Int} {l : List Int} {i : Nat} (b : Bfs N id l i) : ∀ k ∈ l, id ≤ k := by
  have key : ∀ (j : Nat), ∀ k, l[j]? = some k → id ≤ k := by
    intro j
    induction j using Nat.strongRecOn with
    | _ j ih =>
      intro k hk
      have hm := List.mem_of_getElem? hk
      rw [b.eq] at hm
      rcases List.mem_cons.1 hm with rfl | hm
      · exact Int.le_refl _
      · obtain ⟨p, hp, hkp⟩ := List.mem_flatMap.1 hm
        obtain ⟨q, hq⟩ := List.mem_iff_getElem?.1 hp
        rw [List.getElem?_take] at hq
        split at hq
        · rename_i hqi
          have hd := b.late q p hqi hq k hkp
          obtain ⟨r, hr⟩ := List.mem_iff_getElem?.1 hd
          rw [List.getElem?_drop] at hr
          have : q + 1 + r = j := by
            exact nodup_at b.nodup hr hk
          have := ih q (by omega) p hq
          have := h.kids_up hkp
          omega
        · cases hq
  intro k hk
  obtain ⟨j, hj⟩ := List.mem_iff_getElem?.1 hk
  exact key j k hj
theorem Bfs.step (h : Tree N last) {id p : Int} {l : List Int} {i : Nat} (b : Bfs N id l i) (hp : l[i]? = some p) : Bfs N id (l ++ kids N p) (i + 1) := by
  obtain ⟨hil, ep⟩ := List.getElem?_eq_some_iff.1 hp
  have htk : l.take (i + 1) = l.take i ++ [p] := by
    rw [List.take_add_one, hp]
    rfl
  have hnew : ∀ m ∈ kids N p, m ∉ l := by
    intro m hm hml
    rw [b.eq] at hml
    rcases List.mem_cons.1 hml with rfl | hml
    · have := h.kids_up hm
      have := b.ge h p (List.mem_of_getElem? hp)
      omega
    · obtain ⟨q, hq, hmq⟩ := List.mem_flatMap.1 hml
      have e := h.kids_disj hm hmq
      subst e
      obtain ⟨j, hj⟩ := List.mem_iff_getElem?.1 hq
      rw [List.getElem?_take] at hj
      split at hj
      · rename_i hji
        have := nodup_at b.nodup hj hp
        omega
      · cases hj
  refine ⟨?_, by simp; omega, ?_, ?_, ?_⟩
  · rw [List.take_append_of_le_length (by omega), htk, List.flatMap_append, ← List.cons_append, ← b.eq]
    simp
  · rw [List.nodup_append]
    refine ⟨b.nodup, h.kids_nodup p, fun a ha c hc e => ?_⟩
    subst e
    exact hnew a hc ha
  · intro k hk
    rcases List.mem_append.1 hk with hk | hk
    · exact b.mem k hk
    · exact kids_sub hk
  · intro j q hj hq m hm
    by_cases hji : j = i
    · subst hji
      rw [List.getElem?_append_left hil, hp] at hq
      cases hq
      rw [List.drop_append_of_le_length (by omega)]
      exact List.mem_append.2 (.inr hm)
    · rw [List.getElem?_append_left (by omega)] at hq
      rw [List.drop_append_of_le_length (by omega)]
      exact List.mem_append.2 (.inl (b.late j q (by omega) hq m hm))
theorem Bfs.few {id : Int} {l : List Int} {i : Nat} (b : Bfs N id l i) : l.length ≤ N.length := by
  have := nodup_few b.nodup b.mem
  simpa [tids] using this
/-- The subtree of id: all entries looked up. -/
def Sub (N : List Tm) (id : Int) (l : List Int) : Prop := Bfs N id l l.length
/-- id, or below it. -/
inductive Under (N : List Tm) (id : Int) : Int → Prop where
  | self : id ∈ tids N → Under N id id
  | kid {p m : Int} : Under N id p → m ∈ kids N p → Under N id m
theorem Sub.head {id : Int} {l : List Int} (b : Sub N id l) : l[0]? = some id := by
  rw [b.eq]
  rfl
theorem Sub.closed {id p m : Int} {l : List Int} (b : Sub N id l) (hp : p ∈ l) (hm : m ∈ kids N p) : m ∈ l := by
  obtain ⟨j, hj⟩ := List.mem_iff_getElem?.1 hp
  exact List.mem_of_mem_drop (b.late j p (List.getElem?_eq_some_iff.1 hj).1 hj m hm)
theorem Sub.iff {id : Int} {l : List Int} (b : Sub N id l) (k : Int) : k ∈ l ↔ Under N id k := by
  constructor
  · intro hk
    obtain ⟨j, hj⟩ := List.mem_iff_getElem?.1 hk
    clear hk
    induction j using Nat.strongRecOn generalizing k with
    | _ j ih =>
      have hm := List.mem_of_getElem? hj
      rw [b.eq] at hm
      rcases List.mem_cons.1 hm with rfl | hm
      · exact .self (b.mem _ (List.mem_of_getElem? hj))
      · obtain ⟨p, hp, hkp⟩ := List.mem_flatMap.1 hm
        rw [List.take_length] at hp
        obtain ⟨q, hq⟩ := List.mem_iff_getElem?.1 hp
        have hql := (List.getElem?_eq_some_iff.1 hq).1
        have hd := b.late q p hql hq k hkp
        obtain ⟨r, hr⟩ := List.mem_iff_getElem?.1 hd
        rw [List.getElem?_drop] at hr
        have : q + 1 + r = j := by
          exact nodup_at b.nodup hr hj
        exact .kid (ih q (by omega) p hq) hkp
  · intro hu
    induction hu with
    | self h => exact List.mem_of_getElem? b.head
    | kid hp hm ih => exact b.closed ih hm
/-- Kids outside of a subtree have no parent in it, but for its head. -/
theorem Sub.out {id : Int} {l : List Int} (b : Sub N id l) {n : Tm} (hn : n ∈ N) (hl : n.id ∉ l) : n.par ∉ l := fun h => hl (b.closed h (mem_kids.2 ⟨n, hn, rfl, rfl⟩))
/-- Without a subtree: still a tree. -/
theorem Tree.cut (h : Tree N last) {id : Int} {l : List Int} (b : Sub N id l) : Tree (N.filter fun n => decide (n.id ∉ l)) last := by
  have hs : (N.filter fun n => decide (n.id ∉ l)).Sublist N := List.filter_sublist
  refine ⟨h.sorted.sublist hs, fun n hn => h.top n (hs.subset hn), fun n hn => ?_, fun n hn => h.up n (hs.subset hn)⟩
  obtain ⟨hn1, hn2⟩ := List.mem_filter.1 hn
  simp only [decide_eq_true_eq] at hn2
  rcases h.par n hn1 with e | e
  · exact .inl e
  · right
    obtain ⟨p, hp, ep⟩ := List.mem_map.1 e
    exact List.mem_map.2 ⟨p, List.mem_filter.2 ⟨hp, by simpa [ep] using b.out hn1 hn2⟩, ep⟩
theorem lim_mem (h : (tids N).Nodup) {p : Tm} (hp : p ∈ N) : lim N p.id = p.due := by
  have : N.find? (fun n => decide (n.id = p.id)) = some p := by
    cases hf : N.find? fun n => decide (n.id = p.id) with
    | none =>
      have := List.find?_eq_none.1 hf p hp
      simp at this
    | some q =>
      have h1 := List.find?_some hf
      simp at h1
      rw [tm_inj h (List.mem_of_find?_eq_some hf) hp h1]
  simp [lim, this]
theorem lim_no {p : Int} (hp : p ∉ tids N) : lim N p = maxT := by
  have : N.find? (fun n => decide (n.id = p)) = none := by
    rw [List.find?_eq_none]
    intro n hn
    simp only [decide_eq_true_eq]
    intro e
    exact hp (List.mem_map.2 ⟨n, hn, e⟩)
  simp [lim, this]
theorem Tree.zero (h : Tree N last) : (0 : Int) ∉ tids N := by
  intro e
  obtain ⟨n, hn, e⟩ := List.mem_map.1 e
  have := h.top n hn
  omega
theorem lim_cut (h : Tree N last) {id : Int} {l : List Int} (b : Sub N id l) {n : Tm} (hn : n ∈ N) (hl : n.id ∉ l) : lim (N.filter fun n => decide (n.id ∉ l)) n.par = lim N n.par := by
  rcases h.par n hn with e | e
  · rw [e, lim_no h.zero, lim_no (h.cut b).zero]
  · obtain ⟨p, hp, ep⟩ := List.mem_map.1 e
    have hp2 : p ∈ N.filter fun n => decide (n.id ∉ l) := List.mem_filter.2 ⟨hp, by simpa [ep] using b.out hn hl⟩
    rw [← ep, lim_mem h.nodup hp, lim_mem (h.cut b).nodup hp2]
theorem due_cut (h : Tree N last) {id : Int} {l : List Int} (b : Sub N id l) (hd : ∀ n ∈ N, DueOk N n) : ∀ n ∈ N.filter fun n => decide (n.id ∉ l), DueOk (N.filter fun n => decide (n.id ∉ l)) n := by
  intro n hn
  obtain ⟨hn1, hn2⟩ := List.mem_filter.1 hn
  simp only [decide_eq_true_eq] at hn2
  unfold DueOk
  rw [lim_cut h b hn1 hn2]
  exact hd n hn1
theorem kids_cut {l : List Int} {p : Int} : kids (N.filter fun n => decide (n.id ∉ l)) p = (kids N p).filter fun k => decide (k ∉ l) := by
  unfold kids
  rw [List.filter_filter, List.filter_map, List.filter_filter]
  congr 1
  apply List.filter_congr
  intro n _
  simp [Bool.and_comm]
/-- The children of one that stays: id alone is missing, and only where it is the parent. -/
theorem kids_cut_eq (h : Tree N last) {id : Int} {l : List Int} (b : Sub N id l) {p : Int} (hp : p ∉ l) : kids (N.filter fun n => decide (n.id ∉ l)) p = (kids N p).filter fun k => decide (k ≠ id) := by
  rw [kids_cut]
  apply List.filter_congr
  intro k hk
  have : k ∈ l ↔ k = id := by
    constructor
    · intro hkl
      rw [b.eq] at hkl
      rcases List.mem_cons.1 hkl with e | hkl
      · exact e
      · obtain ⟨q, hq, hkq⟩ := List.mem_flatMap.1 hkl
        rw [List.take_length] at hq
        have := h.kids_disj hk hkq
        subst this
        exact absurd hq hp
    · rintro rfl
      exact List.mem_of_getElem? b.head
  simp [this]
theorem kids_cut_other (h : Tree N last) {id : Int} {l : List Int} (b : Sub N id l) {p : Int} (hp : p ∉ l) (hi : id ∉ kids N p) : kids (N.filter fun n => decide (n.id ∉ l)) p = kids N p := by
  rw [kids_cut_eq h b hp]
  rw [List.filter_eq_self]
  intro k hk
  simp only [ne_eq, decide_eq_true_eq]
  rintro rfl
  exact hi hk
/-- One more timer. -/
theorem Tree.snoc (h : Tree N last) {t : Tm} (hi : t.id = last + 1) (hl : 0 ≤ last) (hp : t.par = 0 ∨ t.par ∈ tids N) : Tree (N ++ [t]) (last + 1) := by
  have hpl : t.par ≤ last := by
    rcases hp with e | e
    · omega
    · obtain ⟨n, hn, e⟩ := List.mem_map.1 e
      have := h.top n hn
      omega
  refine ⟨?_, ?_, ?_, ?_⟩
  · rw [List.pairwise_append]
    refine ⟨h.sorted, by simp, ?_⟩
    intro a ha b hb
    simp at hb
    subst hb
    have := h.top a ha
    omega
  · intro n hn
    rcases List.mem_append.1 hn with hn | hn
    · have := h.top n hn
      omega
    · simp at hn
      subst hn
      omega
  · intro n hn
    rcases List.mem_append.1 hn with hn | hn
    · rcases h.par n hn with e | e
      · exact .inl e
      · right
        simp only [tids, List.map_append]
        exact List.mem_append.2 (.inl e)
    · simp at hn
      subst hn
      rcases hp with e | e
      · exact .inl e
      · right
        simp only [tids, List.map_append]
        exact List.mem_append.2 (.inl e)
  · intro n hn
    rcases List.mem_append.1 hn with hn | hn
    · exact h.up n hn
    · simp at hn
      subst hn
      omega
theorem lim_snoc (h : Tree N last) {t : Tm} (hi : t.id = last + 1) {p : Int} (hp : p ≤ last) : lim (N ++ [t]) p = lim N p := by
  unfold lim
  rw [List.find?_append]
  have : [t].find? (fun n => decide (n.id = p)) = none := by
    simp
    omega
  rw [this]
  simp
theorem due_snoc (h : Tree N last) {t : Tm} (hi : t.id = last + 1) (hl : 0 ≤ last) (hp : t.par = 0 ∨ t.par ∈ tids N) (ht : t.due = min t.req (lim N t.par)) (hd : ∀ n ∈ N, DueOk N n) : ∀ n ∈ N ++ [t], DueOk (N ++ [t]) n := by
  intro n hn
  unfold DueOk
  rcases List.mem_append.1 hn with hn | hn
  · have h1 := h.top n hn
    have h2 := h.up n hn
    rw [lim_snoc h hi (by omega)]
    exact hd n hn
  · simp at hn
    subst hn
    have hpl : n.par ≤ last := by
      rcases hp with e | e
      · omega
      · obtain ⟨m, hm, e⟩ := List.mem_map.1 e
        have := h.top m hm
        omega
    rw [lim_snoc h hi hpl]
    exact ht
theorem kids_snoc (t : Tm) (p : Int) : kids (N ++ [t]) p = if t.par = p then kids N p ++ [t.id] else kids N p := by
  unfold kids
  rw [List.filter_append]
  split <;> simp_all
/-- Deadlines changed, nothing else. -/
def setDue (id due : Int) (n : Tm) : Tm := if n.id = id then { n with due := due } else n
def setReq (id req : Int) (n : Tm) : Tm := if n.id = id then { n with req := req } else n
theorem setDue_keep (id due : Int) (n : Tm) : (setDue id due n).id = n.id ∧ (setDue id due n).par = n.par ∧ (setDue id due n).req = n.req := by
  unfold setDue
  split <;> exact ⟨rfl, rfl, rfl⟩
theorem setReq_keep (id due : Int) (n : Tm) : (setReq id due n).id = n.id ∧ (setReq id due n).par = n.par ∧ (setReq id due n).due = n.due := by
  unfold setReq
  split <;> exact ⟨rfl, rfl, rfl⟩
theorem tids_map (f : Tm → Tm) (hf : ∀ n, (f n).id = n.id) : tids (N.map f) = tids N := by
  unfold tids
  rw [List.map_map]
  apply List.map_congr_left
  intro n _
  exact hf n
theorem kids_map (f : Tm → Tm) (hf : ∀ n, (f n).id = n.id ∧ (f n).par = n.par) (p : Int) : kids (N.map f) p = kids N p := by
  unfold kids
  rw [List.filter_map, List.map_map]
  have : ((fun n : Tm => decide (n.par = p)) ∘ f) = fun n => decide (n.par = p) := by
    funext n
    simp [(hf n).2]
  rw [this]
  apply List.map_congr_left
  intro n _
  exact (hf n).1
theorem Tree.map (h : Tree N last) (f : Tm → Tm) (hf : ∀ n, (f n).id = n.id ∧ (f n).par = n.par) : Tree (N.map f) last := by
  refine ⟨?_, ?_, ?_, ?_⟩
  · rw [List.pairwise_map]
    exact h.sorted.imp fun {a b} h => by rw [(hf a).1, (hf b).1]; exact h
  · intro n hn
    obtain ⟨m, hm, rfl⟩ := List.mem_map.1 hn
    rw [(hf m).1]
    exact h.top m hm
  · intro n hn
    obtain ⟨m, hm, rfl⟩ := List.mem_map.1 hn
    rw [tids_map f (fun n => (hf n).1), (hf m).2]
    exact h.par m hm
  · intro n hn
    obtain ⟨m, hm, rfl⟩ := List.mem_map.1 hn
    rw [(hf m).1, (hf m).2]
    exact h.up m hm
theorem lim_setDue {id due p : Int} (hp : p ≠ id) : lim (N.map (setDue id due)) p = lim N p := by
  unfold lim
  rw [List.find?_map]
  have : ((fun n : Tm => decide (n.id = p)) ∘ setDue id due) = fun n => decide (n.id = p) := by
    funext n
    simp [(setDue_keep id due n).1]
  rw [this, Option.map_map]
  cases hf : N.find? fun n => decide (n.id = p) with
  | none => rfl
  | some n =>
    have := List.find?_some hf
    simp only [decide_eq_true_eq] at this
    have hne : n.id ≠ id := by omega
    simp [setDue, hne]
theorem lim_setReq {id due p : Int} : lim (N.map (setReq id due)) p = lim N p := by
  unfold lim
  rw [List.find?_map]
  have : ((fun n : Tm => decide (n.id = p)) ∘ setReq id due) = fun n => decide (n.id = p) := by
    funext n
    simp [(setReq_keep id due n).1]
  rw [this, Option.map_map]
  cases hf : N.find? fun n => decide (n.id = p) with
  | none => rfl
  | some n =>
    simp [(setReq_keep id due n).2.2]
/-- Between two rounds of Reset: the deadlines of those that are still to come may be wrong. -/
def DueBut (N : List Tm) (l : List Int) : Prop := ∀ n ∈ N, n.id ∉ l → DueOk N n
theorem DueBut.start (h : Tree N last) (hd : ∀ n ∈ N, DueOk N n) {id req : Int} {l : List Int} (hl : id ∈ l) : DueBut (N.map (setReq id req)) l := by
  intro n hn hnl
  obtain ⟨m, hm, rfl⟩ := List.mem_map.1 hn
  have hne : m.id ≠ id := by
    intro e
    rw [(setReq_keep id req m).1, e] at hnl
    exact hnl hl
  have he : setReq id req m = m := by simp [setReq, hne]
  rw [he]
  unfold DueOk
  rw [lim_setReq]
  exact hd m hm
theorem DueBut.step (h : Tree N last) {id : Int} {l : List Int} (b : Sub N id l) {i : Nat} {n : Tm} (hn : n ∈ N) (hi : l[i]? = some n.id) (hd : DueBut N (l.drop i)) : DueBut (N.map (setDue n.id (min n.req (lim N n.par)))) (l.drop (i + 1)) := by
  intro m hm hml
  obtain ⟨k, hk, rfl⟩ := List.mem_map.1 hm
  have hup := h.up k hk
  unfold DueOk
  obtain ⟨q1, q2, q3⟩ := setDue_keep n.id (min n.req (lim N n.par)) k
  rw [q1] at hml
  rw [q2, q3]
  by_cases hkn : k.id = n.id
  · have e := tm_inj h.nodup hk hn hkn
    subst e
    rw [lim_setDue (by omega)]
    simp [setDue]
  · have hpn : k.par ≠ n.id := by
      intro e
      have := b.late i n.id (List.getElem?_eq_some_iff.1 hi).1 hi k.id (mem_kids.2 ⟨k, hk, e, rfl⟩)
      exact hml this
    rw [lim_setDue hpn]
    have hkd : k.id ∉ l.drop i := by
      rw [List.drop_eq_getElem_cons (List.getElem?_eq_some_iff.1 hi).1, (List.getElem?_eq_some_iff.1 hi).2]
      simp only [List.mem_cons, not_or]
      exact ⟨hkn, hml⟩
    have : (setDue n.id (min n.req (lim N n.par)) k).due = k.due := by simp [setDue, hkn]
    rw [this]
    exact hd k hk hkd
end
end Go.Proofs.YtobkanlnnniabaaGreat

/-
  Timers of one instance in memory.
-/
namespace Go.Proofs.YtobkanlnnniabaaGreat.G
open Go.RowKit
set_option linter.unusedVariables false
set_option linter.unusedSimpArgs false

/-- A timer's tag. -/
structure Tag where
  a : Int
  b : Int
  c : Int
def Tag.oneCell' (x : Tag) : Bool := true
/-- A timer in memory: what it is to the others, its value, its block and the value of its slice of children. -/
structure Nd where
  t : Tm
  x : Tag
  b : Nat
  v : Value
def Nd.itm (n : Nd) : Itm := ⟨n.t.id, n.t.due, .pointer (some ⟨n.b, 0, none⟩)⟩
def Nd.foot (n : Nd) : List Nat := n.b :: n.v.ownBlock.toList
def sh (N : List Nd) : List Tm := N.map Nd.t
/-- A timer's cells, its children the list K. -/
structure NdOk (w : World) (K : List Int) (n : Nd) : Prop where
  hdr : w.heap[n.b]? = some (.cells #[.int .i64 n.t.par, .int .u64 n.t.req, .int .i64 n.x.a, .int .i64 n.x.b, .int .i64 n.x.c, n.v] 55 (0, 0))
  row : w.ownsRow 0 3 1 n.v K.length (K.map (Value.int .i64))
  one : n.x.oneCell' = true
  hv : n.v.ownBlock ≠ some n.b
/-- The timers' memory, the children of the timer i the list K i. -/
structure TK (w : World) (t h : Nat) (fh : List Nat) (N : List Nd) (last : Int) (K : Int → List Int) : Prop where
  hdr : w.heap[t]? = some (.cells #[.pointer (some ⟨h, 0, none⟩)] 49 (0, 0))
  bag : Bag w h fh (N.map Nd.itm) last
  nd : ∀ n ∈ N, NdOk w (K n.t.id) n
  rq : ∀ n ∈ N, 0 ≤ n.t.req ∧ n.t.req ≤ maxT
  few : N.length ≤ 1000
  tf : t ∉ fh
  nt : ∀ n ∈ N, t ∉ n.foot
  nf : ∀ n ∈ N, ∀ y ∈ n.foot, y ∉ fh
  nn : N.Pairwise fun a b => ∀ y ∈ a.foot, y ∉ b.foot
structure TM (w : World) (t h : Nat) (fh : List Nat) (N : List Nd) (last : Int) : Prop where
  mem : TK w t h fh N last (kids (sh N))
  tree : Tree (sh N) last
  due : ∀ s ∈ sh N, DueOk (sh N) s
def TFoot (t : Nat) (fh : List Nat) (N : List Nd) : List Nat := t :: (fh ++ N.flatMap Nd.foot)
theorem TFoot.mem {t : Nat} {fh : List Nat} {N : List Nd} {y : Nat} : y ∈ TFoot t fh N ↔ y = t ∨ y ∈ fh ∨ ∃ n ∈ N, y ∈ n.foot := by
  simp [TFoot]
theorem NdOk.touch {w w' : World} {K : List Int} {n : Nd} {S : List Nat} (k : NdOk w K n) (t : Touch S w w') (hS : ∀ y ∈ n.foot, y ∉ S) : NdOk w' K n :=
  ⟨t.at k.hdr (hS _ (by simp [Nd.foot])), t.owns k.row (fun g hg => hS g (by simp [Nd.foot, hg])), k.one, k.hv⟩
theorem NdOk.lt {w : World} {K : List Int} {n : Nd} (k : NdOk w K n) : ∀ y ∈ n.foot, y < w.heap.size := by
  intro y hy
  simp only [Nd.foot, List.mem_cons, Option.mem_toList] at hy
  rcases hy with rfl | hy
  · exact (Array.getElem?_eq_some_iff.1 k.hdr).1
  · exact (k.row.lt y hy).2
theorem NdOk.cells {w : World} {K : List Int} {n : Nd} (k : NdOk w K n) : w.cell? ⟨n.b, 0, none⟩ = some (.int .i64 n.t.par) ∧ w.cell? ⟨n.b, 1, none⟩ = some (.int .u64 n.t.req) ∧ w.rangeAt n.b 2 [.int .i64 n.x.a, .int .i64 n.x.b, .int .i64 n.x.c] ∧ w.cell? ⟨n.b, 5, none⟩ = some n.v := by
  have q := k.hdr
  refine ⟨by simp [World.cell?, q], by simp [World.cell?, q], fun i u hu => ?_, by simp [World.cell?, q]⟩
  match i, hu with
  | 0, hu | 1, hu | 2, hu =>
    simp at hu
    subst hu
    simp [World.cell?, q]
  | i + 3, hu => simp at hu
section
variable {w : World} {t h : Nat} {fh : List Nat} {N : List Nd} {last : Int} {K : Int → List Int}
theorem TK.lt (k : TK w t h fh N last K) : ∀ y ∈ TFoot t fh N, y < w.heap.size := by
  intro y hy
  rcases TFoot.mem.1 hy with rfl | hy | ⟨n, hn, hy⟩
  · exact (Array.getElem?_eq_some_iff.1 k.hdr).1
  · exact k.bag.lt y hy
  · exact (k.nd n hn).lt y hy
theorem TK.touch {S : List Nat} {w' : World} (k : TK w t h fh N last K) (ht : Touch S w w') (hS : ∀ y ∈ TFoot t fh N, y ∉ S) : TK w' t h fh N last K :=
  ⟨ht.at k.hdr (hS _ (TFoot.mem.2 (.inl rfl))), k.bag.touch ht (fun y hy => hS y (TFoot.mem.2 (.inr (.inl hy)))), fun n hn => (k.nd n hn).touch ht (fun y hy => hS y (TFoot.mem.2 (.inr (.inr ⟨n, hn, hy⟩)))), k.rq, k.few, k.tf, k.nt, k.nf, k.nn⟩
theorem TM.touch {S : List Nat} {w' : World} (k : TM w t h fh N last) (ht : Touch S w w') (hS : ∀ y ∈ TFoot t fh N, y ∉ S) : TM w' t h fh N last := ⟨k.mem.touch ht hS, k.tree, k.due⟩
theorem TK.cell (k : TK w t h fh N last K) : w.cell? ⟨t, 0, none⟩ = some (.pointer (some ⟨h, 0, none⟩)) := by
  simp [World.cell?, k.hdr]
theorem TK.apart (k : TK w t h fh N last K) (hu : (tids (sh N)).Nodup) {a b : Nd} (ha : a ∈ N) (hb : b ∈ N) (hne : a.t.id ≠ b.t.id) : ∀ y ∈ a.foot, y ∉ b.foot := by
  have key : ∀ (N : List Nd), (N.Pairwise fun a b => ∀ y ∈ a.foot, y ∉ b.foot) → a ∈ N → b ∈ N → ∀ y ∈ a.foot, y ∉ b.foot := by
    intro N
    induction N with
    | nil =>
      intro _ ha
      simp at ha
    | cons c N ih =>
      intro hp ha hb y hy hy2
      rw [List.pairwise_cons] at hp
      rcases List.mem_cons.1 ha with rfl | ha' <;> rcases List.mem_cons.1 hb with rfl | hb'
      · exact hne rfl
      · exact hp.1 b hb' y hy hy2
      · exact hp.1 a ha' y hy2 hy
      · exact ih hp.2 ha' hb' y hy hy2
  exact key N k.nn ha hb
theorem sh_mem {n : Nd} (hn : n ∈ N) : n.t ∈ sh N := List.mem_map.2 ⟨n, hn, rfl⟩
theorem sh_tids {n : Nd} (hn : n ∈ N) : n.t.id ∈ tids (sh N) := List.mem_map.2 ⟨n.t, sh_mem hn, rfl⟩
theorem sh_at {i : Int} (hi : i ∈ tids (sh N)) : ∃ n ∈ N, n.t.id = i := by
  obtain ⟨s, hs, rfl⟩ := List.mem_map.1 hi
  obtain ⟨n, hn, rfl⟩ := List.mem_map.1 hs
  exact ⟨n, hn, rfl⟩
/-- The bag has changed; the timers have not. -/
theorem TK.bagged {N' : List Nd} {w' : World} {fh' : List Nat} {last' : Int} (k : TK w t h fh N last K) (hb : Bag w' h fh' (N'.map Nd.itm) last') (hf : ∀ y ∈ fh', y ∈ fh ∨ w.heap.size ≤ y) (ht : Touch fh w w') (hN : ∀ n ∈ N', n ∈ N ∨ ∃ m ∈ N, n.b = m.b ∧ n.v = m.v ∧ n.x = m.x ∧ n.t.id = m.t.id ∧ n.t.par = m.t.par ∧ n.t.req = m.t.req) (hs : N'.Pairwise fun a b => ∀ y ∈ a.foot, y ∉ b.foot) (hl : N'.length ≤ 1000) : TK w' t h fh' N' last' K := by
  have hlt := k.lt
  have key : ∀ n ∈ N', ∃ m ∈ N, n.b = m.b ∧ n.v = m.v ∧ n.x = m.x ∧ n.t.id = m.t.id ∧ n.t.par = m.t.par ∧ n.t.req = m.t.req := by
    intro n hn
    rcases hN n hn with hn | h
    · exact ⟨n, hn, rfl, rfl, rfl, rfl, rfl, rfl⟩
    · exact h
  refine ⟨ht.at k.hdr k.tf, hb, ?_, ?_, hl, ?_, ?_, ?_, hs⟩
  · intro n hn
    obtain ⟨m, hm, e1, e2, e3, e4, e5, e6⟩ := key n hn
    have := (k.nd m hm).touch ht (k.nf m hm)
    exact ⟨by rw [e1, e2, e3, e5, e6]; exact this.hdr, by rw [e2, e4]; exact this.row, by rw [e3]; exact this.one, by rw [e1, e2]; exact this.hv⟩
  · intro n hn
    obtain ⟨m, hm, e1, e2, e3, e4, e5, e6⟩ := key n hn
    rw [e6]
    exact k.rq m hm
  · intro e
    rcases hf t e with e | e
    · exact k.tf e
    · have := hlt t (TFoot.mem.2 (.inl rfl))
      omega
  · intro n hn
    obtain ⟨m, hm, e1, e2, e3, e4, e5, e6⟩ := key n hn
    have := k.nt m hm
    simpa [Nd.foot, e1, e2] using this
  · intro n hn y hy e
    obtain ⟨m, hm, e1, e2, e3, e4, e5, e6⟩ := key n hn
    have hy' : y ∈ m.foot := by simpa [Nd.foot, e1, e2] using hy
    rcases hf y e with e | e
    · exact k.nf m hm y hy' e
    · have := hlt y (TFoot.mem.2 (.inr (.inr ⟨m, hm, hy'⟩)))
      omega
/-- One timer's slice of children is another. -/
def setV (id : Int) (v : Value) (n : Nd) : Nd := if n.t.id = id then { n with v := v } else n
theorem setV_keep (id : Int) (v : Value) (n : Nd) : (setV id v n).t = n.t ∧ (setV id v n).itm = n.itm ∧ (setV id v n).b = n.b ∧ (setV id v n).x = n.x := by
  unfold setV
  split <;> exact ⟨rfl, rfl, rfl, rfl⟩
theorem sh_setV (id : Int) (v : Value) : sh (N.map (setV id v)) = sh N := by
  unfold sh
  rw [List.map_map]
  apply List.map_congr_left
  intro n _
  exact (setV_keep id v n).1
theorem itm_setV (id : Int) (v : Value) : (N.map (setV id v)).map Nd.itm = N.map Nd.itm := by
  rw [List.map_map]
  apply List.map_congr_left
  intro n _
  exact (setV_keep id v n).2.1
def putK (K : Int → List Int) (id : Int) (l : List Int) (i : Int) : List Int := if i = id then l else K i
theorem nd_inj (hu : (tids (sh N)).Nodup) {a b : Nd} (ha : a ∈ N) (hb : b ∈ N) (e : a.t.id = b.t.id) : a = b := by
  induction N with
  | nil => simp at ha
  | cons c N ih =>
    simp only [tids, sh, List.map_cons, List.nodup_cons] at hu
    have hc : ∀ d ∈ N, d.t.id ≠ c.t.id := by
      intro d hd e
      exact hu.1 (by rw [← e]; exact List.mem_map.2 ⟨d.t, List.mem_map.2 ⟨d, hd, rfl⟩, rfl⟩)
    rcases List.mem_cons.1 ha with rfl | ha' <;> rcases List.mem_cons.1 hb with rfl | hb'
    · rfl
    · exact absurd e.symm (hc b hb')
    · exact absurd e (hc a ha')
    · exact ih hu.2 ha' hb'
theorem TK.kids_set {p : Nd} {w2 : World} {v' : Value} {l : List Int} (k : TK w t h fh N last K) (hu : (tids (sh N)).Nodup) (hp : p ∈ N) (ht : Touch p.foot w w2)
    (hh : w2.heap[p.b]? = some (.cells #[.int .i64 p.t.par, .int .u64 p.t.req, .int .i64 p.x.a, .int .i64 p.x.b, .int .i64 p.x.c, v'] 55 (0, 0))) (hr : w2.ownsRow 0 3 1 v' l.length (l.map (Value.int .i64)))
    (hn : v'.ownBlock = p.v.ownBlock ∨ v'.ownBlock = none ∨ ∃ g, v'.ownBlock = some g ∧ w.heap.size ≤ g) :
    TK w2 t h fh (N.map (setV p.t.id v')) last (putK K p.t.id l) ∧ ∀ y ∈ TFoot t fh (N.map (setV p.t.id v')), y ∈ TFoot t fh N ∨ w.heap.size ≤ y := by
  have hlt := k.lt
  have hpf : ∀ y, y ∈ ({ p with v := v' } : Nd).foot → y ∈ p.foot ∨ w.heap.size ≤ y := by
    intro y hy
    simp only [Nd.foot, List.mem_cons, Option.mem_toList] at hy ⊢
    rcases hy with rfl | hy
    · exact .inl (.inl rfl)
    · rcases hn with e | e | ⟨g, e, hg⟩
      · rw [e] at hy
        exact .inl (.inr hy)
      · rw [e] at hy
        cases hy
      · rw [e] at hy
        cases hy
        exact .inr hg
  have hform : ∀ n ∈ N, (n.t.id = p.t.id ∧ n = p ∧ G.setV p.t.id v' n = { p with v := v' }) ∨ (n.t.id ≠ p.t.id ∧ G.setV p.t.id v' n = n) := by
    intro n hn
    by_cases e : n.t.id = p.t.id
    · have := nd_inj hu hn hp e
      subst this
      exact .inl ⟨rfl, rfl, by simp [G.setV]⟩
    · exact .inr ⟨e, by simp [G.setV, e]⟩
  have hfoot : ∀ n ∈ N, ∀ y ∈ (G.setV p.t.id v' n).foot, y ∈ n.foot ∨ w.heap.size ≤ y := by
    intro n hn y hy
    rcases hform n hn with ⟨_, rfl, e⟩ | ⟨_, e⟩
    · rw [e] at hy
      exact hpf y hy
    · rw [e] at hy
      exact .inl hy
  have hpt : t ∉ p.foot := k.nt p hp
  refine ⟨⟨ht.at k.hdr hpt, ?_, ?_, ?_, by rw [List.length_map]; exact k.few, k.tf, ?_, ?_, ?_⟩, ?_⟩
  · rw [itm_setV]
    exact k.bag.touch ht (fun y hy e => k.nf p hp y e hy)
  · intro n' hn'
    obtain ⟨n, hnn, rfl⟩ := List.mem_map.1 hn'
    rcases hform n hnn with ⟨_, rfl, e⟩ | ⟨hne, e⟩
    · rw [e]
      refine ⟨hh, ?_, (k.nd n hp).one, ?_⟩
      · simp only [putK, if_true]
        exact hr
      · intro e2
        rcases hn with e3 | e3 | ⟨g, e3, hg⟩
        · exact (k.nd n hp).hv (by rw [← e3]; exact e2)
        · rw [e3] at e2
          cases e2
        · rw [e3] at e2
          cases e2
          have h1 := hlt n.b (TFoot.mem.2 (.inr (.inr ⟨n, hp, by simp [Nd.foot]⟩)))
          have h2 : w.heap.size ≤ n.b := hg
          omega
    · rw [e]
      simp only [putK, if_neg hne]
      exact (k.nd n hnn).touch ht (k.apart hu hnn hp hne)
  · intro n' hn'
    obtain ⟨n, hnn, rfl⟩ := List.mem_map.1 hn'
    rw [(setV_keep _ _ n).1]
    exact k.rq n hnn
  · intro n' hn' e
    obtain ⟨n, hnn, rfl⟩ := List.mem_map.1 hn'
    rcases hfoot n hnn t e with e | e
    · exact k.nt n hnn e
    · have := hlt t (TFoot.mem.2 (.inl rfl))
      omega
  · intro n' hn' y hy e
    obtain ⟨n, hnn, rfl⟩ := List.mem_map.1 hn'
    rcases hfoot n hnn y hy with e2 | e2
    · exact k.nf n hnn y e2 e
    · have := hlt y (TFoot.mem.2 (.inr (.inl e)))
      omega
  · have hids : (N.map fun n => n.t.id).Nodup := by
      have : (N.map fun n => n.t.id) = tids (sh N) := by simp [tids, sh, Function.comp_def]
      rw [this]
      exact hu
    have hboth : N.Pairwise fun a b => a.t.id ≠ b.t.id := by
      rw [List.nodup_iff_pairwise_ne, List.pairwise_map] at hids
      exact hids
    rw [List.pairwise_map]
    refine (List.Pairwise.and hboth k.nn).imp_of_mem fun {a b} ha hb hab => ?_
    obtain ⟨hne, hab⟩ := hab
    intro y hy hy2
    rcases hform a ha with ⟨ea, rfl, e1⟩ | ⟨ea, e1⟩ <;> rcases hform b hb with ⟨eb, rfl, e2⟩ | ⟨eb, e2⟩
    · exact hne (by rw [ea, eb])
    · rw [e2] at hy2
      rcases hfoot a ha y hy with h1 | h1
      · exact hab y h1 hy2
      · have := (k.nd b hb).lt y hy2
        omega
    · rw [e1] at hy
      rcases hfoot b hb y hy2 with h1 | h1
      · exact hab y hy h1
      · have := (k.nd a ha).lt y hy
        omega
    · rw [e1] at hy
      rw [e2] at hy2
      exact hab y hy hy2
  · intro y hy
    rcases TFoot.mem.1 hy with rfl | hy | ⟨n', hn', hy⟩
    · exact .inl (TFoot.mem.2 (.inl rfl))
    · exact .inl (TFoot.mem.2 (.inr (.inl hy)))
    · obtain ⟨n, hnn, rfl⟩ := List.mem_map.1 hn'
      rcases hfoot n hnn y hy with e | e
      · exact .inl (TFoot.mem.2 (.inr (.inr ⟨n, hnn, e⟩)))
      · exact .inr e
end
end Go.Proofs.YtobkanlnnniabaaGreat.G

/-
  tick.Min at no deadline and at two.
-/
namespace Go.Proofs.YtobkanlnnniabaaGreat
open Go.RowKit
set_option linter.unusedVariables false
set_option linter.unusedSimpArgs false

set_option maxRecDepth 100000 in
set_option maxHeartbeats 1000000 in
theorem min_nil (w : World) : Calls Tryz.prog 21 #[.slice none 0 0] w fun e w' => e = .returned (.int .u64 maxT) ∧ w' = w := by
  go_enter Tryz.func21, Tryz.ntmps21
  go_wp2_with fail
  refine wp_loop_rounds 1 ?_
  rw [rounds_succ]
  go_wp2_with fail
  go_ret
  exact ⟨rfl, rfl⟩
def mn2 (a b : Int) (k : Nat) : Int := if k = 0 then 18446744073709551615 else if k = 1 then a else min a b
set_option maxRecDepth 100000 in
set_option maxHeartbeats 1000000 in
theorem min_two (a b : Int) (g : Nat) (w : World) (ha : a ≤ maxT) (h0 : w.cell? ⟨g, 0, none⟩ = some (.int .u64 a)) (h1 : w.cell? ⟨g, 1, none⟩ = some (.int .u64 b)) :
    Calls Tryz.prog 21 #[.slice (some ⟨g, 0, none⟩) 2 2] w fun e w' => e = .returned (.int .u64 (min a b)) ∧ w' = w := by
  have M0 : mn2 a b 0 = 18446744073709551615 := rfl
  have M1 : mn2 a b 1 = a := rfl
  have M2 : mn2 a b 2 = min a b := rfl
  have N1 : (if a < 18446744073709551615 then a else 18446744073709551615) = a := by
    unfold maxT at ha
    split <;> omega
  have N2 : (if b < a then b else a) = min a b := by
    split <;> omega
  have H0 := Lib.hid M0
  have H1 := Lib.hid M1
  have H2 := Lib.hid M2
  have HN := Lib.hid N1
  have HN2 := Lib.hid N2
  have HM := Lib.hid (show min (18446744073709551615 : Int) a = a by unfold maxT at ha; omega)
  clear M0 M1 M2 N1 N2 ha
  go_enter Tryz.func21, Tryz.ntmps21
  go_wp2_with fail
  go_loop [3, 8] (fun s i => ∃ k : Nat, k ≤ 2 ∧ i = .int .i64 k ∧ s = .int .u64 (mn2 a b k)) (fun _ i => 2 - (intOf i).toNat)
  case atStart => exact ⟨0, by omega, rfl, by rw [H0.out]⟩
  case round =>
    obtain ⟨k, hk, rfl, rfl⟩ := hrel
    rcases (by omega : k = 0 ∨ k = 1 ∨ k = 2) with rfl | rfl | rfl
    · rw [H0.out]
      go_wp2_with fail
      go_round
      case rel => exact ⟨1, by omega, by go_num, by first | rw [H1.out, HN.out] | rw [H1.out, HM.out]⟩
      case measure => simp [intOf]
    · rw [H1.out]
      go_wp2_with fail
      go_round
      case rel => exact ⟨2, by omega, by go_num, by first | rw [H2.out, HN2.out] | rw [H2.out]⟩
      case measure => simp [intOf]
    · rw [H2.out]
      go_wp2_with fail
      go_ret
      exact ⟨rfl, rfl⟩
end Go.Proofs.YtobkanlnnniabaaGreat

/-
  The contracts of New, limit, Deadline, Len.
-/
namespace Go.Proofs.YtobkanlnnniabaaGreat.G
open Go.RowKit
set_option linter.unusedVariables false
set_option linter.unusedSimpArgs false

/-- The timers' meaning: each timer and its value, in the order of the handles. -/
def ab (N : List Nd) : List (Tm × Tag) := N.map fun n => (n.t, n.x)
theorem ab_fst (N : List Nd) : (ab N).map Prod.fst = sh N := by
  simp [ab, sh, Function.comp_def]
def TS (w : World) (t h : Nat) (f : List Nat) (A : List (Tm × Tag)) (last : Int) : Prop := ∃ fh N, TM w t h fh N last ∧ ab N = A ∧ f = TFoot t fh N
/-- What a call leaves. -/
def TNext (w : World) (t h : Nat) (f : List Nat) (A : List (Tm × Tag)) (last : Int) (w' : World) : Prop := ∃ f', TS w' t h f' A last ∧ (∀ y ∈ f', y ∈ f ∨ w.heap.size ≤ y) ∧ Touch f w w'
section
variable {w : World} {t h : Nat} {fh : List Nat} {N : List Nd} {last : Int}
theorem TM.ids (k : TM w t h fh N last) : (tids (sh N)).Nodup := k.tree.nodup
theorem TM.itm_mem {n : Nd} (hn : n ∈ N) : n.itm ∈ N.map Nd.itm := List.mem_map.2 ⟨n, hn, rfl⟩
theorem TM.no (k : TM w t h fh N last) {i : Int} (hi : i ∉ tids (sh N)) : ∀ y ∈ N.map Nd.itm, y.id ≠ i := by
  intro y hy e
  obtain ⟨n, hn, rfl⟩ := List.mem_map.1 hy
  exact hi (by rw [← e]; exact sh_tids hn)
theorem TM.oki (k : TM w t h fh N last) {i : Int} (hi : i ∈ tids (sh N)) : okK i ∧ 1 ≤ i ∧ i ≤ last ∧ last ≤ 1000 := by
  obtain ⟨n, hn, rfl⟩ := sh_at hi
  have h1 := k.mem.bag.oks _ (TM.itm_mem hn)
  have h2 := k.mem.bag.lo
  exact ⟨h1.1, h1.2.1, h1.2.2, h2.2⟩
theorem TM.draws (k : TM w t h fh N last) (n : Nat) : TM (w.drewN n) t h fh N last := k.touch ((Touch.refl [] w).drews n) (by simp)
/-- Get, either way. -/
theorem TM.get_no (k : TM w t h fh N last) (i : Int) (hi : okK i) (hn : i ∉ tids (sh N)) :
    Calls Tryz.prog 19 #[.pointer (some ⟨h, 0, none⟩), .int .i64 i] w fun e w' => e = .returned (.tuple #[.int .u64 0, .pointer none, .bool false]) ∧ w' = w :=
  (k.mem.bag.get_no i hi (k.no hn)).mono fun _ _ ⟨h1, h2⟩ => ⟨h1, h2.symm⟩
theorem TM.get (k : TM w t h fh N last) (n : Nd) (hn : n ∈ N) :
    Calls Tryz.prog 19 #[.pointer (some ⟨h, 0, none⟩), .int .i64 n.t.id] w fun e w' => e = .returned (.tuple #[.int .u64 n.t.due, .pointer (some ⟨n.b, 0, none⟩), .bool true]) ∧ ∃ q, w' = w.drewN q :=
  k.mem.bag.get n.itm (TM.itm_mem hn)
theorem TM.lim_no (k : TM w t h fh N last) {i : Int} (hi : i ∉ tids (sh N)) : lim (sh N) i = maxT := YtobkanlnnniabaaGreat.lim_no hi
theorem TM.lim_at (k : TM w t h fh N last) {n : Nd} (hn : n ∈ N) : lim (sh N) n.t.id = n.t.due := lim_mem k.ids (sh_mem hn)
set_option maxRecDepth 100000 in
set_option maxHeartbeats 1000000 in
/-- The effective deadline of the parent that a timer's block names. -/
theorem limit_any (k : TM w t h fh N last) (b : Nat) (p : Int) (hp : okK p) (hb : w.cell? ⟨b, 0, none⟩ = some (.int .i64 p)) :
    Calls Tryz.prog 22 #[.pointer (some ⟨t, 0, none⟩), .pointer (some ⟨b, 0, none⟩)] w fun e w' => e = .returned (.int .u64 (lim (sh N) p)) ∧ ∃ q, w' = w.drewN q := by
  have c0 := k.mem.cell
  by_cases hm : p ∈ tids (sh N)
  · obtain ⟨n, hn, rfl⟩ := sh_at hm
    have HL := Lib.hid (k.lim_at hn)
    have HK := Lib.hid k
    have HN := Lib.hid hn
    clear k hn hm hp
    go_enter Tryz.func22, Tryz.ntmps22
    go_wp2_with fail
    go_quiet ((go_at_call 19; exact Calls.quiet_of ((HK.out.draws _).get n HN.out)))
    go_wp2_with fail
    go_ret
    exact ⟨by rw [HL.out]; rfl, _, rfl⟩
  · have HL := Lib.hid (k.lim_no hm)
    have HK := Lib.hid k
    have HM := Lib.hid hm
    have HP := Lib.hid hp
    clear k hm hp
    go_enter Tryz.func22, Tryz.ntmps22
    go_wp2_with fail
    go_quiet ((go_at_call 19; exact Calls.quiet_of_same ((HK.out.draws _).get_no p HP.out HM.out)))
    go_wp2_with fail
    refine (min_nil _).mono ?_
    rintro e w' ⟨rfl, rfl⟩
    go_wp2_with fail
    go_ret
    exact ⟨by rw [HL.out]; rfl, _, rfl⟩
set_option maxRecDepth 100000 in
set_option maxHeartbeats 1000000 in
theorem deadline_at (k : TM w t h fh N last) (n : Nd) (hn : n ∈ N) :
    Calls Tryz.prog 39 #[.pointer (some ⟨t, 0, none⟩), .int .i64 n.t.id] w fun e w' => e = .returned (.tuple #[.int .u64 n.t.due, .bool true]) ∧ ∃ q, w' = w.drewN q := by
  have c0 := k.mem.cell
  have HK := Lib.hid k
  have HN := Lib.hid hn
  clear k hn
  go_enter Tryz.func39, Tryz.ntmps39
  go_wp2_with fail
  refine (HK.out.get n HN.out).mono ?_
  rintro e w' ⟨rfl, q, rfl⟩
  go_wp2_with fail
  go_ret2
  exact ⟨rfl, _, rfl⟩
set_option maxRecDepth 100000 in
set_option maxHeartbeats 1000000 in
theorem deadline_no (k : TM w t h fh N last) (i : Int) (hi : okK i) (hn : i ∉ tids (sh N)) :
    Calls Tryz.prog 39 #[.pointer (some ⟨t, 0, none⟩), .int .i64 i] w fun e w' => e = .returned (.tuple #[.int .u64 0, .bool false]) ∧ w' = w := by
  have c0 := k.mem.cell
  have HG := Lib.hid (k.get_no i hi hn)
  clear k hn
  go_enter Tryz.func39, Tryz.ntmps39
  go_wp2_with fail
  refine HG.out.mono ?_
  rintro e w' ⟨rfl, rfl⟩
  go_wp2_with fail
  go_ret2
  exact ⟨rfl, rfl⟩
set_option maxRecDepth 100000 in
set_option maxHeartbeats 1000000 in
theorem tlen_any (k : TM w t h fh N last) :
    Calls Tryz.prog 35 #[.pointer (some ⟨t, 0, none⟩)] w fun e w' => e = .returned (.int .i64 N.length) ∧ w' = w := by
  have c0 := k.mem.cell
  have HG := Lib.hid k.mem.bag.len
  clear k
  go_enter Tryz.func35, Tryz.ntmps35
  go_wp2_with fail
  refine HG.out.mono ?_
  rintro e w' ⟨rfl, rfl⟩
  go_wp2_with fail
  go_ret
  exact ⟨by simp, rfl⟩
end
theorem TM.fresh {w1 : World} {h : Nat} {fh : List Nat} (hb : Bag w1 h fh [] 0) : TM (w1.alloc (.cells #[.pointer (some ⟨h, 0, none⟩)] 49)) w1.heap.size h fh [] 0 := by
  have ta := (Touch.refl [] w1).alloc (.cells #[.pointer (some ⟨h, 0, none⟩)] 49)
  refine ⟨⟨heap_alloc_new w1 _, hb.touch ta (by simp), by simp, by simp, by simp, ?_, by simp, by simp, by simp⟩, ⟨by simp [sh], by simp [sh], by simp [sh], by simp [sh]⟩, by simp [sh]⟩
  intro e
  have := hb.lt _ e
  omega
set_option maxRecDepth 100000 in
set_option maxHeartbeats 1000000 in
theorem tnew_any (w : World) : Calls Tryz.prog 4 #[] w fun e w' => ∃ t h f, e = .returned (.pointer (some ⟨t, 0, none⟩)) ∧ TS w' t h f [] 0 ∧ (∀ y ∈ f, w.heap.size ≤ y) ∧ Touch [] w w' := by
  go_enter Tryz.func4, Tryz.ntmps4
  go_wp2_with fail
  refine (Bag.new w).mono ?_
  rintro e w1 ⟨h, f, rfl, hb, hf, ht⟩
  have H := Lib.hid (TM.fresh hb)
  have HF := Lib.hid hf
  have T := Lib.hid (ht.alloc (.cells #[.pointer (some ⟨h, 0, none⟩)] 49))
  have hz := ht.size
  clear hb hf ht
  go_wp2_with fail
  go_ret
  refine ⟨_, _, _, rfl, ⟨_, _, H.out, rfl, rfl⟩, ?_, T.out⟩
  intro y hy
  rcases TFoot.mem.1 hy with rfl | hy | ⟨n, hn, hy⟩
  · exact hz
  · exact HF.out y hy
  · simp at hn
section
variable {w : World} {t h : Nat} {f : List Nat} {A : List (Tm × Tag)} {last : Int}
theorem TS.touch {S : List Nat} {w' : World} (k : TS w t h f A last) (ht : Touch S w w') (hS : ∀ y ∈ f, y ∉ S) : TS w' t h f A last := by
  obtain ⟨fh, N, hm, rfl, rfl⟩ := k
  exact ⟨fh, N, hm.touch ht hS, rfl, rfl⟩
theorem TS.lt (k : TS w t h f A last) : ∀ y ∈ f, y < w.heap.size := by
  obtain ⟨fh, N, hm, rfl, rfl⟩ := k
  exact hm.mem.lt
theorem TS.tree (k : TS w t h f A last) : Tree (A.map Prod.fst) last := by
  obtain ⟨fh, N, hm, rfl, rfl⟩ := k
  rw [ab_fst]
  exact hm.tree
theorem TS.due (k : TS w t h f A last) : ∀ s ∈ A.map Prod.fst, DueOk (A.map Prod.fst) s := by
  obtain ⟨fh, N, hm, rfl, rfl⟩ := k
  rw [ab_fst]
  exact hm.due
theorem TS.lo (k : TS w t h f A last) : 0 ≤ last ∧ last ≤ 1000 := by
  obtain ⟨fh, N, hm, rfl, rfl⟩ := k
  exact hm.mem.bag.lo
theorem TS.few (k : TS w t h f A last) : A.length ≤ 1000 := by
  obtain ⟨fh, N, hm, rfl, rfl⟩ := k
  simpa [ab] using hm.mem.few
theorem TS.deadline (k : TS w t h f A last) (s : Tm) (hs : s ∈ A.map Prod.fst) :
    Calls Tryz.prog 39 #[.pointer (some ⟨t, 0, none⟩), .int .i64 s.id] w fun e w' => e = .returned (.tuple #[.int .u64 s.due, .bool true]) ∧ Touch [] w w' := by
  obtain ⟨fh, N, hm, rfl, rfl⟩ := k
  rw [ab_fst] at hs
  obtain ⟨n, hn, rfl⟩ := List.mem_map.1 hs
  refine (deadline_at hm n hn).mono ?_
  rintro e w' ⟨rfl, q, rfl⟩
  exact ⟨rfl, (Touch.refl _ _).drews q⟩
theorem TS.deadline_no (k : TS w t h f A last) (i : Int) (hi : okK i) (hn : i ∉ tids (A.map Prod.fst)) :
    Calls Tryz.prog 39 #[.pointer (some ⟨t, 0, none⟩), .int .i64 i] w fun e w' => e = .returned (.tuple #[.int .u64 0, .bool false]) ∧ w' = w := by
  obtain ⟨fh, N, hm, rfl, rfl⟩ := k
  rw [ab_fst] at hn
  exact G.deadline_no hm i hi hn
theorem TS.len (k : TS w t h f A last) :
    Calls Tryz.prog 35 #[.pointer (some ⟨t, 0, none⟩)] w fun e w' => e = .returned (.int .i64 A.length) ∧ w' = w := by
  obtain ⟨fh, N, hm, rfl, rfl⟩ := k
  have := tlen_any hm
  simpa [ab] using this
end
end Go.Proofs.YtobkanlnnniabaaGreat.G

/-
  A slice of ints of the call's own.
-/
namespace Go.Proofs.YtobkanlnnniabaaGreat
open Go.RowKit
/-- A slice of ints of the call's own, made since w0. -/
structure OwnN (w0 w : World) (v : Value) (l : List Int) : Prop where
  row : w.ownsRow 0 3 1 v l.length (l.map (Value.int .i64))
  new : ∀ g, v.ownBlock = some g → w0.heap.size ≤ g
theorem OwnN.touch {w0 w w' : World} {v : Value} {ks : List Int} {S : List Nat} (h : OwnN w0 w v ks) (t : Touch S w w') (hS : ∀ g, v.ownBlock = some g → g ∉ S) : OwnN w0 w' v ks := ⟨t.owns h.row hS, h.new⟩
end Go.Proofs.YtobkanlnnniabaaGreat

/-
  Appending a list of ints to a slice of the call's own.
-/
namespace Go.Proofs.YtobkanlnnniabaaGreat
open Go.RowKit
set_option linter.unusedVariables false
set_option linter.unusedSimpArgs false

theorem ninfo_parts {T k bytes : Nat} (h : (Tryz.prog.info? T).map (fun i => (i.size, i.bytes, i.zero.map fun z => z.cells.size)) = some (k, bytes, some k)) : ∃ i z, Tryz.prog.info? T = some i ∧ i.zero = some z ∧ i.size = k ∧ i.bytes = bytes ∧ z.cells.size = k := by
  cases hi : Tryz.prog.info? T with
  | none => simp [hi] at h
  | some i =>
    simp only [hi, Option.map_some, Option.some.injEq, Prod.mk.injEq] at h
    obtain ⟨h1, h2, h3⟩ := h
    cases hz : i.zero with
    | none => simp [hz] at h3
    | some z => exact ⟨i, z, rfl, hz, h1, h2, by simpa [hz] using h3⟩
theorem info3 : (Tryz.prog.info? 3).map (fun i => (i.size, i.bytes, i.zero.map fun z => z.cells.size)) = some (1, 8, some 1) := by kernel_rfl
theorem owns_src {w : World} {e k n : Nat} {v : Value} {xs : List Value} (h : w.ownsRow 0 e k v n xs) : ∃ ao c, v = .slice ao n c ∧ n ≤ c ∧ c ≤ maxLen ∧ (ao = none → n = 0 ∧ c = 0) ∧ ∀ ad, ao = some ad → ∀ j u, xs[j]? = some u → w.cell? (ad.add j) = some u := by
  obtain ⟨ao, c, rfl, h1, h2, h3⟩ := owns_form h
  refine ⟨ao, c, rfl, h1, h2, ?_, ?_⟩
  · rintro rfl
    rcases h.2 with ⟨e, _⟩ | ⟨g', cap, cur, hv, _⟩
    · simp at e
      omega
    · simp at hv
  · rintro ad rfl j u hu
    rcases h.2 with ⟨e, _⟩ | ⟨g', cap, cur, hv, hb, hh, hn, hm, hs, ht⟩
    · simp at e
    · simp at hv
      obtain ⟨rfl, rfl⟩ := hv
      rw [Addr.add_lit]
      simpa using owns_cell h j u hu
theorem ones_int (l : List Int) : ∀ u ∈ l.map (Value.int .i64), u.oneCell' = true := by
  intro u hu
  obtain ⟨_, _, rfl⟩ := List.mem_map.1 hu
  rfl
/-- append of a list of ints onto a slice of the call's own. -/
theorem wpList_appN {ops : Array Oper} {rest : List Oper} {o : Oper} {a : Act} {w0 w : World} {Q : Exit → Act → World → Prop} (hgd : o.guard = none) (s x : Operand)
    (ho : o.op = .call { callee := .builtin .append, args := #[s, x], argTypes := #[53, 53] }) (v v2 : Value) (l m : List Int) (hs : a.eval s = v) (hx : a.eval x = v2) (hown : OwnN w0 w v l) (hw : w0.heap.size ≤ w.heap.size)
    (hr : w.ownsRow 0 3 1 v2 m.length (m.map (Value.int .i64))) (hl : l.length + m.length ≤ 100000)
    (h : ∀ v' w', OwnN w0 w' v' (l ++ m) → Touch v.ownBlock.toList w w' → wpList Tryz.prog ops Q rest (a.put o.dst v') w') : wpList Tryz.prog ops Q (o :: rest) a w := by
  obtain ⟨i3, z3, hi3, hz3, hs3, hb3, hc3⟩ := ninfo_parts info3
  obtain ⟨ao, c, rfl, h1, h2, h3, h4⟩ := owns_src hr
  refine wpList_app w hgd s x 53 ho 3 i3 z3 1 8 Tryz.underlying53 hi3 hz3 hs3 hb3 hc3 (by omega) v l.length _ hs hown.row ao m.length c (m.map (Value.int .i64)) hx (by simp) h3 h4 (ones_int m) (by unfold maxLen; omega) (by omega) ?_
  intro v' w' o2 t2 b2
  refine h v' w' ⟨by rw [List.length_append, List.map_append]; exact o2, ?_⟩ t2
  intro g hg
  rcases b2 with e | e
  · exact hown.new g (by rw [← e]; exact hg)
  · rw [e] at hg
    cases hg
    exact hw
theorem OwnN.one (w : World) (i : Int) : OwnN w (w.alloc (.cells #[.int .i64 i] 3)) (.slice (some ⟨w.heap.size, 0, none⟩) 1 1) [i] :=
  ⟨⟨by simp, .inr ⟨w.heap.size, 1, #[.int .i64 i], rfl, Nat.zero_le _, heap_alloc_new w _, by simp, by simp [maxLen], by simp, by simp⟩⟩, by simp [Value.ownBlock]⟩
theorem OwnN.rebase {w0 w1 w : World} {v : Value} {l : List Int} (h : OwnN w1 w v l) (hs : w0.heap.size ≤ w1.heap.size) : OwnN w0 w v l := ⟨h.row, fun g hg => Nat.le_trans hs (h.new g hg)⟩
end Go.Proofs.YtobkanlnnniabaaGreat

/-
  Merged texts: UdS, RmS, BgS, TrS, TgS, TuS, TqS, TsS.
-/
import Derived.Test.YtobkanlnnniabaaGreatX9

/-
  The contract of Update.
-/
namespace Go.Proofs.YtobkanlnnniabaaGreat.S
open Go.RowKit
set_option linter.unusedVariables false
set_option linter.unusedSimpArgs false

theorem zero3 (w : World) : (zeroValue 3).run Tryz.prog w = .ok (.int .i64 0) w := by kernel_rfl
theorem flatI_due (its : List Itm) (i : Nat) (x : Itm) (d : Int) (h : its[i]? = some x) : (its.map encI).flatten.set (i * 3 + 1) (.int .u64 d) = ((its.set i ⟨x.id, d, x.x⟩).map encI).flatten := by
  induction its generalizing i with
  | nil => simp at h
  | cons a r ih =>
    cases i with
    | zero =>
      simp at h
      subst h
      simp [encI]
    | succ i =>
      have := ih i (by simpa using h)
      simp only [List.set_cons_succ, List.map_cons, List.flatten_cons]
      rw [← this]
      have e : (i + 1) * 3 + 1 = i * 3 + 1 + 3 := by omega
      rw [e]
      simp [encI]
theorem ids_set {its : List Itm} {i : Nat} {x y : Itm} (h : its[i]? = some x) (e : y.id = x.id) : (its.set i y).map Itm.id = its.map Itm.id := by
  rw [List.map_set, e]
  obtain ⟨h1, h2⟩ := List.getElem?_eq_some_iff.1 h
  have : x.id = (its.map Itm.id)[i]'(by simpa using h1) := by simp [h2]
  rw [this]
  exact List.set_getElem_self _
theorem not_ids {its : List Itm} {id : Int} : (∀ y ∈ its, y.id ≠ id) ↔ id ∉ its.map Itm.id := by
  simp
theorem Hp.due {w : World} {h m g n c : Nat} {its : List Itm} {kv : List (Int × Value)} {last : Int} (k : Hp w h m (.slice (some ⟨g, 0, none⟩) n c) its kv last) {i : Nat} {x : Itm} (hx : its[i]? = some x) (d : Int) :
    Hp (w.setCell ⟨g, i * 3 + 1, none⟩ (.int .u64 d)) h m (.slice (some ⟨g, 0, none⟩) n c) (its.set i ⟨x.id, d, x.x⟩) kv last ∧ Touch [g] w (w.setCell ⟨g, i * 3 + 1, none⟩ (.int .u64 d)) := by
  have t := (Touch.refl [g] w).setCell (p := ⟨g, i * 3 + 1, none⟩) (by simp) (.int .u64 d)
  have hg1 : g ≠ h := fun e => k.hv.1 (by rw [e]; rfl)
  have hg2 : g ≠ m := fun e => k.hv.2 (by rw [e]; rfl)
  have hn : n = its.length := by
    obtain ⟨a', c', hv, _⟩ := owns_form k.row
    simp at hv
    exact hv.2.1
  subst hn
  have hrow := owns_set k.row (i * 3 + 1) (.int .u64 d)
  rw [flatI_due its i x d hx] at hrow
  refine ⟨⟨t.at k.hdr (by simpa using Ne.symm hg1), by rw [List.length_set]; exact hrow, k.mp.touch t (by simpa using Ne.symm hg2), ?_, ?_, k.hm, k.hv, by rw [List.length_set]; exact k.few⟩, t⟩
  · intro y hy
    rcases List.mem_or_eq_of_mem_set hy with hy | rfl
    · exact k.one y hy
    · exact k.one x (List.mem_of_getElem? hx)
  · intro y hy
    rcases List.mem_or_eq_of_mem_set hy with hy | rfl
    · exact k.oks y hy
    · exact k.oks x (List.mem_of_getElem? hx)
section
variable (h m : Nat) (v : Value) (its : List Itm) (kv : List (Int × Value)) (last : Int) (w : World) (k : HB w h m v its kv last)
include k
theorem HB.look_run (id : Int) (hid : okK id) : (Instr.lookup 77 (.map (some m)) (.int .i64 id) true).run Tryz.prog w = .ok (.tuple #[(look kv id).getD (.int .i64 0), .bool (look kv id).isSome]) w :=
  k.hp.mp.lookup key3 Tryz.underlying77 (zero3 w) hid true
end
end Go.Proofs.YtobkanlnnniabaaGreat.S

/-
  The contracts of Remove and Pop.
-/
namespace Go.Proofs.YtobkanlnnniabaaGreat.S
open Go.RowKit
set_option linter.unusedVariables false
set_option linter.unusedSimpArgs false

theorem owns_take {w : World} {base e size n c j : Nat} {a : Option Addr} {xs : List Value} (h : w.ownsRow base e size (.slice a n c) n xs) (hj : j ≤ n) : w.ownsRow base e size (.slice a j c) j (xs.take (j * size)) := by
  obtain ⟨h1, h2⟩ := h
  have hjs : j * size ≤ n * size := Nat.mul_le_mul_right _ hj
  refine ⟨by rw [List.length_take]; omega, ?_⟩
  rcases h2 with ⟨h2, h3⟩ | ⟨g', cap, cur, hv, hb, hh, hn, hm, hs, ht⟩
  · simp at h2
    obtain ⟨rfl, rfl, rfl⟩ := h2
    have : j = 0 := by omega
    subst this
    exact .inl ⟨rfl, by simp⟩
  · simp at hv
    obtain ⟨rfl, rfl⟩ := hv
    refine .inr ⟨g', c, cur, rfl, hb, hh, by omega, hm, hs, ?_⟩
    rw [← ht, List.take_take, Nat.min_eq_left hjs]
theorem flatI_take (its : List Itm) (j : Nat) : (its.map encI).flatten.take (j * 3) = ((its.take j).map encI).flatten := by
  induction its generalizing j with
  | nil => simp
  | cons a r ih =>
    cases j with
    | zero => simp
    | succ j =>
      have := ih j
      simp only [List.take_succ_cons, List.map_cons, List.flatten_cons]
      rw [← this]
      have e : (j + 1) * 3 = j * 3 + 3 := by omega
      rw [e]
      simp [encI]
/-- The last entry in the place of the one at i: what is left. -/
theorem take_set_perm {its : List Itm} {i n : Nat} {x : Itm} (hn : its.length = n + 1) (hi : i < n) (hx : its[n]? = some x) : ((its.take n).set i x).Perm (its.eraseIdx i) := by
  obtain ⟨h1, h2⟩ := List.getElem?_eq_some_iff.1 hx
  have e1 : its = its.take n ++ [x] := by
    have := List.take_append_drop n its
    rw [List.drop_eq_getElem_cons h1, h2, List.drop_eq_nil_of_le (by omega)] at this
    exact this.symm
  have hl : (its.take n).length = n := by rw [List.length_take]; omega
  generalize its.take n = A at *
  subst e1
  rw [List.eraseIdx_append_of_lt_length (by omega)]
  rw [List.set_eq_take_append_cons_drop, if_pos (by omega), List.eraseIdx_eq_take_drop_succ]
  refine (List.perm_middle).trans ?_
  exact (List.perm_append_singleton x _).symm
theorem take_erase {its : List Itm} {n : Nat} (hn : its.length = n + 1) : its.take n = its.eraseIdx n := by
  rw [List.eraseIdx_eq_take_drop_succ, List.drop_eq_nil_of_le (by omega), List.append_nil]
theorem erase_mem {its : List Itm} {i : Nat} {x y : Itm} (hn : (its.map Itm.id).Nodup) (hx : its[i]? = some x) : y ∈ its.eraseIdx i ↔ y ∈ its ∧ y.id ≠ x.id := by
  rw [List.mem_eraseIdx_iff_getElem?]
  constructor
  · rintro ⟨j, hj, hy⟩
    exact ⟨List.mem_of_getElem? hy, ids_ne hn hy hx hj⟩
  · rintro ⟨hy, hne⟩
    obtain ⟨j, hj, hy⟩ := List.getElem_of_mem hy
    refine ⟨j, ?_, by rw [List.getElem?_eq_getElem hj, hy]⟩
    rintro rfl
    rw [List.getElem?_eq_getElem hj, hy] at hx
    cases hx
    exact hne rfl
theorem erase_nodup {its : List Itm} {i : Nat} (hn : (its.map Itm.id).Nodup) : ((its.eraseIdx i).map Itm.id).Nodup := ((List.eraseIdx_sublist its i).map Itm.id).nodup hn
section
variable {w : World} {h m : Nat} {v : Value} {its : List Itm} {kv : List (Int × Value)} {last : Int}
/-- The map without an entry. -/
theorem Hp.drop (k : Hp w h m v its kv last) {w' : World} {kv' : List (Int × Value)} (hm : Mp encK okK w' m kv') (t : Touch [m] w w') : Hp w' h m v its kv' last :=
  ⟨t.at k.hdr (by simpa using k.hm), t.owns k.row (by intro g hg e; simp at e; exact k.hv.2 (by rw [hg, e])), hm, k.one, k.oks, k.hm, k.hv, k.few⟩
/-- The last place is cleared and cut off. -/
theorem Hp.cut {g n c : Nat} (k : Hp w h m (.slice (some ⟨g, 0, none⟩) (n + 1) c) its kv last) {w2 : World} {z : Value} (hl : its.length = n + 1)
    (row : w2.ownsRow 0 112 3 (.slice (some ⟨g, 0, none⟩) (n + 1) c) (n + 1) ((its.map encI).flatten.take (n * 3) ++ [.int .i64 0, .int .u64 0, z] ++ (its.map encI).flatten.drop (n * 3 + 3))) (t : Touch [g] w w2) :
    Hp (w2.setCell ⟨h, 0, none⟩ (.slice (some ⟨g, 0, none⟩) n c)) h m (.slice (some ⟨g, 0, none⟩) n c) (its.take n) kv last ∧ Touch (Hp.foot h m (.slice (some ⟨g, 0, none⟩) (n + 1) c)) w (w2.setCell ⟨h, 0, none⟩ (.slice (some ⟨g, 0, none⟩) n c)) := by
  have hr := owns_take row (j := n) (by omega)
  have hfl : (its.map encI).flatten.length = its.length * 3 := by rw [flat_len (encI_len its), List.length_map]
  rw [List.append_assoc, List.take_append_of_le_length (by rw [List.length_take, hfl]; omega), List.take_take, Nat.min_self, flatI_take] at hr
  have hln : (its.take n).length = n := by rw [List.length_take]; omega
  obtain ⟨p, t2, _⟩ := k.lay (v' := .slice (some ⟨g, 0, none⟩) n c) (its' := its.take n) (w2 := w2) (by simpa [Value.ownBlock] using t) (by rw [hln]; exact hr) (.inl rfl) (fun it hit => k.one it (List.mem_of_mem_take hit)) (fun it hit => k.oks it (List.mem_of_mem_take hit)) (by have := k.few; omega)
  exact ⟨p, t2⟩
end
/-- What a call leaves: a heap in order of the entries L. -/
def Left (h m : Nat) (v : Value) (L : List Itm) (last : Int) (w w' : World) : Prop := ∃ v' its' kv', HB w' h m v' its' kv' last ∧ its'.Perm L ∧ Foot h m v v' w ∧ Touch (Hp.foot h m v) w w'
section
variable (h m : Nat) (v : Value) (its : List Itm) (kv : List (Int × Value)) (last : Int) (w : World) (k : HB w h m v its kv last)
include k
set_option maxRecDepth 100000 in
set_option maxHeartbeats 1000000 in
theorem remove_none (id : Int) (hid : okK id) (hn : ∀ y ∈ its, y.id ≠ id) : Calls Tryz.prog 71 #[.pointer (some ⟨h, 0, none⟩), .int .i64 id] w fun e w' => e = .returned (.bool false) ∧ w = w' := by
  obtain ⟨c0, c1, c2⟩ := k.hp.cells
  have hq := k.look_run h m v its kv last w id hid
  rw [k.ix.no id hn] at hq
  simp only [Option.getD_none, Option.isSome_none] at hq
  clear k hn
  go_enter Tryz.func71, Tryz.ntmps71
  go_wp2_with fail
  go_ret
  exact ⟨rfl, rfl⟩
set_option maxRecDepth 100000 in
set_option maxHeartbeats 2000000 in
theorem remove_some (i : Nat) (x : Itm) (hx : its[i]? = some x) : Calls Tryz.prog 71 #[.pointer (some ⟨h, 0, none⟩), .int .i64 x.id] w fun e w' => e = .returned (.bool true) ∧ Left h m v (its.eraseIdx i) last w w' := by
  have hil := (List.getElem?_eq_some_iff.1 hx).1
  obtain ⟨n, hn⟩ : ∃ n, its.length = n + 1 := ⟨its.length - 1, by omega⟩
  obtain ⟨av, cv, rfl, hv1, hv2, hv3⟩ := k.hp.form
  obtain ⟨g, rfl, hgh, hgm⟩ := hv3 (by omega)
  rw [hn] at k hv1
  have hfew := k.hp.few
  obtain ⟨c0, c1, c2⟩ := k.hp.cells
  have hq := k.look_run h m _ its kv last w x.id (k.hp.oks x (List.mem_of_getElem? hx))
  rw [k.ix.at_ i x hx] at hq
  simp only [Option.getD_some, Option.isSome_some] at hq
  have hkx := k.hp.oks x (List.mem_of_getElem? hx)
  have hmp := k.hp.mp
  have HK := Lib.hid k
  have HX := Lib.hid hx
  have HNN := Lib.hid hn
  clear k hv3 hx hn
  go_enter Tryz.func71, Tryz.ntmps71
  go_wp2_with (refine wpList_delete_mp rfl _ _ 77 3 rfl 3 key3 Tryz.underlying77 hmp x.id hkx (by rfl) (by rfl) ?_)
  intro w1 hm1 t1 _z1
  clear _z1
  have HP1 := Lib.hid (HK.out.hp.drop hm1 t1)
  have hz := List.getElem?_eq_getElem (l := its) (i := n) (by have := HNN.out; omega)
  generalize its[n]'(by have := HNN.out; omega) = z at hz
  have h1z := HK.out.hp.one z (List.mem_of_getElem? hz)
  have hkz := HK.out.hp.oks z (List.mem_of_getElem? hz)
  have HZ := Lib.hid hz
  obtain ⟨c0, c1, c2⟩ := HP1.out.cells
  obtain ⟨z0, z1', z2⟩ := HP1.out.elem hz
  have hgl : g < w1.heap.size := HP1.out.lt g (by simp [Hp.foot, Value.ownBlock])
  have hwn : IntKind.i64.wrap ((n : Int) + 1 - 1) = (n : Int) := by rw [IntKind.wrap_i64] <;> omega
  have hnb : (n : Int) < (n : Int) + 1 := by omega
  have tB := (Touch.refl [] w1).alloc (.cells #[.int .i64 z.id, .int .u64 z.due, z.x] 112)
  have gB := heap_alloc_new w1 (.cells #[.int .i64 z.id, .int .u64 z.due, z.x] 112)
  have HP2 := Lib.hid (HP1.out.touch tB (by simp))
  obtain ⟨d0, d1, d2⟩ := HP2.out.cells
  clear hz hm1 hmp hq
  try simp only [Act.put]
  have hlen : (its.map encI).flatten.length = its.length * 3 := by rw [flat_len (encI_len its), List.length_map]
  have hroom : n * 3 + 3 ≤ (its.map encI).flatten.length := by rw [hlen, HNN.out]; omega
  have hrow := HP2.out.row
  rw [HNN.out] at hrow
  clear hlen
  go_wp2_with (first
    | (refine wpList_store_new rfl 112 _ _ rfl _ _ [.int .i64 z.id, .int .u64 z.due, z.x] (by rfl) (by rfl) rfl infoE (by intro u hu; simp at hu; rcases hu with rfl | rfl | rfl; rfl; rfl; exact h1z) ?_)
    | (refine wpList_store_own rfl 112 _ _ rfl g (n * 3) (n + 1) cv 112 3 _ [.int .i64 0, .int .u64 0, .pointer none] hrow (by rfl) (by rfl) hroom infoE (by intro u hu; simp at hu; rcases hu with rfl | rfl | rfl <;> rfl) ?_))
  intro w2 row2 t2 z2'
  try simp only [Act.put]
  generalize w1.alloc (.cells #[.int .i64 z.id, .int .u64 z.due, z.x] 112) = W at *
  have HBg : w1.heap.size ≠ g := by omega
  have HBh : w1.heap.size ≠ h := by have := HP1.out.lt h (by simp [Hp.foot]); omega
  have HBm : w1.heap.size ≠ m := by have := HP1.out.lt m (by simp [Hp.foot]); omega
  have hsz := t1.size
  generalize w1.heap.size = B at *
  obtain ⟨p3, t3⟩ := HP2.out.cut (z := .pointer none) HNN.out (by rw [List.append_assoc]; exact row2) t2
  have HP3 := Lib.hid p3
  have c0 := t2.cell (HP2.out.cells.1) (by simpa using Ne.symm hgh)
  have f0 : w2.frozen? ⟨h, 0, none⟩ = false := by simp [World.frozen?, t2.at HP2.out.hdr (by simpa using Ne.symm hgh)]
  have T3 := Lib.hid (show Touch (Hp.foot h m (.slice (some ⟨g, 0, none⟩) (n + 1) cv)) w _ from ((t1.mono (by simp [Hp.foot])).trans tB (by simp)).trans t3 (fun y hy => .inl hy))
  have gB3 := t3.at gB (by simp [Hp.foot, Value.ownBlock]; exact ⟨HBh, HBm, HBg⟩)
  obtain ⟨b0, b1, b2⟩ := cells_three (t2.at gB (by simpa using HBg))
  clear d0 d1 d2 hrow hroom
  clear p3 row2 t2 z2' c1 c2 z0 z1' z2 t3 gB t1
  have hln : (its.take n).length = n := by rw [List.length_take, HNN.out]; omega
  by_cases hi : i < n
  · have hlt : (i : Int) < (n : Int) := by omega
    go_wp2_with fail
    generalize hw3 : w2.setCell ⟨h, 0, none⟩ (.slice (some ⟨g, 0, none⟩) n cv) = w3 at *
    clear hw3
    refine (set_any h m _ _ _ last i z.id z.due z.x w3 HP3.out (by rw [hln]; exact hi) h1z hkz).mono ?_
    rintro e w4 ⟨rfl, hp4, t4⟩
    have hids : ∀ y, y ∈ (its.take n).set i z ↔ y ∈ its ∧ y.id ≠ x.id := fun y => ((take_set_perm HNN.out hi HZ.out).mem_iff).trans (erase_mem HK.out.ids HX.out)
    have hpm := Lib.hid (take_set_perm HNN.out hi HZ.out)
    have hnd : (((its.take n).set i z).map Itm.id).Nodup := ((hpm.out).map Itm.id).nodup_iff.2 (erase_nodup HK.out.ids)
    have hzx : z.id ≠ x.id := ids_ne HK.out.ids HZ.out HX.out (by omega)
    have FX := Lib.hid (fix_any h m _ ((its.take n).set i z) _ last i z w4 hp4 (by rw [List.getElem?_set_self (by omega)]) hnd (by
      intro j y hj hy
      have hjl := (List.getElem?_eq_some_iff.1 hy).1
      rw [List.length_set, hln] at hjl
      rw [List.getElem?_set_ne (Ne.symm hj), List.getElem?_take_of_lt hjl] at hy
      rw [look_put_other _ _ _ _ (ids_ne HK.out.ids hy HZ.out (by omega)), look_del_other _ _ _ (ids_ne HK.out.ids hy HX.out hj)]
      exact HK.out.ix.at_ j y hy) (HK.out.heap.take n).up)
    have HOT := Lib.hid (show ∀ id, (∀ y ∈ (its.take n).set i z, y.id ≠ id) → look (put (del kv x.id) z.id (.int .i64 i)) id = none from by
      intro id hid
      have hz1 : id ≠ z.id := Ne.symm (hid z ((hids z).2 ⟨List.mem_of_getElem? HZ.out, hzx⟩))
      rw [look_put_other _ _ _ _ hz1]
      by_cases hx1 : id = x.id
      · rw [hx1, look_del_same]
      · rw [look_del_other _ _ _ hx1]
        refine HK.out.ix.no id fun y hy e => ?_
        exact hid y ((hids y).2 ⟨hy, by rw [e]; exact hx1⟩) e)
    have HTOP := Lib.hid (show ∀ y ∈ (its.take n).set i z, 1 ≤ y.id ∧ y.id ≤ last from fun y hy => HK.out.top y ((hids y).1 hy).1)
    have HND := Lib.hid hnd
    have T4 := Lib.hid (show Touch (Hp.foot h m (.slice (some ⟨g, 0, none⟩) (n + 1) cv)) w w4 from T3.out.trans t4 (by intro y hy; left; simp only [Hp.foot, List.mem_cons] at hy ⊢; exact .inr hy))
    clear hids hnd hp4 t4 b0 b1 b2 T3 HP3 gB3 c0 f0 hzx
    go_wp2_with fail
    refine FX.out.mono ?_
    rintro e w5 ⟨its5, kv5, rfl, hp5, hperm5, hh5, ha5, ho5, t5⟩
    have B5 := Lib.hid (HB.sifted hp5 hperm5 HND.out hh5 ha5 ho5 HOT.out HTOP.out HK.out.lo HK.out.hi)
    have PM := Lib.hid (hperm5.trans hpm.out)
    have T5 := Lib.hid (show Touch (Hp.foot h m (.slice (some ⟨g, 0, none⟩) (n + 1) cv)) w w5 from T4.out.trans t5 (by intro y hy; left; simp only [Hp.foot, List.mem_cons] at hy ⊢; exact .inr hy))
    clear hp5 hperm5 hh5 ha5 ho5 t5
    go_wp2_with fail
    go_ret
    exact ⟨rfl, _, its5, kv5, B5.out, PM.out, fun y hy => .inl hy, T5.out⟩
  · have hlt : ¬ (i : Int) < (n : Int) := by omega
    have hin : i = n := by have := HNN.out; omega
    have B3 := Lib.hid (show HB _ h m _ (its.take n) (del kv x.id) last from ⟨HP3.out, by rw [take_erase HNN.out]; exact erase_nodup HK.out.ids, ⟨fun j y hy => by
      have hjl := (List.getElem?_eq_some_iff.1 hy).1
      rw [hln] at hjl
      rw [List.getElem?_take_of_lt hjl] at hy
      rw [look_del_other _ _ _ (ids_ne HK.out.ids hy HX.out (by omega))]
      exact HK.out.ix.at_ j y hy, fun id hid => by
      by_cases hx1 : id = x.id
      · rw [hx1, look_del_same]
      · rw [look_del_other _ _ _ hx1]
        refine HK.out.ix.no id fun y hy e => ?_
        refine hid y ?_ e
        rw [take_erase HNN.out, ← hin]
        exact (erase_mem HK.out.ids HX.out).2 ⟨hy, by rw [e]; exact hx1⟩⟩, HK.out.heap.take n, fun y hy => HK.out.top y (List.mem_of_mem_take hy), HK.out.lo, HK.out.hi⟩)
    have PM := Lib.hid (show (its.take n).Perm (its.eraseIdx i) by rw [take_erase HNN.out, hin])
    clear hin hln
    go_wp2_with fail
    go_ret
    exact ⟨rfl, _, _, _, B3.out, PM.out, fun y hy => .inl hy, T3.out⟩
end
end Go.Proofs.YtobkanlnnniabaaGreat.S

/-
  A heap as a bag of entries.
-/
namespace Go.Proofs.YtobkanlnnniabaaGreat.S
open Go.RowKit Go.Sort Go.Shelf
set_option linter.unusedVariables false
set_option linter.unusedSimpArgs false

section
variable (h m : Nat) (v : Value) (its : List Itm) (kv : List (Int × Value)) (last : Int) (w : World) (k : HB w h m v its kv last)
include k
set_option maxRecDepth 100000 in
set_option maxHeartbeats 1000000 in
theorem get_none (id : Int) (hid : okK id) (hn : ∀ y ∈ its, y.id ≠ id) : Calls Tryz.prog 56 #[.pointer (some ⟨h, 0, none⟩), .int .i64 id] w fun e w' => e = .returned (.tuple #[.int .u64 0, .pointer none, .bool false]) ∧ w = w' := by
  obtain ⟨c0, c1, c2⟩ := k.hp.cells
  have hq := k.look_run h m v its kv last w id hid
  rw [k.ix.no id hn] at hq
  simp only [Option.getD_none, Option.isSome_none] at hq
  clear k hn
  go_enter Tryz.func56, Tryz.ntmps56
  go_wp2_with fail
  go_ret3
  exact ⟨rfl, rfl⟩
set_option maxRecDepth 100000 in
set_option maxHeartbeats 1000000 in
theorem get_some (i : Nat) (x : Itm) (hx : its[i]? = some x) : Calls Tryz.prog 56 #[.pointer (some ⟨h, 0, none⟩), .int .i64 x.id] w fun e w' => e = .returned (.tuple #[.int .u64 x.due, x.x, .bool true]) ∧ ∃ q, w' = w.drewN q := by
  have hil := (List.getElem?_eq_some_iff.1 hx).1
  obtain ⟨av, cv, rfl, hv1, hv2, hv3⟩ := k.hp.form
  obtain ⟨g, rfl, hgh, hgm⟩ := hv3 (by omega)
  obtain ⟨c0, c1, c2⟩ := k.hp.cells
  obtain ⟨e0, e1, e2⟩ := k.hp.elem hx
  have hq := k.look_run h m _ its kv last w x.id (k.hp.oks x (List.mem_of_getElem? hx))
  rw [k.ix.at_ i x hx] at hq
  simp only [Option.getD_some, Option.isSome_some] at hq
  have q3 : (i : Int) < (its.length : Int) := by omega
  clear k hv3 hx
  go_enter Tryz.func56, Tryz.ntmps56
  go_wp2_with fail
  go_quiet (fail)
  go_wp2_with fail
  go_ret3
  exact ⟨rfl, nq, rfl⟩
end
/-- The heap at h lies in the blocks f and bears the entries L. -/
def Bag (w : World) (h : Nat) (f : List Nat) (L : List Itm) (last : Int) : Prop := ∃ m v its kv, HB w h m v its kv last ∧ its.Perm L ∧ f = Hp.foot h m v
/-- What a call leaves. -/
def Next (w : World) (h : Nat) (f : List Nat) (L : List Itm) (last : Int) (w' : World) : Prop := ∃ f', Bag w' h f' L last ∧ (∀ y ∈ f', y ∈ f ∨ w.heap.size ≤ y) ∧ Touch f w w'
section
variable {w : World} {h : Nat} {f : List Nat} {L : List Itm} {last : Int}
theorem Bag.lt (k : Bag w h f L last) : ∀ y ∈ f, y < w.heap.size := by
  obtain ⟨m, v, its, kv, hb, hp, rfl⟩ := k
  exact hb.hp.lt
theorem Bag.touch {S : List Nat} {w' : World} (k : Bag w h f L last) (t : Touch S w w') (hS : ∀ y ∈ f, y ∉ S) : Bag w' h f L last := by
  obtain ⟨m, v, its, kv, hb, hp, rfl⟩ := k
  exact ⟨m, v, its, kv, hb.touch t hS, hp, rfl⟩
theorem Bag.ids (k : Bag w h f L last) : (L.map Itm.id).Nodup := by
  obtain ⟨m, v, its, kv, hb, hp, rfl⟩ := k
  exact (hp.map Itm.id).nodup_iff.1 hb.ids
theorem Bag.oks (k : Bag w h f L last) : ∀ y ∈ L, okK y.id ∧ 1 ≤ y.id ∧ y.id ≤ last := by
  obtain ⟨m, v, its, kv, hb, hp, rfl⟩ := k
  intro y hy
  have hy' := hp.mem_iff.2 hy
  exact ⟨hb.hp.oks y hy', hb.top y hy'⟩
theorem Bag.lo (k : Bag w h f L last) : 0 ≤ last ∧ last ≤ 1000 := by
  obtain ⟨m, v, its, kv, hb, hp, rfl⟩ := k
  exact ⟨hb.lo, hb.hi⟩
theorem Bag.perm {L' : List Itm} (k : Bag w h f L last) (hp' : L.Perm L') : Bag w h f L' last := by
  obtain ⟨m, v, its, kv, hb, hp, rfl⟩ := k
  exact ⟨m, v, its, kv, hb, hp.trans hp', rfl⟩
theorem Bag.new (w : World) : Calls Tryz.prog 55 #[] w fun e w' => ∃ h f, e = .returned (.pointer (some ⟨h, 0, none⟩)) ∧ Bag w' h f [] 0 ∧ (∀ y ∈ f, w.heap.size ≤ y) ∧ Touch [] w w' := by
  refine (new_any w).mono ?_
  rintro e w' ⟨h, m, v, rfl, hb, hf, ht⟩
  exact ⟨h, _, rfl, ⟨m, v, [], [], hb, List.Perm.refl _, rfl⟩, hf, ht⟩
theorem Bag.push (k : Bag w h f L last) (due : Int) (x : Value) (h1 : x.oneCell' = true) (hl : last < 1000) (hL : L.length < 1000) :
    Calls Tryz.prog 57 #[.pointer (some ⟨h, 0, none⟩), .int .u64 due, x] w fun e w' => e = .returned (.int .i64 (last + 1)) ∧ Next w h f (L ++ [⟨last + 1, due, x⟩]) (last + 1) w' := by
  obtain ⟨m, v, its, kv, hb, hp, rfl⟩ := k
  refine (push_any h m v its kv last due x w hb h1 hl (by rw [hp.length_eq]; exact hL)).mono ?_
  rintro e w' ⟨v', its', kv', rfl, hb', hp', hf', ht'⟩
  exact ⟨rfl, _, ⟨m, v', its', kv', hb', hp'.trans (hp.append_right _), rfl⟩, hf', ht'⟩
theorem Left.next {m : Nat} {v : Value} {L' : List Itm} {w' : World} (k : Left h m v L' last w w') (hp : L'.Perm L) : Next w h (Hp.foot h m v) L last w' := by
  obtain ⟨v', its', kv', hb', hp', hf', ht'⟩ := k
  exact ⟨_, ⟨m, v', its', kv', hb', hp'.trans hp, rfl⟩, hf', ht'⟩
theorem Bag.min_no (k : Bag w h f [] last) : Calls Tryz.prog 59 #[.pointer (some ⟨h, 0, none⟩)] w fun e w' => e = .returned (.tuple #[.int .i64 0, .int .u64 0, .pointer none, .bool false]) ∧ Touch [] w w' := by
  obtain ⟨m, v, its, kv, hb, hp, rfl⟩ := k
  exact min_none h m v its kv last w hb (List.perm_nil.1 hp)
theorem Bag.min (k : Bag w h f L last) (x : Itm) (hx : x ∈ L) (hm : ∀ y ∈ L, le x.key y.key) :
    Calls Tryz.prog 59 #[.pointer (some ⟨h, 0, none⟩)] w fun e w' => e = .returned (.tuple #[.int .i64 x.id, .int .u64 x.due, x.x, .bool true]) ∧ Touch [] w w' := by
  obtain ⟨m, v, its, kv, hb, hp, rfl⟩ := k
  obtain ⟨i, hi⟩ := mem_at hp hx
  have h0 : 0 < its.length := by have := (List.getElem?_eq_some_iff.1 hi).1; omega
  have hz := List.getElem?_eq_getElem h0
  generalize its[0] = z at hz
  have hzi : i = 0 := by
    rcases Nat.eq_zero_or_pos i with e | e
    · exact e
    exfalso
    have l1 := hb.heap.least hz i x hi
    have l2 := hm z (hp.mem_iff.1 (List.mem_of_getElem? hz))
    refine ids_ne hb.ids hi hz (by omega) ?_
    have : x.key.id = z.key.id := by unfold le at l1 l2; omega
    exact this
  subst hzi
  exact min_some h m v its kv last w hb x hi
theorem Bag.remove (k : Bag w h f L last) (x : Itm) (hx : x ∈ L) :
    Calls Tryz.prog 71 #[.pointer (some ⟨h, 0, none⟩), .int .i64 x.id] w fun e w' => e = .returned (.bool true) ∧ Next w h f (L.filter fun y => decide (y.id ≠ x.id)) last w' := by
  obtain ⟨m, v, its, kv, hb, hp, rfl⟩ := k
  obtain ⟨i, hi⟩ := mem_at hp hx
  refine (remove_some h m v its kv last w hb i x hi).mono ?_
  rintro e w' ⟨rfl, hl⟩
  refine ⟨rfl, hl.next ?_⟩
  rw [erase_filter its i x hb.ids hi]
  exact hp.filter _
theorem Bag.remove_no (k : Bag w h f L last) (id : Int) (hid : okK id) (hn : ∀ y ∈ L, y.id ≠ id) :
    Calls Tryz.prog 71 #[.pointer (some ⟨h, 0, none⟩), .int .i64 id] w fun e w' => e = .returned (.bool false) ∧ w = w' := by
  obtain ⟨m, v, its, kv, hb, hp, rfl⟩ := k
  exact remove_none h m v its kv last w hb id hid (fun y hy => hn y (hp.mem_iff.1 hy))
theorem Bag.len (k : Bag w h f L last) : Calls Tryz.prog 61 #[.pointer (some ⟨h, 0, none⟩)] w fun e w' => e = .returned (.int .i64 L.length) ∧ w = w' := by
  obtain ⟨m, v, its, kv, hb, hp, rfl⟩ := k
  rw [← hp.length_eq]
  exact len_any h m v its kv last w hb
theorem Bag.get (k : Bag w h f L last) (x : Itm) (hx : x ∈ L) :
    Calls Tryz.prog 56 #[.pointer (some ⟨h, 0, none⟩), .int .i64 x.id] w fun e w' => e = .returned (.tuple #[.int .u64 x.due, x.x, .bool true]) ∧ ∃ q, w' = w.drewN q := by
  obtain ⟨m, v, its, kv, hb, hp, rfl⟩ := k
  obtain ⟨i, hi⟩ := mem_at hp hx
  exact get_some h m v its kv last w hb i x hi
theorem Bag.get_no (k : Bag w h f L last) (id : Int) (hid : okK id) (hn : ∀ y ∈ L, y.id ≠ id) :
    Calls Tryz.prog 56 #[.pointer (some ⟨h, 0, none⟩), .int .i64 id] w fun e w' => e = .returned (.tuple #[.int .u64 0, .pointer none, .bool false]) ∧ w = w' := by
  obtain ⟨m, v, its, kv, hb, hp, rfl⟩ := k
  exact get_none h m v its kv last w hb id hid (fun y hy => hn y (hp.mem_iff.1 hy))
end
end Go.Proofs.YtobkanlnnniabaaGreat.S

/-
  Timers of one instance in memory.
-/
namespace Go.Proofs.YtobkanlnnniabaaGreat.S
open Go.RowKit
set_option linter.unusedVariables false
set_option linter.unusedSimpArgs false

/-- A timer in memory: what it is to the others, its value, its block and the value of its slice of children. -/
structure Nd where
  t : Tm
  x : Value
  b : Nat
  v : Value
def Nd.itm (n : Nd) : Itm := ⟨n.t.id, n.t.due, .pointer (some ⟨n.b, 0, none⟩)⟩
def Nd.foot (n : Nd) : List Nat := n.b :: n.v.ownBlock.toList
def sh (N : List Nd) : List Tm := N.map Nd.t
/-- A timer's cells, its children the list K. -/
structure NdOk (w : World) (K : List Int) (n : Nd) : Prop where
  hdr : w.heap[n.b]? = some (.cells #[.int .i64 n.t.par, .int .u64 n.t.req, n.x, n.v] 98 (0, 0))
  row : w.ownsRow 0 3 1 n.v K.length (K.map (Value.int .i64))
  one : n.x.oneCell' = true
  hv : n.v.ownBlock ≠ some n.b
/-- The timers' memory, the children of the timer i the list K i. -/
structure TK (w : World) (t h : Nat) (fh : List Nat) (N : List Nd) (last : Int) (K : Int → List Int) : Prop where
  hdr : w.heap[t]? = some (.cells #[.pointer (some ⟨h, 0, none⟩)] 94 (0, 0))
  bag : Bag w h fh (N.map Nd.itm) last
  nd : ∀ n ∈ N, NdOk w (K n.t.id) n
  rq : ∀ n ∈ N, 0 ≤ n.t.req ∧ n.t.req ≤ maxT
  few : N.length ≤ 1000
  tf : t ∉ fh
  nt : ∀ n ∈ N, t ∉ n.foot
  nf : ∀ n ∈ N, ∀ y ∈ n.foot, y ∉ fh
  nn : N.Pairwise fun a b => ∀ y ∈ a.foot, y ∉ b.foot
structure TM (w : World) (t h : Nat) (fh : List Nat) (N : List Nd) (last : Int) : Prop where
  mem : TK w t h fh N last (kids (sh N))
  tree : Tree (sh N) last
  due : ∀ s ∈ sh N, DueOk (sh N) s
def TFoot (t : Nat) (fh : List Nat) (N : List Nd) : List Nat := t :: (fh ++ N.flatMap Nd.foot)
theorem TFoot.mem {t : Nat} {fh : List Nat} {N : List Nd} {y : Nat} : y ∈ TFoot t fh N ↔ y = t ∨ y ∈ fh ∨ ∃ n ∈ N, y ∈ n.foot := by
  simp [TFoot]
theorem NdOk.touch {w w' : World} {K : List Int} {n : Nd} {S : List Nat} (k : NdOk w K n) (t : Touch S w w') (hS : ∀ y ∈ n.foot, y ∉ S) : NdOk w' K n :=
  ⟨t.at k.hdr (hS _ (by simp [Nd.foot])), t.owns k.row (fun g hg => hS g (by simp [Nd.foot, hg])), k.one, k.hv⟩
theorem NdOk.lt {w : World} {K : List Int} {n : Nd} (k : NdOk w K n) : ∀ y ∈ n.foot, y < w.heap.size := by
  intro y hy
  simp only [Nd.foot, List.mem_cons, Option.mem_toList] at hy
  rcases hy with rfl | hy
  · exact (Array.getElem?_eq_some_iff.1 k.hdr).1
  · exact (k.row.lt y hy).2
theorem NdOk.cells {w : World} {K : List Int} {n : Nd} (k : NdOk w K n) : w.cell? ⟨n.b, 0, none⟩ = some (.int .i64 n.t.par) ∧ w.cell? ⟨n.b, 1, none⟩ = some (.int .u64 n.t.req) ∧ w.cell? ⟨n.b, 2, none⟩ = some n.x ∧ w.cell? ⟨n.b, 3, none⟩ = some n.v := by
  simp [World.cell?, k.hdr]
section
variable {w : World} {t h : Nat} {fh : List Nat} {N : List Nd} {last : Int} {K : Int → List Int}
theorem TK.lt (k : TK w t h fh N last K) : ∀ y ∈ TFoot t fh N, y < w.heap.size := by
  intro y hy
  rcases TFoot.mem.1 hy with rfl | hy | ⟨n, hn, hy⟩
  · exact (Array.getElem?_eq_some_iff.1 k.hdr).1
  · exact k.bag.lt y hy
  · exact (k.nd n hn).lt y hy
theorem TK.touch {S : List Nat} {w' : World} (k : TK w t h fh N last K) (ht : Touch S w w') (hS : ∀ y ∈ TFoot t fh N, y ∉ S) : TK w' t h fh N last K :=
  ⟨ht.at k.hdr (hS _ (TFoot.mem.2 (.inl rfl))), k.bag.touch ht (fun y hy => hS y (TFoot.mem.2 (.inr (.inl hy)))), fun n hn => (k.nd n hn).touch ht (fun y hy => hS y (TFoot.mem.2 (.inr (.inr ⟨n, hn, hy⟩)))), k.rq, k.few, k.tf, k.nt, k.nf, k.nn⟩
theorem TM.touch {S : List Nat} {w' : World} (k : TM w t h fh N last) (ht : Touch S w w') (hS : ∀ y ∈ TFoot t fh N, y ∉ S) : TM w' t h fh N last := ⟨k.mem.touch ht hS, k.tree, k.due⟩
theorem TK.cell (k : TK w t h fh N last K) : w.cell? ⟨t, 0, none⟩ = some (.pointer (some ⟨h, 0, none⟩)) := by
  simp [World.cell?, k.hdr]
theorem TK.apart (k : TK w t h fh N last K) (hu : (tids (sh N)).Nodup) {a b : Nd} (ha : a ∈ N) (hb : b ∈ N) (hne : a.t.id ≠ b.t.id) : ∀ y ∈ a.foot, y ∉ b.foot := by
  have key : ∀ (N : List Nd), (N.Pairwise fun a b => ∀ y ∈ a.foot, y ∉ b.foot) → a ∈ N → b ∈ N → ∀ y ∈ a.foot, y ∉ b.foot := by
    intro N
    induction N with
    | nil =>
      intro _ ha
      simp at ha
    | cons c N ih =>
      intro hp ha hb y hy hy2
      rw [List.pairwise_cons] at hp
      rcases List.mem_cons.1 ha with rfl | ha' <;> rcases List.mem_cons.1 hb with rfl | hb'
      · exact hne rfl
      · exact hp.1 b hb' y hy hy2
      · exact hp.1 a ha' y hy2 hy
      · exact ih hp.2 ha' hb' y hy hy2
  exact key N k.nn ha hb
theorem sh_mem {n : Nd} (hn : n ∈ N) : n.t ∈ sh N := List.mem_map.2 ⟨n, hn, rfl⟩
theorem sh_tids {n : Nd} (hn : n ∈ N) : n.t.id ∈ tids (sh N) := List.mem_map.2 ⟨n.t, sh_mem hn, rfl⟩
theorem sh_at {i : Int} (hi : i ∈ tids (sh N)) : ∃ n ∈ N, n.t.id = i := by
  obtain ⟨s, hs, rfl⟩ := List.mem_map.1 hi
  obtain ⟨n, hn, rfl⟩ := List.mem_map.1 hs
  exact ⟨n, hn, rfl⟩
/-- The bag has changed; the timers have not. -/
theorem TK.bagged {N' : List Nd} {w' : World} {fh' : List Nat} {last' : Int} (k : TK w t h fh N last K) (hb : Bag w' h fh' (N'.map Nd.itm) last') (hf : ∀ y ∈ fh', y ∈ fh ∨ w.heap.size ≤ y) (ht : Touch fh w w') (hN : ∀ n ∈ N', n ∈ N ∨ ∃ m ∈ N, n.b = m.b ∧ n.v = m.v ∧ n.x = m.x ∧ n.t.id = m.t.id ∧ n.t.par = m.t.par ∧ n.t.req = m.t.req) (hs : N'.Pairwise fun a b => ∀ y ∈ a.foot, y ∉ b.foot) (hl : N'.length ≤ 1000) : TK w' t h fh' N' last' K := by
  have hlt := k.lt
  have key : ∀ n ∈ N', ∃ m ∈ N, n.b = m.b ∧ n.v = m.v ∧ n.x = m.x ∧ n.t.id = m.t.id ∧ n.t.par = m.t.par ∧ n.t.req = m.t.req := by
    intro n hn
    rcases hN n hn with hn | h
    · exact ⟨n, hn, rfl, rfl, rfl, rfl, rfl, rfl⟩
    · exact h
  refine ⟨ht.at k.hdr k.tf, hb, ?_, ?_, hl, ?_, ?_, ?_, hs⟩
  · intro n hn
    obtain ⟨m, hm, e1, e2, e3, e4, e5, e6⟩ := key n hn
    have := (k.nd m hm).touch ht (k.nf m hm)
    exact ⟨by rw [e1, e2, e3, e5, e6]; exact this.hdr, by rw [e2, e4]; exact this.row, by rw [e3]; exact this.one, by rw [e1, e2]; exact this.hv⟩
  · intro n hn
    obtain ⟨m, hm, e1, e2, e3, e4, e5, e6⟩ := key n hn
    rw [e6]
    exact k.rq m hm
  · intro e
    rcases hf t e with e | e
    · exact k.tf e
    · have := hlt t (TFoot.mem.2 (.inl rfl))
      omega
  · intro n hn
    obtain ⟨m, hm, e1, e2, e3, e4, e5, e6⟩ := key n hn
    have := k.nt m hm
    simpa [Nd.foot, e1, e2] using this
  · intro n hn y hy e
    obtain ⟨m, hm, e1, e2, e3, e4, e5, e6⟩ := key n hn
    have hy' : y ∈ m.foot := by simpa [Nd.foot, e1, e2] using hy
    rcases hf y e with e | e
    · exact k.nf m hm y hy' e
    · have := hlt y (TFoot.mem.2 (.inr (.inr ⟨m, hm, hy'⟩)))
      omega
/-- One timer's slice of children is another. -/
def setV (id : Int) (v : Value) (n : Nd) : Nd := if n.t.id = id then { n with v := v } else n
theorem setV_keep (id : Int) (v : Value) (n : Nd) : (setV id v n).t = n.t ∧ (setV id v n).itm = n.itm ∧ (setV id v n).b = n.b ∧ (setV id v n).x = n.x := by
  unfold setV
  split <;> exact ⟨rfl, rfl, rfl, rfl⟩
theorem sh_setV (id : Int) (v : Value) : sh (N.map (setV id v)) = sh N := by
  unfold sh
  rw [List.map_map]
  apply List.map_congr_left
  intro n _
  exact (setV_keep id v n).1
theorem itm_setV (id : Int) (v : Value) : (N.map (setV id v)).map Nd.itm = N.map Nd.itm := by
  rw [List.map_map]
  apply List.map_congr_left
  intro n _
  exact (setV_keep id v n).2.1
def putK (K : Int → List Int) (id : Int) (l : List Int) (i : Int) : List Int := if i = id then l else K i
theorem nd_inj (hu : (tids (sh N)).Nodup) {a b : Nd} (ha : a ∈ N) (hb : b ∈ N) (e : a.t.id = b.t.id) : a = b := by
  induction N with
  | nil => simp at ha
  | cons c N ih =>
    simp only [tids, sh, List.map_cons, List.nodup_cons] at hu
    have hc : ∀ d ∈ N, d.t.id ≠ c.t.id := by
      intro d hd e
      exact hu.1 (by rw [← e]; exact List.mem_map.2 ⟨d.t, List.mem_map.2 ⟨d, hd, rfl⟩, rfl⟩)
    rcases List.mem_cons.1 ha with rfl | ha' <;> rcases List.mem_cons.1 hb with rfl | hb'
    · rfl
    · exact absurd e.symm (hc b hb')
    · exact absurd e (hc a ha')
    · exact ih hu.2 ha' hb'
theorem TK.kids_set {p : Nd} {w2 : World} {v' : Value} {l : List Int} (k : TK w t h fh N last K) (hu : (tids (sh N)).Nodup) (hp : p ∈ N) (ht : Touch p.foot w w2)
    (hh : w2.heap[p.b]? = some (.cells #[.int .i64 p.t.par, .int .u64 p.t.req, p.x, v'] 98 (0, 0))) (hr : w2.ownsRow 0 3 1 v' l.length (l.map (Value.int .i64)))
    (hn : v'.ownBlock = p.v.ownBlock ∨ v'.ownBlock = none ∨ ∃ g, v'.ownBlock = some g ∧ w.heap.size ≤ g) :
    TK w2 t h fh (N.map (setV p.t.id v')) last (putK K p.t.id l) ∧ ∀ y ∈ TFoot t fh (N.map (setV p.t.id v')), y ∈ TFoot t fh N ∨ w.heap.size ≤ y := by
  have hlt := k.lt
  have hpf : ∀ y, y ∈ ({ p with v := v' } : Nd).foot → y ∈ p.foot ∨ w.heap.size ≤ y := by
    intro y hy
    simp only [Nd.foot, List.mem_cons, Option.mem_toList] at hy ⊢
    rcases hy with rfl | hy
    · exact .inl (.inl rfl)
    · rcases hn with e | e | ⟨g, e, hg⟩
      · rw [e] at hy
        exact .inl (.inr hy)
      · rw [e] at hy
        cases hy
      · rw [e] at hy
        cases hy
        exact .inr hg
  have hform : ∀ n ∈ N, (n.t.id = p.t.id ∧ n = p ∧ S.setV p.t.id v' n = { p with v := v' }) ∨ (n.t.id ≠ p.t.id ∧ S.setV p.t.id v' n = n) := by
    intro n hn
    by_cases e : n.t.id = p.t.id
    · have := nd_inj hu hn hp e
      subst this
      exact .inl ⟨rfl, rfl, by simp [S.setV]⟩
    · exact .inr ⟨e, by simp [S.setV, e]⟩
  have hfoot : ∀ n ∈ N, ∀ y ∈ (S.setV p.t.id v' n).foot, y ∈ n.foot ∨ w.heap.size ≤ y := by
    intro n hn y hy
    rcases hform n hn with ⟨_, rfl, e⟩ | ⟨_, e⟩
    · rw [e] at hy
      exact hpf y hy
    · rw [e] at hy
      exact .inl hy
  have hpt : t ∉ p.foot := k.nt p hp
  refine ⟨⟨ht.at k.hdr hpt, ?_, ?_, ?_, by rw [List.length_map]; exact k.few, k.tf, ?_, ?_, ?_⟩, ?_⟩
  · rw [itm_setV]
    exact k.bag.touch ht (fun y hy e => k.nf p hp y e hy)
  · intro n' hn'
    obtain ⟨n, hnn, rfl⟩ := List.mem_map.1 hn'
    rcases hform n hnn with ⟨_, rfl, e⟩ | ⟨hne, e⟩
    · rw [e]
      refine ⟨hh, ?_, (k.nd n hp).one, ?_⟩
      · simp only [putK, if_true]
        exact hr
      · intro e2
        rcases hn with e3 | e3 | ⟨g, e3, hg⟩
        · exact (k.nd n hp).hv (by rw [← e3]; exact e2)
        · rw [e3] at e2
          cases e2
        · rw [e3] at e2
          cases e2
          have h1 := hlt n.b (TFoot.mem.2 (.inr (.inr ⟨n, hp, by simp [Nd.foot]⟩)))
          have h2 : w.heap.size ≤ n.b := hg
          omega
    · rw [e]
      simp only [putK, if_neg hne]
      exact (k.nd n hnn).touch ht (k.apart hu hnn hp hne)
  · intro n' hn'
    obtain ⟨n, hnn, rfl⟩ := List.mem_map.1 hn'
    rw [(setV_keep _ _ n).1]
    exact k.rq n hnn
  · intro n' hn' e
    obtain ⟨n, hnn, rfl⟩ := List.mem_map.1 hn'
    rcases hfoot n hnn t e with e | e
    · exact k.nt n hnn e
    · have := hlt t (TFoot.mem.2 (.inl rfl))
      omega
  · intro n' hn' y hy e
    obtain ⟨n, hnn, rfl⟩ := List.mem_map.1 hn'
    rcases hfoot n hnn y hy with e2 | e2
    · exact k.nf n hnn y e2 e
    · have := hlt y (TFoot.mem.2 (.inr (.inl e)))
      omega
  · have hids : (N.map fun n => n.t.id).Nodup := by
      have : (N.map fun n => n.t.id) = tids (sh N) := by simp [tids, sh, Function.comp_def]
      rw [this]
      exact hu
    have hboth : N.Pairwise fun a b => a.t.id ≠ b.t.id := by
      rw [List.nodup_iff_pairwise_ne, List.pairwise_map] at hids
      exact hids
    rw [List.pairwise_map]
    refine (List.Pairwise.and hboth k.nn).imp_of_mem fun {a b} ha hb hab => ?_
    obtain ⟨hne, hab⟩ := hab
    intro y hy hy2
    rcases hform a ha with ⟨ea, rfl, e1⟩ | ⟨ea, e1⟩ <;> rcases hform b hb with ⟨eb, rfl, e2⟩ | ⟨eb, e2⟩
    · exact hne (by rw [ea, eb])
    · rw [e2] at hy2
      rcases hfoot a ha y hy with h1 | h1
      · exact hab y h1 hy2
      · have := (k.nd b hb).lt y hy2
        omega
    · rw [e1] at hy
      rcases hfoot b hb y hy2 with h1 | h1
      · exact hab y hy h1
      · have := (k.nd a ha).lt y hy
        omega
    · rw [e1] at hy
      rw [e2] at hy2
      exact hab y hy hy2
  · intro y hy
    rcases TFoot.mem.1 hy with rfl | hy | ⟨n', hn', hy⟩
    · exact .inl (TFoot.mem.2 (.inl rfl))
    · exact .inl (TFoot.mem.2 (.inr (.inl hy)))
    · obtain ⟨n, hnn, rfl⟩ := List.mem_map.1 hn'
      rcases hfoot n hnn y hy with e | e
      · exact .inl (TFoot.mem.2 (.inr (.inr ⟨n, hnn, e⟩)))
      · exact .inr e
end
end Go.Proofs.YtobkanlnnniabaaGreat.S

/-
  The contracts of New, limit, Deadline, Len.
-/
namespace Go.Proofs.YtobkanlnnniabaaGreat.S
open Go.RowKit
set_option linter.unusedVariables false
set_option linter.unusedSimpArgs false

/-- The timers' meaning: each timer and its value, in the order of the handles. -/
def ab (N : List Nd) : List (Tm × Value) := N.map fun n => (n.t, n.x)
theorem ab_fst (N : List Nd) : (ab N).map Prod.fst = sh N := by
  simp [ab, sh, Function.comp_def]
def TS (w : World) (t h : Nat) (f : List Nat) (A : List (Tm × Value)) (last : Int) : Prop := ∃ fh N, TM w t h fh N last ∧ ab N = A ∧ f = TFoot t fh N
/-- What a call leaves. -/
def TNext (w : World) (t h : Nat) (f : List Nat) (A : List (Tm × Value)) (last : Int) (w' : World) : Prop := ∃ f', TS w' t h f' A last ∧ (∀ y ∈ f', y ∈ f ∨ w.heap.size ≤ y) ∧ Touch f w w'
section
variable {w : World} {t h : Nat} {fh : List Nat} {N : List Nd} {last : Int}
theorem TM.ids (k : TM w t h fh N last) : (tids (sh N)).Nodup := k.tree.nodup
theorem TM.itm_mem {n : Nd} (hn : n ∈ N) : n.itm ∈ N.map Nd.itm := List.mem_map.2 ⟨n, hn, rfl⟩
theorem TM.no (k : TM w t h fh N last) {i : Int} (hi : i ∉ tids (sh N)) : ∀ y ∈ N.map Nd.itm, y.id ≠ i := by
  intro y hy e
  obtain ⟨n, hn, rfl⟩ := List.mem_map.1 hy
  exact hi (by rw [← e]; exact sh_tids hn)
theorem TM.oki (k : TM w t h fh N last) {i : Int} (hi : i ∈ tids (sh N)) : okK i ∧ 1 ≤ i ∧ i ≤ last ∧ last ≤ 1000 := by
  obtain ⟨n, hn, rfl⟩ := sh_at hi
  have h1 := k.mem.bag.oks _ (TM.itm_mem hn)
  have h2 := k.mem.bag.lo
  exact ⟨h1.1, h1.2.1, h1.2.2, h2.2⟩
theorem TM.draws (k : TM w t h fh N last) (n : Nat) : TM (w.drewN n) t h fh N last := k.touch ((Touch.refl [] w).drews n) (by simp)
/-- Get, either way. -/
theorem TM.get_no (k : TM w t h fh N last) (i : Int) (hi : okK i) (hn : i ∉ tids (sh N)) :
    Calls Tryz.prog 56 #[.pointer (some ⟨h, 0, none⟩), .int .i64 i] w fun e w' => e = .returned (.tuple #[.int .u64 0, .pointer none, .bool false]) ∧ w' = w :=
  (k.mem.bag.get_no i hi (k.no hn)).mono fun _ _ ⟨h1, h2⟩ => ⟨h1, h2.symm⟩
theorem TM.get (k : TM w t h fh N last) (n : Nd) (hn : n ∈ N) :
    Calls Tryz.prog 56 #[.pointer (some ⟨h, 0, none⟩), .int .i64 n.t.id] w fun e w' => e = .returned (.tuple #[.int .u64 n.t.due, .pointer (some ⟨n.b, 0, none⟩), .bool true]) ∧ ∃ q, w' = w.drewN q :=
  k.mem.bag.get n.itm (TM.itm_mem hn)
theorem TM.lim_no (k : TM w t h fh N last) {i : Int} (hi : i ∉ tids (sh N)) : lim (sh N) i = maxT := YtobkanlnnniabaaGreat.lim_no hi
theorem TM.lim_at (k : TM w t h fh N last) {n : Nd} (hn : n ∈ N) : lim (sh N) n.t.id = n.t.due := lim_mem k.ids (sh_mem hn)
set_option maxRecDepth 100000 in
set_option maxHeartbeats 1000000 in
/-- The effective deadline of the parent that a timer's block names. -/
theorem limit_any (k : TM w t h fh N last) (b : Nat) (p : Int) (hp : okK p) (hb : w.cell? ⟨b, 0, none⟩ = some (.int .i64 p)) :
    Calls Tryz.prog 58 #[.pointer (some ⟨t, 0, none⟩), .pointer (some ⟨b, 0, none⟩)] w fun e w' => e = .returned (.int .u64 (lim (sh N) p)) ∧ ∃ q, w' = w.drewN q := by
  have c0 := k.mem.cell
  by_cases hm : p ∈ tids (sh N)
  · obtain ⟨n, hn, rfl⟩ := sh_at hm
    have HL := Lib.hid (k.lim_at hn)
    have HK := Lib.hid k
    have HN := Lib.hid hn
    clear k hn hm hp
    go_enter Tryz.func58, Tryz.ntmps58
    go_wp2_with fail
    go_quiet ((go_at_call 56; exact Calls.quiet_of ((HK.out.draws _).get n HN.out)))
    go_wp2_with fail
    go_ret
    exact ⟨by rw [HL.out]; rfl, _, rfl⟩
  · have HL := Lib.hid (k.lim_no hm)
    have HK := Lib.hid k
    have HM := Lib.hid hm
    have HP := Lib.hid hp
    clear k hm hp
    go_enter Tryz.func58, Tryz.ntmps58
    go_wp2_with fail
    go_quiet ((go_at_call 56; exact Calls.quiet_of_same ((HK.out.draws _).get_no p HP.out HM.out)))
    go_wp2_with fail
    refine (min_nil _).mono ?_
    rintro e w' ⟨rfl, rfl⟩
    go_wp2_with fail
    go_ret
    exact ⟨by rw [HL.out]; rfl, _, rfl⟩
set_option maxRecDepth 100000 in
set_option maxHeartbeats 1000000 in
theorem deadline_at (k : TM w t h fh N last) (n : Nd) (hn : n ∈ N) :
    Calls Tryz.prog 43 #[.pointer (some ⟨t, 0, none⟩), .int .i64 n.t.id] w fun e w' => e = .returned (.tuple #[.int .u64 n.t.due, .bool true]) ∧ ∃ q, w' = w.drewN q := by
  have c0 := k.mem.cell
  have HK := Lib.hid k
  have HN := Lib.hid hn
  clear k hn
  go_enter Tryz.func43, Tryz.ntmps43
  go_wp2_with fail
  refine (HK.out.get n HN.out).mono ?_
  rintro e w' ⟨rfl, q, rfl⟩
  go_wp2_with fail
  go_ret2
  exact ⟨rfl, _, rfl⟩
set_option maxRecDepth 100000 in
set_option maxHeartbeats 1000000 in
theorem deadline_no (k : TM w t h fh N last) (i : Int) (hi : okK i) (hn : i ∉ tids (sh N)) :
    Calls Tryz.prog 43 #[.pointer (some ⟨t, 0, none⟩), .int .i64 i] w fun e w' => e = .returned (.tuple #[.int .u64 0, .bool false]) ∧ w' = w := by
  have c0 := k.mem.cell
  have HG := Lib.hid (k.get_no i hi hn)
  clear k hn
  go_enter Tryz.func43, Tryz.ntmps43
  go_wp2_with fail
  refine HG.out.mono ?_
  rintro e w' ⟨rfl, rfl⟩
  go_wp2_with fail
  go_ret2
  exact ⟨rfl, rfl⟩
set_option maxRecDepth 100000 in
set_option maxHeartbeats 1000000 in
theorem tlen_any (k : TM w t h fh N last) :
    Calls Tryz.prog 45 #[.pointer (some ⟨t, 0, none⟩)] w fun e w' => e = .returned (.int .i64 N.length) ∧ w' = w := by
  have c0 := k.mem.cell
  have HG := Lib.hid k.mem.bag.len
  clear k
  go_enter Tryz.func45, Tryz.ntmps45
  go_wp2_with fail
  refine HG.out.mono ?_
  rintro e w' ⟨rfl, rfl⟩
  go_wp2_with fail
  go_ret
  exact ⟨by simp, rfl⟩
end
theorem TM.fresh {w1 : World} {h : Nat} {fh : List Nat} (hb : Bag w1 h fh [] 0) : TM (w1.alloc (.cells #[.pointer (some ⟨h, 0, none⟩)] 94)) w1.heap.size h fh [] 0 := by
  have ta := (Touch.refl [] w1).alloc (.cells #[.pointer (some ⟨h, 0, none⟩)] 94)
  refine ⟨⟨heap_alloc_new w1 _, hb.touch ta (by simp), by simp, by simp, by simp, ?_, by simp, by simp, by simp⟩, ⟨by simp [sh], by simp [sh], by simp [sh], by simp [sh]⟩, by simp [sh]⟩
  intro e
  have := hb.lt _ e
  omega
set_option maxRecDepth 100000 in
set_option maxHeartbeats 1000000 in
theorem tnew_any (w : World) : Calls Tryz.prog 41 #[] w fun e w' => ∃ t h f, e = .returned (.pointer (some ⟨t, 0, none⟩)) ∧ TS w' t h f [] 0 ∧ (∀ y ∈ f, w.heap.size ≤ y) ∧ Touch [] w w' := by
  go_enter Tryz.func41, Tryz.ntmps41
  go_wp2_with fail
  refine (Bag.new w).mono ?_
  rintro e w1 ⟨h, f, rfl, hb, hf, ht⟩
  have H := Lib.hid (TM.fresh hb)
  have HF := Lib.hid hf
  have T := Lib.hid (ht.alloc (.cells #[.pointer (some ⟨h, 0, none⟩)] 94))
  have hz := ht.size
  clear hb hf ht
  go_wp2_with fail
  go_ret
  refine ⟨_, _, _, rfl, ⟨_, _, H.out, rfl, rfl⟩, ?_, T.out⟩
  intro y hy
  rcases TFoot.mem.1 hy with rfl | hy | ⟨n, hn, hy⟩
  · exact hz
  · exact HF.out y hy
  · simp at hn
section
variable {w : World} {t h : Nat} {f : List Nat} {A : List (Tm × Value)} {last : Int}
theorem TS.touch {S : List Nat} {w' : World} (k : TS w t h f A last) (ht : Touch S w w') (hS : ∀ y ∈ f, y ∉ S) : TS w' t h f A last := by
  obtain ⟨fh, N, hm, rfl, rfl⟩ := k
  exact ⟨fh, N, hm.touch ht hS, rfl, rfl⟩
theorem TS.lt (k : TS w t h f A last) : ∀ y ∈ f, y < w.heap.size := by
  obtain ⟨fh, N, hm, rfl, rfl⟩ := k
  exact hm.mem.lt
theorem TS.tree (k : TS w t h f A last) : Tree (A.map Prod.fst) last := by
  obtain ⟨fh, N, hm, rfl, rfl⟩ := k
  rw [ab_fst]
  exact hm.tree
theorem TS.due (k : TS w t h f A last) : ∀ s ∈ A.map Prod.fst, DueOk (A.map Prod.fst) s := by
  obtain ⟨fh, N, hm, rfl, rfl⟩ := k
  rw [ab_fst]
  exact hm.due
theorem TS.lo (k : TS w t h f A last) : 0 ≤ last ∧ last ≤ 1000 := by
  obtain ⟨fh, N, hm, rfl, rfl⟩ := k
  exact hm.mem.bag.lo
theorem TS.few (k : TS w t h f A last) : A.length ≤ 1000 := by
  obtain ⟨fh, N, hm, rfl, rfl⟩ := k
  simpa [ab] using hm.mem.few
theorem TS.deadline (k : TS w t h f A last) (s : Tm) (hs : s ∈ A.map Prod.fst) :
    Calls Tryz.prog 43 #[.pointer (some ⟨t, 0, none⟩), .int .i64 s.id] w fun e w' => e = .returned (.tuple #[.int .u64 s.due, .bool true]) ∧ Touch [] w w' := by
  obtain ⟨fh, N, hm, rfl, rfl⟩ := k
  rw [ab_fst] at hs
  obtain ⟨n, hn, rfl⟩ := List.mem_map.1 hs
  refine (deadline_at hm n hn).mono ?_
  rintro e w' ⟨rfl, q, rfl⟩
  exact ⟨rfl, (Touch.refl _ _).drews q⟩
theorem TS.deadline_no (k : TS w t h f A last) (i : Int) (hi : okK i) (hn : i ∉ tids (A.map Prod.fst)) :
    Calls Tryz.prog 43 #[.pointer (some ⟨t, 0, none⟩), .int .i64 i] w fun e w' => e = .returned (.tuple #[.int .u64 0, .bool false]) ∧ w' = w := by
  obtain ⟨fh, N, hm, rfl, rfl⟩ := k
  rw [ab_fst] at hn
  exact S.deadline_no hm i hi hn
theorem TS.len (k : TS w t h f A last) :
    Calls Tryz.prog 45 #[.pointer (some ⟨t, 0, none⟩)] w fun e w' => e = .returned (.int .i64 A.length) ∧ w' = w := by
  obtain ⟨fh, N, hm, rfl, rfl⟩ := k
  have := tlen_any hm
  simpa [ab] using this
end
end Go.Proofs.YtobkanlnnniabaaGreat.S

/-
  The contract of subtree.
-/
namespace Go.Proofs.YtobkanlnnniabaaGreat.S
open Go.RowKit
set_option linter.unusedVariables false
set_option linter.unusedSimpArgs false

section
variable {w : World} {t h : Nat} {fh : List Nat} {N : List Nd} {last : Int}
set_option maxRecDepth 100000 in
set_option maxHeartbeats 1000000 in
theorem subtree_no (k : TM w t h fh N last) (i : Int) (hi : okK i) (hn : i ∉ tids (sh N)) :
    Calls Tryz.prog 69 #[.pointer (some ⟨t, 0, none⟩), .int .i64 i] w fun e w' => e = .returned (.slice none 0 0) ∧ w' = w := by
  have c0 := k.mem.cell
  have HG := Lib.hid (k.get_no i hi hn)
  clear k hn
  go_enter Tryz.func69, Tryz.ntmps69
  go_wp2_with fail
  refine HG.out.mono ?_
  rintro e w' ⟨rfl, rfl⟩
  go_wp2_with fail
  go_ret
  exact ⟨rfl, rfl⟩
def SubR (N : List Tm) (id : Int) (w0 w' : World) (e : Ending) : Prop := ∃ v l, e = .returned v ∧ Sub N id l ∧ OwnN w0 w' v l ∧ Touch [] w0 w'
set_option maxRecDepth 100000 in
set_option maxHeartbeats 2000000 in
theorem subtree_any (k : TM w t h fh N last) (n : Nd) (hn : n ∈ N) :
    Calls Tryz.prog 69 #[.pointer (some ⟨t, 0, none⟩), .int .i64 n.t.id] w fun e w' => SubR (sh N) n.t.id w w' e := by
  have c0 := k.mem.cell
  have HK := Lib.hid k
  have HN := Lib.hid hn
  have hlen : (sh N).length = N.length := by simp [sh]
  have hfew := k.mem.few
  have HLEN := Lib.hid hlen
  have HI := Lib.hid (sh_tids hn)
  clear k hn hlen
  go_enter Tryz.func69, Tryz.ntmps69
  go_wp2_with fail
  refine (HK.out.get n HN.out).mono ?_
  rintro e w' ⟨rfl, q, rfl⟩
  have HO := Lib.hid ((OwnN.one (w.drewN q) n.t.id).rebase (w0 := w) (by simp))
  have HT := Lib.hid (((Touch.refl [] w).drews q).alloc (.cells #[.int .i64 n.t.id] 3))
  go_wp2_with fail
  go_loopw [8, 9] (fun vl vi wr => ∃ (i : Nat) (l : List Int), vi = .int .i64 i ∧ Bfs (sh N) n.t.id l i ∧ OwnN w wr vl l ∧ Touch [] w wr) (fun _ vi _ => N.length - (intOf vi).toNat)
  case atStart => exact ⟨0, _, rfl, Bfs.start HK.out.tree HI.out, HO.out, HT.out⟩
  case round =>
    obtain ⟨i, l, rfl, hb, ho, ht⟩ := hrel
    have HB := Lib.hid hb
    have HO := Lib.hid ho
    have HT := Lib.hid ht
    have hll := hb.few
    rw [HLEN.out] at hll
    obtain ⟨av, cv, rfl, hv1, hv2, hv3⟩ := owns_form ho.row
    have hcv : cv ≤ 9223372036854775807 := by unfold maxLen at hv2; omega
    clear hb ho ht hv2
    by_cases hlt : i < l.length
    · obtain ⟨g, rfl⟩ := hv3 (by omega)
      have hx := List.getElem?_eq_getElem hlt
      generalize l[i] = p at hx
      have HX := Lib.hid hx
      have p0 := owns_cell HO.out.row i (.int .i64 p) (by simp [hx])
      obtain ⟨m, hm, rfl⟩ := sh_at (HB.out.mem p (List.mem_of_getElem? hx))
      have HM := Lib.hid hm
      have hk1 := HK.out.touch HT.out (by simp)
      have HK1 := Lib.hid hk1
      have c1 := hk1.mem.cell
      obtain ⟨m0, m1, m2, m3⟩ := (hk1.mem.nd m hm).cells
      have HS := Lib.hid (HB.out.step HK.out.tree hx)
      have hsf := HS.out.few
      rw [HLEN.out, List.length_append] at hsf
      have q3 : (i : Int) < (l.length : Int) := by omega
      have hwi : IntKind.i64.wrap ((i : Int) + 1) = (i : Int) + 1 := by rw [IntKind.wrap_i64] <;> omega
      clear hx hm hk1 m0 m1 m2
      go_wp2_with fail
      go_quiet ((go_at_call 56; exact Calls.quiet_of ((HK1.out.draws _).get m HM.out)))
      have T2 := (Touch.refl [] wr).drews nq
      go_wp2_with (at_builtin; refine wpList_appN (by rfl) _ _ (by rfl) _ _ l (kids (sh N) m.t.id) (by rfl) (by rfl) (HO.out.touch T2 (by simp)) (Nat.le_trans HT.out.size T2.size) ((HK1.out.draws nq).mem.nd m HM.out).row (by omega) ?_)
      intro v' w3 o3 t3
      have O3 := Lib.hid o3
      have T3 := Lib.hid ((HT.out.trans T2 (by simp)).trans t3 (by intro y hy; right; exact HO.out.new y (by simpa using hy)))
      clear o3 t3 T2 p0 m3 c1
      try simp only [Act.put]
      go_wp2_with fail
      go_roundw
      case rel => exact ⟨i + 1, _, by simp, HS.out, O3.out, T3.out⟩
      case measure => simp [intOf]; omega
    · have hil := HB.out.il
      have hie : i = l.length := by omega
      have HIE := Lib.hid hie
      clear hie
      go_wp2_with fail
      go_ret
      exact ⟨_, l, rfl, by have := HB.out; rwa [HIE.out] at this, HO.out, HT.out⟩
end
end Go.Proofs.YtobkanlnnniabaaGreat.S

/-
  One more timer: what its memory is.
-/
namespace Go.Proofs.YtobkanlnnniabaaGreat.S
open Go.RowKit
set_option linter.unusedVariables false
set_option linter.unusedSimpArgs false

section
variable {w : World} {t h : Nat} {fh : List Nat} {N : List Nd} {last : Int}
theorem TK.congr {K K' : Int → List Int} (k : TK w t h fh N last K) (e : ∀ n ∈ N, K n.t.id = K' n.t.id) : TK w t h fh N last K' :=
  ⟨k.hdr, k.bag, fun n hn => by rw [← e n hn]; exact k.nd n hn, k.rq, k.few, k.tf, k.nt, k.nf, k.nn⟩
/-- The new timer. -/
def newN (last par req due : Int) (x : Value) (b : Nat) : Nd := ⟨⟨last + 1, par, req, due⟩, x, b, .slice none 0 0⟩
theorem TK.pushed (k : TM w t h fh N last) {w' : World} {par req due : Int} {x : Value} {b : Nat} (hb : w.heap[b]? = some (.cells #[.int .i64 par, .int .u64 req, x, .slice none 0 0] 98 (0, 0))) (hn : b ∉ TFoot t fh N) (hx : x.oneCell' = true) (hr : 0 ≤ req ∧ req ≤ maxT) (hl : N.length < 1000)
    (nx : Next w h fh (N.map Nd.itm ++ [⟨last + 1, due, .pointer (some ⟨b, 0, none⟩)⟩]) (last + 1) w') :
    ∃ fh', TK w' t h fh' (N ++ [newN last par req due x b]) (last + 1) (kids (sh N)) ∧ (∀ y ∈ fh', y ∈ fh ∨ w.heap.size ≤ y) ∧ Touch fh w w' := by
  obtain ⟨fh', hb', hf', ht'⟩ := nx
  have hlt := k.mem.lt
  have hbl : b < w.heap.size := (Array.getElem?_eq_some_iff.1 hb).1
  have hbf : b ∉ fh := fun e => hn (TFoot.mem.2 (.inr (.inl e)))
  have hbt : b ≠ t := fun e => hn (TFoot.mem.2 (.inl e))
  have hbn : ∀ n ∈ N, b ∉ n.foot := fun n hn' e => hn (TFoot.mem.2 (.inr (.inr ⟨n, hn', e⟩)))
  have hnf : (newN last par req due x b).foot = [b] := rfl
  have hk0 : kids (sh N) (last + 1) = [] := by
    unfold kids
    rw [List.filter_eq_nil_iff.2]
    · rfl
    · intro s hs
      have h1 := k.tree.up s hs
      have h2 := k.tree.top s hs
      simp only [decide_eq_true_eq]
      omega
  have hold : ∀ y, y < w.heap.size → y ∉ fh → y ∉ fh' := by
    intro y hy hyf e
    rcases hf' y e with e | e
    · exact hyf e
    · omega
  refine ⟨fh', ⟨ht'.at k.mem.hdr k.mem.tf, ?_, ?_, ?_, by simp; omega, ?_, ?_, ?_, ?_⟩, hf', ht'⟩
  · rw [List.map_append]
    exact hb'
  · intro n hn'
    rcases List.mem_append.1 hn' with hn' | hn'
    · exact (k.mem.nd n hn').touch ht' (k.mem.nf n hn')
    · simp at hn'
      subst hn'
      refine ⟨ht'.at hb hbf, ?_, hx, by simp [newN, Value.ownBlock]⟩
      have : (newN last par req due x b).t.id = last + 1 := rfl
      rw [this, hk0]
      exact World.ownsRow_nil _ _ _ _
  · intro n hn'
    rcases List.mem_append.1 hn' with hn' | hn'
    · exact k.mem.rq n hn'
    · simp at hn'
      subst hn'
      exact hr
  · exact hold t (hlt t (TFoot.mem.2 (.inl rfl))) k.mem.tf
  · intro n hn'
    rcases List.mem_append.1 hn' with hn' | hn'
    · exact k.mem.nt n hn'
    · simp at hn'
      subst hn'
      rw [hnf]
      simpa using Ne.symm hbt
  · intro n hn' y hy
    rcases List.mem_append.1 hn' with hn' | hn'
    · exact hold y (hlt y (TFoot.mem.2 (.inr (.inr ⟨n, hn', hy⟩)))) (k.mem.nf n hn' y hy)
    · simp at hn'
      subst hn'
      rw [hnf] at hy
      simp at hy
      subst hy
      exact hold y hbl hbf
  · rw [List.pairwise_append]
    refine ⟨k.mem.nn, by simp, ?_⟩
    intro a ha c hc y hy
    simp at hc
    subst hc
    rw [hnf]
    simp
    rintro rfl
    exact hbn a ha hy
theorem sh_snoc (n : Nd) : sh (N ++ [n]) = sh N ++ [n.t] := by simp [sh]
theorem ab_snoc (n : Nd) : ab (N ++ [n]) = ab N ++ [(n.t, n.x)] := by simp [ab]
theorem ab_setV (id : Int) (v : Value) : ab (N.map (setV id v)) = ab N := by
  unfold ab
  rw [List.map_map]
  apply List.map_congr_left
  intro n _
  simp [(setV_keep id v n).1, (setV_keep id v n).2.2.2]
/-- A root timer has been pushed. -/
theorem TM.root {w0 : World} (k : TM w0 t h fh N last) {w' : World} {fh' : List Nat} {req : Int} {x : Value} {b : Nat} (hlo : 0 ≤ last) (m : TK w' t h fh' (N ++ [newN last 0 req (min req (lim (sh N) 0)) x b]) (last + 1) (kids (sh N))) :
    TM w' t h fh' (N ++ [newN last 0 req (min req (lim (sh N) 0)) x b]) (last + 1) := by
  have ht : Tree (sh (N ++ [newN last 0 req (min req (lim (sh N) 0)) x b])) (last + 1) := by
    rw [sh_snoc]
    exact k.tree.snoc rfl hlo (.inl rfl)
  refine ⟨m.congr ?_, ht, ?_⟩
  · intro n hn
    rw [sh_snoc, kids_snoc, if_neg]
    have h1 := ht.top n.t (sh_mem hn)
    show (0 : Int) ≠ n.t.id
    omega
  · rw [sh_snoc]
    exact due_snoc k.tree rfl hlo (.inl rfl) rfl k.due
/-- A child has been pushed and told to its parent p. -/
theorem TM.child {w0 : World} (k : TM w0 t h fh N last) {w1 w' : World} {fh' : List Nat} {req : Int} {x v' : Value} {b : Nat} {p : Nd} (hp : p ∈ N) (hlo : 0 ≤ last) (m : TK w1 t h fh' (N ++ [newN last p.t.id req (min req (lim (sh N) p.t.id)) x b]) (last + 1) (kids (sh N)))
    (ht : Touch p.foot w1 w') (hh : w'.heap[p.b]? = some (.cells #[.int .i64 p.t.par, .int .u64 p.t.req, p.x, v'] 98 (0, 0))) (hr : w'.ownsRow 0 3 1 v' (kids (sh N) p.t.id ++ [last + 1]).length ((kids (sh N) p.t.id ++ [last + 1]).map (Value.int .i64)))
    (hn : v'.ownBlock = p.v.ownBlock ∨ v'.ownBlock = none ∨ ∃ g, v'.ownBlock = some g ∧ w1.heap.size ≤ g) :
    TM w' t h fh' ((N ++ [newN last p.t.id req (min req (lim (sh N) p.t.id)) x b]).map (setV p.t.id v')) (last + 1) ∧ ∀ y ∈ TFoot t fh' ((N ++ [newN last p.t.id req (min req (lim (sh N) p.t.id)) x b]).map (setV p.t.id v')), y ∈ TFoot t fh' (N ++ [newN last p.t.id req (min req (lim (sh N) p.t.id)) x b]) ∨ w1.heap.size ≤ y := by
  have hpt : p.t.id ∈ tids (sh N) := sh_tids hp
  have htr : Tree (sh (N ++ [newN last p.t.id req (min req (lim (sh N) p.t.id)) x b])) (last + 1) := by
    rw [sh_snoc]
    exact k.tree.snoc rfl hlo (.inr hpt)
  obtain ⟨m2, f2⟩ := m.kids_set htr.nodup (List.mem_append.2 (.inl hp)) ht hh hr hn
  refine ⟨⟨m2.congr ?_, by rw [sh_setV]; exact htr, ?_⟩, f2⟩
  · intro n hn
    rw [sh_setV, sh_snoc, kids_snoc]
    unfold putK
    by_cases e : n.t.id = p.t.id
    · have e2 : (newN last p.t.id req (min req (lim (sh N) p.t.id)) x b).t.par = p.t.id := rfl
      rw [if_pos e, e, if_pos e2]
      rfl
    · rw [if_neg e, if_neg]
      exact fun h => e h.symm
  · rw [sh_setV, sh_snoc]
    exact due_snoc k.tree rfl hlo (.inr hpt) rfl k.due
theorem TM.root_next {W w4 : World} {fh' : List Nat} {req : Int} {x : Value} {b : Nat} (k : TM w t h fh N last) (hlo : 0 ≤ last) (T0 : Touch [] w W) (hb : w.heap.size ≤ b)
    (m : TK w4 t h fh' (N ++ [newN last 0 req (min req (lim (sh N) 0)) x b]) (last + 1) (kids (sh N))) (f4 : ∀ y ∈ fh', y ∈ fh ∨ W.heap.size ≤ y) (t4 : Touch fh W w4) :
    TNext w t h (TFoot t fh N) (ab N ++ [(⟨last + 1, 0, req, min req (lim (sh N) 0)⟩, x)]) (last + 1) w4 := by
  refine ⟨_, ⟨fh', _, k.root hlo m, ab_snoc _, rfl⟩, ?_, ?_⟩
  · intro y hy
    rcases TFoot.mem.1 hy with rfl | hy | ⟨n, hn, hy⟩
    · exact .inl (TFoot.mem.2 (.inl rfl))
    · rcases f4 y hy with e | e
      · exact .inl (TFoot.mem.2 (.inr (.inl e)))
      · exact .inr (Nat.le_trans T0.size e)
    · rcases List.mem_append.1 hn with hn | hn
      · exact .inl (TFoot.mem.2 (.inr (.inr ⟨n, hn, hy⟩)))
      · simp at hn
        subst hn
        simp [newN, Nd.foot, Value.ownBlock] at hy
        subst hy
        exact .inr hb
  · exact (T0.mono (by simp)).trans t4 (fun y hy => .inl (TFoot.mem.2 (.inr (.inl hy))))
theorem TM.child_next {W w1 w' : World} {fh' : List Nat} {req : Int} {x v' : Value} {b : Nat} {p : Nd} (k : TM w t h fh N last) (hp : p ∈ N) (hlo : 0 ≤ last) (T0 : Touch [] w W) (hb : w.heap.size ≤ b)
    (m : TK w1 t h fh' (N ++ [newN last p.t.id req (min req (lim (sh N) p.t.id)) x b]) (last + 1) (kids (sh N))) (f4 : ∀ y ∈ fh', y ∈ fh ∨ W.heap.size ≤ y) (t4 : Touch fh W w1)
    (ht : Touch p.foot w1 w') (hh : w'.heap[p.b]? = some (.cells #[.int .i64 p.t.par, .int .u64 p.t.req, p.x, v'] 98 (0, 0))) (hr : w'.ownsRow 0 3 1 v' (kids (sh N) p.t.id ++ [last + 1]).length ((kids (sh N) p.t.id ++ [last + 1]).map (Value.int .i64)))
    (hn : v'.ownBlock = p.v.ownBlock ∨ v'.ownBlock = none ∨ ∃ g, v'.ownBlock = some g ∧ w1.heap.size ≤ g) :
    TNext w t h (TFoot t fh N) (ab N ++ [(⟨last + 1, p.t.id, req, min req (lim (sh N) p.t.id)⟩, x)]) (last + 1) w' := by
  obtain ⟨m2, f2⟩ := k.child hp hlo m ht hh hr hn
  refine ⟨_, ⟨fh', _, m2, by rw [ab_setV]; exact ab_snoc _, rfl⟩, ?_, ?_⟩
  · intro y hy
    rcases f2 y hy with hy | hy
    · rcases TFoot.mem.1 hy with rfl | hy | ⟨n, hn, hy⟩
      · exact .inl (TFoot.mem.2 (.inl rfl))
      · rcases f4 y hy with e | e
        · exact .inl (TFoot.mem.2 (.inr (.inl e)))
        · exact .inr (Nat.le_trans T0.size e)
      · rcases List.mem_append.1 hn with hn | hn
        · exact .inl (TFoot.mem.2 (.inr (.inr ⟨n, hn, hy⟩)))
        · simp at hn
          subst hn
          simp [newN, Nd.foot, Value.ownBlock] at hy
          subst hy
          exact .inr hb
    · exact .inr (Nat.le_trans T0.size (Nat.le_trans t4.size hy))
  · refine ((T0.mono (by simp)).trans t4 (fun y hy => .inl (TFoot.mem.2 (.inr (.inl hy))))).trans ht (fun y hy => .inl (TFoot.mem.2 (.inr (.inr ⟨p, hp, hy⟩))))
end
end Go.Proofs.YtobkanlnnniabaaGreat.S

/-
  The contract of Start.
-/
namespace Go.Proofs.YtobkanlnnniabaaGreat.S
open Go.RowKit
set_option linter.unusedVariables false
set_option linter.unusedSimpArgs false

theorem TM.u64 {w : World} {t h : Nat} {fh : List Nat} {N : List Nd} {last : Int} (k : TM w t h fh N last) : True := trivial
section
variable {w : World} {t h : Nat} {fh : List Nat} {N : List Nd} {last : Int}
set_option maxRecDepth 100000 in
set_option maxHeartbeats 2000000 in
theorem start_root (k : TM w t h fh N last) (due : Int) (x : Value) (hxo : x.oneCell' = true) (hR : 0 ≤ due ∧ due ≤ maxT) (hl : last < 1000) (hfew : N.length < 1000) :
    Calls Tryz.prog 42 #[.pointer (some ⟨t, 0, none⟩), .int .i64 0, .int .u64 due, x] w fun e w' => e = .returned (.tuple #[.int .i64 (last + 1), .bool true]) ∧ TNext w t h (TFoot t fh N) (ab N ++ [(⟨last + 1, 0, due, min due (lim (sh N) 0)⟩, x)]) (last + 1) w' := by
  have c0 := k.mem.cell
  have htf := k.mem.tf
  have hlo := k.mem.bag.lo.1
  have HG := Lib.hid (k.get_no 0 (okK_of (by omega) (by omega)) k.tree.zero)
  have HK := Lib.hid k
  have HR := Lib.hid hR
  have HD := Lib.hid hR.2
  have HP := Lib.hid (show okK 0 from okK_of (by omega) (by omega))
  have hnb : w.heap.size ∉ TFoot t fh N := fun e => Nat.lt_irrefl _ (k.mem.lt _ e)
  have hxc : x.cells = #[x] := by
    cases x <;> first | rfl | simp [Value.oneCell'] at hxo
  simp only [Value.cells] at hxc
  clear k hR
  go_enter Tryz.func42, Tryz.ntmps42
  go_wp2_with fail
  refine HG.out.mono ?_
  rintro e w' ⟨rfl, hw⟩
  obtain rfl : w = w' := hw.symm
  clear hw
  go_wp2_with fail
  have T0 := ((Touch.refl [] w).alloc (.cells #[.int .i64 0, .int .u64 due, x, .slice none 0 0] 98)).drew
  have HW0 := HK.out.touch T0 (by simp)
  have hb0 := ((Touch.refl [] (w.alloc (.cells #[.int .i64 0, .int .u64 due, x, .slice none 0 0] 98))).drew).at (heap_alloc_new w (.cells #[.int .i64 0, .int .u64 due, x, .slice none 0 0] 98)) (by simp)
  obtain ⟨W, hW⟩ : ∃ W, W = (w.alloc (.cells #[.int .i64 0, .int .u64 due, x, .slice none 0 0] 98)).drew := ⟨_, rfl⟩
  refine wp_region_held (S := Touch fh W) (by kernel_rfl) ?_
  change wpAnyH _ _ _ _ _ _ _ _ (w.alloc (.cells #[.int .i64 0, .int .u64 due, x, .slice none 0 0] 98)).drew
  rw [← hW] at T0 HW0 hb0 ⊢
  clear hW
  have HW := Lib.hid HW0
  have HT0 := Lib.hid T0
  have c0 := HW0.mem.cell
  clear HW0 T0
  generalize hnbe : w.heap.size = nb at *
  have hnz : w.heap.size ≤ nb := Nat.le_of_eq hnbe
  have hb := hb0
  have b0 : W.cell? ⟨nb, 0, none⟩ = some (.int .i64 0) := by simp [World.cell?, hb]
  clear hb0 hnbe
  have hS := Touch.refl fh W
  refine wpAnyH_take (i := 0) (oi := { dst := some 36, op := Op.move (Operand.tmp 0), type := 72, pos := "timer.go:43", after := #[], guard := none }) (v := .pointer (some ⟨t, 0, none⟩)) rfl (by kernel_rfl) (by kernel_rfl) (by kernel_rfl) (fun _ _ _ h => h) (Or.inl ⟨by rfl, fun w' hw => by go_simp⟩) hS ?_
  try simp only [Act.put, List.setIfInBounds_toArray, List.set_cons_zero, List.set_cons_succ]
  refine wpAnyH_take (i := 1) (oi := { dst := some 37, op := Op.nilCheck (Operand.tmp 36), type := 0, pos := "timer.go:43", after := #[{ on := 0, ground := Ground.data }], guard := none }) (v := .pointer (some ⟨t, 0, none⟩)) rfl (by kernel_rfl) (by kernel_rfl) (by kernel_rfl) (fun _ _ _ h => h) (Or.inl ⟨by rfl, fun w' hw => by go_simp⟩) hS ?_
  try simp only [Act.put, List.setIfInBounds_toArray, List.set_cons_zero, List.set_cons_succ]
  refine wpAnyH_take (i := 2) (oi := { dst := some 38, op := Op.fieldAddr 94 (Operand.tmp 37) 0, type := 0, pos := "timer.go:43", after := #[{ on := 1, ground := Ground.data }], guard := none }) (v := .pointer (some ⟨t, 0, none⟩)) rfl (by kernel_rfl) (by kernel_rfl) (by kernel_rfl) (fun _ _ _ h => h) (Or.inl ⟨by rfl, fun w' hw => by go_simp⟩) hS ?_
  try simp only [Act.put, List.setIfInBounds_toArray, List.set_cons_zero, List.set_cons_succ]
  refine wpAnyH_take (i := 3) (oi := { dst := some 39, op := Op.load 90 (Operand.tmp 38), type := 90, pos := "timer.go:43", after := #[{ on := 2, ground := Ground.data }], guard := none }) (v := .pointer (some ⟨h, 0, none⟩)) rfl (by kernel_rfl) (by kernel_rfl) (by kernel_rfl) (fun _ _ _ h => h) (Or.inl ⟨by rfl, fun w' hw => by (have q := hw.cell c0 htf; go_simp)⟩) hS ?_
  try simp only [Act.put, List.setIfInBounds_toArray, List.set_cons_zero, List.set_cons_succ]
  refine wpAnyH_take (i := 4) (oi := { dst := some 40, op := Op.move (Operand.tmp 2), type := 31, pos := "timer.go:43", after := #[], guard := none }) (v := .int .u64 due) rfl (by kernel_rfl) (by kernel_rfl) (by kernel_rfl) (fun _ _ _ h => h) (Or.inl ⟨by rfl, fun w' hw => by go_simp⟩) hS ?_
  try simp only [Act.put, List.setIfInBounds_toArray, List.set_cons_zero, List.set_cons_succ]
  refine wpAnyH_take (i := 5) (oi := { dst := some 41, op := Op.move (Operand.tmp 0), type := 72, pos := "timer.go:43", after := #[], guard := none }) (v := .pointer (some ⟨t, 0, none⟩)) rfl (by kernel_rfl) (by kernel_rfl) (by kernel_rfl) (fun _ _ _ h => h) (Or.inl ⟨by rfl, fun w' hw => by go_simp⟩) hS ?_
  try simp only [Act.put, List.setIfInBounds_toArray, List.set_cons_zero, List.set_cons_succ]
  refine wpAnyH_take (i := 6) (oi := { dst := some 42, op := Op.move (Operand.tmp 13), type := 92, pos := "timer.go:43", after := #[], guard := none }) (v := .pointer (some ⟨nb, 0, none⟩)) rfl (by kernel_rfl) (by kernel_rfl) (by kernel_rfl) (fun _ _ _ h => h) (Or.inl ⟨by rfl, fun w' hw => by go_simp⟩) hS ?_
  try simp only [Act.put, List.setIfInBounds_toArray, List.set_cons_zero, List.set_cons_succ]
  refine wpAnyH_take (i := 10) (oi := { dst := some 46, op := Op.move (Operand.tmp 13), type := 92, pos := "timer.go:43", after := #[], guard := none }) (v := .pointer (some ⟨nb, 0, none⟩)) rfl (by kernel_rfl) (by kernel_rfl) (by kernel_rfl) (fun _ _ _ h => h) (Or.inl ⟨by rfl, fun w' hw => by go_simp⟩) hS ?_
  try simp only [Act.put, List.setIfInBounds_toArray, List.set_cons_zero, List.set_cons_succ]
  refine wpAnyH_ready (rs := [7]) (by kernel_rfl) (by simp) ?_
  refine AllReadyH.cons (o := { dst := some 43, op := Op.call { callee := Callee.value (Operand.func 58), args := #[Operand.tmp 41, Operand.tmp 42], argTypes := #[72, 92] }, type := 31, pos := "timer.go:43", after := #[{ on := 5, ground := Ground.data }, { on := 6, ground := Ground.data }], guard := none }) rfl (fun K hK => ?_) AllReadyH.nil
  go_simp
  refine (limit_any HW.out nb 0 HP.out b0).mono ?_
  rintro e w' ⟨rfl, q2, rfl⟩
  have hS2 := hS.drews q2
  have HW2 := Lib.hid (HW.out.draws q2)
  have hb2 := (((Touch.refl [] W).drews q2).at hb (by simp))
  refine hK.out _ _ hS2 (fun _ => ?_)
  clear hK K hS HW hb b0
  have hS := hS2
  clear hS2
  generalize W.drewN q2 = W2 at *
  try simp only [Act.put, List.setIfInBounds_toArray, List.set_cons_zero, List.set_cons_succ]
  refine wpAnyH_ready (rs := [8]) (by kernel_rfl) (by simp) ?_
  refine AllReadyH.cons (o := { dst := some 44, op := Op.buildSlice 83 2 #[(0, Operand.tmp 40), (1, Operand.tmp 43)], type := 83, pos := "timer.go:43", after := #[{ on := 4, ground := Ground.data }, { on := 7, ground := Ground.data }], guard := none }) rfl (fun K hK => ?_) AllReadyH.nil
  go_simp
  have hS2 := hS.alloc (.cells #[.int .u64 due, .int .u64 (lim (sh N) 0)] 31)
  have gC := heap_alloc_new W2 (.cells #[.int .u64 due, .int .u64 (lim (sh N) 0)] 31)
  have tC := (Touch.refl [] W2).alloc (.cells #[.int .u64 due, .int .u64 (lim (sh N) 0)] 31)
  have HW3 := Lib.hid (HW2.out.touch tC (by simp))
  have hb3 := tC.at hb2 (by simp)
  refine hK.out _ _ hS2 (fun _ => ?_)
  clear hK K hS hb2 HW2 tC
  have hS := hS2
  clear hS2
  generalize W2.alloc (.cells #[.int .u64 due, .int .u64 (lim (sh N) 0)] 31) = W3 at *
  generalize W2.heap.size = g at *
  obtain ⟨d0, d1⟩ := cells_two gC
  clear gC
  try simp only [Act.put, List.setIfInBounds_toArray, List.set_cons_zero, List.set_cons_succ]
  refine wpAnyH_ready (rs := [9]) (by kernel_rfl) (by simp) ?_
  refine AllReadyH.cons (o := { dst := some 45, op := Op.call { callee := Callee.value (Operand.func 21), args := #[Operand.tmp 44], argTypes := #[83] }, type := 31, pos := "timer.go:43", after := #[{ on := 8, ground := Ground.data }, { on := 7, ground := Ground.chain }], guard := none }) rfl (fun K hK => ?_) AllReadyH.nil
  go_simp
  refine (min_two due (lim (sh N) 0) g _ HD.out d0 d1).mono ?_
  rintro e w' ⟨rfl, rfl⟩
  refine hK.out _ _ hS (fun _ => ?_)
  clear hK K d0 d1
  try simp only [Act.put, List.setIfInBounds_toArray, List.set_cons_zero, List.set_cons_succ]
  refine wpAnyH_ready (rs := [11]) (by kernel_rfl) (by simp) ?_
  refine AllReadyH.cons (o := { dst := some 47, op := Op.call { callee := Callee.value (Operand.func 57), args := #[Operand.tmp 39, Operand.tmp 45, Operand.tmp 46], argTypes := #[90, 31, 92] }, type := 3, pos := "timer.go:43", after := #[{ on := 3, ground := Ground.data }, { on := 9, ground := Ground.data }, { on := 10, ground := Ground.data }, { on := 9, ground := Ground.chain }], guard := none }) rfl (fun K hK => ?_) AllReadyH.nil
  go_simp
  refine (HW3.out.mem.bag.push (min due (lim (sh N) 0)) (.pointer (some ⟨nb, 0, none⟩)) rfl (by omega) (by simpa using hfew)).mono ?_
  rintro e w4 ⟨rfl, nx⟩
  have hS0 := hS
  obtain ⟨fh', m4, f4, t4⟩ := TK.pushed HW3.out hb3 hnb hxo HR.out hfew nx
  have hS2 := hS.trans t4 (fun y hy => .inl hy)
  refine hK.out _ _ hS2 (fun _ => ?_)
  clear hK K hS nx t4 hb3 HW3
  have M4 := Lib.hid m4
  have F4 := Lib.hid (show ∀ y ∈ fh', y ∈ fh ∨ W.heap.size ≤ y from fun y hy => by rcases f4 y hy with e | e; exact .inl e; exact .inr (Nat.le_trans hS0.size e))
  have hS := hS2
  clear hS2 m4 f4
  try simp only [Act.put, List.setIfInBounds_toArray, List.set_cons_zero, List.set_cons_succ]
  refine wpAnyH_take (i := 12) (oi := { dst := some 14, op := Op.assign (Operand.tmp 47), type := 3, pos := "timer.go:43", after := #[{ on := 11, ground := Ground.data }, { on := 11, ground := Ground.chain }, { on := 0, ground := Ground.phase }, { on := 1, ground := Ground.phase }, { on := 2, ground := Ground.phase }, { on := 3, ground := Ground.phase }, { on := 4, ground := Ground.phase }, { on := 5, ground := Ground.phase }, { on := 6, ground := Ground.phase }, { on := 7, ground := Ground.phase }, { on := 8, ground := Ground.phase }, { on := 9, ground := Ground.phase }, { on := 10, ground := Ground.phase }, { on := 11, ground := Ground.phase }], guard := none }) (v := .int .i64 (last + 1)) rfl (by kernel_rfl) (by kernel_rfl) (by kernel_rfl) (fun _ _ _ h => h) (Or.inl ⟨by rfl, fun w' hw => by go_simp⟩) hS ?_
  try simp only [Act.put, List.setIfInBounds_toArray, List.set_cons_zero, List.set_cons_succ]
  refine wpAnyH_done (by kernel_rfl) ?_ _
  try simp only [Act.put, List.setIfInBounds_toArray, List.set_cons_zero, List.set_cons_succ]
  go_wp2_with fail
  go_ret2
  exact ⟨rfl, HK.out.root_next hlo HT0.out hnz M4.out F4.out hS⟩
set_option maxRecDepth 100000 in
set_option maxHeartbeats 2000000 in
theorem start_no (k : TM w t h fh N last) (par due : Int) (x : Value) (hp : okK par) (h0 : par ≠ 0) (hn : par ∉ tids (sh N)) :
    Calls Tryz.prog 42 #[.pointer (some ⟨t, 0, none⟩), .int .i64 par, .int .u64 due, x] w fun e w' => e = .returned (.tuple #[.int .i64 0, .bool false]) ∧ w' = w := by
  have c0 := k.mem.cell
  have HG := Lib.hid (k.get_no par hp hn)
  have q1 : (par != 0) = true := by simpa using h0
  have q2 : (par == 0) = false := by simpa using h0
  clear k hn
  go_enter Tryz.func42, Tryz.ntmps42
  go_wp2_with fail
  refine HG.out.mono ?_
  rintro e w' ⟨rfl, hw⟩
  obtain rfl : w = w' := hw.symm
  clear hw
  go_wp2_with fail
  go_ret2
  exact ⟨rfl, rfl⟩
set_option maxRecDepth 100000 in
set_option maxHeartbeats 2000000 in
theorem start_child (k : TM w t h fh N last) (p : Nd) (hp : p ∈ N) (due : Int) (x : Value) (hxo : x.oneCell' = true) (hR : 0 ≤ due ∧ due ≤ maxT) (hl : last < 1000) (hfew : N.length < 1000) :
    Calls Tryz.prog 42 #[.pointer (some ⟨t, 0, none⟩), .int .i64 p.t.id, .int .u64 due, x] w fun e w' => e = .returned (.tuple #[.int .i64 (last + 1), .bool true]) ∧ TNext w t h (TFoot t fh N) (ab N ++ [(⟨last + 1, p.t.id, due, min due (lim (sh N) p.t.id)⟩, x)]) (last + 1) w' := by
  have c0 := k.mem.cell
  have htf := k.mem.tf
  have hlo := k.mem.bag.lo.1
  have HG := Lib.hid (k.get p hp)
  have HK0 := Lib.hid k
  have HPN := Lib.hid hp
  have HR := Lib.hid hR
  have HD := Lib.hid hR.2
  have HP := Lib.hid (k.oki (sh_tids hp)).1
  have hxc : x.cells = #[x] := by
    cases x <;> first | rfl | simp [Value.oneCell'] at hxo
  simp only [Value.cells] at hxc
  clear k hR hp
  go_enter Tryz.func42, Tryz.ntmps42
  go_wp2_with fail
  refine HG.out.mono ?_
  rintro e w' ⟨rfl, q, rfl⟩
  have HK := Lib.hid (HK0.out.draws q)
  have hnb : (w.drewN q).heap.size ∉ TFoot t fh N := fun e => Nat.lt_irrefl _ (HK.out.mem.lt _ e)
  have TQ := Lib.hid ((Touch.refl [] w).drews q)
  clear HG
  generalize w.drewN q = wq at *
  have c0 := HK.out.mem.cell
  go_wp2_with fail
  have T0 := ((Touch.refl [] wq).alloc (.cells #[.int .i64 p.t.id, .int .u64 due, x, .slice none 0 0] 98)).drew
  have HW0 := HK.out.touch T0 (by simp)
  have hb0 := ((Touch.refl [] (wq.alloc (.cells #[.int .i64 p.t.id, .int .u64 due, x, .slice none 0 0] 98))).drew).at (heap_alloc_new wq (.cells #[.int .i64 p.t.id, .int .u64 due, x, .slice none 0 0] 98)) (by simp)
  obtain ⟨W, hW⟩ : ∃ W, W = (wq.alloc (.cells #[.int .i64 p.t.id, .int .u64 due, x, .slice none 0 0] 98)).drew := ⟨_, rfl⟩
  refine wp_region_held (S := Touch fh W) (by kernel_rfl) ?_
  change wpAnyH _ _ _ _ _ _ _ _ (wq.alloc (.cells #[.int .i64 p.t.id, .int .u64 due, x, .slice none 0 0] 98)).drew
  rw [← hW] at T0 HW0 hb0 ⊢
  clear hW
  have HW := Lib.hid HW0
  have HT0 := Lib.hid (TQ.out.trans T0 (by simp))
  have c0 := HW0.mem.cell
  clear HW0 T0
  generalize hnbe : wq.heap.size = nb at *
  have hnz : w.heap.size ≤ nb := Nat.le_trans TQ.out.size (Nat.le_of_eq hnbe)
  have hb := hb0
  have b0 : W.cell? ⟨nb, 0, none⟩ = some (.int .i64 p.t.id) := by simp [World.cell?, hb]
  clear hb0 hnbe
  have hS := Touch.refl fh W
  refine wpAnyH_take (i := 0) (oi := { dst := some 36, op := Op.move (Operand.tmp 0), type := 72, pos := "timer.go:43", after := #[], guard := none }) (v := .pointer (some ⟨t, 0, none⟩)) rfl (by kernel_rfl) (by kernel_rfl) (by kernel_rfl) (fun _ _ _ h => h) (Or.inl ⟨by rfl, fun w' hw => by go_simp⟩) hS ?_
  try simp only [Act.put, List.setIfInBounds_toArray, List.set_cons_zero, List.set_cons_succ]
  refine wpAnyH_take (i := 1) (oi := { dst := some 37, op := Op.nilCheck (Operand.tmp 36), type := 0, pos := "timer.go:43", after := #[{ on := 0, ground := Ground.data }], guard := none }) (v := .pointer (some ⟨t, 0, none⟩)) rfl (by kernel_rfl) (by kernel_rfl) (by kernel_rfl) (fun _ _ _ h => h) (Or.inl ⟨by rfl, fun w' hw => by go_simp⟩) hS ?_
  try simp only [Act.put, List.setIfInBounds_toArray, List.set_cons_zero, List.set_cons_succ]
  refine wpAnyH_take (i := 2) (oi := { dst := some 38, op := Op.fieldAddr 94 (Operand.tmp 37) 0, type := 0, pos := "timer.go:43", after := #[{ on := 1, ground := Ground.data }], guard := none }) (v := .pointer (some ⟨t, 0, none⟩)) rfl (by kernel_rfl) (by kernel_rfl) (by kernel_rfl) (fun _ _ _ h => h) (Or.inl ⟨by rfl, fun w' hw => by go_simp⟩) hS ?_
  try simp only [Act.put, List.setIfInBounds_toArray, List.set_cons_zero, List.set_cons_succ]
  refine wpAnyH_take (i := 3) (oi := { dst := some 39, op := Op.load 90 (Operand.tmp 38), type := 90, pos := "timer.go:43", after := #[{ on := 2, ground := Ground.data }], guard := none }) (v := .pointer (some ⟨h, 0, none⟩)) rfl (by kernel_rfl) (by kernel_rfl) (by kernel_rfl) (fun _ _ _ h => h) (Or.inl ⟨by rfl, fun w' hw => by (have q := hw.cell c0 htf; go_simp)⟩) hS ?_
  try simp only [Act.put, List.setIfInBounds_toArray, List.set_cons_zero, List.set_cons_succ]
  refine wpAnyH_take (i := 4) (oi := { dst := some 40, op := Op.move (Operand.tmp 2), type := 31, pos := "timer.go:43", after := #[], guard := none }) (v := .int .u64 due) rfl (by kernel_rfl) (by kernel_rfl) (by kernel_rfl) (fun _ _ _ h => h) (Or.inl ⟨by rfl, fun w' hw => by go_simp⟩) hS ?_
  try simp only [Act.put, List.setIfInBounds_toArray, List.set_cons_zero, List.set_cons_succ]
  refine wpAnyH_take (i := 5) (oi := { dst := some 41, op := Op.move (Operand.tmp 0), type := 72, pos := "timer.go:43", after := #[], guard := none }) (v := .pointer (some ⟨t, 0, none⟩)) rfl (by kernel_rfl) (by kernel_rfl) (by kernel_rfl) (fun _ _ _ h => h) (Or.inl ⟨by rfl, fun w' hw => by go_simp⟩) hS ?_
  try simp only [Act.put, List.setIfInBounds_toArray, List.set_cons_zero, List.set_cons_succ]
  refine wpAnyH_take (i := 6) (oi := { dst := some 42, op := Op.move (Operand.tmp 13), type := 92, pos := "timer.go:43", after := #[], guard := none }) (v := .pointer (some ⟨nb, 0, none⟩)) rfl (by kernel_rfl) (by kernel_rfl) (by kernel_rfl) (fun _ _ _ h => h) (Or.inl ⟨by rfl, fun w' hw => by go_simp⟩) hS ?_
  try simp only [Act.put, List.setIfInBounds_toArray, List.set_cons_zero, List.set_cons_succ]
  refine wpAnyH_take (i := 10) (oi := { dst := some 46, op := Op.move (Operand.tmp 13), type := 92, pos := "timer.go:43", after := #[], guard := none }) (v := .pointer (some ⟨nb, 0, none⟩)) rfl (by kernel_rfl) (by kernel_rfl) (by kernel_rfl) (fun _ _ _ h => h) (Or.inl ⟨by rfl, fun w' hw => by go_simp⟩) hS ?_
  try simp only [Act.put, List.setIfInBounds_toArray, List.set_cons_zero, List.set_cons_succ]
  refine wpAnyH_ready (rs := [7]) (by kernel_rfl) (by simp) ?_
  refine AllReadyH.cons (o := { dst := some 43, op := Op.call { callee := Callee.value (Operand.func 58), args := #[Operand.tmp 41, Operand.tmp 42], argTypes := #[72, 92] }, type := 31, pos := "timer.go:43", after := #[{ on := 5, ground := Ground.data }, { on := 6, ground := Ground.data }], guard := none }) rfl (fun K hK => ?_) AllReadyH.nil
  go_simp
  refine (limit_any HW.out nb p.t.id HP.out b0).mono ?_
  rintro e w' ⟨rfl, q2, rfl⟩
  have hS2 := hS.drews q2
  have HW2 := Lib.hid (HW.out.draws q2)
  have hb2 := (((Touch.refl [] W).drews q2).at hb (by simp))
  refine hK.out _ _ hS2 (fun _ => ?_)
  clear hK K hS HW hb b0
  have hS := hS2
  clear hS2
  generalize W.drewN q2 = W2 at *
  try simp only [Act.put, List.setIfInBounds_toArray, List.set_cons_zero, List.set_cons_succ]
  refine wpAnyH_ready (rs := [8]) (by kernel_rfl) (by simp) ?_
  refine AllReadyH.cons (o := { dst := some 44, op := Op.buildSlice 83 2 #[(0, Operand.tmp 40), (1, Operand.tmp 43)], type := 83, pos := "timer.go:43", after := #[{ on := 4, ground := Ground.data }, { on := 7, ground := Ground.data }], guard := none }) rfl (fun K hK => ?_) AllReadyH.nil
  go_simp
  have hS2 := hS.alloc (.cells #[.int .u64 due, .int .u64 (lim (sh N) p.t.id)] 31)
  have gC := heap_alloc_new W2 (.cells #[.int .u64 due, .int .u64 (lim (sh N) p.t.id)] 31)
  have tC := (Touch.refl [] W2).alloc (.cells #[.int .u64 due, .int .u64 (lim (sh N) p.t.id)] 31)
  have HW3 := Lib.hid (HW2.out.touch tC (by simp))
  have hb3 := tC.at hb2 (by simp)
  refine hK.out _ _ hS2 (fun _ => ?_)
  clear hK K hS hb2 HW2 tC
  have hS := hS2
  clear hS2
  generalize W2.alloc (.cells #[.int .u64 due, .int .u64 (lim (sh N) p.t.id)] 31) = W3 at *
  generalize W2.heap.size = g at *
  obtain ⟨d0, d1⟩ := cells_two gC
  clear gC
  try simp only [Act.put, List.setIfInBounds_toArray, List.set_cons_zero, List.set_cons_succ]
  refine wpAnyH_ready (rs := [9]) (by kernel_rfl) (by simp) ?_
  refine AllReadyH.cons (o := { dst := some 45, op := Op.call { callee := Callee.value (Operand.func 21), args := #[Operand.tmp 44], argTypes := #[83] }, type := 31, pos := "timer.go:43", after := #[{ on := 8, ground := Ground.data }, { on := 7, ground := Ground.chain }], guard := none }) rfl (fun K hK => ?_) AllReadyH.nil
  go_simp
  refine (min_two due (lim (sh N) p.t.id) g _ HD.out d0 d1).mono ?_
  rintro e w' ⟨rfl, rfl⟩
  refine hK.out _ _ hS (fun _ => ?_)
  clear hK K d0 d1
  try simp only [Act.put, List.setIfInBounds_toArray, List.set_cons_zero, List.set_cons_succ]
  refine wpAnyH_ready (rs := [11]) (by kernel_rfl) (by simp) ?_
  refine AllReadyH.cons (o := { dst := some 47, op := Op.call { callee := Callee.value (Operand.func 57), args := #[Operand.tmp 39, Operand.tmp 45, Operand.tmp 46], argTypes := #[90, 31, 92] }, type := 3, pos := "timer.go:43", after := #[{ on := 3, ground := Ground.data }, { on := 9, ground := Ground.data }, { on := 10, ground := Ground.data }, { on := 9, ground := Ground.chain }], guard := none }) rfl (fun K hK => ?_) AllReadyH.nil
  go_simp
  refine (HW3.out.mem.bag.push (min due (lim (sh N) p.t.id)) (.pointer (some ⟨nb, 0, none⟩)) rfl (by omega) (by simpa using hfew)).mono ?_
  rintro e w4 ⟨rfl, nx⟩
  have hS0 := hS
  obtain ⟨fh', m4, f4, t4⟩ := TK.pushed HW3.out hb3 hnb hxo HR.out hfew nx
  have hS2 := hS.trans t4 (fun y hy => .inl hy)
  refine hK.out _ _ hS2 (fun _ => ?_)
  clear hK K hS nx t4 hb3 HW3
  have M4 := Lib.hid m4
  have F4 := Lib.hid (show ∀ y ∈ fh', y ∈ fh ∨ W.heap.size ≤ y from fun y hy => by rcases f4 y hy with e | e; exact .inl e; exact .inr (Nat.le_trans hS0.size e))
  have hS := hS2
  clear hS2 m4 f4
  try simp only [Act.put, List.setIfInBounds_toArray, List.set_cons_zero, List.set_cons_succ]
  refine wpAnyH_take (i := 12) (oi := { dst := some 14, op := Op.assign (Operand.tmp 47), type := 3, pos := "timer.go:43", after := #[{ on := 11, ground := Ground.data }, { on := 11, ground := Ground.chain }, { on := 0, ground := Ground.phase }, { on := 1, ground := Ground.phase }, { on := 2, ground := Ground.phase }, { on := 3, ground := Ground.phase }, { on := 4, ground := Ground.phase }, { on := 5, ground := Ground.phase }, { on := 6, ground := Ground.phase }, { on := 7, ground := Ground.phase }, { on := 8, ground := Ground.phase }, { on := 9, ground := Ground.phase }, { on := 10, ground := Ground.phase }, { on := 11, ground := Ground.phase }], guard := none }) (v := .int .i64 (last + 1)) rfl (by kernel_rfl) (by kernel_rfl) (by kernel_rfl) (fun _ _ _ h => h) (Or.inl ⟨by rfl, fun w' hw => by go_simp⟩) hS ?_
  try simp only [Act.put, List.setIfInBounds_toArray, List.set_cons_zero, List.set_cons_succ]
  refine wpAnyH_done (by kernel_rfl) ?_ _
  have hpn := (M4.out.nd p (List.mem_append.2 (.inl HPN.out)))
  have HPD := Lib.hid hpn
  have hpl := hpn.lt
  obtain ⟨m0, m1, m2, m3⟩ := hpn.cells
  have hrow := hpn.row
  have hpv := hpn.hv
  have hkl : (kids (sh N) p.t.id).length ≤ 1000 := by
    have := nodup_few (HK.out.tree.kids_nodup p.t.id) (fun m hm => kids_sub hm)
    have h2 : (tids (sh N)).length = N.length := by simp [tids, sh]
    omega
  obtain ⟨i3, z3, hi3, hz3, hs3, hb3, hc3⟩ := ninfo_parts info3
  clear m0 m1 m2 hpn
  try simp only [Act.put, List.setIfInBounds_toArray, List.set_cons_zero, List.set_cons_succ]
  go_wp2_with (at_builtin; refine wpList_app1 w4 (by rfl) _ _ 53 (by rfl) 3 i3 z3 8 Tryz.underlying53 hi3 hz3 hs3 hb3 hc3 p.v _ _ (by rfl) hrow (.int .i64 (last + 1)) 3 (by rfl) (by rfl) (by unfold maxLen; omega) (by omega) ?_)
  intro v' w5 o5 t5 b5
  have hpb : p.b ∉ p.v.ownBlock.toList := by simpa using hpv
  have hh5 := t5.at HPD.out.hdr hpb
  have m3 : w5.cell? ⟨p.b, 3, none⟩ = some p.v := by simp [World.cell?, hh5]
  have g3 : w5.frozen? ⟨p.b, 3, none⟩ = false := by simp [World.frozen?, hh5]
  have hb5 : v'.ownBlock ≠ some p.b := by
    rcases b5 with e | e
    · rw [e]
      exact hpv
    · rw [e]
      intro e
      have := hpl p.b (by simp [Nd.foot])
      simp at e
      omega
  have T6 := (t5.mono (S' := p.foot) (by intro y hy; left; simp only [Nd.foot, List.mem_cons]; exact .inr hy)).trans ((Touch.refl [p.b] w5).setCell (p := ⟨p.b, 3, none⟩) (by simp) v') (by intro y hy; left; simp at hy; simp [Nd.foot, hy])
  have H6 : (w5.setCell ⟨p.b, 3, none⟩ v').heap[p.b]? = some (.cells #[.int .i64 p.t.par, .int .u64 p.t.req, p.x, v'] 98 (0, 0)) := by simp [World.setCell, Array.getElem?_modify, hh5]
  have R6 := ((Touch.refl [p.b] w5).setCell (p := ⟨p.b, 3, none⟩) (by simp) v').owns o5 (by intro g hg e; simp at e; exact hb5 (by rw [hg, e]))
  have HF := Lib.hid (HK0.out.child_next HPN.out hlo HT0.out hnz M4.out F4.out hS T6 H6 (by simpa using R6) (by rcases b5 with e | e; exact .inl e; exact .inr (.inr ⟨_, e, by omega⟩)))
  obtain ⟨av5, cv5, rfl, hw1, hw2, hw3⟩ := owns_form o5
  clear T6 H6 R6 o5 t5 hh5 hrow hb5 b5 hpl hS hw1 hw2 hw3
  try simp only [Act.put, List.setIfInBounds_toArray, List.set_cons_zero, List.set_cons_succ]
  go_wp2_with fail
  go_ret2
  exact ⟨rfl, HF.out⟩
end
section
variable {w : World} {t h : Nat} {f : List Nat} {A : List (Tm × Value)} {last : Int}
theorem TS.start (k : TS w t h f A last) (par due : Int) (x : Value) (hxo : x.oneCell' = true) (hR : 0 ≤ due ∧ due ≤ maxT) (hl : last < 1000) (hfew : A.length < 1000) (hp : par = 0 ∨ par ∈ tids (A.map Prod.fst)) :
    Calls Tryz.prog 42 #[.pointer (some ⟨t, 0, none⟩), .int .i64 par, .int .u64 due, x] w fun e w' => e = .returned (.tuple #[.int .i64 (last + 1), .bool true]) ∧ TNext w t h f (A ++ [(⟨last + 1, par, due, min due (lim (A.map Prod.fst) par)⟩, x)]) (last + 1) w' := by
  obtain ⟨fh, N, hm, rfl, rfl⟩ := k
  rw [ab_fst] at hp ⊢
  have hfew' : N.length < 1000 := by simpa [ab] using hfew
  rcases hp with rfl | hp
  · exact start_root hm due x hxo hR hl hfew'
  · obtain ⟨n, hn, rfl⟩ := sh_at hp
    exact start_child hm n hn due x hxo hR hl hfew'
theorem TS.start_no (k : TS w t h f A last) (par due : Int) (x : Value) (hp : okK par) (h0 : par ≠ 0) (hn : par ∉ tids (A.map Prod.fst)) :
    Calls Tryz.prog 42 #[.pointer (some ⟨t, 0, none⟩), .int .i64 par, .int .u64 due, x] w fun e w' => e = .returned (.tuple #[.int .i64 0, .bool false]) ∧ w' = w := by
  obtain ⟨fh, N, hm, rfl, rfl⟩ := k
  rw [ab_fst] at hn
  exact S.start_no hm par due x hp h0 hn
end
end Go.Proofs.YtobkanlnnniabaaGreat.S

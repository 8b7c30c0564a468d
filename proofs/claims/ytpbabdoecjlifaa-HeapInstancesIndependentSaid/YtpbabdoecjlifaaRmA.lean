/-
  The contract of the Addr heap's Remove.
-/
import Derived.Test.YtpbabdoecjlifaaMiA
namespace Go.Proofs.Ytpbabdoecjlifaa.A
open Go.RowKit
set_option linter.unusedVariables false
set_option linter.unusedSimpArgs false

theorem zero3 (w : World) : (zeroValue 3).run Try.prog w = .ok (.int .i64 0) w := by kernel_rfl
section
variable (h m : Nat) (v : Value) (its : List Itm) (kv : List (Int × Value)) (last : Int) (w : World) (k : HB w h m v its kv last)
include k
theorem HB.look_run (id : Int) (hid : okK id) : (Instr.lookup 72 (.map (some m)) (.int .i64 id) true).run Try.prog w = .ok (.tuple #[(look kv id).getD (.int .i64 0), .bool (look kv id).isSome]) w :=
  k.hp.mp.lookup key3 Try.underlying72 (zero3 w) hid true

end
theorem built_zero : Try.prog.built 95 [] = some (([.int .i64 0, .int .u64 0, .bool false, .int .u8 0, .int .u8 0, .int .u8 0, .int .u8 0, .int .u8 0, .int .u8 0, .int .u8 0, .int .u8 0, .int .u8 0, .int .u8 0, .int .u8 0, .int .u8 0, .int .u8 0, .int .u8 0, .int .u8 0, .int .u8 0] : List Value)).toArray := by kernel_rfl
theorem owns_take {w : World} {base e size n c j : Nat} {a : Option Addr} {xs : List Value} (h : w.ownsRow base e size (.slice a n c) n xs) (hj : j ≤ n) : w.ownsRow base e size (.slice a j c) j (xs.take (j * size)) := by
  obtain ⟨h1, h2⟩ := h
  have hjs : j * size ≤ n * size := Nat.mul_le_mul_right _ hj
  refine ⟨by rw [List.length_take]; omega, ?_⟩
  rcases h2 with ⟨h2, h3⟩ | ⟨g', cap, cur, hv, hb, hh, hn, hm, hs, ht⟩
  · simp at h2
    obtain ⟨rfl, rfl, rfl⟩ := h2
    have : j = 0 := by omega
    subst this
    exact .inl ⟨rfl, by simp⟩
  · simp at hv
    obtain ⟨rfl, rfl⟩ := hv
    refine .inr ⟨g', c, cur, rfl, hb, hh, by omega, hm, hs, ?_⟩
    rw [← ht, List.take_take, Nat.min_eq_left hjs]
/-- The last entry in the place of the one at i: what is left. -/
theorem take_set_perm {its : List Itm} {i n : Nat} {x : Itm} (hn : its.length = n + 1) (hi : i < n) (hx : its[n]? = some x) : ((its.take n).set i x).Perm (its.eraseIdx i) := by
  obtain ⟨h1, h2⟩ := List.getElem?_eq_some_iff.1 hx
  have e1 : its = its.take n ++ [x] := by
    have := List.take_append_drop n its
    rw [List.drop_eq_getElem_cons h1, h2, List.drop_eq_nil_of_le (by omega)] at this
    exact this.symm
  have hl : (its.take n).length = n := by rw [List.length_take]; omega
  generalize its.take n = A at *
  subst e1
  rw [List.eraseIdx_append_of_lt_length (by omega)]
  rw [List.set_eq_take_append_cons_drop, if_pos (by omega), List.eraseIdx_eq_take_drop_succ]
  refine (List.perm_middle).trans ?_
  exact (List.perm_append_singleton x _).symm
theorem take_erase {its : List Itm} {n : Nat} (hn : its.length = n + 1) : its.take n = its.eraseIdx n := by
  rw [List.eraseIdx_eq_take_drop_succ, List.drop_eq_nil_of_le (by omega), List.append_nil]
theorem erase_mem {its : List Itm} {i : Nat} {x y : Itm} (hn : (its.map Itm.id).Nodup) (hx : its[i]? = some x) : y ∈ its.eraseIdx i ↔ y ∈ its ∧ y.id ≠ x.id := by
  rw [List.mem_eraseIdx_iff_getElem?]
  constructor
  · rintro ⟨j, hj, hy⟩
    exact ⟨List.mem_of_getElem? hy, ids_ne hn hy hx hj⟩
  · rintro ⟨hy, hne⟩
    obtain ⟨j, hj, hy⟩ := List.getElem_of_mem hy
    refine ⟨j, ?_, by rw [List.getElem?_eq_getElem hj, hy]⟩
    rintro rfl
    rw [List.getElem?_eq_getElem hj, hy] at hx
    cases hx
    exact hne rfl
theorem erase_nodup {its : List Itm} {i : Nat} (hn : (its.map Itm.id).Nodup) : ((its.eraseIdx i).map Itm.id).Nodup := ((List.eraseIdx_sublist its i).map Itm.id).nodup hn
section
variable {w : World} {h m : Nat} {v : Value} {its : List Itm} {kv : List (Int × Value)} {last : Int}
/-- The map without an entry. -/
theorem Hp.drop (k : Hp w h m v its kv last) {w' : World} {kv' : List (Int × Value)} (hm : Mp encK okK w' m kv') (t : Touch [m] w w') : Hp w' h m v its kv' last :=
  ⟨t.at k.hdr (by simpa using k.hm), t.owns k.row (by intro g hg e; simp at e; exact k.hv.2 (by rw [hg, e])), hm, k.one, k.oks, k.hm, k.hv, k.few⟩
/-- The last place is cleared and cut off. -/
theorem Hp.cut {g n c : Nat} (k : Hp w h m (.slice (some ⟨g, 0, none⟩) (n + 1) c) its kv last) {w2 : World} (hl : its.length = n + 1)
    (row : w2.ownsRow 0 95 19 (.slice (some ⟨g, 0, none⟩) (n + 1) c) (n + 1) ((its.map encA).flatten.take (n * 19) ++ ([.int .i64 0, .int .u64 0, .bool false, .int .u8 0, .int .u8 0, .int .u8 0, .int .u8 0, .int .u8 0, .int .u8 0, .int .u8 0, .int .u8 0, .int .u8 0, .int .u8 0, .int .u8 0, .int .u8 0, .int .u8 0, .int .u8 0, .int .u8 0, .int .u8 0] : List Value) ++ (its.map encA).flatten.drop (n * 19 + 19))) (t : Touch [g] w w2) :
    Hp (w2.setCell ⟨h, 0, none⟩ (.slice (some ⟨g, 0, none⟩) n c)) h m (.slice (some ⟨g, 0, none⟩) n c) (its.take n) kv last ∧ Touch (Hp.foot h m (.slice (some ⟨g, 0, none⟩) (n + 1) c)) w (w2.setCell ⟨h, 0, none⟩ (.slice (some ⟨g, 0, none⟩) n c)) := by
  have hr := owns_take row (j := n) (by omega)
  have hfl : (its.map encA).flatten.length = its.length * 19 := by rw [flat_len (encA_len k.one), List.length_map]
  rw [List.append_assoc, List.take_append_of_le_length (by rw [List.length_take, hfl]; omega), List.take_take, Nat.min_self, rows_take 19 _ _ (encA_len k.one), ← List.map_take] at hr
  have hln : (its.take n).length = n := by rw [List.length_take]; omega
  obtain ⟨p, t2, _⟩ := k.lay (v' := .slice (some ⟨g, 0, none⟩) n c) (its' := its.take n) (w2 := w2) (by simpa [Value.ownBlock] using t) (by rw [hln]; exact hr) (.inl rfl) (fun it hit => k.one it (List.mem_of_mem_take hit)) (fun it hit => k.oks it (List.mem_of_mem_take hit)) (by have := k.few; omega)
  exact ⟨p, t2⟩
end
/-- What a call leaves: a heap in order of the entries L. -/
def Left (h m : Nat) (v : Value) (L : List Itm) (last : Int) (w w' : World) : Prop := ∃ v' its' kv', HB w' h m v' its' kv' last ∧ its'.Perm L ∧ Foot h m v v' w ∧ Touch (Hp.foot h m v) w w'
section
variable (h m : Nat) (v : Value) (its : List Itm) (kv : List (Int × Value)) (last : Int) (w : World) (k : HB w h m v its kv last)
include k
set_option maxRecDepth 100000 in
set_option maxHeartbeats 1000000 in
theorem remove_none (id : Int) (hid : okK id) (hn : ∀ y ∈ its, y.id ≠ id) : Calls Try.prog 58 #[.pointer (some ⟨h, 0, none⟩), .int .i64 id] w fun e w' => e = .returned (.bool false) ∧ w = w' := by
  obtain ⟨c0, c1, c2⟩ := k.hp.cells
  have hq := k.look_run h m v its kv last w id hid
  rw [k.ix.no id hn] at hq
  simp only [Option.getD_none, Option.isSome_none] at hq
  clear k hn
  go_enter Try.func58, Try.ntmps58
  go_wp2_with fail
  go_ret
  exact ⟨rfl, rfl⟩
set_option maxRecDepth 100000 in
set_option maxHeartbeats 2000000 in
theorem remove_some (i : Nat) (x : Itm) (hx : its[i]? = some x) : Calls Try.prog 58 #[.pointer (some ⟨h, 0, none⟩), .int .i64 x.id] w fun e w' => e = .returned (.bool true) ∧ Left h m v (its.eraseIdx i) last w w' := by
  have hil := (List.getElem?_eq_some_iff.1 hx).1
  obtain ⟨n, hn⟩ : ∃ n, its.length = n + 1 := ⟨its.length - 1, by omega⟩
  obtain ⟨av, cv, rfl, hv1, hv2, hv3⟩ := k.hp.form
  obtain ⟨g, rfl, hgh, hgm⟩ := hv3 (by omega)
  rw [hn] at k hv1
  have hfew := k.hp.few
  obtain ⟨c0, c1, c2⟩ := k.hp.cells
  have hq := k.look_run h m _ its kv last w x.id (k.hp.oks x (List.mem_of_getElem? hx))
  rw [k.ix.at_ i x hx] at hq
  simp only [Option.getD_some, Option.isSome_some] at hq
  have hkx := k.hp.oks x (List.mem_of_getElem? hx)
  have hmp := k.hp.mp
  have HK := Lib.hid k
  have HX := Lib.hid hx
  have HNN := Lib.hid hn
  clear k hv3 hx hn
  go_enter Try.func58, Try.ntmps58
  go_wp2_with (refine wpList_delete_mp rfl _ _ 72 3 rfl 3 key3 Try.underlying72 hmp x.id hkx (by rfl) (by rfl) ?_)
  intro w1 hm1 t1 _z1
  clear _z1
  have HP1 := Lib.hid (HK.out.hp.drop hm1 t1)
  have hz := List.getElem?_eq_getElem (l := its) (i := n) (by have := HNN.out; omega)
  generalize its[n]'(by have := HNN.out; omega) = z at hz
  have OKZ := Lib.hid (HK.out.hp.one z (List.mem_of_getElem? hz))
  have hkz := HK.out.hp.oks z (List.mem_of_getElem? hz)
  have HZ := Lib.hid hz
  obtain ⟨c0, c1, c2⟩ := HP1.out.cells
  have rz := HP1.out.elem hz
  have hgl : g < w1.heap.size := HP1.out.lt g (by simp [Hp.foot, Value.ownBlock])
  have hwn : IntKind.i64.wrap ((n : Int) + 1 - 1) = (n : Int) := by rw [IntKind.wrap_i64] <;> omega
  have hnb : (n : Int) < (n : Int) + 1 := by omega
  have tB := (Touch.refl [] w1).alloc (.cells (encA z).toArray 95)
  have gB := heap_alloc_new w1 (.cells (encA z).toArray 95)
  have HP2 := Lib.hid (HP1.out.touch tB (by simp))
  obtain ⟨d0, d1, d2⟩ := HP2.out.cells
  clear hz hm1 hmp hq
  try simp only [Act.put]
  have hlen : (its.map encA).flatten.length = its.length * 19 := by rw [flat_len (encA_len HK.out.hp.one), List.length_map]
  have hroom : n * 19 + 19 ≤ (its.map encA).flatten.length := by rw [hlen, HNN.out]; omega
  have hrow := HP2.out.row
  rw [HNN.out] at hrow
  clear hlen
  go_wp2_with (first
    | ((with_reducible refine at_load 95 ?_); refine wpList_load_mid rfl 95 _ rfl g (n * 19) rfl (encA z) _ rz Try.underlying95 rfl (by rw [infoA, OKZ.out.enc]) ?_)
    | ((with_reducible refine at_build 95 ?_); refine wpList_built (by rfl) 95 _ (by rfl) _ _ (by rfl) built_zero ?_)
    | ((with_reducible refine at_store 95 ?_); first
      | (refine wpList_store_new rfl 95 _ _ rfl _ _ (encA z) (by rfl) (by rfl) (by rw [OKZ.out.enc]; rfl) (by rw [infoA, OKZ.out.enc]) OKZ.out.cells ?_)
      | (refine wpList_store_own rfl 95 _ _ rfl g (n * 19) (n + 1) cv 95 19 _ ([.int .i64 0, .int .u64 0, .bool false, .int .u8 0, .int .u8 0, .int .u8 0, .int .u8 0, .int .u8 0, .int .u8 0, .int .u8 0, .int .u8 0, .int .u8 0, .int .u8 0, .int .u8 0, .int .u8 0, .int .u8 0, .int .u8 0, .int .u8 0, .int .u8 0] : List Value) hrow (by rfl) (by rfl) hroom infoA (by decide) ?_)))
  intro w2 row2 t2 z2'
  try simp only [Act.put]
  generalize w1.alloc (.cells (encA z).toArray 95) = W at *
  have HBg : w1.heap.size ≠ g := by omega
  have HBh : w1.heap.size ≠ h := by have := HP1.out.lt h (by simp [Hp.foot]); omega
  have HBm : w1.heap.size ≠ m := by have := HP1.out.lt m (by simp [Hp.foot]); omega
  have hsz := t1.size
  generalize w1.heap.size = B at *
  obtain ⟨p3, t3⟩ := HP2.out.cut HNN.out (by rw [List.append_assoc]; exact row2) t2
  have HP3 := Lib.hid p3
  have c0 := t2.cell (HP2.out.cells.1) (by simpa using Ne.symm hgh)
  have f0 : w2.frozen? ⟨h, 0, none⟩ = false := by simp [World.frozen?, t2.at HP2.out.hdr (by simpa using Ne.symm hgh)]
  have T3 := Lib.hid (show Touch (Hp.foot h m (.slice (some ⟨g, 0, none⟩) (n + 1) cv)) w _ from ((t1.mono (by simp [Hp.foot])).trans tB (by simp)).trans t3 (fun y hy => .inl hy))
  have gB3 := t3.at gB (by simp [Hp.foot, Value.ownBlock]; exact ⟨HBh, HBm, HBg⟩)
  have rb := range_block (gB3)
  clear d0 d1 d2 hrow hroom
  clear p3 row2 t2 z2' c1 c2 rz t3 gB t1
  have hln : (its.take n).length = n := by rw [List.length_take, HNN.out]; omega
  by_cases hi : i < n
  · have hlt : (i : Int) < (n : Int) := by omega
    go_wp2_with ((with_reducible refine at_load 95 ?_); refine wpList_load_mid rfl 95 _ rfl B (0) rfl (encA z) _ rb Try.underlying95 rfl (by rw [infoA, OKZ.out.enc]) ?_)
    try (generalize hw3 : w2.setCell ⟨h, 0, none⟩ (.slice (some ⟨g, 0, none⟩) n cv) = w3 at *; clear hw3)
    refine (set_any h m _ _ _ last i z w3 HP3.out (by rw [hln]; exact hi) OKZ.out hkz).mono ?_
    rintro e w4 ⟨rfl, hp4, t4⟩
    have hids : ∀ y, y ∈ (its.take n).set i z ↔ y ∈ its ∧ y.id ≠ x.id := fun y => ((take_set_perm HNN.out hi HZ.out).mem_iff).trans (erase_mem HK.out.ids HX.out)
    have hpm := Lib.hid (take_set_perm HNN.out hi HZ.out)
    have hnd : (((its.take n).set i z).map Itm.id).Nodup := ((hpm.out).map Itm.id).nodup_iff.2 (erase_nodup HK.out.ids)
    have hzx : z.id ≠ x.id := ids_ne HK.out.ids HZ.out HX.out (by omega)
    have FX := Lib.hid (fix_any h m _ ((its.take n).set i z) _ last i z w4 hp4 (by rw [List.getElem?_set_self (by omega)]) hnd (by
      intro j y hj hy
      have hjl := (List.getElem?_eq_some_iff.1 hy).1
      rw [List.length_set, hln] at hjl
      rw [List.getElem?_set_ne (Ne.symm hj), List.getElem?_take_of_lt hjl] at hy
      rw [look_put_other _ _ _ _ (ids_ne HK.out.ids hy HZ.out (by omega)), look_del_other _ _ _ (ids_ne HK.out.ids hy HX.out hj)]
      exact HK.out.ix.at_ j y hy) (HK.out.heap.take n).up)
    have HOT := Lib.hid (show ∀ id, (∀ y ∈ (its.take n).set i z, y.id ≠ id) → look (put (del kv x.id) z.id (.int .i64 i)) id = none from by
      intro id hid
      have hz1 : id ≠ z.id := Ne.symm (hid z ((hids z).2 ⟨List.mem_of_getElem? HZ.out, hzx⟩))
      rw [look_put_other _ _ _ _ hz1]
      by_cases hx1 : id = x.id
      · rw [hx1, look_del_same]
      · rw [look_del_other _ _ _ hx1]
        refine HK.out.ix.no id fun y hy e => ?_
        exact hid y ((hids y).2 ⟨hy, by rw [e]; exact hx1⟩) e)
    have HTOP := Lib.hid (show ∀ y ∈ (its.take n).set i z, 1 ≤ y.id ∧ y.id ≤ last from fun y hy => HK.out.top y ((hids y).1 hy).1)
    have HND := Lib.hid hnd
    have T4 := Lib.hid (show Touch (Hp.foot h m (.slice (some ⟨g, 0, none⟩) (n + 1) cv)) w w4 from T3.out.trans t4 (by intro y hy; left; simp only [Hp.foot, List.mem_cons] at hy ⊢; exact .inr hy))
    clear hids hnd hp4 t4 rb T3 HP3 gB3 c0 f0 hzx
    go_wp2_with fail
    refine FX.out.mono ?_
    rintro e w5 ⟨its5, kv5, rfl, hp5, hperm5, hh5, ha5, ho5, t5⟩
    have B5 := Lib.hid (HB.sifted hp5 hperm5 HND.out hh5 ha5 ho5 HOT.out HTOP.out HK.out.lo HK.out.hi)
    have PM := Lib.hid (hperm5.trans hpm.out)
    have T5 := Lib.hid (show Touch (Hp.foot h m (.slice (some ⟨g, 0, none⟩) (n + 1) cv)) w w5 from T4.out.trans t5 (by intro y hy; left; simp only [Hp.foot, List.mem_cons] at hy ⊢; exact .inr hy))
    clear hp5 hperm5 hh5 ha5 ho5 t5
    go_wp2_with fail
    go_ret
    exact ⟨rfl, _, its5, kv5, B5.out, PM.out, fun y hy => .inl hy, T5.out⟩
  · have hlt : ¬ (i : Int) < (n : Int) := by omega
    have hin : i = n := by have := HNN.out; omega
    have B3 := Lib.hid (show HB _ h m _ (its.take n) (del kv x.id) last from ⟨HP3.out, by rw [take_erase HNN.out]; exact erase_nodup HK.out.ids, ⟨fun j y hy => by
      have hjl := (List.getElem?_eq_some_iff.1 hy).1
      rw [hln] at hjl
      rw [List.getElem?_take_of_lt hjl] at hy
      rw [look_del_other _ _ _ (ids_ne HK.out.ids hy HX.out (by omega))]
      exact HK.out.ix.at_ j y hy, fun id hid => by
      by_cases hx1 : id = x.id
      · rw [hx1, look_del_same]
      · rw [look_del_other _ _ _ hx1]
        refine HK.out.ix.no id fun y hy e => ?_
        refine hid y ?_ e
        rw [take_erase HNN.out, ← hin]
        exact (erase_mem HK.out.ids HX.out).2 ⟨hy, by rw [e]; exact hx1⟩⟩, HK.out.heap.take n, fun y hy => HK.out.top y (List.mem_of_mem_take hy), HK.out.lo, HK.out.hi⟩)
    have PM := Lib.hid (show (its.take n).Perm (its.eraseIdx i) by rw [take_erase HNN.out, hin])
    clear hin hln
    go_wp2_with fail
    go_ret
    exact ⟨rfl, _, _, _, B3.out, PM.out, fun y hy => .inl hy, T3.out⟩
end
end Go.Proofs.Ytpbabdoecjlifaa.A

/-
  A heap of the uint64 instance as a bag of entries; Get.
-/
import Derived.Test.YtpbabdoecjlifaaRmU
import Derived.Test.YtpbabdoecjlifaaAw
namespace Go.Proofs.Ytpbabdoecjlifaa
open Go.RowKit Go.Sort Go.Shelf
set_option linter.unusedVariables false
set_option linter.unusedSimpArgs false

theorem zero3' (w : World) : (zeroValue 3).run Try.prog w = .ok (.int .i64 0) w := by kernel_rfl
namespace U
section
variable (h m : Nat) (v : Value) (its : List Itm) (kv : List (Int × Value)) (last : Int) (w : World) (k : HB w h m v its kv last)
include k
set_option maxRecDepth 100000 in
set_option maxHeartbeats 1000000 in
theorem get_none (id : Int) (hid : okK id) (hn : ∀ y ∈ its, y.id ≠ id) : Calls Try.prog 41 #[.pointer (some ⟨h, 0, none⟩), .int .i64 id] w fun e w' => e = .returned (.tuple #[.int .u64 0, .int .u64 0, .bool false]) ∧ w = w' := by
  obtain ⟨c0, c1, c2⟩ := k.hp.cells
  have hq := k.look_run h m v its kv last w id hid
  rw [k.ix.no id hn] at hq
  simp only [Option.getD_none, Option.isSome_none] at hq
  clear k hn
  go_enter Try.func41, Try.ntmps41
  go_wp2_with fail
  go_ret3
  exact ⟨rfl, rfl⟩
set_option maxRecDepth 100000 in
set_option maxHeartbeats 1000000 in
theorem get_some (i : Nat) (x : Itm) (hx : its[i]? = some x) : Calls Try.prog 41 #[.pointer (some ⟨h, 0, none⟩), .int .i64 x.id] w fun e w' => e = .returned (.tuple #[.int .u64 x.due, x.x, .bool true]) ∧ Touch [] w w' := by
  have hil := (List.getElem?_eq_some_iff.1 hx).1
  obtain ⟨av, cv, rfl, hv1, hv2, hv3⟩ := k.hp.form
  obtain ⟨g, rfl, hgh, hgm⟩ := hv3 (by omega)
  obtain ⟨c0, c1, c2⟩ := k.hp.cells
  obtain ⟨e0, e1, e2⟩ := k.hp.elem hx
  have hq := k.look_run h m _ its kv last w x.id (k.hp.oks x (List.mem_of_getElem? hx))
  rw [k.ix.at_ i x hx] at hq
  simp only [Option.getD_some, Option.isSome_some] at hq
  have q3 : (i : Int) < (its.length : Int) := by omega
  clear k hv3 hx
  go_enter Try.func41, Try.ntmps41
  go_wp2_with fail
  go_quiet (fail)
  go_wp2_with fail
  go_ret3
  exact ⟨rfl, (Touch.refl [] w).drews nq⟩
end
end U
/-- A heap of the uint64 instance that lies above w0 and bears the entries L. -/
def HasU (w0 w : World) (h : Nat) (L : List Itm) (last : Int) : Prop := ∃ m v its kv, U.HB w h m v its kv last ∧ its.Perm L ∧ (∀ y ∈ U.Hp.foot h m v, w0.heap.size ≤ y) ∧ Touch [] w0 w
theorem erase_filter : ∀ (its : List Itm) (i : Nat) (x : Itm), (its.map Itm.id).Nodup → its[i]? = some x → its.eraseIdx i = its.filter fun y => decide (y.id ≠ x.id)
  | [], i, x, _, h => by simp at h
  | a :: r, 0, x, hn, h => by
    simp at h
    subst h
    simp only [List.map_cons, List.nodup_cons] at hn
    have : ∀ y ∈ r, decide (y.id ≠ a.id) = true := by
      intro y hy
      simp only [decide_eq_true_eq]
      intro e
      exact hn.1 (by rw [← e]; exact List.mem_map.2 ⟨y, hy, rfl⟩)
    rw [List.eraseIdx_cons_zero, List.filter_cons_of_neg (by simp), List.filter_eq_self.2 this]
  | a :: r, i + 1, x, hn, h => by
    have hx : r[i]? = some x := by simpa using h
    simp only [List.map_cons, List.nodup_cons] at hn
    have hax : a.id ≠ x.id := fun e => hn.1 (by rw [e]; exact List.mem_map.2 ⟨x, List.mem_of_getElem? hx, rfl⟩)
    rw [List.eraseIdx_cons_succ, List.filter_cons_of_pos (by simpa using hax), erase_filter r i x hn.2 hx]
section
variable {w0 w : World} {h : Nat} {L : List Itm} {last : Int}
theorem HasU.touch {w' : World} (k : HasU w0 w h L last) (t : Touch [] w w') : HasU w0 w' h L last := by
  obtain ⟨m, v, its, kv, hb, hp, hf, ht⟩ := k
  exact ⟨m, v, its, kv, hb.touch t (by simp), hp, hf, ht.trans t (by simp)⟩
theorem HasU.push (k : HasU w0 w h L last) (due : Int) (x : Value) (h1 : x.oneCell' = true) (hl : last < 1000) (hL : L.length < 1000) :
    Calls Try.prog 38 #[.pointer (some ⟨h, 0, none⟩), .int .u64 due, x] w fun e w' => e = .returned (.int .i64 (last + 1)) ∧ HasU w0 w' h (L ++ [⟨last + 1, due, x⟩]) (last + 1) := by
  obtain ⟨m, v, its, kv, hb, hp, hf, ht⟩ := k
  refine (U.push_any h m v its kv last due x w hb h1 hl (by rw [hp.length_eq]; exact hL)).mono ?_
  rintro e w' ⟨v', its', kv', rfl, hb', hp', hf', ht'⟩
  exact ⟨rfl, m, v', its', kv', hb', hp'.trans (hp.append_right _), fun y hy => by
    rcases hf' y hy with h2 | h2
    · exact hf y h2
    · exact Nat.le_trans ht.size h2, ht.trans ht' (fun y hy => .inr (hf y hy))⟩
theorem HasU.remove (k : HasU w0 w h L last) (x : Itm) (hx : x ∈ L) :
    Calls Try.prog 39 #[.pointer (some ⟨h, 0, none⟩), .int .i64 x.id] w fun e w' => e = .returned (.bool true) ∧ HasU w0 w' h (L.filter fun y => decide (y.id ≠ x.id)) last := by
  obtain ⟨m, v, its, kv, hb, hp, hf, ht⟩ := k
  obtain ⟨i, hi⟩ := mem_at hp hx
  refine (U.remove_some h m v its kv last w hb i x hi).mono ?_
  rintro e w' ⟨rfl, v', its', kv', hb', hp', hf', ht'⟩
  rw [erase_filter its i x hb.ids hi] at hp'
  exact ⟨rfl, m, v', its', kv', hb', hp'.trans (hp.filter _), fun y hy => by
    rcases hf' y hy with h2 | h2
    · exact hf y h2
    · exact Nat.le_trans ht.size h2, ht.trans ht' (fun y hy => .inr (hf y hy))⟩
theorem HasU.remove_no (k : HasU w0 w h L last) (id : Int) (hid : okK id) (hn : ∀ y ∈ L, y.id ≠ id) :
    Calls Try.prog 39 #[.pointer (some ⟨h, 0, none⟩), .int .i64 id] w fun e w' => e = .returned (.bool false) ∧ w = w' := by
  obtain ⟨m, v, its, kv, hb, hp, hf, ht⟩ := k
  exact U.remove_none h m v its kv last w hb id hid (fun y hy => hn y (hp.mem_iff.1 hy))
theorem HasU.update_no (k : HasU w0 w h L last) (id due : Int) (hid : okK id) (hn : ∀ y ∈ L, y.id ≠ id) :
    Calls Try.prog 40 #[.pointer (some ⟨h, 0, none⟩), .int .i64 id, .int .u64 due] w fun e w' => e = .returned (.bool false) ∧ w = w' := by
  obtain ⟨m, v, its, kv, hb, hp, hf, ht⟩ := k
  exact U.update_none h m v its kv last w hb id due hid (fun y hy => hn y (hp.mem_iff.1 hy))
theorem HasU.get (k : HasU w0 w h L last) (x : Itm) (hx : x ∈ L) :
    Calls Try.prog 41 #[.pointer (some ⟨h, 0, none⟩), .int .i64 x.id] w fun e w' => e = .returned (.tuple #[.int .u64 x.due, x.x, .bool true]) ∧ Touch [] w w' := by
  obtain ⟨m, v, its, kv, hb, hp, hf, ht⟩ := k
  obtain ⟨i, hi⟩ := mem_at hp hx
  exact U.get_some h m v its kv last w hb i x hi
theorem HasU.get_no (k : HasU w0 w h L last) (id : Int) (hid : okK id) (hn : ∀ y ∈ L, y.id ≠ id) :
    Calls Try.prog 41 #[.pointer (some ⟨h, 0, none⟩), .int .i64 id] w fun e w' => e = .returned (.tuple #[.int .u64 0, .int .u64 0, .bool false]) ∧ w = w' := by
  obtain ⟨m, v, its, kv, hb, hp, hf, ht⟩ := k
  exact U.get_none h m v its kv last w hb id hid (fun y hy => hn y (hp.mem_iff.1 hy))
end
end Go.Proofs.Ytpbabdoecjlifaa

/-
  The contract of Update.
-/
import Derived.Test.YtpbabdoecjlifaaMiS
namespace Go.Proofs.Ytpbabdoecjlifaa.S
open Go.RowKit
set_option linter.unusedVariables false
set_option linter.unusedSimpArgs false

theorem zero3 (w : World) : (zeroValue 3).run Try.prog w = .ok (.int .i64 0) w := by kernel_rfl
theorem flatI_due (its : List Itm) (i : Nat) (x : Itm) (d : Int) (h : its[i]? = some x) : (its.map encI).flatten.set (i * 3 + 1) (.int .u64 d) = ((its.set i ⟨x.id, d, x.x⟩).map encI).flatten := by
  induction its generalizing i with
  | nil => simp at h
  | cons a r ih =>
    cases i with
    | zero =>
      simp at h
      subst h
      simp [encI]
    | succ i =>
      have := ih i (by simpa using h)
      simp only [List.set_cons_succ, List.map_cons, List.flatten_cons]
      rw [← this]
      have e : (i + 1) * 3 + 1 = i * 3 + 1 + 3 := by omega
      rw [e]
      simp [encI]
theorem ids_set {its : List Itm} {i : Nat} {x y : Itm} (h : its[i]? = some x) (e : y.id = x.id) : (its.set i y).map Itm.id = its.map Itm.id := by
  rw [List.map_set, e]
  obtain ⟨h1, h2⟩ := List.getElem?_eq_some_iff.1 h
  have : x.id = (its.map Itm.id)[i]'(by simpa using h1) := by simp [h2]
  rw [this]
  exact List.set_getElem_self _
theorem not_ids {its : List Itm} {id : Int} : (∀ y ∈ its, y.id ≠ id) ↔ id ∉ its.map Itm.id := by
  simp
theorem Hp.due {w : World} {h m g n c : Nat} {its : List Itm} {kv : List (Int × Value)} {last : Int} (k : Hp w h m (.slice (some ⟨g, 0, none⟩) n c) its kv last) {i : Nat} {x : Itm} (hx : its[i]? = some x) (d : Int) :
    Hp (w.setCell ⟨g, i * 3 + 1, none⟩ (.int .u64 d)) h m (.slice (some ⟨g, 0, none⟩) n c) (its.set i ⟨x.id, d, x.x⟩) kv last ∧ Touch [g] w (w.setCell ⟨g, i * 3 + 1, none⟩ (.int .u64 d)) := by
  have t := (Touch.refl [g] w).setCell (p := ⟨g, i * 3 + 1, none⟩) (by simp) (.int .u64 d)
  have hg1 : g ≠ h := fun e => k.hv.1 (by rw [e]; rfl)
  have hg2 : g ≠ m := fun e => k.hv.2 (by rw [e]; rfl)
  have hn : n = its.length := by
    obtain ⟨a', c', hv, _⟩ := owns_form k.row
    simp at hv
    exact hv.2.1
  subst hn
  have hrow := owns_set k.row (i * 3 + 1) (.int .u64 d)
  rw [flatI_due its i x d hx] at hrow
  refine ⟨⟨t.at k.hdr (by simpa using Ne.symm hg1), by rw [List.length_set]; exact hrow, k.mp.touch t (by simpa using Ne.symm hg2), ?_, ?_, k.hm, k.hv, by rw [List.length_set]; exact k.few⟩, t⟩
  · intro y hy
    rcases List.mem_or_eq_of_mem_set hy with hy | rfl
    · exact k.one y hy
    · exact k.one x (List.mem_of_getElem? hx)
  · intro y hy
    rcases List.mem_or_eq_of_mem_set hy with hy | rfl
    · exact k.oks y hy
    · exact k.oks x (List.mem_of_getElem? hx)
section
variable (h m : Nat) (v : Value) (its : List Itm) (kv : List (Int × Value)) (last : Int) (w : World) (k : HB w h m v its kv last)
include k
theorem HB.look_run (id : Int) (hid : okK id) : (Instr.lookup 72 (.map (some m)) (.int .i64 id) true).run Try.prog w = .ok (.tuple #[(look kv id).getD (.int .i64 0), .bool (look kv id).isSome]) w :=
  k.hp.mp.lookup key3 Try.underlying72 (zero3 w) hid true
set_option maxRecDepth 100000 in
set_option maxHeartbeats 1000000 in
theorem update_none (id due : Int) (hid : okK id) (hn : ∀ y ∈ its, y.id ≠ id) : Calls Try.prog 50 #[.pointer (some ⟨h, 0, none⟩), .int .i64 id, .int .u64 due] w fun e w' => e = .returned (.bool false) ∧ w = w' := by
  obtain ⟨c0, c1, c2⟩ := k.hp.cells
  have hq := k.look_run h m v its kv last w id hid
  rw [k.ix.no id hn] at hq
  simp only [Option.getD_none, Option.isSome_none] at hq
  clear k hn
  go_enter Try.func50, Try.ntmps50
  go_wp2_with fail
  go_ret
  exact ⟨rfl, rfl⟩
set_option maxRecDepth 100000 in
set_option maxHeartbeats 1000000 in
theorem update_some (i : Nat) (x : Itm) (due : Int) (hx : its[i]? = some x) : Calls Try.prog 50 #[.pointer (some ⟨h, 0, none⟩), .int .i64 x.id, .int .u64 due] w fun e w' => ∃ its' kv', e = .returned (.bool true) ∧ HB w' h m v its' kv' last ∧ its'.Perm (its.set i ⟨x.id, due, x.x⟩) ∧ Touch (Hp.foot h m v) w w' := by
  have hil := (List.getElem?_eq_some_iff.1 hx).1
  obtain ⟨av, cv, rfl, hv1, hv2, hv3⟩ := k.hp.form
  obtain ⟨g, rfl, hgh, hgm⟩ := hv3 (by omega)
  obtain ⟨c0, c1, c2⟩ := k.hp.cells
  obtain ⟨e0, e1, e2⟩ := k.hp.elem hx
  have fz := owns_frozen k.hp.row (i * 3 + 1)
  have hq := k.look_run h m _ its kv last w x.id (k.hp.oks x (List.mem_of_getElem? hx))
  rw [k.ix.at_ i x hx] at hq
  simp only [Option.getD_some, Option.isSome_some] at hq
  have q3 : (i : Int) < (its.length : Int) := by omega
  obtain ⟨p1, t1⟩ := k.hp.due hx due
  have hids := ids_set (y := ⟨x.id, due, x.x⟩) hx rfl
  have hnd : ((its.set i ⟨x.id, due, x.x⟩).map Itm.id).Nodup := by rw [hids]; exact k.ids
  have FX := Lib.hid (fix_any h m _ _ kv last i ⟨x.id, due, x.x⟩ _ p1 (by rw [List.getElem?_set_self hil]) hnd (by
    intro j y hj hy
    rw [List.getElem?_set_ne (Ne.symm hj)] at hy
    exact k.ix.at_ j y hy) k.heap.up)
  have HK := Lib.hid k
  have HI := Lib.hid hids
  have HN := Lib.hid hnd
  have HX := Lib.hid hx
  clear k hids hnd p1 hv3 hx
  go_enter Try.func50, Try.ntmps50
  go_wp2_with fail
  refine FX.out.mono ?_
  rintro e w2 ⟨its2, kv2, rfl, hp2, hperm2, hh2, ha2, ho2, t2⟩
  have B2 := Lib.hid (HB.sifted hp2 hperm2 HN.out hh2 ha2 ho2 (by
    intro id hid
    exact HK.out.ix.no id (by rw [not_ids, ← HI.out, ← not_ids]; exact hid)) (by
    intro y hy
    rcases List.mem_or_eq_of_mem_set hy with hy | rfl
    · exact HK.out.top y hy
    · exact HK.out.top x (List.mem_of_getElem? HX.out)) HK.out.lo HK.out.hi)
  have PM := Lib.hid hperm2
  have T2 := Lib.hid (show Touch (Hp.foot h m (.slice (some ⟨g, 0, none⟩) its.length cv)) w w2 from (t1.mono (by simp [Hp.foot, Value.ownBlock])).trans t2 (by intro y hy; left; simp only [Hp.foot, List.mem_cons] at hy ⊢; exact .inr hy))
  clear hp2 hperm2 hh2 ha2 ho2 t2 t1 c0 c1 c2 e0 e1 e2 hq fz
  go_wp2_with fail
  go_ret
  exact ⟨its2, kv2, rfl, B2.out, PM.out, T2.out⟩
end
end Go.Proofs.Ytpbabdoecjlifaa.S

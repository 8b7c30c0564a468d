/-
  A heap in order, in memory; the contract of 'fix'.
-/
import Derived.Test.YtpbabdoecjlifaaSuS
import Derived.Test.YtpbabdoecjlifaaSdS
namespace Go.Proofs.Ytpbabdoecjlifaa.S
open Go.RowKit
set_option linter.unusedVariables false
set_option linter.unusedSimpArgs false

theorem wpList_delete_mp {P : Program} {α : Type} [DecidableEq α] {enc : α → Value} {ok : α → Prop} {w : World} {b : Nat} {kv : List (α × Value)} {o : Oper} {ops : Array Oper} {rest : List Oper} {a : Act} {Q : Exit → Act → World → Prop} (hg : o.guard = none) (m x : Operand) (t k : TypeId) (hop : o.op = Op.call { callee := Callee.builtin Builtin.delete, args := #[m, x], argTypes := #[t, k] })
    (e : TypeId) (E : KE P k enc ok) (ht : P.underlying t = some (.map k e)) (h : Mp enc ok w b kv) (y : α) (hy : ok y) (hm : a.eval m = .map (some b)) (hx : a.eval x = enc y)
    (hK : ∀ w', Mp enc ok w' b (del kv y) → Touch [b] w w' → w'.heap.size = w.heap.size → wpList P ops Q rest (a.put o.dst (.tuple #[])) w') : wpList P ops Q (o :: rest) a w := by
  refine wpList_plain hg fun K' hK' => ?_
  obtain ⟨w', hrun, r1, r2, r3⟩ := h.drop E ht hy o.type
  unfold Oper.wp
  simp [execOp, hop, resolve, invoke, builtin, hm, hx, hrun, Result.andThen]
  exact hK' _ _ (hK w' r1 r2 r3)
theorem look_del_same (kv : List (Int × Value)) (a : Int) : look (del kv a) a = none := by
  rw [look_none]
  intro p hp
  unfold del at hp
  simpa using (List.mem_filter.1 hp).2
theorem look_del_other (kv : List (Int × Value)) (a b : Int) (h : b ≠ a) : look (del kv a) b = look kv b := by
  unfold look del
  rw [List.find?_filter]
  congr 2
  funext p
  by_cases e : p.1 = b
  · have : p.1 ≠ a := by omega
    simp [e, h]
  · simp [e]
/-- A heap in order. -/
structure HB (w : World) (h m : Nat) (v : Value) (its : List Itm) (kv : List (Int × Value)) (last : Int) : Prop where
  hp : Hp w h m v its kv last
  ids : (its.map Itm.id).Nodup
  ix : Ix kv its
  heap : Heap Itm.key its
  top : ∀ y ∈ its, 1 ≤ y.id ∧ y.id ≤ last
  lo : 0 ≤ last
  hi : last ≤ 1000
/-- What a step leaves of the heap's own blocks: its own, or new ones. -/
def Foot (h m : Nat) (v v' : Value) (w : World) : Prop := ∀ y ∈ Hp.foot h m v', y ∈ Hp.foot h m v ∨ w.heap.size ≤ y
theorem okK_of {i : Int} (h0 : -9223372036854775808 ≤ i) (h1 : i ≤ 9223372036854775807) : okK i := by
  unfold okK
  simp [Lit.wf]
  have : IntKind.i64.min = -9223372036854775808 := rfl
  omega
theorem HB.touch {S : List Nat} {w w' : World} {h m : Nat} {v : Value} {its : List Itm} {kv : List (Int × Value)} {last : Int} (k : HB w h m v its kv last) (t : Touch S w w') (hS : ∀ y ∈ Hp.foot h m v, y ∉ S) : HB w' h m v its kv last :=
  ⟨k.hp.touch t hS, k.ids, k.ix, k.heap, k.top, k.lo, k.hi⟩
/-- After sifting: in order. -/
theorem HB.sifted {w : World} {h m : Nat} {v : Value} {its its' : List Itm} {kv kv' : List (Int × Value)} {last : Int} (hp : Hp w h m v its' kv' last) (hperm : its'.Perm its) (hn : (its.map Itm.id).Nodup) (hh : Heap Itm.key its')
    (h1 : ∀ (j : Nat) y, its'[j]? = some y → look kv' y.id = some (.int .i64 j)) (h2 : ∀ id, (∀ y ∈ its, y.id ≠ id) → look kv' id = look kv id) (h3 : ∀ id, (∀ y ∈ its, y.id ≠ id) → look kv id = none)
    (h4 : ∀ y ∈ its, 1 ≤ y.id ∧ y.id ≤ last) (h5 : 0 ≤ last) (h6 : last ≤ 1000) : HB w h m v its' kv' last :=
  ⟨hp, (hperm.map Itm.id).nodup_iff.2 hn, ⟨h1, fun id hid => by
    have hid' : ∀ y ∈ its, y.id ≠ id := fun y hy => hid y (hperm.mem_iff.2 hy)
    rw [h2 id hid', h3 id hid']⟩, hh, fun y hy => h4 y (hperm.mem_iff.1 hy), h5, h6⟩
set_option maxRecDepth 100000 in
set_option maxHeartbeats 1000000 in
theorem fix_any (h m : Nat) (v : Value) (its : List Itm) (kv : List (Int × Value)) (last : Int) (i : Nat) (x : Itm) (w : World) (k : Hp w h m v its kv last) (hx : its[i]? = some x) (hn : (its.map Itm.id).Nodup) (hix : IxB kv its i) (hu : Up Itm.key its i) :
    Calls Try.prog 72 #[.pointer (some ⟨h, 0, none⟩), .int .i64 i] w fun e w' => ∃ (its' : List Itm) (kv' : List (Int × Value)), e = .returned (.tuple #[]) ∧ Hp w' h m v its' kv' last ∧ its'.Perm its ∧ Heap Itm.key its' ∧
      (∀ (j : Nat) y, its'[j]? = some y → look kv' y.id = some (.int .i64 j)) ∧ (∀ id, (∀ y ∈ its, y.id ≠ id) → look kv' id = look kv id) ∧ Touch (m :: v.ownBlock.toList) w w' := by
  have HU := Lib.hid (up_any h m v its kv last i x w k hx hn hix hu)
  have HN := Lib.hid hn
  clear k hx hn hix hu
  go_enter Try.func72, Try.ntmps72
  go_wp2_with fail
  refine HU.out.mono ?_
  rintro e w1 ⟨j, its1, kv1, rfl, hj, hp1, hperm1, hd1, _, ha1, ho1, t1⟩
  have hjl : j < its1.length := by rw [hperm1.length_eq]; exact hj
  have hx1 := List.getElem?_eq_getElem hjl
  have HD := Lib.hid (down_any h m v its1 kv1 last j _ w1 hp1 hx1 ((hperm1.map Itm.id).nodup_iff.2 HN.out) (fun j' y _ hy => ha1 j' y hy) hd1)
  have HP := Lib.hid (⟨hperm1, ho1, t1⟩ : _ ∧ _ ∧ _)
  clear hp1 hd1 ha1 hx1 hjl t1 ho1 hperm1
  go_wp2_with fail
  refine HD.out.mono ?_
  rintro e w2 ⟨its2, kv2, rfl, hp2, hperm2, hh2, ha2, ho2, t2⟩
  obtain ⟨p1, p2, p3⟩ := HP.out
  have FIN := Lib.hid (show Hp w2 h m v its2 kv2 last ∧ its2.Perm its ∧ Heap Itm.key its2 ∧ (∀ (j : Nat) y, its2[j]? = some y → look kv2 y.id = some (.int .i64 j)) ∧ (∀ id, (∀ y ∈ its, y.id ≠ id) → look kv2 id = look kv id) ∧ Touch (m :: v.ownBlock.toList) w w2 from
    ⟨hp2, hperm2.trans p1, hh2, ha2, fun id hid => by rw [ho2 id (fun y hy => hid y (p1.mem_iff.1 hy)), p2 id hid], p3.trans t2 (fun y hy => .inl hy)⟩)
  clear hp2 hperm2 hh2 ha2 ho2 t2 p1 p2 p3 HP
  go_wp2_with fail
  exact end0 rfl rfl ⟨its2, kv2, rfl, FIN.out⟩
end Go.Proofs.Ytpbabdoecjlifaa.S

/-
  The walk of HeapMatchesModel: true at every slice of operations. No condition.
-/
import Derived.Test.YtpbabdoecjlifaaBo
import Derived.Test.YtpbabdoecjlifaaAr
import Derived.Deep.CutRange
import Derived.Deep.CutBlock
namespace Go.Proofs.Ytpbabdoecjlifaa
open Go.ChangeShapes Go.WideShapes Go.RowKit Go.Sort
set_option linter.unusedVariables false
set_option linter.unusedSimpArgs false

/-- An operation. -/
structure Opn where
  kind : Int
  id : Int
  due : Int
  x : Int
def encO (o : Opn) : List Value := [.int .i64 o.kind, .int .i64 o.id, .int .u64 o.due, .int .i64 o.x]
def OkO (o : Opn) : Prop := okK o.id ∧ U64 o.due
theorem opn_rows {H : Type} {enc : TypeId × Value → H} {w : World} {base : Nat} {spare : Nat → Bool} {held : Bool} {v : Value} (hv : IsSlice enc Try.prog w base spare held [3, 3, 29, 3] v) : ∃ (b : Nat) (l : List Opn), Rd w 4 b v (l.map encO) ∧ ∀ o ∈ l, OkO o := by
  obtain ⟨b, xs, hr, hx⟩ := slice_rows (by simp) hv
  have h : ∃ l : List Opn, xs = l.map encO ∧ ∀ o ∈ l, OkO o := by
    clear hr
    induction xs with
    | nil => exact ⟨[], rfl, by simp⟩
    | cons x xs ih =>
      obtain ⟨l, rfl, hl⟩ := ih (fun y hy => hx y (List.mem_cons_of_mem _ hy))
      obtain ⟨hlen, hc⟩ := hx x List.mem_cons_self
      obtain ⟨v0, e0, l0⟩ := hc 0 3 rfl
      obtain ⟨v1, e1, l1⟩ := hc 1 3 rfl
      obtain ⟨v2, e2, l2⟩ := hc 2 29 rfl
      obtain ⟨v3, e3, l3⟩ := hc 3 3 rfl
      obtain ⟨k, rfl, _⟩ := l0.int Try.underlying3
      obtain ⟨i, rfl, wi⟩ := l1.int Try.underlying3
      obtain ⟨d, rfl, wd⟩ := l2.int Try.underlying29
      obtain ⟨y, rfl, _⟩ := l3.int Try.underlying3
      refine ⟨⟨k, i, d, y⟩ :: l, ?_, ?_⟩
      · match x, hlen with
        | [a0, a1, a2, a3], _ => simp at e0 e1 e2 e3; rw [e0, e1, e2, e3]; rfl
      · intro z hz
        rcases List.mem_cons.1 hz with rfl | hz
        · exact ⟨wi, wd⟩
        · exact hl z hz
  obtain ⟨l, rfl, hl⟩ := h
  exact ⟨b, l, hr, hl⟩
theorem rd_opn {w : World} {b n cap : Nat} {a : Option Addr} {l : List Opn} (h : Rd w 4 b (.slice a n cap) (l.map encO)) {i : Nat} {o : Opn} (hi : l[i]? = some o) :
    ∃ off, a = some ⟨b, off, none⟩ ∧ w.cell? ⟨b, off + i * 4, none⟩ = some (.int .i64 o.kind) ∧ w.cell? ⟨b, off + i * 4 + 1, none⟩ = some (.int .i64 o.id) ∧ w.cell? ⟨b, off + i * 4 + 2, none⟩ = some (.int .u64 o.due) ∧ w.cell? ⟨b, off + i * 4 + 3, none⟩ = some (.int .i64 o.x) := by
  obtain ⟨off, ha, hat⟩ := h.at (by intro e; simp at e; subst e; simp at hi)
  have := hat i (encO o) (by simp [hi])
  exact ⟨off, ha, this 0 _ rfl, this 1 _ rfl, this 2 _ rfl, this 3 _ rfl⟩
theorem u64_hi {x : Int} (h : U64 x) : x ≤ 18446744073709551615 := by
  unfold U64 at h
  simp [Lit.wf] at h
  have : IntKind.u64.max = 18446744073709551615 := rfl
  omega
theorem sd_u64 {x : Int} (h : U64 x) : 0 ≤ sd x ∧ sd x ≤ 18446744073709551615 := by
  have h0 := u64_lo h
  have h1 := u64_hi h
  unfold sd
  split <;> omega
theorem cells_four {w : World} {B : Nat} {x y z u : Value} {T : TypeId} (h : w.heap[B]? = some (.cells #[x, y, z, u] T (0, 0))) : w.cell? ⟨B, 0, none⟩ = some x ∧ w.cell? ⟨B, 1, none⟩ = some y ∧ w.cell? ⟨B, 2, none⟩ = some z ∧ w.cell? ⟨B, 3, none⟩ = some u := by
  simp [World.cell?, h]
theorem info31 : (Try.prog.info? 31).map (·.size) = some 4 := by kernel_rfl
theorem asc_snoc {L : List Itm} (ha : Asc L) {w : World} {h : Nat} {f : List Nat} {last : Int} (hb : Bag w h f L last) (d : Int) (y : Value) : Asc (L ++ [⟨last + 1, d, y⟩]) := by
  unfold Asc
  rw [List.pairwise_append]
  refine ⟨ha, by simp, fun a ha' b hb' => ?_⟩
  simp at hb'
  subst hb'
  have := (hb.oks a ha').2.2
  show a.id < last + 1
  omega
theorem Bag.least {w : World} {h : Nat} {f : List Nat} {L : List Itm} {last : Int} (k : Bag w h f L last) (hL : L ≠ []) : ∃ y ∈ L, ∀ z ∈ L, le y.key z.key := by
  obtain ⟨m, v, its, kv, hb, hp, rfl⟩ := k
  have h0 : 0 < its.length := by
    rw [hp.length_eq]
    exact List.length_pos_iff.2 hL
  refine ⟨its[0], hp.mem_iff.1 (List.getElem_mem h0), fun z hz => ?_⟩
  obtain ⟨j, hj⟩ := mem_at hp hz
  exact hb.heap.least (List.getElem?_eq_getElem h0) j z hj
theorem rfirst_at (x : Nat) (v : Value) (L : List Itm) (last : Int) (w : World) (k : Rh w x v L last) (ha : Asc L) (q : Nat) (y : Itm) (hq : L[q]? = some y) (hm : ∀ z ∈ L, le y.key z.key) :
    Calls Try.prog 16 #[.pointer (some ⟨x, 0, none⟩)] w fun e w' => e = .returned (.int .i64 q) ∧ Touch [] w w' := by
  refine (rfirst_any x v L last w k).mono ?_
  rintro e w' ⟨at_, rfl, hf, t⟩
  refine ⟨?_, t⟩
  rcases first_le ha hf with ⟨h1, _⟩ | ⟨q', u, rfl, hq', hu⟩
  · rw [h1] at hq
    simp at hq
  · by_cases hqq : q = q'
    · rw [hqq]
    · exfalso
      have l1 := hu y (List.mem_of_getElem? hq)
      have l2 := hm u (List.mem_of_getElem? hq')
      refine ids_ne ha.nodup hq hq' hqq ?_
      have : y.key.id = u.key.id := by unfold le at l1 l2; omega
      exact this
theorem rem_full {w0 w1 w2 w3 w' : World} {h x q : Nat} {f f' : List Nat} {v v' : Value} {L : List Itm} {last : Int} {y : Itm} (k : Both w0 w1 h x f v L last)
    (hh : Bag w2 h f' (L.filter fun z => decide (z.id ≠ y.id)) last ∧ (∀ z ∈ f', z ∉ Rh.foot x v) ∧ (∀ z ∈ f', w0.heap.size ≤ z) ∧ Touch [] w0 w2) (hq : L[q]? = some y) (t3 : Touch [] w2 w3)
    (hr : Rh w' x v' (L.eraseIdx q) last) (hv : ∀ g, v'.ownBlock = some g → w3.heap.size ≤ g) (ht : Touch [x] w3 w') : Both w0 w' h x f' v' (L.eraseIdx q) last := by
  obtain ⟨h1, h2, h3, h4⟩ := hh
  rw [← erase_filter L q y k.asc.nodup hq] at h1
  refine Both.full k.hr ⟨h1.touch t3 (by simp), h2, h3, h4.trans t3 (by simp)⟩ (k.asc.erase q) hr (fun z hz => ?_) ht (by simp [Rh.foot])
  simp only [Rh.foot, List.mem_cons, Option.mem_toList] at hz ⊢
  rcases hz with rfl | hz
  · exact .inl (.inl rfl)
  · exact .inr (hv z hz)
theorem asc_set {L : List Itm} (ha : Asc L) {q : Nat} {y z : Itm} (hq : L[q]? = some y) (hz : z.id = y.id) : Asc (L.set q z) := by
  have h1 := ids_set hq hz
  have h2 : (L.map Itm.id).Pairwise (· < ·) := by rw [List.pairwise_map]; exact ha
  rw [← h1, List.pairwise_map] at h2
  exact h2
theorem upd_full {w0 w1 w2 w' : World} {h x q g n c : Nat} {f f' : List Nat} {L : List Itm} {last d : Int} {y : Itm} (k : Both w0 w1 h x f (.slice (some ⟨g, 0, none⟩) n c) L last)
    (hh : Bag w2 h f' (L.map (upd y.id d)) last ∧ (∀ z ∈ f', z ∉ Rh.foot x (.slice (some ⟨g, 0, none⟩) n c)) ∧ (∀ z ∈ f', w0.heap.size ≤ z) ∧ Touch [] w0 w2) (hq : L[q]? = some y)
    (hr : Rh w' x (.slice (some ⟨g, 0, none⟩) n c) (L.set q ⟨y.id, d, y.x⟩) last) (ht : Touch [g] w2 w') : Both w0 w' h x f' (.slice (some ⟨g, 0, none⟩) n c) (L.set q ⟨y.id, d, y.x⟩) last := by
  obtain ⟨h1, h2, h3, h4⟩ := hh
  rw [← set_upd k.asc.nodup hq] at h1
  exact Both.full k.hr ⟨h1, h2, h3, h4⟩ (asc_set k.asc hq rfl) hr (fun z hz => .inl hz) ht (by simp [Rh.foot, Value.ownBlock])
def Rel3 (w wr : World) (h x i : Nat) : Prop := ∃ f v L last, Both w wr h x f v L last ∧ last ≤ i ∧ L.length ≤ i
theorem both_start {w w1 : World} {h : Nat} {f : List Nat} (hb : Bag w1 h f [] 0) (hf : ∀ y ∈ f, w.heap.size ≤ y) (ht : Touch [] w w1) : Rel3 w (w1.alloc (.cells #[.slice none 0 0, .int .i64 0] 28)) h w1.heap.size 0 := by
  have t := (Touch.refl [] w1).alloc (.cells #[.slice none 0 0, .int .i64 0] 28)
  have hlt := hb.lt
  refine ⟨f, .slice none 0 0, [], 0, ⟨hb.touch t (by simp), ⟨heap_alloc_new w1 _, World.ownsRow_nil _ _ _ _, by simp, by simp [Value.ownBlock], by simp⟩, List.Pairwise.nil, ?_, hf, ?_, ht.trans t (by simp)⟩, by omega, by simp⟩
  · intro y hy hm
    simp [Rh.foot, Value.ownBlock] at hm
    have := hlt y hy
    omega
  · intro y hy
    simp [Rh.foot, Value.ownBlock] at hy
    have := ht.size
    omega
set_option maxRecDepth 100000 in
set_option maxHeartbeats 4000000 in
theorem walk3 (v : Value) (b : Nat) (l : List Opn) (w : World) (hr : Rd w 4 b v (l.map encO)) (hl : ∀ o ∈ l, OkO o) :
    Calls Try.prog 3 #[v] w fun e w' => e = .returned (.bool true) ∧ Touch [] w w' := by
  obtain ⟨a, cap, rfl, hc, hm⟩ := hr.form
  rw [List.length_map] at hc hr ⊢
  go_enter Try.func3, Try.ntmps3
  go_wp2_with fail
  refine (Bag.new w).mono ?_
  rintro e w1 ⟨h, f, rfl, hb, hf, ht⟩
  have H1 := Lib.hid (both_start hb hf ht)
  clear hb hf ht
  go_wp2_with fail
  generalize w1.alloc (.cells #[.slice none 0 0, .int .i64 0] 28) = w2 at *
  generalize w1.heap.size = x at *
  go_loopw [5] (fun vi wr => ∃ (i : Nat), vi = .int .i64 i ∧ i ≤ l.length ∧ i ≤ 80 ∧ Rel3 w wr h x i) (fun vi _ => l.length - (intOf vi).toNat)
  case atStart => exact ⟨0, rfl, by omega, by omega, H1.out⟩
  case round =>
    obtain ⟨i, rfl, hil, hi80, hrel⟩ := hrel
    obtain ⟨f1, v1, L, last, hB, hlast, hLl⟩ := hrel
    have HB := Lib.hid hB
    clear hB
    by_cases hlt : i < l.length
    · by_cases hlt2 : i < 80
      · have ho := List.getElem?_eq_getElem hlt
        have hok := hl _ (List.getElem_mem hlt)
        generalize l[i] = o at ho hok
        have HO := Lib.hid ho
        have HOK := Lib.hid hok
        obtain ⟨off, rfl, p0, p1, p2, p3⟩ := rd_opn (hr.touch HB.out.t (by simp)) ho
        have hb1 : (i : Int) < (l.length : Int) := by omega
        have hb2 : (i : Int) < 80 := by omega
        have hwi : IntKind.i64.wrap ((i : Int) + 1) = (i : Int) + 1 := by rw [IntKind.wrap_i64] <;> omega
        have tB := (Touch.refl [] wr).alloc (.cells #[.int .i64 o.kind, .int .i64 o.id, .int .u64 o.due, .int .i64 o.x] 31)
        have gB := heap_alloc_new wr (.cells #[.int .i64 o.kind, .int .i64 o.id, .int .u64 o.due, .int .i64 o.x] 31)
        obtain ⟨b0, b1, b2, b3⟩ := cells_four gB
        have HB1 := Lib.hid (HB.out.touch tB)
        have hfB := Lib.hid (show ∀ y ∈ f1, y ≠ wr.heap.size from fun y hy e => by have := HB.out.bag.lt y hy; omega)
        have hrB := Lib.hid (show ∀ y ∈ Rh.foot x v1, y ≠ wr.heap.size from fun y hy e => by have := HB.out.rh.lt y hy; omega)
        clear ho hok
        go_upto_if 43 with (first | (refine wpList_store_new rfl 31 _ _ rfl _ _ [.int .i64 o.kind, .int .i64 o.id, .int .u64 o.due, .int .i64 o.x] (by rfl) (by rfl) rfl info31 (by intro u hu; simp at hu; rcases hu with rfl | rfl | rfl | rfl <;> rfl) ?_) | (go_at_call 9; refine (mod_any _ _ _ (by omega) (by omega)).mono ?_; rintro e w' ⟨rfl, rfl⟩))
        generalize wr.alloc (.cells #[.int .i64 o.kind, .int .i64 o.id, .int .u64 o.due, .int .i64 o.x] 31) = W at *
        generalize wr.heap.size = B at *
        have HTB := Lib.hid tB
        have HGB := Lib.hid gB
        clear p0 p1 p2 p3 gB tB
        go_cut [7] from 24 to 164 (fun s7 wx => ∃ id : Int, s7 = .int .i64 id ∧ okK id ∧ wx = W)
        case first =>
          by_cases hm8 : gmod o.id 9 < 8
          · go_wp2_with (go_at_call 9; refine (mod_any _ _ _ (by omega) (by omega)).mono ?_; rintro e w' ⟨rfl, rfl⟩)
            go_meet
            have h1 := gmod_lo o.id 30 (by omega)
            have h2 := gmod_hi o.id 30 (by omega)
            exact ⟨gmod o.id 30, rfl, okK_of (by omega) (by omega), rfl⟩
          · go_wp2_with fail
            go_meet
            exact ⟨o.id, rfl, HOK.out.1, rfl⟩
        case rest =>
          obtain ⟨id, rfl, hid, rfl⟩ := hcut
          have HID := Lib.hid hid
          clear hid
          obtain ⟨m, hmk⟩ : ∃ m, m = gmod o.kind 8 := ⟨_, rfl⟩
          have hm0 : 0 ≤ m := by rw [hmk]; exact gmod_lo _ _ (by omega)
          have hm8 : m < 8 := by rw [hmk]; exact gmod_hi _ _ (by omega)
          have HMK := Lib.hid hmk
          clear hmk
          go_upto_block 2 with (first
            | (go_at_call 9; refine (mod_any _ _ _ (by omega) (by omega)).mono ?_; rintro e w' ⟨rfl, rfl⟩; rw [← HMK.out])
            | (go_at_call 10; refine (rfind_any x v1 L last _ HB1.out.rh id).mono ?_; rintro e w' ⟨rfl, rfl⟩))
          generalize hia : ixOf L id = ia at *
          have HIA := Lib.hid hia
          clear hia
          go_cut [9, 11, 12, 13, 14] from 24 to 164 (fun s9 s11 s12 s13 s14 wx => s9 = .bool true ∧ Rel3 w wx h x (i + 1))
          case first =>
            have hgo : m < 4 ∨ m = 4 ∨ (4 < m ∧ m < 7) ∨ m = 7 := by omega
            rcases hgo with hm4 | hm4 | hm4 | hm4
            · clear hm0 hm8
              go_wp2_with fail
              have HBd := Lib.hid (HB1.out.touch ((Touch.refl [] wc).drew))
              refine wp_region_held (S := fun w' => w'.heap[B]? = some (.cells #[.int .i64 o.kind, .int .i64 o.id, .int .u64 o.due, .int .i64 o.x] 31 (0, 0))) (by kernel_rfl) ?_
              change wpAnyH _ _ _ _ _ _ _ _ wc.drew
              have hS : wc.drew.heap[B]? = some (.cells #[.int .i64 o.kind, .int .i64 o.id, .int .u64 o.due, .int .i64 o.x] 31 (0, 0)) := HGB.out
              generalize wc.drew = W at *
              refine wpAnyH_take (i := 0) (oi := { dst := some 67, op := Op.move (Operand.tmp 3), type := 23, pos := "law.go:91", after := #[], guard := none }) (v := .pointer (some ⟨h, 0, none⟩)) rfl (by kernel_rfl) (by kernel_rfl) (by kernel_rfl) (fun _ _ _ h => h) (Or.inl ⟨by rfl, fun w' hw => by go_simp⟩) hS ?_
              try simp only [Act.put, List.setIfInBounds_toArray, List.set_cons_zero, List.set_cons_succ]
              refine wpAnyH_take (i := 1) (oi := { dst := some 68, op := Op.fieldAddr 31 (Operand.tmp 6) 2, type := 0, pos := "law.go:91", after := #[], guard := none }) (v := .pointer (some ⟨B, 2, none⟩)) rfl (by kernel_rfl) (by kernel_rfl) (by kernel_rfl) (fun _ _ _ h => h) (Or.inl ⟨by rfl, fun w' hw => by go_simp⟩) hS ?_
              try simp only [Act.put, List.setIfInBounds_toArray, List.set_cons_zero, List.set_cons_succ]
              refine wpAnyH_take (i := 2) (oi := { dst := some 69, op := Op.load 29 (Operand.tmp 68), type := 29, pos := "law.go:91", after := #[{ on := 1, ground := Ground.data }], guard := none }) (v := .int .u64 o.due) rfl (by kernel_rfl) (by kernel_rfl) (by kernel_rfl) (fun _ _ _ h => h) (Or.inl ⟨by rfl, fun w' hw => by (obtain ⟨q0, q1, q2, q3⟩ := cells_four hw; go_simp)⟩) hS ?_
              try simp only [Act.put, List.setIfInBounds_toArray, List.set_cons_zero, List.set_cons_succ]
              refine wpAnyH_take (i := 4) (oi := { dst := some 71, op := Op.fieldAddr 31 (Operand.tmp 6) 3, type := 0, pos := "law.go:91", after := #[], guard := none }) (v := .pointer (some ⟨B, 3, none⟩)) rfl (by kernel_rfl) (by kernel_rfl) (by kernel_rfl) (fun _ _ _ h => h) (Or.inl ⟨by rfl, fun w' hw => by go_simp⟩) hS ?_
              try simp only [Act.put, List.setIfInBounds_toArray, List.set_cons_zero, List.set_cons_succ]
              refine wpAnyH_take (i := 5) (oi := { dst := some 72, op := Op.load 3 (Operand.tmp 71), type := 3, pos := "law.go:91", after := #[{ on := 4, ground := Ground.data }], guard := none }) (v := .int .i64 o.x) rfl (by kernel_rfl) (by kernel_rfl) (by kernel_rfl) (fun _ _ _ h => h) (Or.inl ⟨by rfl, fun w' hw => by (obtain ⟨q0, q1, q2, q3⟩ := cells_four hw; go_simp)⟩) hS ?_
              try simp only [Act.put, List.setIfInBounds_toArray, List.set_cons_zero, List.set_cons_succ]
              refine wpAnyH_take (i := 7) (oi := { dst := some 74, op := Op.move (Operand.tmp 4), type := 25, pos := "law.go:91", after := #[], guard := none }) (v := .pointer (some ⟨x, 0, none⟩)) rfl (by kernel_rfl) (by kernel_rfl) (by kernel_rfl) (fun _ _ _ h => h) (Or.inl ⟨by rfl, fun w' hw => by go_simp⟩) hS ?_
              try simp only [Act.put, List.setIfInBounds_toArray, List.set_cons_zero, List.set_cons_succ]
              refine wpAnyH_take (i := 8) (oi := { dst := some 75, op := Op.fieldAddr 31 (Operand.tmp 6) 2, type := 0, pos := "law.go:91", after := #[], guard := none }) (v := .pointer (some ⟨B, 2, none⟩)) rfl (by kernel_rfl) (by kernel_rfl) (by kernel_rfl) (fun _ _ _ h => h) (Or.inl ⟨by rfl, fun w' hw => by go_simp⟩) hS ?_
              try simp only [Act.put, List.setIfInBounds_toArray, List.set_cons_zero, List.set_cons_succ]
              refine wpAnyH_take (i := 9) (oi := { dst := some 76, op := Op.load 29 (Operand.tmp 75), type := 29, pos := "law.go:91", after := #[{ on := 8, ground := Ground.data }], guard := none }) (v := .int .u64 o.due) rfl (by kernel_rfl) (by kernel_rfl) (by kernel_rfl) (fun _ _ _ h => h) (Or.inl ⟨by rfl, fun w' hw => by (obtain ⟨q0, q1, q2, q3⟩ := cells_four hw; go_simp)⟩) hS ?_
              try simp only [Act.put, List.setIfInBounds_toArray, List.set_cons_zero, List.set_cons_succ]
              refine wpAnyH_take (i := 11) (oi := { dst := some 78, op := Op.fieldAddr 31 (Operand.tmp 6) 3, type := 0, pos := "law.go:91", after := #[], guard := none }) (v := .pointer (some ⟨B, 3, none⟩)) rfl (by kernel_rfl) (by kernel_rfl) (by kernel_rfl) (fun _ _ _ h => h) (Or.inl ⟨by rfl, fun w' hw => by go_simp⟩) hS ?_
              try simp only [Act.put, List.setIfInBounds_toArray, List.set_cons_zero, List.set_cons_succ]
              refine wpAnyH_take (i := 12) (oi := { dst := some 79, op := Op.load 3 (Operand.tmp 78), type := 3, pos := "law.go:91", after := #[{ on := 11, ground := Ground.data }], guard := none }) (v := .int .i64 o.x) rfl (by kernel_rfl) (by kernel_rfl) (by kernel_rfl) (fun _ _ _ h => h) (Or.inl ⟨by rfl, fun w' hw => by (obtain ⟨q0, q1, q2, q3⟩ := cells_four hw; go_simp)⟩) hS ?_
              try simp only [Act.put, List.setIfInBounds_toArray, List.set_cons_zero, List.set_cons_succ]
              refine wpAnyH_ready (rs := [3]) (by kernel_rfl) (by simp) ?_
              refine AllReadyH.cons (o := { dst := some 70, op := Op.call { callee := Callee.value (Operand.func 12), args := #[Operand.tmp 69], argTypes := #[29] }, type := 29, pos := "law.go:91", after := #[{ on := 2, ground := Ground.data }], guard := none }) rfl (fun K hK => ?_) AllReadyH.nil
              go_simp
              refine (someDue_any o.due _ (u64_lo HOK.out.2) (u64_hi HOK.out.2)).mono ?_
              rintro e w' ⟨rfl, hw'⟩
              rw [hw']
              refine hK.out _ _ hS (fun _ => ?_)
              clear hK K hw'
              try simp only [Act.put, List.setIfInBounds_toArray, List.set_cons_zero, List.set_cons_succ]
              refine wpAnyH_ready (rs := [6]) (by kernel_rfl) (by simp) ?_
              refine AllReadyH.cons (o := { dst := some 73, op := Op.call { callee := Callee.value (Operand.func 11), args := #[Operand.tmp 67, Operand.tmp 70, Operand.tmp 72], argTypes := #[23, 29, 3] }, type := 3, pos := "law.go:91", after := #[{ on := 0, ground := Ground.data }, { on := 3, ground := Ground.data }, { on := 5, ground := Ground.data }, { on := 3, ground := Ground.chain }], guard := none }) rfl (fun K hK => ?_) AllReadyH.nil
              go_simp
              refine (HBd.out.bag.push (sd o.due) (.int .i64 o.x) rfl (by omega) (by omega)).mono ?_
              rintro e w3 ⟨rfl, hn3⟩
              have HF := Lib.hid (HBd.out.half hn3)
              have hS2 : w3.heap[B]? = some (.cells #[.int .i64 o.kind, .int .i64 o.id, .int .u64 o.due, .int .i64 o.x] 31 (0, 0)) := by
                obtain ⟨f', _, _, ht'⟩ := hn3
                exact ht'.at hS (fun hm => hfB.out B hm rfl)
              refine hK.out _ _ hS2 (fun _ => ?_)
              clear hK K hS hn3
              have hS := hS2
              clear hS2
              try simp only [Act.put, List.setIfInBounds_toArray, List.set_cons_zero, List.set_cons_succ]
              refine wpAnyH_ready (rs := [10]) (by kernel_rfl) (by simp) ?_
              refine AllReadyH.cons (o := { dst := some 77, op := Op.call { callee := Callee.value (Operand.func 12), args := #[Operand.tmp 76], argTypes := #[29] }, type := 29, pos := "law.go:91", after := #[{ on := 9, ground := Ground.data }, { on := 6, ground := Ground.chain }], guard := none }) rfl (fun K hK => ?_) AllReadyH.nil
              go_simp
              refine (someDue_any o.due _ (u64_lo HOK.out.2) (u64_hi HOK.out.2)).mono ?_
              rintro e w' ⟨rfl, hw'⟩
              rw [hw']
              refine hK.out _ _ hS (fun _ => ?_)
              clear hK K hw'
              try simp only [Act.put, List.setIfInBounds_toArray, List.set_cons_zero, List.set_cons_succ]
              refine wpAnyH_ready (rs := [13]) (by kernel_rfl) (by simp) ?_
              refine AllReadyH.cons (o := { dst := some 80, op := Op.call { callee := Callee.value (Operand.func 13), args := #[Operand.tmp 74, Operand.tmp 77, Operand.tmp 79], argTypes := #[25, 29, 3] }, type := 3, pos := "law.go:91", after := #[{ on := 7, ground := Ground.data }, { on := 10, ground := Ground.data }, { on := 12, ground := Ground.data }, { on := 10, ground := Ground.chain }], guard := none }) rfl (fun K hK => ?_) AllReadyH.nil
              go_simp
              obtain ⟨f3, hb3, hr3, hap3, hf3, ht3⟩ := HF.out
              have hlo := hb3.lo
              refine (rpush_any x v1 L last w3 hr3 (sd o.due) o.x ⟨HBd.out.bag.lo.1, by omega⟩ (by omega)).mono ?_
              rintro e w4 ⟨rfl, v4, hr4, hv4, ht4⟩
              have HB4 := Lib.hid (Both.full HBd.out.hr ⟨hb3, hap3, hf3, ht3⟩ (asc_snoc HBd.out.asc HBd.out.bag _ _) hr4 hv4 ht4 (fun y hy => hy))
              have hS2 : w4.heap[B]? = some (.cells #[.int .i64 o.kind, .int .i64 o.id, .int .u64 o.due, .int .i64 o.x] 31 (0, 0)) := ht4.at hS (fun hm => hrB.out B hm rfl)
              refine hK.out _ _ hS2 (fun _ => ?_)
              clear hK K hS hb3 hr3 hap3 hf3 ht3 hr4 hv4 ht4 hlo
              have hS := hS2
              clear hS2
              try simp only [Act.put, List.setIfInBounds_toArray, List.set_cons_zero, List.set_cons_succ]
              refine wpAnyH_take (i := 14) (oi := { dst := some 81, op := Op.binOp BinOp.eql 3 (Operand.tmp 73) (Operand.tmp 80) 3, type := 4, pos := "law.go:91", after := #[{ on := 6, ground := Ground.data }, { on := 13, ground := Ground.data }], guard := none }) (v := .bool true) rfl (by kernel_rfl) (by kernel_rfl) (by kernel_rfl) (fun _ _ _ h => h) (Or.inl ⟨by rfl, fun w' hw => by go_simp⟩) hS ?_
              try simp only [Act.put, List.setIfInBounds_toArray, List.set_cons_zero, List.set_cons_succ]
              refine wpAnyH_take (i := 15) (oi := { dst := some 9, op := Op.assign (Operand.tmp 81), type := 4, pos := "law.go:91", after := #[{ on := 14, ground := Ground.data }, { on := 13, ground := Ground.chain }, { on := 0, ground := Ground.phase }, { on := 1, ground := Ground.phase }, { on := 2, ground := Ground.phase }, { on := 3, ground := Ground.phase }, { on := 4, ground := Ground.phase }, { on := 5, ground := Ground.phase }, { on := 6, ground := Ground.phase }, { on := 7, ground := Ground.phase }, { on := 8, ground := Ground.phase }, { on := 9, ground := Ground.phase }, { on := 10, ground := Ground.phase }, { on := 11, ground := Ground.phase }, { on := 12, ground := Ground.phase }, { on := 13, ground := Ground.phase }, { on := 14, ground := Ground.phase }], guard := none }) (v := .bool true) rfl (by kernel_rfl) (by kernel_rfl) (by kernel_rfl) (fun _ _ _ h => h) (Or.inl ⟨by rfl, fun w' hw => by go_simp⟩) hS ?_
              try simp only [Act.put, List.setIfInBounds_toArray, List.set_cons_zero, List.set_cons_succ]
              refine wpAnyH_done (by kernel_rfl) ?_ _
              clear hS
              go_wp2_with fail
              go_meet
              exact ⟨rfl, _, _, _, _, HB4.out, by omega, by simp; omega⟩
            · subst hm4
              have HM := HMK
              clear hm0 hm8
              by_cases hL : L = []
              · have HBe := Lib.hid (show Both w wc h x f1 v1 [] last by rw [← hL]; exact HB1.out)
                have HLn := Lib.hid hL
                clear hL
                go_wp2_with fail
                refine HBe.out.bag.pop_no.mono ?_
                rintro e w3 ⟨rfl, t3⟩
                have HB3 := Lib.hid (HBe.out.touch t3)
                clear t3
                go_wp2_with fail
                refine (reports_none x v1 [] last w3 HB3.out.rh rfl).mono ?_
                rintro e w4 ⟨rfl, t4⟩
                have HB4 := Lib.hid (HB3.out.touch t4)
                clear t4
                go_wp2_with fail
                refine (rfirst_any x v1 [] last w4 HB4.out.rh).mono ?_
                rintro e w5 ⟨at5, rfl, hf5, t5⟩
                have h5 : at5 = -1 := by
                  rcases hf5 with ⟨_, e⟩ | ⟨q, y, _, hq, _⟩
                  · exact e
                  · simp at hq
                subst h5
                have HB5 := Lib.hid (HB4.out.touch t5)
                clear t5 hf5
                go_wp2_with fail
                go_meet
                exact ⟨rfl, _, _, _, _, HB5.out, by omega, by simp⟩
              · obtain ⟨y, hyL, hmin⟩ := HB1.out.bag.least hL
                obtain ⟨z, hz⟩ := HB1.out.rh.one y hyL
                obtain ⟨q, hq⟩ := mem_at (List.Perm.refl L) hyL
                have HY := Lib.hid hyL
                have HMIN := Lib.hid hmin
                have HQ := Lib.hid hq
                have hql := (List.getElem?_eq_some_iff.1 hq).1
                have HPOP := Lib.hid (HB1.out.bag.pop y hyL hmin)
                rw [hz] at HPOP
                have HZ := Lib.hid hz
                clear hyL hmin hq hL hz
                go_wp2_with fail
                refine HPOP.out.mono ?_
                rintro e w3 ⟨rfl, hn3⟩
                have HF := Lib.hid (HB1.out.half hn3)
                clear hn3
                obtain ⟨f3, hb3, hr3, hap3, hf3, ht3⟩ := HF.out
                have HH := Lib.hid (⟨hb3, hap3, hf3, ht3⟩ : _ ∧ (∀ y ∈ f3, y ∉ Rh.foot x v1) ∧ (∀ y ∈ f3, w.heap.size ≤ y) ∧ Touch [] w w3)
                have HR3 := Lib.hid hr3
                clear hb3 hr3 hap3 hf3 ht3 HF
                go_wp2_with fail
                refine (reports_some x v1 L last w3 HR3.out HB1.out.asc y z HZ.out HY.out HMIN.out).mono ?_
                rintro e w4 ⟨rfl, t4⟩
                have T4 := Lib.hid t4
                clear t4
                go_wp2_with fail
                refine (rfirst_at x v1 L last w4 (HR3.out.touch T4.out (by simp)) HB1.out.asc q y HQ.out HMIN.out).mono ?_
                rintro e w5 ⟨rfl, t5⟩
                have T5 := Lib.hid (T4.out.trans t5 (by simp))
                have hq0 : (0 : Int) ≤ (q : Int) := by omega
                clear t5
                go_wp2_with fail
                refine (rfirst_at x v1 L last w5 (HR3.out.touch T5.out (by simp)) HB1.out.asc q y HQ.out HMIN.out).mono ?_
                rintro e w6 ⟨rfl, t6⟩
                have T6 := Lib.hid (T5.out.trans t6 (by simp))
                clear t6
                go_wp2_with fail
                refine (rremove_any x v1 L last w6 (HR3.out.touch T6.out (by simp)) q hql).mono ?_
                rintro e w7 ⟨rfl, v7, hr7, hv7, ht7⟩
                have HB7 := Lib.hid (rem_full HB1.out HH.out HQ.out T6.out hr7 hv7 ht7)
                clear hr7 hv7 ht7
                go_wp2_with fail
                go_meet
                exact ⟨rfl, _, _, _, _, HB7.out, by omega, by rw [List.length_eraseIdx_of_lt hql]; omega⟩
            · obtain ⟨hm5, hm7⟩ := hm4
              have hme : ¬ m = 4 := by omega
              have hme2 : ¬ m < 4 := by omega
              clear hm0 hm8
              by_cases hex : ∃ y ∈ L, y.id = id
              · obtain ⟨y, hyL, rfl⟩ := hex
                obtain ⟨q, hq⟩ := mem_at (List.Perm.refl L) hyL
                have hql := (List.getElem?_eq_some_iff.1 hq).1
                have hix := ixOf_ids HB1.out.asc.nodup hq rfl
                have hq0 : (0 : Int) ≤ (q : Int) := by omega
                have hqb : (q : Int) < (L.length : Int) := by omega
                have HQ := Lib.hid hq
                have HY := Lib.hid hyL
                have hia : ia = (q : Int) := HIA.out.symm.trans hix
                subst hia
                clear hq hyL hix
                go_wp2_with fail
                refine (someDue_any o.due _ (u64_lo HOK.out.2) (u64_hi HOK.out.2)).mono ?_
                rintro e w3 ⟨rfl, rfl⟩
                go_wp2_with fail
                refine (HB1.out.bag.update y (sd o.due) HY.out).mono ?_
                rintro e w3 ⟨rfl, hn3⟩
                have HF := Lib.hid (HB1.out.half hn3)
                have hg3 : w3.heap[B]? = some (.cells #[.int .i64 o.kind, .int .i64 o.id, .int .u64 o.due, .int .i64 o.x] 31 (0, 0)) := by
                  obtain ⟨f', _, _, ht'⟩ := hn3
                  exact ht'.at HGB.out (fun hm => hfB.out B hm rfl)
                obtain ⟨b0, b1, b2, b3⟩ := cells_four hg3
                clear hn3 hg3
                obtain ⟨f3, hb3, hr3, hap3, hf3, ht3⟩ := HF.out
                have HH := Lib.hid (⟨hb3, hap3, hf3, ht3⟩ : _ ∧ (∀ y ∈ f3, y ∉ Rh.foot x v1) ∧ (∀ y ∈ f3, w.heap.size ≤ y) ∧ Touch [] w w3)
                have HR3 := Lib.hid hr3
                clear hb3 hr3 hap3 hf3 ht3 HF
                obtain ⟨av, cv, rfl, hv1, hv2, hv3⟩ := HR3.out.form
                obtain ⟨g, rfl, hgx⟩ := hv3 (by omega)
                obtain ⟨c0, c1⟩ := HR3.out.cells
                obtain ⟨e0, e1, e2⟩ := HR3.out.elem HQ.out
                have fz := owns_frozen HR3.out.row (q * 3 + 1)
                clear hv3
                go_wp2_with fail
                refine wp_region_still_tail 10 (by kernel_rfl) (by kernel_rfl) ?_
                simp only [List.take_succ_cons, List.take_zero, List.drop_succ_cons, List.drop_zero]
                iterate 7 still_step
                still_call (someDue_any o.due _ (u64_lo HOK.out.2) (u64_hi HOK.out.2))
                iterate 2 still_step
                refine wpStill_nil ?_
                change wpList _ _ _ _ _ w3.drew
                have HR4 := HR3.out.touch ((Touch.refl [] w3).drew) (by simp)
                obtain ⟨p5, t5⟩ := HR4.due HQ.out (sd o.due)
                have HB5 := Lib.hid (upd_full HB1.out HH.out HQ.out p5 (((Touch.refl [] w3).drew.mono (by simp)).trans t5 (fun y hy => .inl hy)))
                clear p5 t5 HR4
                go_wp2_with fail
                go_meet
                exact ⟨rfl, _, _, _, _, HB5.out, by omega, by rw [List.length_set]; omega⟩
              · have hno : ∀ y ∈ L, y.id ≠ id := fun y hy e => hex ⟨y, hy, e⟩
                have hix := ixOf_none hno
                have HNO := Lib.hid hno
                have hia : ia = -1 := HIA.out.symm.trans hix
                subst hia
                clear hno hix hex
                go_wp2_with fail
                refine (someDue_any o.due _ (u64_lo HOK.out.2) (u64_hi HOK.out.2)).mono ?_
                rintro e w3 ⟨rfl, rfl⟩
                go_wp2_with fail
                refine (HB1.out.bag.update_no id (sd o.due) HID.out HNO.out).mono ?_
                rintro e w3 ⟨rfl, rfl⟩
                go_wp2_with fail
                go_meet
                exact ⟨rfl, _, _, _, _, HB1.out, by omega, by omega⟩
            · subst hm4
              have HM := HMK
              clear hm0 hm8
              by_cases hex : ∃ y ∈ L, y.id = id
              · obtain ⟨y, hyL, rfl⟩ := hex
                obtain ⟨q, hq⟩ := mem_at (List.Perm.refl L) hyL
                have hql := (List.getElem?_eq_some_iff.1 hq).1
                have hix := ixOf_ids HB1.out.asc.nodup hq rfl
                have hq0 : (0 : Int) ≤ (q : Int) := by omega
                have HQ := Lib.hid hq
                have HY := Lib.hid hyL
                have hia : ia = (q : Int) := HIA.out.symm.trans hix
                subst hia
                clear hq hyL hix
                go_wp2_with fail
                refine (HB1.out.bag.remove y HY.out).mono ?_
                rintro e w3 ⟨rfl, hn3⟩
                have HF := Lib.hid (HB1.out.half hn3)
                clear hn3
                obtain ⟨f3, hb3, hr3, hap3, hf3, ht3⟩ := HF.out
                have HH := Lib.hid (⟨hb3, hap3, hf3, ht3⟩ : _ ∧ (∀ y ∈ f3, y ∉ Rh.foot x v1) ∧ (∀ y ∈ f3, w.heap.size ≤ y) ∧ Touch [] w w3)
                have HR3 := Lib.hid hr3
                clear hb3 hr3 hap3 hf3 ht3 HF
                go_wp2_with fail
                refine (rremove_any x v1 L last w3 HR3.out q hql).mono ?_
                rintro e w7 ⟨rfl, v7, hr7, hv7, ht7⟩
                have HB7 := Lib.hid (rem_full HB1.out HH.out HQ.out (Touch.refl _ _) hr7 hv7 ht7)
                clear hr7 hv7 ht7
                go_wp2_with fail
                go_meet
                exact ⟨rfl, _, _, _, _, HB7.out, by omega, by rw [List.length_eraseIdx_of_lt hql]; omega⟩
              · have hno : ∀ y ∈ L, y.id ≠ id := fun y hy e => hex ⟨y, hy, e⟩
                have hix := ixOf_none hno
                have HNO := Lib.hid hno
                have hia : ia = -1 := HIA.out.symm.trans hix
                subst hia
                clear hno hix hex
                go_wp2_with fail
                refine (HB1.out.bag.remove_no id HID.out HNO.out).mono ?_
                rintro e w3 ⟨rfl, rfl⟩
                go_wp2_with fail
                go_meet
                exact ⟨rfl, _, _, _, _, HB1.out, by omega, by omega⟩
          case rest =>
            obtain ⟨rfl, f5, v5, L5, last5, hB5, hla5, hL5⟩ := hcut
            have HB5 := Lib.hid hB5
            clear hB5 b0 b1 b2 b3
            go_upto_region 29 with (fail)
            go_cut [15, 16, 17, 18] from 24 to 164 (fun s15 s16 s17 s18 wx => ∃ (ra rb rc : Int) (rd : Bool), s15 = .int .i64 ra ∧ s16 = .int .u64 rb ∧ s17 = .int .i64 rc ∧ s18 = .bool rd ∧ Both w wx h x f5 v5 L5 last5 ∧ ∀ w', Touch [] wx w' → Calls Try.prog 15 #[.int .i64 ra, .int .u64 rb, .int .i64 rc, .bool rd, .pointer (some ⟨x, 0, none⟩)] w' fun e w'' => e = .returned (.bool true) ∧ Touch [] w' w'')
            case first =>
              by_cases hL : L5 = []
              · subst hL
                go_wp2_with fail
                refine HB5.out.bag.min_no.mono ?_
                rintro e w3 ⟨rfl, t3⟩
                have HB6 := Lib.hid (HB5.out.touch t3)
                clear t3
                go_wp2_with fail
                go_meet
                exact ⟨0, 0, 0, false, rfl, rfl, rfl, rfl, HB6.out, fun w' t => reports_none x v5 [] last5 w' (HB6.out.touch t).rh rfl⟩
              · obtain ⟨y, hyL, hmin⟩ := HB5.out.bag.least hL
                obtain ⟨z, hz⟩ := HB5.out.rh.one y hyL
                have HPM := Lib.hid (HB5.out.bag.min y hyL hmin)
                rw [hz] at HPM
                have HRP := Lib.hid (show ∀ w', Rh w' x v5 L5 last5 → Calls Try.prog 15 #[.int .i64 y.id, .int .u64 y.due, .int .i64 z, .bool true, .pointer (some ⟨x, 0, none⟩)] w' fun e w'' => e = .returned (.bool true) ∧ Touch [] w' w'' from fun w' k => reports_some x v5 L5 last5 w' k HB5.out.asc y z hz hyL hmin)
                clear hL hz hyL hmin
                go_wp2_with fail
                refine HPM.out.mono ?_
                rintro e w3 ⟨rfl, t3⟩
                have HB6 := Lib.hid (HB5.out.touch t3)
                clear t3
                go_wp2_with fail
                go_meet
                exact ⟨y.id, y.due, z, true, rfl, rfl, rfl, rfl, HB6.out, fun w' t => HRP.out w' (HB6.out.touch t).rh⟩
            case rest =>
              obtain ⟨ra, rb, rc, rd, rfl, rfl, rfl, rfl, hB6, hrep⟩ := hcut
              have HREP := Lib.hid hrep
              have HB6 := Lib.hid hB6
              clear hB6 hrep
              go_upto_region 30 with (fail)
              have hW0 := (Touch.refl [] wc).drew
              have HBd := Lib.hid (HB6.out.touch hW0)
              refine wp_region_held (S := Touch [] wc.drew) (by kernel_rfl) ?_
              change wpAnyH _ _ _ _ _ _ _ _ wc.drew
              have hS := Touch.refl [] wc.drew
              obtain ⟨av, cv, rfl, hv1, hv2, hv3⟩ := HBd.out.rh.form
              obtain ⟨c0, c1⟩ := HBd.out.rh.cells
              clear hv3 c1
              generalize wc.drew = W at *
              refine wpAnyH_take (i := 0) (oi := { dst := some 136, op := Op.move (Operand.tmp 9), type := 4, pos := "law.go:110", after := #[], guard := none }) (v := .bool true) rfl (by kernel_rfl) (by kernel_rfl) (by kernel_rfl) (fun _ _ _ h => h) (Or.inl ⟨by rfl, fun w' hw => by go_simp⟩) hS ?_
              try simp only [Act.put, List.setIfInBounds_toArray, List.set_cons_zero, List.set_cons_succ]
              refine wpAnyH_take (i := 1) (oi := { dst := some 137, op := Op.unOp UnOp.not 4 (Operand.tmp 136), type := 4, pos := "law.go:110", after := #[{ on := 0, ground := Ground.data }], guard := none }) (v := .bool false) rfl (by kernel_rfl) (by kernel_rfl) (by kernel_rfl) (fun _ _ _ h => h) (Or.inl ⟨by rfl, fun w' hw => by go_simp⟩) hS ?_
              try simp only [Act.put, List.setIfInBounds_toArray, List.set_cons_zero, List.set_cons_succ]
              refine wpAnyH_take (i := 2) (oi := { dst := some 138, op := Op.move (Operand.tmp 137), type := 4, pos := "law.go:110", after := #[{ on := 1, ground := Ground.data }], guard := none }) (v := .bool false) rfl (by kernel_rfl) (by kernel_rfl) (by kernel_rfl) (fun _ _ _ h => h) (Or.inl ⟨by rfl, fun w' hw => by go_simp⟩) hS ?_
              try simp only [Act.put, List.setIfInBounds_toArray, List.set_cons_zero, List.set_cons_succ]
              refine wpAnyH_take (i := 3) (oi := { dst := some 139, op := Op.move (Operand.tmp 15), type := 3, pos := "law.go:110", after := #[{ on := 2, ground := Ground.guard }], guard := some (2, false) }) (v := .int .i64 ra) rfl (by kernel_rfl) (by kernel_rfl) (by kernel_rfl) (fun _ _ _ h => h) (Or.inl ⟨by rfl, fun w' hw => by go_simp⟩) hS ?_
              try simp only [Act.put, List.setIfInBounds_toArray, List.set_cons_zero, List.set_cons_succ]
              refine wpAnyH_take (i := 4) (oi := { dst := some 140, op := Op.move (Operand.tmp 16), type := 29, pos := "law.go:110", after := #[{ on := 2, ground := Ground.guard }], guard := some (2, false) }) (v := .int .u64 rb) rfl (by kernel_rfl) (by kernel_rfl) (by kernel_rfl) (fun _ _ _ h => h) (Or.inl ⟨by rfl, fun w' hw => by go_simp⟩) hS ?_
              try simp only [Act.put, List.setIfInBounds_toArray, List.set_cons_zero, List.set_cons_succ]
              refine wpAnyH_take (i := 5) (oi := { dst := some 141, op := Op.move (Operand.tmp 17), type := 3, pos := "law.go:110", after := #[{ on := 2, ground := Ground.guard }], guard := some (2, false) }) (v := .int .i64 rc) rfl (by kernel_rfl) (by kernel_rfl) (by kernel_rfl) (fun _ _ _ h => h) (Or.inl ⟨by rfl, fun w' hw => by go_simp⟩) hS ?_
              try simp only [Act.put, List.setIfInBounds_toArray, List.set_cons_zero, List.set_cons_succ]
              refine wpAnyH_take (i := 6) (oi := { dst := some 142, op := Op.move (Operand.tmp 18), type := 4, pos := "law.go:110", after := #[{ on := 2, ground := Ground.guard }], guard := some (2, false) }) (v := .bool rd) rfl (by kernel_rfl) (by kernel_rfl) (by kernel_rfl) (fun _ _ _ h => h) (Or.inl ⟨by rfl, fun w' hw => by go_simp⟩) hS ?_
              try simp only [Act.put, List.setIfInBounds_toArray, List.set_cons_zero, List.set_cons_succ]
              refine wpAnyH_take (i := 7) (oi := { dst := some 143, op := Op.move (Operand.tmp 4), type := 25, pos := "law.go:110", after := #[{ on := 2, ground := Ground.guard }], guard := some (2, false) }) (v := .pointer (some ⟨x, 0, none⟩)) rfl (by kernel_rfl) (by kernel_rfl) (by kernel_rfl) (fun _ _ _ h => h) (Or.inl ⟨by rfl, fun w' hw => by go_simp⟩) hS ?_
              try simp only [Act.put, List.setIfInBounds_toArray, List.set_cons_zero, List.set_cons_succ]
              refine wpAnyH_ready (rs := [8]) (by kernel_rfl) (by simp) ?_
              refine AllReadyH.cons (o := { dst := some 144, op := Op.call { callee := Callee.value (Operand.func 15), args := #[Operand.tmp 139, Operand.tmp 140, Operand.tmp 141, Operand.tmp 142, Operand.tmp 143], argTypes := #[3, 29, 3, 4, 25] }, type := 4, pos := "law.go:110", after := #[{ on := 3, ground := Ground.data }, { on := 4, ground := Ground.data }, { on := 5, ground := Ground.data }, { on := 6, ground := Ground.data }, { on := 7, ground := Ground.data }, { on := 2, ground := Ground.chain }, { on := 2, ground := Ground.guard }], guard := some (2, false) }) rfl (fun K hK => ?_) AllReadyH.nil
              go_simp
              refine (HREP.out _ (hW0.trans hS (by simp))).mono ?_
              rintro e w3 ⟨rfl, t3⟩
              have hS2 := hS.trans t3 (by simp)
              refine hK.out _ _ hS2 (fun _ => ?_)
              clear hK K hS t3
              have hS := hS2
              clear hS2
              try simp only [Act.put, List.setIfInBounds_toArray, List.set_cons_zero, List.set_cons_succ]
              refine wpAnyH_take (i := 9) (oi := { dst := some 145, op := Op.unOp UnOp.not 4 (Operand.tmp 144), type := 4, pos := "law.go:110", after := #[{ on := 8, ground := Ground.data }, { on := 2, ground := Ground.guard }], guard := some (2, false) }) (v := .bool false) rfl (by kernel_rfl) (by kernel_rfl) (by kernel_rfl) (fun _ _ _ h => h) (Or.inl ⟨by rfl, fun w' hw => by go_simp⟩) hS ?_
              try simp only [Act.put, List.setIfInBounds_toArray, List.set_cons_zero, List.set_cons_succ]
              refine wpAnyH_take (i := 10) (oi := { dst := some 146, op := Op.pick (Operand.tmp 138) (Operand.const (Value.bool true)) (Operand.tmp 145), type := 4, pos := "law.go:110", after := #[{ on := 2, ground := Ground.data }, { on := 9, ground := Ground.data }], guard := none }) (v := .bool false) rfl (by kernel_rfl) (by kernel_rfl) (by kernel_rfl) (fun _ _ _ h => h) (Or.inl ⟨by rfl, fun w' hw => by go_simp⟩) hS ?_
              try simp only [Act.put, List.setIfInBounds_toArray, List.set_cons_zero, List.set_cons_succ]
              refine wpAnyH_take (i := 11) (oi := { dst := some 147, op := Op.move (Operand.tmp 146), type := 4, pos := "law.go:110", after := #[{ on := 10, ground := Ground.data }, { on := 8, ground := Ground.chain }], guard := none }) (v := .bool false) rfl (by kernel_rfl) (by kernel_rfl) (by kernel_rfl) (fun _ _ _ h => h) (Or.inl ⟨by rfl, fun w' hw => by go_simp⟩) hS ?_
              try simp only [Act.put, List.setIfInBounds_toArray, List.set_cons_zero, List.set_cons_succ]
              refine wpAnyH_take (i := 12) (oi := { dst := some 148, op := Op.move (Operand.tmp 3), type := 23, pos := "law.go:110", after := #[{ on := 11, ground := Ground.guard }], guard := some (11, false) }) (v := .pointer (some ⟨h, 0, none⟩)) rfl (by kernel_rfl) (by kernel_rfl) (by kernel_rfl) (fun _ _ _ h => h) (Or.inl ⟨by rfl, fun w' hw => by go_simp⟩) hS ?_
              try simp only [Act.put, List.setIfInBounds_toArray, List.set_cons_zero, List.set_cons_succ]
              refine wpAnyH_take (i := 14) (oi := { dst := some 150, op := Op.move (Operand.tmp 4), type := 25, pos := "law.go:110", after := #[{ on := 11, ground := Ground.guard }], guard := some (11, false) }) (v := .pointer (some ⟨x, 0, none⟩)) rfl (by kernel_rfl) (by kernel_rfl) (by kernel_rfl) (fun _ _ _ h => h) (Or.inl ⟨by rfl, fun w' hw => by go_simp⟩) hS ?_
              try simp only [Act.put, List.setIfInBounds_toArray, List.set_cons_zero, List.set_cons_succ]
              refine wpAnyH_take (i := 15) (oi := { dst := some 151, op := Op.nilCheck (Operand.tmp 150), type := 0, pos := "law.go:110", after := #[{ on := 14, ground := Ground.data }, { on := 11, ground := Ground.guard }], guard := some (11, false) }) (v := .pointer (some ⟨x, 0, none⟩)) rfl (by kernel_rfl) (by kernel_rfl) (by kernel_rfl) (fun _ _ _ h => h) (Or.inl ⟨by rfl, fun w' hw => by go_simp⟩) hS ?_
              try simp only [Act.put, List.setIfInBounds_toArray, List.set_cons_zero, List.set_cons_succ]
              refine wpAnyH_take (i := 16) (oi := { dst := some 152, op := Op.fieldAddr 28 (Operand.tmp 151) 0, type := 0, pos := "law.go:110", after := #[{ on := 15, ground := Ground.data }, { on := 11, ground := Ground.guard }], guard := some (11, false) }) (v := .pointer (some ⟨x, 0, none⟩)) rfl (by kernel_rfl) (by kernel_rfl) (by kernel_rfl) (fun _ _ _ h => h) (Or.inl ⟨by rfl, fun w' hw => by go_simp⟩) hS ?_
              try simp only [Act.put, List.setIfInBounds_toArray, List.set_cons_zero, List.set_cons_succ]
              refine wpAnyH_take (i := 17) (oi := { dst := some 153, op := Op.load 26 (Operand.tmp 152), type := 26, pos := "law.go:110", after := #[{ on := 16, ground := Ground.data }, { on := 11, ground := Ground.guard }], guard := some (11, false) }) (v := .slice av L5.length cv) rfl (by kernel_rfl) (by kernel_rfl) (by kernel_rfl) (fun _ _ _ h => h) (Or.inl ⟨by rfl, fun w' hw => by (have q := hw.cell c0 (by simp); go_simp)⟩) hS ?_
              try simp only [Act.put, List.setIfInBounds_toArray, List.set_cons_zero, List.set_cons_succ]
              refine wpAnyH_take (i := 18) (oi := { dst := some 154, op := Op.call { callee := Callee.builtin Builtin.len, args := #[Operand.tmp 153], argTypes := #[26] }, type := 3, pos := "law.go:110", after := #[{ on := 17, ground := Ground.data }, { on := 11, ground := Ground.guard }], guard := some (11, false) }) (v := .int .i64 L5.length) rfl (by kernel_rfl) (by kernel_rfl) (by kernel_rfl) (fun _ _ _ h => h) (Or.inl ⟨by rfl, fun w' hw => by go_simp⟩) hS ?_
              try simp only [Act.put, List.setIfInBounds_toArray, List.set_cons_zero, List.set_cons_succ]
              refine wpAnyH_ready (rs := [13]) (by kernel_rfl) (by simp) ?_
              refine AllReadyH.cons (o := { dst := some 149, op := Op.call { callee := Callee.value (Operand.func 21), args := #[Operand.tmp 148], argTypes := #[23] }, type := 3, pos := "law.go:110", after := #[{ on := 12, ground := Ground.data }, { on := 11, ground := Ground.chain }, { on := 11, ground := Ground.guard }], guard := some (11, false) }) rfl (fun K hK => ?_) AllReadyH.nil
              go_simp
              refine ((HBd.out.touch hS).bag.len).mono ?_
              rintro e w4 ⟨rfl, rfl⟩
              refine hK.out _ _ hS (fun _ => ?_)
              clear hK K
              try simp only [Act.put, List.setIfInBounds_toArray, List.set_cons_zero, List.set_cons_succ]
              refine wpAnyH_take (i := 19) (oi := { dst := some 155, op := Op.binOp BinOp.neq 3 (Operand.tmp 149) (Operand.tmp 154) 3, type := 4, pos := "law.go:110", after := #[{ on := 13, ground := Ground.data }, { on := 18, ground := Ground.data }, { on := 11, ground := Ground.guard }], guard := some (11, false) }) (v := .bool false) rfl (by kernel_rfl) (by kernel_rfl) (by kernel_rfl) (fun _ _ _ h => h) (Or.inl ⟨by rfl, fun w' hw => by go_simp⟩) hS ?_
              try simp only [Act.put, List.setIfInBounds_toArray, List.set_cons_zero, List.set_cons_succ]
              refine wpAnyH_take (i := 20) (oi := { dst := some 156, op := Op.pick (Operand.tmp 147) (Operand.const (Value.bool true)) (Operand.tmp 155), type := 4, pos := "law.go:110", after := #[{ on := 11, ground := Ground.data }, { on := 19, ground := Ground.data }], guard := none }) (v := .bool false) rfl (by kernel_rfl) (by kernel_rfl) (by kernel_rfl) (fun _ _ _ h => h) (Or.inl ⟨by rfl, fun w' hw => by go_simp⟩) hS ?_
              try simp only [Act.put, List.setIfInBounds_toArray, List.set_cons_zero, List.set_cons_succ]
              refine wpAnyH_take (i := 21) (oi := { dst := some 157, op := Op.move (Operand.tmp 156), type := 4, pos := "law.go:110", after := #[{ on := 20, ground := Ground.data }, { on := 13, ground := Ground.chain }], guard := none }) (v := .bool false) rfl (by kernel_rfl) (by kernel_rfl) (by kernel_rfl) (fun _ _ _ h => h) (Or.inl ⟨by rfl, fun w' hw => by go_simp⟩) hS ?_
              try simp only [Act.put, List.setIfInBounds_toArray, List.set_cons_zero, List.set_cons_succ]
              refine wpAnyH_take (i := 22) (oi := { dst := some 158, op := Op.move (Operand.tmp 3), type := 23, pos := "law.go:110", after := #[{ on := 21, ground := Ground.guard }], guard := some (21, false) }) (v := .pointer (some ⟨h, 0, none⟩)) rfl (by kernel_rfl) (by kernel_rfl) (by kernel_rfl) (fun _ _ _ h => h) (Or.inl ⟨by rfl, fun w' hw => by go_simp⟩) hS ?_
              try simp only [Act.put, List.setIfInBounds_toArray, List.set_cons_zero, List.set_cons_succ]
              refine wpAnyH_take (i := 24) (oi := { dst := some 160, op := Op.move (Operand.tmp 4), type := 25, pos := "law.go:110", after := #[{ on := 21, ground := Ground.guard }], guard := some (21, false) }) (v := .pointer (some ⟨x, 0, none⟩)) rfl (by kernel_rfl) (by kernel_rfl) (by kernel_rfl) (fun _ _ _ h => h) (Or.inl ⟨by rfl, fun w' hw => by go_simp⟩) hS ?_
              try simp only [Act.put, List.setIfInBounds_toArray, List.set_cons_zero, List.set_cons_succ]
              refine wpAnyH_ready (rs := [23]) (by kernel_rfl) (by simp) ?_
              refine AllReadyH.cons (o := { dst := some 159, op := Op.call { callee := Callee.value (Operand.func 23), args := #[Operand.tmp 158], argTypes := #[23] }, type := 46, pos := "law.go:110", after := #[{ on := 22, ground := Ground.data }, { on := 21, ground := Ground.chain }, { on := 21, ground := Ground.guard }], guard := some (21, false) }) rfl (fun K hK => ?_) AllReadyH.nil
              go_simp
              refine ((HBd.out.touch hS).bag.handles).mono ?_
              rintro e w5 ⟨vh, M, rfl, hM1, hM2, ho1, t5⟩
              have hS2 := hS.trans t5 (by simp)
              refine hK.out _ _ hS2 (fun _ => ?_)
              clear hK K hS t5
              have hS := hS2
              clear hS2
              try simp only [Act.put, List.setIfInBounds_toArray, List.set_cons_zero, List.set_cons_succ]
              refine wpAnyH_ready (rs := [25]) (by kernel_rfl) (by simp) ?_
              refine AllReadyH.cons (o := { dst := some 161, op := Op.call { callee := Callee.value (Operand.func 24), args := #[Operand.tmp 160], argTypes := #[25] }, type := 46, pos := "law.go:110", after := #[{ on := 24, ground := Ground.data }, { on := 23, ground := Ground.chain }, { on := 21, ground := Ground.guard }], guard := some (21, false) }) rfl (fun K hK => ?_) AllReadyH.nil
              go_simp
              refine (rhandles_any x _ L5 last5 w5 ((HBd.out.touch hS).rh) HBd.out.asc).mono ?_
              rintro e w6 ⟨vr, D, rfl, hD1, hD2, ho2, t6⟩
              have hMD : M = D := sorted_unique_ids (hM1.trans hD1.symm) hM2 hD2 ((hM1.map Itm.id).nodup_iff.2 HBd.out.asc.nodup)
              subst hMD
              have ho1' := ho1.touch t6 (by simp)
              have hS2 := hS.trans t6 (by simp)
              refine hK.out _ _ hS2 (fun _ => ?_)
              clear hK K hS t6
              have hS := hS2
              clear hS2
              try simp only [Act.put, List.setIfInBounds_toArray, List.set_cons_zero, List.set_cons_succ]
              refine wpAnyH_ready (rs := [26]) (by kernel_rfl) (by simp) ?_
              refine AllReadyH.cons (o := { dst := some 162, op := Op.call { callee := Callee.value (Operand.func 22), args := #[Operand.tmp 159, Operand.tmp 161], argTypes := #[46, 46] }, type := 4, pos := "law.go:110", after := #[{ on := 23, ground := Ground.data }, { on := 25, ground := Ground.data }, { on := 25, ground := Ground.chain }, { on := 21, ground := Ground.guard }], guard := some (21, false) }) rfl (fun K hK => ?_) AllReadyH.nil
              go_simp
              obtain ⟨bb1, r1⟩ := ho1'.rd
              obtain ⟨bb2, r2⟩ := ho2.rd
              refine (equal_self _ _ bb1 bb2 (M.map Itm.id) w6 (by rw [List.length_map, hM1.length_eq]; omega) r1 r2).mono ?_
              rintro e w7 ⟨rfl, t7⟩
              have hS2 := hS.trans t7 (by simp)
              refine hK.out _ _ hS2 (fun _ => ?_)
              clear hK K hS t7
              have hS := hS2
              clear hS2
              try simp only [Act.put, List.setIfInBounds_toArray, List.set_cons_zero, List.set_cons_succ]
              refine wpAnyH_take (i := 27) (oi := { dst := some 163, op := Op.unOp UnOp.not 4 (Operand.tmp 162), type := 4, pos := "law.go:110", after := #[{ on := 26, ground := Ground.data }, { on := 21, ground := Ground.guard }], guard := some (21, false) }) (v := .bool false) rfl (by kernel_rfl) (by kernel_rfl) (by kernel_rfl) (fun _ _ _ h => h) (Or.inl ⟨by rfl, fun w' hw => by go_simp⟩) hS ?_
              try simp only [Act.put, List.setIfInBounds_toArray, List.set_cons_zero, List.set_cons_succ]
              refine wpAnyH_take (i := 28) (oi := { dst := some 164, op := Op.pick (Operand.tmp 157) (Operand.const (Value.bool true)) (Operand.tmp 163), type := 4, pos := "law.go:110", after := #[{ on := 21, ground := Ground.data }, { on := 27, ground := Ground.data }], guard := none }) (v := .bool false) rfl (by kernel_rfl) (by kernel_rfl) (by kernel_rfl) (fun _ _ _ h => h) (Or.inl ⟨by rfl, fun w' hw => by go_simp⟩) hS ?_
              try simp only [Act.put, List.setIfInBounds_toArray, List.set_cons_zero, List.set_cons_succ]
              refine wpAnyH_done (by kernel_rfl) ?_ _
              have HB8 := Lib.hid (HBd.out.touch hS)
              clear hS ho1 ho1' ho2 hM1 hM2 hD1 hD2 c0
              go_wp2_with fail
              go_roundw
              case rel => exact ⟨i + 1, by simp, by omega, by omega, _, _, _, _, HB8.out, by simpa using hla5, hL5⟩
              case measure => simp [intOf]; omega
      · have hi2 : ¬ (i : Int) < 80 := by omega
        have hb1 : (i : Int) < (l.length : Int) := by omega
        go_wp2_with fail
        refine (awake_any _).mono ?_
        rintro e w3 ⟨rfl, t3⟩
        have T3 := Lib.hid (HB.out.t.trans t3 (by simp))
        clear t3
        go_wp2_with fail
        go_ret
        exact ⟨rfl, T3.out⟩
    · have hb1 : ¬ (i : Int) < (l.length : Int) := by omega
      go_wp2_with fail
      refine (awake_any _).mono ?_
      rintro e w3 ⟨rfl, t3⟩
      have T3 := Lib.hid (HB.out.t.trans t3 (by simp))
      clear t3
      go_wp2_with fail
      go_ret
      exact ⟨rfl, T3.out⟩
namespace heapMatchesModel
theorem walk {H : Type} {enc : TypeId × Value → H} {w : World} (v : Value) (hv : IsSlice enc Try.prog w 0 (fun _ => true) true [3, 3, 29, 3] v) :
    Calls Try.prog 3 #[v] w fun e w' => e = .returned (.bool true) ∧ Below w.heap.size w w' := by
  obtain ⟨b, l, hr, hl⟩ := opn_rows hv
  exact (walk3 v b l w hr hl).mono fun e w' ⟨h1, h2⟩ => ⟨h1, h2.below (by simp) (Nat.le_refl _)⟩
end heapMatchesModel
end Go.Proofs.Ytpbabdoecjlifaa

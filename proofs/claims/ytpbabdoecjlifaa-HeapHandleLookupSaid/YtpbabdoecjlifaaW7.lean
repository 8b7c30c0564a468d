/-
  The walk of HeapHandleLookup: true at every slice of due times and every two handles. No condition.
-/
import Derived.Test.YtpbabdoecjlifaaHu
import Derived.Test.YtpbabdoecjlifaaMd
import Derived.Test.YtpbabdoecjlifaaArg
namespace Go.Proofs.Ytpbabdoecjlifaa
open Go.ChangeShapes Go.WideShapes Go.RowKit Go.Sort
set_option linter.unusedVariables false
set_option linter.unusedSimpArgs false

/-- The cells of a uint64. -/
def encU (x : Int) : List Value := [.int .u64 x]
def U64 (x : Int) : Prop := (Lit.int .u64 x).wf = true
theorem u64_rows {H : Type} {enc : TypeId × Value → H} {w : World} {base : Nat} {spare : Nat → Bool} {held : Bool} {v : Value} (hv : IsSlice enc Try.prog w base spare held [29] v) : ∃ (b : Nat) (l : List Int), Rd w 1 b v (l.map encU) ∧ ∀ x ∈ l, U64 x := by
  obtain ⟨b, xs, hr, hx⟩ := slice_rows (by simp) hv
  have h : ∃ l : List Int, xs = l.map encU ∧ ∀ x ∈ l, U64 x := by
    clear hr
    induction xs with
    | nil => exact ⟨[], rfl, by simp⟩
    | cons x xs ih =>
      obtain ⟨l, rfl, hl⟩ := ih (fun y hy => hx y (List.mem_cons_of_mem _ hy))
      obtain ⟨hlen, hc⟩ := hx x List.mem_cons_self
      obtain ⟨v0, e0, l0⟩ := hc 0 29 rfl
      obtain ⟨a, rfl, wa⟩ := l0.int Try.underlying29
      refine ⟨a :: l, ?_, ?_⟩
      · match x, hlen with
        | [y], _ => simp at e0; rw [e0]; rfl
      · intro y hy
        rcases List.mem_cons.1 hy with rfl | hy
        · exact wa
        · exact hl y hy
  obtain ⟨l, rfl, hl⟩ := h
  exact ⟨b, l, hr, hl⟩
theorem rd_u64 {w : World} {b n cap : Nat} {a : Option Addr} {l : List Int} (h : Rd w 1 b (.slice a n cap) (l.map encU)) {i : Nat} {x : Int} (hi : l[i]? = some x) :
    ∃ off, a = some ⟨b, off, none⟩ ∧ w.cell? ⟨b, off + i, none⟩ = some (.int .u64 x) := by
  obtain ⟨off, ha, hat⟩ := h.at (by intro e; simp at e; subst e; simp at hi)
  have := hat i (encU x) (by simp [hi])
  have h0 := this 0 _ rfl
  rw [Nat.mul_one] at h0
  exact ⟨off, ha, h0⟩
def xr (x : Int) : Value := .int .u64 (bits .xor .u64 x 5)
def pl (l : List Int) (i : Nat) : List Itm := (List.range i).map fun (j : Nat) => ⟨(j : Int) + 1, l.getD j 0, xr (l.getD j 0)⟩
theorem pl_step (l : List Int) (i : Nat) (x : Int) (hx : l[i]? = some x) : pl l (i + 1) = pl l i ++ [⟨(i : Int) + 1, x, xr x⟩] := by
  simp [pl, List.range_succ, List.getD_eq_getElem?_getD, hx]
theorem pl_len (l : List Int) (i : Nat) : (pl l i).length = i := by simp [pl]
theorem pl_mem {l : List Int} {j n : Nat} {x : Int} (hx : l[j]? = some x) (hj : j < n) : (⟨(j : Int) + 1, x, xr x⟩ : Itm) ∈ pl l n := by
  refine List.mem_map.2 ⟨j, List.mem_range.2 hj, ?_⟩
  simp [List.getD_eq_getElem?_getD, hx]
theorem pl_id {l : List Int} {n : Nat} {y : Itm} (hy : y ∈ pl l n) : 1 ≤ y.id ∧ y.id ≤ n := by
  obtain ⟨j, hj, rfl⟩ := List.mem_map.1 hy
  have := List.mem_range.1 hj
  constructor <;> simp <;> omega
theorem HasU.t0 {w0 w : World} {h : Nat} {L : List Itm} {last : Int} (k : HasU w0 w h L last) : Touch [] w0 w := by
  obtain ⟨m, v, its, kv, hb, hp, hf, ht⟩ := k
  exact ht
set_option maxRecDepth 100000 in
set_option maxHeartbeats 2000000 in
theorem walk7 (v : Value) (b : Nat) (l : List Int) (id gone : Int) (w : World) (hr : Rd w 1 b v (l.map encU)) (hl : ∀ x ∈ l, U64 x) (hid : okK id) :
    Calls Try.prog 7 #[v, .int .i64 id, .int .i64 gone] w fun e w' => e = .returned (.bool true) ∧ Touch [] w w' := by
  obtain ⟨a, cap, rfl, hc, hm⟩ := hr.form
  rw [List.length_map] at hc hr ⊢
  have HID := Lib.hid hid
  clear hid
  obtain ⟨n, hn⟩ : ∃ n, n = min l.length 60 := ⟨_, rfl⟩
  have hn60 : n ≤ 60 := by omega
  have hnl : n ≤ l.length := by omega
  go_enter Try.func7, Try.ntmps7
  go_wp2_with fail
  refine (U.new_any w).mono ?_
  rintro e w1 ⟨h, m, v, rfl, hb, hf, ht⟩
  have H1 := Lib.hid (show HasU w w1 h [] 0 from ⟨m, v, [], [], hb, List.Perm.refl _, hf, ht⟩)
  clear hb hf ht
  go_wp2_with fail
  have hnI : min (l.length : Int) 60 = (n : Int) := by omega
  simp only [hnI]
  have HN := Lib.hid hn
  clear hn hnI
  go_loopw [9] (fun vi wr => ∃ (i : Nat), vi = .int .i64 i ∧ i ≤ n ∧ HasU w wr h (pl l i) i) (fun vi _ => n - (intOf vi).toNat)
  case atStart => exact ⟨0, rfl, by omega, H1.out⟩
  case round =>
    obtain ⟨i, rfl, hin, hh⟩ := hrel
    have HH := Lib.hid hh
    clear hh
    by_cases hlt : i < n
    · have hx : l[i]? = some l[i] := List.getElem?_eq_getElem (by omega)
      have hpl := pl_step l i _ hx
      generalize l[i] = x at hx hpl
      have HPL := Lib.hid hpl
      obtain ⟨off, rfl, p1⟩ := rd_u64 (hr.touch HH.out.t0 (by simp)) hx
      have hwi : IntKind.i64.wrap ((i : Int) + 1) = (i : Int) + 1 := by rw [IntKind.wrap_i64] <;> omega
      have hb1 : (i : Int) < (l.length : Int) := by omega
      have hb2 : (i : Int) < (n : Int) := by omega
      have HX := Lib.hid hx
      clear hx hpl
      go_wp2_with fail
      have HHd := Lib.hid (HH.out.touch ((Touch.refl [] wr).drew))
      refine wp_region_held (S := Touch [] w) (by kernel_rfl) ?_
      change wpAnyH _ _ _ _ _ _ _ _ wr.drew
      have hS := HHd.out.t0
      replace p1 := (rd_u64 hr (i := i) (x := x) HX.out)
      obtain ⟨off', hoff, p1⟩ := p1
      cases hoff
      generalize wr.drew = W at *
      refine wpAnyH_take (i := 0) (oi := { dst := some 26, op := Op.move (Operand.tmp 7), type := 66, pos := "law.go:180", after := #[], guard := none }) (v := .pointer (some ⟨h, 0, none⟩)) rfl (by kernel_rfl) (by kernel_rfl) (by kernel_rfl) (fun _ _ _ h => h) (Or.inl ⟨by rfl, fun w' hw => by go_simp⟩) hS ?_
      try simp only [Act.put, List.setIfInBounds_toArray, List.set_cons_zero, List.set_cons_succ]
      refine wpAnyH_take (i := 1) (oi := { dst := some 27, op := Op.move (Operand.tmp 0), type := 50, pos := "law.go:180", after := #[], guard := none }) (v := (.slice (some ⟨b, off, none⟩) l.length cap)) rfl (by kernel_rfl) (by kernel_rfl) (by kernel_rfl) (fun _ _ _ h => h) (Or.inl ⟨by rfl, fun w' hw => by go_simp⟩) hS ?_
      try simp only [Act.put, List.setIfInBounds_toArray, List.set_cons_zero, List.set_cons_succ]
      refine wpAnyH_take (i := 2) (oi := { dst := some 28, op := Op.move (Operand.tmp 9), type := 3, pos := "law.go:180", after := #[], guard := none }) (v := .int .i64 i) rfl (by kernel_rfl) (by kernel_rfl) (by kernel_rfl) (fun _ _ _ h => h) (Or.inl ⟨by rfl, fun w' hw => by go_simp⟩) hS ?_
      try simp only [Act.put, List.setIfInBounds_toArray, List.set_cons_zero, List.set_cons_succ]
      refine wpAnyH_take (i := 3) (oi := { dst := some 29, op := Op.indexAddr 50 (Operand.tmp 27) (Operand.tmp 28), type := 0, pos := "law.go:180", after := #[{ on := 1, ground := Ground.data }, { on := 2, ground := Ground.data }], guard := none }) (v := (.pointer (some ⟨b, off + i, none⟩))) rfl (by kernel_rfl) (by kernel_rfl) (by kernel_rfl) (fun _ _ _ h => h) (Or.inl ⟨by rfl, fun w' hw => by go_simp⟩) hS ?_
      try simp only [Act.put, List.setIfInBounds_toArray, List.set_cons_zero, List.set_cons_succ]
      refine wpAnyH_take (i := 4) (oi := { dst := some 30, op := Op.load 29 (Operand.tmp 29), type := 29, pos := "law.go:180", after := #[{ on := 3, ground := Ground.data }], guard := none }) (v := .int .u64 x) rfl (by kernel_rfl) (by kernel_rfl) (by kernel_rfl) (fun _ _ _ h => h) (Or.inl ⟨by rfl, fun w' hw => by (have q := hw.cell p1 (by simp); go_simp)⟩) hS ?_
      try simp only [Act.put, List.setIfInBounds_toArray, List.set_cons_zero, List.set_cons_succ]
      refine wpAnyH_take (i := 5) (oi := { dst := some 31, op := Op.move (Operand.tmp 0), type := 50, pos := "law.go:180", after := #[], guard := none }) (v := (.slice (some ⟨b, off, none⟩) l.length cap)) rfl (by kernel_rfl) (by kernel_rfl) (by kernel_rfl) (fun _ _ _ h => h) (Or.inl ⟨by rfl, fun w' hw => by go_simp⟩) hS ?_
      try simp only [Act.put, List.setIfInBounds_toArray, List.set_cons_zero, List.set_cons_succ]
      refine wpAnyH_take (i := 6) (oi := { dst := some 32, op := Op.move (Operand.tmp 9), type := 3, pos := "law.go:180", after := #[], guard := none }) (v := .int .i64 i) rfl (by kernel_rfl) (by kernel_rfl) (by kernel_rfl) (fun _ _ _ h => h) (Or.inl ⟨by rfl, fun w' hw => by go_simp⟩) hS ?_
      try simp only [Act.put, List.setIfInBounds_toArray, List.set_cons_zero, List.set_cons_succ]
      refine wpAnyH_take (i := 7) (oi := { dst := some 33, op := Op.indexAddr 50 (Operand.tmp 31) (Operand.tmp 32), type := 0, pos := "law.go:180", after := #[{ on := 5, ground := Ground.data }, { on := 6, ground := Ground.data }], guard := none }) (v := (.pointer (some ⟨b, off + i, none⟩))) rfl (by kernel_rfl) (by kernel_rfl) (by kernel_rfl) (fun _ _ _ h => h) (Or.inl ⟨by rfl, fun w' hw => by go_simp⟩) hS ?_
      try simp only [Act.put, List.setIfInBounds_toArray, List.set_cons_zero, List.set_cons_succ]
      refine wpAnyH_take (i := 8) (oi := { dst := some 34, op := Op.load 29 (Operand.tmp 33), type := 29, pos := "law.go:180", after := #[{ on := 7, ground := Ground.data }], guard := none }) (v := .int .u64 x) rfl (by kernel_rfl) (by kernel_rfl) (by kernel_rfl) (fun _ _ _ h => h) (Or.inl ⟨by rfl, fun w' hw => by (have q := hw.cell p1 (by simp); go_simp)⟩) hS ?_
      try simp only [Act.put, List.setIfInBounds_toArray, List.set_cons_zero, List.set_cons_succ]
      refine wpAnyH_take (i := 9) (oi := { dst := some 35, op := Op.binOp BinOp.xor 29 (Operand.tmp 34) (Operand.const (Value.int IntKind.u64 5)) 29, type := 29, pos := "law.go:180", after := #[{ on := 8, ground := Ground.data }], guard := none }) (v := xr x) rfl (by kernel_rfl) (by kernel_rfl) (by kernel_rfl) (fun _ _ _ h => h) (Or.inl ⟨by rfl, fun w' hw => by (go_simp; try rfl)⟩) hS ?_
      try simp only [Act.put, List.setIfInBounds_toArray, List.set_cons_zero, List.set_cons_succ]
      refine wpAnyH_take (i := 11) (oi := { dst := some 37, op := Op.move (Operand.tmp 9), type := 3, pos := "law.go:180", after := #[], guard := none }) (v := .int .i64 i) rfl (by kernel_rfl) (by kernel_rfl) (by kernel_rfl) (fun _ _ _ h => h) (Or.inl ⟨by rfl, fun w' hw => by go_simp⟩) hS ?_
      try simp only [Act.put, List.setIfInBounds_toArray, List.set_cons_zero, List.set_cons_succ]
      refine wpAnyH_take (i := 12) (oi := { dst := some 38, op := Op.binOp BinOp.add 3 (Operand.tmp 37) (Operand.const (Value.int IntKind.i64 1)) 3, type := 3, pos := "law.go:180", after := #[{ on := 11, ground := Ground.data }], guard := none }) (v := .int .i64 ((i : Int) + 1)) rfl (by kernel_rfl) (by kernel_rfl) (by kernel_rfl) (fun _ _ _ h => h) (Or.inl ⟨by rfl, fun w' hw => by go_simp⟩) hS ?_
      try simp only [Act.put, List.setIfInBounds_toArray, List.set_cons_zero, List.set_cons_succ]
      refine wpAnyH_ready (rs := [10]) (by kernel_rfl) (by simp) ?_
      refine AllReadyH.cons (o := { dst := some 36, op := Op.call { callee := Callee.value (Operand.func 38), args := #[Operand.tmp 26, Operand.tmp 30, Operand.tmp 35], argTypes := #[66, 29, 29] }, type := 3, pos := "law.go:180", after := #[{ on := 0, ground := Ground.data }, { on := 4, ground := Ground.data }, { on := 9, ground := Ground.data }], guard := none }) rfl (fun K hK => ?_) AllReadyH.nil
      go_simp
      refine (HHd.out.push x (xr x) rfl (by omega) (by rw [pl_len]; omega)).mono ?_
      rintro e w2 ⟨rfl, h2⟩
      have H2 := Lib.hid h2
      have hS2 := h2.t0
      refine hK.out _ _ hS2 (fun _ => ?_)
      clear hK K hS h2
      have hS := hS2
      clear hS2
      try simp only [Act.put, List.setIfInBounds_toArray, List.set_cons_zero, List.set_cons_succ]
      refine wpAnyH_take (i := 13) (oi := { dst := some 39, op := Op.binOp BinOp.neq 3 (Operand.tmp 36) (Operand.tmp 38) 3, type := 4, pos := "law.go:180", after := #[{ on := 10, ground := Ground.data }, { on := 12, ground := Ground.data }], guard := none }) (v := .bool false) rfl (by kernel_rfl) (by kernel_rfl) (by kernel_rfl) (fun _ _ _ h => h) (Or.inl ⟨by rfl, fun w' hw => by go_simp⟩) hS ?_
      try simp only [Act.put, List.setIfInBounds_toArray, List.set_cons_zero, List.set_cons_succ]
      refine wpAnyH_done (by kernel_rfl) ?_ _
      clear hS
      go_wp2_with fail
      go_roundw
      case rel => exact ⟨i + 1, by simp, by omega, by rw [HPL.out]; exact H2.out⟩
      case measure => simp [intOf]; omega
    · have hie : i = n := by omega
      have hb2 : ¬ (i : Int) < (n : Int) := by omega
      have HE := Lib.hid hie
      have HHn := Lib.hid (show HasU w wr h (pl l n) n by rw [← hie]; exact HH.out)
      clear hie HH
      by_cases hn0 : 0 < n
      · have hg0 : (0 : Int) < (n : Int) := by omega
        have hgn : (1 : Int) ≤ (n : Int) := by omega
        obtain ⟨q, hq⟩ : ∃ q : Nat, gmod gone n = (q : Int) := ⟨(gmod gone n).toNat, by have := gmod_lo gone n hgn; omega⟩
        have hqn : q < n := by have := gmod_hi gone n hgn; omega
        have hx : l[q]? = some l[q] := List.getElem?_eq_getElem (by omega)
        generalize l[q]'(by omega) = z at hx
        have hzm := Lib.hid (pl_mem hx hqn)
        have hwq : IntKind.i64.wrap (1 + (q : Int)) = (q : Int) + 1 := by rw [IntKind.wrap_i64] <;> omega
        have hok : okK ((q : Int) + 1) := U.okK_of (by omega) (by omega)
        have HQ := Lib.hid hq
        have HOK := Lib.hid hok
        clear hx hq hok
        go_wp2_with fail
        refine (mod_any gone n wr hgn (by omega)).mono ?_
        rintro e w2 ⟨rfl, rfl⟩
        rw [HQ.out]
        go_wp2_with fail
        refine (HHn.out.remove ⟨(q : Int) + 1, z, xr z⟩ hzm.out).mono ?_
        rintro e w3 ⟨rfl, h3⟩
        have HL := Lib.hid h3
        have HNO := Lib.hid (show ∀ y ∈ (pl l n).filter fun y => decide (y.id ≠ (q : Int) + 1), y.id ≠ (q : Int) + 1 from by intro y hy; simpa using (List.mem_filter.1 hy).2)
        clear h3
        go_wp2_with fail
        refine (HL.out.remove_no ((q : Int) + 1) HOK.out HNO.out).mono ?_
        rintro e w4 ⟨rfl, rfl⟩
        go_wp2_with fail
        refine (HL.out.update_no ((q : Int) + 1) 1 HOK.out HNO.out).mono ?_
        rintro e w4 ⟨rfl, rfl⟩
        go_wp2_with fail
        clear hwq hgn hg0 hb2
        by_cases i1 : 1 ≤ id
        · by_cases i2 : id ≤ (n : Int)
          · by_cases i3 : id = (q : Int) + 1
            · subst i3
              refine (HL.out.get_no _ HOK.out (by exact HNO.out)).mono ?_
              rintro e w7 ⟨rfl, rfl⟩
              go_wp2_with fail
              refine (awake_any _).mono ?_
              rintro e w8 ⟨rfl, t8⟩
              have T8 := Lib.hid (HL.out.t0.trans t8 (by simp))
              clear t8
              go_wp2_with fail
              go_ret
              exact ⟨rfl, T8.out⟩
            · skip
              obtain ⟨j, rfl⟩ : ∃ j : Nat, id = (j : Int) + 1 := ⟨(id - 1).toNat, by omega⟩
              have hjn : j < n := by omega
              have hx : l[j]? = some l[j] := List.getElem?_eq_getElem (by omega)
              generalize l[j]'(by omega) = x at hx
              have hxm : (⟨(j : Int) + 1, x, xr x⟩ : Itm) ∈ pl l n := pl_mem hx hjn
              refine (HL.out.get ⟨(j : Int) + 1, x, xr x⟩ (by simp only [List.mem_filter]; exact ⟨hxm, by simp; omega⟩)).mono ?_
              rintro e w7 ⟨rfl, t7⟩
              have HL7 := Lib.hid (HL.out.touch t7)
              clear t7 hxm
              have hjj : IntKind.i64.wrap ((j : Int) + 1 - 1) = (j : Int) := by rw [IntKind.wrap_i64] <;> omega
              have hjq : ((j : Int) + 1 != (q : Int) + 1) = true := by simpa using (show ¬ (j : Int) = (q : Int) by omega)
              have hjb : (j : Int) < (l.length : Int) := by omega
              have hjo : (1 : Int) ≤ (j : Int) + 1 := by omega
              have hj2 : (j : Int) + 1 ≤ (n : Int) := by omega
              have HX := Lib.hid hx
              clear hx
              go_wp2_with fail
              refine (awake_any _).mono ?_
              rintro e w8 ⟨rfl, t8⟩
              have T8 := Lib.hid (HL7.out.t0.trans t8 (by simp))
              obtain ⟨off, hoff, p1⟩ := rd_u64 (hr.touch T8.out (by simp)) HX.out
              subst hoff
              clear t8
              unfold xr
              go_wp2_with fail
              go_ret
              exact ⟨rfl, T8.out⟩
          · skip
            refine (HL.out.get_no id HID.out (by intro y hy e; have := (pl_id (List.mem_filter.1 hy).1).2; omega)).mono ?_
            rintro e w7 ⟨rfl, rfl⟩
            have i3 : (id != (q : Int) + 1) = true := by simpa using (show ¬ id = (q : Int) + 1 by omega)
            simp only []
            go_upto_region 16 with (fail)
            clear i3
            go_upto_region 17 with (fail)
            go_wp2_with fail
            refine (awake_any _).mono ?_
            rintro e w8 ⟨rfl, t8⟩
            have T8 := Lib.hid (HL.out.t0.trans t8 (by simp))
            clear t8
            go_wp2_with fail
            go_ret
            exact ⟨rfl, T8.out⟩
        · skip
          refine (HL.out.get_no id HID.out (by intro y hy e; have := (pl_id (List.mem_filter.1 hy).1).1; omega)).mono ?_
          rintro e w7 ⟨rfl, rfl⟩
          have i3 : (id != (q : Int) + 1) = true := by simpa using (show ¬ id = (q : Int) + 1 by omega)
          simp only []
          go_upto_region 16 with (fail)
          clear i3
          go_upto_region 17 with (fail)
          go_wp2_with fail
          refine (awake_any _).mono ?_
          rintro e w8 ⟨rfl, t8⟩
          have T8 := Lib.hid (HL.out.t0.trans t8 (by simp))
          clear t8
          go_wp2_with fail
          go_ret
          exact ⟨rfl, T8.out⟩
      · have hne : n = 0 := by omega
        have hg0 : ¬ (0 : Int) < (n : Int) := by omega
        have HL := HHn
        go_wp2_with fail
        by_cases i1 : 1 ≤ id
        · have i2 : ¬ id ≤ (n : Int) := by omega
          have HNE := Lib.hid hne
          clear hne
          refine (HL.out.get_no id HID.out (by intro y hy e; have := (pl_id hy).2; omega)).mono ?_
          rintro e w7 ⟨rfl, rfl⟩
          go_wp2_with fail
          refine (awake_any _).mono ?_
          rintro e w8 ⟨rfl, t8⟩
          have T8 := Lib.hid (HL.out.t0.trans t8 (by simp))
          clear t8
          go_wp2_with fail
          go_ret
          exact ⟨rfl, T8.out⟩
        · have HNE := Lib.hid hne
          clear hne
          refine (HL.out.get_no id HID.out (by intro y hy e; have := (pl_id hy).1; omega)).mono ?_
          rintro e w7 ⟨rfl, rfl⟩
          go_wp2_with fail
          refine (awake_any _).mono ?_
          rintro e w8 ⟨rfl, t8⟩
          have T8 := Lib.hid (HL.out.t0.trans t8 (by simp))
          clear t8
          go_wp2_with fail
          go_ret
          exact ⟨rfl, T8.out⟩
namespace heapHandleLookup
theorem walk {H : Type} {enc : TypeId × Value → H} {w : World} (v : Value) (hv : IsSlice enc Try.prog w 0 (fun _ => true) true [29] v) (id : Int) (hid : (Lit.int .i64 id).wf = true) (gone : Int) (_hg : (Lit.int .i64 gone).wf = true) :
    Calls Try.prog 7 #[v, .int .i64 id, .int .i64 gone] w fun e w' => e = .returned (.bool true) ∧ Below w.heap.size w w' := by
  obtain ⟨b, l, hr, hl⟩ := u64_rows hv
  exact (walk7 v b l id gone w hr hl hid).mono fun e w' ⟨h1, h2⟩ => ⟨h1, h2.below (by simp) (Nat.le_refl _)⟩
end heapHandleLookup
end Go.Proofs.Ytpbabdoecjlifaa

/-
  Merged texts: Rv, Bt, Vp, Px, Pt, Rr.
-/
import Derived.Test.YtecaakgpogabjaaDoorKB4
import Derived.Laws.BitsAllLaws

/-
  The contracts of the reference's Valid, BitLen, Bit.
-/
namespace Go.Proofs.YtecaakgpogabjaaDoor
open Go.RowKit
set_option linter.unusedVariables false
set_option linter.unusedSimpArgs false

theorem vld_false {xs : List Int} (h : okB xs) : vld false xs = true ↔ ∀ j, 4 ≤ j → j < 16 → xs[j]? = some 0 := by
  unfold vld
  simp only [Bool.false_or, List.all_eq_true]
  constructor
  · intro hz j hj hj2
    have hlt : j < xs.length := by rw [h.1]; omega
    have := hz (xs[j]) (by
      rw [List.mem_iff_getElem]
      exact ⟨j - 4, by simp; omega, by simp [show 4 + (j - 4) = j by omega]⟩)
    rw [List.getElem?_eq_getElem hlt]
    simpa using this
  · intro hz x hx
    obtain ⟨k, hk⟩ := List.getElem?_of_mem hx
    rw [List.getElem?_drop] at hk
    have hlt := (List.getElem?_eq_some_iff.1 hk).1
    rw [h.1] at hlt
    rw [hz (4 + k) (by omega) hlt] at hk
    simp at hk
    simp [← hk]
set_option maxRecDepth 100000 in
theorem rvalid_any (b : Bool) (xs : List Int) (h : okB xs) (w : World) :
    Calls Tryd.prog 38 #[.agg (adr b xs).toArray] w fun e w' => e = .returned (.bool (vld b xs)) ∧ Touch [] w w' := by
  have t0 := (Touch.refl [] w).alloc (.cells (adr b xs).toArray 28)
  have HG := Lib.hid (adr_cell (heap_alloc_new w (.cells (adr b xs).toArray 28)))
  have HT := Lib.hid t0
  have a0 : (adr b xs)[0]? = some (.bool b) := rfl
  clear t0
  cases b
  · have HV := Lib.hid (vld_false h)
    have hlen := h.1
    clear h
    go_enter Tryd.func38, Tryd.ntmps38
    go_wp2_with fail
    obtain ⟨W, hW⟩ : ∃ W, W = w.alloc (.cells (adr false xs).toArray 28) := ⟨_, rfl⟩
    rw [← hW] at HG HT
    simp only [← hW]
    obtain ⟨c0, cj⟩ := HG.out
    clear hW HG
    go_loopw [3] (fun vi wr => wr = W ∧ ∃ i : Nat, 4 ≤ i ∧ i ≤ 16 ∧ vi = .int .i64 i ∧ ∀ j, 4 ≤ j → j < i → xs[j]? = some 0) (fun vi _ => 16 - (intOf vi).toNat)
    case atStart => exact ⟨rfl, 4, by omega, by omega, rfl, by intro j h1 h2; omega⟩
    case round =>
      obtain ⟨hwr, i, hi4, hi, rfl, hz⟩ := hrel
      subst hwr
      by_cases hlt : i < 16
      · obtain ⟨x, hx⟩ : ∃ x, xs[i]? = some x := ⟨_, List.getElem?_eq_getElem (by omega)⟩
        have c1 := cj i x hx
        clear cj
        by_cases hx0 : x = 0
        · have HZ := Lib.hid (show ∀ j, 4 ≤ j → j < i + 1 → xs[j]? = some 0 by
            intro j h1 h2
            by_cases e : j = i
            · subst e; rw [hx, hx0]
            · exact hz j h1 (by omega))
          clear hz hx
          go_wp2_with fail
          go_roundw
          case rel => exact ⟨by trivial, i + 1, by omega, by omega, by go_num, HZ.out⟩
          case measure => simp [intOf]; omega
        · have HS := Lib.hid (show vld false xs = false by
            cases hv : vld false xs
            · rfl
            · have := HV.out.1 hv i hi4 hlt
              rw [hx] at this
              simp at this
              exact absurd this hx0)
          clear hz hx
          go_wp2_with fail
          go_ret
          exact ⟨by rw [HS.out]; rfl, HT.out⟩
      · have hie : i = 16 := by omega
        subst hie
        have HS := Lib.hid (HV.out.2 hz)
        clear hz cj
        go_wp2_with fail
        go_ret
        exact ⟨by rw [HS.out]; rfl, HT.out⟩
  · have HS := Lib.hid (show vld true xs = true from rfl)
    clear h
    go_enter Tryd.func38, Tryd.ntmps38
    go_wp2_with fail
    obtain ⟨W, hW⟩ : ∃ W, W = w.alloc (.cells (adr true xs).toArray 28) := ⟨_, rfl⟩
    rw [← hW] at HG HT
    simp only [← hW]
    obtain ⟨c0, _⟩ := HG.out
    clear hW HG
    go_loopw [3] (fun vi wr => wr = W ∧ vi = .int .i64 4) (fun vi _ => 0)
    case atStart => exact ⟨rfl, rfl⟩
    case round =>
      obtain ⟨hwr, rfl⟩ := hrel
      subst hwr
      go_wp2_with fail
      go_ret
      exact ⟨by rw [HS.out]; rfl, HT.out⟩
set_option maxRecDepth 100000 in
theorem rbitlen_any (b : Bool) (xs : List Int) (w : World) :
    Calls Tryd.prog 69 #[.agg (adr b xs).toArray] w fun e w' => e = .returned (.int .i64 (blen b)) ∧ Touch [] w w' := by
  have tA := (Touch.refl [] w).alloc (.cells (adr b xs).toArray 28)
  have a0 : (adr b xs)[0]? = some (.bool b) := rfl
  cases b
  · go_enter Tryd.func69, Tryd.ntmps69
    go_wp2_with fail
    go_ret
    exact ⟨rfl, tA⟩
  · go_enter Tryd.func69, Tryd.ntmps69
    go_wp2_with fail
    go_ret
    exact ⟨rfl, tA⟩
theorem and_one (y : Int) (h0 : 0 ≤ y) (h1 : y ≤ 255) : wrap64 (Go.bits .and .u8 y 1) = y % 2 := by
  have h := u8_and y 1 h0 (by omega) (by omega) (by omega)
  rw [h]
  have e : (1 : Int).toNat = 1 := rfl
  rw [e, Nat.and_one_is_mod]
  unfold wrap64
  omega
theorem div_le (x : Int) (k : Nat) (h0 : 0 ≤ x) (h1 : x ≤ 255) : 0 ≤ x / 2 ^ k ∧ x / 2 ^ k ≤ 255 := by
  have hp : (0 : Int) < 2 ^ k := Int.pow_pos (by omega)
  have a1 : 0 ≤ x / 2 ^ k := Int.ediv_nonneg h0 (by omega)
  have a2 : x / 2 ^ k ≤ x := Int.ediv_le_self _ h0
  omega
/-- Bit i, counted from the left. -/
def bitP (xs : List Int) (i : Nat) : Int := xs.getD (i / 8) 0 / 2 ^ (7 - i % 8) % 2
set_option maxRecDepth 100000 in
set_option maxHeartbeats 1000000 in
theorem rbit_any (b : Bool) (xs : List Int) (h : okB xs) (i : Nat) (hi : (i : Int) < blen b) (w : World) :
    Calls Tryd.prog 54 #[.agg (adr b xs).toArray, .int .i64 i] w fun e w' => e = .returned (.int .i64 (bitP xs i)) ∧ Touch [] w w' := by
  have hi128 : i < 128 := by unfold blen at hi; split at hi <;> omega
  have t0 := (Touch.refl [] w).alloc (.cells (adr b xs).toArray 28)
  have g0 := heap_alloc_new w (.cells (adr b xs).toArray 28)
  obtain ⟨x, hx⟩ : ∃ x, xs[i / 8]? = some x := ⟨_, List.getElem?_eq_getElem (by rw [h.1]; omega)⟩
  have hxr := h.2 x (List.mem_of_getElem? hx)
  have HL17 := Lib.hid (show (adr b xs).length = 17 by simp [adr, h.1])
  have R0 := range_block g0
  have HG := Lib.hid g0
  have HT := Lib.hid t0
  have HBL := Lib.hid (rbitlen_any b xs)
  have HE := Lib.hid (show bitP xs i = x / 2 ^ (7 - i % 8) % 2 by simp [bitP, hx])
  have hnb : ¬ (blen b ≤ (i : Int)) := by omega
  generalize blen b = bl at *
  have HX := Lib.hid hx
  clear h t0 g0 hx
  go_enter Tryd.func54, Tryd.ntmps54
  go_wp2_with ((with_reducible refine at_load_g 28 2 false ?_); refine wpList_load_gg 2 false rfl (by rfl) 28 _ rfl w.heap.size 0 rfl (adr b xs) _ R0 Tryd.underlying28 rfl (by rw [size31, HL17.out]) ?_)
  refine (HBL.out _).mono ?_
  rintro e w1 ⟨rfl, t1⟩
  have HT1 := Lib.hid (HT.out.trans t1 (by simp))
  have c1 := (adr_cell (t1.at HG.out (by simp))).2 (i / 8) x HX.out
  clear t1 R0 HT HG
  have HW := Lib.hid (and_one (x / 2 ^ (7 - i % 8)) (div_le x _ hxr.1 hxr.2).1 (div_le x _ hxr.1 hxr.2).2)
  go_wp2_with fail
  go_ret
  exact ⟨by rw [HE.out, ← HW.out]; rfl, HT1.out⟩
end Go.Proofs.YtecaakgpogabjaaDoor

/-
  Bits of addresses: what truncate leaves, told bit by bit.
-/
namespace Go.Proofs.YtecaakgpogabjaaDoor
open Go.RowKit
set_option linter.unusedVariables false
set_option linter.unusedSimpArgs false

theorem nat_bit (y m : Nat) : ((y : Int) / 2 ^ m % 2) = if y.testBit m then 1 else 0 := by
  rw [Nat.testBit_eq_decide_div_mod_eq]
  have : ((y : Int) / 2 ^ m % 2) = ((y / 2 ^ m % 2 : Nat) : Int) := by push_cast; rfl
  rw [this]
  have h := Nat.mod_two_eq_zero_or_one (y / 2 ^ m)
  rcases h with h | h <;> simp [h]
theorem mask_bit : ∀ k, k ≤ 8 → ∀ j, j < 8 → (255 * 2 ^ (8 - k) % 256 : Nat).testBit (7 - j) = decide (j < k) := by decide
theorem mask_cast (m : Nat) : (255 * 2 ^ m % 256 : Int) = ((255 * 2 ^ m % 256 : Nat) : Int) := by
  rw [Int.natCast_emod, Int.natCast_mul, Int.natCast_pow]
  rfl
theorem cutB_nat (bits : Int) (i : Nat) (x : Nat) (hx : x < 256) : cutB bits i x = ((x &&& (255 * 2 ^ (8 - (keep bits i).toNat) % 256) : Nat) : Int) := by
  have hk0 : 0 ≤ keep bits i := by unfold keep; omega
  have hk8 : keep bits i ≤ 8 := by unfold keep; omega
  unfold cutB
  have e : (8 - keep bits i).toNat = 8 - (keep bits i).toNat := by omega
  rw [e]
  rw [mask_cast, u8_and_nat x _ hx (Nat.mod_lt _ (by omega))]
theorem cutB_bit (bits : Int) (i : Nat) (x : Int) (h : 0 ≤ x ∧ x ≤ 255) (j : Nat) (hj : j < 8) : cutB bits i x / 2 ^ (7 - j) % 2 = if (8 * i + j : Int) < bits then x / 2 ^ (7 - j) % 2 else 0 := by
  obtain ⟨n, rfl⟩ := Int.eq_ofNat_of_zero_le h.1
  rw [cutB_nat bits i n (by omega), nat_bit, nat_bit, Nat.testBit_and]
  have hk0 : 0 ≤ keep bits i := by unfold keep; omega
  have hk8 : keep bits i ≤ 8 := by unfold keep; omega
  rw [mask_bit (keep bits i).toNat (by omega) j hj]
  have e : j < (keep bits i).toNat ↔ (8 * (i : Int) + j) < bits := by unfold keep; omega
  by_cases hb : (8 * (i : Int) + j) < bits
  · simp [hb, e.2 hb]
  · have : ¬ j < (keep bits i).toNat := fun q => hb (e.1 q)
    simp [hb, this]
theorem byte_ext (x y : Int) (hx : 0 ≤ x ∧ x ≤ 255) (hy : 0 ≤ y ∧ y ≤ 255) (h : ∀ j, j < 8 → x / 2 ^ (7 - j) % 2 = y / 2 ^ (7 - j) % 2) : x = y := by
  obtain ⟨a, rfl⟩ := Int.eq_ofNat_of_zero_le hx.1
  obtain ⟨b, rfl⟩ := Int.eq_ofNat_of_zero_le hy.1
  have : a = b := by
    apply Nat.eq_of_testBit_eq
    intro m
    by_cases hm : m < 8
    · have := h (7 - m) (by omega)
      rw [show 7 - (7 - m) = m by omega, nat_bit, nat_bit] at this
      cases ha : a.testBit m <;> cases hb : b.testBit m <;> simp [ha, hb] at this ⊢
    · rw [Nat.testBit_lt_two_pow (x := a), Nat.testBit_lt_two_pow (x := b)]
      · have : 2 ^ 8 ≤ 2 ^ m := Nat.pow_le_pow_right (by omega) (by omega)
        omega
      · have : 2 ^ 8 ≤ 2 ^ m := Nat.pow_le_pow_right (by omega) (by omega)
        omega
  rw [this]
theorem bit_trunc (bits : Int) (xs : List Int) (h : okB xs) (i : Nat) (hi : i < 128) : bitP (trunc bits xs) i = if (i : Int) < bits then bitP xs i else 0 := by
  obtain ⟨x, hx⟩ : ∃ x, xs[i / 8]? = some x := ⟨_, List.getElem?_eq_getElem (by rw [h.1]; omega)⟩
  have hr := h.2 x (List.mem_of_getElem? hx)
  have e1 : bitP (trunc bits xs) i = cutB bits (i / 8) x / 2 ^ (7 - i % 8) % 2 := by
    simp [bitP, trunc, List.getElem?_mapIdx, hx]
  have e2 : bitP xs i = x / 2 ^ (7 - i % 8) % 2 := by simp [bitP, hx]
  rw [e1, e2, cutB_bit bits (i / 8) x hr (i % 8) (Nat.mod_lt _ (by omega))]
  have : (8 * ((i / 8 : Nat) : Int) + ((i % 8 : Nat) : Int)) = (i : Int) := by omega
  rw [this]
theorem bits_ext (xs ys : List Int) (h : okB xs) (h' : okB ys) (hb : ∀ i, i < 128 → bitP xs i = bitP ys i) : xs = ys := by
  apply List.ext_getElem?
  intro k
  by_cases hk : k < 16
  · obtain ⟨x, hx⟩ : ∃ x, xs[k]? = some x := ⟨_, List.getElem?_eq_getElem (by rw [h.1]; omega)⟩
    obtain ⟨y, hy⟩ : ∃ y, ys[k]? = some y := ⟨_, List.getElem?_eq_getElem (by rw [h'.1]; omega)⟩
    rw [hx, hy]
    congr 1
    refine byte_ext x y (h.2 x (List.mem_of_getElem? hx)) (h'.2 y (List.mem_of_getElem? hy)) ?_
    intro j hj
    have := hb (8 * k + j) (by omega)
    have e1 : (8 * k + j) / 8 = k := by omega
    have e2 : (8 * k + j) % 8 = j := by omega
    simpa [bitP, e1, e2, hx, hy] using this
  · rw [List.getElem?_eq_none (by rw [h.1]; omega), List.getElem?_eq_none (by rw [h'.1]; omega)]
/-- A prefix that truncate leaves as it is has no bit behind its length. -/
theorem trunc_zero (bits : Int) (px : List Int) (h : okB px) (ht : trunc bits px = px) (i : Nat) (hi : i < 128) (hb : bits ≤ (i : Int)) : bitP px i = 0 := by
  have := bit_trunc bits px h i hi
  rw [ht, if_neg (by omega)] at this
  exact this
/-- The prefix contains the address, bit by bit. -/
theorem trunc_iff (bits : Int) (px xs : List Int) (hp : okB px) (hx : okB xs) (ht : trunc bits px = px) (hb : bits ≤ 128) : trunc bits xs = px ↔ ∀ i : Nat, (i : Int) < bits → bitP px i = bitP xs i := by
  constructor
  · intro h i hi
    have := bit_trunc bits xs hx i (by omega)
    rw [h, if_pos hi] at this
    exact this
  · intro h
    refine bits_ext _ _ (trunc_ok hx) hp ?_
    intro i hi
    rw [bit_trunc bits xs hx i hi]
    by_cases hlt : (i : Int) < bits
    · rw [if_pos hlt, h i hlt]
    · rw [if_neg hlt, trunc_zero bits px hp ht i hi (by omega)]
end Go.Proofs.YtecaakgpogabjaaDoor

/-
  The contracts of the reference's ValidPrefix and Contains at valid prefixes.
-/
namespace Go.Proofs.YtecaakgpogabjaaDoor
open Go.RowKit
set_option linter.unusedVariables false
set_option linter.unusedSimpArgs false

set_option maxRecDepth 100000 in
set_option maxHeartbeats 4000000 in
theorem vpfx_any (b : Bool) (px : List Int) (bits : Int) (hp : okB px) (hv : vld b px = true) (hb0 : 0 ≤ bits) (hb1 : bits ≤ blen b) (ht : trunc bits px = px) (w : World) :
    Calls Tryd.prog 53 #[.agg (pfx b px bits).toArray] w fun e w' => e = .returned (.bool true) ∧ Touch [] w w' := by
  obtain ⟨n0, rfl⟩ : ∃ n0 : Nat, bits = n0 := ⟨bits.toNat, by omega⟩
  have hb128 : blen b ≤ 128 := by unfold blen; split <;> omega
  have hblen0 : 0 ≤ blen b := by omega
  have R := range_new w (pfx b px (n0 : Int)) 52
  have t0 := ((Touch.refl [] w).alloc (.cells (pfx b px (n0 : Int)).toArray 52)).drew
  obtain ⟨r0, _, c17⟩ := pfx_rows hp.1 R
  have HL17 := Lib.hid (show (adr b px).length = 17 by simp [adr, hp.1])
  have HV := Lib.hid hv
  have HVA := Lib.hid (rvalid_any b px hp)
  have HBL := Lib.hid (rbitlen_any b px)
  have HBI := Lib.hid (fun i (hi : ((i : Nat) : Int) < blen b) => rbit_any b px hp i hi)
  have HZE := Lib.hid (fun (i : Nat) (hi : (i : Int) < blen b) (hb : (n0 : Int) ≤ (i : Int)) => trunc_zero n0 px hp ht i (by omega) hb)
  have hb0d : ¬ ((n0 : Int) < 0) := by omega
  have hb1d : ¬ (blen b < (n0 : Int)) := by omega
  clear hp hv ht R
  go_enter Tryd.func53, Tryd.ntmps53
  go_wp2_with fail
  obtain ⟨W, hW⟩ : ∃ W, W = (w.alloc (.cells (pfx b px (n0 : Int)).toArray 52)).drew := ⟨_, rfl⟩
  have rA : W.rangeAt w.heap.size 0 (adr b px) := by rw [hW]; exact r0
  have c17 : W.cell? ⟨w.heap.size, 17, none⟩ = some (.int .i64 (n0 : Int)) := by rw [hW]; exact c17
  refine wp_region_held (S := Touch [] W) (by kernel_rfl) ?_
  change wpAnyH _ _ _ _ _ _ _ _ (w.alloc (.cells (pfx b px (n0 : Int)).toArray 52)).drew
  rw [← hW] at t0 ⊢
  clear hW r0
  have T0 := Lib.hid t0
  clear t0
  have hS := Touch.refl [] W
  refine wpAnyH_take (i := 0) (oi := { dst := some 4, op := Op.fieldAddr 52 (Operand.tmp 1) 0, type := 0, pos := "ref.go:383", after := #[], guard := none }) (v := .pointer (some ⟨w.heap.size, 0, none⟩)) rfl (by kernel_rfl) (by kernel_rfl) (by kernel_rfl) (fun _ _ _ h => h) (Or.inl ⟨by rfl, fun w' hw => by go_simp⟩) hS ?_
  try simp only [Act.put, List.setIfInBounds_toArray, List.set_cons_zero, List.set_cons_succ]
  refine wpAnyH_take (i := 1) (oi := { dst := some 5, op := Op.load 28 (Operand.tmp 4), type := 28, pos := "ref.go:383", after := #[{ on := 0, ground := Ground.data }], guard := none }) (v := .agg (adr b px).toArray) rfl (by kernel_rfl) (by kernel_rfl) (by kernel_rfl) (fun _ _ _ h => h) (Or.inl ⟨by rfl, fun w' hw => exec_load_agg _ 28 _ rfl _ _ rfl (adr b px) _ (hw.range rA (by simp)) Tryd.underlying28 rfl (by rw [size31, HL17.out])⟩) hS ?_
  try simp only [Act.put, List.setIfInBounds_toArray, List.set_cons_zero, List.set_cons_succ]
  refine wpAnyH_ready (rs := [2]) (by kernel_rfl) (by simp) ?_
  refine AllReadyH.cons (o := { dst := some 6, op := Op.call { callee := Callee.value (Operand.func 38), args := #[Operand.tmp 5], argTypes := #[28] }, type := 4, pos := "ref.go:383", after := #[{ on := 1, ground := Ground.data }], guard := none }) rfl (fun K hK => ?_) AllReadyH.nil
  go_simp
  refine (HVA.out _).mono ?_
  rintro e w2 ⟨he, t2⟩
  rw [HV.out] at he
  subst he
  have hS2 := hS.trans t2 (by simp)
  refine hK.out _ _ hS2 (fun _ => ?_)
  clear hK K hS t2
  have hS := hS2
  clear hS2
  try simp only [Act.put, List.setIfInBounds_toArray, List.set_cons_zero, List.set_cons_succ]
  refine wpAnyH_take (i := 3) (oi := { dst := some 7, op := Op.unOp UnOp.not 4 (Operand.tmp 6), type := 4, pos := "ref.go:383", after := #[{ on := 2, ground := Ground.data }], guard := none }) (v := .bool false) rfl (by kernel_rfl) (by kernel_rfl) (by kernel_rfl) (fun _ _ _ h => h) (Or.inl ⟨by rfl, fun w' hw => by go_simp⟩) hS ?_
  try simp only [Act.put, List.setIfInBounds_toArray, List.set_cons_zero, List.set_cons_succ]
  refine wpAnyH_take (i := 4) (oi := { dst := some 8, op := Op.move (Operand.tmp 7), type := 4, pos := "ref.go:383", after := #[{ on := 3, ground := Ground.data }, { on := 2, ground := Ground.chain }], guard := none }) (v := .bool false) rfl (by kernel_rfl) (by kernel_rfl) (by kernel_rfl) (fun _ _ _ h => h) (Or.inl ⟨by rfl, fun w' hw => by go_simp⟩) hS ?_
  try simp only [Act.put, List.setIfInBounds_toArray, List.set_cons_zero, List.set_cons_succ]
  refine wpAnyH_take (i := 5) (oi := { dst := some 9, op := Op.fieldAddr 52 (Operand.tmp 1) 1, type := 0, pos := "ref.go:383", after := #[{ on := 4, ground := Ground.guard }], guard := some (4, false) }) (v := .pointer (some ⟨w.heap.size, 17, none⟩)) rfl (by kernel_rfl) (by kernel_rfl) (by kernel_rfl) (fun _ _ _ h => h) (Or.inl ⟨by rfl, fun w' hw => by go_simp⟩) hS ?_
  try simp only [Act.put, List.setIfInBounds_toArray, List.set_cons_zero, List.set_cons_succ]
  refine wpAnyH_take (i := 6) (oi := { dst := some 10, op := Op.load 3 (Operand.tmp 9), type := 3, pos := "ref.go:383", after := #[{ on := 5, ground := Ground.data }, { on := 4, ground := Ground.guard }], guard := some (4, false) }) (v := .int .i64 (n0 : Int)) rfl (by kernel_rfl) (by kernel_rfl) (by kernel_rfl) (fun _ _ _ h => h) (Or.inl ⟨by rfl, fun w' hw => by (have q := hw.cell c17 (by simp); go_simp)⟩) hS ?_
  try simp only [Act.put, List.setIfInBounds_toArray, List.set_cons_zero, List.set_cons_succ]
  refine wpAnyH_take (i := 7) (oi := { dst := some 11, op := Op.binOp BinOp.lss 3 (Operand.tmp 10) (Operand.const (Value.int IntKind.i64 0)) 3, type := 4, pos := "ref.go:383", after := #[{ on := 6, ground := Ground.data }, { on := 4, ground := Ground.guard }], guard := some (4, false) }) (v := .bool false) rfl (by kernel_rfl) (by kernel_rfl) (by kernel_rfl) (fun _ _ _ h => h) (Or.inl ⟨by rfl, fun w' hw => by (have q := hb0d; go_simp)⟩) hS ?_
  try simp only [Act.put, List.setIfInBounds_toArray, List.set_cons_zero, List.set_cons_succ]
  refine wpAnyH_take (i := 8) (oi := { dst := some 12, op := Op.pick (Operand.tmp 8) (Operand.const (Value.bool true)) (Operand.tmp 11), type := 4, pos := "ref.go:383", after := #[{ on := 4, ground := Ground.data }, { on := 7, ground := Ground.data }], guard := none }) (v := .bool false) rfl (by kernel_rfl) (by kernel_rfl) (by kernel_rfl) (fun _ _ _ h => h) (Or.inl ⟨by rfl, fun w' hw => by go_simp⟩) hS ?_
  try simp only [Act.put, List.setIfInBounds_toArray, List.set_cons_zero, List.set_cons_succ]
  refine wpAnyH_take (i := 9) (oi := { dst := some 13, op := Op.move (Operand.tmp 12), type := 4, pos := "ref.go:383", after := #[{ on := 8, ground := Ground.data }, { on := 4, ground := Ground.chain }], guard := none }) (v := .bool false) rfl (by kernel_rfl) (by kernel_rfl) (by kernel_rfl) (fun _ _ _ h => h) (Or.inl ⟨by rfl, fun w' hw => by go_simp⟩) hS ?_
  try simp only [Act.put, List.setIfInBounds_toArray, List.set_cons_zero, List.set_cons_succ]
  refine wpAnyH_take (i := 10) (oi := { dst := some 14, op := Op.fieldAddr 52 (Operand.tmp 1) 1, type := 0, pos := "ref.go:383", after := #[{ on := 9, ground := Ground.guard }], guard := some (9, false) }) (v := .pointer (some ⟨w.heap.size, 17, none⟩)) rfl (by kernel_rfl) (by kernel_rfl) (by kernel_rfl) (fun _ _ _ h => h) (Or.inl ⟨by rfl, fun w' hw => by go_simp⟩) hS ?_
  try simp only [Act.put, List.setIfInBounds_toArray, List.set_cons_zero, List.set_cons_succ]
  refine wpAnyH_take (i := 11) (oi := { dst := some 15, op := Op.load 3 (Operand.tmp 14), type := 3, pos := "ref.go:383", after := #[{ on := 10, ground := Ground.data }, { on := 9, ground := Ground.guard }], guard := some (9, false) }) (v := .int .i64 (n0 : Int)) rfl (by kernel_rfl) (by kernel_rfl) (by kernel_rfl) (fun _ _ _ h => h) (Or.inl ⟨by rfl, fun w' hw => by (have q := hw.cell c17 (by simp); go_simp)⟩) hS ?_
  try simp only [Act.put, List.setIfInBounds_toArray, List.set_cons_zero, List.set_cons_succ]
  refine wpAnyH_take (i := 12) (oi := { dst := some 16, op := Op.fieldAddr 52 (Operand.tmp 1) 0, type := 0, pos := "ref.go:383", after := #[{ on := 9, ground := Ground.guard }], guard := some (9, false) }) (v := .pointer (some ⟨w.heap.size, 0, none⟩)) rfl (by kernel_rfl) (by kernel_rfl) (by kernel_rfl) (fun _ _ _ h => h) (Or.inl ⟨by rfl, fun w' hw => by go_simp⟩) hS ?_
  try simp only [Act.put, List.setIfInBounds_toArray, List.set_cons_zero, List.set_cons_succ]
  refine wpAnyH_take (i := 13) (oi := { dst := some 17, op := Op.load 28 (Operand.tmp 16), type := 28, pos := "ref.go:383", after := #[{ on := 12, ground := Ground.data }, { on := 9, ground := Ground.guard }], guard := some (9, false) }) (v := .agg (adr b px).toArray) rfl (by kernel_rfl) (by kernel_rfl) (by kernel_rfl) (fun _ _ _ h => h) (Or.inl ⟨by rfl, fun w' hw => exec_load_agg _ 28 _ rfl _ _ rfl (adr b px) _ (hw.range rA (by simp)) Tryd.underlying28 rfl (by rw [size31, HL17.out])⟩) hS ?_
  try simp only [Act.put, List.setIfInBounds_toArray, List.set_cons_zero, List.set_cons_succ]
  refine wpAnyH_ready (rs := [14]) (by kernel_rfl) (by simp) ?_
  refine AllReadyH.cons (o := { dst := some 18, op := Op.call { callee := Callee.value (Operand.func 69), args := #[Operand.tmp 17], argTypes := #[28] }, type := 3, pos := "ref.go:383", after := #[{ on := 13, ground := Ground.data }, { on := 9, ground := Ground.chain }, { on := 9, ground := Ground.guard }], guard := some (9, false) }) rfl (fun K hK => ?_) AllReadyH.nil
  go_simp
  refine (HBL.out _).mono ?_
  rintro e w14 ⟨he, t14⟩
  subst he
  have hS2 := hS.trans t14 (by simp)
  refine hK.out _ _ hS2 (fun _ => ?_)
  clear hK K hS t14
  have hS := hS2
  clear hS2
  try simp only [Act.put, List.setIfInBounds_toArray, List.set_cons_zero, List.set_cons_succ]
  refine wpAnyH_take (i := 15) (oi := { dst := some 19, op := Op.binOp BinOp.gtr 3 (Operand.tmp 15) (Operand.tmp 18) 3, type := 4, pos := "ref.go:383", after := #[{ on := 11, ground := Ground.data }, { on := 14, ground := Ground.data }, { on := 9, ground := Ground.guard }], guard := some (9, false) }) (v := .bool false) rfl (by kernel_rfl) (by kernel_rfl) (by kernel_rfl) (fun _ _ _ h => h) (Or.inl ⟨by rfl, fun w' hw => by (have q := hb1d; go_simp)⟩) hS ?_
  try simp only [Act.put, List.setIfInBounds_toArray, List.set_cons_zero, List.set_cons_succ]
  refine wpAnyH_take (i := 16) (oi := { dst := some 20, op := Op.pick (Operand.tmp 13) (Operand.const (Value.bool true)) (Operand.tmp 19), type := 4, pos := "ref.go:383", after := #[{ on := 9, ground := Ground.data }, { on := 15, ground := Ground.data }], guard := none }) (v := .bool false) rfl (by kernel_rfl) (by kernel_rfl) (by kernel_rfl) (fun _ _ _ h => h) (Or.inl ⟨by rfl, fun w' hw => by go_simp⟩) hS ?_
  try simp only [Act.put, List.setIfInBounds_toArray, List.set_cons_zero, List.set_cons_succ]
  refine wpAnyH_done (by kernel_rfl) ?_ _
  try simp only [Act.put, List.setIfInBounds_toArray, List.set_cons_zero, List.set_cons_succ]
  have c17b := hS.cell c17 (by simp)
  have RA := Lib.hid rA
  have HS := Lib.hid hS
  clear hS c17 rA
  go_wp2_with fail
  go_loopw [3] (fun vi wr => ∃ i : Nat, n0 ≤ i ∧ (i : Int) ≤ blen b ∧ vi = .int .i64 i ∧ Touch [] W wr) (fun vi _ => 128 - (intOf vi).toNat)
  case atStart => exact ⟨n0, by omega, by omega, rfl, HS.out⟩
  case round =>
    obtain ⟨i, hi0, hi, rfl, hq⟩ := hrel
    have HQ := Lib.hid hq
    have RQ := hq.range RA.out (by simp)
    clear hq HS
    by_cases hlt : (i : Int) < blen b
    · have HBIT := Lib.hid (HBI.out i hlt)
      have HZ := Lib.hid (HZE.out i hlt (by omega))
      go_wp2_with ((with_reducible refine at_load 28 ?_); refine wpList_load_mid rfl 28 _ rfl w.heap.size 0 rfl (adr b px) _ RQ Tryd.underlying28 rfl (by rw [size31, HL17.out]) ?_)
      refine (HBL.out _).mono ?_
      rintro e w2 ⟨rfl, t2⟩
      have HQ2 := Lib.hid (HQ.out.trans t2 (by simp))
      have RQ2 := HQ2.out.range RA.out (by simp)
      clear t2 HQ RQ
      go_wp2_with ((with_reducible refine at_load 28 ?_); refine wpList_load_mid rfl 28 _ rfl w.heap.size 0 rfl (adr b px) _ RQ2 Tryd.underlying28 rfl (by rw [size31, HL17.out]) ?_)
      refine (HBIT.out _).mono ?_
      rintro e w3 ⟨he, t3⟩
      rw [HZ.out] at he
      subst he
      have HQ3 := Lib.hid (HQ2.out.trans t3 (by simp))
      clear t3 HQ2 RQ2
      go_wp2_with fail
      go_roundw
      case rel => exact ⟨i + 1, by omega, by omega, by go_num, HQ3.out⟩
      case measure => simp [intOf]; omega
    · go_wp2_with ((with_reducible refine at_load 28 ?_); refine wpList_load_mid rfl 28 _ rfl w.heap.size 0 rfl (adr b px) _ RQ Tryd.underlying28 rfl (by rw [size31, HL17.out]) ?_)
      refine (HBL.out _).mono ?_
      rintro e w2 ⟨rfl, t2⟩
      have HQ2 := Lib.hid (HQ.out.trans t2 (by simp))
      clear t2 HQ RQ
      go_wp2_with fail
      go_ret
      exact ⟨rfl, T0.out.trans HQ2.out (by simp)⟩
set_option maxRecDepth 100000 in
set_option maxHeartbeats 4000000 in
theorem rcont_any (b : Bool) (px : List Int) (bits : Int) (xs : List Int) (hp : okB px) (hv : vld b px = true) (hb0 : 0 ≤ bits) (hb1 : bits ≤ blen b) (ht : trunc bits px = px) (hx : okB xs) (hxv : vld b xs = true) (w : World) :
    Calls Tryd.prog 46 #[.agg (pfx b px bits).toArray, .agg (adr b xs).toArray] w fun e w' => e = .returned (.bool (decide (trunc bits xs = px))) ∧ Touch [] w w' := by
  obtain ⟨n0, rfl⟩ : ∃ n0 : Nat, bits = n0 := ⟨bits.toNat, by omega⟩
  have hb128 : blen b ≤ 128 := by unfold blen; split <;> omega
  have HIFF := Lib.hid (trunc_iff n0 px xs hp hx ht (by omega))
  have R := World.rangeAt_alloc (range_new w (pfx b px (n0 : Int)) 52) (.cells (adr b xs).toArray 28)
  have R1 := range_block (heap_alloc2_new w (.cells (pfx b px (n0 : Int)).toArray 52) (.cells (adr b xs).toArray 28))
  have t0 := (((Touch.refl [] w).alloc (.cells (pfx b px (n0 : Int)).toArray 52)).alloc (.cells (adr b xs).toArray 28))
  have HP18 := Lib.hid (show (pfx b px (n0 : Int)).length = 18 by simp [pfx, adr, hp.1])
  have HL17 := Lib.hid (show (adr b px).length = 17 by simp [adr, hp.1])
  have HX17 := Lib.hid (show (adr b xs).length = 17 by simp [adr, hx.1])
  have HXV := Lib.hid hxv
  have HVP := Lib.hid (vpfx_any b px n0 hp hv hb0 hb1 ht)
  have HVX := Lib.hid (rvalid_any b xs hx)
  have HBP := Lib.hid (fun i (hi : ((i : Nat) : Int) < blen b) => rbit_any b px hp i hi)
  have HBX := Lib.hid (fun i (hi : ((i : Nat) : Int) < blen b) => rbit_any b xs hx i hi)
  have T0 := Lib.hid t0
  have RP := R
  have RX := R1
  have HGX := Lib.hid (adr_cell (heap_alloc2_new w (.cells (pfx b px (n0 : Int)).toArray 52) (.cells (adr b xs).toArray 28)))
  have hpl := hp.1
  clear hp hv ht hx hxv t0 R R1
  go_enter Tryd.func46, Tryd.ntmps46
  go_wp2_with ((with_reducible refine at_load 52 ?_); refine wpList_load_mid rfl 52 _ rfl w.heap.size 0 rfl (pfx b px (n0 : Int)) _ RP Tryd.underlying52 rfl (by rw [sizeP, HP18.out]) ?_)
  refine (HVP.out _).mono ?_
  rintro e w2 ⟨rfl, t2⟩
  have HT2 := Lib.hid t2
  have RX2 := t2.range RX (by simp)
  clear t2
  go_wp2_with ((with_reducible refine at_load_g 28 3 false ?_); refine wpList_load_gg 3 false rfl (by rfl) 28 _ rfl (w.heap.size + 1) 0 rfl (adr b xs) _ RX2 Tryd.underlying28 rfl (by rw [size31, HX17.out]) ?_)
  refine (HVX.out _).mono ?_
  rintro e w3 ⟨he, t3⟩
  rw [HXV.out] at he
  subst he
  have HT3 := Lib.hid (HT2.out.trans t3 (by simp))
  have hr3 := HT3.out.range RP (by simp)
  obtain ⟨rP3, cb3, c173⟩ := pfx_rows hpl hr3
  have cx3 := HT3.out.cell HGX.out.1 (by simp)
  have RP3 := Lib.hid rP3
  have RX3 := Lib.hid (HT3.out.range RX (by simp))
  have T3 := Lib.hid (T0.out.trans HT3.out (by simp))
  have C173 := Lib.hid c173
  clear t3 HT2 RX2 RP RX hr3 rP3 HT3 HGX T0 c173
  cases b
  · go_wp2_with fail
    go_loopw [5] (fun vi wr => ∃ i : Nat, i ≤ n0 ∧ vi = .int .i64 i ∧ Touch [] w3 wr ∧ ∀ j : Nat, j < i → bitP px j = bitP xs j) (fun vi _ => n0 - (intOf vi).toNat)
    case atStart => exact ⟨0, by omega, rfl, Touch.refl _ _, by intro j hj; omega⟩
    case round =>
      obtain ⟨i, hi, rfl, hq, hj⟩ := hrel
      have HJ := Lib.hid hj
      have HQ := Lib.hid hq
      have RPq := Lib.hid (hq.range RP3.out (by simp))
      have RXq := Lib.hid (hq.range RX3.out (by simp))
      have c17q := hq.cell C173.out (by simp)
      clear hq hj cb3 cx3
      by_cases hlt : i < n0
      · have HBPi := Lib.hid (HBP.out i (by omega))
        have HBXi := Lib.hid (HBX.out i (by omega))
        obtain ⟨b1, hb1'⟩ : ∃ c, c = bitP px i := ⟨_, rfl⟩
        obtain ⟨b2, hb2'⟩ : ∃ c, c = bitP xs i := ⟨_, rfl⟩
        rw [← hb1'] at HBPi
        rw [← hb2'] at HBXi
        have HB1 := Lib.hid hb1'
        have HB2 := Lib.hid hb2'
        clear hb1' hb2' HBP HBX
        by_cases hbit : b1 = b2
        · have HBP := HBPi
          have HBX := HBXi
          go_wp2_with fail
          refine wp_region_held (S := Touch [] wr.drew) (by kernel_rfl) ?_
          change wpAnyH _ _ _ _ _ _ _ _ wr.drew
          have rA : wr.drew.rangeAt w.heap.size 0 (adr false px) := RPq.out
          have rB : wr.drew.rangeAt (w.heap.size + 1) 0 (adr false xs) := RXq.out
          have HQd := Lib.hid (HQ.out.drew)
          clear HBPi HBXi RPq RXq HQ c17q
          generalize wr.drew = W at *
          have hS := Touch.refl [] W
          refine wpAnyH_take (i := 0) (oi := { dst := some 28, op := Op.fieldAddr 52 (Operand.tmp 2) 0, type := 0, pos := "ref.go:411", after := #[], guard := none }) (v := .pointer (some ⟨w.heap.size, 0, none⟩)) rfl (by kernel_rfl) (by kernel_rfl) (by kernel_rfl) (fun _ _ _ h => h) (Or.inl ⟨by rfl, fun w' hw => by go_simp⟩) hS ?_
          try simp only [Act.put, List.setIfInBounds_toArray, List.set_cons_zero, List.set_cons_succ]
          refine wpAnyH_take (i := 1) (oi := { dst := some 29, op := Op.load 28 (Operand.tmp 28), type := 28, pos := "ref.go:411", after := #[{ on := 0, ground := Ground.data }], guard := none }) (v := .agg (adr false px).toArray) rfl (by kernel_rfl) (by kernel_rfl) (by kernel_rfl) (fun _ _ _ h => h) (Or.inl ⟨by rfl, fun w' hw => exec_load_agg _ 28 _ rfl _ _ rfl (adr false px) _ (hw.range rA (by simp)) Tryd.underlying28 rfl (by rw [size31, HL17.out])⟩) hS ?_
          try simp only [Act.put, List.setIfInBounds_toArray, List.set_cons_zero, List.set_cons_succ]
          refine wpAnyH_take (i := 2) (oi := { dst := some 30, op := Op.move (Operand.tmp 5), type := 3, pos := "ref.go:411", after := #[], guard := none }) (v := .int .i64 (i : Nat)) rfl (by kernel_rfl) (by kernel_rfl) (by kernel_rfl) (fun _ _ _ h => h) (Or.inl ⟨by rfl, fun w' hw => by go_simp⟩) hS ?_
          try simp only [Act.put, List.setIfInBounds_toArray, List.set_cons_zero, List.set_cons_succ]
          refine wpAnyH_take (i := 4) (oi := { dst := some 32, op := Op.load 28 (Operand.tmp 3), type := 28, pos := "ref.go:411", after := #[], guard := none }) (v := .agg (adr false xs).toArray) rfl (by kernel_rfl) (by kernel_rfl) (by kernel_rfl) (fun _ _ _ h => h) (Or.inl ⟨by rfl, fun w' hw => exec_load_agg _ 28 _ rfl _ _ rfl (adr false xs) _ (hw.range rB (by simp)) Tryd.underlying28 rfl (by rw [size31, HX17.out])⟩) hS ?_
          try simp only [Act.put, List.setIfInBounds_toArray, List.set_cons_zero, List.set_cons_succ]
          refine wpAnyH_take (i := 5) (oi := { dst := some 33, op := Op.move (Operand.tmp 5), type := 3, pos := "ref.go:411", after := #[], guard := none }) (v := .int .i64 (i : Nat)) rfl (by kernel_rfl) (by kernel_rfl) (by kernel_rfl) (fun _ _ _ h => h) (Or.inl ⟨by rfl, fun w' hw => by go_simp⟩) hS ?_
          try simp only [Act.put, List.setIfInBounds_toArray, List.set_cons_zero, List.set_cons_succ]
          refine wpAnyH_ready (rs := [3]) (by kernel_rfl) (by simp) ?_
          refine AllReadyH.cons (o := { dst := some 31, op := Op.call { callee := Callee.value (Operand.func 54), args := #[Operand.tmp 29, Operand.tmp 30], argTypes := #[28, 3] }, type := 3, pos := "ref.go:411", after := #[{ on := 1, ground := Ground.data }, { on := 2, ground := Ground.data }], guard := none }) rfl (fun K hK => ?_) AllReadyH.nil
          go_simp
          refine (HBP.out _).mono ?_
          rintro e w3 ⟨he, t3⟩
          subst he
          have hS2 := hS.trans t3 (by simp)
          refine hK.out _ _ hS2 (fun _ => ?_)
          clear hK K hS t3
          have hS := hS2
          clear hS2
          try simp only [Act.put, List.setIfInBounds_toArray, List.set_cons_zero, List.set_cons_succ]
          refine wpAnyH_ready (rs := [6]) (by kernel_rfl) (by simp) ?_
          refine AllReadyH.cons (o := { dst := some 34, op := Op.call { callee := Callee.value (Operand.func 54), args := #[Operand.tmp 32, Operand.tmp 33], argTypes := #[28, 3] }, type := 3, pos := "ref.go:411", after := #[{ on := 4, ground := Ground.data }, { on := 5, ground := Ground.data }, { on := 3, ground := Ground.chain }], guard := none }) rfl (fun K hK => ?_) AllReadyH.nil
          go_simp
          refine (HBX.out _).mono ?_
          rintro e w6 ⟨he, t6⟩
          subst he
          have hS2 := hS.trans t6 (by simp)
          refine hK.out _ _ hS2 (fun _ => ?_)
          clear hK K hS t6
          have hS := hS2
          clear hS2
          try simp only [Act.put, List.setIfInBounds_toArray, List.set_cons_zero, List.set_cons_succ]
          refine wpAnyH_take (i := 7) (oi := { dst := some 35, op := Op.binOp BinOp.neq 3 (Operand.tmp 31) (Operand.tmp 34) 3, type := 4, pos := "ref.go:411", after := #[{ on := 3, ground := Ground.data }, { on := 6, ground := Ground.data }], guard := none }) (v := .bool false) rfl (by kernel_rfl) (by kernel_rfl) (by kernel_rfl) (fun _ _ _ h => h) (Or.inl ⟨by rfl, fun w' hw => by (have q := hbit; go_simp)⟩) hS ?_
          try simp only [Act.put, List.setIfInBounds_toArray, List.set_cons_zero, List.set_cons_succ]
          refine wpAnyH_done (by kernel_rfl) ?_ _
          try simp only [Act.put, List.setIfInBounds_toArray, List.set_cons_zero, List.set_cons_succ]
          go_wp2_with fail
          go_roundw
          case rel =>
            refine ⟨i + 1, by omega, by go_num, HQd.out.trans hS (by simp), ?_⟩
            intro j hj
            by_cases e : j = i
            · subst e
              rw [← HB1.out, ← HB2.out, hbit]
            · exact HJ.out j (by omega)
          case measure => simp [intOf]; omega
        · have HS := Lib.hid (show decide (trunc (n0 : Int) xs = px) = false by
            simp only [decide_eq_false_iff_not]
            intro e
            have := HIFF.out.1 e i (by omega)
            rw [← HB1.out, ← HB2.out] at this
            exact hbit this)
          have HBP := HBPi
          have HBX := HBXi
          go_wp2_with fail
          refine wp_region_held (S := Touch [] wr.drew) (by kernel_rfl) ?_
          change wpAnyH _ _ _ _ _ _ _ _ wr.drew
          have rA : wr.drew.rangeAt w.heap.size 0 (adr false px) := RPq.out
          have rB : wr.drew.rangeAt (w.heap.size + 1) 0 (adr false xs) := RXq.out
          have HQd := Lib.hid (HQ.out.drew)
          clear HBPi HBXi RPq RXq HQ c17q
          generalize wr.drew = W at *
          have hS := Touch.refl [] W
          refine wpAnyH_take (i := 0) (oi := { dst := some 28, op := Op.fieldAddr 52 (Operand.tmp 2) 0, type := 0, pos := "ref.go:411", after := #[], guard := none }) (v := .pointer (some ⟨w.heap.size, 0, none⟩)) rfl (by kernel_rfl) (by kernel_rfl) (by kernel_rfl) (fun _ _ _ h => h) (Or.inl ⟨by rfl, fun w' hw => by go_simp⟩) hS ?_
          try simp only [Act.put, List.setIfInBounds_toArray, List.set_cons_zero, List.set_cons_succ]
          refine wpAnyH_take (i := 1) (oi := { dst := some 29, op := Op.load 28 (Operand.tmp 28), type := 28, pos := "ref.go:411", after := #[{ on := 0, ground := Ground.data }], guard := none }) (v := .agg (adr false px).toArray) rfl (by kernel_rfl) (by kernel_rfl) (by kernel_rfl) (fun _ _ _ h => h) (Or.inl ⟨by rfl, fun w' hw => exec_load_agg _ 28 _ rfl _ _ rfl (adr false px) _ (hw.range rA (by simp)) Tryd.underlying28 rfl (by rw [size31, HL17.out])⟩) hS ?_
          try simp only [Act.put, List.setIfInBounds_toArray, List.set_cons_zero, List.set_cons_succ]
          refine wpAnyH_take (i := 2) (oi := { dst := some 30, op := Op.move (Operand.tmp 5), type := 3, pos := "ref.go:411", after := #[], guard := none }) (v := .int .i64 (i : Nat)) rfl (by kernel_rfl) (by kernel_rfl) (by kernel_rfl) (fun _ _ _ h => h) (Or.inl ⟨by rfl, fun w' hw => by go_simp⟩) hS ?_
          try simp only [Act.put, List.setIfInBounds_toArray, List.set_cons_zero, List.set_cons_succ]
          refine wpAnyH_take (i := 4) (oi := { dst := some 32, op := Op.load 28 (Operand.tmp 3), type := 28, pos := "ref.go:411", after := #[], guard := none }) (v := .agg (adr false xs).toArray) rfl (by kernel_rfl) (by kernel_rfl) (by kernel_rfl) (fun _ _ _ h => h) (Or.inl ⟨by rfl, fun w' hw => exec_load_agg _ 28 _ rfl _ _ rfl (adr false xs) _ (hw.range rB (by simp)) Tryd.underlying28 rfl (by rw [size31, HX17.out])⟩) hS ?_
          try simp only [Act.put, List.setIfInBounds_toArray, List.set_cons_zero, List.set_cons_succ]
          refine wpAnyH_take (i := 5) (oi := { dst := some 33, op := Op.move (Operand.tmp 5), type := 3, pos := "ref.go:411", after := #[], guard := none }) (v := .int .i64 (i : Nat)) rfl (by kernel_rfl) (by kernel_rfl) (by kernel_rfl) (fun _ _ _ h => h) (Or.inl ⟨by rfl, fun w' hw => by go_simp⟩) hS ?_
          try simp only [Act.put, List.setIfInBounds_toArray, List.set_cons_zero, List.set_cons_succ]
          refine wpAnyH_ready (rs := [3]) (by kernel_rfl) (by simp) ?_
          refine AllReadyH.cons (o := { dst := some 31, op := Op.call { callee := Callee.value (Operand.func 54), args := #[Operand.tmp 29, Operand.tmp 30], argTypes := #[28, 3] }, type := 3, pos := "ref.go:411", after := #[{ on := 1, ground := Ground.data }, { on := 2, ground := Ground.data }], guard := none }) rfl (fun K hK => ?_) AllReadyH.nil
          go_simp
          refine (HBP.out _).mono ?_
          rintro e w3 ⟨he, t3⟩
          subst he
          have hS2 := hS.trans t3 (by simp)
          refine hK.out _ _ hS2 (fun _ => ?_)
          clear hK K hS t3
          have hS := hS2
          clear hS2
          try simp only [Act.put, List.setIfInBounds_toArray, List.set_cons_zero, List.set_cons_succ]
          refine wpAnyH_ready (rs := [6]) (by kernel_rfl) (by simp) ?_
          refine AllReadyH.cons (o := { dst := some 34, op := Op.call { callee := Callee.value (Operand.func 54), args := #[Operand.tmp 32, Operand.tmp 33], argTypes := #[28, 3] }, type := 3, pos := "ref.go:411", after := #[{ on := 4, ground := Ground.data }, { on := 5, ground := Ground.data }, { on := 3, ground := Ground.chain }], guard := none }) rfl (fun K hK => ?_) AllReadyH.nil
          go_simp
          refine (HBX.out _).mono ?_
          rintro e w6 ⟨he, t6⟩
          subst he
          have hS2 := hS.trans t6 (by simp)
          refine hK.out _ _ hS2 (fun _ => ?_)
          clear hK K hS t6
          have hS := hS2
          clear hS2
          try simp only [Act.put, List.setIfInBounds_toArray, List.set_cons_zero, List.set_cons_succ]
          refine wpAnyH_take (i := 7) (oi := { dst := some 35, op := Op.binOp BinOp.neq 3 (Operand.tmp 31) (Operand.tmp 34) 3, type := 4, pos := "ref.go:411", after := #[{ on := 3, ground := Ground.data }, { on := 6, ground := Ground.data }], guard := none }) (v := .bool true) rfl (by kernel_rfl) (by kernel_rfl) (by kernel_rfl) (fun _ _ _ h => h) (Or.inl ⟨by rfl, fun w' hw => by (have q := hbit; go_simp)⟩) hS ?_
          try simp only [Act.put, List.setIfInBounds_toArray, List.set_cons_zero, List.set_cons_succ]
          refine wpAnyH_done (by kernel_rfl) ?_ _
          try simp only [Act.put, List.setIfInBounds_toArray, List.set_cons_zero, List.set_cons_succ]
          go_wp2_with fail
          go_ret
          exact ⟨by rw [HS.out]; rfl, T3.out.trans (HQd.out.trans hS (by simp)) (by simp)⟩
      · have hie : i = n0 := by omega
        subst hie
        have HS := Lib.hid (show decide (trunc (i : Int) xs = px) = true by
          simp only [decide_eq_true_iff]
          exact HIFF.out.2 (fun j hj => HJ.out j (by omega)))
        go_wp2_with fail
        go_ret
        exact ⟨by rw [HS.out]; rfl, T3.out.trans HQ.out (by simp)⟩
  · go_wp2_with fail
    go_loopw [5] (fun vi wr => ∃ i : Nat, i ≤ n0 ∧ vi = .int .i64 i ∧ Touch [] w3 wr ∧ ∀ j : Nat, j < i → bitP px j = bitP xs j) (fun vi _ => n0 - (intOf vi).toNat)
    case atStart => exact ⟨0, by omega, rfl, Touch.refl _ _, by intro j hj; omega⟩
    case round =>
      obtain ⟨i, hi, rfl, hq, hj⟩ := hrel
      have HJ := Lib.hid hj
      have HQ := Lib.hid hq
      have RPq := Lib.hid (hq.range RP3.out (by simp))
      have RXq := Lib.hid (hq.range RX3.out (by simp))
      have c17q := hq.cell C173.out (by simp)
      clear hq hj cb3 cx3
      by_cases hlt : i < n0
      · have HBPi := Lib.hid (HBP.out i (by omega))
        have HBXi := Lib.hid (HBX.out i (by omega))
        obtain ⟨b1, hb1'⟩ : ∃ c, c = bitP px i := ⟨_, rfl⟩
        obtain ⟨b2, hb2'⟩ : ∃ c, c = bitP xs i := ⟨_, rfl⟩
        rw [← hb1'] at HBPi
        rw [← hb2'] at HBXi
        have HB1 := Lib.hid hb1'
        have HB2 := Lib.hid hb2'
        clear hb1' hb2' HBP HBX
        by_cases hbit : b1 = b2
        · have HBP := HBPi
          have HBX := HBXi
          go_wp2_with fail
          refine wp_region_held (S := Touch [] wr.drew) (by kernel_rfl) ?_
          change wpAnyH _ _ _ _ _ _ _ _ wr.drew
          have rA : wr.drew.rangeAt w.heap.size 0 (adr true px) := RPq.out
          have rB : wr.drew.rangeAt (w.heap.size + 1) 0 (adr true xs) := RXq.out
          have HQd := Lib.hid (HQ.out.drew)
          clear HBPi HBXi RPq RXq HQ c17q
          generalize wr.drew = W at *
          have hS := Touch.refl [] W
          refine wpAnyH_take (i := 0) (oi := { dst := some 28, op := Op.fieldAddr 52 (Operand.tmp 2) 0, type := 0, pos := "ref.go:411", after := #[], guard := none }) (v := .pointer (some ⟨w.heap.size, 0, none⟩)) rfl (by kernel_rfl) (by kernel_rfl) (by kernel_rfl) (fun _ _ _ h => h) (Or.inl ⟨by rfl, fun w' hw => by go_simp⟩) hS ?_
          try simp only [Act.put, List.setIfInBounds_toArray, List.set_cons_zero, List.set_cons_succ]
          refine wpAnyH_take (i := 1) (oi := { dst := some 29, op := Op.load 28 (Operand.tmp 28), type := 28, pos := "ref.go:411", after := #[{ on := 0, ground := Ground.data }], guard := none }) (v := .agg (adr true px).toArray) rfl (by kernel_rfl) (by kernel_rfl) (by kernel_rfl) (fun _ _ _ h => h) (Or.inl ⟨by rfl, fun w' hw => exec_load_agg _ 28 _ rfl _ _ rfl (adr true px) _ (hw.range rA (by simp)) Tryd.underlying28 rfl (by rw [size31, HL17.out])⟩) hS ?_
          try simp only [Act.put, List.setIfInBounds_toArray, List.set_cons_zero, List.set_cons_succ]
          refine wpAnyH_take (i := 2) (oi := { dst := some 30, op := Op.move (Operand.tmp 5), type := 3, pos := "ref.go:411", after := #[], guard := none }) (v := .int .i64 (i : Nat)) rfl (by kernel_rfl) (by kernel_rfl) (by kernel_rfl) (fun _ _ _ h => h) (Or.inl ⟨by rfl, fun w' hw => by go_simp⟩) hS ?_
          try simp only [Act.put, List.setIfInBounds_toArray, List.set_cons_zero, List.set_cons_succ]
          refine wpAnyH_take (i := 4) (oi := { dst := some 32, op := Op.load 28 (Operand.tmp 3), type := 28, pos := "ref.go:411", after := #[], guard := none }) (v := .agg (adr true xs).toArray) rfl (by kernel_rfl) (by kernel_rfl) (by kernel_rfl) (fun _ _ _ h => h) (Or.inl ⟨by rfl, fun w' hw => exec_load_agg _ 28 _ rfl _ _ rfl (adr true xs) _ (hw.range rB (by simp)) Tryd.underlying28 rfl (by rw [size31, HX17.out])⟩) hS ?_
          try simp only [Act.put, List.setIfInBounds_toArray, List.set_cons_zero, List.set_cons_succ]
          refine wpAnyH_take (i := 5) (oi := { dst := some 33, op := Op.move (Operand.tmp 5), type := 3, pos := "ref.go:411", after := #[], guard := none }) (v := .int .i64 (i : Nat)) rfl (by kernel_rfl) (by kernel_rfl) (by kernel_rfl) (fun _ _ _ h => h) (Or.inl ⟨by rfl, fun w' hw => by go_simp⟩) hS ?_
          try simp only [Act.put, List.setIfInBounds_toArray, List.set_cons_zero, List.set_cons_succ]
          refine wpAnyH_ready (rs := [3]) (by kernel_rfl) (by simp) ?_
          refine AllReadyH.cons (o := { dst := some 31, op := Op.call { callee := Callee.value (Operand.func 54), args := #[Operand.tmp 29, Operand.tmp 30], argTypes := #[28, 3] }, type := 3, pos := "ref.go:411", after := #[{ on := 1, ground := Ground.data }, { on := 2, ground := Ground.data }], guard := none }) rfl (fun K hK => ?_) AllReadyH.nil
          go_simp
          refine (HBP.out _).mono ?_
          rintro e w3 ⟨he, t3⟩
          subst he
          have hS2 := hS.trans t3 (by simp)
          refine hK.out _ _ hS2 (fun _ => ?_)
          clear hK K hS t3
          have hS := hS2
          clear hS2
          try simp only [Act.put, List.setIfInBounds_toArray, List.set_cons_zero, List.set_cons_succ]
          refine wpAnyH_ready (rs := [6]) (by kernel_rfl) (by simp) ?_
          refine AllReadyH.cons (o := { dst := some 34, op := Op.call { callee := Callee.value (Operand.func 54), args := #[Operand.tmp 32, Operand.tmp 33], argTypes := #[28, 3] }, type := 3, pos := "ref.go:411", after := #[{ on := 4, ground := Ground.data }, { on := 5, ground := Ground.data }, { on := 3, ground := Ground.chain }], guard := none }) rfl (fun K hK => ?_) AllReadyH.nil
          go_simp
          refine (HBX.out _).mono ?_
          rintro e w6 ⟨he, t6⟩
          subst he
          have hS2 := hS.trans t6 (by simp)
          refine hK.out _ _ hS2 (fun _ => ?_)
          clear hK K hS t6
          have hS := hS2
          clear hS2
          try simp only [Act.put, List.setIfInBounds_toArray, List.set_cons_zero, List.set_cons_succ]
          refine wpAnyH_take (i := 7) (oi := { dst := some 35, op := Op.binOp BinOp.neq 3 (Operand.tmp 31) (Operand.tmp 34) 3, type := 4, pos := "ref.go:411", after := #[{ on := 3, ground := Ground.data }, { on := 6, ground := Ground.data }], guard := none }) (v := .bool false) rfl (by kernel_rfl) (by kernel_rfl) (by kernel_rfl) (fun _ _ _ h => h) (Or.inl ⟨by rfl, fun w' hw => by (have q := hbit; go_simp)⟩) hS ?_
          try simp only [Act.put, List.setIfInBounds_toArray, List.set_cons_zero, List.set_cons_succ]
          refine wpAnyH_done (by kernel_rfl) ?_ _
          try simp only [Act.put, List.setIfInBounds_toArray, List.set_cons_zero, List.set_cons_succ]
          go_wp2_with fail
          go_roundw
          case rel =>
            refine ⟨i + 1, by omega, by go_num, HQd.out.trans hS (by simp), ?_⟩
            intro j hj
            by_cases e : j = i
            · subst e
              rw [← HB1.out, ← HB2.out, hbit]
            · exact HJ.out j (by omega)
          case measure => simp [intOf]; omega
        · have HS := Lib.hid (show decide (trunc (n0 : Int) xs = px) = false by
            simp only [decide_eq_false_iff_not]
            intro e
            have := HIFF.out.1 e i (by omega)
            rw [← HB1.out, ← HB2.out] at this
            exact hbit this)
          have HBP := HBPi
          have HBX := HBXi
          go_wp2_with fail
          refine wp_region_held (S := Touch [] wr.drew) (by kernel_rfl) ?_
          change wpAnyH _ _ _ _ _ _ _ _ wr.drew
          have rA : wr.drew.rangeAt w.heap.size 0 (adr true px) := RPq.out
          have rB : wr.drew.rangeAt (w.heap.size + 1) 0 (adr true xs) := RXq.out
          have HQd := Lib.hid (HQ.out.drew)
          clear HBPi HBXi RPq RXq HQ c17q
          generalize wr.drew = W at *
          have hS := Touch.refl [] W
          refine wpAnyH_take (i := 0) (oi := { dst := some 28, op := Op.fieldAddr 52 (Operand.tmp 2) 0, type := 0, pos := "ref.go:411", after := #[], guard := none }) (v := .pointer (some ⟨w.heap.size, 0, none⟩)) rfl (by kernel_rfl) (by kernel_rfl) (by kernel_rfl) (fun _ _ _ h => h) (Or.inl ⟨by rfl, fun w' hw => by go_simp⟩) hS ?_
          try simp only [Act.put, List.setIfInBounds_toArray, List.set_cons_zero, List.set_cons_succ]
          refine wpAnyH_take (i := 1) (oi := { dst := some 29, op := Op.load 28 (Operand.tmp 28), type := 28, pos := "ref.go:411", after := #[{ on := 0, ground := Ground.data }], guard := none }) (v := .agg (adr true px).toArray) rfl (by kernel_rfl) (by kernel_rfl) (by kernel_rfl) (fun _ _ _ h => h) (Or.inl ⟨by rfl, fun w' hw => exec_load_agg _ 28 _ rfl _ _ rfl (adr true px) _ (hw.range rA (by simp)) Tryd.underlying28 rfl (by rw [size31, HL17.out])⟩) hS ?_
          try simp only [Act.put, List.setIfInBounds_toArray, List.set_cons_zero, List.set_cons_succ]
          refine wpAnyH_take (i := 2) (oi := { dst := some 30, op := Op.move (Operand.tmp 5), type := 3, pos := "ref.go:411", after := #[], guard := none }) (v := .int .i64 (i : Nat)) rfl (by kernel_rfl) (by kernel_rfl) (by kernel_rfl) (fun _ _ _ h => h) (Or.inl ⟨by rfl, fun w' hw => by go_simp⟩) hS ?_
          try simp only [Act.put, List.setIfInBounds_toArray, List.set_cons_zero, List.set_cons_succ]
          refine wpAnyH_take (i := 4) (oi := { dst := some 32, op := Op.load 28 (Operand.tmp 3), type := 28, pos := "ref.go:411", after := #[], guard := none }) (v := .agg (adr true xs).toArray) rfl (by kernel_rfl) (by kernel_rfl) (by kernel_rfl) (fun _ _ _ h => h) (Or.inl ⟨by rfl, fun w' hw => exec_load_agg _ 28 _ rfl _ _ rfl (adr true xs) _ (hw.range rB (by simp)) Tryd.underlying28 rfl (by rw [size31, HX17.out])⟩) hS ?_
          try simp only [Act.put, List.setIfInBounds_toArray, List.set_cons_zero, List.set_cons_succ]
          refine wpAnyH_take (i := 5) (oi := { dst := some 33, op := Op.move (Operand.tmp 5), type := 3, pos := "ref.go:411", after := #[], guard := none }) (v := .int .i64 (i : Nat)) rfl (by kernel_rfl) (by kernel_rfl) (by kernel_rfl) (fun _ _ _ h => h) (Or.inl ⟨by rfl, fun w' hw => by go_simp⟩) hS ?_
          try simp only [Act.put, List.setIfInBounds_toArray, List.set_cons_zero, List.set_cons_succ]
          refine wpAnyH_ready (rs := [3]) (by kernel_rfl) (by simp) ?_
          refine AllReadyH.cons (o := { dst := some 31, op := Op.call { callee := Callee.value (Operand.func 54), args := #[Operand.tmp 29, Operand.tmp 30], argTypes := #[28, 3] }, type := 3, pos := "ref.go:411", after := #[{ on := 1, ground := Ground.data }, { on := 2, ground := Ground.data }], guard := none }) rfl (fun K hK => ?_) AllReadyH.nil
          go_simp
          refine (HBP.out _).mono ?_
          rintro e w3 ⟨he, t3⟩
          subst he
          have hS2 := hS.trans t3 (by simp)
          refine hK.out _ _ hS2 (fun _ => ?_)
          clear hK K hS t3
          have hS := hS2
          clear hS2
          try simp only [Act.put, List.setIfInBounds_toArray, List.set_cons_zero, List.set_cons_succ]
          refine wpAnyH_ready (rs := [6]) (by kernel_rfl) (by simp) ?_
          refine AllReadyH.cons (o := { dst := some 34, op := Op.call { callee := Callee.value (Operand.func 54), args := #[Operand.tmp 32, Operand.tmp 33], argTypes := #[28, 3] }, type := 3, pos := "ref.go:411", after := #[{ on := 4, ground := Ground.data }, { on := 5, ground := Ground.data }, { on := 3, ground := Ground.chain }], guard := none }) rfl (fun K hK => ?_) AllReadyH.nil
          go_simp
          refine (HBX.out _).mono ?_
          rintro e w6 ⟨he, t6⟩
          subst he
          have hS2 := hS.trans t6 (by simp)
          refine hK.out _ _ hS2 (fun _ => ?_)
          clear hK K hS t6
          have hS := hS2
          clear hS2
          try simp only [Act.put, List.setIfInBounds_toArray, List.set_cons_zero, List.set_cons_succ]
          refine wpAnyH_take (i := 7) (oi := { dst := some 35, op := Op.binOp BinOp.neq 3 (Operand.tmp 31) (Operand.tmp 34) 3, type := 4, pos := "ref.go:411", after := #[{ on := 3, ground := Ground.data }, { on := 6, ground := Ground.data }], guard := none }) (v := .bool true) rfl (by kernel_rfl) (by kernel_rfl) (by kernel_rfl) (fun _ _ _ h => h) (Or.inl ⟨by rfl, fun w' hw => by (have q := hbit; go_simp)⟩) hS ?_
          try simp only [Act.put, List.setIfInBounds_toArray, List.set_cons_zero, List.set_cons_succ]
          refine wpAnyH_done (by kernel_rfl) ?_ _
          try simp only [Act.put, List.setIfInBounds_toArray, List.set_cons_zero, List.set_cons_succ]
          go_wp2_with fail
          go_ret
          exact ⟨by rw [HS.out]; rfl, T3.out.trans (HQd.out.trans hS (by simp)) (by simp)⟩
      · have hie : i = n0 := by omega
        subst hie
        have HS := Lib.hid (show decide (trunc (i : Int) xs = px) = true by
          simp only [decide_eq_true_iff]
          exact HIFF.out.2 (fun j hj => HJ.out j (by omega)))
        go_wp2_with fail
        go_ret
        exact ⟨by rw [HS.out]; rfl, T3.out.trans HQ.out (by simp)⟩
end Go.Proofs.YtecaakgpogabjaaDoor

/-
  The contract of the reference's ParsePrefix at the table's texts.
-/
namespace Go.Proofs.YtecaakgpogabjaaDoor
open Go.RowKit
set_option linter.unusedVariables false
set_option linter.unusedSimpArgs false

structure GoodX (l p q : List UInt8) (k : Nat) (hs ts : List Int) (n : Int) : Prop where
  len : l.length ≤ 1000
  cut : splitP l 47 = [p, q]
  addr : GoodA p k hs ts
  num : decP q 128 = n
  ok : okB (v6b (fill8 hs ts) 8)
  n0 : 0 ≤ n
  n1 : n ≤ 128
  tr : trunc n (v6b (fill8 hs ts) 8) = v6b (fill8 hs ts) 8
theorem pfx_one (b : Bool) (px : List Int) (bits : Int) : ∀ v ∈ pfx b px bits, v.oneCell' = true := fun v hv => prw_one b px bits 0 0 v (List.mem_append_left _ hv)
set_option maxRecDepth 100000 in
set_option maxHeartbeats 1000000 in
theorem pp_any (l p q : List UInt8) (k : Nat) (hs ts : List Int) (n : Int) (hG : GoodX l p q k hs ts n) (w : World) :
    Calls Tryd.prog 52 #[str l] w fun e w' => e = .returned (.tuple #[.agg (pfx true (v6b (fill8 hs ts) 8) n).toArray, .bool true]) ∧ Touch [] w w' := by
  obtain ⟨hl, hcut, hA, hnum, hok, hn0, hn1, htr⟩ := hG
  have HSP := Lib.hid (split_any l 47 hl)
  rw [hcut] at HSP
  have HPA := Lib.hid (parse_any p k hs ts hA)
  have HDE := Lib.hid (dec_any q 128)
  rw [hnum] at HDE
  have HVP := Lib.hid (vpfx_any true (v6b (fill8 hs ts) 8) n hok rfl hn0 hn1 htr)
  generalize hzz : v6b (fill8 hs ts) 8 = zz at *
  have HZZ := Lib.hid hzz
  obtain ⟨s, hs'⟩ : ∃ s : ByteArray, s = ⟨l.toArray⟩ := ⟨_, rfl⟩
  rw [show str l = .string s by rw [hs']; rfl] at HSP ⊢
  have HL17 := Lib.hid (show (adr true zz).length = 17 by simp [adr, hok.1])
  have HL18 := Lib.hid (show (pfx true zz n).length = 18 by simp [pfx, adr, hok.1])
  have HB := Lib.hid (built_pfx true zz n hok.1)
  have HT0 := Lib.hid ((Touch.refl [] w).alloc (.cells (pfx false (List.replicate 16 0) 0).toArray 52))
  have HG0 := Lib.hid (heap_alloc_new w (.cells (pfx false (List.replicate 16 0) 0).toArray 52))
  have hz18 : (pfx false (List.replicate 16 0) 0).toArray.size = 18 := rfl
  have HZ18 := Lib.hid hz18
  clear hzz hs' hok htr hA hnum hcut hn0 hn1 hl hz18
  go_enter Tryd.func52, Tryd.ntmps52
  go_wp2_with fail
  refine (HSP.out _).mono ?_
  rintro e w1 ⟨v, rfl, ho, t1⟩
  obtain ⟨a, cap, rfl, _, _, hat⟩ := ho.form
  obtain ⟨g, rfl, c0⟩ := hat 0 p rfl
  obtain ⟨g2, e2, c1⟩ := hat 1 q rfl
  simp only [Option.some.injEq, Addr.mk.injEq] at e2
  obtain ⟨rfl, _⟩ := e2
  have HT1 := Lib.hid (HT0.out.trans t1 (by simp))
  have HG1 := Lib.hid (t1.at HG0.out (by simp))
  have HC1 := Lib.hid c1
  clear t1 HT0 HG0 HSP hat ho c1
  go_wp2_with fail
  refine (HPA.out _).mono ?_
  rintro e w2 ⟨rfl, t2⟩
  have HT2 := Lib.hid (HT1.out.trans t2 (by simp))
  have HG2 := Lib.hid (t2.at HG1.out (by simp))
  have HC2 := Lib.hid (t2.cell HC1.out (by simp))
  have HN := Lib.hid (heap_alloc_new w2 (.cells (adr false (List.replicate 16 0)).toArray 28))
  have HNT := Lib.hid ((Touch.refl [] w2).alloc (.cells (adr false (List.replicate 16 0)).toArray 28))
  have zw2 : w.heap.size < w2.heap.size := (Array.getElem?_eq_some_iff.1 HG2.out).1
  clear t2 HT1 HG1 HC1 HPA c0
  go_wp2_with ((with_reducible refine at_store 28 ?_); refine wpList_store_into rfl 28 _ _ rfl w2.heap.size 28 _ (adr true zz) rfl rfl HN.out (by rw [HL17.out]; rfl) (by rw [size31, HL17.out]) (adr_one _ _) ?_)
  intro w3 h3 t3 z3
  have HT23 := Lib.hid (HNT.out.trans t3 (by intro y hy; right; simp at hy; omega))
  have HT3 := Lib.hid (HT2.out.trans HT23.out (by simp))
  have HG3 := Lib.hid (HT23.out.at HG2.out (by simp))
  have c3 := HT23.out.cell HC2.out (by simp)
  have HA3 := Lib.hid h3
  have zw3 : w2.heap.size < w3.heap.size := (Array.getElem?_eq_some_iff.1 h3).1
  clear h3 t3 z3 HT2 HG2 HC2 HN HNT HT23
  go_wp2_with fail
  refine (HDE.out _).mono ?_
  rintro e w4 ⟨rfl, rfl⟩
  have HN := Lib.hid (heap_alloc_new w3 (.cells (pfx false (List.replicate 16 0) 0).toArray 52))
  have HNT := Lib.hid ((Touch.refl [] w3).alloc (.cells (pfx false (List.replicate 16 0) 0).toArray 52))
  have R3 := range_block HA3.out
  clear HDE c3
  go_wp2_with (first
    | ((with_reducible refine at_load 28 ?_); refine wpList_load_mid rfl 28 _ rfl w2.heap.size 0 rfl (adr true zz) _ R3 Tryd.underlying28 rfl (by rw [size31, HL17.out]) ?_)
    | ((with_reducible refine at_build 52 ?_); refine wpList_built (by rfl) 52 _ (by rfl) _ _ (by rfl) HB.out ?_)
    | ((with_reducible refine at_store 52 ?_); refine wpList_store_into rfl 52 _ _ rfl w3.heap.size 52 _ (pfx true zz n) rfl rfl HN.out (by rw [HL18.out]; rfl) (by rw [sizeP, HL18.out]) (pfx_one _ _ _) ?_))
  intro w5 h5 t5 z5
  have HT35 := Lib.hid (HNT.out.trans t5 (by intro y hy; right; simp at hy; omega))
  have HT5 := Lib.hid (HT3.out.trans HT35.out (by simp))
  have HG5 := Lib.hid (HT35.out.at HG3.out (by simp))
  have HP5 := Lib.hid h5
  have R5 := range_block h5
  clear h5 t5 z5 HT3 HG3 HA3 HN HNT HT35 R3
  go_wp2_with ((with_reducible refine at_load_g 52 2 false ?_); refine wpList_load_gg 2 false rfl (by rfl) 52 _ rfl w3.heap.size 0 rfl (pfx true zz n) _ R5 Tryd.underlying52 rfl (by rw [sizeP, HL18.out]) ?_)
  refine (HVP.out _).mono ?_
  rintro e w6 ⟨rfl, t6⟩
  have HT6 := Lib.hid (HT5.out.trans t6 (by simp))
  have HG6 := Lib.hid (t6.at HG5.out (by simp))
  have R6 := t6.range R5 (by simp)
  clear t6 HT5 HG5 HP5 R5 HVP
  go_wp2_with (first
    | ((with_reducible refine at_load 52 ?_); refine wpList_load_mid rfl 52 _ rfl w3.heap.size 0 rfl (pfx true zz n) _ R6 Tryd.underlying52 rfl (by rw [sizeP, HL18.out]) ?_)
    | ((with_reducible refine at_store 52 ?_); refine wpList_store_into rfl 52 _ _ rfl w.heap.size 52 _ (pfx true zz n) rfl rfl HG6.out (by rw [HL18.out]; exact HZ18.out) (by rw [sizeP, HL18.out]) (pfx_one _ _ _) ?_))
  intro w7 h7 t7 z7
  go_wp2_with fail
  exact ret_row_tmp rfl sizeP Tryd.underlying52 rfl HL18.out rfl rfl h7 ⟨by first | (rw [HZZ.out]; rfl) | rfl, HT6.out.trans t7 (by simp)⟩
end Go.Proofs.YtecaakgpogabjaaDoor

/-
  The nine texts of the table.
-/
namespace Go.Proofs.YtecaakgpogabjaaDoor
open Go.RowKit
set_option linter.unusedVariables false
set_option linter.unusedSimpArgs false

def goodPb (p : List UInt8) (n : Int) : Bool := (splitP p 46).length != 4 && (hexs p p.length == some n) && p != [] && decide (p.length ≤ 4)
def goodGb (l : List UInt8) (ns : List Int) : Bool := decide (l.length ≤ 1000) && ((l == [] && ns == []) || (l != [] && (splitP l 58).length == ns.length && decide (ns.length ≤ 1000) && ((splitP l 58).zip ns).all fun x => goodPb x.1 x.2))
theorem goodG_of {l : List UInt8} {ns : List Int} (h : goodGb l ns = true) : GoodG l ns := by
  unfold goodGb at h
  simp only [Bool.and_eq_true, Bool.or_eq_true, decide_eq_true_eq, beq_iff_eq, bne_iff_ne] at h
  obtain ⟨h1, h2⟩ := h
  refine ⟨h1, ?_⟩
  rcases h2 with ⟨h2, h3⟩ | ⟨⟨⟨h2, h3⟩, h4⟩, h5⟩
  · exact .inl ⟨h2, h3⟩
  · refine .inr ⟨h2, h3, h4, ?_⟩
    intro i p n hp hn
    have hz : ((splitP l 58).zip ns)[i]? = some (p, n) := by simp [List.getElem?_zip_eq_some, hp, hn]
    have := List.all_eq_true.1 h5 _ (List.mem_of_getElem? hz)
    simp only [goodPb, Bool.and_eq_true, decide_eq_true_eq, beq_iff_eq, bne_iff_ne] at this
    obtain ⟨⟨⟨a1, a2⟩, a3⟩, a4⟩ := this
    exact ⟨a1, a2, a3, a4⟩
structure Txt where
  l : List UInt8
  p : List UInt8
  q : List UInt8
  k : Nat
  hs : List Int
  ts : List Int
  n : Int
def Txt.good (t : Txt) : Prop := GoodX t.l t.p t.q t.k t.hs t.ts t.n
def rng (xs : List Int) : Bool := xs.all fun x => decide (0 ≤ x ∧ x ≤ 65535)
def rng8 (xs : List Int) : Bool := xs.all fun x => decide (0 ≤ x ∧ x ≤ 255)
def Txt.check (t : Txt) : Bool :=
  decide (t.l.length ≤ 1000) && (splitP t.l 47 == [t.p, t.q]) && decide (t.p.length ≤ 1000) && (splitP t.p 46).length != 4 && decide (t.k + 1 < t.p.length) && (t.p[t.k]? == some 58) && (t.p[t.k + 1]? == some 58) &&
  (List.range t.k).all (fun i => !((t.p[i]? == some 58) && (t.p[i + 1]? == some 58))) && goodGb (t.p.take t.k) t.hs && goodGb (t.p.drop (t.k + 2)) t.ts && decide (t.hs.length + t.ts.length ≤ 7) && rng t.hs && rng t.ts &&
  (decP t.q 128 == t.n) && decide ((v6b (fill8 t.hs t.ts) 8).length = 16) && rng8 (v6b (fill8 t.hs t.ts) 8) && decide (0 ≤ t.n) && decide (t.n ≤ 128) && (trunc t.n (v6b (fill8 t.hs t.ts) 8) == v6b (fill8 t.hs t.ts) 8)
theorem Txt.good_of {t : Txt} (h : t.check = true) : t.good := by
  unfold Txt.check at h
  simp only [Bool.and_eq_true, decide_eq_true_eq, beq_iff_eq, bne_iff_ne] at h
  obtain ⟨⟨⟨⟨⟨⟨⟨⟨⟨⟨⟨⟨⟨⟨⟨⟨⟨⟨a1, a2⟩, a3⟩, a4⟩, a5⟩, a6⟩, a7⟩, a8⟩, a9⟩, b1⟩, b2⟩, b3⟩, b4⟩, b5⟩, b6⟩, b7⟩, b8⟩, b9⟩, c1⟩ := h
  have rr : ∀ xs, rng xs = true → ∀ x ∈ xs, 0 ≤ x ∧ x ≤ 65535 := fun xs hx x hm => by simpa using List.all_eq_true.1 hx x hm
  refine ⟨a1, a2, ⟨a3, a4, a5, a6, a7, ?_, goodG_of a9, goodG_of b1, b2, rr _ b3, rr _ b4⟩, b5, ⟨b6, fun x hm => by simpa using List.all_eq_true.1 b7 x hm⟩, b8, b9, c1⟩
  intro i hi hc
  have := List.all_eq_true.1 a8 i (List.mem_range.2 hi)
  simp [hc.1, hc.2] at this
def txts : List Txt := [
  ⟨[58, 58, 49, 47, 49, 50, 56], [58, 58, 49], [49, 50, 56], 0, [], [1], 128⟩,
  ⟨[58, 58, 47, 48], [58, 58], [48], 0, [], [], 0⟩,
  ⟨[58, 58, 102, 102, 102, 102, 58, 48, 58, 48, 47, 57, 54], [58, 58, 102, 102, 102, 102, 58, 48, 58, 48], [57, 54], 0, [], [65535, 0, 0], 96⟩,
  ⟨[50, 48, 48, 50, 58, 58, 47, 49, 54], [50, 48, 48, 50, 58, 58], [49, 54], 4, [8194], [], 16⟩,
  ⟨[50, 48, 48, 49, 58, 58, 47, 51, 50], [50, 48, 48, 49, 58, 58], [51, 50], 4, [8193], [], 32⟩,
  ⟨[102, 99, 48, 48, 58, 58, 47, 55], [102, 99, 48, 48, 58, 58], [55], 4, [64512], [], 7⟩,
  ⟨[58, 58, 47, 57, 54], [58, 58], [57, 54], 0, [], [], 96⟩,
  ⟨[102, 101, 99, 48, 58, 58, 47, 49, 48], [102, 101, 99, 48, 58, 58], [49, 48], 4, [65216], [], 10⟩,
  ⟨[51, 102, 102, 101, 58, 58, 47, 49, 54], [51, 102, 102, 101, 58, 58], [49, 54], 4, [16382], [], 16⟩]
set_option maxRecDepth 100000 in
theorem txts_check : ∀ t ∈ txts, t.check = true := by
  have h : txts.all (fun t => t.check) = true := by decide
  exact fun t ht => List.all_eq_true.1 h t ht
theorem txts_rows : txts.map (fun t => (v6b (fill8 t.hs t.ts) 8, t.n)) = prs.map (fun r => (r.px, r.bits)) := by decide
end Go.Proofs.YtecaakgpogabjaaDoor

/-
  The contract of the reference's Rows.
-/
namespace Go.Proofs.YtecaakgpogabjaaDoor
open Go.RowKit
set_option linter.unusedVariables false
set_option linter.unusedSimpArgs false

/-- A slice of rows of the call's own, made since w0. -/
structure OwnR (w0 w : World) (v : Value) (xs : List PR) : Prop where
  row : w.ownsRow 0 54 20 v xs.length (xs.map PR.cells).flatten
  new : ∀ g, v.ownBlock = some g → w0.heap.size ≤ g
theorem OwnR.nil (w0 w : World) : OwnR w0 w (.slice none 0 0) [] := ⟨World.ownsRow_nil _ _ _ _, by simp [Value.ownBlock]⟩
theorem OwnR.touch {S : List Nat} {w0 w w' : World} {v : Value} {xs : List PR} (h : OwnR w0 w v xs) (t : Touch S w w') (hn : ∀ g, v.ownBlock = some g → g ∉ S) : OwnR w0 w' v xs := ⟨t.owns h.row hn, h.new⟩
theorem OwnR.lt {w0 w : World} {v : Value} {xs : List PR} (h : OwnR w0 w v xs) : ∀ g, v.ownBlock = some g → g < w.heap.size := fun g hg => (h.row.lt g hg).2
theorem OwnR.older {w0 w1 w : World} {v : Value} {xs : List PR} (h : OwnR w1 w v xs) (hz : w0.heap.size ≤ w1.heap.size) : OwnR w0 w v xs := ⟨h.row, fun g hg => Nat.le_trans hz (h.new g hg)⟩
theorem exec_built {a : Act} {w : World} (op : Oper) (t : TypeId) (parts : Array (Nat × Operand)) (ho : op.op = .build t parts)
    (vals : List (Nat × Value)) (cells : Array Value) (hv : (parts.toList.map fun p => (p.1, a.eval p.2)) = vals) (hb : Tryd.prog.built t vals = some cells) : (execOp a.eval op).run Tryd.prog w = .ok (.value (.agg cells)) w := by
  have hr := run_build (P := Tryd.prog) w t (parts.map fun (i, x) => (i, a.eval x)) cells (by rw [Array.toList_map, ← hb, ← hv])
  unfold execOp
  simp only [ho, Sem.run_bind, hr, Result.andThen_ok, Sem.run_pure]
theorem infoR2 : ∃ i z, Tryd.prog.info? 54 = some i ∧ i.zero = some z ∧ i.size = 20 ∧ i.bytes = 48 ∧ z.cells.size = 20 := by
  have h : (Tryd.prog.info? 54).map (fun i => (i.zero.map fun z => z.cells.size, i.size, i.bytes)) = some (some 20, 20, 48) := by kernel_rfl
  obtain ⟨i, hi, hz⟩ := Option.map_eq_some_iff.1 h
  simp only [Prod.mk.injEq] at hz
  obtain ⟨z, hz2, hz3⟩ := Option.map_eq_some_iff.1 hz.1
  exact ⟨i, z, hi, hz2, hz.2.1, hz.2.2, hz3⟩
theorem txt_at (i : Nat) (h : i < 9) : ∃ t r, txts[i]? = some t ∧ prs[i]? = some r ∧ t.good ∧ r.b = true ∧ v6b (fill8 t.hs t.ts) 8 = r.px ∧ t.n = r.bits ∧ r.px.length = 16 := by
  have h9 : txts.length = 9 := by decide
  have hp9 : prs.length = 9 := by decide
  obtain ⟨t, ht⟩ : ∃ t, txts[i]? = some t := ⟨_, List.getElem?_eq_getElem (by omega)⟩
  obtain ⟨r, hr⟩ : ∃ r, prs[i]? = some r := ⟨_, List.getElem?_eq_getElem (by omega)⟩
  have e := congrArg (fun l => l[i]?) txts_rows
  simp only [List.getElem?_map, ht, hr, Option.map_some, Option.some.injEq, Prod.mk.injEq] at e
  have hg := prs_good r (List.mem_of_getElem? hr)
  exact ⟨t, r, ht, hr, Txt.good_of (txts_check t (List.mem_of_getElem? ht)), hg.1, e.1, e.2, hg.2.1.1⟩
set_option maxRecDepth 100000 in
set_option maxHeartbeats 2000000 in
theorem rrows_any (w : World) :
    Calls Tryd.prog 45 #[] w fun e w' => ∃ v, e = .returned v ∧ OwnR w w' v prs ∧ Touch [] w w' := by
  obtain ⟨iR, zR, hiR, hzR, hsR, hbR, hzs⟩ := infoR2
  go_enter Tryd.func45, Tryd.ntmps45
  go_wp2_with fail
  obtain ⟨SS, hSS⟩ : ∃ SS : List Value, SS = txts.map fun t => str t.l := ⟨_, rfl⟩
  obtain ⟨PP, hPP⟩ : ∃ PP : List Value, PP = prs.map fun r => Value.int .i64 r.prec := ⟨_, rfl⟩
  obtain ⟨LL, hLL⟩ : ∃ LL : List Value, LL = prs.map fun r => Value.int .i64 r.label := ⟨_, rfl⟩
  obtain ⟨q0, q1, q2, q3⟩ := three w (.cells SS.toArray 9) (.cells PP.toArray 3) (.cells LL.toArray 3)
  obtain ⟨W0, hW0⟩ : ∃ W0, W0 = ((w.alloc (.cells SS.toArray 9)).alloc (.cells PP.toArray 3)).alloc (.cells LL.toArray 3) := ⟨_, rfl⟩
  rw [← hW0] at q0 q1 q2 q3
  have T0 := Lib.hid q0
  have Q1 := Lib.hid (fun i t (h : txts[i]? = some t) => (show W0.cell? ⟨w.heap.size, i, none⟩ = some (str t.l) by rw [cell_of_row _ _ _ _ _ _ q1, hSS]; simp [h]))
  have Q2 := Lib.hid (fun i r (h : prs[i]? = some r) => (show W0.cell? ⟨w.heap.size + 1, i, none⟩ = some (.int .i64 r.prec) by rw [cell_of_row _ _ _ _ _ _ q2, hPP]; simp [h]))
  have Q3 := Lib.hid (fun i r (h : prs[i]? = some r) => (show W0.cell? ⟨w.heap.size + 1 + 1, i, none⟩ = some (.int .i64 r.label) by rw [cell_of_row _ _ _ _ _ _ q3, hLL]; simp [h]))
  have zW0 : w.heap.size + 1 + 1 < W0.heap.size := (Array.getElem?_eq_some_iff.1 q3).1
  have HW0 := Lib.hid (show W0 = ((w.alloc (.cells #[.string ⟨#[58, 58, 49, 47, 49, 50, 56]⟩, .string ⟨#[58, 58, 47, 48]⟩, .string ⟨#[58, 58, 102, 102, 102, 102, 58, 48, 58, 48, 47, 57, 54]⟩, .string ⟨#[50, 48, 48, 50, 58, 58, 47, 49, 54]⟩, .string ⟨#[50, 48, 48, 49, 58, 58, 47, 51, 50]⟩, .string ⟨#[102, 99, 48, 48, 58, 58, 47, 55]⟩, .string ⟨#[58, 58, 47, 57, 54]⟩, .string ⟨#[102, 101, 99, 48, 58, 58, 47, 49, 48]⟩, .string ⟨#[51, 102, 102, 101, 58, 58, 47, 49, 54]⟩] 9)).alloc (.cells #[.int .i64 50, .int .i64 40, .int .i64 35, .int .i64 30, .int .i64 5, .int .i64 3, .int .i64 1, .int .i64 1, .int .i64 1] 3)).alloc (.cells #[.int .i64 0, .int .i64 1, .int .i64 4, .int .i64 2, .int .i64 5, .int .i64 13, .int .i64 3, .int .i64 11, .int .i64 12] 3) by rw [hW0, hSS, hPP, hLL]; rfl)
  have hp9 : prs.length = 9 := by decide
  have HZR := Lib.hid hzs
  clear q0 q1 q2 q3 hW0 hSS hPP hLL hzs
  go_loopw [4, 5] (fun vo vi wr => ∃ i : Nat, i ≤ 9 ∧ vi = .int .i64 i ∧ OwnR W0 wr vo (prs.take i) ∧ Touch [] W0 wr) (fun _ vi _ => 9 - (intOf vi).toNat)
  case atStart => exact ⟨0, by omega, rfl, OwnR.nil _ _, by rw [HW0.out]; exact Touch.refl _ _⟩
  case round =>
    obtain ⟨i, hi, rfl, hown, ht⟩ := hrel
    by_cases hlt : i < 9
    · obtain ⟨t, r, htx, hrx, hgood, hrb, hpx, hn, hpl⟩ := txt_at i hlt
      have hlti : (prs.take i).length = i := by simp [hp9]; omega
      have htk : prs.take (i + 1) = prs.take i ++ [r] := by rw [List.take_add_one, hrx]; rfl
      obtain ⟨ao, c, hvf, _, _, _⟩ := owns_form hown.row
      rw [hlti] at hvf
      subst hvf
      have c1 := ht.cell (Q1.out i t htx) (by simp)
      have hpp := pp_any t.l t.p t.q t.k t.hs t.ts t.n hgood
      rw [hpx, hn] at hpp
      have HPP := Lib.hid hpp
      have HL18 := Lib.hid (show (pfx true r.px r.bits).length = 18 by simp [pfx, adr, hpl])
      have HRL := Lib.hid (pr_len r hpl)
      have HBU := Lib.hid (show Tryd.prog.built 54 [(0, .agg (pfx true r.px r.bits).toArray), (1, .int .i64 r.prec), (2, .int .i64 r.label)] = some r.cells.toArray by
        have := built_prw true r.px r.bits r.prec r.label hpl
        rw [this]
        unfold PR.cells
        rw [hrb])
      have HC2 := Lib.hid (Q2.out i r hrx)
      have HC3 := Lib.hid (Q3.out i r hrx)
      have HTK := Lib.hid htk
      have HLI := Lib.hid hlti
      clear hpp hpx hn hgood htx hrx hrb hpl htk hlti
      generalize t.l = tl at *
      go_wp2_with fail
      refine (HPP.out _).mono ?_
      rintro e w2 ⟨rfl, t2⟩
      have HT2 := Lib.hid (ht.trans t2 (by simp))
      have hown2 := hown.touch t2 (by simp)
      have HN := Lib.hid (heap_alloc_new w2 (.cells (pfx false (List.replicate 16 0) 0).toArray 52))
      have HNT := Lib.hid ((Touch.refl [] w2).alloc (.cells (pfx false (List.replicate 16 0) 0).toArray 52))
      clear t2 hown HPP c1
      go_wp2_with ((with_reducible refine at_store 52 ?_); refine wpList_store_into rfl 52 _ _ rfl w2.heap.size 52 _ (pfx true r.px r.bits) rfl rfl HN.out (by rw [HL18.out]; rfl) (by rw [sizeP, HL18.out]) (pfx_one _ _ _) ?_)
      intro w3 h3 t3 z3
      have HT23 := Lib.hid (HNT.out.trans t3 (by intro y hy; right; simp at hy; omega))
      have HT3 := Lib.hid (HT2.out.trans HT23.out (by simp))
      have hown3 := hown2.touch HT23.out (by simp)
      have nP : w2.heap.size ∉ (Value.slice ao i c).ownBlock.toList := by
        intro hm
        have := hown2.lt _ (by simpa using hm)
        omega
      have np : w.heap.size + 1 ∉ (Value.slice ao i c).ownBlock.toList := by
        intro hm
        have := hown2.new _ (by simpa using hm)
        omega
      have nl : w.heap.size + 1 + 1 ∉ (Value.slice ao i c).ownBlock.toList := by
        intro hm
        have := hown2.new _ (by simpa using hm)
        omega
      clear t3 z3 hown2 HN HNT HT2
      go_wp2_with fail
      refine wp_region_held (S := Touch (Value.slice ao i c).ownBlock.toList w3.drew) (by kernel_rfl) ?_
      change wpAnyH _ _ _ _ _ _ _ _ w3.drew
      have rP : w3.drew.rangeAt w2.heap.size 0 (pfx true r.px r.bits) := range_block (w := w3) h3
      have cp : w3.drew.cell? ⟨w.heap.size + 1, i, none⟩ = some (.int .i64 r.prec) := HT3.out.cell HC2.out (by simp)
      have cl : w3.drew.cell? ⟨w.heap.size + 1 + 1, i, none⟩ = some (.int .i64 r.label) := HT3.out.cell HC3.out (by simp)
      have HT3 := Lib.hid (HT3.out.drew)
      have hown3 : OwnR W0 w3.drew (Value.slice ao i c) (prs.take i) := ⟨hown3.row, hown3.new⟩
      have hrow3 := hown3.row
      rw [HLI.out] at hrow3
      clear h3 HC2 HC3
      generalize w3.drew = W at *
      have hS := Touch.refl (Value.slice ao i c).ownBlock.toList W
      refine wpAnyH_take (i := 0) (oi := { dst := some 25, op := Op.move (Operand.tmp 4), type := 64, pos := "ref.go:19", after := #[], guard := none }) (v := .slice ao i c) rfl (by kernel_rfl) (by kernel_rfl) (by kernel_rfl) (fun _ _ _ h => h) (Or.inl ⟨by rfl, fun w' hw => by go_simp⟩) hS ?_
      try simp only [Act.put, List.setIfInBounds_toArray, List.set_cons_zero, List.set_cons_succ]
      refine wpAnyH_take (i := 1) (oi := { dst := some 26, op := Op.load 52 (Operand.tmp 6), type := 52, pos := "ref.go:19", after := #[], guard := none }) (v := .agg (pfx true r.px r.bits).toArray) rfl (by kernel_rfl) (by kernel_rfl) (by kernel_rfl) (fun _ _ _ h => h) (Or.inl ⟨by rfl, fun w' hw => exec_load_agg _ 52 _ rfl _ _ rfl (pfx true r.px r.bits) _ (hw.range rP nP) Tryd.underlying52 rfl (by rw [sizeP, HL18.out])⟩) hS ?_
      try simp only [Act.put, List.setIfInBounds_toArray, List.set_cons_zero, List.set_cons_succ]
      refine wpAnyH_take (i := 2) (oi := { dst := some 27, op := Op.move (Operand.tmp 2), type := 60, pos := "ref.go:19", after := #[], guard := none }) (v := .slice (some ⟨w.heap.size + 1, 0, none⟩) 9 9) rfl (by kernel_rfl) (by kernel_rfl) (by kernel_rfl) (fun _ _ _ h => h) (Or.inl ⟨by rfl, fun w' hw => by go_simp⟩) hS ?_
      try simp only [Act.put, List.setIfInBounds_toArray, List.set_cons_zero, List.set_cons_succ]
      refine wpAnyH_take (i := 3) (oi := { dst := some 28, op := Op.move (Operand.tmp 5), type := 3, pos := "ref.go:19", after := #[], guard := none }) (v := .int .i64 (i : Nat)) rfl (by kernel_rfl) (by kernel_rfl) (by kernel_rfl) (fun _ _ _ h => h) (Or.inl ⟨by rfl, fun w' hw => by go_simp⟩) hS ?_
      try simp only [Act.put, List.setIfInBounds_toArray, List.set_cons_zero, List.set_cons_succ]
      refine wpAnyH_take (i := 4) (oi := { dst := some 29, op := Op.indexAddr 60 (Operand.tmp 27) (Operand.tmp 28), type := 0, pos := "ref.go:19", after := #[{ on := 2, ground := Ground.data }, { on := 3, ground := Ground.data }], guard := none }) (v := .pointer (some ⟨(w.heap.size + 1), i, none⟩)) rfl (by kernel_rfl) (by kernel_rfl) (by kernel_rfl) (fun _ _ _ h => h) (Or.inl ⟨by rfl, fun w' hw => by go_simp⟩) hS ?_
      try simp only [Act.put, List.setIfInBounds_toArray, List.set_cons_zero, List.set_cons_succ]
      refine wpAnyH_take (i := 5) (oi := { dst := some 30, op := Op.load 3 (Operand.tmp 29), type := 3, pos := "ref.go:19", after := #[{ on := 4, ground := Ground.data }], guard := none }) (v := .int .i64 r.prec) rfl (by kernel_rfl) (by kernel_rfl) (by kernel_rfl) (fun _ _ _ h => h) (Or.inl ⟨by rfl, fun w' hw => by (have q := hw.cell cp np; go_simp)⟩) hS ?_
      try simp only [Act.put, List.setIfInBounds_toArray, List.set_cons_zero, List.set_cons_succ]
      refine wpAnyH_take (i := 6) (oi := { dst := some 31, op := Op.move (Operand.tmp 3), type := 60, pos := "ref.go:19", after := #[], guard := none }) (v := .slice (some ⟨w.heap.size + 1 + 1, 0, none⟩) 9 9) rfl (by kernel_rfl) (by kernel_rfl) (by kernel_rfl) (fun _ _ _ h => h) (Or.inl ⟨by rfl, fun w' hw => by go_simp⟩) hS ?_
      try simp only [Act.put, List.setIfInBounds_toArray, List.set_cons_zero, List.set_cons_succ]
      refine wpAnyH_take (i := 7) (oi := { dst := some 32, op := Op.move (Operand.tmp 5), type := 3, pos := "ref.go:19", after := #[], guard := none }) (v := .int .i64 (i : Nat)) rfl (by kernel_rfl) (by kernel_rfl) (by kernel_rfl) (fun _ _ _ h => h) (Or.inl ⟨by rfl, fun w' hw => by go_simp⟩) hS ?_
      try simp only [Act.put, List.setIfInBounds_toArray, List.set_cons_zero, List.set_cons_succ]
      refine wpAnyH_take (i := 8) (oi := { dst := some 33, op := Op.indexAddr 60 (Operand.tmp 31) (Operand.tmp 32), type := 0, pos := "ref.go:19", after := #[{ on := 6, ground := Ground.data }, { on := 7, ground := Ground.data }], guard := none }) (v := .pointer (some ⟨(w.heap.size + 1 + 1), i, none⟩)) rfl (by kernel_rfl) (by kernel_rfl) (by kernel_rfl) (fun _ _ _ h => h) (Or.inl ⟨by rfl, fun w' hw => by go_simp⟩) hS ?_
      try simp only [Act.put, List.setIfInBounds_toArray, List.set_cons_zero, List.set_cons_succ]
      refine wpAnyH_take (i := 9) (oi := { dst := some 34, op := Op.load 3 (Operand.tmp 33), type := 3, pos := "ref.go:19", after := #[{ on := 8, ground := Ground.data }], guard := none }) (v := .int .i64 r.label) rfl (by kernel_rfl) (by kernel_rfl) (by kernel_rfl) (fun _ _ _ h => h) (Or.inl ⟨by rfl, fun w' hw => by (have q := hw.cell cl nl; go_simp)⟩) hS ?_
      try simp only [Act.put, List.setIfInBounds_toArray, List.set_cons_zero, List.set_cons_succ]
      refine wpAnyH_take (i := 10) (oi := { dst := some 35, op := Op.build 54 #[(0, Operand.tmp 26), (1, Operand.tmp 30), (2, Operand.tmp 34)], type := 54, pos := "ref.go:19", after := #[{ on := 1, ground := Ground.data }, { on := 5, ground := Ground.data }, { on := 9, ground := Ground.data }], guard := none }) (v := .agg r.cells.toArray) rfl (by kernel_rfl) (by kernel_rfl) (by kernel_rfl) (fun _ _ _ h => h) (Or.inl ⟨by rfl, fun w' hw => exec_built _ 54 _ rfl _ _ (by rfl) HBU.out⟩) hS ?_
      try simp only [Act.put, List.setIfInBounds_toArray, List.set_cons_zero, List.set_cons_succ]
      refine wpAnyH_ready (rs := [11]) (by kernel_rfl) (by simp) ?_
      refine AllReadyH.cons (o := { dst := some 36, op := Op.buildSlice 64 1 #[(0, Operand.tmp 35)], type := 64, pos := "ref.go:19", after := #[{ on := 10, ground := Ground.data }], guard := none }) rfl (fun K hK => ?_) AllReadyH.nil
      refine step_of_list rfl ?_
      refine wpList_buildSlice_rows rfl 64 1 _ rfl 54 20 iR zR Tryd.underlying64 hiR hzR hsR (by omega) [r.cells] rfl (by simp [HRL.out]) (by omega) (by rfl) ?_
      have tA := (Touch.refl [] W).alloc (.cells [r.cells].flatten.toArray 54)
      have hrow2 := hrow3.alloc (.cells [r.cells].flatten.toArray 54)
      refine ⟨rfl, hK.out _ _ (tA.mono (by simp)) (fun hS9 => ?_)⟩
      clear hK K hS
      have hS := hS9
      clear hS9
      try simp only [Act.put, List.setIfInBounds_toArray, List.set_cons_zero, List.set_cons_succ]
      refine wpAnyH_ready (rs := [12]) (by kernel_rfl) (by simp) ?_
      refine AllReadyH.cons (o := { dst := some 37, op := Op.call { callee := Callee.builtin Builtin.append, args := #[Operand.tmp 25, Operand.tmp 36], argTypes := #[64, 64] }, type := 64, pos := "ref.go:19", after := #[{ on := 0, ground := Ground.data }, { on := 11, ground := Ground.data }], guard := none }) rfl (fun K hK => ?_) AllReadyH.nil
      refine step_app _ (by rfl) _ _ 64 (by rfl) 54 iR zR 20 48 Tryd.underlying64 hiR hzR hsR hbR HZR.out (by omega) (.slice ao i c) i (((prs.take i).map PR.cells).flatten) (by rfl) hrow2 (some ⟨W.heap.size, 0, none⟩) 1 1 ([r.cells].flatten) (by rfl) (by simp [HRL.out]) (by intro h; cases h) (fun ad e => by cases e; intro j u hu; exact World.news_of_block (heap_alloc_new W _) j u (by simpa using hu)) (by intro u hu; have h2 : u ∈ r.cells := (by simpa using hu); exact prw_one _ _ _ _ _ u h2) (by unfold maxLen; omega) (by omega) ?_
      intro vo w5 ho5 t5 hv5
      refine hK.out _ _ ((tA.mono (by simp)).trans t5 (fun x hx => .inl hx)) (fun hS9 => ?_)
      clear hK K hS
      have hS := hS9
      clear hS9
      try simp only [Act.put, List.setIfInBounds_toArray, List.set_cons_zero, List.set_cons_succ]
      refine wpAnyH_take (i := 13) (oi := { dst := some 4, op := Op.assign (Operand.tmp 37), type := 64, pos := "ref.go:19", after := #[{ on := 12, ground := Ground.data }, { on := 12, ground := Ground.chain }, { on := 0, ground := Ground.phase }, { on := 1, ground := Ground.phase }, { on := 2, ground := Ground.phase }, { on := 3, ground := Ground.phase }, { on := 4, ground := Ground.phase }, { on := 5, ground := Ground.phase }, { on := 6, ground := Ground.phase }, { on := 7, ground := Ground.phase }, { on := 8, ground := Ground.phase }, { on := 9, ground := Ground.phase }, { on := 10, ground := Ground.phase }, { on := 11, ground := Ground.phase }, { on := 12, ground := Ground.phase }], guard := none }) (v := vo) rfl (by kernel_rfl) (by kernel_rfl) (by kernel_rfl) (fun _ _ _ h => h) (Or.inl ⟨by rfl, fun w' hw => by go_simp⟩) hS ?_
      try simp only [Act.put, List.setIfInBounds_toArray, List.set_cons_zero, List.set_cons_succ]
      refine wpAnyH_done (by kernel_rfl) ?_ _
      try simp only [Act.put, List.setIfInBounds_toArray, List.set_cons_zero, List.set_cons_succ]
      have hown5 : OwnR W0 w5 vo (prs.take (i + 1)) := by
        refine ⟨?_, ?_⟩
        · rw [HTK.out, List.map_append, List.flatten_append, List.length_append, HLI.out]
          exact ho5
        · intro g hg
          have zz := HT3.out.size
          rcases hv5 with e | e
          · rw [e] at hg; exact hown3.new g hg
          · rw [e] at hg; simp at hg; omega
      have HT5 := Lib.hid (HT3.out.trans ((tA.mono (S' := (Value.slice ao i c).ownBlock.toList) (by simp)).trans t5 (fun x hx => .inl hx)) (fun y hy => .inr (hown3.new y (by simpa using hy))))
      clear ho5 t5 hv5 tA hS
      go_wp2_with fail
      go_roundw
      case rel => exact ⟨i + 1, by omega, by go_num, hown5, HT5.out⟩
      case measure => simp [intOf]; omega
    · have hie : i = 9 := by omega
      subst hie
      rw [show prs.take 9 = prs by rw [← hp9]; exact List.take_length] at hown
      go_wp2_with fail
      go_ret
      exact ⟨_, rfl, hown.older T0.out.size, T0.out.trans ht (by simp)⟩
end Go.Proofs.YtecaakgpogabjaaDoor

/-
  Merged texts: Bt, Pp, Vp, Px, Pt, Rr, Pl.
-/
import Derived.Test.YtiklhaajhdephaaGreatDoorGP
import Derived.Test.YtiklhaajhdephaaGreatDoorGH
import Derived.Test.YtiklhaajhdephaaGreatDoorGD

/-
 Bits of addresses: what truncate leaves, told bit by bit.
-/
namespace Go.Proofs.YtiklhaajhdephaaGreatDoor
open Go.RowKit
set_option linter.unusedVariables false
set_option linter.unusedSimpArgs false

theorem nat_bit (y m : Nat) : ((y : Int) / 2 ^ m % 2) = if y.testBit m then 1 else 0 := by
 rw [Nat.testBit_eq_decide_div_mod_eq]
 have : ((y : Int) / 2 ^ m % 2) = ((y / 2 ^ m % 2 : Nat) : Int) := by push_cast; rfl
 rw [this]
 have h := Nat.mod_two_eq_zero_or_one (y / 2 ^ m)
 rcases h with h | h <;> simp [h]
theorem mask_bit : ∀ k, k ≤ 8 → ∀ j, j < 8 → (255 * 2 ^ (8 - k) % 256 : Nat).testBit (7 - j) = decide (j < k) := by decide
theorem mask_cast (m : Nat) : (255 * 2 ^ m % 256 : Int) = ((255 * 2 ^ m % 256 : Nat) : Int) := by
 rw [Int.natCast_emod, Int.natCast_mul, Int.natCast_pow]
 rfl
theorem cutB_nat (bits : Int) (i : Nat) (x : Nat) (hx : x < 256) : cutB bits i x = ((x &&& (255 * 2 ^ (8 - (keep bits i).toNat) % 256) : Nat) : Int) := by
 have hk0 : 0 ≤ keep bits i := by unfold keep; omega
 have hk8 : keep bits i ≤ 8 := by unfold keep; omega
 unfold cutB
 have e : (8 - keep bits i).toNat = 8 - (keep bits i).toNat := by omega
 rw [e]
 rw [mask_cast, u8_and_nat x _ hx (Nat.mod_lt _ (by omega))]
theorem cutB_bit (bits : Int) (i : Nat) (x : Int) (h : 0 ≤ x ∧ x ≤ 255) (j : Nat) (hj : j < 8) : cutB bits i x / 2 ^ (7 - j) % 2 = if (8 * i + j : Int) < bits then x / 2 ^ (7 - j) % 2 else 0 := by
 obtain ⟨n, rfl⟩ := Int.eq_ofNat_of_zero_le h.1
 rw [cutB_nat bits i n (by omega), nat_bit, nat_bit, Nat.testBit_and]
 have hk0 : 0 ≤ keep bits i := by unfold keep; omega
 have hk8 : keep bits i ≤ 8 := by unfold keep; omega
 rw [mask_bit (keep bits i).toNat (by omega) j hj]
 have e : j < (keep bits i).toNat ↔ (8 * (i : Int) + j) < bits := by unfold keep; omega
 by_cases hb : (8 * (i : Int) + j) < bits
 ·simp [hb, e.2 hb]
 ·have : ¬ j < (keep bits i).toNat := fun q => hb (e.1 q)
  simp [hb, this]
theorem byte_ext (x y : Int) (hx : 0 ≤ x ∧ x ≤ 255) (hy : 0 ≤ y ∧ y ≤ 255) (h : ∀ j, j < 8 → x / 2 ^ (7 - j) % 2 = y / 2 ^ (7 - j) % 2) : x = y := by
 obtain ⟨a, rfl⟩ := Int.eq_ofNat_of_zero_le hx.1
 obtain ⟨b, rfl⟩ := Int.eq_ofNat_of_zero_le hy.1
 have : a = b := by
  apply Nat.eq_of_testBit_eq
  intro m
  by_cases hm : m < 8
  ·have := h (7 - m) (by omega)
   rw [show 7 - (7 - m) = m by omega, nat_bit, nat_bit] at this
   cases ha : a.testBit m <;> cases hb : b.testBit m <;> simp [ha, hb] at this ⊢
  ·rw [Nat.testBit_lt_two_pow (x := a), Nat.testBit_lt_two_pow (x := b)]
   ·have : 2 ^ 8 ≤ 2 ^ m := Nat.pow_le_pow_right (by omega) (by omega)
    omega
   ·have : 2 ^ 8 ≤ 2 ^ m := Nat.pow_le_pow_right (by omega) (by omega)
    omega
 rw [this]
theorem bit_trunc (bits : Int) (xs : List Int) (h : okB xs) (i : Nat) (hi : i < 128) : bitP (trunc bits xs) i = if (i : Int) < bits then bitP xs i else 0 := by
 obtain ⟨x, hx⟩ : ∃ x, xs[i / 8]? = some x := ⟨_, List.getElem?_eq_getElem (by rw [h.1]; omega)⟩
 have hr := h.2 x (List.mem_of_getElem? hx)
 have e1 : bitP (trunc bits xs) i = cutB bits (i / 8) x / 2 ^ (7 - i % 8) % 2 := by
  simp [bitP, trunc, List.getElem?_mapIdx, hx]
 have e2 : bitP xs i = x / 2 ^ (7 - i % 8) % 2 := by simp [bitP, hx]
 rw [e1, e2, cutB_bit bits (i / 8) x hr (i % 8) (Nat.mod_lt _ (by omega))]
 have : (8 * ((i / 8 : Nat) : Int) + ((i % 8 : Nat) : Int)) = (i : Int) := by omega
 rw [this]
theorem bits_ext (xs ys : List Int) (h : okB xs) (h' : okB ys) (hb : ∀ i, i < 128 → bitP xs i = bitP ys i) : xs = ys := by
 apply List.ext_getElem?
 intro k
 by_cases hk : k < 16
 ·obtain ⟨x, hx⟩ : ∃ x, xs[k]? = some x := ⟨_, List.getElem?_eq_getElem (by rw [h.1]; omega)⟩
  obtain ⟨y, hy⟩ : ∃ y, ys[k]? = some y := ⟨_, List.getElem?_eq_getElem (by rw [h'.1]; omega)⟩
  rw [hx, hy]
  congr 1
  refine byte_ext x y (h.2 x (List.mem_of_getElem? hx)) (h'.2 y (List.mem_of_getElem? hy)) ?_
  intro j hj
  have := hb (8 * k + j) (by omega)
  have e1 : (8 * k + j) / 8 = k := by omega
  have e2 : (8 * k + j) % 8 = j := by omega
  simpa [bitP, e1, e2, hx, hy] using this
 ·rw [List.getElem?_eq_none (by rw [h.1]; omega), List.getElem?_eq_none (by rw [h'.1]; omega)]
/-- A prefix that truncate leaves as it is has no bit behind its length. -/
theorem trunc_zero (bits : Int) (px : List Int) (h : okB px) (ht : trunc bits px = px) (i : Nat) (hi : i < 128) (hb : bits ≤ (i : Int)) : bitP px i = 0 := by
 have := bit_trunc bits px h i hi
 rw [ht, if_neg (by omega)] at this
 exact this
/-- The prefix contains the address, bit by bit. -/
theorem trunc_iff (bits : Int) (px xs : List Int) (hp : okB px) (hx : okB xs) (ht : trunc bits px = px) (hb : bits ≤ 128) : trunc bits xs = px ↔ ∀ i : Nat, (i : Int) < bits → bitP px i = bitP xs i := by
 constructor
 ·intro h i hi
  have := bit_trunc bits xs hx i (by omega)
  rw [h, if_pos hi] at this
  exact this
 ·intro h
  refine bits_ext _ _ (trunc_ok hx) hp ?_
  intro i hi
  rw [bit_trunc bits xs hx i hi]
  by_cases hlt : (i : Int) < bits
  ·rw [if_pos hlt, h i hlt]
  ·rw [if_neg hlt, trunc_zero bits px hp ht i hi (by omega)]
end Go.Proofs.YtiklhaajhdephaaGreatDoor

/-
 The contract of the reference's Parse at compressed addresses.
-/
namespace Go.Proofs.YtiklhaajhdephaaGreatDoor
open Go.RowKit
set_option linter.unusedVariables false
set_option linter.unusedSimpArgs false

theorem OwnU.form {w0 w : World} {v : Value} {xs : List Int} (h : OwnU w0 w v xs) : ∃ a cap, v = .slice a xs.length cap ∧ xs.length ≤ cap ∧ cap ≤ maxLen ∧ (a = none → xs.length = 0 ∧ cap = 0) ∧ (∀ ad, a = some ad → ∀ j u, (xs.map (Value.int .u16))[j]? = some u → w.cell? (ad.add j) = some u) ∧ ∀ i x, xs[i]? = some x → ∃ g, a = some ⟨g, 0, none⟩ ∧ w.cell? ⟨g, i, none⟩ = some (.int .u16 x) := by
 obtain ⟨hl, hr⟩ := h.row
 rcases hr with ⟨rfl, hn⟩ | ⟨g, cap, cur, rfl, hb, hg, hnc, hcm, hcs, htk⟩
 ·have hx : xs = [] := List.eq_nil_of_length_eq_zero hn
  subst hx
  refine ⟨none, 0, rfl, by simp, by simp [maxLen], fun _ => ⟨rfl, rfl⟩, ?_, ?_⟩
  ·intro ad had
   cases had
  ·intro i x hx
   simp at hx
 ·have key : ∀ i u, (xs.map (Value.int .u16))[i]? = some u → w.cell? ⟨g, i, none⟩ = some u := by
   intro i u hu
   rw [cell_of_row _ _ _ _ _ _ hg]
   rw [← htk, List.getElem?_take] at hu
   split at hu
   ·simpa using hu
   ·cases hu
  refine ⟨some ⟨g, 0, none⟩, cap, rfl, hnc, hcm, fun h => (by cases h), ?_, ?_⟩
  ·intro ad had j u hu
   cases had
   rw [Addr.add_lit, Nat.zero_add]
   exact key j u hu
  ·intro i x hx
   exact ⟨g, rfl, key i _ (by simp [hx])⟩
/-- What is between head and tail. -/
def fill8 (hs ts : List Int) : List Int := hs ++ List.replicate (8 - hs.length - ts.length) 0 ++ ts
structure GoodA (l : List UInt8) (at_ : Nat) (hs ts : List Int) : Prop where
 len : l.length ≤ 1000
 dot : (splitP l 46).length ≠ 4
 lt : at_ + 1 < l.length
 c0 : l[at_]? = some 58
 c1 : l[at_ + 1]? = some 58
 first : ∀ i < at_, ¬ (l[i]? = some 58 ∧ l[i + 1]? = some 58)
 head : GoodG (l.take at_) hs
 tail : GoodG (l.drop (at_ + 2)) ts
 seven : hs.length + ts.length ≤ 7
 rh : ∀ x ∈ hs, 0 ≤ x ∧ x ≤ 65535
 rt : ∀ x ∈ ts, 0 ≤ x ∧ x ≤ 65535
set_option maxRecDepth 100000 in
set_option maxHeartbeats 1000000 in
theorem parse_any (l : List UInt8) (k : Nat) (hs ts : List Int) (hG : GoodA l k hs ts) (w : World) :
  Calls Tryz.prog 167 #[str l] w fun e w' => e = .returned (.tuple #[.agg (adr true (v6b (fill8 hs ts) 8)).toArray, .bool true]) ∧ Touch [] w w' := by
 obtain ⟨hl, hdot, hlt, hc0, hc1, hfirst, hhead, htail, h7, hrh, hrt⟩ := hG
 obtain ⟨iU, hiU, hzU, hsU, hbU⟩ := info_parts infoU16
 obtain ⟨s, hs'⟩ : ∃ s : ByteArray, s = ⟨l.toArray⟩ := ⟨_, rfl⟩
 have hsz : s.size = l.length := by rw [hs']; exact str_size l
 have HIP := Lib.hid (ip4_bad l hl hdot)
 have HGH := Lib.hid (groups_any (l.take k) false hs hhead)
 have HGT := Lib.hid (groups_any (l.drop (k + 2)) true ts htail)
 have HX := Lib.hid (show Value.string s = str l by rw [hs']; rfl)
 rw [show str l = .string s by rw [hs']; rfl] at HIP ⊢
 clear hs' hhead htail hdot
 obtain ⟨zs, hzs⟩ : ∃ zs : List Int, zs = List.replicate 16 0 := ⟨_, rfl⟩
 have HZL := Lib.hid (show (adr false zs).length = 17 by rw [hzs]; rfl)
 rw [← hzs] at HIP
 have HT0 := Lib.hid ((Touch.refl [] w).alloc (.cells (adr false (List.replicate 16 0)).toArray 40))
 have HG0 := Lib.hid (heap_alloc_new w (.cells (adr false (List.replicate 16 0)).toArray 40))
 clear hzs
 go_enter Tryz.func167, Tryz.ntmps167
 go_wp2_with fail
 refine (HIP.out _).mono ?_
 rintro e w1 ⟨rfl, t1⟩
 have HT1 := Lib.hid (HT0.out.trans t1 (by simp))
 have HG1 := Lib.hid (t1.at HG0.out (by simp))
 have HT2 := Lib.hid ((Touch.refl [] w1).alloc (.cells (adr false (List.replicate 16 0)).toArray 40))
 have HN2 := Lib.hid (heap_alloc_new w1 (.cells (adr false (List.replicate 16 0)).toArray 40))
 clear t1 HT0 HG0 HIP
 go_wp2_with ((with_reducible refine at_store 40 ?_); refine wpList_store_into rfl 40 _ _ rfl w1.heap.size 40 _ (adr false zs) rfl rfl HN2.out (by rw [HZL.out]; rfl) (by rw [size31, HZL.out]) (adr_one _ _) ?_)
 intro w3 h3 t3 z3
 have HT13 := Lib.hid (HT2.out.trans t3 (by intro y hy; right; simp at hy; omega))
 have HT3 := Lib.hid (HT1.out.trans HT13.out (by simp))
 have HG3 := Lib.hid (HT13.out.at HG1.out (by simp))
 have z13 : w1.heap.size ≤ w3.heap.size := HT13.out.size
 have zw1 : w.heap.size < w1.heap.size := (Array.getElem?_eq_some_iff.1 HG1.out).1
 clear h3 t3 z3 HT2 HN2 HT1 HG1 HT13
 go_wp2_with fail
 go_loopw [7] (fun vi wr => wr = w3 ∧ ∃ i : Nat, i ≤ k ∧ vi = .int .i64 i) (fun vi _ => k + 1 - (intOf vi).toNat)
 case atStart => exact ⟨rfl, 0, by omega, rfl⟩
 case round =>
  obtain ⟨hwr, i, hi, rfl⟩ := hrel
  subst hwr
  obtain ⟨x, hx⟩ : ∃ x, l[i]? = some x := ⟨_, List.getElem?_eq_getElem (by omega)⟩
  obtain ⟨y, hy⟩ : ∃ y, l[i + 1]? = some y := ⟨_, List.getElem?_eq_getElem (by omega)⟩
  have wi : IntKind.i64.wrap ((i : Int) + 1) = (i : Int) + 1 := by rw [IntKind.wrap_i64] <;> omega
  have hli : (i : Int) + 1 < (l.length : Int) := by omega
  by_cases hik : i = k
  ·subst hik
   rw [hx] at hc0
   rw [hy] at hc1
   simp only [Option.some.injEq] at hc0 hc1
   subst hc0 hc1
   have e58 : ((58 : UInt8).toNat : Int) = 58 := rfl
   go_wp2_with (first
    | ((with_reducible refine at_index 9 ?_); refine wpList_strix (by rfl) 9 _ _ rfl Tryz.underlying9 l i 58 HX.out rfl hx ?_)
    | ((with_reducible refine at_index 9 ?_); refine wpList_strix (by rfl) 9 _ _ rfl Tryz.underlying9 l (i + 1) 58 HX.out rfl hy ?_)
    | ((with_reducible refine at_slice 9 ?_); refine wpList_strto (by rfl) 9 _ _ rfl Tryz.underlying9 l i HX.out rfl (by omega) ?_))
   refine (HGH.out _).mono ?_
   rintro e w4 ⟨v4, rfl, ho4, t4⟩
   have HT4 := Lib.hid (HT3.out.trans t4 (by simp))
   have z34 := t4.size
   have HG4 := Lib.hid (t4.at HG3.out (by simp))
   have wk : IntKind.i64.wrap ((i : Int) + 2) = (i : Int) + 2 := by rw [IntKind.wrap_i64] <;> omega
   clear t4 HT3 HG3 HGH hx hy e58
   go_wp2_with ((with_reducible refine at_slice 9 ?_); refine wpList_strfrom (by rfl) 9 _ _ rfl Tryz.underlying9 l (i + 2) HX.out rfl (by omega) ?_)
   refine (HGT.out _).mono ?_
   rintro e w5 ⟨v5, rfl, ho5, t5⟩
   have HT5 := Lib.hid (HT4.out.trans t5 (by simp))
   have HG5 := Lib.hid (t5.at HG4.out (by simp))
   have HO4 := Lib.hid ((ho4.older z13).touch t5 (by simp))
   have hdis : ∀ g, v4.ownBlock = some g → v5.ownBlock ≠ some g := by
    intro g h1 h2
    have a1 := ho4.lt g h1
    have a2 := ho5.new g h2
    omega
   have HO5 := Lib.hid (ho5.older (w0 := w1) (by have := ho4.row; have z := HT4.out.size; exact Nat.le_trans z13 (by have := t5.size; exact z34)))
   obtain ⟨a4, cap4, hv4, q1, q2, _⟩ := ho4.form
   obtain ⟨a5, cap5, hv5, p1, p2, _⟩ := ho5.form
   subst hv4 hv5
   have z15 : w1.heap.size ≤ w5.heap.size := by have := t5.size; omega
   clear t5 HT4 HG4 HGT ho4 ho5
   have w7 : ¬ ((7 : Int) < (hs.length : Int) + (ts.length : Int)) := by omega
   have w8 : IntKind.i64.wrap ((hs.length : Int) + (ts.length : Int)) = (hs.length : Int) + (ts.length : Int) := by rw [IntKind.wrap_i64] <;> omega
   go_wp2_with fail
   go_loopw [10] (fun vo wq => ∃ j : Nat, hs.length + j + ts.length ≤ 8 ∧ (∃ a c, vo = .slice a (hs.length + j) c) ∧ OwnU w1 wq vo (hs ++ List.replicate j 0) ∧ OwnU w1 wq (.slice a5 ts.length cap5) ts ∧ (∀ g, vo.ownBlock = some g → (Value.slice a5 ts.length cap5).ownBlock ≠ some g) ∧ Touch [] w wq ∧ w1.heap.size ≤ wq.heap.size ∧ wq.heap[w.heap.size]? = some (.cells (adr false (List.replicate 16 0)).toArray 40 (0, 0))) (fun vo _ => match vo with | .slice _ n _ => 8 - n | _ => 0)
   case atStart => exact ⟨0, by omega, ⟨_, _, rfl⟩, by simpa using HO4.out, HO5.out, hdis, HT5.out, z15, HG5.out⟩
   case round =>
    obtain ⟨j, hj, ⟨a, c, rfl⟩, ho, hm, hd, ht, hz, hg⟩ := hrel
    obtain ⟨ys, hys⟩ : ∃ ys, ys = hs ++ List.replicate j 0 := ⟨_, rfl⟩
    have hyl : ys.length = hs.length + j := by rw [hys]; simp
    rw [← hys] at ho
    have hrow := ho.row
    rw [hyl] at hrow
    have w9 : IntKind.i64.wrap ((hs.length : Int) + (j : Int) + (ts.length : Int)) = (hs.length : Int) + (j : Int) + (ts.length : Int) := by rw [IntKind.wrap_i64] <;> omega
    have HG := Lib.hid hg
    have HYS := Lib.hid hys
    have HT := Lib.hid ht
    clear hg hys ht HT5 HG5 HO4 HO5 hdis
    by_cases h8 : hs.length + j + ts.length < 8
    ·have h8c : (hs.length : Int) + (j : Int) + (ts.length : Int) < 8 := by omega
     go_wp2_with (at_builtin; refine wpList_app1 _ (by rfl) _ _ 199 (by rfl) 194 iU _ 2 Tryz.underlying199 hiU hzU hsU hbU rfl _ (hs.length + j) _ (by rfl) hrow (.int .u16 0) 194 (by rfl) rfl (by unfold maxLen; omega) (by omega) ?_)
     intro vo w6 ho6 t6 hv6
     have hown6 : OwnU w1 w6 vo (ys ++ [0]) := ho.snoc hz (by rw [hyl]; exact ho6) hv6
     have hm6 := hm.touch t6 (by
      intro g h1 h2
      exact hd g (by simpa using h2) h1)
     have hd6 : ∀ g, vo.ownBlock = some g → (Value.slice a5 ts.length cap5).ownBlock ≠ some g := by
      intro g h1 h2
      rcases hv6 with e | e
      ·exact hd g (by rw [← e]; exact h1) h2
      ·rw [e] at h1
       have := hm.lt g h2
       simp at h1
       omega
     have HT6 := Lib.hid (HT.out.trans t6 (fun y hy => .inr (by have := ho.new y (by simpa using hy); omega)))
     have HG6 := Lib.hid (t6.at HG.out (by intro hy; have := ho.new _ (by simpa using hy); omega))
     have z6 : w1.heap.size ≤ w6.heap.size := Nat.le_trans hz t6.size
     obtain ⟨a6, c6, hv, _⟩ := hown6.form
     subst hv
     simp only [List.length_append, List.length_cons, List.length_nil, hyl] at *
     go_wp2_with fail
     go_roundw
     case rel => exact ⟨j + 1, by omega, ⟨a6, c6, by rw [Nat.add_assoc]⟩, by rw [List.replicate_succ', ← List.append_assoc, ← HYS.out]; exact hown6, hm6, hd6, HT6.out, z6, HG6.out⟩
     case measure => simp; omega
    ·have h8c : ¬ ((hs.length : Int) + (j : Int) + (ts.length : Int) < 8) := by omega
     have hfil : ys ++ ts = fill8 hs ts := by rw [HYS.out, show j = 8 - hs.length - ts.length by omega]; rfl
     have hf8 : (fill8 hs ts).length = 8 := by rw [← hfil]; simp [hyl]; omega
     have hfr : ∀ x ∈ fill8 hs ts, 0 ≤ x ∧ x ≤ 65535 := by
      intro x hx
      rw [← hfil, HYS.out] at hx
      rcases List.mem_append.1 hx with hx | hx
      ·rcases List.mem_append.1 hx with hx | hx
       ·exact hrh x hx
       ·have := List.eq_of_mem_replicate hx
        omega
      ·exact hrt x hx
     obtain ⟨a9, c9, e9, _, _, hnone9, hnews9, _⟩ := hm.form
     simp only [Value.slice.injEq] at e9
     obtain ⟨rfl, _, rfl⟩ := e9
     go_wp2_with (at_builtin; refine wpList_app _ (by rfl) _ _ 199 (by rfl) 194 iU _ 1 2 Tryz.underlying199 hiU hzU hsU hbU rfl (by omega) _ (hs.length + j) _ (by rfl) hrow a5 ts.length cap5 (ts.map (Value.int .u16)) (by rfl) (by simp) hnone9 hnews9 (by intro u hu; obtain ⟨x, _, rfl⟩ := List.mem_map.1 hu; rfl) (by unfold maxLen; omega) (by omega) ?_)
     intro vo w6 ho6 t6 hv6
     have hown6 : OwnU w1 w6 vo (fill8 hs ts) := by
      refine ⟨?_, ?_⟩
      ·rw [← hfil, List.map_append, List.length_append, hyl]
       exact ho6
      ·intro g hg
       rcases hv6 with e | e
       ·rw [e] at hg; exact ho.new g hg
       ·rw [e] at hg; simp at hg; omega
     have HT6 := Lib.hid (HT.out.trans t6 (fun y hy => .inr (by have := ho.new y (by simpa using hy); omega)))
     have HG6 := Lib.hid (t6.at HG.out (by intro hy; have := ho.new _ (by simpa using hy); omega))
     obtain ⟨a6, c6, hv, _, _, _, _, hat⟩ := hown6.form
     rw [hf8] at hv
     obtain ⟨x0, hx0⟩ : ∃ x, (fill8 hs ts)[0]? = some x := ⟨_, List.getElem?_eq_getElem (by omega)⟩
     obtain ⟨g6, rfl, _⟩ := hat 0 x0 hx0
     subst hv
     have HV := Lib.hid (v6r_any (fill8 hs ts) hf8 hfr g6 c6 w6 (by
      intro k x hx
      obtain ⟨g', e, hc⟩ := hat k x hx
      simp only [Option.some.injEq, Addr.mk.injEq] at e
      obtain ⟨rfl, _⟩ := e
      exact hc))
     have hyl8 := v6b_len (fill8 hs ts) hf8 8 (by omega)
     have HL17 := Lib.hid (show (adr true (v6b (fill8 hs ts) 8)).length = 17 by simp [adr, hyl8])
     generalize hzz : v6b (fill8 hs ts) 8 = zz at *
     have HZZ := Lib.hid hzz
     clear hzz
     clear hat hx0 hown6 ho6 hfil hf8 hfr hnone9 hnews9 hyl8 hrow
     go_wp2_with fail
     refine HV.out.mono ?_
     rintro e w7 ⟨rfl, t7⟩
     have HT7 := Lib.hid (HT6.out.trans t7 (by simp))
     have HG7 := Lib.hid (t7.at HG6.out (by simp))
     clear t7 HV
     go_wp2_with ((with_reducible refine at_store 40 ?_); refine wpList_store_into rfl 40 _ _ rfl w.heap.size 40 _ (adr true zz) rfl rfl HG7.out (by rw [HL17.out]; rfl) (by rw [size31, HL17.out]) (adr_one _ _) ?_)
     intro w8 h8 t8 z8
     go_wp2_with fail
     exact ret_row_tmp rfl size31 Tryz.underlying40 rfl HL17.out rfl rfl h8 ⟨by rw [HZZ.out]; rfl, HT7.out.trans t8 (by simp)⟩
  ·have hne := hfirst i (by omega)
   rw [hx, hy] at hne
   simp only [Option.some.injEq] at hne
   have hli2 : (i : Int) + 1 < (l.length : Int) := hli
   by_cases hx58 : x = 58
   ·have e1 := (u8_inj x 58).2 hx58
    have e2 := (not_congr (u8_inj y 58)).2 (fun e => hne ⟨hx58, e⟩)
    rw [show ((58 : UInt8).toNat : Int) = 58 from rfl] at e1 e2
    go_wp2_with (first
     | ((with_reducible refine at_index 9 ?_); refine wpList_strix (by rfl) 9 _ _ rfl Tryz.underlying9 l i x HX.out rfl hx ?_)
     | ((with_reducible refine at_index 9 ?_); refine wpList_strix (by rfl) 9 _ _ rfl Tryz.underlying9 l (i + 1) y HX.out rfl hy ?_))
    go_roundw
    case rel => exact ⟨by trivial, i + 1, by omega, by go_num⟩
    case measure => simp [intOf]; omega
   ·have e1 := (not_congr (u8_inj x 58)).2 hx58
    rw [show ((58 : UInt8).toNat : Int) = 58 from rfl] at e1
    go_wp2_with (first
     | ((with_reducible refine at_index 9 ?_); refine wpList_strix (by rfl) 9 _ _ rfl Tryz.underlying9 l i x HX.out rfl hx ?_))
    go_roundw
    case rel => exact ⟨by trivial, i + 1, by omega, by go_num⟩
    case measure => simp [intOf]; omega
end Go.Proofs.YtiklhaajhdephaaGreatDoor

/-
 The contracts of the reference's ValidPrefix and Contains at valid prefixes.
-/
namespace Go.Proofs.YtiklhaajhdephaaGreatDoor
open Go.RowKit
set_option linter.unusedVariables false
set_option linter.unusedSimpArgs false

set_option maxRecDepth 100000 in
set_option maxHeartbeats 4000000 in
theorem vpfx_any (b : Bool) (px : List Int) (bits : Int) (hp : okB px) (hv : vld b px = true) (hb0 : 0 ≤ bits) (hb1 : bits ≤ blen b) (ht : trunc bits px = px) (w : World) :
  Calls Tryz.prog 160 #[.agg (pfx b px bits).toArray] w fun e w' => e = .returned (.bool true) ∧ Touch [] w w' := by
 obtain ⟨n0, rfl⟩ : ∃ n0 : Nat, bits = n0 := ⟨bits.toNat, by omega⟩
 have hb128 : blen b ≤ 128 := by unfold blen; split <;> omega
 have hblen0 : 0 ≤ blen b := by omega
 have R := range_new w (pfx b px (n0 : Int)) 176
 have t0 := ((Touch.refl [] w).alloc (.cells (pfx b px (n0 : Int)).toArray 176)).drew
 obtain ⟨r0, _, c17⟩ := pfx_rows hp.1 R
 have HL17 := Lib.hid (show (adr b px).length = 17 by simp [adr, hp.1])
 have HV := Lib.hid hv
 have HVA := Lib.hid (rvalid_any b px hp)
 have HBL := Lib.hid (rbitlen_any b px)
 have HBI := Lib.hid (fun i (hi : ((i : Nat) : Int) < blen b) => rbit_any b px hp i hi)
 have HZE := Lib.hid (fun (i : Nat) (hi : (i : Int) < blen b) (hb : (n0 : Int) ≤ (i : Int)) => trunc_zero n0 px hp ht i (by omega) hb)
 have hb0d : ¬ ((n0 : Int) < 0) := by omega
 have hb1d : ¬ (blen b < (n0 : Int)) := by omega
 clear hp hv ht R
 go_enter Tryz.func160, Tryz.ntmps160
 go_wp2_with fail
 obtain ⟨W, hW⟩ : ∃ W, W = (w.alloc (.cells (pfx b px (n0 : Int)).toArray 176)).drew := ⟨_, rfl⟩
 have rA : W.rangeAt w.heap.size 0 (adr b px) := by rw [hW]; exact r0
 have c17 : W.cell? ⟨w.heap.size, 17, none⟩ = some (.int .i64 (n0 : Int)) := by rw [hW]; exact c17
 refine wp_region_held (S := Touch [] W) (by kernel_rfl) ?_
 change wpAnyH _ _ _ _ _ _ _ _ (w.alloc (.cells (pfx b px (n0 : Int)).toArray 176)).drew
 rw [← hW] at t0 ⊢
 clear hW r0
 have T0 := Lib.hid t0
 clear t0
 have hS := Touch.refl [] W
 refine tkH 0 (.pointer (some ⟨w.heap.size, 0, none⟩)) ?_
 refine tkH 1 (.agg (adr b px).toArray) ?_ (hy := Or.inl ⟨by rfl, fun w' hw => exec_load_agg _ 40 _ rfl _ _ rfl (adr b px) _ (hw.range rA (by simp)) Tryz.underlying40 rfl (by rw [size31, HL17.out])⟩)
 refine wpAnyH_ready (rs := [2]) (by kernel_rfl) (by simp) ?_
 refine cnH rfl (fun K hK => ?_) AllReadyH.nil
 go_simp
 refine (HVA.out _).mono ?_
 rintro e w2 ⟨he, t2⟩
 rw [HV.out] at he
 subst he
 have hS2 := hS.trans t2 (by simp)
 refine hK.out _ _ hS2 (fun _ => ?_)
 clear hK K hS t2
 have hS := hS2
 clear hS2
 try simp only [Act.put, sT, s0, sS]
 refine tkH 3 (.bool false) ?_
 refine tkH 4 (.bool false) ?_
 refine tkH 5 (.pointer (some ⟨w.heap.size, 17, none⟩)) ?_
 refine tkH 6 (.int .i64 (n0 : Int)) ?_ (hy := Or.inl ⟨by rfl, fun w' hw => by (have q := hw.cell c17 (by simp); go_simp)⟩)
 refine tkH 7 (.bool false) ?_ (hy := Or.inl ⟨by rfl, fun w' hw => by (have q := hb0d; go_simp)⟩)
 refine tkH 8 (.bool false) ?_
 refine tkH 9 (.bool false) ?_
 refine tkH 10 (.pointer (some ⟨w.heap.size, 17, none⟩)) ?_
 refine tkH 11 (.int .i64 (n0 : Int)) ?_ (hy := Or.inl ⟨by rfl, fun w' hw => by (have q := hw.cell c17 (by simp); go_simp)⟩)
 refine tkH 12 (.pointer (some ⟨w.heap.size, 0, none⟩)) ?_
 refine tkH 13 (.agg (adr b px).toArray) ?_ (hy := Or.inl ⟨by rfl, fun w' hw => exec_load_agg _ 40 _ rfl _ _ rfl (adr b px) _ (hw.range rA (by simp)) Tryz.underlying40 rfl (by rw [size31, HL17.out])⟩)
 refine wpAnyH_ready (rs := [14]) (by kernel_rfl) (by simp) ?_
 refine cnH rfl (fun K hK => ?_) AllReadyH.nil
 go_simp
 refine (HBL.out _).mono ?_
 rintro e w14 ⟨he, t14⟩
 subst he
 have hS2 := hS.trans t14 (by simp)
 refine hK.out _ _ hS2 (fun _ => ?_)
 clear hK K hS t14
 have hS := hS2
 clear hS2
 try simp only [Act.put, sT, s0, sS]
 refine tkH 15 (.bool false) ?_ (hy := Or.inl ⟨by rfl, fun w' hw => by (have q := hb1d; go_simp)⟩)
 refine tkH 16 (.bool false) ?_
 refine wpAnyH_done (by kernel_rfl) ?_ _
 try simp only [Act.put, sT, s0, sS]
 have c17b := hS.cell c17 (by simp)
 have RA := Lib.hid rA
 have HS := Lib.hid hS
 clear hS c17 rA
 go_wp2_with fail
 go_loopw [3] (fun vi wr => ∃ i : Nat, n0 ≤ i ∧ (i : Int) ≤ blen b ∧ vi = .int .i64 i ∧ Touch [] W wr) (fun vi _ => 128 - (intOf vi).toNat)
 case atStart => exact ⟨n0, by omega, by omega, rfl, HS.out⟩
 case round =>
  obtain ⟨i, hi0, hi, rfl, hq⟩ := hrel
  have HQ := Lib.hid hq
  have RQ := hq.range RA.out (by simp)
  clear hq HS
  by_cases hlt : (i : Int) < blen b
  ·have HBIT := Lib.hid (HBI.out i hlt)
   have HZ := Lib.hid (HZE.out i hlt (by omega))
   go_wp2_with ((with_reducible refine at_load 40 ?_); refine wpList_load_mid rfl 40 _ rfl w.heap.size 0 rfl (adr b px) _ RQ Tryz.underlying40 rfl (by rw [size31, HL17.out]) ?_)
   refine (HBL.out _).mono ?_
   rintro e w2 ⟨rfl, t2⟩
   have HQ2 := Lib.hid (HQ.out.trans t2 (by simp))
   have RQ2 := HQ2.out.range RA.out (by simp)
   clear t2 HQ RQ
   go_wp2_with ((with_reducible refine at_load 40 ?_); refine wpList_load_mid rfl 40 _ rfl w.heap.size 0 rfl (adr b px) _ RQ2 Tryz.underlying40 rfl (by rw [size31, HL17.out]) ?_)
   refine (HBIT.out _).mono ?_
   rintro e w3 ⟨he, t3⟩
   rw [HZ.out] at he
   subst he
   have HQ3 := Lib.hid (HQ2.out.trans t3 (by simp))
   clear t3 HQ2 RQ2
   go_wp2_with fail
   go_roundw
   case rel => exact ⟨i + 1, by omega, by omega, by go_num, HQ3.out⟩
   case measure => simp [intOf]; omega
  ·go_wp2_with ((with_reducible refine at_load 40 ?_); refine wpList_load_mid rfl 40 _ rfl w.heap.size 0 rfl (adr b px) _ RQ Tryz.underlying40 rfl (by rw [size31, HL17.out]) ?_)
   refine (HBL.out _).mono ?_
   rintro e w2 ⟨rfl, t2⟩
   have HQ2 := Lib.hid (HQ.out.trans t2 (by simp))
   clear t2 HQ RQ
   go_wp2_with fail
   go_ret
   exact ⟨rfl, T0.out.trans HQ2.out (by simp)⟩
set_option maxRecDepth 100000 in
set_option maxHeartbeats 4000000 in
theorem rcont_any (b : Bool) (px : List Int) (bits : Int) (xs : List Int) (hp : okB px) (hv : vld b px = true) (hb0 : 0 ≤ bits) (hb1 : bits ≤ blen b) (ht : trunc bits px = px) (hx : okB xs) (hxv : vld b xs = true) (w : World) :
  Calls Tryz.prog 153 #[.agg (pfx b px bits).toArray, .agg (adr b xs).toArray] w fun e w' => e = .returned (.bool (decide (trunc bits xs = px))) ∧ Touch [] w w' := by
 obtain ⟨n0, rfl⟩ : ∃ n0 : Nat, bits = n0 := ⟨bits.toNat, by omega⟩
 have hb128 : blen b ≤ 128 := by unfold blen; split <;> omega
 have HIFF := Lib.hid (trunc_iff n0 px xs hp hx ht (by omega))
 have R := World.rangeAt_alloc (range_new w (pfx b px (n0 : Int)) 176) (.cells (adr b xs).toArray 40)
 have R1 := range_block (heap_alloc2_new w (.cells (pfx b px (n0 : Int)).toArray 176) (.cells (adr b xs).toArray 40))
 have t0 := (((Touch.refl [] w).alloc (.cells (pfx b px (n0 : Int)).toArray 176)).alloc (.cells (adr b xs).toArray 40))
 have HP18 := Lib.hid (show (pfx b px (n0 : Int)).length = 18 by simp [pfx, adr, hp.1])
 have HL17 := Lib.hid (show (adr b px).length = 17 by simp [adr, hp.1])
 have HX17 := Lib.hid (show (adr b xs).length = 17 by simp [adr, hx.1])
 have HXV := Lib.hid hxv
 have HVP := Lib.hid (vpfx_any b px n0 hp hv hb0 hb1 ht)
 have HVX := Lib.hid (rvalid_any b xs hx)
 have HBP := Lib.hid (fun i (hi : ((i : Nat) : Int) < blen b) => rbit_any b px hp i hi)
 have HBX := Lib.hid (fun i (hi : ((i : Nat) : Int) < blen b) => rbit_any b xs hx i hi)
 have T0 := Lib.hid t0
 have RP := R
 have RX := R1
 have HGX := Lib.hid (adr_cell (heap_alloc2_new w (.cells (pfx b px (n0 : Int)).toArray 176) (.cells (adr b xs).toArray 40)))
 have hpl := hp.1
 clear hp hv ht hx hxv t0 R R1
 go_enter Tryz.func153, Tryz.ntmps153
 go_wp2_with ((with_reducible refine at_load 176 ?_); refine wpList_load_mid rfl 176 _ rfl w.heap.size 0 rfl (pfx b px (n0 : Int)) _ RP Tryz.underlying176 rfl (by rw [sizeP, HP18.out]) ?_)
 refine (HVP.out _).mono ?_
 rintro e w2 ⟨rfl, t2⟩
 have HT2 := Lib.hid t2
 have RX2 := t2.range RX (by simp)
 clear t2
 go_wp2_with ((with_reducible refine at_load_g 40 3 false ?_); refine wpList_load_gg 3 false rfl (by rfl) 40 _ rfl (w.heap.size + 1) 0 rfl (adr b xs) _ RX2 Tryz.underlying40 rfl (by rw [size31, HX17.out]) ?_)
 refine (HVX.out _).mono ?_
 rintro e w3 ⟨he, t3⟩
 rw [HXV.out] at he
 subst he
 have HT3 := Lib.hid (HT2.out.trans t3 (by simp))
 have hr3 := HT3.out.range RP (by simp)
 obtain ⟨rP3, cb3, c173⟩ := pfx_rows hpl hr3
 have cx3 := HT3.out.cell HGX.out.1 (by simp)
 have RP3 := Lib.hid rP3
 have RX3 := Lib.hid (HT3.out.range RX (by simp))
 have T3 := Lib.hid (T0.out.trans HT3.out (by simp))
 have C173 := Lib.hid c173
 clear t3 HT2 RX2 RP RX hr3 rP3 HT3 HGX T0 c173
 cases b
 ·go_wp2_with fail
  go_loopw [5] (fun vi wr => ∃ i : Nat, i ≤ n0 ∧ vi = .int .i64 i ∧ Touch [] w3 wr ∧ ∀ j : Nat, j < i → bitP px j = bitP xs j) (fun vi _ => n0 - (intOf vi).toNat)
  case atStart => exact ⟨0, by omega, rfl, Touch.refl _ _, by intro j hj; omega⟩
  case round =>
   obtain ⟨i, hi, rfl, hq, hj⟩ := hrel
   have HJ := Lib.hid hj
   have HQ := Lib.hid hq
   have RPq := Lib.hid (hq.range RP3.out (by simp))
   have RXq := Lib.hid (hq.range RX3.out (by simp))
   have c17q := hq.cell C173.out (by simp)
   clear hq hj cb3 cx3
   by_cases hlt : i < n0
   ·have HBPi := Lib.hid (HBP.out i (by omega))
    have HBXi := Lib.hid (HBX.out i (by omega))
    obtain ⟨b1, hb1'⟩ : ∃ c, c = bitP px i := ⟨_, rfl⟩
    obtain ⟨b2, hb2'⟩ : ∃ c, c = bitP xs i := ⟨_, rfl⟩
    rw [← hb1'] at HBPi
    rw [← hb2'] at HBXi
    have HB1 := Lib.hid hb1'
    have HB2 := Lib.hid hb2'
    clear hb1' hb2' HBP HBX
    by_cases hbit : b1 = b2
    ·have HBP := HBPi
     have HBX := HBXi
     go_wp2_with fail
     refine wp_region_held (S := Touch [] wr.drew) (by kernel_rfl) ?_
     change wpAnyH _ _ _ _ _ _ _ _ wr.drew
     have rA : wr.drew.rangeAt w.heap.size 0 (adr false px) := RPq.out
     have rB : wr.drew.rangeAt (w.heap.size + 1) 0 (adr false xs) := RXq.out
     have HQd := Lib.hid (HQ.out.drew)
     clear HBPi HBXi RPq RXq HQ c17q
     generalize wr.drew = W at *
     have hS := Touch.refl [] W
     refine tkH 0 (.pointer (some ⟨w.heap.size, 0, none⟩)) ?_
     refine tkH 1 (.agg (adr false px).toArray) ?_ (hy := Or.inl ⟨by rfl, fun w' hw => exec_load_agg _ 40 _ rfl _ _ rfl (adr false px) _ (hw.range rA (by simp)) Tryz.underlying40 rfl (by rw [size31, HL17.out])⟩)
     refine tkH 2 (.int .i64 (i : Nat)) ?_
     refine tkH 4 (.agg (adr false xs).toArray) ?_ (hy := Or.inl ⟨by rfl, fun w' hw => exec_load_agg _ 40 _ rfl _ _ rfl (adr false xs) _ (hw.range rB (by simp)) Tryz.underlying40 rfl (by rw [size31, HX17.out])⟩)
     refine tkH 5 (.int .i64 (i : Nat)) ?_
     refine wpAnyH_ready (rs := [3]) (by kernel_rfl) (by simp) ?_
     refine cnH rfl (fun K hK => ?_) AllReadyH.nil
     go_simp
     refine (HBP.out _).mono ?_
     rintro e w3 ⟨he, t3⟩
     subst he
     have hS2 := hS.trans t3 (by simp)
     refine hK.out _ _ hS2 (fun _ => ?_)
     clear hK K hS t3
     have hS := hS2
     clear hS2
     try simp only [Act.put, sT, s0, sS]
     refine wpAnyH_ready (rs := [6]) (by kernel_rfl) (by simp) ?_
     refine cnH rfl (fun K hK => ?_) AllReadyH.nil
     go_simp
     refine (HBX.out _).mono ?_
     rintro e w6 ⟨he, t6⟩
     subst he
     have hS2 := hS.trans t6 (by simp)
     refine hK.out _ _ hS2 (fun _ => ?_)
     clear hK K hS t6
     have hS := hS2
     clear hS2
     try simp only [Act.put, sT, s0, sS]
     refine tkH 7 (.bool false) ?_ (hy := Or.inl ⟨by rfl, fun w' hw => by (have q := hbit; go_simp)⟩)
     refine wpAnyH_done (by kernel_rfl) ?_ _
     try simp only [Act.put, sT, s0, sS]
     go_wp2_with fail
     go_roundw
     case rel =>
      refine ⟨i + 1, by omega, by go_num, HQd.out.trans hS (by simp), ?_⟩
      intro j hj
      by_cases e : j = i
      ·subst e
       rw [← HB1.out, ← HB2.out, hbit]
      ·exact HJ.out j (by omega)
     case measure => simp [intOf]; omega
    ·have HS := Lib.hid (show decide (trunc (n0 : Int) xs = px) = false by
      simp only [decide_eq_false_iff_not]
      intro e
      have := HIFF.out.1 e i (by omega)
      rw [← HB1.out, ← HB2.out] at this
      exact hbit this)
     have HBP := HBPi
     have HBX := HBXi
     go_wp2_with fail
     refine wp_region_held (S := Touch [] wr.drew) (by kernel_rfl) ?_
     change wpAnyH _ _ _ _ _ _ _ _ wr.drew
     have rA : wr.drew.rangeAt w.heap.size 0 (adr false px) := RPq.out
     have rB : wr.drew.rangeAt (w.heap.size + 1) 0 (adr false xs) := RXq.out
     have HQd := Lib.hid (HQ.out.drew)
     clear HBPi HBXi RPq RXq HQ c17q
     generalize wr.drew = W at *
     have hS := Touch.refl [] W
     refine tkH 0 (.pointer (some ⟨w.heap.size, 0, none⟩)) ?_
     refine tkH 1 (.agg (adr false px).toArray) ?_ (hy := Or.inl ⟨by rfl, fun w' hw => exec_load_agg _ 40 _ rfl _ _ rfl (adr false px) _ (hw.range rA (by simp)) Tryz.underlying40 rfl (by rw [size31, HL17.out])⟩)
     refine tkH 2 (.int .i64 (i : Nat)) ?_
     refine tkH 4 (.agg (adr false xs).toArray) ?_ (hy := Or.inl ⟨by rfl, fun w' hw => exec_load_agg _ 40 _ rfl _ _ rfl (adr false xs) _ (hw.range rB (by simp)) Tryz.underlying40 rfl (by rw [size31, HX17.out])⟩)
     refine tkH 5 (.int .i64 (i : Nat)) ?_
     refine wpAnyH_ready (rs := [3]) (by kernel_rfl) (by simp) ?_
     refine cnH rfl (fun K hK => ?_) AllReadyH.nil
     go_simp
     refine (HBP.out _).mono ?_
     rintro e w3 ⟨he, t3⟩
     subst he
     have hS2 := hS.trans t3 (by simp)
     refine hK.out _ _ hS2 (fun _ => ?_)
     clear hK K hS t3
     have hS := hS2
     clear hS2
     try simp only [Act.put, sT, s0, sS]
     refine wpAnyH_ready (rs := [6]) (by kernel_rfl) (by simp) ?_
     refine cnH rfl (fun K hK => ?_) AllReadyH.nil
     go_simp
     refine (HBX.out _).mono ?_
     rintro e w6 ⟨he, t6⟩
     subst he
     have hS2 := hS.trans t6 (by simp)
     refine hK.out _ _ hS2 (fun _ => ?_)
     clear hK K hS t6
     have hS := hS2
     clear hS2
     try simp only [Act.put, sT, s0, sS]
     refine tkH 7 (.bool true) ?_ (hy := Or.inl ⟨by rfl, fun w' hw => by (have q := hbit; go_simp)⟩)
     refine wpAnyH_done (by kernel_rfl) ?_ _
     try simp only [Act.put, sT, s0, sS]
     go_wp2_with fail
     go_ret
     exact ⟨by rw [HS.out]; rfl, T3.out.trans (HQd.out.trans hS (by simp)) (by simp)⟩
   ·have hie : i = n0 := by omega
    subst hie
    have HS := Lib.hid (show decide (trunc (i : Int) xs = px) = true by
     simp only [decide_eq_true_iff]
     exact HIFF.out.2 (fun j hj => HJ.out j (by omega)))
    go_wp2_with fail
    go_ret
    exact ⟨by rw [HS.out]; rfl, T3.out.trans HQ.out (by simp)⟩
 ·go_wp2_with fail
  go_loopw [5] (fun vi wr => ∃ i : Nat, i ≤ n0 ∧ vi = .int .i64 i ∧ Touch [] w3 wr ∧ ∀ j : Nat, j < i → bitP px j = bitP xs j) (fun vi _ => n0 - (intOf vi).toNat)
  case atStart => exact ⟨0, by omega, rfl, Touch.refl _ _, by intro j hj; omega⟩
  case round =>
   obtain ⟨i, hi, rfl, hq, hj⟩ := hrel
   have HJ := Lib.hid hj
   have HQ := Lib.hid hq
   have RPq := Lib.hid (hq.range RP3.out (by simp))
   have RXq := Lib.hid (hq.range RX3.out (by simp))
   have c17q := hq.cell C173.out (by simp)
   clear hq hj cb3 cx3
   by_cases hlt : i < n0
   ·have HBPi := Lib.hid (HBP.out i (by omega))
    have HBXi := Lib.hid (HBX.out i (by omega))
    obtain ⟨b1, hb1'⟩ : ∃ c, c = bitP px i := ⟨_, rfl⟩
    obtain ⟨b2, hb2'⟩ : ∃ c, c = bitP xs i := ⟨_, rfl⟩
    rw [← hb1'] at HBPi
    rw [← hb2'] at HBXi
    have HB1 := Lib.hid hb1'
    have HB2 := Lib.hid hb2'
    clear hb1' hb2' HBP HBX
    by_cases hbit : b1 = b2
    ·have HBP := HBPi
     have HBX := HBXi
     go_wp2_with fail
     refine wp_region_held (S := Touch [] wr.drew) (by kernel_rfl) ?_
     change wpAnyH _ _ _ _ _ _ _ _ wr.drew
     have rA : wr.drew.rangeAt w.heap.size 0 (adr true px) := RPq.out
     have rB : wr.drew.rangeAt (w.heap.size + 1) 0 (adr true xs) := RXq.out
     have HQd := Lib.hid (HQ.out.drew)
     clear HBPi HBXi RPq RXq HQ c17q
     generalize wr.drew = W at *
     have hS := Touch.refl [] W
     refine tkH 0 (.pointer (some ⟨w.heap.size, 0, none⟩)) ?_
     refine tkH 1 (.agg (adr true px).toArray) ?_ (hy := Or.inl ⟨by rfl, fun w' hw => exec_load_agg _ 40 _ rfl _ _ rfl (adr true px) _ (hw.range rA (by simp)) Tryz.underlying40 rfl (by rw [size31, HL17.out])⟩)
     refine tkH 2 (.int .i64 (i : Nat)) ?_
     refine tkH 4 (.agg (adr true xs).toArray) ?_ (hy := Or.inl ⟨by rfl, fun w' hw => exec_load_agg _ 40 _ rfl _ _ rfl (adr true xs) _ (hw.range rB (by simp)) Tryz.underlying40 rfl (by rw [size31, HX17.out])⟩)
     refine tkH 5 (.int .i64 (i : Nat)) ?_
     refine wpAnyH_ready (rs := [3]) (by kernel_rfl) (by simp) ?_
     refine cnH rfl (fun K hK => ?_) AllReadyH.nil
     go_simp
     refine (HBP.out _).mono ?_
     rintro e w3 ⟨he, t3⟩
     subst he
     have hS2 := hS.trans t3 (by simp)
     refine hK.out _ _ hS2 (fun _ => ?_)
     clear hK K hS t3
     have hS := hS2
     clear hS2
     try simp only [Act.put, sT, s0, sS]
     refine wpAnyH_ready (rs := [6]) (by kernel_rfl) (by simp) ?_
     refine cnH rfl (fun K hK => ?_) AllReadyH.nil
     go_simp
     refine (HBX.out _).mono ?_
     rintro e w6 ⟨he, t6⟩
     subst he
     have hS2 := hS.trans t6 (by simp)
     refine hK.out _ _ hS2 (fun _ => ?_)
     clear hK K hS t6
     have hS := hS2
     clear hS2
     try simp only [Act.put, sT, s0, sS]
     refine tkH 7 (.bool false) ?_ (hy := Or.inl ⟨by rfl, fun w' hw => by (have q := hbit; go_simp)⟩)
     refine wpAnyH_done (by kernel_rfl) ?_ _
     try simp only [Act.put, sT, s0, sS]
     go_wp2_with fail
     go_roundw
     case rel =>
      refine ⟨i + 1, by omega, by go_num, HQd.out.trans hS (by simp), ?_⟩
      intro j hj
      by_cases e : j = i
      ·subst e
       rw [← HB1.out, ← HB2.out, hbit]
      ·exact HJ.out j (by omega)
     case measure => simp [intOf]; omega
    ·have HS := Lib.hid (show decide (trunc (n0 : Int) xs = px) = false by
      simp only [decide_eq_false_iff_not]
      intro e
      have := HIFF.out.1 e i (by omega)
      rw [← HB1.out, ← HB2.out] at this
      exact hbit this)
     have HBP := HBPi
     have HBX := HBXi
     go_wp2_with fail
     refine wp_region_held (S := Touch [] wr.drew) (by kernel_rfl) ?_
     change wpAnyH _ _ _ _ _ _ _ _ wr.drew
     have rA : wr.drew.rangeAt w.heap.size 0 (adr true px) := RPq.out
     have rB : wr.drew.rangeAt (w.heap.size + 1) 0 (adr true xs) := RXq.out
     have HQd := Lib.hid (HQ.out.drew)
     clear HBPi HBXi RPq RXq HQ c17q
     generalize wr.drew = W at *
     have hS := Touch.refl [] W
     refine tkH 0 (.pointer (some ⟨w.heap.size, 0, none⟩)) ?_
     refine tkH 1 (.agg (adr true px).toArray) ?_ (hy := Or.inl ⟨by rfl, fun w' hw => exec_load_agg _ 40 _ rfl _ _ rfl (adr true px) _ (hw.range rA (by simp)) Tryz.underlying40 rfl (by rw [size31, HL17.out])⟩)
     refine tkH 2 (.int .i64 (i : Nat)) ?_
     refine tkH 4 (.agg (adr true xs).toArray) ?_ (hy := Or.inl ⟨by rfl, fun w' hw => exec_load_agg _ 40 _ rfl _ _ rfl (adr true xs) _ (hw.range rB (by simp)) Tryz.underlying40 rfl (by rw [size31, HX17.out])⟩)
     refine tkH 5 (.int .i64 (i : Nat)) ?_
     refine wpAnyH_ready (rs := [3]) (by kernel_rfl) (by simp) ?_
     refine cnH rfl (fun K hK => ?_) AllReadyH.nil
     go_simp
     refine (HBP.out _).mono ?_
     rintro e w3 ⟨he, t3⟩
     subst he
     have hS2 := hS.trans t3 (by simp)
     refine hK.out _ _ hS2 (fun _ => ?_)
     clear hK K hS t3
     have hS := hS2
     clear hS2
     try simp only [Act.put, sT, s0, sS]
     refine wpAnyH_ready (rs := [6]) (by kernel_rfl) (by simp) ?_
     refine cnH rfl (fun K hK => ?_) AllReadyH.nil
     go_simp
     refine (HBX.out _).mono ?_
     rintro e w6 ⟨he, t6⟩
     subst he
     have hS2 := hS.trans t6 (by simp)
     refine hK.out _ _ hS2 (fun _ => ?_)
     clear hK K hS t6
     have hS := hS2
     clear hS2
     try simp only [Act.put, sT, s0, sS]
     refine tkH 7 (.bool true) ?_ (hy := Or.inl ⟨by rfl, fun w' hw => by (have q := hbit; go_simp)⟩)
     refine wpAnyH_done (by kernel_rfl) ?_ _
     try simp only [Act.put, sT, s0, sS]
     go_wp2_with fail
     go_ret
     exact ⟨by rw [HS.out]; rfl, T3.out.trans (HQd.out.trans hS (by simp)) (by simp)⟩
   ·have hie : i = n0 := by omega
    subst hie
    have HS := Lib.hid (show decide (trunc (i : Int) xs = px) = true by
     simp only [decide_eq_true_iff]
     exact HIFF.out.2 (fun j hj => HJ.out j (by omega)))
    go_wp2_with fail
    go_ret
    exact ⟨by rw [HS.out]; rfl, T3.out.trans HQ.out (by simp)⟩
end Go.Proofs.YtiklhaajhdephaaGreatDoor

/-
 The contract of the reference's ParsePrefix at the table's texts.
-/
namespace Go.Proofs.YtiklhaajhdephaaGreatDoor
open Go.RowKit
set_option linter.unusedVariables false
set_option linter.unusedSimpArgs false

structure GoodX (l p q : List UInt8) (k : Nat) (hs ts : List Int) (n : Int) : Prop where
 len : l.length ≤ 1000
 cut : splitP l 47 = [p, q]
 addr : GoodA p k hs ts
 num : decP q 128 = n
 ok : okB (v6b (fill8 hs ts) 8)
 n0 : 0 ≤ n
 n1 : n ≤ 128
 tr : trunc n (v6b (fill8 hs ts) 8) = v6b (fill8 hs ts) 8
theorem pfx_one (b : Bool) (px : List Int) (bits : Int) : ∀ v ∈ pfx b px bits, v.oneCell' = true := fun v hv => prw_one b px bits 0 0 v (List.mem_append_left _ hv)
set_option maxRecDepth 100000 in
set_option maxHeartbeats 1000000 in
theorem pp_any (l p q : List UInt8) (k : Nat) (hs ts : List Int) (n : Int) (hG : GoodX l p q k hs ts n) (w : World) :
  Calls Tryz.prog 159 #[str l] w fun e w' => e = .returned (.tuple #[.agg (pfx true (v6b (fill8 hs ts) 8) n).toArray, .bool true]) ∧ Touch [] w w' := by
 obtain ⟨hl, hcut, hA, hnum, hok, hn0, hn1, htr⟩ := hG
 have HSP := Lib.hid (split_any l 47 hl)
 rw [hcut] at HSP
 have HPA := Lib.hid (parse_any p k hs ts hA)
 have HDE := Lib.hid (dec_any q 128)
 rw [hnum] at HDE
 have HVP := Lib.hid (vpfx_any true (v6b (fill8 hs ts) 8) n hok rfl hn0 hn1 htr)
 generalize hzz : v6b (fill8 hs ts) 8 = zz at *
 have HZZ := Lib.hid hzz
 obtain ⟨s, hs'⟩ : ∃ s : ByteArray, s = ⟨l.toArray⟩ := ⟨_, rfl⟩
 rw [show str l = .string s by rw [hs']; rfl] at HSP ⊢
 have HL17 := Lib.hid (show (adr true zz).length = 17 by simp [adr, hok.1])
 have HL18 := Lib.hid (show (pfx true zz n).length = 18 by simp [pfx, adr, hok.1])
 have HB := Lib.hid (built_pfx true zz n hok.1)
 have HT0 := Lib.hid ((Touch.refl [] w).alloc (.cells (pfx false (List.replicate 16 0) 0).toArray 176))
 have HG0 := Lib.hid (heap_alloc_new w (.cells (pfx false (List.replicate 16 0) 0).toArray 176))
 have hz18 : (pfx false (List.replicate 16 0) 0).toArray.size = 18 := rfl
 have HZ18 := Lib.hid hz18
 clear hzz hs' hok htr hA hnum hcut hn0 hn1 hl hz18
 go_enter Tryz.func159, Tryz.ntmps159
 go_wp2_with fail
 refine (HSP.out _).mono ?_
 rintro e w1 ⟨v, rfl, ho, t1⟩
 obtain ⟨a, cap, rfl, _, _, hat⟩ := ho.form
 obtain ⟨g, rfl, c0⟩ := hat 0 p rfl
 obtain ⟨g2, e2, c1⟩ := hat 1 q rfl
 simp only [Option.some.injEq, Addr.mk.injEq] at e2
 obtain ⟨rfl, _⟩ := e2
 have HT1 := Lib.hid (HT0.out.trans t1 (by simp))
 have HG1 := Lib.hid (t1.at HG0.out (by simp))
 have HC1 := Lib.hid c1
 clear t1 HT0 HG0 HSP hat ho c1
 go_wp2_with fail
 refine (HPA.out _).mono ?_
 rintro e w2 ⟨rfl, t2⟩
 have HT2 := Lib.hid (HT1.out.trans t2 (by simp))
 have HG2 := Lib.hid (t2.at HG1.out (by simp))
 have HC2 := Lib.hid (t2.cell HC1.out (by simp))
 have HN := Lib.hid (heap_alloc_new w2 (.cells (adr false (List.replicate 16 0)).toArray 40))
 have HNT := Lib.hid ((Touch.refl [] w2).alloc (.cells (adr false (List.replicate 16 0)).toArray 40))
 have zw2 : w.heap.size < w2.heap.size := (Array.getElem?_eq_some_iff.1 HG2.out).1
 clear t2 HT1 HG1 HC1 HPA c0
 go_wp2_with ((with_reducible refine at_store 40 ?_); refine wpList_store_into rfl 40 _ _ rfl w2.heap.size 40 _ (adr true zz) rfl rfl HN.out (by rw [HL17.out]; rfl) (by rw [size31, HL17.out]) (adr_one _ _) ?_)
 intro w3 h3 t3 z3
 have HT23 := Lib.hid (HNT.out.trans t3 (by intro y hy; right; simp at hy; omega))
 have HT3 := Lib.hid (HT2.out.trans HT23.out (by simp))
 have HG3 := Lib.hid (HT23.out.at HG2.out (by simp))
 have c3 := HT23.out.cell HC2.out (by simp)
 have HA3 := Lib.hid h3
 have zw3 : w2.heap.size < w3.heap.size := (Array.getElem?_eq_some_iff.1 h3).1
 clear h3 t3 z3 HT2 HG2 HC2 HN HNT HT23
 go_wp2_with fail
 refine (HDE.out _).mono ?_
 rintro e w4 ⟨rfl, rfl⟩
 have HN := Lib.hid (heap_alloc_new w3 (.cells (pfx false (List.replicate 16 0) 0).toArray 176))
 have HNT := Lib.hid ((Touch.refl [] w3).alloc (.cells (pfx false (List.replicate 16 0) 0).toArray 176))
 have R3 := range_block HA3.out
 clear HDE c3
 go_wp2_with (first
  | ((with_reducible refine at_load 40 ?_); refine wpList_load_mid rfl 40 _ rfl w2.heap.size 0 rfl (adr true zz) _ R3 Tryz.underlying40 rfl (by rw [size31, HL17.out]) ?_)
  | ((with_reducible refine at_build 176 ?_); refine wpList_built (by rfl) 176 _ (by rfl) _ _ (by rfl) HB.out ?_)
  | ((with_reducible refine at_store 176 ?_); refine wpList_store_into rfl 176 _ _ rfl w3.heap.size 176 _ (pfx true zz n) rfl rfl HN.out (by rw [HL18.out]; rfl) (by rw [sizeP, HL18.out]) (pfx_one _ _ _) ?_))
 intro w5 h5 t5 z5
 have HT35 := Lib.hid (HNT.out.trans t5 (by intro y hy; right; simp at hy; omega))
 have HT5 := Lib.hid (HT3.out.trans HT35.out (by simp))
 have HG5 := Lib.hid (HT35.out.at HG3.out (by simp))
 have HP5 := Lib.hid h5
 have R5 := range_block h5
 clear h5 t5 z5 HT3 HG3 HA3 HN HNT HT35 R3
 go_wp2_with ((with_reducible refine at_load_g 176 2 false ?_); refine wpList_load_gg 2 false rfl (by rfl) 176 _ rfl w3.heap.size 0 rfl (pfx true zz n) _ R5 Tryz.underlying176 rfl (by rw [sizeP, HL18.out]) ?_)
 refine (HVP.out _).mono ?_
 rintro e w6 ⟨rfl, t6⟩
 have HT6 := Lib.hid (HT5.out.trans t6 (by simp))
 have HG6 := Lib.hid (t6.at HG5.out (by simp))
 have R6 := t6.range R5 (by simp)
 clear t6 HT5 HG5 HP5 R5 HVP
 go_wp2_with (first
  | ((with_reducible refine at_load 176 ?_); refine wpList_load_mid rfl 176 _ rfl w3.heap.size 0 rfl (pfx true zz n) _ R6 Tryz.underlying176 rfl (by rw [sizeP, HL18.out]) ?_)
  | ((with_reducible refine at_store 176 ?_); refine wpList_store_into rfl 176 _ _ rfl w.heap.size 176 _ (pfx true zz n) rfl rfl HG6.out (by rw [HL18.out]; exact HZ18.out) (by rw [sizeP, HL18.out]) (pfx_one _ _ _) ?_))
 intro w7 h7 t7 z7
 go_wp2_with fail
 exact ret_row_tmp rfl sizeP Tryz.underlying176 rfl HL18.out rfl rfl h7 ⟨by first | (rw [HZZ.out]; rfl) | rfl, HT6.out.trans t7 (by simp)⟩
end Go.Proofs.YtiklhaajhdephaaGreatDoor

/-
 The nine texts of the table.
-/
namespace Go.Proofs.YtiklhaajhdephaaGreatDoor
open Go.RowKit
set_option linter.unusedVariables false
set_option linter.unusedSimpArgs false

def goodPb (p : List UInt8) (n : Int) : Bool := (splitP p 46).length != 4 && (hexs p p.length == some n) && p != [] && decide (p.length ≤ 4)
def goodGb (l : List UInt8) (ns : List Int) : Bool := decide (l.length ≤ 1000) && ((l == [] && ns == []) || (l != [] && (splitP l 58).length == ns.length && decide (ns.length ≤ 1000) && ((splitP l 58).zip ns).all fun x => goodPb x.1 x.2))
theorem goodG_of {l : List UInt8} {ns : List Int} (h : goodGb l ns = true) : GoodG l ns := by
 unfold goodGb at h
 simp only [Bool.and_eq_true, Bool.or_eq_true, decide_eq_true_eq, beq_iff_eq, bne_iff_ne] at h
 obtain ⟨h1, h2⟩ := h
 refine ⟨h1, ?_⟩
 rcases h2 with ⟨h2, h3⟩ | ⟨⟨⟨h2, h3⟩, h4⟩, h5⟩
 ·exact .inl ⟨h2, h3⟩
 ·refine .inr ⟨h2, h3, h4, ?_⟩
  intro i p n hp hn
  have hz : ((splitP l 58).zip ns)[i]? = some (p, n) := by simp [List.getElem?_zip_eq_some, hp, hn]
  have := List.all_eq_true.1 h5 _ (List.mem_of_getElem? hz)
  simp only [goodPb, Bool.and_eq_true, decide_eq_true_eq, beq_iff_eq, bne_iff_ne] at this
  obtain ⟨⟨⟨a1, a2⟩, a3⟩, a4⟩ := this
  exact ⟨a1, a2, a3, a4⟩
structure Txt where
 l : List UInt8
 p : List UInt8
 q : List UInt8
 k : Nat
 hs : List Int
 ts : List Int
 n : Int
def Txt.good (t : Txt) : Prop := GoodX t.l t.p t.q t.k t.hs t.ts t.n
def rng (xs : List Int) : Bool := xs.all fun x => decide (0 ≤ x ∧ x ≤ 65535)
def rng8 (xs : List Int) : Bool := xs.all fun x => decide (0 ≤ x ∧ x ≤ 255)
def Txt.check (t : Txt) : Bool :=
 decide (t.l.length ≤ 1000) && (splitP t.l 47 == [t.p, t.q]) && decide (t.p.length ≤ 1000) && (splitP t.p 46).length != 4 && decide (t.k + 1 < t.p.length) && (t.p[t.k]? == some 58) && (t.p[t.k + 1]? == some 58) &&
 (List.range t.k).all (fun i => !((t.p[i]? == some 58) && (t.p[i + 1]? == some 58))) && goodGb (t.p.take t.k) t.hs && goodGb (t.p.drop (t.k + 2)) t.ts && decide (t.hs.length + t.ts.length ≤ 7) && rng t.hs && rng t.ts &&
 (decP t.q 128 == t.n) && decide ((v6b (fill8 t.hs t.ts) 8).length = 16) && rng8 (v6b (fill8 t.hs t.ts) 8) && decide (0 ≤ t.n) && decide (t.n ≤ 128) && (trunc t.n (v6b (fill8 t.hs t.ts) 8) == v6b (fill8 t.hs t.ts) 8)
theorem Txt.good_of {t : Txt} (h : t.check = true) : t.good := by
 unfold Txt.check at h
 simp only [Bool.and_eq_true, decide_eq_true_eq, beq_iff_eq, bne_iff_ne] at h
 obtain ⟨⟨⟨⟨⟨⟨⟨⟨⟨⟨⟨⟨⟨⟨⟨⟨⟨⟨a1, a2⟩, a3⟩, a4⟩, a5⟩, a6⟩, a7⟩, a8⟩, a9⟩, b1⟩, b2⟩, b3⟩, b4⟩, b5⟩, b6⟩, b7⟩, b8⟩, b9⟩, c1⟩ := h
 have rr : ∀ xs, rng xs = true → ∀ x ∈ xs, 0 ≤ x ∧ x ≤ 65535 := fun xs hx x hm => by simpa using List.all_eq_true.1 hx x hm
 refine ⟨a1, a2, ⟨a3, a4, a5, a6, a7, ?_, goodG_of a9, goodG_of b1, b2, rr _ b3, rr _ b4⟩, b5, ⟨b6, fun x hm => by simpa using List.all_eq_true.1 b7 x hm⟩, b8, b9, c1⟩
 intro i hi hc
 have := List.all_eq_true.1 a8 i (List.mem_range.2 hi)
 simp [hc.1, hc.2] at this
def txts : List Txt := [
 ⟨[58, 58, 49, 47, 49, 50, 56], [58, 58, 49], [49, 50, 56], 0, [], [1], 128⟩,
 ⟨[58, 58, 47, 48], [58, 58], [48], 0, [], [], 0⟩,
 ⟨[58, 58, 102, 102, 102, 102, 58, 48, 58, 48, 47, 57, 54], [58, 58, 102, 102, 102, 102, 58, 48, 58, 48], [57, 54], 0, [], [65535, 0, 0], 96⟩,
 ⟨[50, 48, 48, 50, 58, 58, 47, 49, 54], [50, 48, 48, 50, 58, 58], [49, 54], 4, [8194], [], 16⟩,
 ⟨[50, 48, 48, 49, 58, 58, 47, 51, 50], [50, 48, 48, 49, 58, 58], [51, 50], 4, [8193], [], 32⟩,
 ⟨[102, 99, 48, 48, 58, 58, 47, 55], [102, 99, 48, 48, 58, 58], [55], 4, [64512], [], 7⟩,
 ⟨[58, 58, 47, 57, 54], [58, 58], [57, 54], 0, [], [], 96⟩,
 ⟨[102, 101, 99, 48, 58, 58, 47, 49, 48], [102, 101, 99, 48, 58, 58], [49, 48], 4, [65216], [], 10⟩,
 ⟨[51, 102, 102, 101, 58, 58, 47, 49, 54], [51, 102, 102, 101, 58, 58], [49, 54], 4, [16382], [], 16⟩]
set_option maxRecDepth 100000 in
theorem txts_check : ∀ t ∈ txts, t.check = true := by
 have h : txts.all (fun t => t.check) = true := by decide
 exact fun t ht => List.all_eq_true.1 h t ht
theorem txts_rows : txts.map (fun t => (v6b (fill8 t.hs t.ts) 8, t.n)) = prs.map (fun r => (r.px, r.bits)) := by decide
end Go.Proofs.YtiklhaajhdephaaGreatDoor

/-
 The contract of the reference's Rows.
-/
namespace Go.Proofs.YtiklhaajhdephaaGreatDoor
open Go.RowKit
set_option linter.unusedVariables false
set_option linter.unusedSimpArgs false

/-- A slice of rows of the call's own, made since w0. -/
structure OwnR (w0 w : World) (v : Value) (xs : List PR) : Prop where
 row : w.ownsRow 0 178 20 v xs.length (xs.map PR.cells).flatten
 new : ∀ g, v.ownBlock = some g → w0.heap.size ≤ g
theorem OwnR.nil (w0 w : World) : OwnR w0 w (.slice none 0 0) [] := ⟨World.ownsRow_nil _ _ _ _, by simp [Value.ownBlock]⟩
theorem OwnR.touch {S : List Nat} {w0 w w' : World} {v : Value} {xs : List PR} (h : OwnR w0 w v xs) (t : Touch S w w') (hn : ∀ g, v.ownBlock = some g → g ∉ S) : OwnR w0 w' v xs := ⟨t.owns h.row hn, h.new⟩
theorem OwnR.lt {w0 w : World} {v : Value} {xs : List PR} (h : OwnR w0 w v xs) : ∀ g, v.ownBlock = some g → g < w.heap.size := fun g hg => (h.row.lt g hg).2
theorem OwnR.older {w0 w1 w : World} {v : Value} {xs : List PR} (h : OwnR w1 w v xs) (hz : w0.heap.size ≤ w1.heap.size) : OwnR w0 w v xs := ⟨h.row, fun g hg => Nat.le_trans hz (h.new g hg)⟩
theorem exec_built {a : Act} {w : World} (op : Oper) (t : TypeId) (parts : Array (Nat × Operand)) (ho : op.op = .build t parts)
  (vals : List (Nat × Value)) (cells : Array Value) (hv : (parts.toList.map fun p => (p.1, a.eval p.2)) = vals) (hb : Tryz.prog.built t vals = some cells) : (execOp a.eval op).run Tryz.prog w = .ok (.value (.agg cells)) w := by
 have hr := run_build (P := Tryz.prog) w t (parts.map fun (i, x) => (i, a.eval x)) cells (by rw [Array.toList_map, ← hb, ← hv])
 unfold execOp
 simp only [ho, Sem.run_bind, hr, Result.andThen_ok, Sem.run_pure]
theorem infoR2 : ∃ i z, Tryz.prog.info? 178 = some i ∧ i.zero = some z ∧ i.size = 20 ∧ i.bytes = 48 ∧ z.cells.size = 20 := by
 have h : (Tryz.prog.info? 178).map (fun i => (i.zero.map fun z => z.cells.size, i.size, i.bytes)) = some (some 20, 20, 48) := by kernel_rfl
 obtain ⟨i, hi, hz⟩ := Option.map_eq_some_iff.1 h
 simp only [Prod.mk.injEq] at hz
 obtain ⟨z, hz2, hz3⟩ := Option.map_eq_some_iff.1 hz.1
 exact ⟨i, z, hi, hz2, hz.2.1, hz.2.2, hz3⟩
theorem txt_at (i : Nat) (h : i < 9) : ∃ t r, txts[i]? = some t ∧ prs[i]? = some r ∧ t.good ∧ r.b = true ∧ v6b (fill8 t.hs t.ts) 8 = r.px ∧ t.n = r.bits ∧ r.px.length = 16 := by
 have h9 : txts.length = 9 := by decide
 have hp9 : prs.length = 9 := by decide
 obtain ⟨t, ht⟩ : ∃ t, txts[i]? = some t := ⟨_, List.getElem?_eq_getElem (by omega)⟩
 obtain ⟨r, hr⟩ : ∃ r, prs[i]? = some r := ⟨_, List.getElem?_eq_getElem (by omega)⟩
 have e := congrArg (fun l => l[i]?) txts_rows
 simp only [List.getElem?_map, ht, hr, Option.map_some, Option.some.injEq, Prod.mk.injEq] at e
 have hg := prs_good r (List.mem_of_getElem? hr)
 exact ⟨t, r, ht, hr, Txt.good_of (txts_check t (List.mem_of_getElem? ht)), hg.1, e.1, e.2, hg.2.1.1⟩
set_option maxRecDepth 100000 in
set_option maxHeartbeats 2000000 in
theorem rrows_any (w : World) :
  Calls Tryz.prog 152 #[] w fun e w' => ∃ v, e = .returned v ∧ OwnR w w' v prs ∧ Touch [] w w' := by
 obtain ⟨iR, zR, hiR, hzR, hsR, hbR, hzs⟩ := infoR2
 go_enter Tryz.func152, Tryz.ntmps152
 go_wp2_with fail
 obtain ⟨SS, hSS⟩ : ∃ SS : List Value, SS = txts.map fun t => str t.l := ⟨_, rfl⟩
 obtain ⟨PP, hPP⟩ : ∃ PP : List Value, PP = prs.map fun r => Value.int .i64 r.prec := ⟨_, rfl⟩
 obtain ⟨LL, hLL⟩ : ∃ LL : List Value, LL = prs.map fun r => Value.int .i64 r.label := ⟨_, rfl⟩
 obtain ⟨q0, q1, q2, q3⟩ := three w (.cells SS.toArray 9) (.cells PP.toArray 3) (.cells LL.toArray 3)
 obtain ⟨W0, hW0⟩ : ∃ W0, W0 = ((w.alloc (.cells SS.toArray 9)).alloc (.cells PP.toArray 3)).alloc (.cells LL.toArray 3) := ⟨_, rfl⟩
 rw [← hW0] at q0 q1 q2 q3
 have T0 := Lib.hid q0
 have Q1 := Lib.hid (fun i t (h : txts[i]? = some t) => (show W0.cell? ⟨w.heap.size, i, none⟩ = some (str t.l) by rw [cell_of_row _ _ _ _ _ _ q1, hSS]; simp [h]))
 have Q2 := Lib.hid (fun i r (h : prs[i]? = some r) => (show W0.cell? ⟨w.heap.size + 1, i, none⟩ = some (.int .i64 r.prec) by rw [cell_of_row _ _ _ _ _ _ q2, hPP]; simp [h]))
 have Q3 := Lib.hid (fun i r (h : prs[i]? = some r) => (show W0.cell? ⟨w.heap.size + 1 + 1, i, none⟩ = some (.int .i64 r.label) by rw [cell_of_row _ _ _ _ _ _ q3, hLL]; simp [h]))
 have zW0 : w.heap.size + 1 + 1 < W0.heap.size := (Array.getElem?_eq_some_iff.1 q3).1
 have HW0 := Lib.hid (show W0 = ((w.alloc (.cells #[.string ⟨#[58, 58, 49, 47, 49, 50, 56]⟩, .string ⟨#[58, 58, 47, 48]⟩, .string ⟨#[58, 58, 102, 102, 102, 102, 58, 48, 58, 48, 47, 57, 54]⟩, .string ⟨#[50, 48, 48, 50, 58, 58, 47, 49, 54]⟩, .string ⟨#[50, 48, 48, 49, 58, 58, 47, 51, 50]⟩, .string ⟨#[102, 99, 48, 48, 58, 58, 47, 55]⟩, .string ⟨#[58, 58, 47, 57, 54]⟩, .string ⟨#[102, 101, 99, 48, 58, 58, 47, 49, 48]⟩, .string ⟨#[51, 102, 102, 101, 58, 58, 47, 49, 54]⟩] 9)).alloc (.cells #[.int .i64 50, .int .i64 40, .int .i64 35, .int .i64 30, .int .i64 5, .int .i64 3, .int .i64 1, .int .i64 1, .int .i64 1] 3)).alloc (.cells #[.int .i64 0, .int .i64 1, .int .i64 4, .int .i64 2, .int .i64 5, .int .i64 13, .int .i64 3, .int .i64 11, .int .i64 12] 3) by rw [hW0, hSS, hPP, hLL]; rfl)
 have hp9 : prs.length = 9 := by decide
 have HZR := Lib.hid hzs
 clear q0 q1 q2 q3 hW0 hSS hPP hLL hzs
 go_loopw [4, 5] (fun vo vi wr => ∃ i : Nat, i ≤ 9 ∧ vi = .int .i64 i ∧ OwnR W0 wr vo (prs.take i) ∧ Touch [] W0 wr) (fun _ vi _ => 9 - (intOf vi).toNat)
 case atStart => exact ⟨0, by omega, rfl, OwnR.nil _ _, by rw [HW0.out]; exact Touch.refl _ _⟩
 case round =>
  obtain ⟨i, hi, rfl, hown, ht⟩ := hrel
  by_cases hlt : i < 9
  ·obtain ⟨t, r, htx, hrx, hgood, hrb, hpx, hn, hpl⟩ := txt_at i hlt
   have hlti : (prs.take i).length = i := by simp [hp9]; omega
   have htk : prs.take (i + 1) = prs.take i ++ [r] := by rw [List.take_add_one, hrx]; rfl
   obtain ⟨ao, c, hvf, _, _, _⟩ := owns_form hown.row
   rw [hlti] at hvf
   subst hvf
   have c1 := ht.cell (Q1.out i t htx) (by simp)
   have hpp := pp_any t.l t.p t.q t.k t.hs t.ts t.n hgood
   rw [hpx, hn] at hpp
   have HPP := Lib.hid hpp
   have HL18 := Lib.hid (show (pfx true r.px r.bits).length = 18 by simp [pfx, adr, hpl])
   have HRL := Lib.hid (pr_len r hpl)
   have HBU := Lib.hid (show Tryz.prog.built 178 [(0, .agg (pfx true r.px r.bits).toArray), (1, .int .i64 r.prec), (2, .int .i64 r.label)] = some r.cells.toArray by
    have := built_prw true r.px r.bits r.prec r.label hpl
    rw [this]
    unfold PR.cells
    rw [hrb])
   have HC2 := Lib.hid (Q2.out i r hrx)
   have HC3 := Lib.hid (Q3.out i r hrx)
   have HTK := Lib.hid htk
   have HLI := Lib.hid hlti
   clear hpp hpx hn hgood htx hrx hrb hpl htk hlti
   generalize t.l = tl at *
   go_wp2_with fail
   refine (HPP.out _).mono ?_
   rintro e w2 ⟨rfl, t2⟩
   have HT2 := Lib.hid (ht.trans t2 (by simp))
   have hown2 := hown.touch t2 (by simp)
   have HN := Lib.hid (heap_alloc_new w2 (.cells (pfx false (List.replicate 16 0) 0).toArray 176))
   have HNT := Lib.hid ((Touch.refl [] w2).alloc (.cells (pfx false (List.replicate 16 0) 0).toArray 176))
   clear t2 hown HPP c1
   go_wp2_with ((with_reducible refine at_store 176 ?_); refine wpList_store_into rfl 176 _ _ rfl w2.heap.size 176 _ (pfx true r.px r.bits) rfl rfl HN.out (by rw [HL18.out]; rfl) (by rw [sizeP, HL18.out]) (pfx_one _ _ _) ?_)
   intro w3 h3 t3 z3
   have HT23 := Lib.hid (HNT.out.trans t3 (by intro y hy; right; simp at hy; omega))
   have HT3 := Lib.hid (HT2.out.trans HT23.out (by simp))
   have hown3 := hown2.touch HT23.out (by simp)
   have nP : w2.heap.size ∉ (Value.slice ao i c).ownBlock.toList := by
    intro hm
    have := hown2.lt _ (by simpa using hm)
    omega
   have np : w.heap.size + 1 ∉ (Value.slice ao i c).ownBlock.toList := by
    intro hm
    have := hown2.new _ (by simpa using hm)
    omega
   have nl : w.heap.size + 1 + 1 ∉ (Value.slice ao i c).ownBlock.toList := by
    intro hm
    have := hown2.new _ (by simpa using hm)
    omega
   clear t3 z3 hown2 HN HNT HT2
   go_wp2_with fail
   refine wp_region_held (S := Touch (Value.slice ao i c).ownBlock.toList w3.drew) (by kernel_rfl) ?_
   change wpAnyH _ _ _ _ _ _ _ _ w3.drew
   have rP : w3.drew.rangeAt w2.heap.size 0 (pfx true r.px r.bits) := range_block (w := w3) h3
   have cp : w3.drew.cell? ⟨w.heap.size + 1, i, none⟩ = some (.int .i64 r.prec) := HT3.out.cell HC2.out (by simp)
   have cl : w3.drew.cell? ⟨w.heap.size + 1 + 1, i, none⟩ = some (.int .i64 r.label) := HT3.out.cell HC3.out (by simp)
   have HT3 := Lib.hid (HT3.out.drew)
   have hown3 : OwnR W0 w3.drew (Value.slice ao i c) (prs.take i) := ⟨hown3.row, hown3.new⟩
   have hrow3 := hown3.row
   rw [HLI.out] at hrow3
   clear h3 HC2 HC3
   generalize w3.drew = W at *
   have hS := Touch.refl (Value.slice ao i c).ownBlock.toList W
   refine tkH 0 (.slice ao i c) ?_
   refine tkH 1 (.agg (pfx true r.px r.bits).toArray) ?_ (hy := Or.inl ⟨by rfl, fun w' hw => exec_load_agg _ 176 _ rfl _ _ rfl (pfx true r.px r.bits) _ (hw.range rP nP) Tryz.underlying176 rfl (by rw [sizeP, HL18.out])⟩)
   refine tkH 2 (.slice (some ⟨w.heap.size + 1, 0, none⟩) 9 9) ?_
   refine tkH 3 (.int .i64 (i : Nat)) ?_
   refine tkH 4 (.pointer (some ⟨(w.heap.size + 1), i, none⟩)) ?_
   refine tkH 5 (.int .i64 r.prec) ?_ (hy := Or.inl ⟨by rfl, fun w' hw => by (have q := hw.cell cp np; go_simp)⟩)
   refine tkH 6 (.slice (some ⟨w.heap.size + 1 + 1, 0, none⟩) 9 9) ?_
   refine tkH 7 (.int .i64 (i : Nat)) ?_
   refine tkH 8 (.pointer (some ⟨(w.heap.size + 1 + 1), i, none⟩)) ?_
   refine tkH 9 (.int .i64 r.label) ?_ (hy := Or.inl ⟨by rfl, fun w' hw => by (have q := hw.cell cl nl; go_simp)⟩)
   refine tkH 10 (.agg r.cells.toArray) ?_ (hy := Or.inl ⟨by rfl, fun w' hw => exec_built _ 178 _ rfl _ _ (by rfl) HBU.out⟩)
   refine wpAnyH_ready (rs := [11]) (by kernel_rfl) (by simp) ?_
   refine cnH rfl (fun K hK => ?_) AllReadyH.nil
   refine step_of_list rfl ?_
   refine wpList_buildSlice_rows rfl 185 1 _ rfl 178 20 iR zR Tryz.underlying185 hiR hzR hsR (by omega) [r.cells] rfl (by simp [HRL.out]) (by omega) (by rfl) ?_
   have tA := (Touch.refl [] W).alloc (.cells [r.cells].flatten.toArray 178)
   have hrow2 := hrow3.alloc (.cells [r.cells].flatten.toArray 178)
   refine ⟨rfl, hK.out _ _ (tA.mono (by simp)) (fun hS9 => ?_)⟩
   clear hK K hS
   have hS := hS9
   clear hS9
   try simp only [Act.put, sT, s0, sS]
   refine wpAnyH_ready (rs := [12]) (by kernel_rfl) (by simp) ?_
   refine cnH rfl (fun K hK => ?_) AllReadyH.nil
   refine step_app _ (by rfl) _ _ 185 (by rfl) 178 iR zR 20 48 Tryz.underlying185 hiR hzR hsR hbR HZR.out (by omega) (.slice ao i c) i (((prs.take i).map PR.cells).flatten) (by rfl) hrow2 (some ⟨W.heap.size, 0, none⟩) 1 1 ([r.cells].flatten) (by rfl) (by simp [HRL.out]) (by intro h; cases h) (fun ad e => by cases e; intro j u hu; exact World.news_of_block (heap_alloc_new W _) j u (by simpa using hu)) (by intro u hu; have h2 : u ∈ r.cells := (by simpa using hu); exact prw_one _ _ _ _ _ u h2) (by unfold maxLen; omega) (by omega) ?_
   intro vo w5 ho5 t5 hv5
   refine hK.out _ _ ((tA.mono (by simp)).trans t5 (fun x hx => .inl hx)) (fun hS9 => ?_)
   clear hK K hS
   have hS := hS9
   clear hS9
   try simp only [Act.put, sT, s0, sS]
   refine tkH 13 vo ?_
   refine wpAnyH_done (by kernel_rfl) ?_ _
   try simp only [Act.put, sT, s0, sS]
   have hown5 : OwnR W0 w5 vo (prs.take (i + 1)) := by
    refine ⟨?_, ?_⟩
    ·rw [HTK.out, List.map_append, List.flatten_append, List.length_append, HLI.out]
     exact ho5
    ·intro g hg
     have zz := HT3.out.size
     rcases hv5 with e | e
     ·rw [e] at hg; exact hown3.new g hg
     ·rw [e] at hg; simp at hg; omega
   have HT5 := Lib.hid (HT3.out.trans ((tA.mono (S' := (Value.slice ao i c).ownBlock.toList) (by simp)).trans t5 (fun x hx => .inl hx)) (fun y hy => .inr (hown3.new y (by simpa using hy))))
   clear ho5 t5 hv5 tA hS
   go_wp2_with fail
   go_roundw
   case rel => exact ⟨i + 1, by omega, by go_num, hown5, HT5.out⟩
   case measure => simp [intOf]; omega
  ·have hie : i = 9 := by omega
   subst hie
   rw [show prs.take 9 = prs by rw [← hp9]; exact List.take_length] at hown
   go_wp2_with fail
   go_ret
   exact ⟨_, rfl, hown.older T0.out.size, T0.out.trans ht (by simp)⟩
end Go.Proofs.YtiklhaajhdephaaGreatDoor

/-
 The contracts of the reference's policyRow and Precedence.
-/
namespace Go.Proofs.YtiklhaajhdephaaGreatDoor
open Go.RowKit
set_option linter.unusedVariables false
set_option linter.unusedSimpArgs false

/-! ### the table looked up from its second row on -/
def pr1 : PR := ⟨true, List.replicate 16 0, 0, 40, 1⟩
def bestR (ys : List Int) (k : Nat) : PR := (prs.take k).foldl (stepL ys) pr1
theorem bestR_succ (ys : List Int) (k : Nat) (r : PR) (h : prs[k]? = some r) : bestR ys (k + 1) = stepL ys (bestR ys k) r := by
 unfold bestR
 rw [List.take_add_one, h, List.foldl_append]
 rfl
theorem prs_1 : prs[1]? = some pr1 := by
 have h : (prs[1]?).map (fun r => (r.b, r.px, r.bits, r.prec, r.label)) = some (true, List.replicate 16 0, 0, 40, 1) := by decide
 obtain ⟨r, hr, he⟩ := Option.map_eq_some_iff.1 h
 rw [hr]
 obtain ⟨a1, a2, a3, a4, a5⟩ := r
 simp only [Prod.mk.injEq] at he
 obtain ⟨rfl, rfl, rfl, rfl, rfl⟩ := he
 rfl
theorem trunc_none (ys : List Int) (h : okB ys) : trunc 0 ys = List.replicate 16 0 := by
 have hz : okB (List.replicate 16 0) := okB_dec (by decide)
 refine bits_ext _ _ (trunc_ok h) hz ?_
 intro i hi
 rw [bit_trunc 0 ys h i hi, if_neg (by omega)]
 have e : ∀ k < 16, ((List.replicate 16 (0 : Int))[k]?.getD 0) = 0 := by decide
 have := e (i / 8) (by omega)
 simp only [bitP, List.getD_eq_getElem?_getD, this]
 simp
theorem best_two (ys : List Int) (h : okB ys) : bestL ys 2 = bestR ys 2 := by
 obtain ⟨r0, h0⟩ : ∃ r, prs[0]? = some r := ⟨_, List.getElem?_eq_getElem (by decide)⟩
 have hb0 : r0.bits = 128 := by
  have e : (prs[0]?).map (fun r => r.bits) = some 128 := by decide
  rw [h0] at e
  simpa using e
 have ht := trunc_none ys h
 rw [bestL_succ ys 1 pr1 prs_1, bestL_succ ys 0 r0 h0, bestR_succ ys 1 pr1 prs_1, bestR_succ ys 0 r0 h0]
 have e1 : bestL ys 0 = pr0 := rfl
 have e2 : bestR ys 0 = pr1 := rfl
 rw [e1, e2]
 have p0 : pr0.bits = -1 := rfl
 have p1 : pr1.bits = 0 := rfl
 have p1x : pr1.px = List.replicate 16 0 := rfl
 by_cases hm : trunc r0.bits ys = r0.px
 ·have s1 : stepL ys pr0 r0 = r0 := by unfold stepL; rw [if_pos ⟨by rw [p0, hb0]; decide, hm⟩]
  have s2 : stepL ys pr1 r0 = r0 := by unfold stepL; rw [if_pos ⟨by rw [p1, hb0]; decide, hm⟩]
  rw [s1, s2]
 ·have s1 : stepL ys pr0 r0 = pr0 := by unfold stepL; rw [if_neg (fun q => hm q.2)]
  have s2 : stepL ys pr1 r0 = pr1 := by unfold stepL; rw [if_neg (fun q => hm q.2)]
  have s3 : stepL ys pr0 pr1 = pr1 := by unfold stepL; rw [if_pos ⟨by decide, by rw [p1, p1x]; exact ht⟩]
  have s4 : stepL ys pr1 pr1 = pr1 := by unfold stepL; rw [if_neg (fun q => by have := q.1; omega)]
  rw [s1, s2, s3, s4]
theorem best_same (ys : List Int) (h : okB ys) (k : Nat) : bestL ys (2 + k) = bestR ys (2 + k) := by
 induction k with
 | zero => exact best_two ys h
 | succ k ih =>
  cases hr : prs[2 + k]? with
  | none =>
   have e1 : bestL ys (2 + (k + 1)) = bestL ys (2 + k) := by
    unfold bestL
    rw [← Nat.add_assoc, List.take_add_one, hr]
    simp
   have e2 : bestR ys (2 + (k + 1)) = bestR ys (2 + k) := by
    unfold bestR
    rw [← Nat.add_assoc, List.take_add_one, hr]
    simp
   rw [e1, e2, ih]
  | some r => rw [← Nat.add_assoc, bestL_succ ys _ r hr, bestR_succ ys _ r hr, ih]
theorem bestR_px (ys : List Int) (k : Nat) : (bestR ys k).px.length = 16 := by
 induction k with
 | zero => rfl
 | succ k ih =>
  cases h : prs[k]? with
  | none =>
   have : bestR ys (k + 1) = bestR ys k := by
    unfold bestR
    rw [List.take_add_one, h]
    simp
   rw [this]
   exact ih
  | some r =>
   rw [bestR_succ ys k r h]
   unfold stepL
   split
   ·exact (prs_good r (List.mem_of_getElem? h)).2.1.1
   ·exact ih
theorem OwnR.form {w0 w : World} {v : Value} {xs : List PR} (h : OwnR w0 w v xs) (hl : ∀ r ∈ xs, r.px.length = 16) (hne : 0 < xs.length) : ∃ g c, v = .slice (some ⟨g, 0, none⟩) xs.length c ∧ xs.length ≤ c ∧ c ≤ maxLen ∧ w0.heap.size ≤ g ∧ ∀ i r, xs[i]? = some r → w.rangeAt g (i * 20) r.cells := by
 obtain ⟨hlen, hr⟩ := h.row
 rcases hr with ⟨hv, hn⟩ | ⟨g, cap, cur, hv, hb, hg, hnc, hcm, hcs, htk⟩
 ·omega
 ·refine ⟨g, cap, hv, hnc, hcm, h.new g (by rw [hv]; rfl), ?_⟩
  intro i r hir j u hu
  have hk : ∀ x ∈ xs.map PR.cells, x.length = 20 := by
   intro x hx
   obtain ⟨r', hr', rfl⟩ := List.mem_map.1 hx
   exact pr_len r' (hl r' hr')
  have hf := flat_get hk (i := i) (x := r.cells) (by simp [hir]) hu
  rw [cell_of_row _ _ _ _ _ _ hg]
  rw [← htk, List.getElem?_take] at hf
  split at hf
  ·simpa using hf
  ·cases hf
set_option maxRecDepth 100000 in
theorem built_map6 (x0 x1 x2 x3 : Int) : Tryz.prog.built 38 [(10, .int .u8 255), (11, .int .u8 255), (12, .int .u8 x0), (13, .int .u8 x1), (14, .int .u8 x2), (15, .int .u8 x3)] = some (([0, 0, 0, 0, 0, 0, 0, 0, 0, 0, 255, 255, x0, x1, x2, x3] : List Int).map (Value.int .u8)).toArray := by kernel_rfl
set_option maxRecDepth 100000 in
theorem built_adr (x : List Int) (h : x.length = 16) : Tryz.prog.built 40 [(0, .bool true), (1, .agg (x.map (Value.int .u8)).toArray)] = some (adr true x).toArray := by
 obtain ⟨x0, x1, x2, x3, x4, x5, x6, x7, x8, x9, x10, x11, x12, x13, x14, x15, rfl⟩ := sixteen x h
 kernel_rfl
set_option maxRecDepth 100000 in
theorem built_row0 : Tryz.prog.built 178 [] = some (prw false (List.replicate 16 0) 0 0 0).toArray := by kernel_rfl
set_option maxRecDepth 100000 in
set_option maxHeartbeats 2000000 in
theorem rpol_bad (b : Bool) (xs : List Int) (h : okB xs) (hv : vld b xs = false) (w : World) :
  Calls Tryz.prog 146 #[.agg (adr b xs).toArray] w fun e w' => (∃ cs : List Value, cs.length = 20 ∧ e = .returned (.tuple #[.agg cs.toArray, .bool false]) ∧ ∀ v ∈ cs, v.oneCell' = true) ∧ Touch [] w w' := by
 obtain ⟨zr, hzr⟩ : ∃ zr : List Value, zr = prw false (List.replicate 16 0) 0 0 0 := ⟨_, rfl⟩
 have g0 := ((Touch.refl [] w).alloc (.cells (adr b xs).toArray 40)).alloc (.cells (prw false (List.replicate 16 0) 0 0 0).toArray 178)
 have g1 := ((Touch.refl [] (w.alloc (.cells (adr b xs).toArray 40))).alloc (.cells (prw false (List.replicate 16 0) 0 0 0).toArray 178)).at (heap_alloc_new w (.cells (adr b xs).toArray 40)) (by simp)
 have g2 := heap_alloc2_new w (.cells (adr b xs).toArray 40) (.cells (prw false (List.replicate 16 0) 0 0 0).toArray 178)
 have HL17 := Lib.hid (show (adr b xs).length = 17 by simp [adr, h.1])
 have HZ20 := Lib.hid (show zr.length = 20 by rw [hzr]; rfl)
 have HZ1 := Lib.hid (show ∀ v ∈ zr, v.oneCell' = true by rw [hzr]; exact prw_one _ _ _ _ _)
 have HBZ := Lib.hid (show Tryz.prog.built 178 [] = some zr.toArray by rw [hzr]; exact built_row0)
 have R1 := range_block g1
 have HT := Lib.hid g0
 have HG2 := Lib.hid g2
 have HV := Lib.hid hv
 have HVA := Lib.hid (rvalid_any b xs h)
 clear g0 g1 g2 h hv hzr
 go_enter Tryz.func146, Tryz.ntmps146
 go_wp2_with ((with_reducible refine at_load 40 ?_); refine wpList_load_mid rfl 40 _ rfl w.heap.size 0 rfl (adr b xs) _ R1 Tryz.underlying40 rfl (by rw [size31, HL17.out]) ?_)
 refine (HVA.out _).mono ?_
 rintro e w2 ⟨he, t2⟩
 rw [HV.out] at he
 subst he
 have HT2 := Lib.hid (HT.out.trans t2 (by simp))
 have HG22 := Lib.hid (t2.at HG2.out (by simp))
 clear t2 HT HG2 R1
 go_wp2_with (first
  | ((with_reducible refine at_build 178 ?_); refine wpList_built (by rfl) 178 _ (by rfl) _ _ (by rfl) HBZ.out ?_)
  | ((with_reducible refine at_store 178 ?_); refine wpList_store_into rfl 178 _ _ rfl (w.heap.size + 1) 178 _ zr rfl rfl HG22.out (by rw [HZ20.out]; rfl) (by rw [sizeR, HZ20.out]) HZ1.out ?_))
 intro w3 h3 t3 z3
 go_wp2_with fail
 exact ret_row_tmp rfl sizeR Tryz.underlying178 rfl HZ20.out rfl rfl h3 ⟨⟨zr, HZ20.out, by rfl, HZ1.out⟩, HT2.out.trans t3 (by simp)⟩
set_option maxRecDepth 100000 in
set_option maxHeartbeats 4000000 in
theorem rpol_good_false (xs : List Int) (h : okB xs) (hv : vld false xs = true) (w : World) :
  Calls Tryz.prog 146 #[.agg (adr false xs).toArray] w fun e w' => e = .returned (.tuple #[.agg (bestR (map6 false xs) 9).cells.toArray, .bool true]) ∧ Touch [] w w' := by
 have g0 := ((Touch.refl [] w).alloc (.cells (adr false xs).toArray 40)).alloc (.cells (prw false (List.replicate 16 0) 0 0 0).toArray 178)
 have g1 := ((Touch.refl [] (w.alloc (.cells (adr false xs).toArray 40))).alloc (.cells (prw false (List.replicate 16 0) 0 0 0).toArray 178)).at (heap_alloc_new w (.cells (adr false xs).toArray 40)) (by simp)
 have g2 := heap_alloc2_new w (.cells (adr false xs).toArray 40) (.cells (prw false (List.replicate 16 0) 0 0 0).toArray 178)
 have HL17 := Lib.hid (show (adr false xs).length = 17 by simp [adr, h.1])
 have R1 := range_block g1
 have HT := Lib.hid g0
 have HG1 := Lib.hid g1
 have HG2 := Lib.hid g2
 have HV := Lib.hid hv
 have HVA := Lib.hid (rvalid_any false xs h)
 have hlen := h.1
 have h6 := map6_ok (b := false) h
 have HYL := Lib.hid (show (adr true (map6 false xs)).length = 17 by simp [adr, h6.1])
 have HYO := Lib.hid h6
 clear g0 g1 g2 h hv h6
 go_enter Tryz.func146, Tryz.ntmps146
 go_wp2_with ((with_reducible refine at_load 40 ?_); refine wpList_load_mid rfl 40 _ rfl w.heap.size 0 rfl (adr false xs) _ R1 Tryz.underlying40 rfl (by rw [size31, HL17.out]) ?_)
 refine (HVA.out _).mono ?_
 rintro e w2 ⟨he, t2⟩
 rw [HV.out] at he
 subst he
 have HT2 := Lib.hid (HT.out.trans t2 (by simp))
 have HG12 := Lib.hid (t2.at HG1.out (by simp))
 have HG22 := Lib.hid (t2.at HG2.out (by simp))
 obtain ⟨c0, cj⟩ := adr_cell HG12.out
 clear t2 HT HG1 HG2 R1
 obtain ⟨x0, hx0⟩ : ∃ x, xs[0]? = some x := ⟨_, List.getElem?_eq_getElem (by omega)⟩
 obtain ⟨x1, hx1⟩ : ∃ x, xs[1]? = some x := ⟨_, List.getElem?_eq_getElem (by omega)⟩
 obtain ⟨x2, hx2⟩ : ∃ x, xs[2]? = some x := ⟨_, List.getElem?_eq_getElem (by omega)⟩
 obtain ⟨x3, hx3⟩ : ∃ x, xs[3]? = some x := ⟨_, List.getElem?_eq_getElem (by omega)⟩
 have c1 : _ = some (Value.int IntKind.u8 x0) := cj 0 x0 hx0
 have c2 : _ = some (Value.int IntKind.u8 x1) := cj 1 x1 hx1
 have c3 : _ = some (Value.int IntKind.u8 x2) := cj 2 x2 hx2
 have c4 : _ = some (Value.int IntKind.u8 x3) := cj 3 x3 hx3
 simp only [Nat.add_zero, Nat.reduceAdd] at c1 c2 c3 c4
 have h6e : map6 false xs = [0, 0, 0, 0, 0, 0, 0, 0, 0, 0, 255, 255, x0, x1, x2, x3] := by
  have e4 : xs.take 4 = [x0, x1, x2, x3] := by
   apply List.ext_getElem?
   intro j
   rw [List.getElem?_take]
   rcases (by omega : j = 0 ∨ j = 1 ∨ j = 2 ∨ j = 3 ∨ 4 ≤ j) with rfl | rfl | rfl | rfl | hj
   ·simpa using hx0
   ·simpa using hx1
   ·simpa using hx2
   ·simpa using hx3
   ·rw [if_neg (by omega), List.getElem?_eq_none (by simpa using hj)]
  simp [map6, e4]
 have HB6 := Lib.hid (built_map6 x0 x1 x2 x3)
 have hba := built_adr (map6 false xs) HYO.out.1
 rw [← h6e] at HB6
 have HBA := Lib.hid hba
 clear cj hx0 hx1 hx2 hx3 hba h6e
 generalize hys : map6 false xs = ys at *
 have HYS := Lib.hid hys
 clear hys
 go_wp2_with (first
  | ((with_reducible refine at_build 38 ?_); refine wpList_built (by rfl) 38 _ (by rfl) _ _ (by rfl) HB6.out ?_)
  | ((with_reducible refine at_build 40 ?_); refine wpList_built (by rfl) 40 _ (by rfl) _ _ (by rfl) HBA.out ?_)
  | ((with_reducible refine at_store 40 ?_); refine wpList_store_into rfl 40 _ _ rfl w.heap.size 40 _ (adr true ys) rfl rfl HG12.out (by rw [HYL.out]; exact HL17.out) (by rw [size31, HYL.out]) (adr_one _ _) ?_))
 intro w4 h4 t4 z4
 have HT4 := Lib.hid (HT2.out.trans t4 (by intro y hy; right; simp at hy; omega))
 have HG14 := Lib.hid h4
 have HG24 := Lib.hid (t4.at HG22.out (by simp))
 clear h4 t4 z4 HT2 HG12 HG22 c0 c1 c2 c3 c4 HB6 HBA
 go_wp2_with fail
 refine (rrows_any _).mono ?_
 rintro e w5 ⟨v5, rfl, ho5, t5⟩
 obtain ⟨g, c, hvf, hc1, hc2, hgn, hrow⟩ := ho5.form (fun r hr => (prs_good r hr).2.1.1) (by decide)
 rw [show prs.length = 9 by decide] at hvf
 subst hvf
 have HT5 := Lib.hid (HT4.out.trans t5 (by simp))
 have HG15 := Lib.hid (t5.at HG14.out (by simp))
 have HG25 := Lib.hid (t5.at HG24.out (by simp))
 have zw : w.heap.size + 1 < g := by
  have := (Array.getElem?_eq_some_iff.1 HG24.out).1
  omega
 have HROW := Lib.hid hrow
 have R20 := hrow 1 pr1 prs_1
 have HP20 := Lib.hid (pr_len pr1 rfl)
 have HN := Lib.hid (heap_alloc_new w5 (.cells (prw false (List.replicate 16 0) 0 0 0).toArray 178))
 have HNT := Lib.hid ((Touch.refl [] w5).alloc (.cells (prw false (List.replicate 16 0) 0 0 0).toArray 178))
 have zg5 : g < w5.heap.size := ho5.lt g rfl
 clear t5 HT4 HG14 HG24 ho5 hrow hc1 hc2 hgn
 rw [Nat.one_mul] at R20
 go_wp2_with (first
  | ((with_reducible refine at_load 178 ?_); refine wpList_load_mid rfl 178 _ rfl g 20 rfl pr1.cells _ R20 Tryz.underlying178 rfl (by rw [sizeR, HP20.out]) ?_)
  | ((with_reducible refine at_store 178 ?_); refine wpList_store_into rfl 178 _ _ rfl w5.heap.size 178 _ pr1.cells rfl rfl HN.out (by rw [HP20.out]; rfl) (by rw [sizeR, HP20.out]) (prw_one _ _ _ _ _) ?_))
 intro w6 h6 t6 z6
 have HT56 := Lib.hid (HNT.out.trans t6 (by intro y hy; right; simp at hy; omega))
 have HT6 := Lib.hid (HT5.out.trans HT56.out (by simp))
 have HG16 := Lib.hid (HT56.out.at HG15.out (by simp))
 have HG26 := Lib.hid (HT56.out.at HG25.out (by simp))
 have HR6 := Lib.hid (fun i r (h : prs[i]? = some r) => HT56.out.range (HROW.out i r h) (by simp))
 have HB0 := Lib.hid (show w6.heap[w5.heap.size]? = some (.cells (bestR ys 0).cells.toArray 178 (0, 0)) from h6)
 have zw5 : w.heap.size + 1 < w5.heap.size := by omega
 obtain ⟨n5, hn5⟩ : ∃ n5, n5 = w5.heap.size := ⟨_, rfl⟩
 rw [← hn5] at HB0 zg5 zw5
 have HN5 := Lib.hid hn5
 have hp9 : prs.length = 9 := by decide
 clear h6 t6 z6 HT5 HG15 HG25 HROW R20 HN HNT HT56 HP20 hn5
 go_wp2_with fail
 rw [← HN5.out]
 go_loopw [6] (fun vi wr => ∃ i : Nat, i ≤ 9 ∧ vi = .int .i64 i ∧ Touch [] w wr ∧ wr.heap[w.heap.size]? = some (.cells (adr true ys).toArray 40 (0, 0)) ∧ wr.heap[w.heap.size + 1]? = some (.cells (prw false (List.replicate 16 0) 0 0 0).toArray 178 (0, 0)) ∧ wr.heap[n5]? = some (.cells (bestR ys i).cells.toArray 178 (0, 0)) ∧ (∀ i r, prs[i]? = some r → wr.rangeAt g (i * 20) r.cells)) (fun vi _ => 9 - (intOf vi).toNat)
 case atStart => exact ⟨0, by omega, rfl, HT6.out, HG16.out, HG26.out, HB0.out, HR6.out⟩
 case round =>
  obtain ⟨i, hi, rfl, ht, ha1, ha2, ha3, hr⟩ := hrel
  have HT := Lib.hid ht
  have A1 := Lib.hid ha1
  have A2 := Lib.hid ha2
  have HR := Lib.hid hr
  clear ht ha1 ha2 hr HT6 HG16 HG26 HB0 HR6
  by_cases hlt9 : i < 9
  ·obtain ⟨r, hrk⟩ : ∃ r, prs[i]? = some r := ⟨_, List.getElem?_eq_getElem (by omega)⟩
   obtain ⟨hgb, hpx, hb0, hb2, hpt⟩ := prs_good r (List.mem_of_getElem? hrk)
   have hstep := bestR_succ ys i r hrk
   have hbl := bestR_px ys i
   generalize hbk : bestR ys (i + 1) = bn at *
   generalize bestR ys i = bs at *
   have A3 := Lib.hid ha3
   have hrow := HR.out i r hrk
   have HRL := Lib.hid (pr_len r hpx.1)
   have hb1 : r.bits ≤ blen true := hb2
   have HCO := Lib.hid (fun w => rcont_any true r.px r.bits ys hpx rfl hb0 hb1 hpt HYO.out rfl w)
   have HL18 := Lib.hid (show (pfx true r.px r.bits).length = 18 by simp [pfx, adr, hpx.1])
   have HBK := Lib.hid hbk
   have HSTEP := Lib.hid hstep
   have HBL := Lib.hid hbl
   have rP : wr.rangeAt g (i * 20) (pfx true r.px r.bits) := by
    intro j v hj
    refine hrow j v ?_
    unfold PR.cells prw
    rw [hgb, List.getElem?_append_left (List.getElem?_eq_some_iff.1 hj).1]
    exact hj
   have crb : wr.cell? ⟨g, i * 20 + 17, none⟩ = some (.int .i64 r.bits) := by
    have := rP 17 (.int .i64 r.bits) (by rw [pfx, List.getElem?_append_right (by simp [adr, hpx.1])]; simp [adr, hpx.1])
    exact this
   have cbb := (prw_rows hbl (range_block ha3)).2
   clear hpx ha3 hpt hbk hbl hstep hgb hb1 hb0 hb2
   by_cases hlt : bs.bits < r.bits
   ·by_cases hco : trunc r.bits ys = r.px
    ·have HC := Lib.hid (show decide (trunc r.bits ys = r.px) = true by simp [hco])
     have HE := Lib.hid (show stepL ys bs r = r by simp [stepL, hlt, hco])
     clear hco
     go_wp2_with fail
     refine wp_region_held (S := Touch [] wr.drew) (by kernel_rfl) ?_
     change wpAnyH _ _ _ _ _ _ _ _ wr.drew
     have rR : wr.drew.rangeAt g (i * 20) (pfx true r.px r.bits) := rP
     have cr : wr.drew.cell? ⟨g, i * 20 + 17, none⟩ = some (.int .i64 r.bits) := crb
     have cb : wr.drew.cell? ⟨n5, 17, none⟩ = some (.int .i64 bs.bits) := cbb
     have rA : wr.drew.rangeAt w.heap.size 0 (adr true ys) := range_block (w := wr) A1.out
     have rw20 : wr.drew.rangeAt g (i * 20) r.cells := hrow
     have HTd := Lib.hid (HT.out.drew)
     have B1 := Lib.hid (show wr.drew.heap[w.heap.size]? = _ from A1.out)
     have B2 := Lib.hid (show wr.drew.heap[w.heap.size + 1]? = _ from A2.out)
     have B3 := Lib.hid (show wr.drew.heap[n5]? = _ from A3.out)
     have HRd := Lib.hid (show ∀ i r, prs[i]? = some r → wr.drew.rangeAt g (i * 20) r.cells from HR.out)
     clear rP crb cbb hrow HT A1 A2 A3 HR
     generalize wr.drew = W at *
     have hS := Touch.refl [] W
     refine tkH 0 (.slice (some ⟨g, 0, none⟩) 9 c) ?_
     refine tkH 1 (.int .i64 (i : Nat)) ?_
     refine tkH 2 (.pointer (some ⟨g, i * 20, none⟩)) ?_
     refine tkH 3 (.pointer (some ⟨g, i * 20, none⟩)) ?_
     refine tkH 4 (.pointer (some ⟨g, i * 20 + 17, none⟩)) ?_
     refine tkH 5 (.int .i64 r.bits) ?_ (hy := Or.inl ⟨by rfl, fun w' hw => by (have q := hw.cell cr (by simp); go_simp)⟩)
     refine tkH 6 (.pointer (some ⟨n5, 0, none⟩)) ?_
     refine tkH 7 (.pointer (some ⟨n5, 17, none⟩)) ?_
     refine tkH 8 (.int .i64 bs.bits) ?_ (hy := Or.inl ⟨by rfl, fun w' hw => by (have q := hw.cell cb (by simp); go_simp)⟩)
     refine tkH 9 (.bool true) ?_ (hy := Or.inl ⟨by rfl, fun w' hw => by (have q := hlt; go_simp)⟩)
     refine tkH 10 (.bool true) ?_
     refine tkH 11 (.slice (some ⟨g, 0, none⟩) 9 c) ?_
     refine tkH 12 (.int .i64 (i : Nat)) ?_
     refine tkH 13 (.pointer (some ⟨g, i * 20, none⟩)) ?_
     refine tkH 14 (.pointer (some ⟨g, i * 20, none⟩)) ?_
     refine tkH 15 (.agg (pfx true r.px r.bits).toArray) ?_ (hy := Or.inl ⟨by rfl, fun w' hw => exec_load_agg _ 176 _ rfl _ _ rfl (pfx true r.px r.bits) _ (hw.range rR (by simp)) Tryz.underlying176 rfl (by rw [sizeP, HL18.out])⟩)
     refine tkH 16 (.agg (adr true ys).toArray) ?_ (hy := Or.inl ⟨by rfl, fun w' hw => exec_load_agg _ 40 _ rfl _ _ rfl (adr true ys) _ (hw.range rA (by simp)) Tryz.underlying40 rfl (by rw [size31, HYL.out])⟩)
     refine wpAnyH_ready (rs := [17]) (by kernel_rfl) (by simp) ?_
     refine cnH rfl (fun K hK => ?_) AllReadyH.nil
     go_simp
     refine (HCO.out _).mono ?_
     rintro e w17 ⟨he, t17⟩
     rw [HC.out] at he
     subst he
     have hS2 := hS.trans t17 (by simp)
     refine hK.out _ _ hS2 (fun _ => ?_)
     clear hK K hS t17
     have hS := hS2
     clear hS2
     try simp only [Act.put, sT, s0, sS]
     refine tkH 18 (.bool true) ?_
     refine wpAnyH_done (by kernel_rfl) ?_ _
     try simp only [Act.put, sT, s0, sS]
     have R20 := hS.range rw20 (by simp)
     have C1 := Lib.hid (hS.at B1.out (by simp))
     have C2 := Lib.hid (hS.at B2.out (by simp))
     have C3 := Lib.hid (hS.at B3.out (by simp))
     have HTS := Lib.hid hS
     clear hS B1 B2 B3 rw20 rA cb cr rR
     go_wp2_with (first
      | ((with_reducible refine at_load 178 ?_); refine wpList_load_mid rfl 178 _ rfl g (i * 20) rfl r.cells _ R20 Tryz.underlying178 rfl (by rw [sizeR, HRL.out]) ?_)
      | ((with_reducible refine at_store 178 ?_); refine wpList_store_into rfl 178 _ _ rfl n5 178 _ r.cells rfl rfl C3.out (by rw [HRL.out]; simp [pr_len bs HBL.out]) (by rw [sizeR, HRL.out]) (prw_one _ _ _ _ _) ?_))
     intro w9 h9 t9 z9
     go_wp2_with fail
     go_roundw
     case rel =>
      have t89 := (HTS.out.mono (S' := [n5]) (by simp)).trans t9 (by simp)
      refine ⟨i + 1, by omega, by go_num, HTd.out.trans t89 (by intro y hy; right; simp at hy; omega), t9.at C1.out (by simp <;> omega), t9.at C2.out (by simp <;> omega), ?_, ?_⟩
      ·rw [HBK.out, HSTEP.out, HE.out]
       exact h9
      ·intro i r hx
       exact t89.range (HRd.out i r hx) (by simp <;> omega)
     case measure => simp [intOf]; omega
    ·have HC := Lib.hid (show decide (trunc r.bits ys = r.px) = false by simp [hco])
     have HE := Lib.hid (show stepL ys bs r = bs by simp [stepL, hco])
     clear hco
     go_wp2_with fail
     refine wp_region_held (S := Touch [] wr.drew) (by kernel_rfl) ?_
     change wpAnyH _ _ _ _ _ _ _ _ wr.drew
     have rR : wr.drew.rangeAt g (i * 20) (pfx true r.px r.bits) := rP
     have cr : wr.drew.cell? ⟨g, i * 20 + 17, none⟩ = some (.int .i64 r.bits) := crb
     have cb : wr.drew.cell? ⟨n5, 17, none⟩ = some (.int .i64 bs.bits) := cbb
     have rA : wr.drew.rangeAt w.heap.size 0 (adr true ys) := range_block (w := wr) A1.out
     have HTd := Lib.hid (HT.out.drew)
     have B1 := Lib.hid (show wr.drew.heap[w.heap.size]? = _ from A1.out)
     have B2 := Lib.hid (show wr.drew.heap[w.heap.size + 1]? = _ from A2.out)
     have B3 := Lib.hid (show wr.drew.heap[n5]? = _ from A3.out)
     have HRd := Lib.hid (show ∀ i r, prs[i]? = some r → wr.drew.rangeAt g (i * 20) r.cells from HR.out)
     clear rP crb cbb hrow HT A1 A2 A3 HR
     generalize wr.drew = W at *
     have hS := Touch.refl [] W
     refine tkH 0 (.slice (some ⟨g, 0, none⟩) 9 c) ?_
     refine tkH 1 (.int .i64 (i : Nat)) ?_
     refine tkH 2 (.pointer (some ⟨g, i * 20, none⟩)) ?_
     refine tkH 3 (.pointer (some ⟨g, i * 20, none⟩)) ?_
     refine tkH 4 (.pointer (some ⟨g, i * 20 + 17, none⟩)) ?_
     refine tkH 5 (.int .i64 r.bits) ?_ (hy := Or.inl ⟨by rfl, fun w' hw => by (have q := hw.cell cr (by simp); go_simp)⟩)
     refine tkH 6 (.pointer (some ⟨n5, 0, none⟩)) ?_
     refine tkH 7 (.pointer (some ⟨n5, 17, none⟩)) ?_
     refine tkH 8 (.int .i64 bs.bits) ?_ (hy := Or.inl ⟨by rfl, fun w' hw => by (have q := hw.cell cb (by simp); go_simp)⟩)
     refine tkH 9 (.bool true) ?_ (hy := Or.inl ⟨by rfl, fun w' hw => by (have q := hlt; go_simp)⟩)
     refine tkH 10 (.bool true) ?_
     refine tkH 11 (.slice (some ⟨g, 0, none⟩) 9 c) ?_
     refine tkH 12 (.int .i64 (i : Nat)) ?_
     refine tkH 13 (.pointer (some ⟨g, i * 20, none⟩)) ?_
     refine tkH 14 (.pointer (some ⟨g, i * 20, none⟩)) ?_
     refine tkH 15 (.agg (pfx true r.px r.bits).toArray) ?_ (hy := Or.inl ⟨by rfl, fun w' hw => exec_load_agg _ 176 _ rfl _ _ rfl (pfx true r.px r.bits) _ (hw.range rR (by simp)) Tryz.underlying176 rfl (by rw [sizeP, HL18.out])⟩)
     refine tkH 16 (.agg (adr true ys).toArray) ?_ (hy := Or.inl ⟨by rfl, fun w' hw => exec_load_agg _ 40 _ rfl _ _ rfl (adr true ys) _ (hw.range rA (by simp)) Tryz.underlying40 rfl (by rw [size31, HYL.out])⟩)
     refine wpAnyH_ready (rs := [17]) (by kernel_rfl) (by simp) ?_
     refine cnH rfl (fun K hK => ?_) AllReadyH.nil
     go_simp
     refine (HCO.out _).mono ?_
     rintro e w17 ⟨he, t17⟩
     rw [HC.out] at he
     subst he
     have hS2 := hS.trans t17 (by simp)
     refine hK.out _ _ hS2 (fun _ => ?_)
     clear hK K hS t17
     have hS := hS2
     clear hS2
     try simp only [Act.put, sT, s0, sS]
     refine tkH 18 (.bool false) ?_
     refine wpAnyH_done (by kernel_rfl) ?_ _
     try simp only [Act.put, sT, s0, sS]
     go_wp2_with fail
     go_roundw
     case rel =>
      refine ⟨i + 1, by omega, by go_num, HTd.out.trans hS (by simp), hS.at B1.out (by simp), hS.at B2.out (by simp), ?_, ?_⟩
      ·rw [HBK.out, HSTEP.out, HE.out]
       exact hS.at B3.out (by simp)
      ·intro i r hx
       exact hS.range (HRd.out i r hx) (by simp)
     case measure => simp [intOf]; omega
   ·have HE := Lib.hid (show stepL ys bs r = bs by simp [stepL, hlt])
    go_wp2_with fail
    refine wp_region_held (S := Touch [] wr.drew) (by kernel_rfl) ?_
    change wpAnyH _ _ _ _ _ _ _ _ wr.drew
    have cr : wr.drew.cell? ⟨g, i * 20 + 17, none⟩ = some (.int .i64 r.bits) := crb
    have cb : wr.drew.cell? ⟨n5, 17, none⟩ = some (.int .i64 bs.bits) := cbb
    have HTd := Lib.hid (HT.out.drew)
    have B1 := Lib.hid (show wr.drew.heap[w.heap.size]? = _ from A1.out)
    have B2 := Lib.hid (show wr.drew.heap[w.heap.size + 1]? = _ from A2.out)
    have B3 := Lib.hid (show wr.drew.heap[n5]? = _ from A3.out)
    have HRd := Lib.hid (show ∀ i r, prs[i]? = some r → wr.drew.rangeAt g (i * 20) r.cells from HR.out)
    clear rP crb cbb hrow HT A1 A2 A3 HR
    generalize wr.drew = W at *
    have hS := Touch.refl [] W
    refine tkH 0 (.slice (some ⟨g, 0, none⟩) 9 c) ?_
    refine tkH 1 (.int .i64 (i : Nat)) ?_
    refine tkH 2 (.pointer (some ⟨g, i * 20, none⟩)) ?_
    refine tkH 3 (.pointer (some ⟨g, i * 20, none⟩)) ?_
    refine tkH 4 (.pointer (some ⟨g, i * 20 + 17, none⟩)) ?_
    refine tkH 5 (.int .i64 r.bits) ?_ (hy := Or.inl ⟨by rfl, fun w' hw => by (have q := hw.cell cr (by simp); go_simp)⟩)
    refine tkH 6 (.pointer (some ⟨n5, 0, none⟩)) ?_
    refine tkH 7 (.pointer (some ⟨n5, 17, none⟩)) ?_
    refine tkH 8 (.int .i64 bs.bits) ?_ (hy := Or.inl ⟨by rfl, fun w' hw => by (have q := hw.cell cb (by simp); go_simp)⟩)
    refine tkH 9 (.bool false) ?_ (hy := Or.inl ⟨by rfl, fun w' hw => by (have q := hlt; go_simp)⟩)
    refine tkH 10 (.bool false) ?_
    refine tkN 11 undef ?_
    refine tkN 12 undef ?_
    refine tkN 13 undef ?_
    refine tkN 14 undef ?_
    refine tkN 15 undef ?_
    refine tkN 16 undef ?_
    refine tkN 17 undef ?_
    refine tkH 18 (.bool false) ?_
    refine wpAnyH_done (by kernel_rfl) ?_ _
    try simp only [Act.put, sT, s0, sS]
    go_wp2_with fail
    go_roundw
    case rel =>
     refine ⟨i + 1, by omega, by go_num, HTd.out.trans hS (by simp), hS.at B1.out (by simp), hS.at B2.out (by simp), ?_, ?_⟩
     ·rw [HBK.out, HSTEP.out, HE.out]
      exact hS.at B3.out (by simp)
     ·intro i r hx
      exact hS.range (HRd.out i r hx) (by simp)
    case measure => simp [intOf]; omega
  ·have hie : i = 9 := by omega
   subst hie
   have hbl := bestR_px ys 9
   generalize hbk : bestR ys 9 = bs at *
   have HBK := Lib.hid hbk
   have HRL := Lib.hid (pr_len bs hbl)
   have R3 := range_block ha3
   clear hbk hbl ha3
   go_wp2_with (first
    | ((with_reducible refine at_load 178 ?_); refine wpList_load_mid rfl 178 _ rfl n5 0 rfl bs.cells _ R3 Tryz.underlying178 rfl (by rw [sizeR, HRL.out]) ?_)
    | ((with_reducible refine at_store 178 ?_); refine wpList_store_into rfl 178 _ _ rfl (w.heap.size + 1) 178 _ bs.cells rfl rfl A2.out (by rw [HRL.out]; rfl) (by rw [sizeR, HRL.out]) (prw_one _ _ _ _ _) ?_))
   intro w5 h5 t5 z5
   go_wp2_with fail
   exact ret_row_tmp rfl sizeR Tryz.underlying178 rfl HRL.out rfl rfl h5 ⟨by rw [HYS.out, HBK.out]; rfl, HT.out.trans t5 (by intro y hy; right; simp at hy; omega)⟩
set_option maxRecDepth 100000 in
set_option maxHeartbeats 4000000 in
theorem rpol_good_true (xs : List Int) (h : okB xs) (hv : vld true xs = true) (w : World) :
  Calls Tryz.prog 146 #[.agg (adr true xs).toArray] w fun e w' => e = .returned (.tuple #[.agg (bestR (map6 true xs) 9).cells.toArray, .bool true]) ∧ Touch [] w w' := by
 have g0 := ((Touch.refl [] w).alloc (.cells (adr true xs).toArray 40)).alloc (.cells (prw false (List.replicate 16 0) 0 0 0).toArray 178)
 have g1 := ((Touch.refl [] (w.alloc (.cells (adr true xs).toArray 40))).alloc (.cells (prw false (List.replicate 16 0) 0 0 0).toArray 178)).at (heap_alloc_new w (.cells (adr true xs).toArray 40)) (by simp)
 have g2 := heap_alloc2_new w (.cells (adr true xs).toArray 40) (.cells (prw false (List.replicate 16 0) 0 0 0).toArray 178)
 have HL17 := Lib.hid (show (adr true xs).length = 17 by simp [adr, h.1])
 have R1 := range_block g1
 have HT := Lib.hid g0
 have HG1 := Lib.hid g1
 have HG2 := Lib.hid g2
 have HV := Lib.hid hv
 have HVA := Lib.hid (rvalid_any true xs h)
 have hlen := h.1
 have h6 := map6_ok (b := true) h
 have HYL := Lib.hid (show (adr true (map6 true xs)).length = 17 by simp [adr, h6.1])
 have HYO := Lib.hid h6
 clear g0 g1 g2 h hv h6
 go_enter Tryz.func146, Tryz.ntmps146
 go_wp2_with ((with_reducible refine at_load 40 ?_); refine wpList_load_mid rfl 40 _ rfl w.heap.size 0 rfl (adr true xs) _ R1 Tryz.underlying40 rfl (by rw [size31, HL17.out]) ?_)
 refine (HVA.out _).mono ?_
 rintro e w2 ⟨he, t2⟩
 rw [HV.out] at he
 subst he
 have HT2 := Lib.hid (HT.out.trans t2 (by simp))
 have HG12 := Lib.hid (t2.at HG1.out (by simp))
 have HG22 := Lib.hid (t2.at HG2.out (by simp))
 obtain ⟨c0, cj⟩ := adr_cell HG12.out
 clear t2 HT HG1 HG2 R1
 have HT4 := HT2
 have HG14 := HG12
 have HG24 := HG22
 have HYS := Lib.hid (show map6 true xs = xs from rfl)
 rw [show map6 true xs = xs from rfl] at HYL HYO
 obtain ⟨ys, hys⟩ : ∃ ys, ys = xs := ⟨_, rfl⟩
 rw [← hys] at HYL HYO HG14
 have HYS := Lib.hid (show map6 true xs = ys from by rw [hys]; rfl)
 clear cj hys HT2 HG12 HG22
 go_wp2_with fail
 refine (rrows_any _).mono ?_
 rintro e w5 ⟨v5, rfl, ho5, t5⟩
 obtain ⟨g, c, hvf, hc1, hc2, hgn, hrow⟩ := ho5.form (fun r hr => (prs_good r hr).2.1.1) (by decide)
 rw [show prs.length = 9 by decide] at hvf
 subst hvf
 have HT5 := Lib.hid (HT4.out.trans t5 (by simp))
 have HG15 := Lib.hid (t5.at HG14.out (by simp))
 have HG25 := Lib.hid (t5.at HG24.out (by simp))
 have zw : w.heap.size + 1 < g := by
  have := (Array.getElem?_eq_some_iff.1 HG24.out).1
  omega
 have HROW := Lib.hid hrow
 have R20 := hrow 1 pr1 prs_1
 have HP20 := Lib.hid (pr_len pr1 rfl)
 have HN := Lib.hid (heap_alloc_new w5 (.cells (prw false (List.replicate 16 0) 0 0 0).toArray 178))
 have HNT := Lib.hid ((Touch.refl [] w5).alloc (.cells (prw false (List.replicate 16 0) 0 0 0).toArray 178))
 have zg5 : g < w5.heap.size := ho5.lt g rfl
 clear t5 HT4 HG14 HG24 ho5 hrow hc1 hc2 hgn
 rw [Nat.one_mul] at R20
 go_wp2_with (first
  | ((with_reducible refine at_load 178 ?_); refine wpList_load_mid rfl 178 _ rfl g 20 rfl pr1.cells _ R20 Tryz.underlying178 rfl (by rw [sizeR, HP20.out]) ?_)
  | ((with_reducible refine at_store 178 ?_); refine wpList_store_into rfl 178 _ _ rfl w5.heap.size 178 _ pr1.cells rfl rfl HN.out (by rw [HP20.out]; rfl) (by rw [sizeR, HP20.out]) (prw_one _ _ _ _ _) ?_))
 intro w6 h6 t6 z6
 have HT56 := Lib.hid (HNT.out.trans t6 (by intro y hy; right; simp at hy; omega))
 have HT6 := Lib.hid (HT5.out.trans HT56.out (by simp))
 have HG16 := Lib.hid (HT56.out.at HG15.out (by simp))
 have HG26 := Lib.hid (HT56.out.at HG25.out (by simp))
 have HR6 := Lib.hid (fun i r (h : prs[i]? = some r) => HT56.out.range (HROW.out i r h) (by simp))
 have HB0 := Lib.hid (show w6.heap[w5.heap.size]? = some (.cells (bestR ys 0).cells.toArray 178 (0, 0)) from h6)
 have zw5 : w.heap.size + 1 < w5.heap.size := by omega
 obtain ⟨n5, hn5⟩ : ∃ n5, n5 = w5.heap.size := ⟨_, rfl⟩
 rw [← hn5] at HB0 zg5 zw5
 have HN5 := Lib.hid hn5
 have hp9 : prs.length = 9 := by decide
 clear h6 t6 z6 HT5 HG15 HG25 HROW R20 HN HNT HT56 HP20 hn5
 go_wp2_with fail
 rw [← HN5.out]
 go_loopw [6] (fun vi wr => ∃ i : Nat, i ≤ 9 ∧ vi = .int .i64 i ∧ Touch [] w wr ∧ wr.heap[w.heap.size]? = some (.cells (adr true ys).toArray 40 (0, 0)) ∧ wr.heap[w.heap.size + 1]? = some (.cells (prw false (List.replicate 16 0) 0 0 0).toArray 178 (0, 0)) ∧ wr.heap[n5]? = some (.cells (bestR ys i).cells.toArray 178 (0, 0)) ∧ (∀ i r, prs[i]? = some r → wr.rangeAt g (i * 20) r.cells)) (fun vi _ => 9 - (intOf vi).toNat)
 case atStart => exact ⟨0, by omega, rfl, HT6.out, HG16.out, HG26.out, HB0.out, HR6.out⟩
 case round =>
  obtain ⟨i, hi, rfl, ht, ha1, ha2, ha3, hr⟩ := hrel
  have HT := Lib.hid ht
  have A1 := Lib.hid ha1
  have A2 := Lib.hid ha2
  have HR := Lib.hid hr
  clear ht ha1 ha2 hr HT6 HG16 HG26 HB0 HR6
  by_cases hlt9 : i < 9
  ·obtain ⟨r, hrk⟩ : ∃ r, prs[i]? = some r := ⟨_, List.getElem?_eq_getElem (by omega)⟩
   obtain ⟨hgb, hpx, hb0, hb2, hpt⟩ := prs_good r (List.mem_of_getElem? hrk)
   have hstep := bestR_succ ys i r hrk
   have hbl := bestR_px ys i
   generalize hbk : bestR ys (i + 1) = bn at *
   generalize bestR ys i = bs at *
   have A3 := Lib.hid ha3
   have hrow := HR.out i r hrk
   have HRL := Lib.hid (pr_len r hpx.1)
   have hb1 : r.bits ≤ blen true := hb2
   have HCO := Lib.hid (fun w => rcont_any true r.px r.bits ys hpx rfl hb0 hb1 hpt HYO.out rfl w)
   have HL18 := Lib.hid (show (pfx true r.px r.bits).length = 18 by simp [pfx, adr, hpx.1])
   have HBK := Lib.hid hbk
   have HSTEP := Lib.hid hstep
   have HBL := Lib.hid hbl
   have rP : wr.rangeAt g (i * 20) (pfx true r.px r.bits) := by
    intro j v hj
    refine hrow j v ?_
    unfold PR.cells prw
    rw [hgb, List.getElem?_append_left (List.getElem?_eq_some_iff.1 hj).1]
    exact hj
   have crb : wr.cell? ⟨g, i * 20 + 17, none⟩ = some (.int .i64 r.bits) := by
    have := rP 17 (.int .i64 r.bits) (by rw [pfx, List.getElem?_append_right (by simp [adr, hpx.1])]; simp [adr, hpx.1])
    exact this
   have cbb := (prw_rows hbl (range_block ha3)).2
   clear hpx ha3 hpt hbk hbl hstep hgb hb1 hb0 hb2
   by_cases hlt : bs.bits < r.bits
   ·by_cases hco : trunc r.bits ys = r.px
    ·have HC := Lib.hid (show decide (trunc r.bits ys = r.px) = true by simp [hco])
     have HE := Lib.hid (show stepL ys bs r = r by simp [stepL, hlt, hco])
     clear hco
     go_wp2_with fail
     refine wp_region_held (S := Touch [] wr.drew) (by kernel_rfl) ?_
     change wpAnyH _ _ _ _ _ _ _ _ wr.drew
     have rR : wr.drew.rangeAt g (i * 20) (pfx true r.px r.bits) := rP
     have cr : wr.drew.cell? ⟨g, i * 20 + 17, none⟩ = some (.int .i64 r.bits) := crb
     have cb : wr.drew.cell? ⟨n5, 17, none⟩ = some (.int .i64 bs.bits) := cbb
     have rA : wr.drew.rangeAt w.heap.size 0 (adr true ys) := range_block (w := wr) A1.out
     have rw20 : wr.drew.rangeAt g (i * 20) r.cells := hrow
     have HTd := Lib.hid (HT.out.drew)
     have B1 := Lib.hid (show wr.drew.heap[w.heap.size]? = _ from A1.out)
     have B2 := Lib.hid (show wr.drew.heap[w.heap.size + 1]? = _ from A2.out)
     have B3 := Lib.hid (show wr.drew.heap[n5]? = _ from A3.out)
     have HRd := Lib.hid (show ∀ i r, prs[i]? = some r → wr.drew.rangeAt g (i * 20) r.cells from HR.out)
     clear rP crb cbb hrow HT A1 A2 A3 HR
     generalize wr.drew = W at *
     have hS := Touch.refl [] W
     refine tkH 0 (.slice (some ⟨g, 0, none⟩) 9 c) ?_
     refine tkH 1 (.int .i64 (i : Nat)) ?_
     refine tkH 2 (.pointer (some ⟨g, i * 20, none⟩)) ?_
     refine tkH 3 (.pointer (some ⟨g, i * 20, none⟩)) ?_
     refine tkH 4 (.pointer (some ⟨g, i * 20 + 17, none⟩)) ?_
     refine tkH 5 (.int .i64 r.bits) ?_ (hy := Or.inl ⟨by rfl, fun w' hw => by (have q := hw.cell cr (by simp); go_simp)⟩)
     refine tkH 6 (.pointer (some ⟨n5, 0, none⟩)) ?_
     refine tkH 7 (.pointer (some ⟨n5, 17, none⟩)) ?_
     refine tkH 8 (.int .i64 bs.bits) ?_ (hy := Or.inl ⟨by rfl, fun w' hw => by (have q := hw.cell cb (by simp); go_simp)⟩)
     refine tkH 9 (.bool true) ?_ (hy := Or.inl ⟨by rfl, fun w' hw => by (have q := hlt; go_simp)⟩)
     refine tkH 10 (.bool true) ?_
     refine tkH 11 (.slice (some ⟨g, 0, none⟩) 9 c) ?_
     refine tkH 12 (.int .i64 (i : Nat)) ?_
     refine tkH 13 (.pointer (some ⟨g, i * 20, none⟩)) ?_
     refine tkH 14 (.pointer (some ⟨g, i * 20, none⟩)) ?_
     refine tkH 15 (.agg (pfx true r.px r.bits).toArray) ?_ (hy := Or.inl ⟨by rfl, fun w' hw => exec_load_agg _ 176 _ rfl _ _ rfl (pfx true r.px r.bits) _ (hw.range rR (by simp)) Tryz.underlying176 rfl (by rw [sizeP, HL18.out])⟩)
     refine tkH 16 (.agg (adr true ys).toArray) ?_ (hy := Or.inl ⟨by rfl, fun w' hw => exec_load_agg _ 40 _ rfl _ _ rfl (adr true ys) _ (hw.range rA (by simp)) Tryz.underlying40 rfl (by rw [size31, HYL.out])⟩)
     refine wpAnyH_ready (rs := [17]) (by kernel_rfl) (by simp) ?_
     refine cnH rfl (fun K hK => ?_) AllReadyH.nil
     go_simp
     refine (HCO.out _).mono ?_
     rintro e w17 ⟨he, t17⟩
     rw [HC.out] at he
     subst he
     have hS2 := hS.trans t17 (by simp)
     refine hK.out _ _ hS2 (fun _ => ?_)
     clear hK K hS t17
     have hS := hS2
     clear hS2
     try simp only [Act.put, sT, s0, sS]
     refine tkH 18 (.bool true) ?_
     refine wpAnyH_done (by kernel_rfl) ?_ _
     try simp only [Act.put, sT, s0, sS]
     have R20 := hS.range rw20 (by simp)
     have C1 := Lib.hid (hS.at B1.out (by simp))
     have C2 := Lib.hid (hS.at B2.out (by simp))
     have C3 := Lib.hid (hS.at B3.out (by simp))
     have HTS := Lib.hid hS
     clear hS B1 B2 B3 rw20 rA cb cr rR
     go_wp2_with (first
      | ((with_reducible refine at_load 178 ?_); refine wpList_load_mid rfl 178 _ rfl g (i * 20) rfl r.cells _ R20 Tryz.underlying178 rfl (by rw [sizeR, HRL.out]) ?_)
      | ((with_reducible refine at_store 178 ?_); refine wpList_store_into rfl 178 _ _ rfl n5 178 _ r.cells rfl rfl C3.out (by rw [HRL.out]; simp [pr_len bs HBL.out]) (by rw [sizeR, HRL.out]) (prw_one _ _ _ _ _) ?_))
     intro w9 h9 t9 z9
     go_wp2_with fail
     go_roundw
     case rel =>
      have t89 := (HTS.out.mono (S' := [n5]) (by simp)).trans t9 (by simp)
      refine ⟨i + 1, by omega, by go_num, HTd.out.trans t89 (by intro y hy; right; simp at hy; omega), t9.at C1.out (by simp <;> omega), t9.at C2.out (by simp <;> omega), ?_, ?_⟩
      ·rw [HBK.out, HSTEP.out, HE.out]
       exact h9
      ·intro i r hx
       exact t89.range (HRd.out i r hx) (by simp <;> omega)
     case measure => simp [intOf]; omega
    ·have HC := Lib.hid (show decide (trunc r.bits ys = r.px) = false by simp [hco])
     have HE := Lib.hid (show stepL ys bs r = bs by simp [stepL, hco])
     clear hco
     go_wp2_with fail
     refine wp_region_held (S := Touch [] wr.drew) (by kernel_rfl) ?_
     change wpAnyH _ _ _ _ _ _ _ _ wr.drew
     have rR : wr.drew.rangeAt g (i * 20) (pfx true r.px r.bits) := rP
     have cr : wr.drew.cell? ⟨g, i * 20 + 17, none⟩ = some (.int .i64 r.bits) := crb
     have cb : wr.drew.cell? ⟨n5, 17, none⟩ = some (.int .i64 bs.bits) := cbb
     have rA : wr.drew.rangeAt w.heap.size 0 (adr true ys) := range_block (w := wr) A1.out
     have HTd := Lib.hid (HT.out.drew)
     have B1 := Lib.hid (show wr.drew.heap[w.heap.size]? = _ from A1.out)
     have B2 := Lib.hid (show wr.drew.heap[w.heap.size + 1]? = _ from A2.out)
     have B3 := Lib.hid (show wr.drew.heap[n5]? = _ from A3.out)
     have HRd := Lib.hid (show ∀ i r, prs[i]? = some r → wr.drew.rangeAt g (i * 20) r.cells from HR.out)
     clear rP crb cbb hrow HT A1 A2 A3 HR
     generalize wr.drew = W at *
     have hS := Touch.refl [] W
     refine tkH 0 (.slice (some ⟨g, 0, none⟩) 9 c) ?_
     refine tkH 1 (.int .i64 (i : Nat)) ?_
     refine tkH 2 (.pointer (some ⟨g, i * 20, none⟩)) ?_
     refine tkH 3 (.pointer (some ⟨g, i * 20, none⟩)) ?_
     refine tkH 4 (.pointer (some ⟨g, i * 20 + 17, none⟩)) ?_
     refine tkH 5 (.int .i64 r.bits) ?_ (hy := Or.inl ⟨by rfl, fun w' hw => by (have q := hw.cell cr (by simp); go_simp)⟩)
     refine tkH 6 (.pointer (some ⟨n5, 0, none⟩)) ?_
     refine tkH 7 (.pointer (some ⟨n5, 17, none⟩)) ?_
     refine tkH 8 (.int .i64 bs.bits) ?_ (hy := Or.inl ⟨by rfl, fun w' hw => by (have q := hw.cell cb (by simp); go_simp)⟩)
     refine tkH 9 (.bool true) ?_ (hy := Or.inl ⟨by rfl, fun w' hw => by (have q := hlt; go_simp)⟩)
     refine tkH 10 (.bool true) ?_
     refine tkH 11 (.slice (some ⟨g, 0, none⟩) 9 c) ?_
     refine tkH 12 (.int .i64 (i : Nat)) ?_
     refine tkH 13 (.pointer (some ⟨g, i * 20, none⟩)) ?_
     refine tkH 14 (.pointer (some ⟨g, i * 20, none⟩)) ?_
     refine tkH 15 (.agg (pfx true r.px r.bits).toArray) ?_ (hy := Or.inl ⟨by rfl, fun w' hw => exec_load_agg _ 176 _ rfl _ _ rfl (pfx true r.px r.bits) _ (hw.range rR (by simp)) Tryz.underlying176 rfl (by rw [sizeP, HL18.out])⟩)
     refine tkH 16 (.agg (adr true ys).toArray) ?_ (hy := Or.inl ⟨by rfl, fun w' hw => exec_load_agg _ 40 _ rfl _ _ rfl (adr true ys) _ (hw.range rA (by simp)) Tryz.underlying40 rfl (by rw [size31, HYL.out])⟩)
     refine wpAnyH_ready (rs := [17]) (by kernel_rfl) (by simp) ?_
     refine cnH rfl (fun K hK => ?_) AllReadyH.nil
     go_simp
     refine (HCO.out _).mono ?_
     rintro e w17 ⟨he, t17⟩
     rw [HC.out] at he
     subst he
     have hS2 := hS.trans t17 (by simp)
     refine hK.out _ _ hS2 (fun _ => ?_)
     clear hK K hS t17
     have hS := hS2
     clear hS2
     try simp only [Act.put, sT, s0, sS]
     refine tkH 18 (.bool false) ?_
     refine wpAnyH_done (by kernel_rfl) ?_ _
     try simp only [Act.put, sT, s0, sS]
     go_wp2_with fail
     go_roundw
     case rel =>
      refine ⟨i + 1, by omega, by go_num, HTd.out.trans hS (by simp), hS.at B1.out (by simp), hS.at B2.out (by simp), ?_, ?_⟩
      ·rw [HBK.out, HSTEP.out, HE.out]
       exact hS.at B3.out (by simp)
      ·intro i r hx
       exact hS.range (HRd.out i r hx) (by simp)
     case measure => simp [intOf]; omega
   ·have HE := Lib.hid (show stepL ys bs r = bs by simp [stepL, hlt])
    go_wp2_with fail
    refine wp_region_held (S := Touch [] wr.drew) (by kernel_rfl) ?_
    change wpAnyH _ _ _ _ _ _ _ _ wr.drew
    have cr : wr.drew.cell? ⟨g, i * 20 + 17, none⟩ = some (.int .i64 r.bits) := crb
    have cb : wr.drew.cell? ⟨n5, 17, none⟩ = some (.int .i64 bs.bits) := cbb
    have HTd := Lib.hid (HT.out.drew)
    have B1 := Lib.hid (show wr.drew.heap[w.heap.size]? = _ from A1.out)
    have B2 := Lib.hid (show wr.drew.heap[w.heap.size + 1]? = _ from A2.out)
    have B3 := Lib.hid (show wr.drew.heap[n5]? = _ from A3.out)
    have HRd := Lib.hid (show ∀ i r, prs[i]? = some r → wr.drew.rangeAt g (i * 20) r.cells from HR.out)
    clear rP crb cbb hrow HT A1 A2 A3 HR
    generalize wr.drew = W at *
    have hS := Touch.refl [] W
    refine tkH 0 (.slice (some ⟨g, 0, none⟩) 9 c) ?_
    refine tkH 1 (.int .i64 (i : Nat)) ?_
    refine tkH 2 (.pointer (some ⟨g, i * 20, none⟩)) ?_
    refine tkH 3 (.pointer (some ⟨g, i * 20, none⟩)) ?_
    refine tkH 4 (.pointer (some ⟨g, i * 20 + 17, none⟩)) ?_
    refine tkH 5 (.int .i64 r.bits) ?_ (hy := Or.inl ⟨by rfl, fun w' hw => by (have q := hw.cell cr (by simp); go_simp)⟩)
    refine tkH 6 (.pointer (some ⟨n5, 0, none⟩)) ?_
    refine tkH 7 (.pointer (some ⟨n5, 17, none⟩)) ?_
    refine tkH 8 (.int .i64 bs.bits) ?_ (hy := Or.inl ⟨by rfl, fun w' hw => by (have q := hw.cell cb (by simp); go_simp)⟩)
    refine tkH 9 (.bool false) ?_ (hy := Or.inl ⟨by rfl, fun w' hw => by (have q := hlt; go_simp)⟩)
    refine tkH 10 (.bool false) ?_
    refine tkN 11 undef ?_
    refine tkN 12 undef ?_
    refine tkN 13 undef ?_
    refine tkN 14 undef ?_
    refine tkN 15 undef ?_
    refine tkN 16 undef ?_
    refine tkN 17 undef ?_
    refine tkH 18 (.bool false) ?_
    refine wpAnyH_done (by kernel_rfl) ?_ _
    try simp only [Act.put, sT, s0, sS]
    go_wp2_with fail
    go_roundw
    case rel =>
     refine ⟨i + 1, by omega, by go_num, HTd.out.trans hS (by simp), hS.at B1.out (by simp), hS.at B2.out (by simp), ?_, ?_⟩
     ·rw [HBK.out, HSTEP.out, HE.out]
      exact hS.at B3.out (by simp)
     ·intro i r hx
      exact hS.range (HRd.out i r hx) (by simp)
    case measure => simp [intOf]; omega
  ·have hie : i = 9 := by omega
   subst hie
   have hbl := bestR_px ys 9
   generalize hbk : bestR ys 9 = bs at *
   have HBK := Lib.hid hbk
   have HRL := Lib.hid (pr_len bs hbl)
   have R3 := range_block ha3
   clear hbk hbl ha3
   go_wp2_with (first
    | ((with_reducible refine at_load 178 ?_); refine wpList_load_mid rfl 178 _ rfl n5 0 rfl bs.cells _ R3 Tryz.underlying178 rfl (by rw [sizeR, HRL.out]) ?_)
    | ((with_reducible refine at_store 178 ?_); refine wpList_store_into rfl 178 _ _ rfl (w.heap.size + 1) 178 _ bs.cells rfl rfl A2.out (by rw [HRL.out]; rfl) (by rw [sizeR, HRL.out]) (prw_one _ _ _ _ _) ?_))
   intro w5 h5 t5 z5
   go_wp2_with fail
   exact ret_row_tmp rfl sizeR Tryz.underlying178 rfl HRL.out rfl rfl h5 ⟨by rw [HYS.out, HBK.out]; rfl, HT.out.trans t5 (by intro y hy; right; simp at hy; omega)⟩
end Go.Proofs.YtiklhaajhdephaaGreatDoor

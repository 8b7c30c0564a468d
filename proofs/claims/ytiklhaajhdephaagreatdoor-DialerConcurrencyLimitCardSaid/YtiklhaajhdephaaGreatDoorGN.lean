/-
  Merged texts: Qr, Qp.
-/
import Derived.Test.YtiklhaajhdephaaGreatDoorGM

/-
 The contract of Remaining.
-/
namespace Go.Proofs.YtiklhaajhdephaaGreatDoor
open Go.RowKit
set_option linter.unusedVariables false
set_option linter.unusedSimpArgs false

theorem leftN_step (A : List Ad) (K : List Nat) (i : Nat) (x : Ad) (hx : A[i]? = some x) : leftN A K (i + 1) = if i ∈ K then leftN A K i else leftN A K i ++ [x] := by
 conv => lhs; unfold leftN
 rw [hx]
theorem hasK (w0 : World) (v : Value) (l : List Nat) (a : Nat) (ha : a ≤ 1000000000000000) (r : Bool) (hr : decide (a ∈ l) = r) (w : World) (h1 : OwnK w0 w v l) :
  Calls Tryz.prog 104 #[v, .int .i64 a] w fun e w' => e = .returned (.bool r) ∧ Touch [] w w' := by
 subst hr
 exact containsK_any w0 v l a ha w h1
theorem lastT_none {A : List Ad} {K : List Nat} (h : K = []) : lastT A K = none := by subst h; rfl
theorem lastT_some {A : List Ad} {K : List Nat} (hb : ∀ i ∈ K, i < A.length) (h : K ≠ []) : ∃ k t, K[K.length - 1]? = some k ∧ A[k]? = some t ∧ lastT A K = some t := by
 have hp : 0 < K.length := List.length_pos_iff.2 h
 have e : K[K.length - 1]? = some (K[K.length - 1]'(by omega)) := List.getElem?_eq_getElem (by omega)
 have hk := hb (K[K.length - 1]'(by omega)) (List.getElem_mem _)
 refine ⟨_, A[K[K.length - 1]'(by omega)]'hk, e, List.getElem?_eq_getElem hk, ?_⟩
 unfold lastT
 rw [List.getLast?_eq_getElem?, e]
 simp [hk]
set_option maxRecDepth 100000 in
set_option maxHeartbeats 4000000 in
theorem qrem_any (w0 w : World) (h : Nat) (va vt : Value) (first : Int) (A : List Ad) (K : List Nat) (q : Qu w0 w h va vt first A K) (hA : A.length ≤ 20) :
  Calls Tryz.prog 92 #[.pointer (some ⟨h, 0, none⟩)] w fun e w' => ∃ v', e = .returned v' ∧ OwnA w w' v' (remP first A K) ∧ Touch [] w w' := by
 obtain ⟨aA, cA, hva, hlA, hcA, _⟩ := q.add.form
 obtain ⟨aT, cT, hvt, hlT, hcT, hatT⟩ := q.take.form
 obtain ⟨n, hn⟩ : ∃ n, n = A.length := ⟨_, rfl⟩
 obtain ⟨k, hk⟩ : ∃ k, k = K.length := ⟨_, rfl⟩
 have HN := Lib.hid hn
 have HK := Lib.hid hk
 have HQ := Lib.hid q
 obtain ⟨c0, c1, c2⟩ := q.cells
 rw [hva, ← hn] at c1
 rw [hvt, ← hk] at c2
 rw [← hn] at hA hlA hva
 rw [← hk] at hvt hatT
 have HVA := Lib.hid hva
 have HVT := Lib.hid hvt
 have HC := Lib.hid (And.intro c0 (And.intro c1 c2))
 have hk63 : k ≤ 9223372036854775807 := by unfold maxLen at hcT; omega
 clear hn hk hlT hcT hcA q hva hvt
 go_enter Tryz.func92, Tryz.ntmps92
 go_wp2_with fail
 clear c0 c1 c2
 go_loopw [3, 12] (fun vl vi wr => ∃ i : Nat, i ≤ n ∧ vi = .int .i64 i ∧ OwnA w wr vl (leftN A K i) ∧ Touch [] w wr) (fun _ vi _ => n - (intOf vi).toNat)
 case atStart => exact ⟨0, by omega, rfl, Own.nil _ _, Touch.refl _ _⟩
 case round =>
  obtain ⟨i, hin, rfl, hown, ht⟩ := hrel
  have HT := Lib.hid ht
  have HO := Lib.hid hown
  clear hown ht
  by_cases hlt : i < n
  ·obtain ⟨x, hx⟩ : ∃ x, A[i]? = some x := ⟨_, List.getElem?_eq_getElem (by rw [← HN.out]; exact hlt)⟩
   obtain ⟨bA, hrA, _⟩ := (HQ.out.touch HT.out (by simp)).add.rd
   rw [HVA.out] at hrA
   obtain ⟨oA, rfl, hatA⟩ := hrA.at (by intro e; rw [List.map_eq_nil_iff] at e; rw [e] at hx; simp at hx)
   have rx := hatA i x.cells (by simp [hx])
   have HLX := Lib.hid x.len
   have HST := Lib.hid (leftN_step A K i x hx)
   have hwi : IntKind.i64.wrap ((i : Int) + 1) = (i : Int) + 1 := by rw [IntKind.wrap_i64] <;> omega
   have hin2 : (i : Int) < (n : Int) := by omega
   have HN0 := Lib.hid (heap_alloc_new wr (.cells (adr false (List.replicate 16 0)).toArray 40))
   have HNT := Lib.hid ((Touch.refl [] wr).alloc (.cells (adr false (List.replicate 16 0)).toArray 40))
   have hll := leftN_len A K i
   have HLL := Lib.hid (show ((leftN A K i).length + 1) * 17 ≤ 140737488355328 by omega)
   clear hx hrA hatA hll
   go_wp2_with (first
    | ((with_reducible refine at_load 40 ?_); refine wpList_load_mid rfl 40 _ rfl bA (oA + i * 17) rfl x.cells _ rx Tryz.underlying40 rfl (by rw [size31, HLX.out]) ?_)
    | ((with_reducible refine at_store 40 ?_); refine wpList_store_into rfl 40 _ _ rfl wr.heap.size 40 _ x.cells rfl rfl HN0.out (by rw [HLX.out]; rfl) (by rw [size31, HLX.out]) x.one ?_))
   intro B hB tB0 zB
   have tB := HNT.out.trans tB0 (by intro y hy; right; simp at hy; omega)
   have HTB := Lib.hid (HT.out.trans tB (by simp))
   have HOB := Lib.hid (show OwnA w B u3 (leftN A K i) from Own.touch HO.out tB (by simp))
   have HRX := Lib.hid (range_block hB)
   obtain ⟨c0, c1, c2⟩ := HC.out
   have c2B := HTB.out.cell c2 (by simp)
   have hgb : ∀ g, u3.ownBlock = some g → g ≠ wr.heap.size := fun g hg => by have := Own.lt HO.out g hg; omega
   have HGB := Lib.hid hgb
   have zB2 : wr.heap.size < B.heap.size := by simp [zB]
   generalize wr.heap.size = gb at *
   clear tB tB0 hB HNT HN0 rx zB c0 c1 c2 hgb
   cases hk : decide (i ∈ K) with
   | true =>
    have HHK := Lib.hid (hasK w0 vt K i (by omega) true hk B (HQ.out.touch HTB.out (by simp)).take)
    rw [HVT.out] at HHK
    have HS := Lib.hid (show leftN A K (i + 1) = leftN A K i by rw [HST.out, if_pos (by simpa using hk)])
    clear hk
    go_wp2_with fail
    refine HHK.out.mono ?_
    rintro e w2 ⟨rfl, t2⟩
    have HT2 := Lib.hid (HTB.out.trans t2 (by simp))
    have HO2 := Lib.hid (show OwnA w w2 u3 (leftN A K i) from Own.touch HOB.out t2 (by simp))
    clear t2
    go_wp2_with fail
    go_roundw
    case rel => exact ⟨i + 1, by omega, by go_num, by rw [HS.out]; exact HO2.out, HT2.out⟩
    case measure => simp [intOf]; omega
   | false =>
    have HHK := Lib.hid (hasK w0 vt K i (by omega) false hk B (HQ.out.touch HTB.out (by simp)).take)
    rw [HVT.out] at HHK
    have HS := Lib.hid (show leftN A K (i + 1) = leftN A K i ++ [x] by rw [HST.out, if_neg (by simpa using hk)])
    clear hk
    go_wp2_with fail
    refine HHK.out.mono ?_
    rintro e w2 ⟨rfl, t2⟩
    have HT2 := Lib.hid (HTB.out.trans t2 (by simp))
    have HO2 := Lib.hid (show OwnA w w2 u3 (leftN A K i) from Own.touch HOB.out t2 (by simp))
    have rx2 := t2.range HRX.out (by simp)
    clear t2
    go_wp2_with (first
     | ((with_reducible refine at_load 40 ?_); refine wpList_load_mid rfl 40 _ rfl gb 0 rfl x.cells _ rx2 Tryz.underlying40 rfl (by rw [size31, HLX.out]) ?_)
     | (refine wpList_build_ad rfl _ rfl x (by rfl) ?_)
     | (at_builtin; refine wpList_app_ad w _ (by rfl) _ _ (by rfl) _ (leftN A K i) (by rfl) HO2.out HT2.out.size x (by rfl) HLL.out ?_))
    intro v3 w3 ho3 t3 hv3
    have HO3 := Lib.hid ho3
    have HT3 := Lib.hid (HT2.out.trans t3 (fun g hg => .inr (by have := HO2.out.new g (by simpa using hg); omega)))
    clear ho3 t3 hv3 rx2
    go_wp2_with fail
    go_roundw
    case rel => exact ⟨i + 1, by omega, by go_num, by rw [HS.out]; exact HO3.out, HT3.out⟩
    case measure => simp [intOf]; omega
  ·have HLP := Lib.hid (show leftN A K i = leftP A K by unfold leftP; rw [show i = A.length by rw [← HN.out]; omega])
   obtain ⟨bl, hrl, _⟩ := HO.out.rd
   have HSO := Lib.hid (sort20_any u3 bl (leftN A K i) wr hrl (by have := leftN_len A K i; omega))
   rw [HLP.out] at HSO
   clear hrl
   go_wp2_with fail
   refine HSO.out.mono ?_
   rintro e w2 ⟨vs, rfl, os, t2⟩
   have HT2 := Lib.hid (HT.out.trans t2 (by simp))
   have HOS := Lib.hid (show OwnA w w2 vs (sortS Ad.less (leftP A K)) from Own.older os HT.out.size)
   obtain ⟨c0, c1, c2⟩ := HC.out
   have d0 := HT2.out.cell c0 (by simp)
   have d1 := HT2.out.cell c1 (by simp)
   have d2 := HT2.out.cell c2 (by simp)
   have HQ2 := Lib.hid (HQ.out.touch HT2.out (by simp))
   clear os t2 c0 c1 c2 HSO HC
   have hres : remP first A K = match sortS Ad.less (leftP A K) with
    | [] => []
    | a :: r => match lastT A K with
     | none => interA (a :: r) first a.b
     | some t => interA (a :: r) 1 (!t.b) := rfl
   have hsl : (sortS Ad.less (leftP A K)).length ≤ 1000000 := by rw [sortS_len]; have := leftN_len A K A.length; rw [← HN.out] at this; unfold leftP; rw [← HN.out]; omega
   cases hs : sortS Ad.less (leftP A K) with
   | nil =>
    rw [hs] at hres HOS
    obtain ⟨a0, c0', rfl, _, _, _⟩ := HOS.out.form
    have HRES := Lib.hid hres
    clear hres hs hsl
    go_wp2_with fail
    go_ret
    exact ⟨_, rfl, by rw [HRES.out]; exact Own.nil _ _, HT2.out⟩
   | cons a r =>
    rw [hs] at hres HOS hsl
    obtain ⟨a0, cS, hvs, hlS, hcS, hat0⟩ := HOS.out.form
    obtain ⟨gs, rfl⟩ := hat0 (by simp)
    obtain ⟨bs, hrs, _⟩ := HOS.out.rd
    have HRS := Lib.hid hrs
    obtain ⟨ls, hls⟩ : ∃ ls, ls = (a :: r).length := ⟨_, rfl⟩
    have hls0 : 0 < ls := by rw [hls]; simp
    have hlq : ((ls : Int) == 0) = false := by simp only [beq_eq_false_iff_ne, ne_eq]; omega
    rw [← hls] at hvs hlS
    subst hvs
    have hra := own_at (l := a :: r) (i := 0) (a := a) (by have := HOS.out.row'; rw [← hls] at this; exact this) rfl
    have hfl : w2.cell? ⟨gs, 0, none⟩ = some (.bool a.b) := by
     have := hra 0 (.bool a.b) rfl
     simpa using this
    have HIN := fun (f : Int) (b6 : Bool) (W : World) (tW : Touch [] w2 W) => inter13 (.slice (some ⟨gs, 0, none⟩) ls cS) bs f b6 ((a :: r).map Ad.cells) W (by rw [List.length_map]; exact hsl) (hrs.touch tW (by simp)) (fun x hx => by obtain ⟨y, _, rfl⟩ := List.mem_map.1 hx; exact y.is)
    have HIN := Lib.hid HIN
    have HRES := Lib.hid hres
    clear hres hs hsl hra hrs hat0 hls
    by_cases hk0 : k = 0
    ·have hK0 : K = [] := List.eq_nil_of_length_eq_zero (by rw [← HK.out]; exact hk0)
     have HL := Lib.hid (show remP first A K = interA (a :: r) first a.b by rw [HRES.out, lastT_none hK0])
     have hkq : ((k : Int) == 0) = true := by simp only [beq_iff_eq]; omega
     clear hk0 hK0
     go_wp2_with fail
     refine wp_region_held (S := Touch [] w2.drew) (by kernel_rfl) ?_
     change wpAnyH _ _ _ _ _ _ _ _ w2.drew
     have hTd := Lib.hid (HT2.out.drew)
     have HId := Lib.hid ((Touch.refl [] w2).drew)
     have e0 : w2.drew.cell? ⟨h, 0, none⟩ = some (.int .i64 first) := d0
     have e3 : w2.drew.cell? ⟨gs, 0, none⟩ = some (.bool a.b) := hfl
     generalize w2.drew = W at *
     have hS := Touch.refl [] W
     refine tkH 0 (.slice (some ⟨gs, 0, none⟩) ls cS) ?_
     refine tkH 1 (.pointer (some ⟨h, 0, none⟩)) ?_
     refine tkH 2 (.pointer (some ⟨h, 0, none⟩)) ?_
     refine tkH 3 (.pointer (some ⟨h, 0, none⟩)) ?_
     refine tkH 4 (.int .i64 first) ?_ (hy := Or.inl ⟨by rfl, fun w' hw => by (have q := hw.cell e0 (by simp); go_simp)⟩)
     refine tkH 5 (.slice (some ⟨gs, 0, none⟩) ls cS) ?_
     refine tkH 6 (.pointer (some ⟨gs, 0, none⟩)) ?_
     refine tkH 7 (.pointer (some ⟨gs, 0, none⟩)) ?_
     refine tkH 8 (.bool a.b) ?_ (hy := Or.inl ⟨by rfl, fun w' hw => by (have q := hw.cell e3 (by simp); go_simp)⟩)
     refine wpAnyH_ready (rs := [9]) (by kernel_rfl) (by simp) ?_
     refine cnH rfl (fun K hK => ?_) AllReadyH.nil
     go_simp
     refine ((HIN.out first a.b _ (HId.out.trans hS (by simp))).mono) ?_
     rintro e wF ⟨vF, rfl, oF, tF⟩
     have hS2 := hS.trans tF (by simp)
     have oF := Own.older oF hS.size
     refine hK.out _ _ hS2 (fun _ => ?_)
     clear hK K hS tF
     have hS := hS2
     clear hS2
     try simp only [Act.put, sT, s0, sS]
     refine tkH 10 vF ?_
     refine wpAnyH_done (by kernel_rfl) ?_ _
     try simp only [Act.put, sT, s0, sS]
     have HOF := Lib.hid (show OwnA w wF vF (interA (a :: r) first a.b) by have h := (show Own W wF vF _ from oF); rw [inter_ad] at h; exact Own.older h hTd.out.size)
     have HTF := Lib.hid (hTd.out.trans hS (by simp))
     clear hS oF
     go_wp2_with fail
     go_ret
     exact ⟨_, rfl, by rw [HL.out]; exact HOF.out, HTF.out⟩
    ·have hKn : K ≠ [] := by intro e; rw [e] at HK; exact hk0 HK.out
     obtain ⟨kl, tl, hkl, htl, hlt2⟩ := lastT_some HQ.out.bound hKn
     have HL := Lib.hid (show remP first A K = interA (a :: r) 1 (!tl.b) by rw [HRES.out, hlt2])
     have hkq : ((k : Int) == 0) = false := by simp only [beq_eq_false_iff_ne, ne_eq]; omega
     obtain ⟨gt, rfl⟩ := hatT (by omega)
     obtain ⟨k1, hk1⟩ : ∃ k1, k1 = k - 1 := ⟨_, rfl⟩
     have hwk1 : IntKind.i64.wrap ((k : Int) - 1) = (k1 : Int) := by rw [IntKind.wrap_i64] <;> omega
     have hck : w2.cell? ⟨gt, k1, none⟩ = some (.int .i64 (kl : Int)) := by
      have h := HQ2.out.take
      rw [HVT.out] at h
      exact h.cell HK.out (by rw [hk1, HK.out]; exact hkl)
     obtain ⟨bA, hrA, _⟩ := HQ2.out.add.rd
     rw [HVA.out] at hrA
     obtain ⟨oA, rfl, hatA⟩ := hrA.at (by intro e; rw [List.map_eq_nil_iff] at e; rw [e] at htl; simp at htl)
     have hft : w2.cell? ⟨bA, oA + kl * 17, none⟩ = some (.bool tl.b) := by
      have := hatA kl tl.cells (by simp [htl]) 0 (.bool tl.b) rfl
      simpa using this
     have hkn : (kl : Int) < (n : Int) := by have := (List.getElem?_eq_some_iff.1 htl).1; rw [← HN.out] at this; omega
     have hk1k : (k1 : Int) < (k : Int) := by omega
     clear hk0 hKn hkl htl hlt2 hrA hatA hk1
     go_wp2_with fail
     refine wp_region_held (S := Touch [] w2.drew) (by kernel_rfl) ?_
     change wpAnyH _ _ _ _ _ _ _ _ w2.drew
     have hTd := Lib.hid (HT2.out.drew)
     have HId := Lib.hid ((Touch.refl [] w2).drew)
     have e0 : w2.drew.cell? ⟨h, 0, none⟩ = some (.int .i64 first) := d0
     have e1 : w2.drew.cell? ⟨h, 1, none⟩ = some (.slice (some ⟨bA, oA, none⟩) n cA) := d1
     have e2 : w2.drew.cell? ⟨h, 2, none⟩ = some (.slice (some ⟨gt, 0, none⟩) k cT) := d2
     have e4 : w2.drew.cell? ⟨gt, k1, none⟩ = some (.int .i64 (kl : Int)) := hck
     have e5 : w2.drew.cell? ⟨bA, oA + kl * 17, none⟩ = some (.bool tl.b) := hft
     generalize w2.drew = W at *
     have hS := Touch.refl [] W
     refine tkH 0 (.slice (some ⟨gs, 0, none⟩) ls cS) ?_
     refine tkH 1 (.pointer (some ⟨h, 0, none⟩)) ?_
     refine tkH 2 (.pointer (some ⟨h, 0, none⟩)) ?_
     refine tkH 3 (.pointer (some ⟨h, 1, none⟩)) ?_
     refine tkH 4 (.slice (some ⟨bA, oA, none⟩) n cA) ?_ (hy := Or.inl ⟨by rfl, fun w' hw => by (have q := hw.cell e1 (by simp); go_simp)⟩)
     refine tkH 5 (.pointer (some ⟨h, 0, none⟩)) ?_
     refine tkH 6 (.pointer (some ⟨h, 0, none⟩)) ?_
     refine tkH 7 (.pointer (some ⟨h, 2, none⟩)) ?_
     refine tkH 8 (.slice (some ⟨gt, 0, none⟩) k cT) ?_ (hy := Or.inl ⟨by rfl, fun w' hw => by (have q := hw.cell e2 (by simp); go_simp)⟩)
     refine tkH 9 (.int .i64 (k : Nat)) ?_
     refine tkH 10 (.int .i64 (k1 : Nat)) ?_
     refine tkH 11 (.pointer (some ⟨gt, k1, none⟩)) ?_
     refine tkH 12 (.int .i64 (kl : Nat)) ?_ (hy := Or.inl ⟨by rfl, fun w' hw => by (have q := hw.cell e4 (by simp); go_simp)⟩)
     refine tkH 13 (.pointer (some ⟨bA, oA + kl * 17, none⟩)) ?_
     refine tkH 14 (.pointer (some ⟨bA, oA + kl * 17, none⟩)) ?_
     refine tkH 15 (.bool tl.b) ?_ (hy := Or.inl ⟨by rfl, fun w' hw => by (have q := hw.cell e5 (by simp); go_simp)⟩)
     refine tkH 16 (.bool (!tl.b)) ?_
     refine wpAnyH_ready (rs := [17]) (by kernel_rfl) (by simp) ?_
     refine cnH rfl (fun K hK => ?_) AllReadyH.nil
     go_simp
     refine ((HIN.out 1 (!tl.b) _ (HId.out.trans hS (by simp))).mono) ?_
     rintro e wF ⟨vF, rfl, oF, tF⟩
     have hS2 := hS.trans tF (by simp)
     have oF := Own.older oF hS.size
     refine hK.out _ _ hS2 (fun _ => ?_)
     clear hK K hS tF
     have hS := hS2
     clear hS2
     try simp only [Act.put, sT, s0, sS]
     refine tkH 18 vF ?_
     refine wpAnyH_done (by kernel_rfl) ?_ _
     try simp only [Act.put, sT, s0, sS]
     have HOF := Lib.hid (show OwnA w wF vF (interA (a :: r) 1 (!tl.b)) by have h := (show Own W wF vF _ from oF); rw [inter_ad] at h; exact Own.older h hTd.out.size)
     have HTF := Lib.hid (hTd.out.trans hS (by simp))
     clear hS oF
     go_wp2_with fail
     go_ret
     exact ⟨_, rfl, by rw [HL.out]; exact HOF.out, HTF.out⟩
end Go.Proofs.YtiklhaajhdephaaGreatDoor

/-
 The contracts of Peek, Take and Taken.
-/
namespace Go.Proofs.YtiklhaajhdephaaGreatDoor
open Go.RowKit
set_option linter.unusedVariables false
set_option linter.unusedSimpArgs false

def zAd : Ad := ⟨false, List.replicate 16 0, by simp [okB], by simp⟩
theorem built_zAd : Tryz.prog.built 40 [] = some zAd.cells.toArray := by kernel_rfl
def headA : List Ad → Ad
 | [] => zAd
 | a :: _ => a
set_option maxRecDepth 100000 in
set_option maxHeartbeats 4000000 in
theorem qpeek_any (w0 w : World) (h : Nat) (va vt : Value) (first : Int) (A : List Ad) (K : List Nat) (q : Qu w0 w h va vt first A K) (hA : A.length ≤ 20) :
  Calls Tryz.prog 58 #[.pointer (some ⟨h, 0, none⟩)] w fun e w' => e = .returned (.tuple #[.agg (headA (remP first A K)).cells.toArray, .bool (!(remP first A K).isEmpty)]) ∧ Touch [] w w' := by
 have HT := Lib.hid ((Touch.refl [] w).alloc (.cells (adr false (List.replicate 16 0)).toArray 40))
 have HG := Lib.hid (heap_alloc_new w (.cells (adr false (List.replicate 16 0)).toArray 40))
 have HR := Lib.hid (qrem_any w0 (w.alloc (.cells (adr false (List.replicate 16 0)).toArray 40)) h va vt first A K (q.touch HT.out (by simp)) hA)
 clear q
 generalize remP first A K = R at *
 go_enter Tryz.func58, Tryz.ntmps58
 go_wp2_with fail
 refine HR.out.mono ?_
 rintro e w1 ⟨v, rfl, ho, t1⟩
 have HT1 := Lib.hid (HT.out.trans t1 (by simp))
 have HG1 := Lib.hid (t1.at HG.out (by simp))
 cases R with
 | nil =>
  obtain ⟨a0, c0, rfl, _, _, _⟩ := ho.form
  have HZL := Lib.hid zAd.len
  clear ho t1 HR HT HG
  go_wp2_with (first
   | ((with_reducible refine at_build 40 ?_); refine wpList_built (by rfl) 40 _ (by rfl) _ _ (by rfl) built_zAd ?_)
   | ((with_reducible refine at_store 40 ?_); refine wpList_store_into rfl 40 _ _ rfl w.heap.size 40 _ zAd.cells rfl rfl HG1.out (by rw [HZL.out]; rfl) (by rw [size31, HZL.out]) zAd.one ?_))
  intro w4 h4 t4 z4
  go_wp2_with fail
  exact ret_row_tmp rfl size31 Tryz.underlying40 rfl HZL.out rfl rfl h4 ⟨rfl, HT1.out.trans t4 (by intro y hy; right; simp at hy; omega)⟩
 | cons a r =>
  obtain ⟨a0, c0, hv, hl, hc, hat⟩ := ho.form
  obtain ⟨g, rfl⟩ := hat (by simp)
  obtain ⟨ls, hls⟩ : ∃ ls, ls = (a :: r).length := ⟨_, rfl⟩
  have hls0 : 0 < ls := by rw [hls]; simp
  have hlq : ((ls : Int) == 0) = false := by simp only [beq_eq_false_iff_ne, ne_eq]; omega
  rw [← hls] at hv hl
  subst hv
  have ra := own_at (l := a :: r) (i := 0) (a := a) (by have := ho.row'; rw [← hls] at this; exact this) rfl
  simp only [Nat.zero_mul] at ra
  have HLA := Lib.hid a.len
  clear ho t1 HR HT HG hat hls
  go_wp2_with (first
   | ((with_reducible refine at_load 40 ?_); refine wpList_load_mid rfl 40 _ rfl g 0 rfl a.cells _ ra Tryz.underlying40 rfl (by rw [size31, HLA.out]) ?_)
   | ((with_reducible refine at_store 40 ?_); refine wpList_store_into rfl 40 _ _ rfl w.heap.size 40 _ a.cells rfl rfl HG1.out (by rw [HLA.out]; rfl) (by rw [size31, HLA.out]) a.one ?_))
  intro w4 h4 t4 z4
  go_wp2_with fail
  exact ret_row_tmp rfl size31 Tryz.underlying40 rfl HLA.out rfl rfl h4 ⟨rfl, HT1.out.trans t4 (by intro y hy; right; simp at hy; omega)⟩
theorem Qu.pushT {w0 w w2 : World} {h : Nat} {va vt v2 : Value} {first : Int} {A : List Ad} {K K2 : List Nat} (q : Qu w0 w h va vt first A K) (t : Touch vt.ownBlock.toList w w2) (o : OwnK w0 w2 v2 K2) (hb : ∀ i ∈ K2, i < A.length) (hv : v2.ownBlock = vt.ownBlock ∨ ∃ k, v2.ownBlock = some k ∧ w.heap.size ≤ k) :
  Qu w0 (w2.setCell ⟨h, 2, none⟩ v2) h va v2 first A K2 ∧ Touch (h :: vt.ownBlock.toList) w (w2.setCell ⟨h, 2, none⟩ v2) := by
 have hlt : h < w.heap.size := (Array.getElem?_eq_some_iff.1 q.cell).1
 have hc := t.at q.cell (by intro hm; exact q.ht (by simpa using hm))
 have t2 : Touch [h] w2 (w2.setCell ⟨h, 2, none⟩ v2) := (Touch.refl [h] w2).setCell (p := ⟨h, 2, none⟩) (.inl (by simp)) _
 have hne : v2.ownBlock ≠ some h := by
  rcases hv with e | ⟨k, e, hk⟩
  ·rw [e]; exact q.ht
  ·rw [e]; intro e2; cases e2; omega
 have nat : ∀ g, va.ownBlock = some g → vt.ownBlock ≠ some g := q.hat
 refine ⟨⟨?_, q.new, ?_, o.touch t2 (fun g hg => by simp; intro e; subst e; exact hne hg), q.ha, hne, ?_, hb⟩, ?_⟩
 ·simp [World.setCell, Array.getElem?_modify, hc]
 ·have h1 : OwnA w0 w2 va A := Own.touch q.add t (fun g hg => by simp; intro e; exact q.hat g hg e)
  exact Own.touch h1 t2 (fun g hg => by simp; intro e; subst e; exact q.ha hg)
 ·intro g hg
  rcases hv with e | ⟨k, e, hk⟩
  ·rw [e]; exact q.hat g hg
  ·rw [e]; intro e2; cases e2
   have := Own.lt q.add _ hg
   omega
 ·exact (t.mono (fun x hx => .inl (by simp; right; simpa using hx))).trans t2 (fun x hx => .inl (by simp at hx; simp [hx]))
theorem infoI : (Tryz.prog.info? 3).map (fun i => (i.zero, i.size, i.bytes)) = some (some (.int .i64 0), 1, 8) := by kernel_rfl
theorem wpList_app_k {ops : Array Oper} {rest : List Oper} {o : Oper} {a : Act} {Q : Exit → Act → World → Prop} (w0 w : World) (hgd : o.guard = none) (s x : Operand)
  (ho : o.op = .call { callee := .builtin .append, args := #[s, x], argTypes := #[48, 48] })
  (v : Value) (l : List Nat) (hs : a.eval s = v) (hown : OwnK w0 w v l) (hz : w0.heap.size ≤ w.heap.size) (g k : Nat) (hx : a.eval x = .slice (some ⟨g, 0, none⟩) 1 1) (hk : w.cell? ⟨g, 0, none⟩ = some (.int .i64 (k : Int))) (hl : l.length ≤ 1000000000000)
  (h : ∀ v' w', OwnK w0 w' v' (l ++ [k]) → Touch v.ownBlock.toList w w' → (v'.ownBlock = v.ownBlock ∨ v'.ownBlock = some w.heap.size) → wpList Tryz.prog ops Q rest (a.put o.dst v') w') : wpList Tryz.prog ops Q (o :: rest) a w := by
 obtain ⟨iA, hiA, hzA, hsA, hbA⟩ := info_parts infoI
 refine wpList_app _ hgd s x 48 ho 3 iA _ 1 8 Tryz.underlying48 hiA hzA hsA hbA rfl (by omega) v l.length _ hs hown.1 (some ⟨g, 0, none⟩) 1 1 [.int .i64 (k : Int)] hx rfl (by intro h; cases h) (by
  intro ad e j u hu
  cases e
  have hj : j = 0 := by
   rcases Nat.eq_zero_or_pos j with h | h
   ·exact h
   ·rw [List.getElem?_eq_none (by simp; omega)] at hu; cases hu
  subst hj
  simp at hu
  subst hu
  rw [Addr.add_lit]
  exact hk) (by intro u hu; simp at hu; subst hu; rfl) (by unfold maxLen; omega) (by omega) ?_
 intro v' w' ho2 t2 hv2
 refine h v' w' ⟨by rw [List.length_append, List.length_singleton, List.map_append]; exact ho2, ?_⟩ t2 hv2
 intro g' hg'
 rcases hv2 with e | e
 ·rw [e] at hg'; exact hown.2 g' hg'
 ·rw [e] at hg'; cases hg'; exact hz
/-- The places taken, once the next one has been taken. -/
def takeK (A : List Ad) (K : List Nat) (a : Ad) : List Nat := K ++ [A.idxOf a]
set_option maxRecDepth 100000 in
set_option maxHeartbeats 8000000 in
theorem qtake_any (w0 w : World) (h : Nat) (va vt : Value) (first : Int) (A : List Ad) (KL : List Nat) (q : Qu w0 w h va vt first A KL) (hz : w0.heap.size ≤ w.heap.size) (hA : A.length ≤ 20) (hKl : KL.length ≤ 1000000) :
  Calls Tryz.prog 29 #[.pointer (some ⟨h, 0, none⟩)] w fun e w' => e = .returned (.tuple #[.agg (headA (remP first A KL)).cells.toArray, .bool (!(remP first A KL).isEmpty)]) ∧
   ∃ vt', Qu w0 w' h va vt' first A (if (remP first A KL).isEmpty then KL else takeK A KL (headA (remP first A KL))) ∧ Touch (h :: vt.ownBlock.toList) w w' ∧ (vt'.ownBlock = vt.ownBlock ∨ ∃ k, vt'.ownBlock = some k ∧ w.heap.size ≤ k) := by
 have HT := Lib.hid ((Touch.refl [] w).alloc (.cells (adr false (List.replicate 16 0)).toArray 40))
 have HG := Lib.hid (heap_alloc_new w (.cells (adr false (List.replicate 16 0)).toArray 40))
 have HP := Lib.hid (qpeek_any w0 (w.alloc (.cells (adr false (List.replicate 16 0)).toArray 40)) h va vt first A KL (q.touch HT.out (by simp)) hA)
 have HQ := Lib.hid q
 have HMEM := Lib.hid (show ∀ a r, remP first A KL = a :: r → a ∈ A from fun a r e => by
  have hm := (remP_perm first A KL).mem_iff.1 (by rw [e]; simp : a ∈ remP first A KL)
  obtain ⟨i, _, _, hi⟩ := (leftN_mem A KL A.length a).1 hm
  exact List.mem_of_getElem? hi)
 generalize remP first A KL = R at *
 clear q
 cases R with
 | nil =>
  go_enter Tryz.func29, Tryz.ntmps29
  go_wp2_with fail
  refine HP.out.mono ?_
  rintro e w1 ⟨rfl, t1⟩
  have HT1 := Lib.hid (HT.out.trans t1 (by simp))
  have HG1 := Lib.hid (((Touch.refl [] w1).alloc (.cells (adr false (List.replicate 16 0)).toArray 40)).at (t1.at HG.out (by simp)) (by simp))
  have HT2 := Lib.hid (HT1.out.alloc (.cells (adr false (List.replicate 16 0)).toArray 40))
  have HN2 := Lib.hid (heap_alloc_new w1 (.cells (adr false (List.replicate 16 0)).toArray 40))
  have HZL := Lib.hid (headA []).len
  have HZO := Lib.hid (headA []).one
  have hlt : w.heap.size < w1.heap.size := by have := (t1.size); simp at this; omega
  generalize hzz : headA [] = za at *
  clear t1 HP HT HG
  go_wp2_with ((with_reducible refine at_store 40 ?_); refine wpList_store_into rfl 40 _ _ rfl w1.heap.size 40 _ za.cells rfl rfl HN2.out (by rw [HZL.out]; rfl) (by rw [size31, HZL.out]) HZO.out ?_)
  intro w3 h3 t3 z3
  have HT3 := Lib.hid (HT2.out.trans t3 (by intro y hy; right; simp at hy; omega))
  have HG3 := Lib.hid (t3.at HG1.out (by simp; omega))
  have R3 := range_block h3
  clear h3 t3 z3 HT2 HG1 HN2
  go_wp2_with (first
   | ((with_reducible refine at_load 40 ?_); refine wpList_load_mid rfl 40 _ rfl w1.heap.size 0 rfl za.cells _ R3 Tryz.underlying40 rfl (by rw [size31, HZL.out]) ?_)
   | ((with_reducible refine at_store 40 ?_); refine wpList_store_into rfl 40 _ _ rfl w.heap.size 40 _ za.cells rfl rfl HG3.out (by rw [HZL.out]; rfl) (by rw [size31, HZL.out]) HZO.out ?_))
  intro w4 h4 t4 z4
  have HT4 := Lib.hid (HT3.out.trans t4 (by intro y hy; right; simp at hy; omega))
  go_wp2_with fail
  exact ret_row_tmp rfl size31 Tryz.underlying40 rfl HZL.out rfl rfl h4 ⟨rfl, vt, HQ.out.touch HT4.out (by simp), HT4.out.mono (by simp), .inl rfl⟩
 | cons a r =>
  have hmem := HMEM.out a r rfl
  obtain ⟨ix, hix, hax⟩ := idxZ_mem hmem
  have HIX := Lib.hid hix
  have HTK := Lib.hid (show takeK A KL a = KL ++ [ix] by
   unfold takeK
   have e := hix
   unfold idxZ at e
   rw [if_pos hmem] at e
   rw [show A.idxOf a = ix by omega])
  have HIB := Lib.hid (List.getElem?_eq_some_iff.1 hax).1
  obtain ⟨aA, cA, hva, hlA, hcA, _⟩ := HQ.out.add.form
  obtain ⟨aT, cT, hvt, hlT, hcT, _⟩ := HQ.out.take.form
  have HVA := Lib.hid hva
  have HVT := Lib.hid hvt
  have HLA := Lib.hid a.len
  simp only [headA]
  clear hmem hix hax hva hvt
  go_enter Tryz.func29, Tryz.ntmps29
  go_wp2_with fail
  refine HP.out.mono ?_
  rintro e w1 ⟨rfl, t1⟩
  simp only [headA]
  have HT1 := Lib.hid (HT.out.trans t1 (by simp))
  have HG1 := Lib.hid (((Touch.refl [] w1).alloc (.cells (adr false (List.replicate 16 0)).toArray 40)).at (t1.at HG.out (by simp)) (by simp))
  have HT2 := Lib.hid (HT1.out.alloc (.cells (adr false (List.replicate 16 0)).toArray 40))
  have HN2 := Lib.hid (heap_alloc_new w1 (.cells (adr false (List.replicate 16 0)).toArray 40))
  have hlt : w.heap.size < w1.heap.size := by have := (t1.size); simp at this; omega
  clear t1 HP HT HG
  go_wp2_with ((with_reducible refine at_store 40 ?_); refine wpList_store_into rfl 40 _ _ rfl w1.heap.size 40 _ a.cells rfl rfl HN2.out (by rw [HLA.out]; rfl) (by rw [size31, HLA.out]) a.one ?_)
  intro w3 h3 t3 z3
  have HT3 := Lib.hid (HT2.out.trans t3 (by intro y hy; right; simp at hy; omega))
  have HG3 := Lib.hid (t3.at HG1.out (by simp; omega))
  have HR3 := Lib.hid (range_block h3)
  have HQ3 := Lib.hid (HQ.out.touch HT3.out (by simp))
  have z32 : w3.heap.size = w1.heap.size + 1 := by simpa using z3
  clear h3 t3 z3 HT2 HG1 HN2
  go_wp2_with fail
  refine wp_region_F (S := Touch vt.ownBlock.toList w3.drew) [15] (by kernel_rfl) ?_
  change wpAnyF _ _ _ _ _ _ _ _ _ w3.drew
  have HQX := Lib.hid (HQ3.out.touch ((Touch.refl [] w3).drew) (by simp))
  have HRX := Lib.hid (((Touch.refl [] w3).drew).range HR3.out (by simp))
  have HTX := Lib.hid (HT3.out.drew)
  have HGX := Lib.hid (((Touch.refl [] w3).drew).at HG3.out (by simp))
  have zX : w3.drew.heap.size = w1.heap.size + 1 := z32
  generalize w3.drew = X at *
  have hS := Touch.refl vt.ownBlock.toList X
  obtain ⟨c0, c1, c2⟩ := HQX.out.cells
  rw [HVA.out] at c1
  rw [HVT.out] at c2
  have hhb : h ∉ vt.ownBlock.toList := by intro hm; exact HQX.out.ht (by simpa using hm)
  have hgb : w1.heap.size ∉ vt.ownBlock.toList := by intro hm; have := HQ.out.take.lt _ (by simpa using hm); omega
  have hwb : w.heap.size ∉ vt.ownBlock.toList := by intro hm; have := HQ.out.take.lt _ (by simpa using hm); omega
  obtain ⟨bA, hrA, hbA⟩ := HQX.out.add.rd
  have HRA := Lib.hid (show A ≠ [] → bA ∉ vt.ownBlock.toList from fun hne hm => by rcases hbA with e | e; exact HQX.out.hat _ e (by simpa using hm); rw [HVA.out] at e; obtain ⟨oA, rfl, _⟩ := (show Rd X 17 bA (.slice aA A.length cA) (A.map Ad.cells) by rw [← HVA.out]; exact hrA).at (by simpa using hne); simp [Value.ownBlock] at e)
  have HRD := Lib.hid hrA
  clear hrA hbA c0
  have HOX := Lib.hid HQX.out.take
  refine tkF 0 (.pointer (some ⟨h, 0, none⟩)) ?_
  refine tkF 1 (.pointer (some ⟨h, 0, none⟩)) ?_
  refine tkF 2 (.pointer (some ⟨h, 0, none⟩)) ?_
  refine tkF 3 (.pointer (some ⟨h, 2, none⟩)) ?_
  refine tkF 4 (.slice aT KL.length cT) ?_ (hy := Or.inl ⟨by rfl, fun w' hw => by (have q := hw.cell c2 hhb; go_simp)⟩)
  refine tkF 5 (.pointer (some ⟨h, 0, none⟩)) ?_
  refine tkF 6 (.pointer (some ⟨h, 0, none⟩)) ?_
  refine tkF 7 (.pointer (some ⟨h, 1, none⟩)) ?_
  refine tkF 8 (.slice aA A.length cA) ?_ (hy := Or.inl ⟨by rfl, fun w' hw => by (have q := hw.cell c1 hhb; go_simp)⟩)
  refine tkF 9 (.agg a.cells.toArray) ?_ (hy := Or.inl ⟨by rfl, fun w' hw => exec_load_agg _ 40 _ rfl _ _ rfl a.cells _ (hw.range HRX.out hgb) Tryz.underlying40 rfl (by rw [size31, HLA.out])⟩)
  refine wpAnyF_ready (rs := [10]) (by kernel_rfl) (by simp) ?_
  refine cnF rfl (fun K hK => ?_) AllReadyF.nil
  go_simp
  rw [← HVA.out]
  refine (indexA_any va bA A a _ (HRD.out.far hS (fun hne => HRA.out (by simpa using hne)))).mono ?_
  rintro e w10 ⟨rfl, t10⟩
  rw [HIX.out]
  have hO10 := (show OwnK w0 w10 vt KL from HOX.out.touch t10 (by simp))
  have hS2 := hS.trans t10 (by simp)
  refine hK.out _ _ hS2 (fun _ => ?_)
  clear hK K hS t10
  have hS := hS2
  clear hS2
  try simp only [Act.put, sT, s0, sS]
  refine wpAnyF_ready (rs := [11]) (by kernel_rfl) (by simp) ?_
  refine cnF rfl (fun K hK => ?_) AllReadyF.nil
  go_simp
  have tA := (Touch.refl [] w10).alloc (.cells #[.int .i64 (ix : Int)] 3)
  have hS2 := hS.trans tA (by simp)
  have hcx : (w10.alloc (.cells #[.int .i64 (ix : Int)] 3)).cell? ⟨w10.heap.size, 0, none⟩ = some (.int .i64 (ix : Int)) := by rw [cell_of_row _ _ _ _ _ _ (heap_alloc_new w10 _)]; rfl
  have hO11 := (show OwnK w0 (w10.alloc (.cells #[.int .i64 (ix : Int)] 3)) vt KL from hO10.touch tA (by simp))
  refine hK.out _ _ hS2 (fun _ => ?_)
  clear hK K hS
  have hS := hS2
  clear hS2 tA
  generalize w10.alloc (.cells #[.int .i64 (ix : Int)] 3) = X1 at *
  try simp only [Act.put, sT, s0, sS]
  refine wpAnyF_ready (rs := [12]) (by kernel_rfl) (by simp) ?_
  refine cnF rfl (fun K hK => ?_) AllReadyF.nil
  refine step_of_list rfl ?_
  refine wpList_app_k w0 X1 rfl _ _ rfl vt KL (by rw [HVT.out]; rfl) hO11 (by have := hS.size; have := HTX.out.size; omega) w10.heap.size ix rfl hcx (by omega) ?_
  intro v7 w7 o7 t7 h7
  have hS2 := hS.trans t7 (fun y hy => .inl hy)
  refine ⟨rfl, hK.out _ _ hS2 (fun _ => ?_)⟩
  clear hK K
  have z7 := hS.size
  clear hS
  have hS := hS2
  clear hS2
  try simp only [Act.put, sT, s0, sS]
  refine tkF 13 (.pointer (some ⟨h, 0, none⟩)) ?_
  refine tkF 14 (.pointer (some ⟨h, 2, none⟩)) ?_
  refine wpAnyF_ready (rs := [15]) (by kernel_rfl) (by simp) ?_
  refine clF rfl (by simp) (fun K hK => ?_) AllReadyF.nil
  have q1 := hS.cell c2 hhb
  have g0 : w7.frozen? ⟨h, 2, none⟩ = false := by simp [World.frozen?, hS.at HQX.out.cell hhb]
  obtain ⟨a7, c7, hv7, _, _, _⟩ := o7.form
  have HPU := HQX.out.pushT hS o7 (by intro i hi; rw [List.mem_append, List.mem_singleton] at hi; rcases hi with e | e; exact HQX.out.bound i e; subst e; exact HIB.out) (by rcases h7 with e | e; exact .inl e; exact .inr ⟨_, e, z7⟩)
  have HF5 := Lib.hid (show Qu w0 (w7.setCell ⟨h, 2, none⟩ v7) h va v7 first A (KL ++ [ix]) ∧ Touch (h :: vt.ownBlock.toList) w (w7.setCell ⟨h, 2, none⟩ v7) ∧ (v7.ownBlock = vt.ownBlock ∨ ∃ k, v7.ownBlock = some k ∧ w.heap.size ≤ k) from ⟨HPU.1, (HTX.out.mono (by simp)).trans HPU.2 (fun y hy => .inl hy), by rcases h7 with e | e; exact .inl e; exact .inr ⟨_, e, by have := HTX.out.size; omega⟩⟩)
  have HNW := Lib.hid (show ∀ g ∈ qfoot h va v7, g ≠ w.heap.size from by intro g hg e; subst e; simp only [qfoot, List.mem_cons, List.mem_append, Option.mem_toList] at hg; rcases hg with e | e | e; (have := (Array.getElem?_eq_some_iff.1 HQ.out.cell).1; omega); (have := Own.lt HQ.out.add _ e; omega); (rcases h7 with e2 | e2; (rw [e2] at e; have := HQ.out.take.lt _ e; omega); (rw [e2] at e; simp at e; omega)))
  have t5 : Touch (h :: vt.ownBlock.toList) X (w7.setCell ⟨h, 2, none⟩ v7) := HPU.2
  have r5 := t5.range HRX.out (by intro hm; simp only [List.mem_cons] at hm; rcases hm with e | e; (have := (Array.getElem?_eq_some_iff.1 HQ.out.cell).1; omega); exact hgb e)
  have HG5 := Lib.hid (t5.at HGX.out (by intro hm; simp only [List.mem_cons] at hm; rcases hm with e | e; (have := (Array.getElem?_eq_some_iff.1 HQ.out.cell).1; omega); exact hwb e))
  clear HPU h7 t7 t5
  rw [List.length_append, List.length_singleton] at hv7
  subst hv7
  go_simp
  refine hK.out _ _ ?_
  clear hK K
  try simp only [Act.put, sT, s0, sS]
  refine wpAnyF_done (by kernel_rfl) ?_ _
  try simp only [Act.put, sT, s0, sS]
  go_wp2_with (first
   | ((with_reducible refine at_load 40 ?_); refine wpList_load_mid rfl 40 _ rfl w1.heap.size 0 rfl a.cells _ r5 Tryz.underlying40 rfl (by rw [size31, HLA.out]) ?_)
   | ((with_reducible refine at_store 40 ?_); refine wpList_store_into rfl 40 _ _ rfl w.heap.size 40 _ a.cells rfl rfl HG5.out (by rw [HLA.out]; rfl) (by rw [size31, HLA.out]) a.one ?_))
  intro w6 h6 t6 z6
  go_wp2_with fail
  refine ret_row_tmp rfl size31 Tryz.underlying40 rfl HLA.out rfl rfl h6 ⟨rfl, ?_⟩
  have hfoot := HNW.out
  rw [HTK.out]
  exact ⟨_, HF5.out.1.touch t6 (by intro g hg; simp; exact hfoot g hg), HF5.out.2.1.trans t6 (by intro y hy; right; simp at hy; omega), HF5.out.2.2⟩
/-- The addresses that were taken, in order. -/
def tknP (A : List Ad) (K : List Nat) : List Ad := K.filterMap fun i => A[i]?
end Go.Proofs.YtiklhaajhdephaaGreatDoor

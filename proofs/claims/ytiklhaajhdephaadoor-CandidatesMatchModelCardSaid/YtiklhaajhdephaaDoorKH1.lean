/-
  The statement 'CandidatesMatchModelSaid' of the seat: the frame of the row round the walk of the law's Go function (YtiklhaajhdephaaDoorW8): for every input the call returns true and each argument reads as it did.
-/
import Derived.Test.YtiklhaajhdephaaDoorGG
import Derived.Test.YtiklhaajhdephaaDoorGO
import Derived.Test.YtiklhaajhdephaaDoorGR
import Derived.WalkKit
import Derived.ProofKit
import Derived.OpenShut
import Derived.ShutString
import Derived.ChangeOld
import Derived.Below
import Derived.Test.YtiklhaajhdephaaDoorTie
import Derived.Test.YtiklhaajhdephaaDoorCards
import Derived.LaidMore
import Derived.Lay
import Derived.SevenTiedAt
import Derived.Stop.Joined
import Derived.MakeChecks

/-
  WithSpare and Overwrite at addresses, with what lies behind the slice.
-/
namespace Go.Proofs.YtiklhaajhdephaaDoor
open Go.RowKit
set_option linter.unusedVariables false
set_option linter.unusedSimpArgs false

set_option maxRecDepth 100000 in
set_option maxHeartbeats 1000000 in
theorem spare2_any (v : Value) (b : Nat) (xs : List (List Value)) (f : List Value) (w : World) (hl : xs.length ≤ 100) (hv : Rd w 17 b v xs) (hxs : ∀ x ∈ xs, IsAd x) (hf : IsAd f) :
    Calls Tryd.prog 33 #[v, .agg f.toArray] w fun e w' => ∃ g, e = .returned (.slice (some ⟨g, 0, none⟩) xs.length (xs.length + 3)) ∧ w.heap.size ≤ g ∧
      Rd w' 17 g (.slice (some ⟨g, 0, none⟩) (xs.length + 3) (xs.length + 3)) (xs ++ [f, f, f]) ∧ (∃ cur : List Value, w'.heap[g]? = some (.cells cur.toArray 28 (0, 0)) ∧ (xs.length + 3) * 17 ≤ cur.length) ∧ Touch [] w w' := by
  obtain ⟨i31, hi31, hz31, hs31, hb31⟩ := info_parts info28
  obtain ⟨a, cap, rfl, hlc, hcm⟩ := hv.form
  have hcm2 : cap ≤ 9223372036854775807 := by unfold maxLen at hcm; omega
  obtain ⟨hn1, hn2⟩ := (((hv.touch ((Touch.refl [] w).alloc (.cells f.toArray 28)) (by simp)).touch ((Touch.refl [] (w.alloc (.cells f.toArray 28))).alloc (.cells #[] 28)) (by simp))).news (by omega) (ads_len hxs)
  have HL := Lib.hid hf.len
  have HX := Lib.hid (flat_len (ads_len hxs))
  have hr := World.rangeAt_alloc (range_new w f 28) (.cells #[] 28)
  have hown0 := World.ownsRow_made (base := 0) (e := 28) (size := 17) (w.alloc (.cells f.toArray 28)) #[] 0 (Nat.zero_le _) (by simp [maxLen]) (by simp)
  simp only [World.size_alloc] at hown0
  have hall : ∀ x ∈ xs ++ [f, f, f], IsAd x := by
    intro x hx
    simp only [List.mem_append, List.mem_cons, List.not_mem_nil, or_false] at hx
    rcases hx with h | rfl | rfl | rfl
    · exact hxs x h
    all_goals assumption
  go_enter Tryd.func33, Tryd.ntmps33
  go_wp2_with (first
    | (refine wpList_buildSlice_rows rfl 22 0 _ rfl 28 17 i31 _ Tryd.underlying22 hi31 hz31 hs31 (by omega) [] rfl (by simp) (by omega) (by rfl) ?_)
    | (at_builtin; refine wpList_app _ (by rfl) _ _ 22 (by rfl) 28 i31 _ 17 17 Tryd.underlying22 hi31 hz31 hs31 hb31 rfl (by omega) _ 0 _ (by rfl) hown0 a xs.length cap xs.flatten (by rfl) (by rw [HX.out]) hn1 hn2 (ads_one hxs) (by unfold maxLen; omega) (by omega) ?_))
  intro v1 w1 o1 t1 hv1
  try simp only [Nat.zero_add, List.nil_append] at o1
  have tA : Touch [] w w1 := (((Touch.refl [] w).alloc (.cells f.toArray 28)).alloc (.cells #[] 28)).trans t1 (by simp [Value.ownBlock])
  have ho1 : Own w w1 v1 xs := by
    refine ⟨o1, fun g hg => ?_⟩
    rcases hv1 with e | e
    · rw [e] at hg; simp [Value.ownBlock] at hg; omega
    · rw [e] at hg; simp at hg; omega
  have hr1 := t1.range hr (by simp [Value.ownBlock])
  clear o1 t1 hv1 hn1 hn2 hv hown0 hr
  have ho1r := (ho1.touch ((Touch.refl [] w1).alloc (.cells [f, f, f].flatten.toArray 28)) (by simp)).row
  go_wp2_with (first
    | (refine wpList_load_mid rfl 28 _ rfl w.heap.size 0 rfl f _ hr1 Tryd.underlying28 rfl (by rw [size31, HL.out]) ?_)
    | (refine wpList_buildSlice_rows rfl 22 3 _ rfl 28 17 i31 _ Tryd.underlying22 hi31 hz31 hs31 (by omega) [f, f, f] rfl (by simp [HL.out]) (by omega) (by rfl) ?_)
    | (at_builtin; refine wpList_app _ (by rfl) _ _ 22 (by rfl) 28 i31 _ 17 17 Tryd.underlying22 hi31 hz31 hs31 hb31 rfl (by omega) v1 xs.length _ (by rfl) ho1r (some ⟨w1.heap.size, 0, none⟩) 3 3 [f, f, f].flatten (by rfl) (by simp [HL.out]) (by simp) (by intro ad h j u hu; cases h; rw [Addr.add_lit]; exact range_new w1 _ 28 j u hu) (ads_one (by intro x hx; simp only [List.mem_cons, List.not_mem_nil, or_false] at hx; rcases hx with rfl | rfl | rfl <;> exact hf)) (by unfold maxLen; omega) (by omega) ?_))
  intro v2 w2 o2 t2 hv2
  have e3 : f ++ (f ++ f) = [f, f, f].flatten := by simp
  rw [e3] at o2 t2
  have tB := (Touch.refl [] w1).alloc (.cells [f, f, f].flatten.toArray 28)
  have z1 := tA.size
  have ho2 : Own w w2 v2 (xs ++ [f, f, f]) := by
    refine ⟨by rw [List.flatten_append, List.length_append]; exact o2, fun g hg => ?_⟩
    rcases hv2 with e | e
    · rw [e] at hg; exact ho1.new g hg
    · rw [e] at hg; simp at hg; omega
  have tC : Touch [] w w2 := (tA.trans tB (by simp)).trans t2 (fun g hg => .inr (ho1.new g (by simpa using hg)))
  obtain ⟨a2, c2, rfl, hc1, hc2, _⟩ := owns_form o2
  have hc3 : c2 ≤ 9223372036854775807 := by unfold maxLen at hc2; omega
  obtain ⟨g, rfl, hg, hd⟩ := (show Own w w2 (.slice a2 (xs ++ [f, f, f]).length c2) (xs ++ [f, f, f]) by simpa using ho2).rdg hall (by simp)
  have hd2 : Rd w2 17 g (.slice (some ⟨g, 0, none⟩) (xs.length + 3) (xs.length + 3)) (xs ++ [f, f, f]) := by
    obtain ⟨off, h1, h2⟩ := hd.at (by simp)
    simp at h1
    obtain rfl := h1
    exact ⟨some ⟨g, 0, none⟩, xs.length + 3, by simp, by simp, by unfold maxLen; omega, by simp, fun _ => ⟨0, rfl, h2⟩⟩
  have hcur : ∃ cur : List Value, w2.heap[g]? = some (.cells cur.toArray 28 (0, 0)) ∧ (xs.length + 3) * 17 ≤ cur.length := by
    rcases ho2.row.2 with ⟨h1, _⟩ | ⟨g', cap, cur, h1, _, h2, h3, h4, h5, h6⟩
    · simp at h1
    · simp at h1
      obtain ⟨rfl, rfl⟩ := h1
      refine ⟨cur.toList, by simpa using h2, ?_⟩
      simp at h3 h5 ⊢
      omega
  clear hd ho2 o2 t2 ho1 ho1r hv2 hr1
  go_wp2_with fail
  go_ret
  exact ⟨g, rfl, hg, hd2, hcur, tC⟩

set_option maxRecDepth 100000 in
set_option maxHeartbeats 1000000 in
theorem over_raw (g n c : Nat) (cur0 : List Value) (w : World) (hg0 : w.heap[g]? = some (.cells cur0.toArray 28 (0, 0))) (hc0 : n * 17 ≤ cur0.length) (hl : n ≤ 100) (hnc : n ≤ c) (hcc : c ≤ 1000000) :
    Calls Tryd.prog 35 #[.slice (some ⟨g, 0, none⟩) n c] w fun e w' => e = .returned (.tuple #[]) ∧ Touch [g] w w' := by
  have hgw := (Array.getElem?_eq_some_iff.1 hg0).1
  go_enter Tryd.func35, Tryd.ntmps35
  go_wp2_with fail
  go_loopw [3] (fun vi wr => ∃ (k : Nat), k ≤ n ∧ vi = .int .i64 k ∧ Touch [g] w wr ∧ w.heap.size < wr.heap.size ∧ wr.rangeAt w.heap.size 0 (adr false [0, 0, 0, 0, 0, 0, 0, 0, 0, 0, 0, 0, 0, 0, 0, 0]) ∧
      (∃ cur : List Value, wr.heap[g]? = some (.cells cur.toArray 28 (0, 0)) ∧ n * 17 ≤ cur.length))
    (fun vi _ => n - (intOf vi).toNat)
  case atStart => exact ⟨0, by omega, rfl, (Touch.refl _ _).alloc _, by simp, range_new w (adr false [0, 0, 0, 0, 0, 0, 0, 0, 0, 0, 0, 0, 0, 0, 0, 0]) 28, cur0, by rw [Below.heap_alloc _ _ _ hgw, hg0], hc0⟩
  case round =>
    obtain ⟨k, hk, rfl, ht, hz, hrz, cur, hg, hcl⟩ := hrel
    by_cases hlt : k < n
    · have hz17 := adr_one false [0, 0, 0, 0, 0, 0, 0, 0, 0, 0, 0, 0, 0, 0, 0, 0]
      have hzl : (adr false [0, 0, 0, 0, 0, 0, 0, 0, 0, 0, 0, 0, 0, 0, 0, 0]).length = 17 := rfl
      generalize adr false [0, 0, 0, 0, 0, 0, 0, 0, 0, 0, 0, 0, 0, 0, 0, 0] = z at *
      have HZ := Lib.hid hzl
      clear hzl
      have hbd : k * 17 + 17 ≤ cur.length := by omega
      go_wp2_with (first
        | (refine wpList_load_mid rfl 28 _ rfl w.heap.size 0 rfl z _ hrz Tryd.underlying28 rfl (by rw [size31, HZ.out]) ?_)
        | (refine wpList_store_part rfl 28 _ _ rfl g (k * 17) 28 cur z rfl rfl hg (by rw [HZ.out]; exact hbd) (by rw [size31, HZ.out]) hz17 ?_))
      intro w2 hg2 t2 s2
      have HZ2 := HZ.out
      have hn : w.heap.size ∉ [g] := by simp; omega
      have rel2 : Touch [g] w w2 := ht.trans t2 (fun x hx => .inl hx)
      have rz2 := t2.range hrz hn
      go_wp2_with fail
      go_roundw
      case rel =>
        refine ⟨k + 1, by omega, by go_num, rel2, by omega, rz2, _, hg2, ?_⟩
        simp [HZ2]
        omega
      case measure => simp [intOf]; omega
    · go_wp2_with fail
      go_end0
      exact ⟨rfl, ht⟩
end Go.Proofs.YtiklhaajhdephaaDoor

/-
  The walk of CandidatesMatchModel, under way: up to the loop.
-/
namespace Go.Proofs.YtiklhaajhdephaaDoor.candidatesMatchModel
open Go.RowKit Go.Deep
set_option linter.unusedVariables false
set_option linter.unusedSimpArgs false

theorem exec_neq_agg {P : Program} {a : Act} {w : World} (op : Oper) (t t' : TypeId) (x y : Operand) (ho : op.op = .binOp .neq t x y t')
    (xs ys : Array Value) (hx : a.eval x = .agg xs) (hy : a.eval y = .agg ys) (hm : P.eqGuardType P.depth t = false) (r : Bool) (hr : (Op.equalIn 10000 t (.agg xs) (.agg ys)).run P w = .ok r w) : (execOp a.eval op).run P w = .ok (.value (.bool (!r))) w := by
  have hb : (binOp .neq t (.agg xs) (.agg ys)).run P w = .ok (.bool (!r)) w := by rw [run_neq_struct, hr]; rfl
  unfold execOp
  simp only [ho, hx, hy, Sem.run_bind, run_eqGuard_agg w _ _ _ _ _ _ hm, Result.andThen_ok, hb, Sem.run_pure]
theorem exec_built {a : Act} {w : World} (op : Oper) (t : TypeId) (parts : Array (Nat × Operand)) (ho : op.op = .build t parts)
    (vals : List (Nat × Value)) (cells : Array Value) (hv : (parts.toList.map fun p => (p.1, a.eval p.2)) = vals) (hb : Tryd.prog.built t vals = some cells) : (execOp a.eval op).run Tryd.prog w = .ok (.value (.agg cells)) w := by
  have hr := run_build (P := Tryd.prog) w t (parts.map fun (i, x) => (i, a.eval x)) cells (by rw [Array.toList_map, ← hb, ← hv])
  unfold execOp
  simp only [ho, Sem.run_bind, hr, Result.andThen_ok, Sem.run_pure]
/-- The operations, as the law's slice holds them: kind and addresses of each. -/
def Ops (w : World) (a : Option Addr) (n : Nat) : Prop :=
  ∀ i, i < n → ∃ b o kd v bl xs, a = some ⟨b, o, none⟩ ∧ w.cell? ⟨b, o + i * 2, none⟩ = some (.int .i64 kd) ∧ w.cell? ⟨b, o + i * 2 + 1, none⟩ = some v ∧ Rd w 17 bl v xs ∧ ∀ x ∈ xs, IsAd x
set_option maxRecDepth 100000 in
set_option maxHeartbeats 8000000 in
theorem walk0 (first : Int) (a : Option Addr) (n cap : Nat) (w : World) (hn : n ≤ cap ∧ cap ≤ maxLen) (ho : Ops w a n) :
    Calls Tryd.prog 5 #[.int .i64 first, .slice a n cap] w fun e w' => e = .returned (.bool true) ∧ Touch [] w w' := by
  have HO := Lib.hid ho
  clear ho
  go_enter Tryd.func5, Tryd.ntmps5
  go_wp2_with fail
  refine (mod_any first 5 w (by decide) (by decide)).mono ?_
  rintro e _ ⟨rfl, rfl⟩
  go_wp2_with fail
  refine (mod_any first 7 w (by decide) (by decide)).mono ?_
  rintro e _ ⟨rfl, rfl⟩
  cases h6 : (gmod first 7 == 6)
  all_goals
    go_wp2_with fail
    first
      | (have hx : (gmod first 7 == 6) = true := h6; clear hx h6; generalize first = k at *)
      | (clear h6; generalize gmod first 5 = k at *)
    refine (qnew_any k w).mono ?_
    rintro e w1 ⟨rfl, q1, t1⟩
    obtain ⟨h1, hh1⟩ : ∃ h1, h1 = w.heap.size := ⟨_, rfl⟩
    rw [← hh1] at q1 ⊢
    have HQ1 := Lib.hid q1
    have HT1 := Lib.hid t1
    have hlt1 : h1 < w1.heap.size := (Array.getElem?_eq_some_iff.1 q1.cell).1
    have HR2 := Lib.hid (heap_alloc_new w1 (.cells #[.int .i64 k, .slice none 0 0, .slice none 0 0] 40))
    have HT2 := Lib.hid ((Touch.refl [] w1).alloc (.cells #[.int .i64 k, .slice none 0 0, .slice none 0 0] 40))
    clear q1 t1
    go_wp2_with fail
    obtain ⟨h2, hh2⟩ : ∃ h2, h2 = w1.heap.size := ⟨_, rfl⟩
    go_loopw [8, 9, 10, 11, 12, 13, 14, 15, 16, 17] (fun v8 v9 v10 v11 v12 v13 v14 v15 v16 v17 wr => ∃ (i : Nat) (A : List Ad) (K : List Nat) (va vt ra rt : Value), i ≤ n ∧ i ≤ 30 ∧ v8 = .int .i64 i ∧ Qu w wr h1 va vt k A K ∧ Rqu w wr h2 ra rt k A (tknP A K) ∧ Inv A K ∧ Sep (qfoot h1 va vt) (qfoot h2 ra rt) ∧ A.length ≤ i * 8 ∧ K.length ≤ i ∧ Touch [] w wr) (fun v8 _ _ _ _ _ _ _ _ _ _ => 30 - (intOf v8).toNat)
    case atStart =>
      refine ⟨0, [], [], .slice none 0 0, .slice none 0 0, .slice none 0 0, .slice none 0 0, by omega, by omega, rfl, HQ1.out.touch HT2.out (by simp), ⟨by rw [hh2]; exact HR2.out, by rw [hh2]; exact HT1.out.size, Own.nil _ _, Own.nil _ _, by simp [Value.ownBlock], by simp [Value.ownBlock], by simp [Value.ownBlock]⟩, Inv.nil, ?_, by simp, by simp, HT1.out.trans HT2.out (by simp)⟩
      intro g hg hm
      simp [qfoot, Value.ownBlock] at hg hm
      omega
    case round =>
      obtain ⟨i, A, KL, va, vt, ra, rt, hin, hi30, rfl, hq, hr, hi, hs, hA, hK, ht⟩ := hrel
      have HQ := Lib.hid hq
      have HR := Lib.hid hr
      have HI := Lib.hid hi
      have HS := Lib.hid hs
      have HT := Lib.hid ht
      clear hq hr hi hs ht HQ1 HT1 HR2 HT2
      have hwi : IntKind.i64.wrap ((i : Int) + 1) = (i : Int) + 1 := by rw [IntKind.wrap_i64] <;> omega
      rw [← hh1, ← hh2]
      clear hh1 hh2
      by_cases hlt : i < n
      · by_cases h30 : i < 30
        · obtain ⟨b, o, kd, v, bl, xs, rfl, hkd, hv, hrd, hx⟩ := HO.out i hlt
          have e1 := HT.out.cell hkd (by simp)
          have e2 := HT.out.cell hv (by simp)
          have HRD := Lib.hid (hrd.touch HT.out (by simp))
          have hin2 : (i : Int) < (n : Int) := by omega
          have hin3 : (i : Int) < 30 := by omega
          clear hkd hv hrd
          go_wp2_with fail
          refine (mod_any kd 6 wr (by decide) (by decide)).mono ?_
          rintro e _ ⟨rfl, rfl⟩
          by_cases hm : gmod kd 6 < 3
          · have HSA := Lib.hid (someAddrs_any v bl 8 xs wr (by omega) HRD.out hx)
            go_wp2_with fail
            refine HSA.out.mono ?_
            rintro e w3 ⟨vx, ys, rfl, hys, hyl, ox, t3⟩
            obtain ⟨Y, rfl⟩ := ads_of hys
            have hY8 : Y.length ≤ 8 := by simpa using hyl
            obtain ⟨bx, hrx, hbx⟩ := OwnA.rdn (show OwnA wr w3 vx Y from ox)
            have HQ3 := Lib.hid (HQ.out.touch t3 (by simp))
            have HR3 := Lib.hid (HR.out.touch t3 (by simp))
            have HT3 := Lib.hid (HT.out.trans t3 (by simp))
            have HRX := Lib.hid hrx
            have HBX := Lib.hid (show Y ≠ [] → wr.heap.size ≤ bx from fun hne => ox.new bx (hbx hne))
            have HAQ := Lib.hid (qadd_any w w3 h1 va vt k A KL HQ3.out HT3.out.size vx bx Y hrx (fun hne hm => by have := ox.new bx (hbx hne); have := (HQ.out.lt bx hm).2; omega) (by omega))
            have z3 := t3.size
            clear hys hyl ox t3 hrx hbx HSA HRD
            go_wp2_with fail
            refine HAQ.out.mono ?_
            rintro e w4 ⟨va2, rfl, q4, t4, hv4⟩
            have HQ4 := Lib.hid q4
            have HS4 := Lib.hid (show Sep (qfoot h1 va2 vt) (qfoot h2 ra rt) from HS.out.grow (n := wr.heap.size) (fun g hg => (HR.out.lt g hg).2) (fun g hg => by rcases foot_new_add hv4 g hg with e | e; exact .inl e; exact .inr (by omega)))
            have HR4 := Lib.hid (HR3.out.touch t4 (fun g hg hm => HS.out g (foot_add h1 _ _ g hm) hg))
            have HRX4 := Lib.hid (HRX.out.far t4 (fun hne hm => by have := HBX.out (by simpa using hne); have := (HQ.out.lt bx (foot_add h1 _ _ bx hm)).2; omega))
            have HT4 := Lib.hid (HQ3.out.out HT3.out t4 (foot_add h1 _ _))
            have HAR := Lib.hid (radd_any w w4 h2 ra rt k A (tknP A KL) HR4.out HT4.out.size vx bx Y HRX4.out (fun hne hm => by have := HBX.out hne; have := (HR.out.lt bx hm).2; omega) (by omega))
            have HTA := Lib.hid (tknP_add HI.out.bound Y)
            have HI4 := Lib.hid (HI.out.add Y)
            have hA4 := (addL_len A Y).2
            have z4 := t4.size
            clear q4 t4 hv4 HAQ HQ3 HR3 HT3 HRX
            go_wp2_with fail
            refine HAR.out.mono ?_
            rintro e w5 ⟨ra2, rfl, r5, t5, hv5⟩
            have HR5 := Lib.hid (show Rqu w w5 h2 ra2 rt k (addL A Y) (tknP (addL A Y) KL) by rw [HTA.out]; exact r5)
            have HQ5 := Lib.hid (HQ4.out.touch t5 (fun g hg hm => HS4.out g hg (foot_add h2 _ _ g hm)))
            have HS5 := Lib.hid ((Sep.grow (HS4.out.symm) (n := w4.heap.size) (fun g hg => (HQ4.out.lt g hg).2) (fun g hg => foot_new_add hv5 g hg)).symm)
            have HT5 := Lib.hid (HT4.out.trans t5 (fun g hg => .inr ((HR4.out.lt g (foot_add h2 _ _ g hg)).1)))
            have HL5 := Lib.hid (show (addL A Y).length ≤ (i + 1) * 8 by omega)
            have HKN := Lib.hid (show KL.length ≤ i + 1 by omega)
            have HI5 := Lib.hid HI4.out
            have HPK := Lib.hid (qpeek_any w w5 h1 va2 vt k (addL A Y) KL HQ5.out (by have := HL5.out; omega))
            clear r5 t5 hv5 HAR HQ4 HR4 HS4 HRX4 HT4 HTA
            go_wp2_with fail
            refine HPK.out.mono ?_
            rintro e x1 ⟨rfl, t1⟩
            have FQ1 := Lib.hid (HQ5.out.touch t1 (by simp))
            have FR1 := Lib.hid (HR5.out.touch t1 (by simp))
            have FT1 := Lib.hid (HT5.out.trans t1 (by simp))
            obtain ⟨hd, hhd⟩ : ∃ hd, hd = headA (remP k (addL A Y) KL) := ⟨_, rfl⟩
            rw [← hhd]
            have HHD0 := Lib.hid hhd
            have HHL := Lib.hid hd.len
            have HHO := Lib.hid hd.one
            have FN := Lib.hid (heap_alloc_new x1 (.cells (adr false (List.replicate 16 0)).toArray 28))
            have FA := Lib.hid ((Touch.refl [] x1).alloc (.cells (adr false (List.replicate 16 0)).toArray 28))
            clear t1 hhd HPK HQ5 HR5 HT5
            go_wp2_with ((with_reducible refine at_store 28 ?_); refine wpList_store_into rfl 28 _ _ rfl x1.heap.size 28 _ hd.cells rfl rfl FN.out (by rw [HHL.out]; rfl) (by rw [size31, HHL.out]) HHO.out ?_)
            intro x2 y2 s2 z2
            have s2' := FA.out.trans s2 (by intro y hy; right; simp at hy; omega)
            have FQ2 := Lib.hid (FQ1.out.touch s2' (by simp))
            have FR2 := Lib.hid (FR1.out.touch s2' (by simp))
            have FT2 := Lib.hid (FT1.out.trans s2' (by simp))
            have FB2 := Lib.hid (range_block y2)
            generalize x1.heap.size = g15 at *
            have FRR := Lib.hid (rrem_any w x2 h2 ra2 rt k (addL A Y) (tknP (addL A Y) KL) FR2.out (by have := HL5.out; omega) (by rw [tknP_len HI5.out.bound]; have := HKN.out; omega))
            rw [remR_eq HI5.out] at FRR
            clear y2 s2 z2 s2' FN FA FQ1 FR1 FT1
            go_wp2_with fail
            refine FRR.out.mono ?_
            rintro e x3 ⟨vR, rfl, oR, t3⟩
            have FQ3 := Lib.hid (FQ2.out.touch t3 (by simp))
            have FR3 := Lib.hid (FR2.out.touch t3 (by simp))
            have FT3 := Lib.hid (FT2.out.trans t3 (by simp))
            have FB3 := Lib.hid (t3.range FB2.out (by simp))
            generalize hRR : remP k (addL A Y) KL = R at *
            have HRR := Lib.hid hRR
            clear hRR t3 FRR FQ2 FR2 FT2 FB2
            cases R with
            | nil =>
              obtain ⟨aR, cR, rfl, _, _, _⟩ := (show OwnA x2 x3 vR [] from oR).form
              have FOR := Lib.hid oR
              have HHD := Lib.hid (show hd = zAd from HHD0.out)
              clear oR HHD0
              simp only [List.length_nil, List.isEmpty_nil, Bool.not_true] at *
              go_wp2_with fail
              refine wp_region_held (S := Touch [] x3.drew) (by kernel_rfl) ?_
              change wpAnyH _ _ _ _ _ _ _ _ x3.drew
              have tD := (Touch.refl [] x3).drew
              have HQW := Lib.hid (FQ3.out.touch tD (by simp))
              have HRW := Lib.hid (FR3.out.touch tD (by simp))
              have HTW := Lib.hid (FT3.out.trans tD (by simp))
              have HBW := Lib.hid (tD.range FB3.out (by simp))
              have HOW := Lib.hid (Own.touch FOR.out tD (by simp))
              obtain ⟨bR, rvR, _⟩ := (show OwnA x2 x3.drew _ _ from HOW.out).rd
              obtain ⟨bT, rvT, _⟩ := HRW.out.take.rd
              obtain ⟨aT, cT, hvT, _, _, _⟩ := HRW.out.take.form
              have e2 := HRW.out.cells.2.2
              rw [hvT] at e2 rvT
              generalize (tknP (addL A Y) KL).length = kT at *
              generalize x3.drew = W at *
              clear hvT tD FQ3 FR3 FT3 FB3 FOR
              have hS := Touch.refl [] W
              refine tkH 0 (.bool true) rfl ?_
              try simp only [Act.put, sT, s0, sS]
              refine tkH 1 (.bool false) rfl ?_
              try simp only [Act.put, sT, s0, sS]
              refine tkH 2 (.bool false) rfl ?_
              try simp only [Act.put, sT, s0, sS]
              refine tkH 3 (.bool false) rfl ?_
              try simp only [Act.put, sT, s0, sS]
              refine tkH 4 (.slice aR 0 cR) rfl ?_
              try simp only [Act.put, sT, s0, sS]
              refine tkH 5 (.int .i64 0) rfl ?_
              try simp only [Act.put, sT, s0, sS]
              refine tkH 6 (.bool false) rfl ?_
              try simp only [Act.put, sT, s0, sS]
              refine tkH 7 (.bool false) rfl ?_
              try simp only [Act.put, sT, s0, sS]
              refine tkH 8 (.bool false) rfl ?_
              try simp only [Act.put, sT, s0, sS]
              refine tkH 9 (.bool false) rfl ?_
              try simp only [Act.put, sT, s0, sS]
              refine tkH 10 (.bool false) rfl ?_
              try simp only [Act.put, sT, s0, sS]
              refine tkH 11 (.bool false) rfl ?_
              try simp only [Act.put, sT, s0, sS]
              refine tkN 12 undef rfl ?_
              try simp only [Act.put, sT, s0, sS]
              refine tkN 13 undef rfl ?_
              try simp only [Act.put, sT, s0, sS]
              refine tkN 14 undef rfl ?_
              try simp only [Act.put, sT, s0, sS]
              refine tkN 15 undef rfl ?_
              try simp only [Act.put, sT, s0, sS]
              refine tkN 16 undef rfl ?_
              try simp only [Act.put, sT, s0, sS]
              refine tkH 17 (.bool false) rfl ?_
              try simp only [Act.put, sT, s0, sS]
              refine tkH 18 (.bool false) rfl ?_
              try simp only [Act.put, sT, s0, sS]
              refine tkH 19 (.bool false) rfl ?_
              try simp only [Act.put, sT, s0, sS]
              refine tkH 20 (.bool false) rfl ?_
              try simp only [Act.put, sT, s0, sS]
              refine tkH 21 (.bool true) rfl ?_
              try simp only [Act.put, sT, s0, sS]
              refine tkH 22 (.bool true) rfl ?_
              try simp only [Act.put, sT, s0, sS]
              refine tkH 23 (.agg hd.cells.toArray) rfl ?_ (hy := Or.inl ⟨by rfl, fun w' hw => exec_load_agg _ 28 _ rfl _ _ rfl hd.cells _ (hw.range HBW.out (by simp)) Tryd.underlying28 rfl (by rw [size31, HHL.out])⟩)
              try simp only [Act.put, sT, s0, sS]
              refine tkH 24 (.agg zAd.cells.toArray) rfl ?_ (hy := Or.inl ⟨by rfl, fun w' hw => exec_built _ 28 _ rfl [] _ rfl built_zAd⟩)
              try simp only [Act.put, sT, s0, sS]
              refine tkH 25 (.bool false) rfl ?_ (hy := Or.inl ⟨by rfl, fun w' hw => exec_neq_agg _ 28 _ _ _ rfl hd.cells.toArray zAd.cells.toArray rfl rfl (by kernel_rfl) true (eq_ad_t hd zAd HHD.out w')⟩)
              try simp only [Act.put, sT, s0, sS]
              refine tkH 26 (.bool false) rfl ?_
              try simp only [Act.put, sT, s0, sS]
              refine tkH 27 (.bool false) rfl ?_
              try simp only [Act.put, sT, s0, sS]
              refine tkH 28 (.bool false) rfl ?_
              try simp only [Act.put, sT, s0, sS]
              refine tkH 29 (.pointer (some ⟨h1, 0, none⟩)) rfl ?_
              try simp only [Act.put, sT, s0, sS]
              refine tkH 31 (.slice aR 0 cR) rfl ?_
              try simp only [Act.put, sT, s0, sS]
              refine wpAnyH_ready (rs := [30]) (by kernel_rfl) (by simp) ?_
              refine cnH rfl (fun K hK => ?_) AllReadyH.nil
              go_simp
              refine (qrem_any w _ h1 va2 vt k (addL A Y) KL (HQW.out.touch hS (by simp)) (by have := HL5.out; omega)).mono ?_
              rintro e u30 ⟨v30, rfl, o30, t30⟩
              have rvR := rvR.touch t30 (by simp)
              have rvT := rvT.touch t30 (by simp)
              rw [HRR.out] at o30
              obtain ⟨b30, rv30, _⟩ := o30.rd
              clear o30
              have hS2 := hS.trans t30 (by simp)
              refine hK.out _ _ hS2 (fun _ => ?_)
              clear hK K hS t30
              have hS := hS2
              clear hS2
              try simp only [Act.put, sT, s0, sS]
              refine wpAnyH_ready (rs := [32]) (by kernel_rfl) (by simp) ?_
              refine cnH rfl (fun K hK => ?_) AllReadyH.nil
              go_simp
              refine (equalTQ _ _ _ _ [] _ rv30 rvR).mono ?_
              rintro e u32 ⟨rfl, t32⟩
              have rvT := rvT.touch t32 (by simp)
              clear rv30 rvR
              have hS2 := hS.trans t32 (by simp)
              refine hK.out _ _ hS2 (fun _ => ?_)
              clear hK K hS t32
              have hS := hS2
              clear hS2
              try simp only [Act.put, sT, s0, sS]
              refine tkH 33 (.bool false) rfl ?_
              try simp only [Act.put, sT, s0, sS]
              refine tkH 34 (.bool false) rfl ?_
              try simp only [Act.put, sT, s0, sS]
              refine tkH 35 (.bool false) rfl ?_
              try simp only [Act.put, sT, s0, sS]
              refine tkH 36 (.pointer (some ⟨h1, 0, none⟩)) rfl ?_
              try simp only [Act.put, sT, s0, sS]
              refine tkH 38 (.pointer (some ⟨h2, 0, none⟩)) rfl ?_
              try simp only [Act.put, sT, s0, sS]
              refine tkH 39 (.pointer (some ⟨h2, 0, none⟩)) rfl ?_
              try simp only [Act.put, sT, s0, sS]
              refine tkH 40 (.pointer (some ⟨h2, 2, none⟩)) rfl ?_
              try simp only [Act.put, sT, s0, sS]
              refine tkH 41 (.slice aT kT cT) rfl ?_ (hy := Or.inl ⟨by rfl, fun w' hw => by (have q := hw.cell e2 (by simp); go_simp)⟩)
              try simp only [Act.put, sT, s0, sS]
              refine wpAnyH_ready (rs := [37]) (by kernel_rfl) (by simp) ?_
              refine cnH rfl (fun K hK => ?_) AllReadyH.nil
              go_simp
              refine (qtaken_any w _ h1 va2 vt k (addL A Y) KL (HQW.out.touch hS (by simp)) (by have := HKN.out; omega)).mono ?_
              rintro e u37 ⟨v37, rfl, o37, t37⟩
              have rvT := rvT.touch t37 (by simp)
              obtain ⟨b37, rv37, _⟩ := o37.rd
              clear o37
              have hS2 := hS.trans t37 (by simp)
              refine hK.out _ _ hS2 (fun _ => ?_)
              clear hK K hS t37
              have hS := hS2
              clear hS2
              try simp only [Act.put, sT, s0, sS]
              refine wpAnyH_ready (rs := [42]) (by kernel_rfl) (by simp) ?_
              refine cnH rfl (fun K hK => ?_) AllReadyH.nil
              go_simp
              refine (equalTQ _ _ _ _ (tknP (addL A Y) KL) _ rv37 rvT).mono ?_
              rintro e u42 ⟨rfl, t42⟩
              clear rv37 rvT
              have hS2 := hS.trans t42 (by simp)
              refine hK.out _ _ hS2 (fun _ => ?_)
              clear hK K hS t42
              have hS := hS2
              clear hS2
              try simp only [Act.put, sT, s0, sS]
              refine tkH 43 (.bool false) rfl ?_
              try simp only [Act.put, sT, s0, sS]
              refine tkH 44 (.bool false) rfl ?_
              try simp only [Act.put, sT, s0, sS]
              refine wpAnyH_done (by kernel_rfl) ?_ _
              try simp only [Act.put, sT, s0, sS]
              have HTZ := Lib.hid (HTW.out.trans hS (by simp))
              have HQZ := Lib.hid (HQW.out.touch hS (by simp))
              have HRZ := Lib.hid (HRW.out.touch hS (by simp))
              clear hS
              go_wp2_with fail
              go_roundw
              case rel => exact ⟨i + 1, (addL A Y), KL, va2, vt, ra2, rt, by omega, by omega, by go_num, HQZ.out, HRZ.out, HI5.out, HS5.out, HL5.out, HKN.out, HTZ.out⟩
              case measure => simp [intOf]; omega
            | cons a r =>
              obtain ⟨aR, cR, hvR, hlR, hcR, hatR⟩ := (show OwnA x2 x3 vR (a :: r) from oR).form
              obtain ⟨gR, rfl⟩ := hatR (by simp)
              obtain ⟨m, hm⟩ : ∃ m, m = (a :: r).length := ⟨_, rfl⟩
              have hm0 : 0 < m := by rw [hm]; simp
              have hm1 : (0 : Int) < (m : Int) := by omega
              rw [← hm] at hvR
              subst hvR
              have ra0 := own_at (l := a :: r) (i := 0) (a := a) (by have := (show OwnA x2 x3 _ (a :: r) from oR).row'; rw [← hm] at this; exact this) rfl
              simp only [Nat.zero_mul] at ra0
              have HLA := Lib.hid a.len
              have FOR := Lib.hid oR
              have HHD := Lib.hid (show hd = a from HHD0.out)
              clear oR HHD0 hm hlR hcR hatR
              simp only [List.isEmpty_cons, Bool.not_false] at *
              go_wp2_with fail
              refine wp_region_held (S := Touch [] x3.drew) (by kernel_rfl) ?_
              change wpAnyH _ _ _ _ _ _ _ _ x3.drew
              have tD := (Touch.refl [] x3).drew
              have HQW := Lib.hid (FQ3.out.touch tD (by simp))
              have HRW := Lib.hid (FR3.out.touch tD (by simp))
              have HTW := Lib.hid (FT3.out.trans tD (by simp))
              have HBW := Lib.hid (tD.range FB3.out (by simp))
              have HOW := Lib.hid (Own.touch FOR.out tD (by simp))
              obtain ⟨bR, rvR, _⟩ := (show OwnA x2 x3.drew _ _ from HOW.out).rd
              obtain ⟨bT, rvT, _⟩ := HRW.out.take.rd
              obtain ⟨aT, cT, hvT, _, _, _⟩ := HRW.out.take.form
              have e2 := HRW.out.cells.2.2
              rw [hvT] at e2 rvT
              generalize (tknP (addL A Y) KL).length = kT at *
              have hg0 := tD.range ra0 (by simp)
              generalize x3.drew = W at *
              clear hvT tD FQ3 FR3 FT3 FB3 FOR
              have hS := Touch.refl [] W
              refine tkH 0 (.bool true) rfl ?_
              try simp only [Act.put, sT, s0, sS]
              refine tkH 1 (.bool false) rfl ?_
              try simp only [Act.put, sT, s0, sS]
              refine tkH 2 (.bool false) rfl ?_
              try simp only [Act.put, sT, s0, sS]
              refine tkH 3 (.bool true) rfl ?_
              try simp only [Act.put, sT, s0, sS]
              refine tkH 4 (.slice (some ⟨gR, 0, none⟩) m cR) rfl ?_
              try simp only [Act.put, sT, s0, sS]
              refine tkH 5 (.int .i64 (m : Nat)) rfl ?_
              try simp only [Act.put, sT, s0, sS]
              refine tkH 6 (.bool true) rfl ?_ (hy := Or.inl ⟨by rfl, fun w' hw => by (have q := hm1; have q2 := hm0; go_simp)⟩)
              try simp only [Act.put, sT, s0, sS]
              refine tkH 7 (.bool false) rfl ?_
              try simp only [Act.put, sT, s0, sS]
              refine tkH 8 (.bool false) rfl ?_
              try simp only [Act.put, sT, s0, sS]
              refine tkH 9 (.bool false) rfl ?_
              try simp only [Act.put, sT, s0, sS]
              refine tkH 10 (.bool true) rfl ?_
              try simp only [Act.put, sT, s0, sS]
              refine tkH 11 (.bool true) rfl ?_
              try simp only [Act.put, sT, s0, sS]
              refine tkH 12 (.agg hd.cells.toArray) rfl ?_ (hy := Or.inl ⟨by rfl, fun w' hw => exec_load_agg _ 28 _ rfl _ _ rfl hd.cells _ (hw.range HBW.out (by simp)) Tryd.underlying28 rfl (by rw [size31, HHL.out])⟩)
              try simp only [Act.put, sT, s0, sS]
              refine tkH 13 (.slice (some ⟨gR, 0, none⟩) m cR) rfl ?_
              try simp only [Act.put, sT, s0, sS]
              refine tkH 14 (.pointer (some ⟨gR, 0, none⟩)) rfl ?_ (hy := Or.inl ⟨by rfl, fun w' hw => by (have q := hm1; have q2 := hm0; go_simp)⟩)
              try simp only [Act.put, sT, s0, sS]
              refine tkH 15 (.agg a.cells.toArray) rfl ?_ (hy := Or.inl ⟨by rfl, fun w' hw => exec_load_agg _ 28 _ rfl _ _ rfl a.cells _ (hw.range hg0 (by simp)) Tryd.underlying28 rfl (by rw [size31, HLA.out])⟩)
              try simp only [Act.put, sT, s0, sS]
              refine tkH 16 (.bool false) rfl ?_ (hy := Or.inl ⟨by rfl, fun w' hw => exec_neq_agg _ 28 _ _ _ rfl hd.cells.toArray a.cells.toArray rfl rfl (by kernel_rfl) true (eq_ad_t hd a HHD.out w')⟩)
              try simp only [Act.put, sT, s0, sS]
              refine tkH 17 (.bool false) rfl ?_
              try simp only [Act.put, sT, s0, sS]
              refine tkH 18 (.bool false) rfl ?_
              try simp only [Act.put, sT, s0, sS]
              refine tkH 19 (.bool false) rfl ?_
              try simp only [Act.put, sT, s0, sS]
              refine tkH 20 (.bool true) rfl ?_
              try simp only [Act.put, sT, s0, sS]
              refine tkH 21 (.bool false) rfl ?_
              try simp only [Act.put, sT, s0, sS]
              refine tkH 22 (.bool false) rfl ?_
              try simp only [Act.put, sT, s0, sS]
              refine tkN 23 undef rfl ?_
              try simp only [Act.put, sT, s0, sS]
              refine tkN 24 undef rfl ?_
              try simp only [Act.put, sT, s0, sS]
              refine tkN 25 undef rfl ?_
              try simp only [Act.put, sT, s0, sS]
              refine tkH 26 (.bool false) rfl ?_
              try simp only [Act.put, sT, s0, sS]
              refine tkH 27 (.bool false) rfl ?_
              try simp only [Act.put, sT, s0, sS]
              refine tkH 28 (.bool false) rfl ?_
              try simp only [Act.put, sT, s0, sS]
              refine tkH 29 (.pointer (some ⟨h1, 0, none⟩)) rfl ?_
              try simp only [Act.put, sT, s0, sS]
              refine tkH 31 (.slice (some ⟨gR, 0, none⟩) m cR) rfl ?_
              try simp only [Act.put, sT, s0, sS]
              refine wpAnyH_ready (rs := [30]) (by kernel_rfl) (by simp) ?_
              refine cnH rfl (fun K hK => ?_) AllReadyH.nil
              go_simp
              refine (qrem_any w _ h1 va2 vt k (addL A Y) KL (HQW.out.touch hS (by simp)) (by have := HL5.out; omega)).mono ?_
              rintro e u30 ⟨v30, rfl, o30, t30⟩
              have rvR := rvR.touch t30 (by simp)
              have rvT := rvT.touch t30 (by simp)
              rw [HRR.out] at o30
              obtain ⟨b30, rv30, _⟩ := o30.rd
              clear o30
              have hS2 := hS.trans t30 (by simp)
              refine hK.out _ _ hS2 (fun _ => ?_)
              clear hK K hS t30
              have hS := hS2
              clear hS2
              try simp only [Act.put, sT, s0, sS]
              refine wpAnyH_ready (rs := [32]) (by kernel_rfl) (by simp) ?_
              refine cnH rfl (fun K hK => ?_) AllReadyH.nil
              go_simp
              refine (equalTQ _ _ _ _ (a :: r) _ rv30 rvR).mono ?_
              rintro e u32 ⟨rfl, t32⟩
              have rvT := rvT.touch t32 (by simp)
              clear rv30 rvR
              have hS2 := hS.trans t32 (by simp)
              refine hK.out _ _ hS2 (fun _ => ?_)
              clear hK K hS t32
              have hS := hS2
              clear hS2
              try simp only [Act.put, sT, s0, sS]
              refine tkH 33 (.bool false) rfl ?_
              try simp only [Act.put, sT, s0, sS]
              refine tkH 34 (.bool false) rfl ?_
              try simp only [Act.put, sT, s0, sS]
              refine tkH 35 (.bool false) rfl ?_
              try simp only [Act.put, sT, s0, sS]
              refine tkH 36 (.pointer (some ⟨h1, 0, none⟩)) rfl ?_
              try simp only [Act.put, sT, s0, sS]
              refine tkH 38 (.pointer (some ⟨h2, 0, none⟩)) rfl ?_
              try simp only [Act.put, sT, s0, sS]
              refine tkH 39 (.pointer (some ⟨h2, 0, none⟩)) rfl ?_
              try simp only [Act.put, sT, s0, sS]
              refine tkH 40 (.pointer (some ⟨h2, 2, none⟩)) rfl ?_
              try simp only [Act.put, sT, s0, sS]
              refine tkH 41 (.slice aT kT cT) rfl ?_ (hy := Or.inl ⟨by rfl, fun w' hw => by (have q := hw.cell e2 (by simp); go_simp)⟩)
              try simp only [Act.put, sT, s0, sS]
              refine wpAnyH_ready (rs := [37]) (by kernel_rfl) (by simp) ?_
              refine cnH rfl (fun K hK => ?_) AllReadyH.nil
              go_simp
              refine (qtaken_any w _ h1 va2 vt k (addL A Y) KL (HQW.out.touch hS (by simp)) (by have := HKN.out; omega)).mono ?_
              rintro e u37 ⟨v37, rfl, o37, t37⟩
              have rvT := rvT.touch t37 (by simp)
              obtain ⟨b37, rv37, _⟩ := o37.rd
              clear o37
              have hS2 := hS.trans t37 (by simp)
              refine hK.out _ _ hS2 (fun _ => ?_)
              clear hK K hS t37
              have hS := hS2
              clear hS2
              try simp only [Act.put, sT, s0, sS]
              refine wpAnyH_ready (rs := [42]) (by kernel_rfl) (by simp) ?_
              refine cnH rfl (fun K hK => ?_) AllReadyH.nil
              go_simp
              refine (equalTQ _ _ _ _ (tknP (addL A Y) KL) _ rv37 rvT).mono ?_
              rintro e u42 ⟨rfl, t42⟩
              clear rv37 rvT
              have hS2 := hS.trans t42 (by simp)
              refine hK.out _ _ hS2 (fun _ => ?_)
              clear hK K hS t42
              have hS := hS2
              clear hS2
              try simp only [Act.put, sT, s0, sS]
              refine tkH 43 (.bool false) rfl ?_
              try simp only [Act.put, sT, s0, sS]
              refine tkH 44 (.bool false) rfl ?_
              try simp only [Act.put, sT, s0, sS]
              refine wpAnyH_done (by kernel_rfl) ?_ _
              try simp only [Act.put, sT, s0, sS]
              have HTZ := Lib.hid (HTW.out.trans hS (by simp))
              have HQZ := Lib.hid (HQW.out.touch hS (by simp))
              have HRZ := Lib.hid (HRW.out.touch hS (by simp))
              clear hS
              go_wp2_with fail
              go_roundw
              case rel => exact ⟨i + 1, (addL A Y), KL, va2, vt, ra2, rt, by omega, by omega, by go_num, HQZ.out, HRZ.out, HI5.out, HS5.out, HL5.out, HKN.out, HTZ.out⟩
              case measure => simp [intOf]; omega
          · have HTQ := Lib.hid (qtake_any w wr h1 va vt k A KL HQ.out HT.out.size (by omega) (by omega))
            go_wp2_with fail
            refine HTQ.out.mono ?_
            rintro e w3 ⟨rfl, vt2, q3, t3, hv3⟩
            have HQ3 := Lib.hid q3
            have HS3 := Lib.hid (show Sep (qfoot h1 va vt2) (qfoot h2 ra rt) from HS.out.grow (n := wr.heap.size) (fun g hg => (HR.out.lt g hg).2) (fun g hg => foot_new_take hv3 g hg))
            have HR3 := Lib.hid (HR.out.touch t3 (fun g hg hm => HS.out g (foot_take h1 _ _ g hm) hg))
            have HT3 := Lib.hid (HQ.out.out HT.out t3 (foot_take h1 _ _))
            have HZL := Lib.hid (headA (remP k A KL)).len
            have HZO := Lib.hid (headA (remP k A KL)).one
            have HN3 := Lib.hid (heap_alloc_new w3 (.cells (adr false (List.replicate 16 0)).toArray 28))
            have HA3 := Lib.hid ((Touch.refl [] w3).alloc (.cells (adr false (List.replicate 16 0)).toArray 28))
            clear q3 t3 hv3 HTQ
            go_wp2_with ((with_reducible refine at_store 28 ?_); refine wpList_store_into rfl 28 _ _ rfl w3.heap.size 28 _ (headA (remP k A KL)).cells rfl rfl HN3.out (by rw [HZL.out]; rfl) (by rw [size31, HZL.out]) HZO.out ?_)
            intro w4 h4 t4 z4
            have tA := HA3.out.trans t4 (by intro y hy; right; simp at hy; omega)
            have HQ4 := Lib.hid (HQ3.out.touch tA (by simp))
            have HR4 := Lib.hid (HR3.out.touch tA (by simp))
            have HT4 := Lib.hid (HT3.out.trans tA (by simp))
            have HB4 := Lib.hid (range_block h4)
            obtain ⟨g4, hg4⟩ : ∃ g4, g4 = w3.heap.size := ⟨_, rfl⟩
            have HG4 := Lib.hid (show ∀ g ∈ qfoot h2 ra rt, g < g4 from fun g hg => by rw [hg4]; exact (HR3.out.lt g hg).2)
            rw [← hg4] at HB4 ⊢
            have hTl := Lib.hid (tknP_len HI.out.bound)
            have HTR := Lib.hid (rtake_any w w4 h2 ra rt k A (tknP A KL) HR4.out HT4.out.size (by omega) (by rw [hTl.out]; omega))
            rw [remR_eq HI.out] at HTR
            clear h4 t4 z4 tA HN3 HA3 HQ3 HR3 HT3 hg4
            go_wp2_with fail
            refine HTR.out.mono ?_
            rintro e w5 ⟨rfl, rt2, r5, t5, hv5⟩
            obtain ⟨K2, hK2⟩ : ∃ K2, K2 = if (remP k A KL).isEmpty = true then KL else takeK A KL (headA (remP k A KL)) := ⟨_, rfl⟩
            have hn2 : Inv A K2 ∧ tknP A K2 = (if (remP k A KL).isEmpty = true then tknP A KL else tknP A KL ++ [headA (remP k A KL)]) ∧ K2.length ≤ i + 1 := by
              rw [hK2]
              cases hr : remP k A KL with
              | nil => exact ⟨HI.out, rfl, by simp; omega⟩
              | cons a r =>
                obtain ⟨n1, n2, n3, n4, n5⟩ := HI.out.next hr
                simp only [List.isEmpty_cons, Bool.false_eq_true, if_false, headA]
                exact ⟨n3, n4, by omega⟩
            have HI5 := Lib.hid hn2.1
            have HKN := Lib.hid hn2.2.2
            have HR5 := Lib.hid (show Rqu w w5 h2 ra rt2 k A (tknP A K2) by rw [hn2.2.1]; exact r5)
            have HQ5 := Lib.hid (show Qu w w5 h1 va vt2 k A K2 by rw [hK2]; exact HQ4.out.touch t5 (fun g hg hm => HS3.out g hg (foot_take h2 _ _ g hm)))
            have HL5 := Lib.hid (show A.length ≤ (i + 1) * 8 by omega)
            clear hK2 hn2
            have HS5 := Lib.hid ((Sep.grow (HS3.out.symm) (n := w4.heap.size) (fun g hg => (HQ4.out.lt g hg).2) (fun g hg => foot_new_take hv5 g hg)).symm)
            have HT5 := Lib.hid (HT4.out.trans t5 (fun g hg => .inr ((HR4.out.lt g (foot_take h2 _ _ g hg)).1)))
            have HB5 := Lib.hid (t5.range HB4.out (fun hm => by have := HG4.out g4 (foot_take h2 _ _ g4 hm); omega))
            have HN5 := Lib.hid (heap_alloc_new w5 (.cells (adr false (List.replicate 16 0)).toArray 28))
            have HA5 := Lib.hid ((Touch.refl [] w5).alloc (.cells (adr false (List.replicate 16 0)).toArray 28))
            clear r5 t5 hv5 HTR HQ4 HR4 HS3 HT4 HB4
            go_wp2_with ((with_reducible refine at_store 28 ?_); refine wpList_store_into rfl 28 _ _ rfl w5.heap.size 28 _ (headA (remP k A KL)).cells rfl rfl HN5.out (by rw [HZL.out]; rfl) (by rw [size31, HZL.out]) HZO.out ?_)
            intro w6 h6 t6 z6
            have t6' := HA5.out.trans t6 (by intro y hy; right; simp at hy; omega)
            have HQ6 := Lib.hid (HQ5.out.touch t6' (by simp))
            have HR6 := Lib.hid (HR5.out.touch t6' (by simp))
            have HT6 := Lib.hid (HT5.out.trans t6' (by simp))
            have rr4 := t6'.range HB5.out (by simp)
            have rr6 := range_block h6
            generalize w5.heap.size = g6 at *
            have HPK := Lib.hid (qpeek_any w w6 h1 va vt2 k A K2 HQ6.out (by omega))
            have HEE := Lib.hid (eq_ad_t (headA (remP k A KL)) (headA (remP k A KL)) rfl w6)
            clear h6 t6 z6 t6' HN5 HA5 HQ5 HR5 HT5 HB5
            go_wp2_with (first
              | ((with_reducible refine at_load 28 ?_); refine wpList_load_mid rfl 28 _ rfl g4 0 rfl (headA (remP k A KL)).cells _ rr4 Tryd.underlying28 rfl (by rw [size31, HZL.out]) ?_)
              | ((with_reducible refine at_load 28 ?_); refine wpList_load_mid rfl 28 _ rfl g6 0 rfl (headA (remP k A KL)).cells _ rr6 Tryd.underlying28 rfl (by rw [size31, HZL.out]) ?_)
              | ((with_reducible refine at_bin .eql 28 ?_); refine wpList_eql_agg rfl 28 _ _ _ rfl (headA (remP k A KL)).cells.toArray (headA (remP k A KL)).cells.toArray rfl rfl (by kernel_rfl) true HEE.out ?_))
            refine HPK.out.mono ?_
            rintro e x1 ⟨rfl, t1⟩
            have FQ1 := Lib.hid (HQ6.out.touch t1 (by simp))
            have FR1 := Lib.hid (HR6.out.touch t1 (by simp))
            have FT1 := Lib.hid (HT6.out.trans t1 (by simp))
            obtain ⟨hd, hhd⟩ : ∃ hd, hd = headA (remP k A K2) := ⟨_, rfl⟩
            rw [← hhd]
            have HHD0 := Lib.hid hhd
            have HHL := Lib.hid hd.len
            have HHO := Lib.hid hd.one
            have FN := Lib.hid (heap_alloc_new x1 (.cells (adr false (List.replicate 16 0)).toArray 28))
            have FA := Lib.hid ((Touch.refl [] x1).alloc (.cells (adr false (List.replicate 16 0)).toArray 28))
            clear t1 hhd HPK HQ6 HR6 HT6
            go_wp2_with ((with_reducible refine at_store 28 ?_); refine wpList_store_into rfl 28 _ _ rfl x1.heap.size 28 _ hd.cells rfl rfl FN.out (by rw [HHL.out]; rfl) (by rw [size31, HHL.out]) HHO.out ?_)
            intro x2 y2 s2 z2
            have s2' := FA.out.trans s2 (by intro y hy; right; simp at hy; omega)
            have FQ2 := Lib.hid (FQ1.out.touch s2' (by simp))
            have FR2 := Lib.hid (FR1.out.touch s2' (by simp))
            have FT2 := Lib.hid (FT1.out.trans s2' (by simp))
            have FB2 := Lib.hid (range_block y2)
            generalize x1.heap.size = g15 at *
            have FRR := Lib.hid (rrem_any w x2 h2 ra rt2 k A (tknP A K2) FR2.out (by have := HL5.out; omega) (by rw [tknP_len HI5.out.bound]; have := HKN.out; omega))
            rw [remR_eq HI5.out] at FRR
            clear y2 s2 z2 s2' FN FA FQ1 FR1 FT1
            go_wp2_with fail
            refine FRR.out.mono ?_
            rintro e x3 ⟨vR, rfl, oR, t3⟩
            have FQ3 := Lib.hid (FQ2.out.touch t3 (by simp))
            have FR3 := Lib.hid (FR2.out.touch t3 (by simp))
            have FT3 := Lib.hid (FT2.out.trans t3 (by simp))
            have FB3 := Lib.hid (t3.range FB2.out (by simp))
            generalize hRR : remP k A K2 = R at *
            have HRR := Lib.hid hRR
            clear hRR t3 FRR FQ2 FR2 FT2 FB2
            cases R with
            | nil =>
              obtain ⟨aR, cR, rfl, _, _, _⟩ := (show OwnA x2 x3 vR [] from oR).form
              have FOR := Lib.hid oR
              have HHD := Lib.hid (show hd = zAd from HHD0.out)
              clear oR HHD0
              simp only [List.length_nil, List.isEmpty_nil, Bool.not_true] at *
              go_wp2_with fail
              refine wp_region_held (S := Touch [] x3.drew) (by kernel_rfl) ?_
              change wpAnyH _ _ _ _ _ _ _ _ x3.drew
              have tD := (Touch.refl [] x3).drew
              have HQW := Lib.hid (FQ3.out.touch tD (by simp))
              have HRW := Lib.hid (FR3.out.touch tD (by simp))
              have HTW := Lib.hid (FT3.out.trans tD (by simp))
              have HBW := Lib.hid (tD.range FB3.out (by simp))
              have HOW := Lib.hid (Own.touch FOR.out tD (by simp))
              obtain ⟨bR, rvR, _⟩ := (show OwnA x2 x3.drew _ _ from HOW.out).rd
              obtain ⟨bT, rvT, _⟩ := HRW.out.take.rd
              obtain ⟨aT, cT, hvT, _, _, _⟩ := HRW.out.take.form
              have e2 := HRW.out.cells.2.2
              rw [hvT] at e2 rvT
              generalize (tknP A K2).length = kT at *
              generalize x3.drew = W at *
              clear hvT tD FQ3 FR3 FT3 FB3 FOR
              have hS := Touch.refl [] W
              refine tkH 0 (.bool true) rfl ?_
              try simp only [Act.put, sT, s0, sS]
              refine tkH 1 (.bool false) rfl ?_
              try simp only [Act.put, sT, s0, sS]
              refine tkH 2 (.bool false) rfl ?_
              try simp only [Act.put, sT, s0, sS]
              refine tkH 3 (.bool false) rfl ?_
              try simp only [Act.put, sT, s0, sS]
              refine tkH 4 (.slice aR 0 cR) rfl ?_
              try simp only [Act.put, sT, s0, sS]
              refine tkH 5 (.int .i64 0) rfl ?_
              try simp only [Act.put, sT, s0, sS]
              refine tkH 6 (.bool false) rfl ?_
              try simp only [Act.put, sT, s0, sS]
              refine tkH 7 (.bool false) rfl ?_
              try simp only [Act.put, sT, s0, sS]
              refine tkH 8 (.bool false) rfl ?_
              try simp only [Act.put, sT, s0, sS]
              refine tkH 9 (.bool false) rfl ?_
              try simp only [Act.put, sT, s0, sS]
              refine tkH 10 (.bool false) rfl ?_
              try simp only [Act.put, sT, s0, sS]
              refine tkH 11 (.bool false) rfl ?_
              try simp only [Act.put, sT, s0, sS]
              refine tkN 12 undef rfl ?_
              try simp only [Act.put, sT, s0, sS]
              refine tkN 13 undef rfl ?_
              try simp only [Act.put, sT, s0, sS]
              refine tkN 14 undef rfl ?_
              try simp only [Act.put, sT, s0, sS]
              refine tkN 15 undef rfl ?_
              try simp only [Act.put, sT, s0, sS]
              refine tkN 16 undef rfl ?_
              try simp only [Act.put, sT, s0, sS]
              refine tkH 17 (.bool false) rfl ?_
              try simp only [Act.put, sT, s0, sS]
              refine tkH 18 (.bool false) rfl ?_
              try simp only [Act.put, sT, s0, sS]
              refine tkH 19 (.bool false) rfl ?_
              try simp only [Act.put, sT, s0, sS]
              refine tkH 20 (.bool false) rfl ?_
              try simp only [Act.put, sT, s0, sS]
              refine tkH 21 (.bool true) rfl ?_
              try simp only [Act.put, sT, s0, sS]
              refine tkH 22 (.bool true) rfl ?_
              try simp only [Act.put, sT, s0, sS]
              refine tkH 23 (.agg hd.cells.toArray) rfl ?_ (hy := Or.inl ⟨by rfl, fun w' hw => exec_load_agg _ 28 _ rfl _ _ rfl hd.cells _ (hw.range HBW.out (by simp)) Tryd.underlying28 rfl (by rw [size31, HHL.out])⟩)
              try simp only [Act.put, sT, s0, sS]
              refine tkH 24 (.agg zAd.cells.toArray) rfl ?_ (hy := Or.inl ⟨by rfl, fun w' hw => exec_built _ 28 _ rfl [] _ rfl built_zAd⟩)
              try simp only [Act.put, sT, s0, sS]
              refine tkH 25 (.bool false) rfl ?_ (hy := Or.inl ⟨by rfl, fun w' hw => exec_neq_agg _ 28 _ _ _ rfl hd.cells.toArray zAd.cells.toArray rfl rfl (by kernel_rfl) true (eq_ad_t hd zAd HHD.out w')⟩)
              try simp only [Act.put, sT, s0, sS]
              refine tkH 26 (.bool false) rfl ?_
              try simp only [Act.put, sT, s0, sS]
              refine tkH 27 (.bool false) rfl ?_
              try simp only [Act.put, sT, s0, sS]
              refine tkH 28 (.bool false) rfl ?_
              try simp only [Act.put, sT, s0, sS]
              refine tkH 29 (.pointer (some ⟨h1, 0, none⟩)) rfl ?_
              try simp only [Act.put, sT, s0, sS]
              refine tkH 31 (.slice aR 0 cR) rfl ?_
              try simp only [Act.put, sT, s0, sS]
              refine wpAnyH_ready (rs := [30]) (by kernel_rfl) (by simp) ?_
              refine cnH rfl (fun K hK => ?_) AllReadyH.nil
              go_simp
              refine (qrem_any w _ h1 va vt2 k A K2 (HQW.out.touch hS (by simp)) (by have := HL5.out; omega)).mono ?_
              rintro e u30 ⟨v30, rfl, o30, t30⟩
              have rvR := rvR.touch t30 (by simp)
              have rvT := rvT.touch t30 (by simp)
              rw [HRR.out] at o30
              obtain ⟨b30, rv30, _⟩ := o30.rd
              clear o30
              have hS2 := hS.trans t30 (by simp)
              refine hK.out _ _ hS2 (fun _ => ?_)
              clear hK K hS t30
              have hS := hS2
              clear hS2
              try simp only [Act.put, sT, s0, sS]
              refine wpAnyH_ready (rs := [32]) (by kernel_rfl) (by simp) ?_
              refine cnH rfl (fun K hK => ?_) AllReadyH.nil
              go_simp
              refine (equalTQ _ _ _ _ [] _ rv30 rvR).mono ?_
              rintro e u32 ⟨rfl, t32⟩
              have rvT := rvT.touch t32 (by simp)
              clear rv30 rvR
              have hS2 := hS.trans t32 (by simp)
              refine hK.out _ _ hS2 (fun _ => ?_)
              clear hK K hS t32
              have hS := hS2
              clear hS2
              try simp only [Act.put, sT, s0, sS]
              refine tkH 33 (.bool false) rfl ?_
              try simp only [Act.put, sT, s0, sS]
              refine tkH 34 (.bool false) rfl ?_
              try simp only [Act.put, sT, s0, sS]
              refine tkH 35 (.bool false) rfl ?_
              try simp only [Act.put, sT, s0, sS]
              refine tkH 36 (.pointer (some ⟨h1, 0, none⟩)) rfl ?_
              try simp only [Act.put, sT, s0, sS]
              refine tkH 38 (.pointer (some ⟨h2, 0, none⟩)) rfl ?_
              try simp only [Act.put, sT, s0, sS]
              refine tkH 39 (.pointer (some ⟨h2, 0, none⟩)) rfl ?_
              try simp only [Act.put, sT, s0, sS]
              refine tkH 40 (.pointer (some ⟨h2, 2, none⟩)) rfl ?_
              try simp only [Act.put, sT, s0, sS]
              refine tkH 41 (.slice aT kT cT) rfl ?_ (hy := Or.inl ⟨by rfl, fun w' hw => by (have q := hw.cell e2 (by simp); go_simp)⟩)
              try simp only [Act.put, sT, s0, sS]
              refine wpAnyH_ready (rs := [37]) (by kernel_rfl) (by simp) ?_
              refine cnH rfl (fun K hK => ?_) AllReadyH.nil
              go_simp
              refine (qtaken_any w _ h1 va vt2 k A K2 (HQW.out.touch hS (by simp)) (by have := HKN.out; omega)).mono ?_
              rintro e u37 ⟨v37, rfl, o37, t37⟩
              have rvT := rvT.touch t37 (by simp)
              obtain ⟨b37, rv37, _⟩ := o37.rd
              clear o37
              have hS2 := hS.trans t37 (by simp)
              refine hK.out _ _ hS2 (fun _ => ?_)
              clear hK K hS t37
              have hS := hS2
              clear hS2
              try simp only [Act.put, sT, s0, sS]
              refine wpAnyH_ready (rs := [42]) (by kernel_rfl) (by simp) ?_
              refine cnH rfl (fun K hK => ?_) AllReadyH.nil
              go_simp
              refine (equalTQ _ _ _ _ (tknP A K2) _ rv37 rvT).mono ?_
              rintro e u42 ⟨rfl, t42⟩
              clear rv37 rvT
              have hS2 := hS.trans t42 (by simp)
              refine hK.out _ _ hS2 (fun _ => ?_)
              clear hK K hS t42
              have hS := hS2
              clear hS2
              try simp only [Act.put, sT, s0, sS]
              refine tkH 43 (.bool false) rfl ?_
              try simp only [Act.put, sT, s0, sS]
              refine tkH 44 (.bool false) rfl ?_
              try simp only [Act.put, sT, s0, sS]
              refine wpAnyH_done (by kernel_rfl) ?_ _
              try simp only [Act.put, sT, s0, sS]
              have HTZ := Lib.hid (HTW.out.trans hS (by simp))
              have HQZ := Lib.hid (HQW.out.touch hS (by simp))
              have HRZ := Lib.hid (HRW.out.touch hS (by simp))
              clear hS
              go_wp2_with fail
              go_roundw
              case rel => exact ⟨i + 1, A, K2, va, vt2, ra, rt2, by omega, by omega, by go_num, HQZ.out, HRZ.out, HI5.out, HS5.out, HL5.out, HKN.out, HTZ.out⟩
              case measure => simp [intOf]; omega
            | cons a r =>
              obtain ⟨aR, cR, hvR, hlR, hcR, hatR⟩ := (show OwnA x2 x3 vR (a :: r) from oR).form
              obtain ⟨gR, rfl⟩ := hatR (by simp)
              obtain ⟨m, hm⟩ : ∃ m, m = (a :: r).length := ⟨_, rfl⟩
              have hm0 : 0 < m := by rw [hm]; simp
              have hm1 : (0 : Int) < (m : Int) := by omega
              rw [← hm] at hvR
              subst hvR
              have ra0 := own_at (l := a :: r) (i := 0) (a := a) (by have := (show OwnA x2 x3 _ (a :: r) from oR).row'; rw [← hm] at this; exact this) rfl
              simp only [Nat.zero_mul] at ra0
              have HLA := Lib.hid a.len
              have FOR := Lib.hid oR
              have HHD := Lib.hid (show hd = a from HHD0.out)
              clear oR HHD0 hm hlR hcR hatR
              simp only [List.isEmpty_cons, Bool.not_false] at *
              go_wp2_with fail
              refine wp_region_held (S := Touch [] x3.drew) (by kernel_rfl) ?_
              change wpAnyH _ _ _ _ _ _ _ _ x3.drew
              have tD := (Touch.refl [] x3).drew
              have HQW := Lib.hid (FQ3.out.touch tD (by simp))
              have HRW := Lib.hid (FR3.out.touch tD (by simp))
              have HTW := Lib.hid (FT3.out.trans tD (by simp))
              have HBW := Lib.hid (tD.range FB3.out (by simp))
              have HOW := Lib.hid (Own.touch FOR.out tD (by simp))
              obtain ⟨bR, rvR, _⟩ := (show OwnA x2 x3.drew _ _ from HOW.out).rd
              obtain ⟨bT, rvT, _⟩ := HRW.out.take.rd
              obtain ⟨aT, cT, hvT, _, _, _⟩ := HRW.out.take.form
              have e2 := HRW.out.cells.2.2
              rw [hvT] at e2 rvT
              generalize (tknP A K2).length = kT at *
              have hg0 := tD.range ra0 (by simp)
              generalize x3.drew = W at *
              clear hvT tD FQ3 FR3 FT3 FB3 FOR
              have hS := Touch.refl [] W
              refine tkH 0 (.bool true) rfl ?_
              try simp only [Act.put, sT, s0, sS]
              refine tkH 1 (.bool false) rfl ?_
              try simp only [Act.put, sT, s0, sS]
              refine tkH 2 (.bool false) rfl ?_
              try simp only [Act.put, sT, s0, sS]
              refine tkH 3 (.bool true) rfl ?_
              try simp only [Act.put, sT, s0, sS]
              refine tkH 4 (.slice (some ⟨gR, 0, none⟩) m cR) rfl ?_
              try simp only [Act.put, sT, s0, sS]
              refine tkH 5 (.int .i64 (m : Nat)) rfl ?_
              try simp only [Act.put, sT, s0, sS]
              refine tkH 6 (.bool true) rfl ?_ (hy := Or.inl ⟨by rfl, fun w' hw => by (have q := hm1; have q2 := hm0; go_simp)⟩)
              try simp only [Act.put, sT, s0, sS]
              refine tkH 7 (.bool false) rfl ?_
              try simp only [Act.put, sT, s0, sS]
              refine tkH 8 (.bool false) rfl ?_
              try simp only [Act.put, sT, s0, sS]
              refine tkH 9 (.bool false) rfl ?_
              try simp only [Act.put, sT, s0, sS]
              refine tkH 10 (.bool true) rfl ?_
              try simp only [Act.put, sT, s0, sS]
              refine tkH 11 (.bool true) rfl ?_
              try simp only [Act.put, sT, s0, sS]
              refine tkH 12 (.agg hd.cells.toArray) rfl ?_ (hy := Or.inl ⟨by rfl, fun w' hw => exec_load_agg _ 28 _ rfl _ _ rfl hd.cells _ (hw.range HBW.out (by simp)) Tryd.underlying28 rfl (by rw [size31, HHL.out])⟩)
              try simp only [Act.put, sT, s0, sS]
              refine tkH 13 (.slice (some ⟨gR, 0, none⟩) m cR) rfl ?_
              try simp only [Act.put, sT, s0, sS]
              refine tkH 14 (.pointer (some ⟨gR, 0, none⟩)) rfl ?_ (hy := Or.inl ⟨by rfl, fun w' hw => by (have q := hm1; have q2 := hm0; go_simp)⟩)
              try simp only [Act.put, sT, s0, sS]
              refine tkH 15 (.agg a.cells.toArray) rfl ?_ (hy := Or.inl ⟨by rfl, fun w' hw => exec_load_agg _ 28 _ rfl _ _ rfl a.cells _ (hw.range hg0 (by simp)) Tryd.underlying28 rfl (by rw [size31, HLA.out])⟩)
              try simp only [Act.put, sT, s0, sS]
              refine tkH 16 (.bool false) rfl ?_ (hy := Or.inl ⟨by rfl, fun w' hw => exec_neq_agg _ 28 _ _ _ rfl hd.cells.toArray a.cells.toArray rfl rfl (by kernel_rfl) true (eq_ad_t hd a HHD.out w')⟩)
              try simp only [Act.put, sT, s0, sS]
              refine tkH 17 (.bool false) rfl ?_
              try simp only [Act.put, sT, s0, sS]
              refine tkH 18 (.bool false) rfl ?_
              try simp only [Act.put, sT, s0, sS]
              refine tkH 19 (.bool false) rfl ?_
              try simp only [Act.put, sT, s0, sS]
              refine tkH 20 (.bool true) rfl ?_
              try simp only [Act.put, sT, s0, sS]
              refine tkH 21 (.bool false) rfl ?_
              try simp only [Act.put, sT, s0, sS]
              refine tkH 22 (.bool false) rfl ?_
              try simp only [Act.put, sT, s0, sS]
              refine tkN 23 undef rfl ?_
              try simp only [Act.put, sT, s0, sS]
              refine tkN 24 undef rfl ?_
              try simp only [Act.put, sT, s0, sS]
              refine tkN 25 undef rfl ?_
              try simp only [Act.put, sT, s0, sS]
              refine tkH 26 (.bool false) rfl ?_
              try simp only [Act.put, sT, s0, sS]
              refine tkH 27 (.bool false) rfl ?_
              try simp only [Act.put, sT, s0, sS]
              refine tkH 28 (.bool false) rfl ?_
              try simp only [Act.put, sT, s0, sS]
              refine tkH 29 (.pointer (some ⟨h1, 0, none⟩)) rfl ?_
              try simp only [Act.put, sT, s0, sS]
              refine tkH 31 (.slice (some ⟨gR, 0, none⟩) m cR) rfl ?_
              try simp only [Act.put, sT, s0, sS]
              refine wpAnyH_ready (rs := [30]) (by kernel_rfl) (by simp) ?_
              refine cnH rfl (fun K hK => ?_) AllReadyH.nil
              go_simp
              refine (qrem_any w _ h1 va vt2 k A K2 (HQW.out.touch hS (by simp)) (by have := HL5.out; omega)).mono ?_
              rintro e u30 ⟨v30, rfl, o30, t30⟩
              have rvR := rvR.touch t30 (by simp)
              have rvT := rvT.touch t30 (by simp)
              rw [HRR.out] at o30
              obtain ⟨b30, rv30, _⟩ := o30.rd
              clear o30
              have hS2 := hS.trans t30 (by simp)
              refine hK.out _ _ hS2 (fun _ => ?_)
              clear hK K hS t30
              have hS := hS2
              clear hS2
              try simp only [Act.put, sT, s0, sS]
              refine wpAnyH_ready (rs := [32]) (by kernel_rfl) (by simp) ?_
              refine cnH rfl (fun K hK => ?_) AllReadyH.nil
              go_simp
              refine (equalTQ _ _ _ _ (a :: r) _ rv30 rvR).mono ?_
              rintro e u32 ⟨rfl, t32⟩
              have rvT := rvT.touch t32 (by simp)
              clear rv30 rvR
              have hS2 := hS.trans t32 (by simp)
              refine hK.out _ _ hS2 (fun _ => ?_)
              clear hK K hS t32
              have hS := hS2
              clear hS2
              try simp only [Act.put, sT, s0, sS]
              refine tkH 33 (.bool false) rfl ?_
              try simp only [Act.put, sT, s0, sS]
              refine tkH 34 (.bool false) rfl ?_
              try simp only [Act.put, sT, s0, sS]
              refine tkH 35 (.bool false) rfl ?_
              try simp only [Act.put, sT, s0, sS]
              refine tkH 36 (.pointer (some ⟨h1, 0, none⟩)) rfl ?_
              try simp only [Act.put, sT, s0, sS]
              refine tkH 38 (.pointer (some ⟨h2, 0, none⟩)) rfl ?_
              try simp only [Act.put, sT, s0, sS]
              refine tkH 39 (.pointer (some ⟨h2, 0, none⟩)) rfl ?_
              try simp only [Act.put, sT, s0, sS]
              refine tkH 40 (.pointer (some ⟨h2, 2, none⟩)) rfl ?_
              try simp only [Act.put, sT, s0, sS]
              refine tkH 41 (.slice aT kT cT) rfl ?_ (hy := Or.inl ⟨by rfl, fun w' hw => by (have q := hw.cell e2 (by simp); go_simp)⟩)
              try simp only [Act.put, sT, s0, sS]
              refine wpAnyH_ready (rs := [37]) (by kernel_rfl) (by simp) ?_
              refine cnH rfl (fun K hK => ?_) AllReadyH.nil
              go_simp
              refine (qtaken_any w _ h1 va vt2 k A K2 (HQW.out.touch hS (by simp)) (by have := HKN.out; omega)).mono ?_
              rintro e u37 ⟨v37, rfl, o37, t37⟩
              have rvT := rvT.touch t37 (by simp)
              obtain ⟨b37, rv37, _⟩ := o37.rd
              clear o37
              have hS2 := hS.trans t37 (by simp)
              refine hK.out _ _ hS2 (fun _ => ?_)
              clear hK K hS t37
              have hS := hS2
              clear hS2
              try simp only [Act.put, sT, s0, sS]
              refine wpAnyH_ready (rs := [42]) (by kernel_rfl) (by simp) ?_
              refine cnH rfl (fun K hK => ?_) AllReadyH.nil
              go_simp
              refine (equalTQ _ _ _ _ (tknP A K2) _ rv37 rvT).mono ?_
              rintro e u42 ⟨rfl, t42⟩
              clear rv37 rvT
              have hS2 := hS.trans t42 (by simp)
              refine hK.out _ _ hS2 (fun _ => ?_)
              clear hK K hS t42
              have hS := hS2
              clear hS2
              try simp only [Act.put, sT, s0, sS]
              refine tkH 43 (.bool false) rfl ?_
              try simp only [Act.put, sT, s0, sS]
              refine tkH 44 (.bool false) rfl ?_
              try simp only [Act.put, sT, s0, sS]
              refine wpAnyH_done (by kernel_rfl) ?_ _
              try simp only [Act.put, sT, s0, sS]
              have HTZ := Lib.hid (HTW.out.trans hS (by simp))
              have HQZ := Lib.hid (HQW.out.touch hS (by simp))
              have HRZ := Lib.hid (HRW.out.touch hS (by simp))
              clear hS
              go_wp2_with fail
              go_roundw
              case rel => exact ⟨i + 1, A, K2, va, vt2, ra, rt2, by omega, by omega, by go_num, HQZ.out, HRZ.out, HI5.out, HS5.out, HL5.out, HKN.out, HTZ.out⟩
              case measure => simp [intOf]; omega
        · go_wp2_with fail
          refine (awake28_ok wr).mono ?_
          rintro e w9 ⟨rfl, t9⟩
          have HT9 := Lib.hid (HT.out.trans t9 (by simp))
          clear t9
          go_wp2_with fail
          go_ret
          exact ⟨rfl, HT9.out⟩
      · go_wp2_with fail
        refine (awake28_ok wr).mono ?_
        rintro e w9 ⟨rfl, t9⟩
        have HT9 := Lib.hid (HT.out.trans t9 (by simp))
        clear t9
        go_wp2_with fail
        go_ret
        exact ⟨rfl, HT9.out⟩
theorem walk {H : Type} {enc : TypeId × Value → H} {w : World} (a : Int) (hw : (Lit.int .i64 a).wf = true) (v : Value) (hv : IsSlice enc Tryd.prog w 0 (fun _ => true) true [3, 22] v) :
    Calls Tryd.prog 5 #[.int .i64 a, v] w fun e w' => e = .returned (.bool true) ∧ Below w.heap.size w w' := by
  obtain ⟨av, len, cap, rfl, hl, hm, hc⟩ := hv.at (by simp)
  have ho : Ops w av len := by
    intro i hi
    rcases hc with h0 | ⟨b, off, rfl, hc⟩
    · omega
    · obtain ⟨u0, hu0, l0⟩ := hc i 0 3 hi rfl
      obtain ⟨u1, hu1, l1⟩ := hc i 1 22 hi rfl
      obtain ⟨kd, rfl, _⟩ := l0.int Tryd.underlying3
      obtain ⟨m, y, hy⟩ := l1
      have hs : IsSlice enc Tryd.prog w 0 (fun _ => true) true [4, 5, 5, 5, 5, 5, 5, 5, 5, 5, 5, 5, 5, 5, 5, 5, 5] u1 := slice_ok (d := 8) Tryd.underlying22 (by kernel_rfl) (by kernel_rfl) hy
      obtain ⟨b2, xs, hr, hx⟩ := slice_rows (by simp) hs
      exact ⟨b, off, kd, u1, b2, xs, rfl, by simpa using hu0, by simpa [Nat.add_assoc] using hu1, hr, fun x h => isAd_cells (hx x h)⟩
  exact (walk0 a av len cap w ⟨hl, hm⟩ ho).mono fun e w' ⟨h1, h2⟩ => ⟨h1, h2.below (by simp) (Nat.le_refl _)⟩
end Go.Proofs.YtiklhaajhdephaaDoor.candidatesMatchModel

/-
  The statement 'CandidatesMatchModelSaid' of the seat: the frame of the row round the walk of the law's Go function (YtiklhaajhdephaaDoorW8): for every input the call returns true and each argument reads as it did.
-/
namespace Go.Proofs.YtiklhaajhdephaaDoor.candidatesMatchModel
open Go.ChangeShapes Go.WideShapes Go.Deep Go.ChangeAt Go.RowKit
open Go.ChangeMaps (open_string shut_string)
set_option linter.unusedVariables false

theorem own : ownKnob Tryd.prog.godebug = none := by kernel_rfl
theorem laidOut : laidOutB Tryd.prog = true := by kernel_rfl

set_option maxRecDepth 100000 in
theorem lifted (os : Os) (started : os.Started) (H : Type) (enc : TypeId × Value → H) :
    ReturnsInHanded {} Tryd.checked os 5 .any (fun w args => (Rows.candidatesMatchModelSpec.pre enc Tryd.prog Tryd.f5 Rows.candidatesMatchModelRow.domain false w args ∧ laidMetH Tryd.prog Rows.candidatesMatchModelRow.laid w) ∧ sizedMet enc Tryd.prog Tryd.f5 (OpenSpec.ofChange Rows.candidatesMatchModelSpec) false w args)
      (Rows.candidatesMatchModelSpec.post enc Tryd.prog Tryd.f5 false true false false) := by
  refine returnsInHanded_of_change_and (C := Tryd.checked) (X := fun w _ => laidMetH Tryd.prog Rows.candidatesMatchModelRow.laid w) (fun _ _ _ hh h => h.of_heap hh) own started (by kernel_rfl) Tryd.func5
    (ChangeSpec.witness_shaped (enc := enc) (C := Tryd.checked) (os := os) (X := fun w _ => laidMetH Tryd.prog Rows.candidatesMatchModelRow.laid w) false (World.laidAll Tryd.prog os Rows.candidatesMatchModelRow.laid) #[.int .i64 0, .slice none 0 0] 8 (World.laidAll_os _ _ _)
      (World.shaped_of_ZipB (by kernel_rfl) (by kernel_rfl)) (by kernel_rfl) (by kernel_rfl) (by kernel_rfl)
      (by rw [MakeChecks.laidMetH_plain _ _ _ (by kernel_rfl)]; exact laidMet_laidAll _ (by kernel_rfl) (by kernel_rfl))) ?_
  intro W base args ds gs before hval0 hW hcnd hsz0 hL _
  have hval : ∀ (j : Nat) t v, Tryd.f5.params[j]? = some t → args[j]? = some v → Value.okWide Tryd.prog W .any base t v := hval0
  have hW' := hW
  obtain ⟨p, q, hA0, hV, rfl, hfz, hnd⟩ := hW
  have hA : DataW.TrodAll enc Tryd.prog W 0 (fun _ => true) true Tryd.f5.params.toList args.toList ds p := hA0
  rw [Tryd.params5] at hA hval
  obtain ⟨v0, vs0, d0, ds0, p0, q0, hargs, rfl, rfl, h0, r0⟩ := trodAll_cons hA
  obtain ⟨v1, vs1, d1, ds1, p1, q1, rfl, rfl, rfl, h1, r1⟩ := trodAll_cons r0
  obtain ⟨rfl, rfl, rfl⟩ := trodAll_nil r1
  obtain rfl : args = #[v0, v1] := by cases args; simp_all
  obtain ⟨rfl, rfl⟩ := trodVars_none hV
  have k0 := h0
  have lt0 : ∀ x ∈ p0, x.block < W.heap.size := by obtain ⟨m, hm⟩ := k0; exact DataW.trod_lt m _ _ _ hm
  have k1 := h1
  have lt1 : ∀ x ∈ p1, x.block < W.heap.size := by obtain ⟨m, hm⟩ := k1; exact DataW.trod_lt m _ _ _ hm
  obtain ⟨a0, rfl, e0, ee0, w0⟩ := open_int Tryd.underlying3 (hval 0 3 v0 rfl rfl) h0
  obtain ⟨b1, len1, cap1, hv1⟩ := okWide_slice Tryd.underlying34 (hval 1 34 v1 rfl rfl)
  have s1 : IsSlice enc Tryd.prog W 0 (fun _ => true) true [3, 22] v1 := by
    obtain ⟨fuel, hf⟩ := h1
    rw [hv1] at hf ⊢
    exact slice_ok (d := 8) Tryd.underlying34 (by kernel_rfl) (by kernel_rfl) (by simpa [Value.cells] using hf)
  clear hA0 hval0
  refine (walk (H := H) (enc := enc) (w := W) a0 w0 v1 s1).mono fun e W' ⟨he, bel⟩ => ?_
  subst he
  exact ⟨_, rfl, _, _, _, [], _, [], hW', trodAll_mk1 (shut_bool Tryd.underlying4 _), (trodAll_cons_mk (Below.trod laidOut (by kernel_rfl) (of_decide_eq_true (by kernel_rfl)) k0 bel lt0) (trodAll_cons_mk (Below.trod laidOut (by kernel_rfl) (of_decide_eq_true (by kernel_rfl)) k1 bel lt1) trodAll_mk0)), rfl, bel.frame _, fun h => by cases h⟩

theorem over : Rows.candidatesMatchModelRow.holds Tryd.pinned (OpenSpec.ofChange Rows.candidatesMatchModelSpec) :=
  OpenClaim.holds_of_wide 5 Tryd.f5 rfl rfl rfl rfl rfl rfl rfl ⟨rfl, rfl, rfl, rfl, rfl⟩ rfl rfl rfl rfl rfl (by kernel_rfl) Tryd.func5 (by kernel_rfl)
    (of_decide_eq_true (by kernel_rfl)) (by unfold Func.isWrapper; first | (rw [if_pos (by decide +kernel)]; kernel_rfl) | (rw [if_neg (by decide +kernel)]; exact ⟨rfl, rfl⟩))
    (fun os started H enc _ => lifted os started H enc)

theorem proved : Rows.CandidatesMatchModelCardSaid :=
  Claim7.holds_tied_plain_at .later [] [.data, .pinned] true (true, "5befad24a3e9b3d9c688acd4ea44020d752db1b22d3d70f9edc34305006425d2") false over (fun _ h => by cases h) (by kernel_rfl) (fun _ h => by cases h) candidatesMatchModel_row_tie rfl ⟨rfl, rfl⟩ (by kernel_rfl) rfl
    (fun f fn hf hfn => by
      obtain rfl : f = 5 := Option.some.inj ((show Tryd.prog.funcNamed "ginnel/ginnellaw28.CandidatesMatchModel" = some 5 by kernel_rfl).symm.trans hf) |>.symm
      obtain rfl : fn = Tryd.f5 := (Option.some.inj (Tryd.func5.symm.trans hfn)).symm
      exact ⟨by kernel_rfl, fun j t ht => by
        rw [Tryd.params5] at ht
        have hm : t ∈ [3, 34] := by simpa using Array.mem_of_getElem? ht
        have hall : ([3, 34].all fun u => !Tryd.prog.wantsStandIn u) = true := by kernel_rfl
        exact (show Tryd.prog.wantsStandIn t = false by simpa using List.all_eq_true.1 hall t hm)⟩)
    (by kernel_rfl)
#print axioms proved
end Go.Proofs.YtiklhaajhdephaaDoor.candidatesMatchModel

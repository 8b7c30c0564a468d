/-
  The statement 'CandidatesDoNotAliasSaid' of the seat: the frame of the row round the walk of the law's Go function (YtiklhaajhdephaaDoorW6): for every input the call returns true and each argument reads as it did.
-/
import Derived.Test.YtiklhaajhdephaaDoorGG
import Derived.Test.YtiklhaajhdephaaDoorGO
import Derived.WalkKit
import Derived.ProofKit
import Derived.OpenShut
import Derived.ShutString
import Derived.ChangeOld
import Derived.Below
import Derived.Test.YtiklhaajhdephaaDoorTie
import Derived.Test.YtiklhaajhdephaaDoorCards
import Derived.LaidMore
import Derived.Lay
import Derived.SevenTiedAt
import Derived.Stop.Joined
import Derived.MakeChecks

/-
  WithSpare and Overwrite at addresses, with what lies behind the slice.
-/
namespace Go.Proofs.YtiklhaajhdephaaDoor
open Go.RowKit
set_option linter.unusedVariables false
set_option linter.unusedSimpArgs false

set_option maxRecDepth 100000 in
set_option maxHeartbeats 1000000 in
theorem spare2_any (v : Value) (b : Nat) (xs : List (List Value)) (f : List Value) (w : World) (hl : xs.length ≤ 100) (hv : Rd w 17 b v xs) (hxs : ∀ x ∈ xs, IsAd x) (hf : IsAd f) :
    Calls Tryd.prog 33 #[v, .agg f.toArray] w fun e w' => ∃ g, e = .returned (.slice (some ⟨g, 0, none⟩) xs.length (xs.length + 3)) ∧ w.heap.size ≤ g ∧
      Rd w' 17 g (.slice (some ⟨g, 0, none⟩) (xs.length + 3) (xs.length + 3)) (xs ++ [f, f, f]) ∧ (∃ cur : List Value, w'.heap[g]? = some (.cells cur.toArray 28 (0, 0)) ∧ (xs.length + 3) * 17 ≤ cur.length) ∧ Touch [] w w' := by
  obtain ⟨i31, hi31, hz31, hs31, hb31⟩ := info_parts info28
  obtain ⟨a, cap, rfl, hlc, hcm⟩ := hv.form
  have hcm2 : cap ≤ 9223372036854775807 := by unfold maxLen at hcm; omega
  obtain ⟨hn1, hn2⟩ := (((hv.touch ((Touch.refl [] w).alloc (.cells f.toArray 28)) (by simp)).touch ((Touch.refl [] (w.alloc (.cells f.toArray 28))).alloc (.cells #[] 28)) (by simp))).news (by omega) (ads_len hxs)
  have HL := Lib.hid hf.len
  have HX := Lib.hid (flat_len (ads_len hxs))
  have hr := World.rangeAt_alloc (range_new w f 28) (.cells #[] 28)
  have hown0 := World.ownsRow_made (base := 0) (e := 28) (size := 17) (w.alloc (.cells f.toArray 28)) #[] 0 (Nat.zero_le _) (by simp [maxLen]) (by simp)
  simp only [World.size_alloc] at hown0
  have hall : ∀ x ∈ xs ++ [f, f, f], IsAd x := by
    intro x hx
    simp only [List.mem_append, List.mem_cons, List.not_mem_nil, or_false] at hx
    rcases hx with h | rfl | rfl | rfl
    · exact hxs x h
    all_goals assumption
  go_enter Tryd.func33, Tryd.ntmps33
  go_wp2_with (first
    | (refine wpList_buildSlice_rows rfl 22 0 _ rfl 28 17 i31 _ Tryd.underlying22 hi31 hz31 hs31 (by omega) [] rfl (by simp) (by omega) (by rfl) ?_)
    | (at_builtin; refine wpList_app _ (by rfl) _ _ 22 (by rfl) 28 i31 _ 17 17 Tryd.underlying22 hi31 hz31 hs31 hb31 rfl (by omega) _ 0 _ (by rfl) hown0 a xs.length cap xs.flatten (by rfl) (by rw [HX.out]) hn1 hn2 (ads_one hxs) (by unfold maxLen; omega) (by omega) ?_))
  intro v1 w1 o1 t1 hv1
  try simp only [Nat.zero_add, List.nil_append] at o1
  have tA : Touch [] w w1 := (((Touch.refl [] w).alloc (.cells f.toArray 28)).alloc (.cells #[] 28)).trans t1 (by simp [Value.ownBlock])
  have ho1 : Own w w1 v1 xs := by
    refine ⟨o1, fun g hg => ?_⟩
    rcases hv1 with e | e
    · rw [e] at hg; simp [Value.ownBlock] at hg; omega
    · rw [e] at hg; simp at hg; omega
  have hr1 := t1.range hr (by simp [Value.ownBlock])
  clear o1 t1 hv1 hn1 hn2 hv hown0 hr
  have ho1r := (ho1.touch ((Touch.refl [] w1).alloc (.cells [f, f, f].flatten.toArray 28)) (by simp)).row
  go_wp2_with (first
    | (refine wpList_load_mid rfl 28 _ rfl w.heap.size 0 rfl f _ hr1 Tryd.underlying28 rfl (by rw [size31, HL.out]) ?_)
    | (refine wpList_buildSlice_rows rfl 22 3 _ rfl 28 17 i31 _ Tryd.underlying22 hi31 hz31 hs31 (by omega) [f, f, f] rfl (by simp [HL.out]) (by omega) (by rfl) ?_)
    | (at_builtin; refine wpList_app _ (by rfl) _ _ 22 (by rfl) 28 i31 _ 17 17 Tryd.underlying22 hi31 hz31 hs31 hb31 rfl (by omega) v1 xs.length _ (by rfl) ho1r (some ⟨w1.heap.size, 0, none⟩) 3 3 [f, f, f].flatten (by rfl) (by simp [HL.out]) (by simp) (by intro ad h j u hu; cases h; rw [Addr.add_lit]; exact range_new w1 _ 28 j u hu) (ads_one (by intro x hx; simp only [List.mem_cons, List.not_mem_nil, or_false] at hx; rcases hx with rfl | rfl | rfl <;> exact hf)) (by unfold maxLen; omega) (by omega) ?_))
  intro v2 w2 o2 t2 hv2
  have e3 : f ++ (f ++ f) = [f, f, f].flatten := by simp
  rw [e3] at o2 t2
  have tB := (Touch.refl [] w1).alloc (.cells [f, f, f].flatten.toArray 28)
  have z1 := tA.size
  have ho2 : Own w w2 v2 (xs ++ [f, f, f]) := by
    refine ⟨by rw [List.flatten_append, List.length_append]; exact o2, fun g hg => ?_⟩
    rcases hv2 with e | e
    · rw [e] at hg; exact ho1.new g hg
    · rw [e] at hg; simp at hg; omega
  have tC : Touch [] w w2 := (tA.trans tB (by simp)).trans t2 (fun g hg => .inr (ho1.new g (by simpa using hg)))
  obtain ⟨a2, c2, rfl, hc1, hc2, _⟩ := owns_form o2
  have hc3 : c2 ≤ 9223372036854775807 := by unfold maxLen at hc2; omega
  obtain ⟨g, rfl, hg, hd⟩ := (show Own w w2 (.slice a2 (xs ++ [f, f, f]).length c2) (xs ++ [f, f, f]) by simpa using ho2).rdg hall (by simp)
  have hd2 : Rd w2 17 g (.slice (some ⟨g, 0, none⟩) (xs.length + 3) (xs.length + 3)) (xs ++ [f, f, f]) := by
    obtain ⟨off, h1, h2⟩ := hd.at (by simp)
    simp at h1
    obtain rfl := h1
    exact ⟨some ⟨g, 0, none⟩, xs.length + 3, by simp, by simp, by unfold maxLen; omega, by simp, fun _ => ⟨0, rfl, h2⟩⟩
  have hcur : ∃ cur : List Value, w2.heap[g]? = some (.cells cur.toArray 28 (0, 0)) ∧ (xs.length + 3) * 17 ≤ cur.length := by
    rcases ho2.row.2 with ⟨h1, _⟩ | ⟨g', cap, cur, h1, _, h2, h3, h4, h5, h6⟩
    · simp at h1
    · simp at h1
      obtain ⟨rfl, rfl⟩ := h1
      refine ⟨cur.toList, by simpa using h2, ?_⟩
      simp at h3 h5 ⊢
      omega
  clear hd ho2 o2 t2 ho1 ho1r hv2 hr1
  go_wp2_with fail
  go_ret
  exact ⟨g, rfl, hg, hd2, hcur, tC⟩

set_option maxRecDepth 100000 in
set_option maxHeartbeats 1000000 in
theorem over_raw (g n c : Nat) (cur0 : List Value) (w : World) (hg0 : w.heap[g]? = some (.cells cur0.toArray 28 (0, 0))) (hc0 : n * 17 ≤ cur0.length) (hl : n ≤ 100) (hnc : n ≤ c) (hcc : c ≤ 1000000) :
    Calls Tryd.prog 35 #[.slice (some ⟨g, 0, none⟩) n c] w fun e w' => e = .returned (.tuple #[]) ∧ Touch [g] w w' := by
  have hgw := (Array.getElem?_eq_some_iff.1 hg0).1
  go_enter Tryd.func35, Tryd.ntmps35
  go_wp2_with fail
  go_loopw [3] (fun vi wr => ∃ (k : Nat), k ≤ n ∧ vi = .int .i64 k ∧ Touch [g] w wr ∧ w.heap.size < wr.heap.size ∧ wr.rangeAt w.heap.size 0 (adr false [0, 0, 0, 0, 0, 0, 0, 0, 0, 0, 0, 0, 0, 0, 0, 0]) ∧
      (∃ cur : List Value, wr.heap[g]? = some (.cells cur.toArray 28 (0, 0)) ∧ n * 17 ≤ cur.length))
    (fun vi _ => n - (intOf vi).toNat)
  case atStart => exact ⟨0, by omega, rfl, (Touch.refl _ _).alloc _, by simp, range_new w (adr false [0, 0, 0, 0, 0, 0, 0, 0, 0, 0, 0, 0, 0, 0, 0, 0]) 28, cur0, by rw [Below.heap_alloc _ _ _ hgw, hg0], hc0⟩
  case round =>
    obtain ⟨k, hk, rfl, ht, hz, hrz, cur, hg, hcl⟩ := hrel
    by_cases hlt : k < n
    · have hz17 := adr_one false [0, 0, 0, 0, 0, 0, 0, 0, 0, 0, 0, 0, 0, 0, 0, 0]
      have hzl : (adr false [0, 0, 0, 0, 0, 0, 0, 0, 0, 0, 0, 0, 0, 0, 0, 0]).length = 17 := rfl
      generalize adr false [0, 0, 0, 0, 0, 0, 0, 0, 0, 0, 0, 0, 0, 0, 0, 0] = z at *
      have HZ := Lib.hid hzl
      clear hzl
      have hbd : k * 17 + 17 ≤ cur.length := by omega
      go_wp2_with (first
        | (refine wpList_load_mid rfl 28 _ rfl w.heap.size 0 rfl z _ hrz Tryd.underlying28 rfl (by rw [size31, HZ.out]) ?_)
        | (refine wpList_store_part rfl 28 _ _ rfl g (k * 17) 28 cur z rfl rfl hg (by rw [HZ.out]; exact hbd) (by rw [size31, HZ.out]) hz17 ?_))
      intro w2 hg2 t2 s2
      have HZ2 := HZ.out
      have hn : w.heap.size ∉ [g] := by simp; omega
      have rel2 : Touch [g] w w2 := ht.trans t2 (fun x hx => .inl hx)
      have rz2 := t2.range hrz hn
      go_wp2_with fail
      go_roundw
      case rel =>
        refine ⟨k + 1, by omega, by go_num, rel2, by omega, rz2, _, hg2, ?_⟩
        simp [HZ2]
        omega
      case measure => simp [intOf]; omega
    · go_wp2_with fail
      go_end0
      exact ⟨rfl, ht⟩
end Go.Proofs.YtiklhaajhdephaaDoor

/-
  The walk of CandidatesDoNotAlias: true at every count and every list.
-/
namespace Go.Proofs.YtiklhaajhdephaaDoor.candidatesDoNotAlias
open Go.RowKit Go.Deep
set_option linter.unusedVariables false
set_option linter.unusedSimpArgs false

def Sep (F G : List Nat) : Prop := ∀ g ∈ F, g ∉ G
theorem Sep.symm {F G : List Nat} (h : Sep F G) : Sep G F := fun g hg hf => h g hf hg
theorem foot_new_add {h : Nat} {va va' vt : Value} {w : World} (hv : va'.ownBlock = va.ownBlock ∨ ∃ k, va'.ownBlock = some k ∧ w.heap.size ≤ k) : ∀ g ∈ qfoot h va' vt, g ∈ qfoot h va vt ∨ w.heap.size ≤ g := by
  intro g hg
  simp only [qfoot, List.mem_cons, List.mem_append, Option.mem_toList] at hg ⊢
  rcases hg with e | e | e
  · exact .inl (.inl e)
  · rcases hv with e2 | ⟨k, e2, hk⟩
    · rw [e2] at e; exact .inl (.inr (.inl e))
    · rw [e2] at e; cases e; exact .inr hk
  · exact .inl (.inr (.inr e))
theorem foot_new_take {h : Nat} {va vt vt' : Value} {w : World} (hv : vt'.ownBlock = vt.ownBlock ∨ ∃ k, vt'.ownBlock = some k ∧ w.heap.size ≤ k) : ∀ g ∈ qfoot h va vt', g ∈ qfoot h va vt ∨ w.heap.size ≤ g := by
  intro g hg
  simp only [qfoot, List.mem_cons, List.mem_append, Option.mem_toList] at hg ⊢
  rcases hg with e | e | e
  · exact .inl (.inl e)
  · exact .inl (.inr (.inl e))
  · rcases hv with e2 | ⟨k, e2, hk⟩
    · rw [e2] at e; exact .inl (.inr (.inr e))
    · rw [e2] at e; cases e; exact .inr hk
theorem Sep.grow {F F' G : List Nat} {n : Nat} (h : Sep F G) (hG : ∀ g ∈ G, g < n) (hF : ∀ g ∈ F', g ∈ F ∨ n ≤ g) : Sep F' G := by
  intro g hg hm
  rcases hF g hg with e | e
  · exact h g e hm
  · have := hG g hm; omega
theorem below_of {w0 w : World} {h : Nat} {va vt : Value} {first : Int} {A : List Ad} {K : List Nat} (q : Qu w0 w h va vt first A K) : ∀ g ∈ qfoot h va vt, g < w.heap.size := fun g hg => (q.lt g hg).2
/-- A slice of the call's own is overwritten. -/
theorem overA (w0 w : World) (v : Value) (l : List Ad) (ho : OwnA w0 w v l) (hl : l.length ≤ 100) :
    Calls Tryd.prog 35 #[v] w fun e w' => e = .returned (.tuple #[]) ∧ Touch v.ownBlock.toList w w' :=
  over_any v (l.map Ad.cells) w0 w ho (by rw [List.length_map]; exact hl)
set_option maxRecDepth 100000 in
set_option maxHeartbeats 8000000 in
theorem walk0 (first : Int) (v : Value) (b : Nat) (xs : List (List Value)) (w : World) (hv : Rd w 17 b v xs) (hxs : ∀ x ∈ xs, IsAd x) :
    Calls Tryd.prog 8 #[.int .i64 first, v] w fun e w' => e = .returned (.bool true) ∧ Touch [] w w' := by
  have HV := Lib.hid hv
  clear hv
  go_enter Tryd.func8, Tryd.ntmps8
  go_wp2_with fail
  refine (qnew_any first w).mono ?_
  rintro e w1 ⟨rfl, p1, t1⟩
  have z1 := t1.size
  go_wp2_with fail
  refine (qnew_any first w1).mono ?_
  rintro e w2 ⟨rfl, r2, t2⟩
  have p2 := p1.touch t2 (by simp)
  have q2 := r2.older z1
  have hh : w.heap.size ≠ w1.heap.size := by
    intro e
    have := (Array.getElem?_eq_some_iff.1 p1.cell).1
    omega
  have HS2 := Lib.hid (show Sep (qfoot w.heap.size (.slice none 0 0) (.slice none 0 0)) (qfoot w1.heap.size (.slice none 0 0) (.slice none 0 0)) from by
    intro g hg hm
    simp [qfoot, Value.ownBlock] at hg hm
    omega)
  have HP2 := Lib.hid p2
  have HQ2 := Lib.hid q2
  have HT2 := Lib.hid (t1.trans t2 (by simp))
  have zw2 : w.heap.size ≤ w2.heap.size := HT2.out.size
  obtain ⟨h1, hh1⟩ : ∃ h1, h1 = w.heap.size := ⟨_, rfl⟩
  obtain ⟨h2, hh2⟩ : ∃ h2, h2 = w1.heap.size := ⟨_, rfl⟩
  rw [← hh1] at HS2 HP2 ⊢
  rw [← hh2] at HS2 HQ2 ⊢
  clear hh1 hh2
  clear p1 t1 z1 r2 t2 p2 q2 hh
  have HSA := Lib.hid (someAddrs_any v b 16 xs w2 (by omega) (HV.out.touch HT2.out (by simp)) hxs)
  go_wp2_with fail
  refine HSA.out.mono ?_
  rintro e w3 ⟨vx, ys, rfl, hys, hyl, ho, t3⟩
  obtain ⟨l, rfl⟩ := ads_of hys
  have hl16 : l.length ≤ 16 := by simpa using hyl
  obtain ⟨bx, hrx, hbx⟩ := (show OwnA w2 w3 vx l from ho).rd
  have hxn : l ≠ [] → w2.heap.size ≤ bx := by
    intro hne
    rcases hbx with e | e
    · exact ho.new _ e
    · obtain ⟨a0, c0, hv0, _, _, hat⟩ := (show OwnA w2 w3 vx l from ho).form
      obtain ⟨g, hg⟩ := hat (List.length_pos_iff.2 hne)
      rw [hv0, hg] at e
      simp [Value.ownBlock] at e
  have HXN := Lib.hid hxn
  have z3 := t3.size
  have HP3 := Lib.hid (HP2.out.touch t3 (by simp))
  have HQ3 := Lib.hid (HQ2.out.touch t3 (by simp))
  have HT3 := Lib.hid (HT2.out.trans t3 (by simp))
  have HLP := Lib.hid (below_of HP2.out)
  have HLQ := Lib.hid (below_of HQ2.out)
  have HRX := Lib.hid hrx
  have HZ := Lib.hid built_zAd
  have HSP := Lib.hid (spare2_any vx bx (l.map Ad.cells) zAd.cells w3 (by rw [List.length_map]; omega) hrx hys zAd.is)
  clear hyl ho hrx hbx hxn t3 HSA HP2 HQ2 HT2
  go_wp2_with ((with_reducible refine at_build 28 ?_); refine wpList_built (by rfl) 28 _ (by rfl) _ _ (by rfl) HZ.out ?_)
  refine HSP.out.mono ?_
  rintro e w4 ⟨g, rfl, hg3, dg, ⟨cur, hcur, hcl⟩, t4⟩
  obtain ⟨n, hn⟩ : ∃ n, n = l.length := ⟨_, rfl⟩
  simp only [List.length_map] at dg hcl ⊢
  rw [← hn] at dg hcl ⊢
  have hgl : g < w4.heap.size := (Array.getElem?_eq_some_iff.1 hcur).1
  have HP4 := Lib.hid (HP3.out.touch t4 (by simp))
  have HQ4 := Lib.hid (HQ3.out.touch t4 (by simp))
  have HT4 := Lib.hid (HT3.out.trans t4 (by simp))
  have dgn : Rd w4 17 g (.slice (some ⟨g, 0, none⟩) n (n + 3)) (l.map Ad.cells) := by
    have h0 := dg.take n (by simp; omega)
    rw [List.take_left' (by rw [List.length_map, hn])] at h0
    exact h0
  have hgp : ∀ x ∈ qfoot h1 (.slice none 0 0) (.slice none 0 0), x < w2.heap.size := HLP.out
  have hgq : ∀ x ∈ qfoot h2 (.slice none 0 0) (.slice none 0 0), x < w2.heap.size := HLQ.out
  have hh1 : h1 < w2.heap.size := hgp h1 (by simp [qfoot])
  have hh2 : h2 < w2.heap.size := hgq h2 (by simp [qfoot])
  have HAP := Lib.hid (qadd_any w w4 h1 _ _ first [] [] HP4.out HT4.out.size (.slice (some ⟨g, 0, none⟩) n (n + 3)) g l dgn (fun _ hm => by have := hgp g hm; omega) (by simp; omega))
  have HRX4 := Lib.hid (HRX.out.touch t4 (by simp))
  have HDG := Lib.hid dg
  have HCU := Lib.hid hcur
  have HCL := Lib.hid hcl
  have HN := Lib.hid hn
  have z4 := t4.size
  have HGW := Lib.hid (show w.heap.size ≤ g from Nat.le_trans zw2 (Nat.le_trans z3 hg3))
  clear dg dgn hcur hcl t4 HSP HP3 HQ3 HT3 HRX hn hgp hgq
  go_wp2_with fail
  refine HAP.out.mono ?_
  rintro e w5 ⟨va, rfl, q5, t5, hv5⟩
  have HP5 := Lib.hid q5
  have HT5 := Lib.hid (HP4.out.out HT4.out t5 (foot_add h1 _ _))
  have hS5 : Sep (qfoot h1 va (.slice none 0 0)) (qfoot h2 (.slice none 0 0) (.slice none 0 0)) := HS2.out.grow (n := w2.heap.size) HLQ.out (fun x hx => by rcases foot_new_add hv5 x hx with e | e; exact .inl e; exact .inr (by omega))
  have HQ5 := Lib.hid (HQ4.out.touch t5 (fun x hx hm => HS2.out x (foot_add h1 _ _ x hm) hx))
  have HRX5 := Lib.hid (HRX4.out.far t5 (fun hne hm => by have := HXN.out (by simpa using hne); have := HLP.out bx (foot_add h1 _ _ bx hm); omega))
  have hng : g ∉ h1 :: (Value.slice none 0 0).ownBlock.toList := by intro hm; have := HLP.out g (foot_add h1 _ _ g hm); omega
  have HDG5 := Lib.hid (HDG.out.touch t5 hng)
  have HCU5 := Lib.hid (t5.at HCU.out hng)
  have HGP := Lib.hid (show g ∉ qfoot h1 va (.slice none 0 0) from fun hm => by rcases foot_new_add hv5 g hm with e | e; (have := HLP.out g e; omega); (have := (Array.getElem?_eq_some_iff.1 HCU.out).1; omega))
  have HS5 := Lib.hid hS5
  have z5 := t5.size
  have hAl : (addL [] l).length ≤ 16 := by have := (addL_len [] l).2; simp at this; omega
  have HAQ := Lib.hid (fun W hq hz hr hf => qadd_any w W h2 (.slice none 0 0) (.slice none 0 0) first [] [] hq hz vx bx l hr hf (by simp; omega))
  generalize addL [] l = A at *
  clear q5 t5 hv5 hS5 hng HAP HP4 HQ4 HT4 HRX4 HDG HCU HS2 HLP
  go_wp2_with fail
  refine (HAQ.out w5 HQ5.out HT5.out.size HRX5.out (fun hne hm => by have := HXN.out hne; have := HLQ.out bx hm; omega)).mono ?_
  rintro e w6 ⟨ua, rfl, q6, t6, hv6⟩
  have HQ6 := Lib.hid q6
  have HT6 := Lib.hid (HQ5.out.out HT5.out t6 (foot_add h2 _ _))
  have HLP5 := Lib.hid (below_of HP5.out)
  have HS6 := Lib.hid (show Sep (qfoot h1 va (.slice none 0 0)) (qfoot h2 ua (.slice none 0 0)) from (HS5.out.symm.grow (n := w5.heap.size) HLP5.out (foot_new_add hv6)).symm)
  have HP6 := Lib.hid (HP5.out.touch t6 (fun x hx hm => HS5.out x hx (foot_add h2 _ _ x hm)))
  have HRX6 := Lib.hid (HRX5.out.far t6 (fun hne hm => by have := HXN.out (by simpa using hne); have := HLQ.out bx (foot_add h2 _ _ bx hm); omega))
  have hng : g ∉ h2 :: (Value.slice none 0 0).ownBlock.toList := by intro hm; have := HLQ.out g (foot_add h2 _ _ g hm); omega
  have HDG6 := Lib.hid (HDG5.out.touch t6 hng)
  have HCU6 := Lib.hid (t6.at HCU5.out hng)
  have HGQ := Lib.hid (show g ∉ qfoot h2 ua (.slice none 0 0) from fun hm => by rcases foot_new_add hv6 g hm with e | e; (have := HLQ.out g e; omega); (have := (Array.getElem?_eq_some_iff.1 HCU5.out).1; omega))
  clear q6 t6 hv6 hng HAQ HP5 HQ5 HT5 HRX5 HDG5 HCU5 HS5 HLP5 HLQ HXN
  have hlm : (l.map Ad.cells).length ≤ 100 := by rw [List.length_map]; omega
  have HUN := Lib.hid (unchanged_any g bx vx (l.map Ad.cells) zAd.cells w6 hlm (by rw [List.length_map, ← HN.out]; exact HDG6.out) HRX6.out hys zAd.is)
  simp only [List.length_map] at HUN
  rw [← HN.out] at HUN
  clear hlm
  go_wp2_with ((with_reducible refine at_build 28 ?_); refine wpList_built (by rfl) 28 _ (by rfl) _ _ (by rfl) HZ.out ?_)
  refine HUN.out.mono ?_
  rintro e w7 ⟨rfl, t7⟩
  have HP7 := Lib.hid (HP6.out.touch t7 (by simp))
  have HQ7 := Lib.hid (HQ6.out.touch t7 (by simp))
  have HT7 := Lib.hid (HT6.out.trans t7 (by simp))
  have HCU7 := Lib.hid (t7.at HCU6.out (by simp))
  clear t7 HUN HP6 HQ6 HT6 HRX6 HDG6 HCU6
  have hn16 : n ≤ 16 := by rw [HN.out]; exact hl16
  have HOV := Lib.hid (over_raw g n (n + 3) cur w7 HCU7.out (by have := HCL.out; omega) (by omega) (by omega) (by omega))
  go_wp2_with fail
  refine HOV.out.mono ?_
  rintro e w8 ⟨rfl, t8⟩
  have HP8 := Lib.hid (HP7.out.touch t8 (fun x hx hm => by simp at hm; subst hm; exact HGP.out hx))
  have HQ8 := Lib.hid (HQ7.out.touch t8 (fun x hx hm => by simp at hm; subst hm; exact HGQ.out hx))
  have HT8 := Lib.hid (HT7.out.trans t8 (by intro y hy; right; simp at hy; have := HGW.out; omega))
  clear t8 HOV HP7 HQ7 HT7 HCU7
  have HTP := Lib.hid (qtake_any w w8 h1 va _ first A [] HP8.out HT8.out.size (by omega) (by simp))
  go_wp2_with fail
  refine HTP.out.mono ?_
  rintro e w9 ⟨rfl, vt, p9, t9, hv9⟩
  have HT9 := Lib.hid (HP8.out.out HT8.out t9 (foot_take h1 _ _))
  have HLQ8 := Lib.hid (below_of HQ8.out)
  have HS9 := Lib.hid (HS6.out.grow (n := w8.heap.size) HLQ8.out (foot_new_take hv9))
  have HQ9 := Lib.hid (HQ8.out.touch t9 (fun x hx hm => HS6.out x (foot_take h1 _ _ x hm) hx))
  have HKL := Lib.hid (show (if (remP first A []).isEmpty then ([] : List Nat) else takeK A [] (headA (remP first A []))).length ≤ 1 from by split <;> simp [takeK])
  have HTQ := Lib.hid (fun W hq hz => qtake_any w W h2 ua (.slice none 0 0) first A [] hq hz (by omega) (by simp))
  generalize (if (remP first A []).isEmpty then ([] : List Nat) else takeK A [] (headA (remP first A []))) = K at *
  have HP9 := Lib.hid p9
  clear p9 t9 hv9 HTP HP8 HQ8 HT8 HLQ8 HS6
  go_wp2_with fail
  refine (HTQ.out w9 HQ9.out HT9.out.size).mono ?_
  rintro e w10 ⟨rfl, ut, q10, t10, hv10⟩
  have HT10 := Lib.hid (HQ9.out.out HT9.out t10 (foot_take h2 _ _))
  have HP10 := Lib.hid (HP9.out.touch t10 (fun x hx hm => HS9.out x hx (foot_take h2 _ _ x hm)))
  have HQ10 := Lib.hid q10
  have hkl := HKL.out
  clear q10 t10 hv10 HTQ HP9 HQ9 HT9 HS9
  have HR := Lib.hid (qrem_any w w10 h1 va vt first A K HP10.out (by omega))
  have hrl := remP_len first A K
  have hkl2 := tkn_len A K
  go_wp2_with fail
  refine HR.out.mono ?_
  rintro e w11 ⟨vr, rfl, o11, t11⟩
  have HO := Lib.hid (overA w10 w11 vr (remP first A K) o11 (by omega))
  have HP11 := Lib.hid (HP10.out.touch t11 (by simp))
  have HQ11 := Lib.hid (HQ10.out.touch t11 (by simp))
  have HT11 := Lib.hid (HT10.out.trans t11 (by simp))
  have HNW := Lib.hid (show ∀ x, x < w10.heap.size → x ∉ vr.ownBlock.toList from fun x hx hm => by have := o11.new x (by simpa using hm); omega)
  have hz10 : w.heap.size ≤ w10.heap.size := HT10.out.size
  clear o11 t11 HR
  go_wp2_with fail
  refine HO.out.mono ?_
  rintro e w12 ⟨rfl, t12⟩
  have HP12 := Lib.hid (HP11.out.touch t12 (fun x hx hm => HNW.out x (below_of HP10.out x hx) hm))
  have HQ12 := Lib.hid (HQ11.out.touch t12 (fun x hx hm => HNW.out x (below_of HQ10.out x hx) hm))
  have HT12 := Lib.hid (HT11.out.trans t12 (fun x hm => .inr (by rcases Nat.lt_or_ge x w10.heap.size with h | h; exact absurd hm (HNW.out x h); omega)))
  clear t12 HO HNW HP11 HQ11 HT11 HP10 HQ10 HT10
  have HR := Lib.hid (qtaken_any w w12 h1 va vt first A K HP12.out (by omega))
  go_wp2_with fail
  refine HR.out.mono ?_
  rintro e w13 ⟨vk, rfl, o13, t13⟩
  have HO := Lib.hid (overA w12 w13 vk (tknP A K) o13 (by omega))
  have HP13 := Lib.hid (HP12.out.touch t13 (by simp))
  have HQ13 := Lib.hid (HQ12.out.touch t13 (by simp))
  have HT13 := Lib.hid (HT12.out.trans t13 (by simp))
  have HNW := Lib.hid (show ∀ x, x < w12.heap.size → x ∉ vk.ownBlock.toList from fun x hx hm => by have := o13.new x (by simpa using hm); omega)
  have hz12 : w.heap.size ≤ w12.heap.size := HT12.out.size
  clear o13 t13 HR
  go_wp2_with fail
  refine HO.out.mono ?_
  rintro e w14 ⟨rfl, t14⟩
  have HP14 := Lib.hid (HP13.out.touch t14 (fun x hx hm => HNW.out x (below_of HP12.out x hx) hm))
  have HQ14 := Lib.hid (HQ13.out.touch t14 (fun x hx hm => HNW.out x (below_of HQ12.out x hx) hm))
  have HT14 := Lib.hid (HT13.out.trans t14 (fun x hm => .inr (by rcases Nat.lt_or_ge x w12.heap.size with h | h; exact absurd hm (HNW.out x h); omega)))
  clear t14 HO HNW HP13 HQ13 HT13 HP12 HQ12 HT12
  go_wp2_with fail
  refine (awake28_ok _).mono ?_
  rintro e w15 ⟨rfl, t15⟩
  have HP15 := Lib.hid (HP14.out.touch t15 (by simp))
  have HQ15 := Lib.hid (HQ14.out.touch t15 (by simp))
  have HT15 := Lib.hid (HT14.out.trans t15 (by simp))
  clear t15 HP14 HQ14 HT14
  have HR1 := Lib.hid (qrem_any w w15 h1 va vt first A K HP15.out (by omega))
  go_wp2_with fail
  refine HR1.out.mono ?_
  rintro e w16 ⟨v16, rfl, o16, t16⟩
  have HQ16 := Lib.hid (HQ15.out.touch t16 (by simp))
  have HP16 := Lib.hid (HP15.out.touch t16 (by simp))
  have HT16 := Lib.hid (HT15.out.trans t16 (by simp))
  obtain ⟨b16, r16, _⟩ := (show OwnA w15 w16 v16 _ from o16).rd
  have HR16 := Lib.hid r16
  have HR2 := Lib.hid (qrem_any w w16 h2 ua ut first A K HQ16.out (by omega))
  clear o16 t16 r16 HR1 HP15 HQ15 HT15
  go_wp2_with fail
  refine HR2.out.mono ?_
  rintro e w17 ⟨v17, rfl, o17, t17⟩
  obtain ⟨b17, r17, _⟩ := (show OwnA w16 w17 v17 _ from o17).rd
  have HQ17 := Lib.hid (HQ16.out.touch t17 (by simp))
  have HP17 := Lib.hid (HP16.out.touch t17 (by simp))
  have HT17 := Lib.hid (HT16.out.trans t17 (by simp))
  have HEQ := Lib.hid (equalTQ v16 v17 b16 b17 (remP first A K) w17 (HR16.out.touch t17 (by simp)) r17)
  clear o17 t17 r17 HR2 HP16 HQ16 HT16 HR16
  go_wp2_with fail
  refine HEQ.out.mono ?_
  rintro e w18 ⟨rfl, t18⟩
  have HQ18 := Lib.hid (HQ17.out.touch t18 (by simp))
  have HP18 := Lib.hid (HP17.out.touch t18 (by simp))
  have HT18 := Lib.hid (HT17.out.trans t18 (by simp))
  have HR3 := Lib.hid (qtaken_any w w18 h1 va vt first A K HP18.out (by omega))
  clear t18 HEQ HP17 HQ17 HT17
  go_wp2_with fail
  refine HR3.out.mono ?_
  rintro e w19 ⟨v19, rfl, o19, t19⟩
  obtain ⟨b19, r19, _⟩ := (show OwnA w18 w19 v19 _ from o19).rd
  have HR19 := Lib.hid r19
  have HQ19 := Lib.hid (HQ18.out.touch t19 (by simp))
  have HT19 := Lib.hid (HT18.out.trans t19 (by simp))
  have HR4 := Lib.hid (qtaken_any w w19 h2 ua ut first A K HQ19.out (by omega))
  clear o19 t19 r19 HR3 HP18 HQ18 HT18
  go_wp2_with fail
  refine HR4.out.mono ?_
  rintro e w20 ⟨v20, rfl, o20, t20⟩
  obtain ⟨b20, r20, _⟩ := (show OwnA w19 w20 v20 _ from o20).rd
  have HT20 := Lib.hid (HT19.out.trans t20 (by simp))
  have HEQ := Lib.hid (equalTQ v19 v20 b19 b20 (tknP A K) w20 (HR19.out.touch t20 (by simp)) r20)
  clear o20 t20 r20 HR4 HQ19 HT19 HR19
  go_wp2_with fail
  refine HEQ.out.mono ?_
  rintro e w21 ⟨rfl, t21⟩
  have HT21 := Lib.hid (HT20.out.trans t21 (by simp))
  clear t21 HEQ HT20
  go_wp2_with fail
  go_ret
  exact ⟨rfl, HT21.out⟩
theorem walk {H : Type} {enc : TypeId × Value → H} {w : World} (a : Int) (hw : (Lit.int .i64 a).wf = true) (v : Value) (hv : IsSlice enc Tryd.prog w 0 (fun _ => true) true [4, 5, 5, 5, 5, 5, 5, 5, 5, 5, 5, 5, 5, 5, 5, 5, 5] v) :
    Calls Tryd.prog 8 #[.int .i64 a, v] w fun e w' => e = .returned (.bool true) ∧ Below w.heap.size w w' := by
  obtain ⟨b, xs, hr, hx⟩ := slice_rows (by simp) hv
  exact (walk0 a v b xs w hr (fun x h => isAd_cells (hx x h))).mono fun e w' ⟨h1, h2⟩ => ⟨h1, h2.below (by simp) (Nat.le_refl _)⟩
end Go.Proofs.YtiklhaajhdephaaDoor.candidatesDoNotAlias

/-
  The statement 'CandidatesDoNotAliasSaid' of the seat: the frame of the row round the walk of the law's Go function (YtiklhaajhdephaaDoorW6): for every input the call returns true and each argument reads as it did.
-/
namespace Go.Proofs.YtiklhaajhdephaaDoor.candidatesDoNotAlias
open Go.ChangeShapes Go.WideShapes Go.Deep Go.ChangeAt Go.RowKit
open Go.ChangeMaps (open_string shut_string)
set_option linter.unusedVariables false

theorem own : ownKnob Tryd.prog.godebug = none := by kernel_rfl
theorem laidOut : laidOutB Tryd.prog = true := by kernel_rfl

set_option maxRecDepth 100000 in
theorem lifted (os : Os) (started : os.Started) (H : Type) (enc : TypeId × Value → H) :
    ReturnsInHanded {} Tryd.checked os 8 .any (fun w args => (Rows.candidatesDoNotAliasSpec.pre enc Tryd.prog Tryd.f8 Rows.candidatesDoNotAliasRow.domain false w args ∧ laidMetH Tryd.prog Rows.candidatesDoNotAliasRow.laid w) ∧ sizedMet enc Tryd.prog Tryd.f8 (OpenSpec.ofChange Rows.candidatesDoNotAliasSpec) false w args)
      (Rows.candidatesDoNotAliasSpec.post enc Tryd.prog Tryd.f8 false true false false) := by
  refine returnsInHanded_of_change_and (C := Tryd.checked) (X := fun w _ => laidMetH Tryd.prog Rows.candidatesDoNotAliasRow.laid w) (fun _ _ _ hh h => h.of_heap hh) own started (by kernel_rfl) Tryd.func8
    (ChangeSpec.witness_shaped (enc := enc) (C := Tryd.checked) (os := os) (X := fun w _ => laidMetH Tryd.prog Rows.candidatesDoNotAliasRow.laid w) false (World.laidAll Tryd.prog os Rows.candidatesDoNotAliasRow.laid) #[.int .i64 0, .slice none 0 0] 8 (World.laidAll_os _ _ _)
      (World.shaped_of_ZipB (by kernel_rfl) (by kernel_rfl)) (by kernel_rfl) (by kernel_rfl) (by kernel_rfl)
      (by rw [MakeChecks.laidMetH_plain _ _ _ (by kernel_rfl)]; exact laidMet_laidAll _ (by kernel_rfl) (by kernel_rfl))) ?_
  intro W base args ds gs before hval0 hW hcnd hsz0 hL _
  have hval : ∀ (j : Nat) t v, Tryd.f8.params[j]? = some t → args[j]? = some v → Value.okWide Tryd.prog W .any base t v := hval0
  have hW' := hW
  obtain ⟨p, q, hA0, hV, rfl, hfz, hnd⟩ := hW
  have hA : DataW.TrodAll enc Tryd.prog W 0 (fun _ => true) true Tryd.f8.params.toList args.toList ds p := hA0
  rw [Tryd.params8] at hA hval
  obtain ⟨v0, vs0, d0, ds0, p0, q0, hargs, rfl, rfl, h0, r0⟩ := trodAll_cons hA
  obtain ⟨v1, vs1, d1, ds1, p1, q1, rfl, rfl, rfl, h1, r1⟩ := trodAll_cons r0
  obtain ⟨rfl, rfl, rfl⟩ := trodAll_nil r1
  obtain rfl : args = #[v0, v1] := by cases args; simp_all
  obtain ⟨rfl, rfl⟩ := trodVars_none hV
  have k0 := h0
  have lt0 : ∀ x ∈ p0, x.block < W.heap.size := by obtain ⟨m, hm⟩ := k0; exact DataW.trod_lt m _ _ _ hm
  have k1 := h1
  have lt1 : ∀ x ∈ p1, x.block < W.heap.size := by obtain ⟨m, hm⟩ := k1; exact DataW.trod_lt m _ _ _ hm
  obtain ⟨a0, rfl, e0, ee0, w0⟩ := open_int Tryd.underlying3 (hval 0 3 v0 rfl rfl) h0
  obtain ⟨b1, len1, cap1, hv1⟩ := okWide_slice Tryd.underlying22 (hval 1 22 v1 rfl rfl)
  have s1 : IsSlice enc Tryd.prog W 0 (fun _ => true) true [4, 5, 5, 5, 5, 5, 5, 5, 5, 5, 5, 5, 5, 5, 5, 5, 5] v1 := by
    obtain ⟨fuel, hf⟩ := h1
    rw [hv1] at hf ⊢
    exact slice_ok (d := 8) Tryd.underlying22 (by kernel_rfl) (by kernel_rfl) (by simpa [Value.cells] using hf)
  clear hA0 hval0
  refine (walk (H := H) (enc := enc) (w := W) a0 w0 v1 s1).mono fun e W' ⟨he, bel⟩ => ?_
  subst he
  exact ⟨_, rfl, _, _, _, [], _, [], hW', trodAll_mk1 (shut_bool Tryd.underlying4 _), (trodAll_cons_mk (Below.trod laidOut (by kernel_rfl) (of_decide_eq_true (by kernel_rfl)) k0 bel lt0) (trodAll_cons_mk (Below.trod laidOut (by kernel_rfl) (of_decide_eq_true (by kernel_rfl)) k1 bel lt1) trodAll_mk0)), rfl, bel.frame _, fun h => by cases h⟩

theorem over : Rows.candidatesDoNotAliasRow.holds Tryd.pinned (OpenSpec.ofChange Rows.candidatesDoNotAliasSpec) :=
  OpenClaim.holds_of_wide 8 Tryd.f8 rfl rfl rfl rfl rfl rfl rfl ⟨rfl, rfl, rfl, rfl, rfl⟩ rfl rfl rfl rfl rfl (by kernel_rfl) Tryd.func8 (by kernel_rfl)
    (of_decide_eq_true (by kernel_rfl)) (by unfold Func.isWrapper; first | (rw [if_pos (by decide +kernel)]; kernel_rfl) | (rw [if_neg (by decide +kernel)]; exact ⟨rfl, rfl⟩))
    (fun os started H enc _ => lifted os started H enc)

theorem proved : Rows.CandidatesDoNotAliasCardSaid :=
  Claim7.holds_tied_plain_at .later [] [.data, .pinned] true (true, "5befad24a3e9b3d9c688acd4ea44020d752db1b22d3d70f9edc34305006425d2") false over (fun _ h => by cases h) (by kernel_rfl) (fun _ h => by cases h) candidatesDoNotAlias_row_tie rfl ⟨rfl, rfl⟩ (by kernel_rfl) rfl
    (fun f fn hf hfn => by
      obtain rfl : f = 8 := Option.some.inj ((show Tryd.prog.funcNamed "ginnel/ginnellaw28.CandidatesDoNotAlias" = some 8 by kernel_rfl).symm.trans hf) |>.symm
      obtain rfl : fn = Tryd.f8 := (Option.some.inj (Tryd.func8.symm.trans hfn)).symm
      exact ⟨by kernel_rfl, fun j t ht => by
        rw [Tryd.params8] at ht
        have hm : t ∈ [3, 22] := by simpa using Array.mem_of_getElem? ht
        have hall : ([3, 22].all fun u => !Tryd.prog.wantsStandIn u) = true := by kernel_rfl
        exact (show Tryd.prog.wantsStandIn t = false by simpa using List.all_eq_true.1 hall t hm)⟩)
    (by kernel_rfl)
#print axioms proved
end Go.Proofs.YtiklhaajhdephaaDoor.candidatesDoNotAlias

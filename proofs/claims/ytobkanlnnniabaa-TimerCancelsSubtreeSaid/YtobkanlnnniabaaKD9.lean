/-
  The statement 'TimerCancelsSubtreeSaid' of the seat: the frame of the row round the walk of the law's Go function (YtobkanlnnniabaaW5): for every input the call returns true and each argument reads as it did.
-/
import Derived.Test.YtobkanlnnniabaaKD8
import Derived.Deep.OwnRows
import Derived.WalkKit
import Derived.ProofKit
import Derived.OpenShut
import Derived.ShutString
import Derived.ChangeOld
import Derived.Below

/-
  The walk of TimerCancelsSubtree: true at every slice of numbers and number. No condition.
-/
namespace Go.Proofs.Ytobkanlnnniabaa
open Go.ChangeShapes Go.WideShapes Go.RowKit
set_option linter.unusedVariables false
set_option linter.unusedSimpArgs false

/-- A tree as it was grown: the parents in a list. -/
structure Grw (N : List Tm) (ov : List Int) (m : Nat) : Prop where
  len : N.length = m
  at' : ∀ j : Nat, 1 ≤ j → j ≤ m → ∃ s ∈ N, s.id = (j : Int) ∧ ov[j]? = some s.par ∧ 0 ≤ s.par ∧ s.par < j
theorem Grw.snoc {N : List Tm} {ov : List Int} {m : Nat} (k : Grw N ov m) {t : Tm} {p : Int} (h1 : t.id = (m : Int) + 1) (h2 : t.par = p) (h3 : 0 ≤ p) (h4 : p < (m : Int) + 1) (hl : m + 1 < ov.length) : Grw (N ++ [t]) (ov.set (m + 1) p) (m + 1) := by
  refine ⟨by simp [k.len], fun j hj hm => ?_⟩
  by_cases e : j = m + 1
  · subst e
    exact ⟨t, by simp, by omega, by rw [List.getElem?_set_self hl, h2], by omega, by omega⟩
  · obtain ⟨s, hs, e1, e2, e3, e4⟩ := k.at' j hj (by omega)
    exact ⟨s, List.mem_append.2 (.inl hs), e1, by rw [List.getElem?_set_ne (by omega)]; exact e2, e3, e4⟩
theorem Grw.tid {N : List Tm} {ov : List Int} {m : Nat} (k : Grw N ov m) {i : Int} (h1 : 1 ≤ i) (h2 : i ≤ m) : i ∈ tids N := by
  obtain ⟨j, rfl⟩ := Int.eq_ofNat_of_zero_le (by omega : 0 ≤ i)
  obtain ⟨s, hs, e1, _⟩ := k.at' j (by omega) (by omega)
  exact List.mem_map.2 ⟨s, hs, e1⟩
theorem set_ov (w : World) (u k : Nat) (s : List Int) (b : Int) (h : w.heap[u]? = some (.cells (s.map (Value.int .i64)).toArray 3 (0, 0))) :
    (w.setCell ⟨u, k, none⟩ (.int .i64 b)).heap[u]? = some (.cells ((s.set k b).map (Value.int .i64)).toArray 3 (0, 0)) := by
  simp [World.setCell, Array.getElem?_modify, h, List.map_set]
theorem ov_cell {w : World} {u : Nat} {s : List Int} (h : w.heap[u]? = some (.cells (s.map (Value.int .i64)).toArray 3 (0, 0))) {j : Nat} {x : Int} (hj : s[j]? = some x) : w.cell? ⟨u, j, none⟩ = some (.int .i64 x) := by
  simp [World.cell?, h, hj]
theorem ov_frozen {w : World} {u : Nat} {s : List Int} (h : w.heap[u]? = some (.cells (s.map (Value.int .i64)).toArray 3 (0, 0))) (j : Nat) : w.frozen? ⟨u, j, none⟩ = false := by
  simp [World.frozen?, h]
def St5 (w wr : World) (t h g n i : Nat) : Prop := ∃ A ov, I.Avd w wr t h A i [g] ∧ Grw (A.map Prod.fst) ov i ∧ ov.length = n + 1 ∧ wr.heap[g]? = some (.cells (ov.map (Value.int .i64)).toArray 3 (0, 0))
theorem made_zero (n : Nat) : madeCells #[Value.int .i64 0] n = ((List.replicate n (0 : Int)).map (Value.int .i64)).toArray := by
  apply Array.toList_inj.1
  rw [toList_madeCells_one]
  simp
theorem info3z : (Try.prog.info? 3).map (fun i => (i.zero, i.size, i.bytes)) = some (some (.int .i64 0), 1, 8) := by kernel_rfl
set_option maxRecDepth 100000 in
set_option maxHeartbeats 4000000 in
theorem walk5 (v : Value) (b : Nat) (l : List Int) (gone : Int) (w : World) (hr : Rd w 1 b v (l.map encN)) (hl : ∀ x ∈ l, okK x) (hg : okK gone) :
    Calls Try.prog 5 #[v, .int .i64 gone] w fun e w' => e = .returned (.bool true) ∧ Touch [] w w' := by
  obtain ⟨a, cap, rfl, hc, hm⟩ := hr.form
  rw [List.length_map] at hc hr ⊢
  obtain ⟨n, hn⟩ : ∃ n, n = min l.length 40 := ⟨_, rfl⟩
  have hn60 : n ≤ 40 := by omega
  have hnl : n ≤ l.length := by omega
  have HG := Lib.hid hg
  obtain ⟨i3, hi3, hzz⟩ := Option.map_eq_some_iff.1 info3z
  simp only [Prod.mk.injEq] at hzz
  obtain ⟨hz3, hs3, hb3⟩ := hzz
  have hnI : min (l.length : Int) 40 = (n : Int) := by omega
  have hw1 : IntKind.i64.wrap ((n : Int) + 1) = ((n + 1 : Nat) : Int) := by rw [IntKind.wrap_i64] <;> omega
  have HN := Lib.hid hn
  clear hg hn
  go_enter Try.func5, Try.ntmps5
  go_wp2_with fail
  refine (I.Abv.new w).mono ?_
  rintro e w1 ⟨t, h, rfl, k1⟩
  have H1 := Lib.hid k1
  clear k1
  go_wp2_with fail
  have hmk := run_make_row' (P := Try.prog) 33 3 (.int .i64 0) 8 Try.underlying33 info3z rfl .i64 .i64 (n + 1) (by omega) (by omega) w1
  rw [show ((n + 1 : Nat) : Int) = (n : Int) + 1 by omega, made_zero] at hmk
  rw [hmk]
  have hg0 := heap_alloc_new w1 (.cells ((List.replicate (n + 1) (0 : Int)).map (Value.int .i64)).toArray 3)
  have tA := (Touch.refl [] w1).alloc (.cells ((List.replicate (n + 1) (0 : Int)).map (Value.int .i64)).toArray 3)
  have zA : (w1.alloc (.cells ((List.replicate (n + 1) (0 : Int)).map (Value.int .i64)).toArray 3)).heap.size = w1.heap.size + 1 := by simp
  have HS0 := Lib.hid (show St5 w (w1.alloc (.cells ((List.replicate (n + 1) (0 : Int)).map (Value.int .i64)).toArray 3)) t h w1.heap.size n 0 from ⟨[], _, H1.out.avoid tA (by intro g hg; simp at hg; subst hg; omega), ⟨rfl, fun j h1 h2 => absurd h2 (by omega)⟩, by simp, hg0⟩)
  clear hmk hg0 tA zA
  generalize w1.alloc (.cells ((List.replicate (n + 1) (0 : Int)).map (Value.int .i64)).toArray 3) = w2 at *
  generalize w1.heap.size = g at *
  go_wp2_with fail
  go_loopw [8] (fun vi wr => ∃ (i : Nat), vi = .int .i64 i ∧ i ≤ n ∧ St5 w wr t h g n i) (fun vi _ => n - (intOf vi).toNat)
  case atStart => exact ⟨0, rfl, by omega, HS0.out⟩
  case round =>
    obtain ⟨i, rfl, hin, A, ov, ha, hgw, hol, hcg⟩ := hrel
    have HA := Lib.hid ha
    have HGW := Lib.hid hgw
    have HCG := Lib.hid hcg
    clear ha hgw hcg
    by_cases hlt : i < n
    · have hx : l[i]? = some l[i] := List.getElem?_eq_getElem (by omega)
      generalize l[i] = x at hx
      obtain ⟨off, rfl, p1⟩ := rd_i64 (hr.touch HA.out.tt (by simp)) hx
      have hwi : IntKind.i64.wrap ((i : Int) + 1) = (i : Int) + 1 := by rw [IntKind.wrap_i64] <;> omega
      have hwu : IntKind.u64.wrap (i : Int) = (i : Int) := by rw [IntKind.wrap_u64] <;> omega
      have hb1 : (i : Int) < (l.length : Int) := by omega
      have hb2 : (i : Int) < (n : Int) := by omega
      have hb3 : (i : Int) + 1 < (n : Int) + 1 := by omega
      have g1 := gmod_lo x ((i : Int) + 1) (by omega)
      have g2 := gmod_hi x ((i : Int) + 1) (by omega)
      have f1 := ov_frozen HCG.out (i + 1)
      have ho1 : ov[i + 1]? = some ov[i + 1] := List.getElem?_eq_getElem (by omega)
      have c1 := ov_cell HCG.out ho1
      generalize ov[i + 1] = y at ho1 c1
      have hal := HGW.out.len
      rw [List.length_map] at hal
      have tS := (Touch.refl [g] wr).setCell (p := ⟨g, i + 1, none⟩) (by simp) (.int .i64 (gmod x ((i : Int) + 1)))
      have zS : (wr.setCell ⟨g, i + 1, none⟩ (.int .i64 (gmod x ((i : Int) + 1)))).heap.size = wr.heap.size := by simp [World.setCell]
      have HA2 := Lib.hid (HA.out.other (G' := [g]) tS (by simp) (by
        intro g' hg'
        refine ⟨.inl hg', ?_⟩
        simp at hg'
        subst hg'
        rw [zS]
        exact (Array.getElem?_eq_some_iff.1 HCG.out).1))
      have HCG2 := Lib.hid (set_ov wr g (i + 1) ov (gmod x ((i : Int) + 1)) HCG.out)
      have HPAR := Lib.hid (show gmod x ((i : Int) + 1) = 0 ∨ gmod x ((i : Int) + 1) ∈ tids (A.map Prod.fst) by
        by_cases e : gmod x ((i : Int) + 1) = 0
        · exact .inl e
        · exact .inr (HGW.out.tid (by omega) (by omega)))
      clear hx tS zS ho1
      go_wp2_with fail
      refine (mod_any x ((i : Int) + 1) _ (by omega) (by omega)).mono ?_
      rintro e w3 ⟨rfl, rfl⟩
      go_wp2_with fail
      generalize wr.setCell ⟨g, i + 1, none⟩ (.int .i64 (gmod x ((i : Int) + 1))) = W3 at *
      refine (HA2.out.start (gmod x ((i : Int) + 1)) i (.int .i64 0) rfl (by unfold maxT; omega) (by omega) (by omega) HPAR.out).mono ?_
      rintro e w4 ⟨rfl, h4, h5⟩
      have H4 := Lib.hid (show St5 w w4 t h g n (i + 1) from ⟨_, _, by simpa using h4, by rw [List.map_append]; exact HGW.out.snoc rfl rfl g1 g2 (by omega), by simp [hol], h5.at (by simp) HCG2.out⟩)
      clear h4 h5 p1 c1 f1 HA2 HCG2 HPAR
      go_wp2_with fail
      go_roundw
      case rel => exact ⟨i + 1, by simp, by omega, H4.out⟩
      case measure => simp [intOf]; omega
    · have hie : i = n := by omega
      subst hie
      have hb2 : ¬ (i : Int) < (i : Int) := by omega
      by_cases hi0 : i = 0
      · subst hi0
        have h0 : (((0 : Nat) : Int) == 0) = true := rfl
        have hA0 : A = [] := by
          have := HGW.out.len
          rw [List.length_map] at this
          exact List.eq_nil_of_length_eq_zero this
        have HA0 := Lib.hid hA0
        clear hA0
        go_wp2_with fail
        refine (awake_any _).mono ?_
        rintro e w4 ⟨rfl, t5⟩
        have H5 := Lib.hid (HA.out.touch t5).1
        clear t5
        go_wp2_with fail
        refine (H5.out.cancel_no gone HG.out (by rw [HA0.out]; simp [tids])).mono ?_
        rintro e w5 ⟨rfl, h6⟩
        have T6 := Lib.hid h6.1.tt
        clear h6
        go_wp2_with fail
        go_ret
        exact ⟨rfl, T6.out⟩
      · have h0 : ((i : Int) == 0) = false := beq_eq_false_iff_ne.2 (by omega)
        have g1 := gmod_lo gone i (by omega)
        have g2 := gmod_hi gone i (by omega)
        have hwk : IntKind.i64.wrap (1 + gmod gone i) = 1 + gmod gone i := by rw [IntKind.wrap_i64] <;> omega
        go_wp2_with fail
        refine (mod_any gone i _ (by omega) (by omega)).mono ?_
        rintro e w3 ⟨rfl, rfl⟩
        go_wp2_with fail
        have hki := HGW.out.tid (i := 1 + gmod gone i) (by omega) (by omega)
        have hkl : 1 ≤ 1 + gmod gone i := by omega
        have hkh : 1 + gmod gone i ≤ i := by omega
        generalize 1 + gmod gone i = k at *
        have HKI := Lib.hid hki
        clear hki g1 g2
        refine (HA.out.desc k HKI.out).mono ?_
        rintro e w4 ⟨lu, gu, offu, capu, rfl, hsu, _, _, ⟨h4, h4k⟩, _⟩
        have H4 := Lib.hid h4
        have HCG4 := Lib.hid (h4k.at (by simp) HCG.out)
        have HSU := Lib.hid hsu
        clear h4 h4k
        go_wp2_with fail
        refine (H4.out.cancel k HKI.out).mono ?_
        rintro e w5 ⟨lc, rfl, hsc, h5, h5k⟩
        have H5 := Lib.hid h5
        have HCG5 := Lib.hid (h5k.at (by simp) HCG4.out)
        have HSC := Lib.hid hsc
        have hll := sub_len hsu hsc
        have hcl := cut_len HA.out.tree.nodup hsc
        have hal := HGW.out.len
        rw [List.length_map] at hal
        have HM := Lib.hid (fun (q : Int) (hq : q ∈ tids (A.map Prod.fst)) => cut_mem hsc hq)
        have hkn : k ∉ tids ((A.filter fun a => decide (a.1.id ∉ lc)).map Prod.fst) := fun e => (cut_mem hsc HKI.out).1 e (.self HKI.out)
        have HKN := Lib.hid hkn
        have hl1 : 0 < lc.length := (List.getElem?_eq_some_iff.1 hsc.head).1
        generalize A.filter (fun a => decide (a.1.id ∉ lc)) = A' at *
        obtain ⟨c, hc2⟩ : ∃ c, lc.length = c + 1 := ⟨lc.length - 1, by omega⟩
        have hlu : lu.length - 1 = c := by omega
        have hlc : ((lc.length : Nat) : Int) = (c : Int) + 1 := by omega
        rw [hlu, hlc]
        have hA'l : (A'.length : Int) = (i : Int) - ((c : Int) + 1) := by omega
        have HLEN := Lib.hid hA'l
        have hwm : IntKind.i64.wrap ((c : Int) + 1) = (c : Int) + 1 := by rw [IntKind.wrap_i64] <;> omega
        have hws : IntKind.i64.wrap ((i : Int) - ((c : Int) + 1)) = (i : Int) - ((c : Int) + 1) := by rw [IntKind.wrap_i64] <;> omega
        clear hlu hlc hc2 hl1 hll
        clear hsu hsc h5 h5k hcl hkn hA'l h0
        go_wp2_with fail
        go_loopw [14] (fun vj wx => ∃ (j : Nat), vj = .int .i64 ((j : Int) + 1) ∧ j ≤ i ∧ I.Avd w wx t h A' i [g] ∧ wx.heap[g]? = some (.cells (ov.map (Value.int .i64)).toArray 3 (0, 0))) (fun vj _ => i + 1 - (intOf vj).toNat)
        case atStart => exact ⟨0, rfl, by omega, H5.out, HCG5.out⟩
        case round =>
          obtain ⟨j, rfl, hji, hax, hcx⟩ := hrel
          have HAX := Lib.hid hax
          have HCX := Lib.hid hcx
          clear hax hcx
          by_cases hjl : j < i
          · have hjb : (j : Int) + 1 ≤ (i : Int) := by omega
            have hwj : IntKind.i64.wrap ((j : Int) + 1 + 1) = (j : Int) + 1 + 1 := by rw [IntKind.wrap_i64] <;> omega
            obtain ⟨s0, hs0, hid0, _⟩ := HGW.out.at' (j + 1) (by omega) (by omega)
            have hid0' : s0.id = (j : Int) + 1 := by omega
            have HT0 := Lib.hid (show (j : Int) + 1 ∈ tids (A.map Prod.fst) from List.mem_map.2 ⟨s0, hs0, hid0'⟩)
            have HZ := Lib.hid HA.out.tree.zero
            clear hs0 hid0 hid0'
            go_wp2_with fail
            go_loop [15, 16] (fun vb vq => ∃ (q : Nat) (bb : Bool), vq = .int .i64 (q : Int) ∧ vb = .bool bb ∧ q ≤ i ∧ ((bb = true ∨ Under (A.map Prod.fst) k q) ↔ Under (A.map Prod.fst) k ((j : Int) + 1))) (fun _ vq => (intOf vq).toNat)
            case atStart => exact ⟨j + 1, false, by simp, rfl, by omega, by simp⟩
            case round =>
              obtain ⟨q, bb, rfl, rfl, hqi, hiff⟩ := hrel
              have HIFF := Lib.hid hiff
              clear hiff
              by_cases hq0 : 0 < q
              · have hqb : (0 : Int) < (q : Int) := by omega
                have hqc : (q : Int) < (i : Int) + 1 := by omega
                obtain ⟨s, hs, hsid, hsp, hsp0, hspj⟩ := HGW.out.at' q (by omega) hqi
                obtain ⟨r, hr2⟩ := Int.eq_ofNat_of_zero_le hsp0
                have hui := under_iff HA.out.tree.nodup hs (k := k)
                rw [hsid, hr2] at hui
                rw [hr2] at hsp hspj
                have HUI := Lib.hid hui
                have c1 := ov_cell HCX.out hsp
                clear hs hsid hsp hsp0 hui hr2
                by_cases hb1 : bb = true
                · subst hb1
                  go_wp2_with fail
                  go_round
                  case rel => exact ⟨r, true, rfl, rfl, by omega, by simpa using HIFF.out⟩
                  case measure => simp [intOf]; omega
                · have hb1 : bb = false := by simpa using hb1
                  subst hb1
                  by_cases hqk : (q : Int) = k
                  · have hqk2 : ((q : Int) == k) = true := by simpa using hqk
                    have HQK := Lib.hid hqk
                    clear hqk
                    go_wp2_with fail
                    go_round
                    case rel => exact ⟨r, true, rfl, rfl, by omega, by have := HIFF.out; rw [HUI.out] at this; simpa [HQK.out] using this⟩
                    case measure => simp [intOf]; omega
                  · have hqk2 : ((q : Int) == k) = false := by simpa using hqk
                    have HQK := Lib.hid hqk
                    clear hqk
                    go_wp2_with fail
                    go_round
                    case rel => exact ⟨r, false, rfl, rfl, by omega, by have := HIFF.out; rw [HUI.out] at this; simpa [HQK.out] using this⟩
                    case measure => simp [intOf]; omega
              · have hq1 : q = 0 := by omega
                subst hq1
                have hqb : ¬ (0 : Int) < ((0 : Nat) : Int) := by omega
                have hun : (bb = true) ↔ Under (A.map Prod.fst) k ((j : Int) + 1) := by
                  rw [← HIFF.out]
                  constructor
                  · exact .inl
                  · rintro (e | e)
                    · exact e
                    · exact absurd (under_mem e) HZ.out
                have hmm := HM.out _ HT0.out
                rw [← hun] at hmm
                have HMM := Lib.hid hmm
                clear hun hmm
                by_cases hb1 : bb = true
                · subst hb1
                  have HNO := Lib.hid (show (j : Int) + 1 ∉ tids (A'.map Prod.fst) from fun e => HMM.out.1 e rfl)
                  go_wp2_with fail
                  refine (HAX.out.deadline_no ((j : Int) + 1) (okN_of (by omega) (by omega)) HNO.out).mono ?_
                  rintro e w6 ⟨rfl, h6, h6k⟩
                  have H6 := Lib.hid h6
                  have HC6 := Lib.hid (h6k.at (by simp) HCX.out)
                  clear h6 h6k
                  go_wp2_with fail
                  go_roundw
                  case rel => exact ⟨j + 1, by simp, by omega, H6.out, HC6.out⟩
                  case measure => simp [intOf]; omega
                · have hb1 : bb = false := by simpa using hb1
                  subst hb1
                  obtain ⟨s, hs, hsid⟩ := List.mem_map.1 (HMM.out.2 (by simp))
                  have HSS := Lib.hid hs
                  have HSI := Lib.hid hsid
                  clear hs hsid
                  go_wp2_with fail
                  rw [← HSI.out]
                  refine (HAX.out.deadline s HSS.out).mono ?_
                  rw [HSI.out]
                  rintro e w6 ⟨rfl, h6, h6k⟩
                  have H6 := Lib.hid h6
                  have HC6 := Lib.hid (h6k.at (by simp) HCX.out)
                  clear h6 h6k
                  go_wp2_with fail
                  go_roundw
                  case rel => exact ⟨j + 1, by simp, by omega, H6.out, HC6.out⟩
                  case measure => simp [intOf]; omega
          · have hje : j = i := by omega
            subst hje
            have hjb : ¬ (j : Int) + 1 ≤ (j : Int) := by omega
            go_wp2_with fail
            refine (awake_any _).mono ?_
            rintro e w6 ⟨rfl, t6⟩
            have H6 := Lib.hid (HAX.out.touch t6).1
            clear t6
            go_wp2_with fail
            refine H6.out.len.mono ?_
            rintro e w7 ⟨rfl, hw7⟩
            obtain rfl : w6 = w7 := hw7.symm
            rw [HLEN.out]
            go_wp2_with fail
            refine (H6.out.cancel_no k (okN_of (by omega) (by omega)) HKN.out).mono ?_
            rintro e w8 ⟨rfl, h8⟩
            have T8 := Lib.hid h8.1.tt
            clear h8
            go_wp2_with fail
            go_ret
            exact ⟨by simp, T8.out⟩
namespace timerCancelsSubtree
theorem walk {H : Type} {enc : TypeId × Value → H} {w : World} (v : Value) (hv : IsSlice enc Try.prog w 0 (fun _ => true) true [3] v) (gone : Int) (hn : (Lit.int .i64 gone).wf = true) :
    Calls Try.prog 5 #[v, .int .i64 gone] w fun e w' => e = .returned (.bool true) ∧ Below w.heap.size w w' := by
  obtain ⟨b, l, hr, hl⟩ := i64_rows hv
  exact (walk5 v b l gone w hr hl hn).mono fun e w' ⟨h1, h2⟩ => ⟨h1, h2.below (by simp) (Nat.le_refl _)⟩
end timerCancelsSubtree
end Go.Proofs.Ytobkanlnnniabaa

/-
  The statement 'TimerCancelsSubtreeSaid' of the seat: the frame of the row round the walk of the law's Go function (YtobkanlnnniabaaW5): for every input the call returns true and each argument reads as it did.
-/
namespace Go.Proofs.Ytobkanlnnniabaa.timerCancelsSubtree
open Go.ChangeShapes Go.WideShapes Go.ChangeAt Go.RowKit
open Go.ChangeMaps (open_string shut_string)
set_option linter.unusedVariables false

theorem own : ownKnob Try.prog.godebug = none := by kernel_rfl
theorem laidOut : laidOutB Try.prog = true := by kernel_rfl

set_option maxRecDepth 100000 in
theorem lifted (os : Os) (started : os.Started) (H : Type) (enc : TypeId × Value → H) :
    ReturnsInHanded {} Try.checked os 5 .any (Rows.timerCancelsSubtreeSpec.pre6 enc Try.prog Try.f5 Rows.timerCancelsSubtreeRow.domain false) (Rows.timerCancelsSubtreeSpec.post enc Try.prog Try.f5 false true false false) := by
  refine returnsInHanded_of_change (C := Try.checked) own started (by kernel_rfl) Try.func5
    (ChangeSpec.witness6 (enc := enc) (C := Try.checked) false ⟨#[], #[.slice none 0 0, .int .i64 0], []⟩ 8 (by kernel_rfl) (by kernel_rfl) (by kernel_rfl) (by kernel_rfl)) ?_
  intro W base args ds gs before hval0 hW hcnd _
  have hval : ∀ (j : Nat) t v, Try.f5.params[j]? = some t → args[j]? = some v → Value.okWide Try.prog W .any base t v := hval0
  have hW' := hW
  obtain ⟨p, q, hA0, hV, rfl, hfz, hnd⟩ := hW
  have hA : DataW.TrodAll enc Try.prog W 0 (fun _ => true) true Try.f5.params.toList args.toList ds p := hA0
  rw [Try.params5] at hA hval
  obtain ⟨v0, vs0, d0, ds0, p0, q0, hargs, rfl, rfl, h0, r0⟩ := trodAll_cons hA
  obtain ⟨v1, vs1, d1, ds1, p1, q1, rfl, rfl, rfl, h1, r1⟩ := trodAll_cons r0
  obtain ⟨rfl, rfl, rfl⟩ := trodAll_nil r1
  obtain rfl : args = #[v0, v1] := by cases args; simp_all
  obtain ⟨rfl, rfl⟩ := trodVars_none hV
  have k0 := h0
  have lt0 : ∀ x ∈ p0, x.block < W.heap.size := by obtain ⟨m, hm⟩ := k0; exact DataW.trod_lt m _ _ _ hm
  have k1 := h1
  have lt1 : ∀ x ∈ p1, x.block < W.heap.size := by obtain ⟨m, hm⟩ := k1; exact DataW.trod_lt m _ _ _ hm
  obtain ⟨b0, len0, cap0, hv0⟩ := okWide_slice Try.underlying33 (hval 0 33 v0 rfl rfl)
  have s0 : IsSlice enc Try.prog W 0 (fun _ => true) true [3] v0 := by
    obtain ⟨fuel, hf⟩ := h0
    rw [hv0] at hf ⊢
    exact slice_ok (d := 8) Try.underlying33 (by kernel_rfl) (by kernel_rfl) (by simpa [Value.cells] using hf)
  obtain ⟨a1, rfl, e1, ee1, w1⟩ := open_int Try.underlying3 (hval 1 3 v1 rfl rfl) h1
  clear hA0 hval0
  refine (walk (H := H) (enc := enc) (w := W) v0 s0 a1 w1).mono fun e W' ⟨he, bel⟩ => ?_
  subst he
  exact ⟨_, rfl, _, _, _, [], _, [], hW', trodAll_mk1 (shut_bool Try.underlying4 _), (trodAll_cons_mk (Below.trod laidOut (by kernel_rfl) (of_decide_eq_true (by kernel_rfl)) k0 bel lt0) (trodAll_cons_mk (Below.trod laidOut (by kernel_rfl) (of_decide_eq_true (by kernel_rfl)) k1 bel lt1) trodAll_mk0)), rfl, bel.frame _, fun h => by cases h⟩

theorem over : Rows.timerCancelsSubtreeRow.holds Try.pinned (OpenSpec.ofChange Rows.timerCancelsSubtreeSpec) :=
  OpenClaim.holds_of_wide 5 Try.f5 rfl rfl rfl rfl rfl rfl rfl ⟨rfl, rfl, rfl, rfl, rfl⟩ rfl rfl rfl rfl rfl (by kernel_rfl) Try.func5 (by kernel_rfl)
    (of_decide_eq_true (by kernel_rfl)) (by unfold Func.isWrapper; first | (rw [if_pos (by decide +kernel)]; kernel_rfl) | (rw [if_neg (by decide +kernel)]; exact ⟨rfl, rfl⟩))
    (fun os started H enc _ => lifted os started H enc)

theorem proved : Rows.TimerCancelsSubtreeSaid := over
#print axioms proved
end Go.Proofs.Ytobkanlnnniabaa.timerCancelsSubtree

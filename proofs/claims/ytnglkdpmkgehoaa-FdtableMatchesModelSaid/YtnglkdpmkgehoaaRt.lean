/-
  The contracts of the reference table's transitions.
-/
import Derived.Test.YtnglkdpmkgehoaaRf
namespace Go.Proofs.Ytnglkdpmkgehoaa
open Go.RowKit
set_option linter.unusedVariables false
set_option linter.unusedSimpArgs false

theorem flatten_set {k : Nat} : ∀ (xs : List (List Value)) (i j : Nat) (x : List Value) (u : Value), (∀ y ∈ xs, y.length = k) → xs[i]? = some x → j < k → (xs.set i (x.set j u)).flatten = xs.flatten.set (i * k + j) u
  | [], i, j, x, u, _, h, _ => by simp at h
  | y :: ys, 0, j, x, u, hk, h, hj => by
    simp at h
    subst h
    have hy := hk y List.mem_cons_self
    simp only [List.set_cons_zero, List.flatten_cons, Nat.zero_mul, Nat.zero_add]
    rw [List.set_append_left _ _ (by omega)]
  | y :: ys, i + 1, j, x, u, hk, h, hj => by
    have hy := hk y List.mem_cons_self
    have := flatten_set ys i j x u (fun z hz => hk z (List.mem_cons_of_mem _ hz)) (by simpa using h) hj
    simp only [List.set_cons_succ, List.flatten_cons, this]
    rw [List.set_append_right _ _ (by rw [hy, Nat.succ_mul]; omega)]
    congr 2
    rw [hy, Nat.succ_mul]
    omega
theorem setSt_set {live : List Fd} (hn : (live.map (·.key)).Nodup) {k : Key} {f : Fd} {i : Nat} (hi : live[i]? = some f) (hf : f.key = k) (s : Int) : setSt live k s = live.set i { f with st := s } := by
  apply List.ext_getElem?
  intro j
  simp only [setSt, List.getElem?_map, List.getElem?_set]
  by_cases hij : i = j
  · subst hij
    obtain ⟨hl, rfl⟩ := List.getElem?_eq_some_iff.1 hi
    simp [hf, hl]
  · simp only [hij, if_false]
    cases hj : live[j]? with
    | none => rfl
    | some f' =>
      have : f'.key ≠ k := by
        intro e
        have e1 : (live.map (·.key))[i]? = some k := by simp [hi, hf]
        have e2 : (live.map (·.key))[j]? = some k := by simp [hj, e]
        obtain ⟨l1, q1⟩ := List.getElem?_eq_some_iff.1 e1
        obtain ⟨l2, q2⟩ := List.getElem?_eq_some_iff.1 e2
        exact hij (nodup_inj hn (q1.trans q2.symm))
      simp [this]
theorem setSt_len (live : List Fd) (k : Key) (s : Int) : (setSt live k s).length = live.length := by simp [setSt]
theorem Rf.setSt {w : World} {x g c n : Nat} {limit : Int} {live : List Fd} {total : Int} (h : Rf w x limit (.slice (some ⟨g, 0, none⟩) n c) live total) (hn : (live.map (·.key)).Nodup) {k : Key} {f : Fd} (hf : fdAt live k = some f) (s : Int) :
    Rf (w.setCell ⟨g, fdIx live k * 4 + 3, none⟩ (.int .i64 s)) x limit (.slice (some ⟨g, 0, none⟩) n c) (setSt live k s) total ∧ Touch [g] w (w.setCell ⟨g, fdIx live k * 4 + 3, none⟩ (.int .i64 s)) := by
  have hi : live[fdIx live k]? = some f := by rw [← fdAt_ix]; exact hf
  have tt := (Touch.refl [g] w).setCell (p := ⟨g, fdIx live k * 4 + 3, none⟩) (by simp) (.int .i64 s)
  have hgx : x ∉ [g] := by
    have := h.ne
    simp only [Value.ownBlock, ne_eq, Option.some.injEq] at this
    simp only [List.mem_singleton]
    exact fun e => this e.symm
  refine ⟨⟨tt.at h.hdr hgx, ?_, h.ne, by rw [setSt_len]; exact h.few⟩, tt⟩
  have hnn : n = live.length := by
    obtain ⟨a', c', hv, _⟩ := owns_form h.row
    simp at hv
    exact hv.2.1
  subst hnn
  have := owns_set h.row (fdIx live k * 4 + 3) (.int .i64 s)
  rw [setSt_len, setSt_set hn hi (fdAt_some hf).2, List.map_set]
  have e1 : encF { f with st := s } = (encF f).set 3 (.int .i64 s) := rfl
  rw [e1, flatten_set (live.map encF) (fdIx live k) 3 (encF f) (.int .i64 s) (encF_all live) (by simp [hi]) (by omega)]
  exact this

set_option maxRecDepth 100000 in
set_option maxHeartbeats 1000000 in
theorem rconn_any (x : Nat) (limit : Int) (v : Value) (live : List Fd) (total c a : Int) (w : World) (h : Rf w x limit v live total) (hk : okK (c, a)) (hks : ∀ f ∈ live, okK f.key) (hn : (live.map (·.key)).Nodup) :
    Calls Try.prog 42 #[.pointer (some ⟨x, 0, none⟩), .agg #[.int .i64 c, .int .i64 a]] w fun e w' => e = .returned (.int .i64 (trErr nextConn live (c, a))) ∧ Rf w' x limit v (trLive nextConn live (c, a)) total ∧ Touch v.ownBlock.toList w w' := by
  have tA := (Touch.refl [] w).alloc (.cells #[.int .i64 c, .int .i64 a] 23)
  have hA := Lib.hid (h.touch tA (by simp))
  have hfew := h.few
  cases hf : fdAt live (c, a) with
  | none =>
    have e1 : trErr nextConn live (c, a) = 4 := by simp [trErr, hf]
    have e2 : trLive nextConn live (c, a) = live := by simp [trLive, hf]
    have hix : ¬ fdIx live (c, a) < live.length := by rw [fdAt_not hf]; omega
    rw [e1, e2]
    clear e1 e2 hf h
    go_enter Try.func42, Try.ntmps42
    go_wp2_with fail
    refine (find_any x limit v live total c a _ hA.out hk hks).mono ?_
    rintro e w1 ⟨rfl, t1⟩
    rw [if_neg hix]
    go_wp2_with fail
    go_ret
    exact ⟨rfl, hA.out.touch t1 (by simp), (tA.trans t1 (by simp)).mono (by simp)⟩
  | some f =>
    have hix := fdAt_lt hf
    have hi : live[fdIx live (c, a)]? = some f := by rw [← fdAt_ix]; exact hf
    obtain ⟨av, cv, rfl, hv1, hv2, hv3⟩ := h.form
    obtain ⟨g, rfl, hgx⟩ := hv3 (by omega)
    have ix1 : (0 : Int) ≤ (fdIx live (c, a) : Int) := by omega
    have ix2 : (fdIx live (c, a) : Int) < (live.length : Int) := by omega
    by_cases hs1 : f.st = 1
    · have e1 : trErr nextConn live (c, a) = 0 := by simp [trErr, hf, nextConn, hs1]
      have e2 : trLive nextConn live (c, a) = setSt live (c, a) 2 := by simp [trLive, hf, nextConn, hs1]
      rw [e1, e2]
      have HF := Lib.hid hf
      have HI := Lib.hid hi
      clear e1 e2 h hv3 hf hi
      go_enter Try.func42, Try.ntmps42
      go_wp2_with fail
      refine (find_any x limit _ live total c a _ hA.out hk hks).mono ?_
      rintro e w1 ⟨rfl, t1⟩
      rw [if_pos hix]
      have h1 := hA.out.touch t1 (by simp)
      obtain ⟨c0, c1, c2⟩ := h1.cells
      obtain ⟨q0, q1, q2, q3⟩ := h1.elems HI.out
      rw [hs1] at q3
      have q4 := owns_frozen h1.row (fdIx live (c, a) * 4 + 3)
      have H1 := Lib.hid h1
      clear h1 q0 q1 q2 c0 c2
      go_wp2_with fail
      go_ret
      obtain ⟨r1, r2⟩ := H1.out.setSt hn HF.out 2
      exact ⟨rfl, r1, ((tA.trans t1 (by simp)).mono (by simp)).trans r2 (by simp [Value.ownBlock])⟩
    · have b1 : (f.st == 1) = false := by simpa using hs1
      have d1 : (f.st != 1) = true := by simpa using hs1
      have e1 : trErr nextConn live (c, a) = 7 := by simp [trErr, hf, nextConn, hs1]
      have e2 : trLive nextConn live (c, a) = live := by simp [trLive, hf, nextConn, hs1]
      rw [e1, e2]
      have HF := Lib.hid hf
      have HI := Lib.hid hi
      clear e1 e2 h hv3 hf hi
      go_enter Try.func42, Try.ntmps42
      go_wp2_with fail
      refine (find_any x limit _ live total c a _ hA.out hk hks).mono ?_
      rintro e w1 ⟨rfl, t1⟩
      rw [if_pos hix]
      have h1 := hA.out.touch t1 (by simp)
      obtain ⟨c0, c1, c2⟩ := h1.cells
      obtain ⟨q0, q1, q2, q3⟩ := h1.elems HI.out
      have q4 := owns_frozen h1.row (fdIx live (c, a) * 4 + 3)
      have H1 := Lib.hid h1
      clear h1 q0 q1 q2 c0 c2
      go_wp2_with fail
      go_ret
      exact ⟨rfl, H1.out, (tA.trans t1 (by simp)).mono (by simp)⟩

set_option maxRecDepth 100000 in
set_option maxHeartbeats 1000000 in
theorem rrem_any (x : Nat) (limit : Int) (v : Value) (live : List Fd) (total c a : Int) (w : World) (h : Rf w x limit v live total) (hk : okK (c, a)) (hks : ∀ f ∈ live, okK f.key) (hn : (live.map (·.key)).Nodup) :
    Calls Try.prog 43 #[.pointer (some ⟨x, 0, none⟩), .agg #[.int .i64 c, .int .i64 a]] w fun e w' => e = .returned (.int .i64 (trErr nextRem live (c, a))) ∧ Rf w' x limit v (trLive nextRem live (c, a)) total ∧ Touch v.ownBlock.toList w w' := by
  have tA := (Touch.refl [] w).alloc (.cells #[.int .i64 c, .int .i64 a] 23)
  have hA := Lib.hid (h.touch tA (by simp))
  have hfew := h.few
  cases hf : fdAt live (c, a) with
  | none =>
    have e1 : trErr nextRem live (c, a) = 4 := by simp [trErr, hf]
    have e2 : trLive nextRem live (c, a) = live := by simp [trLive, hf]
    have hix : ¬ fdIx live (c, a) < live.length := by rw [fdAt_not hf]; omega
    rw [e1, e2]
    clear e1 e2 hf h
    go_enter Try.func43, Try.ntmps43
    go_wp2_with fail
    refine (find_any x limit v live total c a _ hA.out hk hks).mono ?_
    rintro e w1 ⟨rfl, t1⟩
    rw [if_neg hix]
    go_wp2_with fail
    go_ret
    exact ⟨rfl, hA.out.touch t1 (by simp), (tA.trans t1 (by simp)).mono (by simp)⟩
  | some f =>
    have hix := fdAt_lt hf
    have hi : live[fdIx live (c, a)]? = some f := by rw [← fdAt_ix]; exact hf
    obtain ⟨av, cv, rfl, hv1, hv2, hv3⟩ := h.form
    obtain ⟨g, rfl, hgx⟩ := hv3 (by omega)
    have ix1 : (0 : Int) ≤ (fdIx live (c, a) : Int) := by omega
    have ix2 : (fdIx live (c, a) : Int) < (live.length : Int) := by omega
    by_cases hs2 : f.st = 2
    · have e1 : trErr nextRem live (c, a) = 0 := by simp [trErr, hf, nextRem, hs2]
      have e2 : trLive nextRem live (c, a) = setSt live (c, a) 3 := by simp [trLive, hf, nextRem, hs2]
      rw [e1, e2]
      have HF := Lib.hid hf
      have HI := Lib.hid hi
      clear e1 e2 h hv3 hf hi
      go_enter Try.func43, Try.ntmps43
      go_wp2_with fail
      refine (find_any x limit _ live total c a _ hA.out hk hks).mono ?_
      rintro e w1 ⟨rfl, t1⟩
      rw [if_pos hix]
      have h1 := hA.out.touch t1 (by simp)
      obtain ⟨c0, c1, c2⟩ := h1.cells
      obtain ⟨q0, q1, q2, q3⟩ := h1.elems HI.out
      rw [hs2] at q3
      have q4 := owns_frozen h1.row (fdIx live (c, a) * 4 + 3)
      have H1 := Lib.hid h1
      clear h1 q0 q1 q2 c0 c2
      go_wp2_with fail
      go_ret
      obtain ⟨r1, r2⟩ := H1.out.setSt hn HF.out 3
      exact ⟨rfl, r1, ((tA.trans t1 (by simp)).mono (by simp)).trans r2 (by simp [Value.ownBlock])⟩
    · have b2 : (f.st == 2) = false := by simpa using hs2
      have d2 : (f.st != 2) = true := by simpa using hs2
      by_cases hs4 : f.st = 4
      · have e1 : trErr nextRem live (c, a) = 0 := by simp [trErr, hf, nextRem, hs2, hs4]
        have e2 : trLive nextRem live (c, a) = setSt live (c, a) 5 := by simp [trLive, hf, nextRem, hs2, hs4]
        rw [e1, e2]
        have HF := Lib.hid hf
        have HI := Lib.hid hi
        clear e1 e2 h hv3 hf hi
        go_enter Try.func43, Try.ntmps43
        go_wp2_with fail
        refine (find_any x limit _ live total c a _ hA.out hk hks).mono ?_
        rintro e w1 ⟨rfl, t1⟩
        rw [if_pos hix]
        have h1 := hA.out.touch t1 (by simp)
        obtain ⟨c0, c1, c2⟩ := h1.cells
        obtain ⟨q0, q1, q2, q3⟩ := h1.elems HI.out
        rw [hs4] at q3
        have q4 := owns_frozen h1.row (fdIx live (c, a) * 4 + 3)
        have H1 := Lib.hid h1
        clear h1 q0 q1 q2 c0 c2
        go_wp2_with fail
        go_ret
        obtain ⟨r1, r2⟩ := H1.out.setSt hn HF.out 5
        exact ⟨rfl, r1, ((tA.trans t1 (by simp)).mono (by simp)).trans r2 (by simp [Value.ownBlock])⟩
      · have b4 : (f.st == 4) = false := by simpa using hs4
        have d4 : (f.st != 4) = true := by simpa using hs4
        have e1 : trErr nextRem live (c, a) = 7 := by simp [trErr, hf, nextRem, hs2, hs4]
        have e2 : trLive nextRem live (c, a) = live := by simp [trLive, hf, nextRem, hs2, hs4]
        rw [e1, e2]
        have HF := Lib.hid hf
        have HI := Lib.hid hi
        clear e1 e2 h hv3 hf hi
        go_enter Try.func43, Try.ntmps43
        go_wp2_with fail
        refine (find_any x limit _ live total c a _ hA.out hk hks).mono ?_
        rintro e w1 ⟨rfl, t1⟩
        rw [if_pos hix]
        have h1 := hA.out.touch t1 (by simp)
        obtain ⟨c0, c1, c2⟩ := h1.cells
        obtain ⟨q0, q1, q2, q3⟩ := h1.elems HI.out
        have q4 := owns_frozen h1.row (fdIx live (c, a) * 4 + 3)
        have H1 := Lib.hid h1
        clear h1 q0 q1 q2 c0 c2
        go_wp2_with fail
        go_ret
        exact ⟨rfl, H1.out, (tA.trans t1 (by simp)).mono (by simp)⟩

set_option maxRecDepth 100000 in
set_option maxHeartbeats 1000000 in
theorem rloc_any (x : Nat) (limit : Int) (v : Value) (live : List Fd) (total c a : Int) (w : World) (h : Rf w x limit v live total) (hk : okK (c, a)) (hks : ∀ f ∈ live, okK f.key) (hn : (live.map (·.key)).Nodup) :
    Calls Try.prog 44 #[.pointer (some ⟨x, 0, none⟩), .agg #[.int .i64 c, .int .i64 a]] w fun e w' => e = .returned (.int .i64 (trErr nextLoc live (c, a))) ∧ Rf w' x limit v (trLive nextLoc live (c, a)) total ∧ Touch v.ownBlock.toList w w' := by
  have tA := (Touch.refl [] w).alloc (.cells #[.int .i64 c, .int .i64 a] 23)
  have hA := Lib.hid (h.touch tA (by simp))
  have hfew := h.few
  cases hf : fdAt live (c, a) with
  | none =>
    have e1 : trErr nextLoc live (c, a) = 4 := by simp [trErr, hf]
    have e2 : trLive nextLoc live (c, a) = live := by simp [trLive, hf]
    have hix : ¬ fdIx live (c, a) < live.length := by rw [fdAt_not hf]; omega
    rw [e1, e2]
    clear e1 e2 hf h
    go_enter Try.func44, Try.ntmps44
    go_wp2_with fail
    refine (find_any x limit v live total c a _ hA.out hk hks).mono ?_
    rintro e w1 ⟨rfl, t1⟩
    rw [if_neg hix]
    go_wp2_with fail
    go_ret
    exact ⟨rfl, hA.out.touch t1 (by simp), (tA.trans t1 (by simp)).mono (by simp)⟩
  | some f =>
    have hix := fdAt_lt hf
    have hi : live[fdIx live (c, a)]? = some f := by rw [← fdAt_ix]; exact hf
    obtain ⟨av, cv, rfl, hv1, hv2, hv3⟩ := h.form
    obtain ⟨g, rfl, hgx⟩ := hv3 (by omega)
    have ix1 : (0 : Int) ≤ (fdIx live (c, a) : Int) := by omega
    have ix2 : (fdIx live (c, a) : Int) < (live.length : Int) := by omega
    by_cases hs2 : f.st = 2
    · have e1 : trErr nextLoc live (c, a) = 0 := by simp [trErr, hf, nextLoc, hs2]
      have e2 : trLive nextLoc live (c, a) = setSt live (c, a) 4 := by simp [trLive, hf, nextLoc, hs2]
      rw [e1, e2]
      have HF := Lib.hid hf
      have HI := Lib.hid hi
      clear e1 e2 h hv3 hf hi
      go_enter Try.func44, Try.ntmps44
      go_wp2_with fail
      refine (find_any x limit _ live total c a _ hA.out hk hks).mono ?_
      rintro e w1 ⟨rfl, t1⟩
      rw [if_pos hix]
      have h1 := hA.out.touch t1 (by simp)
      obtain ⟨c0, c1, c2⟩ := h1.cells
      obtain ⟨q0, q1, q2, q3⟩ := h1.elems HI.out
      rw [hs2] at q3
      have q4 := owns_frozen h1.row (fdIx live (c, a) * 4 + 3)
      have H1 := Lib.hid h1
      clear h1 q0 q1 q2 c0 c2
      go_wp2_with fail
      go_ret
      obtain ⟨r1, r2⟩ := H1.out.setSt hn HF.out 4
      exact ⟨rfl, r1, ((tA.trans t1 (by simp)).mono (by simp)).trans r2 (by simp [Value.ownBlock])⟩
    · have b2 : (f.st == 2) = false := by simpa using hs2
      have d2 : (f.st != 2) = true := by simpa using hs2
      by_cases hs3 : f.st = 3
      · have e1 : trErr nextLoc live (c, a) = 0 := by simp [trErr, hf, nextLoc, hs2, hs3]
        have e2 : trLive nextLoc live (c, a) = setSt live (c, a) 5 := by simp [trLive, hf, nextLoc, hs2, hs3]
        rw [e1, e2]
        have HF := Lib.hid hf
        have HI := Lib.hid hi
        clear e1 e2 h hv3 hf hi
        go_enter Try.func44, Try.ntmps44
        go_wp2_with fail
        refine (find_any x limit _ live total c a _ hA.out hk hks).mono ?_
        rintro e w1 ⟨rfl, t1⟩
        rw [if_pos hix]
        have h1 := hA.out.touch t1 (by simp)
        obtain ⟨c0, c1, c2⟩ := h1.cells
        obtain ⟨q0, q1, q2, q3⟩ := h1.elems HI.out
        rw [hs3] at q3
        have q4 := owns_frozen h1.row (fdIx live (c, a) * 4 + 3)
        have H1 := Lib.hid h1
        clear h1 q0 q1 q2 c0 c2
        go_wp2_with fail
        go_ret
        obtain ⟨r1, r2⟩ := H1.out.setSt hn HF.out 5
        exact ⟨rfl, r1, ((tA.trans t1 (by simp)).mono (by simp)).trans r2 (by simp [Value.ownBlock])⟩
      · have b3 : (f.st == 3) = false := by simpa using hs3
        have d3 : (f.st != 3) = true := by simpa using hs3
        have e1 : trErr nextLoc live (c, a) = 7 := by simp [trErr, hf, nextLoc, hs2, hs3]
        have e2 : trLive nextLoc live (c, a) = live := by simp [trLive, hf, nextLoc, hs2, hs3]
        rw [e1, e2]
        have HF := Lib.hid hf
        have HI := Lib.hid hi
        clear e1 e2 h hv3 hf hi
        go_enter Try.func44, Try.ntmps44
        go_wp2_with fail
        refine (find_any x limit _ live total c a _ hA.out hk hks).mono ?_
        rintro e w1 ⟨rfl, t1⟩
        rw [if_pos hix]
        have h1 := hA.out.touch t1 (by simp)
        obtain ⟨c0, c1, c2⟩ := h1.cells
        obtain ⟨q0, q1, q2, q3⟩ := h1.elems HI.out
        have q4 := owns_frozen h1.row (fdIx live (c, a) * 4 + 3)
        have H1 := Lib.hid h1
        clear h1 q0 q1 q2 c0 c2
        go_wp2_with fail
        go_ret
        exact ⟨rfl, H1.out, (tA.trans t1 (by simp)).mono (by simp)⟩
end Go.Proofs.Ytnglkdpmkgehoaa

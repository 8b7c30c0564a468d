/-
  The contracts of the descriptor table's Open where it refuses, of its transitions, of Close.
-/
import Derived.Test.YtnglkdpmkgehoaaOp
namespace Go.Proofs.Ytnglkdpmkgehoaa
open Go.RowKit
set_option linter.unusedVariables false
set_option linter.unusedSimpArgs false

set_option maxRecDepth 100000 in
set_option maxHeartbeats 400000 in
theorem open_bad (t : Nat) (c a : Int) (pending : Bool) (w : World) (hv : validB c a = false) :
    Calls Try.prog 9 #[.pointer (some ⟨t, 0, none⟩), .agg #[.int .i64 c, .int .i64 a], .bool pending] w fun e w' => e = .returned (.tuple #[.int .i64 0, .int .i64 1]) ∧ Touch [] w w' := by
  have tA := (Touch.refl [] w).alloc (.cells #[.int .i64 c, .int .i64 a] 23)
  have HV := Lib.hid hv
  clear hv
  go_enter Try.func9, Try.ntmps9
  go_wp2_with fail
  refine (valid_any c a _).mono ?_
  rintro e w1 ⟨rfl, t1⟩
  rw [HV.out]
  go_wp2_with fail
  go_ret2
  exact ⟨rfl, tA.trans t1 (by simp)⟩
set_option maxRecDepth 100000 in
set_option maxHeartbeats 400000 in
theorem open_dup (t m u : Nat) (live : List Fd) (used : List Bool) (total c a : Int) (pending : Bool) (w : World) (h : Tab w t m u live used total) (hk : okK (c, a)) (hv : validB c a = true) (f : Fd) (hf : fdAt live (c, a) = some f) :
    Calls Try.prog 9 #[.pointer (some ⟨t, 0, none⟩), .agg #[.int .i64 c, .int .i64 a], .bool pending] w fun e w' => e = .returned (.tuple #[.int .i64 0, .int .i64 5]) ∧ Touch [] w w' := by
  have tA := (Touch.refl [] w).alloc (.cells #[.int .i64 c, .int .i64 a] 23)
  have bA := heap_alloc_new w (.cells #[.int .i64 c, .int .i64 a] 23)
  have HV := Lib.hid hv
  clear hv
  go_enter Try.func9, Try.ntmps9
  go_wp2_with fail
  refine (valid_any c a _).mono ?_
  rintro e w1 ⟨rfl, t1⟩
  rw [HV.out]
  have tB := tA.trans t1 (by simp)
  have h1 := h.touch tB (by simp)
  replace bA := t1.at bA (by simp)
  obtain ⟨c0, c1, c2⟩ := h1.cells
  have b0 : w1.cell? ⟨w.heap.size, 0, none⟩ = some (.int .i64 c) := by simp [World.cell?, bA]
  have b1 : w1.cell? ⟨w.heap.size, 1, none⟩ = some (.int .i64 a) := by simp [World.cell?, bA]
  have hl := (h1.look hk).1 f hf
  clear h h1 hf tA t1
  go_wp2_with fail
  go_quiet (fail)
  go_wp2_with fail
  go_ret2
  exact ⟨rfl, tB.drews _⟩
set_option maxRecDepth 100000 in
set_option maxHeartbeats 400000 in
theorem open_full (t m u : Nat) (live : List Fd) (used : List Bool) (total c a : Int) (pending : Bool) (w : World) (h : Tab w t m u live used total) (hk : okK (c, a)) (hv : validB c a = true) (hf : fdAt live (c, a) = none) (hh : ¬ hole used < used.length) :
    Calls Try.prog 9 #[.pointer (some ⟨t, 0, none⟩), .agg #[.int .i64 c, .int .i64 a], .bool pending] w fun e w' => e = .returned (.tuple #[.int .i64 0, .int .i64 6]) ∧ Touch [] w w' := by
  have tA := (Touch.refl [] w).alloc (.cells #[.int .i64 c, .int .i64 a] 23)
  have bA := heap_alloc_new w (.cells #[.int .i64 c, .int .i64 a] 23)
  have hrl := h.room
  have HV := Lib.hid hv
  clear hv
  go_enter Try.func9, Try.ntmps9
  go_wp2_with fail
  refine (valid_any c a _).mono ?_
  rintro e w1 ⟨rfl, t1⟩
  rw [HV.out]
  have tB := tA.trans t1 (by simp)
  have h1 := h.touch tB (by simp)
  replace bA := t1.at bA (by simp)
  obtain ⟨c0, c1, c2⟩ := h1.cells
  have b0 : w1.cell? ⟨w.heap.size, 0, none⟩ = some (.int .i64 c) := by simp [World.cell?, bA]
  have b1 : w1.cell? ⟨w.heap.size, 1, none⟩ = some (.int .i64 a) := by simp [World.cell?, bA]
  have hl := (h1.look hk).2 hf
  clear h hf tA t1
  go_wp2_with fail
  go_quiet (fail)
  go_wp2_with fail
  refine (index_any u used _ (by exact h1.row) hrl).mono ?_
  rintro e w3 ⟨rfl, h3⟩
  rw [if_neg hh]
  have t3 : Touch [] w1 w3 := by rw [← h3]; exact drewN_touch _ _
  clear h3
  go_wp2_with fail
  go_ret2
  exact ⟨rfl, tB.trans t3 (by simp)⟩

/-! ### the transitions -/
def setSt (live : List Fd) (k : Key) (s : Int) : List Fd := live.map fun f => if f.key = k then { f with st := s } else f
theorem setSt_fdv (live : List Fd) (k : Key) (s : Int) : (setSt live k s).map fdv = live.map fdv := by
  simp only [setSt, List.map_map]
  apply List.map_congr_left
  intro f _
  simp only [Function.comp]
  split <;> rfl
theorem setSt_g (live : List Fd) (k : Key) (s : Int) : (setSt live k s).map (·.g) = live.map (·.g) := by
  simp only [setSt, List.map_map]
  apply List.map_congr_left
  intro f _
  simp only [Function.comp]
  split <;> rfl
theorem setSt_no (live : List Fd) (k : Key) (s : Int) : (setSt live k s).map (·.no) = live.map (·.no) := by
  simp only [setSt, List.map_map]
  apply List.map_congr_left
  intro f _
  simp only [Function.comp]
  split <;> rfl
theorem Tab.keys {w : World} {t m u : Nat} {live : List Fd} {used : List Bool} {total : Int} (h : Tab w t m u live used total) : (live.map (·.key)).Nodup := by
  have := h.mp.nodup
  simpa [List.map_map, Function.comp_def, fdv] using this
theorem key_inj {live : List Fd} (h : (live.map (·.key)).Nodup) {f f' : Fd} (hf : f ∈ live) (hf' : f' ∈ live) (e : f.key = f'.key) : f = f' := by
  induction live with
  | nil => cases hf
  | cons x r ih =>
    simp only [List.map_cons, List.nodup_cons] at h
    rcases List.mem_cons.1 hf with h1 | h1
    · rcases List.mem_cons.1 hf' with h2 | h2
      · rw [h1, h2]
      · exact absurd (List.mem_map.2 ⟨f', h2, by rw [← e, h1]⟩) h.1
    · rcases List.mem_cons.1 hf' with h2 | h2
      · exact absurd (List.mem_map.2 ⟨f, h1, by rw [e, h2]⟩) h.1
      · exact ih h.2 h1 h2
theorem fdAt_some {live : List Fd} {k : Key} {f : Fd} (h : fdAt live k = some f) : f ∈ live ∧ f.key = k := by
  refine ⟨List.mem_of_find?_eq_some h, ?_⟩
  have := List.find?_some h
  simpa using this
theorem Tab.setSt {w : World} {t m u : Nat} {live : List Fd} {used : List Bool} {total : Int} (h : Tab w t m u live used total) {k : Key} {f : Fd} (hf : fdAt live k = some f) (s : Int) :
    Tab (w.setCell ⟨f.g, 1, none⟩ (.int .i64 s)) t m u (setSt live k s) used total ∧ Touch (live.map (·.g)) w (w.setCell ⟨f.g, 1, none⟩ (.int .i64 s)) := by
  obtain ⟨hfl, hfk⟩ := fdAt_some hf
  have hfg : f.g ∈ live.map (·.g) := List.mem_map.2 ⟨f, hfl, rfl⟩
  have hap := h.apart
  simp only [List.nodup_cons, List.mem_cons, not_or] at hap
  obtain ⟨⟨n1, n2, n3⟩, ⟨n4, n5⟩, n6, n7⟩ := hap
  have tt := (Touch.refl [f.g] w).setCell (p := ⟨f.g, 1, none⟩) (by simp) (.int .i64 s)
  have e1 : t ∉ [f.g] := by simp only [List.mem_singleton]; intro e; exact n3 (e ▸ hfg)
  have e2 : m ∉ [f.g] := by simp only [List.mem_singleton]; intro e; exact n5 (e ▸ hfg)
  have e3 : u ∉ [f.g] := by simp only [List.mem_singleton]; intro e; exact n6 (e ▸ hfg)
  refine ⟨⟨tt.at h.hdr e1, tt.at h.row e3, by rw [setSt_fdv]; exact h.mp.touch tt e2, ?_, by rw [setSt_g]; exact h.apart, h.room, ?_, by rw [setSt_no]; exact h.nod, by rw [h.cnt]; simp [Go.Proofs.Ytnglkdpmkgehoaa.setSt]⟩, tt.mono (by simp only [List.mem_singleton]; rintro x rfl; exact .inl hfg)⟩
  · intro f' hf'
    obtain ⟨f0, hf0, rfl⟩ := List.mem_map.1 hf'
    by_cases hkk : f0.key = k
    · obtain rfl : f0 = f := key_inj h.keys hf0 hfl (hkk.trans hfk.symm)
      simp only [hkk, if_true]
      have := h.fds f0 hf0
      simp [World.setCell, Array.getElem?_modify, this]
    · simp only [hkk, if_false]
      refine tt.at (h.fds f0 hf0) ?_
      simp only [List.mem_singleton]
      intro e
      have hn : (live.map (·.g)).Nodup := n7
      have : f0 = f := by
        obtain ⟨i, hi, ei⟩ := List.getElem_of_mem hf0
        obtain ⟨j, hj, ej⟩ := List.getElem_of_mem hfl
        have hij : i = j := nodup_inj (l := live.map (·.g)) (hi := by simpa using hi) (hj := by simpa using hj) hn (by simp [ei, ej, e])
        subst hij
        rw [← ei, ← ej]
      exact hkk (by rw [this, hfk])
  · intro f' hf'
    obtain ⟨f0, hf0, rfl⟩ := List.mem_map.1 hf'
    have := h.nos f0 hf0
    split <;> exact this

/-- What a transition answers, and what it leaves. -/
def trErr (next : Int → Int) (live : List Fd) (k : Key) : Int := match fdAt live k with | none => 4 | some f => if next f.st = 0 then 7 else 0
def trLive (next : Int → Int) (live : List Fd) (k : Key) : List Fd := match fdAt live k with | none => live | some f => if next f.st = 0 then live else setSt live k (next f.st)

def nextConn (s : Int) : Int := if s = 1 then 2 else 0
def nextRem (s : Int) : Int := if s = 2 then 3 else if s = 4 then 5 else 0
def nextLoc (s : Int) : Int := if s = 2 then 4 else if s = 3 then 5 else 0
theorem clos_36 (s : Int) (w : World) : Calls Try.prog 36 #[.int .i64 s] w fun e w' => e = .returned (.int .i64 (nextConn s)) ∧ w = w' := by
  by_cases h : s = 1
  · subst h
    have e : nextConn 1 = 2 := rfl
    rw [e]
    go_enter Try.func36, Try.ntmps36
    go_wp2_with fail
    go_ret
    exact ⟨rfl, rfl⟩
  · have e : nextConn s = 0 := by simp [nextConn, h]
    rw [e]
    have hb : (s == 1) = false := by simpa using h
    go_enter Try.func36, Try.ntmps36
    go_wp2_with fail
    go_ret
    exact ⟨rfl, rfl⟩
theorem clos_34 (s : Int) (w : World) : Calls Try.prog 34 #[.int .i64 s] w fun e w' => e = .returned (.int .i64 (nextRem s)) ∧ w = w' := by
  by_cases h : s = 2
  · subst h
    have e : nextRem 2 = 3 := rfl
    rw [e]
    go_enter Try.func34, Try.ntmps34
    go_wp2_with fail
    go_ret
    exact ⟨rfl, rfl⟩
  · have hb : (s == 2) = false := by simpa using h
    by_cases h4 : s = 4
    · subst h4
      have e : nextRem 4 = 5 := rfl
      rw [e]
      go_enter Try.func34, Try.ntmps34
      go_wp2_with fail
      go_ret
      exact ⟨rfl, rfl⟩
    · have hb4 : (s == 4) = false := by simpa using h4
      have e : nextRem s = 0 := by simp [nextRem, h, h4]
      rw [e]
      go_enter Try.func34, Try.ntmps34
      go_wp2_with fail
      go_ret
      exact ⟨rfl, rfl⟩
theorem clos_35 (s : Int) (w : World) : Calls Try.prog 35 #[.int .i64 s] w fun e w' => e = .returned (.int .i64 (nextLoc s)) ∧ w = w' := by
  by_cases h : s = 2
  · subst h
    have e : nextLoc 2 = 4 := rfl
    rw [e]
    go_enter Try.func35, Try.ntmps35
    go_wp2_with fail
    go_ret
    exact ⟨rfl, rfl⟩
  · have hb : (s == 2) = false := by simpa using h
    by_cases h4 : s = 3
    · subst h4
      have e : nextLoc 3 = 5 := rfl
      rw [e]
      go_enter Try.func35, Try.ntmps35
      go_wp2_with fail
      go_ret
      exact ⟨rfl, rfl⟩
    · have hb4 : (s == 3) = false := by simpa using h4
      have e : nextLoc s = 0 := by simp [nextLoc, h, h4]
      rw [e]
      go_enter Try.func35, Try.ntmps35
      go_wp2_with fail
      go_ret
      exact ⟨rfl, rfl⟩
set_option maxRecDepth 100000 in
set_option maxHeartbeats 1000000 in
theorem trans_36 (t m u : Nat) (live : List Fd) (used : List Bool) (total c a : Int) (w : World) (h : Tab w t m u live used total) (hk : okK (c, a)) :
    Calls Try.prog 33 #[.pointer (some ⟨t, 0, none⟩), .agg #[.int .i64 c, .int .i64 a], .func (.func 36) #[] #[]] w fun e w' => e = .returned (.int .i64 (trErr nextConn live (c, a))) ∧ Tab w' t m u (trLive nextConn live (c, a)) used total ∧ Touch (live.map (·.g)) w w' := by
  have tA := (Touch.refl [] w).alloc (.cells #[.int .i64 c, .int .i64 a] 23)
  have hA := h.touch tA (by simp)
  obtain ⟨c0, c1, c2⟩ := hA.cells
  obtain ⟨l1, l2⟩ := hA.look hk
  cases hf : fdAt live (c, a) with
  | none =>
    have hl := l2 hf
    have e1 : trErr nextConn live (c, a) = 4 := by simp [trErr, hf]
    have e2 : trLive nextConn live (c, a) = live := by simp [trLive, hf]
    rw [e1, e2]
    clear l1 l2 hf e1 e2
    have HA := Lib.hid hA
    clear hA h
    go_enter Try.func33, Try.ntmps33
    go_wp2_with fail
    go_quiet (fail)
    go_wp2_with fail
    go_ret
    exact ⟨rfl, HA.out.touch (drewN_touch _ _) (by simp), (tA.drews _).mono (by simp)⟩
  | some f =>
    have hl := l1 f hf
    obtain ⟨f0, f1⟩ := hA.fd hf
    have f2 : ∀ n, ((w.alloc (.cells #[.int .i64 c, .int .i64 a] 23)).drewN n).frozen? ⟨f.g, 1, none⟩ = false := by
      intro n
      have := hA.fds f (fdAt_some hf).1
      show (w.alloc (.cells #[.int .i64 c, .int .i64 a] 23)).frozen? ⟨f.g, 1, none⟩ = false
      simp [World.frozen?, this]
    by_cases hz : nextConn f.st = 0
    · have e1 : trErr nextConn live (c, a) = 7 := by simp [trErr, hf, hz]
      have e2 : trLive nextConn live (c, a) = live := by simp [trLive, hf, hz]
      rw [e1, e2]
      have HA := Lib.hid hA
      have HZ := Lib.hid hz
      clear l1 l2 hf e1 e2 hA h hz
      go_enter Try.func33, Try.ntmps33
      go_wp2_with fail
      go_quiet (fail)
      go_wp2_with fail
      refine (clos_36 f.st _).mono ?_
      rintro e w' ⟨rfl, rfl⟩
      rw [HZ.out]
      go_wp2_with fail
      go_ret
      exact ⟨rfl, HA.out.touch (drewN_touch _ _) (by simp), (tA.drews _).mono (by simp)⟩
    · have e1 : trErr nextConn live (c, a) = 0 := by simp [trErr, hf, hz]
      have e2 : trLive nextConn live (c, a) = setSt live (c, a) (nextConn f.st) := by simp [trLive, hf, hz]
      rw [e1, e2]
      have HA := Lib.hid hA
      have HF := Lib.hid hf
      clear l1 l2 hf e1 e2 hA h
      go_enter Try.func33, Try.ntmps33
      go_wp2_with fail
      go_quiet (fail)
      go_wp2_with fail
      refine (clos_36 f.st _).mono ?_
      rintro e w' ⟨rfl, rfl⟩
      have hz2 : (nextConn f.st == 0) = false := by simpa using hz
      generalize hN : nextConn f.st = s at *
      have HN := Lib.hid hN
      clear hN
      go_wp2_with fail
      go_ret
      obtain ⟨r1, r2⟩ := (HA.out.touch (drewN_touch _ _) (by simp)).setSt HF.out s
      exact ⟨rfl, by rw [HN.out]; exact r1, ((tA.drews _).mono (by simp)).trans r2 (fun x hx => .inl hx)⟩
set_option maxRecDepth 100000 in
set_option maxHeartbeats 400000 in
theorem conn_any (t m u : Nat) (live : List Fd) (used : List Bool) (total c a : Int) (w : World) (h : Tab w t m u live used total) (hk : okK (c, a)) :
    Calls Try.prog 16 #[.pointer (some ⟨t, 0, none⟩), .agg #[.int .i64 c, .int .i64 a]] w fun e w' => e = .returned (.int .i64 (trErr nextConn live (c, a))) ∧ Tab w' t m u (trLive nextConn live (c, a)) used total ∧ Touch (live.map (·.g)) w w' := by
  have tA := (Touch.refl [] w).alloc (.cells #[.int .i64 c, .int .i64 a] 23)
  have hA := h.touch tA (by simp)
  have HA := Lib.hid hA
  clear hA
  go_enter Try.func16, Try.ntmps16
  go_wp2_with fail
  refine (trans_36 t m u live used total c a _ HA.out hk).mono ?_
  rintro e w' ⟨rfl, h2, t2⟩
  go_wp2_with fail
  go_ret
  exact ⟨rfl, h2, (tA.mono (by simp)).trans t2 (fun x hx => .inl hx)⟩
set_option maxRecDepth 100000 in
set_option maxHeartbeats 1000000 in
theorem trans_34 (t m u : Nat) (live : List Fd) (used : List Bool) (total c a : Int) (w : World) (h : Tab w t m u live used total) (hk : okK (c, a)) :
    Calls Try.prog 33 #[.pointer (some ⟨t, 0, none⟩), .agg #[.int .i64 c, .int .i64 a], .func (.func 34) #[] #[]] w fun e w' => e = .returned (.int .i64 (trErr nextRem live (c, a))) ∧ Tab w' t m u (trLive nextRem live (c, a)) used total ∧ Touch (live.map (·.g)) w w' := by
  have tA := (Touch.refl [] w).alloc (.cells #[.int .i64 c, .int .i64 a] 23)
  have hA := h.touch tA (by simp)
  obtain ⟨c0, c1, c2⟩ := hA.cells
  obtain ⟨l1, l2⟩ := hA.look hk
  cases hf : fdAt live (c, a) with
  | none =>
    have hl := l2 hf
    have e1 : trErr nextRem live (c, a) = 4 := by simp [trErr, hf]
    have e2 : trLive nextRem live (c, a) = live := by simp [trLive, hf]
    rw [e1, e2]
    clear l1 l2 hf e1 e2
    have HA := Lib.hid hA
    clear hA h
    go_enter Try.func33, Try.ntmps33
    go_wp2_with fail
    go_quiet (fail)
    go_wp2_with fail
    go_ret
    exact ⟨rfl, HA.out.touch (drewN_touch _ _) (by simp), (tA.drews _).mono (by simp)⟩
  | some f =>
    have hl := l1 f hf
    obtain ⟨f0, f1⟩ := hA.fd hf
    have f2 : ∀ n, ((w.alloc (.cells #[.int .i64 c, .int .i64 a] 23)).drewN n).frozen? ⟨f.g, 1, none⟩ = false := by
      intro n
      have := hA.fds f (fdAt_some hf).1
      show (w.alloc (.cells #[.int .i64 c, .int .i64 a] 23)).frozen? ⟨f.g, 1, none⟩ = false
      simp [World.frozen?, this]
    by_cases hz : nextRem f.st = 0
    · have e1 : trErr nextRem live (c, a) = 7 := by simp [trErr, hf, hz]
      have e2 : trLive nextRem live (c, a) = live := by simp [trLive, hf, hz]
      rw [e1, e2]
      have HA := Lib.hid hA
      have HZ := Lib.hid hz
      clear l1 l2 hf e1 e2 hA h hz
      go_enter Try.func33, Try.ntmps33
      go_wp2_with fail
      go_quiet (fail)
      go_wp2_with fail
      refine (clos_34 f.st _).mono ?_
      rintro e w' ⟨rfl, rfl⟩
      rw [HZ.out]
      go_wp2_with fail
      go_ret
      exact ⟨rfl, HA.out.touch (drewN_touch _ _) (by simp), (tA.drews _).mono (by simp)⟩
    · have e1 : trErr nextRem live (c, a) = 0 := by simp [trErr, hf, hz]
      have e2 : trLive nextRem live (c, a) = setSt live (c, a) (nextRem f.st) := by simp [trLive, hf, hz]
      rw [e1, e2]
      have HA := Lib.hid hA
      have HF := Lib.hid hf
      clear l1 l2 hf e1 e2 hA h
      go_enter Try.func33, Try.ntmps33
      go_wp2_with fail
      go_quiet (fail)
      go_wp2_with fail
      refine (clos_34 f.st _).mono ?_
      rintro e w' ⟨rfl, rfl⟩
      have hz2 : (nextRem f.st == 0) = false := by simpa using hz
      generalize hN : nextRem f.st = s at *
      have HN := Lib.hid hN
      clear hN
      go_wp2_with fail
      go_ret
      obtain ⟨r1, r2⟩ := (HA.out.touch (drewN_touch _ _) (by simp)).setSt HF.out s
      exact ⟨rfl, by rw [HN.out]; exact r1, ((tA.drews _).mono (by simp)).trans r2 (fun x hx => .inl hx)⟩
set_option maxRecDepth 100000 in
set_option maxHeartbeats 400000 in
theorem rem_any (t m u : Nat) (live : List Fd) (used : List Bool) (total c a : Int) (w : World) (h : Tab w t m u live used total) (hk : okK (c, a)) :
    Calls Try.prog 14 #[.pointer (some ⟨t, 0, none⟩), .agg #[.int .i64 c, .int .i64 a]] w fun e w' => e = .returned (.int .i64 (trErr nextRem live (c, a))) ∧ Tab w' t m u (trLive nextRem live (c, a)) used total ∧ Touch (live.map (·.g)) w w' := by
  have tA := (Touch.refl [] w).alloc (.cells #[.int .i64 c, .int .i64 a] 23)
  have hA := h.touch tA (by simp)
  have HA := Lib.hid hA
  clear hA
  go_enter Try.func14, Try.ntmps14
  go_wp2_with fail
  refine (trans_34 t m u live used total c a _ HA.out hk).mono ?_
  rintro e w' ⟨rfl, h2, t2⟩
  go_wp2_with fail
  go_ret
  exact ⟨rfl, h2, (tA.mono (by simp)).trans t2 (fun x hx => .inl hx)⟩
set_option maxRecDepth 100000 in
set_option maxHeartbeats 1000000 in
theorem trans_35 (t m u : Nat) (live : List Fd) (used : List Bool) (total c a : Int) (w : World) (h : Tab w t m u live used total) (hk : okK (c, a)) :
    Calls Try.prog 33 #[.pointer (some ⟨t, 0, none⟩), .agg #[.int .i64 c, .int .i64 a], .func (.func 35) #[] #[]] w fun e w' => e = .returned (.int .i64 (trErr nextLoc live (c, a))) ∧ Tab w' t m u (trLive nextLoc live (c, a)) used total ∧ Touch (live.map (·.g)) w w' := by
  have tA := (Touch.refl [] w).alloc (.cells #[.int .i64 c, .int .i64 a] 23)
  have hA := h.touch tA (by simp)
  obtain ⟨c0, c1, c2⟩ := hA.cells
  obtain ⟨l1, l2⟩ := hA.look hk
  cases hf : fdAt live (c, a) with
  | none =>
    have hl := l2 hf
    have e1 : trErr nextLoc live (c, a) = 4 := by simp [trErr, hf]
    have e2 : trLive nextLoc live (c, a) = live := by simp [trLive, hf]
    rw [e1, e2]
    clear l1 l2 hf e1 e2
    have HA := Lib.hid hA
    clear hA h
    go_enter Try.func33, Try.ntmps33
    go_wp2_with fail
    go_quiet (fail)
    go_wp2_with fail
    go_ret
    exact ⟨rfl, HA.out.touch (drewN_touch _ _) (by simp), (tA.drews _).mono (by simp)⟩
  | some f =>
    have hl := l1 f hf
    obtain ⟨f0, f1⟩ := hA.fd hf
    have f2 : ∀ n, ((w.alloc (.cells #[.int .i64 c, .int .i64 a] 23)).drewN n).frozen? ⟨f.g, 1, none⟩ = false := by
      intro n
      have := hA.fds f (fdAt_some hf).1
      show (w.alloc (.cells #[.int .i64 c, .int .i64 a] 23)).frozen? ⟨f.g, 1, none⟩ = false
      simp [World.frozen?, this]
    by_cases hz : nextLoc f.st = 0
    · have e1 : trErr nextLoc live (c, a) = 7 := by simp [trErr, hf, hz]
      have e2 : trLive nextLoc live (c, a) = live := by simp [trLive, hf, hz]
      rw [e1, e2]
      have HA := Lib.hid hA
      have HZ := Lib.hid hz
      clear l1 l2 hf e1 e2 hA h hz
      go_enter Try.func33, Try.ntmps33
      go_wp2_with fail
      go_quiet (fail)
      go_wp2_with fail
      refine (clos_35 f.st _).mono ?_
      rintro e w' ⟨rfl, rfl⟩
      rw [HZ.out]
      go_wp2_with fail
      go_ret
      exact ⟨rfl, HA.out.touch (drewN_touch _ _) (by simp), (tA.drews _).mono (by simp)⟩
    · have e1 : trErr nextLoc live (c, a) = 0 := by simp [trErr, hf, hz]
      have e2 : trLive nextLoc live (c, a) = setSt live (c, a) (nextLoc f.st) := by simp [trLive, hf, hz]
      rw [e1, e2]
      have HA := Lib.hid hA
      have HF := Lib.hid hf
      clear l1 l2 hf e1 e2 hA h
      go_enter Try.func33, Try.ntmps33
      go_wp2_with fail
      go_quiet (fail)
      go_wp2_with fail
      refine (clos_35 f.st _).mono ?_
      rintro e w' ⟨rfl, rfl⟩
      have hz2 : (nextLoc f.st == 0) = false := by simpa using hz
      generalize hN : nextLoc f.st = s at *
      have HN := Lib.hid hN
      clear hN
      go_wp2_with fail
      go_ret
      obtain ⟨r1, r2⟩ := (HA.out.touch (drewN_touch _ _) (by simp)).setSt HF.out s
      exact ⟨rfl, by rw [HN.out]; exact r1, ((tA.drews _).mono (by simp)).trans r2 (fun x hx => .inl hx)⟩
set_option maxRecDepth 100000 in
set_option maxHeartbeats 400000 in
theorem loc_any (t m u : Nat) (live : List Fd) (used : List Bool) (total c a : Int) (w : World) (h : Tab w t m u live used total) (hk : okK (c, a)) :
    Calls Try.prog 15 #[.pointer (some ⟨t, 0, none⟩), .agg #[.int .i64 c, .int .i64 a]] w fun e w' => e = .returned (.int .i64 (trErr nextLoc live (c, a))) ∧ Tab w' t m u (trLive nextLoc live (c, a)) used total ∧ Touch (live.map (·.g)) w w' := by
  have tA := (Touch.refl [] w).alloc (.cells #[.int .i64 c, .int .i64 a] 23)
  have hA := h.touch tA (by simp)
  have HA := Lib.hid hA
  clear hA
  go_enter Try.func15, Try.ntmps15
  go_wp2_with fail
  refine (trans_35 t m u live used total c a _ HA.out hk).mono ?_
  rintro e w' ⟨rfl, h2, t2⟩
  go_wp2_with fail
  go_ret
  exact ⟨rfl, h2, (tA.mono (by simp)).trans t2 (fun x hx => .inl hx)⟩
end Go.Proofs.Ytnglkdpmkgehoaa

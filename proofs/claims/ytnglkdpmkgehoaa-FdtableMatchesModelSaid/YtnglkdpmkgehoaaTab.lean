/-
  A descriptor table in memory, and the contracts of its methods that only read.
-/
import Derived.Test.YtnglkdpmkgehoaaMp
import Derived.Test.YtnglkdpmkgehoaaRec3
import Derived.Test.YtnglkdpmkgehoaaRows
import Derived.Deep.QuietTactic
import Derived.BigQuiet
import Derived.Outline
namespace Go.Proofs.Ytnglkdpmkgehoaa
open Go.RowKit
set_option linter.unusedVariables false
set_option linter.unusedSimpArgs false

theorem laidOut : laidOutB Try.prog = true := by kernel_rfl
abbrev Key := Int × Int
def encK (p : Key) : Value := .agg #[.int .i64 p.1, .int .i64 p.2]
def okK (p : Key) : Prop := (Lit.int .i64 p.1).wf = true ∧ (Lit.int .i64 p.2).wf = true
theorem key23 : KE Try.prog 23 encK okK where
  K := Go.Maps.Keyed.of_law (deep_law_laid laidOut (m := 9) (by omega) (of_decide_eq_true (by kernel_rfl)) (by kernel_rfl) (by kernel_rfl))
  lit := by
    rintro ⟨c, a⟩ ⟨h1, h2⟩
    have c3 : Try.prog.cellsOf 3 = 1 := by kernel_rfl
    have c23 : Try.prog.cellsOf 23 = 2 := by kernel_rfl
    have hkt : Try.prog.keyType 23 = true := by kernel_rfl
    have hs : (Try.prog.info? 23).map (·.size) = some 2 := by kernel_rfl
    have hk : ∃ l, Try.prog.keyLits (Try.prog.types.size + 1) 23 [.int .i64 c, .int .i64 a] = some l := by
      obtain ⟨n, hn⟩ : ∃ n, Try.prog.types.size + 1 = n + 2 := ⟨Try.prog.types.size - 1, by have : 1 ≤ Try.prog.types.size := of_decide_eq_true (by kernel_rfl); omega⟩
      rw [hn]
      simp at h1 h2
      simp [Program.keyLits, Try.underlying23, Try.underlying3, c3, c23, h1, h2]
    obtain ⟨l, hl⟩ := hk
    have hf : (Value.agg #[.int .i64 c, .int .i64 a]).formed Try.prog 23 = true := by
      simp [Value.formed, Try.underlying23, c23]
    unfold keyOf
    simp only [Try.underlying23, encK, hkt, hf, Bool.and_true, Bool.and_self, if_true, Value.cells]
    rw [hl]
    exact ⟨_, rfl⟩
  inj := by
    rintro ⟨a, b⟩ ⟨c, d⟩ h
    simp [encK] at h
    simp [h]
theorem zero61 (w : World) : (zeroValue 61).run Try.prog w = .ok (.pointer none) w := by kernel_rfl

/-- An open descriptor: its endpoint, its block, its number, its state. -/
structure Fd where
  key : Key
  g : Nat
  no : Nat
  st : Int
def fdv (f : Fd) : Key × Value := (f.key, .pointer (some ⟨f.g, 0, none⟩))
def fdAt (live : List Fd) (k : Key) : Option Fd := live.find? fun f => decide (f.key = k)
theorem look_fd (live : List Fd) (k : Key) : look (live.map fdv) k = (fdAt live k).map fun f => .pointer (some ⟨f.g, 0, none⟩) := by
  induction live with
  | nil => rfl
  | cons f r ih =>
    unfold look fdAt at *
    simp only [List.map_cons, List.find?_cons, fdv]
    by_cases h : f.key = k
    · simp [h]
    · simp only [h, decide_false]
      exact ih

/-- The table at block t: its map in block m, its flags in block u. -/
structure Tab (w : World) (t m u : Nat) (live : List Fd) (used : List Bool) (total : Int) : Prop where
  hdr : w.heap[t]? = some (.cells #[.map (some m), .slice (some ⟨u, 0, none⟩) used.length used.length, .int .i64 total] 60 (0, 0))
  row : w.heap[u]? = some (.cells (used.map Value.bool).toArray 4 (0, 0))
  mp : Mp encK okK w m (live.map fdv)
  fds : ∀ f ∈ live, w.heap[f.g]? = some (.cells #[.int .i64 f.no, .int .i64 f.st] 64 (0, 0))
  apart : (t :: m :: u :: live.map (·.g)).Nodup
  room : used.length ≤ 256
  nos : ∀ f ∈ live, used[f.no]? = some true
  nod : (live.map (·.no)).Nodup
  cnt : used.count true = live.length
theorem Tab.few {w : World} {t m u : Nat} {live : List Fd} {used : List Bool} {total : Int} (h : Tab w t m u live used total) : live.length ≤ 1000 := by
  have h1 := h.cnt
  have h2 : used.count true ≤ used.length := List.count_le_length
  have h3 := h.room
  omega
def Tab.foot (t m u : Nat) (live : List Fd) : List Nat := t :: m :: u :: live.map (·.g)
theorem Tab.touch {S : List Nat} {w w' : World} {t m u : Nat} {live : List Fd} {used : List Bool} {total : Int} (h : Tab w t m u live used total) (ht : Touch S w w') (hS : ∀ x ∈ Tab.foot t m u live, x ∉ S) : Tab w' t m u live used total :=
  ⟨ht.at h.hdr (hS _ (by simp [Tab.foot])), ht.at h.row (hS _ (by simp [Tab.foot])), h.mp.touch ht (hS _ (by simp [Tab.foot])), fun f hf => ht.at (h.fds f hf) (hS _ (by simp [Tab.foot]; exact .inr (.inr (.inr ⟨f, hf, rfl⟩)))), h.apart, h.room, h.nos, h.nod, h.cnt⟩
theorem Tab.lt {w : World} {t m u : Nat} {live : List Fd} {used : List Bool} {total : Int} (h : Tab w t m u live used total) : ∀ x ∈ Tab.foot t m u live, x < w.heap.size := by
  intro x hx
  simp only [Tab.foot, List.mem_cons, List.mem_map] at hx
  rcases hx with rfl | rfl | rfl | ⟨f, hf, rfl⟩
  · exact (Array.getElem?_eq_some_iff.1 h.hdr).1
  · exact h.mp.lt
  · exact (Array.getElem?_eq_some_iff.1 h.row).1
  · exact (Array.getElem?_eq_some_iff.1 (h.fds f hf)).1
theorem Tab.cells {w : World} {t m u : Nat} {live : List Fd} {used : List Bool} {total : Int} (h : Tab w t m u live used total) :
    w.cell? ⟨t, 0, none⟩ = some (.map (some m)) ∧ w.cell? ⟨t, 1, none⟩ = some (.slice (some ⟨u, 0, none⟩) used.length used.length) ∧ w.cell? ⟨t, 2, none⟩ = some (.int .i64 total) := by
  simp [World.cell?, h.hdr]
theorem Tab.fd {w : World} {t m u : Nat} {live : List Fd} {used : List Bool} {total : Int} (h : Tab w t m u live used total) {k : Key} {f : Fd} (hf : fdAt live k = some f) :
    w.cell? ⟨f.g, 0, none⟩ = some (.int .i64 f.no) ∧ w.cell? ⟨f.g, 1, none⟩ = some (.int .i64 f.st) := by
  have := h.fds f (List.mem_of_find?_eq_some hf)
  simp [World.cell?, this]
theorem drewN_touch (w : World) (n : Nat) : Touch [] w (w.drewN n) := (Touch.refl _ _).drews n
theorem Tab.look {w : World} {t m u : Nat} {live : List Fd} {used : List Bool} {total : Int} (h : Tab w t m u live used total) {c a : Int} (hk : okK (c, a)) :
    (∀ f, fdAt live (c, a) = some f → ∀ n, (Instr.lookup 57 (.map (some m)) (.agg #[.int .i64 c, .int .i64 a]) false).run Try.prog (w.drewN n) = .ok (.pointer (some ⟨f.g, 0, none⟩)) (w.drewN n)) ∧
    (fdAt live (c, a) = none → ∀ n, (Instr.lookup 57 (.map (some m)) (.agg #[.int .i64 c, .int .i64 a]) false).run Try.prog (w.drewN n) = .ok (.pointer none) (w.drewN n)) := by
  constructor
  all_goals intros
  all_goals
    have := (h.mp.touch (drewN_touch w ‹Nat›) (by simp)).lookup key23 Try.underlying57 (zero61 _) hk false
    rw [look_fd, ‹fdAt live (c, a) = _›] at this
    exact this

/-- The state of an endpoint, 0 where it is not open. -/
def stOf (live : List Fd) (k : Key) : Int := match fdAt live k with | some f => f.st | none => 0
def noOf (live : List Fd) (k : Key) : Int := match fdAt live k with | some f => f.no | none => -1

set_option maxRecDepth 100000 in
set_option maxHeartbeats 400000 in
theorem state_any (t m u : Nat) (live : List Fd) (used : List Bool) (total c a : Int) (w : World) (h : Tab w t m u live used total) (hk : okK (c, a)) :
    Calls Try.prog 12 #[.pointer (some ⟨t, 0, none⟩), .agg #[.int .i64 c, .int .i64 a]] w fun e w' => e = .returned (.int .i64 (stOf live (c, a))) ∧ Touch [] w w' := by
  have tA := (Touch.refl [] w).alloc (.cells #[.int .i64 c, .int .i64 a] 23)
  have hA := h.touch tA (by simp)
  obtain ⟨c0, c1, c2⟩ := hA.cells
  obtain ⟨l1, l2⟩ := hA.look hk
  cases hf : fdAt live (c, a) with
  | none =>
    have hl := l2 hf
    clear l1 l2
    have hs : stOf live (c, a) = 0 := by simp [stOf, hf]
    rw [hs]
    clear h hA hf hs
    go_enter Try.func12, Try.ntmps12
    go_wp2_with fail
    go_quiet (fail)
    go_wp2_with fail
    go_ret
    exact ⟨rfl, tA.drews _⟩
  | some f =>
    have hl := l1 f hf
    clear l1 l2
    have hs : stOf live (c, a) = f.st := by simp [stOf, hf]
    rw [hs]
    obtain ⟨f0, f1⟩ := hA.fd hf
    clear h hA hf hs
    go_enter Try.func12, Try.ntmps12
    go_wp2_with fail
    go_quiet (fail)
    go_wp2_with fail
    go_ret
    exact ⟨rfl, tA.drews _⟩
set_option maxRecDepth 100000 in
set_option maxHeartbeats 400000 in
theorem number_any (t m u : Nat) (live : List Fd) (used : List Bool) (total c a : Int) (w : World) (h : Tab w t m u live used total) (hk : okK (c, a)) :
    Calls Try.prog 24 #[.pointer (some ⟨t, 0, none⟩), .agg #[.int .i64 c, .int .i64 a]] w fun e w' => e = .returned (.int .i64 (noOf live (c, a))) ∧ Touch [] w w' := by
  have tA := (Touch.refl [] w).alloc (.cells #[.int .i64 c, .int .i64 a] 23)
  have hA := h.touch tA (by simp)
  obtain ⟨c0, c1, c2⟩ := hA.cells
  obtain ⟨l1, l2⟩ := hA.look hk
  cases hf : fdAt live (c, a) with
  | none =>
    have hl := l2 hf
    clear l1 l2
    have hs : noOf live (c, a) = -1 := by simp [noOf, hf]
    rw [hs]
    clear h hA hf hs
    go_enter Try.func24, Try.ntmps24
    go_wp2_with fail
    go_quiet (fail)
    go_wp2_with fail
    go_ret
    exact ⟨rfl, tA.drews _⟩
  | some f =>
    have hl := l1 f hf
    clear l1 l2
    have hs : noOf live (c, a) = f.no := by simp [noOf, hf]
    rw [hs]
    obtain ⟨f0, f1⟩ := hA.fd hf
    clear h hA hf hs
    go_enter Try.func24, Try.ntmps24
    go_wp2_with fail
    go_quiet (fail)
    go_wp2_with fail
    go_ret
    exact ⟨rfl, tA.drews _⟩
end Go.Proofs.Ytnglkdpmkgehoaa

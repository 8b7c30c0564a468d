/-
  A slice cut from an index on, the value kept as one letter: in a plain region, in a region that only reads, at a step of a region that draws; and append at such a step. Plain lemmas over any program.
-/
import Derived.Test.YtpbabdoecjlifaaRec2
import Derived.Deep.RegionLaw
import Derived.Deep.RegionHeld3
import Derived.Deep.MidRow
import Derived.Deep.AppendLies
import Derived.ChangeKeysEq
namespace Go.Proofs.Ytpbabdoecjlifaa
open Go.RowKit
set_option linter.unusedVariables false
set_option linter.unusedSimpArgs false

/-- s[n:], as a value. -/
def cutv (a : Option Addr) (k c n s : Nat) : Value := .slice (if c = n then a else a.map (·.add (n * s))) (k - n) (c - n)
theorem run_from {P : Program} (w : World) (t e : TypeId) (s : Nat) (ht : P.underlying t = some (.slice e)) (hs : (P.info? e).map (·.size) = some s) (a : Option Addr) (k c n : Nat) (hn : n ≤ k) :
    (Instr.sliceAt t (.slice a k c) (some (.int .i64 n)) none none).run P w = .ok (cutv a k c n s) w := by
  have he : P.elem t = e := by simp [Program.elem, ht]
  have ht' : P.underlying t = some (.slice (P.elem t)) := by rw [he]; exact ht
  rw [run_sliceAt_slice _ _ _ _ _ _ ht', run_slice_l w t a k c ht' .i64 n (by omega) (by omega), he]
  obtain ⟨i, hi, rfl⟩ : ∃ i, P.info? e = some i ∧ i.size = s := by
    cases h : P.info? e with
    | none => simp [h] at hs
    | some i => exact ⟨i, rfl, by simpa [h] using hs⟩
  rw [run_sizeOf w hi]
  simp [Program.cellsOf, hi, sliced, cutv, Result.andThen, Int.toNat_natCast]
theorem wpList_from {P : Program} {ops : Array Oper} {rest : List Oper} {op : Oper} {a : Act} {w : World} {Q : Exit → Act → World → Prop} (hgd : op.guard = none) (t : TypeId) (x lo : Operand) (ho : op.op = .slice t x (some lo) none none)
    (e : TypeId) (s : Nat) (ht : P.underlying t = some (.slice e)) (hs : (P.info? e).map (·.size) = some s) (b : Option Addr) (k c n : Nat) (hx : a.eval x = .slice b k c) (hlo : a.eval lo = .int .i64 n) (hn : n ≤ k)
    (h : wpList P ops Q rest (a.put op.dst (cutv b k c n s)) w) : wpList P ops Q (op :: rest) a w := by
  refine wpList_plain hgd fun K hK => ?_
  have := hK _ _ h
  unfold Oper.wp execOp
  simp only [ho, hx, hlo, Option.map_some, Option.map_none, Sem.run_bind, Sem.run_pure, Result.andThen_ok, run_from w t e s ht hs b k c n hn]
  exact this
theorem wpStill_from {P : Program} {ops : Array Oper} {rest : List Oper} {op : Oper} {a : Act} {w : World} {Q : Act → Prop} (hgd : op.guard = none) (t : TypeId) (x lo : Operand) (ho : op.op = .slice t x (some lo) none none)
    (e : TypeId) (s : Nat) (ht : P.underlying t = some (.slice e)) (hs : (P.info? e).map (·.size) = some s) (b : Option Addr) (k c n : Nat) (hx : a.eval x = .slice b k c) (hlo : a.eval lo = .int .i64 n) (hn : n ≤ k)
    (h : wpStill P ops w Q rest (a.put op.dst (cutv b k c n s))) : wpStill P ops w Q (op :: rest) a := by
  refine wpStill_step fun K hK => ?_
  rw [if_pos (by simp [Region.wanted, hgd])]
  unfold Oper.still execOp
  simp only [ho, hx, hlo, Option.map_some, Option.map_none, Sem.run_bind, Sem.run_pure, Result.andThen_ok, run_from w t e s ht hs b k c n hn]
  exact (Oper.stillUpon_value _ _ _ _ _).mpr (hK _ h)
theorem step_from {P : Program} {ops : Array Oper} {o : Oper} {a : Act} {w : World} {K : Act → World → Prop} {Q : Exit → Act → World → Prop} {E : Prop} (hgd : o.guard = none) (t : TypeId) (x lo : Operand) (ho : o.op = .slice t x (some lo) none none)
    (e : TypeId) (s : Nat) (ht : P.underlying t = some (.slice e)) (hs : (P.info? e).map (·.size) = some s) (b : Option Addr) (k c n : Nat) (hx : a.eval x = .slice b k c) (hlo : a.eval lo = .int .i64 n) (hn : n ≤ k)
    (h : K (a.put o.dst (cutv b k c n s)) w) : if Region.wanted o (yielded ops a.tmps) = true then Oper.wp P o a w K Q else E := by
  have hw : Region.wanted o (yielded ops a.tmps) = true := by simp [Region.wanted, hgd]
  rw [if_pos hw]
  have := h
  unfold Oper.wp execOp
  simp only [ho, hx, hlo, Option.map_some, Option.map_none, Sem.run_bind, Sem.run_pure, Result.andThen_ok, run_from w t e s ht hs b k c n hn]
  exact this
theorem step_app {P : Program} (w : World) {ops : Array Oper} {o : Oper} {a : Act} {K : Act → World → Prop} {Q : Exit → Act → World → Prop} {E : Prop} (hgd : o.guard = none) (s x : Operand) (t : TypeId)
    (ho : o.op = .call { callee := .builtin .append, args := #[s, x], argTypes := #[t, t] })
    (e : TypeId) (i : TypeInfo) (z : Value) (size bytes : Nat) (ht : P.underlying t = some (.slice e)) (hi : P.info? e = some i) (hz : i.zero = some z)
    (hsize : i.size = size) (hby : i.bytes = bytes) (hzs : z.cells.size = size) (hsz : 0 < size)
    (v : Value) (n : Nat) (xs : List Value) (hs : a.eval s = v) (hown : w.ownsRow 0 e size v n xs)
    (ao : Option Addr) (m c : Nat) (news : List Value) (hx : a.eval x = .slice ao m c) (hl : news.length = m * size) (hnone : ao = none → m = 0 ∧ c = 0) (hnews : ∀ ad, ao = some ad → ∀ j u, news[j]? = some u → w.cell? (ad.add j) = some u) (h1 : ∀ u ∈ news, u.oneCell' = true)
    (h63 : n + m ≤ maxLen) (hbytes : (n + m) * bytes ≤ 140737488355328)
    (h : ∀ v' w', w'.ownsRow 0 e size v' (n + m) (xs ++ news) → Touch v.ownBlock.toList w w' → (v'.ownBlock = v.ownBlock ∨ v'.ownBlock = some w.heap.size) → K (a.put o.dst v') w') : if Region.wanted o (yielded ops a.tmps) = true then Oper.wp P o a w K Q else E := by
  have hw : Region.wanted o (yielded ops a.tmps) = true := by simp [Region.wanted, hgd]
  rw [if_pos hw]
  obtain ⟨v', w', hr, h2, h3, h4⟩ := run_app (P := P) w t o.type e i z size bytes ht hi hz hsize hby hzs hsz v n xs hown ao m c news hl hnone hnews h1 h63 hbytes
  unfold Oper.wp execOp
  simp only [ho, resolve, invoke, builtin, Sem.run_bind, Sem.run_pure, Result.andThen_ok, List.map_toArray, List.map_cons, List.map_nil, hs, hx, hr]
  exact h v' w' h2 h3 h4
theorem wp_post {P : Program} {o : Oper} {a : Act} {w : World} {K : Act → World → Prop} {Q' Q : Exit → Act → World → Prop} (hQ : ∀ e a w, Q' e a w → e = .normal)
    (hh : o.wp P a w K Q') : o.wp P a w K Q := by
  unfold Oper.wp at *
  generalize (execOp a.eval o).run P w = r at *
  cases r with
  | ok n w' =>
    cases n <;> simp only [Oper.upon] at hh ⊢
    case value u => exact hh
    case skip => exact hh
    case defer d => exact hh
    case enter f args =>
      refine Calls.mono hh fun e w'' he => ?_
      cases e with
      | returned u => exact he
      | panicked c => have := hQ _ _ _ he; cases this
      | outgrown => obtain ⟨_, _, he⟩ := he; have := hQ _ _ _ he; cases this
    case row row args => exact hh
  | halt x w' =>
    cases x <;> simp only [Oper.upon] at hh ⊢
    case panic u => have := hQ _ _ _ hh; cases this
theorem step_of_list {P : Program} {ops : Array Oper} {o : Oper} {a : Act} {w : World} {K : Act → World → Prop} {Q : Exit → Act → World → Prop} {E : Prop} (hgd : o.guard = none)
    (h : wpList P ops (fun e a w => e = .normal ∧ K a w) [o] a w) : if Region.wanted o (yielded ops a.tmps) = true then Oper.wp P o a w K Q else E := by
  have hw : Region.wanted o (yielded ops a.tmps) = true := by simp [Region.wanted, hgd]
  rw [if_pos hw]
  unfold wpList at h
  rw [if_pos hw] at h
  rcases h with h | ⟨_, a', w', h, _⟩
  · exact Oper.wp_mono (fun a w hk => hk.2) (wp_post (fun e a w he => he.1) h)
  · cases h
end Go.Proofs.Ytpbabdoecjlifaa

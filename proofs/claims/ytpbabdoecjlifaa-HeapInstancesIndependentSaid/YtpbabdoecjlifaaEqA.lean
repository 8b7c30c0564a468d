/-
  Addresses as literals: equality and keys of maps.
-/
import Derived.Test.YtpbabdoecjlifaaTwA
import Derived.Test.YtpbabdoecjlifaaRec3
import Derived.DeepKeys4
import Derived.Maps.Keyed
namespace Go.Proofs.Ytpbabdoecjlifaa.A
open Go.RowKit
set_option linter.unusedVariables false
set_option linter.unusedSimpArgs false

def adr (b : Bool) (xs : List Int) : List Value := .bool b :: xs.map (Value.int .u8)
def IsAd (cs : List Value) : Prop := ∃ b xs, cs = adr b xs ∧ xs.length = 16 ∧ ∀ x ∈ xs, 0 ≤ x ∧ x ≤ 255
def okB (xs : List Int) : Prop := xs.length = 16 ∧ ∀ x ∈ xs, 0 ≤ x ∧ x ≤ 255
theorem sixteen {α : Type} (xs : List α) (h : xs.length = 16) : ∃ a b c d e f g i j k l m n o p q, xs = [a, b, c, d, e, f, g, i, j, k, l, m, n, o, p, q] := by
  match xs, h with
  | [a, b, c, d, e, f, g, i, j, k, l, m, n, o, p, q], _ => exact ⟨_, _, _, _, _, _, _, _, _, _, _, _, _, _, _, _, rfl⟩
def lits (b : Bool) (xs : List Int) : List Lit := .bool b :: xs.map (Lit.int .u8)
theorem lits_inj {b b' : Bool} {xs ys : List Int} : lits b xs = lits b' ys ↔ b = b' ∧ xs = ys := by
  unfold lits
  rw [List.cons.injEq]
  constructor
  · rintro ⟨h1, h2⟩
    refine ⟨by simpa using h1, ?_⟩
    exact (List.map_inj_right (fun a b h => by simpa using h)).1 h2
  · rintro ⟨rfl, rfl⟩
    exact ⟨rfl, rfl⟩
theorem key_ad (b : Bool) (xs : List Int) (h : okB xs) : Try.prog.keyLits 5 54 (adr b xs) = some (lits b xs) := by
  obtain ⟨hl, hr⟩ := h
  obtain ⟨x0, x1, x2, x3, x4, x5, x6, x7, x8, x9, x10, x11, x12, x13, x14, x15, rfl⟩ := sixteen xs hl
  have hwf : ∀ x : Int, 0 ≤ x ∧ x ≤ 255 → (Lit.int .u8 x).wf = true := by
    intro x hx
    simp [Lit.wf, IntKind.min, IntKind.max, IntKind.signed, IntKind.bits]
    omega
  have hk1 : ∀ x ∈ [x0, x1, x2, x3, x4, x5, x6, x7, x8, x9, x10, x11, x12, x13, x14, x15], ∀ d, Try.prog.keyLits (d + 1) 5 [.int .u8 x] = some [.int .u8 x] := by
    intro x hx d
    simp [Program.keyLits, Try.underlying5, hwf x (hr x hx)]
  simp only [List.mem_cons, List.not_mem_nil, or_false, forall_eq_or_imp, forall_eq] at hk1
  obtain ⟨k0, k1, k2, k3, k4, k5, k6, k7, k8, k9, k10, k11, k12, k13, k14, k15⟩ := hk1
  have c5 : Try.prog.cellsOf 5 = 1 := by kernel_rfl
  have c4 : Try.prog.cellsOf 4 = 1 := by kernel_rfl
  have c29 : Try.prog.cellsOf 52 = 16 := by kernel_rfl
  have c31 : Try.prog.cellsOf 54 = 17 := by kernel_rfl
  have hk2 : Try.prog.keyLits 4 52 ([x0, x1, x2, x3, x4, x5, x6, x7, x8, x9, x10, x11, x12, x13, x14, x15].map (Value.int .u8)) = some ([x0, x1, x2, x3, x4, x5, x6, x7, x8, x9, x10, x11, x12, x13, x14, x15].map (Lit.int .u8)) := by
    unfold Program.keyLits
    simp [Try.underlying52, c5, c29, List.range, List.range.loop, k0, k1, k2, k3, k4, k5, k6, k7, k8, k9, k10, k11, k12, k13, k14, k15]
  have hk3 : Try.prog.keyLits 4 4 [.bool b] = some [.bool b] := by
    simp [Program.keyLits, Try.underlying4]
  simp only [List.map_cons, List.map_nil] at hk2
  unfold Program.keyLits
  simp [Try.underlying54, adr, lits, c4, c29, c31, hk2, hk3]
set_option maxRecDepth 100000 in
theorem eq_ads (b b' : Bool) (xs ys : List Int) (h : okB xs) (h' : okB ys) (w : World) : (Op.equalIn 10000 54 (.agg (adr b xs).toArray) (.agg (adr b' ys).toArray)).run Try.prog w = .ok (decide (b = b' ∧ xs = ys)) w := by
  have key : ∃ r, (Op.equalIn 10000 54 (.agg (adr b xs).toArray) (.agg (adr b' ys).toArray)).run Try.prog w = .ok r w ∧ (r = true ↔ lits b xs = lits b' ys) := by
    have k1 := key_ad b xs h
    have k2 := key_ad b' ys h'
    generalize lits b xs = l1 at *
    generalize lits b' ys = l2 at *
    obtain ⟨x0, x1, x2, x3, x4, x5, x6, x7, x8, x9, x10, x11, x12, x13, x14, x15, rfl⟩ := sixteen xs h.1
    obtain ⟨y0, y1, y2, y3, y4, y5, y6, y7, y8, y9, y10, y11, y12, y13, y14, y15, rfl⟩ := sixteen ys h'.1
    exact run_equalIn_deep 9995 5 54 (by kernel_rfl) w 5 5 _ _ l1 l2 (by rfl) (by rfl) k1 k2
  obtain ⟨r, hrun, hi⟩ := key
  rw [lits_inj] at hi
  rw [hrun]
  by_cases e : b = b' ∧ xs = ys
  · rw [hi.2 e]
    simp [e]
  · have hf : r = false := by
      cases r
      · rfl
      · exact absurd (hi.1 rfl) e
    rw [hf, decide_eq_false e]
end Go.Proofs.Ytpbabdoecjlifaa.A

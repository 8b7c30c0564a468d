/-
  Merged texts: Sg.
-/
import Derived.Test.YtiklhaajhdephaaDoorHD

/-
  Plain: six addresses of one family are tried in their order.
-/
namespace Go.Proofs.YtiklhaajhdephaaDoor
open Go.RowKit
set_option linter.unusedVariables false
set_option linter.unusedSimpArgs false

theorem okG (i : Nat) : okB [8, 1, 1, ((i % 256 : Nat) : Int), 0, 0, 0, 0, 0, 0, 0, 0, 0, 0, 0, 0] := by
  refine ⟨rfl, fun x hx => ?_⟩
  simp only [List.mem_cons, List.not_mem_nil, or_false] at hx
  omega
def gA (i : Nat) : Ad := ⟨false, [8, 1, 1, ((i % 256 : Nat) : Int), 0, 0, 0, 0, 0, 0, 0, 0, 0, 0, 0, 0], okG i⟩
theorem gA_cells {i : Nat} (h : i < 6) : adr false [8, 1, 1, (i : Int), 0, 0, 0, 0, 0, 0, 0, 0, 0, 0, 0, 0] = (gA i).cells := by
  show _ = adr false [8, 1, 1, ((i % 256 : Nat) : Int), 0, 0, 0, 0, 0, 0, 0, 0, 0, 0, 0, 0]
  rw [Nat.mod_eq_of_lt (by omega)]
def gL : List Ad := [gA 0, gA 1, gA 2, gA 3, gA 4, gA 5]
theorem gL_at {i : Nat} (h : i < 6) : gL[i]? = some (gA i) := by
  match i, h with
  | 0, _ => rfl
  | 1, _ => rfl
  | 2, _ => rfl
  | 3, _ => rfl
  | 4, _ => rfl
  | 5, _ => rfl
theorem gL_step {i : Nat} (h : i < 6) : gL.take (i + 1) = gL.take i ++ [gA i] := by
  rw [List.take_add_one, gL_at h]
  rfl
theorem gL_drop {i : Nat} (h : i < 6) : gL.drop i = gA i :: gL.drop (i + 1) := by
  rw [List.drop_eq_getElem_cons (show i < gL.length from h)]
  have := gL_at h
  rw [List.getElem?_eq_getElem (show i < gL.length from h)] at this
  rw [Option.some.inj this]
set_option maxRecDepth 100000 in
theorem gL_add : addL [] gL = gL := adq_inj (by decide)
theorem gL_valid : allV gL = true := by decide
theorem remP_first {ff : Int} {A : List Ad} {K : List Nat} (h : lastT A K ≠ none) : remP ff A K = remP 1 A K := by
  unfold remP
  split
  · rfl
  · split
    · rename_i h2; exact absurd h2 h
    · rfl
set_option maxRecDepth 100000 in
theorem gL_sort : sortS Ad.less gL = gL := adq_inj (by decide)
theorem gL_rem0 (ff : Int) : remP ff gL [] = gL := by
  have h1 : leftP gL [] = gL := rfl
  have h2 : lastT gL [] = none := rfl
  have h3 : famA false gL = gL := rfl
  have h4 : famA true gL = [] := rfl
  have hs : sortS Ad.less (leftP gL []) = gA 0 :: gL.drop 1 := by rw [h1, gL_sort]; rfl
  unfold remP
  rw [hs]
  simp only [h2]
  have hg : gA 0 :: gL.drop 1 = gL := rfl
  rw [hg]
  show interA gL ff false = gL
  unfold interA
  rw [h3, if_neg (by simp [gL])]
  have hz : ∀ l : List Ad, zipR [] l = l := fun l => by cases l <;> rfl
  rw [show famA (!false) gL = [] from h4, hz, List.take_append_drop]
set_option maxRecDepth 100000 in
theorem gL_r1 : remP 1 gL [0] = gL.drop 1 := adq_inj (by decide)
set_option maxRecDepth 100000 in
theorem gL_r2 : remP 1 gL [0, 1] = gL.drop 2 := adq_inj (by decide)
set_option maxRecDepth 100000 in
theorem gL_r3 : remP 1 gL [0, 1, 2] = gL.drop 3 := adq_inj (by decide)
set_option maxRecDepth 100000 in
theorem gL_r4 : remP 1 gL [0, 1, 2, 3] = gL.drop 4 := adq_inj (by decide)
set_option maxRecDepth 100000 in
theorem gL_r5 : remP 1 gL [0, 1, 2, 3, 4] = gL.drop 5 := adq_inj (by decide)
set_option maxRecDepth 100000 in
theorem gL_r6 : remP 1 gL [0, 1, 2, 3, 4, 5] = gL.drop 6 := adq_inj (by decide)
theorem gL_rem (ff : Int) {i : Nat} (h : i ≤ 6) : remP ff gL (List.range i) = gL.drop i := by
  match i, h with
  | 0, _ => exact gL_rem0 ff
  | 1, _ => rw [show List.range 1 = [0] from rfl, remP_first (by simp [lastT, gL]), gL_r1]
  | 2, _ => rw [show List.range 2 = [0, 1] from rfl, remP_first (by simp [lastT, gL]), gL_r2]
  | 3, _ => rw [show List.range 3 = [0, 1, 2] from rfl, remP_first (by simp [lastT, gL]), gL_r3]
  | 4, _ => rw [show List.range 4 = [0, 1, 2, 3] from rfl, remP_first (by simp [lastT, gL]), gL_r4]
  | 5, _ => rw [show List.range 5 = [0, 1, 2, 3, 4] from rfl, remP_first (by simp [lastT, gL]), gL_r5]
  | 6, _ => rw [show List.range 6 = [0, 1, 2, 3, 4, 5] from rfl, remP_first (by simp [lastT, gL]), gL_r6]
set_option maxRecDepth 100000 in
theorem gL_idx {i : Nat} (h : i < 6) : gL.idxOf (gA i) = i := by
  match i, h with
  | 0, _ => decide
  | 1, _ => decide
  | 2, _ => decide
  | 3, _ => decide
  | 4, _ => decide
  | 5, _ => decide
theorem gL_take {i : Nat} (h : i < 6) : takeK gL (List.range i) (gA i) = List.range (i + 1) := by
  unfold takeK
  rw [gL_idx h, List.range_succ]
/-- The dialer behind i attempts. -/
def sgS (c : Cfg) (i : Nat) (now : Int) : DS := ⟨c, true, initP c.rd, gL, List.range i, now, gL.take i, (List.range i).map (fun k => k + 1), []⟩
structure Sgc (c : Cfg) : Prop where
  ad : 1 ≤ c.ad ∧ c.ad ≤ 15
  jit : 0 ≤ c.jit ∧ c.jit ≤ 5
  mc : c.mc = 8
  valid : c.valid = true
theorem sg_init (c : Cfg) : initS c gL = sgS c 0 0 := by
  unfold initS sgS
  rw [gL_add]
  rfl
theorem sg_len {i : Nat} (h : i ≤ 6) : (gL.take i).length = i := by
  rw [List.length_take]
  have : gL.length = 6 := rfl
  omega
theorem sg_next {c : Cfg} (hc : Sgc c) {i : Nat} (h : i ≤ 6) (now : Int) : (sgS c i now).next = gL.drop i := by
  unfold DS.next
  have h1 : (sgS c i now).act.length = i := by simp [sgS]
  have h2 : (sgS c i now).S.length = i := by simp only [sgS]; exact sg_len h
  rw [if_neg (by rw [h1, h2]; simp only [sgS]; rw [hc.mc]; omega)]
  exact gL_rem c.ff h
theorem sg_ready (c : Cfg) (i : Nat) (n now : Int) : (sgS c i n).ready now = true := rfl
theorem sg_cand {c : Cfg} (hc : Sgc c) {i : Nat} (h : i ≤ 6) {n now : Int} (hn : n ≤ now) : (sgS c i n).cand now = gL.drop i := by
  unfold DS.cand
  rw [if_neg (by rw [sg_ready]; simp only [sgS]; simp; omega), sg_next hc h]
theorem sg_wait (c : Cfg) (i : Nat) {n now : Int} (hn : now < n) : (sgS c i n).cand now = [] := by
  unfold DS.cand
  rw [if_pos (.inr hn)]
theorem sg_start {c : Cfg} (hc : Sgc c) {i : Nat} (h : i < 6) {now draw : Int} (hn : 0 ≤ now ∧ now ≤ 200) : (sgS c i now).startS now draw (gA i) = sgS c (i + 1) (now + c.ad + draw % (c.jit + 1)) := by
  have h1 := Int.emod_nonneg draw (show c.jit + 1 ≠ 0 by have := hc.jit; omega)
  have h2 := Int.emod_lt_of_pos draw (show 0 < c.jit + 1 by have := hc.jit; omega)
  have h3 := hc.ad
  have h4 := hc.jit
  have e1 : addT now (c.ad + draw % (c.jit + 1)) = now + c.ad + draw % (c.jit + 1) := by
    unfold addT maxT
    rw [if_neg (by omega)]
    omega
  unfold DS.startS sgS
  simp only
  rw [gL_take h, e1, ← gL_step h, sg_len (by omega), List.range_succ, List.map_append]
  rfl
theorem sg_ns {c : Cfg} (hc : Sgc c) {i : Nat} (h : i < 6) {n now : Int} (h0 : 0 ≤ now) (hn : now + 1 ≤ n) (hm : n ≤ 1000) : (sgS c i n).nextStart now = n := by
  unfold DS.nextStart
  rw [sg_next hc (by omega), gL_drop h]
  rw [if_neg (by simp), if_pos (sg_ready c i n now)]
  have : addT now 1 = now + 1 := by unfold addT maxT; rw [if_neg (by omega)]
  rw [this]
  show max n (now + 1) = n
  omega
theorem sg_end {c : Cfg} (hc : Sgc c) (n now : Int) : (sgS c 6 n).nextStart now = maxT := by
  unfold DS.nextStart
  rw [sg_next hc (by omega)]
  rfl
end Go.Proofs.YtiklhaajhdephaaDoor

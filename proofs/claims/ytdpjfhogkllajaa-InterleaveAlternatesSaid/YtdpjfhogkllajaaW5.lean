/-
  The walk of InterleaveAlternates: true at every two numbers and family. No condition.
-/
import Derived.Test.YtdpjfhogkllajaaAw
import Derived.Test.YtdpjfhogkllajaaAr
import Derived.Deep.QuietTactic
import Derived.BigQuiet
namespace Go.Proofs.Ytdpjfhogkllajaa.interleaveAlternates
open Go.RowKit Go.Deep
set_option linter.unusedVariables false
set_option linter.unusedSimpArgs false

theorem _root_.Go.Proofs.Ytdpjfhogkllajaa.Touch.drews {S : List Nat} {a w : World} (h : Touch S a w) (n : Nat) : Touch S a (w.drewN n) := ⟨h.os, h.tape, h.output, h.size, h.block⟩
def el (m i : Nat) : List Value := adr (decide (m ≤ i)) [9, (i : Int), 0, 0, 0, 0, 0, 0, 0, 0, 0, 0, 0, 0, 0, 0]
theorem el_ad (m i : Nat) (h : i ≤ 255) : IsAd (el m i) := by
  refine ⟨_, _, rfl, rfl, ?_⟩
  intro x hx
  simp at hx
  omega
def els (m k : Nat) : List (List Value) := (List.range k).map (el m)
theorem els_len (m k : Nat) : (els m k).length = k := by simp [els]
theorem els_snoc (m k : Nat) : els m (k + 1) = els m k ++ [el m k] := by simp [els, List.range_succ]
theorem els_ad (m k : Nat) (h : k ≤ 256) : ∀ x ∈ els m k, IsAd x := by
  intro x hx
  obtain ⟨i, hi, rfl⟩ := List.mem_map.1 hx
  have := List.mem_range.1 hi
  exact el_ad m i (by omega)


theorem els_fam (m n : Nat) : (fam true (els m (m + n))).length = n ∧ (fam false (els m (m + n))).length = m := by
  induction n with
  | zero =>
    have h : ∀ x ∈ els m (m + 0), flagv x = false := by
      intro x hx
      obtain ⟨i, hi, rfl⟩ := List.mem_map.1 hx
      have := List.mem_range.1 hi
      show decide (m ≤ i) = false
      simp
      omega
    rw [fam_none (b := true) (by simpa using h), fam_same h, els_len]
    simp
  | succ n ih =>
    rw [← Nat.add_assoc, els_snoc, fam_append, fam_append]
    have hf : flagv (el m (m + n)) = true := by
      show decide (m ≤ m + n) = true
      simp
    have e1 : fam true [el m (m + n)] = [el m (m + n)] := fam_same (by simpa using hf)
    have e2 : fam false [el m (m + n)] = [] := fam_none (by simpa using hf)
    rw [e1, e2]
    simp [ih]
theorem zipR_even {α : Type} : ∀ (os ls : List α) (q : Nat), q < os.length → q ≤ ls.length → (zipR os ls)[2 * q]? = os[q]?
  | o :: os, l :: ls, 0, _, _ => rfl
  | o :: os, [], 0, _, _ => rfl
  | o :: os, l :: ls, q + 1, h1, h2 => by
    rw [show 2 * (q + 1) = 2 * q + 1 + 1 by omega]
    simp only [zipR, List.getElem?_cons_succ]
    exact zipR_even os ls q (by simpa using h1) (by simpa using h2)
theorem zipR_odd {α : Type} : ∀ (os ls : List α) (q : Nat), q < ls.length → q < os.length → (zipR os ls)[2 * q + 1]? = ls[q]?
  | o :: os, l :: ls, 0, _, _ => rfl
  | o :: os, l :: ls, q + 1, h1, h2 => by
    rw [show 2 * (q + 1) + 1 = 2 * q + 1 + 1 + 1 by omega]
    simp only [zipR, List.getElem?_cons_succ]
    exact zipR_odd os ls q (by simpa using h1) (by simpa using h2)
/-- The places of the two families, at a count of 1. -/
theorem inter_places (xs : List (List Value)) (v6 : Bool) (q : Nat) (hq : q < (fam v6 xs).length) :
    (q ≤ (fam (!v6) xs).length → (inter xs 1 v6)[2 * q]? = (fam v6 xs)[q]?) ∧ (q < (fam (!v6) xs).length → (inter xs 1 v6)[2 * q + 1]? = (fam (!v6) xs)[q]?) := by
  unfold inter
  simp only
  generalize fam (!v6) xs = os at *
  cases hf : fam v6 xs with
  | nil => rw [hf] at hq; simp at hq
  | cons l ls =>
    rw [hf] at hq
    rw [if_neg (by simp)]
    have hl : lead 1 (l :: ls).length = 1 := by
      have : cl 1 = 1 := by simp [cl]
      simp [lead, this]
    rw [hl]
    simp only [List.take_succ_cons, List.take_zero, List.drop_succ_cons, List.drop_zero, List.cons_append, List.nil_append]
    refine ⟨fun h => ?_, fun h => ?_⟩
    · cases q with
      | zero => rfl
      | succ q =>
        rw [show 2 * (q + 1) = 2 * q + 1 + 1 by omega, List.getElem?_cons_succ, List.getElem?_cons_succ]
        exact zipR_odd os ls q (by simpa using hq) (by omega)
    · rw [List.getElem?_cons_succ]
      exact zipR_even os ls q h (by simp at hq; omega)
theorem flag_at {b : Bool} {xs : List (List Value)} {q : Nat} {x : List Value} (h : (fam b xs)[q]? = some x) : flagv x = b := by
  obtain ⟨h1, rfl⟩ := List.getElem?_eq_some_iff.1 h
  exact fam_flag _ (List.getElem_mem h1)
theorem fams (m n : Nat) (v6 : Bool) : (fam v6 (els m (m + n))).length = (if v6 then n else m) ∧ (fam (!v6) (els m (m + n))).length = if v6 then m else n := by
  obtain ⟨h1, h2⟩ := els_fam m n
  cases v6 <;> simp [h1, h2]
theorem alternate (m n : Nat) (v6 : Bool) (k : Nat) (hk : k + 1 < 2 * m) (hk2 : k + 1 < 2 * n) :
    ∃ x y, (inter (els m (m + n)) 1 v6)[k]? = some x ∧ (inter (els m (m + n)) 1 v6)[k + 1]? = some y ∧ flagv x ≠ flagv y := by
  obtain ⟨h1, h2⟩ := fams m n v6
  have hle1 : k + 1 < 2 * (fam v6 (els m (m + n))).length := by rw [h1]; split <;> omega
  have hle2 : k + 1 < 2 * (fam (!v6) (els m (m + n))).length := by rw [h2]; split <;> omega
  have hs : ∀ b q, q < (fam b (els m (m + n))).length → ∃ x, (fam b (els m (m + n)))[q]? = some x ∧ flagv x = b := fun b q hq =>
    ⟨_, List.getElem?_eq_getElem hq, fam_flag _ (List.getElem_mem hq)⟩
  have hpar : ∃ q, k = 2 * q ∨ k = 2 * q + 1 := ⟨k / 2, by omega⟩
  obtain ⟨q, rfl | rfl⟩ := hpar
  · obtain ⟨x, hx, fx⟩ := hs v6 q (by omega)
    obtain ⟨y, hy, fy⟩ := hs (!v6) q (by omega)
    obtain ⟨p1, p2⟩ := inter_places (els m (m + n)) v6 q (by omega)
    exact ⟨x, y, by rw [p1 (by omega), hx], by rw [p2 (by omega), hy], by rw [fx, fy]; cases v6 <;> simp⟩
  · obtain ⟨x, hx, fx⟩ := hs (!v6) q (by omega)
    obtain ⟨y, hy, fy⟩ := hs v6 (q + 1) (by omega)
    obtain ⟨_, p2⟩ := inter_places (els m (m + n)) v6 q (by omega)
    obtain ⟨p1, _⟩ := inter_places (els m (m + n)) v6 (q + 1) (by omega)
    exact ⟨x, y, by rw [p2 (by omega), hx], by rw [show 2 * q + 1 + 1 = 2 * (q + 1) by omega, p1 (by omega), hy], by rw [fx, fy]; cases v6 <;> simp⟩
theorem first_flag (m n : Nat) (v6 : Bool) (h : 0 < m + n) : ∃ x, (inter (els m (m + n)) 1 v6)[0]? = some x ∧ flagv x = (decide (0 < n) && (v6 || decide (m = 0))) := by
  obtain ⟨h1, h2⟩ := fams m n v6
  by_cases h0 : 0 < (fam v6 (els m (m + n))).length
  · obtain ⟨p1, _⟩ := inter_places (els m (m + n)) v6 0 h0
    refine ⟨_, by rw [show 0 = 2 * 0 from rfl, p1 (by omega), List.getElem?_eq_getElem h0], ?_⟩
    rw [fam_flag _ (List.getElem_mem h0)]
    rw [h1] at h0
    cases v6 <;> simp at h0 ⊢ <;> omega
  · have hn : fam v6 (els m (m + n)) = [] := List.eq_nil_of_length_eq_zero (by omega)
    have ho : 0 < (fam (!v6) (els m (m + n))).length := by
      rw [h1] at h0
      rw [h2]
      cases v6 <;> simp at h0 ⊢ <;> omega
    refine ⟨(fam (!v6) (els m (m + n)))[0], ?_, ?_⟩
    · unfold inter
      simp only
      rw [if_pos hn, List.getElem?_eq_getElem ho]
    · rw [fam_flag _ (List.getElem_mem ho)]
      rw [h1] at h0
      rw [h2] at ho
      cases v6 <;> simp at h0 ho ⊢ <;> omega

set_option maxRecDepth 100000 in
set_option maxHeartbeats 2000000 in
theorem walk0 (four six : Int) (v6 : Bool) (w : World) :
    Calls Try.prog 5 #[.int .i64 four, .int .i64 six, .bool v6] w fun e w' => e = .returned (.bool true) ∧ Touch [] w w' := by
  obtain ⟨i31, hi31, hz31, hs31, hb31⟩ := info_parts info31
  have hg0 := gmod_lo four 12 (by omega)
  have hg1 := gmod_hi four 12 (by omega)
  have hh0 := gmod_lo six 12 (by omega)
  have hh1 := gmod_hi six 12 (by omega)
  go_enter Try.func5, Try.ntmps5
  go_wp2_with fail
  refine (mod_any _ _ _ (by omega) (by omega)).mono ?_
  rintro e w' ⟨rfl, rfl⟩
  go_wp2_with fail
  refine (mod_any _ _ _ (by omega) (by omega)).mono ?_
  rintro e w' ⟨rfl, rfl⟩
  generalize gmod four 12 = g at *
  generalize gmod six 12 = h at *
  obtain ⟨m, rfl⟩ := Int.eq_ofNat_of_zero_le hg0
  obtain ⟨n, rfl⟩ := Int.eq_ofNat_of_zero_le hh0
  have hm : m < 12 := by omega
  have hn : n < 12 := by omega
  go_wp2_with fail
  go_loopw [9, 10] (fun vx vi wr => ∃ (i : Nat), i ≤ m + n ∧ vi = .int .i64 i ∧ Own w wr vx (els m i) ∧ Touch [] w wr)
    (fun _ vi _ => m + n - (intOf vi).toNat)
  case atStart => exact ⟨0, by omega, rfl, by simpa [els] using Own.nil _ _, Touch.refl _ _⟩
  case round =>
    obtain ⟨i, hi, rfl, ho, ht⟩ := hrel
    by_cases hlt : i < m + n
    · have hrow := ho.row
      go_wp2_with (first
          | (refine wpList_buildSlice_rows rfl 22 1 _ rfl 31 17 i31 _ Try.underlying22 hi31 hz31 hs31 (by omega) [el m i] rfl (by simp [el, adr]) (by omega) (by rfl) ?_)
          | (at_builtin; refine wpList_app_rec _ (by rfl) _ _ 22 (by rfl) 31 i31 _ 17 17 Try.underlying22 hi31 hz31 hs31 hb31 rfl (by omega) _ (els m i).length _ (by rfl) hrow ([el m i].flatten) 31 (by rfl) (by rfl) (by simpa using (el_ad m i (by omega)).one) (by rw [els_len]; unfold maxLen; omega) (by rw [els_len]; omega) ?_))
      intro vo w2 ho2 t2 hv2
      have hnew2 : ∀ g, vo.ownBlock = some g → w.heap.size ≤ g := by
        intro g hg
        have z1 := ht.size
        rcases hv2 with e | e
        · rw [e] at hg; exact ho.new g hg
        · rw [e] at hg; simp at hg; omega
      have hown2 : Own w w2 vo (els m (i + 1)) := ⟨by rw [els_snoc, flatten_snoc, List.length_append]; simpa using ho2, hnew2⟩
      have ht2 : Touch [] w w2 := ht.trans t2 (fun g hg => .inr (ho.new g (by simpa using hg)))
      clear hv2 hnew2 ho2 t2 hrow
      go_wp2_with fail
      go_roundw
      case rel => exact ⟨i + 1, by omega, by go_num, hown2, ht2⟩
      case measure => simp [intOf]; omega
    · obtain rfl : i = m + n := by omega
      have HL := Lib.hid (els_len m (m + n))
      have had := els_ad m (m + n) (by omega)
      obtain ⟨b1, d1, _⟩ := ho.rd had
      go_wp2_with fail
      refine (inter13 _ b1 1 v6 _ _ (by rw [HL.out]; omega) d1 had).mono ?_
      rintro e w2 ⟨v2, rfl, o2, t2⟩
      obtain ⟨b2, d2, _⟩ := o2.rd (inter_mem 1 v6 had)
      have f2 := d2.form
      rw [inter_len, HL.out] at f2
      obtain ⟨a2, c2, rfl, hc1, hc2⟩ := f2
      have T2 := ht.trans t2 (by simp)
      have hc3 : c2 ≤ 9223372036854775807 := by unfold maxLen at hc2; omega
      clear o2 d1 ho t2 ht
      go_wp2_with fail
      have HI : ∀ wr : World, Touch [] w2 wr → Rd wr 17 b2 (.slice a2 (m + n) c2) (inter (els m (m + n)) 1 v6) := fun wr t => d2.touch t (by simp)
      have HH := Lib.hid HI
      clear HI d2
      go_loopw [12] (fun vi wr => ∃ (k : Nat), k ≤ 24 ∧ vi = .int .i64 k ∧ Touch [] w2 wr)
        (fun vi _ => 24 - (intOf vi).toNat)
      case atStart => exact ⟨0, by omega, rfl, Touch.refl _ _⟩
      case round =>
        obtain ⟨k, hk, rfl, t3⟩ := hrel
        by_cases h2 : k + 1 < 2 * m ∧ k + 1 < 2 * n
        · obtain ⟨h2, h3⟩ := h2
          obtain ⟨x, y, hx, hy, hne⟩ := alternate m n v6 k h2 h3
          have D := HH.out wr t3
          obtain ⟨off, rfl, hat⟩ := D.at (by intro e; rw [e] at hx; simp at hx)
          have hax := inter_mem 1 v6 had x (List.mem_of_getElem? hx)
          have hay := inter_mem 1 v6 had y (List.mem_of_getElem? hy)
          have c1 := hat k x hx 0 _ hax.flagv
          have c2' := hat (k + 1) y hy 0 _ hay.flagv
          simp only [Nat.add_zero] at c1 c2'
          have hq : (flagv x == flagv y) = false := by simpa using hne
          generalize flagv x = f at *
          generalize flagv y = f' at *
          clear hat D hx hy hax hay hne
          by_cases hmn : m ≤ n
          all_goals
            go_wp2_with fail
            go_quiet (fail)
            go_wp2_with fail
            go_roundw
            case rel => exact ⟨k + 1, by omega, by go_num, t3.drews _⟩
            case measure => simp [intOf]; omega
        · have fin : m + n = 0 ∨ 0 < m + n := by omega
          rcases fin with fin | fin
          · obtain rfl : m = 0 := by omega
            obtain rfl : n = 0 := by omega
            cases v6
            all_goals
              go_wp2_with fail
              refine (awake_ok _).mono ?_
              rintro e w4 ⟨rfl, t4⟩
              go_wp2_with fail
              go_ret
              exact ⟨rfl, (T2.trans t3 (by simp)).trans t4 (by simp)⟩
          · obtain ⟨x, hx, hfx⟩ := first_flag m n v6 fin
            have D := HH.out wr t3
            obtain ⟨off, rfl, hat⟩ := D.at (by intro e; rw [e] at hx; simp at hx)
            have c1 := hat 0 x hx 0 _ (inter_mem 1 v6 had x (List.mem_of_getElem? hx)).flagv
            simp only [Nat.add_zero, Nat.zero_mul] at c1
            rw [hfx] at c1
            obtain ⟨ld, hld⟩ : ∃ ld, (decide (0 < n) && (v6 || decide (m = 0))) = ld := ⟨_, rfl⟩
            rw [hld] at c1
            have HN : ∀ wr' : World, Touch [] wr wr' → wr'.cell? ⟨b2, off, none⟩ = some (.bool ld) := fun wr' t => t.cell c1 (by simp)
            have HC := Lib.hid HN
            clear HN hx hfx hat D c1
            by_cases hm0 : m = 0
            all_goals by_cases hn0 : n = 0
            all_goals cases v6
            all_goals (try (exfalso; omega))
            all_goals rcases (show ld = true ∨ ld = false by cases ld <;> simp) with rfl | rfl
            all_goals (try (exfalso; revert hld; simp [hm0, hn0] <;> omega; done))
            all_goals clear hld
            all_goals (try subst hm0)
            all_goals (try subst hn0)
            all_goals (try have hm1 : ((m : Int) == 0) = false := by simpa using hm0)
            all_goals (try have hn1 : 0 < n := by omega)
            all_goals go_wp2_with fail
            all_goals (refine (awake_ok _).mono ?_; rintro e w4 ⟨rfl, t4⟩; have hc := HC.out w4 t4)
            all_goals go_wp2_with fail
            all_goals go_ret
            all_goals exact ⟨rfl, (T2.trans t3 (by simp)).trans t4 (by simp)⟩

theorem walk {H : Type} {enc : TypeId × Value → H} {w : World} (four : Int) (h4 : (Lit.int .i64 four).wf = true) (six : Int) (h6 : (Lit.int .i64 six).wf = true) (v6 : Bool) :
    Calls Try.prog 5 #[.int .i64 four, .int .i64 six, .bool v6] w fun e w' => e = .returned (.bool true) ∧ Below w.heap.size w w' :=
  (walk0 four six v6 w).mono fun e w' ⟨h1, h2⟩ => ⟨h1, h2.below (by simp) (Nat.le_refl _)⟩
end Go.Proofs.Ytdpjfhogkllajaa.interleaveAlternates

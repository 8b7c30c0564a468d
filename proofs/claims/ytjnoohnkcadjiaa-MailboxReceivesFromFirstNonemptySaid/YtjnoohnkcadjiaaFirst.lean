/-
  The contract of ReceiveFirst at int, over a slice of mailboxes: it receives from the first that holds something; else nothing turns.
-/
import Derived.Test.YtjnoohnkcadjiaaBox
import Derived.Test.YtjnoohnkcadjiaaMem
namespace Go.Proofs.Ytjnoohnkcadjiaa
open Go.RowKit
set_option linter.unusedVariables false
set_option linter.unusedSimpArgs false

theorem But1.touch {c : Nat} {w w' : World} (h : But1 c w w') : Touch [c] w w' :=
  ⟨h.os, h.tape, h.output, by rw [h.size]; exact Nat.le_refl _, fun k _ hn => h.block k (by simpa using hn)⟩
theorem Touch.box {S : List Nat} {w w' : World} (h : Touch S w w') {T b c cap : Nat} {buf : Array Value} (hb : IsBox w T b c cap buf) (h1 : b ∉ S) (h2 : c ∉ S) : IsBox w' T b c cap buf := by
  obtain ⟨s, r, hc⟩ := hb.ch
  exact ⟨h.at hb.box h1, s, r, h.at hc h2⟩

set_option maxHeartbeats 1000000 in
theorem first_none (w : World) (a : Option Addr) (lb n c : Nat) (B C : Nat → Nat) (hn : n ≤ 8) (ha : 0 < n → a = some ⟨lb, 0, none⟩)
    (hcell : ∀ i, i < n → w.cell? ⟨lb, i, none⟩ = some (.pointer (some ⟨B i, 0, none⟩))) (hbox : ∀ i, i < n → IsBox w 58 (B i) (C i) 4 #[]) :
    Calls Try.prog 16 #[.slice a n c] w fun e w' => e = .returned (.tuple #[.int .i64 0, .int .i64 0, .bool false]) ∧ w = w' := by
  go_enter Try.func16, Try.ntmps16
  go_wp2_with fail
  go_loop [12] (fun vi => ∃ j : Nat, j ≤ n ∧ vi = .int .i64 j) (fun vi => n - (intOf vi).toNat)
  case atStart => exact ⟨0, by omega, rfl⟩
  case round =>
    obtain ⟨j, hj, rfl⟩ := hrel
    by_cases hlt : j < n
    · obtain rfl := ha (by omega)
      have hcj := hcell j hlt
      have hb := hbox j hlt
      go_wp2_with fail
      refine (recv_int_none _ _ _ w hb).mono ?_
      rintro e w' ⟨rfl, rfl⟩
      go_wp2_with fail
      go_round
      case rel => exact ⟨j + 1, by omega, by go_num⟩
      case measure => simp [intOf]; omega
    · go_wp2_with fail
      go_ret3
      exact ⟨rfl, rfl⟩

set_option maxHeartbeats 1000000 in
theorem first_some (w : World) (a : Option Addr) (lb n c k : Nat) (B C : Nat → Nat) (x : Value) (tl : List Value) (hn : n ≤ 8) (ha : a = some ⟨lb, 0, none⟩) (hk : k < n)
    (hcell : ∀ i, i < n → w.cell? ⟨lb, i, none⟩ = some (.pointer (some ⟨B i, 0, none⟩))) (hbox : ∀ i, i < k → IsBox w 58 (B i) (C i) 4 #[]) (hx : IsBox w 58 (B k) (C k) 4 (x :: tl).toArray) :
    Calls Try.prog 16 #[.slice a n c] w fun e w' => e = .returned (.tuple #[.int .i64 (k : Int), x, .bool true]) ∧ IsBox w' 58 (B k) (C k) 4 tl.toArray ∧ But1 (C k) w w' := by
  subst ha
  go_enter Try.func16, Try.ntmps16
  go_wp2_with fail
  go_loop [12] (fun vi => ∃ j : Nat, j ≤ k ∧ vi = .int .i64 j) (fun vi => n - (intOf vi).toNat)
  case atStart => exact ⟨0, by omega, rfl⟩
  case round =>
    obtain ⟨j, hj, rfl⟩ := hrel
    have hcj := hcell j (by omega)
    have hjn : j < n := by omega
    by_cases hlt : j < k
    · have hb := hbox j hlt
      go_wp2_with fail
      refine (recv_int_none _ _ _ w hb).mono ?_
      rintro e w' ⟨rfl, rfl⟩
      go_wp2_with fail
      go_round
      case rel => exact ⟨j + 1, by omega, by go_num⟩
      case measure => simp [intOf]; omega
    · obtain rfl : j = k := by omega
      go_wp2_with fail
      refine (recv_int_some _ _ _ _ w hx x tl rfl).mono ?_
      rintro e w' ⟨rfl, hb2, hbut⟩
      go_wp2_with fail
      go_ret3
      exact ⟨rfl, hb2, hbut⟩
end Go.Proofs.Ytjnoohnkcadjiaa

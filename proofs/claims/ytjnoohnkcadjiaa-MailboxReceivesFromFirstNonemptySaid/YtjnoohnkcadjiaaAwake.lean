/-
  awake() of the mailbox's statements returns true, and turns no block that was there. No condition.
-/
import Derived.Test.YtjnoohnkcadjiaaBox
namespace Go.Proofs.Ytjnoohnkcadjiaa
open Go.RowKit
set_option linter.unusedVariables false
set_option linter.unusedSimpArgs false

set_option maxHeartbeats 1000000 in
theorem awake_any (w : World) :
    Calls Try.prog 7 #[] w fun e w' => e = .returned (.bool true) ∧ Below w.heap.size w w' := by
  go_enter Try.func7, Try.ntmps7
  go_wp2_with fail
  refine (new_string 1 w (by omega) (by omega)).mono ?_
  rintro e w1 ⟨rfl, hbox1, hb1, hz1⟩
  go_wp2_with fail
  refine (new_int_no 0 w1 (by omega)).mono ?_
  rintro e w1' ⟨rfl, rfl⟩
  go_wp2_with fail
  refine (send_string_room (w.heap.size + 1) w.heap.size 1 #[] _ w1 hbox1 (by simp)).mono ?_
  rintro e w2 ⟨rfl, hbox2, hb2⟩
  go_wp2_with fail
  refine (send_string_full (w.heap.size + 1) w.heap.size 1 _ _ w2 hbox2 (by simp)).mono ?_
  rintro e w2' ⟨rfl, rfl⟩
  go_wp2_with fail
  refine (recv_string_some (w.heap.size + 1) w.heap.size 1 _ w2 hbox2 (.string ⟨#[97]⟩) [] (by simp)).mono ?_
  rintro e w3 ⟨rfl, hbox3, hb3⟩
  go_wp2_with fail
  refine (recv_string_none (w.heap.size + 1) w.heap.size 1 w3 hbox3).mono ?_
  rintro e w3' ⟨rfl, rfl⟩
  go_wp2_with fail
  refine (len_string (w.heap.size + 1) w.heap.size 1 _ w3 hbox3).mono ?_
  rintro e w3' ⟨rfl, rfl⟩
  go_wp2_with fail
  refine (cap_string (w.heap.size + 1) w.heap.size 1 _ w3 hbox3).mono ?_
  rintro e w3' ⟨rfl, rfl⟩
  go_wp2_with fail
  go_ret
  refine ⟨?_, (hb1.trans (hb2.below (Nat.le_refl _))).trans (hb3.below (Nat.le_refl _))⟩
  simp
end Go.Proofs.Ytjnoohnkcadjiaa

/-
  The walk of MailboxValidatesCapacity: true at every n. No condition.
-/
import Derived.Test.YtjnoohnkcadjiaaAwake
import Derived.Test.YtjnoohnkcadjiaaFlat
namespace Go.Proofs.Ytjnoohnkcadjiaa.mailboxValidatesCapacity
open Go.RowKit
set_option linter.unusedVariables false
set_option linter.unusedSimpArgs false

set_option maxHeartbeats 1000000 in
theorem walk {H : Type} {enc : TypeId × Value → H} (n : Int) (hn : (Lit.int .i64 n).wf = true) (w : World) :
    Calls Try.prog 3 #[.int .i64 n] w fun e w' => e = .returned (.bool true) ∧ Below w.heap.size w w' := by
  by_cases h1 : n < 1
  · have g1 : decide (1 ≤ n) = false := by simp; omega
    go_enter Try.func3, Try.ntmps3
    go_wp2_with fail
    refine (new_ep_no n w (.inl h1)).mono ?_
    rintro e w1 ⟨rfl, rfl⟩
    go_wp2_with fail
    refine (awake_any w).mono ?_
    rintro e w2 ⟨rfl, hb2⟩
    go_wp2_with fail
    go_ret
    exact ⟨rfl, hb2⟩
  · by_cases h2 : 4096 < n
    · have g1 : decide (1 ≤ n) = true := by simp; omega
      have g2 : decide (n ≤ 4096) = false := by simp; omega
      go_enter Try.func3, Try.ntmps3
      go_wp2_with fail
      refine (new_ep_no n w (.inr h2)).mono ?_
      rintro e w1 ⟨rfl, rfl⟩
      go_wp2_with fail
      refine (awake_any w).mono ?_
      rintro e w2 ⟨rfl, hb2⟩
      go_wp2_with fail
      go_ret
      exact ⟨rfl, hb2⟩
    · have h1' : 1 ≤ n := by omega
      have h2' : n ≤ 4096 := by omega
      go_enter Try.func3, Try.ntmps3
      go_wp2_with fail
      refine (new_ep n w h1' h2').mono ?_
      rintro e w1 ⟨rfl, hbox, hb1, hz⟩
      go_wp2_with fail
      refine (awake_any w1).mono ?_
      rintro e w2 ⟨rfl, hb2⟩
      have hbox2 : IsBox w2 48 (w.heap.size + 1) w.heap.size n.toNat #[] := by
        obtain ⟨s, r, hc⟩ := hbox.ch
        exact ⟨by rw [hb2.block _ (by omega)]; exact hbox.box, s, r, by rw [hb2.block _ (by omega)]; exact hc⟩
      go_wp2_with fail
      refine (len_ep _ _ _ _ w2 hbox2).mono ?_
      rintro e w3 ⟨rfl, rfl⟩
      go_wp2_with fail
      refine (cap_ep _ _ _ _ w2 hbox2).mono ?_
      rintro e w3 ⟨rfl, rfl⟩
      go_wp2_with fail
      go_ret
      refine ⟨?_, hb1.trans (hb2.mono (by omega))⟩
      simp
      omega
end Go.Proofs.Ytjnoohnkcadjiaa.mailboxValidatesCapacity

/-
  The walk of MailboxReceivesFromFirstNonempty: true at every list of counts and every number of turns. No condition.
-/
import Derived.Test.YtjnoohnkcadjiaaRecvS
import Derived.Lib.Hide
namespace Go.Proofs.Ytjnoohnkcadjiaa.mailboxReceivesFromFirstNonempty
open Go.RowKit Go.Deep
set_option linter.unusedVariables false
set_option linter.unusedSimpArgs false

theorem below_draws {B : Nat} {a w : World} (h : Below B a w) (n : Nat) : Below B a (w.drewN n) := ⟨h.os, h.tape, h.output, h.size, h.block⟩

theorem St.draws {N n : Nat} {B C K L : Nat → Nat} {vl vleft : Value} {w : World} (h : St N n B C K L vl vleft w) (q : Nat) : St N n B C K L vl vleft (w.drewN q) :=
  ⟨h.apart, h.offl, h.offr, h.lr, h.l, h.left, fun j hj => ⟨(h.box j hj).box, (h.box j hj).ch⟩⟩

set_option maxRecDepth 100000 in
set_option maxHeartbeats 8000000 in
theorem walk0 (a : Option Addr) (mb off len cap : Nat) (M : Nat → Int) (turns : Int) (hl : len ≤ cap) (hm : cap ≤ maxLen) (w : World)
    (ha : 0 < len → a = some ⟨mb, off, none⟩) (hmb : 0 < len → mb < w.heap.size) (hc : ∀ i, i < len → w.cell? ⟨mb, off + i, none⟩ = some (.int .i64 (M i))) :
    Calls Try.prog 5 #[.slice a len cap, .int .i64 turns] w fun e w' => e = .returned (.bool true) ∧ Below w.heap.size w w' := by
  obtain ⟨i3, hi3, hz3, hs3, hb3⟩ := info_parts info3
  obtain ⟨i33, hi33, hz33, hs33, hb33⟩ := info_parts info33
  have hlm : len ≤ 9223372036854775807 := by unfold maxLen at hm; omega
  obtain ⟨K, hK⟩ : ∃ K : Nat → Nat, ∀ i, gmod (M i) 5 = (K i : Int) := ⟨fun i => (gmod (M i) 5).toNat, fun i => (Int.toNat_of_nonneg (gmod_lo _ 5 (by omega))).symm⟩
  have hK5 : ∀ i, K i < 5 := fun i => by have := gmod_hi (M i) 5 (by omega); rw [hK] at this; omega
  have HK := Lib.hid hK; clear hK
  obtain ⟨n, hn8, hnl, hn⟩ : ∃ n : Nat, n ≤ 8 ∧ n ≤ len ∧ (if (8 : Int) < (len : Int) then (8 : Int) else (len : Int)) = (n : Int) := ⟨min len 8, Nat.min_le_right _ _, Nat.min_le_left _ _, by split <;> omega⟩
  go_enter Try.func5, Try.ntmps5
  go_wp2_with fail
  clear hn
  go_loopw [6, 7, 8] (fun vl vr vi wr => ∃ (i : Nat) (B C : Nat → Nat), i ≤ n ∧ vi = .int .i64 i ∧ St w.heap.size i B C K K vl vr wr ∧ Below w.heap.size w wr)
    (fun _ _ vi _ => n - (intOf vi).toNat)
  case atStart => exact ⟨0, fun _ => 0, fun _ => 0, by omega, rfl, St.empty _ _ _ _ _ _, Below.refl _ _⟩
  case round =>
    obtain ⟨i, B, C, hi, rfl, hst, hbel⟩ := hrel
    obtain ⟨wo, rfl⟩ : ∃ wo : World, wo = wr := ⟨_, rfl⟩
    have hsz := hbel.size
    by_cases hlt : i < n
    · obtain rfl := ha (by omega)
      have hci := hc i (by omega)
      have hmbl := hmb (by omega)
      rw [← hbel.cell (by exact hmbl)] at hci
      have hKi := hK5 i
      have HKi := Lib.hid (HK.out i)
      go_wp2_with fail
      refine (new_int 4 wo (by omega) (by omega)).mono ?_
      rintro e w1 ⟨rfl, hbox, hb1, hz⟩
      have hci1 : w1.cell? ⟨mb, off + i, none⟩ = some (.int .i64 (M i)) := by rw [hb1.cell (by simp; omega)]; exact hci
      clear hci
      have hz1 : wo.heap.size + 2 ≤ w1.heap.size := by omega
      have hz2 : w1.heap.size ≤ wo.heap.size + 2 := by omega
      clear hz
      go_wp2_with fail
      refine (mod_any _ _ _ (by omega) (by omega)).mono ?_
      rintro e w1' ⟨rfl, rfl⟩
      rw [HKi.out]
      go_wp2_with fail
      go_loopw [12] (fun vj wr => ∃ j : Nat, j ≤ K i ∧ vj = .int .i64 j ∧ IsBox wr 58 (wo.heap.size + 1) wo.heap.size 4 (buf i j j).toArray ∧ Touch [wo.heap.size] w1 wr)
        (fun vj _ => K i - (intOf vj).toNat)
      case atStart => exact ⟨0, by omega, rfl, by simpa [buf] using hbox, Touch.refl _ _⟩
      case round =>
        obtain ⟨j, hj, rfl, hbx, ht⟩ := hrel
        by_cases hlj : j < K i
        · have hlen : (buf i j j).toArray.size < 4 := by simp [buf_len]; omega
          go_wp2_with fail
          refine (send_int_room _ _ _ _ _ wr hbx hlen).mono ?_
          rintro e w2 ⟨rfl, hbx2, hbut⟩
          go_wp2_with fail
          go_roundw
          case rel => exact ⟨j + 1, by omega, by go_num, by have := buf_push i j; rw [← this]; simpa using hbx2, ht.trans hbut.touch (by simp)⟩
          case measure => simp [intOf]; omega
        · obtain rfl : j = K i := by omega
          have t1 : Touch [] wo w1 := Touch.of_below hb1
          have t2 : Touch [] wo wr := t1.trans ht (fun x hx => by simp at hx; omega)
          have zr := ht.size
          have hst2 := hst.keep t2 (by simp) (by simp) (by simp)
          have h1l := hst2.l
          clear ht hbox hci1 hj hlj
          go_wp2_with (at_builtin; refine wpList_app1 _ rfl _ _ 42 rfl 33 i33 (.pointer none) 8 Try.underlying42 hi33 hz33 hs33 hb33 rfl _ _ _ rfl h1l _ 33 rfl rfl (by unfold maxLen; omega) (by omega) ?_)
          intro vl' w3 ho3 t3 hv3
          have h1r := t3.owns hst2.left (fun g hg hm => hst2.lr g (by simpa using hm) hg)
          have zr3 := t3.size
          go_wp2_with (at_builtin; refine wpList_app1 _ rfl _ _ 36 rfl 3 i3 (.int .i64 0) 8 Try.underlying36 hi3 hz3 hs3 hb3 rfl _ _ _ rfl h1r _ 3 rfl rfl (by unfold maxLen; omega) (by omega) ?_)
          intro vr' w4 ho4 t4 hv4
          have hst4 := hst.snoc (by omega) (b := wo.heap.size + 1) (c := wo.heap.size) (by omega) (by omega) (by omega) (by omega) (by omega) t2 hbx ho3 t3 hv3 ho4 t4 hv4
          have hlow1 : ∀ k ∈ u6.ownBlock.toList, w.heap.size ≤ k := fun k hk => (hst.offl k (by simpa using hk)).1
          have hlow2 : ∀ k ∈ u7.ownBlock.toList, w.heap.size ≤ k := fun k hk => (hst.offr k (by simpa using hk)).1
          have hbel4 : Below w.heap.size w w4 := ((hbel.trans (t2.below (by simp) (by omega))).trans (t3.below hlow1 (by omega))).trans (t4.below hlow2 (by omega))
          clear hv3 hv4 t3 t4 ho3 ho4 h1l h1r hst2 t1 t2 hlow1 hlow2 hst hbel
          go_wp2_with fail
          go_roundw
          case rel => exact ⟨i + 1, _, _, by omega, by go_num, hst4, hbel4⟩
          case measure => simp [intOf]; omega
    · obtain rfl : i = n := by omega
      clear hi hlt
      obtain ⟨al, cl, rfl, hcl1, hcl2, hal⟩ := owns_form hst.l
      obtain ⟨ar, cr, rfl, hcr1, hcr2, har⟩ := owns_form hst.left
      unfold maxLen at hcl2 hcr2
      go_wp2_with fail
      go_loopw [13] (fun vt wr => ∃ (t : Nat) (L : Nat → Nat), vt = .int .i64 t ∧ t ≤ 40 ∧ (∀ j, L j ≤ K j) ∧ St w.heap.size i B C K L (.slice al i cl) (.slice ar i cr) wr ∧ Below w.heap.size w wr)
        (fun vt _ => 40 - (intOf vt).toNat)
      case atStart => exact ⟨0, K, rfl, by omega, fun _ => Nat.le_refl _, hst, hbel⟩
      case round =>
        clear hst hbel
        obtain ⟨t, L, rfl, ht, hLK, hst, hbel⟩ := hrel
        obtain ⟨wt, rfl⟩ : ∃ wt : World, wt = wr := ⟨_, rfl⟩
        have hszt := hbel.size
        have hg0 := gmod_lo turns 40 (by omega)
        have hg1 := gmod_hi turns 40 (by omega)
        go_wp2_with fail
        refine (mod_any _ _ _ (by omega) (by omega)).mono ?_
        rintro e w1' ⟨rfl, rfl⟩
        by_cases htg : (t : Int) < gmod turns 40
        · go_wp2_with fail
          go_loop [14] (fun va => ∃ q : Nat, q ≤ i ∧ va = .int .i64 q ∧ ∀ j, j < q → L j = 0) (fun va => i - (intOf va).toNat)
          case atStart => exact ⟨0, by omega, rfl, by omega⟩
          case round =>
            obtain ⟨q, hq, rfl, hz⟩ := hrel
            have HZ := Lib.hid hz; clear hz
            by_cases hqi : q < i
            · obtain ⟨gl, rfl⟩ := hal (by omega)
              obtain ⟨gr, rfl⟩ := har (by omega)
              have hcq := owns_cell hst.left q (.int .i64 (L q : Int)) (by simp [hqi])
              by_cases hL0 : L q = 0
              · rw [hL0] at hcq
                go_wp2_with fail
                go_round
                case rel => exact ⟨q + 1, by omega, by go_num, fun j hj => by
                  by_cases hjq : j < q
                  · exact HZ.out j hjq
                  · obtain rfl : j = q := by omega
                    exact hL0⟩
                case measure => simp [intOf]; omega
              · have hL0' : ((L q : Int) == 0) = false := by simp; omega
                have hbx := hst.box q hqi
                rw [buf_cons q (K q) (L q) (by omega) (hLK q)] at hbx
                obtain ⟨X, hX⟩ : ∃ X : Int, ((10 * q + (K q - L q) : Nat) : Int) = X := ⟨_, rfl⟩
                rw [hX] at hbx
                have hLKq := hLK q
                have hX' : X = 10 * (q : Int) + (K q : Int) - (L q : Int) := by omega
                have HX := Lib.hid hX'
                clear hX hX'
                go_wp2_with fail
                refine (first_some wt _ gl i cl q B C _ _ hn8 rfl hqi (fun j hj => owns_cell hst.l j _ (by simp [hj])) (fun j hj => by have := hst.box j (by omega); rw [HZ.out j hj, buf_zero] at this; exact this) hbx).mono ?_
                rintro e w2 ⟨rfl, hbx2, hbut⟩
                have htake := hst.take hqi (by omega) hbx2 hbut.touch
                have hck : C q ≠ gr := fun e => ((hst.offr gr rfl).2 q hqi).2 e.symm
                have hcC := (hst.apart.lo q hqi).2
                have t2 := hbut.touch
                have hcq2 : w2.cell? ⟨gr, q, none⟩ = some (.int .i64 (L q : Int)) := t2.cell hcq (by simp; omega)
                have hfq2 : w2.frozen? ⟨gr, q, none⟩ = false := owns_frozen (t2.owns hst.left (fun g hg => by simp [Value.ownBlock] at hg; subst hg; simp; omega)) q
                have hmq : w2.cell? ⟨mb, off + q, none⟩ = some (.int .i64 (M q)) := by
                  have hmbl := hmb (by omega)
                  refine t2.cell ?_ (by simp; omega)
                  rw [hbel.cell (by exact hmbl)]
                  exact hc q (by omega)
                obtain rfl := ha (by omega)
                have HKq := Lib.hid (HK.out q)
                have hKq := hK5 q
                have e1 : IntKind.i64.wrap (10 * (q : Int)) = 10 * (q : Int) := IntWalk.i64_in _ (by omega)
                have e2 : IntKind.i64.wrap (10 * (q : Int) + (K q : Int)) = 10 * (q : Int) + (K q : Int) := IntWalk.i64_in _ (by omega)
                have e3 : IntKind.i64.wrap (10 * (q : Int) + (K q : Int) - (L q : Int)) = 10 * (q : Int) + (K q : Int) - (L q : Int) := IntWalk.i64_in _ (by omega)
                have e4 : (X != 10 * (q : Int) + (K q : Int) - (L q : Int)) = false := by rw [HX.out]; simp
                have e5 : (0 : Int) ≤ (q : Int) := by omega
                have e6 : (q : Int) < (len : Int) := by omega
                have e7 : (q : Int) < (i : Int) := by omega
                clear hcq hbx2 hbut
                go_wp2_with fail
                go_quiet ((go_at_call 10; exact Calls.quiet_of_same ((mod_any _ _ _ (by omega) (by omega)).mono fun _ _ ⟨h1, h2⟩ => ⟨by rw [h1, HKq.out], h2.symm⟩)))
                clear e1 e2 e3 e4
                go_wp2_with fail
                have hst5 := htake nq
                have hbel5 : Below w.heap.size w ((w2.drewN nq).setCell ⟨gr, q, none⟩ (.int .i64 ((L q : Int) - 1))) :=
                  (below_draws (hbel.trans (t2.below (by simp; exact hcC) (by omega))) nq).setCell (by have := (hst.offr gr rfl).1; exact this) _
                clear htake hst hbel hcq2 hfq2 hmq t2 hbx
                have hL2 : ∀ j, upd L q (L q - 1) j ≤ K j := by
                  intro j
                  by_cases hjq : j = q
                  · subst hjq; rw [upd_new]; omega
                  · have : upd L q (L q - 1) j = L j := by simp [upd, hjq]
                    rw [this]; exact hLK j
                generalize upd L q (L q - 1) = L2 at hst5 hL2
                go_loopw [18] (fun vj wr => ∃ j : Nat, j ≤ i ∧ vj = .int .i64 j ∧ St w.heap.size i B C K L2 (.slice (some ⟨gl, 0, none⟩) i cl) (.slice (some ⟨gr, 0, none⟩) i cr) wr ∧ Below w.heap.size w wr)
                  (fun vj _ => i - (intOf vj).toNat)
                case atStart => exact ⟨0, by omega, rfl, hst5, hbel5⟩
                case round =>
                  clear hst5 hbel5
                  obtain ⟨j, hj, rfl, hst, hbel⟩ := hrel
                  by_cases hji : j < i
                  · have hcl := owns_cell hst.l j (.pointer (some ⟨B j, 0, none⟩)) (by simp [hji])
                    have hcr := owns_cell hst.left j (.int .i64 (L2 j : Int)) (by simp [hji])
                    have hbxj := hst.box j hji
                    have f1 : (0 : Int) ≤ (j : Int) := by omega
                    have f2 : (j : Int) < (i : Int) := by omega
                    have hcall : ∀ n, Calls Try.prog 14 #[.pointer (some ⟨B j, 0, none⟩)] (wr.drewN n) fun e w' => e = .returned (.int .i64 (L2 j : Int)) ∧ w' = wr.drewN n := fun n =>
                      (len_int _ _ _ _ _ (⟨hbxj.box, hbxj.ch⟩ : IsBox (wr.drewN n) 58 _ _ _ _)).mono fun _ _ ⟨h1, h2⟩ => ⟨by rw [h1]; simp only [List.size_toArray, buf_len], h2.symm⟩
                    have HC := Lib.hid hcall
                    clear hcall hbxj
                    go_wp2_with fail
                    go_quiet ((go_at_call 14; exact Calls.quiet_of_same (HC.out _)))
                    go_wp2_with fail
                    go_roundw
                    case rel => exact ⟨j + 1, by omega, by go_num, hst.draws _, below_draws hbel _⟩
                    case measure => simp [intOf]; omega
                  · obtain rfl : j = i := by omega
                    go_wp2_with fail
                    go_roundw
                    case rel => exact ⟨t + 1, L2, by go_num, by omega, hL2, hst, hbel⟩
                    case measure => simp [intOf]; omega
            · obtain rfl : q = i := by omega
              go_wp2_with fail
              refine (first_none wt _ (match al with | some x => x.block | none => 0) q cl B C hn8 (fun h => by obtain ⟨g, rfl⟩ := hal h; rfl) (fun j hj => by obtain ⟨g, rfl⟩ := hal (by omega); exact owns_cell hst.l j _ (by simp [hj])) (fun j hj => by have := hst.box j hj; rw [HZ.out j hj, buf_zero] at this; exact this)).mono ?_
              rintro e w2 ⟨rfl, rfl⟩
              go_wp2_with fail
              refine (awake_any wt).mono ?_
              rintro e w2 ⟨rfl, hb2⟩
              go_wp2_with fail
              go_ret
              exact ⟨rfl, hbel.trans (hb2.mono (by omega))⟩
        · go_wp2_with fail
          refine (awake_any wt).mono ?_
          rintro e w2 ⟨rfl, hb2⟩
          go_wp2_with fail
          go_ret
          exact ⟨rfl, hbel.trans (hb2.mono (by omega))⟩

theorem walk {H : Type} {enc : TypeId × Value → H} (w : World) (v : Value) (hv : IsSlice enc Try.prog w 0 (fun _ => true) true [3] v) (turns : Int) (ht : (Lit.int .i64 turns).wf = true) :
    Calls Try.prog 5 #[v, .int .i64 turns] w fun e w' => e = .returned (.bool true) ∧ Below w.heap.size w w' := by
  obtain ⟨a, len, cap, rfl, hl, hm, hc⟩ := hv.at (by simp)
  rcases hc with h0 | ⟨b, off, rfl, hc⟩
  · subst h0
    exact walk0 a 0 0 0 cap (fun _ => 0) turns hl hm w (by omega) (by omega) (by omega)
  · have h1 : ∀ i, i < len → ∃ x : Int, w.cell? ⟨b, off + i, none⟩ = some (.int .i64 x) := by
      intro i hi
      obtain ⟨u, hu, lu⟩ := hc i 0 3 hi rfl
      obtain ⟨x, rfl, _⟩ := lu.int Try.underlying3
      exact ⟨x, by simpa using hu⟩
    obtain ⟨M, hM⟩ := choose_lt h1
    exact walk0 _ b off len cap M turns hl hm w (fun _ => rfl) (fun h => World.block_lt_of_cell? w _ (hM 0 h)) hM
end Go.Proofs.Ytjnoohnkcadjiaa.mailboxReceivesFromFirstNonempty

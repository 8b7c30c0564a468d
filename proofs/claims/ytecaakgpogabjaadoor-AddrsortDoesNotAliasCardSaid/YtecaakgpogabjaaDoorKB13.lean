/-
  The statement 'AddrsortDoesNotAliasSaid' of the seat: the frame of the row round the walk of the law's Go function (YtecaakgpogabjaaDoorW2): for every input the call returns true and each argument reads as it did.
-/
import Derived.Test.YtecaakgpogabjaaDoorKB12
import Derived.WalkKit
import Derived.ProofKit
import Derived.OpenShut
import Derived.ShutString
import Derived.ChangeOld
import Derived.Below
import Derived.Test.YtecaakgpogabjaaDoorTie
import Derived.Test.YtecaakgpogabjaaDoorCards
import Derived.LaidMore
import Derived.Lay
import Derived.SevenTiedAt
import Derived.Stop.Joined
import Derived.MakeChecks

/-
  The walk of AddrsortDoesNotAlias: true at every list.
-/
namespace Go.Proofs.YtecaakgpogabjaaDoor.addrsortDoesNotAlias
open Go.RowKit Go.Deep
set_option linter.unusedVariables false
set_option linter.unusedSimpArgs false

set_option maxRecDepth 100000 in
set_option maxHeartbeats 2000000 in
theorem walk0 (v : Value) (b : Nat) (xs : List (List Value)) (w : World) (hv : Rd w 17 b v xs) (hxs : ∀ x ∈ xs, IsAd x) :
    Calls Tryd.prog 6 #[v] w fun e w' => e = .returned (.bool true) ∧ Touch [] w w' := by
  have hf : IsAd (adr true [0, 0, 0, 0, 0, 0, 0, 0, 0, 0, 0, 0, 0, 0, 0, 0]) := ⟨_, _, rfl, rfl, by simp⟩
  go_enter Tryd.func6, Tryd.ntmps6
  go_wp2_with fail
  refine (someAddrs_any v b 16 xs _ (by omega) hv hxs).mono ?_
  rintro e w1 ⟨vx, ys, rfl, hys, hyl, ho, t1⟩
  obtain ⟨l, rfl⟩ := ads_of hys
  obtain ⟨bx, d1, hb1⟩ := ho.rd hys
  have hl : l.length ≤ 16 := by simpa using hyl
  have hyl2 : (l.map Ad.cells).length ≤ 100 := by omega
  clear hxs hv hb1
  go_wp2_with fail
  refine (spare_any _ bx (l.map Ad.cells) (adr true [0, 0, 0, 0, 0, 0, 0, 0, 0, 0, 0, 0, 0, 0, 0, 0]) _ hyl2 d1 hys hf).mono ?_
  rintro e w2 ⟨g, rfl, hg, dg, t2⟩
  have d2 := d1.touch t2 (by simp)
  have dt : Rd w2 17 g (.slice (some ⟨g, 0, none⟩) (l.map Ad.cells).length ((l.map Ad.cells).length + 3)) (l.map Ad.cells) := by
    have := dg.take (l.map Ad.cells).length (by simp)
    rw [List.take_left' rfl] at this
    exact this
  rw [List.length_map] at dt
  clear d1 ho
  go_wp2_with fail
  refine (sort_any _ g l _ dt (by omega)).mono ?_
  rintro e w3 ⟨v3, rfl, o3, t3⟩
  have dt3 := dt.touch t3 (by simp)
  have z3 := t3.size
  go_wp2_with fail
  refine (dedup_any _ g l _ dt3 (by omega)).mono ?_
  rintro e w4 ⟨v4, rfl, o4, t4⟩
  have o34 := Own.touch o3 t4 (by simp)
  have T4 := t3.trans t4 (by simp)
  go_wp2_with fail
  refine (over_any v3 _ w2 _ o34 (by have := isortN_len l 0 (l.length - 1); simp [sortP]; omega)).mono ?_
  rintro e w5 ⟨rfl, t5⟩
  have T5 : Touch [] w2 w5 := T4.trans t5 (fun x hx => .inr (o34.new x (by simpa using hx)))
  have hne : ∀ q, v4.ownBlock = some q → q ∉ v3.ownBlock.toList := by
    intro q hq hm
    have h1 := Own.lt o3 q (by simpa using hm)
    have h2 := Own.new o4 q hq
    omega
  have o45 := Own.touch o4 t5 hne
  clear o3 o34 o4 t3 t4 t5
  go_wp2_with fail
  refine (over_any v4 _ w3 _ o45 (by have := dedN_len l l.length; simp [dedP]; omega)).mono ?_
  rintro e w6 ⟨rfl, t6⟩
  have U : Touch [] w2 w6 := T5.trans t6 (fun x hx => .inr (by have := o45.new x (by simpa using hx); omega))
  clear o45 t6 T5 T4 dt dt3 hne
  go_wp2_with fail
  refine (awake_ok _).mono ?_
  rintro e w8 ⟨rfl, t8⟩
  have V := U.trans t8 (by simp)
  go_wp2_with fail
  have HU := unchanged_any g bx _ (l.map Ad.cells) (adr true [0, 0, 0, 0, 0, 0, 0, 0, 0, 0, 0, 0, 0, 0, 0, 0]) _ hyl2 (dg.touch V (by simp)) (d2.touch V (by simp)) hys hf
  rw [List.length_map] at HU
  refine HU.mono ?_
  rintro e w9 ⟨rfl, t9⟩
  go_wp2_with fail
  go_ret
  exact ⟨rfl, ((t1.trans t2 (by simp)).trans V (by simp)).trans t9 (by simp)⟩

theorem walk {H : Type} {enc : TypeId × Value → H} {w : World} (v : Value) (hv : IsSlice enc Tryd.prog w 0 (fun _ => true) true [4, 5, 5, 5, 5, 5, 5, 5, 5, 5, 5, 5, 5, 5, 5, 5, 5] v) :
    Calls Tryd.prog 6 #[v] w fun e w' => e = .returned (.bool true) ∧ Below w.heap.size w w' := by
  obtain ⟨b, xs, hr, hx⟩ := slice_rows (by simp) hv
  exact (walk0 v b xs w hr (fun x h => isAd_cells (hx x h))).mono fun e w' ⟨h1, h2⟩ => ⟨h1, h2.below (by simp) (Nat.le_refl _)⟩
end Go.Proofs.YtecaakgpogabjaaDoor.addrsortDoesNotAlias

/-
  The statement 'AddrsortDoesNotAliasSaid' of the seat: the frame of the row round the walk of the law's Go function (YtecaakgpogabjaaDoorW2): for every input the call returns true and each argument reads as it did.
-/
namespace Go.Proofs.YtecaakgpogabjaaDoor.addrsortDoesNotAlias
open Go.ChangeShapes Go.WideShapes Go.ChangeAt Go.RowKit
open Go.ChangeMaps (open_string shut_string)
set_option linter.unusedVariables false

theorem own : ownKnob Tryd.prog.godebug = none := by kernel_rfl
theorem laidOut : laidOutB Tryd.prog = true := by kernel_rfl

set_option maxRecDepth 100000 in
theorem lifted (os : Os) (started : os.Started) (H : Type) (enc : TypeId × Value → H) :
    ReturnsInHanded {} Tryd.checked os 6 .any (fun w args => (Rows.addrsortDoesNotAliasSpec.pre enc Tryd.prog Tryd.f6 Rows.addrsortDoesNotAliasRow.domain false w args ∧ laidMetH Tryd.prog Rows.addrsortDoesNotAliasRow.laid w) ∧ sizedMet enc Tryd.prog Tryd.f6 (OpenSpec.ofChange Rows.addrsortDoesNotAliasSpec) false w args)
      (Rows.addrsortDoesNotAliasSpec.post enc Tryd.prog Tryd.f6 false true false false) := by
  refine returnsInHanded_of_change_and (C := Tryd.checked) (X := fun w _ => laidMetH Tryd.prog Rows.addrsortDoesNotAliasRow.laid w) (fun _ _ _ hh h => h.of_heap hh) own started (by kernel_rfl) Tryd.func6
    (ChangeSpec.witness_shaped (enc := enc) (C := Tryd.checked) (os := os) (X := fun w _ => laidMetH Tryd.prog Rows.addrsortDoesNotAliasRow.laid w) false (World.laidAll Tryd.prog os Rows.addrsortDoesNotAliasRow.laid) #[.slice none 0 0] 8 (World.laidAll_os _ _ _)
      (World.shaped_of_ZipB (by kernel_rfl) (by kernel_rfl)) (by kernel_rfl) (by kernel_rfl) (by kernel_rfl)
      (by rw [MakeChecks.laidMetH_plain _ _ _ (by kernel_rfl)]; exact laidMet_laidAll _ (by kernel_rfl) (by kernel_rfl))) ?_
  intro W base args ds gs before hval0 hW hcnd _ hL _
  have hval : ∀ (j : Nat) t v, Tryd.f6.params[j]? = some t → args[j]? = some v → Value.okWide Tryd.prog W .any base t v := hval0
  have hW' := hW
  obtain ⟨p, q, hA0, hV, rfl, hfz, hnd⟩ := hW
  have hA : DataW.TrodAll enc Tryd.prog W 0 (fun _ => true) true Tryd.f6.params.toList args.toList ds p := hA0
  rw [Tryd.params6] at hA hval
  obtain ⟨v0, vs0, d0, ds0, p0, q0, hargs, rfl, rfl, h0, r0⟩ := trodAll_cons hA
  obtain ⟨rfl, rfl, rfl⟩ := trodAll_nil r0
  obtain rfl : args = #[v0] := by cases args; simp_all
  obtain ⟨rfl, rfl⟩ := trodVars_none hV
  have k0 := h0
  have lt0 : ∀ x ∈ p0, x.block < W.heap.size := by obtain ⟨m, hm⟩ := k0; exact DataW.trod_lt m _ _ _ hm
  obtain ⟨b0, len0, cap0, hv0⟩ := okWide_slice Tryd.underlying22 (hval 0 22 v0 rfl rfl)
  have s0 : IsSlice enc Tryd.prog W 0 (fun _ => true) true [4, 5, 5, 5, 5, 5, 5, 5, 5, 5, 5, 5, 5, 5, 5, 5, 5] v0 := by
    obtain ⟨fuel, hf⟩ := h0
    rw [hv0] at hf ⊢
    exact slice_ok (d := 8) Tryd.underlying22 (by kernel_rfl) (by kernel_rfl) (by simpa [Value.cells] using hf)
  clear hA0 hval0
  refine (walk (H := H) (enc := enc) (w := W) v0 s0).mono fun e W' ⟨he, bel⟩ => ?_
  subst he
  exact ⟨_, rfl, _, _, _, [], _, [], hW', trodAll_mk1 (shut_bool Tryd.underlying4 _), (trodAll_cons_mk (Below.trod laidOut (by kernel_rfl) (of_decide_eq_true (by kernel_rfl)) k0 bel lt0) trodAll_mk0), rfl, bel.frame _, fun h => by cases h⟩

theorem over : Rows.addrsortDoesNotAliasRow.holds Tryd.pinned (OpenSpec.ofChange Rows.addrsortDoesNotAliasSpec) :=
  OpenClaim.holds_of_wide 6 Tryd.f6 rfl rfl rfl rfl rfl rfl rfl ⟨rfl, rfl, rfl, rfl, rfl⟩ rfl rfl rfl rfl rfl (by kernel_rfl) Tryd.func6 (by kernel_rfl)
    (of_decide_eq_true (by kernel_rfl)) (by unfold Func.isWrapper; first | (rw [if_pos (by decide +kernel)]; kernel_rfl) | (rw [if_neg (by decide +kernel)]; exact ⟨rfl, rfl⟩))
    (fun os started H enc _ => lifted os started H enc)

theorem proved : Rows.AddrsortDoesNotAliasCardSaid :=
  Claim7.holds_tied_plain_at .later [] [.data, .pinned] true (true, "4177350ea34198befc6ff6f31b4814eb5d3a5020a4d88c2318c58b39474c45e1") false over (fun _ h => by cases h) (by kernel_rfl) (fun _ h => by cases h) addrsortDoesNotAlias_row_tie rfl ⟨rfl, rfl⟩ (by kernel_rfl) rfl
    (fun f fn hf hfn => by
      obtain rfl : f = 6 := Option.some.inj ((show Tryd.prog.funcNamed "ginnel/ginnellaw25.AddrsortDoesNotAlias" = some 6 by kernel_rfl).symm.trans hf) |>.symm
      obtain rfl : fn = Tryd.f6 := (Option.some.inj (Tryd.func6.symm.trans hfn)).symm
      exact ⟨by kernel_rfl, fun j t ht => by
        rw [Tryd.params6] at ht
        have hm : t ∈ [22] := by simpa using Array.mem_of_getElem? ht
        have hall : ([22].all fun u => !Tryd.prog.wantsStandIn u) = true := by kernel_rfl
        exact (show Tryd.prog.wantsStandIn t = false by simpa using List.all_eq_true.1 hall t hm)⟩)
    (by kernel_rfl)
#print axioms proved
end Go.Proofs.YtecaakgpogabjaaDoor.addrsortDoesNotAlias

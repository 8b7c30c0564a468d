/-
  The statement 'AddrsortLessIsWeakOrderSaid' of the seat: the frame of the row round the walk of the law's Go function (YtecaakgpogabjaaDoorW1): for every input the call returns true and each argument reads as it did.
-/
import Derived.Test.YtecaakgpogabjaaDoorKA13
import Derived.WalkKit
import Derived.ProofKit
import Derived.OpenShut
import Derived.ShutString
import Derived.ChangeOld
import Derived.Below
import Derived.Test.YtecaakgpogabjaaDoorTie
import Derived.Test.YtecaakgpogabjaaDoorCards
import Derived.LaidMore
import Derived.Lay
import Derived.SevenTiedAt
import Derived.Stop.Joined
import Derived.MakeChecks

/-
  The cells of an address that came in.
-/
namespace Go.Proofs.YtecaakgpogabjaaDoor
open Go.ChangeShapes Go.WideShapes Go.Deep
set_option linter.unusedVariables false
set_option linter.unusedSimpArgs false

theorem isAd_cells {H : Type} {enc : TypeId × Value → H} {w : World} {base : Nat} {spare : Nat → Bool} {held : Bool} {x : List Value}
    (h : CellsOk enc Tryd.prog w base spare held [4, 5, 5, 5, 5, 5, 5, 5, 5, 5, 5, 5, 5, 5, 5, 5, 5] x) : IsAd x := by
  obtain ⟨hl, hc⟩ := h
  cases x with
  | nil => simp at hl
  | cons u r =>
    obtain ⟨v, hv, l0⟩ := hc 0 4 rfl
    simp at hv
    subst hv
    obtain ⟨b, rfl⟩ := l0.bool Tryd.underlying4
    have hr : r.length = 16 := by simpa using hl
    have key : ∀ j, j < 16 → ∃ n : Int, r[j]? = some (.int .u8 n) ∧ 0 ≤ n ∧ n ≤ 255 := by
      intro j hj
      have : [4, 5, 5, 5, 5, 5, 5, 5, 5, 5, 5, 5, 5, 5, 5, 5, 5][j + 1]? = some 5 := by
        have : ∀ j : Fin 16, [4, 5, 5, 5, 5, 5, 5, 5, 5, 5, 5, 5, 5, 5, 5, 5, 5][j.val + 1]? = some 5 := by decide
        exact this ⟨j, hj⟩
      obtain ⟨v, hv, l⟩ := hc (j + 1) 5 this
      obtain ⟨n, rfl, hw⟩ := l.int Tryd.underlying5
      refine ⟨n, by simpa using hv, ?_⟩
      simp [Lit.wf, IntKind.min, IntKind.max, IntKind.signed, IntKind.bits] at hw
      omega
    refine ⟨b, r.map fun v => match v with | .int _ n => n | _ => 0, ?_, by simpa using hr, ?_⟩
    · unfold adr
      congr 1
      apply List.ext_getElem?
      intro j
      by_cases hj : j < 16
      · obtain ⟨n, hn, _⟩ := key j hj
        simp [hn]
      · simp [List.getElem?_eq_none (show r.length ≤ j by omega)]
    · intro y hy
      obtain ⟨z, hz, rfl⟩ := List.mem_map.1 hy
      obtain ⟨j, hj, rfl⟩ := List.getElem_of_mem hz
      obtain ⟨n, hn, h1, h2⟩ := key j (by omega)
      rw [List.getElem?_eq_getElem hj] at hn
      simp at hn
      rw [hn]
      exact ⟨h1, h2⟩

end Go.Proofs.YtecaakgpogabjaaDoor

/-
  The walk of the law's function, in the frame's words.
-/
namespace Go.Proofs.YtecaakgpogabjaaDoor.addrsortLessIsWeakOrder
open Go.RowKit Go.Deep
set_option linter.unusedVariables false
set_option linter.unusedSimpArgs false

theorem walk {H : Type} {enc : TypeId × Value → H} {w : World} (c0 : Array Value) (s0 : CellsOk enc Tryd.prog w 0 (fun _ => true) true [4, 5, 5, 5, 5, 5, 5, 5, 5, 5, 5, 5, 5, 5, 5, 5, 5] c0.toList)
    (c1 : Array Value) (s1 : CellsOk enc Tryd.prog w 0 (fun _ => true) true [4, 5, 5, 5, 5, 5, 5, 5, 5, 5, 5, 5, 5, 5, 5, 5, 5] c1.toList)
    (c2 : Array Value) (s2 : CellsOk enc Tryd.prog w 0 (fun _ => true) true [4, 5, 5, 5, 5, 5, 5, 5, 5, 5, 5, 5, 5, 5, 5, 5, 5] c2.toList) :
    Calls Tryd.prog 5 #[.agg c0, .agg c1, .agg c2] w fun e w' => e = .returned (.bool true) ∧ Below w.heap.size w w' := by
  obtain ⟨a, ha⟩ := ad_of (isAd_cells s0)
  obtain ⟨b, hb⟩ := ad_of (isAd_cells s1)
  obtain ⟨c, hc⟩ := ad_of (isAd_cells s2)
  have := wo_any a b c w
  rw [← ha, ← hb, ← hc] at this
  exact this.mono fun e w' h => ⟨h.1, h.2.below (by simp) (Nat.le_refl _)⟩
end Go.Proofs.YtecaakgpogabjaaDoor.addrsortLessIsWeakOrder

/-
  The statement 'AddrsortLessIsWeakOrderSaid' of the seat: the frame of the row round the walk of the law's Go function (YtecaakgpogabjaaDoorW1): for every input the call returns true and each argument reads as it did.
-/
namespace Go.Proofs.YtecaakgpogabjaaDoor.addrsortLessIsWeakOrder
open Go.ChangeShapes Go.WideShapes Go.ChangeAt Go.RowKit
open Go.ChangeMaps (open_string shut_string)
set_option linter.unusedVariables false

theorem own : ownKnob Tryd.prog.godebug = none := by kernel_rfl
theorem laidOut : laidOutB Tryd.prog = true := by kernel_rfl

set_option maxRecDepth 100000 in
theorem lifted (os : Os) (started : os.Started) (H : Type) (enc : TypeId × Value → H) :
    ReturnsInHanded {} Tryd.checked os 5 .any (fun w args => (Rows.addrsortLessIsWeakOrderSpec.pre enc Tryd.prog Tryd.f5 Rows.addrsortLessIsWeakOrderRow.domain false w args ∧ laidMetH Tryd.prog Rows.addrsortLessIsWeakOrderRow.laid w) ∧ sizedMet enc Tryd.prog Tryd.f5 (OpenSpec.ofChange Rows.addrsortLessIsWeakOrderSpec) false w args)
      (Rows.addrsortLessIsWeakOrderSpec.post enc Tryd.prog Tryd.f5 false true false false) := by
  refine returnsInHanded_of_change_and (C := Tryd.checked) (X := fun w _ => laidMetH Tryd.prog Rows.addrsortLessIsWeakOrderRow.laid w) (fun _ _ _ hh h => h.of_heap hh) own started (by kernel_rfl) Tryd.func5
    (ChangeSpec.witness_shaped (enc := enc) (C := Tryd.checked) (os := os) (X := fun w _ => laidMetH Tryd.prog Rows.addrsortLessIsWeakOrderRow.laid w) false (World.laidAll Tryd.prog os Rows.addrsortLessIsWeakOrderRow.laid) #[.agg #[.bool false, .int .u8 0, .int .u8 0, .int .u8 0, .int .u8 0, .int .u8 0, .int .u8 0, .int .u8 0, .int .u8 0, .int .u8 0, .int .u8 0, .int .u8 0, .int .u8 0, .int .u8 0, .int .u8 0, .int .u8 0, .int .u8 0], .agg #[.bool false, .int .u8 0, .int .u8 0, .int .u8 0, .int .u8 0, .int .u8 0, .int .u8 0, .int .u8 0, .int .u8 0, .int .u8 0, .int .u8 0, .int .u8 0, .int .u8 0, .int .u8 0, .int .u8 0, .int .u8 0, .int .u8 0], .agg #[.bool false, .int .u8 0, .int .u8 0, .int .u8 0, .int .u8 0, .int .u8 0, .int .u8 0, .int .u8 0, .int .u8 0, .int .u8 0, .int .u8 0, .int .u8 0, .int .u8 0, .int .u8 0, .int .u8 0, .int .u8 0, .int .u8 0]] 8 (World.laidAll_os _ _ _)
      (World.shaped_of_ZipB (by kernel_rfl) (by kernel_rfl)) (by kernel_rfl) (by kernel_rfl) (by kernel_rfl)
      (by rw [MakeChecks.laidMetH_plain _ _ _ (by kernel_rfl)]; exact laidMet_laidAll _ (by kernel_rfl) (by kernel_rfl))) ?_
  intro W base args ds gs before hval0 hW hcnd _ hL _
  have hval : ∀ (j : Nat) t v, Tryd.f5.params[j]? = some t → args[j]? = some v → Value.okWide Tryd.prog W .any base t v := hval0
  have hW' := hW
  obtain ⟨p, q, hA0, hV, rfl, hfz, hnd⟩ := hW
  have hA : DataW.TrodAll enc Tryd.prog W 0 (fun _ => true) true Tryd.f5.params.toList args.toList ds p := hA0
  rw [Tryd.params5] at hA hval
  obtain ⟨v0, vs0, d0, ds0, p0, q0, hargs, rfl, rfl, h0, r0⟩ := trodAll_cons hA
  obtain ⟨v1, vs1, d1, ds1, p1, q1, rfl, rfl, rfl, h1, r1⟩ := trodAll_cons r0
  obtain ⟨v2, vs2, d2, ds2, p2, q2, rfl, rfl, rfl, h2, r2⟩ := trodAll_cons r1
  obtain ⟨rfl, rfl, rfl⟩ := trodAll_nil r2
  obtain rfl : args = #[v0, v1, v2] := by cases args; simp_all
  obtain ⟨rfl, rfl⟩ := trodVars_none hV
  have k0 := h0
  have lt0 : ∀ x ∈ p0, x.block < W.heap.size := by obtain ⟨m, hm⟩ := k0; exact DataW.trod_lt m _ _ _ hm
  have k1 := h1
  have lt1 : ∀ x ∈ p1, x.block < W.heap.size := by obtain ⟨m, hm⟩ := k1; exact DataW.trod_lt m _ _ _ hm
  have k2 := h2
  have lt2 : ∀ x ∈ p2, x.block < W.heap.size := by obtain ⟨m, hm⟩ := k2; exact DataW.trod_lt m _ _ _ hm
  obtain ⟨c0, rfl⟩ := okWide_struct Tryd.underlying28 (hval 0 28 v0 rfl rfl)
  have s0 : CellsOk enc Tryd.prog W 0 (fun _ => true) true [4, 5, 5, 5, 5, 5, 5, 5, 5, 5, 5, 5, 5, 5, 5, 5, 5] c0.toList := by
    obtain ⟨fuel, hf⟩ := h0
    exact agg_ok (d := 8) (by kernel_rfl) (by simpa [Value.cells] using hf)
  obtain ⟨c1, rfl⟩ := okWide_struct Tryd.underlying28 (hval 1 28 v1 rfl rfl)
  have s1 : CellsOk enc Tryd.prog W 0 (fun _ => true) true [4, 5, 5, 5, 5, 5, 5, 5, 5, 5, 5, 5, 5, 5, 5, 5, 5] c1.toList := by
    obtain ⟨fuel, hf⟩ := h1
    exact agg_ok (d := 8) (by kernel_rfl) (by simpa [Value.cells] using hf)
  obtain ⟨c2, rfl⟩ := okWide_struct Tryd.underlying28 (hval 2 28 v2 rfl rfl)
  have s2 : CellsOk enc Tryd.prog W 0 (fun _ => true) true [4, 5, 5, 5, 5, 5, 5, 5, 5, 5, 5, 5, 5, 5, 5, 5, 5] c2.toList := by
    obtain ⟨fuel, hf⟩ := h2
    exact agg_ok (d := 8) (by kernel_rfl) (by simpa [Value.cells] using hf)
  clear hA0 hval0
  refine (walk (H := H) (enc := enc) (w := W) c0 s0 c1 s1 c2 s2).mono fun e W' ⟨he, bel⟩ => ?_
  subst he
  exact ⟨_, rfl, _, _, _, [], _, [], hW', trodAll_mk1 (shut_bool Tryd.underlying4 _), (trodAll_cons_mk (Below.trod laidOut (by kernel_rfl) (of_decide_eq_true (by kernel_rfl)) k0 bel lt0) (trodAll_cons_mk (Below.trod laidOut (by kernel_rfl) (of_decide_eq_true (by kernel_rfl)) k1 bel lt1) (trodAll_cons_mk (Below.trod laidOut (by kernel_rfl) (of_decide_eq_true (by kernel_rfl)) k2 bel lt2) trodAll_mk0))), rfl, bel.frame _, fun h => by cases h⟩

theorem over : Rows.addrsortLessIsWeakOrderRow.holds Tryd.pinned (OpenSpec.ofChange Rows.addrsortLessIsWeakOrderSpec) :=
  OpenClaim.holds_of_wide 5 Tryd.f5 rfl rfl rfl rfl rfl rfl rfl ⟨rfl, rfl, rfl, rfl, rfl⟩ rfl rfl rfl rfl rfl (by kernel_rfl) Tryd.func5 (by kernel_rfl)
    (of_decide_eq_true (by kernel_rfl)) (by unfold Func.isWrapper; first | (rw [if_pos (by decide +kernel)]; kernel_rfl) | (rw [if_neg (by decide +kernel)]; exact ⟨rfl, rfl⟩))
    (fun os started H enc _ => lifted os started H enc)

theorem proved : Rows.AddrsortLessIsWeakOrderCardSaid :=
  Claim7.holds_tied_plain_at .later [] [.data, .pinned] true (true, "4177350ea34198befc6ff6f31b4814eb5d3a5020a4d88c2318c58b39474c45e1") false over (fun _ h => by cases h) (by kernel_rfl) (fun _ h => by cases h) addrsortLessIsWeakOrder_row_tie rfl ⟨rfl, rfl⟩ (by kernel_rfl) rfl
    (fun f fn hf hfn => by
      obtain rfl : f = 5 := Option.some.inj ((show Tryd.prog.funcNamed "ginnel/ginnellaw25.AddrsortLessIsWeakOrder" = some 5 by kernel_rfl).symm.trans hf) |>.symm
      obtain rfl : fn = Tryd.f5 := (Option.some.inj (Tryd.func5.symm.trans hfn)).symm
      exact ⟨by kernel_rfl, fun j t ht => by
        rw [Tryd.params5] at ht
        have hm : t ∈ [28, 28, 28] := by simpa using Array.mem_of_getElem? ht
        have hall : ([28, 28, 28].all fun u => !Tryd.prog.wantsStandIn u) = true := by kernel_rfl
        exact (show Tryd.prog.wantsStandIn t = false by simpa using List.all_eq_true.1 hall t hm)⟩)
    (by kernel_rfl)
#print axioms proved
end Go.Proofs.YtecaakgpogabjaaDoor.addrsortLessIsWeakOrder

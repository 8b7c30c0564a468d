/-
  The contracts of the address makers of the statements (V4, Addr, ValidAddr, SomeAddr): each hands back an address of 17 cells: a flag and sixteen bytes.
-/
import Derived.Test.YtdpjfhogkllajaaRec
import Derived.Test.YtdpjfhogkllajaaRows
namespace Go.Proofs.Ytdpjfhogkllajaa
open Go.RowKit
set_option linter.unusedVariables false
set_option linter.unusedSimpArgs false

/-- The cells of an address: a flag, sixteen bytes. -/
def adr (b : Bool) (xs : List Int) : List Value := .bool b :: xs.map (Value.int .u8)
def IsAd (cs : List Value) : Prop := ∃ b xs, cs = adr b xs ∧ xs.length = 16 ∧ ∀ x ∈ xs, 0 ≤ x ∧ x ≤ 255
theorem IsAd.len {cs : List Value} (h : IsAd cs) : cs.length = 17 := by
  obtain ⟨b, xs, rfl, hl, _⟩ := h
  simp [adr, hl]
theorem IsAd.one {cs : List Value} (h : IsAd cs) : ∀ v ∈ cs, v.oneCell' = true := by
  obtain ⟨b, xs, rfl, hl, _⟩ := h
  intro v hv
  simp only [adr, List.mem_cons, List.mem_map] at hv
  rcases hv with rfl | ⟨x, _, rfl⟩ <;> rfl
theorem adr_one (b : Bool) (xs : List Int) : ∀ v ∈ adr b xs, v.oneCell' = true := by
  intro v hv
  simp only [adr, List.mem_cons, List.mem_map] at hv
  rcases hv with rfl | ⟨x, _, rfl⟩ <;> rfl

theorem size31 : (Try.prog.info? 31).map (·.size) = some 17 := by kernel_rfl

/-- The end of a function that hands back an address out of its block. -/
theorem ret_adr {fn : Func} {p : Tmp} (h : fn.results = #[.cell p 31]) {R : Ending → World → Prop} {tmps : Array Value} {w : World} {g : Nat} {T : TypeId} {cs : List Value} (hl : cs.length = 17)
    (hp : tmps.getD p undef = .pointer (some ⟨g, 0, none⟩)) (hg : w.heap[g]? = some (.cells cs.toArray T (0, 0))) (hR : R (.returned (.agg cs.toArray)) w) : bodyPost Try.prog fn R .ret { tmps := tmps, defers := [] } w :=
  bodyPost_ret (results_cell_row h tmps w g T cs.toArray (0, 0) _ hp hg Try.underlying31 rfl (by rw [size31]; simp [hl])) rfl hR

set_option maxRecDepth 100000 in
theorem v4_any (x0 x1 x2 x3 : Int) (w : World) :
    Calls Try.prog 24 #[.int .u8 x0, .int .u8 x1, .int .u8 x2, .int .u8 x3] w fun e w' => e = .returned (.agg (adr false [x0, x1, x2, x3, 0, 0, 0, 0, 0, 0, 0, 0, 0, 0, 0, 0]).toArray) ∧ Touch [] w w' := by
  go_enter Try.func24, Try.ntmps24
  go_wp2_with (refine wpList_store_new rfl 31 _ _ rfl _ _ (adr false [x0, x1, x2, x3, 0, 0, 0, 0, 0, 0, 0, 0, 0, 0, 0, 0]) rfl rfl rfl size31 (adr_one _ _) ?_)
  exact ret_adr rfl rfl rfl (heap_alloc_new w _) ⟨rfl, (Touch.refl _ _).alloc _⟩
/-- What Mod(v, n) is: v taken modulo 2^64, then modulo n. -/
def gmod (v n : Int) : Int := (v % 18446744073709551616) % n
theorem gmod_lo (v n : Int) (hn : 1 ≤ n) : 0 ≤ gmod v n := Int.emod_nonneg _ (by omega)
theorem gmod_hi (v n : Int) (hn : 1 ≤ n) : gmod v n < n := Int.emod_lt_of_pos _ (by omega)
theorem mod_eq (v n : Int) (hn : 1 ≤ n) (hn2 : n ≤ 1000000) : wrap64 ((IntKind.u64.wrap v).tmod n) = gmod v n := by
  have h0 : 0 ≤ IntKind.u64.wrap v := by simp [IntKind.wrap, IntKind.signed, IntKind.bits]; omega
  rw [Int.tmod_eq_emod_of_nonneg h0]
  have h1 := Int.emod_nonneg (IntKind.u64.wrap v) (show n ≠ 0 by omega)
  have h2 := Int.emod_lt_of_pos (IntKind.u64.wrap v) (show 0 < n by omega)
  rw [IntWalk.wrap64_in _ ⟨by omega, by omega⟩]
  unfold gmod
  congr 1
theorem mod_any (v n : Int) (w : World) (hn : 1 ≤ n) (hn2 : n ≤ 1000000) :
    Calls Try.prog 10 #[.int .i64 v, .int .i64 n] w fun e w' => e = .returned (.int .i64 (gmod v n)) ∧ w = w' := by
  have H := mod_eq v n hn hn2
  go_enter Try.func10, Try.ntmps10
  go_wp2
  go_ret
  exact ⟨by simp [← H], rfl⟩

end Go.Proofs.Ytdpjfhogkllajaa

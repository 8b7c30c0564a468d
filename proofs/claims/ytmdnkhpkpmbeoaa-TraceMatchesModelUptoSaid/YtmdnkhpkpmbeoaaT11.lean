/-
  The statement 'TraceMatchesModelUptoSaid' of the seat: the frame of the row round the walk of the law's Go function (YtmdnkhpkpmbeoaaWk3): for every input of bulk at most the row's own bound the call returns true and each argument reads as it did.
-/
import Derived.Test.YtmdnkhpkpmbeoaaT10
import Derived.Deep.Slices
import Derived.OpenShut
import Derived.WideShapes
import Derived.Test.YtmdnkhpkpmbeoaaRows
import Derived.WalkKit
import Derived.ProofKit
import Derived.ShutString
import Derived.ChangeOld
import Derived.Below
import Derived.JoinedCond

/-
  awake.
-/
namespace Go.Proofs.Ytmdnkhpkpmbeoaa
open Go.RowKit Go.Sort Go.Shelf
set_option linter.unusedVariables false
set_option linter.unusedSimpArgs false

def AW : List O := [⟨1, 7, 0, ⟨#[]⟩, noAd, 0, false⟩, ⟨4, 7, 1, ⟨#[]⟩, noAd, 80, false⟩, ⟨5, 7, 0, ⟨#[97, 98]⟩, noAd, 0, false⟩, ⟨6, 7, 0, ⟨#[]⟩, noAd, 0, false⟩, ⟨7, 7, 0, ⟨#[]⟩, noAd, 0, false⟩]
def TW : List Tg := [⟨noAd, 80⟩]
theorem okT_TW : ∀ t ∈ TW, OkT t := by
  intro t ht
  simp only [TW, List.mem_cons, List.not_mem_nil, or_false] at ht
  subst ht
  exact ⟨noAd_is, by simp [wf, Lit.wf, IntKind.min, IntKind.max, IntKind.signed, IntKind.bits]⟩
theorem okO_AW : ∀ o ∈ AW, OkO o := by
  intro o ho
  simp only [AW, List.mem_cons, List.not_mem_nil, or_false] at ho
  rcases ho with rfl | rfl | rfl | rfl | rfl <;>
    exact ⟨by simp [wf, Lit.wf, IntKind.min, IntKind.max, IntKind.signed, IntKind.bits], by simp [wf, Lit.wf, IntKind.min, IntKind.max, IntKind.signed, IntKind.bits], by simp [wf, Lit.wf, IntKind.min, IntKind.max, IntKind.signed, IntKind.bits], by simp [wf, Lit.wf, IntKind.min, IntKind.max, IntKind.signed, IntKind.bits], by simp [ByteArray.size], noAd_is⟩
theorem aw1 : validR AW = true := by decide
theorem aw2 : validR (AW.drop 1) = false := by decide
theorem aw3 : liveR AW = [(7, 1)] := by decide
theorem aw4 : wrB AW (7, 0) = ⟨#[97, 98]⟩ := by decide
theorem aw5 : hasS AW (7, 0) = true := by decide
theorem aw6 : ctT AW 7 = TW := by rfl
theorem aw7 : ofC AW 7 = AW := by rfl
theorem aw8 : (rO AW).length = 5 := rfl
theorem lenT0 : (encT ⟨noAd, 80⟩).length = 19 := by decide
theorem okK_71 : ∀ k ∈ [((7 : Int), (1 : Int))], okK k := by
  intro k hk
  simp only [List.mem_singleton] at hk
  subst hk
  exact ⟨wf_small (by omega) (by omega), wf_small (by omega) (by omega)⟩
theorem okK_70 : okK (7, 0) := ⟨wf_small (by omega) (by omega), wf_small (by omega) (by omega)⟩
theorem Rd.new {w : World} {g k T : Nat} {xs : List (List Value)} (h : w.heap[g]? = some (.cells xs.flatten.toArray T (0, 0))) (hk : ∀ x ∈ xs, x.length = k) (hn : xs.length ≤ 1000) : Rd w k g (.slice (some ⟨g, 0, none⟩) xs.length xs.length) xs := by
  have hr := range_block (cs := xs.flatten) h
  refine ⟨some ⟨g, 0, none⟩, xs.length, rfl, Nat.le_refl _, by unfold maxLen; omega, by simp, fun _ => ⟨0, rfl, ?_⟩⟩
  intro i x hi j u hu
  have h2 := hr (i * k + j) u (by rw [← hu]; exact (flat_get hk hi hu).trans hu.symm)
  simpa [Nat.add_assoc] using h2
section
variable {P : Program} {ops : Array Oper} {rest : List Oper} {a : Act} {w : World} {Q : Exit → Act → World → Prop} {d : Option Tmp} {x y : Operand} {t : TypeId} {p : String} {af : Array Edge}
theorem wpList_ungd {o o' : Oper} (ho : o' = { o with guard := none }) (hw : Region.wanted o (yielded ops a.tmps) = true) (h : wpList P ops Q (o' :: rest) a w) : wpList P ops Q (o :: rest) a w := by
  subst ho
  unfold wpList at h ⊢
  rw [if_pos hw]
  rw [if_pos (by simp [Region.wanted])] at h
  exact h
theorem ungd_build (ty : TypeId) (k : Nat) (s : Bool) {ps : Array (Nat × Operand)} (hw : Region.wanted { dst := d, op := .build ty ps, type := t, pos := p, after := af, guard := some (k, s) } (yielded ops a.tmps) = true)
    (h : wpList P ops Q ({ dst := d, op := .build ty ps, type := t, pos := p, after := af, guard := none } :: rest) a w) : wpList P ops Q ({ dst := d, op := .build ty ps, type := t, pos := p, after := af, guard := some (k, s) } :: rest) a w := wpList_ungd rfl hw h
theorem ungd_bs (ty m : Nat) (k : Nat) (s : Bool) {ps : Array (Nat × Operand)} (hw : Region.wanted { dst := d, op := .buildSlice ty m ps, type := t, pos := p, after := af, guard := some (k, s) } (yielded ops a.tmps) = true)
    (h : wpList P ops Q ({ dst := d, op := .buildSlice ty m ps, type := t, pos := p, after := af, guard := none } :: rest) a w) : wpList P ops Q ({ dst := d, op := .buildSlice ty m ps, type := t, pos := p, after := af, guard := some (k, s) } :: rest) a w := wpList_ungd rfl hw h
theorem ungd_slice (ty : Nat) (k : Nat) (s : Bool) {lo hi mx : Option Operand} (hw : Region.wanted { dst := d, op := .slice ty x lo hi mx, type := t, pos := p, after := af, guard := some (k, s) } (yielded ops a.tmps) = true)
    (h : wpList P ops Q ({ dst := d, op := .slice ty x lo hi mx, type := t, pos := p, after := af, guard := none } :: rest) a w) : wpList P ops Q ({ dst := d, op := .slice ty x lo hi mx, type := t, pos := p, after := af, guard := some (k, s) } :: rest) a w := wpList_ungd rfl hw h
theorem wpList_buildR {t e k bytes : Nat} {op : Oper} (R : RT t e k bytes) (hgd : op.guard = none) (n : Nat) (ps : Array (Nat × Operand)) (ho : op.op = .buildSlice t n ps) (xs : List (List Value)) (hn : xs.length = n) (hl : ∀ x ∈ xs, x.length = k) (hx : (ps.toList.map fun p => (p.1, a.eval p.2)) = (xs.zipIdx).map fun p => (p.2, Value.agg p.1.toArray)) (hs : n ≤ 1000)
    (h : wpList Try.prog ops Q rest (a.put op.dst (.slice (some ⟨w.heap.size, 0, none⟩) n n)) (w.alloc (.cells xs.flatten.toArray e))) : wpList Try.prog ops Q (op :: rest) a w := by
  obtain ⟨i, z, hi, hz, hs2, hb, hc⟩ := R.hi
  refine wpList_buildSlice_rows hgd t n _ ho e k i z R.ht hi hz hs2 R.k0 xs hn hl ?_ hx h
  have := R.k1
  calc n * k ≤ 1000 * 100 := Nat.mul_le_mul hs this
    _ ≤ _ := by omega
end
theorem rtS : RT 41 52 3 40 := ⟨Try.underlying41, info_parts (by kernel_rfl), by omega, by omega, by omega⟩
theorem bw1 : Try.prog.built 36 [(0, .int .i64 1), (1, .int .i64 7)] = some (encO ⟨1, 7, 0, ⟨#[]⟩, noAd, 0, false⟩).toArray := by kernel_rfl
theorem bw2 : Try.prog.built 36 [(0, .int .i64 4), (1, .int .i64 7), (2, .int .i64 1), (5, .int .i64 80)] = some (encO ⟨4, 7, 1, ⟨#[]⟩, noAd, 80, false⟩).toArray := by kernel_rfl
theorem bw3 : Try.prog.built 36 [(0, .int .i64 5), (1, .int .i64 7), (3, .string ⟨#[97, 98]⟩)] = some (encO ⟨5, 7, 0, ⟨#[97, 98]⟩, noAd, 0, false⟩).toArray := by kernel_rfl
theorem bw4 : Try.prog.built 36 [(0, .int .i64 6), (1, .int .i64 7)] = some (encO ⟨6, 7, 0, ⟨#[]⟩, noAd, 0, false⟩).toArray := by kernel_rfl
theorem bw5 : Try.prog.built 36 [(0, .int .i64 7), (1, .int .i64 7)] = some (encO ⟨7, 7, 0, ⟨#[]⟩, noAd, 0, false⟩).toArray := by kernel_rfl
theorem bwT : Try.prog.built 46 [(2, .int .i64 80)] = some (encT ⟨noAd, 80⟩).toArray := by kernel_rfl
theorem bwS (ad : Option Addr) (n c : Nat) (l : List O) : Try.prog.built 52 [(2, .slice ad n c)] = some (encS ⟨0, 0, .slice ad n c, l⟩).toArray := by kernel_rfl
set_option maxRecDepth 100000 in
set_option maxHeartbeats 4000000 in
theorem awake_any (w : World) : Calls Try.prog 9 #[] w fun e w' => e = .returned (.bool true) ∧ Touch [] w w' := by
  have TA := Lib.hid ((Touch.refl [] w).alloc (.cells (rO AW).flatten.toArray 36))
  have RD : Hid (Rd (w.alloc (.cells (rO AW).flatten.toArray 36)) 23 w.heap.size (.slice (some ⟨w.heap.size, 0, none⟩) 5 5) (rO AW)) := Lib.hid (Rd.new (heap_alloc_new w (.cells (rO AW).flatten.toArray 36)) (rO_lens okO_AW) (by decide))
  go_enter Try.func9, Try.ntmps9
  go_wp2_with (first
    | ((with_reducible refine ungd_build 36 _ _ ?hw ?_); case hw => rfl)
    | ((with_reducible refine ungd_build 46 _ _ ?hw ?_); case hw => rfl)
    | ((with_reducible refine ungd_build 52 _ _ ?hw ?_); case hw => rfl)
    | ((with_reducible refine ungd_bs 27 1 _ _ ?hw ?_); case hw => rfl)
    | ((with_reducible refine ungd_bs 47 1 _ _ ?hw ?_); case hw => rfl)
    | ((with_reducible refine ungd_bs 41 1 _ _ ?hw ?_); case hw => rfl)
    | ((with_reducible refine at_build 36 ?_); refine wpList_built rfl 36 _ rfl [(0, .int .i64 1), (1, .int .i64 7)] _ rfl bw1 ?_)
    | ((with_reducible refine at_build 36 ?_); refine wpList_built rfl 36 _ rfl [(0, .int .i64 4), (1, .int .i64 7), (2, .int .i64 1), (5, .int .i64 80)] _ rfl bw2 ?_)
    | ((with_reducible refine at_build 36 ?_); refine wpList_built rfl 36 _ rfl [(0, .int .i64 5), (1, .int .i64 7), (3, .string ⟨#[97, 98]⟩)] _ rfl bw3 ?_)
    | ((with_reducible refine at_build 36 ?_); refine wpList_built rfl 36 _ rfl [(0, .int .i64 6), (1, .int .i64 7)] _ rfl bw4 ?_)
    | ((with_reducible refine at_build 36 ?_); refine wpList_built rfl 36 _ rfl [(0, .int .i64 7), (1, .int .i64 7)] _ rfl bw5 ?_)
    | ((with_reducible refine at_bs 22 5 ?_); refine wpList_buildR rtO rfl 5 _ rfl (rO AW) rfl (rO_lens okO_AW) rfl (by omega) ?_)
    | ((with_reducible refine at_bs 27 1 ?_); refine wpList_build1 rtE rfl _ rfl (encE (7, 1)) rfl rfl ?_)
    | ((with_reducible refine at_bs 47 1 ?_); refine wpList_build1 rtT rfl _ rfl (encT ⟨noAd, 80⟩) lenT0 rfl ?_)
    | ((with_reducible refine at_bs 41 1 ?_); refine wpList_build1 rtS rfl _ rfl (encS ⟨0, 0, .slice (some ⟨w.heap.size, 0, none⟩) 5 5, AW⟩) rfl rfl ?_)
    | ((with_reducible refine at_build 46 ?_); refine wpList_built rfl 46 _ rfl [(2, .int .i64 80)] _ rfl bwT ?_)
    | ((with_reducible refine at_build 52 ?_); refine wpList_built rfl 52 _ rfl [(2, _)] _ rfl (bwS _ _ _ AW) ?_))
  have hcon := valid_any _ w.heap.size AW _ RD.out okO_AW (by decide)
  rw [aw1] at hcon
  refine hcon.mono ?_
  clear hcon
  rintro e w1 ⟨rfl, t1⟩
  have T1 := Lib.hid (TA.out.trans t1 (by simp))
  have RD := Lib.hid (RD.out.touch t1 (by simp))
  clear t1
  go_wp2_with (first
    | ((with_reducible refine ungd_build 36 _ _ ?hw ?_); case hw => rfl)
    | ((with_reducible refine ungd_build 46 _ _ ?hw ?_); case hw => rfl)
    | ((with_reducible refine ungd_build 52 _ _ ?hw ?_); case hw => rfl)
    | ((with_reducible refine ungd_bs 27 1 _ _ ?hw ?_); case hw => rfl)
    | ((with_reducible refine ungd_bs 47 1 _ _ ?hw ?_); case hw => rfl)
    | ((with_reducible refine ungd_bs 41 1 _ _ ?hw ?_); case hw => rfl)
    | ((with_reducible refine at_build 36 ?_); refine wpList_built rfl 36 _ rfl [(0, .int .i64 1), (1, .int .i64 7)] _ rfl bw1 ?_)
    | ((with_reducible refine at_build 36 ?_); refine wpList_built rfl 36 _ rfl [(0, .int .i64 4), (1, .int .i64 7), (2, .int .i64 1), (5, .int .i64 80)] _ rfl bw2 ?_)
    | ((with_reducible refine at_build 36 ?_); refine wpList_built rfl 36 _ rfl [(0, .int .i64 5), (1, .int .i64 7), (3, .string ⟨#[97, 98]⟩)] _ rfl bw3 ?_)
    | ((with_reducible refine at_build 36 ?_); refine wpList_built rfl 36 _ rfl [(0, .int .i64 6), (1, .int .i64 7)] _ rfl bw4 ?_)
    | ((with_reducible refine at_build 36 ?_); refine wpList_built rfl 36 _ rfl [(0, .int .i64 7), (1, .int .i64 7)] _ rfl bw5 ?_)
    | ((with_reducible refine at_bs 22 5 ?_); refine wpList_buildR rtO rfl 5 _ rfl (rO AW) rfl (rO_lens okO_AW) rfl (by omega) ?_)
    | ((with_reducible refine at_bs 27 1 ?_); refine wpList_build1 rtE rfl _ rfl (encE (7, 1)) rfl rfl ?_)
    | ((with_reducible refine at_bs 47 1 ?_); refine wpList_build1 rtT rfl _ rfl (encT ⟨noAd, 80⟩) lenT0 rfl ?_)
    | ((with_reducible refine at_bs 41 1 ?_); refine wpList_build1 rtS rfl _ rfl (encS ⟨0, 0, .slice (some ⟨w.heap.size, 0, none⟩) 5 5, AW⟩) rfl rfl ?_)
    | ((with_reducible refine at_build 46 ?_); refine wpList_built rfl 46 _ rfl [(2, .int .i64 80)] _ rfl bwT ?_)
    | ((with_reducible refine at_build 52 ?_); refine wpList_built rfl 52 _ rfl [(2, _)] _ rfl (bwS _ _ _ AW) ?_))
  have RD2 : Rd w1 23 w.heap.size (.slice (some ⟨w.heap.size, 23, none⟩) 4 4) (rO (AW.drop 1)) := RD.out.drop (P := Try.prog) (T := 0) (e := 0) 1 (by decide)
  have hcon := valid_any _ w.heap.size (AW.drop 1) _ RD2 (fun o ho => okO_AW o (List.mem_of_mem_drop ho)) (by decide)
  rw [aw2] at hcon
  refine hcon.mono ?_
  clear hcon
  rintro e w2 ⟨rfl, t2⟩
  have T2 := Lib.hid (T1.out.trans t2 (by simp))
  have RD := Lib.hid (RD.out.touch t2 (by simp))
  clear t2
  go_wp2_with (first
    | ((with_reducible refine ungd_build 36 _ _ ?hw ?_); case hw => rfl)
    | ((with_reducible refine ungd_build 46 _ _ ?hw ?_); case hw => rfl)
    | ((with_reducible refine ungd_build 52 _ _ ?hw ?_); case hw => rfl)
    | ((with_reducible refine ungd_bs 27 1 _ _ ?hw ?_); case hw => rfl)
    | ((with_reducible refine ungd_bs 47 1 _ _ ?hw ?_); case hw => rfl)
    | ((with_reducible refine ungd_bs 41 1 _ _ ?hw ?_); case hw => rfl)
    | ((with_reducible refine at_build 36 ?_); refine wpList_built rfl 36 _ rfl [(0, .int .i64 1), (1, .int .i64 7)] _ rfl bw1 ?_)
    | ((with_reducible refine at_build 36 ?_); refine wpList_built rfl 36 _ rfl [(0, .int .i64 4), (1, .int .i64 7), (2, .int .i64 1), (5, .int .i64 80)] _ rfl bw2 ?_)
    | ((with_reducible refine at_build 36 ?_); refine wpList_built rfl 36 _ rfl [(0, .int .i64 5), (1, .int .i64 7), (3, .string ⟨#[97, 98]⟩)] _ rfl bw3 ?_)
    | ((with_reducible refine at_build 36 ?_); refine wpList_built rfl 36 _ rfl [(0, .int .i64 6), (1, .int .i64 7)] _ rfl bw4 ?_)
    | ((with_reducible refine at_build 36 ?_); refine wpList_built rfl 36 _ rfl [(0, .int .i64 7), (1, .int .i64 7)] _ rfl bw5 ?_)
    | ((with_reducible refine at_bs 22 5 ?_); refine wpList_buildR rtO rfl 5 _ rfl (rO AW) rfl (rO_lens okO_AW) rfl (by omega) ?_)
    | ((with_reducible refine at_bs 27 1 ?_); refine wpList_build1 rtE rfl _ rfl (encE (7, 1)) rfl rfl ?_)
    | ((with_reducible refine at_bs 47 1 ?_); refine wpList_build1 rtT rfl _ rfl (encT ⟨noAd, 80⟩) lenT0 rfl ?_)
    | ((with_reducible refine at_bs 41 1 ?_); refine wpList_build1 rtS rfl _ rfl (encS ⟨0, 0, .slice (some ⟨w.heap.size, 0, none⟩) 5 5, AW⟩) rfl rfl ?_)
    | ((with_reducible refine at_build 46 ?_); refine wpList_built rfl 46 _ rfl [(2, .int .i64 80)] _ rfl bwT ?_)
    | ((with_reducible refine at_build 52 ?_); refine wpList_built rfl 52 _ rfl [(2, _)] _ rfl (bwS _ _ _ AW) ?_))
  have hcon := live_any _ w.heap.size AW _ RD.out okO_AW (by decide)
  rw [aw3] at hcon
  refine hcon.mono ?_
  clear hcon
  rintro e w3 ⟨v3, rfl, o3, t3⟩
  have T3 := Lib.hid (T2.out.trans t3 (by simp))
  have RD := Lib.hid (RD.out.touch t3 (by simp))
  have R3 := Lib.hid (o3.toR.rd (rE_lens _))
  have T3a := Lib.hid (T3.out.alloc (.cells (encE (7, 1)).toArray 30))
  have R3 := Lib.hid (R3.out.touch ((Touch.refl [] w3).alloc (.cells (encE (7, 1)).toArray 30)) (by simp))
  have RD := Lib.hid (RD.out.touch ((Touch.refl [] w3).alloc (.cells (encE (7, 1)).toArray 30)) (by simp))
  have R3b := Lib.hid (Rd.one (heap_alloc_new w3 (.cells (encE (7, 1)).toArray 30)) (k := 2) rfl)
  clear o3
  clear t3
  go_wp2_with (first
    | ((with_reducible refine ungd_build 36 _ _ ?hw ?_); case hw => rfl)
    | ((with_reducible refine ungd_build 46 _ _ ?hw ?_); case hw => rfl)
    | ((with_reducible refine ungd_build 52 _ _ ?hw ?_); case hw => rfl)
    | ((with_reducible refine ungd_bs 27 1 _ _ ?hw ?_); case hw => rfl)
    | ((with_reducible refine ungd_bs 47 1 _ _ ?hw ?_); case hw => rfl)
    | ((with_reducible refine ungd_bs 41 1 _ _ ?hw ?_); case hw => rfl)
    | ((with_reducible refine at_build 36 ?_); refine wpList_built rfl 36 _ rfl [(0, .int .i64 1), (1, .int .i64 7)] _ rfl bw1 ?_)
    | ((with_reducible refine at_build 36 ?_); refine wpList_built rfl 36 _ rfl [(0, .int .i64 4), (1, .int .i64 7), (2, .int .i64 1), (5, .int .i64 80)] _ rfl bw2 ?_)
    | ((with_reducible refine at_build 36 ?_); refine wpList_built rfl 36 _ rfl [(0, .int .i64 5), (1, .int .i64 7), (3, .string ⟨#[97, 98]⟩)] _ rfl bw3 ?_)
    | ((with_reducible refine at_build 36 ?_); refine wpList_built rfl 36 _ rfl [(0, .int .i64 6), (1, .int .i64 7)] _ rfl bw4 ?_)
    | ((with_reducible refine at_build 36 ?_); refine wpList_built rfl 36 _ rfl [(0, .int .i64 7), (1, .int .i64 7)] _ rfl bw5 ?_)
    | ((with_reducible refine at_bs 22 5 ?_); refine wpList_buildR rtO rfl 5 _ rfl (rO AW) rfl (rO_lens okO_AW) rfl (by omega) ?_)
    | ((with_reducible refine at_bs 27 1 ?_); refine wpList_build1 rtE rfl _ rfl (encE (7, 1)) rfl rfl ?_)
    | ((with_reducible refine at_bs 47 1 ?_); refine wpList_build1 rtT rfl _ rfl (encT ⟨noAd, 80⟩) lenT0 rfl ?_)
    | ((with_reducible refine at_bs 41 1 ?_); refine wpList_build1 rtS rfl _ rfl (encS ⟨0, 0, .slice (some ⟨w.heap.size, 0, none⟩) 5 5, AW⟩) rfl rfl ?_)
    | ((with_reducible refine at_build 46 ?_); refine wpList_built rfl 46 _ rfl [(2, .int .i64 80)] _ rfl bwT ?_)
    | ((with_reducible refine at_build 52 ?_); refine wpList_built rfl 52 _ rfl [(2, _)] _ rfl (bwS _ _ _ AW) ?_))
  have hcon := equalE v3 _ _ _ (rE [(7, 1)]) _ (by decide) R3.out R3b.out (eqsE okK_71)
  refine hcon.mono ?_
  clear hcon
  rintro e w4 ⟨rfl, t4⟩
  have T4 := Lib.hid (T3a.out.trans t4 (by simp))
  have RD := Lib.hid (RD.out.touch t4 (by simp))
  clear t4
  go_wp2_with (first
    | ((with_reducible refine ungd_build 36 _ _ ?hw ?_); case hw => rfl)
    | ((with_reducible refine ungd_build 46 _ _ ?hw ?_); case hw => rfl)
    | ((with_reducible refine ungd_build 52 _ _ ?hw ?_); case hw => rfl)
    | ((with_reducible refine ungd_bs 27 1 _ _ ?hw ?_); case hw => rfl)
    | ((with_reducible refine ungd_bs 47 1 _ _ ?hw ?_); case hw => rfl)
    | ((with_reducible refine ungd_bs 41 1 _ _ ?hw ?_); case hw => rfl)
    | ((with_reducible refine at_build 36 ?_); refine wpList_built rfl 36 _ rfl [(0, .int .i64 1), (1, .int .i64 7)] _ rfl bw1 ?_)
    | ((with_reducible refine at_build 36 ?_); refine wpList_built rfl 36 _ rfl [(0, .int .i64 4), (1, .int .i64 7), (2, .int .i64 1), (5, .int .i64 80)] _ rfl bw2 ?_)
    | ((with_reducible refine at_build 36 ?_); refine wpList_built rfl 36 _ rfl [(0, .int .i64 5), (1, .int .i64 7), (3, .string ⟨#[97, 98]⟩)] _ rfl bw3 ?_)
    | ((with_reducible refine at_build 36 ?_); refine wpList_built rfl 36 _ rfl [(0, .int .i64 6), (1, .int .i64 7)] _ rfl bw4 ?_)
    | ((with_reducible refine at_build 36 ?_); refine wpList_built rfl 36 _ rfl [(0, .int .i64 7), (1, .int .i64 7)] _ rfl bw5 ?_)
    | ((with_reducible refine at_bs 22 5 ?_); refine wpList_buildR rtO rfl 5 _ rfl (rO AW) rfl (rO_lens okO_AW) rfl (by omega) ?_)
    | ((with_reducible refine at_bs 27 1 ?_); refine wpList_build1 rtE rfl _ rfl (encE (7, 1)) rfl rfl ?_)
    | ((with_reducible refine at_bs 47 1 ?_); refine wpList_build1 rtT rfl _ rfl (encT ⟨noAd, 80⟩) lenT0 rfl ?_)
    | ((with_reducible refine at_bs 41 1 ?_); refine wpList_build1 rtS rfl _ rfl (encS ⟨0, 0, .slice (some ⟨w.heap.size, 0, none⟩) 5 5, AW⟩) rfl rfl ?_)
    | ((with_reducible refine at_build 46 ?_); refine wpList_built rfl 46 _ rfl [(2, .int .i64 80)] _ rfl bwT ?_)
    | ((with_reducible refine at_build 52 ?_); refine wpList_built rfl 52 _ rfl [(2, _)] _ rfl (bwS _ _ _ AW) ?_))
  have hcon := wr_any _ w.heap.size AW (7, 0) okK_70 _ RD.out okO_AW (by decide)
  rw [aw4] at hcon
  refine hcon.mono ?_
  clear hcon
  rintro e w5 ⟨rfl, t5⟩
  have T5 := Lib.hid (T4.out.trans t5 (by simp))
  have RD := Lib.hid (RD.out.touch t5 (by simp))
  clear t5
  go_wp2_with (first
    | ((with_reducible refine ungd_build 36 _ _ ?hw ?_); case hw => rfl)
    | ((with_reducible refine ungd_build 46 _ _ ?hw ?_); case hw => rfl)
    | ((with_reducible refine ungd_build 52 _ _ ?hw ?_); case hw => rfl)
    | ((with_reducible refine ungd_bs 27 1 _ _ ?hw ?_); case hw => rfl)
    | ((with_reducible refine ungd_bs 47 1 _ _ ?hw ?_); case hw => rfl)
    | ((with_reducible refine ungd_bs 41 1 _ _ ?hw ?_); case hw => rfl)
    | ((with_reducible refine at_build 36 ?_); refine wpList_built rfl 36 _ rfl [(0, .int .i64 1), (1, .int .i64 7)] _ rfl bw1 ?_)
    | ((with_reducible refine at_build 36 ?_); refine wpList_built rfl 36 _ rfl [(0, .int .i64 4), (1, .int .i64 7), (2, .int .i64 1), (5, .int .i64 80)] _ rfl bw2 ?_)
    | ((with_reducible refine at_build 36 ?_); refine wpList_built rfl 36 _ rfl [(0, .int .i64 5), (1, .int .i64 7), (3, .string ⟨#[97, 98]⟩)] _ rfl bw3 ?_)
    | ((with_reducible refine at_build 36 ?_); refine wpList_built rfl 36 _ rfl [(0, .int .i64 6), (1, .int .i64 7)] _ rfl bw4 ?_)
    | ((with_reducible refine at_build 36 ?_); refine wpList_built rfl 36 _ rfl [(0, .int .i64 7), (1, .int .i64 7)] _ rfl bw5 ?_)
    | ((with_reducible refine at_bs 22 5 ?_); refine wpList_buildR rtO rfl 5 _ rfl (rO AW) rfl (rO_lens okO_AW) rfl (by omega) ?_)
    | ((with_reducible refine at_bs 27 1 ?_); refine wpList_build1 rtE rfl _ rfl (encE (7, 1)) rfl rfl ?_)
    | ((with_reducible refine at_bs 47 1 ?_); refine wpList_build1 rtT rfl _ rfl (encT ⟨noAd, 80⟩) lenT0 rfl ?_)
    | ((with_reducible refine at_bs 41 1 ?_); refine wpList_build1 rtS rfl _ rfl (encS ⟨0, 0, .slice (some ⟨w.heap.size, 0, none⟩) 5 5, AW⟩) rfl rfl ?_)
    | ((with_reducible refine at_build 46 ?_); refine wpList_built rfl 46 _ rfl [(2, .int .i64 80)] _ rfl bwT ?_)
    | ((with_reducible refine at_build 52 ?_); refine wpList_built rfl 52 _ rfl [(2, _)] _ rfl (bwS _ _ _ AW) ?_))
  have hcon := hs_any _ w.heap.size AW (7, 0) okK_70 _ RD.out okO_AW (by decide)
  rw [aw5] at hcon
  refine hcon.mono ?_
  clear hcon
  rintro e w6 ⟨rfl, t6⟩
  have T6 := Lib.hid (T5.out.trans t6 (by simp))
  have RD := Lib.hid (RD.out.touch t6 (by simp))
  clear t6
  go_wp2_with (first
    | ((with_reducible refine ungd_build 36 _ _ ?hw ?_); case hw => rfl)
    | ((with_reducible refine ungd_build 46 _ _ ?hw ?_); case hw => rfl)
    | ((with_reducible refine ungd_build 52 _ _ ?hw ?_); case hw => rfl)
    | ((with_reducible refine ungd_bs 27 1 _ _ ?hw ?_); case hw => rfl)
    | ((with_reducible refine ungd_bs 47 1 _ _ ?hw ?_); case hw => rfl)
    | ((with_reducible refine ungd_bs 41 1 _ _ ?hw ?_); case hw => rfl)
    | ((with_reducible refine at_build 36 ?_); refine wpList_built rfl 36 _ rfl [(0, .int .i64 1), (1, .int .i64 7)] _ rfl bw1 ?_)
    | ((with_reducible refine at_build 36 ?_); refine wpList_built rfl 36 _ rfl [(0, .int .i64 4), (1, .int .i64 7), (2, .int .i64 1), (5, .int .i64 80)] _ rfl bw2 ?_)
    | ((with_reducible refine at_build 36 ?_); refine wpList_built rfl 36 _ rfl [(0, .int .i64 5), (1, .int .i64 7), (3, .string ⟨#[97, 98]⟩)] _ rfl bw3 ?_)
    | ((with_reducible refine at_build 36 ?_); refine wpList_built rfl 36 _ rfl [(0, .int .i64 6), (1, .int .i64 7)] _ rfl bw4 ?_)
    | ((with_reducible refine at_build 36 ?_); refine wpList_built rfl 36 _ rfl [(0, .int .i64 7), (1, .int .i64 7)] _ rfl bw5 ?_)
    | ((with_reducible refine at_bs 22 5 ?_); refine wpList_buildR rtO rfl 5 _ rfl (rO AW) rfl (rO_lens okO_AW) rfl (by omega) ?_)
    | ((with_reducible refine at_bs 27 1 ?_); refine wpList_build1 rtE rfl _ rfl (encE (7, 1)) rfl rfl ?_)
    | ((with_reducible refine at_bs 47 1 ?_); refine wpList_build1 rtT rfl _ rfl (encT ⟨noAd, 80⟩) lenT0 rfl ?_)
    | ((with_reducible refine at_bs 41 1 ?_); refine wpList_build1 rtS rfl _ rfl (encS ⟨0, 0, .slice (some ⟨w.heap.size, 0, none⟩) 5 5, AW⟩) rfl rfl ?_)
    | ((with_reducible refine at_build 46 ?_); refine wpList_built rfl 46 _ rfl [(2, .int .i64 80)] _ rfl bwT ?_)
    | ((with_reducible refine at_build 52 ?_); refine wpList_built rfl 52 _ rfl [(2, _)] _ rfl (bwS _ _ _ AW) ?_))
  have hcon := ct_any _ w.heap.size AW 7 _ RD.out okO_AW (by decide)
  rw [aw6] at hcon
  refine hcon.mono ?_
  clear hcon
  rintro e w7 ⟨v7, rfl, o7, t7⟩
  have T7 := Lib.hid (T6.out.trans t7 (by simp))
  have RD := Lib.hid (RD.out.touch t7 (by simp))
  have R7 := Lib.hid (o7.rd (rT_lens okT_TW))
  have T7a := Lib.hid (T7.out.alloc (.cells (encT ⟨noAd, 80⟩).toArray 46))
  have R7 := Lib.hid (R7.out.touch ((Touch.refl [] w7).alloc (.cells (encT ⟨noAd, 80⟩).toArray 46)) (by simp))
  have RD := Lib.hid (RD.out.touch ((Touch.refl [] w7).alloc (.cells (encT ⟨noAd, 80⟩).toArray 46)) (by simp))
  have R7b := Lib.hid (Rd.one (heap_alloc_new w7 (.cells (encT ⟨noAd, 80⟩).toArray 46)) (k := 19) lenT0)
  clear o7
  clear t7
  go_wp2_with (first
    | ((with_reducible refine ungd_build 36 _ _ ?hw ?_); case hw => rfl)
    | ((with_reducible refine ungd_build 46 _ _ ?hw ?_); case hw => rfl)
    | ((with_reducible refine ungd_build 52 _ _ ?hw ?_); case hw => rfl)
    | ((with_reducible refine ungd_bs 27 1 _ _ ?hw ?_); case hw => rfl)
    | ((with_reducible refine ungd_bs 47 1 _ _ ?hw ?_); case hw => rfl)
    | ((with_reducible refine ungd_bs 41 1 _ _ ?hw ?_); case hw => rfl)
    | ((with_reducible refine at_build 36 ?_); refine wpList_built rfl 36 _ rfl [(0, .int .i64 1), (1, .int .i64 7)] _ rfl bw1 ?_)
    | ((with_reducible refine at_build 36 ?_); refine wpList_built rfl 36 _ rfl [(0, .int .i64 4), (1, .int .i64 7), (2, .int .i64 1), (5, .int .i64 80)] _ rfl bw2 ?_)
    | ((with_reducible refine at_build 36 ?_); refine wpList_built rfl 36 _ rfl [(0, .int .i64 5), (1, .int .i64 7), (3, .string ⟨#[97, 98]⟩)] _ rfl bw3 ?_)
    | ((with_reducible refine at_build 36 ?_); refine wpList_built rfl 36 _ rfl [(0, .int .i64 6), (1, .int .i64 7)] _ rfl bw4 ?_)
    | ((with_reducible refine at_build 36 ?_); refine wpList_built rfl 36 _ rfl [(0, .int .i64 7), (1, .int .i64 7)] _ rfl bw5 ?_)
    | ((with_reducible refine at_bs 22 5 ?_); refine wpList_buildR rtO rfl 5 _ rfl (rO AW) rfl (rO_lens okO_AW) rfl (by omega) ?_)
    | ((with_reducible refine at_bs 27 1 ?_); refine wpList_build1 rtE rfl _ rfl (encE (7, 1)) rfl rfl ?_)
    | ((with_reducible refine at_bs 47 1 ?_); refine wpList_build1 rtT rfl _ rfl (encT ⟨noAd, 80⟩) lenT0 rfl ?_)
    | ((with_reducible refine at_bs 41 1 ?_); refine wpList_build1 rtS rfl _ rfl (encS ⟨0, 0, .slice (some ⟨w.heap.size, 0, none⟩) 5 5, AW⟩) rfl rfl ?_)
    | ((with_reducible refine at_build 46 ?_); refine wpList_built rfl 46 _ rfl [(2, .int .i64 80)] _ rfl bwT ?_)
    | ((with_reducible refine at_build 52 ?_); refine wpList_built rfl 52 _ rfl [(2, _)] _ rfl (bwS _ _ _ AW) ?_))
  have hcon := equalT v7 _ _ _ (rT TW) _ (by decide) R7.out R7b.out (eqsT okT_TW)
  refine hcon.mono ?_
  clear hcon
  rintro e w8 ⟨rfl, t8⟩
  have T8 := Lib.hid (T7a.out.trans t8 (by simp))
  have RD := Lib.hid (RD.out.touch t8 (by simp))
  clear t8
  go_wp2_with (first
    | ((with_reducible refine ungd_build 36 _ _ ?hw ?_); case hw => rfl)
    | ((with_reducible refine ungd_build 46 _ _ ?hw ?_); case hw => rfl)
    | ((with_reducible refine ungd_build 52 _ _ ?hw ?_); case hw => rfl)
    | ((with_reducible refine ungd_bs 27 1 _ _ ?hw ?_); case hw => rfl)
    | ((with_reducible refine ungd_bs 47 1 _ _ ?hw ?_); case hw => rfl)
    | ((with_reducible refine ungd_bs 41 1 _ _ ?hw ?_); case hw => rfl)
    | ((with_reducible refine at_build 36 ?_); refine wpList_built rfl 36 _ rfl [(0, .int .i64 1), (1, .int .i64 7)] _ rfl bw1 ?_)
    | ((with_reducible refine at_build 36 ?_); refine wpList_built rfl 36 _ rfl [(0, .int .i64 4), (1, .int .i64 7), (2, .int .i64 1), (5, .int .i64 80)] _ rfl bw2 ?_)
    | ((with_reducible refine at_build 36 ?_); refine wpList_built rfl 36 _ rfl [(0, .int .i64 5), (1, .int .i64 7), (3, .string ⟨#[97, 98]⟩)] _ rfl bw3 ?_)
    | ((with_reducible refine at_build 36 ?_); refine wpList_built rfl 36 _ rfl [(0, .int .i64 6), (1, .int .i64 7)] _ rfl bw4 ?_)
    | ((with_reducible refine at_build 36 ?_); refine wpList_built rfl 36 _ rfl [(0, .int .i64 7), (1, .int .i64 7)] _ rfl bw5 ?_)
    | ((with_reducible refine at_bs 22 5 ?_); refine wpList_buildR rtO rfl 5 _ rfl (rO AW) rfl (rO_lens okO_AW) rfl (by omega) ?_)
    | ((with_reducible refine at_bs 27 1 ?_); refine wpList_build1 rtE rfl _ rfl (encE (7, 1)) rfl rfl ?_)
    | ((with_reducible refine at_bs 47 1 ?_); refine wpList_build1 rtT rfl _ rfl (encT ⟨noAd, 80⟩) lenT0 rfl ?_)
    | ((with_reducible refine at_bs 41 1 ?_); refine wpList_build1 rtS rfl _ rfl (encS ⟨0, 0, .slice (some ⟨w.heap.size, 0, none⟩) 5 5, AW⟩) rfl rfl ?_)
    | ((with_reducible refine at_build 46 ?_); refine wpList_built rfl 46 _ rfl [(2, .int .i64 80)] _ rfl bwT ?_)
    | ((with_reducible refine at_build 52 ?_); refine wpList_built rfl 52 _ rfl [(2, _)] _ rfl (bwS _ _ _ AW) ?_))
  have hcon := ofc_any _ w.heap.size AW 7 _ RD.out okO_AW (by decide)
  rw [aw7] at hcon
  refine hcon.mono ?_
  clear hcon
  rintro e w9 ⟨v9, rfl, o9, t9⟩
  have T9 := Lib.hid (T8.out.trans t9 (by simp))
  have RD := Lib.hid (RD.out.touch t9 (by simp))
  obtain ⟨a9, c9, rfl, _, _, _⟩ := owns_form o9.row
  rw [aw8]
  clear o9
  have RSV := Lib.hid (Rd.one (heap_alloc_new w9 (.cells (encS ⟨0, 0, .slice (some ⟨w.heap.size, 0, none⟩) 5 5, AW⟩).toArray 52)) (k := 3) rfl)
  have T9a := Lib.hid (T9.out.alloc (.cells (encS ⟨0, 0, .slice (some ⟨w.heap.size, 0, none⟩) 5 5, AW⟩).toArray 52))
  have RD := Lib.hid (RD.out.touch ((Touch.refl [] w9).alloc (.cells (encS ⟨0, 0, .slice (some ⟨w.heap.size, 0, none⟩) 5 5, AW⟩).toArray 52)) (by simp))
  clear t9
  go_wp2_with (first
    | ((with_reducible refine ungd_build 36 _ _ ?hw ?_); case hw => rfl)
    | ((with_reducible refine ungd_build 46 _ _ ?hw ?_); case hw => rfl)
    | ((with_reducible refine ungd_build 52 _ _ ?hw ?_); case hw => rfl)
    | ((with_reducible refine ungd_bs 27 1 _ _ ?hw ?_); case hw => rfl)
    | ((with_reducible refine ungd_bs 47 1 _ _ ?hw ?_); case hw => rfl)
    | ((with_reducible refine ungd_bs 41 1 _ _ ?hw ?_); case hw => rfl)
    | ((with_reducible refine at_build 36 ?_); refine wpList_built rfl 36 _ rfl [(0, .int .i64 1), (1, .int .i64 7)] _ rfl bw1 ?_)
    | ((with_reducible refine at_build 36 ?_); refine wpList_built rfl 36 _ rfl [(0, .int .i64 4), (1, .int .i64 7), (2, .int .i64 1), (5, .int .i64 80)] _ rfl bw2 ?_)
    | ((with_reducible refine at_build 36 ?_); refine wpList_built rfl 36 _ rfl [(0, .int .i64 5), (1, .int .i64 7), (3, .string ⟨#[97, 98]⟩)] _ rfl bw3 ?_)
    | ((with_reducible refine at_build 36 ?_); refine wpList_built rfl 36 _ rfl [(0, .int .i64 6), (1, .int .i64 7)] _ rfl bw4 ?_)
    | ((with_reducible refine at_build 36 ?_); refine wpList_built rfl 36 _ rfl [(0, .int .i64 7), (1, .int .i64 7)] _ rfl bw5 ?_)
    | ((with_reducible refine at_bs 22 5 ?_); refine wpList_buildR rtO rfl 5 _ rfl (rO AW) rfl (rO_lens okO_AW) rfl (by omega) ?_)
    | ((with_reducible refine at_bs 27 1 ?_); refine wpList_build1 rtE rfl _ rfl (encE (7, 1)) rfl rfl ?_)
    | ((with_reducible refine at_bs 47 1 ?_); refine wpList_build1 rtT rfl _ rfl (encT ⟨noAd, 80⟩) lenT0 rfl ?_)
    | ((with_reducible refine at_bs 41 1 ?_); refine wpList_build1 rtS rfl _ rfl (encS ⟨0, 0, .slice (some ⟨w.heap.size, 0, none⟩) 5 5, AW⟩) rfl rfl ?_)
    | ((with_reducible refine at_build 46 ?_); refine wpList_built rfl 46 _ rfl [(2, .int .i64 80)] _ rfl bwT ?_)
    | ((with_reducible refine at_build 52 ?_); refine wpList_built rfl 52 _ rfl [(2, _)] _ rfl (bwS _ _ _ AW) ?_))
  have hcon := cat_any _ _ [⟨0, 0, .slice (some ⟨w.heap.size, 0, none⟩) 5 5, AW⟩] _ RSV.out (by intro r hr; simp only [List.mem_singleton] at hr; subst hr; exact ⟨⟨_, RD.out⟩, okO_AW, rfl⟩) (by simp) (by simp [catS, AW])
  refine hcon.mono ?_
  clear hcon
  rintro e wa ⟨va, rfl, oa, ta⟩
  have Ta := Lib.hid (T9a.out.trans ta (by simp))
  obtain ⟨aa, ca, rfl, _, _, _⟩ := owns_form oa.row
  rw [show (rO (catS [⟨0, 0, .slice (some ⟨w.heap.size, 0, none⟩) 5 5, AW⟩])).length = 5 by simp [rO, catS, AW]]
  clear oa
  clear ta
  go_wp2_with (first
    | ((with_reducible refine ungd_build 36 _ _ ?hw ?_); case hw => rfl)
    | ((with_reducible refine ungd_build 46 _ _ ?hw ?_); case hw => rfl)
    | ((with_reducible refine ungd_build 52 _ _ ?hw ?_); case hw => rfl)
    | ((with_reducible refine ungd_bs 27 1 _ _ ?hw ?_); case hw => rfl)
    | ((with_reducible refine ungd_bs 47 1 _ _ ?hw ?_); case hw => rfl)
    | ((with_reducible refine ungd_bs 41 1 _ _ ?hw ?_); case hw => rfl)
    | ((with_reducible refine at_build 36 ?_); refine wpList_built rfl 36 _ rfl [(0, .int .i64 1), (1, .int .i64 7)] _ rfl bw1 ?_)
    | ((with_reducible refine at_build 36 ?_); refine wpList_built rfl 36 _ rfl [(0, .int .i64 4), (1, .int .i64 7), (2, .int .i64 1), (5, .int .i64 80)] _ rfl bw2 ?_)
    | ((with_reducible refine at_build 36 ?_); refine wpList_built rfl 36 _ rfl [(0, .int .i64 5), (1, .int .i64 7), (3, .string ⟨#[97, 98]⟩)] _ rfl bw3 ?_)
    | ((with_reducible refine at_build 36 ?_); refine wpList_built rfl 36 _ rfl [(0, .int .i64 6), (1, .int .i64 7)] _ rfl bw4 ?_)
    | ((with_reducible refine at_build 36 ?_); refine wpList_built rfl 36 _ rfl [(0, .int .i64 7), (1, .int .i64 7)] _ rfl bw5 ?_)
    | ((with_reducible refine at_bs 22 5 ?_); refine wpList_buildR rtO rfl 5 _ rfl (rO AW) rfl (rO_lens okO_AW) rfl (by omega) ?_)
    | ((with_reducible refine at_bs 27 1 ?_); refine wpList_build1 rtE rfl _ rfl (encE (7, 1)) rfl rfl ?_)
    | ((with_reducible refine at_bs 47 1 ?_); refine wpList_build1 rtT rfl _ rfl (encT ⟨noAd, 80⟩) lenT0 rfl ?_)
    | ((with_reducible refine at_bs 41 1 ?_); refine wpList_build1 rtS rfl _ rfl (encS ⟨0, 0, .slice (some ⟨w.heap.size, 0, none⟩) 5 5, AW⟩) rfl rfl ?_)
    | ((with_reducible refine at_build 46 ?_); refine wpList_built rfl 46 _ rfl [(2, .int .i64 80)] _ rfl bwT ?_)
    | ((with_reducible refine at_build 52 ?_); refine wpList_built rfl 52 _ rfl [(2, _)] _ rfl (bwS _ _ _ AW) ?_))
  go_ret
  exact ⟨rfl, Ta.out⟩
end Go.Proofs.Ytmdnkhpkpmbeoaa

/-
  The walk of TraceMatchesModel: true at every trace and connection.
-/
namespace Go.Proofs.Ytmdnkhpkpmbeoaa
open Go.RowKit Go.Sort Go.Shelf
set_option linter.unusedVariables false
set_option linter.unusedSimpArgs false

theorem someT_few (l : List O) (m : Nat) : (someT l m).length ≤ m := by simp [someT]; omega
theorem rO_take (l : List O) (n : Nat) : rO (l.take n) = (rO l).take n := by simp [rO]
theorem gmod2_ok (c : Int) : wf (gmod c 2) := wf_small (by have := gmod_lo c 2 (by omega); omega) (by have := gmod_hi c 2 (by omega); omega)
set_option maxRecDepth 100000 in
set_option maxHeartbeats 4000000 in
theorem walk3 (v : Value) (b : Nat) (l : List O) (c : Int) (hc : wf c) (w : World) (hr : Rd w 23 b v (rO l)) (hok : ∀ o ∈ l, OkO o) :
    Calls Try.prog 3 #[v, .int .i64 c] w fun e w' => e = .returned (.bool true) ∧ Touch [] w w' := by
  obtain ⟨a, cap, rfl, hcp, hcm⟩ := hr.form
  have H0 := Lib.hid hr
  have OK := Lib.hid hok
  have HC := Lib.hid hc
  rw [rO_len] at hcp H0 ⊢
  clear hr hok hc
  obtain ⟨n, hn⟩ : ∃ n, n = min l.length 40 := ⟨_, rfl⟩
  have hnI : min (l.length : Int) 40 = (n : Int) := by omega
  have hn1 : n ≤ l.length := by omega
  have hn2 : n ≤ 40 := by omega
  have hcap2 : cap ≤ 9223372036854775807 := by unfold maxLen at hcm; omega
  have hncap : n ≤ cap := by omega
  have HTK : Hid (Rd w 23 b (.slice a n cap) (rO (l.take n))) := Lib.hid (by rw [rO_take]; exact H0.out.take n (by rw [rO_len]; exact hn1))
  clear hn hcm
  go_enter Try.func3, Try.ntmps3
  go_wp2_with fail
  go_loopw [6] (fun vi wr => ∃ (i : Nat), vi = .int .i64 i ∧ i ≤ 12 ∧ i ≤ n + 1 ∧ Touch [] w wr) (fun vi _ => 12 - (intOf vi).toNat)
  case atStart => exact ⟨0, rfl, by omega, by omega, Touch.refl _ _⟩
  case round =>
    obtain ⟨i, rfl, hi12, hin, ht⟩ := hrel
    have HT := Lib.hid ht
    clear ht
    have fin : ∀ (K : Prop), K → K := fun _ h => h
    by_cases h1 : i ≤ n ∧ i < 12
    · have hb1 : (i : Int) ≤ (n : Int) := by omega
      have hb2 : (i : Int) < 12 := by omega
      have hwi : IntKind.i64.wrap ((i : Int) + 1) = (i : Int) + 1 := by rw [IntKind.wrap_i64] <;> omega
      go_wp2_with fail
      refine (trace_any _ b l i _ (H0.out.touch HT.out (by simp)) OK.out (by omega)).mono ?_
      rintro e w1 ⟨v1, rfl, o1, t1⟩
      have T1 := Lib.hid (HT.out.trans t1 (by simp))
      have R1 := Lib.hid (o1.rd (rO_lens (someT_ok OK.out i)))
      clear o1 t1
      go_wp2_with fail
      refine (mod_any _ _ _ (by omega) (by omega)).mono ?_
      rintro e w2 ⟨rfl, rfl⟩
      go_wp2_with fail
      refine (agrees_any v1 _ (someT l i) (gmod c 2) (gmod2_ok c) _ R1.out (someT_ok OK.out i) (by have := someT_few l i; omega)).mono ?_
      rintro e w3 ⟨rfl, t3⟩
      have T3 := Lib.hid (T1.out.trans t3 (by simp))
      clear t3
      go_wp2_with fail
      go_roundw
      case rel => exact ⟨i + 1, by simp, by omega, by omega, T3.out⟩
      case measure => simp [intOf]; omega
    · have TL : ∀ (Q : Prop), (∀ (w9 : World), Touch [] w w9 → Q) → Q := fun _ h => h wr HT.out
      clear TL fin
      have hcond : (decide ((i : Int) ≤ (n : Int)) && decide ((i : Int) < 12)) = false := by
        by_cases hA : (i : Int) ≤ (n : Int)
        · have hB : ¬ (i : Int) < 12 := by omega
          simp [hA, hB]
        · simp [hA]
      by_cases hA : (i : Int) ≤ (n : Int)
      · have hB : ¬ (i : Int) < 12 := by omega
        clear hcond h1
        go_wp2_with fail
        refine (awake_any _).mono ?_
        rintro e w1 ⟨rfl, t1⟩
        have T1 := Lib.hid (HT.out.trans t1 (by simp))
        clear t1
        go_wp2_with fail
        refine (agrees_any _ b (l.take n) c HC.out _ (HTK.out.touch T1.out (by simp)) (fun o ho => OK.out o (List.mem_of_mem_take ho)) (by simp; omega)).mono ?_
        rintro e w2 ⟨rfl, t2⟩
        have T2 := Lib.hid (T1.out.trans t2 (by simp))
        clear t2
        go_wp2_with fail
        refine (trace_any _ b l n _ (H0.out.touch T2.out (by simp)) OK.out (by omega)).mono ?_
        rintro e w3 ⟨v3, rfl, o3, t3⟩
        have T3 := Lib.hid (T2.out.trans t3 (by simp))
        have R3 := Lib.hid (o3.rd (rO_lens (someT_ok OK.out n)))
        clear o3 t3
        go_wp2_with fail
        refine (mod_any _ _ _ (by omega) (by omega)).mono ?_
        rintro e w4 ⟨rfl, rfl⟩
        go_wp2_with fail
        refine (agrees_any v3 _ (someT l n) (gmod c 2) (gmod2_ok c) _ R3.out (someT_ok OK.out n) (by have := someT_few l n; omega)).mono ?_
        rintro e w5 ⟨rfl, t5⟩
        have T5 := Lib.hid (T3.out.trans t5 (by simp))
        clear t5
        go_wp2_with fail
        go_ret
        exact ⟨rfl, T5.out⟩
      · clear hcond h1
        go_wp2_with fail
        refine (awake_any _).mono ?_
        rintro e w1 ⟨rfl, t1⟩
        have T1 := Lib.hid (HT.out.trans t1 (by simp))
        clear t1
        go_wp2_with fail
        refine (agrees_any _ b (l.take n) c HC.out _ (HTK.out.touch T1.out (by simp)) (fun o ho => OK.out o (List.mem_of_mem_take ho)) (by simp; omega)).mono ?_
        rintro e w2 ⟨rfl, t2⟩
        have T2 := Lib.hid (T1.out.trans t2 (by simp))
        clear t2
        go_wp2_with fail
        refine (trace_any _ b l n _ (H0.out.touch T2.out (by simp)) OK.out (by omega)).mono ?_
        rintro e w3 ⟨v3, rfl, o3, t3⟩
        have T3 := Lib.hid (T2.out.trans t3 (by simp))
        have R3 := Lib.hid (o3.rd (rO_lens (someT_ok OK.out n)))
        clear o3 t3
        go_wp2_with fail
        refine (mod_any _ _ _ (by omega) (by omega)).mono ?_
        rintro e w4 ⟨rfl, rfl⟩
        go_wp2_with fail
        refine (agrees_any v3 _ (someT l n) (gmod c 2) (gmod2_ok c) _ R3.out (someT_ok OK.out n) (by have := someT_few l n; omega)).mono ?_
        rintro e w5 ⟨rfl, t5⟩
        have T5 := Lib.hid (T3.out.trans t5 (by simp))
        clear t5
        go_wp2_with fail
        go_ret
        exact ⟨rfl, T5.out⟩
end Go.Proofs.Ytmdnkhpkpmbeoaa

/-
  A slice or a struct that came in, of elements whose type is flat but for its leaves (structs and arrays taken apart, whatever else is a leaf): every cell of it lies in memory and reads by its own leaf's type. Over any program; no condition of our own.
-/
namespace Go.Proofs.Ytmdnkhpkpmbeoaa
open Go.ChangeShapes Go.WideShapes Go.Deep
set_option linter.unusedVariables false
set_option linter.unusedSimpArgs false

def flatFs (P : Program) (f : TypeId → Option (List TypeId)) : List Field → Nat → Option (List TypeId)
  | [], _ => some []
  | x :: r, off => if x.offset = off then (f x.type).bind fun l => if l.length = P.cellsOf x.type then (flatFs P f r (off + l.length)).map (l ++ ·) else none else none

/-- The leaves of a type, cell by cell. -/
def flatT (P : Program) : Nat → TypeId → Option (List TypeId)
  | 0, _ => none
  | d + 1, t => match P.underlying t with
    | some (.struct fs) => (flatFs P (flatT P d) fs.toList 0).bind fun l => if l.length = P.cellsOf t then some l else none
    | some (.array n e) => (flatT P d e).bind fun l => if l.length = P.cellsOf e ∧ n * l.length = P.cellsOf t then some (List.replicate n l).flatten else none
    | _ => some [t]

section
variable {H : Type} {enc : TypeId × Value → H} {P : Program} {w : World} {base : Nat} {spare : Nat → Bool} {held : Bool}

/-- The value v reads by its own type t. -/
def Leaf (enc : TypeId × Value → H) (P : Program) (w : World) (base : Nat) (spare : Nat → Bool) (held : Bool) (t : TypeId) (v : Value) : Prop := ∃ m y, DataW.trod enc P w base spare held m t [v] = some y

theorem leaf_one {t : TypeId} {fuel : Nat} {cs : List Value} {x : DataW H × List MemPlace} (hs : ∀ fs, P.underlying t ≠ some (.struct fs)) (ha : ∀ n e, P.underlying t ≠ some (.array n e))
    (h : DataW.trod enc P w base spare held fuel t cs = some x) : ∃ v, cs = [v] := by
  cases fuel with
  | zero => simp [DataW.trod] at h
  | succ m =>
    unfold DataW.trod at h
    split at h <;> first
      | exact ⟨_, rfl⟩
      | (rename_i h1; exact absurd h1 (hs _))
      | (rename_i h1; exact absurd h1 (ha _ _))
      | simp at h

/-- What the reading of a value of type t says of its cells. -/
def CellsOk (enc : TypeId × Value → H) (P : Program) (w : World) (base : Nat) (spare : Nat → Bool) (held : Bool) (ts : List TypeId) (cs : List Value) : Prop :=
  cs.length = ts.length ∧ ∀ (i : Nat) (t : TypeId), ts[i]? = some t → ∃ v, cs[i]? = some v ∧ Leaf enc P w base spare held t v

theorem flatFs_ok {f : TypeId → Option (List TypeId)} {cs : List Value} (hrec : ∀ t cs x m ts, f t = some ts → DataW.trod enc P w base spare held m t cs = some x → CellsOk enc P w base spare held ts cs) :
    ∀ (l : List Field) (off : Nat) (ts : List TypeId), flatFs P f l off = some ts →
      (∀ fd ∈ l, ∃ m x, DataW.trod enc P w base spare held m fd.type ((cs.drop fd.offset).take (P.cellsOf fd.type)) = some x) →
      ∀ (i : Nat) (t : TypeId), ts[i]? = some t → ∃ v, cs[off + i]? = some v ∧ Leaf enc P w base spare held t v := by
  intro l
  induction l with
  | nil => intro off ts h _ i t hi; simp [flatFs] at h; subst h; simp at hi
  | cons fd r ih =>
    intro off ts h hall i t hi
    simp only [flatFs] at h
    split at h
    · rename_i ho
      obtain ⟨l1, h1, h2⟩ := Option.bind_eq_some_iff.1 h
      split at h2
      · rename_i hl
        obtain ⟨l2, h3, rfl⟩ := Option.map_eq_some_iff.1 h2
        obtain ⟨m, x, hx⟩ := hall fd (List.mem_cons_self)
        obtain ⟨k1, k2⟩ := hrec _ _ _ _ _ h1 hx
        by_cases hlt : i < l1.length
        · rw [List.getElem?_append_left hlt] at hi
          obtain ⟨v, hv, hleaf⟩ := k2 i t hi
          refine ⟨v, ?_, hleaf⟩
          rw [List.getElem?_take] at hv
          split at hv
          · rw [List.getElem?_drop, ho] at hv
            exact hv
          · cases hv
        · rw [List.getElem?_append_right (by omega)] at hi
          obtain ⟨v, hv, hleaf⟩ := ih _ _ h3 (fun fd' hfd => hall fd' (List.mem_cons_of_mem _ hfd)) _ _ hi
          exact ⟨v, by rw [← hv]; congr 1; omega, hleaf⟩
      · cases h2
    · cases h

theorem getElem?_flatten_replicate {α : Type} (l : List α) (n i : Nat) : (List.replicate n l).flatten[i]? = if i < n * l.length then l[i % l.length]? else none := by
  induction n generalizing i with
  | zero => simp
  | succ n ih =>
    rw [List.replicate_succ, List.flatten_cons]
    by_cases h : i < l.length
    · rw [List.getElem?_append_left h, Nat.mod_eq_of_lt h, if_pos]
      rw [Nat.succ_mul]; omega
    · rw [List.getElem?_append_right (by omega), ih]
      have e : (i - l.length) % l.length = i % l.length := by
        rw [← Nat.mod_eq_sub_mod (by omega)]
      rw [e]
      by_cases h2 : i - l.length < n * l.length
      · rw [if_pos h2, if_pos (by rw [Nat.succ_mul]; omega)]
      · rw [if_neg h2, if_neg (by rw [Nat.succ_mul]; omega)]

theorem flat_ok : ∀ (d : Nat) (t : TypeId) (cs : List Value) (x : DataW H × List MemPlace) (m : Nat) (ts : List TypeId), flatT P d t = some ts →
    DataW.trod enc P w base spare held m t cs = some x → CellsOk enc P w base spare held ts cs := by
  intro d
  induction d with
  | zero => intro t cs x m ts h; simp [flatT] at h
  | succ d ih =>
    intro t cs x m ts h hx
    simp only [flatT] at h
    split at h
    · rename_i fs hfs
      obtain ⟨l, h1, h2⟩ := Option.bind_eq_some_iff.1 h
      split at h2
      · rename_i hl
        obtain rfl := Option.some.inj h2
        obtain ⟨xs, k, _, _, hcl, hxl, hf⟩ := DataW.trod_struct hfs hx
        refine ⟨by rw [hcl, hl], ?_⟩
        have := flatFs_ok (cs := cs) ih fs.toList 0 l h1 (fun fd hfd => by
          obtain ⟨i, hi, rfl⟩ := List.getElem_of_mem hfd
          have h3 := hf i (fs.toList[i]) (by simp)
          rw [List.getElem?_eq_getElem (by rw [hxl]; simpa using hi)] at h3
          exact ⟨_, _, h3⟩)
        intro i t hi
        have := this i t hi
        simpa using this
      · cases h2
    · rename_i n e hne
      obtain ⟨l, h1, h2⟩ := Option.bind_eq_some_iff.1 h
      split at h2
      · rename_i hl
        obtain rfl := Option.some.inj h2
        obtain ⟨xs, k, _, _, hcl, hxl, hf⟩ := DataW.trod_array hne hx
        refine ⟨by rw [hcl, ← hl.2]; simp, ?_⟩
        intro i t hi
        rw [getElem?_flatten_replicate] at hi
        split at hi
        · rename_i hlt
          have hpos : 0 < l.length := by
            rcases Nat.eq_zero_or_pos l.length with h0 | h0
            · rw [h0] at hlt; omega
            · exact h0
          have hq : i / l.length < n := (Nat.div_lt_iff_lt_mul hpos).2 hlt
          have h3 := hf (i / l.length) hq
          rw [List.getElem?_eq_getElem (by rw [hxl]; exact hq)] at h3
          obtain ⟨_, k2⟩ := ih _ _ _ _ _ h1 h3
          obtain ⟨v, hv, hleaf⟩ := k2 _ _ hi
          refine ⟨v, ?_, hleaf⟩
          rw [List.getElem?_take] at hv
          split at hv
          · rw [List.getElem?_drop, ← hl.1] at hv
            rw [← hv]
            congr 1
            rw [Nat.mul_comm]
            exact (Nat.div_add_mod i l.length).symm
          · cases hv
        · cases hi
      · cases h2
    · rename_i hns hna
      obtain rfl := Option.some.inj h
      obtain ⟨v, rfl⟩ := leaf_one (fun fs hfs => hns fs hfs) (fun n e he => hna n e he) hx
      refine ⟨rfl, ?_⟩
      intro i t' hi
      match i, hi with
      | 0, hi => simp at hi; subst hi; exact ⟨v, rfl, m, x, hx⟩

theorem Leaf.int {t : TypeId} {k : IntKind} {v : Value} (ht : P.underlying t = some (.int k)) (h : Leaf enc P w base spare held t v) : ∃ n, v = .int k n ∧ (Lit.int k n).wf = true := by
  obtain ⟨m, y, h⟩ := h
  obtain ⟨n, h1, _, h2⟩ := DataW.trod_int ht h
  exact ⟨n, by simpa using h1, h2⟩
theorem Leaf.bool {t : TypeId} {v : Value} (ht : P.underlying t = some .bool) (h : Leaf enc P w base spare held t v) : ∃ b, v = .bool b := by
  obtain ⟨m, y, h⟩ := h
  obtain ⟨n, h1, _⟩ := DataW.trod_bool ht h
  exact ⟨n, by simpa using h1⟩
theorem Leaf.string {t : TypeId} {v : Value} (ht : P.underlying t = some .string) (h : Leaf enc P w base spare held t v) : ∃ s : ByteArray, v = .string s ∧ s.size ≤ maxLen := by
  obtain ⟨m, y, h⟩ := h
  obtain ⟨s, h1, _, h2⟩ := DataW.trod_string ht h
  exact ⟨s, by simpa using h1, h2⟩

/-- A slice that came in: nil; or 'cap' elements lie at ⟨b, off⟩, each of as many cells as its type has leaves. -/
def IsSlice (enc : TypeId × Value → H) (P : Program) (w : World) (base : Nat) (spare : Nat → Bool) (held : Bool) (ts : List TypeId) (v : Value) : Prop :=
  v = .slice none 0 0 ∨ ∃ (a : Addr) (len cap : Nat), v = .slice (some a) len cap ∧ len ≤ cap ∧ cap ≤ maxLen ∧
    ∀ i j t, i < len → ts[j]? = some t → ∃ u, w.cell? (a.add (i * ts.length + j)) = some u ∧ Leaf enc P w base spare held t u

theorem slice_ok {t e : TypeId} {fuel d : Nat} {v : Value} {x : DataW H × List MemPlace} {ts : List TypeId} (ht : P.underlying t = some (.slice e)) (hts : flatT P d e = some ts) (hn : ts.length = P.cellsOf e)
    (h : DataW.trod enc P w base spare held fuel t [v] = some x) : IsSlice enc P w base spare held ts v := by
  rcases open_slice ht h with ⟨h0, _⟩ | ⟨a, len, cap, m, n, D, Pl, h0, hb, hl, hm, hmm, _, hx⟩
  · exact .inl (by simpa using h0)
  · refine .inr ⟨a, len, cap, by simpa using h0, hl, hm, fun i j t' hi hj => ?_⟩
    obtain ⟨cs', h1, h2⟩ := hx i (by rw [hmm]; split <;> omega)
    obtain ⟨k1, k2⟩ := flat_ok d e cs' _ n ts hts h2
    obtain ⟨u, hu, hleaf⟩ := k2 j t' hj
    obtain ⟨_, hlen, hcell⟩ := World.cells?_some h1
    refine ⟨u, ?_, hleaf⟩
    have hjlt : j < ts.length := (List.getElem?_eq_some_iff.1 hj).1
    have := hcell j (by omega)
    rw [add_add, ← hn] at this
    rw [this, hu]

/-- .. with the address taken apart, where it has an element. -/
theorem IsSlice.at {ts : List TypeId} {v : Value} (h : IsSlice enc P w base spare held ts v) (hpos : 0 < ts.length) :
    ∃ (a : Option Addr) (len cap : Nat), v = .slice a len cap ∧ len ≤ cap ∧ cap ≤ maxLen ∧
      (len = 0 ∨ ∃ b off, a = some ⟨b, off, none⟩ ∧ ∀ i j t, i < len → ts[j]? = some t → ∃ u, w.cell? ⟨b, off + (i * ts.length + j), none⟩ = some u ∧ Leaf enc P w base spare held t u) := by
  rcases h with rfl | ⟨a, len, cap, rfl, hl, hm, hc⟩
  · exact ⟨none, 0, 0, rfl, Nat.le_refl _, by simp [maxLen], .inl rfl⟩
  · refine ⟨some a, len, cap, rfl, hl, hm, ?_⟩
    by_cases h0 : len = 0
    · exact .inl h0
    · right
      obtain ⟨b, off, spot⟩ := a
      obtain ⟨u, hu, _⟩ := hc 0 0 (ts[0]) (by omega) (by simp)
      have hs : spot = none := by simpa [Addr.add] using World.cell?_spot hu
      subst hs
      refine ⟨b, off, rfl, fun i j t hi hj => ?_⟩
      obtain ⟨u, hu, hleaf⟩ := hc i j t hi hj
      exact ⟨u, by rw [Addr.add_lit] at hu; exact hu, hleaf⟩

theorem okWide_struct {r : Reach} {t : TypeId} {fs : Array Field} {v : Value} (ht : P.underlying t = some (.struct fs)) (h : Value.okWide P w r base t v) : ∃ cs, v = .agg cs := by
  simp only [Value.okWide, ht] at h
  obtain ⟨cs, hv, _⟩ := h
  exact ⟨cs, hv⟩
theorem okWide_array {r : Reach} {t n e : Nat} {v : Value} (ht : P.underlying t = some (.array n e)) (h : Value.okWide P w r base t v) : ∃ cs, v = .agg cs := by
  simp only [Value.okWide, ht] at h
  obtain ⟨cs, hv, _⟩ := h
  exact ⟨cs, hv⟩

/-- A struct or an array by value. -/
theorem agg_ok {t : TypeId} {fuel d : Nat} {cs : Array Value} {x : DataW H × List MemPlace} {ts : List TypeId} (hts : flatT P d t = some ts)
    (h : DataW.trod enc P w base spare held fuel t cs.toList = some x) : CellsOk enc P w base spare held ts cs.toList := flat_ok d t _ _ _ _ hts h
end
end Go.Proofs.Ytmdnkhpkpmbeoaa

/-
  A slice of flat elements that came in, with its bulk: no string of it is longer than the reading's bulk.
-/
namespace Go.Proofs.Ytmdnkhpkpmbeoaa
open Go.ChangeShapes Go.WideShapes Go.Deep
set_option linter.unusedVariables false
set_option linter.unusedSimpArgs false

theorem bulk_part_le {H : Type} {d : DataW H} {l : List (DataW H)} (h : d ∈ l) : Rows.uptoBulk d ≤ Rows.uptoBulkAll l := by
  induction l with
  | nil => cases h
  | cons x r ih =>
    simp only [Rows.uptoBulkAll]
    cases List.mem_cons.1 h with
    | inl e => subst e; omega
    | inr e => have := ih e; omega
theorem bulk_one {H : Type} (d : DataW H) : 1 ≤ Rows.uptoBulk d := by
  cases d with
  | lit l => cases l <;> simp [Rows.uptoBulk]
  | nil => simp [Rows.uptoBulk]
  | ptr d => simp [Rows.uptoBulk]
  | slice elems spare => simp [Rows.uptoBulk]
  | agg parts => simp [Rows.uptoBulk]
  | iface t d => simp [Rows.uptoBulk]
  | map entries => simp [Rows.uptoBulk]
  | held h => simp [Rows.uptoBulk]
theorem bulk_len {H : Type} (l : List (DataW H)) : l.length ≤ Rows.uptoBulkAll l := by
  induction l with
  | nil => simp [Rows.uptoBulkAll]
  | cons x r ih => have := bulk_one x; simp only [Rows.uptoBulkAll, List.length_cons]; omega
theorem bulk_part {H : Type} {N : Nat} {y : DataW H × List MemPlace} {xs : List (DataW H × List MemPlace)} (h : y ∈ xs) (hb : Rows.uptoBulk (.agg (xs.map (·.1))) ≤ N) : Rows.uptoBulk y.1 ≤ N := by
  have := bulk_part_le (List.mem_map.2 ⟨y, h, rfl⟩ : y.1 ∈ xs.map (·.1))
  simp only [Rows.uptoBulk] at hb
  omega
section
variable {H : Type} {enc : TypeId × Value → H} {P : Program} {w : World} {base : Nat} {spare : Nat → Bool} {held : Bool} {N : Nat}
def LeafB (N : Nat) (enc : TypeId × Value → H) (P : Program) (w : World) (base : Nat) (spare : Nat → Bool) (held : Bool) (t : TypeId) (v : Value) : Prop := ∃ m y, DataW.trod enc P w base spare held m t [v] = some y ∧ Rows.uptoBulk y.1 ≤ N
def CellsB (N : Nat) (enc : TypeId × Value → H) (P : Program) (w : World) (base : Nat) (spare : Nat → Bool) (held : Bool) (ts : List TypeId) (cs : List Value) : Prop :=
  cs.length = ts.length ∧ ∀ (i : Nat) (t : TypeId), ts[i]? = some t → ∃ v, cs[i]? = some v ∧ LeafB N enc P w base spare held t v
theorem flatFs_b {f : TypeId → Option (List TypeId)} {cs : List Value} (hrec : ∀ t cs x m ts, f t = some ts → DataW.trod enc P w base spare held m t cs = some x → Rows.uptoBulk x.1 ≤ N → CellsB N enc P w base spare held ts cs) :
    ∀ (l : List Field) (off : Nat) (ts : List TypeId), flatFs P f l off = some ts →
      (∀ fd ∈ l, ∃ m x, DataW.trod enc P w base spare held m fd.type ((cs.drop fd.offset).take (P.cellsOf fd.type)) = some x ∧ Rows.uptoBulk x.1 ≤ N) →
      ∀ (i : Nat) (t : TypeId), ts[i]? = some t → ∃ v, cs[off + i]? = some v ∧ LeafB N enc P w base spare held t v := by
  intro l
  induction l with
  | nil => intro off ts h _ i t hi; simp [flatFs] at h; subst h; simp at hi
  | cons fd r ih =>
    intro off ts h hall i t hi
    simp only [flatFs] at h
    split at h
    · rename_i ho
      obtain ⟨l1, h1, h2⟩ := Option.bind_eq_some_iff.1 h
      split at h2
      · rename_i hl
        obtain ⟨l2, h3, rfl⟩ := Option.map_eq_some_iff.1 h2
        obtain ⟨m, x, hx, hxb⟩ := hall fd (List.mem_cons_self)
        obtain ⟨k1, k2⟩ := hrec _ _ _ _ _ h1 hx hxb
        by_cases hlt : i < l1.length
        · rw [List.getElem?_append_left hlt] at hi
          obtain ⟨v, hv, hleaf⟩ := k2 i t hi
          refine ⟨v, ?_, hleaf⟩
          rw [List.getElem?_take] at hv
          split at hv
          · rw [List.getElem?_drop, ho] at hv
            exact hv
          · cases hv
        · rw [List.getElem?_append_right (by omega)] at hi
          obtain ⟨v, hv, hleaf⟩ := ih _ _ h3 (fun fd' hfd => hall fd' (List.mem_cons_of_mem _ hfd)) _ _ hi
          exact ⟨v, by rw [← hv]; congr 1; omega, hleaf⟩
      · cases h2
    · cases h

theorem flat_b : ∀ (d : Nat) (t : TypeId) (cs : List Value) (x : DataW H × List MemPlace) (m : Nat) (ts : List TypeId), flatT P d t = some ts →
    DataW.trod enc P w base spare held m t cs = some x → Rows.uptoBulk x.1 ≤ N → CellsB N enc P w base spare held ts cs := by
  intro d
  induction d with
  | zero => intro t cs x m ts h; simp [flatT] at h
  | succ d ih =>
    intro t cs x m ts h hx hxb
    simp only [flatT] at h
    split at h
    · rename_i fs hfs
      obtain ⟨l, h1, h2⟩ := Option.bind_eq_some_iff.1 h
      split at h2
      · rename_i hl
        obtain rfl := Option.some.inj h2
        obtain ⟨xs, k, _, hxe, hcl, hxl, hf⟩ := DataW.trod_struct hfs hx
        refine ⟨by rw [hcl, hl], ?_⟩
        have := flatFs_b (cs := cs) ih fs.toList 0 l h1 (fun fd hfd => by
          obtain ⟨i, hi, rfl⟩ := List.getElem_of_mem hfd
          have h3 := hf i (fs.toList[i]) (by simp)
          rw [List.getElem?_eq_getElem (by rw [hxl]; simpa using hi)] at h3
          exact ⟨_, _, h3, Nat.le_trans (bulk_part (List.getElem_mem _) (by rw [hxe] at hxb; exact hxb)) (Nat.le_refl _)⟩)
        intro i t hi
        have := this i t hi
        simpa using this
      · cases h2
    · rename_i n e hne
      obtain ⟨l, h1, h2⟩ := Option.bind_eq_some_iff.1 h
      split at h2
      · rename_i hl
        obtain rfl := Option.some.inj h2
        obtain ⟨xs, k, _, hxe, hcl, hxl, hf⟩ := DataW.trod_array hne hx
        refine ⟨by rw [hcl, ← hl.2]; simp, ?_⟩
        intro i t hi
        rw [getElem?_flatten_replicate] at hi
        split at hi
        · rename_i hlt
          have hpos : 0 < l.length := by
            rcases Nat.eq_zero_or_pos l.length with h0 | h0
            · rw [h0] at hlt; omega
            · exact h0
          have hq : i / l.length < n := (Nat.div_lt_iff_lt_mul hpos).2 hlt
          have h3 := hf (i / l.length) hq
          rw [List.getElem?_eq_getElem (by rw [hxl]; exact hq)] at h3
          obtain ⟨_, k2⟩ := ih _ _ _ _ _ h1 h3 (bulk_part (List.getElem_mem _) (by rw [hxe] at hxb; exact hxb))
          obtain ⟨v, hv, hleaf⟩ := k2 _ _ hi
          refine ⟨v, ?_, hleaf⟩
          rw [List.getElem?_take] at hv
          split at hv
          · rw [List.getElem?_drop, ← hl.1] at hv
            rw [← hv]
            congr 1
            rw [Nat.mul_comm]
            exact (Nat.div_add_mod i l.length).symm
          · cases hv
        · cases hi
      · cases h2
    · rename_i hns hna
      obtain rfl := Option.some.inj h
      obtain ⟨v, rfl⟩ := leaf_one (fun fs hfs => hns fs hfs) (fun n e he => hna n e he) hx
      refine ⟨rfl, ?_⟩
      intro i t' hi
      match i, hi with
      | 0, hi => simp at hi; subst hi; exact ⟨v, rfl, m, x, hx, hxb⟩

theorem LeafB.leaf {t : TypeId} {v : Value} (h : LeafB N enc P w base spare held t v) : Leaf enc P w base spare held t v := by
  obtain ⟨m, y, h, _⟩ := h
  exact ⟨m, y, h⟩
theorem LeafB.string {t : TypeId} {v : Value} (ht : P.underlying t = some .string) (h : LeafB N enc P w base spare held t v) : ∃ s : ByteArray, v = .string s ∧ s.size ≤ N := by
  obtain ⟨m, y, h, hb⟩ := h
  obtain ⟨s, h1, h2, _⟩ := DataW.trod_string ht h
  refine ⟨s, by simpa using h1, ?_⟩
  rw [h2] at hb
  simp only [Rows.uptoBulk, Array.length_toList] at hb
  have : s.data.size = s.size := rfl
  omega
def IsSliceB (N : Nat) (enc : TypeId × Value → H) (P : Program) (w : World) (base : Nat) (spare : Nat → Bool) (held : Bool) (ts : List TypeId) (v : Value) : Prop :=
  v = .slice none 0 0 ∨ ∃ (a : Addr) (len cap : Nat), v = .slice (some a) len cap ∧ len ≤ cap ∧ cap ≤ maxLen ∧ len ≤ N ∧
    ∀ i j t, i < len → ts[j]? = some t → ∃ u, w.cell? (a.add (i * ts.length + j)) = some u ∧ LeafB N enc P w base spare held t u
theorem slice_b {t e : TypeId} {fuel d : Nat} {v : Value} {x : DataW H × List MemPlace} {ts : List TypeId} (ht : P.underlying t = some (.slice e)) (hts : flatT P d e = some ts) (hn : ts.length = P.cellsOf e)
    (h : DataW.trod enc P w base spare held fuel t [v] = some x) (hb0 : Rows.uptoBulk x.1 ≤ N) : IsSliceB N enc P w base spare held ts v := by
  rcases open_slice ht h with ⟨h0, _⟩ | ⟨a, len, cap, m, n, D, Pl, h0, hb, hl, hm, hmm, hxe, hx⟩
  · exact .inl (by simpa using h0)
  · rw [hxe] at hb0
    simp only [Rows.uptoBulk] at hb0
    refine .inr ⟨a, len, cap, by simpa using h0, hl, hm, ?_, fun i j t' hi hj => ?_⟩
    · have h1 := bulk_len ((List.range len).map D)
      simp only [List.length_map, List.length_range] at h1
      omega
    · obtain ⟨cs', h1, h2⟩ := hx i (by rw [hmm]; split <;> omega)
      obtain ⟨k1, k2⟩ := flat_b d e cs' _ n ts hts h2 (by have h3 := bulk_part_le (List.mem_map.2 ⟨i, List.mem_range.2 hi, rfl⟩ : D i ∈ (List.range len).map D); show Rows.uptoBulk (D i) ≤ N; omega)
      obtain ⟨u, hu, hleaf⟩ := k2 j t' hj
      obtain ⟨_, hlen, hcell⟩ := World.cells?_some h1
      refine ⟨u, ?_, hleaf⟩
      have hjlt : j < ts.length := (List.getElem?_eq_some_iff.1 hj).1
      have := hcell j (by omega)
      rw [add_add, ← hn] at this
      rw [this, hu]
end
theorem slice_rowsB {H : Type} {enc : TypeId × Value → H} {P : Program} {w : World} {base : Nat} {spare : Nat → Bool} {held : Bool} {ts : List TypeId} {v : Value} {N : Nat} (hpos : 0 < ts.length) (hv : IsSliceB N enc P w base spare held ts v) :
    ∃ b xs, Rd w ts.length b v xs ∧ xs.length ≤ N ∧ ∀ x ∈ xs, CellsB N enc P w base spare held ts x := by
  rcases hv with rfl | ⟨a, len, cap, rfl, hl, hm, hN, hc⟩
  · exact ⟨0, [], ⟨none, 0, rfl, Nat.le_refl _, by simp [maxLen], fun _ => rfl, fun h => absurd rfl h⟩, by simp, by simp⟩
  · obtain ⟨b, off, spot⟩ := a
    let el : Nat → List Value := fun i => (List.range ts.length).map fun j => (w.cell? ((⟨b, off, spot⟩ : Addr).add (i * ts.length + j))).getD undef
    have hel : ∀ i j, j < ts.length → (el i)[j]? = some ((w.cell? ((⟨b, off, spot⟩ : Addr).add (i * ts.length + j))).getD undef) := by
      intro i j hj
      simp [el, hj]
    refine ⟨b, (List.range len).map el, ⟨some ⟨b, off, spot⟩, cap, by simp, by simpa using hl, hm, (by intro h; cases h), fun hne => ?_⟩, by simpa using hN, ?_⟩
    · have h0 : 0 < len := by
        rcases Nat.eq_zero_or_pos len with h | h
        · subst h; simp at hne
        · exact h
      obtain ⟨u, hu, _⟩ := hc 0 0 (ts[0]) h0 (by simp)
      have hs : spot = none := by simpa [Addr.add] using World.cell?_spot hu
      subst hs
      refine ⟨off, rfl, fun i x hx => ?_⟩
      intro j u hj
      have hi : i < len := by
        have := (List.getElem?_eq_some_iff.1 hx).1
        simpa using this
      obtain rfl : el i = x := by simpa [hi] using hx
      have hjl : j < ts.length := by
        have := (List.getElem?_eq_some_iff.1 hj).1
        simpa [el] using this
      rw [hel i j hjl] at hj
      obtain ⟨u', hu', _⟩ := hc i j (ts[j]) hi (by simp [hjl])
      rw [hu'] at hj
      simp at hj
      subst hj
      rw [Addr.add_lit] at hu'
      rw [Nat.add_assoc]
      exact hu'
    · intro x hx
      obtain ⟨i, hi, rfl⟩ := List.mem_map.1 hx
      have hi' : i < len := by simpa using hi
      refine ⟨by simp [el], fun j t ht => ?_⟩
      obtain ⟨u, hu, hleaf⟩ := hc i j t hi' ht
      have hjl : j < ts.length := (List.getElem?_eq_some_iff.1 ht).1
      exact ⟨u, by rw [hel i j hjl, hu]; rfl, hleaf⟩
end Go.Proofs.Ytmdnkhpkpmbeoaa

/-
  Outputs that came in.
-/
namespace Go.Proofs.Ytmdnkhpkpmbeoaa
open Go.RowKit Go.ChangeShapes Go.WideShapes Go.Deep
set_option linter.unusedVariables false
set_option linter.unusedSimpArgs false

theorem twentythree {α : Type} (l : List α) (h : l.length = 23) : ∃ x0 x1 x2 x3 x4 x5 x6 x7 x8 x9 x10 x11 x12 x13 x14 x15 x16 x17 x18 x19 x20 x21 x22, l = [x0, x1, x2, x3, x4, x5, x6, x7, x8, x9, x10, x11, x12, x13, x14, x15, x16, x17, x18, x19, x20, x21, x22] := by
  match l, h with
  | [x0, x1, x2, x3, x4, x5, x6, x7, x8, x9, x10, x11, x12, x13, x14, x15, x16, x17, x18, x19, x20, x21, x22], _ => exact ⟨_, _, _, _, _, _, _, _, _, _, _, _, _, _, _, _, _, _, _, _, _, _, _, rfl⟩
theorem u8_range {x : Int} (h : (Lit.int .u8 x).wf = true) : 0 ≤ x ∧ x ≤ 255 := by
  simp [Lit.wf, IntKind.min, IntKind.max, IntKind.signed, IntKind.bits] at h
  omega
def tsO : List TypeId := [3, 3, 3, 9, 4, 5, 5, 5, 5, 5, 5, 5, 5, 5, 5, 5, 5, 5, 5, 5, 5, 3, 4]
set_option maxRecDepth 100000 in
set_option maxHeartbeats 4000000 in
theorem out_of {H : Type} {enc : TypeId × Value → H} {w : World} {x : List Value} (h : CellsB 1048576 enc Try.prog w 0 (fun _ => true) true [3, 3, 3, 9, 4, 5, 5, 5, 5, 5, 5, 5, 5, 5, 5, 5, 5, 5, 5, 5, 5, 3, 4] x) : ∃ o, OkO o ∧ x = encO o := by
  obtain ⟨hl, hc⟩ := h
  obtain ⟨v0, e0, l0⟩ := hc 0 3 rfl
  obtain ⟨v1, e1, l1⟩ := hc 1 3 rfl
  obtain ⟨v2, e2, l2⟩ := hc 2 3 rfl
  obtain ⟨v3, e3, l3⟩ := hc 3 9 rfl
  obtain ⟨v4, e4, l4⟩ := hc 4 4 rfl
  obtain ⟨v5, e5, l5⟩ := hc 5 5 rfl
  obtain ⟨v6, e6, l6⟩ := hc 6 5 rfl
  obtain ⟨v7, e7, l7⟩ := hc 7 5 rfl
  obtain ⟨v8, e8, l8⟩ := hc 8 5 rfl
  obtain ⟨v9, e9, l9⟩ := hc 9 5 rfl
  obtain ⟨v10, e10, l10⟩ := hc 10 5 rfl
  obtain ⟨v11, e11, l11⟩ := hc 11 5 rfl
  obtain ⟨v12, e12, l12⟩ := hc 12 5 rfl
  obtain ⟨v13, e13, l13⟩ := hc 13 5 rfl
  obtain ⟨v14, e14, l14⟩ := hc 14 5 rfl
  obtain ⟨v15, e15, l15⟩ := hc 15 5 rfl
  obtain ⟨v16, e16, l16⟩ := hc 16 5 rfl
  obtain ⟨v17, e17, l17⟩ := hc 17 5 rfl
  obtain ⟨v18, e18, l18⟩ := hc 18 5 rfl
  obtain ⟨v19, e19, l19⟩ := hc 19 5 rfl
  obtain ⟨v20, e20, l20⟩ := hc 20 5 rfl
  obtain ⟨v21, e21, l21⟩ := hc 21 3 rfl
  obtain ⟨v22, e22, l22⟩ := hc 22 4 rfl
  obtain ⟨x0, x1, x2, x3, x4, x5, x6, x7, x8, x9, x10, x11, x12, x13, x14, x15, x16, x17, x18, x19, x20, x21, x22, rfl⟩ := twentythree x hl
  simp only [List.getElem?_cons_zero, List.getElem?_cons_succ, Option.some.injEq] at e0 e1 e2 e3 e4 e5 e6 e7 e8 e9 e10 e11 e12 e13 e14 e15 e16 e17 e18 e19 e20 e21 e22
  subst e0 e1 e2 e3 e4 e5 e6 e7 e8 e9 e10 e11 e12 e13 e14 e15 e16 e17 e18 e19 e20 e21 e22
  obtain ⟨a0, rfl, w0⟩ := Leaf.int Try.underlying3 l0.leaf
  obtain ⟨a1, rfl, w1⟩ := Leaf.int Try.underlying3 l1.leaf
  obtain ⟨a2, rfl, w2⟩ := Leaf.int Try.underlying3 l2.leaf
  obtain ⟨a3, rfl, w3⟩ := LeafB.string Try.underlying9 l3
  obtain ⟨a4, rfl⟩ := Leaf.bool Try.underlying4 l4.leaf
  obtain ⟨a5, rfl, w5⟩ := Leaf.int Try.underlying5 l5.leaf
  obtain ⟨a6, rfl, w6⟩ := Leaf.int Try.underlying5 l6.leaf
  obtain ⟨a7, rfl, w7⟩ := Leaf.int Try.underlying5 l7.leaf
  obtain ⟨a8, rfl, w8⟩ := Leaf.int Try.underlying5 l8.leaf
  obtain ⟨a9, rfl, w9⟩ := Leaf.int Try.underlying5 l9.leaf
  obtain ⟨a10, rfl, w10⟩ := Leaf.int Try.underlying5 l10.leaf
  obtain ⟨a11, rfl, w11⟩ := Leaf.int Try.underlying5 l11.leaf
  obtain ⟨a12, rfl, w12⟩ := Leaf.int Try.underlying5 l12.leaf
  obtain ⟨a13, rfl, w13⟩ := Leaf.int Try.underlying5 l13.leaf
  obtain ⟨a14, rfl, w14⟩ := Leaf.int Try.underlying5 l14.leaf
  obtain ⟨a15, rfl, w15⟩ := Leaf.int Try.underlying5 l15.leaf
  obtain ⟨a16, rfl, w16⟩ := Leaf.int Try.underlying5 l16.leaf
  obtain ⟨a17, rfl, w17⟩ := Leaf.int Try.underlying5 l17.leaf
  obtain ⟨a18, rfl, w18⟩ := Leaf.int Try.underlying5 l18.leaf
  obtain ⟨a19, rfl, w19⟩ := Leaf.int Try.underlying5 l19.leaf
  obtain ⟨a20, rfl, w20⟩ := Leaf.int Try.underlying5 l20.leaf
  obtain ⟨a21, rfl, w21⟩ := Leaf.int Try.underlying3 l21.leaf
  obtain ⟨a22, rfl⟩ := Leaf.bool Try.underlying4 l22.leaf
  refine ⟨⟨a0, a1, a2, a3, adr a4 [a5, a6, a7, a8, a9, a10, a11, a12, a13, a14, a15, a16, a17, a18, a19, a20], a21, a22⟩, ⟨w0, w1, w2, w21, w3, ⟨a4, [a5, a6, a7, a8, a9, a10, a11, a12, a13, a14, a15, a16, a17, a18, a19, a20], rfl, rfl, ?_⟩⟩, rfl⟩
  intro y hy
  simp only [List.mem_cons, List.not_mem_nil, or_false] at hy
  rcases hy with rfl | rfl | rfl | rfl | rfl | rfl | rfl | rfl | rfl | rfl | rfl | rfl | rfl | rfl | rfl | rfl
  · exact u8_range w5
  · exact u8_range w6
  · exact u8_range w7
  · exact u8_range w8
  · exact u8_range w9
  · exact u8_range w10
  · exact u8_range w11
  · exact u8_range w12
  · exact u8_range w13
  · exact u8_range w14
  · exact u8_range w15
  · exact u8_range w16
  · exact u8_range w17
  · exact u8_range w18
  · exact u8_range w19
  · exact u8_range w20
theorem outs_of {H : Type} {enc : TypeId × Value → H} {w : World} : ∀ {xs : List (List Value)}, (∀ x ∈ xs, CellsB 1048576 enc Try.prog w 0 (fun _ => true) true [3, 3, 3, 9, 4, 5, 5, 5, 5, 5, 5, 5, 5, 5, 5, 5, 5, 5, 5, 5, 5, 3, 4] x) → ∃ l : List O, (∀ o ∈ l, OkO o) ∧ xs = rO l
  | [], _ => ⟨[], by simp, rfl⟩
  | x :: xs, h => by
    obtain ⟨o, ho, rfl⟩ := out_of (h x List.mem_cons_self)
    obtain ⟨l, hl, rfl⟩ := outs_of (fun x hx => h x (List.mem_cons_of_mem _ hx))
    exact ⟨o :: l, by intro y hy; rcases List.mem_cons.1 hy with rfl | hy; exact ho; exact hl y hy, rfl⟩
theorem outs_in {H : Type} {enc : TypeId × Value → H} {w : World} {v : Value} (hv : IsSliceB 1048576 enc Try.prog w 0 (fun _ => true) true [3, 3, 3, 9, 4, 5, 5, 5, 5, 5, 5, 5, 5, 5, 5, 5, 5, 5, 5, 5, 5, 3, 4] v) : ∃ b l, Rd w 23 b v (rO l) ∧ (∀ o ∈ l, OkO o) ∧ l.length ≤ 1048576 := by
  obtain ⟨b, xs, hr, hn, hx⟩ := slice_rowsB (by simp) hv
  obtain ⟨l, hl, rfl⟩ := outs_of hx
  exact ⟨b, l, hr, hl, by rwa [rO_len] at hn⟩
end Go.Proofs.Ytmdnkhpkpmbeoaa

/-
  The walk of TraceMatchesModel, over the frame's arguments.
-/
namespace Go.Proofs.Ytmdnkhpkpmbeoaa.traceMatchesModel
open Go.RowKit
set_option linter.unusedVariables false

theorem walk {H : Type} {enc : TypeId × Value → H} {w : World} (v : Value) (hv : IsSliceB 1048576 enc Try.prog w 0 (fun _ => true) true [3, 3, 3, 9, 4, 5, 5, 5, 5, 5, 5, 5, 5, 5, 5, 5, 5, 5, 5, 5, 5, 3, 4] v) (a : Int) (wa : (Lit.int .i64 a).wf = true) :
    Calls Try.prog 3 #[v, .int .i64 a] w fun e w' => e = .returned (.bool true) ∧ Below w.heap.size w w' := by
  obtain ⟨b, l, hr, hok, _⟩ := outs_in hv
  exact (walk3 v b l a wa w hr hok).mono fun e w' ⟨h1, h2⟩ => ⟨h1, h2.below (by simp) (Nat.le_refl _)⟩
end Go.Proofs.Ytmdnkhpkpmbeoaa.traceMatchesModel

/-
  The statement 'TraceMatchesModelUptoSaid' of the seat: the frame of the row round the walk of the law's Go function (YtmdnkhpkpmbeoaaWk3): for every input of bulk at most the row's own bound the call returns true and each argument reads as it did.
-/
namespace Go.Proofs.Ytmdnkhpkpmbeoaa.traceMatchesModel
open Go.ChangeShapes Go.WideShapes Go.Deep Go.ChangeAt Go.RowKit
open Go.ChangeMaps (open_string shut_string)
set_option linter.unusedVariables false

theorem own : ownKnob Try.prog.godebug = none := by kernel_rfl
theorem laidOut : laidOutB Try.prog = true := by kernel_rfl

set_option maxRecDepth 100000 in
theorem contract (H : Type) (enc : TypeId × Value → H) (W : World) (base : Nat) (args : Array Value) (ds gs : List (DataW H)) (before : List MemPlace)
    (hval0 : ∀ (j : Nat) t v, Try.f3.params[j]? = some t → args[j]? = some v → Value.okWide Try.prog W .any base t v)
    (hW : DataW.Whole enc Try.prog Try.f3.params.toList Rows.traceMatchesModelSpec.vars false W args.toList ds gs before) (hk : Rows.uptoSmall H (ds ++ gs) = true) :
    Calls Try.prog 3 args W fun e W' => ∃ v, e = .returned v ∧ Rows.traceMatchesModelSpec.post enc Try.prog Try.f3 false true false false W args v W' := by
  have hval : ∀ (j : Nat) t v, Try.f3.params[j]? = some t → args[j]? = some v → Value.okWide Try.prog W .any base t v := hval0
  have hW' := hW
  obtain ⟨p, q, hA0, hV, rfl, hfz, hnd⟩ := hW
  have hA : DataW.TrodAll enc Try.prog W 0 (fun _ => true) true Try.f3.params.toList args.toList ds p := hA0
  rw [Try.params3] at hA hval
  obtain ⟨v0, vs0, d0, ds0, p0, q0, hargs, rfl, rfl, h0, r0⟩ := trodAll_cons hA
  obtain ⟨v1, vs1, d1, ds1, p1, q1, rfl, rfl, rfl, h1, r1⟩ := trodAll_cons r0
  obtain ⟨rfl, rfl, rfl⟩ := trodAll_nil r1
  obtain rfl : args = #[v0, v1] := by cases args; simp_all
  obtain ⟨rfl, rfl⟩ := trodVars_none hV
  have k0 := h0
  have lt0 : ∀ x ∈ p0, x.block < W.heap.size := by obtain ⟨m, hm⟩ := k0; exact DataW.trod_lt m _ _ _ hm
  have k1 := h1
  have lt1 : ∀ x ∈ p1, x.block < W.heap.size := by obtain ⟨m, hm⟩ := k1; exact DataW.trod_lt m _ _ _ hm
  obtain ⟨b0, len0, cap0, hv0⟩ := okWide_slice Try.underlying22 (hval 0 22 v0 rfl rfl)
  have s0 : IsSliceB 1048576 enc Try.prog W 0 (fun _ => true) true [3, 3, 3, 9, 4, 5, 5, 5, 5, 5, 5, 5, 5, 5, 5, 5, 5, 5, 5, 5, 5, 3, 4] v0 := by
    have hb := hk
    unfold Rows.uptoSmall at hb
    replace hb := of_decide_eq_true hb
    simp only [List.append_nil, Rows.uptoBulkAll] at hb
    obtain ⟨fuel, hf⟩ := h0
    rw [hv0] at hf ⊢
    exact slice_b (d := 8) Try.underlying22 (by kernel_rfl) (by kernel_rfl) (by simpa [Value.cells] using hf) (show Rows.uptoBulk d0 ≤ 1048576 by omega)
  obtain ⟨a1, rfl, e1, ee1, w1⟩ := open_int Try.underlying3 (hval 1 3 v1 rfl rfl) h1
  clear hA0 hval0
  refine (walk (H := H) (enc := enc) (w := W) v0 s0 a1 w1).mono fun e W' ⟨he, bel⟩ => ?_
  subst he
  exact ⟨_, rfl, _, _, _, [], _, [], hW', trodAll_mk1 (shut_bool Try.underlying4 _), (trodAll_cons_mk (Below.trod laidOut (by kernel_rfl) (of_decide_eq_true (by kernel_rfl)) k0 bel lt0) (trodAll_cons_mk (Below.trod laidOut (by kernel_rfl) (of_decide_eq_true (by kernel_rfl)) k1 bel lt1) trodAll_mk0)), rfl, bel.frame _, fun h => by cases h⟩

set_option maxRecDepth 100000 in
theorem lifted (os : Os) (started : os.Started) (H : Type) (enc : TypeId × Value → H) (F : Stop.Interp) :
    ReturnsInHanded {} Try.checked os 3 .any ((Rows.OpenSpec.upto Rows.traceMatchesModelSpec).pre6 enc Try.prog Try.f3 Rows.traceMatchesModelUptoRow.domain false) (((Rows.OpenSpec.upto Rows.traceMatchesModelSpec).at F).post enc Try.prog Try.f3 false true false false) := by
  refine returnsInHanded_of_cond (C := Try.checked) (s := Rows.OpenSpec.upto Rows.traceMatchesModelSpec) (k := Rows.uptoSmall) rfl own started (by kernel_rfl) Try.func3
    (OpenSpec.witness (enc := enc) (C := Try.checked) (s := Rows.OpenSpec.upto Rows.traceMatchesModelSpec) (k := Rows.uptoSmall) rfl false ⟨#[], #[.slice none 0 0, .int .i64 0], []⟩ 8 (by kernel_rfl) (by kernel_rfl) (by kernel_rfl)
      (x := ([.nil, .lit (.int .i64 0)], [], [])) (by kernel_rfl) rfl (by kernel_rfl)) ?_
  intro W base args ds gs before hval hW _ hk _
  exact contract H enc W base args ds gs before hval hW hk

theorem proved : Rows.TraceMatchesModelUptoSaid :=
  OpenClaim.holds_of_cond 3 Try.f3 rfl rfl rfl rfl rfl rfl rfl ⟨rfl, rfl, rfl, rfl, rfl⟩ rfl rfl rfl rfl rfl (by kernel_rfl) Try.func3 (by kernel_rfl)
    (of_decide_eq_true (by kernel_rfl)) (by unfold Func.isWrapper; first | (rw [if_pos (by decide +kernel)]; kernel_rfl) | (rw [if_neg (by decide +kernel)]; exact ⟨rfl, rfl⟩))
    (fun os started H enc _ F => lifted os started H enc F)
#print axioms proved
end Go.Proofs.Ytmdnkhpkpmbeoaa.traceMatchesModel

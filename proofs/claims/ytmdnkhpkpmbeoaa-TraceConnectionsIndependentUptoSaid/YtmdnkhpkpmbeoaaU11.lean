/-
  Merged texts: Aw, W3, Vc, Ov, W4, Flat.
-/
import Derived.Test.YtmdnkhpkpmbeoaaU10
import Derived.StillTailTactics
import Derived.Deep.Slices
import Derived.OpenShut
import Derived.WideShapes

/-
  awake.
-/
namespace Go.Proofs.Ytmdnkhpkpmbeoaa
open Go.RowKit Go.Sort Go.Shelf
set_option linter.unusedVariables false
set_option linter.unusedSimpArgs false

def AW : List O := [⟨1, 7, 0, ⟨#[]⟩, noAd, 0, false⟩, ⟨4, 7, 1, ⟨#[]⟩, noAd, 80, false⟩, ⟨5, 7, 0, ⟨#[97, 98]⟩, noAd, 0, false⟩, ⟨6, 7, 0, ⟨#[]⟩, noAd, 0, false⟩, ⟨7, 7, 0, ⟨#[]⟩, noAd, 0, false⟩]
def TW : List Tg := [⟨noAd, 80⟩]
theorem okT_TW : ∀ t ∈ TW, OkT t := by
  intro t ht
  simp only [TW, List.mem_cons, List.not_mem_nil, or_false] at ht
  subst ht
  exact ⟨noAd_is, by simp [wf, Lit.wf, IntKind.min, IntKind.max, IntKind.signed, IntKind.bits]⟩
theorem okO_AW : ∀ o ∈ AW, OkO o := by
  intro o ho
  simp only [AW, List.mem_cons, List.not_mem_nil, or_false] at ho
  rcases ho with rfl | rfl | rfl | rfl | rfl <;>
    exact ⟨by simp [wf, Lit.wf, IntKind.min, IntKind.max, IntKind.signed, IntKind.bits], by simp [wf, Lit.wf, IntKind.min, IntKind.max, IntKind.signed, IntKind.bits], by simp [wf, Lit.wf, IntKind.min, IntKind.max, IntKind.signed, IntKind.bits], by simp [wf, Lit.wf, IntKind.min, IntKind.max, IntKind.signed, IntKind.bits], by simp [ByteArray.size], noAd_is⟩
theorem aw1 : validR AW = true := by decide
theorem aw2 : validR (AW.drop 1) = false := by decide
theorem aw3 : liveR AW = [(7, 1)] := by decide
theorem aw4 : wrB AW (7, 0) = ⟨#[97, 98]⟩ := by decide
theorem aw5 : hasS AW (7, 0) = true := by decide
theorem aw6 : ctT AW 7 = TW := by rfl
theorem aw7 : ofC AW 7 = AW := by rfl
theorem aw8 : (rO AW).length = 5 := rfl
theorem lenT0 : (encT ⟨noAd, 80⟩).length = 19 := by decide
theorem okK_71 : ∀ k ∈ [((7 : Int), (1 : Int))], okK k := by
  intro k hk
  simp only [List.mem_singleton] at hk
  subst hk
  exact ⟨wf_small (by omega) (by omega), wf_small (by omega) (by omega)⟩
theorem okK_70 : okK (7, 0) := ⟨wf_small (by omega) (by omega), wf_small (by omega) (by omega)⟩
theorem Rd.new {w : World} {g k T : Nat} {xs : List (List Value)} (h : w.heap[g]? = some (.cells xs.flatten.toArray T (0, 0))) (hk : ∀ x ∈ xs, x.length = k) (hn : xs.length ≤ 1000) : Rd w k g (.slice (some ⟨g, 0, none⟩) xs.length xs.length) xs := by
  have hr := range_block (cs := xs.flatten) h
  refine ⟨some ⟨g, 0, none⟩, xs.length, rfl, Nat.le_refl _, by unfold maxLen; omega, by simp, fun _ => ⟨0, rfl, ?_⟩⟩
  intro i x hi j u hu
  have h2 := hr (i * k + j) u (by rw [← hu]; exact (flat_get hk hi hu).trans hu.symm)
  simpa [Nat.add_assoc] using h2
section
variable {P : Program} {ops : Array Oper} {rest : List Oper} {a : Act} {w : World} {Q : Exit → Act → World → Prop} {d : Option Tmp} {x y : Operand} {t : TypeId} {p : String} {af : Array Edge}
theorem wpList_ungd {o o' : Oper} (ho : o' = { o with guard := none }) (hw : Region.wanted o (yielded ops a.tmps) = true) (h : wpList P ops Q (o' :: rest) a w) : wpList P ops Q (o :: rest) a w := by
  subst ho
  unfold wpList at h ⊢
  rw [if_pos hw]
  rw [if_pos (by simp [Region.wanted])] at h
  exact h
theorem ungd_build (ty : TypeId) (k : Nat) (s : Bool) {ps : Array (Nat × Operand)} (hw : Region.wanted { dst := d, op := .build ty ps, type := t, pos := p, after := af, guard := some (k, s) } (yielded ops a.tmps) = true)
    (h : wpList P ops Q ({ dst := d, op := .build ty ps, type := t, pos := p, after := af, guard := none } :: rest) a w) : wpList P ops Q ({ dst := d, op := .build ty ps, type := t, pos := p, after := af, guard := some (k, s) } :: rest) a w := wpList_ungd rfl hw h
theorem ungd_bs (ty m : Nat) (k : Nat) (s : Bool) {ps : Array (Nat × Operand)} (hw : Region.wanted { dst := d, op := .buildSlice ty m ps, type := t, pos := p, after := af, guard := some (k, s) } (yielded ops a.tmps) = true)
    (h : wpList P ops Q ({ dst := d, op := .buildSlice ty m ps, type := t, pos := p, after := af, guard := none } :: rest) a w) : wpList P ops Q ({ dst := d, op := .buildSlice ty m ps, type := t, pos := p, after := af, guard := some (k, s) } :: rest) a w := wpList_ungd rfl hw h
theorem ungd_slice (ty : Nat) (k : Nat) (s : Bool) {lo hi mx : Option Operand} (hw : Region.wanted { dst := d, op := .slice ty x lo hi mx, type := t, pos := p, after := af, guard := some (k, s) } (yielded ops a.tmps) = true)
    (h : wpList P ops Q ({ dst := d, op := .slice ty x lo hi mx, type := t, pos := p, after := af, guard := none } :: rest) a w) : wpList P ops Q ({ dst := d, op := .slice ty x lo hi mx, type := t, pos := p, after := af, guard := some (k, s) } :: rest) a w := wpList_ungd rfl hw h
theorem wpList_buildR {t e k bytes : Nat} {op : Oper} (R : RT t e k bytes) (hgd : op.guard = none) (n : Nat) (ps : Array (Nat × Operand)) (ho : op.op = .buildSlice t n ps) (xs : List (List Value)) (hn : xs.length = n) (hl : ∀ x ∈ xs, x.length = k) (hx : (ps.toList.map fun p => (p.1, a.eval p.2)) = (xs.zipIdx).map fun p => (p.2, Value.agg p.1.toArray)) (hs : n ≤ 1000)
    (h : wpList Try.prog ops Q rest (a.put op.dst (.slice (some ⟨w.heap.size, 0, none⟩) n n)) (w.alloc (.cells xs.flatten.toArray e))) : wpList Try.prog ops Q (op :: rest) a w := by
  obtain ⟨i, z, hi, hz, hs2, hb, hc⟩ := R.hi
  refine wpList_buildSlice_rows hgd t n _ ho e k i z R.ht hi hz hs2 R.k0 xs hn hl ?_ hx h
  have := R.k1
  calc n * k ≤ 1000 * 100 := Nat.mul_le_mul hs this
    _ ≤ _ := by omega
end
theorem rtS : RT 41 52 3 40 := ⟨Try.underlying41, info_parts (by kernel_rfl), by omega, by omega, by omega⟩
theorem bw1 : Try.prog.built 36 [(0, .int .i64 1), (1, .int .i64 7)] = some (encO ⟨1, 7, 0, ⟨#[]⟩, noAd, 0, false⟩).toArray := by kernel_rfl
theorem bw2 : Try.prog.built 36 [(0, .int .i64 4), (1, .int .i64 7), (2, .int .i64 1), (5, .int .i64 80)] = some (encO ⟨4, 7, 1, ⟨#[]⟩, noAd, 80, false⟩).toArray := by kernel_rfl
theorem bw3 : Try.prog.built 36 [(0, .int .i64 5), (1, .int .i64 7), (3, .string ⟨#[97, 98]⟩)] = some (encO ⟨5, 7, 0, ⟨#[97, 98]⟩, noAd, 0, false⟩).toArray := by kernel_rfl
theorem bw4 : Try.prog.built 36 [(0, .int .i64 6), (1, .int .i64 7)] = some (encO ⟨6, 7, 0, ⟨#[]⟩, noAd, 0, false⟩).toArray := by kernel_rfl
theorem bw5 : Try.prog.built 36 [(0, .int .i64 7), (1, .int .i64 7)] = some (encO ⟨7, 7, 0, ⟨#[]⟩, noAd, 0, false⟩).toArray := by kernel_rfl
theorem bwT : Try.prog.built 46 [(2, .int .i64 80)] = some (encT ⟨noAd, 80⟩).toArray := by kernel_rfl
theorem bwS (ad : Option Addr) (n c : Nat) (l : List O) : Try.prog.built 52 [(2, .slice ad n c)] = some (encS ⟨0, 0, .slice ad n c, l⟩).toArray := by kernel_rfl
set_option maxRecDepth 100000 in
set_option maxHeartbeats 4000000 in
theorem awake_any (w : World) : Calls Try.prog 9 #[] w fun e w' => e = .returned (.bool true) ∧ Touch [] w w' := by
  have TA := Lib.hid ((Touch.refl [] w).alloc (.cells (rO AW).flatten.toArray 36))
  have RD : Hid (Rd (w.alloc (.cells (rO AW).flatten.toArray 36)) 23 w.heap.size (.slice (some ⟨w.heap.size, 0, none⟩) 5 5) (rO AW)) := Lib.hid (Rd.new (heap_alloc_new w (.cells (rO AW).flatten.toArray 36)) (rO_lens okO_AW) (by decide))
  go_enter Try.func9, Try.ntmps9
  go_wp2_with (first
    | ((with_reducible refine ungd_build 36 _ _ ?hw ?_); case hw => rfl)
    | ((with_reducible refine ungd_build 46 _ _ ?hw ?_); case hw => rfl)
    | ((with_reducible refine ungd_build 52 _ _ ?hw ?_); case hw => rfl)
    | ((with_reducible refine ungd_bs 27 1 _ _ ?hw ?_); case hw => rfl)
    | ((with_reducible refine ungd_bs 47 1 _ _ ?hw ?_); case hw => rfl)
    | ((with_reducible refine ungd_bs 41 1 _ _ ?hw ?_); case hw => rfl)
    | ((with_reducible refine at_build 36 ?_); refine wpList_built rfl 36 _ rfl [(0, .int .i64 1), (1, .int .i64 7)] _ rfl bw1 ?_)
    | ((with_reducible refine at_build 36 ?_); refine wpList_built rfl 36 _ rfl [(0, .int .i64 4), (1, .int .i64 7), (2, .int .i64 1), (5, .int .i64 80)] _ rfl bw2 ?_)
    | ((with_reducible refine at_build 36 ?_); refine wpList_built rfl 36 _ rfl [(0, .int .i64 5), (1, .int .i64 7), (3, .string ⟨#[97, 98]⟩)] _ rfl bw3 ?_)
    | ((with_reducible refine at_build 36 ?_); refine wpList_built rfl 36 _ rfl [(0, .int .i64 6), (1, .int .i64 7)] _ rfl bw4 ?_)
    | ((with_reducible refine at_build 36 ?_); refine wpList_built rfl 36 _ rfl [(0, .int .i64 7), (1, .int .i64 7)] _ rfl bw5 ?_)
    | ((with_reducible refine at_bs 22 5 ?_); refine wpList_buildR rtO rfl 5 _ rfl (rO AW) rfl (rO_lens okO_AW) rfl (by omega) ?_)
    | ((with_reducible refine at_bs 27 1 ?_); refine wpList_build1 rtE rfl _ rfl (encE (7, 1)) rfl rfl ?_)
    | ((with_reducible refine at_bs 47 1 ?_); refine wpList_build1 rtT rfl _ rfl (encT ⟨noAd, 80⟩) lenT0 rfl ?_)
    | ((with_reducible refine at_bs 41 1 ?_); refine wpList_build1 rtS rfl _ rfl (encS ⟨0, 0, .slice (some ⟨w.heap.size, 0, none⟩) 5 5, AW⟩) rfl rfl ?_)
    | ((with_reducible refine at_build 46 ?_); refine wpList_built rfl 46 _ rfl [(2, .int .i64 80)] _ rfl bwT ?_)
    | ((with_reducible refine at_build 52 ?_); refine wpList_built rfl 52 _ rfl [(2, _)] _ rfl (bwS _ _ _ AW) ?_))
  have hcon := valid_any _ w.heap.size AW _ RD.out okO_AW (by decide)
  rw [aw1] at hcon
  refine hcon.mono ?_
  clear hcon
  rintro e w1 ⟨rfl, t1⟩
  have T1 := Lib.hid (TA.out.trans t1 (by simp))
  have RD := Lib.hid (RD.out.touch t1 (by simp))
  clear t1
  go_wp2_with (first
    | ((with_reducible refine ungd_build 36 _ _ ?hw ?_); case hw => rfl)
    | ((with_reducible refine ungd_build 46 _ _ ?hw ?_); case hw => rfl)
    | ((with_reducible refine ungd_build 52 _ _ ?hw ?_); case hw => rfl)
    | ((with_reducible refine ungd_bs 27 1 _ _ ?hw ?_); case hw => rfl)
    | ((with_reducible refine ungd_bs 47 1 _ _ ?hw ?_); case hw => rfl)
    | ((with_reducible refine ungd_bs 41 1 _ _ ?hw ?_); case hw => rfl)
    | ((with_reducible refine at_build 36 ?_); refine wpList_built rfl 36 _ rfl [(0, .int .i64 1), (1, .int .i64 7)] _ rfl bw1 ?_)
    | ((with_reducible refine at_build 36 ?_); refine wpList_built rfl 36 _ rfl [(0, .int .i64 4), (1, .int .i64 7), (2, .int .i64 1), (5, .int .i64 80)] _ rfl bw2 ?_)
    | ((with_reducible refine at_build 36 ?_); refine wpList_built rfl 36 _ rfl [(0, .int .i64 5), (1, .int .i64 7), (3, .string ⟨#[97, 98]⟩)] _ rfl bw3 ?_)
    | ((with_reducible refine at_build 36 ?_); refine wpList_built rfl 36 _ rfl [(0, .int .i64 6), (1, .int .i64 7)] _ rfl bw4 ?_)
    | ((with_reducible refine at_build 36 ?_); refine wpList_built rfl 36 _ rfl [(0, .int .i64 7), (1, .int .i64 7)] _ rfl bw5 ?_)
    | ((with_reducible refine at_bs 22 5 ?_); refine wpList_buildR rtO rfl 5 _ rfl (rO AW) rfl (rO_lens okO_AW) rfl (by omega) ?_)
    | ((with_reducible refine at_bs 27 1 ?_); refine wpList_build1 rtE rfl _ rfl (encE (7, 1)) rfl rfl ?_)
    | ((with_reducible refine at_bs 47 1 ?_); refine wpList_build1 rtT rfl _ rfl (encT ⟨noAd, 80⟩) lenT0 rfl ?_)
    | ((with_reducible refine at_bs 41 1 ?_); refine wpList_build1 rtS rfl _ rfl (encS ⟨0, 0, .slice (some ⟨w.heap.size, 0, none⟩) 5 5, AW⟩) rfl rfl ?_)
    | ((with_reducible refine at_build 46 ?_); refine wpList_built rfl 46 _ rfl [(2, .int .i64 80)] _ rfl bwT ?_)
    | ((with_reducible refine at_build 52 ?_); refine wpList_built rfl 52 _ rfl [(2, _)] _ rfl (bwS _ _ _ AW) ?_))
  have RD2 : Rd w1 23 w.heap.size (.slice (some ⟨w.heap.size, 23, none⟩) 4 4) (rO (AW.drop 1)) := RD.out.drop (P := Try.prog) (T := 0) (e := 0) 1 (by decide)
  have hcon := valid_any _ w.heap.size (AW.drop 1) _ RD2 (fun o ho => okO_AW o (List.mem_of_mem_drop ho)) (by decide)
  rw [aw2] at hcon
  refine hcon.mono ?_
  clear hcon
  rintro e w2 ⟨rfl, t2⟩
  have T2 := Lib.hid (T1.out.trans t2 (by simp))
  have RD := Lib.hid (RD.out.touch t2 (by simp))
  clear t2
  go_wp2_with (first
    | ((with_reducible refine ungd_build 36 _ _ ?hw ?_); case hw => rfl)
    | ((with_reducible refine ungd_build 46 _ _ ?hw ?_); case hw => rfl)
    | ((with_reducible refine ungd_build 52 _ _ ?hw ?_); case hw => rfl)
    | ((with_reducible refine ungd_bs 27 1 _ _ ?hw ?_); case hw => rfl)
    | ((with_reducible refine ungd_bs 47 1 _ _ ?hw ?_); case hw => rfl)
    | ((with_reducible refine ungd_bs 41 1 _ _ ?hw ?_); case hw => rfl)
    | ((with_reducible refine at_build 36 ?_); refine wpList_built rfl 36 _ rfl [(0, .int .i64 1), (1, .int .i64 7)] _ rfl bw1 ?_)
    | ((with_reducible refine at_build 36 ?_); refine wpList_built rfl 36 _ rfl [(0, .int .i64 4), (1, .int .i64 7), (2, .int .i64 1), (5, .int .i64 80)] _ rfl bw2 ?_)
    | ((with_reducible refine at_build 36 ?_); refine wpList_built rfl 36 _ rfl [(0, .int .i64 5), (1, .int .i64 7), (3, .string ⟨#[97, 98]⟩)] _ rfl bw3 ?_)
    | ((with_reducible refine at_build 36 ?_); refine wpList_built rfl 36 _ rfl [(0, .int .i64 6), (1, .int .i64 7)] _ rfl bw4 ?_)
    | ((with_reducible refine at_build 36 ?_); refine wpList_built rfl 36 _ rfl [(0, .int .i64 7), (1, .int .i64 7)] _ rfl bw5 ?_)
    | ((with_reducible refine at_bs 22 5 ?_); refine wpList_buildR rtO rfl 5 _ rfl (rO AW) rfl (rO_lens okO_AW) rfl (by omega) ?_)
    | ((with_reducible refine at_bs 27 1 ?_); refine wpList_build1 rtE rfl _ rfl (encE (7, 1)) rfl rfl ?_)
    | ((with_reducible refine at_bs 47 1 ?_); refine wpList_build1 rtT rfl _ rfl (encT ⟨noAd, 80⟩) lenT0 rfl ?_)
    | ((with_reducible refine at_bs 41 1 ?_); refine wpList_build1 rtS rfl _ rfl (encS ⟨0, 0, .slice (some ⟨w.heap.size, 0, none⟩) 5 5, AW⟩) rfl rfl ?_)
    | ((with_reducible refine at_build 46 ?_); refine wpList_built rfl 46 _ rfl [(2, .int .i64 80)] _ rfl bwT ?_)
    | ((with_reducible refine at_build 52 ?_); refine wpList_built rfl 52 _ rfl [(2, _)] _ rfl (bwS _ _ _ AW) ?_))
  have hcon := live_any _ w.heap.size AW _ RD.out okO_AW (by decide)
  rw [aw3] at hcon
  refine hcon.mono ?_
  clear hcon
  rintro e w3 ⟨v3, rfl, o3, t3⟩
  have T3 := Lib.hid (T2.out.trans t3 (by simp))
  have RD := Lib.hid (RD.out.touch t3 (by simp))
  have R3 := Lib.hid (o3.toR.rd (rE_lens _))
  have T3a := Lib.hid (T3.out.alloc (.cells (encE (7, 1)).toArray 30))
  have R3 := Lib.hid (R3.out.touch ((Touch.refl [] w3).alloc (.cells (encE (7, 1)).toArray 30)) (by simp))
  have RD := Lib.hid (RD.out.touch ((Touch.refl [] w3).alloc (.cells (encE (7, 1)).toArray 30)) (by simp))
  have R3b := Lib.hid (Rd.one (heap_alloc_new w3 (.cells (encE (7, 1)).toArray 30)) (k := 2) rfl)
  clear o3
  clear t3
  go_wp2_with (first
    | ((with_reducible refine ungd_build 36 _ _ ?hw ?_); case hw => rfl)
    | ((with_reducible refine ungd_build 46 _ _ ?hw ?_); case hw => rfl)
    | ((with_reducible refine ungd_build 52 _ _ ?hw ?_); case hw => rfl)
    | ((with_reducible refine ungd_bs 27 1 _ _ ?hw ?_); case hw => rfl)
    | ((with_reducible refine ungd_bs 47 1 _ _ ?hw ?_); case hw => rfl)
    | ((with_reducible refine ungd_bs 41 1 _ _ ?hw ?_); case hw => rfl)
    | ((with_reducible refine at_build 36 ?_); refine wpList_built rfl 36 _ rfl [(0, .int .i64 1), (1, .int .i64 7)] _ rfl bw1 ?_)
    | ((with_reducible refine at_build 36 ?_); refine wpList_built rfl 36 _ rfl [(0, .int .i64 4), (1, .int .i64 7), (2, .int .i64 1), (5, .int .i64 80)] _ rfl bw2 ?_)
    | ((with_reducible refine at_build 36 ?_); refine wpList_built rfl 36 _ rfl [(0, .int .i64 5), (1, .int .i64 7), (3, .string ⟨#[97, 98]⟩)] _ rfl bw3 ?_)
    | ((with_reducible refine at_build 36 ?_); refine wpList_built rfl 36 _ rfl [(0, .int .i64 6), (1, .int .i64 7)] _ rfl bw4 ?_)
    | ((with_reducible refine at_build 36 ?_); refine wpList_built rfl 36 _ rfl [(0, .int .i64 7), (1, .int .i64 7)] _ rfl bw5 ?_)
    | ((with_reducible refine at_bs 22 5 ?_); refine wpList_buildR rtO rfl 5 _ rfl (rO AW) rfl (rO_lens okO_AW) rfl (by omega) ?_)
    | ((with_reducible refine at_bs 27 1 ?_); refine wpList_build1 rtE rfl _ rfl (encE (7, 1)) rfl rfl ?_)
    | ((with_reducible refine at_bs 47 1 ?_); refine wpList_build1 rtT rfl _ rfl (encT ⟨noAd, 80⟩) lenT0 rfl ?_)
    | ((with_reducible refine at_bs 41 1 ?_); refine wpList_build1 rtS rfl _ rfl (encS ⟨0, 0, .slice (some ⟨w.heap.size, 0, none⟩) 5 5, AW⟩) rfl rfl ?_)
    | ((with_reducible refine at_build 46 ?_); refine wpList_built rfl 46 _ rfl [(2, .int .i64 80)] _ rfl bwT ?_)
    | ((with_reducible refine at_build 52 ?_); refine wpList_built rfl 52 _ rfl [(2, _)] _ rfl (bwS _ _ _ AW) ?_))
  have hcon := equalE v3 _ _ _ (rE [(7, 1)]) _ (by decide) R3.out R3b.out (eqsE okK_71)
  refine hcon.mono ?_
  clear hcon
  rintro e w4 ⟨rfl, t4⟩
  have T4 := Lib.hid (T3a.out.trans t4 (by simp))
  have RD := Lib.hid (RD.out.touch t4 (by simp))
  clear t4
  go_wp2_with (first
    | ((with_reducible refine ungd_build 36 _ _ ?hw ?_); case hw => rfl)
    | ((with_reducible refine ungd_build 46 _ _ ?hw ?_); case hw => rfl)
    | ((with_reducible refine ungd_build 52 _ _ ?hw ?_); case hw => rfl)
    | ((with_reducible refine ungd_bs 27 1 _ _ ?hw ?_); case hw => rfl)
    | ((with_reducible refine ungd_bs 47 1 _ _ ?hw ?_); case hw => rfl)
    | ((with_reducible refine ungd_bs 41 1 _ _ ?hw ?_); case hw => rfl)
    | ((with_reducible refine at_build 36 ?_); refine wpList_built rfl 36 _ rfl [(0, .int .i64 1), (1, .int .i64 7)] _ rfl bw1 ?_)
    | ((with_reducible refine at_build 36 ?_); refine wpList_built rfl 36 _ rfl [(0, .int .i64 4), (1, .int .i64 7), (2, .int .i64 1), (5, .int .i64 80)] _ rfl bw2 ?_)
    | ((with_reducible refine at_build 36 ?_); refine wpList_built rfl 36 _ rfl [(0, .int .i64 5), (1, .int .i64 7), (3, .string ⟨#[97, 98]⟩)] _ rfl bw3 ?_)
    | ((with_reducible refine at_build 36 ?_); refine wpList_built rfl 36 _ rfl [(0, .int .i64 6), (1, .int .i64 7)] _ rfl bw4 ?_)
    | ((with_reducible refine at_build 36 ?_); refine wpList_built rfl 36 _ rfl [(0, .int .i64 7), (1, .int .i64 7)] _ rfl bw5 ?_)
    | ((with_reducible refine at_bs 22 5 ?_); refine wpList_buildR rtO rfl 5 _ rfl (rO AW) rfl (rO_lens okO_AW) rfl (by omega) ?_)
    | ((with_reducible refine at_bs 27 1 ?_); refine wpList_build1 rtE rfl _ rfl (encE (7, 1)) rfl rfl ?_)
    | ((with_reducible refine at_bs 47 1 ?_); refine wpList_build1 rtT rfl _ rfl (encT ⟨noAd, 80⟩) lenT0 rfl ?_)
    | ((with_reducible refine at_bs 41 1 ?_); refine wpList_build1 rtS rfl _ rfl (encS ⟨0, 0, .slice (some ⟨w.heap.size, 0, none⟩) 5 5, AW⟩) rfl rfl ?_)
    | ((with_reducible refine at_build 46 ?_); refine wpList_built rfl 46 _ rfl [(2, .int .i64 80)] _ rfl bwT ?_)
    | ((with_reducible refine at_build 52 ?_); refine wpList_built rfl 52 _ rfl [(2, _)] _ rfl (bwS _ _ _ AW) ?_))
  have hcon := wr_any _ w.heap.size AW (7, 0) okK_70 _ RD.out okO_AW (by decide)
  rw [aw4] at hcon
  refine hcon.mono ?_
  clear hcon
  rintro e w5 ⟨rfl, t5⟩
  have T5 := Lib.hid (T4.out.trans t5 (by simp))
  have RD := Lib.hid (RD.out.touch t5 (by simp))
  clear t5
  go_wp2_with (first
    | ((with_reducible refine ungd_build 36 _ _ ?hw ?_); case hw => rfl)
    | ((with_reducible refine ungd_build 46 _ _ ?hw ?_); case hw => rfl)
    | ((with_reducible refine ungd_build 52 _ _ ?hw ?_); case hw => rfl)
    | ((with_reducible refine ungd_bs 27 1 _ _ ?hw ?_); case hw => rfl)
    | ((with_reducible refine ungd_bs 47 1 _ _ ?hw ?_); case hw => rfl)
    | ((with_reducible refine ungd_bs 41 1 _ _ ?hw ?_); case hw => rfl)
    | ((with_reducible refine at_build 36 ?_); refine wpList_built rfl 36 _ rfl [(0, .int .i64 1), (1, .int .i64 7)] _ rfl bw1 ?_)
    | ((with_reducible refine at_build 36 ?_); refine wpList_built rfl 36 _ rfl [(0, .int .i64 4), (1, .int .i64 7), (2, .int .i64 1), (5, .int .i64 80)] _ rfl bw2 ?_)
    | ((with_reducible refine at_build 36 ?_); refine wpList_built rfl 36 _ rfl [(0, .int .i64 5), (1, .int .i64 7), (3, .string ⟨#[97, 98]⟩)] _ rfl bw3 ?_)
    | ((with_reducible refine at_build 36 ?_); refine wpList_built rfl 36 _ rfl [(0, .int .i64 6), (1, .int .i64 7)] _ rfl bw4 ?_)
    | ((with_reducible refine at_build 36 ?_); refine wpList_built rfl 36 _ rfl [(0, .int .i64 7), (1, .int .i64 7)] _ rfl bw5 ?_)
    | ((with_reducible refine at_bs 22 5 ?_); refine wpList_buildR rtO rfl 5 _ rfl (rO AW) rfl (rO_lens okO_AW) rfl (by omega) ?_)
    | ((with_reducible refine at_bs 27 1 ?_); refine wpList_build1 rtE rfl _ rfl (encE (7, 1)) rfl rfl ?_)
    | ((with_reducible refine at_bs 47 1 ?_); refine wpList_build1 rtT rfl _ rfl (encT ⟨noAd, 80⟩) lenT0 rfl ?_)
    | ((with_reducible refine at_bs 41 1 ?_); refine wpList_build1 rtS rfl _ rfl (encS ⟨0, 0, .slice (some ⟨w.heap.size, 0, none⟩) 5 5, AW⟩) rfl rfl ?_)
    | ((with_reducible refine at_build 46 ?_); refine wpList_built rfl 46 _ rfl [(2, .int .i64 80)] _ rfl bwT ?_)
    | ((with_reducible refine at_build 52 ?_); refine wpList_built rfl 52 _ rfl [(2, _)] _ rfl (bwS _ _ _ AW) ?_))
  have hcon := hs_any _ w.heap.size AW (7, 0) okK_70 _ RD.out okO_AW (by decide)
  rw [aw5] at hcon
  refine hcon.mono ?_
  clear hcon
  rintro e w6 ⟨rfl, t6⟩
  have T6 := Lib.hid (T5.out.trans t6 (by simp))
  have RD := Lib.hid (RD.out.touch t6 (by simp))
  clear t6
  go_wp2_with (first
    | ((with_reducible refine ungd_build 36 _ _ ?hw ?_); case hw => rfl)
    | ((with_reducible refine ungd_build 46 _ _ ?hw ?_); case hw => rfl)
    | ((with_reducible refine ungd_build 52 _ _ ?hw ?_); case hw => rfl)
    | ((with_reducible refine ungd_bs 27 1 _ _ ?hw ?_); case hw => rfl)
    | ((with_reducible refine ungd_bs 47 1 _ _ ?hw ?_); case hw => rfl)
    | ((with_reducible refine ungd_bs 41 1 _ _ ?hw ?_); case hw => rfl)
    | ((with_reducible refine at_build 36 ?_); refine wpList_built rfl 36 _ rfl [(0, .int .i64 1), (1, .int .i64 7)] _ rfl bw1 ?_)
    | ((with_reducible refine at_build 36 ?_); refine wpList_built rfl 36 _ rfl [(0, .int .i64 4), (1, .int .i64 7), (2, .int .i64 1), (5, .int .i64 80)] _ rfl bw2 ?_)
    | ((with_reducible refine at_build 36 ?_); refine wpList_built rfl 36 _ rfl [(0, .int .i64 5), (1, .int .i64 7), (3, .string ⟨#[97, 98]⟩)] _ rfl bw3 ?_)
    | ((with_reducible refine at_build 36 ?_); refine wpList_built rfl 36 _ rfl [(0, .int .i64 6), (1, .int .i64 7)] _ rfl bw4 ?_)
    | ((with_reducible refine at_build 36 ?_); refine wpList_built rfl 36 _ rfl [(0, .int .i64 7), (1, .int .i64 7)] _ rfl bw5 ?_)
    | ((with_reducible refine at_bs 22 5 ?_); refine wpList_buildR rtO rfl 5 _ rfl (rO AW) rfl (rO_lens okO_AW) rfl (by omega) ?_)
    | ((with_reducible refine at_bs 27 1 ?_); refine wpList_build1 rtE rfl _ rfl (encE (7, 1)) rfl rfl ?_)
    | ((with_reducible refine at_bs 47 1 ?_); refine wpList_build1 rtT rfl _ rfl (encT ⟨noAd, 80⟩) lenT0 rfl ?_)
    | ((with_reducible refine at_bs 41 1 ?_); refine wpList_build1 rtS rfl _ rfl (encS ⟨0, 0, .slice (some ⟨w.heap.size, 0, none⟩) 5 5, AW⟩) rfl rfl ?_)
    | ((with_reducible refine at_build 46 ?_); refine wpList_built rfl 46 _ rfl [(2, .int .i64 80)] _ rfl bwT ?_)
    | ((with_reducible refine at_build 52 ?_); refine wpList_built rfl 52 _ rfl [(2, _)] _ rfl (bwS _ _ _ AW) ?_))
  have hcon := ct_any _ w.heap.size AW 7 _ RD.out okO_AW (by decide)
  rw [aw6] at hcon
  refine hcon.mono ?_
  clear hcon
  rintro e w7 ⟨v7, rfl, o7, t7⟩
  have T7 := Lib.hid (T6.out.trans t7 (by simp))
  have RD := Lib.hid (RD.out.touch t7 (by simp))
  have R7 := Lib.hid (o7.rd (rT_lens okT_TW))
  have T7a := Lib.hid (T7.out.alloc (.cells (encT ⟨noAd, 80⟩).toArray 46))
  have R7 := Lib.hid (R7.out.touch ((Touch.refl [] w7).alloc (.cells (encT ⟨noAd, 80⟩).toArray 46)) (by simp))
  have RD := Lib.hid (RD.out.touch ((Touch.refl [] w7).alloc (.cells (encT ⟨noAd, 80⟩).toArray 46)) (by simp))
  have R7b := Lib.hid (Rd.one (heap_alloc_new w7 (.cells (encT ⟨noAd, 80⟩).toArray 46)) (k := 19) lenT0)
  clear o7
  clear t7
  go_wp2_with (first
    | ((with_reducible refine ungd_build 36 _ _ ?hw ?_); case hw => rfl)
    | ((with_reducible refine ungd_build 46 _ _ ?hw ?_); case hw => rfl)
    | ((with_reducible refine ungd_build 52 _ _ ?hw ?_); case hw => rfl)
    | ((with_reducible refine ungd_bs 27 1 _ _ ?hw ?_); case hw => rfl)
    | ((with_reducible refine ungd_bs 47 1 _ _ ?hw ?_); case hw => rfl)
    | ((with_reducible refine ungd_bs 41 1 _ _ ?hw ?_); case hw => rfl)
    | ((with_reducible refine at_build 36 ?_); refine wpList_built rfl 36 _ rfl [(0, .int .i64 1), (1, .int .i64 7)] _ rfl bw1 ?_)
    | ((with_reducible refine at_build 36 ?_); refine wpList_built rfl 36 _ rfl [(0, .int .i64 4), (1, .int .i64 7), (2, .int .i64 1), (5, .int .i64 80)] _ rfl bw2 ?_)
    | ((with_reducible refine at_build 36 ?_); refine wpList_built rfl 36 _ rfl [(0, .int .i64 5), (1, .int .i64 7), (3, .string ⟨#[97, 98]⟩)] _ rfl bw3 ?_)
    | ((with_reducible refine at_build 36 ?_); refine wpList_built rfl 36 _ rfl [(0, .int .i64 6), (1, .int .i64 7)] _ rfl bw4 ?_)
    | ((with_reducible refine at_build 36 ?_); refine wpList_built rfl 36 _ rfl [(0, .int .i64 7), (1, .int .i64 7)] _ rfl bw5 ?_)
    | ((with_reducible refine at_bs 22 5 ?_); refine wpList_buildR rtO rfl 5 _ rfl (rO AW) rfl (rO_lens okO_AW) rfl (by omega) ?_)
    | ((with_reducible refine at_bs 27 1 ?_); refine wpList_build1 rtE rfl _ rfl (encE (7, 1)) rfl rfl ?_)
    | ((with_reducible refine at_bs 47 1 ?_); refine wpList_build1 rtT rfl _ rfl (encT ⟨noAd, 80⟩) lenT0 rfl ?_)
    | ((with_reducible refine at_bs 41 1 ?_); refine wpList_build1 rtS rfl _ rfl (encS ⟨0, 0, .slice (some ⟨w.heap.size, 0, none⟩) 5 5, AW⟩) rfl rfl ?_)
    | ((with_reducible refine at_build 46 ?_); refine wpList_built rfl 46 _ rfl [(2, .int .i64 80)] _ rfl bwT ?_)
    | ((with_reducible refine at_build 52 ?_); refine wpList_built rfl 52 _ rfl [(2, _)] _ rfl (bwS _ _ _ AW) ?_))
  have hcon := equalT v7 _ _ _ (rT TW) _ (by decide) R7.out R7b.out (eqsT okT_TW)
  refine hcon.mono ?_
  clear hcon
  rintro e w8 ⟨rfl, t8⟩
  have T8 := Lib.hid (T7a.out.trans t8 (by simp))
  have RD := Lib.hid (RD.out.touch t8 (by simp))
  clear t8
  go_wp2_with (first
    | ((with_reducible refine ungd_build 36 _ _ ?hw ?_); case hw => rfl)
    | ((with_reducible refine ungd_build 46 _ _ ?hw ?_); case hw => rfl)
    | ((with_reducible refine ungd_build 52 _ _ ?hw ?_); case hw => rfl)
    | ((with_reducible refine ungd_bs 27 1 _ _ ?hw ?_); case hw => rfl)
    | ((with_reducible refine ungd_bs 47 1 _ _ ?hw ?_); case hw => rfl)
    | ((with_reducible refine ungd_bs 41 1 _ _ ?hw ?_); case hw => rfl)
    | ((with_reducible refine at_build 36 ?_); refine wpList_built rfl 36 _ rfl [(0, .int .i64 1), (1, .int .i64 7)] _ rfl bw1 ?_)
    | ((with_reducible refine at_build 36 ?_); refine wpList_built rfl 36 _ rfl [(0, .int .i64 4), (1, .int .i64 7), (2, .int .i64 1), (5, .int .i64 80)] _ rfl bw2 ?_)
    | ((with_reducible refine at_build 36 ?_); refine wpList_built rfl 36 _ rfl [(0, .int .i64 5), (1, .int .i64 7), (3, .string ⟨#[97, 98]⟩)] _ rfl bw3 ?_)
    | ((with_reducible refine at_build 36 ?_); refine wpList_built rfl 36 _ rfl [(0, .int .i64 6), (1, .int .i64 7)] _ rfl bw4 ?_)
    | ((with_reducible refine at_build 36 ?_); refine wpList_built rfl 36 _ rfl [(0, .int .i64 7), (1, .int .i64 7)] _ rfl bw5 ?_)
    | ((with_reducible refine at_bs 22 5 ?_); refine wpList_buildR rtO rfl 5 _ rfl (rO AW) rfl (rO_lens okO_AW) rfl (by omega) ?_)
    | ((with_reducible refine at_bs 27 1 ?_); refine wpList_build1 rtE rfl _ rfl (encE (7, 1)) rfl rfl ?_)
    | ((with_reducible refine at_bs 47 1 ?_); refine wpList_build1 rtT rfl _ rfl (encT ⟨noAd, 80⟩) lenT0 rfl ?_)
    | ((with_reducible refine at_bs 41 1 ?_); refine wpList_build1 rtS rfl _ rfl (encS ⟨0, 0, .slice (some ⟨w.heap.size, 0, none⟩) 5 5, AW⟩) rfl rfl ?_)
    | ((with_reducible refine at_build 46 ?_); refine wpList_built rfl 46 _ rfl [(2, .int .i64 80)] _ rfl bwT ?_)
    | ((with_reducible refine at_build 52 ?_); refine wpList_built rfl 52 _ rfl [(2, _)] _ rfl (bwS _ _ _ AW) ?_))
  have hcon := ofc_any _ w.heap.size AW 7 _ RD.out okO_AW (by decide)
  rw [aw7] at hcon
  refine hcon.mono ?_
  clear hcon
  rintro e w9 ⟨v9, rfl, o9, t9⟩
  have T9 := Lib.hid (T8.out.trans t9 (by simp))
  have RD := Lib.hid (RD.out.touch t9 (by simp))
  obtain ⟨a9, c9, rfl, _, _, _⟩ := owns_form o9.row
  rw [aw8]
  clear o9
  have RSV := Lib.hid (Rd.one (heap_alloc_new w9 (.cells (encS ⟨0, 0, .slice (some ⟨w.heap.size, 0, none⟩) 5 5, AW⟩).toArray 52)) (k := 3) rfl)
  have T9a := Lib.hid (T9.out.alloc (.cells (encS ⟨0, 0, .slice (some ⟨w.heap.size, 0, none⟩) 5 5, AW⟩).toArray 52))
  have RD := Lib.hid (RD.out.touch ((Touch.refl [] w9).alloc (.cells (encS ⟨0, 0, .slice (some ⟨w.heap.size, 0, none⟩) 5 5, AW⟩).toArray 52)) (by simp))
  clear t9
  go_wp2_with (first
    | ((with_reducible refine ungd_build 36 _ _ ?hw ?_); case hw => rfl)
    | ((with_reducible refine ungd_build 46 _ _ ?hw ?_); case hw => rfl)
    | ((with_reducible refine ungd_build 52 _ _ ?hw ?_); case hw => rfl)
    | ((with_reducible refine ungd_bs 27 1 _ _ ?hw ?_); case hw => rfl)
    | ((with_reducible refine ungd_bs 47 1 _ _ ?hw ?_); case hw => rfl)
    | ((with_reducible refine ungd_bs 41 1 _ _ ?hw ?_); case hw => rfl)
    | ((with_reducible refine at_build 36 ?_); refine wpList_built rfl 36 _ rfl [(0, .int .i64 1), (1, .int .i64 7)] _ rfl bw1 ?_)
    | ((with_reducible refine at_build 36 ?_); refine wpList_built rfl 36 _ rfl [(0, .int .i64 4), (1, .int .i64 7), (2, .int .i64 1), (5, .int .i64 80)] _ rfl bw2 ?_)
    | ((with_reducible refine at_build 36 ?_); refine wpList_built rfl 36 _ rfl [(0, .int .i64 5), (1, .int .i64 7), (3, .string ⟨#[97, 98]⟩)] _ rfl bw3 ?_)
    | ((with_reducible refine at_build 36 ?_); refine wpList_built rfl 36 _ rfl [(0, .int .i64 6), (1, .int .i64 7)] _ rfl bw4 ?_)
    | ((with_reducible refine at_build 36 ?_); refine wpList_built rfl 36 _ rfl [(0, .int .i64 7), (1, .int .i64 7)] _ rfl bw5 ?_)
    | ((with_reducible refine at_bs 22 5 ?_); refine wpList_buildR rtO rfl 5 _ rfl (rO AW) rfl (rO_lens okO_AW) rfl (by omega) ?_)
    | ((with_reducible refine at_bs 27 1 ?_); refine wpList_build1 rtE rfl _ rfl (encE (7, 1)) rfl rfl ?_)
    | ((with_reducible refine at_bs 47 1 ?_); refine wpList_build1 rtT rfl _ rfl (encT ⟨noAd, 80⟩) lenT0 rfl ?_)
    | ((with_reducible refine at_bs 41 1 ?_); refine wpList_build1 rtS rfl _ rfl (encS ⟨0, 0, .slice (some ⟨w.heap.size, 0, none⟩) 5 5, AW⟩) rfl rfl ?_)
    | ((with_reducible refine at_build 46 ?_); refine wpList_built rfl 46 _ rfl [(2, .int .i64 80)] _ rfl bwT ?_)
    | ((with_reducible refine at_build 52 ?_); refine wpList_built rfl 52 _ rfl [(2, _)] _ rfl (bwS _ _ _ AW) ?_))
  have hcon := cat_any _ _ [⟨0, 0, .slice (some ⟨w.heap.size, 0, none⟩) 5 5, AW⟩] _ RSV.out (by intro r hr; simp only [List.mem_singleton] at hr; subst hr; exact ⟨⟨_, RD.out⟩, okO_AW, rfl⟩) (by simp) (by simp [catS, AW])
  refine hcon.mono ?_
  clear hcon
  rintro e wa ⟨va, rfl, oa, ta⟩
  have Ta := Lib.hid (T9a.out.trans ta (by simp))
  obtain ⟨aa, ca, rfl, _, _, _⟩ := owns_form oa.row
  rw [show (rO (catS [⟨0, 0, .slice (some ⟨w.heap.size, 0, none⟩) 5 5, AW⟩])).length = 5 by simp [rO, catS, AW]]
  clear oa
  clear ta
  go_wp2_with (first
    | ((with_reducible refine ungd_build 36 _ _ ?hw ?_); case hw => rfl)
    | ((with_reducible refine ungd_build 46 _ _ ?hw ?_); case hw => rfl)
    | ((with_reducible refine ungd_build 52 _ _ ?hw ?_); case hw => rfl)
    | ((with_reducible refine ungd_bs 27 1 _ _ ?hw ?_); case hw => rfl)
    | ((with_reducible refine ungd_bs 47 1 _ _ ?hw ?_); case hw => rfl)
    | ((with_reducible refine ungd_bs 41 1 _ _ ?hw ?_); case hw => rfl)
    | ((with_reducible refine at_build 36 ?_); refine wpList_built rfl 36 _ rfl [(0, .int .i64 1), (1, .int .i64 7)] _ rfl bw1 ?_)
    | ((with_reducible refine at_build 36 ?_); refine wpList_built rfl 36 _ rfl [(0, .int .i64 4), (1, .int .i64 7), (2, .int .i64 1), (5, .int .i64 80)] _ rfl bw2 ?_)
    | ((with_reducible refine at_build 36 ?_); refine wpList_built rfl 36 _ rfl [(0, .int .i64 5), (1, .int .i64 7), (3, .string ⟨#[97, 98]⟩)] _ rfl bw3 ?_)
    | ((with_reducible refine at_build 36 ?_); refine wpList_built rfl 36 _ rfl [(0, .int .i64 6), (1, .int .i64 7)] _ rfl bw4 ?_)
    | ((with_reducible refine at_build 36 ?_); refine wpList_built rfl 36 _ rfl [(0, .int .i64 7), (1, .int .i64 7)] _ rfl bw5 ?_)
    | ((with_reducible refine at_bs 22 5 ?_); refine wpList_buildR rtO rfl 5 _ rfl (rO AW) rfl (rO_lens okO_AW) rfl (by omega) ?_)
    | ((with_reducible refine at_bs 27 1 ?_); refine wpList_build1 rtE rfl _ rfl (encE (7, 1)) rfl rfl ?_)
    | ((with_reducible refine at_bs 47 1 ?_); refine wpList_build1 rtT rfl _ rfl (encT ⟨noAd, 80⟩) lenT0 rfl ?_)
    | ((with_reducible refine at_bs 41 1 ?_); refine wpList_build1 rtS rfl _ rfl (encS ⟨0, 0, .slice (some ⟨w.heap.size, 0, none⟩) 5 5, AW⟩) rfl rfl ?_)
    | ((with_reducible refine at_build 46 ?_); refine wpList_built rfl 46 _ rfl [(2, .int .i64 80)] _ rfl bwT ?_)
    | ((with_reducible refine at_build 52 ?_); refine wpList_built rfl 52 _ rfl [(2, _)] _ rfl (bwS _ _ _ AW) ?_))
  go_ret
  exact ⟨rfl, Ta.out⟩
end Go.Proofs.Ytmdnkhpkpmbeoaa

/-
  The walk of TraceMatchesModel: true at every trace and connection.
-/
namespace Go.Proofs.Ytmdnkhpkpmbeoaa
open Go.RowKit Go.Sort Go.Shelf
set_option linter.unusedVariables false
set_option linter.unusedSimpArgs false

theorem someT_few (l : List O) (m : Nat) : (someT l m).length ≤ m := by simp [someT]; omega
theorem rO_take (l : List O) (n : Nat) : rO (l.take n) = (rO l).take n := by simp [rO]
theorem gmod2_ok (c : Int) : wf (gmod c 2) := wf_small (by have := gmod_lo c 2 (by omega); omega) (by have := gmod_hi c 2 (by omega); omega)
set_option maxRecDepth 100000 in
set_option maxHeartbeats 4000000 in
theorem walk3 (v : Value) (b : Nat) (l : List O) (c : Int) (hc : wf c) (w : World) (hr : Rd w 23 b v (rO l)) (hok : ∀ o ∈ l, OkO o) :
    Calls Try.prog 3 #[v, .int .i64 c] w fun e w' => e = .returned (.bool true) ∧ Touch [] w w' := by
  obtain ⟨a, cap, rfl, hcp, hcm⟩ := hr.form
  have H0 := Lib.hid hr
  have OK := Lib.hid hok
  have HC := Lib.hid hc
  rw [rO_len] at hcp H0 ⊢
  clear hr hok hc
  obtain ⟨n, hn⟩ : ∃ n, n = min l.length 40 := ⟨_, rfl⟩
  have hnI : min (l.length : Int) 40 = (n : Int) := by omega
  have hn1 : n ≤ l.length := by omega
  have hn2 : n ≤ 40 := by omega
  have hcap2 : cap ≤ 9223372036854775807 := by unfold maxLen at hcm; omega
  have hncap : n ≤ cap := by omega
  have HTK : Hid (Rd w 23 b (.slice a n cap) (rO (l.take n))) := Lib.hid (by rw [rO_take]; exact H0.out.take n (by rw [rO_len]; exact hn1))
  clear hn hcm
  go_enter Try.func3, Try.ntmps3
  go_wp2_with fail
  go_loopw [6] (fun vi wr => ∃ (i : Nat), vi = .int .i64 i ∧ i ≤ 12 ∧ i ≤ n + 1 ∧ Touch [] w wr) (fun vi _ => 12 - (intOf vi).toNat)
  case atStart => exact ⟨0, rfl, by omega, by omega, Touch.refl _ _⟩
  case round =>
    obtain ⟨i, rfl, hi12, hin, ht⟩ := hrel
    have HT := Lib.hid ht
    clear ht
    have fin : ∀ (K : Prop), K → K := fun _ h => h
    by_cases h1 : i ≤ n ∧ i < 12
    · have hb1 : (i : Int) ≤ (n : Int) := by omega
      have hb2 : (i : Int) < 12 := by omega
      have hwi : IntKind.i64.wrap ((i : Int) + 1) = (i : Int) + 1 := by rw [IntKind.wrap_i64] <;> omega
      go_wp2_with fail
      refine (trace_any _ b l i _ (H0.out.touch HT.out (by simp)) OK.out (by omega)).mono ?_
      rintro e w1 ⟨v1, rfl, o1, t1⟩
      have T1 := Lib.hid (HT.out.trans t1 (by simp))
      have R1 := Lib.hid (o1.rd (rO_lens (someT_ok OK.out i)))
      clear o1 t1
      go_wp2_with fail
      refine (mod_any _ _ _ (by omega) (by omega)).mono ?_
      rintro e w2 ⟨rfl, rfl⟩
      go_wp2_with fail
      refine (agrees_any v1 _ (someT l i) (gmod c 2) (gmod2_ok c) _ R1.out (someT_ok OK.out i) (by have := someT_few l i; omega)).mono ?_
      rintro e w3 ⟨rfl, t3⟩
      have T3 := Lib.hid (T1.out.trans t3 (by simp))
      clear t3
      go_wp2_with fail
      go_roundw
      case rel => exact ⟨i + 1, by simp, by omega, by omega, T3.out⟩
      case measure => simp [intOf]; omega
    · have TL : ∀ (Q : Prop), (∀ (w9 : World), Touch [] w w9 → Q) → Q := fun _ h => h wr HT.out
      clear TL fin
      have hcond : (decide ((i : Int) ≤ (n : Int)) && decide ((i : Int) < 12)) = false := by
        by_cases hA : (i : Int) ≤ (n : Int)
        · have hB : ¬ (i : Int) < 12 := by omega
          simp [hA, hB]
        · simp [hA]
      by_cases hA : (i : Int) ≤ (n : Int)
      · have hB : ¬ (i : Int) < 12 := by omega
        clear hcond h1
        go_wp2_with fail
        refine (awake_any _).mono ?_
        rintro e w1 ⟨rfl, t1⟩
        have T1 := Lib.hid (HT.out.trans t1 (by simp))
        clear t1
        go_wp2_with fail
        refine (agrees_any _ b (l.take n) c HC.out _ (HTK.out.touch T1.out (by simp)) (fun o ho => OK.out o (List.mem_of_mem_take ho)) (by simp; omega)).mono ?_
        rintro e w2 ⟨rfl, t2⟩
        have T2 := Lib.hid (T1.out.trans t2 (by simp))
        clear t2
        go_wp2_with fail
        refine (trace_any _ b l n _ (H0.out.touch T2.out (by simp)) OK.out (by omega)).mono ?_
        rintro e w3 ⟨v3, rfl, o3, t3⟩
        have T3 := Lib.hid (T2.out.trans t3 (by simp))
        have R3 := Lib.hid (o3.rd (rO_lens (someT_ok OK.out n)))
        clear o3 t3
        go_wp2_with fail
        refine (mod_any _ _ _ (by omega) (by omega)).mono ?_
        rintro e w4 ⟨rfl, rfl⟩
        go_wp2_with fail
        refine (agrees_any v3 _ (someT l n) (gmod c 2) (gmod2_ok c) _ R3.out (someT_ok OK.out n) (by have := someT_few l n; omega)).mono ?_
        rintro e w5 ⟨rfl, t5⟩
        have T5 := Lib.hid (T3.out.trans t5 (by simp))
        clear t5
        go_wp2_with fail
        go_ret
        exact ⟨rfl, T5.out⟩
      · clear hcond h1
        go_wp2_with fail
        refine (awake_any _).mono ?_
        rintro e w1 ⟨rfl, t1⟩
        have T1 := Lib.hid (HT.out.trans t1 (by simp))
        clear t1
        go_wp2_with fail
        refine (agrees_any _ b (l.take n) c HC.out _ (HTK.out.touch T1.out (by simp)) (fun o ho => OK.out o (List.mem_of_mem_take ho)) (by simp; omega)).mono ?_
        rintro e w2 ⟨rfl, t2⟩
        have T2 := Lib.hid (T1.out.trans t2 (by simp))
        clear t2
        go_wp2_with fail
        refine (trace_any _ b l n _ (H0.out.touch T2.out (by simp)) OK.out (by omega)).mono ?_
        rintro e w3 ⟨v3, rfl, o3, t3⟩
        have T3 := Lib.hid (T2.out.trans t3 (by simp))
        have R3 := Lib.hid (o3.rd (rO_lens (someT_ok OK.out n)))
        clear o3 t3
        go_wp2_with fail
        refine (mod_any _ _ _ (by omega) (by omega)).mono ?_
        rintro e w4 ⟨rfl, rfl⟩
        go_wp2_with fail
        refine (agrees_any v3 _ (someT l n) (gmod c 2) (gmod2_ok c) _ R3.out (someT_ok OK.out n) (by have := someT_few l n; omega)).mono ?_
        rintro e w5 ⟨rfl, t5⟩
        have T5 := Lib.hid (T3.out.trans t5 (by simp))
        clear t5
        go_wp2_with fail
        go_ret
        exact ⟨rfl, T5.out⟩
end Go.Proofs.Ytmdnkhpkpmbeoaa

/-
  What one connection's outputs tell: plain lists, no program in sight.
-/
namespace Go.Proofs.Ytmdnkhpkpmbeoaa
open Go.RowKit
set_option linter.unusedVariables false
set_option linter.unusedSimpArgs false

def fK (c : Int) (ks : List Key) : List Key := ks.filter fun k => decide (k.1 = c)
theorem mem_fK {c : Int} {ks : List Key} {x : Key} : x ∈ fK c ks ↔ x ∈ ks ∧ x.1 = c := by simp [fK]
theorem fK_next {l : List Key} {i : Nat} {k : Key} (c : Int) (h : l[i]? = some k) : fK c (l.take (i + 1)) = if k.1 = c then fK c (l.take i) ++ [k] else fK c (l.take i) := by
  rw [take_next h]
  unfold fK
  rw [List.filter_append]
  split <;> simp_all
theorem fK_len (c : Int) (ks : List Key) : (fK c ks).length ≤ ks.length := List.length_filter_le _ _
theorem fK_app {c : Int} {ks : List Key} {x : Key} (hx : x.1 = c) : fK c (ks ++ [x]) = fK c ks ++ [x] := by simp [fK, hx]
theorem fK_app0 {c : Int} {ks : List Key} {x : Key} (hx : ¬ x.1 = c) : fK c (ks ++ [x]) = fK c ks := by simp [fK, hx]
theorem fK_rem {c : Int} {ks : List Key} {x : Key} {all : Bool} : fK c (remK ks x all) = remK (fK c ks) x all := by
  unfold fK remK
  rw [List.filter_filter, List.filter_filter]
  exact List.filter_congr fun y _ => Bool.and_comm _ _
theorem fK_rem0 {c : Int} {ks : List Key} {x : Key} {all : Bool} (hx : ¬ x.1 = c) : fK c (remK ks x all) = fK c ks := by
  unfold fK remK
  rw [List.filter_filter]
  refine List.filter_congr fun y _ => ?_
  by_cases hy : y.1 = c
  · have h1 : ¬ y.1 = x.1 := fun e => hx (e ▸ hy)
    have h2 : y ≠ x := fun e => h1 (by rw [e])
    simp [hy, h2, h1]
    exact .inr fun h3 => hx h3.symm
  · simp [hy]
theorem pair_uniq : ∀ {a b : List Key}, a.Pairwise ltK → b.Pairwise ltK → (∀ x, x ∈ a ↔ x ∈ b) → a = b
  | [], [], _, _, _ => rfl
  | [], y :: b, _, _, h => absurd ((h y).2 (by simp)) (by simp)
  | x :: a, [], _, _, h => absurd ((h x).1 (by simp)) (by simp)
  | x :: a, y :: b, h1, h2, h => by
    rw [List.pairwise_cons] at h1 h2
    have hxy : x = y := by
      rcases List.mem_cons.1 ((h x).1 (by simp)) with e | e
      · exact e
      · rcases List.mem_cons.1 ((h y).2 (by simp)) with e' | e'
        · exact e'.symm
        · exact (ltK_irr (h1.1 y e') (h2.1 x e)).elim
    subst hxy
    rw [pair_uniq h1.2 h2.2]
    intro z
    constructor
    · intro hz
      rcases List.mem_cons.1 ((h z).1 (List.mem_cons_of_mem _ hz)) with e | e
      · subst e; exact (ltK_irr (h1.1 z hz) (h1.1 z hz)).elim
      · exact e
    · intro hz
      rcases List.mem_cons.1 ((h z).2 (List.mem_cons_of_mem _ hz)) with e | e
      · subst e; exact (ltK_irr (h2.1 z hz) (h2.1 z hz)).elim
      · exact e
theorem mem_lstep {ks : List Key} {o : O} {x : Key} : x ∈ lstep ks o ↔ if o.k = 7 then x ∈ ks ∧ x ≠ xL o else if o.k = 1 ∨ o.k = 4 then x ∈ ks ∨ x = xL o else x ∈ ks := by
  unfold lstep
  split
  · rw [mem_remK]
    simp
  · split
    · split
      · rename_i h
        constructor
        · exact .inl
        · rintro (h1 | rfl)
          · exact h1
          · exact h
      · exact mem_insK
    · rfl
theorem liveR_len (l : List O) : (liveR l).length ≤ l.length := by
  have key : ∀ (l : List O) (r : List Key), (l.foldl lstep r).length ≤ r.length + l.length := by
    intro l
    induction l with
    | nil => intro r; simp
    | cons o l ih =>
      intro r
      simp only [List.foldl_cons, List.length_cons]
      have h1 := ih (lstep r o)
      have h2 : (lstep r o).length ≤ r.length + 1 := by
        unfold lstep
        split
        · have := remK_len r (xL o) false
          omega
        · split
          · split
            · omega
            · rw [insK_len]; exact Nat.le_refl _
          · omega
      omega
  simpa [liveR] using key l []
theorem liveR_ok {l : List O} (h : ∀ o ∈ l, OkO o) : ∀ k ∈ liveR l, okK k := by
  have key : ∀ (l : List O) (r : List Key), (∀ o ∈ l, OkO o) → (∀ k ∈ r, okK k) → ∀ k ∈ l.foldl lstep r, okK k := by
    intro l
    induction l with
    | nil => intro r _ h2; exact h2
    | cons o l ih =>
      intro r h1 h2
      refine ih _ (fun o' ho => h1 o' (List.mem_cons_of_mem _ ho)) fun k hk => ?_
      have ho := h1 o (by simp)
      have hx : okK (xL o) := by
        refine ⟨ho.c, ?_⟩
        unfold xL
        split
        · exact wf_small (by omega) (by omega)
        · exact ho.a
      rw [mem_lstep] at hk
      split at hk
      · exact h2 k hk.1
      · split at hk
        · rcases hk with hk | rfl
          · exact h2 k hk
          · exact hx
        · exact h2 k hk
  exact key l [] h (by simp)
theorem live_conn (l : List O) (c : Int) : liveR (ofC l c) = fK c (liveR l) := by
  refine pair_uniq (live_same _).2.2 ((live_same l).2.2.sublist List.filter_sublist) ?_
  have key : ∀ (l : List O) (p r : List Key), (∀ x, x ∈ p ↔ x ∈ r ∧ x.1 = c) → ∀ x, x ∈ (ofC l c).foldl lstep p ↔ x ∈ l.foldl lstep r ∧ x.1 = c := by
    intro l
    induction l with
    | nil => intro p r h; exact h
    | cons o l ih =>
      intro p r h
      by_cases ho : o.c = c
      · have : ofC (o :: l) c = o :: ofC l c := by simp [ofC, ho]
        rw [this]
        simp only [List.foldl_cons]
        refine ih _ _ fun x => ?_
        have hx : (xL o).1 = c := ho
        rw [mem_lstep, mem_lstep]
        split
        · rw [h]
          constructor
          · rintro ⟨⟨h1, h2⟩, h3⟩; exact ⟨⟨h1, h3⟩, h2⟩
          · rintro ⟨⟨h1, h2⟩, h3⟩; exact ⟨⟨h1, h3⟩, h2⟩
        · split
          · rw [h]
            constructor
            · rintro (⟨h1, h2⟩ | rfl)
              · exact ⟨.inl h1, h2⟩
              · exact ⟨.inr rfl, hx⟩
            · rintro ⟨h1 | h1, h2⟩
              · exact .inl ⟨h1, h2⟩
              · exact .inr h1
          · exact h x
      · have : ofC (o :: l) c = ofC l c := by simp [ofC, ho]
        rw [this]
        simp only [List.foldl_cons]
        refine ih _ _ fun x => ?_
        rw [h, mem_lstep]
        have hx : ¬ (xL o).1 = c := ho
        split
        · constructor
          · rintro ⟨h1, h2⟩; exact ⟨⟨h1, fun e => hx (e ▸ h2)⟩, h2⟩
          · rintro ⟨⟨h1, _⟩, h2⟩; exact ⟨h1, h2⟩
        · split
          · constructor
            · rintro ⟨h1, h2⟩; exact ⟨.inl h1, h2⟩
            · rintro ⟨h1 | rfl, h2⟩
              · exact ⟨h1, h2⟩
              · exact absurd h2 hx
          · rfl
  intro x
  rw [mem_fK]
  exact key l [] [] (by simp) x
theorem wr_conn (l : List O) (c a : Int) : wrB (ofC l c) (c, a) = wrB l (c, a) := by
  have key : ∀ (l : List O) (s : ByteArray), (ofC l c).foldl (fun s o => if isW 5 o (c, a) then s ++ o.d else s) s = l.foldl (fun s o => if isW 5 o (c, a) then s ++ o.d else s) s := by
    intro l
    induction l with
    | nil => intro s; rfl
    | cons o l ih =>
      intro s
      by_cases ho : o.c = c
      · have : ofC (o :: l) c = o :: ofC l c := by simp [ofC, ho]
        rw [this]
        simp only [List.foldl_cons]
        exact ih _
      · have : ofC (o :: l) c = ofC l c := by simp [ofC, ho]
        rw [this]
        have h2 : isW 5 o (c, a) = false := by simp [isW, ho]
        simp only [List.foldl_cons, h2]
        exact ih _
  exact key l _
def fR (c : Int) (s : RS) : RS := ⟨fK c s.live, fK c s.opened, fK c s.shut⟩
theorem rstep_conn {s s' : RS} {o : O} (c : Int) (h : rstep s o = some s') : if o.c = c then rstep (fR c s) o = some (fR c s') else fR c s' = fR c s := by
  have hc1 : (cK o).1 = o.c := rfl
  have hx1 : (xK o).1 = o.c := rfl
  have hmc : o.c = c → (cK o ∈ fK c s.live ↔ cK o ∈ s.live) := fun e => by rw [mem_fK]; simp [hc1, e]
  have hm : ∀ ks, o.c = c → (xK o ∈ fK c ks ↔ xK o ∈ ks) := fun ks e => by rw [mem_fK]; simp [hx1, e]
  unfold rstep at h
  split
  · rename_i ho
    have hmc := hmc ho
    have hm := fun ks => hm ks ho
    unfold rstep
    simp only [fR, hmc, hm]
    repeat' split at h
    all_goals first | (cases h; done) | skip
    all_goals
      obtain rfl := Option.some.inj h
      simp_all [fR, fK_app, fK_rem]
  · rename_i ho
    repeat' split at h
    all_goals first | (cases h; done) | skip
    all_goals
      obtain rfl := Option.some.inj h
      simp [fR, fK_app0, fK_rem0, hc1, hx1, ho]
theorem valid_conn (l : List O) (c : Int) (h : validR l = true) : validR (ofC l c) = true := by
  have key : ∀ (l : List O) (s : RS), (l.foldl (fun s o => s.bind fun s => rstep s o) (some s)).isSome = true → ((ofC l c).foldl (fun s o => s.bind fun s => rstep s o) (some (fR c s))).isSome = true := by
    intro l
    induction l with
    | nil => intro s _; rfl
    | cons o l ih =>
      intro s h
      simp only [List.foldl_cons, Option.bind_some] at h
      cases hs : rstep s o with
      | none => rw [hs, foldl_none] at h; cases h
      | some s' =>
        rw [hs] at h
        have h1 := ih s' h
        have h2 := rstep_conn c hs
        by_cases ho : o.c = c
        · have : ofC (o :: l) c = o :: ofC l c := by simp [ofC, ho]
          rw [this]
          simp only [List.foldl_cons, Option.bind_some]
          rw [if_pos ho] at h2
          rw [h2]
          exact h1
        · have : ofC (o :: l) c = ofC l c := by simp [ofC, ho]
          rw [this]
          rw [if_neg ho] at h2
          rw [← h2]
          exact h1
  have := key l ⟨[], [], []⟩ h
  exact this
end Go.Proofs.Ytmdnkhpkpmbeoaa

/-
  Overwrite at the three types.
-/
namespace Go.Proofs.Ytmdnkhpkpmbeoaa
open Go.RowKit Go.Deep
set_option linter.unusedVariables false
set_option linter.unusedSimpArgs false

def zE : List Value := encE (0, 0)
def zT : List Value := encT ⟨noAd, 0⟩
set_option maxRecDepth 100000 in
set_option maxHeartbeats 4000000 in
theorem overE (v : Value) (xs : List (List Value)) (w0 w : World) (hv : OwnR 30 2 w0 w v xs) (hl : xs.length ≤ 1000) :
    Calls Try.prog 19 #[v] w fun e w' => e = .returned (.tuple #[]) ∧ Touch v.ownBlock.toList w w' := by
  obtain ⟨a, c, rfl, hc1, hc2, _⟩ := owns_form hv.row
  go_enter Try.func19, Try.ntmps19
  go_wp2_with fail
  go_loopw [3] (fun vi wr => ∃ (k : Nat), k ≤ xs.length ∧ vi = .int .i64 k ∧ Touch ((Value.slice a xs.length c).ownBlock).toList w wr ∧ w.heap.size < wr.heap.size ∧ wr.rangeAt w.heap.size 0 zE ∧
      (∀ g, a = some ⟨g, 0, none⟩ → 0 < xs.length → ∃ cur : List Value, wr.heap[g]? = some (.cells cur.toArray 30 (0, 0)) ∧ xs.length * 2 ≤ cur.length))
    (fun vi _ => xs.length - (intOf vi).toNat)
  case atStart =>
    refine ⟨0, by omega, rfl, (Touch.refl _ _).alloc _, by simp, range_new w zE 30, fun g hg hx => ?_⟩
    subst hg
    rcases hv.row.2 with ⟨h1, _⟩ | ⟨g', cap, cur, h1, _, h2, h3, h4, h5, h6⟩
    · simp at h1
    · simp at h1
      obtain ⟨rfl, rfl⟩ := h1
      have hgl := (hv.row.lt g rfl).2
      refine ⟨cur.toList, by rw [Below.heap_alloc _ _ _ hgl, h2], by simp [h5]; omega⟩
  case round =>
    obtain ⟨k, hk, rfl, ht, hz, hrz, hcur⟩ := hrel
    by_cases hlt : k < xs.length
    · obtain ⟨a', c', h1, _, _, h3⟩ := owns_form hv.row
      simp only [Value.slice.injEq] at h1
      obtain ⟨rfl, _, rfl⟩ := h1
      obtain ⟨g, rfl⟩ := h3 (by omega)
      obtain ⟨cur, hg, hcl⟩ := hcur g rfl (by omega)
      have hgw := (hv.row.lt g rfl).2
      have hz17 : ∀ u ∈ zE, u.oneCell' = true := by decide
      have hzl : zE.length = 2 := by decide
      generalize zE = z at *
      have HZ := Lib.hid hzl
      clear hzl hcur h3
      have hbd : k * 2 + 2 ≤ cur.length := by omega
      go_wp2_with (first
        | (refine wpList_load_mid rfl 30 _ rfl w.heap.size 0 rfl z _ hrz Try.underlying30 rfl (by rw [infoE, HZ.out]) ?_)
        | (refine wpList_store_part rfl 30 _ _ rfl g (k * 2) 30 cur z rfl rfl hg (by rw [HZ.out]; exact hbd) (by rw [infoE, HZ.out]) hz17 ?_))
      intro w2 hg2 t2 s2
      have HZ2 := HZ.out
      have hn : w.heap.size ∉ [g] := by simp; omega
      have rel2 : Touch ((Value.slice (some ⟨g, 0, none⟩) xs.length c).ownBlock).toList w w2 := ht.trans t2 (by intro x hx; left; simpa [Value.ownBlock] using hx)
      have rz2 := t2.range hrz hn
      go_wp2_with fail
      go_roundw
      case rel =>
        refine ⟨k + 1, by omega, by go_num, rel2, by omega, rz2, fun g' hg' _ => ?_⟩
        cases hg'
        refine ⟨_, hg2, ?_⟩
        simp [HZ2]
        omega
      case measure => simp [intOf]; omega
    · go_wp2_with fail
      go_end0
      exact ⟨rfl, ht⟩

set_option maxRecDepth 100000 in
set_option maxHeartbeats 4000000 in
theorem overO (v : Value) (xs : List (List Value)) (w0 w : World) (hv : OwnR 36 23 w0 w v xs) (hl : xs.length ≤ 1000) :
    Calls Try.prog 12 #[v] w fun e w' => e = .returned (.tuple #[]) ∧ Touch v.ownBlock.toList w w' := by
  obtain ⟨a, c, rfl, hc1, hc2, _⟩ := owns_form hv.row
  go_enter Try.func12, Try.ntmps12
  go_wp2_with fail
  go_loopw [3] (fun vi wr => ∃ (k : Nat), k ≤ xs.length ∧ vi = .int .i64 k ∧ Touch ((Value.slice a xs.length c).ownBlock).toList w wr ∧ w.heap.size < wr.heap.size ∧ wr.rangeAt w.heap.size 0 zO ∧
      (∀ g, a = some ⟨g, 0, none⟩ → 0 < xs.length → ∃ cur : List Value, wr.heap[g]? = some (.cells cur.toArray 36 (0, 0)) ∧ xs.length * 23 ≤ cur.length))
    (fun vi _ => xs.length - (intOf vi).toNat)
  case atStart =>
    refine ⟨0, by omega, rfl, (Touch.refl _ _).alloc _, by simp, range_new w zO 36, fun g hg hx => ?_⟩
    subst hg
    rcases hv.row.2 with ⟨h1, _⟩ | ⟨g', cap, cur, h1, _, h2, h3, h4, h5, h6⟩
    · simp at h1
    · simp at h1
      obtain ⟨rfl, rfl⟩ := h1
      have hgl := (hv.row.lt g rfl).2
      refine ⟨cur.toList, by rw [Below.heap_alloc _ _ _ hgl, h2], by simp [h5]; omega⟩
  case round =>
    obtain ⟨k, hk, rfl, ht, hz, hrz, hcur⟩ := hrel
    by_cases hlt : k < xs.length
    · obtain ⟨a', c', h1, _, _, h3⟩ := owns_form hv.row
      simp only [Value.slice.injEq] at h1
      obtain ⟨rfl, _, rfl⟩ := h1
      obtain ⟨g, rfl⟩ := h3 (by omega)
      obtain ⟨cur, hg, hcl⟩ := hcur g rfl (by omega)
      have hgw := (hv.row.lt g rfl).2
      have hz17 : ∀ u ∈ zO, u.oneCell' = true := by decide
      have hzl : zO.length = 23 := by decide
      generalize zO = z at *
      have HZ := Lib.hid hzl
      clear hzl hcur h3
      have hbd : k * 23 + 23 ≤ cur.length := by omega
      go_wp2_with (first
        | (refine wpList_load_mid rfl 36 _ rfl w.heap.size 0 rfl z _ hrz Try.underlying36 rfl (by rw [infoO, HZ.out]) ?_)
        | (refine wpList_store_part rfl 36 _ _ rfl g (k * 23) 36 cur z rfl rfl hg (by rw [HZ.out]; exact hbd) (by rw [infoO, HZ.out]) hz17 ?_))
      intro w2 hg2 t2 s2
      have HZ2 := HZ.out
      have hn : w.heap.size ∉ [g] := by simp; omega
      have rel2 : Touch ((Value.slice (some ⟨g, 0, none⟩) xs.length c).ownBlock).toList w w2 := ht.trans t2 (by intro x hx; left; simpa [Value.ownBlock] using hx)
      have rz2 := t2.range hrz hn
      go_wp2_with fail
      go_roundw
      case rel =>
        refine ⟨k + 1, by omega, by go_num, rel2, by omega, rz2, fun g' hg' _ => ?_⟩
        cases hg'
        refine ⟨_, hg2, ?_⟩
        simp [HZ2]
        omega
      case measure => simp [intOf]; omega
    · go_wp2_with fail
      go_end0
      exact ⟨rfl, ht⟩

set_option maxRecDepth 100000 in
set_option maxHeartbeats 4000000 in
theorem overT (v : Value) (xs : List (List Value)) (w0 w : World) (hv : OwnR 46 19 w0 w v xs) (hl : xs.length ≤ 1000) :
    Calls Try.prog 20 #[v] w fun e w' => e = .returned (.tuple #[]) ∧ Touch v.ownBlock.toList w w' := by
  obtain ⟨a, c, rfl, hc1, hc2, _⟩ := owns_form hv.row
  go_enter Try.func20, Try.ntmps20
  go_wp2_with fail
  go_loopw [3] (fun vi wr => ∃ (k : Nat), k ≤ xs.length ∧ vi = .int .i64 k ∧ Touch ((Value.slice a xs.length c).ownBlock).toList w wr ∧ w.heap.size < wr.heap.size ∧ wr.rangeAt w.heap.size 0 zT ∧
      (∀ g, a = some ⟨g, 0, none⟩ → 0 < xs.length → ∃ cur : List Value, wr.heap[g]? = some (.cells cur.toArray 46 (0, 0)) ∧ xs.length * 19 ≤ cur.length))
    (fun vi _ => xs.length - (intOf vi).toNat)
  case atStart =>
    refine ⟨0, by omega, rfl, (Touch.refl _ _).alloc _, by simp, range_new w zT 46, fun g hg hx => ?_⟩
    subst hg
    rcases hv.row.2 with ⟨h1, _⟩ | ⟨g', cap, cur, h1, _, h2, h3, h4, h5, h6⟩
    · simp at h1
    · simp at h1
      obtain ⟨rfl, rfl⟩ := h1
      have hgl := (hv.row.lt g rfl).2
      refine ⟨cur.toList, by rw [Below.heap_alloc _ _ _ hgl, h2], by simp [h5]; omega⟩
  case round =>
    obtain ⟨k, hk, rfl, ht, hz, hrz, hcur⟩ := hrel
    by_cases hlt : k < xs.length
    · obtain ⟨a', c', h1, _, _, h3⟩ := owns_form hv.row
      simp only [Value.slice.injEq] at h1
      obtain ⟨rfl, _, rfl⟩ := h1
      obtain ⟨g, rfl⟩ := h3 (by omega)
      obtain ⟨cur, hg, hcl⟩ := hcur g rfl (by omega)
      have hgw := (hv.row.lt g rfl).2
      have hz17 : ∀ u ∈ zT, u.oneCell' = true := by decide
      have hzl : zT.length = 19 := by decide
      generalize zT = z at *
      have HZ := Lib.hid hzl
      clear hzl hcur h3
      have hbd : k * 19 + 19 ≤ cur.length := by omega
      go_wp2_with (first
        | (refine wpList_load_mid rfl 46 _ rfl w.heap.size 0 rfl z _ hrz Try.underlying46 rfl (by rw [infoT, HZ.out]) ?_)
        | (refine wpList_store_part rfl 46 _ _ rfl g (k * 19) 46 cur z rfl rfl hg (by rw [HZ.out]; exact hbd) (by rw [infoT, HZ.out]) hz17 ?_))
      intro w2 hg2 t2 s2
      have HZ2 := HZ.out
      have hn : w.heap.size ∉ [g] := by simp; omega
      have rel2 : Touch ((Value.slice (some ⟨g, 0, none⟩) xs.length c).ownBlock).toList w w2 := ht.trans t2 (by intro x hx; left; simpa [Value.ownBlock] using hx)
      have rz2 := t2.range hrz hn
      go_wp2_with fail
      go_roundw
      case rel =>
        refine ⟨k + 1, by omega, by go_num, rel2, by omega, rz2, fun g' hg' _ => ?_⟩
        cases hg'
        refine ⟨_, hg2, ?_⟩
        simp [HZ2]
        omega
      case measure => simp [intOf]; omega
    · go_wp2_with fail
      go_end0
      exact ⟨rfl, ht⟩

end Go.Proofs.Ytmdnkhpkpmbeoaa

/-
  The walk of TraceConnectionsIndependent: true at every trace and connection.
-/
namespace Go.Proofs.Ytmdnkhpkpmbeoaa
open Go.RowKit Go.Sort Go.Shelf
set_option linter.unusedVariables false
set_option linter.unusedSimpArgs false

theorem bE0 (k : Int) : Try.prog.built 30 [(0, .int .i64 k)] = some (encE (k, 0)).toArray := by kernel_rfl
theorem bE1 (k a : Int) : Try.prog.built 30 [(0, .int .i64 k), (1, .int .i64 a)] = some (encE (k, a)).toArray := by kernel_rfl
set_option maxRecDepth 100000 in
set_option maxHeartbeats 4000000 in
theorem walk4 (v : Value) (b : Nat) (l : List O) (c : Int) (hc : wf c) (w : World) (hr : Rd w 23 b v (rO l)) (hok : ∀ o ∈ l, OkO o) :
    Calls Try.prog 4 #[v, .int .i64 c] w fun e w' => e = .returned (.bool true) ∧ Touch [] w w' := by
  have H0 := Lib.hid hr
  have OK := Lib.hid hok
  clear hr hok
  go_enter Try.func4, Try.ntmps4
  go_wp2_with fail
  refine (trace_any v b l 40 _ H0.out OK.out (by omega)).mono ?_
  rintro e w1 ⟨v1, rfl, o1, t1⟩
  have hX40 := someT_few l 40
  have OKX := Lib.hid (someT_ok OK.out 40)
  generalize someT l 40 = X at *
  have T1 := Lib.hid t1
  have RX := Lib.hid (o1.rd (rO_lens OKX.out))
  clear o1 t1
  generalize v1.ownBlock.getD 0 = bX at *
  go_wp2_with fail
  refine (mod_any _ _ _ (by omega) (by omega)).mono ?_
  rintro e w2 ⟨rfl, rfl⟩
  have hkk := gmod2_ok c
  generalize gmod c 2 = kk at *
  have HK0 := Lib.hid (show okK (kk, 0) from ⟨hkk, wf_small (by omega) (by omega)⟩)
  have HK1 := Lib.hid (show okK (kk, 1) from ⟨hkk, wf_small (by omega) (by omega)⟩)
  clear hkk
  have OKY := Lib.hid (ofC_ok OKX.out kk)
  have HY40 := ofC_len X kk
  have HNY := Lib.hid (show (rO (ofC X kk)).length ≤ 10000000 by rw [rO_len]; omega)
  go_wp2_with fail
  refine (ofc_any v1 bX X kk _ RX.out OKX.out (by omega)).mono ?_
  rintro e w3 ⟨v2, rfl, o3, t3⟩
  have T3 := Lib.hid (T1.out.trans t3 (by simp))
  have RX := Lib.hid (RX.out.touch t3 (by simp))
  have RY := Lib.hid (o3.rd (rO_lens OKY.out))
  clear o3 t3 T1
  generalize v2.ownBlock.getD 0 = bY at *
  go_wp2_with fail
  refine (live_any v1 bX X _ RX.out OKX.out (by omega)).mono ?_
  rintro e w4 ⟨v4, rfl, o4, t4⟩
  have T4 := Lib.hid (T3.out.trans t4 (by simp))
  have RX := Lib.hid (RX.out.touch t4 (by simp))
  have RY := Lib.hid (RY.out.touch t4 (by simp))
  have RA := Lib.hid (o4.toR.rd (rE_lens _))
  have HLL := liveR_len X
  have HLC := Lib.hid (live_conn X kk)
  have HLO := Lib.hid (liveR_ok OKX.out)
  clear o4 t4 T3
  generalize v4.ownBlock.getD 0 = bA at *
  generalize liveR X = A at *
  obtain ⟨a, cap, rfl, hcp, hcm⟩ := RA.out.form
  rw [rE_len] at hcp RA ⊢
  clear hcm
  go_wp2_with fail
  go_loopw [8, 10] (fun vo vi wr => ∃ (i : Nat), vi = .int .i64 i ∧ i ≤ A.length ∧ OwnR 30 2 w4 wr vo (rE (fK kk (A.take i))) ∧ Touch [] w4 wr) (fun _ vi _ => A.length - (intOf vi).toNat)
  case atStart => exact ⟨0, rfl, by omega, by simpa [fK, rE] using OwnR.nil 30 2 w4 w4, Touch.refl _ _⟩
  case round =>
    obtain ⟨i, rfl, hil, ho, ht⟩ := hrel
    have HO := Lib.hid ho
    have HT := Lib.hid ht
    clear ho ht
    by_cases hlt : i < A.length
    · have hb1 : (i : Int) < (A.length : Int) := by omega
      have hx := List.getElem?_eq_getElem hlt
      generalize A[i] = k at hx
      obtain ⟨off, rfl, rI⟩ := (RA.out.touch HT.out (by simp)).atE hx
      have HX := Lib.hid (fK_next kk hx)
      have hwi : IntKind.i64.wrap ((i : Int) + 1) = (i : Int) + 1 := by rw [IntKind.wrap_i64] <;> omega
      have HF := Lib.hid (show (rE (fK kk (A.take i))).length ≤ 100000000 by rw [rE_len]; have := fK_len kk (A.take i); simp at this; omega)
      obtain ⟨c1, _⟩ := E.cells rI
      clear hx
      by_cases hcc : k.1 = kk
      · have q1 : (k.1 == kk) = true := by simp [hcc]
        have HC := Lib.hid hcc
        clear hcc
        go_wp2_with (first
            | ((with_reducible refine at_load 30 ?_); refine wpList_load_mid rfl 30 _ rfl _ (off + i * 2) rfl (encE k) _ rI Try.underlying30 rfl (by rw [infoE, rfl]) ?_)
            | ((with_reducible refine at_bs 27 1 ?_); refine wpList_build1 rtE rfl _ rfl (encE k) rfl rfl ?_)
            | (at_builtin; refine wpList_app1R rtE wr rfl _ _ (by rfl) _ _ rfl HO.out HT.out.size (encE k) _ rfl rfl (encE_ones [k]) HF.out ?_))
        intro v3 w5 o5 t5
        have HO3 := Lib.hid o5
        have HT3 := Lib.hid (HT.out.trans t5 (by intro y hy; right; exact HO.out.new y (by simpa using hy)))
        clear o5 t5
        go_wp2_with fail
        go_roundw
        case rel => exact ⟨i + 1, by simp, by omega, by rw [HX.out, if_pos HC.out, rE_snoc]; exact HO3.out, HT3.out⟩
        case measure => simp [intOf]; omega
      · have q1 : (k.1 == kk) = false := by simp [hcc]
        have HC := Lib.hid hcc
        clear hcc
        go_wp2_with fail
        go_roundw
        case rel => exact ⟨i + 1, by simp, by omega, by rw [HX.out, if_neg HC.out]; exact HO.out, HT.out⟩
        case measure => simp [intOf]; omega
    · have hb1 : ¬ (i : Int) < (A.length : Int) := by omega
      have HE := Lib.hid (show OwnR 30 2 w4 wr u8 (rE (fK kk A)) by
        have := HO.out
        rw [List.take_of_length_le (by omega)] at this
        exact this)
      have RX := Lib.hid (RX.out.touch HT.out (by simp))
      have RY := Lib.hid (RY.out.touch HT.out (by simp))
      have T5 := Lib.hid (T4.out.trans HT.out (by simp))
      have RL := Lib.hid (HE.out.rd (rE_lens _))
      clear HE HO HT RA
      generalize u8.ownBlock.getD 0 = bL at *
      go_wp2_with fail
      refine (ofc_any v1 bX X kk _ RX.out OKX.out (by omega)).mono ?_
      rintro e w6 ⟨v6, rfl, o6, t6⟩
      have O6 := Lib.hid o6
      have T6 := Lib.hid t6
      clear o6 t6
      go_wp2_with fail
      refine (overO v6 (rO (ofC X kk)) _ _ O6.out (by rw [rO_len]; omega)).mono ?_
      rintro e w7 ⟨rfl, t7⟩
      have t67 : Touch [] wr w7 := T6.out.trans t7 (by intro y hy; right; exact O6.out.new y (by simpa using hy))
      have RX := Lib.hid (RX.out.touch t67 (by simp))
      have RY := Lib.hid (RY.out.touch t67 (by simp))
      have RL := Lib.hid (RL.out.touch t67 (by simp))
      have T7 := Lib.hid (T5.out.trans t67 (by simp))
      clear t67 t7 T6 O6 T5
      go_wp2_with fail
      refine (awake_any _).mono ?_
      rintro e w8 ⟨rfl, t8⟩
      have RX := Lib.hid (RX.out.touch t8 (by simp))
      have RY := Lib.hid (RY.out.touch t8 (by simp))
      have RL := Lib.hid (RL.out.touch t8 (by simp))
      have T8 := Lib.hid (T7.out.trans t8 (by simp))
      clear t8 T7
      go_wp2_with (first
          | ((with_reducible refine ungd_build 30 _ _ ?hw ?_); case hw => rfl)
          | ((with_reducible refine at_build 30 ?_); refine wpList_built rfl 30 _ rfl [(0, .int .i64 kk), (1, .int .i64 1)] _ rfl (bE1 _) ?_)
          | ((with_reducible refine at_build 30 ?_); refine wpList_built rfl 30 _ rfl [(0, .int .i64 kk)] _ rfl (bE0 _) ?_))
      refine (live_any v2 bY (ofC X kk) _ RY.out OKY.out (by omega)).mono ?_
      rw [HLC.out]
      rintro e w9 ⟨v9, rfl, o9, t9⟩
      have RX := Lib.hid (RX.out.touch t9 (by simp))
      have RY := Lib.hid (RY.out.touch t9 (by simp))
      have RL := Lib.hid (RL.out.touch t9 (by simp))
      have R9 := Lib.hid (o9.toR.rd (rE_lens _))
      have T9 := Lib.hid (T8.out.trans t9 (by simp))
      clear o9 t9 T8
      go_wp2_with (first
          | ((with_reducible refine ungd_build 30 _ _ ?hw ?_); case hw => rfl)
          | ((with_reducible refine at_build 30 ?_); refine wpList_built rfl 30 _ rfl [(0, .int .i64 kk), (1, .int .i64 1)] _ rfl (bE1 _) ?_)
          | ((with_reducible refine at_build 30 ?_); refine wpList_built rfl 30 _ rfl [(0, .int .i64 kk)] _ rfl (bE0 _) ?_))
      refine (equalE v9 u8 _ _ _ _ (by rw [rE_len]; have := fK_len kk A; omega) R9.out RL.out (eqsE (fun k hk => HLO.out k (mem_fK.1 hk).1))).mono ?_
      rintro e wa ⟨rfl, ta⟩
      have RX := Lib.hid (RX.out.touch ta (by simp))
      have RY := Lib.hid (RY.out.touch ta (by simp))
      have T9 := Lib.hid (T9.out.trans ta (by simp))
      clear ta RL R9
      go_wp2_with (first
          | ((with_reducible refine ungd_build 30 _ _ ?hw ?_); case hw => rfl)
          | ((with_reducible refine at_build 30 ?_); refine wpList_built rfl 30 _ rfl [(0, .int .i64 kk), (1, .int .i64 1)] _ rfl (bE1 _) ?_)
          | ((with_reducible refine at_build 30 ?_); refine wpList_built rfl 30 _ rfl [(0, .int .i64 kk)] _ rfl (bE0 _) ?_))
      refine (wr_any v1 bX X (kk, 0) HK0.out _ RX.out OKX.out (by omega)).mono ?_
      rintro e wa ⟨rfl, ta⟩
      have RX := Lib.hid (RX.out.touch ta (by simp))
      have RY := Lib.hid (RY.out.touch ta (by simp))
      have T9 := Lib.hid (T9.out.trans ta (by simp))
      clear ta
      go_wp2_with (first
          | ((with_reducible refine ungd_build 30 _ _ ?hw ?_); case hw => rfl)
          | ((with_reducible refine at_build 30 ?_); refine wpList_built rfl 30 _ rfl [(0, .int .i64 kk), (1, .int .i64 1)] _ rfl (bE1 _) ?_)
          | ((with_reducible refine at_build 30 ?_); refine wpList_built rfl 30 _ rfl [(0, .int .i64 kk)] _ rfl (bE0 _) ?_))
      refine (wr_any v2 bY (ofC X kk) (kk, 0) HK0.out _ RY.out OKY.out (by omega)).mono ?_
      rw [wr_conn]
      rintro e wa ⟨rfl, ta⟩
      have RX := Lib.hid (RX.out.touch ta (by simp))
      have RY := Lib.hid (RY.out.touch ta (by simp))
      have T9 := Lib.hid (T9.out.trans ta (by simp))
      clear ta
      generalize wrB X (kk, 0) = s0
      go_wp2_with (first
          | ((with_reducible refine ungd_build 30 _ _ ?hw ?_); case hw => rfl)
          | ((with_reducible refine at_build 30 ?_); refine wpList_built rfl 30 _ rfl [(0, .int .i64 kk), (1, .int .i64 1)] _ rfl (bE1 _) ?_)
          | ((with_reducible refine at_build 30 ?_); refine wpList_built rfl 30 _ rfl [(0, .int .i64 kk)] _ rfl (bE0 _) ?_))
      refine (wr_any v1 bX X (kk, 1) HK1.out _ RX.out OKX.out (by omega)).mono ?_
      rintro e wa ⟨rfl, ta⟩
      have RX := Lib.hid (RX.out.touch ta (by simp))
      have RY := Lib.hid (RY.out.touch ta (by simp))
      have T9 := Lib.hid (T9.out.trans ta (by simp))
      clear ta
      go_wp2_with (first
          | ((with_reducible refine ungd_build 30 _ _ ?hw ?_); case hw => rfl)
          | ((with_reducible refine at_build 30 ?_); refine wpList_built rfl 30 _ rfl [(0, .int .i64 kk), (1, .int .i64 1)] _ rfl (bE1 _) ?_)
          | ((with_reducible refine at_build 30 ?_); refine wpList_built rfl 30 _ rfl [(0, .int .i64 kk)] _ rfl (bE0 _) ?_))
      refine (wr_any v2 bY (ofC X kk) (kk, 1) HK1.out _ RY.out OKY.out (by omega)).mono ?_
      rw [wr_conn]
      rintro e wa ⟨rfl, ta⟩
      have RX := Lib.hid (RX.out.touch ta (by simp))
      have RY := Lib.hid (RY.out.touch ta (by simp))
      have T9 := Lib.hid (T9.out.trans ta (by simp))
      clear ta
      generalize wrB X (kk, 1) = s1
      go_wp2_with (first
          | ((with_reducible refine ungd_build 30 _ _ ?hw ?_); case hw => rfl)
          | ((with_reducible refine at_build 30 ?_); refine wpList_built rfl 30 _ rfl [(0, .int .i64 kk), (1, .int .i64 1)] _ rfl (bE1 _) ?_)
          | ((with_reducible refine at_build 30 ?_); refine wpList_built rfl 30 _ rfl [(0, .int .i64 kk)] _ rfl (bE0 _) ?_))
      refine (valid_any v1 bX X _ RX.out OKX.out (by omega)).mono ?_
      rintro e wa ⟨rfl, ta⟩
      have RX := Lib.hid (RX.out.touch ta (by simp))
      have RY := Lib.hid (RY.out.touch ta (by simp))
      have TB := Lib.hid (T9.out.trans ta (by simp))
      clear ta T9
      have HVY := Lib.hid (valid_conn X kk)
      cases hv : validR X with
      | false =>
        clear hv HVY
        go_wp2_with (first
          | ((with_reducible refine ungd_build 30 _ _ ?hw ?_); case hw => rfl)
          | ((with_reducible refine at_build 30 ?_); refine wpList_built rfl 30 _ rfl [(0, .int .i64 kk), (1, .int .i64 1)] _ rfl (bE1 _) ?_)
          | ((with_reducible refine at_build 30 ?_); refine wpList_built rfl 30 _ rfl [(0, .int .i64 kk)] _ rfl (bE0 _) ?_))
        refine (rofc_any v1 _ X kk _ RX.out OKX.out (by omega)).mono ?_
        rintro e wc ⟨vc, rfl, oc, tc⟩
        have TC := Lib.hid (TB.out.trans tc (by simp))
        have RY := Lib.hid (RY.out.touch tc (by simp))
        have RC := Lib.hid (oc.rd (rO_lens OKY.out))
        clear oc tc
        go_wp2_with (first
          | ((with_reducible refine ungd_build 30 _ _ ?hw ?_); case hw => rfl)
          | ((with_reducible refine at_build 30 ?_); refine wpList_built rfl 30 _ rfl [(0, .int .i64 kk), (1, .int .i64 1)] _ rfl (bE1 _) ?_)
          | ((with_reducible refine at_build 30 ?_); refine wpList_built rfl 30 _ rfl [(0, .int .i64 kk)] _ rfl (bE0 _) ?_))
        refine (equalO v2 vc _ _ _ _ HNY.out RY.out RC.out (eqsO OKY.out)).mono ?_
        rintro e wd ⟨rfl, td⟩
        have TD := Lib.hid (TC.out.trans td (by simp))
        clear td
        go_wp2_with (first
          | ((with_reducible refine ungd_build 30 _ _ ?hw ?_); case hw => rfl)
          | ((with_reducible refine at_build 30 ?_); refine wpList_built rfl 30 _ rfl [(0, .int .i64 kk), (1, .int .i64 1)] _ rfl (bE1 _) ?_)
          | ((with_reducible refine at_build 30 ?_); refine wpList_built rfl 30 _ rfl [(0, .int .i64 kk)] _ rfl (bE0 _) ?_))
        go_ret
        exact ⟨rfl, TD.out⟩
      | true =>
        have HVY := Lib.hid (HVY.out hv)
        clear hv
        go_wp2_with (first
          | ((with_reducible refine ungd_build 30 _ _ ?hw ?_); case hw => rfl)
          | ((with_reducible refine at_build 30 ?_); refine wpList_built rfl 30 _ rfl [(0, .int .i64 kk), (1, .int .i64 1)] _ rfl (bE1 _) ?_)
          | ((with_reducible refine at_build 30 ?_); refine wpList_built rfl 30 _ rfl [(0, .int .i64 kk)] _ rfl (bE0 _) ?_))
        refine (valid_any v2 bY (ofC X kk) _ RY.out OKY.out (by omega)).mono ?_
        rw [HVY.out]
        rintro e wb ⟨rfl, tb⟩
        have RX := Lib.hid (RX.out.touch tb (by simp))
        have RY := Lib.hid (RY.out.touch tb (by simp))
        have TB := Lib.hid (TB.out.trans tb (by simp))
        clear tb
        go_wp2_with (first
          | ((with_reducible refine ungd_build 30 _ _ ?hw ?_); case hw => rfl)
          | ((with_reducible refine at_build 30 ?_); refine wpList_built rfl 30 _ rfl [(0, .int .i64 kk), (1, .int .i64 1)] _ rfl (bE1 _) ?_)
          | ((with_reducible refine at_build 30 ?_); refine wpList_built rfl 30 _ rfl [(0, .int .i64 kk)] _ rfl (bE0 _) ?_))
        refine (rofc_any v1 _ X kk _ RX.out OKX.out (by omega)).mono ?_
        rintro e wc ⟨vc, rfl, oc, tc⟩
        have TC := Lib.hid (TB.out.trans tc (by simp))
        have RY := Lib.hid (RY.out.touch tc (by simp))
        have RC := Lib.hid (oc.rd (rO_lens OKY.out))
        clear oc tc
        go_wp2_with (first
          | ((with_reducible refine ungd_build 30 _ _ ?hw ?_); case hw => rfl)
          | ((with_reducible refine at_build 30 ?_); refine wpList_built rfl 30 _ rfl [(0, .int .i64 kk), (1, .int .i64 1)] _ rfl (bE1 _) ?_)
          | ((with_reducible refine at_build 30 ?_); refine wpList_built rfl 30 _ rfl [(0, .int .i64 kk)] _ rfl (bE0 _) ?_))
        refine (equalO v2 vc _ _ _ _ HNY.out RY.out RC.out (eqsO OKY.out)).mono ?_
        rintro e wd ⟨rfl, td⟩
        have TD := Lib.hid (TC.out.trans td (by simp))
        clear td
        go_wp2_with (first
          | ((with_reducible refine ungd_build 30 _ _ ?hw ?_); case hw => rfl)
          | ((with_reducible refine at_build 30 ?_); refine wpList_built rfl 30 _ rfl [(0, .int .i64 kk), (1, .int .i64 1)] _ rfl (bE1 _) ?_)
          | ((with_reducible refine at_build 30 ?_); refine wpList_built rfl 30 _ rfl [(0, .int .i64 kk)] _ rfl (bE0 _) ?_))
        go_ret
        exact ⟨rfl, TD.out⟩
end Go.Proofs.Ytmdnkhpkpmbeoaa

/-
  A slice or a struct that came in, of elements whose type is flat but for its leaves (structs and arrays taken apart, whatever else is a leaf): every cell of it lies in memory and reads by its own leaf's type. Over any program; no condition of our own.
-/
namespace Go.Proofs.Ytmdnkhpkpmbeoaa
open Go.ChangeShapes Go.WideShapes Go.Deep
set_option linter.unusedVariables false
set_option linter.unusedSimpArgs false

def flatFs (P : Program) (f : TypeId → Option (List TypeId)) : List Field → Nat → Option (List TypeId)
  | [], _ => some []
  | x :: r, off => if x.offset = off then (f x.type).bind fun l => if l.length = P.cellsOf x.type then (flatFs P f r (off + l.length)).map (l ++ ·) else none else none

/-- The leaves of a type, cell by cell. -/
def flatT (P : Program) : Nat → TypeId → Option (List TypeId)
  | 0, _ => none
  | d + 1, t => match P.underlying t with
    | some (.struct fs) => (flatFs P (flatT P d) fs.toList 0).bind fun l => if l.length = P.cellsOf t then some l else none
    | some (.array n e) => (flatT P d e).bind fun l => if l.length = P.cellsOf e ∧ n * l.length = P.cellsOf t then some (List.replicate n l).flatten else none
    | _ => some [t]

section
variable {H : Type} {enc : TypeId × Value → H} {P : Program} {w : World} {base : Nat} {spare : Nat → Bool} {held : Bool}

/-- The value v reads by its own type t. -/
def Leaf (enc : TypeId × Value → H) (P : Program) (w : World) (base : Nat) (spare : Nat → Bool) (held : Bool) (t : TypeId) (v : Value) : Prop := ∃ m y, DataW.trod enc P w base spare held m t [v] = some y

theorem leaf_one {t : TypeId} {fuel : Nat} {cs : List Value} {x : DataW H × List MemPlace} (hs : ∀ fs, P.underlying t ≠ some (.struct fs)) (ha : ∀ n e, P.underlying t ≠ some (.array n e))
    (h : DataW.trod enc P w base spare held fuel t cs = some x) : ∃ v, cs = [v] := by
  cases fuel with
  | zero => simp [DataW.trod] at h
  | succ m =>
    unfold DataW.trod at h
    split at h <;> first
      | exact ⟨_, rfl⟩
      | (rename_i h1; exact absurd h1 (hs _))
      | (rename_i h1; exact absurd h1 (ha _ _))
      | simp at h

/-- What the reading of a value of type t says of its cells. -/
def CellsOk (enc : TypeId × Value → H) (P : Program) (w : World) (base : Nat) (spare : Nat → Bool) (held : Bool) (ts : List TypeId) (cs : List Value) : Prop :=
  cs.length = ts.length ∧ ∀ (i : Nat) (t : TypeId), ts[i]? = some t → ∃ v, cs[i]? = some v ∧ Leaf enc P w base spare held t v

theorem flatFs_ok {f : TypeId → Option (List TypeId)} {cs : List Value} (hrec : ∀ t cs x m ts, f t = some ts → DataW.trod enc P w base spare held m t cs = some x → CellsOk enc P w base spare held ts cs) :
    ∀ (l : List Field) (off : Nat) (ts : List TypeId), flatFs P f l off = some ts →
      (∀ fd ∈ l, ∃ m x, DataW.trod enc P w base spare held m fd.type ((cs.drop fd.offset).take (P.cellsOf fd.type)) = some x) →
      ∀ (i : Nat) (t : TypeId), ts[i]? = some t → ∃ v, cs[off + i]? = some v ∧ Leaf enc P w base spare held t v := by
  intro l
  induction l with
  | nil => intro off ts h _ i t hi; simp [flatFs] at h; subst h; simp at hi
  | cons fd r ih =>
    intro off ts h hall i t hi
    simp only [flatFs] at h
    split at h
    · rename_i ho
      obtain ⟨l1, h1, h2⟩ := Option.bind_eq_some_iff.1 h
      split at h2
      · rename_i hl
        obtain ⟨l2, h3, rfl⟩ := Option.map_eq_some_iff.1 h2
        obtain ⟨m, x, hx⟩ := hall fd (List.mem_cons_self)
        obtain ⟨k1, k2⟩ := hrec _ _ _ _ _ h1 hx
        by_cases hlt : i < l1.length
        · rw [List.getElem?_append_left hlt] at hi
          obtain ⟨v, hv, hleaf⟩ := k2 i t hi
          refine ⟨v, ?_, hleaf⟩
          rw [List.getElem?_take] at hv
          split at hv
          · rw [List.getElem?_drop, ho] at hv
            exact hv
          · cases hv
        · rw [List.getElem?_append_right (by omega)] at hi
          obtain ⟨v, hv, hleaf⟩ := ih _ _ h3 (fun fd' hfd => hall fd' (List.mem_cons_of_mem _ hfd)) _ _ hi
          exact ⟨v, by rw [← hv]; congr 1; omega, hleaf⟩
      · cases h2
    · cases h

theorem getElem?_flatten_replicate {α : Type} (l : List α) (n i : Nat) : (List.replicate n l).flatten[i]? = if i < n * l.length then l[i % l.length]? else none := by
  induction n generalizing i with
  | zero => simp
  | succ n ih =>
    rw [List.replicate_succ, List.flatten_cons]
    by_cases h : i < l.length
    · rw [List.getElem?_append_left h, Nat.mod_eq_of_lt h, if_pos]
      rw [Nat.succ_mul]; omega
    · rw [List.getElem?_append_right (by omega), ih]
      have e : (i - l.length) % l.length = i % l.length := by
        rw [← Nat.mod_eq_sub_mod (by omega)]
      rw [e]
      by_cases h2 : i - l.length < n * l.length
      · rw [if_pos h2, if_pos (by rw [Nat.succ_mul]; omega)]
      · rw [if_neg h2, if_neg (by rw [Nat.succ_mul]; omega)]

theorem flat_ok : ∀ (d : Nat) (t : TypeId) (cs : List Value) (x : DataW H × List MemPlace) (m : Nat) (ts : List TypeId), flatT P d t = some ts →
    DataW.trod enc P w base spare held m t cs = some x → CellsOk enc P w base spare held ts cs := by
  intro d
  induction d with
  | zero => intro t cs x m ts h; simp [flatT] at h
  | succ d ih =>
    intro t cs x m ts h hx
    simp only [flatT] at h
    split at h
    · rename_i fs hfs
      obtain ⟨l, h1, h2⟩ := Option.bind_eq_some_iff.1 h
      split at h2
      · rename_i hl
        obtain rfl := Option.some.inj h2
        obtain ⟨xs, k, _, _, hcl, hxl, hf⟩ := DataW.trod_struct hfs hx
        refine ⟨by rw [hcl, hl], ?_⟩
        have := flatFs_ok (cs := cs) ih fs.toList 0 l h1 (fun fd hfd => by
          obtain ⟨i, hi, rfl⟩ := List.getElem_of_mem hfd
          have h3 := hf i (fs.toList[i]) (by simp)
          rw [List.getElem?_eq_getElem (by rw [hxl]; simpa using hi)] at h3
          exact ⟨_, _, h3⟩)
        intro i t hi
        have := this i t hi
        simpa using this
      · cases h2
    · rename_i n e hne
      obtain ⟨l, h1, h2⟩ := Option.bind_eq_some_iff.1 h
      split at h2
      · rename_i hl
        obtain rfl := Option.some.inj h2
        obtain ⟨xs, k, _, _, hcl, hxl, hf⟩ := DataW.trod_array hne hx
        refine ⟨by rw [hcl, ← hl.2]; simp, ?_⟩
        intro i t hi
        rw [getElem?_flatten_replicate] at hi
        split at hi
        · rename_i hlt
          have hpos : 0 < l.length := by
            rcases Nat.eq_zero_or_pos l.length with h0 | h0
            · rw [h0] at hlt; omega
            · exact h0
          have hq : i / l.length < n := (Nat.div_lt_iff_lt_mul hpos).2 hlt
          have h3 := hf (i / l.length) hq
          rw [List.getElem?_eq_getElem (by rw [hxl]; exact hq)] at h3
          obtain ⟨_, k2⟩ := ih _ _ _ _ _ h1 h3
          obtain ⟨v, hv, hleaf⟩ := k2 _ _ hi
          refine ⟨v, ?_, hleaf⟩
          rw [List.getElem?_take] at hv
          split at hv
          · rw [List.getElem?_drop, ← hl.1] at hv
            rw [← hv]
            congr 1
            rw [Nat.mul_comm]
            exact (Nat.div_add_mod i l.length).symm
          · cases hv
        · cases hi
      · cases h2
    · rename_i hns hna
      obtain rfl := Option.some.inj h
      obtain ⟨v, rfl⟩ := leaf_one (fun fs hfs => hns fs hfs) (fun n e he => hna n e he) hx
      refine ⟨rfl, ?_⟩
      intro i t' hi
      match i, hi with
      | 0, hi => simp at hi; subst hi; exact ⟨v, rfl, m, x, hx⟩

theorem Leaf.int {t : TypeId} {k : IntKind} {v : Value} (ht : P.underlying t = some (.int k)) (h : Leaf enc P w base spare held t v) : ∃ n, v = .int k n ∧ (Lit.int k n).wf = true := by
  obtain ⟨m, y, h⟩ := h
  obtain ⟨n, h1, _, h2⟩ := DataW.trod_int ht h
  exact ⟨n, by simpa using h1, h2⟩
theorem Leaf.bool {t : TypeId} {v : Value} (ht : P.underlying t = some .bool) (h : Leaf enc P w base spare held t v) : ∃ b, v = .bool b := by
  obtain ⟨m, y, h⟩ := h
  obtain ⟨n, h1, _⟩ := DataW.trod_bool ht h
  exact ⟨n, by simpa using h1⟩
theorem Leaf.string {t : TypeId} {v : Value} (ht : P.underlying t = some .string) (h : Leaf enc P w base spare held t v) : ∃ s : ByteArray, v = .string s ∧ s.size ≤ maxLen := by
  obtain ⟨m, y, h⟩ := h
  obtain ⟨s, h1, _, h2⟩ := DataW.trod_string ht h
  exact ⟨s, by simpa using h1, h2⟩

/-- A slice that came in: nil; or 'cap' elements lie at ⟨b, off⟩, each of as many cells as its type has leaves. -/
def IsSlice (enc : TypeId × Value → H) (P : Program) (w : World) (base : Nat) (spare : Nat → Bool) (held : Bool) (ts : List TypeId) (v : Value) : Prop :=
  v = .slice none 0 0 ∨ ∃ (a : Addr) (len cap : Nat), v = .slice (some a) len cap ∧ len ≤ cap ∧ cap ≤ maxLen ∧
    ∀ i j t, i < len → ts[j]? = some t → ∃ u, w.cell? (a.add (i * ts.length + j)) = some u ∧ Leaf enc P w base spare held t u

theorem slice_ok {t e : TypeId} {fuel d : Nat} {v : Value} {x : DataW H × List MemPlace} {ts : List TypeId} (ht : P.underlying t = some (.slice e)) (hts : flatT P d e = some ts) (hn : ts.length = P.cellsOf e)
    (h : DataW.trod enc P w base spare held fuel t [v] = some x) : IsSlice enc P w base spare held ts v := by
  rcases open_slice ht h with ⟨h0, _⟩ | ⟨a, len, cap, m, n, D, Pl, h0, hb, hl, hm, hmm, _, hx⟩
  · exact .inl (by simpa using h0)
  · refine .inr ⟨a, len, cap, by simpa using h0, hl, hm, fun i j t' hi hj => ?_⟩
    obtain ⟨cs', h1, h2⟩ := hx i (by rw [hmm]; split <;> omega)
    obtain ⟨k1, k2⟩ := flat_ok d e cs' _ n ts hts h2
    obtain ⟨u, hu, hleaf⟩ := k2 j t' hj
    obtain ⟨_, hlen, hcell⟩ := World.cells?_some h1
    refine ⟨u, ?_, hleaf⟩
    have hjlt : j < ts.length := (List.getElem?_eq_some_iff.1 hj).1
    have := hcell j (by omega)
    rw [add_add, ← hn] at this
    rw [this, hu]

/-- .. with the address taken apart, where it has an element. -/
theorem IsSlice.at {ts : List TypeId} {v : Value} (h : IsSlice enc P w base spare held ts v) (hpos : 0 < ts.length) :
    ∃ (a : Option Addr) (len cap : Nat), v = .slice a len cap ∧ len ≤ cap ∧ cap ≤ maxLen ∧
      (len = 0 ∨ ∃ b off, a = some ⟨b, off, none⟩ ∧ ∀ i j t, i < len → ts[j]? = some t → ∃ u, w.cell? ⟨b, off + (i * ts.length + j), none⟩ = some u ∧ Leaf enc P w base spare held t u) := by
  rcases h with rfl | ⟨a, len, cap, rfl, hl, hm, hc⟩
  · exact ⟨none, 0, 0, rfl, Nat.le_refl _, by simp [maxLen], .inl rfl⟩
  · refine ⟨some a, len, cap, rfl, hl, hm, ?_⟩
    by_cases h0 : len = 0
    · exact .inl h0
    · right
      obtain ⟨b, off, spot⟩ := a
      obtain ⟨u, hu, _⟩ := hc 0 0 (ts[0]) (by omega) (by simp)
      have hs : spot = none := by simpa [Addr.add] using World.cell?_spot hu
      subst hs
      refine ⟨b, off, rfl, fun i j t hi hj => ?_⟩
      obtain ⟨u, hu, hleaf⟩ := hc i j t hi hj
      exact ⟨u, by rw [Addr.add_lit] at hu; exact hu, hleaf⟩

theorem okWide_struct {r : Reach} {t : TypeId} {fs : Array Field} {v : Value} (ht : P.underlying t = some (.struct fs)) (h : Value.okWide P w r base t v) : ∃ cs, v = .agg cs := by
  simp only [Value.okWide, ht] at h
  obtain ⟨cs, hv, _⟩ := h
  exact ⟨cs, hv⟩
theorem okWide_array {r : Reach} {t n e : Nat} {v : Value} (ht : P.underlying t = some (.array n e)) (h : Value.okWide P w r base t v) : ∃ cs, v = .agg cs := by
  simp only [Value.okWide, ht] at h
  obtain ⟨cs, hv, _⟩ := h
  exact ⟨cs, hv⟩

/-- A struct or an array by value. -/
theorem agg_ok {t : TypeId} {fuel d : Nat} {cs : Array Value} {x : DataW H × List MemPlace} {ts : List TypeId} (hts : flatT P d t = some ts)
    (h : DataW.trod enc P w base spare held fuel t cs.toList = some x) : CellsOk enc P w base spare held ts cs.toList := flat_ok d t _ _ _ _ hts h
end
end Go.Proofs.Ytmdnkhpkpmbeoaa

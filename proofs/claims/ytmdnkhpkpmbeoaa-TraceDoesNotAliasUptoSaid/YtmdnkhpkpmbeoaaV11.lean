/-
  Merged texts: Aw, W3, Ov, Wu, Vc, W5.
-/
import Derived.Test.YtmdnkhpkpmbeoaaV10
import Derived.StillTailTactics

/-
  awake.
-/
namespace Go.Proofs.Ytmdnkhpkpmbeoaa
open Go.RowKit Go.Sort Go.Shelf
set_option linter.unusedVariables false
set_option linter.unusedSimpArgs false

def AW : List O := [⟨1, 7, 0, ⟨#[]⟩, noAd, 0, false⟩, ⟨4, 7, 1, ⟨#[]⟩, noAd, 80, false⟩, ⟨5, 7, 0, ⟨#[97, 98]⟩, noAd, 0, false⟩, ⟨6, 7, 0, ⟨#[]⟩, noAd, 0, false⟩, ⟨7, 7, 0, ⟨#[]⟩, noAd, 0, false⟩]
def TW : List Tg := [⟨noAd, 80⟩]
theorem okT_TW : ∀ t ∈ TW, OkT t := by
  intro t ht
  simp only [TW, List.mem_cons, List.not_mem_nil, or_false] at ht
  subst ht
  exact ⟨noAd_is, by simp [wf, Lit.wf, IntKind.min, IntKind.max, IntKind.signed, IntKind.bits]⟩
theorem okO_AW : ∀ o ∈ AW, OkO o := by
  intro o ho
  simp only [AW, List.mem_cons, List.not_mem_nil, or_false] at ho
  rcases ho with rfl | rfl | rfl | rfl | rfl <;>
    exact ⟨by simp [wf, Lit.wf, IntKind.min, IntKind.max, IntKind.signed, IntKind.bits], by simp [wf, Lit.wf, IntKind.min, IntKind.max, IntKind.signed, IntKind.bits], by simp [wf, Lit.wf, IntKind.min, IntKind.max, IntKind.signed, IntKind.bits], by simp [wf, Lit.wf, IntKind.min, IntKind.max, IntKind.signed, IntKind.bits], by simp [ByteArray.size], noAd_is⟩
theorem aw1 : validR AW = true := by decide
theorem aw2 : validR (AW.drop 1) = false := by decide
theorem aw3 : liveR AW = [(7, 1)] := by decide
theorem aw4 : wrB AW (7, 0) = ⟨#[97, 98]⟩ := by decide
theorem aw5 : hasS AW (7, 0) = true := by decide
theorem aw6 : ctT AW 7 = TW := by rfl
theorem aw7 : ofC AW 7 = AW := by rfl
theorem aw8 : (rO AW).length = 5 := rfl
theorem lenT0 : (encT ⟨noAd, 80⟩).length = 19 := by decide
theorem okK_71 : ∀ k ∈ [((7 : Int), (1 : Int))], okK k := by
  intro k hk
  simp only [List.mem_singleton] at hk
  subst hk
  exact ⟨wf_small (by omega) (by omega), wf_small (by omega) (by omega)⟩
theorem okK_70 : okK (7, 0) := ⟨wf_small (by omega) (by omega), wf_small (by omega) (by omega)⟩
theorem Rd.new {w : World} {g k T : Nat} {xs : List (List Value)} (h : w.heap[g]? = some (.cells xs.flatten.toArray T (0, 0))) (hk : ∀ x ∈ xs, x.length = k) (hn : xs.length ≤ 1000) : Rd w k g (.slice (some ⟨g, 0, none⟩) xs.length xs.length) xs := by
  have hr := range_block (cs := xs.flatten) h
  refine ⟨some ⟨g, 0, none⟩, xs.length, rfl, Nat.le_refl _, by unfold maxLen; omega, by simp, fun _ => ⟨0, rfl, ?_⟩⟩
  intro i x hi j u hu
  have h2 := hr (i * k + j) u (by rw [← hu]; exact (flat_get hk hi hu).trans hu.symm)
  simpa [Nat.add_assoc] using h2
section
variable {P : Program} {ops : Array Oper} {rest : List Oper} {a : Act} {w : World} {Q : Exit → Act → World → Prop} {d : Option Tmp} {x y : Operand} {t : TypeId} {p : String} {af : Array Edge}
theorem wpList_ungd {o o' : Oper} (ho : o' = { o with guard := none }) (hw : Region.wanted o (yielded ops a.tmps) = true) (h : wpList P ops Q (o' :: rest) a w) : wpList P ops Q (o :: rest) a w := by
  subst ho
  unfold wpList at h ⊢
  rw [if_pos hw]
  rw [if_pos (by simp [Region.wanted])] at h
  exact h
theorem ungd_build (ty : TypeId) (k : Nat) (s : Bool) {ps : Array (Nat × Operand)} (hw : Region.wanted { dst := d, op := .build ty ps, type := t, pos := p, after := af, guard := some (k, s) } (yielded ops a.tmps) = true)
    (h : wpList P ops Q ({ dst := d, op := .build ty ps, type := t, pos := p, after := af, guard := none } :: rest) a w) : wpList P ops Q ({ dst := d, op := .build ty ps, type := t, pos := p, after := af, guard := some (k, s) } :: rest) a w := wpList_ungd rfl hw h
theorem ungd_bs (ty m : Nat) (k : Nat) (s : Bool) {ps : Array (Nat × Operand)} (hw : Region.wanted { dst := d, op := .buildSlice ty m ps, type := t, pos := p, after := af, guard := some (k, s) } (yielded ops a.tmps) = true)
    (h : wpList P ops Q ({ dst := d, op := .buildSlice ty m ps, type := t, pos := p, after := af, guard := none } :: rest) a w) : wpList P ops Q ({ dst := d, op := .buildSlice ty m ps, type := t, pos := p, after := af, guard := some (k, s) } :: rest) a w := wpList_ungd rfl hw h
theorem ungd_slice (ty : Nat) (k : Nat) (s : Bool) {lo hi mx : Option Operand} (hw : Region.wanted { dst := d, op := .slice ty x lo hi mx, type := t, pos := p, after := af, guard := some (k, s) } (yielded ops a.tmps) = true)
    (h : wpList P ops Q ({ dst := d, op := .slice ty x lo hi mx, type := t, pos := p, after := af, guard := none } :: rest) a w) : wpList P ops Q ({ dst := d, op := .slice ty x lo hi mx, type := t, pos := p, after := af, guard := some (k, s) } :: rest) a w := wpList_ungd rfl hw h
theorem wpList_buildR {t e k bytes : Nat} {op : Oper} (R : RT t e k bytes) (hgd : op.guard = none) (n : Nat) (ps : Array (Nat × Operand)) (ho : op.op = .buildSlice t n ps) (xs : List (List Value)) (hn : xs.length = n) (hl : ∀ x ∈ xs, x.length = k) (hx : (ps.toList.map fun p => (p.1, a.eval p.2)) = (xs.zipIdx).map fun p => (p.2, Value.agg p.1.toArray)) (hs : n ≤ 1000)
    (h : wpList Try.prog ops Q rest (a.put op.dst (.slice (some ⟨w.heap.size, 0, none⟩) n n)) (w.alloc (.cells xs.flatten.toArray e))) : wpList Try.prog ops Q (op :: rest) a w := by
  obtain ⟨i, z, hi, hz, hs2, hb, hc⟩ := R.hi
  refine wpList_buildSlice_rows hgd t n _ ho e k i z R.ht hi hz hs2 R.k0 xs hn hl ?_ hx h
  have := R.k1
  calc n * k ≤ 1000 * 100 := Nat.mul_le_mul hs this
    _ ≤ _ := by omega
end
theorem rtS : RT 41 52 3 40 := ⟨Try.underlying41, info_parts (by kernel_rfl), by omega, by omega, by omega⟩
theorem bw1 : Try.prog.built 36 [(0, .int .i64 1), (1, .int .i64 7)] = some (encO ⟨1, 7, 0, ⟨#[]⟩, noAd, 0, false⟩).toArray := by kernel_rfl
theorem bw2 : Try.prog.built 36 [(0, .int .i64 4), (1, .int .i64 7), (2, .int .i64 1), (5, .int .i64 80)] = some (encO ⟨4, 7, 1, ⟨#[]⟩, noAd, 80, false⟩).toArray := by kernel_rfl
theorem bw3 : Try.prog.built 36 [(0, .int .i64 5), (1, .int .i64 7), (3, .string ⟨#[97, 98]⟩)] = some (encO ⟨5, 7, 0, ⟨#[97, 98]⟩, noAd, 0, false⟩).toArray := by kernel_rfl
theorem bw4 : Try.prog.built 36 [(0, .int .i64 6), (1, .int .i64 7)] = some (encO ⟨6, 7, 0, ⟨#[]⟩, noAd, 0, false⟩).toArray := by kernel_rfl
theorem bw5 : Try.prog.built 36 [(0, .int .i64 7), (1, .int .i64 7)] = some (encO ⟨7, 7, 0, ⟨#[]⟩, noAd, 0, false⟩).toArray := by kernel_rfl
theorem bwT : Try.prog.built 46 [(2, .int .i64 80)] = some (encT ⟨noAd, 80⟩).toArray := by kernel_rfl
theorem bwS (ad : Option Addr) (n c : Nat) (l : List O) : Try.prog.built 52 [(2, .slice ad n c)] = some (encS ⟨0, 0, .slice ad n c, l⟩).toArray := by kernel_rfl
set_option maxRecDepth 100000 in
set_option maxHeartbeats 4000000 in
theorem awake_any (w : World) : Calls Try.prog 9 #[] w fun e w' => e = .returned (.bool true) ∧ Touch [] w w' := by
  have TA := Lib.hid ((Touch.refl [] w).alloc (.cells (rO AW).flatten.toArray 36))
  have RD : Hid (Rd (w.alloc (.cells (rO AW).flatten.toArray 36)) 23 w.heap.size (.slice (some ⟨w.heap.size, 0, none⟩) 5 5) (rO AW)) := Lib.hid (Rd.new (heap_alloc_new w (.cells (rO AW).flatten.toArray 36)) (rO_lens okO_AW) (by decide))
  go_enter Try.func9, Try.ntmps9
  go_wp2_with (first
    | ((with_reducible refine ungd_build 36 _ _ ?hw ?_); case hw => rfl)
    | ((with_reducible refine ungd_build 46 _ _ ?hw ?_); case hw => rfl)
    | ((with_reducible refine ungd_build 52 _ _ ?hw ?_); case hw => rfl)
    | ((with_reducible refine ungd_bs 27 1 _ _ ?hw ?_); case hw => rfl)
    | ((with_reducible refine ungd_bs 47 1 _ _ ?hw ?_); case hw => rfl)
    | ((with_reducible refine ungd_bs 41 1 _ _ ?hw ?_); case hw => rfl)
    | ((with_reducible refine at_build 36 ?_); refine wpList_built rfl 36 _ rfl [(0, .int .i64 1), (1, .int .i64 7)] _ rfl bw1 ?_)
    | ((with_reducible refine at_build 36 ?_); refine wpList_built rfl 36 _ rfl [(0, .int .i64 4), (1, .int .i64 7), (2, .int .i64 1), (5, .int .i64 80)] _ rfl bw2 ?_)
    | ((with_reducible refine at_build 36 ?_); refine wpList_built rfl 36 _ rfl [(0, .int .i64 5), (1, .int .i64 7), (3, .string ⟨#[97, 98]⟩)] _ rfl bw3 ?_)
    | ((with_reducible refine at_build 36 ?_); refine wpList_built rfl 36 _ rfl [(0, .int .i64 6), (1, .int .i64 7)] _ rfl bw4 ?_)
    | ((with_reducible refine at_build 36 ?_); refine wpList_built rfl 36 _ rfl [(0, .int .i64 7), (1, .int .i64 7)] _ rfl bw5 ?_)
    | ((with_reducible refine at_bs 22 5 ?_); refine wpList_buildR rtO rfl 5 _ rfl (rO AW) rfl (rO_lens okO_AW) rfl (by omega) ?_)
    | ((with_reducible refine at_bs 27 1 ?_); refine wpList_build1 rtE rfl _ rfl (encE (7, 1)) rfl rfl ?_)
    | ((with_reducible refine at_bs 47 1 ?_); refine wpList_build1 rtT rfl _ rfl (encT ⟨noAd, 80⟩) lenT0 rfl ?_)
    | ((with_reducible refine at_bs 41 1 ?_); refine wpList_build1 rtS rfl _ rfl (encS ⟨0, 0, .slice (some ⟨w.heap.size, 0, none⟩) 5 5, AW⟩) rfl rfl ?_)
    | ((with_reducible refine at_build 46 ?_); refine wpList_built rfl 46 _ rfl [(2, .int .i64 80)] _ rfl bwT ?_)
    | ((with_reducible refine at_build 52 ?_); refine wpList_built rfl 52 _ rfl [(2, _)] _ rfl (bwS _ _ _ AW) ?_))
  have hcon := valid_any _ w.heap.size AW _ RD.out okO_AW (by decide)
  rw [aw1] at hcon
  refine hcon.mono ?_
  clear hcon
  rintro e w1 ⟨rfl, t1⟩
  have T1 := Lib.hid (TA.out.trans t1 (by simp))
  have RD := Lib.hid (RD.out.touch t1 (by simp))
  clear t1
  go_wp2_with (first
    | ((with_reducible refine ungd_build 36 _ _ ?hw ?_); case hw => rfl)
    | ((with_reducible refine ungd_build 46 _ _ ?hw ?_); case hw => rfl)
    | ((with_reducible refine ungd_build 52 _ _ ?hw ?_); case hw => rfl)
    | ((with_reducible refine ungd_bs 27 1 _ _ ?hw ?_); case hw => rfl)
    | ((with_reducible refine ungd_bs 47 1 _ _ ?hw ?_); case hw => rfl)
    | ((with_reducible refine ungd_bs 41 1 _ _ ?hw ?_); case hw => rfl)
    | ((with_reducible refine at_build 36 ?_); refine wpList_built rfl 36 _ rfl [(0, .int .i64 1), (1, .int .i64 7)] _ rfl bw1 ?_)
    | ((with_reducible refine at_build 36 ?_); refine wpList_built rfl 36 _ rfl [(0, .int .i64 4), (1, .int .i64 7), (2, .int .i64 1), (5, .int .i64 80)] _ rfl bw2 ?_)
    | ((with_reducible refine at_build 36 ?_); refine wpList_built rfl 36 _ rfl [(0, .int .i64 5), (1, .int .i64 7), (3, .string ⟨#[97, 98]⟩)] _ rfl bw3 ?_)
    | ((with_reducible refine at_build 36 ?_); refine wpList_built rfl 36 _ rfl [(0, .int .i64 6), (1, .int .i64 7)] _ rfl bw4 ?_)
    | ((with_reducible refine at_build 36 ?_); refine wpList_built rfl 36 _ rfl [(0, .int .i64 7), (1, .int .i64 7)] _ rfl bw5 ?_)
    | ((with_reducible refine at_bs 22 5 ?_); refine wpList_buildR rtO rfl 5 _ rfl (rO AW) rfl (rO_lens okO_AW) rfl (by omega) ?_)
    | ((with_reducible refine at_bs 27 1 ?_); refine wpList_build1 rtE rfl _ rfl (encE (7, 1)) rfl rfl ?_)
    | ((with_reducible refine at_bs 47 1 ?_); refine wpList_build1 rtT rfl _ rfl (encT ⟨noAd, 80⟩) lenT0 rfl ?_)
    | ((with_reducible refine at_bs 41 1 ?_); refine wpList_build1 rtS rfl _ rfl (encS ⟨0, 0, .slice (some ⟨w.heap.size, 0, none⟩) 5 5, AW⟩) rfl rfl ?_)
    | ((with_reducible refine at_build 46 ?_); refine wpList_built rfl 46 _ rfl [(2, .int .i64 80)] _ rfl bwT ?_)
    | ((with_reducible refine at_build 52 ?_); refine wpList_built rfl 52 _ rfl [(2, _)] _ rfl (bwS _ _ _ AW) ?_))
  have RD2 : Rd w1 23 w.heap.size (.slice (some ⟨w.heap.size, 23, none⟩) 4 4) (rO (AW.drop 1)) := RD.out.drop (P := Try.prog) (T := 0) (e := 0) 1 (by decide)
  have hcon := valid_any _ w.heap.size (AW.drop 1) _ RD2 (fun o ho => okO_AW o (List.mem_of_mem_drop ho)) (by decide)
  rw [aw2] at hcon
  refine hcon.mono ?_
  clear hcon
  rintro e w2 ⟨rfl, t2⟩
  have T2 := Lib.hid (T1.out.trans t2 (by simp))
  have RD := Lib.hid (RD.out.touch t2 (by simp))
  clear t2
  go_wp2_with (first
    | ((with_reducible refine ungd_build 36 _ _ ?hw ?_); case hw => rfl)
    | ((with_reducible refine ungd_build 46 _ _ ?hw ?_); case hw => rfl)
    | ((with_reducible refine ungd_build 52 _ _ ?hw ?_); case hw => rfl)
    | ((with_reducible refine ungd_bs 27 1 _ _ ?hw ?_); case hw => rfl)
    | ((with_reducible refine ungd_bs 47 1 _ _ ?hw ?_); case hw => rfl)
    | ((with_reducible refine ungd_bs 41 1 _ _ ?hw ?_); case hw => rfl)
    | ((with_reducible refine at_build 36 ?_); refine wpList_built rfl 36 _ rfl [(0, .int .i64 1), (1, .int .i64 7)] _ rfl bw1 ?_)
    | ((with_reducible refine at_build 36 ?_); refine wpList_built rfl 36 _ rfl [(0, .int .i64 4), (1, .int .i64 7), (2, .int .i64 1), (5, .int .i64 80)] _ rfl bw2 ?_)
    | ((with_reducible refine at_build 36 ?_); refine wpList_built rfl 36 _ rfl [(0, .int .i64 5), (1, .int .i64 7), (3, .string ⟨#[97, 98]⟩)] _ rfl bw3 ?_)
    | ((with_reducible refine at_build 36 ?_); refine wpList_built rfl 36 _ rfl [(0, .int .i64 6), (1, .int .i64 7)] _ rfl bw4 ?_)
    | ((with_reducible refine at_build 36 ?_); refine wpList_built rfl 36 _ rfl [(0, .int .i64 7), (1, .int .i64 7)] _ rfl bw5 ?_)
    | ((with_reducible refine at_bs 22 5 ?_); refine wpList_buildR rtO rfl 5 _ rfl (rO AW) rfl (rO_lens okO_AW) rfl (by omega) ?_)
    | ((with_reducible refine at_bs 27 1 ?_); refine wpList_build1 rtE rfl _ rfl (encE (7, 1)) rfl rfl ?_)
    | ((with_reducible refine at_bs 47 1 ?_); refine wpList_build1 rtT rfl _ rfl (encT ⟨noAd, 80⟩) lenT0 rfl ?_)
    | ((with_reducible refine at_bs 41 1 ?_); refine wpList_build1 rtS rfl _ rfl (encS ⟨0, 0, .slice (some ⟨w.heap.size, 0, none⟩) 5 5, AW⟩) rfl rfl ?_)
    | ((with_reducible refine at_build 46 ?_); refine wpList_built rfl 46 _ rfl [(2, .int .i64 80)] _ rfl bwT ?_)
    | ((with_reducible refine at_build 52 ?_); refine wpList_built rfl 52 _ rfl [(2, _)] _ rfl (bwS _ _ _ AW) ?_))
  have hcon := live_any _ w.heap.size AW _ RD.out okO_AW (by decide)
  rw [aw3] at hcon
  refine hcon.mono ?_
  clear hcon
  rintro e w3 ⟨v3, rfl, o3, t3⟩
  have T3 := Lib.hid (T2.out.trans t3 (by simp))
  have RD := Lib.hid (RD.out.touch t3 (by simp))
  have R3 := Lib.hid (o3.toR.rd (rE_lens _))
  have T3a := Lib.hid (T3.out.alloc (.cells (encE (7, 1)).toArray 30))
  have R3 := Lib.hid (R3.out.touch ((Touch.refl [] w3).alloc (.cells (encE (7, 1)).toArray 30)) (by simp))
  have RD := Lib.hid (RD.out.touch ((Touch.refl [] w3).alloc (.cells (encE (7, 1)).toArray 30)) (by simp))
  have R3b := Lib.hid (Rd.one (heap_alloc_new w3 (.cells (encE (7, 1)).toArray 30)) (k := 2) rfl)
  clear o3
  clear t3
  go_wp2_with (first
    | ((with_reducible refine ungd_build 36 _ _ ?hw ?_); case hw => rfl)
    | ((with_reducible refine ungd_build 46 _ _ ?hw ?_); case hw => rfl)
    | ((with_reducible refine ungd_build 52 _ _ ?hw ?_); case hw => rfl)
    | ((with_reducible refine ungd_bs 27 1 _ _ ?hw ?_); case hw => rfl)
    | ((with_reducible refine ungd_bs 47 1 _ _ ?hw ?_); case hw => rfl)
    | ((with_reducible refine ungd_bs 41 1 _ _ ?hw ?_); case hw => rfl)
    | ((with_reducible refine at_build 36 ?_); refine wpList_built rfl 36 _ rfl [(0, .int .i64 1), (1, .int .i64 7)] _ rfl bw1 ?_)
    | ((with_reducible refine at_build 36 ?_); refine wpList_built rfl 36 _ rfl [(0, .int .i64 4), (1, .int .i64 7), (2, .int .i64 1), (5, .int .i64 80)] _ rfl bw2 ?_)
    | ((with_reducible refine at_build 36 ?_); refine wpList_built rfl 36 _ rfl [(0, .int .i64 5), (1, .int .i64 7), (3, .string ⟨#[97, 98]⟩)] _ rfl bw3 ?_)
    | ((with_reducible refine at_build 36 ?_); refine wpList_built rfl 36 _ rfl [(0, .int .i64 6), (1, .int .i64 7)] _ rfl bw4 ?_)
    | ((with_reducible refine at_build 36 ?_); refine wpList_built rfl 36 _ rfl [(0, .int .i64 7), (1, .int .i64 7)] _ rfl bw5 ?_)
    | ((with_reducible refine at_bs 22 5 ?_); refine wpList_buildR rtO rfl 5 _ rfl (rO AW) rfl (rO_lens okO_AW) rfl (by omega) ?_)
    | ((with_reducible refine at_bs 27 1 ?_); refine wpList_build1 rtE rfl _ rfl (encE (7, 1)) rfl rfl ?_)
    | ((with_reducible refine at_bs 47 1 ?_); refine wpList_build1 rtT rfl _ rfl (encT ⟨noAd, 80⟩) lenT0 rfl ?_)
    | ((with_reducible refine at_bs 41 1 ?_); refine wpList_build1 rtS rfl _ rfl (encS ⟨0, 0, .slice (some ⟨w.heap.size, 0, none⟩) 5 5, AW⟩) rfl rfl ?_)
    | ((with_reducible refine at_build 46 ?_); refine wpList_built rfl 46 _ rfl [(2, .int .i64 80)] _ rfl bwT ?_)
    | ((with_reducible refine at_build 52 ?_); refine wpList_built rfl 52 _ rfl [(2, _)] _ rfl (bwS _ _ _ AW) ?_))
  have hcon := equalE v3 _ _ _ (rE [(7, 1)]) _ (by decide) R3.out R3b.out (eqsE okK_71)
  refine hcon.mono ?_
  clear hcon
  rintro e w4 ⟨rfl, t4⟩
  have T4 := Lib.hid (T3a.out.trans t4 (by simp))
  have RD := Lib.hid (RD.out.touch t4 (by simp))
  clear t4
  go_wp2_with (first
    | ((with_reducible refine ungd_build 36 _ _ ?hw ?_); case hw => rfl)
    | ((with_reducible refine ungd_build 46 _ _ ?hw ?_); case hw => rfl)
    | ((with_reducible refine ungd_build 52 _ _ ?hw ?_); case hw => rfl)
    | ((with_reducible refine ungd_bs 27 1 _ _ ?hw ?_); case hw => rfl)
    | ((with_reducible refine ungd_bs 47 1 _ _ ?hw ?_); case hw => rfl)
    | ((with_reducible refine ungd_bs 41 1 _ _ ?hw ?_); case hw => rfl)
    | ((with_reducible refine at_build 36 ?_); refine wpList_built rfl 36 _ rfl [(0, .int .i64 1), (1, .int .i64 7)] _ rfl bw1 ?_)
    | ((with_reducible refine at_build 36 ?_); refine wpList_built rfl 36 _ rfl [(0, .int .i64 4), (1, .int .i64 7), (2, .int .i64 1), (5, .int .i64 80)] _ rfl bw2 ?_)
    | ((with_reducible refine at_build 36 ?_); refine wpList_built rfl 36 _ rfl [(0, .int .i64 5), (1, .int .i64 7), (3, .string ⟨#[97, 98]⟩)] _ rfl bw3 ?_)
    | ((with_reducible refine at_build 36 ?_); refine wpList_built rfl 36 _ rfl [(0, .int .i64 6), (1, .int .i64 7)] _ rfl bw4 ?_)
    | ((with_reducible refine at_build 36 ?_); refine wpList_built rfl 36 _ rfl [(0, .int .i64 7), (1, .int .i64 7)] _ rfl bw5 ?_)
    | ((with_reducible refine at_bs 22 5 ?_); refine wpList_buildR rtO rfl 5 _ rfl (rO AW) rfl (rO_lens okO_AW) rfl (by omega) ?_)
    | ((with_reducible refine at_bs 27 1 ?_); refine wpList_build1 rtE rfl _ rfl (encE (7, 1)) rfl rfl ?_)
    | ((with_reducible refine at_bs 47 1 ?_); refine wpList_build1 rtT rfl _ rfl (encT ⟨noAd, 80⟩) lenT0 rfl ?_)
    | ((with_reducible refine at_bs 41 1 ?_); refine wpList_build1 rtS rfl _ rfl (encS ⟨0, 0, .slice (some ⟨w.heap.size, 0, none⟩) 5 5, AW⟩) rfl rfl ?_)
    | ((with_reducible refine at_build 46 ?_); refine wpList_built rfl 46 _ rfl [(2, .int .i64 80)] _ rfl bwT ?_)
    | ((with_reducible refine at_build 52 ?_); refine wpList_built rfl 52 _ rfl [(2, _)] _ rfl (bwS _ _ _ AW) ?_))
  have hcon := wr_any _ w.heap.size AW (7, 0) okK_70 _ RD.out okO_AW (by decide)
  rw [aw4] at hcon
  refine hcon.mono ?_
  clear hcon
  rintro e w5 ⟨rfl, t5⟩
  have T5 := Lib.hid (T4.out.trans t5 (by simp))
  have RD := Lib.hid (RD.out.touch t5 (by simp))
  clear t5
  go_wp2_with (first
    | ((with_reducible refine ungd_build 36 _ _ ?hw ?_); case hw => rfl)
    | ((with_reducible refine ungd_build 46 _ _ ?hw ?_); case hw => rfl)
    | ((with_reducible refine ungd_build 52 _ _ ?hw ?_); case hw => rfl)
    | ((with_reducible refine ungd_bs 27 1 _ _ ?hw ?_); case hw => rfl)
    | ((with_reducible refine ungd_bs 47 1 _ _ ?hw ?_); case hw => rfl)
    | ((with_reducible refine ungd_bs 41 1 _ _ ?hw ?_); case hw => rfl)
    | ((with_reducible refine at_build 36 ?_); refine wpList_built rfl 36 _ rfl [(0, .int .i64 1), (1, .int .i64 7)] _ rfl bw1 ?_)
    | ((with_reducible refine at_build 36 ?_); refine wpList_built rfl 36 _ rfl [(0, .int .i64 4), (1, .int .i64 7), (2, .int .i64 1), (5, .int .i64 80)] _ rfl bw2 ?_)
    | ((with_reducible refine at_build 36 ?_); refine wpList_built rfl 36 _ rfl [(0, .int .i64 5), (1, .int .i64 7), (3, .string ⟨#[97, 98]⟩)] _ rfl bw3 ?_)
    | ((with_reducible refine at_build 36 ?_); refine wpList_built rfl 36 _ rfl [(0, .int .i64 6), (1, .int .i64 7)] _ rfl bw4 ?_)
    | ((with_reducible refine at_build 36 ?_); refine wpList_built rfl 36 _ rfl [(0, .int .i64 7), (1, .int .i64 7)] _ rfl bw5 ?_)
    | ((with_reducible refine at_bs 22 5 ?_); refine wpList_buildR rtO rfl 5 _ rfl (rO AW) rfl (rO_lens okO_AW) rfl (by omega) ?_)
    | ((with_reducible refine at_bs 27 1 ?_); refine wpList_build1 rtE rfl _ rfl (encE (7, 1)) rfl rfl ?_)
    | ((with_reducible refine at_bs 47 1 ?_); refine wpList_build1 rtT rfl _ rfl (encT ⟨noAd, 80⟩) lenT0 rfl ?_)
    | ((with_reducible refine at_bs 41 1 ?_); refine wpList_build1 rtS rfl _ rfl (encS ⟨0, 0, .slice (some ⟨w.heap.size, 0, none⟩) 5 5, AW⟩) rfl rfl ?_)
    | ((with_reducible refine at_build 46 ?_); refine wpList_built rfl 46 _ rfl [(2, .int .i64 80)] _ rfl bwT ?_)
    | ((with_reducible refine at_build 52 ?_); refine wpList_built rfl 52 _ rfl [(2, _)] _ rfl (bwS _ _ _ AW) ?_))
  have hcon := hs_any _ w.heap.size AW (7, 0) okK_70 _ RD.out okO_AW (by decide)
  rw [aw5] at hcon
  refine hcon.mono ?_
  clear hcon
  rintro e w6 ⟨rfl, t6⟩
  have T6 := Lib.hid (T5.out.trans t6 (by simp))
  have RD := Lib.hid (RD.out.touch t6 (by simp))
  clear t6
  go_wp2_with (first
    | ((with_reducible refine ungd_build 36 _ _ ?hw ?_); case hw => rfl)
    | ((with_reducible refine ungd_build 46 _ _ ?hw ?_); case hw => rfl)
    | ((with_reducible refine ungd_build 52 _ _ ?hw ?_); case hw => rfl)
    | ((with_reducible refine ungd_bs 27 1 _ _ ?hw ?_); case hw => rfl)
    | ((with_reducible refine ungd_bs 47 1 _ _ ?hw ?_); case hw => rfl)
    | ((with_reducible refine ungd_bs 41 1 _ _ ?hw ?_); case hw => rfl)
    | ((with_reducible refine at_build 36 ?_); refine wpList_built rfl 36 _ rfl [(0, .int .i64 1), (1, .int .i64 7)] _ rfl bw1 ?_)
    | ((with_reducible refine at_build 36 ?_); refine wpList_built rfl 36 _ rfl [(0, .int .i64 4), (1, .int .i64 7), (2, .int .i64 1), (5, .int .i64 80)] _ rfl bw2 ?_)
    | ((with_reducible refine at_build 36 ?_); refine wpList_built rfl 36 _ rfl [(0, .int .i64 5), (1, .int .i64 7), (3, .string ⟨#[97, 98]⟩)] _ rfl bw3 ?_)
    | ((with_reducible refine at_build 36 ?_); refine wpList_built rfl 36 _ rfl [(0, .int .i64 6), (1, .int .i64 7)] _ rfl bw4 ?_)
    | ((with_reducible refine at_build 36 ?_); refine wpList_built rfl 36 _ rfl [(0, .int .i64 7), (1, .int .i64 7)] _ rfl bw5 ?_)
    | ((with_reducible refine at_bs 22 5 ?_); refine wpList_buildR rtO rfl 5 _ rfl (rO AW) rfl (rO_lens okO_AW) rfl (by omega) ?_)
    | ((with_reducible refine at_bs 27 1 ?_); refine wpList_build1 rtE rfl _ rfl (encE (7, 1)) rfl rfl ?_)
    | ((with_reducible refine at_bs 47 1 ?_); refine wpList_build1 rtT rfl _ rfl (encT ⟨noAd, 80⟩) lenT0 rfl ?_)
    | ((with_reducible refine at_bs 41 1 ?_); refine wpList_build1 rtS rfl _ rfl (encS ⟨0, 0, .slice (some ⟨w.heap.size, 0, none⟩) 5 5, AW⟩) rfl rfl ?_)
    | ((with_reducible refine at_build 46 ?_); refine wpList_built rfl 46 _ rfl [(2, .int .i64 80)] _ rfl bwT ?_)
    | ((with_reducible refine at_build 52 ?_); refine wpList_built rfl 52 _ rfl [(2, _)] _ rfl (bwS _ _ _ AW) ?_))
  have hcon := ct_any _ w.heap.size AW 7 _ RD.out okO_AW (by decide)
  rw [aw6] at hcon
  refine hcon.mono ?_
  clear hcon
  rintro e w7 ⟨v7, rfl, o7, t7⟩
  have T7 := Lib.hid (T6.out.trans t7 (by simp))
  have RD := Lib.hid (RD.out.touch t7 (by simp))
  have R7 := Lib.hid (o7.rd (rT_lens okT_TW))
  have T7a := Lib.hid (T7.out.alloc (.cells (encT ⟨noAd, 80⟩).toArray 46))
  have R7 := Lib.hid (R7.out.touch ((Touch.refl [] w7).alloc (.cells (encT ⟨noAd, 80⟩).toArray 46)) (by simp))
  have RD := Lib.hid (RD.out.touch ((Touch.refl [] w7).alloc (.cells (encT ⟨noAd, 80⟩).toArray 46)) (by simp))
  have R7b := Lib.hid (Rd.one (heap_alloc_new w7 (.cells (encT ⟨noAd, 80⟩).toArray 46)) (k := 19) lenT0)
  clear o7
  clear t7
  go_wp2_with (first
    | ((with_reducible refine ungd_build 36 _ _ ?hw ?_); case hw => rfl)
    | ((with_reducible refine ungd_build 46 _ _ ?hw ?_); case hw => rfl)
    | ((with_reducible refine ungd_build 52 _ _ ?hw ?_); case hw => rfl)
    | ((with_reducible refine ungd_bs 27 1 _ _ ?hw ?_); case hw => rfl)
    | ((with_reducible refine ungd_bs 47 1 _ _ ?hw ?_); case hw => rfl)
    | ((with_reducible refine ungd_bs 41 1 _ _ ?hw ?_); case hw => rfl)
    | ((with_reducible refine at_build 36 ?_); refine wpList_built rfl 36 _ rfl [(0, .int .i64 1), (1, .int .i64 7)] _ rfl bw1 ?_)
    | ((with_reducible refine at_build 36 ?_); refine wpList_built rfl 36 _ rfl [(0, .int .i64 4), (1, .int .i64 7), (2, .int .i64 1), (5, .int .i64 80)] _ rfl bw2 ?_)
    | ((with_reducible refine at_build 36 ?_); refine wpList_built rfl 36 _ rfl [(0, .int .i64 5), (1, .int .i64 7), (3, .string ⟨#[97, 98]⟩)] _ rfl bw3 ?_)
    | ((with_reducible refine at_build 36 ?_); refine wpList_built rfl 36 _ rfl [(0, .int .i64 6), (1, .int .i64 7)] _ rfl bw4 ?_)
    | ((with_reducible refine at_build 36 ?_); refine wpList_built rfl 36 _ rfl [(0, .int .i64 7), (1, .int .i64 7)] _ rfl bw5 ?_)
    | ((with_reducible refine at_bs 22 5 ?_); refine wpList_buildR rtO rfl 5 _ rfl (rO AW) rfl (rO_lens okO_AW) rfl (by omega) ?_)
    | ((with_reducible refine at_bs 27 1 ?_); refine wpList_build1 rtE rfl _ rfl (encE (7, 1)) rfl rfl ?_)
    | ((with_reducible refine at_bs 47 1 ?_); refine wpList_build1 rtT rfl _ rfl (encT ⟨noAd, 80⟩) lenT0 rfl ?_)
    | ((with_reducible refine at_bs 41 1 ?_); refine wpList_build1 rtS rfl _ rfl (encS ⟨0, 0, .slice (some ⟨w.heap.size, 0, none⟩) 5 5, AW⟩) rfl rfl ?_)
    | ((with_reducible refine at_build 46 ?_); refine wpList_built rfl 46 _ rfl [(2, .int .i64 80)] _ rfl bwT ?_)
    | ((with_reducible refine at_build 52 ?_); refine wpList_built rfl 52 _ rfl [(2, _)] _ rfl (bwS _ _ _ AW) ?_))
  have hcon := equalT v7 _ _ _ (rT TW) _ (by decide) R7.out R7b.out (eqsT okT_TW)
  refine hcon.mono ?_
  clear hcon
  rintro e w8 ⟨rfl, t8⟩
  have T8 := Lib.hid (T7a.out.trans t8 (by simp))
  have RD := Lib.hid (RD.out.touch t8 (by simp))
  clear t8
  go_wp2_with (first
    | ((with_reducible refine ungd_build 36 _ _ ?hw ?_); case hw => rfl)
    | ((with_reducible refine ungd_build 46 _ _ ?hw ?_); case hw => rfl)
    | ((with_reducible refine ungd_build 52 _ _ ?hw ?_); case hw => rfl)
    | ((with_reducible refine ungd_bs 27 1 _ _ ?hw ?_); case hw => rfl)
    | ((with_reducible refine ungd_bs 47 1 _ _ ?hw ?_); case hw => rfl)
    | ((with_reducible refine ungd_bs 41 1 _ _ ?hw ?_); case hw => rfl)
    | ((with_reducible refine at_build 36 ?_); refine wpList_built rfl 36 _ rfl [(0, .int .i64 1), (1, .int .i64 7)] _ rfl bw1 ?_)
    | ((with_reducible refine at_build 36 ?_); refine wpList_built rfl 36 _ rfl [(0, .int .i64 4), (1, .int .i64 7), (2, .int .i64 1), (5, .int .i64 80)] _ rfl bw2 ?_)
    | ((with_reducible refine at_build 36 ?_); refine wpList_built rfl 36 _ rfl [(0, .int .i64 5), (1, .int .i64 7), (3, .string ⟨#[97, 98]⟩)] _ rfl bw3 ?_)
    | ((with_reducible refine at_build 36 ?_); refine wpList_built rfl 36 _ rfl [(0, .int .i64 6), (1, .int .i64 7)] _ rfl bw4 ?_)
    | ((with_reducible refine at_build 36 ?_); refine wpList_built rfl 36 _ rfl [(0, .int .i64 7), (1, .int .i64 7)] _ rfl bw5 ?_)
    | ((with_reducible refine at_bs 22 5 ?_); refine wpList_buildR rtO rfl 5 _ rfl (rO AW) rfl (rO_lens okO_AW) rfl (by omega) ?_)
    | ((with_reducible refine at_bs 27 1 ?_); refine wpList_build1 rtE rfl _ rfl (encE (7, 1)) rfl rfl ?_)
    | ((with_reducible refine at_bs 47 1 ?_); refine wpList_build1 rtT rfl _ rfl (encT ⟨noAd, 80⟩) lenT0 rfl ?_)
    | ((with_reducible refine at_bs 41 1 ?_); refine wpList_build1 rtS rfl _ rfl (encS ⟨0, 0, .slice (some ⟨w.heap.size, 0, none⟩) 5 5, AW⟩) rfl rfl ?_)
    | ((with_reducible refine at_build 46 ?_); refine wpList_built rfl 46 _ rfl [(2, .int .i64 80)] _ rfl bwT ?_)
    | ((with_reducible refine at_build 52 ?_); refine wpList_built rfl 52 _ rfl [(2, _)] _ rfl (bwS _ _ _ AW) ?_))
  have hcon := ofc_any _ w.heap.size AW 7 _ RD.out okO_AW (by decide)
  rw [aw7] at hcon
  refine hcon.mono ?_
  clear hcon
  rintro e w9 ⟨v9, rfl, o9, t9⟩
  have T9 := Lib.hid (T8.out.trans t9 (by simp))
  have RD := Lib.hid (RD.out.touch t9 (by simp))
  obtain ⟨a9, c9, rfl, _, _, _⟩ := owns_form o9.row
  rw [aw8]
  clear o9
  have RSV := Lib.hid (Rd.one (heap_alloc_new w9 (.cells (encS ⟨0, 0, .slice (some ⟨w.heap.size, 0, none⟩) 5 5, AW⟩).toArray 52)) (k := 3) rfl)
  have T9a := Lib.hid (T9.out.alloc (.cells (encS ⟨0, 0, .slice (some ⟨w.heap.size, 0, none⟩) 5 5, AW⟩).toArray 52))
  have RD := Lib.hid (RD.out.touch ((Touch.refl [] w9).alloc (.cells (encS ⟨0, 0, .slice (some ⟨w.heap.size, 0, none⟩) 5 5, AW⟩).toArray 52)) (by simp))
  clear t9
  go_wp2_with (first
    | ((with_reducible refine ungd_build 36 _ _ ?hw ?_); case hw => rfl)
    | ((with_reducible refine ungd_build 46 _ _ ?hw ?_); case hw => rfl)
    | ((with_reducible refine ungd_build 52 _ _ ?hw ?_); case hw => rfl)
    | ((with_reducible refine ungd_bs 27 1 _ _ ?hw ?_); case hw => rfl)
    | ((with_reducible refine ungd_bs 47 1 _ _ ?hw ?_); case hw => rfl)
    | ((with_reducible refine ungd_bs 41 1 _ _ ?hw ?_); case hw => rfl)
    | ((with_reducible refine at_build 36 ?_); refine wpList_built rfl 36 _ rfl [(0, .int .i64 1), (1, .int .i64 7)] _ rfl bw1 ?_)
    | ((with_reducible refine at_build 36 ?_); refine wpList_built rfl 36 _ rfl [(0, .int .i64 4), (1, .int .i64 7), (2, .int .i64 1), (5, .int .i64 80)] _ rfl bw2 ?_)
    | ((with_reducible refine at_build 36 ?_); refine wpList_built rfl 36 _ rfl [(0, .int .i64 5), (1, .int .i64 7), (3, .string ⟨#[97, 98]⟩)] _ rfl bw3 ?_)
    | ((with_reducible refine at_build 36 ?_); refine wpList_built rfl 36 _ rfl [(0, .int .i64 6), (1, .int .i64 7)] _ rfl bw4 ?_)
    | ((with_reducible refine at_build 36 ?_); refine wpList_built rfl 36 _ rfl [(0, .int .i64 7), (1, .int .i64 7)] _ rfl bw5 ?_)
    | ((with_reducible refine at_bs 22 5 ?_); refine wpList_buildR rtO rfl 5 _ rfl (rO AW) rfl (rO_lens okO_AW) rfl (by omega) ?_)
    | ((with_reducible refine at_bs 27 1 ?_); refine wpList_build1 rtE rfl _ rfl (encE (7, 1)) rfl rfl ?_)
    | ((with_reducible refine at_bs 47 1 ?_); refine wpList_build1 rtT rfl _ rfl (encT ⟨noAd, 80⟩) lenT0 rfl ?_)
    | ((with_reducible refine at_bs 41 1 ?_); refine wpList_build1 rtS rfl _ rfl (encS ⟨0, 0, .slice (some ⟨w.heap.size, 0, none⟩) 5 5, AW⟩) rfl rfl ?_)
    | ((with_reducible refine at_build 46 ?_); refine wpList_built rfl 46 _ rfl [(2, .int .i64 80)] _ rfl bwT ?_)
    | ((with_reducible refine at_build 52 ?_); refine wpList_built rfl 52 _ rfl [(2, _)] _ rfl (bwS _ _ _ AW) ?_))
  have hcon := cat_any _ _ [⟨0, 0, .slice (some ⟨w.heap.size, 0, none⟩) 5 5, AW⟩] _ RSV.out (by intro r hr; simp only [List.mem_singleton] at hr; subst hr; exact ⟨⟨_, RD.out⟩, okO_AW, rfl⟩) (by simp) (by simp [catS, AW])
  refine hcon.mono ?_
  clear hcon
  rintro e wa ⟨va, rfl, oa, ta⟩
  have Ta := Lib.hid (T9a.out.trans ta (by simp))
  obtain ⟨aa, ca, rfl, _, _, _⟩ := owns_form oa.row
  rw [show (rO (catS [⟨0, 0, .slice (some ⟨w.heap.size, 0, none⟩) 5 5, AW⟩])).length = 5 by simp [rO, catS, AW]]
  clear oa
  clear ta
  go_wp2_with (first
    | ((with_reducible refine ungd_build 36 _ _ ?hw ?_); case hw => rfl)
    | ((with_reducible refine ungd_build 46 _ _ ?hw ?_); case hw => rfl)
    | ((with_reducible refine ungd_build 52 _ _ ?hw ?_); case hw => rfl)
    | ((with_reducible refine ungd_bs 27 1 _ _ ?hw ?_); case hw => rfl)
    | ((with_reducible refine ungd_bs 47 1 _ _ ?hw ?_); case hw => rfl)
    | ((with_reducible refine ungd_bs 41 1 _ _ ?hw ?_); case hw => rfl)
    | ((with_reducible refine at_build 36 ?_); refine wpList_built rfl 36 _ rfl [(0, .int .i64 1), (1, .int .i64 7)] _ rfl bw1 ?_)
    | ((with_reducible refine at_build 36 ?_); refine wpList_built rfl 36 _ rfl [(0, .int .i64 4), (1, .int .i64 7), (2, .int .i64 1), (5, .int .i64 80)] _ rfl bw2 ?_)
    | ((with_reducible refine at_build 36 ?_); refine wpList_built rfl 36 _ rfl [(0, .int .i64 5), (1, .int .i64 7), (3, .string ⟨#[97, 98]⟩)] _ rfl bw3 ?_)
    | ((with_reducible refine at_build 36 ?_); refine wpList_built rfl 36 _ rfl [(0, .int .i64 6), (1, .int .i64 7)] _ rfl bw4 ?_)
    | ((with_reducible refine at_build 36 ?_); refine wpList_built rfl 36 _ rfl [(0, .int .i64 7), (1, .int .i64 7)] _ rfl bw5 ?_)
    | ((with_reducible refine at_bs 22 5 ?_); refine wpList_buildR rtO rfl 5 _ rfl (rO AW) rfl (rO_lens okO_AW) rfl (by omega) ?_)
    | ((with_reducible refine at_bs 27 1 ?_); refine wpList_build1 rtE rfl _ rfl (encE (7, 1)) rfl rfl ?_)
    | ((with_reducible refine at_bs 47 1 ?_); refine wpList_build1 rtT rfl _ rfl (encT ⟨noAd, 80⟩) lenT0 rfl ?_)
    | ((with_reducible refine at_bs 41 1 ?_); refine wpList_build1 rtS rfl _ rfl (encS ⟨0, 0, .slice (some ⟨w.heap.size, 0, none⟩) 5 5, AW⟩) rfl rfl ?_)
    | ((with_reducible refine at_build 46 ?_); refine wpList_built rfl 46 _ rfl [(2, .int .i64 80)] _ rfl bwT ?_)
    | ((with_reducible refine at_build 52 ?_); refine wpList_built rfl 52 _ rfl [(2, _)] _ rfl (bwS _ _ _ AW) ?_))
  go_ret
  exact ⟨rfl, Ta.out⟩
end Go.Proofs.Ytmdnkhpkpmbeoaa

/-
  The walk of TraceMatchesModel: true at every trace and connection.
-/
namespace Go.Proofs.Ytmdnkhpkpmbeoaa
open Go.RowKit Go.Sort Go.Shelf
set_option linter.unusedVariables false
set_option linter.unusedSimpArgs false

theorem someT_few (l : List O) (m : Nat) : (someT l m).length ≤ m := by simp [someT]; omega
theorem rO_take (l : List O) (n : Nat) : rO (l.take n) = (rO l).take n := by simp [rO]
theorem gmod2_ok (c : Int) : wf (gmod c 2) := wf_small (by have := gmod_lo c 2 (by omega); omega) (by have := gmod_hi c 2 (by omega); omega)
set_option maxRecDepth 100000 in
set_option maxHeartbeats 4000000 in
theorem walk3 (v : Value) (b : Nat) (l : List O) (c : Int) (hc : wf c) (w : World) (hr : Rd w 23 b v (rO l)) (hok : ∀ o ∈ l, OkO o) :
    Calls Try.prog 3 #[v, .int .i64 c] w fun e w' => e = .returned (.bool true) ∧ Touch [] w w' := by
  obtain ⟨a, cap, rfl, hcp, hcm⟩ := hr.form
  have H0 := Lib.hid hr
  have OK := Lib.hid hok
  have HC := Lib.hid hc
  rw [rO_len] at hcp H0 ⊢
  clear hr hok hc
  obtain ⟨n, hn⟩ : ∃ n, n = min l.length 40 := ⟨_, rfl⟩
  have hnI : min (l.length : Int) 40 = (n : Int) := by omega
  have hn1 : n ≤ l.length := by omega
  have hn2 : n ≤ 40 := by omega
  have hcap2 : cap ≤ 9223372036854775807 := by unfold maxLen at hcm; omega
  have hncap : n ≤ cap := by omega
  have HTK : Hid (Rd w 23 b (.slice a n cap) (rO (l.take n))) := Lib.hid (by rw [rO_take]; exact H0.out.take n (by rw [rO_len]; exact hn1))
  clear hn hcm
  go_enter Try.func3, Try.ntmps3
  go_wp2_with fail
  go_loopw [6] (fun vi wr => ∃ (i : Nat), vi = .int .i64 i ∧ i ≤ 12 ∧ i ≤ n + 1 ∧ Touch [] w wr) (fun vi _ => 12 - (intOf vi).toNat)
  case atStart => exact ⟨0, rfl, by omega, by omega, Touch.refl _ _⟩
  case round =>
    obtain ⟨i, rfl, hi12, hin, ht⟩ := hrel
    have HT := Lib.hid ht
    clear ht
    have fin : ∀ (K : Prop), K → K := fun _ h => h
    by_cases h1 : i ≤ n ∧ i < 12
    · have hb1 : (i : Int) ≤ (n : Int) := by omega
      have hb2 : (i : Int) < 12 := by omega
      have hwi : IntKind.i64.wrap ((i : Int) + 1) = (i : Int) + 1 := by rw [IntKind.wrap_i64] <;> omega
      go_wp2_with fail
      refine (trace_any _ b l i _ (H0.out.touch HT.out (by simp)) OK.out (by omega)).mono ?_
      rintro e w1 ⟨v1, rfl, o1, t1⟩
      have T1 := Lib.hid (HT.out.trans t1 (by simp))
      have R1 := Lib.hid (o1.rd (rO_lens (someT_ok OK.out i)))
      clear o1 t1
      go_wp2_with fail
      refine (mod_any _ _ _ (by omega) (by omega)).mono ?_
      rintro e w2 ⟨rfl, rfl⟩
      go_wp2_with fail
      refine (agrees_any v1 _ (someT l i) (gmod c 2) (gmod2_ok c) _ R1.out (someT_ok OK.out i) (by have := someT_few l i; omega)).mono ?_
      rintro e w3 ⟨rfl, t3⟩
      have T3 := Lib.hid (T1.out.trans t3 (by simp))
      clear t3
      go_wp2_with fail
      go_roundw
      case rel => exact ⟨i + 1, by simp, by omega, by omega, T3.out⟩
      case measure => simp [intOf]; omega
    · have TL : ∀ (Q : Prop), (∀ (w9 : World), Touch [] w w9 → Q) → Q := fun _ h => h wr HT.out
      clear TL fin
      have hcond : (decide ((i : Int) ≤ (n : Int)) && decide ((i : Int) < 12)) = false := by
        by_cases hA : (i : Int) ≤ (n : Int)
        · have hB : ¬ (i : Int) < 12 := by omega
          simp [hA, hB]
        · simp [hA]
      by_cases hA : (i : Int) ≤ (n : Int)
      · have hB : ¬ (i : Int) < 12 := by omega
        clear hcond h1
        go_wp2_with fail
        refine (awake_any _).mono ?_
        rintro e w1 ⟨rfl, t1⟩
        have T1 := Lib.hid (HT.out.trans t1 (by simp))
        clear t1
        go_wp2_with fail
        refine (agrees_any _ b (l.take n) c HC.out _ (HTK.out.touch T1.out (by simp)) (fun o ho => OK.out o (List.mem_of_mem_take ho)) (by simp; omega)).mono ?_
        rintro e w2 ⟨rfl, t2⟩
        have T2 := Lib.hid (T1.out.trans t2 (by simp))
        clear t2
        go_wp2_with fail
        refine (trace_any _ b l n _ (H0.out.touch T2.out (by simp)) OK.out (by omega)).mono ?_
        rintro e w3 ⟨v3, rfl, o3, t3⟩
        have T3 := Lib.hid (T2.out.trans t3 (by simp))
        have R3 := Lib.hid (o3.rd (rO_lens (someT_ok OK.out n)))
        clear o3 t3
        go_wp2_with fail
        refine (mod_any _ _ _ (by omega) (by omega)).mono ?_
        rintro e w4 ⟨rfl, rfl⟩
        go_wp2_with fail
        refine (agrees_any v3 _ (someT l n) (gmod c 2) (gmod2_ok c) _ R3.out (someT_ok OK.out n) (by have := someT_few l n; omega)).mono ?_
        rintro e w5 ⟨rfl, t5⟩
        have T5 := Lib.hid (T3.out.trans t5 (by simp))
        clear t5
        go_wp2_with fail
        go_ret
        exact ⟨rfl, T5.out⟩
      · clear hcond h1
        go_wp2_with fail
        refine (awake_any _).mono ?_
        rintro e w1 ⟨rfl, t1⟩
        have T1 := Lib.hid (HT.out.trans t1 (by simp))
        clear t1
        go_wp2_with fail
        refine (agrees_any _ b (l.take n) c HC.out _ (HTK.out.touch T1.out (by simp)) (fun o ho => OK.out o (List.mem_of_mem_take ho)) (by simp; omega)).mono ?_
        rintro e w2 ⟨rfl, t2⟩
        have T2 := Lib.hid (T1.out.trans t2 (by simp))
        clear t2
        go_wp2_with fail
        refine (trace_any _ b l n _ (H0.out.touch T2.out (by simp)) OK.out (by omega)).mono ?_
        rintro e w3 ⟨v3, rfl, o3, t3⟩
        have T3 := Lib.hid (T2.out.trans t3 (by simp))
        have R3 := Lib.hid (o3.rd (rO_lens (someT_ok OK.out n)))
        clear o3 t3
        go_wp2_with fail
        refine (mod_any _ _ _ (by omega) (by omega)).mono ?_
        rintro e w4 ⟨rfl, rfl⟩
        go_wp2_with fail
        refine (agrees_any v3 _ (someT l n) (gmod c 2) (gmod2_ok c) _ R3.out (someT_ok OK.out n) (by have := someT_few l n; omega)).mono ?_
        rintro e w5 ⟨rfl, t5⟩
        have T5 := Lib.hid (T3.out.trans t5 (by simp))
        clear t5
        go_wp2_with fail
        go_ret
        exact ⟨rfl, T5.out⟩
end Go.Proofs.Ytmdnkhpkpmbeoaa

/-
  Overwrite at the three types.
-/
namespace Go.Proofs.Ytmdnkhpkpmbeoaa
open Go.RowKit Go.Deep
set_option linter.unusedVariables false
set_option linter.unusedSimpArgs false

def zE : List Value := encE (0, 0)
def zT : List Value := encT ⟨noAd, 0⟩
set_option maxRecDepth 100000 in
set_option maxHeartbeats 4000000 in
theorem overE (v : Value) (xs : List (List Value)) (w0 w : World) (hv : OwnR 30 2 w0 w v xs) (hl : xs.length ≤ 1000) :
    Calls Try.prog 19 #[v] w fun e w' => e = .returned (.tuple #[]) ∧ Touch v.ownBlock.toList w w' := by
  obtain ⟨a, c, rfl, hc1, hc2, _⟩ := owns_form hv.row
  go_enter Try.func19, Try.ntmps19
  go_wp2_with fail
  go_loopw [3] (fun vi wr => ∃ (k : Nat), k ≤ xs.length ∧ vi = .int .i64 k ∧ Touch ((Value.slice a xs.length c).ownBlock).toList w wr ∧ w.heap.size < wr.heap.size ∧ wr.rangeAt w.heap.size 0 zE ∧
      (∀ g, a = some ⟨g, 0, none⟩ → 0 < xs.length → ∃ cur : List Value, wr.heap[g]? = some (.cells cur.toArray 30 (0, 0)) ∧ xs.length * 2 ≤ cur.length))
    (fun vi _ => xs.length - (intOf vi).toNat)
  case atStart =>
    refine ⟨0, by omega, rfl, (Touch.refl _ _).alloc _, by simp, range_new w zE 30, fun g hg hx => ?_⟩
    subst hg
    rcases hv.row.2 with ⟨h1, _⟩ | ⟨g', cap, cur, h1, _, h2, h3, h4, h5, h6⟩
    · simp at h1
    · simp at h1
      obtain ⟨rfl, rfl⟩ := h1
      have hgl := (hv.row.lt g rfl).2
      refine ⟨cur.toList, by rw [Below.heap_alloc _ _ _ hgl, h2], by simp [h5]; omega⟩
  case round =>
    obtain ⟨k, hk, rfl, ht, hz, hrz, hcur⟩ := hrel
    by_cases hlt : k < xs.length
    · obtain ⟨a', c', h1, _, _, h3⟩ := owns_form hv.row
      simp only [Value.slice.injEq] at h1
      obtain ⟨rfl, _, rfl⟩ := h1
      obtain ⟨g, rfl⟩ := h3 (by omega)
      obtain ⟨cur, hg, hcl⟩ := hcur g rfl (by omega)
      have hgw := (hv.row.lt g rfl).2
      have hz17 : ∀ u ∈ zE, u.oneCell' = true := by decide
      have hzl : zE.length = 2 := by decide
      generalize zE = z at *
      have HZ := Lib.hid hzl
      clear hzl hcur h3
      have hbd : k * 2 + 2 ≤ cur.length := by omega
      go_wp2_with (first
        | (refine wpList_load_mid rfl 30 _ rfl w.heap.size 0 rfl z _ hrz Try.underlying30 rfl (by rw [infoE, HZ.out]) ?_)
        | (refine wpList_store_part rfl 30 _ _ rfl g (k * 2) 30 cur z rfl rfl hg (by rw [HZ.out]; exact hbd) (by rw [infoE, HZ.out]) hz17 ?_))
      intro w2 hg2 t2 s2
      have HZ2 := HZ.out
      have hn : w.heap.size ∉ [g] := by simp; omega
      have rel2 : Touch ((Value.slice (some ⟨g, 0, none⟩) xs.length c).ownBlock).toList w w2 := ht.trans t2 (by intro x hx; left; simpa [Value.ownBlock] using hx)
      have rz2 := t2.range hrz hn
      go_wp2_with fail
      go_roundw
      case rel =>
        refine ⟨k + 1, by omega, by go_num, rel2, by omega, rz2, fun g' hg' _ => ?_⟩
        cases hg'
        refine ⟨_, hg2, ?_⟩
        simp [HZ2]
        omega
      case measure => simp [intOf]; omega
    · go_wp2_with fail
      go_end0
      exact ⟨rfl, ht⟩

set_option maxRecDepth 100000 in
set_option maxHeartbeats 4000000 in
theorem overO (v : Value) (xs : List (List Value)) (w0 w : World) (hv : OwnR 36 23 w0 w v xs) (hl : xs.length ≤ 1000) :
    Calls Try.prog 12 #[v] w fun e w' => e = .returned (.tuple #[]) ∧ Touch v.ownBlock.toList w w' := by
  obtain ⟨a, c, rfl, hc1, hc2, _⟩ := owns_form hv.row
  go_enter Try.func12, Try.ntmps12
  go_wp2_with fail
  go_loopw [3] (fun vi wr => ∃ (k : Nat), k ≤ xs.length ∧ vi = .int .i64 k ∧ Touch ((Value.slice a xs.length c).ownBlock).toList w wr ∧ w.heap.size < wr.heap.size ∧ wr.rangeAt w.heap.size 0 zO ∧
      (∀ g, a = some ⟨g, 0, none⟩ → 0 < xs.length → ∃ cur : List Value, wr.heap[g]? = some (.cells cur.toArray 36 (0, 0)) ∧ xs.length * 23 ≤ cur.length))
    (fun vi _ => xs.length - (intOf vi).toNat)
  case atStart =>
    refine ⟨0, by omega, rfl, (Touch.refl _ _).alloc _, by simp, range_new w zO 36, fun g hg hx => ?_⟩
    subst hg
    rcases hv.row.2 with ⟨h1, _⟩ | ⟨g', cap, cur, h1, _, h2, h3, h4, h5, h6⟩
    · simp at h1
    · simp at h1
      obtain ⟨rfl, rfl⟩ := h1
      have hgl := (hv.row.lt g rfl).2
      refine ⟨cur.toList, by rw [Below.heap_alloc _ _ _ hgl, h2], by simp [h5]; omega⟩
  case round =>
    obtain ⟨k, hk, rfl, ht, hz, hrz, hcur⟩ := hrel
    by_cases hlt : k < xs.length
    · obtain ⟨a', c', h1, _, _, h3⟩ := owns_form hv.row
      simp only [Value.slice.injEq] at h1
      obtain ⟨rfl, _, rfl⟩ := h1
      obtain ⟨g, rfl⟩ := h3 (by omega)
      obtain ⟨cur, hg, hcl⟩ := hcur g rfl (by omega)
      have hgw := (hv.row.lt g rfl).2
      have hz17 : ∀ u ∈ zO, u.oneCell' = true := by decide
      have hzl : zO.length = 23 := by decide
      generalize zO = z at *
      have HZ := Lib.hid hzl
      clear hzl hcur h3
      have hbd : k * 23 + 23 ≤ cur.length := by omega
      go_wp2_with (first
        | (refine wpList_load_mid rfl 36 _ rfl w.heap.size 0 rfl z _ hrz Try.underlying36 rfl (by rw [infoO, HZ.out]) ?_)
        | (refine wpList_store_part rfl 36 _ _ rfl g (k * 23) 36 cur z rfl rfl hg (by rw [HZ.out]; exact hbd) (by rw [infoO, HZ.out]) hz17 ?_))
      intro w2 hg2 t2 s2
      have HZ2 := HZ.out
      have hn : w.heap.size ∉ [g] := by simp; omega
      have rel2 : Touch ((Value.slice (some ⟨g, 0, none⟩) xs.length c).ownBlock).toList w w2 := ht.trans t2 (by intro x hx; left; simpa [Value.ownBlock] using hx)
      have rz2 := t2.range hrz hn
      go_wp2_with fail
      go_roundw
      case rel =>
        refine ⟨k + 1, by omega, by go_num, rel2, by omega, rz2, fun g' hg' _ => ?_⟩
        cases hg'
        refine ⟨_, hg2, ?_⟩
        simp [HZ2]
        omega
      case measure => simp [intOf]; omega
    · go_wp2_with fail
      go_end0
      exact ⟨rfl, ht⟩

set_option maxRecDepth 100000 in
set_option maxHeartbeats 4000000 in
theorem overT (v : Value) (xs : List (List Value)) (w0 w : World) (hv : OwnR 46 19 w0 w v xs) (hl : xs.length ≤ 1000) :
    Calls Try.prog 20 #[v] w fun e w' => e = .returned (.tuple #[]) ∧ Touch v.ownBlock.toList w w' := by
  obtain ⟨a, c, rfl, hc1, hc2, _⟩ := owns_form hv.row
  go_enter Try.func20, Try.ntmps20
  go_wp2_with fail
  go_loopw [3] (fun vi wr => ∃ (k : Nat), k ≤ xs.length ∧ vi = .int .i64 k ∧ Touch ((Value.slice a xs.length c).ownBlock).toList w wr ∧ w.heap.size < wr.heap.size ∧ wr.rangeAt w.heap.size 0 zT ∧
      (∀ g, a = some ⟨g, 0, none⟩ → 0 < xs.length → ∃ cur : List Value, wr.heap[g]? = some (.cells cur.toArray 46 (0, 0)) ∧ xs.length * 19 ≤ cur.length))
    (fun vi _ => xs.length - (intOf vi).toNat)
  case atStart =>
    refine ⟨0, by omega, rfl, (Touch.refl _ _).alloc _, by simp, range_new w zT 46, fun g hg hx => ?_⟩
    subst hg
    rcases hv.row.2 with ⟨h1, _⟩ | ⟨g', cap, cur, h1, _, h2, h3, h4, h5, h6⟩
    · simp at h1
    · simp at h1
      obtain ⟨rfl, rfl⟩ := h1
      have hgl := (hv.row.lt g rfl).2
      refine ⟨cur.toList, by rw [Below.heap_alloc _ _ _ hgl, h2], by simp [h5]; omega⟩
  case round =>
    obtain ⟨k, hk, rfl, ht, hz, hrz, hcur⟩ := hrel
    by_cases hlt : k < xs.length
    · obtain ⟨a', c', h1, _, _, h3⟩ := owns_form hv.row
      simp only [Value.slice.injEq] at h1
      obtain ⟨rfl, _, rfl⟩ := h1
      obtain ⟨g, rfl⟩ := h3 (by omega)
      obtain ⟨cur, hg, hcl⟩ := hcur g rfl (by omega)
      have hgw := (hv.row.lt g rfl).2
      have hz17 : ∀ u ∈ zT, u.oneCell' = true := by decide
      have hzl : zT.length = 19 := by decide
      generalize zT = z at *
      have HZ := Lib.hid hzl
      clear hzl hcur h3
      have hbd : k * 19 + 19 ≤ cur.length := by omega
      go_wp2_with (first
        | (refine wpList_load_mid rfl 46 _ rfl w.heap.size 0 rfl z _ hrz Try.underlying46 rfl (by rw [infoT, HZ.out]) ?_)
        | (refine wpList_store_part rfl 46 _ _ rfl g (k * 19) 46 cur z rfl rfl hg (by rw [HZ.out]; exact hbd) (by rw [infoT, HZ.out]) hz17 ?_))
      intro w2 hg2 t2 s2
      have HZ2 := HZ.out
      have hn : w.heap.size ∉ [g] := by simp; omega
      have rel2 : Touch ((Value.slice (some ⟨g, 0, none⟩) xs.length c).ownBlock).toList w w2 := ht.trans t2 (by intro x hx; left; simpa [Value.ownBlock] using hx)
      have rz2 := t2.range hrz hn
      go_wp2_with fail
      go_roundw
      case rel =>
        refine ⟨k + 1, by omega, by go_num, rel2, by omega, rz2, fun g' hg' _ => ?_⟩
        cases hg'
        refine ⟨_, hg2, ?_⟩
        simp [HZ2]
        omega
      case measure => simp [intOf]; omega
    · go_wp2_with fail
      go_end0
      exact ⟨rfl, ht⟩

end Go.Proofs.Ytmdnkhpkpmbeoaa

/-
  WithSpare and Unchanged at outputs.
-/
namespace Go.Proofs.Ytmdnkhpkpmbeoaa
open Go.RowKit Go.Deep
set_option linter.unusedVariables false
set_option linter.unusedSimpArgs false

def OutRow (x : List Value) : Prop := x.length = 23 ∧ ∀ u ∈ x, u.oneCell' = true
set_option maxRecDepth 100000 in
set_option maxHeartbeats 4000000 in
theorem spareO (v : Value) (b : Nat) (xs : List (List Value)) (f : List Value) (w : World) (hl : xs.length ≤ 1000) (hv : Rd w 23 b v xs) (hxs : ∀ x ∈ xs, OutRow x) (hf : OutRow f) :
    Calls Try.prog 18 #[v, .agg f.toArray] w fun e w' => ∃ g, e = .returned (.slice (some ⟨g, 0, none⟩) xs.length (xs.length + 3)) ∧ w.heap.size ≤ g ∧
      Rd w' 23 g (.slice (some ⟨g, 0, none⟩) (xs.length + 3) (xs.length + 3)) (xs ++ [f, f, f]) ∧ Touch [] w w' := by
  obtain ⟨a, cap, rfl, hlc, hcm⟩ := hv.form
  clear hcm hlc
  have HL := Lib.hid hf.1
  have HXL := Lib.hid (fun x hx => (hxs x hx).1)
  have HX1 := Lib.hid (show ∀ u ∈ xs.flatten, u.oneCell' = true by
    intro u hu
    obtain ⟨x, hx, hu⟩ := List.mem_flatten.1 hu
    exact (hxs x hx).2 u hu)
  have HFL := Lib.hid (show ∀ x ∈ [f, f, f], x.length = 23 by
    intro x hx
    simp only [List.mem_cons, List.not_mem_nil, or_false, or_self] at hx
    subst hx
    exact hf.1)
  have HF1 := Lib.hid (show ∀ u ∈ [f, f, f].flatten, u.oneCell' = true by
    intro u hu
    obtain ⟨x, hx, hu⟩ := List.mem_flatten.1 hu
    simp only [List.mem_cons, List.not_mem_nil, or_false, or_self] at hx
    rw [hx] at hu
    exact hf.2 u hu)
  have TA := (Touch.refl [] w).alloc (.cells f.toArray 36)
  have HR := range_new w f 36
  have hzA : (w.alloc (.cells f.toArray 36)).heap.size = w.heap.size + 1 := by simp
  generalize hwA : w.alloc (.cells f.toArray 36) = wA at *
  have TM := TA.alloc (.cells #[] 36)
  have HM : OwnR 36 23 wA (wA.alloc (.cells #[] 36)) (.slice (some ⟨wA.heap.size, 0, none⟩) 0 0) [] := by
    refine ⟨?_, fun g hg => ?_⟩
    · have := World.ownsRow_made (base := 0) (e := 36) (size := 23) wA #[] 0 (Nat.zero_le _) (by simp [maxLen]) (by simp)
      simpa using this
    · simp [Value.ownBlock] at hg
      omega
  have HV := hv.touch TM (by simp)
  have HR := World.rangeAt_alloc HR (.cells #[] 36)
  have TM := Lib.hid TM
  have HM := Lib.hid HM
  have HV := Lib.hid HV
  have HR := Lib.hid HR
  clear TA hv
  subst hwA
  have HM := Lib.hid (by have := HM.out; simp only [World.size_alloc] at this; exact this)
  go_enter Try.func18, Try.ntmps18
  go_wp2_with (first
      | ((with_reducible refine at_bs 22 0 ?_); refine wpList_buildR rtO rfl 0 _ rfl [] rfl (by simp) (by rfl) (by omega) ?_)
      | (at_builtin; refine wpList_appR rtO _ rfl _ _ (by rfl) _ [] (by rfl) HM.out (by simp) b (.slice a xs.length cap) xs (by rfl) HV.out HXL.out HX1.out (by simp; omega) ?_))
  intro v1 w1 o1 t1
  try simp only [List.nil_append] at o1
  have HO1 := o1
  have TA : Touch [] w w1 := TM.out.trans t1 (by intro y hy; right; have := HM.out.new y (by simpa using hy); omega)
  have TB := TA.alloc (.cells [f, f, f].flatten.toArray 36)
  have HO1 := Lib.hid (HO1.touch0 ((Touch.refl [] w1).alloc (.cells [f, f, f].flatten.toArray 36)))
  have HR : Hid (w1.rangeAt w.heap.size 0 f) := Lib.hid (t1.range HR.out (by
    intro hm
    have := HM.out.new _ (by simpa using hm)
    omega))
  have HZ1 := Lib.hid (show (w.alloc (.cells f.toArray 36)).heap.size ≤ w1.heap.size by have := t1.size; simp at this; omega)
  have TB := Lib.hid TB
  have HF3 : Hid (Rd (w1.alloc (.cells [f, f, f].flatten.toArray 36)) 23 w1.heap.size (.slice (some ⟨w1.heap.size, 0, none⟩) 3 3) [f, f, f]) := Lib.hid (Rd.new (T := 36) (xs := [f, f, f]) (heap_alloc_new w1 _) HFL.out (by simp))
  clear TA o1 t1 HM TM HV
  go_wp2_with (first
      | ((with_reducible refine at_load 36 ?_); refine wpList_load_mid rfl 36 _ rfl w.heap.size 0 rfl f _ HR.out Try.underlying36 rfl (by rw [infoO, HL.out]) ?_)
      | ((with_reducible refine at_bs 22 3 ?_); refine wpList_buildR rtO rfl 3 _ rfl [f, f, f] rfl HFL.out (by rfl) (by omega) ?_)
      | (at_builtin; go_loud (refine wpList_appR rtO _ rfl _ _ (by rfl) v1 xs (by rfl) HO1.out (by have := HZ1.out; simp; omega) w1.heap.size (.slice (some ⟨w1.heap.size, 0, none⟩) 3 3) [f, f, f] (by rfl) HF3.out HFL.out HF1.out (by simp; omega) ?_)))
  intro v2 w2 o2 t2
  rw [show f ++ (f ++ f) = [f, f, f].flatten by simp] at t2
  have TC : Touch [] w w2 := TB.out.trans t2 (by intro y hy; right; have := HO1.out.new y (by simpa using hy); omega)
  obtain ⟨a2, c2, rfl, hc1, hc2, h3⟩ := owns_form o2.row
  obtain ⟨g, rfl⟩ := h3 (by simp)
  have hc3 : c2 ≤ 9223372036854775807 := by unfold maxLen at hc2; omega
  have hall : ∀ x ∈ xs ++ [f, f, f], x.length = 23 := by
    intro x hx
    rcases List.mem_append.1 hx with h | h
    · exact HXL.out x h
    · exact HFL.out x h
  have hd := o2.rd hall
  have hg : w.heap.size ≤ g := by have := o2.new g rfl; omega
  have hlen : (xs ++ [f, f, f]).length = xs.length + 3 := by simp
  rw [hlen] at hd hc1 ⊢
  have hd2 : Rd w2 23 g (.slice (some ⟨g, 0, none⟩) (xs.length + 3) (xs.length + 3)) (xs ++ [f, f, f]) := by
    obtain ⟨off, h1, h2⟩ := hd.at (by simp)
    simp at h1
    obtain ⟨h0, rfl⟩ := h1
    exact ⟨some ⟨g, 0, none⟩, xs.length + 3, by simp, by simp, by unfold maxLen; omega, by simp, fun _ => ⟨0, rfl, h2⟩⟩
  have HD := Lib.hid hd2
  clear hd hd2 o2 t2 hall hlen
  go_wp2_with fail
  go_ret
  exact ⟨g, rfl, hg, HD.out, TC⟩
set_option maxRecDepth 100000 in
set_option maxHeartbeats 4000000 in
theorem unchangedO (g b2 : Nat) (v2 : Value) (xs : List (List Value)) (f : List Value) (w : World) (hl : xs.length ≤ 1000) (hd : Rd w 23 g (.slice (some ⟨g, 0, none⟩) (xs.length + 3) (xs.length + 3)) (xs ++ [f, f, f])) (h2 : Rd w 23 b2 v2 xs)
    (hxs : ∀ x ∈ xs, EqsO x) (hf : EqsO f) :
    Calls Try.prog 23 #[.slice (some ⟨g, 0, none⟩) xs.length (xs.length + 3), v2, .agg f.toArray] w fun e w' => e = .returned (.bool true) ∧ Touch [] w w' := by
  obtain ⟨a, cap, rfl, hlc, hcm⟩ := h2.form
  have hcm2 : cap ≤ 9223372036854775807 := by unfold maxLen at hcm; omega
  have d1 : Rd w 23 g (.slice (some ⟨g, 0, none⟩) xs.length (xs.length + 3)) xs := by
    have := hd.take xs.length (by simp)
    rw [List.take_left' rfl] at this
    exact this
  have tA := (Touch.refl [] w).alloc (.cells f.toArray 36)
  have hr := range_new w f 36
  have HL := Lib.hid hf.1
  have HEF := Lib.hid hf.2
  go_enter Try.func23, Try.ntmps23
  go_wp2_with fail
  refine (equalO _ _ g b2 xs _ (by omega) (d1.touch tA (by simp)) (h2.touch tA (by simp)) hxs).mono ?_
  rintro e w1 ⟨rfl, t1⟩
  have tB := tA.trans t1 (by simp)
  have hr1 := t1.range hr (by simp)
  have hd1 := hd.touch tB (by simp)
  clear hr hd d1 h2 t1 tA
  obtain ⟨off, h1, hat⟩ := hd1.at (by simp)
  simp at h1
  obtain rfl := h1
  have HAT := Lib.hid hat
  clear hat hd1
  go_wp2_with fail
  go_loopw [8] (fun vi wr => ∃ (j : Nat), j ≤ 3 ∧ vi = .int .i64 (xs.length + j : Nat) ∧ Touch [] w1 wr) (fun vi _ => xs.length + 3 - (intOf vi).toNat)
  case atStart => exact ⟨0, by omega, by simp, Touch.refl _ _⟩
  case round =>
    obtain ⟨j, hj, rfl, ht⟩ := hrel
    by_cases hlt : j < 3
    · have hx : (xs ++ [f, f, f])[xs.length + j]? = some f := by
        rw [List.getElem?_append_right (by omega), Nat.add_sub_cancel_left]
        match j, hlt with
        | 0, _ | 1, _ | 2, _ => rfl
      have hq := ht.range (HAT.out _ f hx) (by simp)
      simp only [Nat.zero_add] at hq
      have hq2 := ht.range hr1 (by simp)
      clear hx
      generalize hN : xs.length + j = N at *
      have HN := Lib.hid hN
      have hN1 : N < xs.length + 3 := by omega
      have hN2 : N ≤ 1003 := by omega
      clear hN
      go_wp2_with fail
      refine wp_region_still_tail 5 (by kernel_rfl) (by kernel_rfl) ?_
      simp only [List.take_succ_cons, List.take_zero, List.drop_succ_cons, List.drop_zero]
      iterate 3 still_step
      refine wpStill_load_mid rfl 36 _ rfl g (N * 23) rfl f _ hq Try.underlying36 rfl (by rw [infoO, HL.out]) ?_
      refine wpStill_load_mid rfl 36 _ rfl w.heap.size 0 rfl f _ hq2 Try.underlying36 rfl (by rw [infoO, HL.out]) ?_
      refine wpStill_nil ?_
      change wpList _ _ _ _ _ wr.drew
      go_wp2_with (refine wpList_neq_agg rfl 36 _ _ _ rfl f.toArray f.toArray rfl rfl (by kernel_rfl) true (HEF.out _) ?_)
      have hN3 := HN.out
      go_roundw
      case rel => exact ⟨j + 1, by omega, by rw [← Nat.add_assoc, hN3]; go_num, ht.drew⟩
      case measure => simp [intOf]; omega
    · go_wp2_with fail
      go_ret
      exact ⟨rfl, tB.trans ht (by simp)⟩
end Go.Proofs.Ytmdnkhpkpmbeoaa

/-
  What one connection's outputs tell: plain lists, no program in sight.
-/
namespace Go.Proofs.Ytmdnkhpkpmbeoaa
open Go.RowKit
set_option linter.unusedVariables false
set_option linter.unusedSimpArgs false

def fK (c : Int) (ks : List Key) : List Key := ks.filter fun k => decide (k.1 = c)
theorem mem_fK {c : Int} {ks : List Key} {x : Key} : x ∈ fK c ks ↔ x ∈ ks ∧ x.1 = c := by simp [fK]
theorem fK_next {l : List Key} {i : Nat} {k : Key} (c : Int) (h : l[i]? = some k) : fK c (l.take (i + 1)) = if k.1 = c then fK c (l.take i) ++ [k] else fK c (l.take i) := by
  rw [take_next h]
  unfold fK
  rw [List.filter_append]
  split <;> simp_all
theorem fK_len (c : Int) (ks : List Key) : (fK c ks).length ≤ ks.length := List.length_filter_le _ _
theorem fK_app {c : Int} {ks : List Key} {x : Key} (hx : x.1 = c) : fK c (ks ++ [x]) = fK c ks ++ [x] := by simp [fK, hx]
theorem fK_app0 {c : Int} {ks : List Key} {x : Key} (hx : ¬ x.1 = c) : fK c (ks ++ [x]) = fK c ks := by simp [fK, hx]
theorem fK_rem {c : Int} {ks : List Key} {x : Key} {all : Bool} : fK c (remK ks x all) = remK (fK c ks) x all := by
  unfold fK remK
  rw [List.filter_filter, List.filter_filter]
  exact List.filter_congr fun y _ => Bool.and_comm _ _
theorem fK_rem0 {c : Int} {ks : List Key} {x : Key} {all : Bool} (hx : ¬ x.1 = c) : fK c (remK ks x all) = fK c ks := by
  unfold fK remK
  rw [List.filter_filter]
  refine List.filter_congr fun y _ => ?_
  by_cases hy : y.1 = c
  · have h1 : ¬ y.1 = x.1 := fun e => hx (e ▸ hy)
    have h2 : y ≠ x := fun e => h1 (by rw [e])
    simp [hy, h2, h1]
    exact .inr fun h3 => hx h3.symm
  · simp [hy]
theorem pair_uniq : ∀ {a b : List Key}, a.Pairwise ltK → b.Pairwise ltK → (∀ x, x ∈ a ↔ x ∈ b) → a = b
  | [], [], _, _, _ => rfl
  | [], y :: b, _, _, h => absurd ((h y).2 (by simp)) (by simp)
  | x :: a, [], _, _, h => absurd ((h x).1 (by simp)) (by simp)
  | x :: a, y :: b, h1, h2, h => by
    rw [List.pairwise_cons] at h1 h2
    have hxy : x = y := by
      rcases List.mem_cons.1 ((h x).1 (by simp)) with e | e
      · exact e
      · rcases List.mem_cons.1 ((h y).2 (by simp)) with e' | e'
        · exact e'.symm
        · exact (ltK_irr (h1.1 y e') (h2.1 x e)).elim
    subst hxy
    rw [pair_uniq h1.2 h2.2]
    intro z
    constructor
    · intro hz
      rcases List.mem_cons.1 ((h z).1 (List.mem_cons_of_mem _ hz)) with e | e
      · subst e; exact (ltK_irr (h1.1 z hz) (h1.1 z hz)).elim
      · exact e
    · intro hz
      rcases List.mem_cons.1 ((h z).2 (List.mem_cons_of_mem _ hz)) with e | e
      · subst e; exact (ltK_irr (h2.1 z hz) (h2.1 z hz)).elim
      · exact e
theorem mem_lstep {ks : List Key} {o : O} {x : Key} : x ∈ lstep ks o ↔ if o.k = 7 then x ∈ ks ∧ x ≠ xL o else if o.k = 1 ∨ o.k = 4 then x ∈ ks ∨ x = xL o else x ∈ ks := by
  unfold lstep
  split
  · rw [mem_remK]
    simp
  · split
    · split
      · rename_i h
        constructor
        · exact .inl
        · rintro (h1 | rfl)
          · exact h1
          · exact h
      · exact mem_insK
    · rfl
theorem liveR_len (l : List O) : (liveR l).length ≤ l.length := by
  have key : ∀ (l : List O) (r : List Key), (l.foldl lstep r).length ≤ r.length + l.length := by
    intro l
    induction l with
    | nil => intro r; simp
    | cons o l ih =>
      intro r
      simp only [List.foldl_cons, List.length_cons]
      have h1 := ih (lstep r o)
      have h2 : (lstep r o).length ≤ r.length + 1 := by
        unfold lstep
        split
        · have := remK_len r (xL o) false
          omega
        · split
          · split
            · omega
            · rw [insK_len]; exact Nat.le_refl _
          · omega
      omega
  simpa [liveR] using key l []
theorem liveR_ok {l : List O} (h : ∀ o ∈ l, OkO o) : ∀ k ∈ liveR l, okK k := by
  have key : ∀ (l : List O) (r : List Key), (∀ o ∈ l, OkO o) → (∀ k ∈ r, okK k) → ∀ k ∈ l.foldl lstep r, okK k := by
    intro l
    induction l with
    | nil => intro r _ h2; exact h2
    | cons o l ih =>
      intro r h1 h2
      refine ih _ (fun o' ho => h1 o' (List.mem_cons_of_mem _ ho)) fun k hk => ?_
      have ho := h1 o (by simp)
      have hx : okK (xL o) := by
        refine ⟨ho.c, ?_⟩
        unfold xL
        split
        · exact wf_small (by omega) (by omega)
        · exact ho.a
      rw [mem_lstep] at hk
      split at hk
      · exact h2 k hk.1
      · split at hk
        · rcases hk with hk | rfl
          · exact h2 k hk
          · exact hx
        · exact h2 k hk
  exact key l [] h (by simp)
theorem live_conn (l : List O) (c : Int) : liveR (ofC l c) = fK c (liveR l) := by
  refine pair_uniq (live_same _).2.2 ((live_same l).2.2.sublist List.filter_sublist) ?_
  have key : ∀ (l : List O) (p r : List Key), (∀ x, x ∈ p ↔ x ∈ r ∧ x.1 = c) → ∀ x, x ∈ (ofC l c).foldl lstep p ↔ x ∈ l.foldl lstep r ∧ x.1 = c := by
    intro l
    induction l with
    | nil => intro p r h; exact h
    | cons o l ih =>
      intro p r h
      by_cases ho : o.c = c
      · have : ofC (o :: l) c = o :: ofC l c := by simp [ofC, ho]
        rw [this]
        simp only [List.foldl_cons]
        refine ih _ _ fun x => ?_
        have hx : (xL o).1 = c := ho
        rw [mem_lstep, mem_lstep]
        split
        · rw [h]
          constructor
          · rintro ⟨⟨h1, h2⟩, h3⟩; exact ⟨⟨h1, h3⟩, h2⟩
          · rintro ⟨⟨h1, h2⟩, h3⟩; exact ⟨⟨h1, h3⟩, h2⟩
        · split
          · rw [h]
            constructor
            · rintro (⟨h1, h2⟩ | rfl)
              · exact ⟨.inl h1, h2⟩
              · exact ⟨.inr rfl, hx⟩
            · rintro ⟨h1 | h1, h2⟩
              · exact .inl ⟨h1, h2⟩
              · exact .inr h1
          · exact h x
      · have : ofC (o :: l) c = ofC l c := by simp [ofC, ho]
        rw [this]
        simp only [List.foldl_cons]
        refine ih _ _ fun x => ?_
        rw [h, mem_lstep]
        have hx : ¬ (xL o).1 = c := ho
        split
        · constructor
          · rintro ⟨h1, h2⟩; exact ⟨⟨h1, fun e => hx (e ▸ h2)⟩, h2⟩
          · rintro ⟨⟨h1, _⟩, h2⟩; exact ⟨h1, h2⟩
        · split
          · constructor
            · rintro ⟨h1, h2⟩; exact ⟨.inl h1, h2⟩
            · rintro ⟨h1 | rfl, h2⟩
              · exact ⟨h1, h2⟩
              · exact absurd h2 hx
          · rfl
  intro x
  rw [mem_fK]
  exact key l [] [] (by simp) x
theorem wr_conn (l : List O) (c a : Int) : wrB (ofC l c) (c, a) = wrB l (c, a) := by
  have key : ∀ (l : List O) (s : ByteArray), (ofC l c).foldl (fun s o => if isW 5 o (c, a) then s ++ o.d else s) s = l.foldl (fun s o => if isW 5 o (c, a) then s ++ o.d else s) s := by
    intro l
    induction l with
    | nil => intro s; rfl
    | cons o l ih =>
      intro s
      by_cases ho : o.c = c
      · have : ofC (o :: l) c = o :: ofC l c := by simp [ofC, ho]
        rw [this]
        simp only [List.foldl_cons]
        exact ih _
      · have : ofC (o :: l) c = ofC l c := by simp [ofC, ho]
        rw [this]
        have h2 : isW 5 o (c, a) = false := by simp [isW, ho]
        simp only [List.foldl_cons, h2]
        exact ih _
  exact key l _
def fR (c : Int) (s : RS) : RS := ⟨fK c s.live, fK c s.opened, fK c s.shut⟩
theorem rstep_conn {s s' : RS} {o : O} (c : Int) (h : rstep s o = some s') : if o.c = c then rstep (fR c s) o = some (fR c s') else fR c s' = fR c s := by
  have hc1 : (cK o).1 = o.c := rfl
  have hx1 : (xK o).1 = o.c := rfl
  have hmc : o.c = c → (cK o ∈ fK c s.live ↔ cK o ∈ s.live) := fun e => by rw [mem_fK]; simp [hc1, e]
  have hm : ∀ ks, o.c = c → (xK o ∈ fK c ks ↔ xK o ∈ ks) := fun ks e => by rw [mem_fK]; simp [hx1, e]
  unfold rstep at h
  split
  · rename_i ho
    have hmc := hmc ho
    have hm := fun ks => hm ks ho
    unfold rstep
    simp only [fR, hmc, hm]
    repeat' split at h
    all_goals first | (cases h; done) | skip
    all_goals
      obtain rfl := Option.some.inj h
      simp_all [fR, fK_app, fK_rem]
  · rename_i ho
    repeat' split at h
    all_goals first | (cases h; done) | skip
    all_goals
      obtain rfl := Option.some.inj h
      simp [fR, fK_app0, fK_rem0, hc1, hx1, ho]
theorem valid_conn (l : List O) (c : Int) (h : validR l = true) : validR (ofC l c) = true := by
  have key : ∀ (l : List O) (s : RS), (l.foldl (fun s o => s.bind fun s => rstep s o) (some s)).isSome = true → ((ofC l c).foldl (fun s o => s.bind fun s => rstep s o) (some (fR c s))).isSome = true := by
    intro l
    induction l with
    | nil => intro s _; rfl
    | cons o l ih =>
      intro s h
      simp only [List.foldl_cons, Option.bind_some] at h
      cases hs : rstep s o with
      | none => rw [hs, foldl_none] at h; cases h
      | some s' =>
        rw [hs] at h
        have h1 := ih s' h
        have h2 := rstep_conn c hs
        by_cases ho : o.c = c
        · have : ofC (o :: l) c = o :: ofC l c := by simp [ofC, ho]
          rw [this]
          simp only [List.foldl_cons, Option.bind_some]
          rw [if_pos ho] at h2
          rw [h2]
          exact h1
        · have : ofC (o :: l) c = ofC l c := by simp [ofC, ho]
          rw [this]
          rw [if_neg ho] at h2
          rw [← h2]
          exact h1
  have := key l ⟨[], [], []⟩ h
  exact this
end Go.Proofs.Ytmdnkhpkpmbeoaa

/-
  The walk of TraceDoesNotAlias: true at every trace and every list of results.
-/
namespace Go.Proofs.Ytmdnkhpkpmbeoaa
open Go.RowKit Go.Sort Go.Shelf
set_option linter.unusedVariables false
set_option linter.unusedSimpArgs false

def F9 : O := ⟨9, 0, 0, ⟨#[]⟩, noAd, 0, false⟩
theorem ok9 : OkO F9 := ⟨by simp [F9, wf, Lit.wf, IntKind.min, IntKind.max, IntKind.signed, IntKind.bits], by simp [F9, wf, Lit.wf, IntKind.min, IntKind.max, IntKind.signed, IntKind.bits], by simp [F9, wf, Lit.wf, IntKind.min, IntKind.max, IntKind.signed, IntKind.bits], by simp [F9, wf, Lit.wf, IntKind.min, IntKind.max, IntKind.signed, IntKind.bits], by simp [F9, ByteArray.size], noAd_is⟩
theorem bw9 : Try.prog.built 36 [(0, .int .i64 9)] = some (encO F9).toArray := by kernel_rfl
theorem out_row {l : List O} (h : ∀ o ∈ l, OkO o) : ∀ x ∈ rO l, OutRow x := by
  intro x hx
  obtain ⟨o, ho, rfl⟩ := List.mem_map.1 hx
  exact ⟨(h o ho).len, (h o ho).one⟩
theorem out_row9 : OutRow (encO F9) := ⟨ok9.len, ok9.one⟩
theorem eqs9 : EqsO (encO F9) := eqsO (l := [F9]) (by intro o ho; simp only [List.mem_singleton] at ho; subst ho; exact ok9) _ (by simp [rO])
theorem cat_ok {w : World} {rs : List RsV} (h : RsOK w rs) : ∀ o ∈ catS rs, OkO o := by
  intro o ho
  obtain ⟨l, hl, ho⟩ := List.mem_flatten.1 ho
  obtain ⟨r, hr, rfl⟩ := List.mem_map.1 hl
  exact (h r hr).2.1 o ho
/-- The result that the law builds of the spare slice. -/
def RR (g : Nat) (X : List O) : RsV := ⟨0, 0, .slice (some ⟨g, 0, none⟩) (rO X).length ((rO X).length + 3), X⟩
theorem catRR (g : Nat) (X : List O) : catS [RR g X, RR g X] = X ++ X := by simp [catS, RR]
set_option maxRecDepth 100000 in
set_option maxHeartbeats 4000000 in
theorem walk5 (v : Value) (b : Nat) (l : List O) (t : Value) (bt : Nat) (rs : List RsV) (w : World) (hr : Rd w 23 b v (rO l)) (hok : ∀ o ∈ l, OkO o) (ht : Rd w 3 bt t (rS rs)) (hrs : RsOK w rs) (hn : rs.length ≤ 10000000) (hcl : (catS rs).length ≤ 10000000) :
    Calls Try.prog 5 #[v, t] w fun e w' => e = .returned (.bool true) ∧ Touch [] w w' := by
  have H0 := Lib.hid hr
  have OK := Lib.hid hok
  obtain ⟨at_, capt, rfl, hct, hcmt⟩ := ht.form
  rw [rS_len] at hct ht ⊢
  have hcapt : capt ≤ 9223372036854775807 := by unfold maxLen at hcmt; omega
  clear hcmt
  have HT0 := Lib.hid ht
  have HRS := Lib.hid hrs
  clear hr hok ht hrs
  go_enter Try.func5, Try.ntmps5
  go_wp2_with fail
  refine (trace_any v b l 30 _ H0.out OK.out (by omega)).mono ?_
  rintro e w1 ⟨v1, rfl, o1, t1⟩
  have hX30 := someT_few l 30
  have OKX := Lib.hid (someT_ok OK.out 30)
  generalize someT l 30 = X at *
  have T1 := Lib.hid t1
  have RX := Lib.hid (o1.rd (rO_lens OKX.out))
  clear o1 t1
  generalize v1.ownBlock.getD 0 = bX at *
  have hXl : (rO X).length ≤ 1000 := by rw [rO_len]; omega
  go_wp2_with (first
      | ((with_reducible refine ungd_build 36 _ _ ?hw ?_); case hw => rfl)
      | ((with_reducible refine at_build 36 ?_); refine wpList_built rfl 36 _ rfl [(0, .int .i64 9)] _ rfl bw9 ?_)
      | ((with_reducible refine at_build 52 ?_); refine wpList_built rfl 52 _ rfl [(2, .slice (some ⟨g, 0, none⟩) (rO X).length ((rO X).length + 3))] _ rfl (bwS _ _ _ X) ?_)
      | ((with_reducible refine at_bs 41 2 ?_); refine wpList_buildR rtS rfl 2 _ rfl (rS [RR g X, RR g X]) rfl (rS_lens _) (by rfl) (by omega) ?_))
  refine (spareO v1 bX (rO X) (encO F9) _ hXl RX.out (out_row OKX.out) out_row9).mono ?_
  rintro e w2 ⟨g, rfl, hg, rd, t2⟩
  have RX := Lib.hid (RX.out.touch t2 (by simp))
  have T2 := Lib.hid (T1.out.trans t2 (by simp))
  have RD := Lib.hid rd
  have RO : Hid (Rd w2 23 g (.slice (some ⟨g, 0, none⟩) (rO X).length ((rO X).length + 3)) (rO X)) := Lib.hid (by
    have := rd.take (rO X).length (by simp)
    rw [List.take_left' rfl] at this
    exact this)
  clear rd t2 T1 hg
  go_wp2_with (first
      | ((with_reducible refine ungd_build 36 _ _ ?hw ?_); case hw => rfl)
      | ((with_reducible refine at_build 36 ?_); refine wpList_built rfl 36 _ rfl [(0, .int .i64 9)] _ rfl bw9 ?_)
      | ((with_reducible refine at_build 52 ?_); refine wpList_built rfl 52 _ rfl [(2, .slice (some ⟨g, 0, none⟩) (rO X).length ((rO X).length + 3))] _ rfl (bwS _ _ _ X) ?_)
      | ((with_reducible refine at_bs 41 2 ?_); refine wpList_buildR rtS rfl 2 _ rfl (rS [RR g X, RR g X]) rfl (rS_lens _) (by rfl) (by omega) ?_))
  refine (live_any _ g X _ RO.out OKX.out (by omega)).mono ?_
  rintro e w3 ⟨v3, rfl, o3, t3⟩
  have O3 := Lib.hid o3.toR
  have T3 := Lib.hid t3
  clear o3 t3
  go_wp2_with (first
      | ((with_reducible refine ungd_build 36 _ _ ?hw ?_); case hw => rfl)
      | ((with_reducible refine at_build 36 ?_); refine wpList_built rfl 36 _ rfl [(0, .int .i64 9)] _ rfl bw9 ?_)
      | ((with_reducible refine at_build 52 ?_); refine wpList_built rfl 52 _ rfl [(2, .slice (some ⟨g, 0, none⟩) (rO X).length ((rO X).length + 3))] _ rfl (bwS _ _ _ X) ?_)
      | ((with_reducible refine at_bs 41 2 ?_); refine wpList_buildR rtS rfl 2 _ rfl (rS [RR g X, RR g X]) rfl (rS_lens _) (by rfl) (by omega) ?_))
  refine (overE v3 _ _ _ O3.out (by rw [rE_len]; have := liveR_len X; omega)).mono ?_
  rintro e w4 ⟨rfl, t4⟩
  have tt : Touch [] w2 w4 := T3.out.trans t4 (by intro y hy; right; exact O3.out.new y (by simpa using hy))
  have RX := Lib.hid (RX.out.touch tt (by simp))
  have RD := Lib.hid (RD.out.touch tt (by simp))
  have RO := Lib.hid (RO.out.touch tt (by simp))
  have T2 := Lib.hid (T2.out.trans tt (by simp))
  clear tt t4 O3 T3
  go_wp2_with (first
      | ((with_reducible refine ungd_build 36 _ _ ?hw ?_); case hw => rfl)
      | ((with_reducible refine at_build 36 ?_); refine wpList_built rfl 36 _ rfl [(0, .int .i64 9)] _ rfl bw9 ?_)
      | ((with_reducible refine at_build 52 ?_); refine wpList_built rfl 52 _ rfl [(2, .slice (some ⟨g, 0, none⟩) (rO X).length ((rO X).length + 3))] _ rfl (bwS _ _ _ X) ?_)
      | ((with_reducible refine at_bs 41 2 ?_); refine wpList_buildR rtS rfl 2 _ rfl (rS [RR g X, RR g X]) rfl (rS_lens _) (by rfl) (by omega) ?_))
  refine (ofc_any _ g X 0 _ RO.out OKX.out (by omega)).mono ?_
  rintro e w5 ⟨v5, rfl, o5, t5⟩
  have O5 := Lib.hid o5
  have T5 := Lib.hid t5
  clear o5 t5
  go_wp2_with (first
      | ((with_reducible refine ungd_build 36 _ _ ?hw ?_); case hw => rfl)
      | ((with_reducible refine at_build 36 ?_); refine wpList_built rfl 36 _ rfl [(0, .int .i64 9)] _ rfl bw9 ?_)
      | ((with_reducible refine at_build 52 ?_); refine wpList_built rfl 52 _ rfl [(2, .slice (some ⟨g, 0, none⟩) (rO X).length ((rO X).length + 3))] _ rfl (bwS _ _ _ X) ?_)
      | ((with_reducible refine at_bs 41 2 ?_); refine wpList_buildR rtS rfl 2 _ rfl (rS [RR g X, RR g X]) rfl (rS_lens _) (by rfl) (by omega) ?_))
  refine (overO v5 _ _ _ O5.out (by rw [rO_len]; have := ofC_len X 0; omega)).mono ?_
  rintro e w6 ⟨rfl, t6⟩
  have tt : Touch [] w4 w6 := T5.out.trans t6 (by intro y hy; right; exact O5.out.new y (by simpa using hy))
  have RX := Lib.hid (RX.out.touch tt (by simp))
  have RD := Lib.hid (RD.out.touch tt (by simp))
  have RO := Lib.hid (RO.out.touch tt (by simp))
  have T2 := Lib.hid (T2.out.trans tt (by simp))
  clear tt t6 O5 T5
  go_wp2_with (first
      | ((with_reducible refine ungd_build 36 _ _ ?hw ?_); case hw => rfl)
      | ((with_reducible refine at_build 36 ?_); refine wpList_built rfl 36 _ rfl [(0, .int .i64 9)] _ rfl bw9 ?_)
      | ((with_reducible refine at_build 52 ?_); refine wpList_built rfl 52 _ rfl [(2, .slice (some ⟨g, 0, none⟩) (rO X).length ((rO X).length + 3))] _ rfl (bwS _ _ _ X) ?_)
      | ((with_reducible refine at_bs 41 2 ?_); refine wpList_buildR rtS rfl 2 _ rfl (rS [RR g X, RR g X]) rfl (rS_lens _) (by rfl) (by omega) ?_))
  refine (ct_any _ g X 0 _ RO.out OKX.out (by omega)).mono ?_
  rintro e w7 ⟨v7, rfl, o7, t7⟩
  have O7 := Lib.hid o7
  have T7 := Lib.hid t7
  clear o7 t7
  go_wp2_with (first
      | ((with_reducible refine ungd_build 36 _ _ ?hw ?_); case hw => rfl)
      | ((with_reducible refine at_build 36 ?_); refine wpList_built rfl 36 _ rfl [(0, .int .i64 9)] _ rfl bw9 ?_)
      | ((with_reducible refine at_build 52 ?_); refine wpList_built rfl 52 _ rfl [(2, .slice (some ⟨g, 0, none⟩) (rO X).length ((rO X).length + 3))] _ rfl (bwS _ _ _ X) ?_)
      | ((with_reducible refine at_bs 41 2 ?_); refine wpList_buildR rtS rfl 2 _ rfl (rS [RR g X, RR g X]) rfl (rS_lens _) (by rfl) (by omega) ?_))
  refine (overT v7 _ _ _ O7.out (by rw [rT_len]; have := ctT_len X 0; omega)).mono ?_
  rintro e w8 ⟨rfl, t8⟩
  have tt : Touch [] w6 w8 := T7.out.trans t8 (by intro y hy; right; exact O7.out.new y (by simpa using hy))
  have RX := Lib.hid (RX.out.touch tt (by simp))
  have RD := Lib.hid (RD.out.touch tt (by simp))
  have RO := Lib.hid (RO.out.touch tt (by simp))
  have T2 := Lib.hid (T2.out.trans tt (by simp))
  clear tt t8 O7 T7
  go_wp2_with (first
      | ((with_reducible refine ungd_build 36 _ _ ?hw ?_); case hw => rfl)
      | ((with_reducible refine at_build 36 ?_); refine wpList_built rfl 36 _ rfl [(0, .int .i64 9)] _ rfl bw9 ?_)
      | ((with_reducible refine at_build 52 ?_); refine wpList_built rfl 52 _ rfl [(2, .slice (some ⟨g, 0, none⟩) (rO X).length ((rO X).length + 3))] _ rfl (bwS _ _ _ X) ?_)
      | ((with_reducible refine at_bs 41 2 ?_); refine wpList_buildR rtS rfl 2 _ rfl (rS [RR g X, RR g X]) rfl (rS_lens _) (by rfl) (by omega) ?_))
  refine (valid_any _ g X _ RO.out OKX.out (by omega)).mono ?_
  rintro e w9 ⟨rfl, tt⟩
  have RX := Lib.hid (RX.out.touch tt (by simp))
  have RD := Lib.hid (RD.out.touch tt (by simp))
  have RO := Lib.hid (RO.out.touch tt (by simp))
  have T2 := Lib.hid (T2.out.trans tt (by simp))
  clear tt
  go_wp2_with (first
      | ((with_reducible refine ungd_build 36 _ _ ?hw ?_); case hw => rfl)
      | ((with_reducible refine at_build 36 ?_); refine wpList_built rfl 36 _ rfl [(0, .int .i64 9)] _ rfl bw9 ?_)
      | ((with_reducible refine at_build 52 ?_); refine wpList_built rfl 52 _ rfl [(2, .slice (some ⟨g, 0, none⟩) (rO X).length ((rO X).length + 3))] _ rfl (bwS _ _ _ X) ?_)
      | ((with_reducible refine at_bs 41 2 ?_); refine wpList_buildR rtS rfl 2 _ rfl (rS [RR g X, RR g X]) rfl (rS_lens _) (by rfl) (by omega) ?_))
  have ta := (Touch.refl [] w9).alloc (.cells (rS [RR g X, RR g X]).flatten.toArray 52)
  have RSV := Rd.new (heap_alloc_new w9 (.cells (rS [RR g X, RR g X]).flatten.toArray 52)) (rS_lens [RR g X, RR g X]) (by simp [rS])
  have RO9 := Lib.hid (RO.out.touch ta (by simp))
  refine (cat_any _ _ [RR g X, RR g X] _ RSV (by intro r hr; simp only [List.mem_cons, List.not_mem_nil, or_false, or_self] at hr; subst hr; exact ⟨⟨_, RO9.out⟩, OKX.out, rfl⟩) (by simp) (by rw [catRR]; simp; omega)).mono ?_
  rintro e wa ⟨va, rfl, oa, tb⟩
  rw [catRR] at oa
  have OA := Lib.hid oa
  have TA := Lib.hid (ta.trans tb (by simp))
  have hsA : w9.heap.size ≤ (w9.alloc (.cells (rS [RR g X, RR g X]).flatten.toArray 52)).heap.size := by simp
  have HSA := Lib.hid hsA
  clear oa ta tb RSV RO9 hsA
  go_wp2_with (first
      | ((with_reducible refine ungd_build 36 _ _ ?hw ?_); case hw => rfl)
      | ((with_reducible refine at_build 36 ?_); refine wpList_built rfl 36 _ rfl [(0, .int .i64 9)] _ rfl bw9 ?_)
      | ((with_reducible refine at_build 52 ?_); refine wpList_built rfl 52 _ rfl [(2, .slice (some ⟨g, 0, none⟩) (rO X).length ((rO X).length + 3))] _ rfl (bwS _ _ _ X) ?_)
      | ((with_reducible refine at_bs 41 2 ?_); refine wpList_buildR rtS rfl 2 _ rfl (rS [RR g X, RR g X]) rfl (rS_lens _) (by rfl) (by omega) ?_))
  refine (overO va _ _ _ OA.out (by rw [rO_len]; simp; omega)).mono ?_
  rintro e wb ⟨rfl, tb⟩
  have tt : Touch [] w9 wb := TA.out.trans tb (by intro y hy; right; exact Nat.le_trans HSA.out (OA.out.new y (by simpa using hy)))
  have RX := Lib.hid (RX.out.touch tt (by simp))
  have RD := Lib.hid (RD.out.touch tt (by simp))
  have RO := Lib.hid (RO.out.touch tt (by simp))
  have T2 := Lib.hid (T2.out.trans tt (by simp))
  clear tt tb OA TA HSA RO
  have HTW := Lib.hid (HT0.out.touch T2.out (by simp))
  have HRW := Lib.hid (HRS.out.touch T2.out)
  clear HT0 HRS
  go_wp2_with (first
      | ((with_reducible refine ungd_build 36 _ _ ?hw ?_); case hw => rfl)
      | ((with_reducible refine at_build 36 ?_); refine wpList_built rfl 36 _ rfl [(0, .int .i64 9)] _ rfl bw9 ?_)
      | ((with_reducible refine at_build 52 ?_); refine wpList_built rfl 52 _ rfl [(2, .slice (some ⟨g, 0, none⟩) (rO X).length ((rO X).length + 3))] _ rfl (bwS _ _ _ X) ?_)
      | ((with_reducible refine at_bs 41 2 ?_); refine wpList_buildR rtS rfl 2 _ rfl (rS [RR g X, RR g X]) rfl (rS_lens _) (by rfl) (by omega) ?_))
  go_loopw [7, 8] (fun vn vi wr => ∃ (i : Nat), vi = .int .i64 i ∧ i ≤ rs.length ∧ vn = .int .i64 ((catS (rs.take i)).length : Nat) ∧ Touch [] wb wr) (fun _ vi _ => rs.length - (intOf vi).toNat)
  case atStart => exact ⟨0, rfl, by omega, by simp [catS], Touch.refl _ _⟩
  case round =>
    obtain ⟨i, rfl, hil, rfl, ht⟩ := hrel
    have HT := Lib.hid ht
    clear ht
    by_cases hlt : i < rs.length
    · have hb1 : (i : Int) < (rs.length : Int) := by omega
      have hx := List.getElem?_eq_getElem hlt
      obtain ⟨⟨br, hR⟩, _, _⟩ := HRW.out _ (List.getElem_mem hlt)
      generalize rs[i] = r at hx hR
      obtain ⟨off, rfl, rI⟩ := (HTW.out.touch HT.out (by simp)).atS hx
      have HX := Lib.hid (congrArg List.length (catS_next hx))
      have hfew := catS_few hx
      obtain ⟨a2, cap2, hs, _, _⟩ := hR.form
      have c2 : wr.cell? ⟨bt, off + i * 3 + 2, none⟩ = some r.s := rI 2 _ rfl
      rw [hs, rO_len] at c2
      have hwi : IntKind.i64.wrap ((i : Int) + 1) = (i : Int) + 1 := by rw [IntKind.wrap_i64] <;> omega
      have hwn : IntKind.i64.wrap (((catS (rs.take i)).length : Nat) + (r.l.length : Nat) : Int) = (((catS (rs.take i)).length + r.l.length : Nat) : Int) := by rw [IntKind.wrap_i64] <;> omega
      clear hx hR hs
      go_wp2_with (first
      | ((with_reducible refine ungd_build 36 _ _ ?hw ?_); case hw => rfl)
      | ((with_reducible refine at_build 36 ?_); refine wpList_built rfl 36 _ rfl [(0, .int .i64 9)] _ rfl bw9 ?_)
      | ((with_reducible refine at_build 52 ?_); refine wpList_built rfl 52 _ rfl [(2, .slice (some ⟨g, 0, none⟩) (rO X).length ((rO X).length + 3))] _ rfl (bwS _ _ _ X) ?_)
      | ((with_reducible refine at_bs 41 2 ?_); refine wpList_buildR rtS rfl 2 _ rfl (rS [RR g X, RR g X]) rfl (rS_lens _) (by rfl) (by omega) ?_))
      go_roundw
      case rel => exact ⟨i + 1, by simp, by omega, by rw [HX.out, List.length_append, Int.natCast_add], HT.out⟩
      case measure => simp [intOf]; omega
    · have hb1 : ¬ (i : Int) < (rs.length : Int) := by omega
      have hE : (catS (rs.take i)).length = (catS rs).length := by rw [List.take_of_length_le (by omega)]
      rw [hE]
      clear hE
      have tt := HT.out
      have RX := Lib.hid (RX.out.touch tt (by simp))
      have RD := Lib.hid (RD.out.touch tt (by simp))
      have HTW := Lib.hid (HTW.out.touch tt (by simp))
      have HRW := Lib.hid (HRW.out.touch tt)
      have T2 := Lib.hid (T2.out.trans tt (by simp))
      clear tt HT
      go_wp2_with (first
      | ((with_reducible refine ungd_build 36 _ _ ?hw ?_); case hw => rfl)
      | ((with_reducible refine at_build 36 ?_); refine wpList_built rfl 36 _ rfl [(0, .int .i64 9)] _ rfl bw9 ?_)
      | ((with_reducible refine at_build 52 ?_); refine wpList_built rfl 52 _ rfl [(2, .slice (some ⟨g, 0, none⟩) (rO X).length ((rO X).length + 3))] _ rfl (bwS _ _ _ X) ?_)
      | ((with_reducible refine at_bs 41 2 ?_); refine wpList_buildR rtS rfl 2 _ rfl (rS [RR g X, RR g X]) rfl (rS_lens _) (by rfl) (by omega) ?_))
      refine (awake_any _).mono ?_
      rintro e wc ⟨rfl, tt⟩
      have RX := Lib.hid (RX.out.touch tt (by simp))
      have RD := Lib.hid (RD.out.touch tt (by simp))
      have HTW := Lib.hid (HTW.out.touch tt (by simp))
      have HRW := Lib.hid (HRW.out.touch tt)
      have T2 := Lib.hid (T2.out.trans tt (by simp))
      clear tt
      go_wp2_with (first
      | ((with_reducible refine ungd_build 36 _ _ ?hw ?_); case hw => rfl)
      | ((with_reducible refine at_build 36 ?_); refine wpList_built rfl 36 _ rfl [(0, .int .i64 9)] _ rfl bw9 ?_)
      | ((with_reducible refine at_build 52 ?_); refine wpList_built rfl 52 _ rfl [(2, .slice (some ⟨g, 0, none⟩) (rO X).length ((rO X).length + 3))] _ rfl (bwS _ _ _ X) ?_)
      | ((with_reducible refine at_bs 41 2 ?_); refine wpList_buildR rtS rfl 2 _ rfl (rS [RR g X, RR g X]) rfl (rS_lens _) (by rfl) (by omega) ?_))
      refine (unchangedO g bX v1 (rO X) (encO F9) _ hXl RD.out RX.out (eqsO OKX.out) eqs9).mono ?_
      rintro e wd ⟨rfl, tt⟩
      have HTW := Lib.hid (HTW.out.touch tt (by simp))
      have HRW := Lib.hid (HRW.out.touch tt)
      have T2 := Lib.hid (T2.out.trans tt (by simp))
      clear tt RD RX
      go_wp2_with (first
      | ((with_reducible refine ungd_build 36 _ _ ?hw ?_); case hw => rfl)
      | ((with_reducible refine at_build 36 ?_); refine wpList_built rfl 36 _ rfl [(0, .int .i64 9)] _ rfl bw9 ?_)
      | ((with_reducible refine at_build 52 ?_); refine wpList_built rfl 52 _ rfl [(2, .slice (some ⟨g, 0, none⟩) (rO X).length ((rO X).length + 3))] _ rfl (bwS _ _ _ X) ?_)
      | ((with_reducible refine at_bs 41 2 ?_); refine wpList_buildR rtS rfl 2 _ rfl (rS [RR g X, RR g X]) rfl (rS_lens _) (by rfl) (by omega) ?_))
      refine (cat_any _ bt rs _ HTW.out HRW.out hn (by omega)).mono ?_
      rintro e we ⟨ve, rfl, oe, tt⟩
      have HTW := Lib.hid (HTW.out.touch tt (by simp))
      have HRW := Lib.hid (HRW.out.touch tt)
      have T2 := Lib.hid (T2.out.trans tt (by simp))
      obtain ⟨ae, ce, rfl, hce, hcm, _⟩ := owns_form oe.row
      have hce2 : ce ≤ 9223372036854775807 := by unfold maxLen at hcm; omega
      rw [rO_len (catS rs)]
      clear oe tt hcm
      go_wp2_with (first
      | ((with_reducible refine ungd_build 36 _ _ ?hw ?_); case hw => rfl)
      | ((with_reducible refine at_build 36 ?_); refine wpList_built rfl 36 _ rfl [(0, .int .i64 9)] _ rfl bw9 ?_)
      | ((with_reducible refine at_build 52 ?_); refine wpList_built rfl 52 _ rfl [(2, .slice (some ⟨g, 0, none⟩) (rO X).length ((rO X).length + 3))] _ rfl (bwS _ _ _ X) ?_)
      | ((with_reducible refine at_bs 41 2 ?_); refine wpList_buildR rtS rfl 2 _ rfl (rS [RR g X, RR g X]) rfl (rS_lens _) (by rfl) (by omega) ?_))
      refine (cat_any _ bt rs _ HTW.out HRW.out hn (by omega)).mono ?_
      rintro e wf ⟨vf, rfl, of, tt⟩
      have RF := Lib.hid (of.rd (rO_lens (cat_ok HRW.out)))
      have HTW := Lib.hid (HTW.out.touch tt (by simp))
      have HRW := Lib.hid (HRW.out.touch tt)
      have T2 := Lib.hid (T2.out.trans tt (by simp))
      clear of tt
      go_wp2_with (first
      | ((with_reducible refine ungd_build 36 _ _ ?hw ?_); case hw => rfl)
      | ((with_reducible refine at_build 36 ?_); refine wpList_built rfl 36 _ rfl [(0, .int .i64 9)] _ rfl bw9 ?_)
      | ((with_reducible refine at_build 52 ?_); refine wpList_built rfl 52 _ rfl [(2, .slice (some ⟨g, 0, none⟩) (rO X).length ((rO X).length + 3))] _ rfl (bwS _ _ _ X) ?_)
      | ((with_reducible refine at_bs 41 2 ?_); refine wpList_buildR rtS rfl 2 _ rfl (rS [RR g X, RR g X]) rfl (rS_lens _) (by rfl) (by omega) ?_))
      refine (rcat_any _ bt rs _ HTW.out HRW.out hn (by omega)).mono ?_
      rintro e wg ⟨vg, rfl, og, tt⟩
      have RG := Lib.hid (og.rd (rO_lens (cat_ok HRW.out)))
      have RF := Lib.hid (RF.out.touch tt (by simp))
      have OKC := Lib.hid (cat_ok HRW.out)
      have HTW := Lib.hid (HTW.out.touch tt (by simp))
      have HRW := Lib.hid (HRW.out.touch tt)
      have T2 := Lib.hid (T2.out.trans tt (by simp))
      clear og tt
      go_wp2_with (first
      | ((with_reducible refine ungd_build 36 _ _ ?hw ?_); case hw => rfl)
      | ((with_reducible refine at_build 36 ?_); refine wpList_built rfl 36 _ rfl [(0, .int .i64 9)] _ rfl bw9 ?_)
      | ((with_reducible refine at_build 52 ?_); refine wpList_built rfl 52 _ rfl [(2, .slice (some ⟨g, 0, none⟩) (rO X).length ((rO X).length + 3))] _ rfl (bwS _ _ _ X) ?_)
      | ((with_reducible refine at_bs 41 2 ?_); refine wpList_buildR rtS rfl 2 _ rfl (rS [RR g X, RR g X]) rfl (rS_lens _) (by rfl) (by omega) ?_))
      refine (equalO vf vg _ _ _ _ (by rw [rO_len]; exact hcl) RF.out RG.out (eqsO OKC.out)).mono ?_
      rintro e wh ⟨rfl, tt⟩
      have T2 := Lib.hid (T2.out.trans tt (by simp))
      clear tt
      go_wp2_with (first
      | ((with_reducible refine ungd_build 36 _ _ ?hw ?_); case hw => rfl)
      | ((with_reducible refine at_build 36 ?_); refine wpList_built rfl 36 _ rfl [(0, .int .i64 9)] _ rfl bw9 ?_)
      | ((with_reducible refine at_build 52 ?_); refine wpList_built rfl 52 _ rfl [(2, .slice (some ⟨g, 0, none⟩) (rO X).length ((rO X).length + 3))] _ rfl (bwS _ _ _ X) ?_)
      | ((with_reducible refine at_bs 41 2 ?_); refine wpList_buildR rtS rfl 2 _ rfl (rS [RR g X, RR g X]) rfl (rS_lens _) (by rfl) (by omega) ?_))
      go_ret
      exact ⟨rfl, T2.out⟩
end Go.Proofs.Ytmdnkhpkpmbeoaa

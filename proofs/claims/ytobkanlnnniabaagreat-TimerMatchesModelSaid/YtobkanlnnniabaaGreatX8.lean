/-
  Merged texts: ReG, LayQ, SortK, SrG, HdG, Eqi, TwG, BoG, Ar, Md, Ai, SsG.
-/
import Derived.Test.YtobkanlnnniabaaGreatX7
import Derived.Shelf.SlLaysF0
import Derived.Test.YtobkanlnnniabaaGreatProg
import Derived.Shelf.GgSortFunc.InsertionK
import Derived.Sort.OwnSorted
import Derived.Lib.BufferMore
import Derived.Sort.WalkA
import Derived.StillTailTactics
import Derived.IntWalk

/-
  The reference's Expire.
-/
namespace Go.Proofs.YtobkanlnnniabaaGreat.G
open Go.RowKit
set_option linter.unusedVariables false
set_option linter.unusedSimpArgs false
-- RL w r v
section
variable {w w0 : World} {r : Nat} {v : Value} {A : TA} {last : Int}
set_option maxRecDepth 100000 in
set_option maxHeartbeats 4000000 in
theorem rexpire_empty (k : RL w r v [] last) (h : TOk [] last) (now : Int) :
    Calls Tryz.prog 11 #[.pointer (some ⟨r, 0, none⟩), .int .u64 now] w fun e w' => e = .returned (.tuple #[.int .i64 0, .agg #[.int .i64 0, .int .i64 0, .int .i64 0], .bool false]) ∧ Touch [] w w' := by
  have TA := (Touch.refl [] w).alloc (.cells #[.int .i64 0, .int .i64 0, .int .i64 0] 26)
  have HZ0 := heap_alloc_new w (.cells #[.int .i64 0, .int .i64 0, .int .i64 0] 26)
  have KA := k.touch0 TA
  obtain ⟨Z, hZ⟩ : ∃ Z, Z = w.heap.size := ⟨_, rfl⟩
  have hzA : (w.alloc (.cells #[.int .i64 0, .int .i64 0, .int .i64 0] 26)).heap.size = Z + 1 := by simp [hZ]
  rw [← hZ] at HZ0
  have hZl : ∀ y ∈ RFoot r v, y < Z := fun y hy => by have := k.lt y hy; omega
  have HFI := Lib.hid (first_no KA h)
  clear k
  go_enter Tryz.func11, Tryz.ntmps11
  go_wp2_with fail
  refine HFI.out.mono ?_
  rintro e wA ⟨rfl, hw⟩
  rw [hw] at KA HZ0 TA hzA
  rw [← hZ]
  have HZW := Lib.hid hZ
  have HZ1 := Lib.hid hzA
  clear hw hZ hzA
  go_wp2_with (first | ((with_reducible refine at_build 26 ?_); refine wpList_built rfl 26 _ rfl [] #[.int .i64 0, .int .i64 0, .int .i64 0] rfl (by kernel_rfl) ?_) | ((with_reducible refine at_store 26 ?_); refine wpList_store_into rfl 26 _ _ rfl Z 26 _ [.int .i64 0, .int .i64 0, .int .i64 0] rfl rfl HZ0 rfl infoG (by intro u hu; simp only [List.mem_cons, List.not_mem_nil, or_false] at hu; rcases hu with rfl | rfl | rfl <;> rfl) ?_))
  intro w3 h2 t2 z2
  have HF := Lib.hid h2
  have T3 := Lib.hid (TA.trans t2 (by intro y hy; right; simp at hy; have := HZW.out; omega))
  clear h2 t2 z2
  go_wp2_with fail
  exact ret_cell rfl infoG Tryz.underlying26 rfl (cs := [.int .i64 0, .int .i64 0, .int .i64 0]) rfl rfl rfl rfl HF.out ⟨rfl, T3.out⟩
set_option maxRecDepth 100000 in
set_option maxHeartbeats 4000000 in
theorem rexpire_late (k : RL w r v A last) (h : TOk A last) (now : Int) {i : Nat} {a : Tm × Tag} (hi : A[i]? = some a) (hm : Fst A a) (hl : now < a.1.due) :
    Calls Tryz.prog 11 #[.pointer (some ⟨r, 0, none⟩), .int .u64 now] w fun e w' => e = .returned (.tuple #[.int .i64 0, .agg #[.int .i64 0, .int .i64 0, .int .i64 0], .bool false]) ∧ Touch [] w w' := by
  have TA := (Touch.refl [] w).alloc (.cells #[.int .i64 0, .int .i64 0, .int .i64 0] 26)
  have HZ0 := heap_alloc_new w (.cells #[.int .i64 0, .int .i64 0, .int .i64 0] 26)
  have KA := k.touch0 TA
  obtain ⟨Z, hZ⟩ : ∃ Z, Z = w.heap.size := ⟨_, rfl⟩
  have hzA : (w.alloc (.cells #[.int .i64 0, .int .i64 0, .int .i64 0] 26)).heap.size = Z + 1 := by simp [hZ]
  rw [← hZ] at HZ0
  have hZl : ∀ y ∈ RFoot r v, y < Z := fun y hy => by have := k.lt y hy; omega
  have HFI := Lib.hid (first_at KA h hi hm)
  clear k
  go_enter Tryz.func11, Tryz.ntmps11
  go_wp2_with fail
  refine HFI.out.mono ?_
  rintro e wA ⟨rfl, hw⟩
  rw [hw] at KA HZ0 TA hzA
  rw [← hZ]
  have HZW := Lib.hid hZ
  have HZ1 := Lib.hid hzA
  clear hw hZ hzA
  have HTA := Lib.hid TA
  have HKA := Lib.hid KA
  have HZA := Lib.hid HZ0
  have hfew := KA.few
  have hil := (List.getElem?_eq_some_iff.1 hi).1
  have hb1 : (0 : Int) ≤ (i : Int) := by omega
  have hb2 : (i : Int) < (A.length : Int) := by omega
  have c0 := KA.c0
  have hr := KA.rd
  generalize v.ownBlock.getD 0 = b at hr
  have hvf := KA.rd.form
  rw [rA_len] at hvf
  obtain ⟨av, cv, rfl, _, _⟩ := hvf
  obtain ⟨off, rfl, rI⟩ := Rd.atA hr hi
  have TBB := (Touch.refl [] wA).alloc (.cells (encA a).toArray 60)
  have HB := range_new wA (encA a) 60
  obtain ⟨B, hB⟩ : ∃ B, B = wA.heap.size := ⟨_, rfl⟩
  rw [← hB] at HB
  have b0 := (cellsA HB).1
  have HBR := Lib.hid (cellsA HB).2.2.2
  have HDL := Lib.hid (dl_at (KA.touch0 TBB) h hi)
  have HKB := Lib.hid (KA.touch0 TBB)
  have HZB := Lib.hid (TBB.at HZ0 (by simp))
  have HTB := Lib.hid (TA.trans TBB (by simp))
  rw [hB] at b0
  clear KA HZ0 TA HB hr
  go_wp2_with (first | ((with_reducible refine at_load 60 ?_); refine wpList_load_mid rfl 60 _ rfl b (off + i * 6) rfl (encA a) _ rI Tryz.underlying60 rfl size6 ?_) | ((with_reducible refine at_store 60 ?_); refine wpList_store_new rfl 60 _ _ rfl _ _ (encA a) (by rfl) (by rfl) rfl size6 (encA_one a) ?_))
  rw [← hB]
  rw [← hB] at b0
  have HBW := Lib.hid hB
  clear hB
  refine HDL.out.mono ?_
  rintro e wB ⟨rfl, hw⟩
  rw [hw] at HKB HZB HTB HBR b0
  clear hw HDL
  go_wp2_with (first | ((with_reducible refine at_build 26 ?_); refine wpList_built rfl 26 _ rfl [] #[.int .i64 0, .int .i64 0, .int .i64 0] rfl (by kernel_rfl) ?_) | ((with_reducible refine at_store 26 ?_); refine wpList_store_into rfl 26 _ _ rfl Z 26 _ [.int .i64 0, .int .i64 0, .int .i64 0] rfl rfl HZB.out rfl infoG (by intro u hu; simp only [List.mem_cons, List.not_mem_nil, or_false] at hu; rcases hu with rfl | rfl | rfl <;> rfl) ?_))
  intro w3 h2 t2 z2
  have HF := Lib.hid h2
  have T3 := Lib.hid (HTB.out.trans t2 (by intro y hy; right; simp at hy; have := HZW.out; omega))
  clear h2 t2 z2
  go_wp2_with fail
  exact ret_cell rfl infoG Tryz.underlying26 rfl (cs := [.int .i64 0, .int .i64 0, .int .i64 0]) rfl rfl rfl rfl HF.out ⟨rfl, T3.out⟩
theorem RNx.pre {w1 w2 : World} {A' : TA} (h0 : Touch [] w w1) (n : RNx w1 r v A' last w2) : RNx w r v A' last w2 := by
  obtain ⟨v', h1, h2, h3⟩ := n
  exact ⟨v', h1, fun y hy => by
    rcases h2 y hy with e | e
    · exact .inl e
    · exact .inr (Nat.le_trans h0.size e), (h0.mono (by simp)).trans h3 (fun y hy => .inl hy)⟩
theorem RNx.postZ {w1 w2 w3 : World} {Z : Nat} {A' : TA} (h0 : Touch [] w w1) (n : RNx w1 r v A' last w2) (h3 : Touch [Z] w2 w3) (hZ : w.heap.size ≤ Z) (hZ1 : Z < w1.heap.size) (hZf : ∀ y ∈ RFoot r v, y ≠ Z) : RNx w r v A' last w3 := by
  obtain ⟨v', h1, h2, h4⟩ := n
  have hs := h0.size
  refine ⟨v', h1.touch h3 ?_, fun y hy => ?_, ((h0.mono (by simp)).trans h4 (fun y hy => .inl hy)).trans h3 (by intro y hy; right; simp at hy; omega)⟩
  · intro y hy hy2
    simp at hy2
    subst hy2
    rcases h2 y hy with e | e
    · exact hZf y e rfl
    · omega
  · rcases h2 y hy with e | e
    · exact .inl e
    · exact .inr (by omega)
set_option maxRecDepth 100000 in
set_option maxHeartbeats 4000000 in
theorem rexpire_at (k : RL w r v A last) (h : TOk A last) (now : Int) {i : Nat} {a : Tm × Tag} (hi : A[i]? = some a) (hm : Fst A a) (hl0 : a.1.due ≤ now) {l : List Int} (hs : Sub (A.map Prod.fst) a.1.id l) :
    Calls Tryz.prog 11 #[.pointer (some ⟨r, 0, none⟩), .int .u64 now] w fun e w' => e = .returned (.tuple #[.int .i64 a.1.id, .agg #[.int .i64 a.2.a, .int .i64 a.2.b, .int .i64 a.2.c], .bool true]) ∧ RNx w r v (A.filter fun a => decide (a.1.id ∉ l)) last w' := by
  have hl : ¬ now < a.1.due := by omega
  have TA := (Touch.refl [] w).alloc (.cells #[.int .i64 0, .int .i64 0, .int .i64 0] 26)
  have HZ0 := heap_alloc_new w (.cells #[.int .i64 0, .int .i64 0, .int .i64 0] 26)
  have KA := k.touch0 TA
  obtain ⟨Z, hZ⟩ : ∃ Z, Z = w.heap.size := ⟨_, rfl⟩
  have hzA : (w.alloc (.cells #[.int .i64 0, .int .i64 0, .int .i64 0] 26)).heap.size = Z + 1 := by simp [hZ]
  rw [← hZ] at HZ0
  have hZl : ∀ y ∈ RFoot r v, y < Z := fun y hy => by have := k.lt y hy; omega
  have HFI := Lib.hid (first_at KA h hi hm)
  clear k
  go_enter Tryz.func11, Tryz.ntmps11
  go_wp2_with fail
  refine HFI.out.mono ?_
  rintro e wA ⟨rfl, hw⟩
  rw [hw] at KA HZ0 TA hzA
  rw [← hZ]
  have HZW := Lib.hid hZ
  have HZ1 := Lib.hid hzA
  clear hw hZ hzA
  have HTA := Lib.hid TA
  have HKA := Lib.hid KA
  have HZA := Lib.hid HZ0
  have hfew := KA.few
  have hil := (List.getElem?_eq_some_iff.1 hi).1
  have hb1 : (0 : Int) ≤ (i : Int) := by omega
  have hb2 : (i : Int) < (A.length : Int) := by omega
  have c0 := KA.c0
  have hr := KA.rd
  generalize v.ownBlock.getD 0 = b at hr
  have hvf := KA.rd.form
  rw [rA_len] at hvf
  obtain ⟨av, cv, rfl, _, _⟩ := hvf
  obtain ⟨off, rfl, rI⟩ := Rd.atA hr hi
  have TBB := (Touch.refl [] wA).alloc (.cells (encA a).toArray 60)
  have HB := range_new wA (encA a) 60
  obtain ⟨B, hB⟩ : ∃ B, B = wA.heap.size := ⟨_, rfl⟩
  rw [← hB] at HB
  have b0 := (cellsA HB).1
  have HBR := Lib.hid (cellsA HB).2.2.2
  have HDL := Lib.hid (dl_at (KA.touch0 TBB) h hi)
  have HKB := Lib.hid (KA.touch0 TBB)
  have HZB := Lib.hid (TBB.at HZ0 (by simp))
  have HTB := Lib.hid (TA.trans TBB (by simp))
  rw [hB] at b0
  clear KA HZ0 TA HB hr
  go_wp2_with (first | ((with_reducible refine at_load 60 ?_); refine wpList_load_mid rfl 60 _ rfl b (off + i * 6) rfl (encA a) _ rI Tryz.underlying60 rfl size6 ?_) | ((with_reducible refine at_store 60 ?_); refine wpList_store_new rfl 60 _ _ rfl _ _ (encA a) (by rfl) (by rfl) rfl size6 (encA_one a) ?_))
  rw [← hB]
  rw [← hB] at b0
  have HBW := Lib.hid hB
  clear hB
  refine HDL.out.mono ?_
  rintro e wB ⟨rfl, hw⟩
  rw [hw] at HKB HZB HTB HBR b0
  clear hw HDL
  have hBZ0 : B ≠ Z := by have := HBW.out; have := HZ1.out; omega
  have hBf : B ∉ RFoot r (.slice (some ⟨b, off, none⟩) A.length cv) := fun e => by have := hZl B e; have := HBW.out; have := HZ1.out; omega
  have hZf : Z ∉ RFoot r (.slice (some ⟨b, off, none⟩) A.length cv) := fun e => by have := hZl Z e; omega
  have hwB : Z < wB.heap.size := (Array.getElem?_eq_some_iff.1 HZB.out).1
  have HCA := Lib.hid (rcancel_at HKB.out h hi hs)
  go_wp2_with fail
  refine HCA.out.mono ?_
  rintro e w2 ⟨rfl, nx⟩
  have HNX := Lib.hid nx
  obtain ⟨v', _, _, t2⟩ := nx
  have HB2 := Lib.hid (t2.cell b0 hBf)
  have HX2 := Lib.hid (t2.range HBR.out hBf)
  have HZ2 := Lib.hid (t2.at HZB.out hZf)
  clear t2 HCA b0
  go_wp2_with fail
  refine wp_region_held (S := Touch [Z] w2.drew) (by kernel_rfl) ?_
  change wpAnyH _ _ _ _ _ _ _ _ w2.drew
  have tD := (Touch.refl [] w2).drew
  have e0 := tD.cell HB2.out (by simp)
  have rx := tD.range HX2.out (by simp)
  have HZX := Lib.hid (tD.at HZ2.out (by simp))
  have HTX := Lib.hid (tD.mono (by simp) : Touch [Z] w2 w2.drew)
  generalize w2.drew = X at *
  clear tD
  have hS := Touch.refl [Z] X
  have hBZ : B ∉ [Z] := by simp; omega
  refine wpAnyH_take (i := 0) (oi := { dst := some 38, op := Op.fieldAddr 60 (Operand.tmp 8) 0, type := 0, pos := "ref.go:222", after := #[], guard := none }) (v := .pointer (some ⟨B, 0, none⟩)) rfl (by kernel_rfl) (by kernel_rfl) (by kernel_rfl) (fun _ _ _ h => h) (Or.inl ⟨by rfl, fun w' hw => by go_simp⟩) hS ?_
  try simp only [Act.put, List.setIfInBounds_toArray, List.set_cons_zero, List.set_cons_succ]
  refine wpAnyH_take (i := 1) (oi := { dst := some 39, op := Op.load 3 (Operand.tmp 38), type := 3, pos := "ref.go:222", after := #[{ on := 0, ground := Ground.data }], guard := none }) (v := .int .i64 a.1.id) rfl (by kernel_rfl) (by kernel_rfl) (by kernel_rfl) (fun _ _ _ h => h) (Or.inl ⟨by rfl, fun w' hw => by (have q := hw.cell e0 hBZ; go_simp)⟩) hS ?_
  try simp only [Act.put, List.setIfInBounds_toArray, List.set_cons_zero, List.set_cons_succ]
  refine wpAnyH_take (i := 2) (oi := { dst := some 40, op := Op.fieldAddr 60 (Operand.tmp 8) 3, type := 0, pos := "ref.go:222", after := #[{ on := 4, ground := Ground.gcOnly Departure.lateStores }], guard := none }) (v := .pointer (some ⟨B, 3, none⟩)) rfl (by kernel_rfl) (by kernel_rfl) (by kernel_rfl) (fun _ _ _ h => h) (Or.inl ⟨by rfl, fun w' hw => by go_simp⟩) hS ?_
  try simp only [Act.put, List.setIfInBounds_toArray, List.set_cons_zero, List.set_cons_succ]
  refine wpAnyH_take (i := 3) (oi := { dst := some 41, op := Op.load 26 (Operand.tmp 40), type := 26, pos := "ref.go:222", after := #[{ on := 2, ground := Ground.data }, { on := 4, ground := Ground.gcOnly Departure.lateStores }], guard := none }) (v := .agg [.int .i64 a.2.a, .int .i64 a.2.b, .int .i64 a.2.c].toArray) rfl (by kernel_rfl) (by kernel_rfl) (by kernel_rfl) (fun _ _ _ h => h) (Or.inl ⟨by rfl, fun w' hw => exec_load_agg _ 26 _ rfl _ _ rfl [.int .i64 a.2.a, .int .i64 a.2.b, .int .i64 a.2.c] _ (hw.range rx hBZ) Tryz.underlying26 rfl infoG⟩) hS ?_
  try simp only [Act.put, List.setIfInBounds_toArray, List.set_cons_zero, List.set_cons_succ]
  refine wpAnyH_take (i := 4) (oi := { dst := some 4, op := Op.assign (Operand.tmp 39), type := 3, pos := "ref.go:222", after := #[{ on := 1, ground := Ground.data }, { on := 0, ground := Ground.phase }, { on := 1, ground := Ground.phase }, { on := 2, ground := Ground.textOnly Departure.lateStores }, { on := 3, ground := Ground.textOnly Departure.lateStores }], guard := none }) (v := .int .i64 a.1.id) rfl (by kernel_rfl) (by kernel_rfl) (by kernel_rfl) (fun _ _ _ h => h) (Or.inl ⟨by rfl, fun w' hw => by go_simp⟩) hS ?_
  try simp only [Act.put, List.setIfInBounds_toArray, List.set_cons_zero, List.set_cons_succ]
  refine wpAnyH_ready (rs := [5]) (by kernel_rfl) (by simp) ?_
  refine AllReadyH.cons (o := { dst := none, op := Op.store 26 (Operand.tmp 5) (Operand.tmp 41), type := 0, pos := "ref.go:222", after := #[{ on := 3, ground := Ground.data }, { on := 4, ground := Ground.chain }, { on := 0, ground := Ground.phase }, { on := 1, ground := Ground.phase }, { on := 2, ground := Ground.phase }, { on := 3, ground := Ground.phase }, { on := 4, ground := Ground.phase }], guard := none }) rfl (fun K hK => ?_) AllReadyH.nil
  refine step_of_list rfl ?_
  refine wpList_store_into rfl 26 _ _ rfl Z 26 _ [.int .i64 a.2.a, .int .i64 a.2.b, .int .i64 a.2.c] rfl rfl HZX.out rfl infoG (by intro u hu; simp only [List.mem_cons, List.not_mem_nil, or_false] at hu; rcases hu with rfl | rfl | rfl <;> rfl) ?_
  intro w3 h2 t2 z2
  have hS2 := hS.trans t2 (fun y hy => .inl hy)
  have HF := Lib.hid (And.intro h2 (show Touch [Z] w2 w3 from HTX.out.trans t2 (fun y hy => .inl hy)))
  refine ⟨rfl, hK.out _ _ hS2 (fun _ => ?_)⟩
  clear hK K hS h2 t2 z2
  have hS := hS2
  clear hS2
  try simp only [Act.put, List.setIfInBounds_toArray, List.set_cons_zero, List.set_cons_succ]
  refine wpAnyH_take (i := 6) (oi := { dst := some 6, op := Op.assign (Operand.const (Value.bool true)), type := 4, pos := "ref.go:222", after := #[{ on := 5, ground := Ground.chain }, { on := 0, ground := Ground.phase }, { on := 1, ground := Ground.phase }, { on := 2, ground := Ground.phase }, { on := 3, ground := Ground.phase }, { on := 4, ground := Ground.phase }, { on := 5, ground := Ground.phase }], guard := none }) (v := .bool true) rfl (by kernel_rfl) (by kernel_rfl) (by kernel_rfl) (fun _ _ _ h => h) (Or.inl ⟨by rfl, fun w' hw => by go_simp⟩) hS ?_
  try simp only [Act.put, List.setIfInBounds_toArray, List.set_cons_zero, List.set_cons_succ]
  refine wpAnyH_done (by kernel_rfl) ?_ _
  try simp only [Act.put, List.setIfInBounds_toArray, List.set_cons_zero, List.set_cons_succ]
  clear hS rx e0
  go_wp2_with fail
  exact ret_cell rfl infoG Tryz.underlying26 rfl (cs := [.int .i64 a.2.a, .int .i64 a.2.b, .int .i64 a.2.c]) rfl rfl rfl rfl HF.out.1 ⟨rfl, RNx.postZ HTB.out HNX.out HF.out.2 (Nat.le_of_eq HZW.out.symm) hwB (fun y hy e => hZf (e ▸ hy))⟩
end
end Go.Proofs.YtobkanlnnniabaaGreat.G

/-
  DERIVED: THE SHELF's CONTRACTS AT THIS DUMP, IN PLAIN WORDS (tools/lay-plain.mjs out of 'YtobkanlnnniabaaGreatLayP.lean', which tools/lay-shelf.mjs wrote): THE SAME DECLARATIONS UNDER THE SAME NAMES: 'import', 'namespace', 'open', 'def', 'theorem' AND NOTHING ELSE: no command of the shelf's: FOR A HAND-IN. Each laying: the table of numbers ('.._ren') and one theorem, a field a fact of the dump's own or the kernel's comparison; each contract: ONE APPLICATION.
-/
namespace Go.Proofs
open Go.Shelf
def Tryz.sortL_ren : Go.Shelf.Ren := ⟨fun | 6 => 65 | 15 => 67 | 14 => 75 | 28 => 85 | 29 => 86 | 20 => 92 | 21 => 93 | 22 => 94 | 23 => 95 | 24 => 96 | 25 => 97 | 26 => 98 | 27 => 99 | 46 => 106 | 47 => 101 | 48 => 102 | 49 => 107 | 50 => 108 | 57 => 110 | n => n, fun | 22 => 78 | 24 => 82 | 25 => 103 | 3 => 3 | 39 => 50 | 0 => 0 | 53 => 124 | 55 => 31 | 4 => 4 | 46 => 118 | 45 => 117 | 50 => 37 | 5 => 5 | 9 => 9 | 66 => 134 | 70 => 138 | 76 => 142 | 77 => 143 | n => n, fun | n => n⟩
set_option maxRecDepth 100000 in
theorem Tryz.sortL : Go.Proofs.SlLaysF0.n6 Tryz.prog Tryz.sortL_ren := {
  mixed := by kernel_rfl
  f6 := ⟨Tryz.f65.name, by decide, Tryz.func65.trans (congrArg some (by kernel_rfl))⟩
  f14 := ⟨Tryz.f75.name, by decide, Tryz.func75.trans (congrArg some (by kernel_rfl))⟩
  f15 := Tryz.func67.trans (congrArg some (by kernel_rfl))
  f20 := ⟨Tryz.f92.name, by decide, Tryz.func92.trans (congrArg some (by kernel_rfl))⟩
  f21 := ⟨Tryz.f93.name, by decide, Tryz.func93.trans (congrArg some (by kernel_rfl))⟩
  f22 := ⟨Tryz.f94.name, by decide, Tryz.func94.trans (congrArg some (by kernel_rfl))⟩
  f23 := ⟨Tryz.f95.name, by decide, Tryz.func95.trans (congrArg some (by kernel_rfl))⟩
  f24 := ⟨Tryz.f96.name, by decide, Tryz.func96.trans (congrArg some (by kernel_rfl))⟩
  f25 := ⟨Tryz.f97.name, by decide, Tryz.func97.trans (congrArg some (by kernel_rfl))⟩
  f26 := ⟨Tryz.f98.name, by decide, Tryz.func98.trans (congrArg some (by kernel_rfl))⟩
  f27 := ⟨Tryz.f99.name, by decide, Tryz.func99.trans (congrArg some (by kernel_rfl))⟩
  f28 := Tryz.func85.trans (congrArg some (by kernel_rfl))
  f29 := Tryz.func86.trans (congrArg some (by kernel_rfl))
  f46 := ⟨Tryz.f106.name, by decide, Tryz.func106.trans (congrArg some (by kernel_rfl))⟩
  f47 := Tryz.func101.trans (congrArg some (by kernel_rfl))
  f48 := Tryz.func102.trans (congrArg some (by kernel_rfl))
  f49 := ⟨Tryz.f107.name, by decide, Tryz.func107.trans (congrArg some (by kernel_rfl))⟩
  f50 := ⟨Tryz.f108.name, by decide, Tryz.func108.trans (congrArg some (by kernel_rfl))⟩
  f57 := ⟨Tryz.f110.name, by decide, Tryz.func110.trans (congrArg some (by kernel_rfl))⟩
  t0 := Tryz.underlying0
  a0 := Tryz.isAgg0
  z0 := Tryz.sizeOf0
  v0 := Tryz.zeroValue0
  t3 := Tryz.underlying3
  a3 := Tryz.isAgg3
  z3 := Tryz.sizeOf3
  v3 := Tryz.zeroValue3
  t4 := Tryz.underlying4
  a4 := Tryz.isAgg4
  z4 := Tryz.sizeOf4
  v4 := Tryz.zeroValue4
  t5 := Tryz.underlying5
  a5 := Tryz.isAgg5
  z5 := Tryz.sizeOf5
  v5 := Tryz.zeroValue5
  t9 := Tryz.underlying9
  a9 := Tryz.isAgg9
  z9 := Tryz.sizeOf9
  v9 := Tryz.zeroValue9
  t22 := Tryz.underlying78
  a22 := Tryz.isAgg78
  z22 := Tryz.sizeOf78
  v22 := Tryz.zeroValue78
  t25 := Tryz.underlying103
  a25 := Tryz.isAgg103
  z25 := Tryz.sizeOf103
  v25 := Tryz.zeroValue103
  t39 := Tryz.underlying50
  a39 := Tryz.isAgg50
  z39 := Tryz.sizeOf50
  v39 := Tryz.zeroValue50
  t45 := Tryz.underlying117
  a45 := Tryz.isAgg117
  z45 := Tryz.sizeOf117
  v45 := Tryz.zeroValue117
  t46 := Tryz.underlying118
  a46 := Tryz.isAgg118
  z46 := Tryz.sizeOf118
  v46 := Tryz.zeroValue118
  t50 := Tryz.underlying37
  a50 := Tryz.isAgg37
  z50 := Tryz.sizeOf37
  v50 := Tryz.zeroValue37
  t53 := Tryz.underlying124
  a53 := Tryz.isAgg124
  z53 := Tryz.sizeOf124
  v53 := Tryz.zeroValue124
  t55 := Tryz.underlying31
  a55 := Tryz.isAgg31
  z55 := Tryz.sizeOf31
  v55 := Tryz.zeroValue31
  t66 := Tryz.underlying134
  a66 := Tryz.isAgg134
  z66 := Tryz.sizeOf134
  v66 := Tryz.zeroValue134
  t70 := Tryz.underlying138
  a70 := Tryz.isAgg138
  z70 := Tryz.sizeOf138
  v70 := Tryz.zeroValue138
  t76 := Tryz.underlying142
  a76 := Tryz.isAgg142
  z76 := Tryz.sizeOf142
  v76 := Tryz.zeroValue142
  t77 := Tryz.underlying143
  a77 := Tryz.isAgg143
  z77 := Tryz.sizeOf143
  v77 := Tryz.zeroValue143 }
end Go.Proofs

/-
  A slice of structs of the call's own, ahead of and behind the library's sort. Plain lemmas over any program.
-/
namespace Go.Proofs.YtobkanlnnniabaaGreat
open Go.RowKit Go.Sort Go.Shelf
set_option linter.unusedVariables false
set_option linter.unusedSimpArgs false

section
variable {α : Type} [Inhabited α] {enc : α → List Value} {k : Nat}
theorem flat_enc (hk : ∀ x, (enc x).length = k) (d : List α) (j : Nat) (hj : j < d.length * k) : (d.map enc).flatten[j]? = some (flatK enc k d.toArray)[j]! := by
  have hk0 : 0 < k := by
    rcases Nat.eq_zero_or_pos k with h | h
    · subst h; simp at hj
    · exact h
  have hq : j / k < d.length := (Nat.div_lt_iff_lt_mul hk0).2 hj
  have hm : j % k < k := Nat.mod_lt _ hk0
  rw [get_flatK _ _ _ _ (by simpa using hj)]
  have h1 : (d.map enc)[j / k]? = some (enc d[j / k]) := by simp [hq]
  have h2 : (enc d[j / k])[j % k]? = some ((enc d[j / k])[j % k]'(by rw [hk]; exact hm)) := List.getElem?_eq_getElem _
  have := flat_get (k := k) (xs := d.map enc) (by intro x hx; obtain ⟨y, _, rfl⟩ := List.mem_map.1 hx; exact hk y) h1 h2
  rw [Nat.div_add_mod'] at this
  rw [this]
  have e1 : d.toArray[j / k]! = d[j / k] := by
    rw [getElem!_pos _ _ (by simpa using hq)]
    simp
  rw [e1, getElem!_pos _ _ (by rw [hk]; exact hm)]
theorem owns_holds {w : World} {e : TypeId} {g cap : Nat} (hk : ∀ x, (enc x).length = k) (d : List α) (ho : w.ownsRow 0 e k (.slice (some ⟨g, 0, none⟩) d.length cap) d.length (d.map enc).flatten) : HoldsK enc k w g 0 d.toArray := by
  intro j hj
  have hj' : j < d.length * k := by simpa using hj
  rw [Nat.zero_add]
  exact ⟨owns_cell ho j _ (flat_enc hk d j hj'), owns_frozen ho j⟩
theorem touch_sorted (w : World) (g n : Nat) (d : Array α) (os : Array Obj) : Touch [g] w (sortWorldK enc k w g 0 n d os) := by
  refine ⟨rfl, rfl, rfl, by simp [sortWorldK, putRowK, putRow, mapBlock, ahead, grow], fun i hi hn => ?_⟩
  unfold sortWorldK
  rw [heap_grow_old _ _ (by simpa [putRowK, putRow, mapBlock, ahead] using hi)]
  have : g ≠ i := by simpa [eq_comm] using hn
  simp [putRowK, putRow, mapBlock, Sort.ahead, Array.getElem?_modify, this]
theorem owns_sorted {w : World} {e : TypeId} {g cap n : Nat} {os : Array Obj} (hk : ∀ x, (enc x).length = k) (d d' : List α) (hl : d'.length = d.length) (ho : w.ownsRow 0 e k (.slice (some ⟨g, 0, none⟩) d.length cap) d.length (d.map enc).flatten) :
    (sortWorldK enc k w g 0 n d'.toArray os).ownsRow 0 e k (.slice (some ⟨g, 0, none⟩) d'.length cap) d'.length (d'.map enc).flatten := by
  obtain ⟨_, h2⟩ := ho
  have hfl : (d'.map enc).flatten.length = d'.length * k := by
    have := flat_len (k := k) (xs := d'.map enc) (by intro x hx; obtain ⟨y, _, rfl⟩ := List.mem_map.1 hx; exact hk y)
    simpa using this
  refine ⟨hfl, ?_⟩
  rcases h2 with ⟨h3, _⟩ | ⟨g', cap', cur, hv, hb, hh, h4, h5, h6, h7⟩
  · cases h3
  · simp only [Value.slice.injEq, Option.some.injEq, Addr.mk.injEq, and_true, true_and] at hv
    obtain ⟨rfl, rfl⟩ := hv
    have hg : g < w.heap.size := (Array.getElem?_eq_some_iff.1 hh).1
    refine .inr ⟨g, cap, putCells id 0 (flatK enc k d'.toArray) cur, rfl, hb, ?_, by omega, h5, by simp [putCells, h6], ?_⟩
    · unfold sortWorldK
      rw [heap_grow_old _ _ (by simpa [putRowK, putRow, mapBlock, ahead] using hg)]
      simp [putRowK, putRow, mapBlock, Sort.ahead, Array.getElem?_modify, hh, onCells]
    · have hle : d'.length * k ≤ cur.size := by rw [h6, hl]; exact Nat.mul_le_mul_right _ h4
      apply List.ext_getElem?
      intro j
      by_cases hj : j < d'.length * k
      · rw [List.getElem?_take_of_lt hj, Array.getElem?_toList, flat_enc hk d' j hj]
        have hjc : j < cur.size := by omega
        simp [putCells, hj, hjc]
      · rw [List.getElem?_take_eq_none (by omega), List.getElem?_eq_none (by omega)]
end
end Go.Proofs.YtobkanlnnniabaaGreat

/-
  slices.Clone and slices.SortFunc at the heap's items.
-/
namespace Go.Proofs.YtobkanlnnniabaaGreat.G
open Go.RowKit Go.Sort Go.Shelf
set_option linter.unusedVariables false
set_option linter.unusedSimpArgs false

/-- A slice of items of the call's own, made since w0. -/
structure OwnI (w0 w : World) (v : Value) (ks : List Itm) : Prop where
  row : w.ownsRow 0 82 3 v ks.length (ks.map encI).flatten
  new : ∀ g, v.ownBlock = some g → w0.heap.size ≤ g
  one : ∀ it ∈ ks, it.x.oneCell' = true
theorem OwnI.lt {w0 w : World} {v : Value} {ks : List Itm} (h : OwnI w0 w v ks) (g : Nat) (hg : v.ownBlock = some g) : g < w.heap.size := (h.row.lt g hg).2
section
variable (its : List Itm)
def encS (a : {x // x ∈ its}) : List Value := encI a.1
def cmpS (a b : {x // x ∈ its}) : Int := cmpT a.1.key b.1.key
theorem ltS (a b : {x // x ∈ its}) : ltOf (cmpS its) a b = decide (cmpT a.1.key b.1.key < 0) := rfl
theorem swoS : SWO (ltOf (cmpS its)) where
  irrefl x := by rw [ltS]; simp only [cmpT_lt, decide_eq_false_iff_not]; unfold lt; omega
  trans x y z h1 h2 := by rw [ltS] at *; simp only [cmpT_lt, decide_eq_true_eq] at *; unfold lt at *; omega
  ntrans x y z h1 h2 := by rw [ltS] at *; simp only [cmpT_lt, decide_eq_false_iff_not] at *; unfold lt at *; omega
theorem totS (hn : (its.map Itm.id).Nodup) (x y : {x // x ∈ its}) (h1 : ltOf (cmpS its) x y = false) (h2 : ltOf (cmpS its) y x = false) : x = y := by
  rw [ltS] at *
  simp only [cmpT_lt, decide_eq_false_iff_not] at *
  have e : x.1.id = y.1.id := by
    have : x.1.key.id = y.1.key.id := by unfold lt at *; omega
    exact this
  obtain ⟨x, hx⟩ := x
  obtain ⟨y, hy⟩ := y
  obtain ⟨i, hi, ei⟩ := List.getElem_of_mem hx
  obtain ⟨j, hj, ej⟩ := List.getElem_of_mem hy
  by_cases hij : i = j
  · subst hij
    exact Subtype.ext (ei.symm.trans ej)
  · exact absurd e (ids_ne hn (by rw [List.getElem?_eq_getElem hi, ei]) (by rw [List.getElem?_eq_getElem hj, ej]) hij)
def sortS : List {x // x ∈ its} := its.attach.mergeSort fun x y => !ltOf (cmpS its) y x
def sortI : List Itm := (sortS its).map (·.1)
theorem sortI_perm : (sortI its).Perm its := by
  have h := (List.mergeSort_perm its.attach (fun x y => !ltOf (cmpS its) y x)).map (·.1)
  rw [List.attach_map_subtype_val] at h
  exact h
theorem sortI_sorted : (sortI its).Pairwise fun x y => le x.key y.key := by
  unfold sortI
  rw [List.pairwise_map]
  have h : (sortS its).Pairwise (fun x y => (!ltOf (cmpS its) y x) = true) := by
    refine List.pairwise_mergeSort (le := fun x y => !ltOf (cmpS its) y x) ?_ ?_ its.attach
    · intro a b c h1 h2
      simp only [Bool.not_eq_true'] at *
      exact (swoS its).ntrans _ _ _ h2 h1
    · intro a b
      simp only [ltS]
      simp
      by_cases h : cmpT b.1.key a.1.key < 0
      · right
        rcases Int.lt_or_le (cmpT a.1.key b.1.key) 0 with h2 | h2
        · have h3 := (cmpT_lt _ _).1 h
          have h4 := (cmpT_lt _ _).1 h2
          unfold lt at h3 h4
          omega
        · exact h2
      · left
        omega
  refine h.imp fun {x y} hxy => ?_
  simp only [ltS, cmpT_lt, Bool.not_eq_true', decide_eq_false_iff_not] at hxy
  exact not_lt.1 hxy
end
theorem sizeOf82 : ∀ w, (Go.sizeOf 82).run Tryz.prog w = .ok 3 w := by
  intro w
  kernel_rfl
theorem isAgg82 : ∀ w, (isAgg 82).run Tryz.prog w = .ok true w := by
  intro w
  kernel_rfl
theorem cmpLaysS (its : List Itm) [Inhabited {x // x ∈ its}] (blk off size : Nat) (w : World) : CmpLays Tryz.prog 62 #[] (encS its) 3 (cmpS its) blk off size w := fun _ _ _ _ x y => cmp_any x.1 y.1 _
theorem encS_flat (its : List Itm) (l : List {x // x ∈ its}) : (l.map (encS its)).flatten = ((l.map (·.1)).map encI).flatten := by
  rw [List.map_map]
  rfl
set_option maxHeartbeats 1000000 in
theorem sort_any (v : Value) (ks : List Itm) (w0 w : World) (ho : OwnI w0 w v ks) (hl : ks.length ≤ 1000) (hn : (ks.map Itm.id).Nodup) :
    Calls Tryz.prog 65 #[v, .func (.func 62) #[] #[]] w fun e w' => e = .returned (.tuple #[]) ∧ OwnI w0 w' v (sortI ks) ∧ Touch v.ownBlock.toList w w' := by
  have eg : ∀ args w, (callFunc 62 args).run Tryz.prog w = .ok (.enter 62 args) w := enters_of Tryz.func62 (by kernel_rfl) rfl
  obtain ⟨a, c, rfl, _, _, h3⟩ := owns_form ho.row
  cases hks : ks with
  | nil =>
    subst hks
    have hcon := AnyF.slices_SortFunc_none { Tryz.sortL with } a c (.func (.func 62) #[] #[]) w
    change Calls Tryz.prog 65 _ _ _ at hcon
    refine hcon.mono fun e w' ⟨he, hw⟩ => ⟨he, ?_⟩
    subst hw
    have : sortI [] = [] := by simp [sortI, sortS]
    rw [this]
    exact ⟨ho, Touch.refl _ _⟩
  | cons k ks' =>
    rw [← hks]
    haveI : Inhabited {x // x ∈ ks} := ⟨⟨k, by rw [hks]; simp⟩⟩
    obtain ⟨g, rfl⟩ := h3 (by rw [hks]; simp)
    have hrow : w.ownsRow 0 82 3 (.slice (some ⟨g, 0, none⟩) ks.attach.length c) ks.attach.length (ks.attach.map (encS ks)).flatten := by
      rw [encS_flat, List.attach_map_subtype_val, List.length_attach]
      exact ho.row
    have hone : ∀ (x : {x // x ∈ ks}), ∀ u ∈ encS ks x, u.oneCell' = true := by
      intro x u hu
      simp only [encS, encI, List.mem_cons, List.not_mem_nil, or_false] at hu
      rcases hu with rfl | rfl | rfl
      · rfl
      · rfl
      · exact ho.one x.1 x.2
    have hcon := AnyQ.slices_SortFunc_total Tryz.sortL 3 isAgg82 sizeOf82 (encS ks) (fun _ => rfl) hone (cmpS ks) (swoS ks) 62 #[] g 0 c ks.attach.toArray w eg (cmpLaysS ks g 0 _ w) (owns_holds (enc := encS ks) (k := 3) (fun _ => rfl) ks.attach hrow) (ho.lt g rfl) (by simp; omega) (totS ks hn)
    change Calls Tryz.prog 65 _ _ _ at hcon
    have hl2 : (sortS ks).length = ks.attach.length := (List.mergeSort_perm ks.attach _).length_eq
    have hl3 : (sortI ks).length = ks.length := (sortI_perm ks).length_eq
    have hsz : ks.attach.toArray.size = ks.length := by simp
    rw [hsz] at hcon
    refine hcon.mono fun e w' ⟨he, n, os, hw⟩ => ⟨he, ?_⟩
    have hs := owns_sorted (enc := encS ks) (k := 3) (n := n) (os := os) (fun _ => rfl) ks.attach (sortS ks) hl2 hrow
    have ht := touch_sorted (enc := encS ks) (k := 3) w g n (sortS ks).toArray os
    have hw2 : w' = sortWorldK (encS ks) 3 w g 0 n (sortS ks).toArray os := by rw [hw]; rfl
    rw [hw2]
    refine ⟨⟨?_, ho.new, fun it hit => ho.one it ((sortI_perm ks).mem_iff.1 hit)⟩, by simpa [Value.ownBlock] using ht⟩
    rw [encS_flat, hl2, List.length_attach] at hs
    rw [hl3]
    exact hs
theorem owns_empty (w : World) (T : TypeId) : (w.alloc (.cells #[] T)).ownsRow 0 T 3 (.slice (some ⟨w.heap.size, 0, none⟩) 0 0) 0 [] :=
  ⟨rfl, .inr ⟨w.heap.size, 0, #[], rfl, Nat.zero_le _, heap_alloc_new w _, Nat.le_refl _, Nat.zero_le _, rfl, rfl⟩⟩
set_option maxRecDepth 100000 in
set_option maxHeartbeats 1000000 in
theorem clone_any (v : Value) (its : List Itm) (w : World) (h : w.ownsRow 0 82 3 v its.length (its.map encI).flatten) (h1 : ∀ it ∈ its, it.x.oneCell' = true) (hfew : its.length ≤ 1000) :
    Calls Tryz.prog 64 #[v] w fun e w' => ∃ v', e = .returned v' ∧ OwnI w w' v' its ∧ Touch [] w w' := by
  obtain ⟨i82, z82, hi82, hz82, hs82, hb82, hc82⟩ := info_parts info82
  obtain ⟨a, c, rfl, hc1, hc2, h3⟩ := owns_form h
  have hfl : (its.map encI).flatten.length = its.length * 3 := by rw [flat_len (encI_len its), List.length_map]
  have hone : ∀ u ∈ (its.map encI).flatten, u.oneCell' = true := by
    intro u hu
    obtain ⟨l, hl, hul⟩ := List.mem_flatten.1 hu
    obtain ⟨it, hit, rfl⟩ := List.mem_map.1 hl
    simp only [encI, List.mem_cons, List.not_mem_nil, or_false] at hul
    rcases hul with rfl | rfl | rfl
    · rfl
    · rfl
    · exact h1 it hit
  cases a with
  | none =>
    have hn : its = [] := by
      cases its with
      | nil => rfl
      | cons k ks => obtain ⟨g, hg⟩ := h3 (by simp); cases hg
    subst hn
    have hc0 : c = 0 := by
      rcases h.2 with ⟨e, _⟩ | ⟨g', cap, cur, hv, _⟩
      · simpa using e
      · simp at hv
    subst hc0
    simp only [List.length_nil]
    have heq := fun w => Go.Lib.run_eql_slice_nil_nil (P := Tryz.prog) w 0 0 Tryz.underlying78
    clear h3 h
    go_enter Tryz.func64, Tryz.ntmps64
    go_wp2_with fail
    go_ret
    exact ⟨_, rfl, ⟨World.ownsRow_nil _ _ _ _, by simp [Value.ownBlock], by simp⟩, Touch.refl _ _⟩
  | some ad =>
    have hcells : ∀ j u, (its.map encI).flatten[j]? = some u → w.cell? (ad.add j) = some u := by
      intro j u hu
      rcases h.2 with ⟨e, _⟩ | ⟨g', cap, cur, hv, hb, hh, hn, hm, hs, ht⟩
      · simp at e
      · simp at hv
        obtain ⟨rfl, rfl⟩ := hv
        rw [Addr.add_lit]
        simpa using owns_cell h j u hu
    have HR := Lib.hid hcells
    have tA := (Touch.refl [] w).alloc (.cells #[] 82)
    have hown := owns_empty w 82
    have heq := fun w => Go.Lib.run_eql_slice_some_nil (P := Tryz.prog) w ad its.length c Tryz.underlying78
    clear h3 hcells h
    go_enter Tryz.func64, Tryz.ntmps64
    go_wp2_with (at_builtin; refine wpList_app _ (by rfl) _ _ 78 (by rfl) 82 i82 _ 3 24 Tryz.underlying78 hi82 hz82 hs82 hb82 hc82 (by omega) _ 0 [] (by rfl) hown (some ad) its.length c (its.map encI).flatten (by rfl) hfl (by intro h; cases h) (by intro ad' h j u hu; cases h; exact tA.cell (HR.out j u hu) (by simp)) hone (by unfold maxLen; omega) (by omega) ?_)
    intro v' w2 o2 t2 b2
    have ho : OwnI w w2 v' its := ⟨o2, by
      intro g hg
      rcases b2 with e | e
      · rw [e] at hg
        simp [Value.ownBlock] at hg
        omega
      · rw [e] at hg
        cases hg
        omega, h1⟩
    have T2 : Touch [] w w2 := tA.trans t2 (by intro y hy; right; simp [Value.ownBlock] at hy; omega)
    have HO := Lib.hid ho
    clear ho o2 t2 b2 hown tA
    try simp only [Act.put]
    go_wp2_with fail
    go_ret
    exact ⟨_, rfl, HO.out, T2⟩
end Go.Proofs.YtobkanlnnniabaaGreat.G

/-
  The contract of Handles.
-/
namespace Go.Proofs.YtobkanlnnniabaaGreat.G
open Go.RowKit Go.Sort Go.Shelf
set_option linter.unusedVariables false
set_option linter.unusedSimpArgs false

theorem OwnI.touch {w0 w w' : World} {v : Value} {ks : List Itm} {S : List Nat} (h : OwnI w0 w v ks) (t : Touch S w w') (hS : ∀ g, v.ownBlock = some g → g ∉ S) : OwnI w0 w' v ks := ⟨t.owns h.row hS, h.new, h.one⟩
theorem OwnI.elem {w0 w : World} {g n c : Nat} {ks : List Itm} (k : OwnI w0 w (.slice (some ⟨g, 0, none⟩) n c) ks) {i : Nat} {it : Itm} (hi : ks[i]? = some it) :
    w.cell? ⟨g, i * 3, none⟩ = some (.int .i64 it.id) ∧ w.cell? ⟨g, i * 3 + 1, none⟩ = some (.int .u64 it.due) ∧ w.cell? ⟨g, i * 3 + 2, none⟩ = some it.x := by
  have hn : n = ks.length := by
    obtain ⟨a', c', hv, _⟩ := owns_form k.row
    simp at hv
    exact hv.2.1
  subst hn
  have h1 : (ks.map encI)[i]? = some (encI it) := by simp [hi]
  have := fun j u hu => owns_cell k.row (i * 3 + j) u (flat_get (encI_len ks) h1 (j := j) (u := u) hu)
  exact ⟨this 0 _ rfl, this 1 _ rfl, this 2 _ rfl⟩
theorem info3' : (Tryz.prog.info? 3).map (fun i => (i.size, i.bytes, i.zero.map fun z => z.cells.size)) = some (1, 8, some 1) := by kernel_rfl
set_option maxRecDepth 100000 in
set_option maxHeartbeats 2000000 in
theorem handles_any (h m : Nat) (v : Value) (its : List Itm) (kv : List (Int × Value)) (last : Int) (w : World) (k : HB w h m v its kv last) :
    Calls Tryz.prog 53 #[.pointer (some ⟨h, 0, none⟩)] w fun e w' => ∃ v', e = .returned v' ∧ OwnN w w' v' ((sortI its).map Itm.id) ∧ Touch [] w w' := by
  obtain ⟨i3, z3, hi3, hz3, hs3, hb3, hc3⟩ := info_parts info3'
  obtain ⟨c0, c1, c2⟩ := k.hp.cells
  have HC := Lib.hid (clone_any v its w k.hp.row k.hp.one k.hp.few)
  have hfew := k.hp.few
  have HN := Lib.hid k.ids
  have HR := Lib.hid k
  clear k
  go_enter Tryz.func53, Tryz.ntmps53
  go_wp2_with fail
  refine HC.out.mono ?_
  rintro e w1 ⟨v1, rfl, o1, t1⟩
  have HO1 := Lib.hid o1
  have T1 := Lib.hid t1
  clear o1 t1 c0 c1 c2
  go_wp2_with fail
  refine (sort_any v1 its w w1 HO1.out hfew HN.out).mono ?_
  rintro e w2 ⟨rfl, o2, t2⟩
  have T2 : Touch [] w w2 := T1.out.trans t2 (by intro y hy; right; exact HO1.out.new y (by simpa using hy))
  have hlen : (sortI its).length = its.length := (sortI_perm its).length_eq
  obtain ⟨ks, hks⟩ : ∃ ks, ks = sortI its := ⟨_, rfl⟩
  rw [← hks] at o2 hlen
  have HKS := Lib.hid hks
  clear hks
  obtain ⟨a1, c1, rfl, hc1, hc2, h3⟩ := owns_form o2.row
  have HO := Lib.hid o2
  have hfew2 : ks.length ≤ 1000 := by omega
  clear o2 t2 HO1 T1 hlen HC
  go_wp2_with fail
  go_loopw [4, 16] (fun v4 v16 wr => ∃ (j : Nat), v16 = .int .i64 j ∧ j ≤ ks.length ∧ OwnI w wr (.slice a1 ks.length c1) ks ∧ OwnN w wr v4 ((ks.take j).map Itm.id) ∧ (∀ g, v4.ownBlock = some g → ∀ g', a1 = some ⟨g', 0, none⟩ → g ≠ g') ∧ Touch [] w wr) (fun _ v16 _ => ks.length - (intOf v16).toNat)
  case atStart => exact ⟨0, rfl, by omega, HO.out, ⟨World.ownsRow_nil _ _ _ _, by simp [Value.ownBlock]⟩, by simp [Value.ownBlock], T2⟩
  case round =>
    obtain ⟨j, rfl, hj, ho, hn, hne, ht⟩ := hrel
    by_cases hjl : j < ks.length
    · have hx := List.getElem?_eq_getElem hjl
      generalize ks[j] = x at hx
      obtain ⟨g, rfl⟩ := h3 (by omega)
      obtain ⟨e0, e1, e2⟩ := ho.elem hx
      have h1x := ho.one x (List.mem_of_getElem? hx)
      have tB := (Touch.refl [] wr).alloc (.cells #[.int .i64 x.id, .int .u64 x.due, x.x] 82)
      obtain ⟨b0, b1, b2⟩ := cells_three (heap_alloc_new wr (.cells #[.int .i64 x.id, .int .u64 x.due, x.x] 82))
      have hrow := (hn.touch tB (by simp)).row
      have hlj : ((ks.take j).map Itm.id).length = j := by simp; omega
      rw [hlj] at hrow
      have HOo := Lib.hid ho
      have HNn := Lib.hid hn
      have HNE := Lib.hid hne
      have HX := Lib.hid hx
      have HT := Lib.hid ht
      have hjb : (j : Int) < (ks.length : Int) := by omega
      clear ho hn hne ht hx hlj
      have tC := tB.alloc (.cells #[.int .i64 x.id] 3)
      have hrow2 := hrow.alloc (.cells #[.int .i64 x.id] 3)
      have hnew := one_new (wr.alloc (.cells #[.int .i64 x.id, .int .u64 x.due, x.x] 82)) (.int .i64 x.id) 3
      rw [World.size_alloc] at hnew
      have hnews : ∀ ad, (some ⟨wr.heap.size + 1, 0, none⟩ : Option Addr) = some ad → ∀ j u, [Value.int .i64 x.id][j]? = some u → ((wr.alloc (.cells #[.int .i64 x.id, .int .u64 x.due, x.x] 82)).alloc (.cells #[.int .i64 x.id] 3)).cell? (ad.add j) = some u := by
        intro ad had
        cases had
        exact hnew
      clear hnew hrow
      go_wp2_with (first
        | (refine wpList_store_new rfl 82 _ _ rfl _ _ [.int .i64 x.id, .int .u64 x.due, x.x] (by rfl) (by rfl) rfl infoE (by intro u hu; simp at hu; rcases hu with rfl | rfl | rfl; rfl; rfl; exact h1x) ?_)
        | (at_builtin; refine wpList_app _ (by rfl) _ _ 53 (by rfl) 3 i3 z3 1 8 Tryz.underlying53 hi3 hz3 hs3 hb3 hc3 (by omega) _ j _ (by rfl) hrow2 (some ⟨wr.heap.size + 1, 0, none⟩) 1 1 [.int .i64 x.id] (by rfl) rfl (by intro h; cases h) hnews (by intro u hu; simp at hu; subst hu; rfl) (by unfold maxLen; omega) (by omega) ?_))
      intro vo w3 o3 t3 b3
      have hz : ((wr.alloc (.cells #[.int .i64 x.id, .int .u64 x.due, x.x] 82)).alloc (.cells #[.int .i64 x.id] 3)).heap.size = wr.heap.size + 2 := by simp
      have htk : (ks.take (j + 1)).map Itm.id = (ks.take j).map Itm.id ++ [x.id] := by
        rw [List.take_add_one, HX.out]
        simp
      have hlk : ((ks.take (j + 1)).map Itm.id).length = j + 1 := by simp; omega
      have hws := HT.out.size
      have hnew3 : ∀ g', vo.ownBlock = some g' → w.heap.size ≤ g' ∧ g' ≠ g := by
        intro g' hg'
        have hgl := HOo.out.lt g rfl
        rcases b3 with e | e
        · rw [e] at hg'
          exact ⟨HNn.out.new g' hg', HNE.out g' hg' g rfl⟩
        · rw [e] at hg'
          simp at hg'
          omega
      have hon : OwnN w w3 vo ((ks.take (j + 1)).map Itm.id) := ⟨by
        rw [hlk, htk, List.map_append]
        simpa [List.map_take] using o3, fun g' hg' => (hnew3 g' hg').1⟩
      have hoi : OwnI w w3 (.slice (some ⟨g, 0, none⟩) ks.length c1) ks := (HOo.out.touch tC (by simp)).touch t3 (by
        intro g' hg' hm
        cases hg'
        exact HNE.out g (by simpa using hm) g rfl rfl)
      have T3 : Touch [] w w3 := (HT.out.trans tC (by simp)).trans t3 (by intro y hy; right; exact HNn.out.new y (by simpa using hy))
      have HF := Lib.hid (show OwnI w w3 (.slice (some ⟨g, 0, none⟩) ks.length c1) ks ∧ OwnN w w3 vo ((ks.take (j + 1)).map Itm.id) ∧ (∀ g1, vo.ownBlock = some g1 → ∀ g', (some ⟨g, 0, none⟩ : Option Addr) = some ⟨g', 0, none⟩ → g1 ≠ g') ∧ Touch [] w w3 from
        ⟨hoi, hon, fun g1 hg1 g' hg' => by cases hg'; exact (hnew3 g1 hg1).2, T3⟩)
      clear o3 t3 b3 hz htk hlk hws hnew3 hon hoi T3 hrow2 hnews tC tB b0 b1 b2 e0 e1 e2
      obtain ⟨ao, co, rfl, _⟩ := owns_form HF.out.2.1.row
      have hwj : IntKind.i64.wrap ((j : Int) + 1) = (j : Int) + 1 := by rw [IntKind.wrap_i64] <;> omega
      try simp only [Act.put]
      go_wp2_with fail
      go_roundw
      case rel => exact ⟨j + 1, by simp, by omega, HF.out⟩
      case measure => simp [intOf]; omega
    · have hje : j = ks.length := by omega
      have hjb : ¬ (j : Int) < (ks.length : Int) := by omega
      have HNn := Lib.hid hn
      have HT := Lib.hid ht
      have HJ := Lib.hid hje
      clear hn ht hje ho hne
      go_wp2_with fail
      go_ret
      have hfin := HNn.out
      rw [HJ.out, List.take_length, HKS.out] at hfin
      exact ⟨_, rfl, hfin, HT.out⟩
section
variable {w : World} {h : Nat} {f : List Nat} {L : List Itm} {last : Int}
theorem Bag.handles (k : Bag w h f L last) : Calls Tryz.prog 53 #[.pointer (some ⟨h, 0, none⟩)] w fun e w' => ∃ (v : Value) (M : List Itm), e = .returned v ∧ M.Perm L ∧ M.Pairwise (fun x y => le x.key y.key) ∧ OwnN w w' v (M.map Itm.id) ∧ Touch [] w w' := by
  obtain ⟨m, v, its, kv, hb, hp, rfl⟩ := k
  refine (handles_any h m v its kv last w hb).mono ?_
  rintro e w' ⟨v', rfl, ho, ht⟩
  exact ⟨v', sortI its, rfl, (sortI_perm its).trans hp, sortI_sorted its, ho, ht⟩
end
end Go.Proofs.YtobkanlnnniabaaGreat.G

/-
  The contract of Equal at slices of ints: true at equal lists.
-/
namespace Go.Proofs.YtobkanlnnniabaaGreat
open Go.RowKit Go.Sort
set_option linter.unusedVariables false
set_option linter.unusedSimpArgs false
-- NOGTR
/-- A slice of ints that can be read. -/
def Ints (w : World) (v : Value) (ks : List Int) : Prop := ∃ a cap, v = .slice a ks.length cap ∧ ∀ (i : Nat) x, ks[i]? = some x → ∃ b off, a = some ⟨b, off, none⟩ ∧ w.cell? ⟨b, off + i, none⟩ = some (.int .i64 x)
theorem Ints.touch {w w' : World} {v : Value} {ks : List Int} (h : Ints w v ks) (t : Touch [] w w') : Ints w' v ks := by
  obtain ⟨a, cap, rfl, h2⟩ := h
  refine ⟨a, cap, rfl, fun i x hx => ?_⟩
  obtain ⟨b, off, e, hc⟩ := h2 i x hx
  exact ⟨b, off, e, t.cell hc (by simp)⟩
theorem Ints.nil (w : World) : Ints w (.slice none 0 0) [] := ⟨none, 0, rfl, fun i x hx => by simp at hx⟩
theorem OwnN.ints {w0 w : World} {v : Value} {l : List Int} (h : OwnN w0 w v l) : Ints w v l := by
  obtain ⟨a, c, rfl, _, _, h3⟩ := owns_form h.row
  refine ⟨a, c, rfl, fun i x hx => ?_⟩
  obtain ⟨g, rfl⟩ := h3 (by have := (List.getElem?_eq_some_iff.1 hx).1; omega)
  refine ⟨g, 0, rfl, ?_⟩
  have := owns_cell h.row i (.int .i64 x) (by rw [List.getElem?_map, hx]; rfl)
  simpa using this
theorem eqclos (x y : Int) (w : World) : Calls Tryz.prog 52 #[.int .i64 x, .int .i64 y] w fun e w' => e = .returned (.bool (decide (x = y))) ∧ w = w' := by
  go_enter Tryz.func52, Tryz.ntmps52
  go_wp2_with fail
  go_ret
  exact ⟨by congr 1, rfl⟩
set_option maxRecDepth 100000 in
set_option maxHeartbeats 1000000 in
theorem equalI (v1 v2 : Value) (ks : List Int) (w : World) (hl : ks.length ≤ 100000) (h1 : Ints w v1 ks) (h2 : Ints w v2 ks) :
    Calls Tryz.prog 36 #[v1, v2] w fun e w' => e = .returned (.bool true) ∧ Touch [] w w' := by
  have H1 := Lib.hid h1
  have H2 := Lib.hid h2
  obtain ⟨a1, c1, rfl, hc1⟩ := h1
  obtain ⟨a2, c2, rfl, hc2⟩ := h2
  have HC1 := Lib.hid hc1
  have HC2 := Lib.hid hc2
  clear hc1 hc2
  go_enter Tryz.func36, Tryz.ntmps36
  go_wp2_with fail
  go_enter Tryz.func51, Tryz.ntmps51
  go_wp2_with fail
  go_loopw [7] (fun vi wr => ∃ (i : Nat), i ≤ ks.length ∧ vi = .int .i64 i ∧ Touch [] w wr) (fun vi _ => ks.length - (intOf vi).toNat)
  case atStart => exact ⟨0, by omega, rfl, Touch.refl _ _⟩
  case round =>
    obtain ⟨i, hix, rfl, ht⟩ := hrel
    by_cases hlt : i < ks.length
    · have hx : ks[i]? = some ks[i] := List.getElem?_eq_getElem hlt
      generalize ks[i] = k at hx
      obtain ⟨b1, o1, rfl, p1⟩ := HC1.out i k hx
      obtain ⟨b2, o2, rfl, p2⟩ := HC2.out i k hx
      have p1 := ht.cell p1 (by simp)
      have p2 := ht.cell p2 (by simp)
      have hwi : IntKind.i64.wrap ((i : Int) + 1) = (i : Int) + 1 := by rw [IntKind.wrap_i64] <;> omega
      clear hx
      go_wp2_with fail
      refine wp_region_still_tail 9 (by kernel_rfl) (by kernel_rfl) ?_
      simp only [List.take_succ_cons, List.take_zero, List.drop_succ_cons, List.drop_zero]
      iterate 9 still_step
      refine wpStill_nil ?_
      change wpList _ _ _ _ _ wr.drew
      clear p1 p2
      go_wp2_with fail
      refine (eqclos k k _).mono ?_
      rintro e w2 ⟨rfl, rfl⟩
      have ht2 : Touch [] w wr.drew := ht.drew
      simp only [decide_true]
      go_wp2_with fail
      go_roundw
      case rel => exact ⟨i + 1, by omega, by go_num, ht2⟩
      case measure => simp [intOf] <;> omega
    · go_wp2_with fail
      go_ret
      exact ⟨rfl, ht⟩
end Go.Proofs.YtobkanlnnniabaaGreat

/-
  The contracts of NextDeadline and Handles.
-/
namespace Go.Proofs.YtobkanlnnniabaaGreat.G
open Go.RowKit
set_option linter.unusedVariables false
set_option linter.unusedSimpArgs false

section
variable {w : World} {t h : Nat} {fh : List Nat} {N : List Nd} {last : Int}
set_option maxRecDepth 100000 in
set_option maxHeartbeats 1000000 in
theorem tnext_no (k : TM w t h fh [] last) :
    Calls Tryz.prog 33 #[.pointer (some ⟨t, 0, none⟩)] w fun e w' => e = .returned (.tuple #[.int .u64 0, .bool false]) ∧ Touch [] w w' := by
  have c0 := k.mem.cell
  have HM := Lib.hid (Bag.min_no k.mem.bag)
  clear k
  go_enter Tryz.func33, Tryz.ntmps33
  go_wp2_with fail
  refine HM.out.mono ?_
  rintro e w' ⟨rfl, ht⟩
  go_wp2_with fail
  go_ret2
  exact ⟨rfl, ht⟩
set_option maxRecDepth 100000 in
set_option maxHeartbeats 1000000 in
theorem tnext_at (k : TM w t h fh N last) (n : Nd) (hn : n ∈ N) (hmin : ∀ m ∈ N, le n.itm.key m.itm.key) :
    Calls Tryz.prog 33 #[.pointer (some ⟨t, 0, none⟩)] w fun e w' => e = .returned (.tuple #[.int .u64 n.t.due, .bool true]) ∧ Touch [] w w' := by
  have c0 := k.mem.cell
  have HM := Lib.hid (k.mem.bag.min n.itm (TM.itm_mem hn) (by
    intro y hy
    obtain ⟨m, hm, rfl⟩ := List.mem_map.1 hy
    exact hmin m hm))
  clear k hmin
  go_enter Tryz.func33, Tryz.ntmps33
  go_wp2_with fail
  refine HM.out.mono ?_
  rintro e w' ⟨rfl, ht⟩
  have q1 : n.itm.due = n.t.due := rfl
  rw [q1]
  clear q1
  go_wp2_with fail
  go_ret2
  exact ⟨rfl, ht⟩
theorem up_tids (k : TM w t h fh N last) {M : List Itm} (hp : M.Perm (N.map Nd.itm)) : upI (M.map Itm.id) = tids (sh N) := by
  have hs : (tids (sh N)).Pairwise (· < ·) := by
    unfold tids
    rw [List.pairwise_map]
    exact k.tree.sorted
  have hq : (M.map Itm.id).Perm (tids (sh N)) := by
    have := hp.map Itm.id
    have e : (N.map Nd.itm).map Itm.id = tids (sh N) := by
      simp [tids, sh, Nd.itm, Function.comp_def]
    rwa [e] at this
  refine uniqI (upI_sorted (hq.nodup_iff.2 k.tree.nodup)) hs fun x => ?_
  rw [show upI (M.map Itm.id) = _ from rfl]
  exact (List.mergeSort_perm _ _).mem_iff.trans hq.mem_iff
set_option maxRecDepth 100000 in
set_option maxHeartbeats 1000000 in
theorem thandles_any (k : TM w t h fh N last) :
    Calls Tryz.prog 37 #[.pointer (some ⟨t, 0, none⟩)] w fun e w' => ∃ v, e = .returned v ∧ Ints w' v (tids (sh N)) ∧ Touch [] w w' := by
  have c0 := k.mem.cell
  have HH := Lib.hid (k.mem.bag.handles)
  have HU := Lib.hid (fun M hp => up_tids (M := M) k hp)
  have hfew := k.mem.few
  clear k
  go_enter Tryz.func37, Tryz.ntmps37
  go_wp2_with fail
  refine HH.out.mono ?_
  rintro e w1 ⟨v1, M, rfl, hp, _, ho, t1⟩
  have hu := HU.out M hp
  have hl : (M.map Itm.id).length ≤ 1000 := by
    have := hp.length_eq
    simp at this ⊢
    omega
  generalize M.map Itm.id = l at *
  obtain ⟨av, cv, rfl, hv1, hv2, hv3⟩ := owns_form ho.row
  have HU2 := Lib.hid hu
  have HO := Lib.hid ho
  have HT := Lib.hid t1
  clear hu ho t1 hp HU HH
  by_cases hl0 : l.length = 0
  · have hln : l = [] := List.length_eq_zero_iff.1 hl0
    subst hln
    go_wp2_with fail
    refine (sort_nil _ _ _).mono ?_
    rintro e w2 ⟨rfl, rfl⟩
    go_wp2_with fail
    go_ret
    refine ⟨_, rfl, ?_, HT.out⟩
    rw [← HU2.out]
    exact ⟨av, cv, by simp [upI], fun i x hx => by simp [upI] at hx⟩
  · obtain ⟨g, rfl⟩ := hv3 (by omega)
    have hgs : g < w1.heap.size := (HO.out.row.lt g rfl).2
    have HSO := Lib.hid (sort_ints w1 g 0 cv l (by
      intro j x hj
      have h1 := owns_cell HO.out.row j (.int .i64 x) (by rw [List.getElem?_map, hj]; rfl)
      rw [Nat.zero_add]
      exact ⟨h1, owns_frozen HO.out.row j⟩) hgs (by omega))
    clear hv2 hv3
    go_wp2_with fail
    refine HSO.out.mono ?_
    rintro e w2 ⟨rfl, t2, hc⟩
    have HT2 := Lib.hid (HT.out.trans t2 (by
      intro y hy
      simp at hy
      subst hy
      exact .inr (HO.out.new _ rfl)))
    have HC := Lib.hid hc
    clear t2 hc
    go_wp2_with fail
    go_ret
    refine ⟨_, rfl, ?_, HT2.out⟩
    rw [← HU2.out]
    exact ⟨some ⟨g, 0, none⟩, cv, by rw [upI_len]; rfl, fun i x hx => ⟨g, 0, rfl, HC.out i x hx⟩⟩
end
section
variable {w0 w : World} {t h : Nat} {A : List (Tm × Tag)} {last : Int} {G : List Nat}
theorem Avd.next_no (k : Avd w0 w t h [] last G) :
    Calls Tryz.prog 33 #[.pointer (some ⟨t, 0, none⟩)] w fun e w' => e = .returned (.tuple #[.int .u64 0, .bool false]) ∧ Touch [] w w' := by
  obtain ⟨f, ⟨fh, N, hm, hA, rfl⟩, h2, h3, h4⟩ := k
  have : N = [] := by
    unfold ab at hA
    simpa using hA
  subst this
  exact tnext_no hm
theorem Avd.next_at (k : Avd w0 w t h A last G) (a : Tm × Tag) (ha : a ∈ A) (hmin : ∀ b ∈ A, le (tkey a.1) (tkey b.1)) :
    Calls Tryz.prog 33 #[.pointer (some ⟨t, 0, none⟩)] w fun e w' => e = .returned (.tuple #[.int .u64 a.1.due, .bool true]) ∧ Touch [] w w' := by
  obtain ⟨f, ⟨fh, N, hm, rfl, rfl⟩, h2, h3, h4⟩ := k
  obtain ⟨n, hn, rfl⟩ := List.mem_map.1 ha
  exact tnext_at hm n hn (fun m hm => hmin (m.t, m.x) (List.mem_map.2 ⟨m, hm, rfl⟩))
theorem Avd.handles (k : Avd w0 w t h A last G) :
    Calls Tryz.prog 37 #[.pointer (some ⟨t, 0, none⟩)] w fun e w' => ∃ v, e = .returned v ∧ Ints w' v (tids (A.map Prod.fst)) ∧ Touch [] w w' := by
  obtain ⟨f, ⟨fh, N, hm, rfl, rfl⟩, h2, h3, h4⟩ := k
  rw [ab_fst]
  exact thandles_any hm
end
end Go.Proofs.YtobkanlnnniabaaGreat.G

/-
  Timers and reference side by side.
-/
namespace Go.Proofs.YtobkanlnnniabaaGreat.G
open Go.RowKit
set_option linter.unusedVariables false
set_option linter.unusedSimpArgs false
-- RL w r v
/-- The timers at t hold A1, the reference at r holds A2; the blocks K lie apart from both. -/
structure Bp (K : List Nat) (w0 w : World) (t h r : Nat) (v : Value) (A1 : TA) (l1 : Int) (A2 : TA) (l2 : Int) : Prop where
  imp : Avd w0 w t h A1 l1 (RFoot r v ++ K)
  ref : RL w r v A2 l2
  off : ∀ g ∈ K, g ∉ RFoot r v
/-- The blocks K are as they were. -/
def Sm (K : List Nat) (w w' : World) : Prop := ∀ g ∈ K, ∀ o, w.heap[g]? = some o → w'.heap[g]? = some o
section
variable {K : List Nat} {w0 w w' : World} {t h r : Nat} {v : Value} {A1 A2 A : TA} {l1 l2 last : Int} {L : List Nat}
theorem Avd.tok (k : Avd w0 w t h A last L) : TOk A last := by
  refine ⟨k.tree, k.due, fun a ha => ?_⟩
  obtain ⟨f, ⟨fh, N, hm, rfl, rfl⟩, _⟩ := k
  obtain ⟨n, hn, rfl⟩ := List.mem_map.1 ha
  exact hm.mem.rq n hn
theorem Avd.touch0 (k : Avd w0 w t h A last L) (ht : Touch [] w w') : Avd w0 w' t h A last L := (k.touch ht).1
theorem Avd.glt (k : Avd w0 w t h A last L) {g : Nat} (hg : g ∈ L) : g < w.heap.size := by
  obtain ⟨f, _, _, _, h4⟩ := k
  exact (h4 g hg).2.1
theorem Bp.touch0 (B : Bp K w0 w t h r v A1 l1 A2 l2) (ht : Touch [] w w') : Bp K w0 w' t h r v A1 l1 A2 l2 := ⟨B.imp.touch0 ht, B.ref.touch0 ht, B.off⟩
theorem Bp.imp' {A1' : TA} {l1' : Int} (B : Bp K w0 w t h r v A1 l1 A2 l2) (n : Lft w0 w t h A1' l1' (RFoot r v ++ K) w') : Bp K w0 w' t h r v A1' l1' A2 l2 ∧ Sm K w w' := by
  obtain ⟨h1, h2⟩ := n
  have h3 := h2
  obtain ⟨S, ht, hS⟩ := h2
  exact ⟨⟨h1, B.ref.touch ht (fun y hy => hS y (List.mem_append.2 (.inl hy))), B.off⟩, fun g hg o ho => h3.at (List.mem_append.2 (.inr hg)) ho⟩
theorem Bp.ref' {A2' : TA} {l2' : Int} (B : Bp K w0 w t h r v A1 l1 A2 l2) (n : RNx w r v A2' l2' w') : (∃ v', Bp K w0 w' t h r v' A1 l1 A2' l2') ∧ Sm K w w' := by
  obtain ⟨v', h1, h2, h3⟩ := n
  refine ⟨⟨v', B.imp.other h3 (fun y hy => .inl (List.mem_append.2 (.inl hy))) (fun g hg => ?_), h1, fun g hg hm => ?_⟩, fun g hg o ho => h3.at ho (B.off g hg)⟩
  · rcases List.mem_append.1 hg with hg | hg
    · refine ⟨?_, h1.lt g hg⟩
      rcases h2 g hg with e | e
      · exact .inl (List.mem_append.2 (.inl e))
      · exact .inr e
    · exact ⟨.inl (List.mem_append.2 (.inr hg)), Nat.lt_of_lt_of_le (B.imp.glt (List.mem_append.2 (.inr hg))) h3.size⟩
  · rcases h2 g hm with e | e
    · exact B.off g hg e
    · have := B.imp.glt (List.mem_append.2 (.inr hg))
      omega
theorem Bp.add (B : Bp K w0 w t h r v A1 l1 A2 l2) (ht : Touch [] w w') {g : Nat} (h1 : w.heap.size ≤ g) (h2 : g < w'.heap.size) : Bp (g :: K) w0 w' t h r v A1 l1 A2 l2 := by
  refine ⟨B.imp.other ht (by simp) (fun y hy => ?_), B.ref.touch0 ht, fun y hy hm => ?_⟩
  · rcases List.mem_append.1 hy with hy | hy
    · exact ⟨.inl (List.mem_append.2 (.inl hy)), Nat.lt_of_lt_of_le (B.imp.glt (List.mem_append.2 (.inl hy))) ht.size⟩
    · rcases List.mem_cons.1 hy with rfl | hy
      · exact ⟨.inr h1, h2⟩
      · exact ⟨.inl (List.mem_append.2 (.inr hy)), Nat.lt_of_lt_of_le (B.imp.glt (List.mem_append.2 (.inr hy))) ht.size⟩
  · rcases List.mem_cons.1 hy with rfl | hy
    · have := B.ref.lt y hm
      omega
    · exact B.off y hy hm
theorem Bp.weak (B : Bp K w0 w t h r v A1 l1 A2 l2) : Bp [] w0 w t h r v A1 l1 A2 l2 :=
  ⟨B.imp.other (Touch.refl [] w) (by simp) (fun y hy => ⟨.inl (List.mem_append.2 (.inl (by simpa using hy))), B.imp.glt (List.mem_append.2 (.inl (by simpa using hy)))⟩), B.ref, by simp⟩
theorem Bp.tt (B : Bp K w0 w t h r v A1 l1 A2 l2) : Touch [] w0 w := B.imp.tt
theorem fst_there (h : TOk A last) (hne : A ≠ []) : ∃ (i : Nat) (a : Tm × Tag), A[i]? = some a ∧ Fst A a := by
  obtain ⟨i, a, hi, hm⟩ := first_there h.tree (by simpa using hne)
  rw [List.getElem?_map] at hi
  cases ha : A[i]? with
  | none => rw [ha] at hi; cases hi
  | some b =>
    rw [ha] at hi
    simp at hi
    subst hi
    exact ⟨i, b, ha, fun c hc => hm c.1 (List.mem_map.2 ⟨c, hc, rfl⟩)⟩
end
end Go.Proofs.YtobkanlnnniabaaGreat.G

/-
  A slice of due times that came in.
-/
namespace Go.Proofs.YtobkanlnnniabaaGreat
open Go.ChangeShapes Go.WideShapes Go.RowKit
set_option linter.unusedVariables false
set_option linter.unusedSimpArgs false

/-- The cells of a uint64. -/
def encU (x : Int) : List Value := [.int .u64 x]
def U64 (x : Int) : Prop := (Lit.int .u64 x).wf = true
theorem u64_rows {H : Type} {enc : TypeId × Value → H} {w : World} {base : Nat} {spare : Nat → Bool} {held : Bool} {v : Value} (hv : IsSlice enc Tryz.prog w base spare held [31] v) : ∃ (b : Nat) (l : List Int), Rd w 1 b v (l.map encU) ∧ ∀ x ∈ l, U64 x := by
  obtain ⟨b, xs, hr, hx⟩ := slice_rows (by simp) hv
  have h : ∃ l : List Int, xs = l.map encU ∧ ∀ x ∈ l, U64 x := by
    clear hr
    induction xs with
    | nil => exact ⟨[], rfl, by simp⟩
    | cons x xs ih =>
      obtain ⟨l, rfl, hl⟩ := ih (fun y hy => hx y (List.mem_cons_of_mem _ hy))
      obtain ⟨hlen, hc⟩ := hx x List.mem_cons_self
      obtain ⟨v0, e0, l0⟩ := hc 0 31 rfl
      obtain ⟨a, rfl, wa⟩ := l0.int Tryz.underlying31
      refine ⟨a :: l, ?_, ?_⟩
      · match x, hlen with
        | [y], _ => simp at e0; rw [e0]; rfl
      · intro y hy
        rcases List.mem_cons.1 hy with rfl | hy
        · exact wa
        · exact hl y hy
  obtain ⟨l, rfl, hl⟩ := h
  exact ⟨b, l, hr, hl⟩
theorem rd_u64 {w : World} {b n cap : Nat} {a : Option Addr} {l : List Int} (h : Rd w 1 b (.slice a n cap) (l.map encU)) {i : Nat} {x : Int} (hi : l[i]? = some x) :
    ∃ off, a = some ⟨b, off, none⟩ ∧ w.cell? ⟨b, off + i, none⟩ = some (.int .u64 x) := by
  obtain ⟨off, ha, hat⟩ := h.at (by intro e; simp at e; subst e; simp at hi)
  have := hat i (encU x) (by simp [hi])
  have h0 := this 0 _ rfl
  rw [Nat.mul_one] at h0
  exact ⟨off, ha, h0⟩
theorem u64_lo {x : Int} (h : U64 x) : 0 ≤ x := by
  unfold U64 at h
  simp [Lit.wf] at h
  have : IntKind.u64.min = 0 := rfl
  omega
end Go.Proofs.YtobkanlnnniabaaGreat

/-
  The statements' Mod.
-/
namespace Go.Proofs.YtobkanlnnniabaaGreat
open Go.RowKit
set_option linter.unusedVariables false
set_option linter.unusedSimpArgs false

def gmod (v n : Int) : Int := (v % 18446744073709551616) % n
theorem gmod_lo (v n : Int) (hn : 1 ≤ n) : 0 ≤ gmod v n := Int.emod_nonneg _ (by omega)
theorem gmod_hi (v n : Int) (hn : 1 ≤ n) : gmod v n < n := Int.emod_lt_of_pos _ (by omega)
theorem mod_eq (v n : Int) (hn : 1 ≤ n) (hn2 : n ≤ 2000000) : wrap64 ((IntKind.u64.wrap v).tmod n) = gmod v n := by
  have h0 : 0 ≤ IntKind.u64.wrap v := by simp [IntKind.wrap, IntKind.signed, IntKind.bits]; omega
  rw [Int.tmod_eq_emod_of_nonneg h0]
  have h1 := Int.emod_nonneg (IntKind.u64.wrap v) (show n ≠ 0 by omega)
  have h2 := Int.emod_lt_of_pos (IntKind.u64.wrap v) (show 0 < n by omega)
  rw [IntWalk.wrap64_in _ ⟨by omega, by omega⟩]
  unfold gmod
  congr 1
theorem mod_any (v n : Int) (w : World) (hn : 1 ≤ n) (hn2 : n ≤ 2000000) :
    Calls Tryz.prog 7 #[.int .i64 v, .int .i64 n] w fun e w' => e = .returned (.int .i64 (gmod v n)) ∧ w = w' := by
  have H := mod_eq v n hn hn2
  go_enter Tryz.func7, Tryz.ntmps7
  go_wp2
  go_ret
  exact ⟨by simp [← H], rfl⟩
end Go.Proofs.YtobkanlnnniabaaGreat

/-
  A slice of ints that came in; someHandle.
-/
namespace Go.Proofs.YtobkanlnnniabaaGreat
open Go.ChangeShapes Go.WideShapes Go.RowKit
set_option linter.unusedVariables false
set_option linter.unusedSimpArgs false

/-- The cells of an int. -/
def encN (x : Int) : List Value := [.int .i64 x]
theorem i64_rows {H : Type} {enc : TypeId × Value → H} {w : World} {base : Nat} {spare : Nat → Bool} {held : Bool} {v : Value} (hv : IsSlice enc Tryz.prog w base spare held [3] v) : ∃ (b : Nat) (l : List Int), Rd w 1 b v (l.map encN) ∧ ∀ x ∈ l, okK x := by
  obtain ⟨b, xs, hr, hx⟩ := slice_rows (by simp) hv
  have h : ∃ l : List Int, xs = l.map encN ∧ ∀ x ∈ l, okK x := by
    clear hr
    induction xs with
    | nil => exact ⟨[], rfl, by simp⟩
    | cons x xs ih =>
      obtain ⟨l, rfl, hl⟩ := ih (fun y hy => hx y (List.mem_cons_of_mem _ hy))
      obtain ⟨hlen, hc⟩ := hx x List.mem_cons_self
      obtain ⟨v0, e0, l0⟩ := hc 0 3 rfl
      obtain ⟨a, rfl, wa⟩ := l0.int Tryz.underlying3
      refine ⟨a :: l, ?_, ?_⟩
      · match x, hlen with
        | [y], _ => simp at e0; rw [e0]; rfl
      · intro y hy
        rcases List.mem_cons.1 hy with rfl | hy
        · exact wa
        · exact hl y hy
  obtain ⟨l, rfl, hl⟩ := h
  exact ⟨b, l, hr, hl⟩
theorem rd_i64 {w : World} {b n cap : Nat} {a : Option Addr} {l : List Int} (h : Rd w 1 b (.slice a n cap) (l.map encN)) {i : Nat} {x : Int} (hi : l[i]? = some x) :
    ∃ off, a = some ⟨b, off, none⟩ ∧ w.cell? ⟨b, off + i, none⟩ = some (.int .i64 x) := by
  obtain ⟨off, ha, hat⟩ := h.at (by intro e; simp at e; subst e; simp at hi)
  have := hat i (encN x) (by simp [hi])
  have h0 := this 0 _ rfl
  rw [Nat.mul_one] at h0
  exact ⟨off, ha, h0⟩
theorem u64_max {x : Int} (h : U64 x) : 0 ≤ x ∧ x ≤ maxT := by
  refine ⟨u64_lo h, ?_⟩
  unfold U64 at h
  simp [Lit.wf] at h
  have : IntKind.u64.max = 18446744073709551615 := rfl
  unfold maxT
  omega
theorem okN_of {i : Int} (h0 : -9223372036854775808 ≤ i) (h1 : i ≤ 9223372036854775807) : okK i := by
  unfold okK
  simp [Lit.wf]
  have : IntKind.i64.min = -9223372036854775808 := rfl
  omega
theorem okN_bd {i : Int} (h : okK i) : -9223372036854775808 ≤ i ∧ i ≤ 9223372036854775807 := by
  unfold okK at h
  simp [Lit.wf] at h
  have : IntKind.i64.min = -9223372036854775808 := rfl
  have : IntKind.i64.max = 9223372036854775807 := rfl
  omega
end Go.Proofs.YtobkanlnnniabaaGreat

/-
  sameState: true where timers and reference hold the same.
-/
namespace Go.Proofs.YtobkanlnnniabaaGreat.G
open Go.RowKit
set_option linter.unusedVariables false
set_option linter.unusedSimpArgs false
-- RL w r v
set_option maxRecDepth 100000 in
set_option maxHeartbeats 8000000 in
theorem same_any {K : List Nat} {w0 w : World} {t h r : Nat} {v : Value} {A : TA} {last : Int} (B : Bp K w0 w t h r v A last A last) :
    Calls Tryz.prog 16 #[.pointer (some ⟨t, 0, none⟩), .pointer (some ⟨r, 0, none⟩)] w fun e w' => e = .returned (.bool true) ∧ Touch [] w w' := by
  have hok := B.imp.tok
  have hfew := B.ref.few
  obtain ⟨d, ok, hn1, hn2⟩ : ∃ (d : Int) (ok : Bool), Calls Tryz.prog 33 #[.pointer (some ⟨t, 0, none⟩)] w (fun e w' => e = .returned (.tuple #[.int .u64 d, .bool ok]) ∧ Touch [] w w') ∧
      ∀ w1, Touch [] w w1 → Calls Tryz.prog 34 #[.pointer (some ⟨r, 0, none⟩)] w1 (fun e w' => e = .returned (.tuple #[.int .u64 d, .bool ok]) ∧ w1 = w') := by
    by_cases hA : A = []
    · subst hA
      exact ⟨0, false, B.imp.next_no, fun w1 t1 => next_no (B.ref.touch0 t1) hok⟩
    · obtain ⟨i, a, hi, hm⟩ := fst_there hok hA
      exact ⟨a.1.due, true, B.imp.next_at a (List.mem_of_getElem? hi) hm, fun w1 t1 => next_at (B.ref.touch0 t1) hok hi hm⟩
  have HN1 := Lib.hid hn1
  have HN2 := Lib.hid hn2
  have HB := Lib.hid B
  have HOK := Lib.hid hok
  have hvf := owns_form B.ref.row
  rw [rA_len] at hvf
  obtain ⟨av, cv, rfl, hv1, _, _⟩ := hvf
  clear B hn1 hn2 hok
  go_enter Tryz.func16, Tryz.ntmps16
  go_wp2_with fail
  refine HN1.out.mono ?_
  rintro e w1 ⟨rfl, t1⟩
  have B1 := Lib.hid (HB.out.touch0 t1)
  have HN2 := Lib.hid (HN2.out w1 t1)
  have T1 := Lib.hid t1
  clear t1 HN1
  go_wp2_with fail
  refine HN2.out.mono ?_
  rintro e w2 ⟨rfl, hw⟩
  obtain rfl := hw
  have B2 := B1
  have T2 := T1
  clear HN2
  obtain ⟨w2, hw2⟩ : ∃ w2, w2 = w1 := ⟨_, rfl⟩
  rw [← hw2] at B2 T2 ⊢
  clear hw2 B1 T1 HB
  go_wp2_with fail
  refine wp_region_held (S := Touch [] w2.drew) (by kernel_rfl) ?_
  change wpAnyH _ _ _ _ _ _ _ _ w2.drew
  have BX := Lib.hid (B2.out.touch0 (Touch.refl [] w2).drew)
  have TX := Lib.hid ((T2.out.trans (Touch.refl [] w2).drew) (by simp))
  generalize w2.drew = X at *
  have hS := Touch.refl [] X
  have c0 := BX.out.ref.c0
  refine wpAnyH_take (i := 0) (oi := { dst := some 20, op := Op.move (Operand.tmp 5), type := 31, pos := "law.go:53", after := #[], guard := none }) (v := .int .u64 d) rfl (by kernel_rfl) (by kernel_rfl) (by kernel_rfl) (fun _ _ _ h => h) (Or.inl ⟨by rfl, fun w' hw => by go_simp⟩) hS ?_
  try simp only [Act.put, List.setIfInBounds_toArray, List.set_cons_zero, List.set_cons_succ]
  refine wpAnyH_take (i := 1) (oi := { dst := some 21, op := Op.move (Operand.tmp 7), type := 31, pos := "law.go:53", after := #[], guard := none }) (v := .int .u64 d) rfl (by kernel_rfl) (by kernel_rfl) (by kernel_rfl) (fun _ _ _ h => h) (Or.inl ⟨by rfl, fun w' hw => by go_simp⟩) hS ?_
  try simp only [Act.put, List.setIfInBounds_toArray, List.set_cons_zero, List.set_cons_succ]
  refine wpAnyH_take (i := 2) (oi := { dst := some 22, op := Op.binOp BinOp.neq 31 (Operand.tmp 20) (Operand.tmp 21) 31, type := 4, pos := "law.go:53", after := #[{ on := 0, ground := Ground.data }, { on := 1, ground := Ground.data }], guard := none }) (v := .bool false) rfl (by kernel_rfl) (by kernel_rfl) (by kernel_rfl) (fun _ _ _ h => h) (Or.inl ⟨by rfl, fun w' hw => by go_simp⟩) hS ?_
  try simp only [Act.put, List.setIfInBounds_toArray, List.set_cons_zero, List.set_cons_succ]
  refine wpAnyH_take (i := 3) (oi := { dst := some 23, op := Op.move (Operand.tmp 22), type := 4, pos := "law.go:53", after := #[{ on := 2, ground := Ground.data }], guard := none }) (v := .bool false) rfl (by kernel_rfl) (by kernel_rfl) (by kernel_rfl) (fun _ _ _ h => h) (Or.inl ⟨by rfl, fun w' hw => by go_simp⟩) hS ?_
  try simp only [Act.put, List.setIfInBounds_toArray, List.set_cons_zero, List.set_cons_succ]
  refine wpAnyH_take (i := 4) (oi := { dst := some 24, op := Op.move (Operand.tmp 6), type := 4, pos := "law.go:53", after := #[{ on := 3, ground := Ground.guard }], guard := some (3, false) }) (v := .bool ok) rfl (by kernel_rfl) (by kernel_rfl) (by kernel_rfl) (fun _ _ _ h => h) (Or.inl ⟨by rfl, fun w' hw => by go_simp⟩) hS ?_
  try simp only [Act.put, List.setIfInBounds_toArray, List.set_cons_zero, List.set_cons_succ]
  refine wpAnyH_take (i := 5) (oi := { dst := some 25, op := Op.move (Operand.tmp 8), type := 4, pos := "law.go:53", after := #[{ on := 3, ground := Ground.guard }], guard := some (3, false) }) (v := .bool ok) rfl (by kernel_rfl) (by kernel_rfl) (by kernel_rfl) (fun _ _ _ h => h) (Or.inl ⟨by rfl, fun w' hw => by go_simp⟩) hS ?_
  try simp only [Act.put, List.setIfInBounds_toArray, List.set_cons_zero, List.set_cons_succ]
  refine wpAnyH_take (i := 6) (oi := { dst := some 26, op := Op.binOp BinOp.neq 4 (Operand.tmp 24) (Operand.tmp 25) 4, type := 4, pos := "law.go:53", after := #[{ on := 4, ground := Ground.data }, { on := 5, ground := Ground.data }, { on := 3, ground := Ground.guard }], guard := some (3, false) }) (v := .bool false) rfl (by kernel_rfl) (by kernel_rfl) (by kernel_rfl) (fun _ _ _ h => h) (Or.inl ⟨by rfl, fun w' hw => by go_simp⟩) hS ?_
  try simp only [Act.put, List.setIfInBounds_toArray, List.set_cons_zero, List.set_cons_succ]
  refine wpAnyH_take (i := 7) (oi := { dst := some 27, op := Op.pick (Operand.tmp 23) (Operand.const (Value.bool true)) (Operand.tmp 26), type := 4, pos := "law.go:53", after := #[{ on := 3, ground := Ground.data }, { on := 6, ground := Ground.data }], guard := none }) (v := .bool false) rfl (by kernel_rfl) (by kernel_rfl) (by kernel_rfl) (fun _ _ _ h => h) (Or.inl ⟨by rfl, fun w' hw => by go_simp⟩) hS ?_
  try simp only [Act.put, List.setIfInBounds_toArray, List.set_cons_zero, List.set_cons_succ]
  refine wpAnyH_take (i := 8) (oi := { dst := some 28, op := Op.move (Operand.tmp 27), type := 4, pos := "law.go:53", after := #[{ on := 7, ground := Ground.data }, { on := 3, ground := Ground.chain }], guard := none }) (v := .bool false) rfl (by kernel_rfl) (by kernel_rfl) (by kernel_rfl) (fun _ _ _ h => h) (Or.inl ⟨by rfl, fun w' hw => by go_simp⟩) hS ?_
  try simp only [Act.put, List.setIfInBounds_toArray, List.set_cons_zero, List.set_cons_succ]
  refine wpAnyH_take (i := 9) (oi := { dst := some 29, op := Op.move (Operand.tmp 0), type := 23, pos := "law.go:53", after := #[{ on := 8, ground := Ground.guard }], guard := some (8, false) }) (v := .pointer (some ⟨t, 0, none⟩)) rfl (by kernel_rfl) (by kernel_rfl) (by kernel_rfl) (fun _ _ _ h => h) (Or.inl ⟨by rfl, fun w' hw => by go_simp⟩) hS ?_
  try simp only [Act.put, List.setIfInBounds_toArray, List.set_cons_zero, List.set_cons_succ]
  refine wpAnyH_take (i := 11) (oi := { dst := some 31, op := Op.move (Operand.tmp 1), type := 27, pos := "law.go:53", after := #[{ on := 8, ground := Ground.guard }], guard := some (8, false) }) (v := .pointer (some ⟨r, 0, none⟩)) rfl (by kernel_rfl) (by kernel_rfl) (by kernel_rfl) (fun _ _ _ h => h) (Or.inl ⟨by rfl, fun w' hw => by go_simp⟩) hS ?_
  try simp only [Act.put, List.setIfInBounds_toArray, List.set_cons_zero, List.set_cons_succ]
  refine wpAnyH_take (i := 12) (oi := { dst := some 32, op := Op.nilCheck (Operand.tmp 31), type := 0, pos := "law.go:53", after := #[{ on := 11, ground := Ground.data }, { on := 8, ground := Ground.guard }], guard := some (8, false) }) (v := .pointer (some ⟨r, 0, none⟩)) rfl (by kernel_rfl) (by kernel_rfl) (by kernel_rfl) (fun _ _ _ h => h) (Or.inl ⟨by rfl, fun w' hw => by go_simp⟩) hS ?_
  try simp only [Act.put, List.setIfInBounds_toArray, List.set_cons_zero, List.set_cons_succ]
  refine wpAnyH_take (i := 13) (oi := { dst := some 33, op := Op.fieldAddr 30 (Operand.tmp 32) 0, type := 0, pos := "law.go:53", after := #[{ on := 12, ground := Ground.data }, { on := 8, ground := Ground.guard }], guard := some (8, false) }) (v := .pointer (some ⟨r, 0, none⟩)) rfl (by kernel_rfl) (by kernel_rfl) (by kernel_rfl) (fun _ _ _ h => h) (Or.inl ⟨by rfl, fun w' hw => by go_simp⟩) hS ?_
  try simp only [Act.put, List.setIfInBounds_toArray, List.set_cons_zero, List.set_cons_succ]
  refine wpAnyH_take (i := 14) (oi := { dst := some 34, op := Op.load 28 (Operand.tmp 33), type := 28, pos := "law.go:53", after := #[{ on := 13, ground := Ground.data }, { on := 8, ground := Ground.guard }], guard := some (8, false) }) (v := .slice av A.length cv) rfl (by kernel_rfl) (by kernel_rfl) (by kernel_rfl) (fun _ _ _ h => h) (Or.inl ⟨by rfl, fun w' hw => by (have q := hw.cell c0 (by simp); go_simp)⟩) hS ?_
  try simp only [Act.put, List.setIfInBounds_toArray, List.set_cons_zero, List.set_cons_succ]
  refine wpAnyH_take (i := 15) (oi := { dst := some 35, op := Op.call { callee := Callee.builtin Builtin.len, args := #[Operand.tmp 34], argTypes := #[28] }, type := 3, pos := "law.go:53", after := #[{ on := 14, ground := Ground.data }, { on := 8, ground := Ground.guard }], guard := some (8, false) }) (v := .int .i64 (A.length : Int)) rfl (by kernel_rfl) (by kernel_rfl) (by kernel_rfl) (fun _ _ _ h => h) (Or.inl ⟨by rfl, fun w' hw => by go_simp⟩) hS ?_
  try simp only [Act.put, List.setIfInBounds_toArray, List.set_cons_zero, List.set_cons_succ]
  refine wpAnyH_ready (rs := [10]) (by kernel_rfl) (by simp) ?_
  refine AllReadyH.cons (o := { dst := some 30, op := Op.call { callee := Callee.value (Operand.func 35), args := #[Operand.tmp 29], argTypes := #[23] }, type := 3, pos := "law.go:53", after := #[{ on := 9, ground := Ground.data }, { on := 8, ground := Ground.chain }, { on := 8, ground := Ground.guard }], guard := some (8, false) }) rfl (fun K hK => ?_) AllReadyH.nil
  go_simp
  refine ((BX.out.imp.touch0 hS).len).mono ?_
  rintro e w' ⟨rfl, rfl⟩
  refine hK.out _ _ hS (fun _ => ?_)
  clear hK K
  try simp only [Act.put, List.setIfInBounds_toArray, List.set_cons_zero, List.set_cons_succ]
  refine wpAnyH_take (i := 16) (oi := { dst := some 36, op := Op.binOp BinOp.neq 3 (Operand.tmp 30) (Operand.tmp 35) 3, type := 4, pos := "law.go:53", after := #[{ on := 10, ground := Ground.data }, { on := 15, ground := Ground.data }, { on := 8, ground := Ground.guard }], guard := some (8, false) }) (v := .bool false) rfl (by kernel_rfl) (by kernel_rfl) (by kernel_rfl) (fun _ _ _ h => h) (Or.inl ⟨by rfl, fun w' hw => by go_simp⟩) hS ?_
  try simp only [Act.put, List.setIfInBounds_toArray, List.set_cons_zero, List.set_cons_succ]
  refine wpAnyH_take (i := 17) (oi := { dst := some 37, op := Op.pick (Operand.tmp 28) (Operand.const (Value.bool true)) (Operand.tmp 36), type := 4, pos := "law.go:53", after := #[{ on := 8, ground := Ground.data }, { on := 16, ground := Ground.data }], guard := none }) (v := .bool false) rfl (by kernel_rfl) (by kernel_rfl) (by kernel_rfl) (fun _ _ _ h => h) (Or.inl ⟨by rfl, fun w' hw => by go_simp⟩) hS ?_
  try simp only [Act.put, List.setIfInBounds_toArray, List.set_cons_zero, List.set_cons_succ]
  refine wpAnyH_take (i := 18) (oi := { dst := some 38, op := Op.move (Operand.tmp 37), type := 4, pos := "law.go:53", after := #[{ on := 17, ground := Ground.data }, { on := 10, ground := Ground.chain }], guard := none }) (v := .bool false) rfl (by kernel_rfl) (by kernel_rfl) (by kernel_rfl) (fun _ _ _ h => h) (Or.inl ⟨by rfl, fun w' hw => by go_simp⟩) hS ?_
  try simp only [Act.put, List.setIfInBounds_toArray, List.set_cons_zero, List.set_cons_succ]
  refine wpAnyH_take (i := 19) (oi := { dst := some 39, op := Op.move (Operand.tmp 0), type := 23, pos := "law.go:53", after := #[{ on := 18, ground := Ground.guard }], guard := some (18, false) }) (v := .pointer (some ⟨t, 0, none⟩)) rfl (by kernel_rfl) (by kernel_rfl) (by kernel_rfl) (fun _ _ _ h => h) (Or.inl ⟨by rfl, fun w' hw => by go_simp⟩) hS ?_
  try simp only [Act.put, List.setIfInBounds_toArray, List.set_cons_zero, List.set_cons_succ]
  refine wpAnyH_take (i := 21) (oi := { dst := some 41, op := Op.move (Operand.tmp 1), type := 27, pos := "law.go:53", after := #[{ on := 18, ground := Ground.guard }], guard := some (18, false) }) (v := .pointer (some ⟨r, 0, none⟩)) rfl (by kernel_rfl) (by kernel_rfl) (by kernel_rfl) (fun _ _ _ h => h) (Or.inl ⟨by rfl, fun w' hw => by go_simp⟩) hS ?_
  try simp only [Act.put, List.setIfInBounds_toArray, List.set_cons_zero, List.set_cons_succ]
  refine wpAnyH_ready (rs := [20]) (by kernel_rfl) (by simp) ?_
  refine AllReadyH.cons (o := { dst := some 40, op := Op.call { callee := Callee.value (Operand.func 37), args := #[Operand.tmp 39], argTypes := #[23] }, type := 53, pos := "law.go:53", after := #[{ on := 19, ground := Ground.data }, { on := 18, ground := Ground.chain }, { on := 18, ground := Ground.guard }], guard := some (18, false) }) rfl (fun K hK => ?_) AllReadyH.nil
  go_simp
  refine ((BX.out.imp.touch0 hS).handles).mono ?_
  rintro e w4 ⟨v4, rfl, i4, t4⟩
  have I4 := Lib.hid i4
  have hS2 := hS.trans t4 (by simp)
  clear i4
  refine hK.out _ _ hS2 (fun _ => ?_)
  clear hK K hS
  have hS := hS2
  clear hS2
  try simp only [Act.put, List.setIfInBounds_toArray, List.set_cons_zero, List.set_cons_succ]
  refine wpAnyH_ready (rs := [22]) (by kernel_rfl) (by simp) ?_
  refine AllReadyH.cons (o := { dst := some 42, op := Op.call { callee := Callee.value (Operand.func 38), args := #[Operand.tmp 41], argTypes := #[27] }, type := 53, pos := "law.go:53", after := #[{ on := 21, ground := Ground.data }, { on := 20, ground := Ground.chain }, { on := 18, ground := Ground.guard }], guard := some (18, false) }) rfl (fun K hK => ?_) AllReadyH.nil
  go_simp
  refine (rhandles_any (BX.out.ref.touch0 hS)).mono ?_
  rintro e w5 ⟨v5, rfl, o5, t5⟩
  have I4 := Lib.hid (I4.out.touch t5)
  have I5 := Lib.hid o5.ints
  have hS2 := hS.trans t5 (by simp)
  clear o5
  refine hK.out _ _ hS2 (fun _ => ?_)
  clear hK K hS
  have hS := hS2
  clear hS2
  try simp only [Act.put, List.setIfInBounds_toArray, List.set_cons_zero, List.set_cons_succ]
  refine wpAnyH_ready (rs := [23]) (by kernel_rfl) (by simp) ?_
  refine AllReadyH.cons (o := { dst := some 43, op := Op.call { callee := Callee.value (Operand.func 36), args := #[Operand.tmp 40, Operand.tmp 42], argTypes := #[53, 53] }, type := 4, pos := "law.go:53", after := #[{ on := 20, ground := Ground.data }, { on := 22, ground := Ground.data }, { on := 22, ground := Ground.chain }, { on := 18, ground := Ground.guard }], guard := some (18, false) }) rfl (fun K hK => ?_) AllReadyH.nil
  go_simp
  refine (equalI v4 v5 (ids A) _ (by rw [ids_len]; omega) I4.out I5.out).mono ?_
  rintro e w6 ⟨rfl, t6⟩
  have hS2 := hS.trans t6 (by simp)
  refine hK.out _ _ hS2 (fun _ => ?_)
  clear hK K hS
  have hS := hS2
  clear hS2
  try simp only [Act.put, List.setIfInBounds_toArray, List.set_cons_zero, List.set_cons_succ]
  refine wpAnyH_take (i := 24) (oi := { dst := some 44, op := Op.unOp UnOp.not 4 (Operand.tmp 43), type := 4, pos := "law.go:53", after := #[{ on := 23, ground := Ground.data }, { on := 18, ground := Ground.guard }], guard := some (18, false) }) (v := .bool false) rfl (by kernel_rfl) (by kernel_rfl) (by kernel_rfl) (fun _ _ _ h => h) (Or.inl ⟨by rfl, fun w' hw => by go_simp⟩) hS ?_
  try simp only [Act.put, List.setIfInBounds_toArray, List.set_cons_zero, List.set_cons_succ]
  refine wpAnyH_take (i := 25) (oi := { dst := some 45, op := Op.pick (Operand.tmp 38) (Operand.const (Value.bool true)) (Operand.tmp 44), type := 4, pos := "law.go:53", after := #[{ on := 18, ground := Ground.data }, { on := 24, ground := Ground.data }], guard := none }) (v := .bool false) rfl (by kernel_rfl) (by kernel_rfl) (by kernel_rfl) (fun _ _ _ h => h) (Or.inl ⟨by rfl, fun w' hw => by go_simp⟩) hS ?_
  try simp only [Act.put, List.setIfInBounds_toArray, List.set_cons_zero, List.set_cons_succ]
  refine wpAnyH_done (by kernel_rfl) ?_ _
  try simp only [Act.put, List.setIfInBounds_toArray, List.set_cons_zero, List.set_cons_succ]
  have TS := Lib.hid (TX.out.trans hS (by simp))
  have BS := Lib.hid (BX.out.touch0 hS)
  clear hS c0
  go_wp2_with fail
  go_loopw [9] (fun vi wr => ∃ (i : Int), vi = .int .i64 i ∧ -1 ≤ i ∧ i ≤ 26 ∧ Touch [] w6 wr) (fun vi _ => (26 - intOf vi).toNat)
  case atStart => exact ⟨-1, rfl, by omega, by omega, Touch.refl _ _⟩
  case round =>
    obtain ⟨i, rfl, hi1, hi2, ht⟩ := hrel
    have BR := Lib.hid (BS.out.touch0 ht)
    have TR := Lib.hid (TS.out.trans ht (by simp))
    have HT6 := Lib.hid ht
    clear ht
    have hwi : IntKind.i64.wrap (i + 1) = i + 1 := by rw [IntKind.wrap_i64] <;> omega
    by_cases hlt : i < 26
    · obtain ⟨d2, ok2, hd1, hd2⟩ : ∃ (d2 : Int) (ok2 : Bool), Calls Tryz.prog 39 #[.pointer (some ⟨t, 0, none⟩), .int .i64 i] wr (fun e w' => e = .returned (.tuple #[.int .u64 d2, .bool ok2]) ∧ Touch [] wr w') ∧
          ∀ w1, Touch [] wr w1 → Calls Tryz.prog 26 #[.pointer (some ⟨r, 0, none⟩), .int .i64 i] w1 (fun e w' => e = .returned (.tuple #[.int .u64 d2, .bool ok2]) ∧ w1 = w') := by
        by_cases hin : i ∈ ids A
        · obtain ⟨a, ha, rfl⟩ := mem_ids.1 hin
          obtain ⟨q, hq⟩ := List.mem_iff_getElem?.1 ha
          obtain ⟨f, hTS, _⟩ := BR.out.imp
          exact ⟨a.1.due, true, hTS.deadline a.1 (List.mem_map.2 ⟨a, ha, rfl⟩), fun w1 t1 => dl_at (BR.out.ref.touch0 t1) HOK.out hq⟩
        · obtain ⟨f, hTS, _⟩ := BR.out.imp
          exact ⟨0, false, (hTS.deadline_no i (okN_of (by omega) (by omega)) hin).mono (fun e w' ⟨e1, e2⟩ => ⟨e1, by subst e2; exact Touch.refl _ _⟩), fun w1 t1 => dl_no (BR.out.ref.touch0 t1) hin⟩
      have hk : ∀ w1, Touch [] wr w1 → Calls Tryz.prog 40 #[.pointer (some ⟨t, 0, none⟩), .int .i64 i] w1 (fun e w' => ∃ v1 ks, e = .returned v1 ∧ Ints w' v1 ks ∧ Touch [] w1 w' ∧ ks.length ≤ 100000 ∧
          ∀ w2, Touch [] wr w2 → Calls Tryz.prog 32 #[.pointer (some ⟨r, 0, none⟩), .int .i64 i] w2 (fun e w' => ∃ v2, e = .returned v2 ∧ Ints w' v2 ks ∧ Touch [] w2 w')) := by
        intro w1 t1
        by_cases hin : i ∈ ids A
        · refine ((BR.out.imp.touch0 t1).desc i hin).mono ?_
          rintro e w' ⟨l, g, off, cap, rfl, hs, hg, hc, _, tt⟩
          have hdl := desc_len HOK.out.tree hs
          have hsf := hs.few
          rw [List.length_map] at hsf
          obtain ⟨a, ha, rfl⟩ := mem_ids.1 hin
          obtain ⟨q, hq⟩ := List.mem_iff_getElem?.1 ha
          refine ⟨_, descN (A.map Prod.fst) l, rfl, ⟨_, cap, by congr 1; omega, fun j x hx => ⟨g, off, rfl, hc j x (by rw [desc_up HOK.out.tree hs]; exact hx)⟩⟩, tt, by omega, fun w2 t2 => ?_⟩
          refine (rdesc_at (BR.out.ref.touch0 t2) HOK.out hq hs).mono ?_
          rintro e w'' ⟨v2, rfl, o2, t3⟩
          exact ⟨v2, rfl, o2.ints, t3⟩
        · refine ((BR.out.imp.touch0 t1).desc_no i (okN_of (by omega) (by omega)) hin).mono ?_
          rintro e w' ⟨rfl, _, tt⟩
          refine ⟨_, [], rfl, Ints.nil _, tt, by simp, fun w2 t2 => ?_⟩
          refine (rdesc_no (BR.out.ref.touch0 t2) hin).mono ?_
          rintro e w'' ⟨rfl, rfl⟩
          exact ⟨_, rfl, Ints.nil _, Touch.refl _ _⟩
      have HD1 := Lib.hid hd1
      have HD2 := Lib.hid hd2
      have HKK := Lib.hid hk
      clear hd1 hd2 hk
      go_wp2_with fail
      refine HD1.out.mono ?_
      rintro e wa ⟨rfl, ta⟩
      have TA := Lib.hid ta
      clear ta
      go_wp2_with fail
      refine (HD2.out wa TA.out).mono ?_
      rintro e w' ⟨rfl, hw⟩
      obtain rfl := hw
      go_wp2_with fail
      refine (HKK.out wa TA.out).mono ?_
      rintro e wb ⟨vb, ks, rfl, ib, tb, hl, hrd⟩
      have IB := Lib.hid ib
      have TB := Lib.hid (TA.out.trans tb (by simp))
      have HRD := Lib.hid (hrd wb TB.out)
      clear ib tb hrd
      go_wp2_with fail
      refine HRD.out.mono ?_
      rintro e wc ⟨vc, rfl, ic, tc⟩
      have IB := Lib.hid (IB.out.touch tc)
      have IC := Lib.hid ic
      have TC := Lib.hid (TB.out.trans tc (by simp))
      clear ic tc
      go_wp2_with fail
      refine (equalI vb vc ks _ hl IB.out IC.out).mono ?_
      rintro e wd ⟨rfl, td⟩
      have TD := Lib.hid (HT6.out.trans (TC.out.trans td (by simp)) (by simp))
      clear td
      go_wp2_with fail
      go_roundw
      case rel => exact ⟨i + 1, rfl, by omega, by omega, TD.out⟩
      case measure => simp [intOf] <;> omega
    · go_wp2_with fail
      go_ret
      exact ⟨rfl, TR.out⟩
end Go.Proofs.YtobkanlnnniabaaGreat.G

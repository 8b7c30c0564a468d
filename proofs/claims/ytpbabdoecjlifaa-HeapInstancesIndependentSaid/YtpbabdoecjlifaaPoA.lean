/-
  The contract of the Addr heap's Pop.
-/
import Derived.Test.YtpbabdoecjlifaaRmA
namespace Go.Proofs.Ytpbabdoecjlifaa.A
open Go.RowKit
set_option linter.unusedVariables false
set_option linter.unusedSimpArgs false

section
variable (h m : Nat) (v : Value) (its : List Itm) (kv : List (Int × Value)) (last : Int) (w : World) (k : HB w h m v its kv last)
include k
set_option maxRecDepth 100000 in
set_option maxHeartbeats 4000000 in
theorem pop_some (x : Itm) (hx : its[0]? = some x) : Calls Try.prog 32 #[.pointer (some ⟨h, 0, none⟩)] w fun e w' => e = .returned (.tuple #[.int .i64 x.id, .int .u64 x.due, .agg (cx x).toArray, .bool true]) ∧ Left h m v (its.eraseIdx 0) last w w' := by
  have OK := Lib.hid (k.hp.one x (List.mem_of_getElem? hx))
  have HK := Lib.hid k
  have HX := Lib.hid hx
  have HT := Lib.hid ((Touch.refl [] w).alloc (.cells #[.bool false, .int .u8 0, .int .u8 0, .int .u8 0, .int .u8 0, .int .u8 0, .int .u8 0, .int .u8 0, .int .u8 0, .int .u8 0, .int .u8 0, .int .u8 0, .int .u8 0, .int .u8 0, .int .u8 0, .int .u8 0, .int .u8 0] 54))
  have HZ := Lib.hid (heap_alloc_new w (.cells #[.bool false, .int .u8 0, .int .u8 0, .int .u8 0, .int .u8 0, .int .u8 0, .int .u8 0, .int .u8 0, .int .u8 0, .int .u8 0, .int .u8 0, .int .u8 0, .int .u8 0, .int .u8 0, .int .u8 0, .int .u8 0, .int .u8 0] 54))
  have hZs : (w.alloc (.cells #[.bool false, .int .u8 0, .int .u8 0, .int .u8 0, .int .u8 0, .int .u8 0, .int .u8 0, .int .u8 0, .int .u8 0, .int .u8 0, .int .u8 0, .int .u8 0, .int .u8 0, .int .u8 0, .int .u8 0, .int .u8 0, .int .u8 0] 54)).heap.size = w.heap.size + 1 := by simp
  have HK0 := Lib.hid (k.touch HT.out (by simp))
  have HM := Lib.hid (min_some h m v its kv last _ HK0.out x hx)
  have HL := Lib.hid (fun y hy => k.hp.lt y hy : ∀ y ∈ Hp.foot h m v, y < w.heap.size)
  clear k hx HK0
  go_enter Try.func32, Try.ntmps32
  go_wp2_with fail
  refine HM.out.mono ?_
  rintro e w1 ⟨rfl, t1⟩
  have T1 := Lib.hid (HT.out.trans t1 (by simp))
  have HZ1 := Lib.hid (t1.at HZ.out (by simp))
  have hzs1 := t1.size
  rw [hZs] at hzs1
  have HBZ := Lib.hid (show w.heap.size < w1.heap.size by omega)
  have HG9 := Lib.hid (heap_alloc_new w1 (.cells #[.bool false, .int .u8 0, .int .u8 0, .int .u8 0, .int .u8 0, .int .u8 0, .int .u8 0, .int .u8 0, .int .u8 0, .int .u8 0, .int .u8 0, .int .u8 0, .int .u8 0, .int .u8 0, .int .u8 0, .int .u8 0, .int .u8 0] 54))
  have HT9 := Lib.hid (T1.out.alloc (.cells #[.bool false, .int .u8 0, .int .u8 0, .int .u8 0, .int .u8 0, .int .u8 0, .int .u8 0, .int .u8 0, .int .u8 0, .int .u8 0, .int .u8 0, .int .u8 0, .int .u8 0, .int .u8 0, .int .u8 0, .int .u8 0, .int .u8 0] 54))
  have HZ9 := Lib.hid (((Touch.refl [] w1).alloc (.cells #[.bool false, .int .u8 0, .int .u8 0, .int .u8 0, .int .u8 0, .int .u8 0, .int .u8 0, .int .u8 0, .int .u8 0, .int .u8 0, .int .u8 0, .int .u8 0, .int .u8 0, .int .u8 0, .int .u8 0, .int .u8 0, .int .u8 0] 54)).at HZ1.out (by simp))
  have hBs : (w1.alloc (.cells #[.bool false, .int .u8 0, .int .u8 0, .int .u8 0, .int .u8 0, .int .u8 0, .int .u8 0, .int .u8 0, .int .u8 0, .int .u8 0, .int .u8 0, .int .u8 0, .int .u8 0, .int .u8 0, .int .u8 0, .int .u8 0, .int .u8 0] 54)).heap.size = w1.heap.size + 1 := by simp
  have HBs := Lib.hid hBs
  clear t1 hzs1 hZs hBs HM HT HZ HZ1
  go_wp2_with ((with_reducible refine at_store 54 ?_); refine wpList_store_into rfl 54 _ _ rfl w1.heap.size 54 _ (cx x) rfl rfl HG9.out (by rw [OK.out.len]; rfl) (by rw [infoD, OK.out.len]) OK.out.one ?_)
  intro W h2 t2 z2
  have HG := Lib.hid h2
  have hWs := t2.size
  rw [HBs.out] at hWs
  have HWs := Lib.hid hWs
  have HT2 := Lib.hid (HT9.out.trans t2 (fun y hy => .inr (by have := HBZ.out; simp at hy; omega)))
  have HZ2 := Lib.hid (t2.at HZ9.out (by have := HBZ.out; simp; omega))
  have HK2 := Lib.hid (HK.out.touch HT2.out (by simp))
  generalize w1.heap.size = B at *
  generalize hz1 : w.heap.size = Z at *
  clear h2 t2 z2 HG9 HT9 HZ9 hWs
  go_wp2_with fail
  refine (remove_some h m v its kv last W HK2.out 0 x HX.out).mono ?_
  rintro e w2 ⟨rfl, v2, its2, kv2, b2, p2, f2, t3⟩
  have NB := Lib.hid (show B ∉ Hp.foot h m v from fun hy => by have := HL.out _ hy; have := HBZ.out; omega)
  have NZ := Lib.hid (show Z ∉ Hp.foot h m v from fun hy => by have := HL.out _ hy; omega)
  have NZ2 := Lib.hid (show Z ∉ Hp.foot h m v2 from fun hy => by
    have := HBZ.out
    have := HWs.out
    rcases f2 Z hy with h' | h'
    · exact NZ.out h'
    · omega)
  have B2 := Lib.hid b2
  have P2 := Lib.hid p2
  have F2 := Lib.hid (fun y hy => (f2 y hy).imp id (fun h' => by have := HT2.out.size; omega) : Foot h m v v2 w)
  have TT := Lib.hid ((HT2.out.mono (by simp)).trans t3 (fun y hy => .inl hy) : Touch (Hp.foot h m v) w w2)
  have HG3 := Lib.hid (t3.at HG.out NB.out)
  have HZ3 := Lib.hid (t3.at HZ2.out NZ.out)
  have HNE := Lib.hid (show Z ≠ B by have := HBZ.out; omega)
  clear b2 p2 f2 t3
  go_wp2_with fail
  refine wp_region_held (S := Touch [Z] w2.drew) (by kernel_rfl) ?_
  change wpAnyH _ _ _ _ _ _ _ _ w2.drew
  have tD := (Touch.refl [] w2).drew
  have HGX := Lib.hid (tD.at HG3.out (by simp))
  have HZX := Lib.hid (tD.at HZ3.out (by simp))
  have HTX := Lib.hid (tD.mono (by simp) : Touch [Z] w2 w2.drew)
  generalize w2.drew = X at *
  clear tD
  have hS := Touch.refl [Z] X
  have rx : X.rangeAt B 0 (cx x) := range_block HGX.out
  have hBZ : B ∉ [Z] := by simpa using Ne.symm HNE.out
  refine wpAnyH_take (i := 0) (oi := { dst := some 20, op := Op.move (Operand.tmp 6), type := 3, pos := "heap.go:94", after := #[], guard := none }) (v := .int .i64 x.id) rfl (by kernel_rfl) (by kernel_rfl) (by kernel_rfl) (fun _ _ _ h => h) (Or.inl ⟨by rfl, fun w' hw => by go_simp⟩) hS ?_
  try simp only [Act.put, List.setIfInBounds_toArray, List.set_cons_zero, List.set_cons_succ]
  refine wpAnyH_take (i := 1) (oi := { dst := some 21, op := Op.move (Operand.tmp 7), type := 29, pos := "heap.go:94", after := #[{ on := 4, ground := Ground.gcOnly Departure.lateStores }], guard := none }) (v := .int .u64 x.due) rfl (by kernel_rfl) (by kernel_rfl) (by kernel_rfl) (fun _ _ _ h => h) (Or.inl ⟨by rfl, fun w' hw => by go_simp⟩) hS ?_
  try simp only [Act.put, List.setIfInBounds_toArray, List.set_cons_zero, List.set_cons_succ]
  refine wpAnyH_take (i := 2) (oi := { dst := some 22, op := Op.load 54 (Operand.tmp 8), type := 54, pos := "heap.go:94", after := #[{ on := 5, ground := Ground.gcOnly Departure.lateStores }], guard := none }) (v := .agg (cx x).toArray) rfl (by kernel_rfl) (by kernel_rfl) (by kernel_rfl) (fun _ _ _ h => h) (Or.inl ⟨by rfl, fun w' hw => exec_load_agg _ 54 _ rfl _ _ rfl (cx x) _ (hw.range rx hBZ) Try.underlying54 rfl (by rw [infoD, OK.out.len])⟩) hS ?_
  try simp only [Act.put, List.setIfInBounds_toArray, List.set_cons_zero, List.set_cons_succ]
  refine wpAnyH_take (i := 3) (oi := { dst := some 23, op := Op.move (Operand.tmp 9), type := 4, pos := "heap.go:94", after := #[{ on := 6, ground := Ground.gcOnly Departure.lateStores }], guard := none }) (v := .bool true) rfl (by kernel_rfl) (by kernel_rfl) (by kernel_rfl) (fun _ _ _ h => h) (Or.inl ⟨by rfl, fun w' hw => by go_simp⟩) hS ?_
  try simp only [Act.put, List.setIfInBounds_toArray, List.set_cons_zero, List.set_cons_succ]
  refine wpAnyH_take (i := 4) (oi := { dst := some 2, op := Op.assign (Operand.tmp 20), type := 3, pos := "heap.go:94", after := #[{ on := 0, ground := Ground.data }, { on := 0, ground := Ground.phase }, { on := 1, ground := Ground.textOnly Departure.lateStores }, { on := 2, ground := Ground.textOnly Departure.lateStores }, { on := 3, ground := Ground.textOnly Departure.lateStores }], guard := none }) (v := .int .i64 x.id) rfl (by kernel_rfl) (by kernel_rfl) (by kernel_rfl) (fun _ _ _ h => h) (Or.inl ⟨by rfl, fun w' hw => by go_simp⟩) hS ?_
  try simp only [Act.put, List.setIfInBounds_toArray, List.set_cons_zero, List.set_cons_succ]
  refine wpAnyH_take (i := 5) (oi := { dst := some 3, op := Op.assign (Operand.tmp 21), type := 29, pos := "heap.go:94", after := #[{ on := 1, ground := Ground.data }, { on := 4, ground := Ground.chain }, { on := 0, ground := Ground.phase }, { on := 1, ground := Ground.phase }, { on := 2, ground := Ground.textOnly Departure.lateStores }, { on := 3, ground := Ground.textOnly Departure.lateStores }, { on := 4, ground := Ground.phase }], guard := none }) (v := .int .u64 x.due) rfl (by kernel_rfl) (by kernel_rfl) (by kernel_rfl) (fun _ _ _ h => h) (Or.inl ⟨by rfl, fun w' hw => by go_simp⟩) hS ?_
  try simp only [Act.put, List.setIfInBounds_toArray, List.set_cons_zero, List.set_cons_succ]
  refine wpAnyH_ready (rs := [6]) (by kernel_rfl) (by simp) ?_
  refine AllReadyH.cons (o := { dst := none, op := Op.store 54 (Operand.tmp 4) (Operand.tmp 22), type := 0, pos := "heap.go:94", after := #[{ on := 2, ground := Ground.data }, { on := 5, ground := Ground.chain }, { on := 0, ground := Ground.phase }, { on := 1, ground := Ground.phase }, { on := 2, ground := Ground.phase }, { on := 3, ground := Ground.textOnly Departure.lateStores }, { on := 4, ground := Ground.phase }, { on := 5, ground := Ground.phase }], guard := none }) rfl (fun K hK => ?_) AllReadyH.nil
  refine step_of_list rfl ?_
  refine wpList_store_into rfl 54 _ _ rfl Z 54 _ (cx x) rfl rfl HZX.out (by rw [OK.out.len]; rfl) (by rw [infoD, OK.out.len]) OK.out.one ?_
  intro w3 h2 t2 z2
  have hS2 := hS.trans t2 (fun y hy => .inl hy)
  have HF := Lib.hid (And.intro h2 (show Touch [Z] w2 w3 from HTX.out.trans t2 (fun y hy => .inl hy)))
  refine ⟨rfl, hK.out _ _ hS2 (fun _ => ?_)⟩
  clear hK K hS h2 t2 z2
  have hS := hS2
  clear hS2
  try simp only [Act.put, List.setIfInBounds_toArray, List.set_cons_zero, List.set_cons_succ]
  refine wpAnyH_take (i := 7) (oi := { dst := some 5, op := Op.assign (Operand.tmp 23), type := 4, pos := "heap.go:94", after := #[{ on := 3, ground := Ground.data }, { on := 6, ground := Ground.chain }, { on := 0, ground := Ground.phase }, { on := 1, ground := Ground.phase }, { on := 2, ground := Ground.phase }, { on := 3, ground := Ground.phase }, { on := 4, ground := Ground.phase }, { on := 5, ground := Ground.phase }, { on := 6, ground := Ground.phase }], guard := none }) (v := .bool true) rfl (by kernel_rfl) (by kernel_rfl) (by kernel_rfl) (fun _ _ _ h => h) (Or.inl ⟨by rfl, fun w' hw => by go_simp⟩) hS ?_
  try simp only [Act.put, List.setIfInBounds_toArray, List.set_cons_zero, List.set_cons_succ]
  refine wpAnyH_done (by kernel_rfl) ?_ _
  try simp only [Act.put, List.setIfInBounds_toArray, List.set_cons_zero, List.set_cons_succ]
  clear hS rx
  go_wp2_with fail
  exact ret_four rfl infoD Try.underlying54 rfl OK.out.len rfl rfl rfl rfl HF.out.1 ⟨rfl, v2, its2, kv2, B2.out.touch HF.out.2 (by intro y hy hy2; simp at hy2; subst hy2; exact NZ2.out hy), P2.out, F2.out, TT.out.trans HF.out.2 (fun y hy => .inr (by simp at hy; omega))⟩
end
end Go.Proofs.Ytpbabdoecjlifaa.A

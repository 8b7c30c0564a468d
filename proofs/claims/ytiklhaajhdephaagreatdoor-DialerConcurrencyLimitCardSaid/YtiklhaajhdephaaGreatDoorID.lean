/-
  Merged texts: Rxe, Rxo.
-/
import Derived.Test.YtiklhaajhdephaaGreatDoorIC
import Derived.Test.YtiklhaajhdephaaGreatDoorIB
import Derived.Test.YtiklhaajhdephaaGreatDoorHC

/-
 The contracts of the reference dialer's Answer and New; CancelQueries of both.
-/
namespace Go.Proofs.YtiklhaajhdephaaGreatDoor
open Go.RowKit
set_option linter.unusedVariables false
set_option linter.unusedSimpArgs false

theorem ransR (w0 w : World) (h : Nat) (b : RV) (s : DS) (T : List Ad) (d : Rdl w0 w h b s T) (now : Int) (f : Bool) (v : Value) (y : Int) (hr : s.resolved = true) :
  Calls Tryz.prog 33 #[.pointer (some ⟨h, 0, none⟩), .int .u64 now, .bool f, v, .int .i64 y] w fun e w' => e = .returned (.int .i64 7) ∧ w = w' := by
 have HR := Lib.hid (rres_any w0 w h b s T d true hr)
 clear d hr
 go_enter Tryz.func33, Tryz.ntmps33
 go_wp2_with fail
 refine HR.out.mono ?_
 rintro e _ ⟨rfl, rfl⟩
 go_wp2_with fail
 go_ret
 exact ⟨rfl, rfl⟩
set_option maxRecDepth 100000 in
set_option maxHeartbeats 1000000 in
theorem ransD4 (w0 w : World) (h : Nat) (b : RV) (s : DS) (T : List Ad) (d : Rdl w0 w h b s T) (now : Int) (v : Value) (y : Int) (hr : s.resolved = false) (hcn : s.p.canc = false) (ha : s.p.q4.a = true) :
  Calls Tryz.prog 33 #[.pointer (some ⟨h, 0, none⟩), .int .u64 now, .bool false, v, .int .i64 y] w fun e w' => e = .returned (.int .i64 5) ∧ w = w' := by
 have HR := Lib.hid (rres_any w0 w h b s T d false hr)
 have HAN := Lib.hid (rpansD4 w0 w h b s T d now v hcn ha)
 clear d hr hcn ha
 go_enter Tryz.func33, Tryz.ntmps33
 go_wp2_with fail
 refine HR.out.mono ?_
 rintro e _ ⟨rfl, rfl⟩
 go_wp2_with fail
 refine HAN.out.mono ?_
 rintro e _ ⟨rfl, rfl⟩
 go_wp2_with fail
 go_ret
 exact ⟨rfl, rfl⟩
set_option maxRecDepth 100000 in
set_option maxHeartbeats 8000000 in
theorem rans4 (w0 w : World) (h : Nat) (b : RV) (s : DS) (T : List Ad) (d : Rdl w0 w h b s T) (hz : w0.heap.size ≤ w.heap.size) (hA : s.A.length ≤ 900000) (hl : s.rs.length ≤ 1000000) (now : Int) (hn : 0 ≤ now ∧ now ≤ maxT) (v : Value) (bl : Nat) (l : List Ad) (hv : Rd w 17 bl v (l.map Ad.cells)) (hb : l ≠ [] → bl ∉ rfoot h b) (y : Int) (hr : s.resolved = false) (hcn : s.p.canc = false) (ha : s.p.q4.a = false) :
  Calls Tryz.prog 33 #[.pointer (some ⟨h, 0, none⟩), .int .u64 now, .bool false, v, .int .i64 y] w fun e w' => e = .returned (.int .i64 0) ∧ ∃ b', Rdl w0 w' h b' (s.ans4 now l y) T ∧ RStep w w' h b b' := by
 have HR := Lib.hid (rres_any w0 w h b s T d false hr)
 have HAN := Lib.hid (rpans4 w0 w h b s T d hz now hn hcn ha v bl l hv hb)
 have HZ := Lib.hid hz
 have HA := Lib.hid hA
 have HL := Lib.hid hl
 have HL16 := Lib.hid (show (ansL false s.p.q4.l l).length ≤ 16 from ansL_len d.n4)
 have HE := Lib.hid (show s.ans4 now l y = { s with p := { s.p with q4 := ⟨true, now, ansL false s.p.q4.l l⟩ }, A := addL s.A (ansL false s.p.q4.l l), rs := if (ansL false s.p.q4.l l).length = 0 then s.rs ++ [whyN y] else s.rs } from rfl)
 rw [HE.out]
 obtain ⟨L, hL⟩ : ∃ L, L = ansL false s.p.q4.l l := ⟨_, rfl⟩
 rw [← hL] at HAN HL16 ⊢
 obtain ⟨RS, hRS⟩ : ∃ RS, RS = (if L.length = 0 then s.rs ++ [whyN y] else s.rs) := ⟨_, rfl⟩
 rw [← hRS]
 have HRS := Lib.hid hRS
 clear d hr hcn ha hv hb hn hz hl HE hL hA hRS
 go_enter Tryz.func33, Tryz.ntmps33
 go_wp2_with fail
 refine HR.out.mono ?_
 rintro e _ ⟨rfl, rfl⟩
 go_wp2_with fail
 refine HAN.out.mono ?_
 rintro e w1 ⟨b1, rfl, d1, s1⟩
 have HD1 := Lib.hid d1
 have HS1 := Lib.hid s1
 have HZ1 := Lib.hid (show w0.heap.size ≤ w1.heap.size by have := HZ.out; have := s1.t.size; omega)
 clear d1 s1 HAN HR
 by_cases hn0 : L.length = 0
 ·have HRC := Lib.hid (rrec_any w0 w1 h _ _ _ HD1.out HZ1.out HL.out y)
  have HR2 := Lib.hid (show RS = s.rs ++ [whyN y] by rw [HRS.out, if_pos hn0])
  have HN0 := Lib.hid hn0
  rw [hn0]
  clear hn0
  go_wp2_with fail
  refine HRC.out.mono ?_
  rintro e w2 ⟨rfl, b2, d2, s2⟩
  have HD2 := Lib.hid d2
  have HS2 := Lib.hid (HS1.out.trans s2)
  have HZ2 := Lib.hid (show w0.heap.size ≤ w2.heap.size by have := HZ1.out; have := s2.t.size; omega)
  clear d2 s2 HRC
  go_wp2_with fail
  obtain ⟨a4, k4, hv4, _, _, _⟩ := HD2.out.ov4.form
  refine wp_region_F (S := Touch [] w2.drew) [11] (by kernel_rfl) ?_
  change wpAnyF _ _ _ _ _ _ _ _ _ w2.drew
  have HDX := Lib.hid (HD2.out.touch0 ((Touch.refl [] w2).drew))
  have HSX := Lib.hid (HS2.out.trans (RStep.of0 ((Touch.refl [] w2).drew)))
  have HZX := Lib.hid (show w0.heap.size ≤ w2.drew.heap.size from HZ2.out)
  generalize w2.drew = X at *
  have hS := Touch.refl [] X
  have cL := HDX.out.at 12 _ rfl
  have HB4 := Lib.hid hv4
  rw [HB4.out] at cL
  clear hv4
  refine wpAnyF_takeT (i := 0) (oi := { dst := some 33, op := Op.move (Operand.tmp 0), type := 31, pos := "ref.go:304", after := #[], guard := none }) (v := .pointer (some ⟨h, 0, none⟩)) rfl (by kernel_rfl) (by kernel_rfl) (by kernel_rfl) (by kernel_rfl) (by kernel_rfl) (fun _ _ _ h => h) (Or.inl ⟨by rfl, fun w' hw => by go_simp⟩) hS ?_
  try simp only [Act.put, sT, s0, sS]
  refine wpAnyF_takeT (i := 1) (oi := { dst := some 34, op := Op.nilCheck (Operand.tmp 33), type := 0, pos := "ref.go:304", after := #[{ on := 0, ground := Ground.data }], guard := none }) (v := .pointer (some ⟨h, 0, none⟩)) rfl (by kernel_rfl) (by kernel_rfl) (by kernel_rfl) (by kernel_rfl) (by kernel_rfl) (fun _ _ _ h => h) (Or.inl ⟨by rfl, fun w' hw => by go_simp⟩) hS ?_
  try simp only [Act.put, sT, s0, sS]
  refine wpAnyF_takeT (i := 2) (oi := { dst := some 35, op := Op.fieldAddr 74 (Operand.tmp 34) 3, type := 0, pos := "ref.go:304", after := #[{ on := 1, ground := Ground.data }], guard := none }) (v := .pointer (some ⟨h, 14, none⟩)) rfl (by kernel_rfl) (by kernel_rfl) (by kernel_rfl) (by kernel_rfl) (by kernel_rfl) (fun _ _ _ h => h) (Or.inl ⟨by rfl, fun w' hw => by go_simp⟩) hS ?_
  try simp only [Act.put, sT, s0, sS]
  refine wpAnyF_takeT (i := 3) (oi := { dst := some 36, op := Op.move (Operand.tmp 0), type := 31, pos := "ref.go:304", after := #[], guard := none }) (v := .pointer (some ⟨h, 0, none⟩)) rfl (by kernel_rfl) (by kernel_rfl) (by kernel_rfl) (by kernel_rfl) (by kernel_rfl) (fun _ _ _ h => h) (Or.inl ⟨by rfl, fun w' hw => by go_simp⟩) hS ?_
  try simp only [Act.put, sT, s0, sS]
  refine wpAnyF_takeT (i := 4) (oi := { dst := some 37, op := Op.move (Operand.tmp 2), type := 4, pos := "ref.go:304", after := #[], guard := none }) (v := .bool false) rfl (by kernel_rfl) (by kernel_rfl) (by kernel_rfl) (by kernel_rfl) (by kernel_rfl) (fun _ _ _ h => h) (Or.inl ⟨by rfl, fun w' hw => by go_simp⟩) hS ?_
  try simp only [Act.put, sT, s0, sS]
  refine wpAnyF_takeT (i := 6) (oi := { dst := some 39, op := Op.nilCheck (Operand.tmp 36), type := 0, pos := "ref.go:304", after := #[{ on := 3, ground := Ground.data }], guard := none }) (v := .pointer (some ⟨h, 0, none⟩)) rfl (by kernel_rfl) (by kernel_rfl) (by kernel_rfl) (by kernel_rfl) (by kernel_rfl) (fun _ _ _ h => h) (Or.inl ⟨by rfl, fun w' hw => by go_simp⟩) hS ?_
  try simp only [Act.put, sT, s0, sS]
  refine wpAnyF_takeT (i := 7) (oi := { dst := some 40, op := Op.fieldAddr 74 (Operand.tmp 39) 2, type := 0, pos := "ref.go:304", after := #[{ on := 6, ground := Ground.data }], guard := none }) (v := .pointer (some ⟨h, 6, none⟩)) rfl (by kernel_rfl) (by kernel_rfl) (by kernel_rfl) (by kernel_rfl) (by kernel_rfl) (fun _ _ _ h => h) (Or.inl ⟨by rfl, fun w' hw => by go_simp⟩) hS ?_
  try simp only [Act.put, sT, s0, sS]
  refine wpAnyF_takeT (i := 8) (oi := { dst := some 41, op := Op.fieldAddr 70 (Operand.tmp 40) 4, type := 0, pos := "ref.go:304", after := #[{ on := 7, ground := Ground.data }], guard := none }) (v := .pointer (some ⟨h, 12, none⟩)) rfl (by kernel_rfl) (by kernel_rfl) (by kernel_rfl) (by kernel_rfl) (by kernel_rfl) (fun _ _ _ h => h) (Or.inl ⟨by rfl, fun w' hw => by go_simp⟩) hS ?_
  try simp only [Act.put, sT, s0, sS]
  refine wpAnyF_ready (rs := [5]) (by kernel_rfl) (by simp) ?_
  refine cnF rfl (fun K hK => ?_) AllReadyF.nil
  go_simp
  refine (rfam4 _).mono ?_
  rintro e _ ⟨rfl, rfl⟩
  refine hK.out _ _ hS (fun _ => ?_)
  clear hK K
  try simp only [Act.put, sT, s0, sS]
  refine wpAnyF_takeT (i := 9) (oi := { dst := some 42, op := Op.indexAddr 68 (Operand.tmp 41) (Operand.tmp 38), type := 0, pos := "ref.go:304", after := #[{ on := 8, ground := Ground.data }, { on := 5, ground := Ground.data }], guard := none }) (v := .pointer (some ⟨h, 12, none⟩)) rfl (by kernel_rfl) (by kernel_rfl) (by kernel_rfl) (by kernel_rfl) (by kernel_rfl) (fun _ _ _ h => h) (Or.inl ⟨by rfl, fun w' hw => by go_simp⟩) hS ?_
  try simp only [Act.put, sT, s0, sS]
  refine wpAnyF_takeT (i := 10) (oi := { dst := some 43, op := Op.load 35 (Operand.tmp 42), type := 35, pos := "ref.go:304", after := #[{ on := 9, ground := Ground.data }], guard := none }) (v := .slice a4 L.length k4) rfl (by kernel_rfl) (by kernel_rfl) (by kernel_rfl) (by kernel_rfl) (by kernel_rfl) (fun _ _ _ h => h) (Or.inl ⟨by rfl, fun w' hw => by (have q := hw.cell cL (by simp); go_simp)⟩) hS ?_
  try simp only [Act.put, sT, s0, sS]
  refine wpAnyF_ready (rs := [11]) (by kernel_rfl) (by simp) ?_
  refine clF rfl (by simp) (fun K hK => ?_) AllReadyF.nil
  go_simp
  have HDY := Lib.hid (HDX.out.touch0 hS)
  obtain ⟨bB, rB, hbB⟩ := OwnA.rdn (show OwnA w0 _ b2.v4 L from HDY.out.ov4)
  rw [HB4.out] at rB
  refine (radd_any (rowF b2 _) w0 _ h b2.vs b2.vt s.c.ff s.A T HDY.out.queue (by have := HZX.out; have := hS.size; omega) _ bB L rB (fun hne hm => by
    have h1 := hbB hne
    simp only [qfoot, List.mem_cons, List.mem_append] at hm
    rcases hm with e | e | e
    ·exact HDY.out.apart 1 0 (by decide) bB (by simp [rpart, h1]) (by simp [rpart, e])
    ·exact HDY.out.apart 1 3 (by decide) bB (by simp [rpart, h1]) (by simpa [rpart] using e)
    ·exact HDY.out.apart 1 4 (by decide) bB (by simp [rpart, h1]) (by simpa [rpart] using e)
   ) (by have := HL16.out; have := HA.out; omega)).mono ?_
  rintro e w9 ⟨va9, rfl, q9, t9, hv9⟩
  have d9 := HDY.out.ofAdd q9 t9 hv9
  have HFIN := Lib.hid (And.intro d9.1 (HSX.out.trans ((RStep.of0 hS).trans d9.2)))
  clear q9 t9 hv9 rB hbB d9
  refine hK.out _ _ ?_
  clear hK K hS
  try simp only [Act.put, sT, s0, sS]
  refine wpAnyF_done (by kernel_rfl) ?_ _
  try simp only [Act.put, sT, s0, sS]
  clear cL
  go_wp2_with fail
  go_ret
  exact ⟨rfl, _, by rw [HR2.out]; exact HFIN.out.1, HFIN.out.2⟩
 ·have hn1 : ((L.length : Int) == 0) = false := by simp; exact fun h => hn0 (by rw [h]; rfl)
  have hn3 : (L.length == 0) = false := by simpa using hn0
  have HR2 := Lib.hid (show RS = s.rs by rw [HRS.out, if_neg hn0])
  have HD2 := HD1
  have HS2 := HS1
  have HZ2 := HZ1
  clear hn0
  go_wp2_with fail
  obtain ⟨a4, k4, hv4, _, _, _⟩ := HD2.out.ov4.form
  refine wp_region_F (S := Touch [] w1.drew) [11] (by kernel_rfl) ?_
  change wpAnyF _ _ _ _ _ _ _ _ _ w1.drew
  have HDX := Lib.hid (HD2.out.touch0 ((Touch.refl [] w1).drew))
  have HSX := Lib.hid (HS2.out.trans (RStep.of0 ((Touch.refl [] w1).drew)))
  have HZX := Lib.hid (show w0.heap.size ≤ w1.drew.heap.size from HZ2.out)
  generalize w1.drew = X at *
  have hS := Touch.refl [] X
  have cL := HDX.out.at 12 _ rfl
  have HB4 := Lib.hid hv4
  rw [HB4.out] at cL
  clear hv4
  refine wpAnyF_takeT (i := 0) (oi := { dst := some 33, op := Op.move (Operand.tmp 0), type := 31, pos := "ref.go:304", after := #[], guard := none }) (v := .pointer (some ⟨h, 0, none⟩)) rfl (by kernel_rfl) (by kernel_rfl) (by kernel_rfl) (by kernel_rfl) (by kernel_rfl) (fun _ _ _ h => h) (Or.inl ⟨by rfl, fun w' hw => by go_simp⟩) hS ?_
  try simp only [Act.put, sT, s0, sS]
  refine wpAnyF_takeT (i := 1) (oi := { dst := some 34, op := Op.nilCheck (Operand.tmp 33), type := 0, pos := "ref.go:304", after := #[{ on := 0, ground := Ground.data }], guard := none }) (v := .pointer (some ⟨h, 0, none⟩)) rfl (by kernel_rfl) (by kernel_rfl) (by kernel_rfl) (by kernel_rfl) (by kernel_rfl) (fun _ _ _ h => h) (Or.inl ⟨by rfl, fun w' hw => by go_simp⟩) hS ?_
  try simp only [Act.put, sT, s0, sS]
  refine wpAnyF_takeT (i := 2) (oi := { dst := some 35, op := Op.fieldAddr 74 (Operand.tmp 34) 3, type := 0, pos := "ref.go:304", after := #[{ on := 1, ground := Ground.data }], guard := none }) (v := .pointer (some ⟨h, 14, none⟩)) rfl (by kernel_rfl) (by kernel_rfl) (by kernel_rfl) (by kernel_rfl) (by kernel_rfl) (fun _ _ _ h => h) (Or.inl ⟨by rfl, fun w' hw => by go_simp⟩) hS ?_
  try simp only [Act.put, sT, s0, sS]
  refine wpAnyF_takeT (i := 3) (oi := { dst := some 36, op := Op.move (Operand.tmp 0), type := 31, pos := "ref.go:304", after := #[], guard := none }) (v := .pointer (some ⟨h, 0, none⟩)) rfl (by kernel_rfl) (by kernel_rfl) (by kernel_rfl) (by kernel_rfl) (by kernel_rfl) (fun _ _ _ h => h) (Or.inl ⟨by rfl, fun w' hw => by go_simp⟩) hS ?_
  try simp only [Act.put, sT, s0, sS]
  refine wpAnyF_takeT (i := 4) (oi := { dst := some 37, op := Op.move (Operand.tmp 2), type := 4, pos := "ref.go:304", after := #[], guard := none }) (v := .bool false) rfl (by kernel_rfl) (by kernel_rfl) (by kernel_rfl) (by kernel_rfl) (by kernel_rfl) (fun _ _ _ h => h) (Or.inl ⟨by rfl, fun w' hw => by go_simp⟩) hS ?_
  try simp only [Act.put, sT, s0, sS]
  refine wpAnyF_takeT (i := 6) (oi := { dst := some 39, op := Op.nilCheck (Operand.tmp 36), type := 0, pos := "ref.go:304", after := #[{ on := 3, ground := Ground.data }], guard := none }) (v := .pointer (some ⟨h, 0, none⟩)) rfl (by kernel_rfl) (by kernel_rfl) (by kernel_rfl) (by kernel_rfl) (by kernel_rfl) (fun _ _ _ h => h) (Or.inl ⟨by rfl, fun w' hw => by go_simp⟩) hS ?_
  try simp only [Act.put, sT, s0, sS]
  refine wpAnyF_takeT (i := 7) (oi := { dst := some 40, op := Op.fieldAddr 74 (Operand.tmp 39) 2, type := 0, pos := "ref.go:304", after := #[{ on := 6, ground := Ground.data }], guard := none }) (v := .pointer (some ⟨h, 6, none⟩)) rfl (by kernel_rfl) (by kernel_rfl) (by kernel_rfl) (by kernel_rfl) (by kernel_rfl) (fun _ _ _ h => h) (Or.inl ⟨by rfl, fun w' hw => by go_simp⟩) hS ?_
  try simp only [Act.put, sT, s0, sS]
  refine wpAnyF_takeT (i := 8) (oi := { dst := some 41, op := Op.fieldAddr 70 (Operand.tmp 40) 4, type := 0, pos := "ref.go:304", after := #[{ on := 7, ground := Ground.data }], guard := none }) (v := .pointer (some ⟨h, 12, none⟩)) rfl (by kernel_rfl) (by kernel_rfl) (by kernel_rfl) (by kernel_rfl) (by kernel_rfl) (fun _ _ _ h => h) (Or.inl ⟨by rfl, fun w' hw => by go_simp⟩) hS ?_
  try simp only [Act.put, sT, s0, sS]
  refine wpAnyF_ready (rs := [5]) (by kernel_rfl) (by simp) ?_
  refine cnF rfl (fun K hK => ?_) AllReadyF.nil
  go_simp
  refine (rfam4 _).mono ?_
  rintro e _ ⟨rfl, rfl⟩
  refine hK.out _ _ hS (fun _ => ?_)
  clear hK K
  try simp only [Act.put, sT, s0, sS]
  refine wpAnyF_takeT (i := 9) (oi := { dst := some 42, op := Op.indexAddr 68 (Operand.tmp 41) (Operand.tmp 38), type := 0, pos := "ref.go:304", after := #[{ on := 8, ground := Ground.data }, { on := 5, ground := Ground.data }], guard := none }) (v := .pointer (some ⟨h, 12, none⟩)) rfl (by kernel_rfl) (by kernel_rfl) (by kernel_rfl) (by kernel_rfl) (by kernel_rfl) (fun _ _ _ h => h) (Or.inl ⟨by rfl, fun w' hw => by go_simp⟩) hS ?_
  try simp only [Act.put, sT, s0, sS]
  refine wpAnyF_takeT (i := 10) (oi := { dst := some 43, op := Op.load 35 (Operand.tmp 42), type := 35, pos := "ref.go:304", after := #[{ on := 9, ground := Ground.data }], guard := none }) (v := .slice a4 L.length k4) rfl (by kernel_rfl) (by kernel_rfl) (by kernel_rfl) (by kernel_rfl) (by kernel_rfl) (fun _ _ _ h => h) (Or.inl ⟨by rfl, fun w' hw => by (have q := hw.cell cL (by simp); go_simp)⟩) hS ?_
  try simp only [Act.put, sT, s0, sS]
  refine wpAnyF_ready (rs := [11]) (by kernel_rfl) (by simp) ?_
  refine clF rfl (by simp) (fun K hK => ?_) AllReadyF.nil
  go_simp
  have HDY := Lib.hid (HDX.out.touch0 hS)
  obtain ⟨bB, rB, hbB⟩ := OwnA.rdn (show OwnA w0 _ b1.v4 L from HDY.out.ov4)
  rw [HB4.out] at rB
  refine (radd_any (rowF b1 _) w0 _ h b1.vs b1.vt s.c.ff s.A T HDY.out.queue (by have := HZX.out; have := hS.size; omega) _ bB L rB (fun hne hm => by
    have h1 := hbB hne
    simp only [qfoot, List.mem_cons, List.mem_append] at hm
    rcases hm with e | e | e
    ·exact HDY.out.apart 1 0 (by decide) bB (by simp [rpart, h1]) (by simp [rpart, e])
    ·exact HDY.out.apart 1 3 (by decide) bB (by simp [rpart, h1]) (by simpa [rpart] using e)
    ·exact HDY.out.apart 1 4 (by decide) bB (by simp [rpart, h1]) (by simpa [rpart] using e)
   ) (by have := HL16.out; have := HA.out; omega)).mono ?_
  rintro e w9 ⟨va9, rfl, q9, t9, hv9⟩
  have d9 := HDY.out.ofAdd q9 t9 hv9
  have HFIN := Lib.hid (And.intro d9.1 (HSX.out.trans ((RStep.of0 hS).trans d9.2)))
  clear q9 t9 hv9 rB hbB d9
  refine hK.out _ _ ?_
  clear hK K hS
  try simp only [Act.put, sT, s0, sS]
  refine wpAnyF_done (by kernel_rfl) ?_ _
  try simp only [Act.put, sT, s0, sS]
  clear cL
  go_wp2_with fail
  go_ret
  exact ⟨rfl, _, by rw [HR2.out]; exact HFIN.out.1, HFIN.out.2⟩
set_option maxRecDepth 100000 in
set_option maxHeartbeats 1000000 in
theorem ransD6 (w0 w : World) (h : Nat) (b : RV) (s : DS) (T : List Ad) (d : Rdl w0 w h b s T) (now : Int) (v : Value) (y : Int) (hr : s.resolved = false) (hcn : s.p.canc = false) (ha : s.p.q6.a = true) :
  Calls Tryz.prog 33 #[.pointer (some ⟨h, 0, none⟩), .int .u64 now, .bool true, v, .int .i64 y] w fun e w' => e = .returned (.int .i64 5) ∧ w = w' := by
 have HR := Lib.hid (rres_any w0 w h b s T d false hr)
 have HAN := Lib.hid (rpansD6 w0 w h b s T d now v hcn ha)
 clear d hr hcn ha
 go_enter Tryz.func33, Tryz.ntmps33
 go_wp2_with fail
 refine HR.out.mono ?_
 rintro e _ ⟨rfl, rfl⟩
 go_wp2_with fail
 refine HAN.out.mono ?_
 rintro e _ ⟨rfl, rfl⟩
 go_wp2_with fail
 go_ret
 exact ⟨rfl, rfl⟩
set_option maxRecDepth 100000 in
set_option maxHeartbeats 8000000 in
theorem rans6 (w0 w : World) (h : Nat) (b : RV) (s : DS) (T : List Ad) (d : Rdl w0 w h b s T) (hz : w0.heap.size ≤ w.heap.size) (hA : s.A.length ≤ 900000) (hl : s.rs.length ≤ 1000000) (now : Int) (hn : 0 ≤ now ∧ now ≤ maxT) (v : Value) (bl : Nat) (l : List Ad) (hv : Rd w 17 bl v (l.map Ad.cells)) (hb : l ≠ [] → bl ∉ rfoot h b) (y : Int) (hr : s.resolved = false) (hcn : s.p.canc = false) (ha : s.p.q6.a = false) :
  Calls Tryz.prog 33 #[.pointer (some ⟨h, 0, none⟩), .int .u64 now, .bool true, v, .int .i64 y] w fun e w' => e = .returned (.int .i64 0) ∧ ∃ b', Rdl w0 w' h b' (s.ans6 now l y) T ∧ RStep w w' h b b' := by
 have HR := Lib.hid (rres_any w0 w h b s T d false hr)
 have HAN := Lib.hid (rpans6 w0 w h b s T d hz now hn hcn ha v bl l hv hb)
 have HZ := Lib.hid hz
 have HA := Lib.hid hA
 have HL := Lib.hid hl
 have HL16 := Lib.hid (show (ansL true s.p.q6.l l).length ≤ 16 from ansL_len d.n6)
 have HE := Lib.hid (show s.ans6 now l y = { s with p := { s.p with q6 := ⟨true, now, ansL true s.p.q6.l l⟩ }, A := addL s.A (ansL true s.p.q6.l l), rs := if (ansL true s.p.q6.l l).length = 0 then s.rs ++ [whyN y] else s.rs } from rfl)
 rw [HE.out]
 obtain ⟨L, hL⟩ : ∃ L, L = ansL true s.p.q6.l l := ⟨_, rfl⟩
 rw [← hL] at HAN HL16 ⊢
 obtain ⟨RS, hRS⟩ : ∃ RS, RS = (if L.length = 0 then s.rs ++ [whyN y] else s.rs) := ⟨_, rfl⟩
 rw [← hRS]
 have HRS := Lib.hid hRS
 clear d hr hcn ha hv hb hn hz hl HE hL hA hRS
 go_enter Tryz.func33, Tryz.ntmps33
 go_wp2_with fail
 refine HR.out.mono ?_
 rintro e _ ⟨rfl, rfl⟩
 go_wp2_with fail
 refine HAN.out.mono ?_
 rintro e w1 ⟨b1, rfl, d1, s1⟩
 have HD1 := Lib.hid d1
 have HS1 := Lib.hid s1
 have HZ1 := Lib.hid (show w0.heap.size ≤ w1.heap.size by have := HZ.out; have := s1.t.size; omega)
 clear d1 s1 HAN HR
 by_cases hn0 : L.length = 0
 ·have HRC := Lib.hid (rrec_any w0 w1 h _ _ _ HD1.out HZ1.out HL.out y)
  have HR2 := Lib.hid (show RS = s.rs ++ [whyN y] by rw [HRS.out, if_pos hn0])
  have HN0 := Lib.hid hn0
  rw [hn0]
  clear hn0
  go_wp2_with fail
  refine HRC.out.mono ?_
  rintro e w2 ⟨rfl, b2, d2, s2⟩
  have HD2 := Lib.hid d2
  have HS2 := Lib.hid (HS1.out.trans s2)
  have HZ2 := Lib.hid (show w0.heap.size ≤ w2.heap.size by have := HZ1.out; have := s2.t.size; omega)
  clear d2 s2 HRC
  go_wp2_with fail
  obtain ⟨a4, k4, hv4, _, _, _⟩ := HD2.out.ov6.form
  refine wp_region_F (S := Touch [] w2.drew) [11] (by kernel_rfl) ?_
  change wpAnyF _ _ _ _ _ _ _ _ _ w2.drew
  have HDX := Lib.hid (HD2.out.touch0 ((Touch.refl [] w2).drew))
  have HSX := Lib.hid (HS2.out.trans (RStep.of0 ((Touch.refl [] w2).drew)))
  have HZX := Lib.hid (show w0.heap.size ≤ w2.drew.heap.size from HZ2.out)
  generalize w2.drew = X at *
  have hS := Touch.refl [] X
  have cL := HDX.out.at 13 _ rfl
  have HB4 := Lib.hid hv4
  rw [HB4.out] at cL
  clear hv4
  refine wpAnyF_takeT (i := 0) (oi := { dst := some 33, op := Op.move (Operand.tmp 0), type := 31, pos := "ref.go:304", after := #[], guard := none }) (v := .pointer (some ⟨h, 0, none⟩)) rfl (by kernel_rfl) (by kernel_rfl) (by kernel_rfl) (by kernel_rfl) (by kernel_rfl) (fun _ _ _ h => h) (Or.inl ⟨by rfl, fun w' hw => by go_simp⟩) hS ?_
  try simp only [Act.put, sT, s0, sS]
  refine wpAnyF_takeT (i := 1) (oi := { dst := some 34, op := Op.nilCheck (Operand.tmp 33), type := 0, pos := "ref.go:304", after := #[{ on := 0, ground := Ground.data }], guard := none }) (v := .pointer (some ⟨h, 0, none⟩)) rfl (by kernel_rfl) (by kernel_rfl) (by kernel_rfl) (by kernel_rfl) (by kernel_rfl) (fun _ _ _ h => h) (Or.inl ⟨by rfl, fun w' hw => by go_simp⟩) hS ?_
  try simp only [Act.put, sT, s0, sS]
  refine wpAnyF_takeT (i := 2) (oi := { dst := some 35, op := Op.fieldAddr 74 (Operand.tmp 34) 3, type := 0, pos := "ref.go:304", after := #[{ on := 1, ground := Ground.data }], guard := none }) (v := .pointer (some ⟨h, 14, none⟩)) rfl (by kernel_rfl) (by kernel_rfl) (by kernel_rfl) (by kernel_rfl) (by kernel_rfl) (fun _ _ _ h => h) (Or.inl ⟨by rfl, fun w' hw => by go_simp⟩) hS ?_
  try simp only [Act.put, sT, s0, sS]
  refine wpAnyF_takeT (i := 3) (oi := { dst := some 36, op := Op.move (Operand.tmp 0), type := 31, pos := "ref.go:304", after := #[], guard := none }) (v := .pointer (some ⟨h, 0, none⟩)) rfl (by kernel_rfl) (by kernel_rfl) (by kernel_rfl) (by kernel_rfl) (by kernel_rfl) (fun _ _ _ h => h) (Or.inl ⟨by rfl, fun w' hw => by go_simp⟩) hS ?_
  try simp only [Act.put, sT, s0, sS]
  refine wpAnyF_takeT (i := 4) (oi := { dst := some 37, op := Op.move (Operand.tmp 2), type := 4, pos := "ref.go:304", after := #[], guard := none }) (v := .bool true) rfl (by kernel_rfl) (by kernel_rfl) (by kernel_rfl) (by kernel_rfl) (by kernel_rfl) (fun _ _ _ h => h) (Or.inl ⟨by rfl, fun w' hw => by go_simp⟩) hS ?_
  try simp only [Act.put, sT, s0, sS]
  refine wpAnyF_takeT (i := 6) (oi := { dst := some 39, op := Op.nilCheck (Operand.tmp 36), type := 0, pos := "ref.go:304", after := #[{ on := 3, ground := Ground.data }], guard := none }) (v := .pointer (some ⟨h, 0, none⟩)) rfl (by kernel_rfl) (by kernel_rfl) (by kernel_rfl) (by kernel_rfl) (by kernel_rfl) (fun _ _ _ h => h) (Or.inl ⟨by rfl, fun w' hw => by go_simp⟩) hS ?_
  try simp only [Act.put, sT, s0, sS]
  refine wpAnyF_takeT (i := 7) (oi := { dst := some 40, op := Op.fieldAddr 74 (Operand.tmp 39) 2, type := 0, pos := "ref.go:304", after := #[{ on := 6, ground := Ground.data }], guard := none }) (v := .pointer (some ⟨h, 6, none⟩)) rfl (by kernel_rfl) (by kernel_rfl) (by kernel_rfl) (by kernel_rfl) (by kernel_rfl) (fun _ _ _ h => h) (Or.inl ⟨by rfl, fun w' hw => by go_simp⟩) hS ?_
  try simp only [Act.put, sT, s0, sS]
  refine wpAnyF_takeT (i := 8) (oi := { dst := some 41, op := Op.fieldAddr 70 (Operand.tmp 40) 4, type := 0, pos := "ref.go:304", after := #[{ on := 7, ground := Ground.data }], guard := none }) (v := .pointer (some ⟨h, 12, none⟩)) rfl (by kernel_rfl) (by kernel_rfl) (by kernel_rfl) (by kernel_rfl) (by kernel_rfl) (fun _ _ _ h => h) (Or.inl ⟨by rfl, fun w' hw => by go_simp⟩) hS ?_
  try simp only [Act.put, sT, s0, sS]
  refine wpAnyF_ready (rs := [5]) (by kernel_rfl) (by simp) ?_
  refine cnF rfl (fun K hK => ?_) AllReadyF.nil
  go_simp
  refine (rfam6 _).mono ?_
  rintro e _ ⟨rfl, rfl⟩
  refine hK.out _ _ hS (fun _ => ?_)
  clear hK K
  try simp only [Act.put, sT, s0, sS]
  refine wpAnyF_takeT (i := 9) (oi := { dst := some 42, op := Op.indexAddr 68 (Operand.tmp 41) (Operand.tmp 38), type := 0, pos := "ref.go:304", after := #[{ on := 8, ground := Ground.data }, { on := 5, ground := Ground.data }], guard := none }) (v := .pointer (some ⟨h, 13, none⟩)) rfl (by kernel_rfl) (by kernel_rfl) (by kernel_rfl) (by kernel_rfl) (by kernel_rfl) (fun _ _ _ h => h) (Or.inl ⟨by rfl, fun w' hw => by go_simp⟩) hS ?_
  try simp only [Act.put, sT, s0, sS]
  refine wpAnyF_takeT (i := 10) (oi := { dst := some 43, op := Op.load 35 (Operand.tmp 42), type := 35, pos := "ref.go:304", after := #[{ on := 9, ground := Ground.data }], guard := none }) (v := .slice a4 L.length k4) rfl (by kernel_rfl) (by kernel_rfl) (by kernel_rfl) (by kernel_rfl) (by kernel_rfl) (fun _ _ _ h => h) (Or.inl ⟨by rfl, fun w' hw => by (have q := hw.cell cL (by simp); go_simp)⟩) hS ?_
  try simp only [Act.put, sT, s0, sS]
  refine wpAnyF_ready (rs := [11]) (by kernel_rfl) (by simp) ?_
  refine clF rfl (by simp) (fun K hK => ?_) AllReadyF.nil
  go_simp
  have HDY := Lib.hid (HDX.out.touch0 hS)
  obtain ⟨bB, rB, hbB⟩ := OwnA.rdn (show OwnA w0 _ b2.v6 L from HDY.out.ov6)
  rw [HB4.out] at rB
  refine (radd_any (rowF b2 _) w0 _ h b2.vs b2.vt s.c.ff s.A T HDY.out.queue (by have := HZX.out; have := hS.size; omega) _ bB L rB (fun hne hm => by
    have h1 := hbB hne
    simp only [qfoot, List.mem_cons, List.mem_append] at hm
    rcases hm with e | e | e
    ·exact HDY.out.apart 2 0 (by decide) bB (by simp [rpart, h1]) (by simp [rpart, e])
    ·exact HDY.out.apart 2 3 (by decide) bB (by simp [rpart, h1]) (by simpa [rpart] using e)
    ·exact HDY.out.apart 2 4 (by decide) bB (by simp [rpart, h1]) (by simpa [rpart] using e)
   ) (by have := HL16.out; have := HA.out; omega)).mono ?_
  rintro e w9 ⟨va9, rfl, q9, t9, hv9⟩
  have d9 := HDY.out.ofAdd q9 t9 hv9
  have HFIN := Lib.hid (And.intro d9.1 (HSX.out.trans ((RStep.of0 hS).trans d9.2)))
  clear q9 t9 hv9 rB hbB d9
  refine hK.out _ _ ?_
  clear hK K hS
  try simp only [Act.put, sT, s0, sS]
  refine wpAnyF_done (by kernel_rfl) ?_ _
  try simp only [Act.put, sT, s0, sS]
  clear cL
  go_wp2_with fail
  go_ret
  exact ⟨rfl, _, by rw [HR2.out]; exact HFIN.out.1, HFIN.out.2⟩
 ·have hn1 : ((L.length : Int) == 0) = false := by simp; exact fun h => hn0 (by rw [h]; rfl)
  have hn3 : (L.length == 0) = false := by simpa using hn0
  have HR2 := Lib.hid (show RS = s.rs by rw [HRS.out, if_neg hn0])
  have HD2 := HD1
  have HS2 := HS1
  have HZ2 := HZ1
  clear hn0
  go_wp2_with fail
  obtain ⟨a4, k4, hv4, _, _, _⟩ := HD2.out.ov6.form
  refine wp_region_F (S := Touch [] w1.drew) [11] (by kernel_rfl) ?_
  change wpAnyF _ _ _ _ _ _ _ _ _ w1.drew
  have HDX := Lib.hid (HD2.out.touch0 ((Touch.refl [] w1).drew))
  have HSX := Lib.hid (HS2.out.trans (RStep.of0 ((Touch.refl [] w1).drew)))
  have HZX := Lib.hid (show w0.heap.size ≤ w1.drew.heap.size from HZ2.out)
  generalize w1.drew = X at *
  have hS := Touch.refl [] X
  have cL := HDX.out.at 13 _ rfl
  have HB4 := Lib.hid hv4
  rw [HB4.out] at cL
  clear hv4
  refine wpAnyF_takeT (i := 0) (oi := { dst := some 33, op := Op.move (Operand.tmp 0), type := 31, pos := "ref.go:304", after := #[], guard := none }) (v := .pointer (some ⟨h, 0, none⟩)) rfl (by kernel_rfl) (by kernel_rfl) (by kernel_rfl) (by kernel_rfl) (by kernel_rfl) (fun _ _ _ h => h) (Or.inl ⟨by rfl, fun w' hw => by go_simp⟩) hS ?_
  try simp only [Act.put, sT, s0, sS]
  refine wpAnyF_takeT (i := 1) (oi := { dst := some 34, op := Op.nilCheck (Operand.tmp 33), type := 0, pos := "ref.go:304", after := #[{ on := 0, ground := Ground.data }], guard := none }) (v := .pointer (some ⟨h, 0, none⟩)) rfl (by kernel_rfl) (by kernel_rfl) (by kernel_rfl) (by kernel_rfl) (by kernel_rfl) (fun _ _ _ h => h) (Or.inl ⟨by rfl, fun w' hw => by go_simp⟩) hS ?_
  try simp only [Act.put, sT, s0, sS]
  refine wpAnyF_takeT (i := 2) (oi := { dst := some 35, op := Op.fieldAddr 74 (Operand.tmp 34) 3, type := 0, pos := "ref.go:304", after := #[{ on := 1, ground := Ground.data }], guard := none }) (v := .pointer (some ⟨h, 14, none⟩)) rfl (by kernel_rfl) (by kernel_rfl) (by kernel_rfl) (by kernel_rfl) (by kernel_rfl) (fun _ _ _ h => h) (Or.inl ⟨by rfl, fun w' hw => by go_simp⟩) hS ?_
  try simp only [Act.put, sT, s0, sS]
  refine wpAnyF_takeT (i := 3) (oi := { dst := some 36, op := Op.move (Operand.tmp 0), type := 31, pos := "ref.go:304", after := #[], guard := none }) (v := .pointer (some ⟨h, 0, none⟩)) rfl (by kernel_rfl) (by kernel_rfl) (by kernel_rfl) (by kernel_rfl) (by kernel_rfl) (fun _ _ _ h => h) (Or.inl ⟨by rfl, fun w' hw => by go_simp⟩) hS ?_
  try simp only [Act.put, sT, s0, sS]
  refine wpAnyF_takeT (i := 4) (oi := { dst := some 37, op := Op.move (Operand.tmp 2), type := 4, pos := "ref.go:304", after := #[], guard := none }) (v := .bool true) rfl (by kernel_rfl) (by kernel_rfl) (by kernel_rfl) (by kernel_rfl) (by kernel_rfl) (fun _ _ _ h => h) (Or.inl ⟨by rfl, fun w' hw => by go_simp⟩) hS ?_
  try simp only [Act.put, sT, s0, sS]
  refine wpAnyF_takeT (i := 6) (oi := { dst := some 39, op := Op.nilCheck (Operand.tmp 36), type := 0, pos := "ref.go:304", after := #[{ on := 3, ground := Ground.data }], guard := none }) (v := .pointer (some ⟨h, 0, none⟩)) rfl (by kernel_rfl) (by kernel_rfl) (by kernel_rfl) (by kernel_rfl) (by kernel_rfl) (fun _ _ _ h => h) (Or.inl ⟨by rfl, fun w' hw => by go_simp⟩) hS ?_
  try simp only [Act.put, sT, s0, sS]
  refine wpAnyF_takeT (i := 7) (oi := { dst := some 40, op := Op.fieldAddr 74 (Operand.tmp 39) 2, type := 0, pos := "ref.go:304", after := #[{ on := 6, ground := Ground.data }], guard := none }) (v := .pointer (some ⟨h, 6, none⟩)) rfl (by kernel_rfl) (by kernel_rfl) (by kernel_rfl) (by kernel_rfl) (by kernel_rfl) (fun _ _ _ h => h) (Or.inl ⟨by rfl, fun w' hw => by go_simp⟩) hS ?_
  try simp only [Act.put, sT, s0, sS]
  refine wpAnyF_takeT (i := 8) (oi := { dst := some 41, op := Op.fieldAddr 70 (Operand.tmp 40) 4, type := 0, pos := "ref.go:304", after := #[{ on := 7, ground := Ground.data }], guard := none }) (v := .pointer (some ⟨h, 12, none⟩)) rfl (by kernel_rfl) (by kernel_rfl) (by kernel_rfl) (by kernel_rfl) (by kernel_rfl) (fun _ _ _ h => h) (Or.inl ⟨by rfl, fun w' hw => by go_simp⟩) hS ?_
  try simp only [Act.put, sT, s0, sS]
  refine wpAnyF_ready (rs := [5]) (by kernel_rfl) (by simp) ?_
  refine cnF rfl (fun K hK => ?_) AllReadyF.nil
  go_simp
  refine (rfam6 _).mono ?_
  rintro e _ ⟨rfl, rfl⟩
  refine hK.out _ _ hS (fun _ => ?_)
  clear hK K
  try simp only [Act.put, sT, s0, sS]
  refine wpAnyF_takeT (i := 9) (oi := { dst := some 42, op := Op.indexAddr 68 (Operand.tmp 41) (Operand.tmp 38), type := 0, pos := "ref.go:304", after := #[{ on := 8, ground := Ground.data }, { on := 5, ground := Ground.data }], guard := none }) (v := .pointer (some ⟨h, 13, none⟩)) rfl (by kernel_rfl) (by kernel_rfl) (by kernel_rfl) (by kernel_rfl) (by kernel_rfl) (fun _ _ _ h => h) (Or.inl ⟨by rfl, fun w' hw => by go_simp⟩) hS ?_
  try simp only [Act.put, sT, s0, sS]
  refine wpAnyF_takeT (i := 10) (oi := { dst := some 43, op := Op.load 35 (Operand.tmp 42), type := 35, pos := "ref.go:304", after := #[{ on := 9, ground := Ground.data }], guard := none }) (v := .slice a4 L.length k4) rfl (by kernel_rfl) (by kernel_rfl) (by kernel_rfl) (by kernel_rfl) (by kernel_rfl) (fun _ _ _ h => h) (Or.inl ⟨by rfl, fun w' hw => by (have q := hw.cell cL (by simp); go_simp)⟩) hS ?_
  try simp only [Act.put, sT, s0, sS]
  refine wpAnyF_ready (rs := [11]) (by kernel_rfl) (by simp) ?_
  refine clF rfl (by simp) (fun K hK => ?_) AllReadyF.nil
  go_simp
  have HDY := Lib.hid (HDX.out.touch0 hS)
  obtain ⟨bB, rB, hbB⟩ := OwnA.rdn (show OwnA w0 _ b1.v6 L from HDY.out.ov6)
  rw [HB4.out] at rB
  refine (radd_any (rowF b1 _) w0 _ h b1.vs b1.vt s.c.ff s.A T HDY.out.queue (by have := HZX.out; have := hS.size; omega) _ bB L rB (fun hne hm => by
    have h1 := hbB hne
    simp only [qfoot, List.mem_cons, List.mem_append] at hm
    rcases hm with e | e | e
    ·exact HDY.out.apart 2 0 (by decide) bB (by simp [rpart, h1]) (by simp [rpart, e])
    ·exact HDY.out.apart 2 3 (by decide) bB (by simp [rpart, h1]) (by simpa [rpart] using e)
    ·exact HDY.out.apart 2 4 (by decide) bB (by simp [rpart, h1]) (by simpa [rpart] using e)
   ) (by have := HL16.out; have := HA.out; omega)).mono ?_
  rintro e w9 ⟨va9, rfl, q9, t9, hv9⟩
  have d9 := HDY.out.ofAdd q9 t9 hv9
  have HFIN := Lib.hid (And.intro d9.1 (HSX.out.trans ((RStep.of0 hS).trans d9.2)))
  clear q9 t9 hv9 rB hbB d9
  refine hK.out _ _ ?_
  clear hK K hS
  try simp only [Act.put, sT, s0, sS]
  refine wpAnyF_done (by kernel_rfl) ?_ _
  try simp only [Act.put, sT, s0, sS]
  clear cL
  go_wp2_with fail
  go_ret
  exact ⟨rfl, _, by rw [HR2.out]; exact HFIN.out.1, HFIN.out.2⟩
/-- What a cancellation leaves of the pair. -/
def PS.cancel (p : PS) : PS := { p with canc := true, q4 := ⟨true, p.q4.t, p.q4.l⟩, q6 := ⟨true, p.q6.t, p.q6.l⟩ }
def PS.canI (p : PS) (i : Nat) : PS := { p with canc := true, q4 := ⟨if 1 ≤ i then true else p.q4.a, p.q4.t, p.q4.l⟩, q6 := ⟨if 2 ≤ i then true else p.q6.a, p.q6.t, p.q6.l⟩ }
def DS.cancel (s : DS) : DS := if s.resolved = true then s else { s with p := s.p.cancel, rs := s.rs ++ [3] }
theorem Pr.canc {w0 w : World} {h : Nat} {v4 v6 : Value} {p : PS} (q : Pr w0 w h v4 v6 p) : Pr w0 (w.setCell ⟨h, 1, none⟩ (.bool true)) h v4 v6 { p with canc := true } ∧ Touch [h] w (w.setCell ⟨h, 1, none⟩ (.bool true)) := by
 have t : Touch [h] w (w.setCell ⟨h, 1, none⟩ (.bool true)) := ((Touch.refl [h] w).setCell (p := ⟨h, 1, none⟩) (.inl (by simp)) _)
 refine ⟨⟨?_, q.new, Own.touch q.o4 t (fun g hg => by simp; intro e; subst e; exact q.h4 hg), Own.touch q.o6 t (fun g hg => by simp; intro e; subst e; exact q.h6 hg), q.h4, q.h6, q.h46, q.n4, q.n6, q.d, q.e4, q.e6⟩, t⟩
 simp [World.setCell, Array.getElem?_modify, q.cell]
theorem Pr.can4 {w0 w : World} {h : Nat} {v4 v6 : Value} {p : PS} (q : Pr w0 w h v4 v6 p) : Pr w0 (w.setCell ⟨h, 2, none⟩ (.bool true)) h v4 v6 { p with q4 := ⟨true, p.q4.t, p.q4.l⟩ } ∧ Touch [h] w (w.setCell ⟨h, 2, none⟩ (.bool true)) := by
 have t : Touch [h] w (w.setCell ⟨h, 2, none⟩ (.bool true)) := ((Touch.refl [h] w).setCell (p := ⟨h, 2, none⟩) (.inl (by simp)) _)
 refine ⟨⟨?_, q.new, Own.touch q.o4 t (fun g hg => by simp; intro e; subst e; exact q.h4 hg), Own.touch q.o6 t (fun g hg => by simp; intro e; subst e; exact q.h6 hg), q.h4, q.h6, q.h46, q.n4, q.n6, q.d, q.e4, q.e6⟩, t⟩
 simp [World.setCell, Array.getElem?_modify, q.cell]
theorem Pr.can6 {w0 w : World} {h : Nat} {v4 v6 : Value} {p : PS} (q : Pr w0 w h v4 v6 p) : Pr w0 (w.setCell ⟨h, 5, none⟩ (.bool true)) h v4 v6 { p with q6 := ⟨true, p.q6.t, p.q6.l⟩ } ∧ Touch [h] w (w.setCell ⟨h, 5, none⟩ (.bool true)) := by
 have t : Touch [h] w (w.setCell ⟨h, 5, none⟩ (.bool true)) := ((Touch.refl [h] w).setCell (p := ⟨h, 5, none⟩) (.inl (by simp)) _)
 refine ⟨⟨?_, q.new, Own.touch q.o4 t (fun g hg => by simp; intro e; subst e; exact q.h4 hg), Own.touch q.o6 t (fun g hg => by simp; intro e; subst e; exact q.h6 hg), q.h4, q.h6, q.h46, q.n4, q.n6, q.d, q.e4, q.e6⟩, t⟩
 simp [World.setCell, Array.getElem?_modify, q.cell]
set_option maxRecDepth 100000 in
set_option maxHeartbeats 1000000 in
theorem pcancel_any (w0 w : World) (h : Nat) (v4 v6 : Value) (p : PS) (q : Pr w0 w h v4 v6 p) :
  Calls Tryz.prog 66 #[.pointer (some ⟨h, 0, none⟩)] w fun e w' => e = .returned (.tuple #[]) ∧ Pr w0 w' h v4 v6 p.cancel ∧ Touch [h] w w' := by
 have HC := Lib.hid q.canc
 obtain ⟨_, c1, _⟩ := q.cells
 have f1 := q.free 1
 clear q
 go_enter Tryz.func66, Tryz.ntmps66
 go_wp2_with fail
 generalize (w.setCell ⟨h, 1, none⟩ (.bool true)) = W at *
 clear c1 f1
 go_loopw [2, 6] (fun v2 vi wr => ∃ i : Nat, i ≤ 2 ∧ vi = .int .i64 i ∧ Pr w0 wr h v4 v6 (p.canI i) ∧ Touch [h] w wr) (fun _ vi _ => 2 - (intOf vi).toNat)
 case atStart => exact ⟨0, by omega, rfl, HC.out.1, HC.out.2⟩
 case round =>
  obtain ⟨i, hi, rfl, hq, ht⟩ := hrel
  have HQ := Lib.hid hq
  have HT := Lib.hid ht
  obtain ⟨_, _, c2, _, _, c5, _, _⟩ := hq.cells
  have f2 := hq.free 2
  have f5 := hq.free 5
  clear hq ht
  rcases (by omega : i = 0 ∨ i = 1 ∨ i = 2) with rfl | rfl | rfl
  ·have HP := Lib.hid HQ.out.can4
   go_wp2_with fail
   go_roundw
   case rel => exact ⟨1, by omega, rfl, HP.out.1, HT.out.trans HP.out.2 (fun x hx => .inl hx)⟩
   case measure => simp [intOf]
  ·have HP := Lib.hid HQ.out.can6
   go_wp2_with fail
   go_roundw
   case rel => exact ⟨2, by omega, rfl, HP.out.1, HT.out.trans HP.out.2 (fun x hx => .inl hx)⟩
   case measure => simp [intOf]
  ·go_wp2_with fail
   exact end0 rfl rfl ⟨rfl, HQ.out, HT.out⟩
set_option maxRecDepth 100000 in
set_option maxHeartbeats 1000000 in
theorem dcancel_any (w0 w : World) (h : Nat) (b : DV) (s : DS) (d : Dl w0 w h b s) (hz : w0.heap.size ≤ w.heap.size) (hl : s.rs.length ≤ 1000000) :
  Calls Tryz.prog 34 #[.pointer (some ⟨h, 0, none⟩)] w fun e w' => e = .returned (.tuple #[]) ∧ ∃ b', Dl w0 w' h b' s.cancel ∧ Step w w' h b b' := by
 have HD := Lib.hid d
 have HZ := Lib.hid hz
 have HL := Lib.hid hl
 have HE := Lib.hid (show s.cancel = if s.resolved = true then s else { s with p := s.p.cancel, rs := s.rs ++ [3] } from rfl)
 obtain ⟨_, _, _, _, _, _, c6, _, _, _, _, _⟩ := d.cells
 clear d hz hl
 cases hr : s.resolved with
 | true =>
  have HR := Lib.hid (dres_any w0 w h b s HD.out true hr)
  have HE2 := Lib.hid (show s.cancel = s by rw [HE.out, if_pos hr])
  clear hr
  go_enter Tryz.func34, Tryz.ntmps34
  go_wp2_with fail
  refine HR.out.mono ?_
  rintro e _ ⟨rfl, rfl⟩
  go_wp2_with fail
  exact end0 rfl rfl ⟨rfl, b, by rw [HE2.out]; exact HD.out, Step.refl _ _ _⟩
 | false =>
  have HR := Lib.hid (dres_any w0 w h b s HD.out false hr)
  have HE2 := Lib.hid (show s.cancel = { s with p := s.p.cancel, rs := s.rs ++ [3] } by rw [HE.out, if_neg (by rw [hr]; simp)])
  have HPC := Lib.hid (pcancel_any w0 w b.hq b.v4 b.v6 s.p HD.out.pr)
  clear hr
  go_enter Tryz.func34, Tryz.ntmps34
  go_wp2_with fail
  refine HR.out.mono ?_
  rintro e _ ⟨rfl, rfl⟩
  go_wp2_with fail
  refine HPC.out.mono ?_
  rintro e w1 ⟨rfl, p1, t1⟩
  have hS1 : ∀ g ∈ [b.hq], g ∈ pfoot b.hq b.v4 b.v6 := by simp [pfoot]
  have HD1 := Lib.hid (HD.out.setP t1 hS1 p1 (fun g hg => .inl hg))
  have HS1 := Lib.hid (step_p (h := h) (b := b) t1 hS1 (fun g hg => .inl hg))
  have HRC := Lib.hid (drec_any w0 w1 h _ _ HD1.out (by have := HZ.out; have := t1.size; omega) HL.out 3)
  clear p1 t1 hS1 c6
  go_wp2_with fail
  refine HRC.out.mono ?_
  rintro e w2 ⟨rfl, v2, d2, s2⟩
  have HD2 := Lib.hid d2
  have HS2 := Lib.hid (HS1.out.trans s2)
  clear d2 s2
  go_wp2_with fail
  exact end0 rfl rfl ⟨rfl, _, by rw [HE2.out]; exact HD2.out, HS2.out⟩
theorem Rdl.canc {w0 w w' : World} {h : Nat} {b : RV} {s : DS} {T : List Ad} (d : Rdl w0 w h b s T) (t : Touch [h] w w') (hc : w'.heap[h]? = some (.cells (#[.int .u64 s.c.rd, .int .u64 s.c.ad, .int .u64 s.c.jit, .int .i64 s.c.ff, .int .i64 s.c.mc, .bool s.lit, .int .u64 s.p.delay, .bool true, .bool true, .bool true, .int .u64 s.p.q4.t, .int .u64 s.p.q6.t, b.v4, b.v6, .int .i64 s.c.ff, b.vs, b.vt, b.vp, b.va, .int .u64 s.nb, b.vr]) 74 (0, 0))) :
  Rdl w0 w' h b { s with p := s.p.cancel } T := by
 have o := d.off 0 (S := [h]) (by simp [rpart])
 exact ⟨hc, d.new, Own.touch d.ov4 t (fun g hg => o 1 (by decide) g (by simp [rpart, hg])), Own.touch d.ov6 t (fun g hg => o 2 (by decide) g (by simp [rpart, hg])), Own.touch d.ovs t (fun g hg => o 3 (by decide) g (by simp [rpart, hg])), Own.touch d.ovt t (fun g hg => o 4 (by decide) g (by simp [rpart, hg])), Own.touch d.ovp t (fun g hg => o 5 (by decide) g (by simp [rpart, hg])), d.ova.touch t (fun g hg => o 6 (by decide) g (by simp [rpart, hg])), d.ovr.touch t (fun g hg => o 7 (by decide) g (by simp [rpart, hg])), d.apart, d.n4, d.n6, d.d, d.e4, d.e6⟩
theorem built_tt : Tryz.prog.built 66 [(0, .bool true), (1, .bool true)] = some #[.bool true, .bool true] := by kernel_rfl
set_option maxRecDepth 100000 in
set_option maxHeartbeats 1000000 in
theorem rpcancel_any (w0 w : World) (h : Nat) (b : RV) (s : DS) (T : List Ad) (d : Rdl w0 w h b s T) :
  Calls Tryz.prog 67 #[.pointer (some ⟨h, 6, none⟩)] w fun e w' => e = .returned (.tuple #[]) ∧ Rdl w0 w' h b { s with p := s.p.cancel } T ∧ RStep w w' h b b := by
 have HD := Lib.hid d
 have c7 := d.at 7 _ rfl
 have f7 := d.free 7
 have t7 : Touch [h] w (w.setCell ⟨h, 7, none⟩ (.bool true)) := ((Touch.refl [h] w).setCell (p := ⟨h, 7, none⟩) (.inl (by simp)) _)
 have HT7 := Lib.hid t7
 have c8 := d.at 8 _ rfl
 have c9 := d.at 9 _ rfl
 have f8 := d.free 8
 have f9 := d.free 9
 have t9 : Touch [h] w (((w.setCell ⟨h, 7, none⟩ (.bool true)).setCell ⟨h, 8, none⟩ (.bool true)).setCell ⟨h, 9, none⟩ (.bool true)) := (t7.setCell (p := ⟨h, 8, none⟩) (.inl (by simp)) _).setCell (p := ⟨h, 9, none⟩) (.inl (by simp)) _
 have HR := Lib.hid (HD.out.canc t9 (by simp [World.setCell, Array.getElem?_modify, d.cell]))
 have HS := Lib.hid (RStep.here (b := b) t9)
 clear t9
 clear d t7
 go_enter Tryz.func67, Tryz.ntmps67
 go_wp2_with ((with_reducible refine at_build 66 ?_); refine wpList_built (by rfl) 66 _ (by rfl) _ _ (by rfl) built_tt ?_)
 exact end0 rfl rfl ⟨rfl, HR.out, HS.out⟩
set_option maxRecDepth 100000 in
set_option maxHeartbeats 1000000 in
theorem rcancel_any (w0 w : World) (h : Nat) (b : RV) (s : DS) (T : List Ad) (d : Rdl w0 w h b s T) (hz : w0.heap.size ≤ w.heap.size) (hl : s.rs.length ≤ 1000000) :
  Calls Tryz.prog 35 #[.pointer (some ⟨h, 0, none⟩)] w fun e w' => e = .returned (.tuple #[]) ∧ ∃ b', Rdl w0 w' h b' s.cancel T ∧ RStep w w' h b b' := by
 have HD := Lib.hid d
 have HZ := Lib.hid hz
 have HL := Lib.hid hl
 have HE := Lib.hid (show s.cancel = if s.resolved = true then s else { s with p := s.p.cancel, rs := s.rs ++ [3] } from rfl)
 clear d hz hl
 cases hr : s.resolved with
 | true =>
  have HR := Lib.hid (rres_any w0 w h b s T HD.out true hr)
  have HE2 := Lib.hid (show s.cancel = s by rw [HE.out, if_pos hr])
  clear hr
  go_enter Tryz.func35, Tryz.ntmps35
  go_wp2_with fail
  refine HR.out.mono ?_
  rintro e _ ⟨rfl, rfl⟩
  go_wp2_with fail
  exact end0 rfl rfl ⟨rfl, b, by rw [HE2.out]; exact HD.out, RStep.of0 (Touch.refl _ _)⟩
 | false =>
  have HR := Lib.hid (rres_any w0 w h b s T HD.out false hr)
  have HE2 := Lib.hid (show s.cancel = { s with p := s.p.cancel, rs := s.rs ++ [3] } by rw [HE.out, if_neg (by rw [hr]; simp)])
  have HPC := Lib.hid (rpcancel_any w0 w h b s T HD.out)
  clear hr
  go_enter Tryz.func35, Tryz.ntmps35
  go_wp2_with fail
  refine HR.out.mono ?_
  rintro e _ ⟨rfl, rfl⟩
  go_wp2_with fail
  refine HPC.out.mono ?_
  rintro e w1 ⟨rfl, d1, s1⟩
  have HS1 := Lib.hid s1
  have HRC := Lib.hid (rrec_any w0 w1 h _ _ _ d1 (by have := HZ.out; have := s1.t.size; omega) HL.out 3)
  clear d1 s1
  go_wp2_with fail
  refine HRC.out.mono ?_
  rintro e w2 ⟨rfl, v2, d2, s2⟩
  have HD2 := Lib.hid d2
  have HS2 := Lib.hid (HS1.out.trans s2)
  clear d2 s2
  go_wp2_with fail
  exact end0 rfl rfl ⟨rfl, _, by rw [HE2.out]; exact HD2.out, HS2.out⟩
/-- The cells of a reference's dialer that is new. -/
def newR (c : Cfg) (n : Bool) : List Value := [.int .u64 c.rd, .int .u64 c.ad, .int .u64 c.jit, .int .i64 c.ff, .int .i64 c.mc, .bool n, .int .u64 c.rd, .bool false, .bool false, .bool false, .int .u64 0, .int .u64 0, .slice none 0 0, .slice none 0 0, .int .i64 c.ff, .slice none 0 0, .slice none 0 0, .slice none 0 0, .slice none 0 0, .int .u64 0, .slice none 0 0]
def newP (c : Cfg) : List Value := [.int .u64 c.rd, .bool false, .bool false, .bool false, .int .u64 0, .int .u64 0, .slice none 0 0, .slice none 0 0]
def newQ (c : Cfg) : List Value := [.int .i64 c.ff, .slice none 0 0, .slice none 0 0]
theorem built_newR (c : Cfg) (n : Bool) : Tryz.prog.built 74 [(0, .agg c.cells.toArray), (1, .bool n), (2, .agg (newP c).toArray), (3, .agg (newQ c).toArray)] = some (newR c n).toArray := by kernel_rfl
def rv0 : RV := ⟨.slice none 0 0, .slice none 0 0, .slice none 0 0, .slice none 0 0, .slice none 0 0, .slice none 0 0, .slice none 0 0⟩
theorem Rdl.fresh {w0 w : World} {h : Nat} {c : Cfg} {n : Bool} (hc : w.heap[h]? = some (.cells (newR c n).toArray 74 (0, 0))) (new : w0.heap.size ≤ h) (hrd : 0 ≤ c.rd ∧ c.rd ≤ maxT) : Rdl w0 w h rv0 ⟨c, n, initP c.rd, [], [], 0, [], [], []⟩ [] := by
 refine ⟨hc, new, Own.nil _ _, Own.nil _ _, Own.nil _ _, Own.nil _ _, Own.nil _ _, OwnK.nil _ _, OwnK.nil _ _, ?_, by simp [initP], by simp [initP], hrd, by simp [initP, maxT], by simp [initP, maxT]⟩
 have key : ∀ i g, g ∈ rpart h rv0 i → i = 0 ∧ g = h := by
  intro i g hg
  match i, hg with
  | 0, hg => simp [rpart] at hg; exact ⟨rfl, hg⟩
  | 1, hg => simp [rpart, rv0, Value.ownBlock] at hg
  | 2, hg => simp [rpart, rv0, Value.ownBlock] at hg
  | 3, hg => simp [rpart, rv0, Value.ownBlock] at hg
  | 4, hg => simp [rpart, rv0, Value.ownBlock] at hg
  | 5, hg => simp [rpart, rv0, Value.ownBlock] at hg
  | 6, hg => simp [rpart, rv0, Value.ownBlock] at hg
  | 7, hg => simp [rpart, rv0, Value.ownBlock] at hg
  | _ + 8, hg => simp [rpart] at hg
 intro i j hij g hg hm
 have a := key i g hg
 have b := key j g hm
 omega
set_option maxRecDepth 100000 in
set_option maxHeartbeats 4000000 in
theorem rnew_any (c : Cfg) (w : World) (v : Value) (bl : Nat) (l : List Ad) (hv : Rd w 17 bl v (l.map Ad.cells)) (hc : c.valid = true) (hlb : l ≠ [] → bl < w.heap.size) (hl2 : l.length * 17 ≤ 140737488351232) :
  Calls Tryz.prog 8 #[.agg c.cells.toArray, v] w fun e w' => ∃ h b, e = .returned (.pointer (some ⟨h, 0, none⟩)) ∧ Rdl w w' h b (initS c l) [] ∧ Touch [] w w' := by
 have HT := Lib.hid ((Touch.refl [] w).alloc (.cells c.cells.toArray 24))
 have hrow := range_new w c.cells 24
 have HCL := Lib.hid c.len
 obtain ⟨a, cap, rfl, hlc, hcm⟩ := hv.form
 simp only [List.length_map] at *
 obtain ⟨n, hn⟩ : ∃ n, n = l.length := ⟨_, rfl⟩
 have HN := Lib.hid hn
 have HIS := Lib.hid (show initS c l = { (⟨c, decide (0 < n), initP c.rd, [], [], 0, [], [], []⟩ : DS) with A := addL [] l } by rw [hn]; rfl)
 obtain ⟨nb, hnb⟩ : ∃ nb, decide (0 < n) = nb := ⟨_, rfl⟩
 rw [hnb] at HIS
 rw [← hn] at hv
 have HRD := Lib.hid (show 0 ≤ c.rd ∧ c.rd ≤ maxT by obtain ⟨⟨h1, h2⟩, _⟩ := c.valid_iff hc; unfold maxT; omega)
 have HV := Lib.hid hv
 have HLB := Lib.hid hlb
 have c0 : (w.alloc (.cells c.cells.toArray 24)).cell? ⟨w.heap.size, 0, none⟩ = some (.int .u64 c.rd) := by simpa using hrow 0 (.int .u64 c.rd) rfl
 have c3 : (w.alloc (.cells c.cells.toArray 24)).cell? ⟨w.heap.size, 3, none⟩ = some (.int .i64 c.ff) := by simpa using hrow 3 (.int .i64 c.ff) rfl
 rw [← hn]
 clear hc hv hn hlb hlc hcm
 go_enter Tryz.func8, Tryz.ntmps8
 go_wp2_with (first
  | ((with_reducible refine at_load 24 ?_); refine wpList_load_mid rfl 24 _ rfl w.heap.size 0 rfl c.cells _ hrow Tryz.underlying24 rfl (by rw [sizeCf, HCL.out]) ?_)
  | ((with_reducible refine at_build 74 ?_); refine wpList_built (by rfl) 74 _ (by rfl) _ _ (by rfl) (built_newR c nb) ?_))
 have HG := Lib.hid (heap_alloc_new (w.alloc (.cells c.cells.toArray 24)) (.cells (newR c nb).toArray 74))
 have HTA := Lib.hid (HT.out.alloc (.cells (newR c nb).toArray 74))
 have HHS := Lib.hid (show (w.alloc (.cells c.cells.toArray 24)).heap.size = w.heap.size + 1 by simp)
 rw [HHS.out] at HG
 have HD := Lib.hid (Rdl.fresh (w0 := w) HG.out (by omega) HRD.out)
 have HAD := Lib.hid (radd_any (rowF rv0 ⟨c, nb, initP c.rd, [], [], 0, [], [], []⟩) w _ (w.heap.size + 1) _ _ c.ff [] [] HD.out.queue (by have := HTA.out.size; exact this) _ bl l (HV.out.touch HTA.out (by simp)) (fun hne hm => by
  have h1 := HLB.out hne
  simp [qfoot, rv0, Value.ownBlock] at hm
  omega) (by simp; omega))
 clear c0 c3 hrow hnb
 refine HAD.out.mono ?_
 rintro e w3 ⟨va3, rfl, q3, t3, hv3⟩
 have d3 := HD.out.ofAdd q3 t3 hv3
 have HD3 := Lib.hid d3.1
 have HT3 := Lib.hid (d3.2.out HD.out HTA.out)
 clear q3 t3 hv3 d3
 go_wp2_with fail
 go_ret
 exact ⟨_, _, rfl, by rw [HIS.out]; exact HD3.out, HT3.out⟩
end Go.Proofs.YtiklhaajhdephaaGreatDoor

/-
 Plain: what every dialer keeps, whatever is done to it.
-/
namespace Go.Proofs.YtiklhaajhdephaaGreatDoor
open Go.RowKit
set_option linter.unusedVariables false
set_option linter.unusedSimpArgs false

structure Ok (s : DS) (N : Nat) : Prop where
 cfg : s.c.valid = true
 inv : Inv s.A s.K
 nb : 0 ≤ s.nb ∧ s.nb ≤ maxT
 st : s.S.length ≤ 64
 srt : s.act.Pairwise (· < ·)
 actb : ∀ k ∈ s.act, 1 ≤ k ∧ k ≤ s.S.length
 actm : (s.act.length : Int) ≤ s.c.mc
 rs : ∀ x ∈ s.rs, 1 ≤ x ∧ x ≤ 7
 fit : s.p.Fit
 can : s.p.canc = true → s.p.complete = true
 sub : ∀ a ∈ s.S, a ∈ tknP s.A s.K
 nod : s.S.Nodup
 lenA : s.A.length ≤ 5 + s.p.q4.l.length + s.p.q6.l.length
 l4 : s.p.q4.l.length ≤ 6
 l6 : s.p.q6.l.length ≤ 6
 lenR : s.rs.length ≤ N
theorem Ok.a17 {s : DS} {N : Nat} (o : Ok s N) : s.A.length ≤ 17 := by have := o.lenA; have := o.l4; have := o.l6; omega
theorem nodup_le {K : List Nat} {n : Nat} (h : K.Nodup) (hb : ∀ i ∈ K, i < n) : K.length ≤ n := by
 rw [← filter_range h hb]
 refine Nat.le_trans (List.length_filter_le _ _) ?_
 simp
theorem Ok.k17 {s : DS} {N : Nat} (o : Ok s N) : s.K.length ≤ 17 := Nat.le_trans (nodup_le o.inv.nodK o.inv.bound) o.a17
theorem Ok.t17 {s : DS} {N : Nat} (o : Ok s N) : (tknP s.A s.K).length ≤ 17 := by rw [tknP_len o.inv.bound]; exact o.k17
theorem Ok.ref {s : DS} {N : Nat} (o : Ok s N) : Ref s (tknP s.A s.K) := ⟨remR_eq o.inv _, o.fit, Nat.le_trans o.a17 (by omega), Nat.le_trans o.t17 (by omega)⟩
theorem Ok.more {s : DS} {N M : Nat} (o : Ok s N) (h : N ≤ M) : Ok s M := { o with lenR := Nat.le_trans o.lenR h }
theorem Ok.start {s : DS} {N : Nat} (o : Ok s N) {now draw : Int} (hn : 0 ≤ now ∧ now ≤ maxT) (hd : 0 ≤ draw ∧ draw ≤ maxT) {a : Ad} {r : List Ad} (hc : s.cand now = a :: r) : Ok (s.startS now draw a) N ∧ a ∉ s.S ∧ tknP (s.startS now draw a).A (s.startS now draw a).K = tknP s.A s.K ++ [a] := by
 obtain ⟨hr, hS, hm⟩ := cand_rem hc
 obtain ⟨h1, h2, h3, h4, h5⟩ := o.inv.next hr
 obtain ⟨_, ⟨ha1, ha2⟩, ⟨hj1, hj2⟩, _, _⟩ := s.c.valid_iff o.cfg
 have hns : a ∉ s.S := fun hm2 => h2 (o.sub a hm2)
 have e1 := Int.emod_nonneg draw (show s.c.jit + 1 ≠ 0 by omega)
 have e2 := Int.emod_lt_of_pos draw (show 0 < s.c.jit + 1 by omega)
 refine ⟨⟨o.cfg, h3, ⟨addT_lo hn.1 (by omega), addT_hi (by unfold maxT; omega)⟩, by simp [DS.startS]; omega, ?_, ?_, by simp [DS.startS]; omega, o.rs, o.fit, o.can, ?_, ?_, o.lenA, o.l4, o.l6, o.lenR⟩, hns, h4⟩
 ·refine List.pairwise_append.2 ⟨o.srt, List.pairwise_singleton _ _, fun x hx y hy => ?_⟩
  simp at hy
  have := (o.actb x hx).2
  omega
 ·intro k hk
  simp only [DS.startS, List.mem_append, List.mem_singleton, List.length_append, List.length_singleton] at hk ⊢
  rcases hk with hk | hk
  ·have := o.actb k hk; omega
  ·omega
 ·intro x hx
  simp only [DS.startS, List.mem_append, List.mem_singleton] at hx ⊢
  rw [h4]
  rcases hx with hx | hx
  ·exact List.mem_append_left _ (o.sub x hx)
  ·exact List.mem_append_right _ (by simp [hx])
 ·refine List.nodup_append.2 ⟨o.nod, by simp, fun x hx y hy => ?_⟩
  simp at hy
  subst hy
  intro e
  exact hns (e ▸ hx)
theorem rs_snoc {l : List Nat} (h : ∀ x ∈ l, 1 ≤ x ∧ x ≤ 7) (y : Int) : ∀ x ∈ l ++ [whyN y], 1 ≤ x ∧ x ≤ 7 := by
 intro x hx
 rcases List.mem_append.1 hx with e | e
 ·exact h x e
 ·simp at e; subst e; exact whyN_ok y
theorem Ok.skip {s : DS} {N : Nat} (o : Ok s N) {now y : Int} {a : Ad} {r : List Ad} (hc : s.cand now = a :: r) : Ok (s.skip a y) (N + 1) ∧ tknP (s.skip a y).A (s.skip a y).K = tknP s.A s.K ++ [a] := by
 obtain ⟨hr, hS, hm⟩ := cand_rem hc
 obtain ⟨h1, h2, h3, h4, h5⟩ := o.inv.next hr
 refine ⟨⟨o.cfg, h3, o.nb, o.st, o.srt, o.actb, o.actm, rs_snoc o.rs y, o.fit, o.can, ?_, o.nod, o.lenA, o.l4, o.l6, by simp [DS.skip]; exact o.lenR⟩, h4⟩
 intro x hx
 show x ∈ tknP s.A (takeK s.A s.K a)
 rw [h4]
 exact List.mem_append_left _ (o.sub x hx)
theorem Ok.fail {s : DS} {N : Nat} (o : Ok s N) (x y : Int) : Ok (s.fail x y) (N + 1) := by
 refine ⟨o.cfg, o.inv, ⟨Int.le_refl _, by unfold maxT; simp [DS.fail]⟩, o.st, o.srt.filter _, fun k hk => o.actb k (List.mem_filter.1 hk).1, ?_, rs_snoc o.rs y, o.fit, o.can, o.sub, o.nod, o.lenA, o.l4, o.l6, by simp [DS.fail]; exact o.lenR⟩
 have h1 : ((s.fail x y).act.length : Nat) ≤ s.act.length := List.length_filter_le _ _
 have h2 := o.actm
 show ((s.fail x y).act.length : Int) ≤ s.c.mc
 omega
theorem ansL_le (b : Bool) (l : List Ad) : ∀ L, (ansL b L l).length ≤ L.length + l.length := by
 induction l with
 | nil => intro L; simp [ansL]
 | cons a r ih =>
  intro L
  have h1 := ih (ansS b L a)
  have h2 : (ansS b L a).length ≤ L.length + 1 := by unfold ansS; split <;> simp
  show (ansL b (ansS b L a) r).length ≤ _
  rw [List.length_cons]
  omega
theorem Ok.canc0 {s : DS} {N : Nat} (o : Ok s N) (hr : s.resolved = false) : s.p.canc = false := by
 cases h : s.p.canc with
 | false => rfl
 | true => unfold DS.resolved at hr; rw [o.can h] at hr; simp at hr
theorem Ok.ans4 {s : DS} {N : Nat} (o : Ok s N) {now y : Int} {l : List Ad} (hl : l.length ≤ 6) (hr : s.resolved = false) (ha : s.p.q4.a = false) : Ok (s.ans4 now l y) (N + 1) ∧ tknP (s.ans4 now l y).A (s.ans4 now l y).K = tknP s.A s.K := by
 have h0 := o.fit.f4 ha
 have h1 := ansL_le false l s.p.q4.l
 rw [h0] at h1
 have h2 := addL_len s.A (ansL false s.p.q4.l l)
 rw [h0] at h2
 have ht : tknP (s.ans4 now l y).A (s.ans4 now l y).K = tknP s.A s.K := tknP_add o.inv.bound _
 have hc := o.canc0 hr
 simp only [List.length_nil] at h1
 refine ⟨⟨o.cfg, o.inv.add _, o.nb, o.st, o.srt, o.actb, o.actm, ?_, ⟨fun h => by (cases h), o.fit.f6⟩, ?_, ?_, o.nod, ?_, by show (ansL false s.p.q4.l l).length ≤ 6; rw [h0]; omega, o.l6, ?_⟩, ht⟩
 ·show ∀ x ∈ (if (ansL false s.p.q4.l l).length = 0 then s.rs ++ [whyN y] else s.rs), 1 ≤ x ∧ x ≤ 7
  split
  ·exact rs_snoc o.rs y
  ·exact o.rs
 ·intro h
  have h3 : s.p.canc = true := h
  rw [hc] at h3
  cases h3
 ·intro x hx
  rw [ht]
  exact o.sub x hx
 ·have h3 := o.lenA
  rw [h0] at h3
  show (addL s.A (ansL false s.p.q4.l l)).length ≤ 5 + (ansL false s.p.q4.l l).length + s.p.q6.l.length
  rw [h0]
  simp only [List.length_nil] at h3
  omega
 ·show (if (ansL false s.p.q4.l l).length = 0 then s.rs ++ [whyN y] else s.rs).length ≤ N + 1
  have h3 := o.lenR
  split
  ·simp; exact h3
  ·omega
theorem Ok.ans6 {s : DS} {N : Nat} (o : Ok s N) {now y : Int} {l : List Ad} (hl : l.length ≤ 6) (hr : s.resolved = false) (ha : s.p.q6.a = false) : Ok (s.ans6 now l y) (N + 1) ∧ tknP (s.ans6 now l y).A (s.ans6 now l y).K = tknP s.A s.K := by
 have h0 := o.fit.f6 ha
 have h1 := ansL_le true l s.p.q6.l
 rw [h0] at h1
 have h2 := addL_len s.A (ansL true s.p.q6.l l)
 rw [h0] at h2
 have ht : tknP (s.ans6 now l y).A (s.ans6 now l y).K = tknP s.A s.K := tknP_add o.inv.bound _
 have hc := o.canc0 hr
 simp only [List.length_nil] at h1
 refine ⟨⟨o.cfg, o.inv.add _, o.nb, o.st, o.srt, o.actb, o.actm, ?_, ⟨o.fit.f4, fun h => by (cases h)⟩, ?_, ?_, o.nod, ?_, o.l4, by show (ansL true s.p.q6.l l).length ≤ 6; rw [h0]; omega, ?_⟩, ht⟩
 ·show ∀ x ∈ (if (ansL true s.p.q6.l l).length = 0 then s.rs ++ [whyN y] else s.rs), 1 ≤ x ∧ x ≤ 7
  split
  ·exact rs_snoc o.rs y
  ·exact o.rs
 ·intro h
  have h3 : s.p.canc = true := h
  rw [hc] at h3
  cases h3
 ·intro x hx
  rw [ht]
  exact o.sub x hx
 ·have h3 := o.lenA
  rw [h0] at h3
  show (addL s.A (ansL true s.p.q6.l l)).length ≤ 5 + s.p.q4.l.length + (ansL true s.p.q6.l l).length
  rw [h0]
  simp only [List.length_nil] at h3
  omega
 ·show (if (ansL true s.p.q6.l l).length = 0 then s.rs ++ [whyN y] else s.rs).length ≤ N + 1
  have h3 := o.lenR
  split
  ·simp; exact h3
  ·omega
theorem Ok.cancel {s : DS} {N : Nat} (o : Ok s N) : Ok s.cancel (N + 1) ∧ s.cancel.A = s.A ∧ s.cancel.K = s.K := by
 unfold DS.cancel
 by_cases hr : s.resolved = true
 ·rw [if_pos hr]
  exact ⟨o.more (by omega), rfl, rfl⟩
 ·rw [if_neg hr]
  exact ⟨⟨o.cfg, o.inv, o.nb, o.st, o.srt, o.actb, o.actm, rs_snoc o.rs 3, ⟨fun h => by (cases h), fun h => by (cases h)⟩, fun _ => rfl, o.sub, o.nod, o.lenA, o.l4, o.l6, by simp; exact o.lenR⟩, rfl, rfl⟩
theorem Ok.init {c : Cfg} {l : List Ad} (hc : c.valid = true) (hl : l.length ≤ 5) : Ok (initS c l) 0 := by
 have h := addL_len [] l
 obtain ⟨_, _, _, _, hm⟩ := c.valid_iff hc
 refine ⟨hc, Inv.nil.add l, ⟨Int.le_refl _, by unfold maxT; simp [initS]⟩, by simp [initS], by simp [initS], by simp [initS], by simp [initS]; omega, by simp [initS], ⟨fun _ => rfl, fun _ => rfl⟩, by simp [initS, initP], by simp [initS], by simp [initS], ?_, by simp [initS, initP], by simp [initS, initP], by simp [initS]⟩
 simp [initS, initP] at h ⊢
 omega
end Go.Proofs.YtiklhaajhdephaaGreatDoor

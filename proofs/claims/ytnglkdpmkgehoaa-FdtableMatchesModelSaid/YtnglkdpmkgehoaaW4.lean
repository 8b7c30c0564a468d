/-
  The walk of FdtableShutdownTransitions: true at every endpoint, pending or not, in either order. No condition.
-/
import Derived.Test.YtnglkdpmkgehoaaX3
namespace Go.Proofs.Ytnglkdpmkgehoaa
open Go.RowKit
set_option linter.unusedVariables false
set_option linter.unusedSimpArgs false

def gmod (v n : Int) : Int := (v % 18446744073709551616) % n
theorem gmod_lo (v n : Int) (hn : 1 ≤ n) : 0 ≤ gmod v n := Int.emod_nonneg _ (by omega)
theorem gmod_hi (v n : Int) (hn : 1 ≤ n) : gmod v n < n := Int.emod_lt_of_pos _ (by omega)
theorem mod_eq (v n : Int) (hn : 1 ≤ n) (hn2 : n ≤ 2000000) : wrap64 ((IntKind.u64.wrap v).tmod n) = gmod v n := by
  have h0 : 0 ≤ IntKind.u64.wrap v := by simp [IntKind.wrap, IntKind.signed, IntKind.bits]; omega
  rw [Int.tmod_eq_emod_of_nonneg h0]
  have h1 := Int.emod_nonneg (IntKind.u64.wrap v) (show n ≠ 0 by omega)
  have h2 := Int.emod_lt_of_pos (IntKind.u64.wrap v) (show 0 < n by omega)
  rw [IntWalk.wrap64_in _ ⟨by omega, by omega⟩]
  unfold gmod
  congr 1
theorem mod_any (v n : Int) (w : World) (hn : 1 ≤ n) (hn2 : n ≤ 2000000) :
    Calls Try.prog 13 #[.int .i64 v, .int .i64 n] w fun e w' => e = .returned (.int .i64 (gmod v n)) ∧ w = w' := by
  have H := mod_eq v n hn hn2
  go_enter Try.func13, Try.ntmps13
  go_wp2
  go_ret
  exact ⟨by simp [← H], rfl⟩

set_option maxRecDepth 100000 in
theorem shut_true (t m u : Nat) (live : List Fd) (used : List Bool) (total c a : Int) (w : World) (h : Tab w t m u live used total) (hk : okK (c, a)) :
    Calls Try.prog 17 #[.pointer (some ⟨t, 0, none⟩), .agg #[.int .i64 c, .int .i64 a], .bool true] w fun e w' => e = .returned (.int .i64 (trErr nextLoc live (c, a))) ∧ Tab w' t m u (trLive nextLoc live (c, a)) used total ∧ Touch (live.map (·.g)) w w' := by
  have tA := (Touch.refl [] w).alloc (.cells #[.int .i64 c, .int .i64 a] 23)
  have HA := Lib.hid (h.touch tA (by simp))
  go_enter Try.func17, Try.ntmps17
  go_wp2_with fail
  refine (loc_any t m u live used total c a _ HA.out hk).mono ?_
  rintro e w' ⟨rfl, h2, t2⟩
  go_wp2_with fail
  go_ret
  exact ⟨rfl, h2, (tA.mono (by simp)).trans t2 (fun x hx => .inl hx)⟩
set_option maxRecDepth 100000 in
theorem shut_false (t m u : Nat) (live : List Fd) (used : List Bool) (total c a : Int) (w : World) (h : Tab w t m u live used total) (hk : okK (c, a)) :
    Calls Try.prog 17 #[.pointer (some ⟨t, 0, none⟩), .agg #[.int .i64 c, .int .i64 a], .bool false] w fun e w' => e = .returned (.int .i64 (trErr nextRem live (c, a))) ∧ Tab w' t m u (trLive nextRem live (c, a)) used total ∧ Touch (live.map (·.g)) w w' := by
  have tA := (Touch.refl [] w).alloc (.cells #[.int .i64 c, .int .i64 a] 23)
  have HA := Lib.hid (h.touch tA (by simp))
  go_enter Try.func17, Try.ntmps17
  go_wp2_with fail
  refine (rem_any t m u live used total c a _ HA.out hk).mono ?_
  rintro e w' ⟨rfl, h2, t2⟩
  go_wp2_with fail
  go_ret
  exact ⟨rfl, h2, (tA.mono (by simp)).trans t2 (fun x hx => .inl hx)⟩
theorem once {P G : Prop} (f : Hid P → G) (p : P) : G := f (Lib.hid p)
theorem size23 : (Try.prog.info? 23).map (·.size) = some 2 := by kernel_rfl
theorem valid_small {c a : Int} (h1 : 0 ≤ c) (h2 : c < 1048576) (h3 : 0 ≤ a) (h4 : a < 65) : validB c a = true := by
  have : a ≤ 64 := by omega
  simp [validB, h1, h2, h3, this]
set_option maxRecDepth 100000 in
set_option maxHeartbeats 8000000 in
theorem walk4 (pending first : Bool) (c a : Int) (w : World) (hk : okK (c, a)) :
    Calls Try.prog 4 #[.bool pending, .bool first, .agg #[.int .i64 c, .int .i64 a]] w fun e w' => e = .returned (.bool true) ∧ Touch [] w w' := by
  have m1 := gmod_lo c 1048576 (by omega)
  have m2 := gmod_hi c 1048576 (by omega)
  have m3 := gmod_lo a 65 (by omega)
  have m4 := gmod_hi a 65 (by omega)
  have tA := (Touch.refl [] w).alloc (.cells #[.int .i64 c, .int .i64 a] 23)
  have gA := heap_alloc_new w (.cells #[.int .i64 c, .int .i64 a] 23)
  go_enter Try.func4, Try.ntmps4
  go_wp2_with fail
  refine (new_ex 1 1 _ rfl (by omega) (by omega)).mono ?_
  rintro _ w1 ⟨t, m, u, rfl, T1, ⟨zt, zm, zu⟩, t1⟩
  rw [World.size_alloc] at zt zm zu
  have G1 := t1.at gA (by simp)
  have U1 := (tA.trans t1 (by simp)).drew
  have ll := T1.lt
  have q1 := ll t (by simp [Tab.foot])
  have q2 := ll m (by simp [Tab.foot])
  have q3 := ll u (by simp [Tab.foot])
  clear t1 tA gA ll
  go_wp2_with fail
  have TD := T1.touch ((Touch.refl [] w1).drew) (by simp)
  have GD := ((Touch.refl [] w1).drew).at G1 (by simp)
  have q1' : t < w1.drew.heap.size := q1
  have q2' : m < w1.drew.heap.size := q2
  have q3' : u < w1.drew.heap.size := q3
  clear T1 G1 q1 q2 q3
  apply once
  · intro REST
    have hS := Touch.refl [] w1.drew
    obtain ⟨x0, x1⟩ := cells_two GD
    refine wp_region_held (S := Touch [] w1.drew) (by kernel_rfl) ?_
    change wpAnyH _ _ _ _ _ _ _ _ w1.drew
    refine wpAnyH_take (i := 0) (oi := { dst := some 23, op := Op.fieldAddr 23 (Operand.tmp 5) 0, type := 0, pos := "law.go:133", after := #[], guard := none }) (v := .pointer (some ⟨w.heap.size, 0, none⟩)) rfl (by kernel_rfl) (by kernel_rfl) (by kernel_rfl) (fun _ _ _ h => h) (Or.inl ⟨by rfl, fun w' hw => by go_simp⟩) hS ?_
    try simp only [Act.put, List.setIfInBounds_toArray, List.set_cons_zero, List.set_cons_succ]
    refine wpAnyH_take (i := 1) (oi := { dst := some 24, op := Op.load 3 (Operand.tmp 23), type := 3, pos := "law.go:133", after := #[{ on := 0, ground := Ground.data }], guard := none }) (v := .int .i64 c) rfl (by kernel_rfl) (by kernel_rfl) (by kernel_rfl) (fun _ _ _ h => h) (Or.inl ⟨by rfl, fun w' hw => by (have q := hw.cell x0 (by simp); go_simp)⟩) hS ?_
    try simp only [Act.put, List.setIfInBounds_toArray, List.set_cons_zero, List.set_cons_succ]
    refine wpAnyH_take (i := 3) (oi := { dst := some 26, op := Op.fieldAddr 23 (Operand.tmp 5) 1, type := 0, pos := "law.go:133", after := #[], guard := none }) (v := .pointer (some ⟨w.heap.size, 1, none⟩)) rfl (by kernel_rfl) (by kernel_rfl) (by kernel_rfl) (fun _ _ _ h => h) (Or.inl ⟨by rfl, fun w' hw => by go_simp⟩) hS ?_
    try simp only [Act.put, List.setIfInBounds_toArray, List.set_cons_zero, List.set_cons_succ]
    refine wpAnyH_take (i := 4) (oi := { dst := some 27, op := Op.load 3 (Operand.tmp 26), type := 3, pos := "law.go:133", after := #[{ on := 3, ground := Ground.data }], guard := none }) (v := .int .i64 a) rfl (by kernel_rfl) (by kernel_rfl) (by kernel_rfl) (fun _ _ _ h => h) (Or.inl ⟨by rfl, fun w' hw => by (have q := hw.cell x1 (by simp); go_simp)⟩) hS ?_
    try simp only [Act.put, List.setIfInBounds_toArray, List.set_cons_zero, List.set_cons_succ]
    refine wpAnyH_ready (rs := [2, 7]) (by kernel_rfl) (by simp) ?_
    refine AllReadyH.cons (o := { dst := some 25, op := Op.call { callee := Callee.value (Operand.func 13), args := #[Operand.tmp 24, Operand.const (Value.int IntKind.i64 1048576)], argTypes := #[3, 3] }, type := 3, pos := "law.go:133", after := #[{ on := 1, ground := Ground.data }], guard := none }) rfl (fun K hK => ?_) (AllReadyH.cons (o := { dst := some 9, op := Op.alloc 23, type := 0, pos := "law.go:133", after := #[], guard := none }) rfl (fun K hK => ?_) AllReadyH.nil)
    · go_simp
      refine (mod_any _ _ _ (by omega) (by omega)).mono ?_
      rintro e w' ⟨rfl, rfl⟩
      refine hK.out _ _ hS (fun _ => ?_)
      clear hK K
      try simp only [Act.put, List.setIfInBounds_toArray, List.set_cons_zero, List.set_cons_succ]
      refine wpAnyH_ready (rs := [5, 7]) (by kernel_rfl) (by simp) ?_
      refine AllReadyH.cons (o := { dst := some 28, op := Op.call { callee := Callee.value (Operand.func 13), args := #[Operand.tmp 27, Operand.const (Value.int IntKind.i64 65)], argTypes := #[3, 3] }, type := 3, pos := "law.go:133", after := #[{ on := 4, ground := Ground.data }, { on := 2, ground := Ground.chain }], guard := none }) rfl (fun K hK => ?_) (AllReadyH.cons (o := { dst := some 9, op := Op.alloc 23, type := 0, pos := "law.go:133", after := #[], guard := none }) rfl (fun K hK => ?_) AllReadyH.nil)
      · go_simp
        refine (mod_any _ _ _ (by omega) (by omega)).mono ?_
        rintro e w' ⟨rfl, rfl⟩
        refine hK.out _ _ hS (fun _ => ?_)
        clear hK K
        try simp only [Act.put, List.setIfInBounds_toArray, List.set_cons_zero, List.set_cons_succ]
        refine wpAnyH_take (i := 6) (oi := { dst := some 29, op := Op.build 23 #[(0, Operand.tmp 25), (1, Operand.tmp 28)], type := 23, pos := "law.go:133", after := #[{ on := 2, ground := Ground.data }, { on := 5, ground := Ground.data }], guard := none }) (v := .agg #[.int .i64 (gmod c 1048576), .int .i64 (gmod a 65)]) rfl (by kernel_rfl) (by kernel_rfl) (by kernel_rfl) (fun _ _ _ h => h) (Or.inl ⟨by rfl, fun w' hw => by go_simp⟩) hS ?_
        try simp only [Act.put, List.setIfInBounds_toArray, List.set_cons_zero, List.set_cons_succ]
        refine wpAnyH_ready (rs := [7]) (by kernel_rfl) (by simp) ?_
        refine AllReadyH.cons (o := { dst := some 9, op := Op.alloc 23, type := 0, pos := "law.go:133", after := #[], guard := none }) rfl (fun K hK => ?_) AllReadyH.nil
        go_simp
        have hS2 := hS.alloc (.cells #[.int .i64 0, .int .i64 0] 23)
        refine hK.out _ (w1.drew.alloc (.cells #[.int .i64 0, .int .i64 0] 23)) hS2 (fun _ => ?_)
        clear hK K hS
        have hS := hS2
        clear hS2
        try simp only [Act.put, List.setIfInBounds_toArray, List.set_cons_zero, List.set_cons_succ]
        refine wpAnyH_ready (rs := [8]) (by kernel_rfl) (by simp) ?_
        refine AllReadyH.cons (o := { dst := none, op := Op.store 23 (Operand.tmp 9) (Operand.tmp 29), type := 0, pos := "law.go:133", after := #[{ on := 7, ground := Ground.data }, { on := 6, ground := Ground.data }, { on := 5, ground := Ground.chain }, { on := 0, ground := Ground.phase }, { on := 1, ground := Ground.phase }, { on := 2, ground := Ground.phase }, { on := 3, ground := Ground.phase }, { on := 4, ground := Ground.phase }, { on := 5, ground := Ground.phase }, { on := 6, ground := Ground.phase }, { on := 7, ground := Ground.phase }], guard := none }) rfl (fun K hK => ?_) AllReadyH.nil
        refine step_of_list rfl ?_
        refine wpList_store_new rfl 23 _ _ rfl #[.int .i64 0, .int .i64 0] 23 [.int .i64 (gmod c 1048576), .int .i64 (gmod a 65)] (by rfl) (by rfl) rfl size23 (by simp [Value.oneCell']) ?_
        refine ⟨rfl, hK.out _ _ ((Touch.refl [] w1.drew).alloc (.cells #[.int .i64 (gmod c 1048576), .int .i64 (gmod a 65)] 23)) (fun hS2 => ?_)⟩
        clear hK K hS
        try simp only [Act.put, List.setIfInBounds_toArray, List.set_cons_zero, List.set_cons_succ]
        refine wpAnyH_done (by kernel_rfl) ?_ _
        exact REST.out
      · go_simp
        have hS2 := hS.alloc (.cells #[.int .i64 0, .int .i64 0] 23)
        refine hK.out _ (w1.drew.alloc (.cells #[.int .i64 0, .int .i64 0] 23)) hS2 (fun _ => ?_)
        clear hK K hS
        have hS := hS2
        clear hS2
        try simp only [Act.put, List.setIfInBounds_toArray, List.set_cons_zero, List.set_cons_succ]
        refine wpAnyH_ready (rs := [5]) (by kernel_rfl) (by simp) ?_
        refine AllReadyH.cons (o := { dst := some 28, op := Op.call { callee := Callee.value (Operand.func 13), args := #[Operand.tmp 27, Operand.const (Value.int IntKind.i64 65)], argTypes := #[3, 3] }, type := 3, pos := "law.go:133", after := #[{ on := 4, ground := Ground.data }, { on := 2, ground := Ground.chain }], guard := none }) rfl (fun K hK => ?_) AllReadyH.nil
        go_simp
        refine (mod_any _ _ _ (by omega) (by omega)).mono ?_
        rintro e w' ⟨rfl, rfl⟩
        refine hK.out _ (w1.drew.alloc (.cells #[.int .i64 0, .int .i64 0] 23)) hS (fun _ => ?_)
        clear hK K
        try simp only [Act.put, List.setIfInBounds_toArray, List.set_cons_zero, List.set_cons_succ]
        refine wpAnyH_take (i := 6) (oi := { dst := some 29, op := Op.build 23 #[(0, Operand.tmp 25), (1, Operand.tmp 28)], type := 23, pos := "law.go:133", after := #[{ on := 2, ground := Ground.data }, { on := 5, ground := Ground.data }], guard := none }) (v := .agg #[.int .i64 (gmod c 1048576), .int .i64 (gmod a 65)]) rfl (by kernel_rfl) (by kernel_rfl) (by kernel_rfl) (fun _ _ _ h => h) (Or.inl ⟨by rfl, fun w' hw => by go_simp⟩) hS ?_
        try simp only [Act.put, List.setIfInBounds_toArray, List.set_cons_zero, List.set_cons_succ]
        refine wpAnyH_ready (rs := [8]) (by kernel_rfl) (by simp) ?_
        refine AllReadyH.cons (o := { dst := none, op := Op.store 23 (Operand.tmp 9) (Operand.tmp 29), type := 0, pos := "law.go:133", after := #[{ on := 7, ground := Ground.data }, { on := 6, ground := Ground.data }, { on := 5, ground := Ground.chain }, { on := 0, ground := Ground.phase }, { on := 1, ground := Ground.phase }, { on := 2, ground := Ground.phase }, { on := 3, ground := Ground.phase }, { on := 4, ground := Ground.phase }, { on := 5, ground := Ground.phase }, { on := 6, ground := Ground.phase }, { on := 7, ground := Ground.phase }], guard := none }) rfl (fun K hK => ?_) AllReadyH.nil
        refine step_of_list rfl ?_
        refine wpList_store_new rfl 23 _ _ rfl #[.int .i64 0, .int .i64 0] 23 [.int .i64 (gmod c 1048576), .int .i64 (gmod a 65)] (by rfl) (by rfl) rfl size23 (by simp [Value.oneCell']) ?_
        refine ⟨rfl, hK.out _ _ ((Touch.refl [] w1.drew).alloc (.cells #[.int .i64 (gmod c 1048576), .int .i64 (gmod a 65)] 23)) (fun hS2 => ?_)⟩
        clear hK K hS
        try simp only [Act.put, List.setIfInBounds_toArray, List.set_cons_zero, List.set_cons_succ]
        refine wpAnyH_done (by kernel_rfl) ?_ _
        exact REST.out
    · go_simp
      have hS2 := hS.alloc (.cells #[.int .i64 0, .int .i64 0] 23)
      refine hK.out _ (w1.drew.alloc (.cells #[.int .i64 0, .int .i64 0] 23)) hS2 (fun _ => ?_)
      clear hK K hS
      have hS := hS2
      clear hS2
      try simp only [Act.put, List.setIfInBounds_toArray, List.set_cons_zero, List.set_cons_succ]
      refine wpAnyH_ready (rs := [2]) (by kernel_rfl) (by simp) ?_
      refine AllReadyH.cons (o := { dst := some 25, op := Op.call { callee := Callee.value (Operand.func 13), args := #[Operand.tmp 24, Operand.const (Value.int IntKind.i64 1048576)], argTypes := #[3, 3] }, type := 3, pos := "law.go:133", after := #[{ on := 1, ground := Ground.data }], guard := none }) rfl (fun K hK => ?_) AllReadyH.nil
      go_simp
      refine (mod_any _ _ _ (by omega) (by omega)).mono ?_
      rintro e w' ⟨rfl, rfl⟩
      refine hK.out _ (w1.drew.alloc (.cells #[.int .i64 0, .int .i64 0] 23)) hS (fun _ => ?_)
      clear hK K
      try simp only [Act.put, List.setIfInBounds_toArray, List.set_cons_zero, List.set_cons_succ]
      refine wpAnyH_ready (rs := [5]) (by kernel_rfl) (by simp) ?_
      refine AllReadyH.cons (o := { dst := some 28, op := Op.call { callee := Callee.value (Operand.func 13), args := #[Operand.tmp 27, Operand.const (Value.int IntKind.i64 65)], argTypes := #[3, 3] }, type := 3, pos := "law.go:133", after := #[{ on := 4, ground := Ground.data }, { on := 2, ground := Ground.chain }], guard := none }) rfl (fun K hK => ?_) AllReadyH.nil
      go_simp
      refine (mod_any _ _ _ (by omega) (by omega)).mono ?_
      rintro e w' ⟨rfl, rfl⟩
      refine hK.out _ (w1.drew.alloc (.cells #[.int .i64 0, .int .i64 0] 23)) hS (fun _ => ?_)
      clear hK K
      try simp only [Act.put, List.setIfInBounds_toArray, List.set_cons_zero, List.set_cons_succ]
      refine wpAnyH_take (i := 6) (oi := { dst := some 29, op := Op.build 23 #[(0, Operand.tmp 25), (1, Operand.tmp 28)], type := 23, pos := "law.go:133", after := #[{ on := 2, ground := Ground.data }, { on := 5, ground := Ground.data }], guard := none }) (v := .agg #[.int .i64 (gmod c 1048576), .int .i64 (gmod a 65)]) rfl (by kernel_rfl) (by kernel_rfl) (by kernel_rfl) (fun _ _ _ h => h) (Or.inl ⟨by rfl, fun w' hw => by go_simp⟩) hS ?_
      try simp only [Act.put, List.setIfInBounds_toArray, List.set_cons_zero, List.set_cons_succ]
      refine wpAnyH_ready (rs := [8]) (by kernel_rfl) (by simp) ?_
      refine AllReadyH.cons (o := { dst := none, op := Op.store 23 (Operand.tmp 9) (Operand.tmp 29), type := 0, pos := "law.go:133", after := #[{ on := 7, ground := Ground.data }, { on := 6, ground := Ground.data }, { on := 5, ground := Ground.chain }, { on := 0, ground := Ground.phase }, { on := 1, ground := Ground.phase }, { on := 2, ground := Ground.phase }, { on := 3, ground := Ground.phase }, { on := 4, ground := Ground.phase }, { on := 5, ground := Ground.phase }, { on := 6, ground := Ground.phase }, { on := 7, ground := Ground.phase }], guard := none }) rfl (fun K hK => ?_) AllReadyH.nil
      refine step_of_list rfl ?_
      refine wpList_store_new rfl 23 _ _ rfl #[.int .i64 0, .int .i64 0] 23 [.int .i64 (gmod c 1048576), .int .i64 (gmod a 65)] (by rfl) (by rfl) rfl size23 (by simp [Value.oneCell']) ?_
      refine ⟨rfl, hK.out _ _ ((Touch.refl [] w1.drew).alloc (.cells #[.int .i64 (gmod c 1048576), .int .i64 (gmod a 65)] 23)) (fun hS2 => ?_)⟩
      clear hK K hS
      try simp only [Act.put, List.setIfInBounds_toArray, List.set_cons_zero, List.set_cons_succ]
      refine wpAnyH_done (by kernel_rfl) ?_ _
      exact REST.out
  · rw [show w1.heap.size = w1.drew.heap.size from rfl]
    generalize w1.drew = W at *
    generalize gmod c 1048576 = c' at *
    generalize gmod a 65 = a' at *
    have hk' : okK (c', a') := okS _ _ (by omega) (by omega) (by omega) (by omega)
    have hv' := valid_small m1 m2 m3 m4
    have tN := (Touch.refl [] W).alloc (.cells #[.int .i64 c', .int .i64 a'] 23)
    have GN := heap_alloc_new W (.cells #[.int .i64 c', .int .i64 a'] 23)
    have TN := TD.touch tN (by simp)
    have UN := U1.trans tN (by simp)
    have zN : (W.alloc (.cells #[.int .i64 c', .int .i64 a'] 23)).heap.size = W.heap.size + 1 := by simp
    have z0 := U1.size
    clear tN GD TD U1
    generalize W.alloc (.cells #[.int .i64 c', .int .i64 a'] 23) = V at *
    have HV := Lib.hid hv'
    clear hv' m1 m2 m3 m4
    generalize W.heap.size = B at *
    have ⟨y0, y1⟩ := cells_two GN
    cases pending
    · go_wp2_with fail
      refine (open_ok t m u [] _ 0 c' a' false _ TN hk' HV.out rfl (by decide) (by omega)).mono ?_
      rintro e V0 ⟨he, g, hg, T0, t0⟩
      obtain rfl : e = .returned (.tuple #[.int .i64 0, .int .i64 0]) := he
      change Tab V0 t m u [⟨(c', a'), g, 0, 2⟩] [true] 1 at T0
      have G0 : V0.heap[B]? = _ := t0.at GN (by simp; omega)
      have U0 : Touch [] w V0 := UN.trans t0 (by simp; omega)
      have hg2 : w.heap.size ≤ g := by omega
      have hg3 : B < g := by omega
      clear GN TN UN t0 y0 y1 hg zN
      obtain ⟨y0, y1⟩ := cells_two G0
      go_wp2_with fail
      refine (conn_any t m u _ _ _ c' a' _ T0 hk').mono ?_
      rintro e V1 ⟨he, T1, t1⟩
      obtain rfl : e = .returned (.int .i64 7) := by rw [he]; simp [trErr, fdAt, nextConn]
      replace T1 : Tab V1 t m u [⟨(c', a'), g, 0, 2⟩] [true] 1 := by simpa [trLive, fdAt, nextConn, setSt] using T1
      have G1 : V1.heap[B]? = _ := t1.at G0 (by simp <;> omega)
      have U1 : Touch [] w V1 := U0.trans t1 (by simp <;> omega)
      clear G0 T0 U0 t1 y0 y1
      obtain ⟨y0, y1⟩ := cells_two G1
      cases first
      · go_wp2_with fail
        refine (shut_false t m u _ _ _ c' a' _ T1 hk').mono ?_
        rintro e V2 ⟨he, T2, t2⟩
        obtain rfl : e = .returned (.int .i64 0) := by rw [he]; simp [trErr, fdAt, nextRem]
        replace T2 : Tab V2 t m u [⟨(c', a'), g, 0, 3⟩] [true] 1 := by simpa [trLive, fdAt, nextRem, setSt] using T2
        have G2 : V2.heap[B]? = _ := t2.at G1 (by simp <;> omega)
        have U2 : Touch [] w V2 := U1.trans t2 (by simp <;> omega)
        clear G1 T1 U1 t2 y0 y1
        obtain ⟨y0, y1⟩ := cells_two G2
        go_wp2_with fail
        refine (state_any t m u _ _ _ c' a' _ T2 hk').mono ?_
        rintro e V3 ⟨he, t3⟩
        obtain rfl : e = .returned (.int .i64 3) := by rw [he]; simp [stOf, fdAt]
        have T3 := T2.touch t3 (by simp)
        have G3 : V3.heap[B]? = _ := t3.at G2 (by simp <;> omega)
        have U3 : Touch [] w V3 := U2.trans t3 (by simp <;> omega)
        clear G2 T2 U2 t3 y0 y1
        obtain ⟨y0, y1⟩ := cells_two G3
        go_wp2_with fail
        refine (shut_false t m u _ _ _ c' a' _ T3 hk').mono ?_
        rintro e V4 ⟨he, T4, t4⟩
        obtain rfl : e = .returned (.int .i64 7) := by rw [he]; simp [trErr, fdAt, nextRem]
        replace T4 : Tab V4 t m u [⟨(c', a'), g, 0, 3⟩] [true] 1 := by simpa [trLive, fdAt, nextRem, setSt] using T4
        have G4 : V4.heap[B]? = _ := t4.at G3 (by simp <;> omega)
        have U4 : Touch [] w V4 := U3.trans t4 (by simp <;> omega)
        clear G3 T3 U3 t4 y0 y1
        obtain ⟨y0, y1⟩ := cells_two G4
        go_wp2_with fail
        refine (shut_true t m u _ _ _ c' a' _ T4 hk').mono ?_
        rintro e V5 ⟨he, T5, t5⟩
        obtain rfl : e = .returned (.int .i64 0) := by rw [he]; simp [trErr, fdAt, nextLoc]
        replace T5 : Tab V5 t m u [⟨(c', a'), g, 0, 5⟩] [true] 1 := by simpa [trLive, fdAt, nextLoc, setSt] using T5
        have G5 : V5.heap[B]? = _ := t5.at G4 (by simp <;> omega)
        have U5 : Touch [] w V5 := U4.trans t5 (by simp <;> omega)
        clear G4 T4 U4 t5 y0 y1
        obtain ⟨y0, y1⟩ := cells_two G5
        go_wp2_with fail
        refine (state_any t m u _ _ _ c' a' _ T5 hk').mono ?_
        rintro e V6 ⟨he, t6⟩
        obtain rfl : e = .returned (.int .i64 5) := by rw [he]; simp [stOf, fdAt]
        have T6 := T5.touch t6 (by simp)
        have G6 : V6.heap[B]? = _ := t6.at G5 (by simp <;> omega)
        have U6 : Touch [] w V6 := U5.trans t6 (by simp <;> omega)
        clear G5 T5 U5 t6 y0 y1
        obtain ⟨y0, y1⟩ := cells_two G6
        go_wp2_with fail
        refine (shut_true t m u _ _ _ c' a' _ T6 hk').mono ?_
        rintro e V7 ⟨he, T7, t7⟩
        obtain rfl : e = .returned (.int .i64 7) := by rw [he]; simp [trErr, fdAt, nextLoc]
        replace T7 : Tab V7 t m u [⟨(c', a'), g, 0, 5⟩] [true] 1 := by simpa [trLive, fdAt, nextLoc, setSt] using T7
        have G7 : V7.heap[B]? = _ := t7.at G6 (by simp <;> omega)
        have U7 : Touch [] w V7 := U6.trans t7 (by simp <;> omega)
        clear G6 T6 U6 t7 y0 y1
        obtain ⟨y0, y1⟩ := cells_two G7
        go_wp2_with fail
        refine (awake_ok _).mono ?_
        rintro _ V8 ⟨rfl, t8⟩
        have T8 := T7.touch t8 (by simp)
        have G8 : V8.heap[B]? = _ := t8.at G7 (by simp <;> omega)
        have U8 : Touch [] w V8 := U7.trans t8 (by simp <;> omega)
        clear G7 T7 U7 t8 y0 y1
        obtain ⟨y0, y1⟩ := cells_two G8
        go_wp2_with fail
        refine (close_ok t m u _ _ _ c' a' _ T8 hk' ⟨(c', a'), g, 0, 5⟩ (by simp [fdAt])).mono ?_
        rintro e V9 ⟨rfl, T9, t9⟩
        replace T9 : Tab V9 t m u [] [false] 1 := by simpa [drop] using T9
        have G9 : V9.heap[B]? = _ := t9.at G8 (by simp <;> omega)
        have U9 : Touch [] w V9 := U8.trans t9 (by simp <;> omega)
        clear G8 T8 U8 t9 y0 y1
        obtain ⟨y0, y1⟩ := cells_two G9
        go_wp2_with fail
        refine (state_any t m u _ _ _ c' a' _ T9 hk').mono ?_
        rintro e V10 ⟨he, t10⟩
        obtain rfl : e = .returned (.int .i64 0) := by rw [he]; simp [stOf, fdAt]
        have T10 := T9.touch t10 (by simp)
        have G10 : V10.heap[B]? = _ := t10.at G9 (by simp <;> omega)
        have U10 : Touch [] w V10 := U9.trans t10 (by simp <;> omega)
        clear G9 T9 U9 t10 y0 y1
        obtain ⟨y0, y1⟩ := cells_two G10
        go_wp2_with fail
        refine (close_no t m u _ _ _ c' a' _ T10 hk' (by simp [fdAt])).mono ?_
        rintro e V11 ⟨rfl, t11⟩
        have T11 := T10.touch t11 (by simp)
        have G11 : V11.heap[B]? = _ := t11.at G10 (by simp <;> omega)
        have U11 : Touch [] w V11 := U10.trans t11 (by simp <;> omega)
        clear G10 T10 U10 t11 y0 y1
        obtain ⟨y0, y1⟩ := cells_two G11
        go_wp2_with fail
        refine (rem_any t m u _ _ _ c' a' _ T11 hk').mono ?_
        rintro e V12 ⟨he, T12, t12⟩
        obtain rfl : e = .returned (.int .i64 4) := by rw [he]; simp [trErr, fdAt, nextRem]
        replace T12 : Tab V12 t m u [] [false] 1 := by simpa [trLive, fdAt, nextRem, setSt] using T12
        have G12 : V12.heap[B]? = _ := t12.at G11 (by simp <;> omega)
        have U12 : Touch [] w V12 := U11.trans t12 (by simp <;> omega)
        clear G11 T11 U11 t12 y0 y1
        obtain ⟨y0, y1⟩ := cells_two G12
        go_wp2_with fail
        refine (free_any t m u _ _ _ _ T12).mono ?_
        rintro e V13 ⟨he, t13⟩
        obtain rfl : e = .returned (.int .i64 1) := he
        go_wp2_with fail
        go_ret
        exact ⟨rfl, U12.trans t13 (by simp)⟩
      · go_wp2_with fail
        refine (shut_true t m u _ _ _ c' a' _ T1 hk').mono ?_
        rintro e V2 ⟨he, T2, t2⟩
        obtain rfl : e = .returned (.int .i64 0) := by rw [he]; simp [trErr, fdAt, nextLoc]
        replace T2 : Tab V2 t m u [⟨(c', a'), g, 0, 4⟩] [true] 1 := by simpa [trLive, fdAt, nextLoc, setSt] using T2
        have G2 : V2.heap[B]? = _ := t2.at G1 (by simp <;> omega)
        have U2 : Touch [] w V2 := U1.trans t2 (by simp <;> omega)
        clear G1 T1 U1 t2 y0 y1
        obtain ⟨y0, y1⟩ := cells_two G2
        go_wp2_with fail
        refine (state_any t m u _ _ _ c' a' _ T2 hk').mono ?_
        rintro e V3 ⟨he, t3⟩
        obtain rfl : e = .returned (.int .i64 4) := by rw [he]; simp [stOf, fdAt]
        have T3 := T2.touch t3 (by simp)
        have G3 : V3.heap[B]? = _ := t3.at G2 (by simp <;> omega)
        have U3 : Touch [] w V3 := U2.trans t3 (by simp <;> omega)
        clear G2 T2 U2 t3 y0 y1
        obtain ⟨y0, y1⟩ := cells_two G3
        go_wp2_with fail
        refine (shut_true t m u _ _ _ c' a' _ T3 hk').mono ?_
        rintro e V4 ⟨he, T4, t4⟩
        obtain rfl : e = .returned (.int .i64 7) := by rw [he]; simp [trErr, fdAt, nextLoc]
        replace T4 : Tab V4 t m u [⟨(c', a'), g, 0, 4⟩] [true] 1 := by simpa [trLive, fdAt, nextLoc, setSt] using T4
        have G4 : V4.heap[B]? = _ := t4.at G3 (by simp <;> omega)
        have U4 : Touch [] w V4 := U3.trans t4 (by simp <;> omega)
        clear G3 T3 U3 t4 y0 y1
        obtain ⟨y0, y1⟩ := cells_two G4
        go_wp2_with fail
        refine (shut_false t m u _ _ _ c' a' _ T4 hk').mono ?_
        rintro e V5 ⟨he, T5, t5⟩
        obtain rfl : e = .returned (.int .i64 0) := by rw [he]; simp [trErr, fdAt, nextRem]
        replace T5 : Tab V5 t m u [⟨(c', a'), g, 0, 5⟩] [true] 1 := by simpa [trLive, fdAt, nextRem, setSt] using T5
        have G5 : V5.heap[B]? = _ := t5.at G4 (by simp <;> omega)
        have U5 : Touch [] w V5 := U4.trans t5 (by simp <;> omega)
        clear G4 T4 U4 t5 y0 y1
        obtain ⟨y0, y1⟩ := cells_two G5
        go_wp2_with fail
        refine (state_any t m u _ _ _ c' a' _ T5 hk').mono ?_
        rintro e V6 ⟨he, t6⟩
        obtain rfl : e = .returned (.int .i64 5) := by rw [he]; simp [stOf, fdAt]
        have T6 := T5.touch t6 (by simp)
        have G6 : V6.heap[B]? = _ := t6.at G5 (by simp <;> omega)
        have U6 : Touch [] w V6 := U5.trans t6 (by simp <;> omega)
        clear G5 T5 U5 t6 y0 y1
        obtain ⟨y0, y1⟩ := cells_two G6
        go_wp2_with fail
        refine (shut_false t m u _ _ _ c' a' _ T6 hk').mono ?_
        rintro e V7 ⟨he, T7, t7⟩
        obtain rfl : e = .returned (.int .i64 7) := by rw [he]; simp [trErr, fdAt, nextRem]
        replace T7 : Tab V7 t m u [⟨(c', a'), g, 0, 5⟩] [true] 1 := by simpa [trLive, fdAt, nextRem, setSt] using T7
        have G7 : V7.heap[B]? = _ := t7.at G6 (by simp <;> omega)
        have U7 : Touch [] w V7 := U6.trans t7 (by simp <;> omega)
        clear G6 T6 U6 t7 y0 y1
        obtain ⟨y0, y1⟩ := cells_two G7
        go_wp2_with fail
        refine (awake_ok _).mono ?_
        rintro _ V8 ⟨rfl, t8⟩
        have T8 := T7.touch t8 (by simp)
        have G8 : V8.heap[B]? = _ := t8.at G7 (by simp <;> omega)
        have U8 : Touch [] w V8 := U7.trans t8 (by simp <;> omega)
        clear G7 T7 U7 t8 y0 y1
        obtain ⟨y0, y1⟩ := cells_two G8
        go_wp2_with fail
        refine (close_ok t m u _ _ _ c' a' _ T8 hk' ⟨(c', a'), g, 0, 5⟩ (by simp [fdAt])).mono ?_
        rintro e V9 ⟨rfl, T9, t9⟩
        replace T9 : Tab V9 t m u [] [false] 1 := by simpa [drop] using T9
        have G9 : V9.heap[B]? = _ := t9.at G8 (by simp <;> omega)
        have U9 : Touch [] w V9 := U8.trans t9 (by simp <;> omega)
        clear G8 T8 U8 t9 y0 y1
        obtain ⟨y0, y1⟩ := cells_two G9
        go_wp2_with fail
        refine (state_any t m u _ _ _ c' a' _ T9 hk').mono ?_
        rintro e V10 ⟨he, t10⟩
        obtain rfl : e = .returned (.int .i64 0) := by rw [he]; simp [stOf, fdAt]
        have T10 := T9.touch t10 (by simp)
        have G10 : V10.heap[B]? = _ := t10.at G9 (by simp <;> omega)
        have U10 : Touch [] w V10 := U9.trans t10 (by simp <;> omega)
        clear G9 T9 U9 t10 y0 y1
        obtain ⟨y0, y1⟩ := cells_two G10
        go_wp2_with fail
        refine (close_no t m u _ _ _ c' a' _ T10 hk' (by simp [fdAt])).mono ?_
        rintro e V11 ⟨rfl, t11⟩
        have T11 := T10.touch t11 (by simp)
        have G11 : V11.heap[B]? = _ := t11.at G10 (by simp <;> omega)
        have U11 : Touch [] w V11 := U10.trans t11 (by simp <;> omega)
        clear G10 T10 U10 t11 y0 y1
        obtain ⟨y0, y1⟩ := cells_two G11
        go_wp2_with fail
        refine (rem_any t m u _ _ _ c' a' _ T11 hk').mono ?_
        rintro e V12 ⟨he, T12, t12⟩
        obtain rfl : e = .returned (.int .i64 4) := by rw [he]; simp [trErr, fdAt, nextRem]
        replace T12 : Tab V12 t m u [] [false] 1 := by simpa [trLive, fdAt, nextRem, setSt] using T12
        have G12 : V12.heap[B]? = _ := t12.at G11 (by simp <;> omega)
        have U12 : Touch [] w V12 := U11.trans t12 (by simp <;> omega)
        clear G11 T11 U11 t12 y0 y1
        obtain ⟨y0, y1⟩ := cells_two G12
        go_wp2_with fail
        refine (free_any t m u _ _ _ _ T12).mono ?_
        rintro e V13 ⟨he, t13⟩
        obtain rfl : e = .returned (.int .i64 1) := he
        go_wp2_with fail
        go_ret
        exact ⟨rfl, U12.trans t13 (by simp)⟩
    · go_wp2_with fail
      refine (open_ok t m u [] _ 0 c' a' true _ TN hk' HV.out rfl (by decide) (by omega)).mono ?_
      rintro e V0 ⟨he, g, hg, T0, t0⟩
      obtain rfl : e = .returned (.tuple #[.int .i64 0, .int .i64 0]) := he
      change Tab V0 t m u [⟨(c', a'), g, 0, 1⟩] [true] 1 at T0
      have G0 : V0.heap[B]? = _ := t0.at GN (by simp; omega)
      have U0 : Touch [] w V0 := UN.trans t0 (by simp; omega)
      have hg2 : w.heap.size ≤ g := by omega
      have hg3 : B < g := by omega
      clear GN TN UN t0 y0 y1 hg zN
      obtain ⟨y0, y1⟩ := cells_two G0
      go_wp2_with fail
      refine (rem_any t m u _ _ _ c' a' _ T0 hk').mono ?_
      rintro e V1 ⟨he, T1, t1⟩
      obtain rfl : e = .returned (.int .i64 7) := by rw [he]; simp [trErr, fdAt, nextRem]
      replace T1 : Tab V1 t m u [⟨(c', a'), g, 0, 1⟩] [true] 1 := by simpa [trLive, fdAt, nextRem, setSt] using T1
      have G1 : V1.heap[B]? = _ := t1.at G0 (by simp <;> omega)
      have U1 : Touch [] w V1 := U0.trans t1 (by simp <;> omega)
      clear G0 T0 U0 t1 y0 y1
      obtain ⟨y0, y1⟩ := cells_two G1
      go_wp2_with fail
      refine (loc_any t m u _ _ _ c' a' _ T1 hk').mono ?_
      rintro e V2 ⟨he, T2, t2⟩
      obtain rfl : e = .returned (.int .i64 7) := by rw [he]; simp [trErr, fdAt, nextLoc]
      replace T2 : Tab V2 t m u [⟨(c', a'), g, 0, 1⟩] [true] 1 := by simpa [trLive, fdAt, nextLoc, setSt] using T2
      have G2 : V2.heap[B]? = _ := t2.at G1 (by simp <;> omega)
      have U2 : Touch [] w V2 := U1.trans t2 (by simp <;> omega)
      clear G1 T1 U1 t2 y0 y1
      obtain ⟨y0, y1⟩ := cells_two G2
      go_wp2_with fail
      refine (conn_any t m u _ _ _ c' a' _ T2 hk').mono ?_
      rintro e V3 ⟨he, T3, t3⟩
      obtain rfl : e = .returned (.int .i64 0) := by rw [he]; simp [trErr, fdAt, nextConn]
      replace T3 : Tab V3 t m u [⟨(c', a'), g, 0, 2⟩] [true] 1 := by simpa [trLive, fdAt, nextConn, setSt] using T3
      have G3 : V3.heap[B]? = _ := t3.at G2 (by simp <;> omega)
      have U3 : Touch [] w V3 := U2.trans t3 (by simp <;> omega)
      clear G2 T2 U2 t3 y0 y1
      obtain ⟨y0, y1⟩ := cells_two G3
      go_wp2_with fail
      refine (conn_any t m u _ _ _ c' a' _ T3 hk').mono ?_
      rintro e V4 ⟨he, T4, t4⟩
      obtain rfl : e = .returned (.int .i64 7) := by rw [he]; simp [trErr, fdAt, nextConn]
      replace T4 : Tab V4 t m u [⟨(c', a'), g, 0, 2⟩] [true] 1 := by simpa [trLive, fdAt, nextConn, setSt] using T4
      have G4 : V4.heap[B]? = _ := t4.at G3 (by simp <;> omega)
      have U4 : Touch [] w V4 := U3.trans t4 (by simp <;> omega)
      clear G3 T3 U3 t4 y0 y1
      obtain ⟨y0, y1⟩ := cells_two G4
      cases first
      · go_wp2_with fail
        refine (shut_false t m u _ _ _ c' a' _ T4 hk').mono ?_
        rintro e V5 ⟨he, T5, t5⟩
        obtain rfl : e = .returned (.int .i64 0) := by rw [he]; simp [trErr, fdAt, nextRem]
        replace T5 : Tab V5 t m u [⟨(c', a'), g, 0, 3⟩] [true] 1 := by simpa [trLive, fdAt, nextRem, setSt] using T5
        have G5 : V5.heap[B]? = _ := t5.at G4 (by simp <;> omega)
        have U5 : Touch [] w V5 := U4.trans t5 (by simp <;> omega)
        clear G4 T4 U4 t5 y0 y1
        obtain ⟨y0, y1⟩ := cells_two G5
        go_wp2_with fail
        refine (state_any t m u _ _ _ c' a' _ T5 hk').mono ?_
        rintro e V6 ⟨he, t6⟩
        obtain rfl : e = .returned (.int .i64 3) := by rw [he]; simp [stOf, fdAt]
        have T6 := T5.touch t6 (by simp)
        have G6 : V6.heap[B]? = _ := t6.at G5 (by simp <;> omega)
        have U6 : Touch [] w V6 := U5.trans t6 (by simp <;> omega)
        clear G5 T5 U5 t6 y0 y1
        obtain ⟨y0, y1⟩ := cells_two G6
        go_wp2_with fail
        refine (shut_false t m u _ _ _ c' a' _ T6 hk').mono ?_
        rintro e V7 ⟨he, T7, t7⟩
        obtain rfl : e = .returned (.int .i64 7) := by rw [he]; simp [trErr, fdAt, nextRem]
        replace T7 : Tab V7 t m u [⟨(c', a'), g, 0, 3⟩] [true] 1 := by simpa [trLive, fdAt, nextRem, setSt] using T7
        have G7 : V7.heap[B]? = _ := t7.at G6 (by simp <;> omega)
        have U7 : Touch [] w V7 := U6.trans t7 (by simp <;> omega)
        clear G6 T6 U6 t7 y0 y1
        obtain ⟨y0, y1⟩ := cells_two G7
        go_wp2_with fail
        refine (shut_true t m u _ _ _ c' a' _ T7 hk').mono ?_
        rintro e V8 ⟨he, T8, t8⟩
        obtain rfl : e = .returned (.int .i64 0) := by rw [he]; simp [trErr, fdAt, nextLoc]
        replace T8 : Tab V8 t m u [⟨(c', a'), g, 0, 5⟩] [true] 1 := by simpa [trLive, fdAt, nextLoc, setSt] using T8
        have G8 : V8.heap[B]? = _ := t8.at G7 (by simp <;> omega)
        have U8 : Touch [] w V8 := U7.trans t8 (by simp <;> omega)
        clear G7 T7 U7 t8 y0 y1
        obtain ⟨y0, y1⟩ := cells_two G8
        go_wp2_with fail
        refine (state_any t m u _ _ _ c' a' _ T8 hk').mono ?_
        rintro e V9 ⟨he, t9⟩
        obtain rfl : e = .returned (.int .i64 5) := by rw [he]; simp [stOf, fdAt]
        have T9 := T8.touch t9 (by simp)
        have G9 : V9.heap[B]? = _ := t9.at G8 (by simp <;> omega)
        have U9 : Touch [] w V9 := U8.trans t9 (by simp <;> omega)
        clear G8 T8 U8 t9 y0 y1
        obtain ⟨y0, y1⟩ := cells_two G9
        go_wp2_with fail
        refine (shut_true t m u _ _ _ c' a' _ T9 hk').mono ?_
        rintro e V10 ⟨he, T10, t10⟩
        obtain rfl : e = .returned (.int .i64 7) := by rw [he]; simp [trErr, fdAt, nextLoc]
        replace T10 : Tab V10 t m u [⟨(c', a'), g, 0, 5⟩] [true] 1 := by simpa [trLive, fdAt, nextLoc, setSt] using T10
        have G10 : V10.heap[B]? = _ := t10.at G9 (by simp <;> omega)
        have U10 : Touch [] w V10 := U9.trans t10 (by simp <;> omega)
        clear G9 T9 U9 t10 y0 y1
        obtain ⟨y0, y1⟩ := cells_two G10
        go_wp2_with fail
        refine (awake_ok _).mono ?_
        rintro _ V11 ⟨rfl, t11⟩
        have T11 := T10.touch t11 (by simp)
        have G11 : V11.heap[B]? = _ := t11.at G10 (by simp <;> omega)
        have U11 : Touch [] w V11 := U10.trans t11 (by simp <;> omega)
        clear G10 T10 U10 t11 y0 y1
        obtain ⟨y0, y1⟩ := cells_two G11
        go_wp2_with fail
        refine (close_ok t m u _ _ _ c' a' _ T11 hk' ⟨(c', a'), g, 0, 5⟩ (by simp [fdAt])).mono ?_
        rintro e V12 ⟨rfl, T12, t12⟩
        replace T12 : Tab V12 t m u [] [false] 1 := by simpa [drop] using T12
        have G12 : V12.heap[B]? = _ := t12.at G11 (by simp <;> omega)
        have U12 : Touch [] w V12 := U11.trans t12 (by simp <;> omega)
        clear G11 T11 U11 t12 y0 y1
        obtain ⟨y0, y1⟩ := cells_two G12
        go_wp2_with fail
        refine (state_any t m u _ _ _ c' a' _ T12 hk').mono ?_
        rintro e V13 ⟨he, t13⟩
        obtain rfl : e = .returned (.int .i64 0) := by rw [he]; simp [stOf, fdAt]
        have T13 := T12.touch t13 (by simp)
        have G13 : V13.heap[B]? = _ := t13.at G12 (by simp <;> omega)
        have U13 : Touch [] w V13 := U12.trans t13 (by simp <;> omega)
        clear G12 T12 U12 t13 y0 y1
        obtain ⟨y0, y1⟩ := cells_two G13
        go_wp2_with fail
        refine (close_no t m u _ _ _ c' a' _ T13 hk' (by simp [fdAt])).mono ?_
        rintro e V14 ⟨rfl, t14⟩
        have T14 := T13.touch t14 (by simp)
        have G14 : V14.heap[B]? = _ := t14.at G13 (by simp <;> omega)
        have U14 : Touch [] w V14 := U13.trans t14 (by simp <;> omega)
        clear G13 T13 U13 t14 y0 y1
        obtain ⟨y0, y1⟩ := cells_two G14
        go_wp2_with fail
        refine (rem_any t m u _ _ _ c' a' _ T14 hk').mono ?_
        rintro e V15 ⟨he, T15, t15⟩
        obtain rfl : e = .returned (.int .i64 4) := by rw [he]; simp [trErr, fdAt, nextRem]
        replace T15 : Tab V15 t m u [] [false] 1 := by simpa [trLive, fdAt, nextRem, setSt] using T15
        have G15 : V15.heap[B]? = _ := t15.at G14 (by simp <;> omega)
        have U15 : Touch [] w V15 := U14.trans t15 (by simp <;> omega)
        clear G14 T14 U14 t15 y0 y1
        obtain ⟨y0, y1⟩ := cells_two G15
        go_wp2_with fail
        refine (free_any t m u _ _ _ _ T15).mono ?_
        rintro e V16 ⟨he, t16⟩
        obtain rfl : e = .returned (.int .i64 1) := he
        go_wp2_with fail
        go_ret
        exact ⟨rfl, U15.trans t16 (by simp)⟩
      · go_wp2_with fail
        refine (shut_true t m u _ _ _ c' a' _ T4 hk').mono ?_
        rintro e V5 ⟨he, T5, t5⟩
        obtain rfl : e = .returned (.int .i64 0) := by rw [he]; simp [trErr, fdAt, nextLoc]
        replace T5 : Tab V5 t m u [⟨(c', a'), g, 0, 4⟩] [true] 1 := by simpa [trLive, fdAt, nextLoc, setSt] using T5
        have G5 : V5.heap[B]? = _ := t5.at G4 (by simp <;> omega)
        have U5 : Touch [] w V5 := U4.trans t5 (by simp <;> omega)
        clear G4 T4 U4 t5 y0 y1
        obtain ⟨y0, y1⟩ := cells_two G5
        go_wp2_with fail
        refine (state_any t m u _ _ _ c' a' _ T5 hk').mono ?_
        rintro e V6 ⟨he, t6⟩
        obtain rfl : e = .returned (.int .i64 4) := by rw [he]; simp [stOf, fdAt]
        have T6 := T5.touch t6 (by simp)
        have G6 : V6.heap[B]? = _ := t6.at G5 (by simp <;> omega)
        have U6 : Touch [] w V6 := U5.trans t6 (by simp <;> omega)
        clear G5 T5 U5 t6 y0 y1
        obtain ⟨y0, y1⟩ := cells_two G6
        go_wp2_with fail
        refine (shut_true t m u _ _ _ c' a' _ T6 hk').mono ?_
        rintro e V7 ⟨he, T7, t7⟩
        obtain rfl : e = .returned (.int .i64 7) := by rw [he]; simp [trErr, fdAt, nextLoc]
        replace T7 : Tab V7 t m u [⟨(c', a'), g, 0, 4⟩] [true] 1 := by simpa [trLive, fdAt, nextLoc, setSt] using T7
        have G7 : V7.heap[B]? = _ := t7.at G6 (by simp <;> omega)
        have U7 : Touch [] w V7 := U6.trans t7 (by simp <;> omega)
        clear G6 T6 U6 t7 y0 y1
        obtain ⟨y0, y1⟩ := cells_two G7
        go_wp2_with fail
        refine (shut_false t m u _ _ _ c' a' _ T7 hk').mono ?_
        rintro e V8 ⟨he, T8, t8⟩
        obtain rfl : e = .returned (.int .i64 0) := by rw [he]; simp [trErr, fdAt, nextRem]
        replace T8 : Tab V8 t m u [⟨(c', a'), g, 0, 5⟩] [true] 1 := by simpa [trLive, fdAt, nextRem, setSt] using T8
        have G8 : V8.heap[B]? = _ := t8.at G7 (by simp <;> omega)
        have U8 : Touch [] w V8 := U7.trans t8 (by simp <;> omega)
        clear G7 T7 U7 t8 y0 y1
        obtain ⟨y0, y1⟩ := cells_two G8
        go_wp2_with fail
        refine (state_any t m u _ _ _ c' a' _ T8 hk').mono ?_
        rintro e V9 ⟨he, t9⟩
        obtain rfl : e = .returned (.int .i64 5) := by rw [he]; simp [stOf, fdAt]
        have T9 := T8.touch t9 (by simp)
        have G9 : V9.heap[B]? = _ := t9.at G8 (by simp <;> omega)
        have U9 : Touch [] w V9 := U8.trans t9 (by simp <;> omega)
        clear G8 T8 U8 t9 y0 y1
        obtain ⟨y0, y1⟩ := cells_two G9
        go_wp2_with fail
        refine (shut_false t m u _ _ _ c' a' _ T9 hk').mono ?_
        rintro e V10 ⟨he, T10, t10⟩
        obtain rfl : e = .returned (.int .i64 7) := by rw [he]; simp [trErr, fdAt, nextRem]
        replace T10 : Tab V10 t m u [⟨(c', a'), g, 0, 5⟩] [true] 1 := by simpa [trLive, fdAt, nextRem, setSt] using T10
        have G10 : V10.heap[B]? = _ := t10.at G9 (by simp <;> omega)
        have U10 : Touch [] w V10 := U9.trans t10 (by simp <;> omega)
        clear G9 T9 U9 t10 y0 y1
        obtain ⟨y0, y1⟩ := cells_two G10
        go_wp2_with fail
        refine (awake_ok _).mono ?_
        rintro _ V11 ⟨rfl, t11⟩
        have T11 := T10.touch t11 (by simp)
        have G11 : V11.heap[B]? = _ := t11.at G10 (by simp <;> omega)
        have U11 : Touch [] w V11 := U10.trans t11 (by simp <;> omega)
        clear G10 T10 U10 t11 y0 y1
        obtain ⟨y0, y1⟩ := cells_two G11
        go_wp2_with fail
        refine (close_ok t m u _ _ _ c' a' _ T11 hk' ⟨(c', a'), g, 0, 5⟩ (by simp [fdAt])).mono ?_
        rintro e V12 ⟨rfl, T12, t12⟩
        replace T12 : Tab V12 t m u [] [false] 1 := by simpa [drop] using T12
        have G12 : V12.heap[B]? = _ := t12.at G11 (by simp <;> omega)
        have U12 : Touch [] w V12 := U11.trans t12 (by simp <;> omega)
        clear G11 T11 U11 t12 y0 y1
        obtain ⟨y0, y1⟩ := cells_two G12
        go_wp2_with fail
        refine (state_any t m u _ _ _ c' a' _ T12 hk').mono ?_
        rintro e V13 ⟨he, t13⟩
        obtain rfl : e = .returned (.int .i64 0) := by rw [he]; simp [stOf, fdAt]
        have T13 := T12.touch t13 (by simp)
        have G13 : V13.heap[B]? = _ := t13.at G12 (by simp <;> omega)
        have U13 : Touch [] w V13 := U12.trans t13 (by simp <;> omega)
        clear G12 T12 U12 t13 y0 y1
        obtain ⟨y0, y1⟩ := cells_two G13
        go_wp2_with fail
        refine (close_no t m u _ _ _ c' a' _ T13 hk' (by simp [fdAt])).mono ?_
        rintro e V14 ⟨rfl, t14⟩
        have T14 := T13.touch t14 (by simp)
        have G14 : V14.heap[B]? = _ := t14.at G13 (by simp <;> omega)
        have U14 : Touch [] w V14 := U13.trans t14 (by simp <;> omega)
        clear G13 T13 U13 t14 y0 y1
        obtain ⟨y0, y1⟩ := cells_two G14
        go_wp2_with fail
        refine (rem_any t m u _ _ _ c' a' _ T14 hk').mono ?_
        rintro e V15 ⟨he, T15, t15⟩
        obtain rfl : e = .returned (.int .i64 4) := by rw [he]; simp [trErr, fdAt, nextRem]
        replace T15 : Tab V15 t m u [] [false] 1 := by simpa [trLive, fdAt, nextRem, setSt] using T15
        have G15 : V15.heap[B]? = _ := t15.at G14 (by simp <;> omega)
        have U15 : Touch [] w V15 := U14.trans t15 (by simp <;> omega)
        clear G14 T14 U14 t15 y0 y1
        obtain ⟨y0, y1⟩ := cells_two G15
        go_wp2_with fail
        refine (free_any t m u _ _ _ _ T15).mono ?_
        rintro e V16 ⟨he, t16⟩
        obtain rfl : e = .returned (.int .i64 1) := he
        go_wp2_with fail
        go_ret
        exact ⟨rfl, U15.trans t16 (by simp)⟩

namespace fdtableShutdownTransitions
theorem walk {H : Type} {enc : TypeId × Value → H} {w : World} (pending first : Bool) (cs : Array Value) (h : CellsOk enc Try.prog w 0 (fun _ => true) true [3, 3] cs.toList) :
    Calls Try.prog 4 #[.bool pending, .bool first, .agg cs] w fun e w' => e = .returned (.bool true) ∧ Below w.heap.size w w' := by
  obtain ⟨c, a, rfl, hk⟩ := cells_key h
  exact (walk4 pending first c a w hk).mono fun e w' ⟨h1, h2⟩ => ⟨h1, h2.below (by simp) (Nat.le_refl _)⟩
end fdtableShutdownTransitions
end Go.Proofs.Ytnglkdpmkgehoaa

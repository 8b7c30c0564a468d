/-
  Merged texts: TzG, LayP, So, DsG, TbG, TvG, TmR, RfG.
-/
import Derived.Test.YtobkanlnnniabaaGreatX5
import Derived.Shelf.Lays
import Derived.Test.YtobkanlnnniabaaGreatProg
import Derived.Shelf.Sort.Plain
import Derived.Shelf.Slices.In.SortNone

/-
  The contract of Reset.
-/
namespace Go.Proofs.YtobkanlnnniabaaGreat.G
open Go.RowKit
set_option linter.unusedVariables false
set_option linter.unusedSimpArgs false

section
variable {w : World} {t h : Nat} {fh : List Nat} {N : List Nd} {last : Int} {K : Int → List Int}
theorem TK.get_no (k : TK w t h fh N last K) (i : Int) (hi : okK i) (hn : i ∉ tids (sh N)) :
    Calls Tryz.prog 19 #[.pointer (some ⟨h, 0, none⟩), .int .i64 i] w fun e w' => e = .returned (.tuple #[.int .u64 0, .pointer none, .bool false]) ∧ w' = w :=
  (k.bag.get_no i hi (by
    intro y hy e
    obtain ⟨n, hn', rfl⟩ := List.mem_map.1 hy
    exact hn (by rw [← e]; exact sh_tids hn'))).mono fun _ _ ⟨h1, h2⟩ => ⟨h1, h2.symm⟩
theorem TK.get (k : TK w t h fh N last K) (n : Nd) (hn : n ∈ N) :
    Calls Tryz.prog 19 #[.pointer (some ⟨h, 0, none⟩), .int .i64 n.t.id] w fun e w' => e = .returned (.tuple #[.int .u64 n.t.due, .pointer (some ⟨n.b, 0, none⟩), .bool true]) ∧ ∃ q, w' = w.drewN q :=
  k.bag.get n.itm (TM.itm_mem hn)
theorem TK.draws (k : TK w t h fh N last K) (n : Nat) : TK (w.drewN n) t h fh N last K := k.touch ((Touch.refl [] w).drews n) (by simp)
set_option maxRecDepth 100000 in
set_option maxHeartbeats 1000000 in
theorem limit_tk (k : TK w t h fh N last K) (hu : (tids (sh N)).Nodup) (b : Nat) (p : Int) (hp : okK p) (hb : w.cell? ⟨b, 0, none⟩ = some (.int .i64 p)) :
    Calls Tryz.prog 22 #[.pointer (some ⟨t, 0, none⟩), .pointer (some ⟨b, 0, none⟩)] w fun e w' => e = .returned (.int .u64 (lim (sh N) p)) ∧ ∃ q, w' = w.drewN q := by
  have c0 := k.cell
  by_cases hm : p ∈ tids (sh N)
  · obtain ⟨n, hn, rfl⟩ := sh_at hm
    have HL := Lib.hid (lim_mem hu (sh_mem hn))
    have HK := Lib.hid k
    have HN := Lib.hid hn
    clear k hn hm hp hu
    go_enter Tryz.func22, Tryz.ntmps22
    go_wp2_with fail
    go_quiet ((go_at_call 19; exact Calls.quiet_of ((HK.out.draws _).get n HN.out)))
    go_wp2_with fail
    go_ret
    exact ⟨by rw [HL.out]; rfl, _, rfl⟩
  · have HL := Lib.hid (YtobkanlnnniabaaGreat.lim_no hm)
    have HK := Lib.hid k
    have HM := Lib.hid hm
    have HP := Lib.hid hp
    clear k hm hp hu
    go_enter Tryz.func22, Tryz.ntmps22
    go_wp2_with fail
    go_quiet ((go_at_call 19; exact Calls.quiet_of_same ((HK.out.draws _).get_no p HP.out HM.out)))
    go_wp2_with fail
    refine (min_nil _).mono ?_
    rintro e w' ⟨rfl, rfl⟩
    go_wp2_with fail
    go_ret
    exact ⟨by rw [HL.out]; rfl, _, rfl⟩
end
section
variable {w : World} {t h : Nat} {fh0 : List Nat} {N : List Nd} {last : Int}
set_option maxRecDepth 100000 in
set_option maxHeartbeats 1000000 in
theorem reset_no (k : TM w t h fh0 N last) (i r : Int) (hi : okK i) (hn : i ∉ tids (sh N)) :
    Calls Tryz.prog 12 #[.pointer (some ⟨t, 0, none⟩), .int .i64 i, .int .u64 r] w fun e w' => e = .returned (.bool false) ∧ w' = w := by
  have HS := Lib.hid (subtree_no k i hi hn)
  clear k hn
  go_enter Tryz.func12, Tryz.ntmps12
  go_wp2_with fail
  refine HS.out.mono ?_
  rintro e w' ⟨rfl, rfl⟩
  go_wp2_with fail
  refine wp_loop_rounds 1 ?_
  rw [rounds_succ]
  go_wp2_with fail
  go_ret
  exact ⟨rfl, rfl⟩
theorem Rs.touch {w0 wr w' : World} {fh : List Nat} {id r : Int} {l : List Int} {j : Nat} {M : List Nd} (k : Rs w0 t h fh0 N last id r l j wr fh M) (ht : Touch [] wr w') : Rs w0 t h fh0 N last id r l j w' fh M :=
  ⟨k.mem.touch ht (by simp), k.tree, k.sub, k.core, k.body, k.due, k.foot, k.tt.trans ht (by simp)⟩
def RsAny (w0 : World) (t h : Nat) (fh0 : List Nat) (N : List Nd) (last id r : Int) (l : List Int) (g j : Nat) (wr : World) : Prop :=
  (j = 0 ∧ Touch [] w0 wr) ∨ (0 < j ∧ ∃ fh M, g ∉ fh ∧ Rs w0 t h fh0 N last id r l j wr fh M)
theorem TK.oki {fh : List Nat} {K : Int → List Int} (k : TK w t h fh N last K) {i : Int} (hi : i ∈ tids (sh N)) : okK i := by
  obtain ⟨n, hn, rfl⟩ := sh_at hi
  exact (k.bag.oks _ (TM.itm_mem hn)).1
theorem TK.okp {fh : List Nat} {K : Int → List Int} (k : TK w t h fh N last K) (ht : Tree (sh N) last) {n : Nd} (hn : n ∈ N) : okK n.t.par := by
  rcases ht.par n.t (sh_mem hn) with e | e
  · rw [e]
    exact okK_of (by omega) (by omega)
  · exact k.oki e
set_option maxRecDepth 100000 in
set_option maxHeartbeats 4000000 in
theorem reset_any (k : TM w t h fh0 N last) (p : Nd) (hp : p ∈ N) (r : Int) (hr : 0 ≤ r ∧ r ≤ maxT) :
    Calls Tryz.prog 12 #[.pointer (some ⟨t, 0, none⟩), .int .i64 p.t.id, .int .u64 r] w fun e w' => e = .returned (.bool true) ∧ Rst w t h (TFoot t fh0 N) (ab N) last p.t.id r w' := by
  have HS := Lib.hid (subtree_any k p hp)
  have HK := Lib.hid k
  have HPM := Lib.hid hp
  have HR := Lib.hid hr
  have hfew := k.mem.few
  clear k hp hr
  go_enter Tryz.func12, Tryz.ntmps12
  go_wp2_with fail
  refine HS.out.mono ?_
  rintro e w1 ⟨v, l, rfl, hsub, ho, t1⟩
  have HSUB := Lib.hid hsub
  have HO := Lib.hid ho
  have hl0 : 0 < l.length := (List.getElem?_eq_some_iff.1 hsub.head).1
  have hl1 := hsub.few
  have hl2 : (sh N).length = N.length := by simp [sh]
  rw [hl2] at hl1
  obtain ⟨av, cv, rfl, hv1, hv2, hv3⟩ := owns_form HO.out.row
  obtain ⟨g, rfl⟩ := hv3 hl0
  have HR0 := Lib.hid (show RsAny w t h fh0 N last p.t.id r l g 0 w1 from .inl ⟨rfl, t1⟩)
  clear hsub ho t1 hl2 HS
  have hcv : cv ≤ 9223372036854775807 := by unfold maxLen at hv2; omega
  have hgn : ∀ y ∈ TFoot t fh0 N, y ≠ g := by
    intro y hy e
    have h1 := HO.out.new g rfl
    have h2 := HK.out.mem.lt y hy
    omega
  have HGN := Lib.hid hgn
  have HOR := Lib.hid HO.out.row
  clear hv2 hv3 hgn
  go_wp2_with fail
  go_loopw [18] (fun vj wr => ∃ (j : Nat), vj = .int .i64 j ∧ j ≤ l.length ∧ RsAny w t h fh0 N last p.t.id r l g j wr ∧ wr.ownsRow 0 3 1 (.slice (some ⟨g, 0, none⟩) l.length cv) l.length (l.map (Value.int .i64))) (fun vj _ => l.length - (intOf vj).toNat)
  case atStart => exact ⟨0, rfl, by omega, HR0.out, HOR.out⟩
  case round =>
    obtain ⟨j, rfl, hjl, hrs, horow⟩ := hrel
    have HRS := Lib.hid hrs
    have HOW := Lib.hid horow
    clear hrs horow
    by_cases hlt : j < l.length
    · have hx := List.getElem?_eq_getElem hlt
      generalize l[j] = i at hx
      have HX := Lib.hid hx
      have p0 := owns_cell HOW.out j (.int .i64 i) (by simp [hx])
      have q3 : (j : Int) < (l.length : Int) := by omega
      have hwi : IntKind.i64.wrap ((j : Int) + 1) = (j : Int) + 1 := by rw [IntKind.wrap_i64] <;> omega
      clear hx
      rcases HRS.out with ⟨rfl, t0⟩ | ⟨hj0, fh, M, hgf, hrs⟩
      · have hie : i = p.t.id := by
          have := HX.out
          rw [HSUB.out.head] at this
          cases this
          rfl
        subst hie
        have HT0 := Lib.hid t0
        have HKr := Lib.hid (HK.out.touch t0 (by simp))
        have c0 := HKr.out.mem.cell
        have d0 : (p.t.id == p.t.id) = true := by simp
        clear t0
        go_wp2_with fail
        refine (HKr.out.get p HPM.out).mono ?_
        rintro e w2 ⟨rfl, q, rfl⟩
        have HT1 := Lib.hid (HT0.out.trans ((Touch.refl [] wr).drews q) (by simp))
        have HK2 := Lib.hid (HKr.out.draws q)
        have HOW2 := Lib.hid ((((Touch.refl [] wr).drews q)).owns HOW.out (by simp))
        clear c0 p0
        generalize wr.drewN q = w2 at *
        have hpd := HK2.out.mem.nd p HPM.out
        obtain ⟨m0, m1, m2, m3⟩ := hpd.cells
        have g1 : w2.frozen? ⟨p.b, 1, none⟩ = false := by simp [World.frozen?, hpd.hdr]
        clear m0 m2 m3 hpd
        have HRS1 := Lib.hid (Rs.start HK.out HPM.out HSUB.out HT1.out HR.out)
        have HOW3 := Lib.hid (((Touch.refl [p.b] w2).setCell (p := ⟨p.b, 1, none⟩) (by simp) (.int .u64 r)).owns HOW2.out (by
          intro g' hg' e
          simp [Value.ownBlock] at hg' e
          exact HGN.out p.b (TFoot.mem.2 (.inr (.inr ⟨p, HPM.out, by simp [Nd.foot]⟩))) (by omega)))
        have hgf : g ∉ fh0 := fun e => HGN.out g (TFoot.mem.2 (.inr (.inl e))) rfl
        go_wp2_with fail
        generalize w2.setCell ⟨p.b, 1, none⟩ (.int .u64 r) = WX at *
        have HNM := Lib.hid (show setReqN p.t.id r p ∈ N.map (setReqN p.t.id r) from List.mem_map.2 ⟨p, HPM.out, rfl⟩)
        have HJ := Lib.hid (show l[0]? = some (setReqN p.t.id r p).t.id by rw [show (setReqN p.t.id r p).t.id = p.t.id from (setReq_keep _ _ p.t).1]; exact HSUB.out.head)
        have HB := Lib.hid (show (setReqN p.t.id r p).b = p.b from rfl)
        have HID := Lib.hid (show (setReqN p.t.id r p).t.id = p.t.id from (setReq_keep _ _ p.t).1)
        generalize setReqN p.t.id r p = n at *
        generalize N.map (setReqN p.t.id r) = M at *
        rw [← HB.out, ← HID.out]
        rw [← HID.out] at HRS1
        clear m1 g1 HOW2 HK2 HT1 d0 HKr HT0
        generalize hfhe : fh0 = fh at HRS1 hgf
        have HTX0 := ((Touch.refl [] WX).drew)
        have HW0 := HRS1.out.mem.touch HTX0 (by simp)
        obtain ⟨W, hW⟩ : ∃ W, W = WX.drew := ⟨_, rfl⟩
        refine wp_region_held (S := Touch fh W) (by kernel_rfl) ?_
        change wpAnyH _ _ _ _ _ _ _ _ WX.drew
        rw [← hW] at HTX0 HW0 ⊢
        clear hW
        have HW := Lib.hid HW0
        have HTX := Lib.hid HTX0
        have c0 := HW0.cell
        have htf := HW0.tf
        obtain ⟨m0, m1, _, _⟩ := (HW0.nd n HNM.out).cells
        have hbf : n.b ∉ fh := HW0.nf n HNM.out n.b (by simp [Nd.foot])
        have HU := Lib.hid HRS1.out.tree.nodup
        have HP := Lib.hid (HW0.okp HRS1.out.tree HNM.out)
        have HD := Lib.hid (HW0.rq n HNM.out).2
        clear HW0 HTX0
        have hS := Touch.refl fh W
        refine wpAnyH_take (i := 0) (oi := { dst := some 39, op := Op.move (Operand.tmp 0), type := 23, pos := "timer.go:77", after := #[], guard := none }) (v := .pointer (some ⟨t, 0, none⟩)) rfl (by kernel_rfl) (by kernel_rfl) (by kernel_rfl) (fun _ _ _ h => h) (Or.inl ⟨by rfl, fun w' hw => by go_simp⟩) hS ?_
        try simp only [Act.put, List.setIfInBounds_toArray, List.set_cons_zero, List.set_cons_succ]
        refine wpAnyH_take (i := 1) (oi := { dst := some 40, op := Op.nilCheck (Operand.tmp 39), type := 0, pos := "timer.go:77", after := #[{ on := 0, ground := Ground.data }], guard := none }) (v := .pointer (some ⟨t, 0, none⟩)) rfl (by kernel_rfl) (by kernel_rfl) (by kernel_rfl) (fun _ _ _ h => h) (Or.inl ⟨by rfl, fun w' hw => by go_simp⟩) hS ?_
        try simp only [Act.put, List.setIfInBounds_toArray, List.set_cons_zero, List.set_cons_succ]
        refine wpAnyH_take (i := 2) (oi := { dst := some 41, op := Op.fieldAddr 49 (Operand.tmp 40) 0, type := 0, pos := "timer.go:77", after := #[{ on := 1, ground := Ground.data }], guard := none }) (v := .pointer (some ⟨t, 0, none⟩)) rfl (by kernel_rfl) (by kernel_rfl) (by kernel_rfl) (fun _ _ _ h => h) (Or.inl ⟨by rfl, fun w' hw => by go_simp⟩) hS ?_
        try simp only [Act.put, List.setIfInBounds_toArray, List.set_cons_zero, List.set_cons_succ]
        refine wpAnyH_take (i := 3) (oi := { dst := some 42, op := Op.load 45 (Operand.tmp 41), type := 45, pos := "timer.go:77", after := #[{ on := 2, ground := Ground.data }], guard := none }) (v := .pointer (some ⟨h, 0, none⟩)) rfl (by kernel_rfl) (by kernel_rfl) (by kernel_rfl) (fun _ _ _ h => h) (Or.inl ⟨by rfl, fun w' hw => by (have q := hw.cell c0 htf; go_simp)⟩) hS ?_
        try simp only [Act.put, List.setIfInBounds_toArray, List.set_cons_zero, List.set_cons_succ]
        refine wpAnyH_take (i := 4) (oi := { dst := some 43, op := Op.move (Operand.tmp 9), type := 3, pos := "timer.go:77", after := #[], guard := none }) (v := .int .i64 n.t.id) rfl (by kernel_rfl) (by kernel_rfl) (by kernel_rfl) (fun _ _ _ h => h) (Or.inl ⟨by rfl, fun w' hw => by go_simp⟩) hS ?_
        try simp only [Act.put, List.setIfInBounds_toArray, List.set_cons_zero, List.set_cons_succ]
        refine wpAnyH_take (i := 5) (oi := { dst := some 44, op := Op.move (Operand.tmp 11), type := 47, pos := "timer.go:77", after := #[], guard := none }) (v := .pointer (some ⟨n.b, 0, none⟩)) rfl (by kernel_rfl) (by kernel_rfl) (by kernel_rfl) (fun _ _ _ h => h) (Or.inl ⟨by rfl, fun w' hw => by go_simp⟩) hS ?_
        try simp only [Act.put, List.setIfInBounds_toArray, List.set_cons_zero, List.set_cons_succ]
        refine wpAnyH_take (i := 6) (oi := { dst := some 45, op := Op.nilCheck (Operand.tmp 44), type := 0, pos := "timer.go:77", after := #[{ on := 5, ground := Ground.data }], guard := none }) (v := .pointer (some ⟨n.b, 0, none⟩)) rfl (by kernel_rfl) (by kernel_rfl) (by kernel_rfl) (fun _ _ _ h => h) (Or.inl ⟨by rfl, fun w' hw => by go_simp⟩) hS ?_
        try simp only [Act.put, List.setIfInBounds_toArray, List.set_cons_zero, List.set_cons_succ]
        refine wpAnyH_take (i := 7) (oi := { dst := some 46, op := Op.fieldAddr 55 (Operand.tmp 45) 1, type := 0, pos := "timer.go:77", after := #[{ on := 6, ground := Ground.data }], guard := none }) (v := .pointer (some ⟨n.b, 1, none⟩)) rfl (by kernel_rfl) (by kernel_rfl) (by kernel_rfl) (fun _ _ _ h => h) (Or.inl ⟨by rfl, fun w' hw => by go_simp⟩) hS ?_
        try simp only [Act.put, List.setIfInBounds_toArray, List.set_cons_zero, List.set_cons_succ]
        refine wpAnyH_take (i := 8) (oi := { dst := some 47, op := Op.load 31 (Operand.tmp 46), type := 31, pos := "timer.go:77", after := #[{ on := 7, ground := Ground.data }], guard := none }) (v := .int .u64 n.t.req) rfl (by kernel_rfl) (by kernel_rfl) (by kernel_rfl) (fun _ _ _ h => h) (Or.inl ⟨by rfl, fun w' hw => by (have q := hw.cell m1 hbf; go_simp)⟩) hS ?_
        try simp only [Act.put, List.setIfInBounds_toArray, List.set_cons_zero, List.set_cons_succ]
        refine wpAnyH_take (i := 9) (oi := { dst := some 48, op := Op.move (Operand.tmp 0), type := 23, pos := "timer.go:77", after := #[], guard := none }) (v := .pointer (some ⟨t, 0, none⟩)) rfl (by kernel_rfl) (by kernel_rfl) (by kernel_rfl) (fun _ _ _ h => h) (Or.inl ⟨by rfl, fun w' hw => by go_simp⟩) hS ?_
        try simp only [Act.put, List.setIfInBounds_toArray, List.set_cons_zero, List.set_cons_succ]
        refine wpAnyH_take (i := 10) (oi := { dst := some 49, op := Op.move (Operand.tmp 11), type := 47, pos := "timer.go:77", after := #[], guard := none }) (v := .pointer (some ⟨n.b, 0, none⟩)) rfl (by kernel_rfl) (by kernel_rfl) (by kernel_rfl) (fun _ _ _ h => h) (Or.inl ⟨by rfl, fun w' hw => by go_simp⟩) hS ?_
        try simp only [Act.put, List.setIfInBounds_toArray, List.set_cons_zero, List.set_cons_succ]
        refine wpAnyH_ready (rs := [11]) (by kernel_rfl) (by simp) ?_
        refine AllReadyH.cons (o := { dst := some 50, op := Op.call { callee := Callee.value (Operand.func 22), args := #[Operand.tmp 48, Operand.tmp 49], argTypes := #[23, 47] }, type := 31, pos := "timer.go:77", after := #[{ on := 9, ground := Ground.data }, { on := 10, ground := Ground.data }], guard := none }) rfl (fun K hK => ?_) AllReadyH.nil
        go_simp
        refine (limit_tk HW.out HU.out n.b n.t.par HP.out m0).mono ?_
        rintro e w' ⟨rfl, q2, rfl⟩
        have hS2 := hS.drews q2
        have HW2 := Lib.hid (HW.out.touch ((Touch.refl [] W).drews q2) (by simp))
        refine hK.out _ _ hS2 (fun _ => ?_)
        clear hK K hS HW
        have TT2 := Lib.hid ((Touch.refl [] W).drews q2)
        have hS := hS2
        clear hS2
        generalize W.drewN q2 = W2 at *
        try simp only [Act.put, List.setIfInBounds_toArray, List.set_cons_zero, List.set_cons_succ]
        refine wpAnyH_ready (rs := [12]) (by kernel_rfl) (by simp) ?_
        refine AllReadyH.cons (o := { dst := some 51, op := Op.buildSlice 83 2 #[(0, Operand.tmp 47), (1, Operand.tmp 50)], type := 83, pos := "timer.go:77", after := #[{ on := 8, ground := Ground.data }, { on := 11, ground := Ground.data }], guard := none }) rfl (fun K hK => ?_) AllReadyH.nil
        go_simp
        have hS2 := hS.alloc (.cells #[.int .u64 n.t.req, .int .u64 (lim (sh M) n.t.par)] 31)
        have gC := heap_alloc_new W2 (.cells #[.int .u64 n.t.req, .int .u64 (lim (sh M) n.t.par)] 31)
        have tC := (Touch.refl [] W2).alloc (.cells #[.int .u64 n.t.req, .int .u64 (lim (sh M) n.t.par)] 31)
        have HW3 := Lib.hid (HW2.out.touch tC (by simp))
        have TT3 := Lib.hid (TT2.out.trans tC (by simp))
        refine hK.out _ _ hS2 (fun _ => ?_)
        clear hK K hS HW2 tC TT2
        have hS := hS2
        clear hS2
        generalize W2.alloc (.cells #[.int .u64 n.t.req, .int .u64 (lim (sh M) n.t.par)] 31) = W3 at *
        generalize W2.heap.size = g2 at *
        obtain ⟨d0, d1⟩ := cells_two gC
        clear gC
        try simp only [Act.put, List.setIfInBounds_toArray, List.set_cons_zero, List.set_cons_succ]
        refine wpAnyH_ready (rs := [13]) (by kernel_rfl) (by simp) ?_
        refine AllReadyH.cons (o := { dst := some 52, op := Op.call { callee := Callee.value (Operand.func 21), args := #[Operand.tmp 51], argTypes := #[83] }, type := 31, pos := "timer.go:77", after := #[{ on := 12, ground := Ground.data }, { on := 11, ground := Ground.chain }], guard := none }) rfl (fun K hK => ?_) AllReadyH.nil
        go_simp
        refine (min_two n.t.req (lim (sh M) n.t.par) g2 _ HD.out d0 d1).mono ?_
        rintro e w' ⟨rfl, rfl⟩
        refine hK.out _ _ hS (fun _ => ?_)
        clear hK K d0 d1
        try simp only [Act.put, List.setIfInBounds_toArray, List.set_cons_zero, List.set_cons_succ]
        refine wpAnyH_ready (rs := [14]) (by kernel_rfl) (by simp) ?_
        refine AllReadyH.cons (o := { dst := some 53, op := Op.call { callee := Callee.value (Operand.func 28), args := #[Operand.tmp 42, Operand.tmp 43, Operand.tmp 52], argTypes := #[45, 3, 31] }, type := 4, pos := "timer.go:77", after := #[{ on := 3, ground := Ground.data }, { on := 4, ground := Ground.data }, { on := 13, ground := Ground.data }, { on := 13, ground := Ground.chain }], guard := none }) rfl (fun K hK => ?_) AllReadyH.nil
        go_simp
        refine (HW3.out.bag.update n.itm (min n.t.req (lim (sh M) n.t.par)) (TM.itm_mem HNM.out)).mono ?_
        rintro e w4 ⟨rfl, nx⟩
        obtain ⟨f5, hb5, hf5, t5⟩ := nx
        have hS2 := hS.trans t5 (fun y hy => .inl hy)
        have HNX := Lib.hid (show Next WX h fh ((M.map Nd.itm).map (upd n.t.id (min n.t.req (lim (sh M) n.t.par)))) last w4 from ⟨f5, hb5, fun y hy => by rcases hf5 y hy with e | e; exact .inl e; exact .inr (Nat.le_trans (HTX.out.trans TT3.out (by simp)).size e), ((HTX.out.trans TT3.out (by simp)).mono (by simp)).trans t5 (fun y hy => .inl hy)⟩)
        refine hK.out _ _ hS2 (fun _ => ?_)
        have HT4 := Lib.hid (show Touch fh WX w4 from ((HTX.out.trans TT3.out (by simp)).mono (by simp)).trans t5 (fun y hy => .inl hy))
        clear hK K hS HW3 hb5 hf5 t5 TT3
        have hS := hS2
        clear hS2
        try simp only [Act.put, List.setIfInBounds_toArray, List.set_cons_zero, List.set_cons_succ]
        refine wpAnyH_done (by kernel_rfl) ?_ _
        try simp only [Act.put, List.setIfInBounds_toArray, List.set_cons_zero, List.set_cons_succ]
        go_wp2_with fail
        obtain ⟨fh2, hrs2, hf2⟩ := Rs.step HRS1.out HNM.out HJ.out HNX.out
        have hgl : g < WX.heap.size := (HOW3.out.lt g rfl).2
        have hg2 : g ∉ fh2 := by
          intro e
          rcases hf2 g e with e | e
          · exact hgf e
          · omega
        have HOW5 := Lib.hid (HT4.out.owns HOW3.out (by intro g' hg' e; simp [Value.ownBlock] at hg'; subst hg'; exact hgf e))
        rw [HID.out]
        go_roundw
        case rel => exact ⟨1, rfl, by omega, .inr ⟨by omega, fh2, _, hg2, by subst hfhe; rw [← HID.out]; exact hrs2⟩, HOW5.out⟩
        case measure => simp [intOf]; omega
      · have HRW := Lib.hid hrs
        have hie : i ≠ p.t.id := by
          intro e
          subst e
          have := nodup_at HSUB.out.nodup HX.out HSUB.out.head
          omega
        have q4 : (i == p.t.id) = false := beq_eq_false_iff_ne.2 hie
        obtain ⟨n, hn, rfl⟩ := sh_at (hrs.sub.mem i (List.mem_of_getElem? HX.out))
        have HNM := Lib.hid hn
        have c0 := hrs.mem.cell
        clear hrs hn hie
        go_wp2_with fail
        refine (HRW.out.mem.get n HNM.out).mono ?_
        rintro e w2 ⟨rfl, q, rfl⟩
        have HRS1 := Lib.hid (HRW.out.touch ((Touch.refl [] wr).drews q))
        have HOW3 := Lib.hid ((((Touch.refl [] wr).drews q)).owns HOW.out (by simp))
        have HJ := HX
        clear c0 p0
        generalize wr.drewN q = WX at *
        go_wp2_with fail
        have HTX0 := ((Touch.refl [] WX).drew)
        have HW0 := HRS1.out.mem.touch HTX0 (by simp)
        obtain ⟨W, hW⟩ : ∃ W, W = WX.drew := ⟨_, rfl⟩
        refine wp_region_held (S := Touch fh W) (by kernel_rfl) ?_
        change wpAnyH _ _ _ _ _ _ _ _ WX.drew
        rw [← hW] at HTX0 HW0 ⊢
        clear hW
        have HW := Lib.hid HW0
        have HTX := Lib.hid HTX0
        have c0 := HW0.cell
        have htf := HW0.tf
        obtain ⟨m0, m1, _, _⟩ := (HW0.nd n HNM.out).cells
        have hbf : n.b ∉ fh := HW0.nf n HNM.out n.b (by simp [Nd.foot])
        have HU := Lib.hid HRS1.out.tree.nodup
        have HP := Lib.hid (HW0.okp HRS1.out.tree HNM.out)
        have HD := Lib.hid (HW0.rq n HNM.out).2
        clear HW0 HTX0
        have hS := Touch.refl fh W
        refine wpAnyH_take (i := 0) (oi := { dst := some 39, op := Op.move (Operand.tmp 0), type := 23, pos := "timer.go:77", after := #[], guard := none }) (v := .pointer (some ⟨t, 0, none⟩)) rfl (by kernel_rfl) (by kernel_rfl) (by kernel_rfl) (fun _ _ _ h => h) (Or.inl ⟨by rfl, fun w' hw => by go_simp⟩) hS ?_
        try simp only [Act.put, List.setIfInBounds_toArray, List.set_cons_zero, List.set_cons_succ]
        refine wpAnyH_take (i := 1) (oi := { dst := some 40, op := Op.nilCheck (Operand.tmp 39), type := 0, pos := "timer.go:77", after := #[{ on := 0, ground := Ground.data }], guard := none }) (v := .pointer (some ⟨t, 0, none⟩)) rfl (by kernel_rfl) (by kernel_rfl) (by kernel_rfl) (fun _ _ _ h => h) (Or.inl ⟨by rfl, fun w' hw => by go_simp⟩) hS ?_
        try simp only [Act.put, List.setIfInBounds_toArray, List.set_cons_zero, List.set_cons_succ]
        refine wpAnyH_take (i := 2) (oi := { dst := some 41, op := Op.fieldAddr 49 (Operand.tmp 40) 0, type := 0, pos := "timer.go:77", after := #[{ on := 1, ground := Ground.data }], guard := none }) (v := .pointer (some ⟨t, 0, none⟩)) rfl (by kernel_rfl) (by kernel_rfl) (by kernel_rfl) (fun _ _ _ h => h) (Or.inl ⟨by rfl, fun w' hw => by go_simp⟩) hS ?_
        try simp only [Act.put, List.setIfInBounds_toArray, List.set_cons_zero, List.set_cons_succ]
        refine wpAnyH_take (i := 3) (oi := { dst := some 42, op := Op.load 45 (Operand.tmp 41), type := 45, pos := "timer.go:77", after := #[{ on := 2, ground := Ground.data }], guard := none }) (v := .pointer (some ⟨h, 0, none⟩)) rfl (by kernel_rfl) (by kernel_rfl) (by kernel_rfl) (fun _ _ _ h => h) (Or.inl ⟨by rfl, fun w' hw => by (have q := hw.cell c0 htf; go_simp)⟩) hS ?_
        try simp only [Act.put, List.setIfInBounds_toArray, List.set_cons_zero, List.set_cons_succ]
        refine wpAnyH_take (i := 4) (oi := { dst := some 43, op := Op.move (Operand.tmp 9), type := 3, pos := "timer.go:77", after := #[], guard := none }) (v := .int .i64 n.t.id) rfl (by kernel_rfl) (by kernel_rfl) (by kernel_rfl) (fun _ _ _ h => h) (Or.inl ⟨by rfl, fun w' hw => by go_simp⟩) hS ?_
        try simp only [Act.put, List.setIfInBounds_toArray, List.set_cons_zero, List.set_cons_succ]
        refine wpAnyH_take (i := 5) (oi := { dst := some 44, op := Op.move (Operand.tmp 11), type := 47, pos := "timer.go:77", after := #[], guard := none }) (v := .pointer (some ⟨n.b, 0, none⟩)) rfl (by kernel_rfl) (by kernel_rfl) (by kernel_rfl) (fun _ _ _ h => h) (Or.inl ⟨by rfl, fun w' hw => by go_simp⟩) hS ?_
        try simp only [Act.put, List.setIfInBounds_toArray, List.set_cons_zero, List.set_cons_succ]
        refine wpAnyH_take (i := 6) (oi := { dst := some 45, op := Op.nilCheck (Operand.tmp 44), type := 0, pos := "timer.go:77", after := #[{ on := 5, ground := Ground.data }], guard := none }) (v := .pointer (some ⟨n.b, 0, none⟩)) rfl (by kernel_rfl) (by kernel_rfl) (by kernel_rfl) (fun _ _ _ h => h) (Or.inl ⟨by rfl, fun w' hw => by go_simp⟩) hS ?_
        try simp only [Act.put, List.setIfInBounds_toArray, List.set_cons_zero, List.set_cons_succ]
        refine wpAnyH_take (i := 7) (oi := { dst := some 46, op := Op.fieldAddr 55 (Operand.tmp 45) 1, type := 0, pos := "timer.go:77", after := #[{ on := 6, ground := Ground.data }], guard := none }) (v := .pointer (some ⟨n.b, 1, none⟩)) rfl (by kernel_rfl) (by kernel_rfl) (by kernel_rfl) (fun _ _ _ h => h) (Or.inl ⟨by rfl, fun w' hw => by go_simp⟩) hS ?_
        try simp only [Act.put, List.setIfInBounds_toArray, List.set_cons_zero, List.set_cons_succ]
        refine wpAnyH_take (i := 8) (oi := { dst := some 47, op := Op.load 31 (Operand.tmp 46), type := 31, pos := "timer.go:77", after := #[{ on := 7, ground := Ground.data }], guard := none }) (v := .int .u64 n.t.req) rfl (by kernel_rfl) (by kernel_rfl) (by kernel_rfl) (fun _ _ _ h => h) (Or.inl ⟨by rfl, fun w' hw => by (have q := hw.cell m1 hbf; go_simp)⟩) hS ?_
        try simp only [Act.put, List.setIfInBounds_toArray, List.set_cons_zero, List.set_cons_succ]
        refine wpAnyH_take (i := 9) (oi := { dst := some 48, op := Op.move (Operand.tmp 0), type := 23, pos := "timer.go:77", after := #[], guard := none }) (v := .pointer (some ⟨t, 0, none⟩)) rfl (by kernel_rfl) (by kernel_rfl) (by kernel_rfl) (fun _ _ _ h => h) (Or.inl ⟨by rfl, fun w' hw => by go_simp⟩) hS ?_
        try simp only [Act.put, List.setIfInBounds_toArray, List.set_cons_zero, List.set_cons_succ]
        refine wpAnyH_take (i := 10) (oi := { dst := some 49, op := Op.move (Operand.tmp 11), type := 47, pos := "timer.go:77", after := #[], guard := none }) (v := .pointer (some ⟨n.b, 0, none⟩)) rfl (by kernel_rfl) (by kernel_rfl) (by kernel_rfl) (fun _ _ _ h => h) (Or.inl ⟨by rfl, fun w' hw => by go_simp⟩) hS ?_
        try simp only [Act.put, List.setIfInBounds_toArray, List.set_cons_zero, List.set_cons_succ]
        refine wpAnyH_ready (rs := [11]) (by kernel_rfl) (by simp) ?_
        refine AllReadyH.cons (o := { dst := some 50, op := Op.call { callee := Callee.value (Operand.func 22), args := #[Operand.tmp 48, Operand.tmp 49], argTypes := #[23, 47] }, type := 31, pos := "timer.go:77", after := #[{ on := 9, ground := Ground.data }, { on := 10, ground := Ground.data }], guard := none }) rfl (fun K hK => ?_) AllReadyH.nil
        go_simp
        refine (limit_tk HW.out HU.out n.b n.t.par HP.out m0).mono ?_
        rintro e w' ⟨rfl, q2, rfl⟩
        have hS2 := hS.drews q2
        have HW2 := Lib.hid (HW.out.touch ((Touch.refl [] W).drews q2) (by simp))
        refine hK.out _ _ hS2 (fun _ => ?_)
        clear hK K hS HW
        have TT2 := Lib.hid ((Touch.refl [] W).drews q2)
        have hS := hS2
        clear hS2
        generalize W.drewN q2 = W2 at *
        try simp only [Act.put, List.setIfInBounds_toArray, List.set_cons_zero, List.set_cons_succ]
        refine wpAnyH_ready (rs := [12]) (by kernel_rfl) (by simp) ?_
        refine AllReadyH.cons (o := { dst := some 51, op := Op.buildSlice 83 2 #[(0, Operand.tmp 47), (1, Operand.tmp 50)], type := 83, pos := "timer.go:77", after := #[{ on := 8, ground := Ground.data }, { on := 11, ground := Ground.data }], guard := none }) rfl (fun K hK => ?_) AllReadyH.nil
        go_simp
        have hS2 := hS.alloc (.cells #[.int .u64 n.t.req, .int .u64 (lim (sh M) n.t.par)] 31)
        have gC := heap_alloc_new W2 (.cells #[.int .u64 n.t.req, .int .u64 (lim (sh M) n.t.par)] 31)
        have tC := (Touch.refl [] W2).alloc (.cells #[.int .u64 n.t.req, .int .u64 (lim (sh M) n.t.par)] 31)
        have HW3 := Lib.hid (HW2.out.touch tC (by simp))
        have TT3 := Lib.hid (TT2.out.trans tC (by simp))
        refine hK.out _ _ hS2 (fun _ => ?_)
        clear hK K hS HW2 tC TT2
        have hS := hS2
        clear hS2
        generalize W2.alloc (.cells #[.int .u64 n.t.req, .int .u64 (lim (sh M) n.t.par)] 31) = W3 at *
        generalize W2.heap.size = g2 at *
        obtain ⟨d0, d1⟩ := cells_two gC
        clear gC
        try simp only [Act.put, List.setIfInBounds_toArray, List.set_cons_zero, List.set_cons_succ]
        refine wpAnyH_ready (rs := [13]) (by kernel_rfl) (by simp) ?_
        refine AllReadyH.cons (o := { dst := some 52, op := Op.call { callee := Callee.value (Operand.func 21), args := #[Operand.tmp 51], argTypes := #[83] }, type := 31, pos := "timer.go:77", after := #[{ on := 12, ground := Ground.data }, { on := 11, ground := Ground.chain }], guard := none }) rfl (fun K hK => ?_) AllReadyH.nil
        go_simp
        refine (min_two n.t.req (lim (sh M) n.t.par) g2 _ HD.out d0 d1).mono ?_
        rintro e w' ⟨rfl, rfl⟩
        refine hK.out _ _ hS (fun _ => ?_)
        clear hK K d0 d1
        try simp only [Act.put, List.setIfInBounds_toArray, List.set_cons_zero, List.set_cons_succ]
        refine wpAnyH_ready (rs := [14]) (by kernel_rfl) (by simp) ?_
        refine AllReadyH.cons (o := { dst := some 53, op := Op.call { callee := Callee.value (Operand.func 28), args := #[Operand.tmp 42, Operand.tmp 43, Operand.tmp 52], argTypes := #[45, 3, 31] }, type := 4, pos := "timer.go:77", after := #[{ on := 3, ground := Ground.data }, { on := 4, ground := Ground.data }, { on := 13, ground := Ground.data }, { on := 13, ground := Ground.chain }], guard := none }) rfl (fun K hK => ?_) AllReadyH.nil
        go_simp
        refine (HW3.out.bag.update n.itm (min n.t.req (lim (sh M) n.t.par)) (TM.itm_mem HNM.out)).mono ?_
        rintro e w4 ⟨rfl, nx⟩
        obtain ⟨f5, hb5, hf5, t5⟩ := nx
        have hS2 := hS.trans t5 (fun y hy => .inl hy)
        have HNX := Lib.hid (show Next WX h fh ((M.map Nd.itm).map (upd n.t.id (min n.t.req (lim (sh M) n.t.par)))) last w4 from ⟨f5, hb5, fun y hy => by rcases hf5 y hy with e | e; exact .inl e; exact .inr (Nat.le_trans (HTX.out.trans TT3.out (by simp)).size e), ((HTX.out.trans TT3.out (by simp)).mono (by simp)).trans t5 (fun y hy => .inl hy)⟩)
        refine hK.out _ _ hS2 (fun _ => ?_)
        have HT4 := Lib.hid (show Touch fh WX w4 from ((HTX.out.trans TT3.out (by simp)).mono (by simp)).trans t5 (fun y hy => .inl hy))
        clear hK K hS HW3 hb5 hf5 t5 TT3
        have hS := hS2
        clear hS2
        try simp only [Act.put, List.setIfInBounds_toArray, List.set_cons_zero, List.set_cons_succ]
        refine wpAnyH_done (by kernel_rfl) ?_ _
        try simp only [Act.put, List.setIfInBounds_toArray, List.set_cons_zero, List.set_cons_succ]
        go_wp2_with fail
        obtain ⟨fh2, hrs2, hf2⟩ := Rs.step HRS1.out HNM.out HJ.out HNX.out
        have hgl : g < WX.heap.size := (HOW3.out.lt g rfl).2
        have hg2 : g ∉ fh2 := by
          intro e
          rcases hf2 g e with e | e
          · exact hgf e
          · omega
        have HOW5 := Lib.hid (HT4.out.owns HOW3.out (by intro g' hg' e; simp [Value.ownBlock] at hg'; subst hg'; exact hgf e))
        go_roundw
        case rel => exact ⟨j + 1, by simp, by omega, .inr ⟨by omega, fh2, _, hg2, hrs2⟩, HOW5.out⟩
        case measure => simp [intOf]; omega
    · have hje : j = l.length := by omega
      subst hje
      have hj0 : 0 < l.length := hl0
      obtain ⟨fh, M, _, hrs⟩ : ∃ fh M, g ∉ fh ∧ Rs w t h fh0 N last p.t.id r l l.length wr fh M := by
        rcases HRS.out with ⟨e, _⟩ | ⟨_, hh⟩
        · omega
        · exact hh
      have HF := Lib.hid hrs.fin
      have q3 : ¬ (l.length : Int) < (l.length : Int) := by omega
      have q4 : (0 : Int) < (l.length : Int) := by omega
      clear hrs
      go_wp2_with fail
      go_ret
      exact ⟨rfl, HF.out⟩
end
end Go.Proofs.YtobkanlnnniabaaGreat.G

/-
  DERIVED: THE SHELF's CONTRACTS AT THIS DUMP, IN PLAIN WORDS (tools/lay-plain.mjs out of 'YtobkanlnnniabaaGreatLayT.lean', which tools/lay-shelf.mjs wrote): THE SAME DECLARATIONS UNDER THE SAME NAMES: 'import', 'namespace', 'open', 'def', 'theorem' AND NOTHING ELSE: no command of the shelf's: FOR A HAND-IN. Each laying: the table of numbers ('.._ren') and one theorem, a field a fact of the dump's own or the kernel's comparison; each contract: ONE APPLICATION.
-/
namespace Go.Proofs
open Go.Shelf
def Tryz.laysI_ren : Go.Shelf.Ren := ⟨fun | 189 => 54 | 125 => 67 | 257 => 66 | 128 => 85 | 129 => 86 | 294 => 76 | 295 => 77 | 296 => 78 | 297 => 79 | 298 => 80 | 299 => 81 | 216 => 82 | 300 => 83 | 301 => 84 | 328 => 100 | 329 => 101 | 330 => 102 | 331 => 103 | 332 => 104 | 215 => 91 | 343 => 109 | n => n, fun | 28 => 53 | 3 => 3 | 46 => 50 | 0 => 0 | 51 => 124 | 53 => 31 | 4 => 4 | 183 => 118 | 182 => 117 | 131 => 37 | 5 => 5 | 9 => 9 | 218 => 134 | 222 => 138 | 228 => 142 | 229 => 143 | n => n, fun | n => n⟩
theorem Tryz.laysI : Go.Proofs.Lays.n189 Tryz.prog Tryz.laysI_ren := {
  mixed := by kernel_rfl
  f125 := Tryz.func67.trans (congrArg some (by kernel_rfl))
  f128 := Tryz.func85.trans (congrArg some (by kernel_rfl))
  f129 := Tryz.func86.trans (congrArg some (by kernel_rfl))
  f189 := Tryz.func54.trans (congrArg some (by kernel_rfl))
  f215 := Tryz.func91.trans (congrArg some (by kernel_rfl))
  f216 := Tryz.func82.trans (congrArg some (by kernel_rfl))
  f257 := Tryz.func66.trans (congrArg some (by kernel_rfl))
  f294 := Tryz.func76.trans (congrArg some (by kernel_rfl))
  f295 := Tryz.func77.trans (congrArg some (by kernel_rfl))
  f296 := Tryz.func78.trans (congrArg some (by kernel_rfl))
  f297 := Tryz.func79.trans (congrArg some (by kernel_rfl))
  f298 := Tryz.func80.trans (congrArg some (by kernel_rfl))
  f299 := Tryz.func81.trans (congrArg some (by kernel_rfl))
  f300 := Tryz.func83.trans (congrArg some (by kernel_rfl))
  f301 := Tryz.func84.trans (congrArg some (by kernel_rfl))
  f328 := Tryz.func100.trans (congrArg some (by kernel_rfl))
  f329 := Tryz.func101.trans (congrArg some (by kernel_rfl))
  f330 := Tryz.func102.trans (congrArg some (by kernel_rfl))
  f331 := Tryz.func103.trans (congrArg some (by kernel_rfl))
  f332 := Tryz.func104.trans (congrArg some (by kernel_rfl))
  f343 := Tryz.func109.trans (congrArg some (by kernel_rfl))
  t0 := Tryz.underlying0
  a0 := Tryz.isAgg0
  z0 := Tryz.sizeOf0
  v0 := Tryz.zeroValue0
  t3 := Tryz.underlying3
  a3 := Tryz.isAgg3
  z3 := Tryz.sizeOf3
  v3 := Tryz.zeroValue3
  t4 := Tryz.underlying4
  a4 := Tryz.isAgg4
  z4 := Tryz.sizeOf4
  v4 := Tryz.zeroValue4
  t5 := Tryz.underlying5
  a5 := Tryz.isAgg5
  z5 := Tryz.sizeOf5
  v5 := Tryz.zeroValue5
  t9 := Tryz.underlying9
  a9 := Tryz.isAgg9
  z9 := Tryz.sizeOf9
  v9 := Tryz.zeroValue9
  t28 := Tryz.underlying53
  a28 := Tryz.isAgg53
  z28 := Tryz.sizeOf53
  v28 := Tryz.zeroValue53
  t46 := Tryz.underlying50
  a46 := Tryz.isAgg50
  z46 := Tryz.sizeOf50
  v46 := Tryz.zeroValue50
  t51 := Tryz.underlying124
  a51 := Tryz.isAgg124
  z51 := Tryz.sizeOf124
  v51 := Tryz.zeroValue124
  t53 := Tryz.underlying31
  a53 := Tryz.isAgg31
  z53 := Tryz.sizeOf31
  v53 := Tryz.zeroValue31
  t131 := Tryz.underlying37
  a131 := Tryz.isAgg37
  z131 := Tryz.sizeOf37
  v131 := Tryz.zeroValue37
  t182 := Tryz.underlying117
  a182 := Tryz.isAgg117
  z182 := Tryz.sizeOf117
  v182 := Tryz.zeroValue117
  t183 := Tryz.underlying118
  a183 := Tryz.isAgg118
  z183 := Tryz.sizeOf118
  v183 := Tryz.zeroValue118
  t218 := Tryz.underlying134
  a218 := Tryz.isAgg134
  z218 := Tryz.sizeOf134
  v218 := Tryz.zeroValue134
  t222 := Tryz.underlying138
  a222 := Tryz.isAgg138
  z222 := Tryz.sizeOf138
  v222 := Tryz.zeroValue138
  t228 := Tryz.underlying142
  a228 := Tryz.isAgg142
  z228 := Tryz.sizeOf142
  v228 := Tryz.zeroValue142
  t229 := Tryz.underlying143
  a229 := Tryz.isAgg143
  z229 := Tryz.sizeOf143
  v229 := Tryz.zeroValue143 }
end Go.Proofs

/-
  slices.Sort of ints, in plain words.
-/
namespace Go.Proofs.YtobkanlnnniabaaGreat
open Go.RowKit Go.Sort Go.Shelf
set_option linter.unusedVariables false
set_option linter.unusedSimpArgs false

def upI (l : List Int) : List Int := l.mergeSort fun x y => decide (x ≤ y)
theorem upI_len (l : List Int) : (upI l).length = l.length := List.length_mergeSort _
theorem sort_nil (p : Option Addr) (cap : Nat) (w : World) : Calls Tryz.prog 54 #[.slice p 0 cap] w fun e w' => e = .returned (.tuple #[]) ∧ w' = w :=
  Any.slices_Sort_int_none Tryz.laysI p cap w
theorem sort_ints (w : World) (g off cap : Nat) (l : List Int) (hH : ∀ j x, l[j]? = some x → w.cell? ⟨g, off + j, none⟩ = some (.int .i64 x) ∧ w.frozen? ⟨g, off + j, none⟩ = false) (hb : g < w.heap.size) (hz : l.length < 4611686018427387904) :
    Calls Tryz.prog 54 #[.slice (some ⟨g, off, none⟩) l.length cap] w fun e w' => e = .returned (.tuple #[]) ∧ Touch [g] w w' ∧ ∀ j x, (upI l)[j]? = some x → w'.cell? ⟨g, off + j, none⟩ = some (.int .i64 x) := by
  have hHold : Holds (Value.int .i64) w g off l.toArray := by
    intro j hj
    have hj' : j < l.length := by simpa using hj
    have e1 : l.toArray[j]! = l[j] := by
      rw [getElem!_pos _ _ (by simpa using hj')]
      simp
    rw [e1]
    exact hH j l[j] (List.getElem?_eq_getElem hj')
  refine (Any.slices_Sort_int Tryz.laysI g off cap l w hHold hb hz).mono ?_
  rintro e w' ⟨rfl, n, os, rfl⟩
  have hsz : g < (putRow (Value.int .i64) (Sort.ahead w n) g off (upI l).toArray).heap.size := by simpa [putRow, mapBlock, Sort.ahead] using hb
  refine ⟨rfl, ⟨rfl, rfl, rfl, by simp [putRow, mapBlock, Sort.ahead, grow], fun i hi hn => ?_⟩, ?_⟩
  · rw [heap_grow_old _ _ (by simpa [putRow, mapBlock, Sort.ahead] using hi)]
    have : g ≠ i := by simpa [eq_comm] using hn
    simp [putRow, mapBlock, Sort.ahead, Array.getElem?_modify, this]
  · intro j x hj
    have hj' : j < (upI l).length := (List.getElem?_eq_some_iff.1 hj).1
    rw [show (l.mergeSort fun x y => decide (x ≤ y)) = upI l from rfl, cell?_grow _ _ _ hsz]
    rw [cell?_putRow (Value.int .i64) (Sort.ahead w n) g off l.toArray (upI l).toArray (holds_ahead _ _ _ _ _ _ hHold) (by simp [upI_len]) j (by simpa using hj')]
    have e1 : (upI l).toArray[j]! = x := by
      rw [getElem!_pos _ _ (by simpa using hj')]
      have := (List.getElem?_eq_some_iff.1 hj).2
      simpa using this
    rw [e1]
end Go.Proofs.YtobkanlnnniabaaGreat

/-
  The contract of Descendants.
-/
namespace Go.Proofs.YtobkanlnnniabaaGreat.G
open Go.RowKit
set_option linter.unusedVariables false
set_option linter.unusedSimpArgs false

section
variable {w : World} {t h : Nat} {fh : List Nat} {N : List Nd} {last : Int}
set_option maxRecDepth 100000 in
set_option maxHeartbeats 1000000 in
theorem desc_no (k : TM w t h fh N last) (i : Int) (hi : okK i) (hn : i ∉ tids (sh N)) :
    Calls Tryz.prog 40 #[.pointer (some ⟨t, 0, none⟩), .int .i64 i] w fun e w' => e = .returned (.slice none 0 0) ∧ w' = w := by
  have HS := Lib.hid (subtree_no k i hi hn)
  clear k hn
  go_enter Tryz.func40, Tryz.ntmps40
  go_wp2_with fail
  refine HS.out.mono ?_
  rintro e w' ⟨rfl, rfl⟩
  go_wp2_with fail
  refine (sort_nil none 0 _).mono ?_
  rintro e w' ⟨rfl, rfl⟩
  go_wp2_with fail
  go_ret
  exact ⟨rfl, rfl⟩
/-- What Descendants answers: the handles below, in order. -/
def DescR (N : List Tm) (id : Int) (w0 w' : World) (e : Ending) : Prop :=
  ∃ l g off cap, Sub N id l ∧ e = .returned (.slice (some ⟨g, off, none⟩) (l.length - 1 : Nat) cap) ∧ w0.heap.size ≤ g ∧ (∀ j x, (upI l.tail)[j]? = some x → w'.cell? ⟨g, off + j, none⟩ = some (.int .i64 x)) ∧ Touch [] w0 w'
set_option maxRecDepth 100000 in
set_option maxHeartbeats 1000000 in
theorem desc_any (k : TM w t h fh N last) (n : Nd) (hn : n ∈ N) :
    Calls Tryz.prog 40 #[.pointer (some ⟨t, 0, none⟩), .int .i64 n.t.id] w fun e w' => DescR (sh N) n.t.id w w' e := by
  have HS := Lib.hid (subtree_any k n hn)
  have hfew := k.mem.few
  have hl2 : (sh N).length = N.length := by simp [sh]
  clear k hn
  go_enter Tryz.func40, Tryz.ntmps40
  go_wp2_with fail
  refine HS.out.mono ?_
  rintro e w1 ⟨v, l, rfl, hsub, ho, t1⟩
  have hl0 : 0 < l.length := (List.getElem?_eq_some_iff.1 hsub.head).1
  have hl1 := hsub.few
  have HSUB := Lib.hid hsub
  have HO := Lib.hid ho
  have HT := Lib.hid t1
  clear hsub ho t1 HS
  obtain ⟨av, cv, rfl, hv1, hv2, hv3⟩ := owns_form HO.out.row
  obtain ⟨g, rfl⟩ := hv3 hl0
  have hgs : g < w1.heap.size := HO.out.row.lt g rfl |>.2
  have hcv : cv ≤ 9223372036854775807 := by unfold maxLen at hv2; omega
  have d0 : (0 : Int) < (l.length : Int) := by omega
  by_cases hc1 : cv = 1
  · subst hc1
    have hl3 : l.length = 1 := by omega
    rw [hl3]
    have HL3 := Lib.hid hl3
    rw [hl3] at d0
    clear hv2 hv3
    go_wp2_with fail
    refine (sort_nil _ _ _).mono ?_
    rintro e w2 ⟨rfl, rfl⟩
    go_wp2_with fail
    go_ret
    refine ⟨l, g, 0, 0, HSUB.out, by rw [HL3.out]; rfl, HO.out.new g rfl, ?_, HT.out⟩
    intro j x hj
    have := (List.getElem?_eq_some_iff.1 hj).1
    rw [upI_len, List.length_tail, HL3.out] at this
    omega
  · have HSO := Lib.hid (sort_ints w1 g 1 (cv - 1) l.tail (by
      intro j x hj
      rw [List.getElem?_tail] at hj
      have h1 := owns_cell HO.out.row (1 + j) (.int .i64 x) (by rw [List.getElem?_map, Nat.add_comm 1 j, hj]; rfl)
      exact ⟨h1, owns_frozen HO.out.row (1 + j)⟩) hgs (by simp; omega))
    have hcut : l.tail.length = l.length - 1 := by simp
    rw [hcut] at HSO
    have hc2 : cv - 1 ≠ 0 := by omega
    clear hv2 hv3
    go_wp2_with fail
    refine HSO.out.mono ?_
    rintro e w2 ⟨rfl, t2, hc⟩
    have HT2 := Lib.hid (HT.out.trans t2 (by
      intro y hy
      simp at hy
      subst hy
      exact .inr (HO.out.new _ rfl)))
    have HC := Lib.hid hc
    have HG := Lib.hid (HO.out.new g rfl)
    clear t2 hc
    go_wp2_with fail
    go_ret
    exact ⟨l, g, 1, cv - 1, HSUB.out, rfl, HG.out, HC.out, HT2.out⟩
end
end Go.Proofs.YtobkanlnnniabaaGreat.G

/-
  Reset and Descendants, above a world.
-/
namespace Go.Proofs.YtobkanlnnniabaaGreat.G
open Go.RowKit
set_option linter.unusedVariables false
set_option linter.unusedSimpArgs false

section
variable {w0 w : World} {t h : Nat} {A : List (Tm × Tag)} {last : Int}
def Abr (w0 : World) (t h : Nat) (A : List (Tm × Tag)) (last i r : Int) (w' : World) : Prop :=
  ∃ A', Abv w0 w' t h A' last ∧ A'.map (fun a => (a.1.id, a.1.par, a.1.req, a.2)) = (A.map fun a => (setReq i r a.1, a.2)).map fun a => (a.1.id, a.1.par, a.1.req, a.2)
theorem Abv.reset (k : Abv w0 w t h A last) (i r : Int) (hi : i ∈ tids (A.map Prod.fst)) (hr : 0 ≤ r ∧ r ≤ maxT) :
    Calls Tryz.prog 12 #[.pointer (some ⟨t, 0, none⟩), .int .i64 i, .int .u64 r] w fun e w' => e = .returned (.bool true) ∧ Abr w0 t h A last i r w' := by
  obtain ⟨f, ⟨fh, N, hm, rfl, rfl⟩, h2, h3⟩ := k
  rw [ab_fst] at hi
  obtain ⟨n, hn, rfl⟩ := sh_at hi
  refine (reset_any hm n hn r hr).mono ?_
  rintro e w' ⟨rfl, A', h4, h5⟩
  exact ⟨rfl, A', Abv.next h2 h3 h4, h5⟩
theorem Abv.reset_no (k : Abv w0 w t h A last) (i r : Int) (hi : okK i) (hn : i ∉ tids (A.map Prod.fst)) :
    Calls Tryz.prog 12 #[.pointer (some ⟨t, 0, none⟩), .int .i64 i, .int .u64 r] w fun e w' => e = .returned (.bool false) ∧ Abv w0 w' t h A last := by
  have k' := k
  obtain ⟨f, ⟨fh, N, hm, rfl, rfl⟩, h2, h3⟩ := k
  rw [ab_fst] at hn
  refine (G.reset_no hm i r hi hn).mono ?_
  rintro e w' ⟨rfl, rfl⟩
  exact ⟨rfl, k'⟩
def Abd (w0 : World) (t h : Nat) (A : List (Tm × Tag)) (last i : Int) (l : List Int) (g off : Nat) (w' : World) : Prop :=
  Sub (A.map Prod.fst) i l ∧ w0.heap.size ≤ g ∧ (∀ j x, (upI l.tail)[j]? = some x → w'.cell? ⟨g, off + j, none⟩ = some (.int .i64 x)) ∧ Abv w0 w' t h A last
theorem Abv.desc (k : Abv w0 w t h A last) (i : Int) (hi : i ∈ tids (A.map Prod.fst)) :
    Calls Tryz.prog 40 #[.pointer (some ⟨t, 0, none⟩), .int .i64 i] w fun e w' => ∃ l g off cap, e = .returned (.slice (some ⟨g, off, none⟩) (l.length - 1 : Nat) cap) ∧ Abd w0 t h A last i l g off w' := by
  have k' := k
  obtain ⟨f, ⟨fh, N, hm, rfl, rfl⟩, h2, h3⟩ := k
  unfold Abd
  rw [ab_fst] at hi ⊢
  obtain ⟨n, hn, rfl⟩ := sh_at hi
  refine (desc_any hm n hn).mono ?_
  rintro e w' ⟨l, g, off, cap, h4, rfl, h5, h6, h7⟩
  exact ⟨l, g, off, cap, rfl, h4, Nat.le_trans h3.size h5, h6, k'.touch h7⟩
theorem Abv.desc_no (k : Abv w0 w t h A last) (i : Int) (hi : okK i) (hn : i ∉ tids (A.map Prod.fst)) :
    Calls Tryz.prog 40 #[.pointer (some ⟨t, 0, none⟩), .int .i64 i] w fun e w' => e = .returned (.slice none 0 0) ∧ Abv w0 w' t h A last := by
  have k' := k
  obtain ⟨f, ⟨fh, N, hm, rfl, rfl⟩, h2, h3⟩ := k
  rw [ab_fst] at hn
  refine (G.desc_no hm i hi hn).mono ?_
  rintro e w' ⟨rfl, rfl⟩
  exact ⟨rfl, k'⟩
end
end Go.Proofs.YtobkanlnnniabaaGreat.G

/-
  Timers above a world, apart from blocks of another's: what each call leaves of both.
-/
namespace Go.Proofs.YtobkanlnnniabaaGreat.G
open Go.RowKit
set_option linter.unusedVariables false
set_option linter.unusedSimpArgs false

/-- The blocks of the list are as they were. -/
def Kept (G : List Nat) (w w' : World) : Prop := ∃ S, Touch S w w' ∧ ∀ g ∈ G, g ∉ S
def Avd (w0 w : World) (t h : Nat) (A : List (Tm × Tag)) (last : Int) (G : List Nat) : Prop := ∃ f, TS w t h f A last ∧ (∀ y ∈ f, w0.heap.size ≤ y) ∧ Touch [] w0 w ∧ ∀ g ∈ G, g ∉ f ∧ g < w.heap.size ∧ w0.heap.size ≤ g
/-- What a call leaves. -/
def Lft (w0 w : World) (t h : Nat) (A : List (Tm × Tag)) (last : Int) (G : List Nat) (w' : World) : Prop := Avd w0 w' t h A last G ∧ Kept G w w'
theorem Kept.at {G : List Nat} {w w' : World} (k : Kept G w w') {g : Nat} {o : Obj} (hg : g ∈ G) (h : w.heap[g]? = some o) : w'.heap[g]? = some o := by
  obtain ⟨S, ht, hS⟩ := k
  exact ht.at h (hS g hg)
section
variable {w0 w : World} {t h : Nat} {A : List (Tm × Tag)} {last : Int} {G : List Nat}
theorem Avd.abv (k : Avd w0 w t h A last G) : Abv w0 w t h A last := by
  obtain ⟨f, h1, h2, h3, h4⟩ := k
  exact ⟨f, h1, h2, h3⟩
theorem Abv.avoid {w' : World} (k : Abv w0 w t h A last) (ht : Touch [] w w') (hG : ∀ g ∈ G, w.heap.size ≤ g ∧ g < w'.heap.size) : Avd w0 w' t h A last G := by
  obtain ⟨f, h1, h2, h3⟩ := k
  refine ⟨f, h1.touch ht (by simp), h2, h3.trans ht (by simp), fun g hg => ⟨fun e => ?_, (hG g hg).2, Nat.le_trans h3.size (hG g hg).1⟩⟩
  have := h1.lt g e
  have := (hG g hg).1
  omega
theorem Avd.tree (k : Avd w0 w t h A last G) : Tree (A.map Prod.fst) last := k.abv.tree
theorem Avd.due (k : Avd w0 w t h A last G) : ∀ s ∈ A.map Prod.fst, DueOk (A.map Prod.fst) s := k.abv.due
theorem Avd.tt (k : Avd w0 w t h A last G) : Touch [] w0 w := k.abv.tt
/-- The other's own doing. -/
theorem Avd.other {S G' : List Nat} {w' : World} (k : Avd w0 w t h A last G) (ht : Touch S w w') (hS : ∀ y ∈ S, y ∈ G ∨ w.heap.size ≤ y) (hG : ∀ g ∈ G', (g ∈ G ∨ w.heap.size ≤ g) ∧ g < w'.heap.size) : Avd w0 w' t h A last G' := by
  obtain ⟨f, h1, h2, h3, h4⟩ := k
  have hf := h1.lt
  refine ⟨f, h1.touch ht ?_, h2, h3.trans ht ?_, fun g hg => ?_⟩
  · intro y hy e
    rcases hS y e with q | q
    · exact (h4 y q).1 hy
    · have := hf y hy
      omega
  · intro y hy
    rcases hS y hy with q | q
    · exact .inr (h4 y q).2.2
    · exact .inr (Nat.le_trans h3.size q)
  · rcases (hG g hg).1 with q | q
    · exact ⟨(h4 g q).1, (hG g hg).2, (h4 g q).2.2⟩
    · exact ⟨fun e => by have := hf g e; omega, (hG g hg).2, Nat.le_trans h3.size q⟩
theorem Avd.touch {w' : World} (k : Avd w0 w t h A last G) (ht : Touch [] w w') : Lft w0 w t h A last G w' := by
  refine ⟨k.other ht (by simp) (fun g hg => ⟨.inl hg, ?_⟩), [], ht, by simp⟩
  obtain ⟨f, h1, h2, h3, h4⟩ := k
  exact Nat.lt_of_lt_of_le (h4 g hg).2.1 ht.size
theorem Avd.next {f : List Nat} {A' : List (Tm × Tag)} {last' : Int} {w' : World} (h2 : ∀ y ∈ f, w0.heap.size ≤ y) (h3 : Touch [] w0 w) (h4 : ∀ g ∈ G, g ∉ f ∧ g < w.heap.size ∧ w0.heap.size ≤ g) (k : TNext w t h f A' last' w') : Lft w0 w t h A' last' G w' := by
  obtain ⟨f', k1, k2, k3⟩ := k
  refine ⟨⟨f', k1, fun y hy => ?_, h3.trans k3 (fun y hy => .inr (h2 y hy)), fun g hg => ⟨fun e => ?_, Nat.lt_of_lt_of_le (h4 g hg).2.1 k3.size, (h4 g hg).2.2⟩⟩, f, k3, fun g hg => (h4 g hg).1⟩
  · rcases k2 y hy with e | e
    · exact h2 y e
    · exact Nat.le_trans h3.size e
  · rcases k2 g e with e | e
    · exact (h4 g hg).1 e
    · have := (h4 g hg).2.1
      omega
theorem Avd.start (k : Avd w0 w t h A last G) (par due : Int) (x : Tag) (hxo : x.oneCell' = true) (hR : 0 ≤ due ∧ due ≤ maxT) (hl : last < 1000) (hfew : A.length < 1000) (hp : par = 0 ∨ par ∈ tids (A.map Prod.fst)) :
    Calls Tryz.prog 8 #[.pointer (some ⟨t, 0, none⟩), .int .i64 par, .int .u64 due, .agg #[.int .i64 x.a, .int .i64 x.b, .int .i64 x.c]] w fun e w' => e = .returned (.tuple #[.int .i64 (last + 1), .bool true]) ∧ Lft w0 w t h (A ++ [(⟨last + 1, par, due, min due (lim (A.map Prod.fst) par)⟩, x)]) (last + 1) G w' := by
  obtain ⟨f, h1, h2, h3, h4⟩ := k
  exact (h1.start par due x hxo hR hl hfew hp).mono fun e w' ⟨e1, e2⟩ => ⟨e1, Avd.next h2 h3 h4 e2⟩
theorem Avd.start_no (k : Avd w0 w t h A last G) (par due : Int) (x : Tag) (hp : okK par) (h0 : par ≠ 0) (hn : par ∉ tids (A.map Prod.fst)) :
    Calls Tryz.prog 8 #[.pointer (some ⟨t, 0, none⟩), .int .i64 par, .int .u64 due, .agg #[.int .i64 x.a, .int .i64 x.b, .int .i64 x.c]] w fun e w' => e = .returned (.tuple #[.int .i64 0, .bool false]) ∧ Lft w0 w t h A last G w' := by
  have k' := k
  obtain ⟨f, h1, h2, h3, h4⟩ := k
  refine (h1.start_no par due x hp h0 hn).mono ?_
  rintro e w' ⟨rfl, ht⟩
  exact ⟨rfl, k'.touch ht⟩
theorem Avd.deadline (k : Avd w0 w t h A last G) (s : Tm) (hs : s ∈ A.map Prod.fst) :
    Calls Tryz.prog 39 #[.pointer (some ⟨t, 0, none⟩), .int .i64 s.id] w fun e w' => e = .returned (.tuple #[.int .u64 s.due, .bool true]) ∧ Lft w0 w t h A last G w' := by
  have k' := k
  obtain ⟨f, h1, h2, h3, h4⟩ := k
  exact (h1.deadline s hs).mono fun e w' ⟨e1, e2⟩ => ⟨e1, k'.touch e2⟩
theorem Avd.deadline_no (k : Avd w0 w t h A last G) (i : Int) (hi : okK i) (hn : i ∉ tids (A.map Prod.fst)) :
    Calls Tryz.prog 39 #[.pointer (some ⟨t, 0, none⟩), .int .i64 i] w fun e w' => e = .returned (.tuple #[.int .u64 0, .bool false]) ∧ Lft w0 w t h A last G w' := by
  have k' := k
  obtain ⟨f, h1, h2, h3, h4⟩ := k
  refine (h1.deadline_no i hi hn).mono ?_
  rintro e w' ⟨rfl, rfl⟩
  exact ⟨rfl, k'.touch (Touch.refl [] _)⟩
theorem Avd.len (k : Avd w0 w t h A last G) :
    Calls Tryz.prog 35 #[.pointer (some ⟨t, 0, none⟩)] w fun e w' => e = .returned (.int .i64 A.length) ∧ w' = w := k.abv.len
def Cuv (w0 w : World) (t h : Nat) (A : List (Tm × Tag)) (last : Int) (G : List Nat) (i : Int) (l : List Int) (w' : World) : Prop := Sub (A.map Prod.fst) i l ∧ Lft w0 w t h (A.filter fun a => decide (a.1.id ∉ l)) last G w'
theorem Avd.cancel (k : Avd w0 w t h A last G) (i : Int) (hi : i ∈ tids (A.map Prod.fst)) :
    Calls Tryz.prog 14 #[.pointer (some ⟨t, 0, none⟩), .int .i64 i] w fun e w' => ∃ l : List Int, e = .returned (.int .i64 (l.length : Nat)) ∧ Cuv w0 w t h A last G i l w' := by
  obtain ⟨f, h1, h2, h3, h4⟩ := k
  refine (h1.cancel i hi).mono ?_
  rintro e w' ⟨l, rfl, hs, hn⟩
  exact ⟨l, rfl, hs, Avd.next h2 h3 h4 hn⟩
theorem Avd.cancel_no (k : Avd w0 w t h A last G) (i : Int) (hi : okK i) (hn : i ∉ tids (A.map Prod.fst)) :
    Calls Tryz.prog 14 #[.pointer (some ⟨t, 0, none⟩), .int .i64 i] w fun e w' => e = .returned (.int .i64 0) ∧ Lft w0 w t h A last G w' := by
  have k' := k
  obtain ⟨f, h1, h2, h3, h4⟩ := k
  exact (h1.cancel_no i hi hn).mono fun e w' ⟨e1, e2⟩ => ⟨e1, k'.touch e2⟩
theorem Avd.reset (k : Avd w0 w t h A last G) (i r : Int) (hi : i ∈ tids (A.map Prod.fst)) (hr : 0 ≤ r ∧ r ≤ maxT) :
    Calls Tryz.prog 12 #[.pointer (some ⟨t, 0, none⟩), .int .i64 i, .int .u64 r] w fun e w' => e = .returned (.bool true) ∧ ∃ A', Lft w0 w t h A' last G w' ∧ A'.map (fun a => (a.1.id, a.1.par, a.1.req, a.2)) = (A.map fun a => (setReq i r a.1, a.2)).map fun a => (a.1.id, a.1.par, a.1.req, a.2) := by
  obtain ⟨f, ⟨fh, N, hm, rfl, rfl⟩, h2, h3, h4⟩ := k
  rw [ab_fst] at hi
  obtain ⟨n, hn, rfl⟩ := sh_at hi
  refine (reset_any hm n hn r hr).mono ?_
  rintro e w' ⟨rfl, A', h5, h6⟩
  exact ⟨rfl, A', Avd.next h2 h3 h4 h5, h6⟩
theorem Avd.reset_no (k : Avd w0 w t h A last G) (i r : Int) (hi : okK i) (hn : i ∉ tids (A.map Prod.fst)) :
    Calls Tryz.prog 12 #[.pointer (some ⟨t, 0, none⟩), .int .i64 i, .int .u64 r] w fun e w' => e = .returned (.bool false) ∧ Lft w0 w t h A last G w' := by
  have k' := k
  obtain ⟨f, ⟨fh, N, hm, rfl, rfl⟩, h2, h3, h4⟩ := k
  rw [ab_fst] at hn
  refine (Go.Proofs.YtobkanlnnniabaaGreat.G.reset_no hm i r hi hn).mono ?_
  rintro e w' ⟨rfl, rfl⟩
  exact ⟨rfl, k'.touch (Touch.refl [] _)⟩
def Dsv (w0 w : World) (t h : Nat) (A : List (Tm × Tag)) (last : Int) (G : List Nat) (i : Int) (l : List Int) (g off : Nat) (w' : World) : Prop :=
  Sub (A.map Prod.fst) i l ∧ w.heap.size ≤ g ∧ (∀ j x, (upI l.tail)[j]? = some x → w'.cell? ⟨g, off + j, none⟩ = some (.int .i64 x)) ∧ Lft w0 w t h A last G w' ∧ Touch [] w w'
theorem Avd.desc (k : Avd w0 w t h A last G) (i : Int) (hi : i ∈ tids (A.map Prod.fst)) :
    Calls Tryz.prog 40 #[.pointer (some ⟨t, 0, none⟩), .int .i64 i] w fun e w' => ∃ l g off cap, e = .returned (.slice (some ⟨g, off, none⟩) (l.length - 1 : Nat) cap) ∧ Dsv w0 w t h A last G i l g off w' := by
  have k' := k
  obtain ⟨f, ⟨fh, N, hm, rfl, rfl⟩, h2, h3, h4⟩ := k
  unfold Dsv
  rw [ab_fst] at hi ⊢
  obtain ⟨n, hn, rfl⟩ := sh_at hi
  refine (desc_any hm n hn).mono ?_
  rintro e w' ⟨l, g, off, cap, h5, rfl, h6, h7, h8⟩
  exact ⟨l, g, off, cap, rfl, h5, h6, h7, k'.touch h8, h8⟩
theorem Avd.desc_no (k : Avd w0 w t h A last G) (i : Int) (hi : okK i) (hn : i ∉ tids (A.map Prod.fst)) :
    Calls Tryz.prog 40 #[.pointer (some ⟨t, 0, none⟩), .int .i64 i] w fun e w' => e = .returned (.slice none 0 0) ∧ Lft w0 w t h A last G w' ∧ Touch [] w w' := by
  have k' := k
  obtain ⟨f, ⟨fh, N, hm, rfl, rfl⟩, h2, h3, h4⟩ := k
  rw [ab_fst] at hn
  refine (Go.Proofs.YtobkanlnnniabaaGreat.G.desc_no hm i hi hn).mono ?_
  rintro e w' ⟨rfl, rfl⟩
  exact ⟨rfl, k'.touch (Touch.refl [] _), Touch.refl [] _⟩
theorem Avd.expire_empty (k : Avd w0 w t h [] last G) (now : Int) :
    Calls Tryz.prog 10 #[.pointer (some ⟨t, 0, none⟩), .int .u64 now] w fun e w' => e = .returned (.tuple #[.int .i64 0, .agg #[.int .i64 0, .int .i64 0, .int .i64 0], .bool false]) ∧ Lft w0 w t h [] last G w' := by
  have k' := k
  obtain ⟨f, h1, h2, h3, h4⟩ := k
  exact (h1.expire_empty now).mono fun e w' ⟨e1, e2⟩ => ⟨e1, k'.touch e2⟩
theorem Avd.expire_late (k : Avd w0 w t h A last G) (now : Int) (a : Tm × Tag) (ha : a ∈ A) (hmin : ∀ b ∈ A, le (tkey a.1) (tkey b.1)) (hl : now < a.1.due) :
    Calls Tryz.prog 10 #[.pointer (some ⟨t, 0, none⟩), .int .u64 now] w fun e w' => e = .returned (.tuple #[.int .i64 0, .agg #[.int .i64 0, .int .i64 0, .int .i64 0], .bool false]) ∧ Lft w0 w t h A last G w' := by
  have k' := k
  obtain ⟨f, h1, h2, h3, h4⟩ := k
  exact (h1.expire_late now a ha hmin hl).mono fun e w' ⟨e1, e2⟩ => ⟨e1, k'.touch e2⟩
theorem Avd.expire (k : Avd w0 w t h A last G) (now : Int) (a : Tm × Tag) (ha : a ∈ A) (hmin : ∀ b ∈ A, le (tkey a.1) (tkey b.1)) (hl : a.1.due ≤ now) :
    Calls Tryz.prog 10 #[.pointer (some ⟨t, 0, none⟩), .int .u64 now] w fun e w' => e = .returned (.tuple #[.int .i64 a.1.id, .agg #[.int .i64 a.2.a, .int .i64 a.2.b, .int .i64 a.2.c], .bool true]) ∧ ∃ l, Cuv w0 w t h A last G a.1.id l w' := by
  obtain ⟨f, h1, h2, h3, h4⟩ := k
  refine (h1.expire now a ha hmin hl).mono ?_
  rintro e w' ⟨rfl, l, hs, hn⟩
  exact ⟨rfl, l, hs, Avd.next h2 h3 h4 hn⟩
end
end Go.Proofs.YtobkanlnnniabaaGreat.G

/-
  The reference's timers as lists: what is below a timer, what is left without it, which expires first. Plain law; no program in sight.
-/
namespace Go.Proofs.YtobkanlnnniabaaGreat
set_option linter.unusedVariables false
set_option linter.unusedSimpArgs false

theorem uniqI : ∀ {a b : List Int}, a.Pairwise (· < ·) → b.Pairwise (· < ·) → (∀ x, x ∈ a ↔ x ∈ b) → a = b
  | [], [], _, _, _ => rfl
  | [], y :: b, _, _, h => absurd ((h y).2 (by simp)) (by simp)
  | x :: a, [], _, _, h => absurd ((h x).1 (by simp)) (by simp)
  | x :: a, y :: b, h1, h2, h => by
    rw [List.pairwise_cons] at h1 h2
    have hxy : x = y := by
      rcases List.mem_cons.1 ((h x).1 (by simp)) with e | e
      · exact e
      · rcases List.mem_cons.1 ((h y).2 (by simp)) with e' | e'
        · exact e'.symm
        · have := h1.1 y e'
          have := h2.1 x e
          omega
    subst hxy
    rw [uniqI h1.2 h2.2]
    intro z
    constructor
    · intro hz
      rcases List.mem_cons.1 ((h z).1 (List.mem_cons_of_mem _ hz)) with e | e
      · have := h1.1 z hz
        omega
      · exact e
    · intro hz
      rcases List.mem_cons.1 ((h z).2 (List.mem_cons_of_mem _ hz)) with e | e
      · have := h2.1 z hz
        omega
      · exact e
theorem upI_sorted {l : List Int} (hn : l.Nodup) : (upI l).Pairwise (· < ·) := by
  have h1 : (upI l).Pairwise (fun x y => (decide (x ≤ y)) = true) := List.pairwise_mergeSort (by intro a b c; simp; omega) (by intro a b; simp; omega) l
  have h2 : (upI l).Nodup := (List.mergeSort_perm l _).nodup_iff.2 hn
  refine (List.Pairwise.and h1 h2).imp fun {a b} h => ?_
  have := h.1
  have := h.2
  simp only [decide_eq_true_eq] at *
  omega
section
variable {N : List Tm} {last : Int} {id : Int} {l : List Int}
theorem Sub.par (h : Tree N last) (b : Sub N id l) {n : Tm} (hn : n ∈ N) (hne : n.id ≠ id) : n.id ∈ l ↔ n.par ∈ l := by
  constructor
  · intro hl
    have hu := (b.iff n.id).1 hl
    generalize hm : n.id = m at hu hne
    cases hu with
    | self _ => exact absurd rfl hne
    | kid hp hk =>
      obtain ⟨q, hq, e1, e2⟩ := mem_kids.1 hk
      have := tm_inj h.nodup hq hn (e2.trans hm.symm)
      subst this
      rw [e1]
      exact (b.iff _).2 hp
  · intro hl
    exact b.closed hl (mem_kids.2 ⟨n, hn, rfl, rfl⟩)
theorem Sub.cons (b : Sub N id l) : l = id :: l.tail := by
  have := b.head
  cases l with
  | nil => simp at this
  | cons a r => simp at this; subst this; rfl
theorem Sub.tail (b : Sub N id l) (k : Int) : k ∈ l.tail ↔ k ∈ l ∧ k ≠ id := by
  have hn := b.nodup
  have he := b.cons
  rw [he, List.nodup_cons] at hn
  constructor
  · intro hk
    exact ⟨by rw [he]; exact List.mem_cons_of_mem _ hk, fun e => hn.1 (e ▸ hk)⟩
  · rintro ⟨h1, h2⟩
    rw [he] at h1
    rcases List.mem_cons.1 h1 with rfl | h
    · exact absurd rfl h2
    · exact h
/-- The handles below a timer, in the list's order. -/
def descN (N : List Tm) (l : List Int) : List Int := (N.filter fun n => decide (n.id ∈ l.tail)).map Tm.id
theorem desc_sorted (h : Tree N last) (l : List Int) : (descN N l).Pairwise (· < ·) := by
  unfold descN
  rw [List.pairwise_map]
  exact h.sorted.sublist List.filter_sublist
theorem mem_desc (b : Sub N id l) {k : Int} : k ∈ descN N l ↔ k ∈ l.tail := by
  unfold descN
  rw [List.mem_map]
  constructor
  · rintro ⟨n, hn, rfl⟩
    simpa using (List.mem_filter.1 hn).2
  · intro hk
    obtain ⟨n, hn, rfl⟩ := List.mem_map.1 (b.mem k ((b.tail k).1 hk).1)
    exact ⟨n, List.mem_filter.2 ⟨hn, by simpa using hk⟩, rfl⟩
theorem tail_nodup (b : Sub N id l) : l.tail.Nodup := by
  have hn := b.nodup
  rw [b.cons, List.nodup_cons] at hn
  exact hn.2
theorem desc_up (h : Tree N last) (b : Sub N id l) : upI l.tail = descN N l := by
  refine uniqI (upI_sorted (tail_nodup b)) (desc_sorted h l) fun x => ?_
  rw [mem_desc b]
  exact (List.mergeSort_perm l.tail _).mem_iff
theorem desc_len (h : Tree N last) (b : Sub N id l) : (descN N l).length + 1 = l.length := by
  rw [← desc_up h b, upI_len]
  have := congrArg List.length b.cons
  simp only [List.length_cons] at this
  omega
/-- What Cancel of the reference removes, in its order. -/
def canN (N : List Tm) (id : Int) (l : List Int) : List Int := descN N l ++ [id]
theorem can_mem (b : Sub N id l) (k : Int) : k ∈ canN N id l ↔ k ∈ l := by
  unfold canN
  rw [List.mem_append, mem_desc b, b.tail]
  constructor
  · rintro (h | h)
    · exact h.1
    · simp at h; subst h; exact List.mem_of_getElem? b.head
  · intro h
    by_cases e : k = id
    · exact .inr (by simp [e])
    · exact .inl ⟨h, e⟩
theorem can_nodup (h : Tree N last) (b : Sub N id l) : (canN N id l).Nodup := by
  unfold canN
  rw [List.nodup_append]
  refine ⟨(desc_sorted h l).imp fun {a b} h e => by omega, by simp, fun a ha c hc e => ?_⟩
  simp at hc
  subst hc
  subst e
  exact (((b.tail a).1 ((mem_desc b).1 ha)).2 rfl)
theorem can_len (h : Tree N last) (b : Sub N id l) : (canN N id l).length = l.length := by
  unfold canN
  have := desc_len h b
  simp
  omega
end
section
variable {α : Type} {C : List (Tm × α)}
theorem cut_at : ∀ {C : List (Tm × α)} {k : Nat} {a : Tm × α}, (C.map fun a => a.1.id).Nodup → C[k]? = some a → C.take k ++ C.drop (k + 1) = C.filter fun b => decide (b.1.id ≠ a.1.id)
  | [], k, a, _, h => by simp at h
  | c :: C, 0, a, hn, h => by
    simp at h
    subst h
    simp only [List.map_cons, List.nodup_cons] at hn
    simp only [List.take_zero, List.nil_append, List.drop_succ_cons, List.drop_zero]
    rw [List.filter_cons_of_neg (by simp)]
    symm
    rw [List.filter_eq_self]
    intro b hb
    simp only [decide_eq_true_eq]
    intro e
    exact hn.1 (List.mem_map.2 ⟨b, hb, e⟩)
  | c :: C, k + 1, a, hn, h => by
    simp only [List.map_cons, List.nodup_cons] at hn
    simp only [List.getElem?_cons_succ] at h
    simp only [List.take_succ_cons, List.drop_succ_cons, List.cons_append]
    rw [List.filter_cons_of_pos, cut_at hn.2 h]
    simp only [decide_eq_true_eq]
    intro e
    exact hn.1 (List.mem_map.2 ⟨a, List.mem_of_getElem? h, e.symm⟩)
def cutR (A : List (Tm × α)) (l : List Int) (j : Nat) : List (Tm × α) := A.filter fun a => decide (a.1.id ∉ l.take j)
theorem cutR_zero (A : List (Tm × α)) (l : List Int) : cutR A l 0 = A := by simp [cutR]
theorem cutR_step {A : List (Tm × α)} {l : List Int} {j : Nat} {i : Int} (hj : l[j]? = some i) : (cutR A l j).filter (fun a => decide (a.1.id ≠ i)) = cutR A l (j + 1) := by
  have ht : l.take (j + 1) = l.take j ++ [i] := by
    rw [List.take_add_one, hj]
    rfl
  unfold cutR
  rw [List.filter_filter, ht]
  refine List.filter_congr fun a _ => ?_
  by_cases h1 : a.1.id = i <;> by_cases h2 : a.1.id ∈ l.take j <;> simp [h1, h2]
theorem cutR_all {A : List (Tm × α)} {l : List Int} : cutR A l l.length = A.filter fun a => decide (a.1.id ∉ l) := by simp [cutR]
theorem cutR_in {A : List (Tm × α)} {l : List Int} {j : Nat} {i : Int} (hn : l.Nodup) (hj : l[j]? = some i) {a : Tm × α} (ha : a ∈ A) (e : a.1.id = i) : a ∈ cutR A l j := by
  refine List.mem_filter.2 ⟨ha, ?_⟩
  simp only [decide_eq_true_eq]
  intro hm
  obtain ⟨q, hq⟩ := List.mem_iff_getElem?.1 hm
  rw [List.getElem?_take] at hq
  split at hq
  · rename_i hlt
    have := nodup_at hn hj (e ▸ hq)
    omega
  · cases hq
end
/-- The first of the first i timers that expires, and when. -/
def FirstOk (N : List Tm) (i : Nat) (at' : Int) (best : Int) : Prop :=
  (i = 0 ∧ at' = -1 ∧ best = maxT) ∨ ∃ (k : Nat) (a : Tm), at' = (k : Int) ∧ k < i ∧ N[k]? = some a ∧ best = a.due ∧ ∀ (j : Nat) (b : Tm), j < i → N[j]? = some b → a.due < b.due ∨ (a.due = b.due ∧ a.id ≤ b.id)
theorem FirstOk.hit {N : List Tm} {last : Int} (h : Tree N last) {i : Nat} {at' best : Int} (k : FirstOk N i at' best) {b : Tm} (hb : N[i]? = some b) (hc : at' < 0 ∨ b.due < best) : FirstOk N (i + 1) ((i : Nat) : Int) b.due := by
  refine .inr ⟨i, b, rfl, by omega, hb, rfl, fun j c hj hc2 => ?_⟩
  by_cases e : j = i
  · subst e
    rw [hb] at hc2
    cases hc2
    exact .inr ⟨rfl, Int.le_refl _⟩
  · rcases k with ⟨rfl, _, _⟩ | ⟨k, a, rfl, hk, ha, rfl, hm⟩
    · omega
    · have h1 := hm j c (by omega) hc2
      omega
theorem FirstOk.miss {N : List Tm} {last : Int} (h : Tree N last) {i : Nat} {at' best : Int} (k : FirstOk N i at' best) {b : Tm} (hb : N[i]? = some b) (h0 : ¬ at' < 0) (h1 : ¬ b.due < best) : FirstOk N (i + 1) at' best := by
  rcases k with ⟨rfl, rfl, _⟩ | ⟨k, a, rfl, hk, ha, rfl, hm⟩
  · omega
  · refine .inr ⟨k, a, rfl, by omega, ha, rfl, fun j c hj hc2 => ?_⟩
    by_cases e : j = i
    · subst e
      rw [hb] at hc2
      cases hc2
      have : a.id < b.id := by
        obtain ⟨q1, e1⟩ := List.getElem?_eq_some_iff.1 ha
        obtain ⟨q2, e2⟩ := List.getElem?_eq_some_iff.1 hb
        have := List.pairwise_iff_getElem.1 h.sorted k j q1 q2 hk
        rwa [e1, e2] at this
      omega
    · exact hm j c (by omega) hc2
theorem first_some {N : List Tm} {at' best : Int} (k : FirstOk N N.length at' best) (hne : N ≠ []) : ∃ (k : Nat) (a : Tm), at' = ((k : Nat) : Int) ∧ N[k]? = some a ∧ ∀ b ∈ N, a.due < b.due ∨ (a.due = b.due ∧ a.id ≤ b.id) := by
  rcases k with ⟨h, _, _⟩ | ⟨k, a, rfl, hk, ha, _, hm⟩
  · exact absurd (List.length_eq_zero_iff.1 h) hne
  · refine ⟨k, a, rfl, ha, fun b hb => ?_⟩
    obtain ⟨j, hj⟩ := List.mem_iff_getElem?.1 hb
    exact hm j b (List.getElem?_eq_some_iff.1 hj).1 hj
/-- There is one that expires first. -/
theorem first_there {N : List Tm} {last : Int} (h : Tree N last) (hne : N ≠ []) : ∃ (k : Nat) (a : Tm), N[k]? = some a ∧ ∀ b ∈ N, a.due < b.due ∨ (a.due = b.due ∧ a.id ≤ b.id) := by
  have key : ∀ i, i ≤ N.length → ∃ at' best, FirstOk N i at' best := by
    intro i
    induction i with
    | zero => intro _; exact ⟨_, _, .inl ⟨rfl, rfl, rfl⟩⟩
    | succ i ih =>
      intro hi
      obtain ⟨at', best, k⟩ := ih (by omega)
      have hb := List.getElem?_eq_getElem (show i < N.length by omega)
      by_cases h0 : at' < 0
      · exact ⟨_, _, k.hit h hb (.inl h0)⟩
      · by_cases h1 : (N[i]'(by omega)).due < best
        · exact ⟨_, _, k.hit h hb (.inr h1)⟩
        · exact ⟨_, _, k.miss h hb h0 h1⟩
  obtain ⟨at', best, k⟩ := key N.length (Nat.le_refl _)
  obtain ⟨q, a, _, h1, h2⟩ := first_some k hne
  exact ⟨q, a, h1, h2⟩
theorem first_uniq {N : List Tm} (hn : (tids N).Nodup) {a b : Tm} (ha : a ∈ N) (hb : b ∈ N) (h1 : ∀ c ∈ N, a.due < c.due ∨ (a.due = c.due ∧ a.id ≤ c.id)) (h2 : ∀ c ∈ N, b.due < c.due ∨ (b.due = c.due ∧ b.id ≤ c.id)) : a = b := by
  have q1 := h1 b hb
  have q2 := h2 a ha
  exact tm_inj hn ha hb (by omega)
end Go.Proofs.YtobkanlnnniabaaGreat

/-
  The reference's timers in memory; Find, Deadline, First, NextDeadline: they read alone.
-/
namespace Go.Proofs.YtobkanlnnniabaaGreat.G
open Go.RowKit
set_option linter.unusedVariables false
set_option linter.unusedSimpArgs false

abbrev TA := List (Tm × Tag)
def encA (a : Tm × Tag) : List Value := [.int .i64 a.1.id, .int .i64 a.1.par, .int .u64 a.1.req, .int .i64 a.2.a, .int .i64 a.2.b, .int .i64 a.2.c]
def rA (A : TA) : List (List Value) := A.map encA
theorem rA_len (A : TA) : (rA A).length = A.length := by simp [rA]
theorem rA_lens (A : TA) : ∀ x ∈ rA A, x.length = 6 := by
  intro x hx
  obtain ⟨a, _, rfl⟩ := List.mem_map.1 hx
  rfl
theorem encA_one (a : Tm × Tag) : ∀ u ∈ encA a, u.oneCell' = true := by
  intro u hu
  simp only [encA, List.mem_cons, List.not_mem_nil, or_false] at hu
  rcases hu with rfl | rfl | rfl | rfl | rfl | rfl <;> rfl
theorem rA_ones (A : TA) : ∀ u ∈ (rA A).flatten, u.oneCell' = true := by
  intro u hu
  obtain ⟨x, hx, hu⟩ := List.mem_flatten.1 hu
  obtain ⟨a, _, rfl⟩ := List.mem_map.1 hx
  exact encA_one a u hu
/-- The reference at r: its list v and the last handle. -/
structure RL (w : World) (r : Nat) (v : Value) (A : TA) (last : Int) : Prop where
  hdr : w.heap[r]? = some (.cells #[v, .int .i64 last] 30 (0, 0))
  row : w.ownsRow 0 60 6 v (rA A).length (rA A).flatten
  hv : v.ownBlock ≠ some r
  few : A.length ≤ 1000
def RFoot (r : Nat) (v : Value) : List Nat := r :: v.ownBlock.toList
section
variable {w : World} {r : Nat} {v : Value} {A : TA} {last : Int}
theorem RL.lt (k : RL w r v A last) : ∀ y ∈ RFoot r v, y < w.heap.size := by
  intro y hy
  simp only [RFoot, List.mem_cons, Option.mem_toList] at hy
  rcases hy with rfl | hy
  · exact (Array.getElem?_eq_some_iff.1 k.hdr).1
  · exact (k.row.lt y hy).2
theorem RL.touch {S : List Nat} {w' : World} (k : RL w r v A last) (t : Touch S w w') (hS : ∀ y ∈ RFoot r v, y ∉ S) : RL w' r v A last :=
  ⟨t.at k.hdr (hS _ (by simp [RFoot])), t.owns k.row (fun g hg => hS g (by simp [RFoot, hg])), k.hv, k.few⟩
theorem RL.touch0 {w' : World} (k : RL w r v A last) (t : Touch [] w w') : RL w' r v A last := k.touch t (by simp)
theorem RL.c0 (k : RL w r v A last) : w.cell? ⟨r, 0, none⟩ = some v := by simp [World.cell?, k.hdr]
theorem RL.c1 (k : RL w r v A last) : w.cell? ⟨r, 1, none⟩ = some (.int .i64 last) := by simp [World.cell?, k.hdr]
theorem RL.rd (k : RL w r v A last) : Rd w 6 (v.ownBlock.getD 0) v (rA A) := Rd.of_owns (rA_lens A) k.row (fun b hb => by simp [hb])
theorem Rd.atA {b n cap : Nat} {a : Option Addr} (h : Rd w 6 b (.slice a n cap) (rA A)) {i : Nat} {o : Tm × Tag} (hi : A[i]? = some o) :
    ∃ off, a = some ⟨b, off, none⟩ ∧ w.rangeAt b (off + i * 6) (encA o) := by
  obtain ⟨off, ha, hat⟩ := h.at (by intro e; rw [rA, List.map_eq_nil_iff] at e; subst e; simp at hi)
  exact ⟨off, ha, hat i (encA o) (by simp [rA, hi])⟩
theorem cellsA {g f : Nat} {a : Tm × Tag} (h : w.rangeAt g f (encA a)) : w.cell? ⟨g, f, none⟩ = some (.int .i64 a.1.id) ∧ w.cell? ⟨g, f + 1, none⟩ = some (.int .i64 a.1.par) ∧ w.cell? ⟨g, f + 2, none⟩ = some (.int .u64 a.1.req) ∧ w.rangeAt g (f + 3) [.int .i64 a.2.a, .int .i64 a.2.b, .int .i64 a.2.c] := by
  refine ⟨by simpa using h 0 _ rfl, h 1 _ rfl, h 2 _ rfl, fun i u hu => ?_⟩
  have := h (3 + i) u (by rw [Nat.add_comm]; exact hu)
  rw [← Nat.add_assoc] at this
  exact this
def ids (A : TA) : List Int := tids (A.map Prod.fst)
theorem mem_ids {i : Int} : i ∈ ids A ↔ ∃ a ∈ A, a.1.id = i := by
  unfold ids tids
  rw [List.map_map]
  exact List.mem_map
set_option maxRecDepth 100000 in
set_option maxHeartbeats 4000000 in
theorem find_any (k : RL w r v A last) (id : Int) :
    Calls Tryz.prog 23 #[.pointer (some ⟨r, 0, none⟩), .int .i64 id] w fun e w' => ((∃ (i : Nat) (a : Tm × Tag), A[i]? = some a ∧ a.1.id = id ∧ e = .returned (.int .i64 (i : Int))) ∨ (id ∉ ids A ∧ e = .returned (.int .i64 (-1)))) ∧ w = w' := by
  have hr := k.rd
  generalize v.ownBlock.getD 0 = b at hr
  have c0 := k.c0
  have hfew := k.few
  clear k
  obtain ⟨a, cap, rfl, hc, hcm⟩ := hr.form
  rw [rA_len] at hc hr c0
  clear hcm
  go_enter Tryz.func23, Tryz.ntmps23
  go_wp2_with fail
  go_loopw [5] (fun vi wr => ∃ (i : Nat), vi = .int .i64 i ∧ i ≤ A.length ∧ wr = w ∧ ∀ j b, j < i → A[j]? = some b → b.1.id ≠ id) (fun vi _ => A.length - (intOf vi).toNat)
  case atStart => exact ⟨0, rfl, by omega, rfl, fun j b hj => by omega⟩
  case round =>
    obtain ⟨i, rfl, hil, hw, hno⟩ := hrel
    subst hw
    have HNO := Lib.hid hno
    clear hno
    by_cases hlt : i < A.length
    · have hb1 : (i : Int) < (A.length : Int) := by omega
      have hx := List.getElem?_eq_getElem hlt
      generalize A[i] = o at hx
      obtain ⟨off, rfl, rI⟩ := Rd.atA hr hx
      obtain ⟨e0, _, _, _⟩ := cellsA rI
      have HX := Lib.hid hx
      have hwi : IntKind.i64.wrap ((i : Int) + 1) = (i : Int) + 1 := by rw [IntKind.wrap_i64] <;> omega
      clear hx
      by_cases hcc : o.1.id = id
      · have q1 : (o.1.id == id) = true := by simp [hcc]
        have HC := Lib.hid hcc
        clear hcc
        go_wp2_with fail
        go_ret
        exact ⟨.inl ⟨i, o, HX.out, HC.out, rfl⟩, rfl⟩
      · have q1 : (o.1.id == id) = false := by simp [hcc]
        have HC := Lib.hid hcc
        clear hcc
        go_wp2_with fail
        go_roundw
        case rel =>
          refine ⟨i + 1, by simp, by omega, by trivial, fun j b hj hb => ?_⟩
          by_cases e : j = i
          · subst e
            rw [HX.out] at hb
            cases hb
            exact HC.out
          · exact HNO.out j b (by omega) hb
        case measure => simp [intOf] <;> omega
    · have hb1 : ¬ (i : Int) < (A.length : Int) := by omega
      go_wp2_with fail
      go_ret
      refine ⟨.inr ⟨fun hm => ?_, rfl⟩, rfl⟩
      obtain ⟨b, hb, e⟩ := mem_ids.1 hm
      obtain ⟨j, hj⟩ := List.mem_iff_getElem?.1 hb
      exact HNO.out j b (by have := (List.getElem?_eq_some_iff.1 hj).1; omega) hj e
theorem idx_uniq (hn : (ids A).Nodup) {i j : Nat} {a b : Tm × Tag} (hi : A[i]? = some a) (hj : A[j]? = some b) (e : a.1.id = b.1.id) : i = j := by
  refine nodup_at (l := ids A) hn (a := b.1.id) ?_ ?_
  · simp [ids, tids, hi, e]
  · simp [ids, tids, hj]
theorem find_at (k : RL w r v A last) (hn : (ids A).Nodup) {i : Nat} {a : Tm × Tag} (hi : A[i]? = some a) :
    Calls Tryz.prog 23 #[.pointer (some ⟨r, 0, none⟩), .int .i64 a.1.id] w fun e w' => e = .returned (.int .i64 (i : Int)) ∧ w = w' := by
  refine (find_any k a.1.id).mono ?_
  rintro e w' ⟨⟨j, b, hb, he, rfl⟩ | ⟨hno, rfl⟩, rfl⟩
  · rw [idx_uniq hn hb hi he]
    exact ⟨rfl, rfl⟩
  · exact absurd (mem_ids.2 ⟨a, List.mem_of_getElem? hi, rfl⟩) hno
theorem find_no (k : RL w r v A last) {id : Int} (hi : id ∉ ids A) :
    Calls Tryz.prog 23 #[.pointer (some ⟨r, 0, none⟩), .int .i64 id] w fun e w' => e = .returned (.int .i64 (-1)) ∧ w = w' := by
  refine (find_any k id).mono ?_
  rintro e w' ⟨⟨j, b, hb, he, rfl⟩ | ⟨hno, rfl⟩, rfl⟩
  · exact absurd (mem_ids.2 ⟨b, List.mem_of_getElem? hb, he⟩) hi
  · exact ⟨rfl, rfl⟩
/-- What the list is as a tree of timers. -/
structure TOk (A : TA) (last : Int) : Prop where
  tree : Tree (A.map Prod.fst) last
  due : ∀ s ∈ A.map Prod.fst, DueOk (A.map Prod.fst) s
  req : ∀ a ∈ A, 0 ≤ a.1.req ∧ a.1.req ≤ maxT
theorem TOk.ids (h : TOk A last) : (ids A).Nodup := h.tree.nodup
theorem TOk.up (h : TOk A last) {i : Nat} {a : Tm × Tag} (hi : A[i]? = some a) (hp : a.1.par ∈ G.ids A) : ∃ (j : Nat) (p : Tm × Tag), A[j]? = some p ∧ p.1.id = a.1.par ∧ j < i ∧ a.1.due = min a.1.req p.1.due := by
  obtain ⟨p, hpA, e⟩ := mem_ids.1 hp
  obtain ⟨j, hj⟩ := List.mem_iff_getElem?.1 hpA
  refine ⟨j, p, hj, e, ?_, ?_⟩
  · have h1 := h.tree.up a.1 (List.mem_map.2 ⟨a, List.mem_of_getElem? hi, rfl⟩)
    rcases Nat.lt_or_ge j i with h2 | h2
    · exact h2
    · exfalso
      obtain ⟨q1, e1⟩ := List.getElem?_eq_some_iff.1 hi
      obtain ⟨q2, e2⟩ := List.getElem?_eq_some_iff.1 hj
      rcases Nat.lt_or_ge i j with h3 | h3
      · have := List.pairwise_iff_getElem.1 h.tree.sorted i j (by simpa using q1) (by simpa using q2) h3
        simp only [List.getElem_map] at this
        rw [e1, e2] at this
        omega
      · have : i = j := by omega
        subst this
        rw [hi] at hj
        cases hj
        omega
  · have h1 := h.due a.1 (List.mem_map.2 ⟨a, List.mem_of_getElem? hi, rfl⟩)
    unfold DueOk at h1
    rw [h1, ← e, lim_mem h.tree.nodup (List.mem_map.2 ⟨p, hpA, rfl⟩)]
theorem TOk.root (h : TOk A last) {a : Tm × Tag} (ha : a ∈ A) (hp : a.1.par ∉ G.ids A) : a.1.due = min a.1.req maxT := by
  have h1 := h.due a.1 (List.mem_map.2 ⟨a, ha, rfl⟩)
  unfold DueOk at h1
  rw [h1, lim_no hp]
theorem TOk.max (h : TOk A last) {a : Tm × Tag} (ha : a ∈ A) : a.1.due ≤ maxT := by
  have h1 := h.due a.1 (List.mem_map.2 ⟨a, ha, rfl⟩)
  have := (h.req a ha).2
  unfold DueOk at h1
  omega
set_option maxRecDepth 100000 in
set_option maxHeartbeats 4000000 in
theorem dl_at (k : RL w r v A last) (h : TOk A last) {i0 : Nat} {a : Tm × Tag} (hi0 : A[i0]? = some a) :
    Calls Tryz.prog 26 #[.pointer (some ⟨r, 0, none⟩), .int .i64 a.1.id] w fun e w' => e = .returned (.tuple #[.int .u64 a.1.due, .bool true]) ∧ w = w' := by
  have HK := Lib.hid k
  have HO := Lib.hid h
  have hr := k.rd
  generalize v.ownBlock.getD 0 = b at hr
  have c0 := k.c0
  have hfew := k.few
  have hil0 := (List.getElem?_eq_some_iff.1 hi0).1
  have HI0 := Lib.hid hi0
  have hmax : a.1.due ≤ 18446744073709551615 := h.max (List.mem_of_getElem? hi0)
  clear k h hi0
  obtain ⟨a', cap, rfl, hc, hcm⟩ := hr.form
  rw [rA_len] at hc hr c0
  clear hcm
  go_enter Tryz.func26, Tryz.ntmps26
  go_wp2_with fail
  refine (find_at HK.out HO.out.ids HI0.out).mono ?_
  rintro e w' ⟨rfl, hw⟩
  obtain rfl := hw
  go_wp2_with fail
  go_loopw [6, 7] (fun vi vd wr => wr = w ∧ ((∃ (i : Nat) (n : Tm × Tag) (acc : Int), vi = .int .i64 (i : Int) ∧ vd = .int .u64 acc ∧ A[i]? = some n ∧ acc ≤ 18446744073709551615 ∧ min acc n.1.due = a.1.due) ∨ (vi = .int .i64 (-1) ∧ vd = .int .u64 a.1.due))) (fun vi _ _ => (intOf vi + 1).toNat)
  case atStart => exact ⟨rfl, .inl ⟨i0, a, _, rfl, rfl, HI0.out, by omega, by omega⟩⟩
  case round =>
    obtain ⟨hw, ⟨i, n, acc, rfl, rfl, hx, hacc, hmin⟩ | ⟨rfl, rfl⟩⟩ := hrel
    · subst hw
      have hil := (List.getElem?_eq_some_iff.1 hx).1
      obtain ⟨off, rfl, rI⟩ := Rd.atA hr hx
      obtain ⟨_, e1, e2, _⟩ := cellsA rI
      have HX := Lib.hid hx
      have HM := Lib.hid hmin
      have hb1 : (0 : Int) ≤ (i : Int) := by omega
      have hb2 : (i : Int) < (A.length : Int) := by omega
      clear hx hmin
      go_wp2_with fail
      by_cases hp : n.1.par ∈ ids A
      · obtain ⟨j, p, hj, hpe, hji, hdue⟩ := HO.out.up HX.out hp
        rw [← hpe]
        refine (find_at HK.out HO.out.ids hj).mono ?_
        rintro e w' ⟨rfl, hw⟩
        obtain rfl := hw
        have HR := Lib.hid (show min (min acc n.1.req) p.1.due = a.1.due by have := HM.out; omega)
        have HJ := Lib.hid hj
        clear hj hdue
        go_wp2_with fail
        go_roundw
        case rel => exact ⟨by trivial, .inl ⟨j, p, _, rfl, rfl, HJ.out, by omega, HR.out⟩⟩
        case measure => simp [intOf] <;> omega
      · refine (find_no HK.out hp).mono ?_
        rintro e w' ⟨rfl, hw⟩
        obtain rfl := hw
        have HR := Lib.hid (show min acc n.1.req = a.1.due by
          have h1 := HM.out
          have h2 := HO.out.root (List.mem_of_getElem? HX.out) hp
          unfold maxT at h2
          omega)
        go_wp2_with fail
        go_roundw
        case rel => exact ⟨by trivial, .inr ⟨rfl, by rw [HR.out]⟩⟩
        case measure => simp [intOf] <;> omega
    · subst hw
      go_wp2_with fail
      go_ret2
      exact ⟨rfl, rfl⟩
set_option maxRecDepth 100000 in
set_option maxHeartbeats 4000000 in
theorem dl_no (k : RL w r v A last) {id : Int} (hi : id ∉ ids A) :
    Calls Tryz.prog 26 #[.pointer (some ⟨r, 0, none⟩), .int .i64 id] w fun e w' => e = .returned (.tuple #[.int .u64 0, .bool false]) ∧ w = w' := by
  have HF := Lib.hid (find_no k hi)
  clear k
  go_enter Tryz.func26, Tryz.ntmps26
  go_wp2_with fail
  refine HF.out.mono ?_
  rintro e w' ⟨rfl, hw⟩
  obtain rfl := hw
  go_wp2_with fail
  go_ret2
  exact ⟨rfl, rfl⟩
theorem fsts_at {i : Nat} {a : Tm × Tag} (h : A[i]? = some a) : (A.map Prod.fst)[i]? = some a.1 := by simp [h]
set_option maxRecDepth 100000 in
set_option maxHeartbeats 4000000 in
theorem first_any (k : RL w r v A last) (h : TOk A last) :
    Calls Tryz.prog 25 #[.pointer (some ⟨r, 0, none⟩)] w fun e w' => (∃ at' best, FirstOk (A.map Prod.fst) A.length at' best ∧ e = .returned (.int .i64 at')) ∧ w = w' := by
  have HK := Lib.hid k
  have HO := Lib.hid h
  have hr := k.rd
  generalize v.ownBlock.getD 0 = b at hr
  have c0 := k.c0
  have hfew := k.few
  clear k h
  obtain ⟨a', cap, rfl, hc, hcm⟩ := hr.form
  rw [rA_len] at hc hr c0
  clear hcm
  go_enter Tryz.func25, Tryz.ntmps25
  go_wp2_with fail
  go_loopw [3, 4, 5, 6] (fun va vb vi _ wr => wr = w ∧ ∃ (i : Nat) (at' best : Int), vi = .int .i64 (i : Int) ∧ va = .int .i64 at' ∧ vb = .int .u64 best ∧ i ≤ A.length ∧ FirstOk (A.map Prod.fst) i at' best) (fun _ _ vi _ _ => A.length - (intOf vi).toNat)
  case atStart => exact ⟨rfl, 0, -1, _, rfl, rfl, rfl, by omega, .inl ⟨rfl, rfl, rfl⟩⟩
  case round =>
    obtain ⟨hw, i, at', best, rfl, rfl, rfl, hil, hf⟩ := hrel
    subst hw
    have HF := Lib.hid hf
    clear hf
    by_cases hlt : i < A.length
    · have hb1 : (i : Int) < (A.length : Int) := by omega
      have hx := List.getElem?_eq_getElem hlt
      generalize A[i] = o at hx
      obtain ⟨off, rfl, rI⟩ := Rd.atA hr hx
      obtain ⟨e0, _, _, _⟩ := cellsA rI
      have HX := Lib.hid hx
      have hwi : IntKind.i64.wrap ((i : Int) + 1) = (i : Int) + 1 := by rw [IntKind.wrap_i64] <;> omega
      clear hx
      go_wp2_with fail
      refine (dl_at HK.out HO.out HX.out).mono ?_
      rintro e w' ⟨rfl, hw⟩
      obtain rfl := hw
      by_cases h0 : at' < 0
      · have HR := Lib.hid (HF.out.hit HO.out.tree (fsts_at HX.out) (.inl h0))
        go_wp2_with fail
        go_roundw
        case rel => exact ⟨by trivial, i + 1, _, _, by simp, rfl, rfl, by omega, HR.out⟩
        case measure => simp [intOf] <;> omega
      · by_cases h1 : o.1.due < best
        · have HR := Lib.hid (HF.out.hit HO.out.tree (fsts_at HX.out) (.inr h1))
          go_wp2_with fail
          go_roundw
          case rel => exact ⟨by trivial, i + 1, _, _, by simp, rfl, rfl, by omega, HR.out⟩
          case measure => simp [intOf] <;> omega
        · have HR := Lib.hid (HF.out.miss HO.out.tree (fsts_at HX.out) h0 h1)
          go_wp2_with fail
          go_roundw
          case rel => exact ⟨by trivial, i + 1, _, _, by simp, rfl, rfl, by omega, HR.out⟩
          case measure => simp [intOf] <;> omega
    · have hb1 : ¬ (i : Int) < (A.length : Int) := by omega
      have hie : i = A.length := by omega
      subst hie
      go_wp2_with fail
      go_ret
      exact ⟨⟨_, ⟨_, HF.out⟩, rfl⟩, rfl⟩
/-- The one that expires first. -/
def Fst (A : TA) (a : Tm × Tag) : Prop := ∀ b ∈ A, le (tkey a.1) (tkey b.1)
theorem first_at (k : RL w r v A last) (h : TOk A last) {i : Nat} {a : Tm × Tag} (hi : A[i]? = some a) (hm : Fst A a) :
    Calls Tryz.prog 25 #[.pointer (some ⟨r, 0, none⟩)] w fun e w' => e = .returned (.int .i64 (i : Int)) ∧ w = w' := by
  refine (first_any k h).mono ?_
  rintro e w' ⟨⟨at', best, hf, rfl⟩, rfl⟩
  have hl : A.length = (A.map Prod.fst).length := by simp
  rw [hl] at hf
  have hne : A.map Prod.fst ≠ [] := by
    intro e
    have := List.getElem?_eq_some_iff.1 (fsts_at hi)
    rw [e] at this
    obtain ⟨q, _⟩ := this
    simp at q
  obtain ⟨j, b, rfl, hj, hb⟩ := first_some hf hne
  have hab : a.1 = b := by
    refine first_uniq h.tree.nodup (List.mem_map.2 ⟨a, List.mem_of_getElem? hi, rfl⟩) (List.mem_of_getElem? hj) ?_ hb
    intro c hc
    obtain ⟨c', hc', rfl⟩ := List.mem_map.1 hc
    exact hm c' hc'
  have : i = j := nodup_at h.tree.nodup (a := b.id) (by simp [tids, hi, hab]) (by
    have : (tids (A.map Prod.fst))[j]? = some b.id := by
      unfold tids
      rw [List.getElem?_map, hj]
      rfl
    exact this)
  subst this
  exact ⟨rfl, rfl⟩
theorem first_no (k : RL w r v [] last) (h : TOk [] last) :
    Calls Tryz.prog 25 #[.pointer (some ⟨r, 0, none⟩)] w fun e w' => e = .returned (.int .i64 (-1)) ∧ w = w' := by
  refine (first_any k h).mono ?_
  rintro e w' ⟨⟨at', best, hf, rfl⟩, rfl⟩
  rcases hf with ⟨_, rfl, _⟩ | ⟨q, _, _, hq, _⟩
  · exact ⟨rfl, rfl⟩
  · simp at hq
set_option maxRecDepth 100000 in
set_option maxHeartbeats 4000000 in
theorem next_at (k : RL w r v A last) (h : TOk A last) {i : Nat} {a : Tm × Tag} (hi : A[i]? = some a) (hm : Fst A a) :
    Calls Tryz.prog 34 #[.pointer (some ⟨r, 0, none⟩)] w fun e w' => e = .returned (.tuple #[.int .u64 a.1.due, .bool true]) ∧ w = w' := by
  have HF := Lib.hid (first_at k h hi hm)
  have HD := Lib.hid (dl_at k h hi)
  have hr := k.rd
  generalize v.ownBlock.getD 0 = b at hr
  have c0 := k.c0
  have hil := (List.getElem?_eq_some_iff.1 hi).1
  have hfew := k.few
  obtain ⟨a', cap, rfl, hc, hcm⟩ := hr.form
  rw [rA_len] at hc hr c0
  obtain ⟨off, rfl, rI⟩ := Rd.atA hr hi
  obtain ⟨e0, _, _, _⟩ := cellsA rI
  have hb1 : (0 : Int) ≤ (i : Int) := by omega
  have hb2 : (i : Int) < (A.length : Int) := by omega
  clear hcm k h hm hi
  go_enter Tryz.func34, Tryz.ntmps34
  go_wp2_with fail
  refine HF.out.mono ?_
  rintro e w' ⟨rfl, hw⟩
  obtain rfl := hw
  go_wp2_with fail
  refine HD.out.mono ?_
  rintro e w' ⟨rfl, hw⟩
  obtain rfl := hw
  go_wp2_with fail
  go_ret2
  exact ⟨rfl, rfl⟩
set_option maxRecDepth 100000 in
set_option maxHeartbeats 4000000 in
theorem next_no (k : RL w r v [] last) (h : TOk [] last) :
    Calls Tryz.prog 34 #[.pointer (some ⟨r, 0, none⟩)] w fun e w' => e = .returned (.tuple #[.int .u64 0, .bool false]) ∧ w = w' := by
  have HF := Lib.hid (first_no k h)
  clear k
  go_enter Tryz.func34, Tryz.ntmps34
  go_wp2_with fail
  refine HF.out.mono ?_
  rintro e w' ⟨rfl, hw⟩
  obtain rfl := hw
  go_wp2_with fail
  go_ret2
  exact ⟨rfl, rfl⟩
end
end Go.Proofs.YtobkanlnnniabaaGreat.G

/-
  Merged texts: TcG, TeG, TaG, TzpG.
-/
import Derived.Test.YtobkanlnnniabaaGreatX4

/-
  The contract of Cancel.
-/
namespace Go.Proofs.YtobkanlnnniabaaGreat.G
open Go.RowKit
set_option linter.unusedVariables false
set_option linter.unusedSimpArgs false

def cutN (N : List Nd) (l : List Int) : List Nd := N.filter fun n => decide (n.t.id ∉ l)
theorem sh_cut (N : List Nd) (l : List Int) : sh (cutN N l) = (sh N).filter fun n => decide (n.id ∉ l) := by
  unfold sh cutN
  rw [List.filter_map]
  rfl
theorem cut_mem {N : List Nd} {l : List Int} {n : Nd} : n ∈ cutN N l ↔ n ∈ N ∧ n.t.id ∉ l := by
  simp [cutN]
theorem cut_step {N : List Nd} {l : List Int} {j : Nat} {i : Int} (hj : l[j]? = some i) : (cutN N (l.take j)).filter (fun n => decide (n.t.id ≠ i)) = cutN N (l.take (j + 1)) := by
  unfold cutN
  rw [List.filter_filter]
  apply List.filter_congr
  intro n _
  rw [List.take_add_one, hj]
  simp [Bool.and_comm]
/-- Between two removals. -/
def Cn (w0 : World) (t h : Nat) (fh0 : List Nat) (N : List Nd) (last : Int) (K : Int → List Int) (l : List Int) (j : Nat) (wr : World) : Prop :=
  ∃ fh, TK wr t h fh (cutN N (l.take j)) last K ∧ (∀ y ∈ fh, y ∈ fh0 ∨ w0.heap.size ≤ y) ∧ Touch fh0 w0 wr
theorem Cn.start {w0 : World} {t h : Nat} {fh0 : List Nat} {N : List Nd} {last : Int} {K : Int → List Int} {l : List Int} (k : TK w0 t h fh0 N last K) : Cn w0 t h fh0 N last K l 0 w0 := by
  refine ⟨fh0, ?_, fun y hy => .inl hy, Touch.refl _ _⟩
  have : cutN N (l.take 0) = N := by
    simp [cutN]
  rw [this]
  exact k
theorem TK.removed {w w' : World} {t h : Nat} {fh : List Nat} {N : List Nd} {last : Int} {K : Int → List Int} (k : TK w t h fh N last K) {i : Int} (nx : Next w h fh ((N.map Nd.itm).filter fun y => decide (y.id ≠ i)) last w') :
    ∃ fh', TK w' t h fh' (N.filter fun n => decide (n.t.id ≠ i)) last K ∧ (∀ y ∈ fh', y ∈ fh ∨ w.heap.size ≤ y) ∧ Touch fh w w' := by
  obtain ⟨fh', hb, hf, ht⟩ := nx
  have e : (N.map Nd.itm).filter (fun y => decide (y.id ≠ i)) = (N.filter fun n => decide (n.t.id ≠ i)).map Nd.itm := by
    rw [List.filter_map]
    rfl
  rw [e] at hb
  have hs : (N.filter fun n => decide (n.t.id ≠ i)).Sublist N := List.filter_sublist
  exact ⟨fh', k.bagged hb hf ht (fun n hn => .inl (hs.subset hn)) (k.nn.sublist hs) (Nat.le_trans hs.length_le k.few), hf, ht⟩
theorem Cn.step {w0 wr w' : World} {t h : Nat} {fh0 fh : List Nat} {N : List Nd} {last : Int} {K : Int → List Int} {l : List Int} {j : Nat} {i : Int} (hj : l[j]? = some i)
    (k : TK wr t h fh (cutN N (l.take j)) last K) (hf : ∀ y ∈ fh, y ∈ fh0 ∨ w0.heap.size ≤ y) (ht : Touch fh0 w0 wr) (nx : Next wr h fh (((cutN N (l.take j)).map Nd.itm).filter fun y => decide (y.id ≠ i)) last w') : Cn w0 t h fh0 N last K l (j + 1) w' := by
  obtain ⟨fh', k', hf', ht'⟩ := k.removed nx
  rw [cut_step hj] at k'
  refine ⟨fh', k', ?_, ht.trans ht' hf⟩
  intro y hy
  rcases hf' y hy with e | e
  · exact hf y e
  · exact .inr (Nat.le_trans ht.size e)
/-- All of a subtree is gone. -/
theorem TM.cut {w w' : World} {t h : Nat} {fh fh' : List Nat} {N N2 : List Nd} {last : Int} {K : Int → List Int} {l : List Int} {n : Nd} (k : TM w t h fh N last) (hn : n ∈ N) (hs : Sub (sh N) n.t.id l) (e : sh N2 = sh N)
    (hK : ∀ m ∈ N2, m.t.id ∉ l → K m.t.id = (kids (sh N) m.t.id).filter fun i => decide (i ≠ n.t.id)) (m : TK w' t h fh' (cutN N2 l) last K) : TM w' t h fh' (cutN N2 l) last := by
  have e2 : sh (cutN N2 l) = (sh N).filter fun n => decide (n.id ∉ l) := by rw [sh_cut, e]
  refine ⟨m.congr ?_, by rw [e2]; exact k.tree.cut hs, by rw [e2]; exact due_cut k.tree hs k.due⟩
  intro q hq
  obtain ⟨hq1, hq2⟩ := cut_mem.1 hq
  rw [e2, hK q hq1 hq2, kids_cut_eq k.tree hs hq2]
theorem kids_none {w : World} {t h : Nat} {fh : List Nat} {N : List Nd} {last : Int} (k : TM w t h fh N last) {n q : Nd} (hn : n ∈ N) (hq : q ∈ N) (hne : n.t.par ≠ q.t.id) : (kids (sh N) q.t.id).filter (fun i => decide (i ≠ n.t.id)) = kids (sh N) q.t.id := by
  rw [List.filter_eq_self]
  intro i hi
  simp only [ne_eq, decide_eq_true_eq]
  rintro rfl
  obtain ⟨s, hs, h1, h2⟩ := mem_kids.1 hi
  have := tm_inj k.ids hs (sh_mem hn) h2
  rw [← this] at hne
  exact hne h1
section
variable {w : World} {t h : Nat} {fh : List Nat} {N : List Nd} {last : Int}
set_option maxRecDepth 100000 in
set_option maxHeartbeats 1000000 in
theorem cancel_no (k : TM w t h fh N last) (i : Int) (hi : okK i) (hn : i ∉ tids (sh N)) :
    Calls Tryz.prog 14 #[.pointer (some ⟨t, 0, none⟩), .int .i64 i] w fun e w' => e = .returned (.int .i64 0) ∧ Touch [] w w' := by
  have tA := (Touch.refl [] w).alloc (.cells #[.int .i64 i] 3)
  have gA := heap_alloc_new w (.cells #[.int .i64 i] 3)
  have cA : (w.alloc (.cells #[.int .i64 i] 3)).cell? ⟨w.heap.size, 0, none⟩ = some (.int .i64 i) := by simp only [World.cell?]; rw [gA]; rfl
  have HS := Lib.hid (subtree_no (k.touch tA (by simp)) i hi hn)
  clear k hn gA
  go_enter Tryz.func14, Tryz.ntmps14
  go_wp2_with fail
  refine HS.out.mono ?_
  rintro e w' ⟨rfl, rfl⟩
  go_wp2_with fail
  go_ret
  exact ⟨rfl, tA⟩
/-- What Cancel leaves. -/
def Canc (w : World) (t h : Nat) (fh : List Nat) (N : List Nd) (last : Int) (n : Nd) (e : Ending) (w' : World) : Prop :=
  ∃ l fh' N2 pf, e = .returned (.int .i64 (l.length : Nat)) ∧ Sub (sh N) n.t.id l ∧ TM w' t h fh' (cutN N2 l) last ∧ ab N2 = ab N ∧ (∀ y ∈ TFoot t fh' (cutN N2 l), y ∈ TFoot t fh N ∨ w.heap.size ≤ y) ∧ Touch (fh ++ pf) w w' ∧ (∀ y ∈ pf, ∃ p ∈ N, p.t.id = n.t.par ∧ y ∈ p.foot)
/-- Ahead of the removals. -/
structure MidC (w w3 : World) (t h : Nat) (fh : List Nat) (N : List Nd) (last : Int) (n : Nd) (N2 : List Nd) (K : Int → List Int) (pf : List Nat) (v : Value) (l : List Int) : Prop where
  mem : TK w3 t h fh N2 last K
  e : sh N2 = sh N
  ab : ab N2 = ab N
  kk : ∀ m ∈ N2, m.t.id ∉ l → K m.t.id = (kids (sh N) m.t.id).filter fun i => decide (i ≠ n.t.id)
  tt : Touch pf w w3
  pf : ∀ y ∈ pf, ∃ p ∈ N, p.t.id = n.t.par ∧ y ∈ p.foot
  own : OwnN w w3 v l
  foot : ∀ y ∈ TFoot t fh N2, y ∈ TFoot t fh N ∨ w.heap.size ≤ y
theorem MidC.fin {w3 wr : World} {n : Nd} {N2 : List Nd} {K : Int → List Int} {pf : List Nat} {v : Value} {l : List Int} (d : MidC w w3 t h fh N last n N2 K pf v l) (k : TM w t h fh N last) (hn : n ∈ N) (hs : Sub (sh N) n.t.id l) (c : Cn w3 t h fh N2 last K l l.length wr) :
    Canc w t h fh N last n (.returned (.int .i64 (l.length : Nat))) wr := by
  obtain ⟨fh', m, hf, ht⟩ := c
  rw [List.take_length] at m
  refine ⟨l, fh', N2, pf, rfl, hs, k.cut hn hs d.e d.kk m, d.ab, ?_, ?_, d.pf⟩
  · intro y hy
    rcases TFoot.mem.1 hy with rfl | hy | ⟨q, hq, hy⟩
    · exact .inl (TFoot.mem.2 (.inl rfl))
    · rcases hf y hy with e | e
      · exact .inl (TFoot.mem.2 (.inr (.inl e)))
      · exact .inr (Nat.le_trans d.tt.size e)
    · exact d.foot y (TFoot.mem.2 (.inr (.inr ⟨q, (cut_mem.1 hq).1, hy⟩)))
  · exact (d.tt.mono (S' := fh ++ pf) (fun y hy => .inl (List.mem_append.2 (.inr hy)))).trans ht (fun y hy => .inl (List.mem_append.2 (.inl hy)))
theorem MidC.rootc {w3 : World} {n : Nd} {v : Value} {l : List Int} (k : TM w t h fh N last) (hn : n ∈ N) (hp : n.t.par ∉ tids (sh N)) (ht : Touch [] w w3) (ho : OwnN w w3 v l) : MidC w w3 t h fh N last n N (kids (sh N)) [] v l := by
  refine ⟨k.mem.touch ht (by simp), rfl, rfl, ?_, ht, by simp, ho, fun y hy => .inl hy⟩
  intro m hm _
  rw [kids_none k hn hm]
  intro e
  exact hp (by rw [e]; exact sh_tids hm)
theorem MidC.childc {w2 w3 : World} {n p : Nd} {v v' : Value} {l : List Int} (k : TM w t h fh N last) (hn : n ∈ N) (hp : p ∈ N) (hpn : p.t.id = n.t.par) (ht2 : Touch [] w w2) (ho : OwnN w w2 v l) (ht : Touch p.foot w2 w3)
    (hh : w3.heap[p.b]? = some (.cells #[.int .i64 p.t.par, .int .u64 p.t.req, .int .i64 p.x.a, .int .i64 p.x.b, .int .i64 p.x.c, v'] 55 (0, 0))) (hr : Row w3 v' ((kids (sh N) p.t.id).filter (isC n.t.id))) (hv : v'.ownBlock = p.v.ownBlock) :
    MidC w w3 t h fh N last n (N.map (setV p.t.id v')) (putK (kids (sh N)) p.t.id ((kids (sh N) p.t.id).filter (isC n.t.id))) p.foot v l := by
  have hlt := (k.mem.nd p hp).lt
  obtain ⟨m, f⟩ := (k.mem.touch ht2 (by simp)).kids_set k.ids hp ht hh hr (.inl hv)
  refine ⟨m, sh_setV _ _, ab_setV _ _, ?_, ?_, fun y hy => ⟨p, hp, hpn, hy⟩, ho.touch ht ?_, ?_⟩
  · intro q' hq' _
    obtain ⟨q, hq, rfl⟩ := List.mem_map.1 hq'
    rw [(setV_keep _ _ q).1]
    unfold putK
    by_cases e : q.t.id = p.t.id
    · rw [if_pos e, e]
      rfl
    · rw [if_neg e, kids_none k hn hq]
      rw [← hpn]
      exact fun e' => e e'.symm
  · exact (ht2.mono (by simp)).trans ht (fun y hy => .inl hy)
  · intro g hg e
    have := ho.new g hg
    have := hlt g e
    omega
  · intro y hy
    rcases f y hy with e | e
    · exact .inl e
    · exact .inr (Nat.le_trans ht2.size e)
set_option maxRecDepth 100000 in
set_option maxHeartbeats 2000000 in
theorem cancel_any (k : TM w t h fh N last) (n : Nd) (hn : n ∈ N) :
    Calls Tryz.prog 14 #[.pointer (some ⟨t, 0, none⟩), .int .i64 n.t.id] w fun e w' => Canc w t h fh N last n e w' := by
  have tA := (Touch.refl [] w).alloc (.cells #[.int .i64 n.t.id] 3)
  have gA := heap_alloc_new w (.cells #[.int .i64 n.t.id] 3)
  have cA : (w.alloc (.cells #[.int .i64 n.t.id] 3)).cell? ⟨w.heap.size, 0, none⟩ = some (.int .i64 n.t.id) := by simp only [World.cell?]; rw [gA]; rfl
  have zA : (w.alloc (.cells #[.int .i64 n.t.id] 3)).heap.size = w.heap.size + 1 := by simp
  have HA := k.touch tA (by simp)
  have HK := Lib.hid k
  have HN := Lib.hid hn
  have HS := Lib.hid (subtree_any HA n hn)
  have hqf : w.heap.size ∉ TFoot t fh N := fun e => Nat.lt_irrefl _ (k.mem.lt _ e)
  have hfew := k.mem.few
  clear k hn gA
  go_enter Tryz.func14, Tryz.ntmps14
  go_wp2_with fail
  generalize w.alloc (.cells #[.int .i64 n.t.id] 3) = wA at *
  generalize hqe : w.heap.size = q at *
  have HQE := Lib.hid hqe
  have HTA := Lib.hid tA
  have HKA := Lib.hid HA
  clear hqe HA tA
  refine HS.out.mono ?_
  rintro e w1 ⟨v, l, rfl, hsub, ho, t1⟩
  have HSUB := Lib.hid hsub
  have HO := Lib.hid ho
  have HT1 := Lib.hid t1
  have HK1 := Lib.hid (HKA.out.touch t1 (by simp))
  have cq := t1.cell cA (by simp)
  have hl0 : 0 < l.length := (List.getElem?_eq_some_iff.1 hsub.head).1
  have hl1 := hsub.few
  have hl2 : (sh N).length = N.length := by simp [sh]
  rw [hl2] at hl1
  clear hsub ho t1 cA hl2 HS
  obtain ⟨av, cv, rfl, hv1, hv2, hv3⟩ := owns_form HO.out.row
  obtain ⟨g, rfl⟩ := hv3 hl0
  have hcv : cv ≤ 9223372036854775807 := by unfold maxLen at hv2; omega
  have c0 := HK1.out.mem.cell
  have d0 : ((l.length : Int) == 0) = false := beq_eq_false_iff_ne.2 (by omega)
  clear hv2 hv3
  go_wp2_with fail
  go_quiet ((go_at_call 19; exact Calls.quiet_of ((HK1.out.draws _).get n HN.out)))
  have T2 := (Touch.refl [] w1).drews nq
  have HK2 := Lib.hid (HK1.out.draws nq)
  have HO2 := Lib.hid ((HO.out.touch T2 (by simp)).rebase (w0 := w) HTA.out.size)
  have HT2 := Lib.hid ((HTA.out.trans HT1.out (by simp)).trans T2 (by simp))
  have cq2 := T2.cell cq (by simp)
  clear T2 cq c0 HO HK1 HT1
  generalize w1.drewN nq = w2 at *
  have c0 := HK2.out.mem.cell
  obtain ⟨m0, m1, m2, m3⟩ := (HK2.out.mem.nd n HN.out).cells
  clear m1 m2 m3
  by_cases hp : n.t.par ∈ tids (sh N)
  case' neg =>
    have hp0 : okK n.t.par := by
      rcases HK2.out.tree.par n.t (sh_mem HN.out) with e | e
      · rw [e]
        exact okK_of (by omega) (by omega)
      · exact absurd e hp
    have HP0 := Lib.hid hp0
    have HPP := Lib.hid hp
    clear hp hp0
    go_wp2_with fail
    go_quiet ((go_at_call 19; exact Calls.quiet_of_same ((HK2.out.draws _).get_no n.t.par HP0.out HPP.out)))
    have T3 := HT2.out.trans ((Touch.refl [] w2).drews nq) (by simp)
    obtain ⟨N2, K, pf, hmid⟩ : ∃ N2 K pf, MidC w (w2.drewN nq) t h fh N last n N2 K pf (.slice (some ⟨g, 0, none⟩) l.length cv) l := ⟨_, _, _, MidC.rootc HK.out HN.out HPP.out T3 (HO2.out.touch ((Touch.refl [] w2).drews nq) (by simp))⟩
    clear T3 m0 c0 cq2 HP0 HPP
    generalize w2.drewN nq = w3 at *
  case' pos =>
    obtain ⟨p, hpm, hpe⟩ := sh_at hp
    rw [← hpe] at m0
    have HPM := Lib.hid hpm
    have HPE := Lib.hid hpe
    clear hp hpm hpe
    go_wp2_with fail
    go_quiet ((go_at_call 19; exact Calls.quiet_of ((HK2.out.draws _).get p HPM.out)))
    have T3 := (Touch.refl [] w2).drews nq
    have HK3 := Lib.hid (HK2.out.draws nq)
    have HO3 := Lib.hid (HO2.out.touch T3 (by simp))
    have HT3 := Lib.hid (HT2.out.trans T3 (by simp))
    have cq3 := T3.cell cq2 (by simp)
    clear T3 m0 c0 cq2 HO2 HK2 HT2
    generalize w2.drewN nq = w4 at *
    have hpn := HK3.out.mem.nd p HPM.out
    obtain ⟨m0, m1, m2, m3⟩ := hpn.cells
    have hpq : p.v.ownBlock ≠ some q := fun e => hqf (TFoot.mem.2 (.inr (.inr ⟨p, HPM.out, by simp [Nd.foot, e]⟩)))
    have hkl : (kids (sh N) p.t.id).length ≤ 1000 := by
      have := nodup_few (HK.out.tree.kids_nodup p.t.id) (fun m hm => kids_sub hm)
      have h2 : (tids (sh N)).length = N.length := by simp [tids, sh]
      omega
    have HDEL := Lib.hid (del_any p.v (kids (sh N) p.t.id) n.t.id q w4 hkl hpn.row cq3 hpq)
    have HPD := Lib.hid hpn
    have hpv := hpn.hv
    clear m0 m1 m2 hpn hpq hkl cq3
    go_wp2_with fail
    refine HDEL.out.mono ?_
    rintro e w5 ⟨v', rfl, hr5, hv5, t5⟩
    have hpb : p.b ∉ p.v.ownBlock.toList := by simpa using hpv
    have hh5 := t5.at HPD.out.hdr hpb
    have m3 : w5.cell? ⟨p.b, 5, none⟩ = some p.v := by simp [World.cell?, hh5]
    have g3 : w5.frozen? ⟨p.b, 5, none⟩ = false := by simp [World.frozen?, hh5]
    have T6 := (t5.mono (S' := p.foot) (by intro y hy; left; simp only [Nd.foot, List.mem_cons]; exact .inr hy)).trans ((Touch.refl [p.b] w5).setCell (p := ⟨p.b, 5, none⟩) (by simp) v') (by intro y hy; left; simp at hy; simp [Nd.foot, hy])
    have H6 : (w5.setCell ⟨p.b, 5, none⟩ v').heap[p.b]? = some (.cells #[.int .i64 p.t.par, .int .u64 p.t.req, .int .i64 p.x.a, .int .i64 p.x.b, .int .i64 p.x.c, v'] 55 (0, 0)) := by simp [World.setCell, Array.getElem?_modify, hh5]
    have R6 := ((Touch.refl [p.b] w5).setCell (p := ⟨p.b, 5, none⟩) (by simp) v').owns hr5 (by intro g hg e; simp at e; exact hpv (by rw [← hv5, hg, e]))
    obtain ⟨N2, K, pf, hmid⟩ : ∃ N2 K pf, MidC w (w5.setCell ⟨p.b, 5, none⟩ v') t h fh N last n N2 K pf (.slice (some ⟨g, 0, none⟩) l.length cv) l := ⟨_, _, _, MidC.childc HK.out HN.out HPM.out HPE.out HT3.out HO3.out T6 H6 R6 hv5⟩
    have HMD := Lib.hid hmid
    clear hmid
    obtain ⟨av5, cv5, rfl, hw1, hw2, hw3⟩ := hr5.form
    clear T6 H6 R6 hr5 t5 hh5 hw1 hw2 hw3 hpb hv5 hpv HDEL HK3 HO3 HT3
    go_wp2_with fail
    generalize w5.setCell ⟨p.b, 5, none⟩ (.slice av5 ((kids (sh N) p.t.id).filter (isC n.t.id)).length cv5) = w3 at *
    have hmid := HMD.out
    clear HMD m3 g3
  all_goals
    have HMID := Lib.hid hmid
    clear hmid
    go_wp2_with fail
    go_loopw [55] (fun vj wr => ∃ (j : Nat), vj = .int .i64 j ∧ j ≤ l.length ∧ Cn w3 t h fh N2 last K l j wr) (fun vj _ => l.length - (intOf vj).toNat)
    case atStart => exact ⟨0, rfl, by omega, Cn.start HMID.out.mem⟩
    case round =>
      obtain ⟨j, rfl, hjl, fhj, mj, fj, tj⟩ := hrel
      have HM := Lib.hid mj
      have HF := Lib.hid fj
      have HT := Lib.hid tj
      have cj := mj.cell
      have hgf : ∀ g', (Value.slice (some ⟨g, 0, none⟩) l.length cv).ownBlock = some g' → g' ∉ fh := by
        intro g' hg' e
        have h1 := HMID.out.own.new g' hg'
        have h2 := HK.out.mem.lt g' (TFoot.mem.2 (.inr (.inl e)))
        omega
      have HO := Lib.hid (HMID.out.own.touch tj hgf)
      clear mj fj tj hgf
      by_cases hlt : j < l.length
      · have hx := List.getElem?_eq_getElem hlt
        generalize l[j] = i at hx
        have HX := Lib.hid hx
        have p0 := owns_cell HO.out.row j (.int .i64 i) (by simp [hx])
        obtain ⟨m, hm, rfl⟩ := sh_at (N := N2) (by rw [HMID.out.e]; exact HSUB.out.mem i (List.mem_of_getElem? hx))
        have hnd := HSUB.out.nodup
        have hmc : m ∈ cutN N2 (l.take j) := cut_mem.2 ⟨hm, by
          intro e
          obtain ⟨r, hr⟩ := List.mem_iff_getElem?.1 e
          rw [List.getElem?_take] at hr
          split at hr
          · have := nodup_at hnd hr hx
            omega
          · cases hr⟩
        have HRM := Lib.hid (HM.out.bag.remove m.itm (TM.itm_mem hmc))
        have q3 : (j : Int) < (l.length : Int) := by omega
        clear hx hm hmc hnd
        go_wp2_with fail
        refine HRM.out.mono ?_
        rintro e w6 ⟨rfl, nx⟩
        have HC := Lib.hid (Cn.step HX.out HM.out HF.out HT.out nx)
        clear nx p0 cj
        go_wp2_with fail
        go_roundw
        case rel => exact ⟨j + 1, by simp, by omega, HC.out⟩
        case measure => simp [intOf]; omega
      · have hje : j = l.length := by omega
        have HFIN := Lib.hid (HMID.out.fin HK.out HN.out HSUB.out (by rw [← hje]; exact ⟨fhj, HM.out, HF.out, HT.out⟩))
        have q3 : ¬ (j : Int) < (l.length : Int) := by omega
        clear hje cj
        go_wp2_with fail
        go_ret
        exact HFIN.out
end
section
variable {w : World} {t h : Nat} {f : List Nat} {A : List (Tm × Tag)} {last : Int}
theorem ab_cut (N : List Nd) (l : List Int) : ab (cutN N l) = (ab N).filter fun a => decide (a.1.id ∉ l) := by
  unfold ab cutN
  rw [List.filter_map]
  rfl
theorem Canc.next {fh : List Nat} {N : List Nd} {n : Nd} {e : Ending} {w' : World} (c : Canc w t h fh N last n e w') :
    ∃ l, e = .returned (.int .i64 (l.length : Nat)) ∧ Sub (sh N) n.t.id l ∧ TNext w t h (TFoot t fh N) ((ab N).filter fun a => decide (a.1.id ∉ l)) last w' := by
  obtain ⟨l, fh', N2, pf, rfl, hs, m, e2, hf, ht, hp⟩ := c
  refine ⟨l, rfl, hs, _, ⟨fh', _, m, by rw [ab_cut, e2], rfl⟩, hf, ht.mono ?_⟩
  intro y hy
  rcases List.mem_append.1 hy with hy | hy
  · exact .inl (TFoot.mem.2 (.inr (.inl hy)))
  · obtain ⟨p, hp1, _, hp2⟩ := hp y hy
    exact .inl (TFoot.mem.2 (.inr (.inr ⟨p, hp1, hp2⟩)))
def CancS (w : World) (t h : Nat) (f : List Nat) (A : List (Tm × Tag)) (last i : Int) (e : Ending) (w' : World) : Prop :=
  ∃ l : List Int, e = .returned (.int .i64 (l.length : Nat)) ∧ Sub (A.map Prod.fst) i l ∧ TNext w t h f (A.filter fun a => decide (a.1.id ∉ l)) last w'
theorem TS.cancel (k : TS w t h f A last) (i : Int) (hi : i ∈ tids (A.map Prod.fst)) :
    Calls Tryz.prog 14 #[.pointer (some ⟨t, 0, none⟩), .int .i64 i] w fun e w' => CancS w t h f A last i e w' := by
  obtain ⟨fh, N, hm, rfl, rfl⟩ := k
  rw [ab_fst] at hi
  obtain ⟨n, hn, rfl⟩ := sh_at hi
  refine (cancel_any hm n hn).mono ?_
  intro e w' c
  unfold CancS
  rw [ab_fst]
  exact c.next
theorem TS.cancel_no (k : TS w t h f A last) (i : Int) (hi : okK i) (hn : i ∉ tids (A.map Prod.fst)) :
    Calls Tryz.prog 14 #[.pointer (some ⟨t, 0, none⟩), .int .i64 i] w fun e w' => e = .returned (.int .i64 0) ∧ Touch [] w w' := by
  obtain ⟨fh, N, hm, rfl, rfl⟩ := k
  rw [ab_fst] at hn
  exact G.cancel_no hm i hi hn
end
end Go.Proofs.YtobkanlnnniabaaGreat.G

/-
  The contract of Expire.
-/
namespace Go.Proofs.YtobkanlnnniabaaGreat.G
open Go.RowKit
set_option linter.unusedVariables false
set_option linter.unusedSimpArgs false

section
variable {w : World} {t h : Nat} {fh : List Nat} {N : List Nd} {last : Int}
set_option maxRecDepth 100000 in
set_option maxHeartbeats 1000000 in
theorem expire_empty (k : TM w t h fh [] last) (now : Int) :
    Calls Tryz.prog 10 #[.pointer (some ⟨t, 0, none⟩), .int .u64 now] w fun e w' => e = .returned (.tuple #[.int .i64 0, .agg #[.int .i64 0, .int .i64 0, .int .i64 0], .bool false]) ∧ Touch [] w w' := by
  have TA := (Touch.refl [] w).alloc (.cells #[.int .i64 0, .int .i64 0, .int .i64 0] 26)
  have HZ0 := Lib.hid (heap_alloc_new w (.cells #[.int .i64 0, .int .i64 0, .int .i64 0] 26))
  have hA := k.touch TA (by simp)
  obtain ⟨Z, hZ⟩ : ∃ Z, Z = w.heap.size := ⟨_, rfl⟩
  have hZl : Z < (w.alloc (.cells #[.int .i64 0, .int .i64 0, .int .i64 0] 26)).heap.size := by simp; omega
  have c0 := hA.mem.cell
  have HM := Lib.hid (Bag.min_no hA.mem.bag)
  have HK := Lib.hid k
  have HTA := Lib.hid TA
  clear k hA TA
  go_enter Tryz.func10, Tryz.ntmps10
  go_wp2_with fail
  refine HM.out.mono ?_
  rintro e w1 ⟨rfl, ht⟩
  rw [← hZ]
  rw [← hZ] at HZ0
  have HZ1 := Lib.hid (ht.at HZ0.out (by simp))
  have T1 := Lib.hid (HTA.out.trans ht (by simp))
  have hZ1 : Z < w1.heap.size := by have := ht.size; omega
  have T2 := Lib.hid (T1.out.alloc (.cells #[.int .i64 0, .int .i64 0, .int .i64 0] 26))
  have HB := Lib.hid (heap_alloc_new w1 (.cells #[.int .i64 0, .int .i64 0, .int .i64 0] 26))
  have HZ2 := Lib.hid (((Touch.refl [] w1).alloc (.cells #[.int .i64 0, .int .i64 0, .int .i64 0] 26)).at HZ1.out (by simp))
  have HZW := Lib.hid hZ
  clear ht HM hZl HZ0 HZ1 HTA c0 hZ
  go_wp2_with fail
  generalize hB : w1.heap.size = B at *
  generalize w1.alloc (.cells #[.int .i64 0, .int .i64 0, .int .i64 0] 26) = w2 at *
  refine wp_region_held (S := Touch [Z] w2.drew) (by kernel_rfl) ?_
  change wpAnyH _ _ _ _ _ _ _ _ w2.drew
  have tD := (Touch.refl [] w2).drew
  have rx := tD.range (range_block (cs := [.int .i64 0, .int .i64 0, .int .i64 0]) HB.out) (by simp)
  have hBZ : B ∉ [Z] := by simp; omega
  have HZX := Lib.hid (tD.at HZ2.out (by simp))
  have HTX := Lib.hid (tD.mono (by simp) : Touch [Z] w2 w2.drew)
  generalize w2.drew = X at *
  clear tD
  have hS := Touch.refl [Z] X
  refine wpAnyH_take (i := 0) (oi := { dst := some 29, op := Op.load 26 (Operand.tmp 11), type := 26, pos := "timer.go:109", after := #[{ on := 1, ground := Ground.gcOnly Departure.lateStores }], guard := none }) (v := .agg [.int .i64 0, .int .i64 0, .int .i64 0].toArray) rfl (by kernel_rfl) (by kernel_rfl) (by kernel_rfl) (fun _ _ _ h => h) (Or.inl ⟨by rfl, fun w' hw => exec_load_agg _ 26 _ rfl _ _ rfl [.int .i64 0, .int .i64 0, .int .i64 0] _ (hw.range rx hBZ) Tryz.underlying26 rfl infoG⟩) hS ?_
  try simp only [Act.put, List.setIfInBounds_toArray, List.set_cons_zero, List.set_cons_succ]
  refine wpAnyH_take (i := 1) (oi := { dst := some 4, op := Op.assign (Operand.const (Value.int IntKind.i64 0)), type := 3, pos := "timer.go:109", after := #[{ on := 0, ground := Ground.textOnly Departure.lateStores }], guard := none }) (v := .int .i64 0) rfl (by kernel_rfl) (by kernel_rfl) (by kernel_rfl) (fun _ _ _ h => h) (Or.inl ⟨by rfl, fun w' hw => by go_simp⟩) hS ?_
  try simp only [Act.put, List.setIfInBounds_toArray, List.set_cons_zero, List.set_cons_succ]
  refine wpAnyH_ready (rs := [2]) (by kernel_rfl) (by simp) ?_
  refine AllReadyH.cons (o := { dst := none, op := Op.store 26 (Operand.tmp 5) (Operand.tmp 29), type := 0, pos := "timer.go:109", after := #[{ on := 0, ground := Ground.data }, { on := 1, ground := Ground.chain }, { on := 0, ground := Ground.phase }, { on := 1, ground := Ground.phase }], guard := none }) rfl (fun K hK => ?_) AllReadyH.nil
  refine step_of_list rfl ?_
  refine wpList_store_into rfl 26 _ _ rfl Z 26 _ [.int .i64 0, .int .i64 0, .int .i64 0] rfl rfl HZX.out rfl infoG (by intro u hu; simp only [List.mem_cons, List.not_mem_nil, or_false] at hu; rcases hu with rfl | rfl | rfl <;> rfl) ?_
  intro w3 h2 t2 z2
  have hS2 := hS.trans t2 (fun y hy => .inl hy)
  have HF := Lib.hid (And.intro h2 (show Touch [Z] w2 w3 from HTX.out.trans t2 (fun y hy => .inl hy)))
  refine ⟨rfl, hK.out _ _ hS2 (fun _ => ?_)⟩
  clear hK K hS h2 t2 z2
  have hS := hS2
  clear hS2
  try simp only [Act.put, List.setIfInBounds_toArray, List.set_cons_zero, List.set_cons_succ]
  refine wpAnyH_take (i := 3) (oi := { dst := some 6, op := Op.assign (Operand.const (Value.bool false)), type := 4, pos := "timer.go:109", after := #[{ on := 2, ground := Ground.chain }, { on := 0, ground := Ground.phase }, { on := 1, ground := Ground.phase }, { on := 2, ground := Ground.phase }], guard := none }) (v := .bool false) rfl (by kernel_rfl) (by kernel_rfl) (by kernel_rfl) (fun _ _ _ h => h) (Or.inl ⟨by rfl, fun w' hw => by go_simp⟩) hS ?_
  try simp only [Act.put, List.setIfInBounds_toArray, List.set_cons_zero, List.set_cons_succ]
  refine wpAnyH_done (by kernel_rfl) ?_ _
  try simp only [Act.put, List.setIfInBounds_toArray, List.set_cons_zero, List.set_cons_succ]
  clear hS rx
  go_wp2_with fail
  have TF : Touch [] w w3 := T2.out.trans HF.out.2 (by intro y hy; right; simp at hy; have := HZW.out; omega)
  exact ret_cell rfl infoG Tryz.underlying26 rfl (cs := [.int .i64 0, .int .i64 0, .int .i64 0]) rfl rfl rfl rfl HF.out.1 ⟨rfl, TF⟩
set_option maxRecDepth 100000 in
set_option maxHeartbeats 1000000 in
theorem expire_late (k : TM w t h fh N last) (now : Int) (n : Nd) (hn : n ∈ N) (hmin : ∀ m ∈ N, le n.itm.key m.itm.key) (hl : now < n.t.due) :
    Calls Tryz.prog 10 #[.pointer (some ⟨t, 0, none⟩), .int .u64 now] w fun e w' => e = .returned (.tuple #[.int .i64 0, .agg #[.int .i64 0, .int .i64 0, .int .i64 0], .bool false]) ∧ Touch [] w w' := by
  have TA := (Touch.refl [] w).alloc (.cells #[.int .i64 0, .int .i64 0, .int .i64 0] 26)
  have HZ0 := Lib.hid (heap_alloc_new w (.cells #[.int .i64 0, .int .i64 0, .int .i64 0] 26))
  have hA := k.touch TA (by simp)
  obtain ⟨Z, hZ⟩ : ∃ Z, Z = w.heap.size := ⟨_, rfl⟩
  have hZl : Z < (w.alloc (.cells #[.int .i64 0, .int .i64 0, .int .i64 0] 26)).heap.size := by simp; omega
  have c0 := hA.mem.cell
  have HM := Lib.hid (hA.mem.bag.min n.itm (TM.itm_mem hn) (by
    intro y hy
    obtain ⟨m, hm, rfl⟩ := List.mem_map.1 hy
    exact hmin m hm))
  clear hmin
  have HK := Lib.hid k
  have HTA := Lib.hid TA
  clear k hA TA
  go_enter Tryz.func10, Tryz.ntmps10
  go_wp2_with fail
  refine HM.out.mono ?_
  rintro e w1 ⟨rfl, ht⟩
  have q1 : n.itm.due = n.t.due := rfl
  rw [q1]
  clear q1
  rw [← hZ]
  rw [← hZ] at HZ0
  have HZ1 := Lib.hid (ht.at HZ0.out (by simp))
  have T1 := Lib.hid (HTA.out.trans ht (by simp))
  have hZ1 : Z < w1.heap.size := by have := ht.size; omega
  have T2 := Lib.hid (T1.out.alloc (.cells #[.int .i64 0, .int .i64 0, .int .i64 0] 26))
  have HB := Lib.hid (heap_alloc_new w1 (.cells #[.int .i64 0, .int .i64 0, .int .i64 0] 26))
  have HZ2 := Lib.hid (((Touch.refl [] w1).alloc (.cells #[.int .i64 0, .int .i64 0, .int .i64 0] 26)).at HZ1.out (by simp))
  have HZW := Lib.hid hZ
  clear ht HM hZl HZ0 HZ1 HTA c0 hZ
  go_wp2_with fail
  generalize hB : w1.heap.size = B at *
  generalize w1.alloc (.cells #[.int .i64 0, .int .i64 0, .int .i64 0] 26) = w2 at *
  refine wp_region_held (S := Touch [Z] w2.drew) (by kernel_rfl) ?_
  change wpAnyH _ _ _ _ _ _ _ _ w2.drew
  have tD := (Touch.refl [] w2).drew
  have rx := tD.range (range_block (cs := [.int .i64 0, .int .i64 0, .int .i64 0]) HB.out) (by simp)
  have hBZ : B ∉ [Z] := by simp; omega
  have HZX := Lib.hid (tD.at HZ2.out (by simp))
  have HTX := Lib.hid (tD.mono (by simp) : Touch [Z] w2 w2.drew)
  generalize w2.drew = X at *
  clear tD
  have hS := Touch.refl [Z] X
  refine wpAnyH_take (i := 0) (oi := { dst := some 29, op := Op.load 26 (Operand.tmp 11), type := 26, pos := "timer.go:109", after := #[{ on := 1, ground := Ground.gcOnly Departure.lateStores }], guard := none }) (v := .agg [.int .i64 0, .int .i64 0, .int .i64 0].toArray) rfl (by kernel_rfl) (by kernel_rfl) (by kernel_rfl) (fun _ _ _ h => h) (Or.inl ⟨by rfl, fun w' hw => exec_load_agg _ 26 _ rfl _ _ rfl [.int .i64 0, .int .i64 0, .int .i64 0] _ (hw.range rx hBZ) Tryz.underlying26 rfl infoG⟩) hS ?_
  try simp only [Act.put, List.setIfInBounds_toArray, List.set_cons_zero, List.set_cons_succ]
  refine wpAnyH_take (i := 1) (oi := { dst := some 4, op := Op.assign (Operand.const (Value.int IntKind.i64 0)), type := 3, pos := "timer.go:109", after := #[{ on := 0, ground := Ground.textOnly Departure.lateStores }], guard := none }) (v := .int .i64 0) rfl (by kernel_rfl) (by kernel_rfl) (by kernel_rfl) (fun _ _ _ h => h) (Or.inl ⟨by rfl, fun w' hw => by go_simp⟩) hS ?_
  try simp only [Act.put, List.setIfInBounds_toArray, List.set_cons_zero, List.set_cons_succ]
  refine wpAnyH_ready (rs := [2]) (by kernel_rfl) (by simp) ?_
  refine AllReadyH.cons (o := { dst := none, op := Op.store 26 (Operand.tmp 5) (Operand.tmp 29), type := 0, pos := "timer.go:109", after := #[{ on := 0, ground := Ground.data }, { on := 1, ground := Ground.chain }, { on := 0, ground := Ground.phase }, { on := 1, ground := Ground.phase }], guard := none }) rfl (fun K hK => ?_) AllReadyH.nil
  refine step_of_list rfl ?_
  refine wpList_store_into rfl 26 _ _ rfl Z 26 _ [.int .i64 0, .int .i64 0, .int .i64 0] rfl rfl HZX.out rfl infoG (by intro u hu; simp only [List.mem_cons, List.not_mem_nil, or_false] at hu; rcases hu with rfl | rfl | rfl <;> rfl) ?_
  intro w3 h2 t2 z2
  have hS2 := hS.trans t2 (fun y hy => .inl hy)
  have HF := Lib.hid (And.intro h2 (show Touch [Z] w2 w3 from HTX.out.trans t2 (fun y hy => .inl hy)))
  refine ⟨rfl, hK.out _ _ hS2 (fun _ => ?_)⟩
  clear hK K hS h2 t2 z2
  have hS := hS2
  clear hS2
  try simp only [Act.put, List.setIfInBounds_toArray, List.set_cons_zero, List.set_cons_succ]
  refine wpAnyH_take (i := 3) (oi := { dst := some 6, op := Op.assign (Operand.const (Value.bool false)), type := 4, pos := "timer.go:109", after := #[{ on := 2, ground := Ground.chain }, { on := 0, ground := Ground.phase }, { on := 1, ground := Ground.phase }, { on := 2, ground := Ground.phase }], guard := none }) (v := .bool false) rfl (by kernel_rfl) (by kernel_rfl) (by kernel_rfl) (fun _ _ _ h => h) (Or.inl ⟨by rfl, fun w' hw => by go_simp⟩) hS ?_
  try simp only [Act.put, List.setIfInBounds_toArray, List.set_cons_zero, List.set_cons_succ]
  refine wpAnyH_done (by kernel_rfl) ?_ _
  try simp only [Act.put, List.setIfInBounds_toArray, List.set_cons_zero, List.set_cons_succ]
  clear hS rx
  go_wp2_with fail
  have TF : Touch [] w w3 := T2.out.trans HF.out.2 (by intro y hy; right; simp at hy; have := HZW.out; omega)
  exact ret_cell rfl infoG Tryz.underlying26 rfl (cs := [.int .i64 0, .int .i64 0, .int .i64 0]) rfl rfl rfl rfl HF.out.1 ⟨rfl, TF⟩
def Exp (w : World) (t h : Nat) (fh : List Nat) (N : List Nd) (last : Int) (n : Nd) (e : Ending) (w' : World) : Prop :=
  e = .returned (.tuple #[.int .i64 n.t.id, .agg #[.int .i64 n.x.a, .int .i64 n.x.b, .int .i64 n.x.c], .bool true]) ∧ ∃ l, Sub (sh N) n.t.id l ∧ TNext w t h (TFoot t fh N) ((ab N).filter fun a => decide (a.1.id ∉ l)) last w'
theorem TNext.pre {w0 w w' : World} {t h : Nat} {f : List Nat} {A : List (Tm × Tag)} {last : Int} (h0 : Touch [] w0 w) (k : TNext w t h f A last w') : TNext w0 t h f A last w' := by
  obtain ⟨f', h1, h2, h3⟩ := k
  exact ⟨f', h1, fun y hy => by
    rcases h2 y hy with e | e
    · exact .inl e
    · exact .inr (Nat.le_trans h0.size e), (h0.mono (by simp)).trans h3 (fun y hy => .inl hy)⟩
theorem TNext.post {w w' w2 : World} {t h : Nat} {f : List Nat} {A : List (Tm × Tag)} {last : Int} (k : TNext w t h f A last w') (h0 : Touch [] w' w2) : TNext w t h f A last w2 := by
  obtain ⟨f', h1, h2, h3⟩ := k
  exact ⟨f', h1.touch h0 (by simp), h2, h3.trans h0 (by simp)⟩
theorem TNext.postZ {w w1 w2 w3 : World} {Z : Nat} {t h : Nat} {f : List Nat} {A : List (Tm × Tag)} {last : Int} (k : TNext w1 t h f A last w2) (h0 : Touch [] w w1) (h3 : Touch [Z] w2 w3) (hZ : w.heap.size ≤ Z) (hZ1 : Z < w1.heap.size) (hZf : ∀ y ∈ f, y ≠ Z) : TNext w t h f A last w3 := by
  obtain ⟨f', h1, h2, h4⟩ := k
  have hs := h0.size
  refine ⟨f', h1.touch h3 ?_, fun y hy => ?_, ((h0.mono (by simp)).trans h4 (fun y hy => .inl hy)).trans h3 (by intro y hy; right; simp at hy; omega)⟩
  · intro y hy hy2
    simp at hy2
    subst hy2
    rcases h2 y hy with e | e
    · exact hZf y e rfl
    · omega
  · rcases h2 y hy with e | e
    · exact .inl e
    · exact .inr (by omega)
set_option maxRecDepth 100000 in
set_option maxHeartbeats 1000000 in
theorem expire_due (k : TM w t h fh N last) (now : Int) (n : Nd) (hn : n ∈ N) (hmin : ∀ m ∈ N, le n.itm.key m.itm.key) (hl : n.t.due ≤ now) :
    Calls Tryz.prog 10 #[.pointer (some ⟨t, 0, none⟩), .int .u64 now] w fun e w' => Exp w t h fh N last n e w' := by
  have TA := (Touch.refl [] w).alloc (.cells #[.int .i64 0, .int .i64 0, .int .i64 0] 26)
  have HZ0 := Lib.hid (heap_alloc_new w (.cells #[.int .i64 0, .int .i64 0, .int .i64 0] 26))
  have hA := k.touch TA (by simp)
  obtain ⟨Z, hZ⟩ : ∃ Z, Z = w.heap.size := ⟨_, rfl⟩
  have hZl : Z < (w.alloc (.cells #[.int .i64 0, .int .i64 0, .int .i64 0] 26)).heap.size := by simp; omega
  have c0 := hA.mem.cell
  have HM := Lib.hid (hA.mem.bag.min n.itm (TM.itm_mem hn) (by
    intro y hy
    obtain ⟨m, hm, rfl⟩ := List.mem_map.1 hy
    exact hmin m hm))
  have HK := Lib.hid k
  have HKA := Lib.hid hA
  have HTA := Lib.hid TA
  have HN := Lib.hid hn
  have hl2 : ¬ now < n.t.due := by omega
  clear k hA TA hmin hn hl
  go_enter Tryz.func10, Tryz.ntmps10
  go_wp2_with fail
  refine HM.out.mono ?_
  rintro e w1 ⟨rfl, ht⟩
  have HT := Lib.hid (HTA.out.trans ht (by simp))
  have HK1 := Lib.hid (HKA.out.touch ht (by simp))
  have q1 : n.itm.due = n.t.due := rfl
  have q2 : n.itm.id = n.t.id := rfl
  have q3 : n.itm.x = .pointer (some ⟨n.b, 0, none⟩) := rfl
  rw [q1, q2, q3, ← hZ]
  rw [← hZ] at HZ0
  have HZ1 := Lib.hid (ht.at HZ0.out (by simp))
  have hZ1 : Z < w1.heap.size := by have := ht.size; omega
  have hZf : ∀ y ∈ TFoot t fh N, y ≠ Z := by
    intro y hy e
    have := HK.out.mem.lt y hy
    omega
  have HZF := Lib.hid hZf
  have hnz : n.b ≠ Z := hZf n.b (TFoot.mem.2 (.inr (.inr ⟨n, HN.out, by simp [Nd.foot]⟩)))
  have HZW := Lib.hid hZ
  clear q1 q2 q3 HM c0 ht hZl HZ0 HKA HTA hZ hZf
  go_wp2_with fail
  refine (cancel_any HK1.out n HN.out).mono ?_
  rintro e w2 ⟨l, fh', N2, pf, rfl, hs, m, e2, hf, ht2, hp⟩
  have hb : n.b ∉ fh ++ pf := by
    intro hy
    rcases List.mem_append.1 hy with hy | hy
    · exact HK.out.mem.nf n HN.out n.b (by simp [Nd.foot]) hy
    · obtain ⟨p, hp1, hp2, hp3⟩ := hp _ hy
      have hne : n.t.id ≠ p.t.id := by
        have := HK.out.tree.up n.t (sh_mem HN.out)
        omega
      exact HK.out.mem.apart HK.out.ids HN.out hp1 hne n.b (by simp [Nd.foot]) hp3
  have HX := Lib.hid (ht2.range ((HK1.out.mem.nd n HN.out).cells).2.2.1 hb)
  have HZ2 := Lib.hid (ht2.at HZ1.out (by
    intro hy
    rcases List.mem_append.1 hy with hy | hy
    · exact HZF.out Z (TFoot.mem.2 (.inr (.inl hy))) rfl
    · obtain ⟨p, hp1, hp2, hp3⟩ := hp _ hy
      exact HZF.out Z (TFoot.mem.2 (.inr (.inr ⟨p, hp1, hp3⟩))) rfl))
  have HC := Lib.hid (show ∃ l, Sub (sh N) n.t.id l ∧ TNext w1 t h (TFoot t fh N) ((ab N).filter fun a => decide (a.1.id ∉ l)) last w2 from by
    obtain ⟨l', e', h1, h2⟩ := Canc.next (e := .returned (.int .i64 (l.length : Nat))) ⟨l, fh', N2, pf, rfl, hs, m, e2, hf, ht2, hp⟩
    exact ⟨l', h1, h2⟩)
  clear hs m e2 hf ht2 hp hb HZ1
  go_wp2_with fail
  refine wp_region_held (S := Touch [Z] w2.drew) (by kernel_rfl) ?_
  change wpAnyH _ _ _ _ _ _ _ _ w2.drew
  have tD := (Touch.refl [] w2).drew
  have rx := tD.range HX.out (by simp)
  have hBZ : n.b ∉ [Z] := by simpa using hnz
  have HZX := Lib.hid (tD.at HZ2.out (by simp))
  have HTX := Lib.hid (tD.mono (by simp) : Touch [Z] w2 w2.drew)
  generalize w2.drew = X at *
  clear tD
  have hS := Touch.refl [Z] X
  refine wpAnyH_take (i := 0) (oi := { dst := some 33, op := Op.move (Operand.tmp 7), type := 3, pos := "timer.go:112", after := #[], guard := none }) (v := .int .i64 n.t.id) rfl (by kernel_rfl) (by kernel_rfl) (by kernel_rfl) (fun _ _ _ h => h) (Or.inl ⟨by rfl, fun w' hw => by go_simp⟩) hS ?_
  try simp only [Act.put, List.setIfInBounds_toArray, List.set_cons_zero, List.set_cons_succ]
  refine wpAnyH_take (i := 1) (oi := { dst := some 34, op := Op.move (Operand.tmp 9), type := 47, pos := "timer.go:112", after := #[{ on := 5, ground := Ground.gcOnly Departure.lateStores }], guard := none }) (v := .pointer (some ⟨n.b, 0, none⟩)) rfl (by kernel_rfl) (by kernel_rfl) (by kernel_rfl) (fun _ _ _ h => h) (Or.inl ⟨by rfl, fun w' hw => by go_simp⟩) hS ?_
  try simp only [Act.put, List.setIfInBounds_toArray, List.set_cons_zero, List.set_cons_succ]
  refine wpAnyH_take (i := 2) (oi := { dst := some 35, op := Op.nilCheck (Operand.tmp 34), type := 0, pos := "timer.go:112", after := #[{ on := 1, ground := Ground.data }, { on := 5, ground := Ground.gcOnly Departure.lateStores }], guard := none }) (v := .pointer (some ⟨n.b, 0, none⟩)) rfl (by kernel_rfl) (by kernel_rfl) (by kernel_rfl) (fun _ _ _ h => h) (Or.inl ⟨by rfl, fun w' hw => by go_simp⟩) hS ?_
  try simp only [Act.put, List.setIfInBounds_toArray, List.set_cons_zero, List.set_cons_succ]
  refine wpAnyH_take (i := 3) (oi := { dst := some 36, op := Op.fieldAddr 55 (Operand.tmp 35) 2, type := 0, pos := "timer.go:112", after := #[{ on := 2, ground := Ground.data }, { on := 5, ground := Ground.gcOnly Departure.lateStores }], guard := none }) (v := .pointer (some ⟨n.b, 2, none⟩)) rfl (by kernel_rfl) (by kernel_rfl) (by kernel_rfl) (fun _ _ _ h => h) (Or.inl ⟨by rfl, fun w' hw => by go_simp⟩) hS ?_
  try simp only [Act.put, List.setIfInBounds_toArray, List.set_cons_zero, List.set_cons_succ]
  refine wpAnyH_take (i := 4) (oi := { dst := some 37, op := Op.load 26 (Operand.tmp 36), type := 26, pos := "timer.go:112", after := #[{ on := 3, ground := Ground.data }, { on := 5, ground := Ground.gcOnly Departure.lateStores }], guard := none }) (v := .agg [.int .i64 n.x.a, .int .i64 n.x.b, .int .i64 n.x.c].toArray) rfl (by kernel_rfl) (by kernel_rfl) (by kernel_rfl) (fun _ _ _ h => h) (Or.inl ⟨by rfl, fun w' hw => exec_load_agg _ 26 _ rfl _ _ rfl [.int .i64 n.x.a, .int .i64 n.x.b, .int .i64 n.x.c] _ (hw.range rx hBZ) Tryz.underlying26 rfl infoG⟩) hS ?_
  try simp only [Act.put, List.setIfInBounds_toArray, List.set_cons_zero, List.set_cons_succ]
  refine wpAnyH_take (i := 5) (oi := { dst := some 4, op := Op.assign (Operand.tmp 33), type := 3, pos := "timer.go:112", after := #[{ on := 0, ground := Ground.data }, { on := 0, ground := Ground.phase }, { on := 1, ground := Ground.textOnly Departure.lateStores }, { on := 2, ground := Ground.textOnly Departure.lateStores }, { on := 3, ground := Ground.textOnly Departure.lateStores }, { on := 4, ground := Ground.textOnly Departure.lateStores }], guard := none }) (v := .int .i64 n.t.id) rfl (by kernel_rfl) (by kernel_rfl) (by kernel_rfl) (fun _ _ _ h => h) (Or.inl ⟨by rfl, fun w' hw => by go_simp⟩) hS ?_
  try simp only [Act.put, List.setIfInBounds_toArray, List.set_cons_zero, List.set_cons_succ]
  refine wpAnyH_ready (rs := [6]) (by kernel_rfl) (by simp) ?_
  refine AllReadyH.cons (o := { dst := none, op := Op.store 26 (Operand.tmp 5) (Operand.tmp 37), type := 0, pos := "timer.go:112", after := #[{ on := 4, ground := Ground.data }, { on := 5, ground := Ground.chain }, { on := 0, ground := Ground.phase }, { on := 1, ground := Ground.phase }, { on := 2, ground := Ground.phase }, { on := 3, ground := Ground.phase }, { on := 4, ground := Ground.phase }, { on := 5, ground := Ground.phase }], guard := none }) rfl (fun K hK => ?_) AllReadyH.nil
  refine step_of_list rfl ?_
  refine wpList_store_into rfl 26 _ _ rfl Z 26 _ [.int .i64 n.x.a, .int .i64 n.x.b, .int .i64 n.x.c] rfl rfl HZX.out rfl infoG (by intro u hu; simp only [List.mem_cons, List.not_mem_nil, or_false] at hu; rcases hu with rfl | rfl | rfl <;> rfl) ?_
  intro w3 h2 t2 z2
  have hS2 := hS.trans t2 (fun y hy => .inl hy)
  have HF := Lib.hid (And.intro h2 (show Touch [Z] w2 w3 from HTX.out.trans t2 (fun y hy => .inl hy)))
  refine ⟨rfl, hK.out _ _ hS2 (fun _ => ?_)⟩
  clear hK K hS h2 t2 z2
  have hS := hS2
  clear hS2
  try simp only [Act.put, List.setIfInBounds_toArray, List.set_cons_zero, List.set_cons_succ]
  refine wpAnyH_take (i := 7) (oi := { dst := some 6, op := Op.assign (Operand.const (Value.bool true)), type := 4, pos := "timer.go:112", after := #[{ on := 6, ground := Ground.chain }, { on := 0, ground := Ground.phase }, { on := 1, ground := Ground.phase }, { on := 2, ground := Ground.phase }, { on := 3, ground := Ground.phase }, { on := 4, ground := Ground.phase }, { on := 5, ground := Ground.phase }, { on := 6, ground := Ground.phase }], guard := none }) (v := .bool true) rfl (by kernel_rfl) (by kernel_rfl) (by kernel_rfl) (fun _ _ _ h => h) (Or.inl ⟨by rfl, fun w' hw => by go_simp⟩) hS ?_
  try simp only [Act.put, List.setIfInBounds_toArray, List.set_cons_zero, List.set_cons_succ]
  refine wpAnyH_done (by kernel_rfl) ?_ _
  try simp only [Act.put, List.setIfInBounds_toArray, List.set_cons_zero, List.set_cons_succ]
  clear hS rx
  go_wp2_with fail
  obtain ⟨l', h1, h2⟩ := HC.out
  have hz1 := hZ1
  exact ret_cell rfl infoG Tryz.underlying26 rfl (cs := [.int .i64 n.x.a, .int .i64 n.x.b, .int .i64 n.x.c]) rfl rfl rfl rfl HF.out.1 ⟨rfl, l', h1, h2.postZ HT.out HF.out.2 (Nat.le_of_eq HZW.out.symm) hz1 HZF.out⟩
end
section
variable {w : World} {t h : Nat} {f : List Nat} {A : List (Tm × Tag)} {last : Int}
def tkey (a : Tm) : Key := ⟨a.id, a.due⟩
theorem TS.expire_empty (k : TS w t h f [] last) (now : Int) :
    Calls Tryz.prog 10 #[.pointer (some ⟨t, 0, none⟩), .int .u64 now] w fun e w' => e = .returned (.tuple #[.int .i64 0, .agg #[.int .i64 0, .int .i64 0, .int .i64 0], .bool false]) ∧ Touch [] w w' := by
  obtain ⟨fh, N, hm, hA, rfl⟩ := k
  have : N = [] := by
    unfold ab at hA
    simpa using hA
  subst this
  exact G.expire_empty hm now
theorem TS.expire_late (k : TS w t h f A last) (now : Int) (a : Tm × Tag) (ha : a ∈ A) (hmin : ∀ b ∈ A, le (tkey a.1) (tkey b.1)) (hl : now < a.1.due) :
    Calls Tryz.prog 10 #[.pointer (some ⟨t, 0, none⟩), .int .u64 now] w fun e w' => e = .returned (.tuple #[.int .i64 0, .agg #[.int .i64 0, .int .i64 0, .int .i64 0], .bool false]) ∧ Touch [] w w' := by
  obtain ⟨fh, N, hm, rfl, rfl⟩ := k
  obtain ⟨n, hn, rfl⟩ := List.mem_map.1 ha
  exact G.expire_late hm now n hn (fun m hm => hmin (m.t, m.x) (List.mem_map.2 ⟨m, hm, rfl⟩)) hl
def ExpS (w : World) (t h : Nat) (f : List Nat) (A : List (Tm × Tag)) (last : Int) (a : Tm × Tag) (e : Ending) (w' : World) : Prop :=
  e = .returned (.tuple #[.int .i64 a.1.id, .agg #[.int .i64 a.2.a, .int .i64 a.2.b, .int .i64 a.2.c], .bool true]) ∧ ∃ l, Sub (A.map Prod.fst) a.1.id l ∧ TNext w t h f (A.filter fun a => decide (a.1.id ∉ l)) last w'
theorem TS.expire (k : TS w t h f A last) (now : Int) (a : Tm × Tag) (ha : a ∈ A) (hmin : ∀ b ∈ A, le (tkey a.1) (tkey b.1)) (hl : a.1.due ≤ now) :
    Calls Tryz.prog 10 #[.pointer (some ⟨t, 0, none⟩), .int .u64 now] w fun e w' => ExpS w t h f A last a e w' := by
  obtain ⟨fh, N, hm, rfl, rfl⟩ := k
  obtain ⟨n, hn, rfl⟩ := List.mem_map.1 ha
  refine (expire_due hm now n hn (fun m hm => hmin (m.t, m.x) (List.mem_map.2 ⟨m, hm, rfl⟩)) hl).mono ?_
  intro e w' hx
  unfold ExpS
  rw [ab_fst]
  exact hx
end
end Go.Proofs.YtobkanlnnniabaaGreat.G

/-
  Timers above a world: what each call leaves.
-/
namespace Go.Proofs.YtobkanlnnniabaaGreat.G
open Go.RowKit
set_option linter.unusedVariables false
set_option linter.unusedSimpArgs false

def Abv (w0 w : World) (t h : Nat) (A : List (Tm × Tag)) (last : Int) : Prop := ∃ f, TS w t h f A last ∧ (∀ y ∈ f, w0.heap.size ≤ y) ∧ Touch [] w0 w
theorem Abv.next {w0 w w' : World} {t h : Nat} {f : List Nat} {A : List (Tm × Tag)} {last : Int} (hf : ∀ y ∈ f, w0.heap.size ≤ y) (ht : Touch [] w0 w) (k : TNext w t h f A last w') : Abv w0 w' t h A last := by
  obtain ⟨f', h1, h2, h3⟩ := k
  exact ⟨f', h1, fun y hy => by
    rcases h2 y hy with e | e
    · exact hf y e
    · exact Nat.le_trans ht.size e, ht.trans h3 (fun y hy => .inr (hf y hy))⟩
section
variable {w0 w : World} {t h : Nat} {A : List (Tm × Tag)} {last : Int}
theorem Abv.touch {w' : World} (k : Abv w0 w t h A last) (ht : Touch [] w w') : Abv w0 w' t h A last := by
  obtain ⟨f, h1, h2, h3⟩ := k
  exact ⟨f, h1.touch ht (by simp), h2, h3.trans ht (by simp)⟩
theorem Abv.tt (k : Abv w0 w t h A last) : Touch [] w0 w := by
  obtain ⟨f, h1, h2, h3⟩ := k
  exact h3
theorem Abv.tree (k : Abv w0 w t h A last) : Tree (A.map Prod.fst) last := by
  obtain ⟨f, h1, h2, h3⟩ := k
  exact h1.tree
theorem Abv.due (k : Abv w0 w t h A last) : ∀ s ∈ A.map Prod.fst, DueOk (A.map Prod.fst) s := by
  obtain ⟨f, h1, h2, h3⟩ := k
  exact h1.due
theorem Abv.new (w : World) : Calls Tryz.prog 4 #[] w fun e w' => ∃ t h, e = .returned (.pointer (some ⟨t, 0, none⟩)) ∧ Abv w w' t h [] 0 := by
  refine (tnew_any w).mono ?_
  rintro e w' ⟨t, h, f, rfl, h1, h2, h3⟩
  exact ⟨t, h, rfl, f, h1, h2, h3⟩
theorem Abv.start (k : Abv w0 w t h A last) (par due : Int) (x : Tag) (hxo : x.oneCell' = true) (hR : 0 ≤ due ∧ due ≤ maxT) (hl : last < 1000) (hfew : A.length < 1000) (hp : par = 0 ∨ par ∈ tids (A.map Prod.fst)) :
    Calls Tryz.prog 8 #[.pointer (some ⟨t, 0, none⟩), .int .i64 par, .int .u64 due, .agg #[.int .i64 x.a, .int .i64 x.b, .int .i64 x.c]] w fun e w' => e = .returned (.tuple #[.int .i64 (last + 1), .bool true]) ∧ Abv w0 w' t h (A ++ [(⟨last + 1, par, due, min due (lim (A.map Prod.fst) par)⟩, x)]) (last + 1) := by
  obtain ⟨f, h1, h2, h3⟩ := k
  exact (h1.start par due x hxo hR hl hfew hp).mono fun e w' ⟨e1, e2⟩ => ⟨e1, Abv.next h2 h3 e2⟩
theorem Abv.start_no (k : Abv w0 w t h A last) (par due : Int) (x : Tag) (hp : okK par) (h0 : par ≠ 0) (hn : par ∉ tids (A.map Prod.fst)) :
    Calls Tryz.prog 8 #[.pointer (some ⟨t, 0, none⟩), .int .i64 par, .int .u64 due, .agg #[.int .i64 x.a, .int .i64 x.b, .int .i64 x.c]] w fun e w' => e = .returned (.tuple #[.int .i64 0, .bool false]) ∧ Abv w0 w' t h A last := by
  obtain ⟨f, h1, h2, h3⟩ := k
  refine (h1.start_no par due x hp h0 hn).mono ?_
  rintro e w' ⟨rfl, ht⟩
  exact ⟨rfl, f, h1.touch ht (by simp), h2, h3.trans ht (by simp)⟩
theorem Abv.deadline (k : Abv w0 w t h A last) (s : Tm) (hs : s ∈ A.map Prod.fst) :
    Calls Tryz.prog 39 #[.pointer (some ⟨t, 0, none⟩), .int .i64 s.id] w fun e w' => e = .returned (.tuple #[.int .u64 s.due, .bool true]) ∧ Abv w0 w' t h A last := by
  have k' := k
  obtain ⟨f, h1, h2, h3⟩ := k
  exact (h1.deadline s hs).mono fun e w' ⟨e1, e2⟩ => ⟨e1, k'.touch e2⟩
theorem Abv.deadline_no (k : Abv w0 w t h A last) (i : Int) (hi : okK i) (hn : i ∉ tids (A.map Prod.fst)) :
    Calls Tryz.prog 39 #[.pointer (some ⟨t, 0, none⟩), .int .i64 i] w fun e w' => e = .returned (.tuple #[.int .u64 0, .bool false]) ∧ Abv w0 w' t h A last := by
  obtain ⟨f, h1, h2, h3⟩ := k
  refine (h1.deadline_no i hi hn).mono ?_
  rintro e w' ⟨rfl, rfl⟩
  exact ⟨rfl, f, h1, h2, h3⟩
theorem Abv.len (k : Abv w0 w t h A last) :
    Calls Tryz.prog 35 #[.pointer (some ⟨t, 0, none⟩)] w fun e w' => e = .returned (.int .i64 A.length) ∧ w' = w := by
  obtain ⟨f, h1, h2, h3⟩ := k
  exact h1.len
def Cut (w0 : World) (t h : Nat) (A : List (Tm × Tag)) (last i : Int) (l : List Int) (w' : World) : Prop := Sub (A.map Prod.fst) i l ∧ Abv w0 w' t h (A.filter fun a => decide (a.1.id ∉ l)) last
theorem Abv.cancel (k : Abv w0 w t h A last) (i : Int) (hi : i ∈ tids (A.map Prod.fst)) :
    Calls Tryz.prog 14 #[.pointer (some ⟨t, 0, none⟩), .int .i64 i] w fun e w' => ∃ l : List Int, e = .returned (.int .i64 (l.length : Nat)) ∧ Cut w0 t h A last i l w' := by
  obtain ⟨f, h1, h2, h3⟩ := k
  refine (h1.cancel i hi).mono ?_
  rintro e w' ⟨l, rfl, hs, hn⟩
  exact ⟨l, rfl, hs, Abv.next h2 h3 hn⟩
theorem Abv.cancel_no (k : Abv w0 w t h A last) (i : Int) (hi : okK i) (hn : i ∉ tids (A.map Prod.fst)) :
    Calls Tryz.prog 14 #[.pointer (some ⟨t, 0, none⟩), .int .i64 i] w fun e w' => e = .returned (.int .i64 0) ∧ Abv w0 w' t h A last := by
  have k' := k
  obtain ⟨f, h1, h2, h3⟩ := k
  exact (h1.cancel_no i hi hn).mono fun e w' ⟨e1, e2⟩ => ⟨e1, k'.touch e2⟩
theorem Abv.expire_empty (k : Abv w0 w t h [] last) (now : Int) :
    Calls Tryz.prog 10 #[.pointer (some ⟨t, 0, none⟩), .int .u64 now] w fun e w' => e = .returned (.tuple #[.int .i64 0, .agg #[.int .i64 0, .int .i64 0, .int .i64 0], .bool false]) ∧ Abv w0 w' t h [] last := by
  have k' := k
  obtain ⟨f, h1, h2, h3⟩ := k
  exact (h1.expire_empty now).mono fun e w' ⟨e1, e2⟩ => ⟨e1, k'.touch e2⟩
theorem Abv.expire_late (k : Abv w0 w t h A last) (now : Int) (a : Tm × Tag) (ha : a ∈ A) (hmin : ∀ b ∈ A, le (tkey a.1) (tkey b.1)) (hl : now < a.1.due) :
    Calls Tryz.prog 10 #[.pointer (some ⟨t, 0, none⟩), .int .u64 now] w fun e w' => e = .returned (.tuple #[.int .i64 0, .agg #[.int .i64 0, .int .i64 0, .int .i64 0], .bool false]) ∧ Abv w0 w' t h A last := by
  have k' := k
  obtain ⟨f, h1, h2, h3⟩ := k
  exact (h1.expire_late now a ha hmin hl).mono fun e w' ⟨e1, e2⟩ => ⟨e1, k'.touch e2⟩
theorem Abv.expire (k : Abv w0 w t h A last) (now : Int) (a : Tm × Tag) (ha : a ∈ A) (hmin : ∀ b ∈ A, le (tkey a.1) (tkey b.1)) (hl : a.1.due ≤ now) :
    Calls Tryz.prog 10 #[.pointer (some ⟨t, 0, none⟩), .int .u64 now] w fun e w' => e = .returned (.tuple #[.int .i64 a.1.id, .agg #[.int .i64 a.2.a, .int .i64 a.2.b, .int .i64 a.2.c], .bool true]) ∧ ∃ l, Cut w0 t h A last a.1.id l w' := by
  obtain ⟨f, h1, h2, h3⟩ := k
  refine (h1.expire now a ha hmin hl).mono ?_
  rintro e w' ⟨rfl, l, hs, hn⟩
  exact ⟨rfl, l, hs, Abv.next h2 h3 hn⟩
end
end Go.Proofs.YtobkanlnnniabaaGreat.G

/-
  Deadlines changed: what the timers' memory is.
-/
namespace Go.Proofs.YtobkanlnnniabaaGreat.G
open Go.RowKit
set_option linter.unusedVariables false
set_option linter.unusedSimpArgs false

def setReqN (id r : Int) (n : Nd) : Nd := { n with t := setReq id r n.t }
def setDueN (id d : Int) (n : Nd) : Nd := { n with t := setDue id d n.t }
theorem sh_setReqN (id r : Int) (N : List Nd) : sh (N.map (setReqN id r)) = (sh N).map (setReq id r) := by
  simp [sh, setReqN, Function.comp_def]
theorem sh_setDueN (id r : Int) (N : List Nd) : sh (N.map (setDueN id r)) = (sh N).map (setDue id r) := by
  simp [sh, setDueN, Function.comp_def]
theorem itm_setDueN (id d : Int) (N : List Nd) : (N.map (setDueN id d)).map Nd.itm = (N.map Nd.itm).map (upd id d) := by
  rw [List.map_map, List.map_map]
  apply List.map_congr_left
  intro n _
  simp only [Function.comp, setDueN, Nd.itm, upd, setDue]
  split <;> simp_all
/-- What a Reset leaves as it is: handles, parents, values; and the blocks. -/
def core (n : Nd) : Int × Int × Int × Tag := (n.t.id, n.t.par, n.t.req, n.x)
def body (n : Nd) : Nat × Value := (n.b, n.v)
theorem sub_map {N : List Tm} {f : Tm → Tm} {id : Int} {l : List Int} (b : Sub N id l) (hf : ∀ n, (f n).id = n.id ∧ (f n).par = n.par) : Sub (N.map f) id l := by
  have hk : kids (N.map f) = kids N := funext fun p => kids_map f hf p
  exact ⟨by rw [hk]; exact b.eq, b.il, b.nodup, fun k hk2 => by rw [tids_map f (fun n => (hf n).1)]; exact b.mem k hk2, fun j p hj hp m hm => b.late j p hj hp m (by rwa [hk] at hm)⟩
section
variable {w : World} {t h : Nat} {fh : List Nat} {N : List Nd} {last : Int} {K : Int → List Int}
theorem body_foot {N N' : List Nd} (h : N'.map body = N.map body) : N'.flatMap Nd.foot = N.flatMap Nd.foot := by
  have e : ∀ (N : List Nd), N.flatMap Nd.foot = (N.map body).flatMap fun p => p.1 :: p.2.ownBlock.toList := by
    intro N
    rw [List.flatMap_map]
    rfl
  rw [e, e, h]
theorem body_apart {N N' : List Nd} (h : N'.map body = N.map body) (hp : N.Pairwise fun a b => ∀ y ∈ a.foot, y ∉ b.foot) : N'.Pairwise fun a b => ∀ y ∈ a.foot, y ∉ b.foot := by
  have e : ∀ (N : List Nd), (N.Pairwise fun a b => ∀ y ∈ a.foot, y ∉ b.foot) ↔ (N.map body).Pairwise fun a b => ∀ y ∈ a.1 :: a.2.ownBlock.toList, y ∉ b.1 :: b.2.ownBlock.toList := by
    intro N
    rw [List.pairwise_map]
    rfl
  rw [e, h, ← e]
  exact hp
/-- One timer's requested deadline is another. -/
theorem TK.req_set {p : Nd} {r : Int} (k : TK w t h fh N last K) (hu : (tids (sh N)).Nodup) (hp : p ∈ N) (hr : 0 ≤ r ∧ r ≤ maxT) :
    TK (w.setCell ⟨p.b, 1, none⟩ (.int .u64 r)) t h fh (N.map (setReqN p.t.id r)) last K ∧ Touch p.foot w (w.setCell ⟨p.b, 1, none⟩ (.int .u64 r)) := by
  have t1 := (Touch.refl [p.b] w).setCell (p := ⟨p.b, 1, none⟩) (by simp) (.int .u64 r)
  have ht : Touch p.foot w (w.setCell ⟨p.b, 1, none⟩ (.int .u64 r)) := t1.mono (by intro y hy; left; simp at hy; simp [Nd.foot, hy])
  have hpd := k.nd p hp
  have hh : (w.setCell ⟨p.b, 1, none⟩ (.int .u64 r)).heap[p.b]? = some (.cells #[.int .i64 p.t.par, .int .u64 r, .int .i64 p.x.a, .int .i64 p.x.b, .int .i64 p.x.c, p.v] 55 (0, 0)) := by simp [World.setCell, Array.getElem?_modify, hpd.hdr]
  have hform : ∀ n ∈ N, (n = p ∧ (setReqN p.t.id r n).t = { p.t with req := r }) ∨ (n.t.id ≠ p.t.id ∧ setReqN p.t.id r n = n) := by
    intro n hn
    by_cases e : n.t.id = p.t.id
    · have := nd_inj hu hn hp e
      subst this
      exact .inl ⟨rfl, by simp [setReqN, setReq]⟩
    · exact .inr ⟨e, by simp [setReqN, setReq, e]⟩
  have hbody : (N.map (setReqN p.t.id r)).map body = N.map body := by
    rw [List.map_map]
    rfl
  have hid : ∀ n, (setReqN p.t.id r n).t.id = n.t.id := fun n => (setReq_keep _ _ n.t).1
  refine ⟨⟨ht.at k.hdr (k.nt p hp), ?_, ?_, ?_, by rw [List.length_map]; exact k.few, k.tf, ?_, ?_, body_apart hbody k.nn⟩, ht⟩
  · have : (N.map (setReqN p.t.id r)).map Nd.itm = N.map Nd.itm := by
      rw [List.map_map]
      apply List.map_congr_left
      intro n _
      have := setReq_keep p.t.id r n.t
      simp [Nd.itm, setReqN, this.1, this.2.2]
    rw [this]
    exact k.bag.touch ht (fun y hy e => k.nf p hp y e hy)
  · intro n' hn'
    obtain ⟨n, hn, rfl⟩ := List.mem_map.1 hn'
    rcases hform n hn with ⟨rfl, e⟩ | ⟨hne, e⟩
    · refine ⟨?_, ?_, hpd.one, hpd.hv⟩
      · rw [e]
        exact hh
      · rw [hid]
        exact t1.owns hpd.row (by intro g hg e2; simp at e2; exact hpd.hv (by rw [← e2]; exact hg))
    · rw [e]
      exact (k.nd n hn).touch ht (k.apart hu hn hp hne)
  · intro n' hn'
    obtain ⟨n, hn, rfl⟩ := List.mem_map.1 hn'
    rcases hform n hn with ⟨rfl, e⟩ | ⟨hne, e⟩
    · rw [e]
      exact hr
    · rw [e]
      exact k.rq n hn
  · intro n' hn'
    obtain ⟨n, hn, rfl⟩ := List.mem_map.1 hn'
    exact k.nt n hn
  · intro n' hn'
    obtain ⟨n, hn, rfl⟩ := List.mem_map.1 hn'
    exact k.nf n hn
/-- One timer's effective deadline is another. -/
theorem TK.due_set {i d : Int} {w' : World} (k : TK w t h fh N last K) (nx : Next w h fh ((N.map Nd.itm).map (upd i d)) last w') :
    ∃ fh', TK w' t h fh' (N.map (setDueN i d)) last K ∧ (∀ y ∈ fh', y ∈ fh ∨ w.heap.size ≤ y) ∧ Touch fh w w' := by
  obtain ⟨fh', hb, hf, ht⟩ := nx
  rw [← itm_setDueN] at hb
  have hbody : (N.map (setDueN i d)).map body = N.map body := by
    rw [List.map_map]
    rfl
  refine ⟨fh', k.bagged hb hf ht ?_ (body_apart hbody k.nn) (by rw [List.length_map]; exact k.few), hf, ht⟩
  intro n' hn'
  obtain ⟨n, hn, rfl⟩ := List.mem_map.1 hn'
  have := setDue_keep i d n.t
  exact .inr ⟨n, hn, rfl, rfl, rfl, this.1, this.2.1, this.2.2⟩
/-- Between two rounds of Reset. -/
structure Rs (w0 : World) (t h : Nat) (fh0 : List Nat) (N : List Nd) (last id r : Int) (l : List Int) (j : Nat) (wr : World) (fh : List Nat) (M : List Nd) : Prop where
  mem : TK wr t h fh M last (kids (sh N))
  tree : Tree (sh M) last
  sub : Sub (sh M) id l
  core : M.map core = (N.map (setReqN id r)).map core
  body : M.map body = N.map body
  due : DueBut (sh M) (l.drop j)
  foot : ∀ y ∈ fh, y ∈ fh0 ∨ w0.heap.size ≤ y
  tt : Touch (TFoot t fh0 N) w0 wr
theorem core_ids {M N : List Nd} (h : M.map core = N.map core) : tids (sh M) = tids (sh N) := by
  have e : ∀ (N : List Nd), tids (sh N) = (N.map core).map Prod.fst := by
    intro N
    simp [tids, sh, G.core, Function.comp_def]
  rw [e, e, h]
theorem core_kids {M N : List Nd} (h : M.map core = N.map core) (p : Int) : kids (sh M) p = kids (sh N) p := by
  have e : ∀ (N : List Nd), kids (sh N) p = ((N.map core).filter fun c => decide (c.2.1 = p)).map Prod.fst := by
    intro N
    unfold kids sh
    rw [List.filter_map, List.filter_map, List.map_map, List.map_map]
    rfl
  rw [e, e, h]
theorem core_setReq (id r : Int) (N : List Nd) : tids (sh (N.map (setReqN id r))) = tids (sh N) ∧ ∀ p, kids (sh (N.map (setReqN id r))) p = kids (sh N) p := by
  rw [sh_setReqN]
  exact ⟨tids_map _ fun n => (setReq_keep id r n).1, fun p => kids_map _ (fun n => ⟨(setReq_keep id r n).1, (setReq_keep id r n).2.1⟩) p⟩
/-- The first round: the requested deadline is stored. -/
theorem Rs.start {w0 wr : World} {p : Nd} {r : Int} {l : List Int} (k : TM w0 t h fh N last) (hp : p ∈ N) (hs : Sub (sh N) p.t.id l) (ht : Touch [] w0 wr) (hr : 0 ≤ r ∧ r ≤ maxT) :
    Rs w0 t h fh N last p.t.id r l 0 (wr.setCell ⟨p.b, 1, none⟩ (.int .u64 r)) fh (N.map (setReqN p.t.id r)) := by
  obtain ⟨m, t1⟩ := (k.mem.touch ht (by simp)).req_set k.ids hp hr
  have hk : ∀ n : Tm, (setReq p.t.id r n).id = n.id ∧ (setReq p.t.id r n).par = n.par := fun n => ⟨(setReq_keep _ _ n).1, (setReq_keep _ _ n).2.1⟩
  refine ⟨m, by rw [sh_setReqN]; exact k.tree.map _ hk, by rw [sh_setReqN]; exact sub_map hs hk, rfl, ?_, ?_, fun y hy => .inl hy, ?_⟩
  · rw [List.map_map]
    rfl
  · rw [sh_setReqN]
    exact DueBut.start k.tree k.due (List.mem_of_getElem? hs.head)
  · exact (ht.mono (by simp)).trans t1 (fun y hy => .inl (TFoot.mem.2 (.inr (.inr ⟨p, hp, hy⟩))))
theorem Rs.step {w0 wr w' : World} {M : List Nd} {fh' : List Nat} {id r : Int} {l : List Int} {j : Nat} {n : Nd} (k : Rs w0 t h fh N last id r l j wr fh' M) (hn : n ∈ M) (hj : l[j]? = some n.t.id)
    (nx : Next wr h fh' ((M.map Nd.itm).map (upd n.t.id (min n.t.req (lim (sh M) n.t.par)))) last w') :
    ∃ fh2, Rs w0 t h fh N last id r l (j + 1) w' fh2 (M.map (setDueN n.t.id (min n.t.req (lim (sh M) n.t.par)))) ∧ ∀ y ∈ fh2, y ∈ fh' ∨ wr.heap.size ≤ y := by
  obtain ⟨fh2, m2, f2, t2⟩ := k.mem.due_set nx
  have hk : ∀ s : Tm, (setDue n.t.id (min n.t.req (lim (sh M) n.t.par)) s).id = s.id ∧ (setDue n.t.id (min n.t.req (lim (sh M) n.t.par)) s).par = s.par := fun s => ⟨(setDue_keep _ _ s).1, (setDue_keep _ _ s).2.1⟩
  refine ⟨fh2, ⟨m2, by rw [sh_setDueN]; exact k.tree.map _ hk, by rw [sh_setDueN]; exact sub_map k.sub hk, ?_, ?_, ?_, ?_, ?_⟩, f2⟩
  · rw [← k.core, List.map_map]
    apply List.map_congr_left
    intro s _
    have := setDue_keep n.t.id (min n.t.req (lim (sh M) n.t.par)) s.t
    simp [G.core, setDueN, this.1, this.2.1, this.2.2]
  · rw [← k.body, List.map_map]
    rfl
  · rw [sh_setDueN]
    exact DueBut.step k.tree k.sub (sh_mem hn) hj k.due
  · intro y hy
    rcases f2 y hy with e | e
    · exact k.foot y e
    · exact .inr (Nat.le_trans k.tt.size e)
  · refine k.tt.trans t2 ?_
    intro y hy
    rcases k.foot y hy with e | e
    · exact .inl (TFoot.mem.2 (.inr (.inl e)))
    · exact .inr e
/-- What Reset leaves. -/
def Rst (w : World) (t h : Nat) (f : List Nat) (A : List (Tm × Tag)) (last id r : Int) (w' : World) : Prop :=
  ∃ A', TNext w t h f A' last w' ∧ A'.map (fun a => (a.1.id, a.1.par, a.1.req, a.2)) = (A.map fun a => (setReq id r a.1, a.2)).map fun a => (a.1.id, a.1.par, a.1.req, a.2)
theorem Rs.fin {w0 wr : World} {M : List Nd} {fh' : List Nat} {id r : Int} {l : List Int} (k : Rs w0 t h fh N last id r l l.length wr fh' M) : Rst w0 t h (TFoot t fh N) (ab N) last id r wr := by
  have hK : ∀ p, kids (sh N) p = kids (sh M) p := by
    intro p
    rw [core_kids k.core p, (core_setReq id r N).2 p]
  refine ⟨ab M, ⟨_, ⟨fh', M, ⟨k.mem.congr (fun n _ => hK _), k.tree, ?_⟩, rfl, rfl⟩, ?_, k.tt⟩, ?_⟩
  · intro s hs
    exact k.due s hs (by simp)
  · intro y hy
    have hb := body_foot k.body
    simp only [TFoot, hb, List.mem_cons, List.mem_append] at hy ⊢
    rcases hy with rfl | hy | hy
    · exact .inl (.inl rfl)
    · rcases k.foot y hy with e | e
      · exact .inl (.inr (.inl e))
      · exact .inr e
    · exact .inl (.inr (.inr hy))
  · have h1 := k.core
    simp only [ab, List.map_map] at h1 ⊢
    exact h1
end
end Go.Proofs.YtobkanlnnniabaaGreat.G

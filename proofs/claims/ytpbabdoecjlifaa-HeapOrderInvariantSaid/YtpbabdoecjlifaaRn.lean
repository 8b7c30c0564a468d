/-
  The reference heap's Handles.
-/
import Derived.Test.YtpbabdoecjlifaaRr
namespace Go.Proofs.Ytpbabdoecjlifaa
open Go.RowKit Go.Sort
set_option linter.unusedVariables false
set_option linter.unusedSimpArgs false

/-- In the order of the handles. -/
def Asc (L : List Itm) : Prop := L.Pairwise fun x y => x.id < y.id
theorem Asc.nodup {L : List Itm} (h : Asc L) : (L.map Itm.id).Nodup := by
  unfold List.Nodup
  rw [List.pairwise_map]
  exact h.imp (by intro a b h; omega)
theorem Asc.erase {L : List Itm} (h : Asc L) (i : Nat) : Asc (L.eraseIdx i) := List.Pairwise.sublist (List.eraseIdx_sublist L i) h
theorem first_le {L : List Itm} (h : Asc L) {at_ : Int} (hf : FirstOf L L.length at_) : (L = [] ∧ at_ = -1) ∨ ∃ (q : Nat) (y : Itm), at_ = q ∧ L[q]? = some y ∧ ∀ z ∈ L, le y.key z.key := by
  rcases hf with ⟨h0, rfl⟩ | ⟨q, y, rfl, _, hq, hm⟩
  · exact .inl ⟨List.length_eq_zero_iff.1 h0, rfl⟩
  · refine .inr ⟨q, y, rfl, hq, fun z hz => ?_⟩
    obtain ⟨j, hj, e⟩ := List.getElem_of_mem hz
    have hjz : L[j]? = some z := by rw [List.getElem?_eq_getElem hj, e]
    rcases hm j z hj hjz with h1 | ⟨h1, h2⟩
    · exact .inl h1
    · refine .inr ⟨h1, ?_⟩
      show y.id ≤ z.id
      rcases Nat.lt_or_ge q j with h3 | h3
      · obtain ⟨q1, e1⟩ := List.getElem?_eq_some_iff.1 hq
        have := List.pairwise_iff_getElem.1 h q j q1 hj h3
        rw [e1, e] at this
        omega
      · have : q = j := by omega
        subst this
        rw [hq] at hjz
        cases hjz
        exact Int.le_refl _
theorem info28 : (Try.prog.info? 28).map (·.size) = some 2 := by kernel_rfl
/-- What the loop keeps: the copy in the block c bears Lr, the slice vo the handles of D. -/
structure Rd24 (w wr : World) (c : Nat) (L Lr D : List Itm) (vr vo : Value) : Prop where
  rh : Rh wr c vr Lr 0
  cw : w.heap.size ≤ c
  vw : ∀ g, vr.ownBlock = some g → w.heap.size ≤ g
  out : OwnN w wr vo (D.map Itm.id)
  ne : ∀ g, vo.ownBlock = some g → g ∉ Rh.foot c vr
  t : Touch [] w wr
  perm : (D ++ Lr).Perm L
  asc : Asc Lr
  srt : D.Pairwise fun x y => le x.key y.key
  bel : ∀ d ∈ D, ∀ z ∈ Lr, le d.key z.key
theorem Rd24.touch {w wr w' : World} {c : Nat} {L Lr D : List Itm} {vr vo : Value} (k : Rd24 w wr c L Lr D vr vo) (t : Touch [] wr w') : Rd24 w w' c L Lr D vr vo :=
  ⟨k.rh.touch t (by simp), k.cw, k.vw, k.out.touch t (by simp), k.ne, k.t.trans t (by simp), k.perm, k.asc, k.srt, k.bel⟩
/-- After the handle of y has been appended. -/
theorem rd24_app {w wr w5 : World} {c : Nat} {L Lr D : List Itm} {vr vo vo' : Value} (k : Rd24 w wr c L Lr D vr vo) (y : Itm) {wa : World} (tC : Touch [] wr wa) (o5 : w5.ownsRow 0 3 1 vo' (D.length + 1) (((D.map Itm.id).map (Value.int .i64)) ++ [.int .i64 y.id])) (t5 : Touch vo.ownBlock.toList wa w5) (b5 : vo'.ownBlock = vo.ownBlock ∨ vo'.ownBlock = some wa.heap.size) (hs : wa.heap.size = wr.heap.size + 1) :
    Rh w5 c vr Lr 0 ∧ Rd24 w wr c L Lr D vr vo ∧ OwnN w w5 vo' ((D ++ [y]).map Itm.id) ∧ (∀ g, vo'.ownBlock = some g → g ∉ Rh.foot c vr ∧ g < w5.heap.size) ∧ Touch [] w w5 := by
  have hne : ∀ z ∈ Rh.foot c vr, z ∉ vo.ownBlock.toList := fun z hz hm => k.ne z (by simpa using hm) hz
  have hlt := k.rh.lt
  have hsz := k.t.size
  refine ⟨(k.rh.touch tC (by simp)).touch t5 hne, k, ⟨by
    rw [List.map_append, List.map_append, List.length_append, List.length_map]
    exact o5, fun g hg => ?_⟩, fun g hg => ⟨?_, ?_⟩, (k.t.trans tC (by simp)).trans t5 (fun z hz => .inr (k.out.new z (by simpa using hz)))⟩
  · rcases b5 with e | e
    · exact k.out.new g (by rw [← e]; exact hg)
    · rw [e] at hg
      simp at hg
      omega
  · rcases b5 with e | e
    · exact k.ne g (by rw [← e]; exact hg)
    · rw [e] at hg
      simp at hg
      intro hm
      have := hlt g hm
      omega
  · exact (o5.lt g hg).2
/-- After y has been taken out of the copy. -/
theorem rd24_rem {w wr w5 w6 : World} {c q : Nat} {L Lr D : List Itm} {vr vo vo' vr6 : Value} {y : Itm} (k : Rh w5 c vr Lr 0 ∧ Rd24 w wr c L Lr D vr vo ∧ OwnN w w5 vo' ((D ++ [y]).map Itm.id) ∧ (∀ g, vo'.ownBlock = some g → g ∉ Rh.foot c vr ∧ g < w5.heap.size) ∧ Touch [] w w5)
    (hq : Lr[q]? = some y) (hm : ∀ z ∈ Lr, le y.key z.key) (h6 : Rh w6 c vr6 (Lr.eraseIdx q) 0) (hv : ∀ g, vr6.ownBlock = some g → w5.heap.size ≤ g) (t6 : Touch [c] w5 w6) : Rd24 w w6 c L (Lr.eraseIdx q) (D ++ [y]) vr6 vo' := by
  obtain ⟨k1, k2, k3, k4, k5⟩ := k
  have hcn : ∀ g, vo'.ownBlock = some g → g ≠ c := fun g hg e => (k4 g hg).1 (by rw [e]; simp [Rh.foot])
  have hyl := List.mem_of_getElem? hq
  refine ⟨h6, k2.cw, fun g hg => Nat.le_trans k5.size (hv g hg), k3.touch t6 (by intro g hg; simpa using hcn g hg), fun g hg hmem => ?_, k5.trans t6 (by intro z hz; right; simp at hz; subst hz; exact k2.cw), ?_, k2.asc.erase q, ?_, ?_⟩
  · simp only [Rh.foot, List.mem_cons, Option.mem_toList] at hmem
    rcases hmem with rfl | hmem
    · exact hcn g hg rfl
    · have h1 := hv g hmem
      have h2 := (k4 g hg).2
      omega
  · obtain ⟨hi, e⟩ := List.getElem?_eq_some_iff.1 hq
    have h1 : (y :: Lr.eraseIdx q).Perm Lr := by
      have h2 : Lr = Lr.take q ++ y :: Lr.drop (q + 1) := by
        rw [← e, ← List.drop_eq_getElem_cons hi, List.take_append_drop]
      rw [List.eraseIdx_eq_take_drop_succ]
      have h3 : (Lr.take q ++ y :: Lr.drop (q + 1)).Perm (y :: (Lr.take q ++ Lr.drop (q + 1))) := List.perm_middle
      rw [← h2] at h3
      exact h3.symm
    rw [List.append_assoc]
    exact ((h1.append_left D)).trans k2.perm
  · rw [List.pairwise_append]
    exact ⟨k2.srt, by simp, fun a ha b hb => by simp at hb; subst hb; exact k2.bel a ha _ hyl⟩
  · intro d hd z hz
    have hz' := List.mem_of_mem_eraseIdx hz
    rcases List.mem_append.1 hd with hd | hd
    · exact k2.bel d hd z hz'
    · simp at hd
      subst hd
      exact hm z hz'
def slen : Value → Nat
  | .slice _ n _ => n
  | _ => 0
theorem OwnN.slen {w0 w : World} {v : Value} {l : List Int} (h : OwnN w0 w v l) : slen v = l.length := by
  obtain ⟨a, c, rfl, _⟩ := owns_form h.row
  rfl
def Rel24 (w : World) (c : Nat) (L : List Itm) (vo vi : Value) (wr : World) : Prop := ∃ (at_ : Int) (Lr D : List Itm) (vr : Value), vi = .int .i64 at_ ∧ FirstOf Lr Lr.length at_ ∧ Rd24 w wr c L Lr D vr vo
set_option maxRecDepth 100000 in
set_option maxHeartbeats 2000000 in
theorem rhandles_any (x : Nat) (v : Value) (L : List Itm) (last : Int) (w : World) (k : Rh w x v L last) (ha : Asc L) :
    Calls Try.prog 24 #[.pointer (some ⟨x, 0, none⟩)] w fun e w' => ∃ (v' : Value) (D : List Itm), e = .returned v' ∧ D.Perm L ∧ D.Pairwise (fun x y => le x.key y.key) ∧ OwnN w w' v' (D.map Itm.id) ∧ Touch [] w w' := by
  obtain ⟨i43, z43, hi43, hz43, hs43, hb43, hc43⟩ := info_parts info43
  obtain ⟨i3, z3, hi3, hz3, hs3, hb3, hc3⟩ := info_parts info3'
  obtain ⟨av, cv, rfl, hv1, hv2, hv3⟩ := k.form
  obtain ⟨c0, c1⟩ := k.cells
  have hfew := k.few
  have hfl : (L.map encI).flatten.length = L.length * 3 := by rw [flat_len (encI_len L), List.length_map]
  have hone := encI_one_sub k.one (List.Sublist.refl _)
  have hnone : av = none → L.length = 0 ∧ cv = 0 := by
    rintro rfl
    rcases k.row.2 with ⟨e, _⟩ | ⟨g', cap, cur, hv, _⟩
    · simpa using e
    · simp at hv
  have hnews : ∀ ad, av = some ad → ∀ j u, (L.map encI).flatten[j]? = some u → w.cell? (ad.add j) = some u := by
    rintro ad rfl j u hu
    rcases k.row.2 with ⟨e, _⟩ | ⟨g', cap, cur, hv, _⟩
    · simp at e
    · simp at hv
      obtain ⟨rfl, rfl⟩ := hv
      rw [Addr.add_lit]
      simpa using owns_cell k.row j u hu
  have HONE := Lib.hid k.one
  have HA := Lib.hid ha
  clear k ha hv3
  go_enter Try.func24, Try.ntmps24
  go_wp2_with (at_builtin; refine wpList_app _ (by rfl) _ _ 26 (by rfl) 43 i43 _ 3 24 Try.underlying26 hi43 hz43 hs43 hb43 hc43 (by omega) _ 0 [] (by rfl) (World.ownsRow_nil _ _ _ _) av L.length cv (L.map encI).flatten (by rfl) hfl hnone hnews hone (by unfold maxLen; omega) (by omega) ?_)
  intro v2 w2 o2 t2 b2
  try simp only [Nat.zero_add, List.nil_append] at o2
  have t2' : Touch [] w w2 := t2.mono (by simp [Value.ownBlock])
  have hn2 := own_new b2 (m := w.heap.size) (by simp [Value.ownBlock]) (Nat.le_refl _)
  obtain ⟨a2, cc2, rfl, _⟩ := owns_form o2
  have tc := (Touch.refl [] w2).alloc (.cells #[.slice a2 L.length cc2, .int .i64 0] 28)
  have hc := heap_alloc_new w2 (.cells #[.slice a2 L.length cc2, .int .i64 0] 28)
  have hlt2 : ∀ g, (Value.slice a2 L.length cc2).ownBlock = some g → g < w2.heap.size := fun g hg => (o2.lt g hg).2
  have hrh : Rh (w2.alloc (.cells #[.slice a2 L.length cc2, .int .i64 0] 28)) w2.heap.size (.slice a2 L.length cc2) L 0 := ⟨hc, tc.owns o2 (by simp), HONE.out, fun e => by have := hlt2 _ e; omega, hfew⟩
  have hst : Rd24 w (w2.alloc (.cells #[.slice a2 L.length cc2, .int .i64 0] 28)) w2.heap.size L L [] (.slice a2 L.length cc2) (.slice none 0 0) := ⟨hrh, t2'.size, hn2, ⟨World.ownsRow_nil _ _ _ _, by simp [Value.ownBlock]⟩, by simp [Value.ownBlock], t2'.trans tc (by simp), by simp, HA.out, by simp, by simp⟩
  have HST := Lib.hid hst
  clear t2 b2 o2 hc hrh tc hst hnews hone hnone hlt2
  try simp only [Act.put]
  go_wp2_with (refine wpList_store_new rfl 28 _ _ rfl _ _ [.slice a2 L.length cc2, .int .i64 0] (by rfl) (by rfl) rfl info28 (by intro u hu; simp at hu; rcases hu with rfl | rfl <;> rfl) ?_)
  generalize w2.alloc (.cells #[.slice a2 L.length cc2, .int .i64 0] 28) = w3 at *
  generalize w2.heap.size = c at *
  refine (rfirst_any c _ L 0 w3 HST.out.rh).mono ?_
  rintro e w4 ⟨at0, rfl, hf0, t4⟩
  have HST4 := Lib.hid (HST.out.touch t4)
  have HF0 := Lib.hid hf0
  clear t4 hf0 c0 c1 hn2 t2'
  go_wp2_with fail
  go_loopw [4, 5] (fun vo vi wr => Rel24 w c L vo vi wr) (fun vo _ _ => L.length - slen vo)
  case atStart => exact ⟨at0, L, [], _, rfl, HF0.out, HST4.out⟩
  case round =>
    obtain ⟨at_, Lr, D, vr, rfl, hf, hr⟩ := hrel
    have HR := Lib.hid hr
    have hfl2 := first_le hr.asc hf
    have hln : D.length + Lr.length = L.length := by have := hr.perm.length_eq; rwa [List.length_append] at this
    clear hr hf
    rcases hfl2 with ⟨rfl, rfl⟩ | ⟨q, y, rfl, hq, hmin⟩
    · go_wp2_with fail
      have hp := HR.out.perm
      rw [List.append_nil] at hp
      have HP := Lib.hid hp
      clear hp
      go_ret
      exact ⟨_, D, rfl, HP.out, HR.out.srt, HR.out.out, HR.out.t⟩
    · have hql := (List.getElem?_eq_some_iff.1 hq).1
      have HQ := Lib.hid hq
      have HM := Lib.hid hmin
      clear hq hmin
      obtain ⟨ar, cr, rfl, hr1, hr2, hr3⟩ := HR.out.rh.form
      obtain ⟨g, rfl, hgc⟩ := hr3 (by omega)
      obtain ⟨d0, d1⟩ := HR.out.rh.cells
      obtain ⟨e0, e1, e2⟩ := HR.out.rh.elem HQ.out
      have hq0 : (0 : Int) ≤ (q : Int) := by omega
      have hqb : (q : Int) < (Lr.length : Int) := by omega
      have tC := (Touch.refl [] wr).alloc (.cells #[.int .i64 y.id] 3)
      have hrow := (HR.out.out.touch tC (by simp)).row
      have hlD : (D.map Itm.id).length = D.length := by simp
      rw [hlD] at hrow
      have hnew := one_new wr (.int .i64 y.id) 3
      have hnews : ∀ ad, (some ⟨wr.heap.size, 0, none⟩ : Option Addr) = some ad → ∀ j u, [Value.int .i64 y.id][j]? = some u → (wr.alloc (.cells #[.int .i64 y.id] 3)).cell? (ad.add j) = some u := by
        intro ad had
        cases had
        exact hnew
      clear hnew hlD hr3
      go_wp2_with (at_builtin; refine wpList_app _ (by rfl) _ _ 46 (by rfl) 3 i3 z3 1 8 Try.underlying46 hi3 hz3 hs3 hb3 hc3 (by omega) _ D.length _ (by rfl) hrow (some ⟨wr.heap.size, 0, none⟩) 1 1 [.int .i64 y.id] (by rfl) rfl (by intro h; cases h) hnews (by intro u hu; simp at hu; subst hu; rfl) (by unfold maxLen; omega) (by omega) ?_)
      intro vo w5 o5 t5 b5
      have hs1 : (wr.alloc (.cells #[.int .i64 y.id] 3)).heap.size = wr.heap.size + 1 := by simp
      obtain ⟨ao, co, rfl, _⟩ := owns_form o5
      have HST5 := Lib.hid (rd24_app HR.out y tC (by rw [List.map_map]; exact o5) t5 (by rw [hs1]; exact b5) hs1)
      clear o5 t5 b5 hrow hnews tC hs1 d0 d1 e0 e1 e2
      try simp only [Act.put]
      go_wp2_with fail
      refine (rremove_any c _ Lr 0 w5 HST5.out.1 q hql).mono ?_
      rintro e w6 ⟨rfl, vr6, hr6, hv6, t6⟩
      have HST6 := Lib.hid (rd24_rem HST5.out HQ.out HM.out hr6 hv6 t6)
      clear hr6 hv6 t6
      go_wp2_with fail
      refine (rfirst_any c _ _ 0 w6 HST6.out.rh).mono ?_
      rintro e w7 ⟨at7, rfl, hf7, t7⟩
      have HST7 := Lib.hid (HST6.out.touch t7)
      have HF7 := Lib.hid hf7
      clear t7 hf7
      go_wp2_with fail
      go_roundw
      case rel => exact ⟨at7, _, _, _, rfl, HF7.out, HST7.out⟩
      case measure =>
        have h1 := HR.out.out.slen
        rw [List.length_map] at h1
        rw [h1]
        simp only [slen]
        omega
end Go.Proofs.Ytpbabdoecjlifaa

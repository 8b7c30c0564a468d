/-
  Merged texts: TzpI, TzI, LayP, So, DsI, TbI, TvI, P5.
-/
import Derived.Test.YtobkanlnnniabaaKD7
import Derived.Shelf.Lays
import Derived.Test.YtobkanlnnniabaaProg
import Derived.Shelf.Sort.Plain
import Derived.Shelf.Slices.In.SortNone

/-
  Deadlines changed: what the timers' memory is.
-/
namespace Go.Proofs.Ytobkanlnnniabaa.I
open Go.RowKit
set_option linter.unusedVariables false
set_option linter.unusedSimpArgs false

def setReqN (id r : Int) (n : Nd) : Nd := { n with t := setReq id r n.t }
def setDueN (id d : Int) (n : Nd) : Nd := { n with t := setDue id d n.t }
theorem sh_setReqN (id r : Int) (N : List Nd) : sh (N.map (setReqN id r)) = (sh N).map (setReq id r) := by
  simp [sh, setReqN, Function.comp_def]
theorem sh_setDueN (id r : Int) (N : List Nd) : sh (N.map (setDueN id r)) = (sh N).map (setDue id r) := by
  simp [sh, setDueN, Function.comp_def]
theorem itm_setDueN (id d : Int) (N : List Nd) : (N.map (setDueN id d)).map Nd.itm = (N.map Nd.itm).map (upd id d) := by
  rw [List.map_map, List.map_map]
  apply List.map_congr_left
  intro n _
  simp only [Function.comp, setDueN, Nd.itm, upd, setDue]
  split <;> simp_all
/-- What a Reset leaves as it is: handles, parents, values; and the blocks. -/
def core (n : Nd) : Int × Int × Int × Value := (n.t.id, n.t.par, n.t.req, n.x)
def body (n : Nd) : Nat × Value := (n.b, n.v)
theorem sub_map {N : List Tm} {f : Tm → Tm} {id : Int} {l : List Int} (b : Sub N id l) (hf : ∀ n, (f n).id = n.id ∧ (f n).par = n.par) : Sub (N.map f) id l := by
  have hk : kids (N.map f) = kids N := funext fun p => kids_map f hf p
  exact ⟨by rw [hk]; exact b.eq, b.il, b.nodup, fun k hk2 => by rw [tids_map f (fun n => (hf n).1)]; exact b.mem k hk2, fun j p hj hp m hm => b.late j p hj hp m (by rwa [hk] at hm)⟩
section
variable {w : World} {t h : Nat} {fh : List Nat} {N : List Nd} {last : Int} {K : Int → List Int}
theorem body_foot {N N' : List Nd} (h : N'.map body = N.map body) : N'.flatMap Nd.foot = N.flatMap Nd.foot := by
  have e : ∀ (N : List Nd), N.flatMap Nd.foot = (N.map body).flatMap fun p => p.1 :: p.2.ownBlock.toList := by
    intro N
    rw [List.flatMap_map]
    rfl
  rw [e, e, h]
theorem body_apart {N N' : List Nd} (h : N'.map body = N.map body) (hp : N.Pairwise fun a b => ∀ y ∈ a.foot, y ∉ b.foot) : N'.Pairwise fun a b => ∀ y ∈ a.foot, y ∉ b.foot := by
  have e : ∀ (N : List Nd), (N.Pairwise fun a b => ∀ y ∈ a.foot, y ∉ b.foot) ↔ (N.map body).Pairwise fun a b => ∀ y ∈ a.1 :: a.2.ownBlock.toList, y ∉ b.1 :: b.2.ownBlock.toList := by
    intro N
    rw [List.pairwise_map]
    rfl
  rw [e, h, ← e]
  exact hp
/-- One timer's requested deadline is another. -/
theorem TK.req_set {p : Nd} {r : Int} (k : TK w t h fh N last K) (hu : (tids (sh N)).Nodup) (hp : p ∈ N) (hr : 0 ≤ r ∧ r ≤ maxT) :
    TK (w.setCell ⟨p.b, 1, none⟩ (.int .u64 r)) t h fh (N.map (setReqN p.t.id r)) last K ∧ Touch p.foot w (w.setCell ⟨p.b, 1, none⟩ (.int .u64 r)) := by
  have t1 := (Touch.refl [p.b] w).setCell (p := ⟨p.b, 1, none⟩) (by simp) (.int .u64 r)
  have ht : Touch p.foot w (w.setCell ⟨p.b, 1, none⟩ (.int .u64 r)) := t1.mono (by intro y hy; left; simp at hy; simp [Nd.foot, hy])
  have hpd := k.nd p hp
  have hh : (w.setCell ⟨p.b, 1, none⟩ (.int .u64 r)).heap[p.b]? = some (.cells #[.int .i64 p.t.par, .int .u64 r, p.x, p.v] 54 (0, 0)) := by simp [World.setCell, Array.getElem?_modify, hpd.hdr]
  have hform : ∀ n ∈ N, (n = p ∧ (setReqN p.t.id r n).t = { p.t with req := r }) ∨ (n.t.id ≠ p.t.id ∧ setReqN p.t.id r n = n) := by
    intro n hn
    by_cases e : n.t.id = p.t.id
    · have := nd_inj hu hn hp e
      subst this
      exact .inl ⟨rfl, by simp [setReqN, setReq]⟩
    · exact .inr ⟨e, by simp [setReqN, setReq, e]⟩
  have hbody : (N.map (setReqN p.t.id r)).map body = N.map body := by
    rw [List.map_map]
    rfl
  have hid : ∀ n, (setReqN p.t.id r n).t.id = n.t.id := fun n => (setReq_keep _ _ n.t).1
  refine ⟨⟨ht.at k.hdr (k.nt p hp), ?_, ?_, ?_, by rw [List.length_map]; exact k.few, k.tf, ?_, ?_, body_apart hbody k.nn⟩, ht⟩
  · have : (N.map (setReqN p.t.id r)).map Nd.itm = N.map Nd.itm := by
      rw [List.map_map]
      apply List.map_congr_left
      intro n _
      have := setReq_keep p.t.id r n.t
      simp [Nd.itm, setReqN, this.1, this.2.2]
    rw [this]
    exact k.bag.touch ht (fun y hy e => k.nf p hp y e hy)
  · intro n' hn'
    obtain ⟨n, hn, rfl⟩ := List.mem_map.1 hn'
    rcases hform n hn with ⟨rfl, e⟩ | ⟨hne, e⟩
    · refine ⟨?_, ?_, hpd.one, hpd.hv⟩
      · rw [e]
        exact hh
      · rw [hid]
        exact t1.owns hpd.row (by intro g hg e2; simp at e2; exact hpd.hv (by rw [← e2]; exact hg))
    · rw [e]
      exact (k.nd n hn).touch ht (k.apart hu hn hp hne)
  · intro n' hn'
    obtain ⟨n, hn, rfl⟩ := List.mem_map.1 hn'
    rcases hform n hn with ⟨rfl, e⟩ | ⟨hne, e⟩
    · rw [e]
      exact hr
    · rw [e]
      exact k.rq n hn
  · intro n' hn'
    obtain ⟨n, hn, rfl⟩ := List.mem_map.1 hn'
    exact k.nt n hn
  · intro n' hn'
    obtain ⟨n, hn, rfl⟩ := List.mem_map.1 hn'
    exact k.nf n hn
/-- One timer's effective deadline is another. -/
theorem TK.due_set {i d : Int} {w' : World} (k : TK w t h fh N last K) (nx : Next w h fh ((N.map Nd.itm).map (upd i d)) last w') :
    ∃ fh', TK w' t h fh' (N.map (setDueN i d)) last K ∧ (∀ y ∈ fh', y ∈ fh ∨ w.heap.size ≤ y) ∧ Touch fh w w' := by
  obtain ⟨fh', hb, hf, ht⟩ := nx
  rw [← itm_setDueN] at hb
  have hbody : (N.map (setDueN i d)).map body = N.map body := by
    rw [List.map_map]
    rfl
  refine ⟨fh', k.bagged hb hf ht ?_ (body_apart hbody k.nn) (by rw [List.length_map]; exact k.few), hf, ht⟩
  intro n' hn'
  obtain ⟨n, hn, rfl⟩ := List.mem_map.1 hn'
  have := setDue_keep i d n.t
  exact .inr ⟨n, hn, rfl, rfl, rfl, this.1, this.2.1, this.2.2⟩
/-- Between two rounds of Reset. -/
structure Rs (w0 : World) (t h : Nat) (fh0 : List Nat) (N : List Nd) (last id r : Int) (l : List Int) (j : Nat) (wr : World) (fh : List Nat) (M : List Nd) : Prop where
  mem : TK wr t h fh M last (kids (sh N))
  tree : Tree (sh M) last
  sub : Sub (sh M) id l
  core : M.map core = (N.map (setReqN id r)).map core
  body : M.map body = N.map body
  due : DueBut (sh M) (l.drop j)
  foot : ∀ y ∈ fh, y ∈ fh0 ∨ w0.heap.size ≤ y
  tt : Touch (TFoot t fh0 N) w0 wr
theorem core_ids {M N : List Nd} (h : M.map core = N.map core) : tids (sh M) = tids (sh N) := by
  have e : ∀ (N : List Nd), tids (sh N) = (N.map core).map Prod.fst := by
    intro N
    simp [tids, sh, I.core, Function.comp_def]
  rw [e, e, h]
theorem core_kids {M N : List Nd} (h : M.map core = N.map core) (p : Int) : kids (sh M) p = kids (sh N) p := by
  have e : ∀ (N : List Nd), kids (sh N) p = ((N.map core).filter fun c => decide (c.2.1 = p)).map Prod.fst := by
    intro N
    unfold kids sh
    rw [List.filter_map, List.filter_map, List.map_map, List.map_map]
    rfl
  rw [e, e, h]
theorem core_setReq (id r : Int) (N : List Nd) : tids (sh (N.map (setReqN id r))) = tids (sh N) ∧ ∀ p, kids (sh (N.map (setReqN id r))) p = kids (sh N) p := by
  rw [sh_setReqN]
  exact ⟨tids_map _ fun n => (setReq_keep id r n).1, fun p => kids_map _ (fun n => ⟨(setReq_keep id r n).1, (setReq_keep id r n).2.1⟩) p⟩
/-- The first round: the requested deadline is stored. -/
theorem Rs.start {w0 wr : World} {p : Nd} {r : Int} {l : List Int} (k : TM w0 t h fh N last) (hp : p ∈ N) (hs : Sub (sh N) p.t.id l) (ht : Touch [] w0 wr) (hr : 0 ≤ r ∧ r ≤ maxT) :
    Rs w0 t h fh N last p.t.id r l 0 (wr.setCell ⟨p.b, 1, none⟩ (.int .u64 r)) fh (N.map (setReqN p.t.id r)) := by
  obtain ⟨m, t1⟩ := (k.mem.touch ht (by simp)).req_set k.ids hp hr
  have hk : ∀ n : Tm, (setReq p.t.id r n).id = n.id ∧ (setReq p.t.id r n).par = n.par := fun n => ⟨(setReq_keep _ _ n).1, (setReq_keep _ _ n).2.1⟩
  refine ⟨m, by rw [sh_setReqN]; exact k.tree.map _ hk, by rw [sh_setReqN]; exact sub_map hs hk, rfl, ?_, ?_, fun y hy => .inl hy, ?_⟩
  · rw [List.map_map]
    rfl
  · rw [sh_setReqN]
    exact DueBut.start k.tree k.due (List.mem_of_getElem? hs.head)
  · exact (ht.mono (by simp)).trans t1 (fun y hy => .inl (TFoot.mem.2 (.inr (.inr ⟨p, hp, hy⟩))))
theorem Rs.step {w0 wr w' : World} {M : List Nd} {fh' : List Nat} {id r : Int} {l : List Int} {j : Nat} {n : Nd} (k : Rs w0 t h fh N last id r l j wr fh' M) (hn : n ∈ M) (hj : l[j]? = some n.t.id)
    (nx : Next wr h fh' ((M.map Nd.itm).map (upd n.t.id (min n.t.req (lim (sh M) n.t.par)))) last w') :
    ∃ fh2, Rs w0 t h fh N last id r l (j + 1) w' fh2 (M.map (setDueN n.t.id (min n.t.req (lim (sh M) n.t.par)))) ∧ ∀ y ∈ fh2, y ∈ fh' ∨ wr.heap.size ≤ y := by
  obtain ⟨fh2, m2, f2, t2⟩ := k.mem.due_set nx
  have hk : ∀ s : Tm, (setDue n.t.id (min n.t.req (lim (sh M) n.t.par)) s).id = s.id ∧ (setDue n.t.id (min n.t.req (lim (sh M) n.t.par)) s).par = s.par := fun s => ⟨(setDue_keep _ _ s).1, (setDue_keep _ _ s).2.1⟩
  refine ⟨fh2, ⟨m2, by rw [sh_setDueN]; exact k.tree.map _ hk, by rw [sh_setDueN]; exact sub_map k.sub hk, ?_, ?_, ?_, ?_, ?_⟩, f2⟩
  · rw [← k.core, List.map_map]
    apply List.map_congr_left
    intro s _
    have := setDue_keep n.t.id (min n.t.req (lim (sh M) n.t.par)) s.t
    simp [I.core, setDueN, this.1, this.2.1, this.2.2]
  · rw [← k.body, List.map_map]
    rfl
  · rw [sh_setDueN]
    exact DueBut.step k.tree k.sub (sh_mem hn) hj k.due
  · intro y hy
    rcases f2 y hy with e | e
    · exact k.foot y e
    · exact .inr (Nat.le_trans k.tt.size e)
  · refine k.tt.trans t2 ?_
    intro y hy
    rcases k.foot y hy with e | e
    · exact .inl (TFoot.mem.2 (.inr (.inl e)))
    · exact .inr e
/-- What Reset leaves. -/
def Rst (w : World) (t h : Nat) (f : List Nat) (A : List (Tm × Value)) (last id r : Int) (w' : World) : Prop :=
  ∃ A', TNext w t h f A' last w' ∧ A'.map (fun a => (a.1.id, a.1.par, a.1.req, a.2)) = (A.map fun a => (setReq id r a.1, a.2)).map fun a => (a.1.id, a.1.par, a.1.req, a.2)
theorem Rs.fin {w0 wr : World} {M : List Nd} {fh' : List Nat} {id r : Int} {l : List Int} (k : Rs w0 t h fh N last id r l l.length wr fh' M) : Rst w0 t h (TFoot t fh N) (ab N) last id r wr := by
  have hK : ∀ p, kids (sh N) p = kids (sh M) p := by
    intro p
    rw [core_kids k.core p, (core_setReq id r N).2 p]
  refine ⟨ab M, ⟨_, ⟨fh', M, ⟨k.mem.congr (fun n _ => hK _), k.tree, ?_⟩, rfl, rfl⟩, ?_, k.tt⟩, ?_⟩
  · intro s hs
    exact k.due s hs (by simp)
  · intro y hy
    have hb := body_foot k.body
    simp only [TFoot, hb, List.mem_cons, List.mem_append] at hy ⊢
    rcases hy with rfl | hy | hy
    · exact .inl (.inl rfl)
    · rcases k.foot y hy with e | e
      · exact .inl (.inr (.inl e))
      · exact .inr e
    · exact .inl (.inr (.inr hy))
  · have h1 := k.core
    simp only [ab, List.map_map] at h1 ⊢
    exact h1
end
end Go.Proofs.Ytobkanlnnniabaa.I

/-
  The contract of Reset.
-/
namespace Go.Proofs.Ytobkanlnnniabaa.I
open Go.RowKit
set_option linter.unusedVariables false
set_option linter.unusedSimpArgs false

section
variable {w : World} {t h : Nat} {fh : List Nat} {N : List Nd} {last : Int} {K : Int → List Int}
theorem TK.get_no (k : TK w t h fh N last K) (i : Int) (hi : okK i) (hn : i ∉ tids (sh N)) :
    Calls Try.prog 23 #[.pointer (some ⟨h, 0, none⟩), .int .i64 i] w fun e w' => e = .returned (.tuple #[.int .u64 0, .pointer none, .bool false]) ∧ w' = w :=
  (k.bag.get_no i hi (by
    intro y hy e
    obtain ⟨n, hn', rfl⟩ := List.mem_map.1 hy
    exact hn (by rw [← e]; exact sh_tids hn'))).mono fun _ _ ⟨h1, h2⟩ => ⟨h1, h2.symm⟩
theorem TK.get (k : TK w t h fh N last K) (n : Nd) (hn : n ∈ N) :
    Calls Try.prog 23 #[.pointer (some ⟨h, 0, none⟩), .int .i64 n.t.id] w fun e w' => e = .returned (.tuple #[.int .u64 n.t.due, .pointer (some ⟨n.b, 0, none⟩), .bool true]) ∧ ∃ q, w' = w.drewN q :=
  k.bag.get n.itm (TM.itm_mem hn)
theorem TK.draws (k : TK w t h fh N last K) (n : Nat) : TK (w.drewN n) t h fh N last K := k.touch ((Touch.refl [] w).drews n) (by simp)
set_option maxRecDepth 100000 in
set_option maxHeartbeats 1000000 in
theorem limit_tk (k : TK w t h fh N last K) (hu : (tids (sh N)).Nodup) (b : Nat) (p : Int) (hp : okK p) (hb : w.cell? ⟨b, 0, none⟩ = some (.int .i64 p)) :
    Calls Try.prog 26 #[.pointer (some ⟨t, 0, none⟩), .pointer (some ⟨b, 0, none⟩)] w fun e w' => e = .returned (.int .u64 (lim (sh N) p)) ∧ ∃ q, w' = w.drewN q := by
  have c0 := k.cell
  by_cases hm : p ∈ tids (sh N)
  · obtain ⟨n, hn, rfl⟩ := sh_at hm
    have HL := Lib.hid (lim_mem hu (sh_mem hn))
    have HK := Lib.hid k
    have HN := Lib.hid hn
    clear k hn hm hp hu
    go_enter Try.func26, Try.ntmps26
    go_wp2_with fail
    go_quiet ((go_at_call 23; exact Calls.quiet_of ((HK.out.draws _).get n HN.out)))
    go_wp2_with fail
    go_ret
    exact ⟨by rw [HL.out]; rfl, _, rfl⟩
  · have HL := Lib.hid (Ytobkanlnnniabaa.lim_no hm)
    have HK := Lib.hid k
    have HM := Lib.hid hm
    have HP := Lib.hid hp
    clear k hm hp hu
    go_enter Try.func26, Try.ntmps26
    go_wp2_with fail
    go_quiet ((go_at_call 23; exact Calls.quiet_of_same ((HK.out.draws _).get_no p HP.out HM.out)))
    go_wp2_with fail
    refine (min_nil _).mono ?_
    rintro e w' ⟨rfl, rfl⟩
    go_wp2_with fail
    go_ret
    exact ⟨by rw [HL.out]; rfl, _, rfl⟩
end
section
variable {w : World} {t h : Nat} {fh0 : List Nat} {N : List Nd} {last : Int}
set_option maxRecDepth 100000 in
set_option maxHeartbeats 1000000 in
theorem reset_no (k : TM w t h fh0 N last) (i r : Int) (hi : okK i) (hn : i ∉ tids (sh N)) :
    Calls Try.prog 21 #[.pointer (some ⟨t, 0, none⟩), .int .i64 i, .int .u64 r] w fun e w' => e = .returned (.bool false) ∧ w' = w := by
  have HS := Lib.hid (subtree_no k i hi hn)
  clear k hn
  go_enter Try.func21, Try.ntmps21
  go_wp2_with fail
  refine HS.out.mono ?_
  rintro e w' ⟨rfl, rfl⟩
  go_wp2_with fail
  refine wp_loop_rounds 1 ?_
  rw [rounds_succ]
  go_wp2_with fail
  go_ret
  exact ⟨rfl, rfl⟩
theorem Rs.touch {w0 wr w' : World} {fh : List Nat} {id r : Int} {l : List Int} {j : Nat} {M : List Nd} (k : Rs w0 t h fh0 N last id r l j wr fh M) (ht : Touch [] wr w') : Rs w0 t h fh0 N last id r l j w' fh M :=
  ⟨k.mem.touch ht (by simp), k.tree, k.sub, k.core, k.body, k.due, k.foot, k.tt.trans ht (by simp)⟩
def RsAny (w0 : World) (t h : Nat) (fh0 : List Nat) (N : List Nd) (last id r : Int) (l : List Int) (g j : Nat) (wr : World) : Prop :=
  (j = 0 ∧ Touch [] w0 wr) ∨ (0 < j ∧ ∃ fh M, g ∉ fh ∧ Rs w0 t h fh0 N last id r l j wr fh M)
theorem TK.oki {fh : List Nat} {K : Int → List Int} (k : TK w t h fh N last K) {i : Int} (hi : i ∈ tids (sh N)) : okK i := by
  obtain ⟨n, hn, rfl⟩ := sh_at hi
  exact (k.bag.oks _ (TM.itm_mem hn)).1
theorem TK.okp {fh : List Nat} {K : Int → List Int} (k : TK w t h fh N last K) (ht : Tree (sh N) last) {n : Nd} (hn : n ∈ N) : okK n.t.par := by
  rcases ht.par n.t (sh_mem hn) with e | e
  · rw [e]
    exact okK_of (by omega) (by omega)
  · exact k.oki e
set_option maxRecDepth 100000 in
set_option maxHeartbeats 4000000 in
theorem reset_any (k : TM w t h fh0 N last) (p : Nd) (hp : p ∈ N) (r : Int) (hr : 0 ≤ r ∧ r ≤ maxT) :
    Calls Try.prog 21 #[.pointer (some ⟨t, 0, none⟩), .int .i64 p.t.id, .int .u64 r] w fun e w' => e = .returned (.bool true) ∧ Rst w t h (TFoot t fh0 N) (ab N) last p.t.id r w' := by
  have HS := Lib.hid (subtree_any k p hp)
  have HK := Lib.hid k
  have HPM := Lib.hid hp
  have HR := Lib.hid hr
  have hfew := k.mem.few
  clear k hp hr
  go_enter Try.func21, Try.ntmps21
  go_wp2_with fail
  refine HS.out.mono ?_
  rintro e w1 ⟨v, l, rfl, hsub, ho, t1⟩
  have HSUB := Lib.hid hsub
  have HO := Lib.hid ho
  have hl0 : 0 < l.length := (List.getElem?_eq_some_iff.1 hsub.head).1
  have hl1 := hsub.few
  have hl2 : (sh N).length = N.length := by simp [sh]
  rw [hl2] at hl1
  obtain ⟨av, cv, rfl, hv1, hv2, hv3⟩ := owns_form HO.out.row
  obtain ⟨g, rfl⟩ := hv3 hl0
  have HR0 := Lib.hid (show RsAny w t h fh0 N last p.t.id r l g 0 w1 from .inl ⟨rfl, t1⟩)
  clear hsub ho t1 hl2 HS
  have hcv : cv ≤ 9223372036854775807 := by unfold maxLen at hv2; omega
  have hgn : ∀ y ∈ TFoot t fh0 N, y ≠ g := by
    intro y hy e
    have h1 := HO.out.new g rfl
    have h2 := HK.out.mem.lt y hy
    omega
  have HGN := Lib.hid hgn
  have HOR := Lib.hid HO.out.row
  clear hv2 hv3 hgn
  go_wp2_with fail
  go_loopw [18] (fun vj wr => ∃ (j : Nat), vj = .int .i64 j ∧ j ≤ l.length ∧ RsAny w t h fh0 N last p.t.id r l g j wr ∧ wr.ownsRow 0 3 1 (.slice (some ⟨g, 0, none⟩) l.length cv) l.length (l.map (Value.int .i64))) (fun vj _ => l.length - (intOf vj).toNat)
  case atStart => exact ⟨0, rfl, by omega, HR0.out, HOR.out⟩
  case round =>
    obtain ⟨j, rfl, hjl, hrs, horow⟩ := hrel
    have HRS := Lib.hid hrs
    have HOW := Lib.hid horow
    clear hrs horow
    by_cases hlt : j < l.length
    · have hx := List.getElem?_eq_getElem hlt
      generalize l[j] = i at hx
      have HX := Lib.hid hx
      have p0 := owns_cell HOW.out j (.int .i64 i) (by simp [hx])
      have q3 : (j : Int) < (l.length : Int) := by omega
      have hwi : IntKind.i64.wrap ((j : Int) + 1) = (j : Int) + 1 := by rw [IntKind.wrap_i64] <;> omega
      clear hx
      rcases HRS.out with ⟨rfl, t0⟩ | ⟨hj0, fh, M, hgf, hrs⟩
      · have hie : i = p.t.id := by
          have := HX.out
          rw [HSUB.out.head] at this
          cases this
          rfl
        subst hie
        have HT0 := Lib.hid t0
        have HKr := Lib.hid (HK.out.touch t0 (by simp))
        have c0 := HKr.out.mem.cell
        have d0 : (p.t.id == p.t.id) = true := by simp
        clear t0
        go_wp2_with fail
        refine (HKr.out.get p HPM.out).mono ?_
        rintro e w2 ⟨rfl, q, rfl⟩
        have HT1 := Lib.hid (HT0.out.trans ((Touch.refl [] wr).drews q) (by simp))
        have HK2 := Lib.hid (HKr.out.draws q)
        have HOW2 := Lib.hid ((((Touch.refl [] wr).drews q)).owns HOW.out (by simp))
        clear c0 p0
        generalize wr.drewN q = w2 at *
        have hpd := HK2.out.mem.nd p HPM.out
        obtain ⟨m0, m1, m2, m3⟩ := hpd.cells
        have g1 : w2.frozen? ⟨p.b, 1, none⟩ = false := by simp [World.frozen?, hpd.hdr]
        clear m0 m2 m3 hpd
        have HRS1 := Lib.hid (Rs.start HK.out HPM.out HSUB.out HT1.out HR.out)
        have HOW3 := Lib.hid (((Touch.refl [p.b] w2).setCell (p := ⟨p.b, 1, none⟩) (by simp) (.int .u64 r)).owns HOW2.out (by
          intro g' hg' e
          simp [Value.ownBlock] at hg' e
          exact HGN.out p.b (TFoot.mem.2 (.inr (.inr ⟨p, HPM.out, by simp [Nd.foot]⟩))) (by omega)))
        have hgf : g ∉ fh0 := fun e => HGN.out g (TFoot.mem.2 (.inr (.inl e))) rfl
        go_wp2_with fail
        generalize w2.setCell ⟨p.b, 1, none⟩ (.int .u64 r) = WX at *
        have HNM := Lib.hid (show setReqN p.t.id r p ∈ N.map (setReqN p.t.id r) from List.mem_map.2 ⟨p, HPM.out, rfl⟩)
        have HJ := Lib.hid (show l[0]? = some (setReqN p.t.id r p).t.id by rw [show (setReqN p.t.id r p).t.id = p.t.id from (setReq_keep _ _ p.t).1]; exact HSUB.out.head)
        have HB := Lib.hid (show (setReqN p.t.id r p).b = p.b from rfl)
        have HID := Lib.hid (show (setReqN p.t.id r p).t.id = p.t.id from (setReq_keep _ _ p.t).1)
        generalize setReqN p.t.id r p = n at *
        generalize N.map (setReqN p.t.id r) = M at *
        rw [← HB.out, ← HID.out]
        rw [← HID.out] at HRS1
        clear m1 g1 HOW2 HK2 HT1 d0 HKr HT0
        generalize hfhe : fh0 = fh at HRS1 hgf
        have HTX0 := ((Touch.refl [] WX).drew)
        have HW0 := HRS1.out.mem.touch HTX0 (by simp)
        obtain ⟨W, hW⟩ : ∃ W, W = WX.drew := ⟨_, rfl⟩
        refine wp_region_held (S := Touch fh W) (by kernel_rfl) ?_
        change wpAnyH _ _ _ _ _ _ _ _ WX.drew
        rw [← hW] at HTX0 HW0 ⊢
        clear hW
        have HW := Lib.hid HW0
        have HTX := Lib.hid HTX0
        have c0 := HW0.cell
        have htf := HW0.tf
        obtain ⟨m0, m1, _, _⟩ := (HW0.nd n HNM.out).cells
        have hbf : n.b ∉ fh := HW0.nf n HNM.out n.b (by simp [Nd.foot])
        have HU := Lib.hid HRS1.out.tree.nodup
        have HP := Lib.hid (HW0.okp HRS1.out.tree HNM.out)
        have HD := Lib.hid (HW0.rq n HNM.out).2
        clear HW0 HTX0
        have hS := Touch.refl fh W
        refine wpAnyH_take (i := 0) (oi := { dst := some 39, op := Op.move (Operand.tmp 0), type := 24, pos := "timer.go:77", after := #[], guard := none }) (v := .pointer (some ⟨t, 0, none⟩)) rfl (by kernel_rfl) (by kernel_rfl) (by kernel_rfl) (fun _ _ _ h => h) (Or.inl ⟨by rfl, fun w' hw => by go_simp⟩) hS ?_
        try simp only [Act.put, List.setIfInBounds_toArray, List.set_cons_zero, List.set_cons_succ]
        refine wpAnyH_take (i := 1) (oi := { dst := some 40, op := Op.nilCheck (Operand.tmp 39), type := 0, pos := "timer.go:77", after := #[{ on := 0, ground := Ground.data }], guard := none }) (v := .pointer (some ⟨t, 0, none⟩)) rfl (by kernel_rfl) (by kernel_rfl) (by kernel_rfl) (fun _ _ _ h => h) (Or.inl ⟨by rfl, fun w' hw => by go_simp⟩) hS ?_
        try simp only [Act.put, List.setIfInBounds_toArray, List.set_cons_zero, List.set_cons_succ]
        refine wpAnyH_take (i := 2) (oi := { dst := some 41, op := Op.fieldAddr 50 (Operand.tmp 40) 0, type := 0, pos := "timer.go:77", after := #[{ on := 1, ground := Ground.data }], guard := none }) (v := .pointer (some ⟨t, 0, none⟩)) rfl (by kernel_rfl) (by kernel_rfl) (by kernel_rfl) (fun _ _ _ h => h) (Or.inl ⟨by rfl, fun w' hw => by go_simp⟩) hS ?_
        try simp only [Act.put, List.setIfInBounds_toArray, List.set_cons_zero, List.set_cons_succ]
        refine wpAnyH_take (i := 3) (oi := { dst := some 42, op := Op.load 46 (Operand.tmp 41), type := 46, pos := "timer.go:77", after := #[{ on := 2, ground := Ground.data }], guard := none }) (v := .pointer (some ⟨h, 0, none⟩)) rfl (by kernel_rfl) (by kernel_rfl) (by kernel_rfl) (fun _ _ _ h => h) (Or.inl ⟨by rfl, fun w' hw => by (have q := hw.cell c0 htf; go_simp)⟩) hS ?_
        try simp only [Act.put, List.setIfInBounds_toArray, List.set_cons_zero, List.set_cons_succ]
        refine wpAnyH_take (i := 4) (oi := { dst := some 43, op := Op.move (Operand.tmp 9), type := 3, pos := "timer.go:77", after := #[], guard := none }) (v := .int .i64 n.t.id) rfl (by kernel_rfl) (by kernel_rfl) (by kernel_rfl) (fun _ _ _ h => h) (Or.inl ⟨by rfl, fun w' hw => by go_simp⟩) hS ?_
        try simp only [Act.put, List.setIfInBounds_toArray, List.set_cons_zero, List.set_cons_succ]
        refine wpAnyH_take (i := 5) (oi := { dst := some 44, op := Op.move (Operand.tmp 11), type := 48, pos := "timer.go:77", after := #[], guard := none }) (v := .pointer (some ⟨n.b, 0, none⟩)) rfl (by kernel_rfl) (by kernel_rfl) (by kernel_rfl) (fun _ _ _ h => h) (Or.inl ⟨by rfl, fun w' hw => by go_simp⟩) hS ?_
        try simp only [Act.put, List.setIfInBounds_toArray, List.set_cons_zero, List.set_cons_succ]
        refine wpAnyH_take (i := 6) (oi := { dst := some 45, op := Op.nilCheck (Operand.tmp 44), type := 0, pos := "timer.go:77", after := #[{ on := 5, ground := Ground.data }], guard := none }) (v := .pointer (some ⟨n.b, 0, none⟩)) rfl (by kernel_rfl) (by kernel_rfl) (by kernel_rfl) (fun _ _ _ h => h) (Or.inl ⟨by rfl, fun w' hw => by go_simp⟩) hS ?_
        try simp only [Act.put, List.setIfInBounds_toArray, List.set_cons_zero, List.set_cons_succ]
        refine wpAnyH_take (i := 7) (oi := { dst := some 46, op := Op.fieldAddr 54 (Operand.tmp 45) 1, type := 0, pos := "timer.go:77", after := #[{ on := 6, ground := Ground.data }], guard := none }) (v := .pointer (some ⟨n.b, 1, none⟩)) rfl (by kernel_rfl) (by kernel_rfl) (by kernel_rfl) (fun _ _ _ h => h) (Or.inl ⟨by rfl, fun w' hw => by go_simp⟩) hS ?_
        try simp only [Act.put, List.setIfInBounds_toArray, List.set_cons_zero, List.set_cons_succ]
        refine wpAnyH_take (i := 8) (oi := { dst := some 47, op := Op.load 23 (Operand.tmp 46), type := 23, pos := "timer.go:77", after := #[{ on := 7, ground := Ground.data }], guard := none }) (v := .int .u64 n.t.req) rfl (by kernel_rfl) (by kernel_rfl) (by kernel_rfl) (fun _ _ _ h => h) (Or.inl ⟨by rfl, fun w' hw => by (have q := hw.cell m1 hbf; go_simp)⟩) hS ?_
        try simp only [Act.put, List.setIfInBounds_toArray, List.set_cons_zero, List.set_cons_succ]
        refine wpAnyH_take (i := 9) (oi := { dst := some 48, op := Op.move (Operand.tmp 0), type := 24, pos := "timer.go:77", after := #[], guard := none }) (v := .pointer (some ⟨t, 0, none⟩)) rfl (by kernel_rfl) (by kernel_rfl) (by kernel_rfl) (fun _ _ _ h => h) (Or.inl ⟨by rfl, fun w' hw => by go_simp⟩) hS ?_
        try simp only [Act.put, List.setIfInBounds_toArray, List.set_cons_zero, List.set_cons_succ]
        refine wpAnyH_take (i := 10) (oi := { dst := some 49, op := Op.move (Operand.tmp 11), type := 48, pos := "timer.go:77", after := #[], guard := none }) (v := .pointer (some ⟨n.b, 0, none⟩)) rfl (by kernel_rfl) (by kernel_rfl) (by kernel_rfl) (fun _ _ _ h => h) (Or.inl ⟨by rfl, fun w' hw => by go_simp⟩) hS ?_
        try simp only [Act.put, List.setIfInBounds_toArray, List.set_cons_zero, List.set_cons_succ]
        refine wpAnyH_ready (rs := [11]) (by kernel_rfl) (by simp) ?_
        refine AllReadyH.cons (o := { dst := some 50, op := Op.call { callee := Callee.value (Operand.func 26), args := #[Operand.tmp 48, Operand.tmp 49], argTypes := #[24, 48] }, type := 23, pos := "timer.go:77", after := #[{ on := 9, ground := Ground.data }, { on := 10, ground := Ground.data }], guard := none }) rfl (fun K hK => ?_) AllReadyH.nil
        go_simp
        refine (limit_tk HW.out HU.out n.b n.t.par HP.out m0).mono ?_
        rintro e w' ⟨rfl, q2, rfl⟩
        have hS2 := hS.drews q2
        have HW2 := Lib.hid (HW.out.touch ((Touch.refl [] W).drews q2) (by simp))
        refine hK.out _ _ hS2 (fun _ => ?_)
        clear hK K hS HW
        have TT2 := Lib.hid ((Touch.refl [] W).drews q2)
        have hS := hS2
        clear hS2
        generalize W.drewN q2 = W2 at *
        try simp only [Act.put, List.setIfInBounds_toArray, List.set_cons_zero, List.set_cons_succ]
        refine wpAnyH_ready (rs := [12]) (by kernel_rfl) (by simp) ?_
        refine AllReadyH.cons (o := { dst := some 51, op := Op.buildSlice 22 2 #[(0, Operand.tmp 47), (1, Operand.tmp 50)], type := 22, pos := "timer.go:77", after := #[{ on := 8, ground := Ground.data }, { on := 11, ground := Ground.data }], guard := none }) rfl (fun K hK => ?_) AllReadyH.nil
        go_simp
        have hS2 := hS.alloc (.cells #[.int .u64 n.t.req, .int .u64 (lim (sh M) n.t.par)] 23)
        have gC := heap_alloc_new W2 (.cells #[.int .u64 n.t.req, .int .u64 (lim (sh M) n.t.par)] 23)
        have tC := (Touch.refl [] W2).alloc (.cells #[.int .u64 n.t.req, .int .u64 (lim (sh M) n.t.par)] 23)
        have HW3 := Lib.hid (HW2.out.touch tC (by simp))
        have TT3 := Lib.hid (TT2.out.trans tC (by simp))
        refine hK.out _ _ hS2 (fun _ => ?_)
        clear hK K hS HW2 tC TT2
        have hS := hS2
        clear hS2
        generalize W2.alloc (.cells #[.int .u64 n.t.req, .int .u64 (lim (sh M) n.t.par)] 23) = W3 at *
        generalize W2.heap.size = g2 at *
        obtain ⟨d0, d1⟩ := cells_two gC
        clear gC
        try simp only [Act.put, List.setIfInBounds_toArray, List.set_cons_zero, List.set_cons_succ]
        refine wpAnyH_ready (rs := [13]) (by kernel_rfl) (by simp) ?_
        refine AllReadyH.cons (o := { dst := some 52, op := Op.call { callee := Callee.value (Operand.func 25), args := #[Operand.tmp 51], argTypes := #[22] }, type := 23, pos := "timer.go:77", after := #[{ on := 12, ground := Ground.data }, { on := 11, ground := Ground.chain }], guard := none }) rfl (fun K hK => ?_) AllReadyH.nil
        go_simp
        refine (min_two n.t.req (lim (sh M) n.t.par) g2 _ HD.out d0 d1).mono ?_
        rintro e w' ⟨rfl, rfl⟩
        refine hK.out _ _ hS (fun _ => ?_)
        clear hK K d0 d1
        try simp only [Act.put, List.setIfInBounds_toArray, List.set_cons_zero, List.set_cons_succ]
        refine wpAnyH_ready (rs := [14]) (by kernel_rfl) (by simp) ?_
        refine AllReadyH.cons (o := { dst := some 53, op := Op.call { callee := Callee.value (Operand.func 43), args := #[Operand.tmp 42, Operand.tmp 43, Operand.tmp 52], argTypes := #[46, 3, 23] }, type := 4, pos := "timer.go:77", after := #[{ on := 3, ground := Ground.data }, { on := 4, ground := Ground.data }, { on := 13, ground := Ground.data }, { on := 13, ground := Ground.chain }], guard := none }) rfl (fun K hK => ?_) AllReadyH.nil
        go_simp
        refine (HW3.out.bag.update n.itm (min n.t.req (lim (sh M) n.t.par)) (TM.itm_mem HNM.out)).mono ?_
        rintro e w4 ⟨rfl, nx⟩
        obtain ⟨f5, hb5, hf5, t5⟩ := nx
        have hS2 := hS.trans t5 (fun y hy => .inl hy)
        have HNX := Lib.hid (show Next WX h fh ((M.map Nd.itm).map (upd n.t.id (min n.t.req (lim (sh M) n.t.par)))) last w4 from ⟨f5, hb5, fun y hy => by rcases hf5 y hy with e | e; exact .inl e; exact .inr (Nat.le_trans (HTX.out.trans TT3.out (by simp)).size e), ((HTX.out.trans TT3.out (by simp)).mono (by simp)).trans t5 (fun y hy => .inl hy)⟩)
        refine hK.out _ _ hS2 (fun _ => ?_)
        have HT4 := Lib.hid (show Touch fh WX w4 from ((HTX.out.trans TT3.out (by simp)).mono (by simp)).trans t5 (fun y hy => .inl hy))
        clear hK K hS HW3 hb5 hf5 t5 TT3
        have hS := hS2
        clear hS2
        try simp only [Act.put, List.setIfInBounds_toArray, List.set_cons_zero, List.set_cons_succ]
        refine wpAnyH_done (by kernel_rfl) ?_ _
        try simp only [Act.put, List.setIfInBounds_toArray, List.set_cons_zero, List.set_cons_succ]
        go_wp2_with fail
        obtain ⟨fh2, hrs2, hf2⟩ := Rs.step HRS1.out HNM.out HJ.out HNX.out
        have hgl : g < WX.heap.size := (HOW3.out.lt g rfl).2
        have hg2 : g ∉ fh2 := by
          intro e
          rcases hf2 g e with e | e
          · exact hgf e
          · omega
        have HOW5 := Lib.hid (HT4.out.owns HOW3.out (by intro g' hg' e; simp [Value.ownBlock] at hg'; subst hg'; exact hgf e))
        rw [HID.out]
        go_roundw
        case rel => exact ⟨1, rfl, by omega, .inr ⟨by omega, fh2, _, hg2, by subst hfhe; rw [← HID.out]; exact hrs2⟩, HOW5.out⟩
        case measure => simp [intOf]; omega
      · have HRW := Lib.hid hrs
        have hie : i ≠ p.t.id := by
          intro e
          subst e
          have := nodup_at HSUB.out.nodup HX.out HSUB.out.head
          omega
        have q4 : (i == p.t.id) = false := beq_eq_false_iff_ne.2 hie
        obtain ⟨n, hn, rfl⟩ := sh_at (hrs.sub.mem i (List.mem_of_getElem? HX.out))
        have HNM := Lib.hid hn
        have c0 := hrs.mem.cell
        clear hrs hn hie
        go_wp2_with fail
        refine (HRW.out.mem.get n HNM.out).mono ?_
        rintro e w2 ⟨rfl, q, rfl⟩
        have HRS1 := Lib.hid (HRW.out.touch ((Touch.refl [] wr).drews q))
        have HOW3 := Lib.hid ((((Touch.refl [] wr).drews q)).owns HOW.out (by simp))
        have HJ := HX
        clear c0 p0
        generalize wr.drewN q = WX at *
        go_wp2_with fail
        have HTX0 := ((Touch.refl [] WX).drew)
        have HW0 := HRS1.out.mem.touch HTX0 (by simp)
        obtain ⟨W, hW⟩ : ∃ W, W = WX.drew := ⟨_, rfl⟩
        refine wp_region_held (S := Touch fh W) (by kernel_rfl) ?_
        change wpAnyH _ _ _ _ _ _ _ _ WX.drew
        rw [← hW] at HTX0 HW0 ⊢
        clear hW
        have HW := Lib.hid HW0
        have HTX := Lib.hid HTX0
        have c0 := HW0.cell
        have htf := HW0.tf
        obtain ⟨m0, m1, _, _⟩ := (HW0.nd n HNM.out).cells
        have hbf : n.b ∉ fh := HW0.nf n HNM.out n.b (by simp [Nd.foot])
        have HU := Lib.hid HRS1.out.tree.nodup
        have HP := Lib.hid (HW0.okp HRS1.out.tree HNM.out)
        have HD := Lib.hid (HW0.rq n HNM.out).2
        clear HW0 HTX0
        have hS := Touch.refl fh W
        refine wpAnyH_take (i := 0) (oi := { dst := some 39, op := Op.move (Operand.tmp 0), type := 24, pos := "timer.go:77", after := #[], guard := none }) (v := .pointer (some ⟨t, 0, none⟩)) rfl (by kernel_rfl) (by kernel_rfl) (by kernel_rfl) (fun _ _ _ h => h) (Or.inl ⟨by rfl, fun w' hw => by go_simp⟩) hS ?_
        try simp only [Act.put, List.setIfInBounds_toArray, List.set_cons_zero, List.set_cons_succ]
        refine wpAnyH_take (i := 1) (oi := { dst := some 40, op := Op.nilCheck (Operand.tmp 39), type := 0, pos := "timer.go:77", after := #[{ on := 0, ground := Ground.data }], guard := none }) (v := .pointer (some ⟨t, 0, none⟩)) rfl (by kernel_rfl) (by kernel_rfl) (by kernel_rfl) (fun _ _ _ h => h) (Or.inl ⟨by rfl, fun w' hw => by go_simp⟩) hS ?_
        try simp only [Act.put, List.setIfInBounds_toArray, List.set_cons_zero, List.set_cons_succ]
        refine wpAnyH_take (i := 2) (oi := { dst := some 41, op := Op.fieldAddr 50 (Operand.tmp 40) 0, type := 0, pos := "timer.go:77", after := #[{ on := 1, ground := Ground.data }], guard := none }) (v := .pointer (some ⟨t, 0, none⟩)) rfl (by kernel_rfl) (by kernel_rfl) (by kernel_rfl) (fun _ _ _ h => h) (Or.inl ⟨by rfl, fun w' hw => by go_simp⟩) hS ?_
        try simp only [Act.put, List.setIfInBounds_toArray, List.set_cons_zero, List.set_cons_succ]
        refine wpAnyH_take (i := 3) (oi := { dst := some 42, op := Op.load 46 (Operand.tmp 41), type := 46, pos := "timer.go:77", after := #[{ on := 2, ground := Ground.data }], guard := none }) (v := .pointer (some ⟨h, 0, none⟩)) rfl (by kernel_rfl) (by kernel_rfl) (by kernel_rfl) (fun _ _ _ h => h) (Or.inl ⟨by rfl, fun w' hw => by (have q := hw.cell c0 htf; go_simp)⟩) hS ?_
        try simp only [Act.put, List.setIfInBounds_toArray, List.set_cons_zero, List.set_cons_succ]
        refine wpAnyH_take (i := 4) (oi := { dst := some 43, op := Op.move (Operand.tmp 9), type := 3, pos := "timer.go:77", after := #[], guard := none }) (v := .int .i64 n.t.id) rfl (by kernel_rfl) (by kernel_rfl) (by kernel_rfl) (fun _ _ _ h => h) (Or.inl ⟨by rfl, fun w' hw => by go_simp⟩) hS ?_
        try simp only [Act.put, List.setIfInBounds_toArray, List.set_cons_zero, List.set_cons_succ]
        refine wpAnyH_take (i := 5) (oi := { dst := some 44, op := Op.move (Operand.tmp 11), type := 48, pos := "timer.go:77", after := #[], guard := none }) (v := .pointer (some ⟨n.b, 0, none⟩)) rfl (by kernel_rfl) (by kernel_rfl) (by kernel_rfl) (fun _ _ _ h => h) (Or.inl ⟨by rfl, fun w' hw => by go_simp⟩) hS ?_
        try simp only [Act.put, List.setIfInBounds_toArray, List.set_cons_zero, List.set_cons_succ]
        refine wpAnyH_take (i := 6) (oi := { dst := some 45, op := Op.nilCheck (Operand.tmp 44), type := 0, pos := "timer.go:77", after := #[{ on := 5, ground := Ground.data }], guard := none }) (v := .pointer (some ⟨n.b, 0, none⟩)) rfl (by kernel_rfl) (by kernel_rfl) (by kernel_rfl) (fun _ _ _ h => h) (Or.inl ⟨by rfl, fun w' hw => by go_simp⟩) hS ?_
        try simp only [Act.put, List.setIfInBounds_toArray, List.set_cons_zero, List.set_cons_succ]
        refine wpAnyH_take (i := 7) (oi := { dst := some 46, op := Op.fieldAddr 54 (Operand.tmp 45) 1, type := 0, pos := "timer.go:77", after := #[{ on := 6, ground := Ground.data }], guard := none }) (v := .pointer (some ⟨n.b, 1, none⟩)) rfl (by kernel_rfl) (by kernel_rfl) (by kernel_rfl) (fun _ _ _ h => h) (Or.inl ⟨by rfl, fun w' hw => by go_simp⟩) hS ?_
        try simp only [Act.put, List.setIfInBounds_toArray, List.set_cons_zero, List.set_cons_succ]
        refine wpAnyH_take (i := 8) (oi := { dst := some 47, op := Op.load 23 (Operand.tmp 46), type := 23, pos := "timer.go:77", after := #[{ on := 7, ground := Ground.data }], guard := none }) (v := .int .u64 n.t.req) rfl (by kernel_rfl) (by kernel_rfl) (by kernel_rfl) (fun _ _ _ h => h) (Or.inl ⟨by rfl, fun w' hw => by (have q := hw.cell m1 hbf; go_simp)⟩) hS ?_
        try simp only [Act.put, List.setIfInBounds_toArray, List.set_cons_zero, List.set_cons_succ]
        refine wpAnyH_take (i := 9) (oi := { dst := some 48, op := Op.move (Operand.tmp 0), type := 24, pos := "timer.go:77", after := #[], guard := none }) (v := .pointer (some ⟨t, 0, none⟩)) rfl (by kernel_rfl) (by kernel_rfl) (by kernel_rfl) (fun _ _ _ h => h) (Or.inl ⟨by rfl, fun w' hw => by go_simp⟩) hS ?_
        try simp only [Act.put, List.setIfInBounds_toArray, List.set_cons_zero, List.set_cons_succ]
        refine wpAnyH_take (i := 10) (oi := { dst := some 49, op := Op.move (Operand.tmp 11), type := 48, pos := "timer.go:77", after := #[], guard := none }) (v := .pointer (some ⟨n.b, 0, none⟩)) rfl (by kernel_rfl) (by kernel_rfl) (by kernel_rfl) (fun _ _ _ h => h) (Or.inl ⟨by rfl, fun w' hw => by go_simp⟩) hS ?_
        try simp only [Act.put, List.setIfInBounds_toArray, List.set_cons_zero, List.set_cons_succ]
        refine wpAnyH_ready (rs := [11]) (by kernel_rfl) (by simp) ?_
        refine AllReadyH.cons (o := { dst := some 50, op := Op.call { callee := Callee.value (Operand.func 26), args := #[Operand.tmp 48, Operand.tmp 49], argTypes := #[24, 48] }, type := 23, pos := "timer.go:77", after := #[{ on := 9, ground := Ground.data }, { on := 10, ground := Ground.data }], guard := none }) rfl (fun K hK => ?_) AllReadyH.nil
        go_simp
        refine (limit_tk HW.out HU.out n.b n.t.par HP.out m0).mono ?_
        rintro e w' ⟨rfl, q2, rfl⟩
        have hS2 := hS.drews q2
        have HW2 := Lib.hid (HW.out.touch ((Touch.refl [] W).drews q2) (by simp))
        refine hK.out _ _ hS2 (fun _ => ?_)
        clear hK K hS HW
        have TT2 := Lib.hid ((Touch.refl [] W).drews q2)
        have hS := hS2
        clear hS2
        generalize W.drewN q2 = W2 at *
        try simp only [Act.put, List.setIfInBounds_toArray, List.set_cons_zero, List.set_cons_succ]
        refine wpAnyH_ready (rs := [12]) (by kernel_rfl) (by simp) ?_
        refine AllReadyH.cons (o := { dst := some 51, op := Op.buildSlice 22 2 #[(0, Operand.tmp 47), (1, Operand.tmp 50)], type := 22, pos := "timer.go:77", after := #[{ on := 8, ground := Ground.data }, { on := 11, ground := Ground.data }], guard := none }) rfl (fun K hK => ?_) AllReadyH.nil
        go_simp
        have hS2 := hS.alloc (.cells #[.int .u64 n.t.req, .int .u64 (lim (sh M) n.t.par)] 23)
        have gC := heap_alloc_new W2 (.cells #[.int .u64 n.t.req, .int .u64 (lim (sh M) n.t.par)] 23)
        have tC := (Touch.refl [] W2).alloc (.cells #[.int .u64 n.t.req, .int .u64 (lim (sh M) n.t.par)] 23)
        have HW3 := Lib.hid (HW2.out.touch tC (by simp))
        have TT3 := Lib.hid (TT2.out.trans tC (by simp))
        refine hK.out _ _ hS2 (fun _ => ?_)
        clear hK K hS HW2 tC TT2
        have hS := hS2
        clear hS2
        generalize W2.alloc (.cells #[.int .u64 n.t.req, .int .u64 (lim (sh M) n.t.par)] 23) = W3 at *
        generalize W2.heap.size = g2 at *
        obtain ⟨d0, d1⟩ := cells_two gC
        clear gC
        try simp only [Act.put, List.setIfInBounds_toArray, List.set_cons_zero, List.set_cons_succ]
        refine wpAnyH_ready (rs := [13]) (by kernel_rfl) (by simp) ?_
        refine AllReadyH.cons (o := { dst := some 52, op := Op.call { callee := Callee.value (Operand.func 25), args := #[Operand.tmp 51], argTypes := #[22] }, type := 23, pos := "timer.go:77", after := #[{ on := 12, ground := Ground.data }, { on := 11, ground := Ground.chain }], guard := none }) rfl (fun K hK => ?_) AllReadyH.nil
        go_simp
        refine (min_two n.t.req (lim (sh M) n.t.par) g2 _ HD.out d0 d1).mono ?_
        rintro e w' ⟨rfl, rfl⟩
        refine hK.out _ _ hS (fun _ => ?_)
        clear hK K d0 d1
        try simp only [Act.put, List.setIfInBounds_toArray, List.set_cons_zero, List.set_cons_succ]
        refine wpAnyH_ready (rs := [14]) (by kernel_rfl) (by simp) ?_
        refine AllReadyH.cons (o := { dst := some 53, op := Op.call { callee := Callee.value (Operand.func 43), args := #[Operand.tmp 42, Operand.tmp 43, Operand.tmp 52], argTypes := #[46, 3, 23] }, type := 4, pos := "timer.go:77", after := #[{ on := 3, ground := Ground.data }, { on := 4, ground := Ground.data }, { on := 13, ground := Ground.data }, { on := 13, ground := Ground.chain }], guard := none }) rfl (fun K hK => ?_) AllReadyH.nil
        go_simp
        refine (HW3.out.bag.update n.itm (min n.t.req (lim (sh M) n.t.par)) (TM.itm_mem HNM.out)).mono ?_
        rintro e w4 ⟨rfl, nx⟩
        obtain ⟨f5, hb5, hf5, t5⟩ := nx
        have hS2 := hS.trans t5 (fun y hy => .inl hy)
        have HNX := Lib.hid (show Next WX h fh ((M.map Nd.itm).map (upd n.t.id (min n.t.req (lim (sh M) n.t.par)))) last w4 from ⟨f5, hb5, fun y hy => by rcases hf5 y hy with e | e; exact .inl e; exact .inr (Nat.le_trans (HTX.out.trans TT3.out (by simp)).size e), ((HTX.out.trans TT3.out (by simp)).mono (by simp)).trans t5 (fun y hy => .inl hy)⟩)
        refine hK.out _ _ hS2 (fun _ => ?_)
        have HT4 := Lib.hid (show Touch fh WX w4 from ((HTX.out.trans TT3.out (by simp)).mono (by simp)).trans t5 (fun y hy => .inl hy))
        clear hK K hS HW3 hb5 hf5 t5 TT3
        have hS := hS2
        clear hS2
        try simp only [Act.put, List.setIfInBounds_toArray, List.set_cons_zero, List.set_cons_succ]
        refine wpAnyH_done (by kernel_rfl) ?_ _
        try simp only [Act.put, List.setIfInBounds_toArray, List.set_cons_zero, List.set_cons_succ]
        go_wp2_with fail
        obtain ⟨fh2, hrs2, hf2⟩ := Rs.step HRS1.out HNM.out HJ.out HNX.out
        have hgl : g < WX.heap.size := (HOW3.out.lt g rfl).2
        have hg2 : g ∉ fh2 := by
          intro e
          rcases hf2 g e with e | e
          · exact hgf e
          · omega
        have HOW5 := Lib.hid (HT4.out.owns HOW3.out (by intro g' hg' e; simp [Value.ownBlock] at hg'; subst hg'; exact hgf e))
        go_roundw
        case rel => exact ⟨j + 1, by simp, by omega, .inr ⟨by omega, fh2, _, hg2, hrs2⟩, HOW5.out⟩
        case measure => simp [intOf]; omega
    · have hje : j = l.length := by omega
      subst hje
      have hj0 : 0 < l.length := hl0
      obtain ⟨fh, M, _, hrs⟩ : ∃ fh M, g ∉ fh ∧ Rs w t h fh0 N last p.t.id r l l.length wr fh M := by
        rcases HRS.out with ⟨e, _⟩ | ⟨_, hh⟩
        · omega
        · exact hh
      have HF := Lib.hid hrs.fin
      have q3 : ¬ (l.length : Int) < (l.length : Int) := by omega
      have q4 : (0 : Int) < (l.length : Int) := by omega
      clear hrs
      go_wp2_with fail
      go_ret
      exact ⟨rfl, HF.out⟩
end
end Go.Proofs.Ytobkanlnnniabaa.I

/-
  DERIVED: THE SHELF's CONTRACTS AT THIS DUMP, IN PLAIN WORDS (tools/lay-plain.mjs out of 'YtobkanlnnniabaaLayT.lean', which tools/lay-shelf.mjs wrote): THE SAME DECLARATIONS UNDER THE SAME NAMES: 'import', 'namespace', 'open', 'def', 'theorem' AND NOTHING ELSE: no command of the shelf's: FOR A HAND-IN. Each laying: the table of numbers ('.._ren') and one theorem, a field a fact of the dump's own or the kernel's comparison; each contract: ONE APPLICATION.
-/
namespace Go.Proofs
open Go.Shelf
def Try.laysI_ren : Go.Shelf.Ren := ⟨fun | 189 => 42 | 125 => 54 | 257 => 53 | 128 => 68 | 129 => 69 | 294 => 59 | 295 => 60 | 296 => 61 | 297 => 62 | 298 => 63 | 299 => 64 | 216 => 65 | 300 => 66 | 301 => 67 | 328 => 73 | 329 => 74 | 330 => 75 | 331 => 76 | 332 => 77 | 215 => 78 | 343 => 80 | n => n, fun | 28 => 33 | 3 => 3 | 46 => 75 | 0 => 0 | 51 => 107 | 53 => 23 | 4 => 4 | 183 => 100 | 182 => 99 | 131 => 26 | 5 => 5 | 9 => 9 | 218 => 111 | 222 => 115 | 228 => 118 | 229 => 119 | n => n, fun | n => n⟩
theorem Try.laysI : Go.Proofs.Lays.n189 Try.prog Try.laysI_ren := {
  mixed := by kernel_rfl
  f125 := Try.func54.trans (congrArg some (by kernel_rfl))
  f128 := Try.func68.trans (congrArg some (by kernel_rfl))
  f129 := Try.func69.trans (congrArg some (by kernel_rfl))
  f189 := Try.func42.trans (congrArg some (by kernel_rfl))
  f215 := Try.func78.trans (congrArg some (by kernel_rfl))
  f216 := Try.func65.trans (congrArg some (by kernel_rfl))
  f257 := Try.func53.trans (congrArg some (by kernel_rfl))
  f294 := Try.func59.trans (congrArg some (by kernel_rfl))
  f295 := Try.func60.trans (congrArg some (by kernel_rfl))
  f296 := Try.func61.trans (congrArg some (by kernel_rfl))
  f297 := Try.func62.trans (congrArg some (by kernel_rfl))
  f298 := Try.func63.trans (congrArg some (by kernel_rfl))
  f299 := Try.func64.trans (congrArg some (by kernel_rfl))
  f300 := Try.func66.trans (congrArg some (by kernel_rfl))
  f301 := Try.func67.trans (congrArg some (by kernel_rfl))
  f328 := Try.func73.trans (congrArg some (by kernel_rfl))
  f329 := Try.func74.trans (congrArg some (by kernel_rfl))
  f330 := Try.func75.trans (congrArg some (by kernel_rfl))
  f331 := Try.func76.trans (congrArg some (by kernel_rfl))
  f332 := Try.func77.trans (congrArg some (by kernel_rfl))
  f343 := Try.func80.trans (congrArg some (by kernel_rfl))
  t0 := Try.underlying0
  a0 := Try.isAgg0
  z0 := Try.sizeOf0
  v0 := Try.zeroValue0
  t3 := Try.underlying3
  a3 := Try.isAgg3
  z3 := Try.sizeOf3
  v3 := Try.zeroValue3
  t4 := Try.underlying4
  a4 := Try.isAgg4
  z4 := Try.sizeOf4
  v4 := Try.zeroValue4
  t5 := Try.underlying5
  a5 := Try.isAgg5
  z5 := Try.sizeOf5
  v5 := Try.zeroValue5
  t9 := Try.underlying9
  a9 := Try.isAgg9
  z9 := Try.sizeOf9
  v9 := Try.zeroValue9
  t28 := Try.underlying33
  a28 := Try.isAgg33
  z28 := Try.sizeOf33
  v28 := Try.zeroValue33
  t46 := Try.underlying75
  a46 := Try.isAgg75
  z46 := Try.sizeOf75
  v46 := Try.zeroValue75
  t51 := Try.underlying107
  a51 := Try.isAgg107
  z51 := Try.sizeOf107
  v51 := Try.zeroValue107
  t53 := Try.underlying23
  a53 := Try.isAgg23
  z53 := Try.sizeOf23
  v53 := Try.zeroValue23
  t131 := Try.underlying26
  a131 := Try.isAgg26
  z131 := Try.sizeOf26
  v131 := Try.zeroValue26
  t182 := Try.underlying99
  a182 := Try.isAgg99
  z182 := Try.sizeOf99
  v182 := Try.zeroValue99
  t183 := Try.underlying100
  a183 := Try.isAgg100
  z183 := Try.sizeOf100
  v183 := Try.zeroValue100
  t218 := Try.underlying111
  a218 := Try.isAgg111
  z218 := Try.sizeOf111
  v218 := Try.zeroValue111
  t222 := Try.underlying115
  a222 := Try.isAgg115
  z222 := Try.sizeOf115
  v222 := Try.zeroValue115
  t228 := Try.underlying118
  a228 := Try.isAgg118
  z228 := Try.sizeOf118
  v228 := Try.zeroValue118
  t229 := Try.underlying119
  a229 := Try.isAgg119
  z229 := Try.sizeOf119
  v229 := Try.zeroValue119 }
end Go.Proofs

/-
  slices.Sort of ints, in plain words.
-/
namespace Go.Proofs.Ytobkanlnnniabaa
open Go.RowKit Go.Sort Go.Shelf
set_option linter.unusedVariables false
set_option linter.unusedSimpArgs false

def upI (l : List Int) : List Int := l.mergeSort fun x y => decide (x ≤ y)
theorem upI_len (l : List Int) : (upI l).length = l.length := List.length_mergeSort _
theorem sort_nil (p : Option Addr) (cap : Nat) (w : World) : Calls Try.prog 42 #[.slice p 0 cap] w fun e w' => e = .returned (.tuple #[]) ∧ w' = w :=
  Any.slices_Sort_int_none Try.laysI p cap w
theorem sort_ints (w : World) (g off cap : Nat) (l : List Int) (hH : ∀ j x, l[j]? = some x → w.cell? ⟨g, off + j, none⟩ = some (.int .i64 x) ∧ w.frozen? ⟨g, off + j, none⟩ = false) (hb : g < w.heap.size) (hz : l.length < 4611686018427387904) :
    Calls Try.prog 42 #[.slice (some ⟨g, off, none⟩) l.length cap] w fun e w' => e = .returned (.tuple #[]) ∧ Touch [g] w w' ∧ ∀ j x, (upI l)[j]? = some x → w'.cell? ⟨g, off + j, none⟩ = some (.int .i64 x) := by
  have hHold : Holds (Value.int .i64) w g off l.toArray := by
    intro j hj
    have hj' : j < l.length := by simpa using hj
    have e1 : l.toArray[j]! = l[j] := by
      rw [getElem!_pos _ _ (by simpa using hj')]
      simp
    rw [e1]
    exact hH j l[j] (List.getElem?_eq_getElem hj')
  refine (Any.slices_Sort_int Try.laysI g off cap l w hHold hb hz).mono ?_
  rintro e w' ⟨rfl, n, os, rfl⟩
  have hsz : g < (putRow (Value.int .i64) (Sort.ahead w n) g off (upI l).toArray).heap.size := by simpa [putRow, mapBlock, Sort.ahead] using hb
  refine ⟨rfl, ⟨rfl, rfl, rfl, by simp [putRow, mapBlock, Sort.ahead, grow], fun i hi hn => ?_⟩, ?_⟩
  · rw [heap_grow_old _ _ (by simpa [putRow, mapBlock, Sort.ahead] using hi)]
    have : g ≠ i := by simpa [eq_comm] using hn
    simp [putRow, mapBlock, Sort.ahead, Array.getElem?_modify, this]
  · intro j x hj
    have hj' : j < (upI l).length := (List.getElem?_eq_some_iff.1 hj).1
    rw [show (l.mergeSort fun x y => decide (x ≤ y)) = upI l from rfl, cell?_grow _ _ _ hsz]
    rw [cell?_putRow (Value.int .i64) (Sort.ahead w n) g off l.toArray (upI l).toArray (holds_ahead _ _ _ _ _ _ hHold) (by simp [upI_len]) j (by simpa using hj')]
    have e1 : (upI l).toArray[j]! = x := by
      rw [getElem!_pos _ _ (by simpa using hj')]
      have := (List.getElem?_eq_some_iff.1 hj).2
      simpa using this
    rw [e1]
end Go.Proofs.Ytobkanlnnniabaa

/-
  The contract of Descendants.
-/
namespace Go.Proofs.Ytobkanlnnniabaa.I
open Go.RowKit
set_option linter.unusedVariables false
set_option linter.unusedSimpArgs false

section
variable {w : World} {t h : Nat} {fh : List Nat} {N : List Nd} {last : Int}
set_option maxRecDepth 100000 in
set_option maxHeartbeats 1000000 in
theorem desc_no (k : TM w t h fh N last) (i : Int) (hi : okK i) (hn : i ∉ tids (sh N)) :
    Calls Try.prog 19 #[.pointer (some ⟨t, 0, none⟩), .int .i64 i] w fun e w' => e = .returned (.slice none 0 0) ∧ w' = w := by
  have HS := Lib.hid (subtree_no k i hi hn)
  clear k hn
  go_enter Try.func19, Try.ntmps19
  go_wp2_with fail
  refine HS.out.mono ?_
  rintro e w' ⟨rfl, rfl⟩
  go_wp2_with fail
  refine (sort_nil none 0 _).mono ?_
  rintro e w' ⟨rfl, rfl⟩
  go_wp2_with fail
  go_ret
  exact ⟨rfl, rfl⟩
/-- What Descendants answers: the handles below, in order. -/
def DescR (N : List Tm) (id : Int) (w0 w' : World) (e : Ending) : Prop :=
  ∃ l g off cap, Sub N id l ∧ e = .returned (.slice (some ⟨g, off, none⟩) (l.length - 1 : Nat) cap) ∧ w0.heap.size ≤ g ∧ (∀ j x, (upI l.tail)[j]? = some x → w'.cell? ⟨g, off + j, none⟩ = some (.int .i64 x)) ∧ Touch [] w0 w'
set_option maxRecDepth 100000 in
set_option maxHeartbeats 1000000 in
theorem desc_any (k : TM w t h fh N last) (n : Nd) (hn : n ∈ N) :
    Calls Try.prog 19 #[.pointer (some ⟨t, 0, none⟩), .int .i64 n.t.id] w fun e w' => DescR (sh N) n.t.id w w' e := by
  have HS := Lib.hid (subtree_any k n hn)
  have hfew := k.mem.few
  have hl2 : (sh N).length = N.length := by simp [sh]
  clear k hn
  go_enter Try.func19, Try.ntmps19
  go_wp2_with fail
  refine HS.out.mono ?_
  rintro e w1 ⟨v, l, rfl, hsub, ho, t1⟩
  have hl0 : 0 < l.length := (List.getElem?_eq_some_iff.1 hsub.head).1
  have hl1 := hsub.few
  have HSUB := Lib.hid hsub
  have HO := Lib.hid ho
  have HT := Lib.hid t1
  clear hsub ho t1 HS
  obtain ⟨av, cv, rfl, hv1, hv2, hv3⟩ := owns_form HO.out.row
  obtain ⟨g, rfl⟩ := hv3 hl0
  have hgs : g < w1.heap.size := HO.out.row.lt g rfl |>.2
  have hcv : cv ≤ 9223372036854775807 := by unfold maxLen at hv2; omega
  have d0 : (0 : Int) < (l.length : Int) := by omega
  by_cases hc1 : cv = 1
  · subst hc1
    have hl3 : l.length = 1 := by omega
    rw [hl3]
    have HL3 := Lib.hid hl3
    rw [hl3] at d0
    clear hv2 hv3
    go_wp2_with fail
    refine (sort_nil _ _ _).mono ?_
    rintro e w2 ⟨rfl, rfl⟩
    go_wp2_with fail
    go_ret
    refine ⟨l, g, 0, 0, HSUB.out, by rw [HL3.out]; rfl, HO.out.new g rfl, ?_, HT.out⟩
    intro j x hj
    have := (List.getElem?_eq_some_iff.1 hj).1
    rw [upI_len, List.length_tail, HL3.out] at this
    omega
  · have HSO := Lib.hid (sort_ints w1 g 1 (cv - 1) l.tail (by
      intro j x hj
      rw [List.getElem?_tail] at hj
      have h1 := owns_cell HO.out.row (1 + j) (.int .i64 x) (by rw [List.getElem?_map, Nat.add_comm 1 j, hj]; rfl)
      exact ⟨h1, owns_frozen HO.out.row (1 + j)⟩) hgs (by simp; omega))
    have hcut : l.tail.length = l.length - 1 := by simp
    rw [hcut] at HSO
    have hc2 : cv - 1 ≠ 0 := by omega
    clear hv2 hv3
    go_wp2_with fail
    refine HSO.out.mono ?_
    rintro e w2 ⟨rfl, t2, hc⟩
    have HT2 := Lib.hid (HT.out.trans t2 (by
      intro y hy
      simp at hy
      subst hy
      exact .inr (HO.out.new _ rfl)))
    have HC := Lib.hid hc
    have HG := Lib.hid (HO.out.new g rfl)
    clear t2 hc
    go_wp2_with fail
    go_ret
    exact ⟨l, g, 1, cv - 1, HSUB.out, rfl, HG.out, HC.out, HT2.out⟩
end
end Go.Proofs.Ytobkanlnnniabaa.I

/-
  Reset and Descendants, above a world.
-/
namespace Go.Proofs.Ytobkanlnnniabaa.I
open Go.RowKit
set_option linter.unusedVariables false
set_option linter.unusedSimpArgs false

section
variable {w0 w : World} {t h : Nat} {A : List (Tm × Value)} {last : Int}
def Abr (w0 : World) (t h : Nat) (A : List (Tm × Value)) (last i r : Int) (w' : World) : Prop :=
  ∃ A', Abv w0 w' t h A' last ∧ A'.map (fun a => (a.1.id, a.1.par, a.1.req, a.2)) = (A.map fun a => (setReq i r a.1, a.2)).map fun a => (a.1.id, a.1.par, a.1.req, a.2)
theorem Abv.reset (k : Abv w0 w t h A last) (i r : Int) (hi : i ∈ tids (A.map Prod.fst)) (hr : 0 ≤ r ∧ r ≤ maxT) :
    Calls Try.prog 21 #[.pointer (some ⟨t, 0, none⟩), .int .i64 i, .int .u64 r] w fun e w' => e = .returned (.bool true) ∧ Abr w0 t h A last i r w' := by
  obtain ⟨f, ⟨fh, N, hm, rfl, rfl⟩, h2, h3⟩ := k
  rw [ab_fst] at hi
  obtain ⟨n, hn, rfl⟩ := sh_at hi
  refine (reset_any hm n hn r hr).mono ?_
  rintro e w' ⟨rfl, A', h4, h5⟩
  exact ⟨rfl, A', Abv.next h2 h3 h4, h5⟩
theorem Abv.reset_no (k : Abv w0 w t h A last) (i r : Int) (hi : okK i) (hn : i ∉ tids (A.map Prod.fst)) :
    Calls Try.prog 21 #[.pointer (some ⟨t, 0, none⟩), .int .i64 i, .int .u64 r] w fun e w' => e = .returned (.bool false) ∧ Abv w0 w' t h A last := by
  have k' := k
  obtain ⟨f, ⟨fh, N, hm, rfl, rfl⟩, h2, h3⟩ := k
  rw [ab_fst] at hn
  refine (I.reset_no hm i r hi hn).mono ?_
  rintro e w' ⟨rfl, rfl⟩
  exact ⟨rfl, k'⟩
def Abd (w0 : World) (t h : Nat) (A : List (Tm × Value)) (last i : Int) (l : List Int) (g off : Nat) (w' : World) : Prop :=
  Sub (A.map Prod.fst) i l ∧ w0.heap.size ≤ g ∧ (∀ j x, (upI l.tail)[j]? = some x → w'.cell? ⟨g, off + j, none⟩ = some (.int .i64 x)) ∧ Abv w0 w' t h A last
theorem Abv.desc (k : Abv w0 w t h A last) (i : Int) (hi : i ∈ tids (A.map Prod.fst)) :
    Calls Try.prog 19 #[.pointer (some ⟨t, 0, none⟩), .int .i64 i] w fun e w' => ∃ l g off cap, e = .returned (.slice (some ⟨g, off, none⟩) (l.length - 1 : Nat) cap) ∧ Abd w0 t h A last i l g off w' := by
  have k' := k
  obtain ⟨f, ⟨fh, N, hm, rfl, rfl⟩, h2, h3⟩ := k
  unfold Abd
  rw [ab_fst] at hi ⊢
  obtain ⟨n, hn, rfl⟩ := sh_at hi
  refine (desc_any hm n hn).mono ?_
  rintro e w' ⟨l, g, off, cap, h4, rfl, h5, h6, h7⟩
  exact ⟨l, g, off, cap, rfl, h4, Nat.le_trans h3.size h5, h6, k'.touch h7⟩
theorem Abv.desc_no (k : Abv w0 w t h A last) (i : Int) (hi : okK i) (hn : i ∉ tids (A.map Prod.fst)) :
    Calls Try.prog 19 #[.pointer (some ⟨t, 0, none⟩), .int .i64 i] w fun e w' => e = .returned (.slice none 0 0) ∧ Abv w0 w' t h A last := by
  have k' := k
  obtain ⟨f, ⟨fh, N, hm, rfl, rfl⟩, h2, h3⟩ := k
  rw [ab_fst] at hn
  refine (I.desc_no hm i hi hn).mono ?_
  rintro e w' ⟨rfl, rfl⟩
  exact ⟨rfl, k'⟩
end
end Go.Proofs.Ytobkanlnnniabaa.I

/-
  Timers above a world, apart from blocks of another's: what each call leaves of both.
-/
namespace Go.Proofs.Ytobkanlnnniabaa.I
open Go.RowKit
set_option linter.unusedVariables false
set_option linter.unusedSimpArgs false

/-- The blocks of the list are as they were. -/
def Kept (G : List Nat) (w w' : World) : Prop := ∃ S, Touch S w w' ∧ ∀ g ∈ G, g ∉ S
def Avd (w0 w : World) (t h : Nat) (A : List (Tm × Value)) (last : Int) (G : List Nat) : Prop := ∃ f, TS w t h f A last ∧ (∀ y ∈ f, w0.heap.size ≤ y) ∧ Touch [] w0 w ∧ ∀ g ∈ G, g ∉ f ∧ g < w.heap.size ∧ w0.heap.size ≤ g
/-- What a call leaves. -/
def Lft (w0 w : World) (t h : Nat) (A : List (Tm × Value)) (last : Int) (G : List Nat) (w' : World) : Prop := Avd w0 w' t h A last G ∧ Kept G w w'
theorem Kept.at {G : List Nat} {w w' : World} (k : Kept G w w') {g : Nat} {o : Obj} (hg : g ∈ G) (h : w.heap[g]? = some o) : w'.heap[g]? = some o := by
  obtain ⟨S, ht, hS⟩ := k
  exact ht.at h (hS g hg)
section
variable {w0 w : World} {t h : Nat} {A : List (Tm × Value)} {last : Int} {G : List Nat}
theorem Avd.abv (k : Avd w0 w t h A last G) : Abv w0 w t h A last := by
  obtain ⟨f, h1, h2, h3, h4⟩ := k
  exact ⟨f, h1, h2, h3⟩
theorem Abv.avoid {w' : World} (k : Abv w0 w t h A last) (ht : Touch [] w w') (hG : ∀ g ∈ G, w.heap.size ≤ g ∧ g < w'.heap.size) : Avd w0 w' t h A last G := by
  obtain ⟨f, h1, h2, h3⟩ := k
  refine ⟨f, h1.touch ht (by simp), h2, h3.trans ht (by simp), fun g hg => ⟨fun e => ?_, (hG g hg).2, Nat.le_trans h3.size (hG g hg).1⟩⟩
  have := h1.lt g e
  have := (hG g hg).1
  omega
theorem Avd.tree (k : Avd w0 w t h A last G) : Tree (A.map Prod.fst) last := k.abv.tree
theorem Avd.due (k : Avd w0 w t h A last G) : ∀ s ∈ A.map Prod.fst, DueOk (A.map Prod.fst) s := k.abv.due
theorem Avd.tt (k : Avd w0 w t h A last G) : Touch [] w0 w := k.abv.tt
/-- The other's own doing. -/
theorem Avd.other {S G' : List Nat} {w' : World} (k : Avd w0 w t h A last G) (ht : Touch S w w') (hS : ∀ y ∈ S, y ∈ G ∨ w.heap.size ≤ y) (hG : ∀ g ∈ G', (g ∈ G ∨ w.heap.size ≤ g) ∧ g < w'.heap.size) : Avd w0 w' t h A last G' := by
  obtain ⟨f, h1, h2, h3, h4⟩ := k
  have hf := h1.lt
  refine ⟨f, h1.touch ht ?_, h2, h3.trans ht ?_, fun g hg => ?_⟩
  · intro y hy e
    rcases hS y e with q | q
    · exact (h4 y q).1 hy
    · have := hf y hy
      omega
  · intro y hy
    rcases hS y hy with q | q
    · exact .inr (h4 y q).2.2
    · exact .inr (Nat.le_trans h3.size q)
  · rcases (hG g hg).1 with q | q
    · exact ⟨(h4 g q).1, (hG g hg).2, (h4 g q).2.2⟩
    · exact ⟨fun e => by have := hf g e; omega, (hG g hg).2, Nat.le_trans h3.size q⟩
theorem Avd.touch {w' : World} (k : Avd w0 w t h A last G) (ht : Touch [] w w') : Lft w0 w t h A last G w' := by
  refine ⟨k.other ht (by simp) (fun g hg => ⟨.inl hg, ?_⟩), [], ht, by simp⟩
  obtain ⟨f, h1, h2, h3, h4⟩ := k
  exact Nat.lt_of_lt_of_le (h4 g hg).2.1 ht.size
theorem Avd.next {f : List Nat} {A' : List (Tm × Value)} {last' : Int} {w' : World} (h2 : ∀ y ∈ f, w0.heap.size ≤ y) (h3 : Touch [] w0 w) (h4 : ∀ g ∈ G, g ∉ f ∧ g < w.heap.size ∧ w0.heap.size ≤ g) (k : TNext w t h f A' last' w') : Lft w0 w t h A' last' G w' := by
  obtain ⟨f', k1, k2, k3⟩ := k
  refine ⟨⟨f', k1, fun y hy => ?_, h3.trans k3 (fun y hy => .inr (h2 y hy)), fun g hg => ⟨fun e => ?_, Nat.lt_of_lt_of_le (h4 g hg).2.1 k3.size, (h4 g hg).2.2⟩⟩, f, k3, fun g hg => (h4 g hg).1⟩
  · rcases k2 y hy with e | e
    · exact h2 y e
    · exact Nat.le_trans h3.size e
  · rcases k2 g e with e | e
    · exact (h4 g hg).1 e
    · have := (h4 g hg).2.1
      omega
theorem Avd.start (k : Avd w0 w t h A last G) (par due : Int) (x : Value) (hxo : x.oneCell' = true) (hR : 0 ≤ due ∧ due ≤ maxT) (hl : last < 1000) (hfew : A.length < 1000) (hp : par = 0 ∨ par ∈ tids (A.map Prod.fst)) :
    Calls Try.prog 8 #[.pointer (some ⟨t, 0, none⟩), .int .i64 par, .int .u64 due, x] w fun e w' => e = .returned (.tuple #[.int .i64 (last + 1), .bool true]) ∧ Lft w0 w t h (A ++ [(⟨last + 1, par, due, min due (lim (A.map Prod.fst) par)⟩, x)]) (last + 1) G w' := by
  obtain ⟨f, h1, h2, h3, h4⟩ := k
  exact (h1.start par due x hxo hR hl hfew hp).mono fun e w' ⟨e1, e2⟩ => ⟨e1, Avd.next h2 h3 h4 e2⟩
theorem Avd.start_no (k : Avd w0 w t h A last G) (par due : Int) (x : Value) (hp : okK par) (h0 : par ≠ 0) (hn : par ∉ tids (A.map Prod.fst)) :
    Calls Try.prog 8 #[.pointer (some ⟨t, 0, none⟩), .int .i64 par, .int .u64 due, x] w fun e w' => e = .returned (.tuple #[.int .i64 0, .bool false]) ∧ Lft w0 w t h A last G w' := by
  have k' := k
  obtain ⟨f, h1, h2, h3, h4⟩ := k
  refine (h1.start_no par due x hp h0 hn).mono ?_
  rintro e w' ⟨rfl, rfl⟩
  exact ⟨rfl, k'.touch (Touch.refl [] _)⟩
theorem Avd.deadline (k : Avd w0 w t h A last G) (s : Tm) (hs : s ∈ A.map Prod.fst) :
    Calls Try.prog 20 #[.pointer (some ⟨t, 0, none⟩), .int .i64 s.id] w fun e w' => e = .returned (.tuple #[.int .u64 s.due, .bool true]) ∧ Lft w0 w t h A last G w' := by
  have k' := k
  obtain ⟨f, h1, h2, h3, h4⟩ := k
  exact (h1.deadline s hs).mono fun e w' ⟨e1, e2⟩ => ⟨e1, k'.touch e2⟩
theorem Avd.deadline_no (k : Avd w0 w t h A last G) (i : Int) (hi : okK i) (hn : i ∉ tids (A.map Prod.fst)) :
    Calls Try.prog 20 #[.pointer (some ⟨t, 0, none⟩), .int .i64 i] w fun e w' => e = .returned (.tuple #[.int .u64 0, .bool false]) ∧ Lft w0 w t h A last G w' := by
  have k' := k
  obtain ⟨f, h1, h2, h3, h4⟩ := k
  refine (h1.deadline_no i hi hn).mono ?_
  rintro e w' ⟨rfl, rfl⟩
  exact ⟨rfl, k'.touch (Touch.refl [] _)⟩
theorem Avd.len (k : Avd w0 w t h A last G) :
    Calls Try.prog 11 #[.pointer (some ⟨t, 0, none⟩)] w fun e w' => e = .returned (.int .i64 A.length) ∧ w' = w := k.abv.len
def Cuv (w0 w : World) (t h : Nat) (A : List (Tm × Value)) (last : Int) (G : List Nat) (i : Int) (l : List Int) (w' : World) : Prop := Sub (A.map Prod.fst) i l ∧ Lft w0 w t h (A.filter fun a => decide (a.1.id ∉ l)) last G w'
theorem Avd.cancel (k : Avd w0 w t h A last G) (i : Int) (hi : i ∈ tids (A.map Prod.fst)) :
    Calls Try.prog 18 #[.pointer (some ⟨t, 0, none⟩), .int .i64 i] w fun e w' => ∃ l : List Int, e = .returned (.int .i64 (l.length : Nat)) ∧ Cuv w0 w t h A last G i l w' := by
  obtain ⟨f, h1, h2, h3, h4⟩ := k
  refine (h1.cancel i hi).mono ?_
  rintro e w' ⟨l, rfl, hs, hn⟩
  exact ⟨l, rfl, hs, Avd.next h2 h3 h4 hn⟩
theorem Avd.cancel_no (k : Avd w0 w t h A last G) (i : Int) (hi : okK i) (hn : i ∉ tids (A.map Prod.fst)) :
    Calls Try.prog 18 #[.pointer (some ⟨t, 0, none⟩), .int .i64 i] w fun e w' => e = .returned (.int .i64 0) ∧ Lft w0 w t h A last G w' := by
  have k' := k
  obtain ⟨f, h1, h2, h3, h4⟩ := k
  exact (h1.cancel_no i hi hn).mono fun e w' ⟨e1, e2⟩ => ⟨e1, k'.touch e2⟩
theorem Avd.reset (k : Avd w0 w t h A last G) (i r : Int) (hi : i ∈ tids (A.map Prod.fst)) (hr : 0 ≤ r ∧ r ≤ maxT) :
    Calls Try.prog 21 #[.pointer (some ⟨t, 0, none⟩), .int .i64 i, .int .u64 r] w fun e w' => e = .returned (.bool true) ∧ ∃ A', Lft w0 w t h A' last G w' ∧ A'.map (fun a => (a.1.id, a.1.par, a.1.req, a.2)) = (A.map fun a => (setReq i r a.1, a.2)).map fun a => (a.1.id, a.1.par, a.1.req, a.2) := by
  obtain ⟨f, ⟨fh, N, hm, rfl, rfl⟩, h2, h3, h4⟩ := k
  rw [ab_fst] at hi
  obtain ⟨n, hn, rfl⟩ := sh_at hi
  refine (reset_any hm n hn r hr).mono ?_
  rintro e w' ⟨rfl, A', h5, h6⟩
  exact ⟨rfl, A', Avd.next h2 h3 h4 h5, h6⟩
theorem Avd.reset_no (k : Avd w0 w t h A last G) (i r : Int) (hi : okK i) (hn : i ∉ tids (A.map Prod.fst)) :
    Calls Try.prog 21 #[.pointer (some ⟨t, 0, none⟩), .int .i64 i, .int .u64 r] w fun e w' => e = .returned (.bool false) ∧ Lft w0 w t h A last G w' := by
  have k' := k
  obtain ⟨f, ⟨fh, N, hm, rfl, rfl⟩, h2, h3, h4⟩ := k
  rw [ab_fst] at hn
  refine (I.reset_no hm i r hi hn).mono ?_
  rintro e w' ⟨rfl, rfl⟩
  exact ⟨rfl, k'.touch (Touch.refl [] _)⟩
def Dsv (w0 w : World) (t h : Nat) (A : List (Tm × Value)) (last : Int) (G : List Nat) (i : Int) (l : List Int) (g off : Nat) (w' : World) : Prop :=
  Sub (A.map Prod.fst) i l ∧ w.heap.size ≤ g ∧ (∀ j x, (upI l.tail)[j]? = some x → w'.cell? ⟨g, off + j, none⟩ = some (.int .i64 x)) ∧ Lft w0 w t h A last G w' ∧ Touch [] w w'
theorem Avd.desc (k : Avd w0 w t h A last G) (i : Int) (hi : i ∈ tids (A.map Prod.fst)) :
    Calls Try.prog 19 #[.pointer (some ⟨t, 0, none⟩), .int .i64 i] w fun e w' => ∃ l g off cap, e = .returned (.slice (some ⟨g, off, none⟩) (l.length - 1 : Nat) cap) ∧ Dsv w0 w t h A last G i l g off w' := by
  have k' := k
  obtain ⟨f, ⟨fh, N, hm, rfl, rfl⟩, h2, h3, h4⟩ := k
  unfold Dsv
  rw [ab_fst] at hi ⊢
  obtain ⟨n, hn, rfl⟩ := sh_at hi
  refine (desc_any hm n hn).mono ?_
  rintro e w' ⟨l, g, off, cap, h5, rfl, h6, h7, h8⟩
  exact ⟨l, g, off, cap, rfl, h5, h6, h7, k'.touch h8, h8⟩
theorem Avd.desc_no (k : Avd w0 w t h A last G) (i : Int) (hi : okK i) (hn : i ∉ tids (A.map Prod.fst)) :
    Calls Try.prog 19 #[.pointer (some ⟨t, 0, none⟩), .int .i64 i] w fun e w' => e = .returned (.slice none 0 0) ∧ Lft w0 w t h A last G w' ∧ Touch [] w w' := by
  have k' := k
  obtain ⟨f, ⟨fh, N, hm, rfl, rfl⟩, h2, h3, h4⟩ := k
  rw [ab_fst] at hn
  refine (I.desc_no hm i hi hn).mono ?_
  rintro e w' ⟨rfl, rfl⟩
  exact ⟨rfl, k'.touch (Touch.refl [] _), Touch.refl [] _⟩
theorem Avd.expire_empty (k : Avd w0 w t h [] last G) (now : Int) :
    Calls Try.prog 9 #[.pointer (some ⟨t, 0, none⟩), .int .u64 now] w fun e w' => e = .returned (.tuple #[.int .i64 0, .int .i64 0, .bool false]) ∧ Lft w0 w t h [] last G w' := by
  have k' := k
  obtain ⟨f, h1, h2, h3, h4⟩ := k
  exact (h1.expire_empty now).mono fun e w' ⟨e1, e2⟩ => ⟨e1, k'.touch e2⟩
theorem Avd.expire_late (k : Avd w0 w t h A last G) (now : Int) (a : Tm × Value) (ha : a ∈ A) (hmin : ∀ b ∈ A, le (tkey a.1) (tkey b.1)) (hl : now < a.1.due) :
    Calls Try.prog 9 #[.pointer (some ⟨t, 0, none⟩), .int .u64 now] w fun e w' => e = .returned (.tuple #[.int .i64 0, .int .i64 0, .bool false]) ∧ Lft w0 w t h A last G w' := by
  have k' := k
  obtain ⟨f, h1, h2, h3, h4⟩ := k
  exact (h1.expire_late now a ha hmin hl).mono fun e w' ⟨e1, e2⟩ => ⟨e1, k'.touch e2⟩
theorem Avd.expire (k : Avd w0 w t h A last G) (now : Int) (a : Tm × Value) (ha : a ∈ A) (hmin : ∀ b ∈ A, le (tkey a.1) (tkey b.1)) (hl : a.1.due ≤ now) :
    Calls Try.prog 9 #[.pointer (some ⟨t, 0, none⟩), .int .u64 now] w fun e w' => e = .returned (.tuple #[.int .i64 a.1.id, a.2, .bool true]) ∧ ∃ l, Cuv w0 w t h A last G a.1.id l w' := by
  obtain ⟨f, h1, h2, h3, h4⟩ := k
  refine (h1.expire now a ha hmin hl).mono ?_
  rintro e w' ⟨rfl, l, hs, hn⟩
  exact ⟨rfl, l, hs, Avd.next h2 h3 h4 hn⟩
end
end Go.Proofs.Ytobkanlnnniabaa.I

/-
  Plain laws of trees of timers: subtrees' sizes; chains.
-/
namespace Go.Proofs.Ytobkanlnnniabaa
set_option linter.unusedVariables false
set_option linter.unusedSimpArgs false

section
variable {N : List Tm} {last : Int}
theorem under_iff (hu : (tids N).Nodup) {s : Tm} (hs : s ∈ N) {k : Int} : Under N k s.id ↔ s.id = k ∨ Under N k s.par := by
  constructor
  · intro h
    generalize he : s.id = i at h
    cases h with
    | self h => exact .inl rfl
    | kid hp hm =>
      obtain ⟨n, hn, e1, e2⟩ := mem_kids.1 hm
      have := tm_inj hu hn hs (by rw [e2, he])
      subst this
      rw [e1]
      exact .inr hp
  · rintro (h | h)
    · rw [← h]
      exact .self (List.mem_map.2 ⟨s, hs, rfl⟩)
    · exact .kid h (mem_kids.2 ⟨s, hs, rfl, rfl⟩)
theorem under_mem {k i : Int} (h : Under N k i) : i ∈ tids N := by
  cases h with
  | self h => exact h
  | kid hp hm => exact kids_sub hm
theorem sub_len {id : Int} {l l' : List Int} (b : Sub N id l) (b' : Sub N id l') : l.length = l'.length := by
  have h1 := nodup_few b.nodup (fun k hk => (b'.iff k).2 ((b.iff k).1 hk))
  have h2 := nodup_few b'.nodup (fun k hk => (b.iff k).2 ((b'.iff k).1 hk))
  omega
theorem two_filters {α : Type} (p : α → Bool) : ∀ l : List α, (l.filter p).length + (l.filter fun x => !p x).length = l.length
  | [] => rfl
  | a :: l => by
    have := two_filters p l
    cases h : p a <;> simp [h] <;> omega
theorem cut_len {β : Type} {A : List (Tm × β)} {id : Int} {l : List Int} (hu : (tids (A.map Prod.fst)).Nodup) (b : Sub (A.map Prod.fst) id l) : (A.filter fun a => decide (a.1.id ∉ l)).length + l.length = A.length := by
  have h0 := two_filters (fun a : Tm × β => decide (a.1.id ∉ l)) A
  have e1 : (A.filter fun a => !decide (a.1.id ∉ l)).map (fun a => a.1.id) = (A.map fun a => a.1.id).filter fun k => decide (k ∈ l) := by
    rw [List.filter_map]
    congr 1
    apply List.filter_congr
    intro a _
    simp [Function.comp]
  have e2 : tids (A.map Prod.fst) = A.map fun a => a.1.id := by simp [tids, Function.comp_def]
  rw [e2] at hu
  have h1 : ((A.map fun a => a.1.id).filter fun k => decide (k ∈ l)).length ≤ l.length := nodup_few (hu.sublist List.filter_sublist) (fun k hk => by simpa using (List.mem_filter.1 hk).2)
  have h2 : l.length ≤ ((A.map fun a => a.1.id).filter fun k => decide (k ∈ l)).length := nodup_few b.nodup (fun k hk => List.mem_filter.2 ⟨by rw [← e2]; exact b.mem k hk, by simpa using hk⟩)
  have h3 := congrArg List.length e1
  rw [List.length_map] at h3
  omega
theorem cut_mem {β : Type} {A : List (Tm × β)} {id : Int} {l : List Int} (b : Sub (A.map Prod.fst) id l) {i : Int} (hi : i ∈ tids (A.map Prod.fst)) : i ∈ tids ((A.filter fun a => decide (a.1.id ∉ l)).map Prod.fst) ↔ ¬ Under (A.map Prod.fst) id i := by
  rw [← b.iff]
  constructor
  · intro h
    obtain ⟨s, hs, rfl⟩ := List.mem_map.1 h
    obtain ⟨a, ha, rfl⟩ := List.mem_map.1 hs
    simpa using (List.mem_filter.1 ha).2
  · intro h
    obtain ⟨s, hs, rfl⟩ := List.mem_map.1 hi
    obtain ⟨a, ha, rfl⟩ := List.mem_map.1 hs
    exact List.mem_map.2 ⟨a.1, List.mem_map.2 ⟨a, List.mem_filter.2 ⟨ha, by simpa using h⟩, rfl⟩, rfl⟩
/-- A chain of timers: each below the one before it. -/
def Chain (N : List Tm) (m : Nat) : Prop := N.length = m ∧ ∀ j : Nat, j < m → ∃ s ∈ N, s.id = (j : Int) + 1 ∧ s.par = j
theorem Chain.mem {m : Nat} (c : Chain N m) {i : Int} (h1 : 1 ≤ i) (h2 : i ≤ m) : ∃ s ∈ N, s.id = i ∧ s.par = i - 1 := by
  obtain ⟨j, rfl⟩ : ∃ j : Nat, i = (j : Int) + 1 := ⟨(i - 1).toNat, by omega⟩
  obtain ⟨s, hs, e1, e2⟩ := c.2 j (by omega)
  exact ⟨s, hs, e1, by omega⟩
theorem Chain.tid {m : Nat} (c : Chain N m) {i : Int} (h1 : 1 ≤ i) (h2 : i ≤ m) : i ∈ tids N := by
  obtain ⟨s, hs, rfl, _⟩ := c.mem h1 h2
  exact List.mem_map.2 ⟨s, hs, rfl⟩
theorem Chain.nil : Chain [] 0 := ⟨rfl, fun j hj => absurd hj (by omega)⟩
theorem Chain.snoc {m : Nat} (c : Chain N m) {t : Tm} (h1 : t.id = (m : Int) + 1) (h2 : t.par = m) : Chain (N ++ [t]) (m + 1) := by
  refine ⟨by simp [c.1], fun j hj => ?_⟩
  by_cases e : j = m
  · subst e
    exact ⟨t, by simp, h1, h2⟩
  · obtain ⟨s, hs, q⟩ := c.2 j (by omega)
    exact ⟨s, List.mem_append.2 (.inl hs), q⟩
theorem Chain.map {m : Nat} {M : List Tm} (c : Chain N m) (h : M.map (fun s => (s.id, s.par)) = N.map fun s => (s.id, s.par)) : Chain M m := by
  refine ⟨by have := congrArg List.length h; simp at this; rw [this]; exact c.1, fun j hj => ?_⟩
  obtain ⟨s, hs, e1, e2⟩ := c.2 j hj
  have : (s.id, s.par) ∈ M.map fun s => (s.id, s.par) := by
    rw [h]
    exact List.mem_map.2 ⟨s, hs, rfl⟩
  obtain ⟨s', hs', e⟩ := List.mem_map.1 this
  simp only [Prod.mk.injEq] at e
  exact ⟨s', hs', by omega, by omega⟩
theorem Chain.sub {m : Nat} (c : Chain N m) (hm : 1 ≤ m) {l : List Int} (b : Sub N 1 l) : l.length = m := by
  have h1 := b.few
  rw [c.1] at h1
  have hin : ∀ j : Nat, j < m → (j : Int) + 1 ∈ l := by
    intro j
    induction j with
    | zero => intro _; exact List.mem_of_getElem? b.head
    | succ j ih =>
      intro hj
      have h2 := ih (by omega)
      obtain ⟨s, hs, e1, e2⟩ := c.2 (j + 1) hj
      exact b.closed h2 (mem_kids.2 ⟨s, hs, by omega, by omega⟩)
  have h2 : (((List.range m).map fun (j : Nat) => (j : Int) + 1)).length ≤ l.length := nodup_few (by
    rw [List.nodup_iff_pairwise_ne, List.pairwise_map]
    exact List.nodup_range.imp (fun h e => h (by omega))) (by
    intro k hk
    obtain ⟨j, hj, rfl⟩ := List.mem_map.1 hk
    exact hin j (List.mem_range.1 hj))
  simp at h2
  omega
theorem Chain.due {m : Nat} (c : Chain N m) (hu : (tids N).Nodup) (hd : ∀ s ∈ N, DueOk N s) {i : Int} (h1 : 1 ≤ i) (h2 : i ≤ m) : ∃ s ∈ N, s.id = i ∧ s.due = lim N i ∧ s.due ≤ lim N (i - 1) := by
  obtain ⟨s, hs, e1, e2⟩ := c.mem h1 h2
  refine ⟨s, hs, e1, ?_, ?_⟩
  · rw [← e1]
    exact (lim_mem hu hs).symm
  · have := hd s hs
    unfold DueOk at this
    rw [← e2, this]
    exact Int.min_le_right _ _
end
end Go.Proofs.Ytobkanlnnniabaa

/-
  Merged texts: HeldF, Cm, HsG, StG, CiG, SuG, SdG, HbG, PuG.
-/
import Derived.Test.YtobkanlnnniabaaGreatX1
import Derived.Deep.RegionHeld3
import Derived.StillTail
import Derived.Shelf.SlSortCmp.NoneTotal

/-
  A region that draws its order and whose last operations write what its loads read: the set S of worlds is asked till one of the operations F has come, each of which waits for every load. Plain lemmas over any program.
-/
namespace Go.Proofs.YtobkanlnnniabaaGreat
open Go.RowKit
set_option linter.unusedVariables false
set_option linter.unusedSimpArgs false
section
variable {P : Program} {ops : Array Oper} {Q : Exit → Act → World → Prop} {md : Region.Mode} {S : World → Prop} {F : List Nat}

def wpAnyF (P : Program) (md : Region.Mode) (ops : Array Oper) (Q : Exit → Act → World → Prop) (S : World → Prop) (F : List Nat) : Nat → Array Bool → Act → World → Prop
  | 0, listed, a, w => Region.ready md ops listed = [] ∧ Q .normal a w
  | fuel + 1, listed, a, w =>
    (Region.ready md ops listed = [] → Q .normal a w) ∧
    ∀ i ∈ Region.ready md ops listed, wpOp P ops Q i (fun a' w' => (i ∉ F → S w') ∧ wpAnyF P md ops Q S F fuel (listed.setIfInBounds i true) a' w') a w
theorem wpAny_of_F : ∀ (fuel : Nat) (listed : Array Bool) (a : Act) (w : World), wpAnyF P md ops Q S F fuel listed a w → wpAny P md ops Q fuel listed a w
  | 0, _, _, _, h => h
  | fuel + 1, _, _, _, h => ⟨h.1, fun i hi => wpOp_mono (fun a' w' h' => wpAny_of_F fuel _ a' w' h'.2) (h.2 i hi)⟩
/-- Each operation that has come has been waited for. -/
def Closed (md : Region.Mode) (ops : Array Oper) (listed : Array Bool) : Prop :=
  ∀ k ok, ops[k]? = some ok → listed.getD k true = true → k < listed.size → ∀ e ∈ ok.after, Region.binds md e = true → listed.getD e.on false = true
theorem getD_set_true (l : Array Bool) (i j : Nat) (h : l.getD j false = true) : (l.setIfInBounds i true).getD j false = true := by
  simp only [Array.getD_eq_getD_getElem?, Array.getElem?_setIfInBounds] at *
  split
  · split <;> simp_all
  · exact h
theorem Closed.step {listed : Array Bool} (h : Closed md ops listed) {j : Nat} (hj : j ∈ Region.ready md ops listed) : Closed md ops (listed.setIfInBounds j true) := by
  intro k ok hk hl hs e he hb
  refine getD_set_true _ _ _ ?_
  by_cases hkj : j = k
  · subst hkj
    obtain ⟨_, oj, hoj, hall⟩ := mem_ready.1 hj
    rw [hk] at hoj
    cases hoj
    exact hall e he hb
  · refine h k ok hk ?_ (by simpa using hs) e he hb
    rw [getD_set_ne true hkj] at hl
    exact hl
theorem wpAnyF_first {i : Nat} {oi : Oper} {v : Value} (hi : ops[i]? = some oi) (hsel : ∀ (j : Nat) (o : Oper) cs b, ops[j]? = some o → o.op ≠ .select cs b)
    (hQ : ∀ c a w, Q (.panic c) (a.put oi.dst v) w → Q (.panic c) a w) (hF : ∀ j ∈ F, ∀ oj, ops[j]? = some oj → ∃ e ∈ oj.after, Region.binds md e = true ∧ (e.on = i ∨ ∃ o2, ops[e.on]? = some o2 ∧ ∃ e2 ∈ o2.after, Region.binds md e2 = true ∧ e2.on = i)) :
    ∀ (fuel : Nat) (listed : Array Bool) (a : Act) (w : World), Closed md ops listed → 
      (∀ j oj, ops[j]? = some oj → j ≠ i → listed.getD j true = false → (∀ e ∈ oj.after, Region.binds md e = true → e.on ≠ i) → oi.apart ops oj = true) →
      i ∈ Region.ready md ops listed → YieldsIf P ops S oi v a → S w →
      wpAnyF P md ops Q S F fuel (listed.setIfInBounds i true) (a.put oi.dst v) w → wpAnyF P md ops Q S F (fuel + 1) listed a w := by
  intro fuel
  induction fuel with
  | zero =>
    intro listed a w _ _ hr hy hS H
    refine ⟨fun h => (by rw [h] at hr; cases hr), fun j hj => ?_⟩
    by_cases hji : j = i
    · subst hji
      exact hy.wpOp hi hS ⟨fun _ => hS, H⟩
    · have := ready_mono hj hji
      rw [H.1] at this
      cases this
  | succ fuel ih =>
    intro listed a w hcl hfree hr hy hS H
    refine ⟨fun h => (by rw [h] at hr; cases hr), fun j hj => ?_⟩
    by_cases hji : j = i
    · subst hji
      exact hy.wpOp hi hS ⟨fun _ => hS, H⟩
    · have h1 := H.2 j (ready_mono hj hji)
      obtain ⟨hjun, oj, hoj, hall⟩ := mem_ready.1 hj
      have hnot : ∀ e ∈ oj.after, Region.binds md e = true → e.on ≠ i := fun e he hb heq => by
        have h1 := hall e he hb
        have h0 := (mem_ready.1 hr).1
        rw [heq] at h1
        rcases Nat.lt_or_ge i listed.size with h' | h'
        · simp [h'] at h0 h1
          rw [h0] at h1
          cases h1
        · simp [Array.getElem?_eq_none h'] at h1
      have hjF : j ∉ F := fun hm => by
        obtain ⟨e, he, hb, hon | ⟨o2, ho2, e2, he2, hb2, hon⟩⟩ := hF j hm oj hoj
        · exact hnot e he hb hon
        · have h1 := hall e he hb
          have hs : e.on < listed.size := by
            rcases Nat.lt_or_ge e.on listed.size with h' | h'
            · exact h'
            · simp [Array.getElem?_eq_none h'] at h1
          have h2 : listed.getD e.on true = true := by
            simp [hs] at h1 ⊢
            exact h1
          have h3 := hcl e.on o2 ho2 h2 hs e2 he2 hb2
          have h0 := (mem_ready.1 hr).1
          rw [hon] at h3
          rcases Nat.lt_or_ge i listed.size with h' | h'
          · simp [h'] at h0 h3
            rw [h0] at h3
            cases h3
          · simp [Array.getElem?_eq_none h'] at h3
      have h2 := wpOp_putIf hoj (hfree j oj hoj hji hjun hnot) (fun cs b => hsel i oi cs b hi) (fun cs b => hsel j oj cs b hoj) hQ hy h1
      have hfree' : ∀ k ok, ops[k]? = some ok → k ≠ i → (listed.setIfInBounds j true).getD k true = false →
          (∀ e ∈ ok.after, Region.binds md e = true → e.on ≠ i) → oi.apart ops ok = true := fun k ok hk hki hun hno => by
        refine hfree k ok hk hki ?_ hno
        by_cases hjk : j = k
        · subst hjk
          exact hjun
        · rw [getD_set_ne true hjk] at hun
          exact hun
      refine wpOp_mono (fun a' w' h3 => ⟨fun _ => h3.2.1 hjF, ih (listed.setIfInBounds j true) a' w' (hcl.step hj) hfree' (ready_mono hr (Ne.symm hji)) h3.1 (h3.2.1 hjF) ?_⟩) h2
      rw [Array.setIfInBounds_comm _ _ hji]
      exact h3.2.2
/-- Whether each of F waits for i. -/
def waits (md : Region.Mode) (ops : Array Oper) (F : List Nat) (i : Nat) : Bool :=
  F.all fun j => match ops[j]? with
    | some o => o.after.toList.any fun e => Region.binds md e && (e.on == i || match ops[e.on]? with
      | some o2 => o2.after.toList.any fun e2 => Region.binds md e2 && e2.on == i
      | none => false)
    | none => true
def closed (md : Region.Mode) (ops : Array Oper) (listed : Array Bool) : Bool :=
  (List.range listed.size).all fun k => !listed.getD k true || match ops[k]? with
    | some o => o.after.toList.all fun e => !Region.binds md e || listed.getD e.on false
    | none => true
theorem closed_spec {listed : Array Bool} (h : closed md ops listed = true) : Closed md ops listed := by
  intro k ok hk hl hs e he hb
  have := List.all_eq_true.1 h k (by simpa using hs)
  rw [hl, hk] at this
  simp only [Bool.not_true, Bool.false_or] at this
  have := List.all_eq_true.1 this e (by simpa using he)
  rw [hb] at this
  simpa using this
theorem wpAnyF_take {i : Nat} {oi : Oper} {v : Value} {fuel : Nat} {listed : Array Bool} {a : Act} {w : World} (hi : ops[i]? = some oi)
    (hs : Region.noSelect ops = true) (hf : Region.free md ops listed i = true) (hr : (Region.ready md ops listed).contains i = true) (hw : waits md ops F i = true) (hc : closed md ops listed = true)
    (hQ : ∀ c a w, Q (.panic c) (a.put oi.dst v) w → Q (.panic c) a w) (hy : YieldsIf P ops S oi v a) (hS : S w)
    (h : wpAnyF P md ops Q S F fuel (listed.setIfInBounds i true) (a.put oi.dst v) w) : wpAnyF P md ops Q S F (fuel + 1) listed a w := by
  refine wpAnyF_first hi (Region.noSelect_spec hs) hQ ?_ fuel listed a w (closed_spec hc) (Region.free_spec hi hf) (by simpa using hr) hy hS h
  intro j hj oj hoj
  have := List.all_eq_true.1 hw j hj
  rw [hoj] at this
  obtain ⟨e, he, h1⟩ := List.any_eq_true.1 this
  simp only [Bool.and_eq_true, Bool.or_eq_true, beq_iff_eq] at h1
  refine ⟨e, by simpa using he, h1.1, ?_⟩
  rcases h1.2 with h2 | h2
  · exact .inl h2
  · cases ho : ops[e.on]? with
    | none => rw [ho] at h2; cases h2
    | some o2 =>
      rw [ho] at h2
      obtain ⟨e2, he2, h3⟩ := List.any_eq_true.1 h2
      simp only [Bool.and_eq_true, beq_iff_eq] at h3
      exact .inr ⟨o2, rfl, e2, by simpa using he2, h3.1, h3.2⟩
theorem wpAnyF_done {listed : Array Bool} {a : Act} {w : World} (hr : Region.ready md ops listed = []) (h : Q .normal a w) :
    ∀ fuel, wpAnyF P md ops Q S F fuel listed a w
  | 0 => ⟨hr, h⟩
  | _ + 1 => ⟨fun _ => h, by rw [hr]; simp⟩
def AllReadyF (P : Program) (md : Region.Mode) (ops : Array Oper) (Q : Exit → Act → World → Prop) (S : World → Prop) (F : List Nat) (fuel : Nat) (listed : Array Bool) (a : Act) (w : World) (rs : List Nat) : Prop :=
  ∀ i ∈ rs, wpOp P ops Q i (fun a' w' => (i ∉ F → S w') ∧ wpAnyF P md ops Q S F fuel (listed.setIfInBounds i true) a' w') a w
theorem AllReadyF.nil {fuel : Nat} {listed : Array Bool} {a : Act} {w : World} : AllReadyF P md ops Q S F fuel listed a w [] := fun _ h => by cases h
theorem AllReadyF.cons {fuel : Nat} {listed : Array Bool} {a : Act} {w : World} {i : Nat} {o : Oper} {rs : List Nat} (ho : ops[i]? = some o)
    (h : ∀ K' : Act → World → Prop, Shut (∀ a w, S w → (S w → wpAnyF P md ops Q S F fuel (listed.setIfInBounds i true) a w) → K' a w) → if Region.wanted o (yielded ops a.tmps) = true then Oper.wp P o a w K' Q else K' (a.put o.dst undef) w)
    (hs : AllReadyF P md ops Q S F fuel listed a w rs) : AllReadyF P md ops Q S F fuel listed a w (i :: rs) := fun j hj => by
  rcases List.mem_cons.1 hj with rfl | hj
  · exact wpOp_step ho (fun K' hK => h K' (fun a w hS hW => hK a w ⟨fun _ => hS, hW hS⟩))
  · exact hs j hj
theorem AllReadyF.last {fuel : Nat} {listed : Array Bool} {a : Act} {w : World} {i : Nat} {o : Oper} {rs : List Nat} (ho : ops[i]? = some o) (hF : i ∈ F)
    (h : ∀ K' : Act → World → Prop, Shut (∀ a w, (wpAnyF P md ops Q S F fuel (listed.setIfInBounds i true) a w) → K' a w) → if Region.wanted o (yielded ops a.tmps) = true then Oper.wp P o a w K' Q else K' (a.put o.dst undef) w)
    (hs : AllReadyF P md ops Q S F fuel listed a w rs) : AllReadyF P md ops Q S F fuel listed a w (i :: rs) := fun j hj => by
  rcases List.mem_cons.1 hj with rfl | hj
  · exact wpOp_step ho (fun K' hK => h K' (fun a w hW => hK a w ⟨fun hn => absurd hF hn, hW⟩))
  · exact hs j hj
theorem wpAnyF_ready {rs : List Nat} {fuel : Nat} {listed : Array Bool} {a : Act} {w : World} (hr : Region.ready md ops listed = rs) (hne : rs ≠ [])
    (h : AllReadyF P md ops Q S F fuel listed a w rs) : wpAnyF P md ops Q S F (fuel + 1) listed a w :=
  ⟨fun h0 => absurd (hr ▸ h0) hne, hr ▸ h⟩
end
theorem wp_region_F {P : Program} {ops : Array Oper} {Q : Exit → Act → World → Prop} {S : World → Prop} (F : List Nat) {id : Nat} {a : Act} {w : World} (hm : P.follows .mixedOrders = true)
    (h : wpAnyF P .any ops Q S F ops.size (Array.replicate ops.size false) a { w with drawn := w.drawn + 1 }) : (Code.region id ops true).wp P Q a w :=
  wp_region_any hm (wpAny_of_F _ _ _ _ h)
end Go.Proofs.YtobkanlnnniabaaGreat

/-
  cmp.Compare at int and uint64, cmp.Or at two ints.
-/
namespace Go.Proofs.YtobkanlnnniabaaGreat
open Go.RowKit
set_option linter.unusedVariables false
set_option linter.unusedSimpArgs false

def cmpI (x y : Int) : Int := if x < y then -1 else if y < x then 1 else 0
def cmpT (p q : Key) : Int := if cmpI p.due q.due = 0 then cmpI p.id q.id else cmpI p.due q.due
theorem cmpT_lt (p q : Key) : cmpT p q < 0 ↔ lt p q := by
  unfold cmpT cmpI lt
  repeat' split
  all_goals omega
theorem cmpT_le (p q : Key) : cmpT p q ≤ 0 ↔ le p q := by
  unfold cmpT cmpI le
  repeat' split
  all_goals omega
theorem once {P G : Prop} (f : Hid P → G) (p : P) : G := f (Lib.hid p)
theorem nan_U (x : Int) (w : World) : Calls Tryz.prog 90 #[.int .u64 x] w fun e w' => e = .returned (.bool false) ∧ w = w' := by
  go_enter Tryz.func90, Tryz.ntmps90
  go_wp2_with fail
  go_ret
  exact ⟨rfl, rfl⟩
theorem compare_U (x y : Int) (w : World) : Calls Tryz.prog 73 #[.int .u64 x, .int .u64 y] w fun e w' => e = .returned (.int .i64 (cmpI x y)) ∧ w = w' := by
  by_cases h1 : x < y
  · have e : cmpI x y = -1 := by simp [cmpI, h1]
    rw [e]
    go_enter Tryz.func73, Tryz.ntmps73
    go_wp2_with fail
    refine (nan_U x _).mono ?_
    rintro e w' ⟨rfl, rfl⟩
    go_wp2_with fail
    refine (nan_U y _).mono ?_
    rintro e w' ⟨rfl, rfl⟩
    go_wp2_with fail
    go_ret
    exact ⟨rfl, rfl⟩
  by_cases h2 : y < x
  · have e : cmpI x y = 1 := by simp [cmpI, h1, h2]
    rw [e]
    go_enter Tryz.func73, Tryz.ntmps73
    go_wp2_with fail
    refine (nan_U x _).mono ?_
    rintro e w' ⟨rfl, rfl⟩
    go_wp2_with fail
    refine (nan_U y _).mono ?_
    rintro e w' ⟨rfl, rfl⟩
    go_wp2_with fail
    go_ret
    exact ⟨rfl, rfl⟩
  · have e : cmpI x y = 0 := by simp [cmpI, h1, h2]
    rw [e]
    go_enter Tryz.func73, Tryz.ntmps73
    go_wp2_with fail
    refine (nan_U x _).mono ?_
    rintro e w' ⟨rfl, rfl⟩
    go_wp2_with fail
    refine (nan_U y _).mono ?_
    rintro e w' ⟨rfl, rfl⟩
    go_wp2_with fail
    go_ret
    exact ⟨rfl, rfl⟩
theorem nan_I (x : Int) (w : World) : Calls Tryz.prog 91 #[.int .i64 x] w fun e w' => e = .returned (.bool false) ∧ w = w' := by
  go_enter Tryz.func91, Tryz.ntmps91
  go_wp2_with fail
  go_ret
  exact ⟨rfl, rfl⟩
theorem compare_I (x y : Int) (w : World) : Calls Tryz.prog 74 #[.int .i64 x, .int .i64 y] w fun e w' => e = .returned (.int .i64 (cmpI x y)) ∧ w = w' := by
  by_cases h1 : x < y
  · have e : cmpI x y = -1 := by simp [cmpI, h1]
    rw [e]
    go_enter Tryz.func74, Tryz.ntmps74
    go_wp2_with fail
    refine (nan_I x _).mono ?_
    rintro e w' ⟨rfl, rfl⟩
    go_wp2_with fail
    refine (nan_I y _).mono ?_
    rintro e w' ⟨rfl, rfl⟩
    go_wp2_with fail
    go_ret
    exact ⟨rfl, rfl⟩
  by_cases h2 : y < x
  · have e : cmpI x y = 1 := by simp [cmpI, h1, h2]
    rw [e]
    go_enter Tryz.func74, Tryz.ntmps74
    go_wp2_with fail
    refine (nan_I x _).mono ?_
    rintro e w' ⟨rfl, rfl⟩
    go_wp2_with fail
    refine (nan_I y _).mono ?_
    rintro e w' ⟨rfl, rfl⟩
    go_wp2_with fail
    go_ret
    exact ⟨rfl, rfl⟩
  · have e : cmpI x y = 0 := by simp [cmpI, h1, h2]
    rw [e]
    go_enter Tryz.func74, Tryz.ntmps74
    go_wp2_with fail
    refine (nan_I x _).mono ?_
    rintro e w' ⟨rfl, rfl⟩
    go_wp2_with fail
    refine (nan_I y _).mono ?_
    rintro e w' ⟨rfl, rfl⟩
    go_wp2_with fail
    go_ret
    exact ⟨rfl, rfl⟩
theorem cells_two {w : World} {B : Nat} {x y : Value} {T : TypeId} (h : w.heap[B]? = some (.cells #[x, y] T (0, 0))) : w.cell? ⟨B, 0, none⟩ = some x ∧ w.cell? ⟨B, 1, none⟩ = some y := by
  simp [World.cell?, h]
/-- cmp.Or of two. -/
theorem or_two (b : Nat) (x y : Int) (w : World) (h : w.heap[b]? = some (.cells #[.int .i64 x, .int .i64 y] 3 (0, 0))) :
    Calls Tryz.prog 72 #[.slice (some ⟨b, 0, none⟩) 2 2] w fun e w' => e = .returned (.int .i64 (if x = 0 then y else x)) ∧ w = w' := by
  obtain ⟨c0, c1⟩ := cells_two h
  clear h
  by_cases hx : x = 0
  · subst hx
    rw [if_pos rfl]
    by_cases hy : y = 0
    · subst hy
      go_enter Tryz.func72, Tryz.ntmps72
      go_wp2_with fail
      refine wp_loop_rounds 3 ?_
      rw [rounds_succ]
      go_wp2_with fail
      rw [rounds_succ]
      go_wp2_with fail
      rw [rounds_succ]
      go_wp2_with fail
      go_ret
      exact ⟨rfl, rfl⟩
    · have hb : (y == 0) = false := by simpa using hy
      have hb2 : (y != 0) = true := by simpa using hy
      go_enter Tryz.func72, Tryz.ntmps72
      go_wp2_with fail
      refine wp_loop_rounds 3 ?_
      rw [rounds_succ]
      go_wp2_with fail
      rw [rounds_succ]
      go_wp2_with fail
      go_ret
      exact ⟨rfl, rfl⟩
  · rw [if_neg hx]
    have hb : (x == 0) = false := by simpa using hx
    have hb2 : (x != 0) = true := by simpa using hx
    go_enter Tryz.func72, Tryz.ntmps72
    go_wp2_with fail
    refine wp_loop_rounds 3 ?_
    rw [rounds_succ]
    go_wp2_with fail
    go_ret
    exact ⟨rfl, rfl⟩

end Go.Proofs.YtobkanlnnniabaaGreat

/-
  A heap in memory (items of type 82), and the contract of 'set'.
-/
namespace Go.Proofs.YtobkanlnnniabaaGreat.G
open Go.RowKit
set_option linter.unusedVariables false
set_option linter.unusedSimpArgs false

theorem infoE : (Tryz.prog.info? 82).map (·.size) = some 3 := by kernel_rfl
structure Hp (w : World) (h m : Nat) (v : Value) (its : List Itm) (kv : List (Int × Value)) (last : Int) : Prop where
  hdr : w.heap[h]? = some (.cells #[v, .map (some m), .int .i64 last] 80 (0, 0))
  row : w.ownsRow 0 82 3 v its.length (its.map encI).flatten
  mp : Mp encK okK w m kv
  one : ∀ it ∈ its, it.x.oneCell' = true
  oks : ∀ it ∈ its, okK it.id
  hm : h ≠ m
  hv : v.ownBlock ≠ some h ∧ v.ownBlock ≠ some m
  few : its.length ≤ 1000
def Hp.foot (h m : Nat) (v : Value) : List Nat := h :: m :: v.ownBlock.toList
section
variable {w : World} {h m : Nat} {v : Value} {its : List Itm} {kv : List (Int × Value)} {last : Int}
theorem Hp.touch {S : List Nat} {w' : World} (k : Hp w h m v its kv last) (t : Touch S w w') (hS : ∀ y ∈ Hp.foot h m v, y ∉ S) : Hp w' h m v its kv last :=
  ⟨t.at k.hdr (hS _ (by simp [Hp.foot])), t.owns k.row (fun g hg => hS g (by simp [Hp.foot, hg])), k.mp.touch t (hS _ (by simp [Hp.foot])), k.one, k.oks, k.hm, k.hv, k.few⟩
theorem Hp.lt (k : Hp w h m v its kv last) : ∀ y ∈ Hp.foot h m v, y < w.heap.size := by
  intro y hy
  simp only [Hp.foot, List.mem_cons, Option.mem_toList] at hy
  rcases hy with rfl | rfl | hy
  · exact (Array.getElem?_eq_some_iff.1 k.hdr).1
  · exact k.mp.lt
  · exact (k.row.lt y hy).2
theorem Hp.cells (k : Hp w h m v its kv last) : w.cell? ⟨h, 0, none⟩ = some v ∧ w.cell? ⟨h, 1, none⟩ = some (.map (some m)) ∧ w.cell? ⟨h, 2, none⟩ = some (.int .i64 last) := by
  simp [World.cell?, k.hdr]
theorem Hp.form (k : Hp w h m v its kv last) : ∃ a c, v = .slice a its.length c ∧ its.length ≤ c ∧ c ≤ 9223372036854775807 ∧ (0 < its.length → ∃ g, a = some ⟨g, 0, none⟩ ∧ g ≠ h ∧ g ≠ m) := by
  obtain ⟨a, c, rfl, h1, h2, h3⟩ := owns_form k.row
  refine ⟨a, c, rfl, h1, by unfold maxLen at h2; omega, fun h0 => ?_⟩
  obtain ⟨g, rfl⟩ := h3 h0
  exact ⟨g, rfl, fun e => k.hv.1 (by rw [e]; rfl), fun e => k.hv.2 (by rw [e]; rfl)⟩
theorem Hp.elem {g n c : Nat} (k : Hp w h m (.slice (some ⟨g, 0, none⟩) n c) its kv last) {i : Nat} {it : Itm} (hi : its[i]? = some it) :
    w.cell? ⟨g, i * 3, none⟩ = some (.int .i64 it.id) ∧ w.cell? ⟨g, i * 3 + 1, none⟩ = some (.int .u64 it.due) ∧ w.cell? ⟨g, i * 3 + 2, none⟩ = some it.x := by
  have hn : n = its.length := by
    obtain ⟨a', c', hv, _⟩ := owns_form k.row
    simp at hv
    exact hv.2.1
  subst hn
  have h1 : (its.map encI)[i]? = some (encI it) := by simp [hi]
  have := fun j u hu => owns_cell k.row (i * 3 + j) u (flat_get (encI_len its) h1 (j := j) (u := u) hu)
  exact ⟨this 0 _ rfl, this 1 _ rfl, this 2 _ rfl⟩
end
end Go.Proofs.YtobkanlnnniabaaGreat.G

/-
  The contract of the heap's 'set'.
-/
namespace Go.Proofs.YtobkanlnnniabaaGreat.G
open Go.RowKit
set_option linter.unusedVariables false
set_option linter.unusedSimpArgs false

theorem flatI_set (its : List Itm) (i : Nat) (it : Itm) (h : i < its.length) : ((its.set i it).map encI).flatten = (its.map encI).flatten.take (i * 3) ++ encI it ++ (its.map encI).flatten.drop (i * 3 + 3) := by
  induction its generalizing i with
  | nil => simp at h
  | cons a r ih =>
    cases i with
    | zero => simp [encI]
    | succ i =>
      have := ih i (by simpa using h)
      simp only [List.set_cons_succ, List.map_cons, List.flatten_cons, this]
      have e : (i + 1) * 3 = i * 3 + 3 := by omega
      rw [e]
      simp only [encI, List.cons_append, List.nil_append]
      rfl
theorem Hp.set {w w2 w3 : World} {h m g n c : Nat} {its : List Itm} {kv : List (Int × Value)} {last : Int} (k : Hp w h m (.slice (some ⟨g, 0, none⟩) n c) its kv last) {i : Nat} {it : Itm} (hi : i < its.length) (h1 : it.x.oneCell' = true) (h2 : okK it.id) (t1 : Touch [g] w w2)
    (row : w2.ownsRow 0 82 3 (.slice (some ⟨g, 0, none⟩) n c) n ((its.map encI).flatten.take (i * 3) ++ encI it ++ (its.map encI).flatten.drop (i * 3 + 3)))
    (hmp : Mp encK okK w3 m (put kv it.id (.int .i64 i))) (t3 : Touch [m] w2 w3) :
    Hp w3 h m (.slice (some ⟨g, 0, none⟩) n c) (its.set i it) (put kv it.id (.int .i64 i)) last ∧ Touch [m, g] w w3 := by
  have hg1 : g ≠ h := fun e => k.hv.1 (by rw [e]; rfl)
  have hg2 : g ≠ m := fun e => k.hv.2 (by rw [e]; rfl)
  have hn : n = its.length := by
    obtain ⟨a', c', hv, _⟩ := owns_form k.row
    simp at hv
    exact hv.2.1
  subst hn
  rw [← flatI_set its i it hi] at row
  have T : Touch [m, g] w w3 := (t1.mono (S' := [m, g]) (by simp)).trans t3 (by simp)
  refine ⟨⟨?_, ?_, hmp, ?_, ?_, k.hm, k.hv, by rw [List.length_set]; exact k.few⟩, T⟩
  · exact T.at k.hdr (by simp; exact ⟨k.hm, Ne.symm hg1⟩)
  · rw [List.length_set]
    exact t3.owns row (by intro g2 hg2'; simp [Value.ownBlock] at hg2'; subst hg2'; simpa using hg2)
  · intro y hy
    rcases List.mem_or_eq_of_mem_set hy with hy | rfl
    · exact k.one y hy
    · exact h1
  · intro y hy
    rcases List.mem_or_eq_of_mem_set hy with hy | rfl
    · exact k.oks y hy
    · exact h2
theorem end0 {P : Program} {fn : Func} {R : Ending → World → Prop} {a : Act} {w : World} (hr : fn.results = #[]) (hd : a.defers = []) (hR : R (.returned (.tuple #[])) w) : bodyPost P fn R .normal a w :=
  bodyPost_end (v := .tuple #[]) (by simp [results, hr]) hd hR
theorem cells_three {w : World} {B : Nat} {x y z : Value} {T : TypeId} (h : w.heap[B]? = some (.cells #[x, y, z] T (0, 0))) : w.cell? ⟨B, 0, none⟩ = some x ∧ w.cell? ⟨B, 1, none⟩ = some y ∧ w.cell? ⟨B, 2, none⟩ = some z := by
  simp [World.cell?, h]
set_option maxRecDepth 100000 in
set_option maxHeartbeats 2000000 in
theorem set_any (h m : Nat) (v : Value) (its : List Itm) (kv : List (Int × Value)) (last : Int) (i : Nat) (id due : Int) (x : Value) (w : World) (k : Hp w h m v its kv last) (hi : i < its.length) (h1 : x.oneCell' = true) (h2 : okK id) :
    Calls Tryz.prog 49 #[.pointer (some ⟨h, 0, none⟩), .int .i64 i, .agg #[.int .i64 id, .int .u64 due, x]] w fun e w' => e = .returned (.tuple #[]) ∧ Hp w' h m v (its.set i ⟨id, due, x⟩) (put kv id (.int .i64 i)) last ∧ Touch (m :: v.ownBlock.toList) w w' := by
  obtain ⟨av, cv, rfl, hv1, hv2, hv3⟩ := k.form
  obtain ⟨g, rfl, hgh, hgm⟩ := hv3 (by omega)
  obtain ⟨c0, c1, c2⟩ := k.cells
  have tB := (Touch.refl [] w).alloc (.cells #[.int .i64 id, .int .u64 due, x] 82)
  obtain ⟨b0, b1, b2⟩ := cells_three (heap_alloc_new w (.cells #[.int .i64 id, .int .u64 due, x] 82))
  have kB := k.touch tB (by simp)
  obtain ⟨c0, c1, c2⟩ := kB.cells
  have hli := List.getElem?_eq_getElem hi
  obtain ⟨e0, e1, e2⟩ := kB.elem hli
  have HK := Lib.hid kB
  have HK0 := k
  clear hli kB k
  go_enter Tryz.func49, Tryz.ntmps49
  go_wp2_with fail
  have zB : (w.alloc (.cells #[.int .i64 id, .int .u64 due, x] 82)).heap.size = w.heap.size + 1 := by simp
  generalize w.alloc (.cells #[.int .i64 id, .int .u64 due, x] 82) = W at *
  have HBg : w.heap.size ≠ g := fun e => by have := (HK0.row.lt g rfl).2; omega
  clear HK0
  generalize w.heap.size = B at *
  refine wp_region_still_tail 7 (by kernel_rfl) (by kernel_rfl) ?_
  simp only [List.take_succ_cons, List.take_zero, List.drop_succ_cons, List.drop_zero]
  iterate 7 still_step
  refine wpStill_nil ?_
  change wpList _ _ _ _ _ W.drew
  have tD := (Touch.refl [] W).drew
  have HD := Lib.hid (HK.out.touch tD (by simp))
  clear c0 e0 e1 e2 b1 b2 c2
  have hlen : (its.map encI).flatten.length = its.length * 3 := by rw [flat_len (encI_len its), List.length_map]
  refine wpList_store_own rfl 82 _ _ rfl g (i * 3) its.length cv 82 3 _ [.int .i64 id, .int .u64 due, x] HD.out.row (by rfl) (by rfl) (by rw [hlen]; simp; omega) infoE (by intro u hu; simp at hu; rcases hu with rfl | rfl | rfl; rfl; rfl; exact h1) ?_
  intro w2 row2 t2 z2
  have T2 : Touch [g] W w2 := (tD.mono (by simp)).trans t2 (by simp)
  have c1 := T2.cell c1 (by simpa using Ne.symm hgh)
  have b0 := T2.cell b0 (by simpa using HBg)
  have M2 := (HK.out.mp.touch T2 (by simpa using Ne.symm hgm)).touch ((Touch.refl [] w2).drew) (by simp)
  obtain ⟨w3, hst, M3, t3, z3⟩ := M2.store key3 Tryz.underlying77 h2 (.int .i64 i)
  have TD2 : Touch [m] w2 w3 := ((Touch.refl [m] w2).drew).trans t3 (by simp)
  have FIN := Lib.hid (Hp.set HK.out hi (it := ⟨id, due, x⟩) h1 h2 T2 row2 M3 TD2)
  clear row2 t2 T2 M2 M3
  simp only [encK] at hst
  have TF := (tB.mono (S' := [m, g]) (by simp)).trans (FIN.out).2 (by simp)
  go_wp2_with fail
  refine wp_region_still_tail 7 (by kernel_rfl) (by kernel_rfl) ?_
  simp only [List.take_succ_cons, List.take_zero, List.drop_succ_cons, List.drop_zero]
  iterate 7 still_step
  refine wpStill_nil ?_
  change wpList _ _ _ _ _ w2.drew
  go_wp2_with fail
  exact end0 rfl rfl ⟨rfl, FIN.out.1, TF⟩
end Go.Proofs.YtobkanlnnniabaaGreat.G

/-
  The comparison of heap items.
-/
namespace Go.Proofs.YtobkanlnnniabaaGreat.G
open Go.RowKit Go.Sort Go.Shelf Go.Lib
set_option linter.unusedVariables false
set_option linter.unusedSimpArgs false

set_option maxRecDepth 100000 in
set_option maxHeartbeats 1000000 in
theorem cmp_any (x y : Itm) (w : World) : Calls Tryz.prog 62 #[.agg #[.int .i64 x.id, .int .u64 x.due, x.x], .agg #[.int .i64 y.id, .int .u64 y.due, y.x]] w fun e w' => e = .returned (.int .i64 (cmpT x.key y.key)) ∧ ∃ q os', w' = grow (w.drewN q) os' := by
  have gA := ((Touch.refl [] (w.alloc (.cells #[.int .i64 x.id, .int .u64 x.due, x.x] 82))).alloc (.cells #[.int .i64 y.id, .int .u64 y.due, y.x] 82)).at (heap_alloc_new w (.cells #[.int .i64 x.id, .int .u64 x.due, x.x] 82)) (by simp)
  have gB := heap_alloc_new (w.alloc (.cells #[.int .i64 x.id, .int .u64 x.due, x.x] 82)) (.cells #[.int .i64 y.id, .int .u64 y.due, y.x] 82)
  rw [World.size_alloc] at gB
  have hfin : ∃ q os', ((w.alloc (.cells #[.int .i64 x.id, .int .u64 x.due, x.x] 82)).alloc (.cells #[.int .i64 y.id, .int .u64 y.due, y.x] 82)).drew.alloc (.cells #[.int .i64 (cmpI x.due y.due), .int .i64 (cmpI x.id y.id)] 3) = grow (w.drewN q) os' :=
    ⟨1, _, by simp only [alloc_eq_grow, drew_grow, grow_grow]; rfl⟩
  go_enter Tryz.func62, Tryz.ntmps62
  go_wp2_with fail
  have gA' := ((Touch.refl [] ((w.alloc (.cells #[.int .i64 x.id, .int .u64 x.due, x.x] 82)).alloc (.cells #[.int .i64 y.id, .int .u64 y.due, y.x] 82))).drew).at gA (by simp)
  have gB' := ((Touch.refl [] ((w.alloc (.cells #[.int .i64 x.id, .int .u64 x.due, x.x] 82)).alloc (.cells #[.int .i64 y.id, .int .u64 y.due, y.x] 82))).drew).at gB (by simp)
  obtain ⟨a0, a1, a2⟩ := cells_three gA'
  obtain ⟨b0, b1, b2⟩ := cells_three gB'
  clear gA gB gA' gB'
  obtain ⟨W, hW⟩ : ∃ W, W = (((w.alloc (.cells #[.int .i64 x.id, .int .u64 x.due, x.x] 82)).alloc (.cells #[.int .i64 y.id, .int .u64 y.due, y.x] 82)).drew) := ⟨_, rfl⟩
  rw [← hW] at a0 a1 b0 b1 hfin
  have HW := Lib.hid hW
  clear hW
  apply once
  · intro REST
    refine wp_region_held (S := Touch [] W) (by kernel_rfl) ?_
    change wpAnyH _ _ _ _ _ _ _ _ (((w.alloc (.cells #[.int .i64 x.id, .int .u64 x.due, x.x] 82)).alloc (.cells #[.int .i64 y.id, .int .u64 y.due, y.x] 82)).drew)
    rw [← HW.out]
    have hS := Touch.refl [] W
    refine wpAnyH_take (i := 0) (oi := { dst := some 5, op := Op.fieldAddr 82 (Operand.tmp 2) 1, type := 0, pos := "heap.go:18", after := #[], guard := none }) (v := .pointer (some ⟨w.heap.size, 1, none⟩)) rfl (by kernel_rfl) (by kernel_rfl) (by kernel_rfl) (fun _ _ _ h => h) (Or.inl ⟨by rfl, fun w' hw => by go_simp⟩) hS ?_
    try simp only [Act.put, List.setIfInBounds_toArray, List.set_cons_zero, List.set_cons_succ]
    refine wpAnyH_take (i := 1) (oi := { dst := some 6, op := Op.load 31 (Operand.tmp 5), type := 31, pos := "heap.go:18", after := #[{ on := 0, ground := Ground.data }], guard := none }) (v := .int .u64 x.due) rfl (by kernel_rfl) (by kernel_rfl) (by kernel_rfl) (fun _ _ _ h => h) (Or.inl ⟨by rfl, fun w' hw => by (have q := hw.cell a1 (by simp); go_simp)⟩) hS ?_
    try simp only [Act.put, List.setIfInBounds_toArray, List.set_cons_zero, List.set_cons_succ]
    refine wpAnyH_take (i := 2) (oi := { dst := some 7, op := Op.fieldAddr 82 (Operand.tmp 3) 1, type := 0, pos := "heap.go:18", after := #[], guard := none }) (v := .pointer (some ⟨w.heap.size + 1, 1, none⟩)) rfl (by kernel_rfl) (by kernel_rfl) (by kernel_rfl) (fun _ _ _ h => h) (Or.inl ⟨by rfl, fun w' hw => by go_simp⟩) hS ?_
    try simp only [Act.put, List.setIfInBounds_toArray, List.set_cons_zero, List.set_cons_succ]
    refine wpAnyH_take (i := 3) (oi := { dst := some 8, op := Op.load 31 (Operand.tmp 7), type := 31, pos := "heap.go:18", after := #[{ on := 2, ground := Ground.data }], guard := none }) (v := .int .u64 y.due) rfl (by kernel_rfl) (by kernel_rfl) (by kernel_rfl) (fun _ _ _ h => h) (Or.inl ⟨by rfl, fun w' hw => by (have q := hw.cell b1 (by simp); go_simp)⟩) hS ?_
    try simp only [Act.put, List.setIfInBounds_toArray, List.set_cons_zero, List.set_cons_succ]
    refine wpAnyH_take (i := 5) (oi := { dst := some 10, op := Op.fieldAddr 82 (Operand.tmp 2) 0, type := 0, pos := "heap.go:18", after := #[], guard := none }) (v := .pointer (some ⟨w.heap.size, 0, none⟩)) rfl (by kernel_rfl) (by kernel_rfl) (by kernel_rfl) (fun _ _ _ h => h) (Or.inl ⟨by rfl, fun w' hw => by go_simp⟩) hS ?_
    try simp only [Act.put, List.setIfInBounds_toArray, List.set_cons_zero, List.set_cons_succ]
    refine wpAnyH_take (i := 6) (oi := { dst := some 11, op := Op.load 3 (Operand.tmp 10), type := 3, pos := "heap.go:18", after := #[{ on := 5, ground := Ground.data }], guard := none }) (v := .int .i64 x.id) rfl (by kernel_rfl) (by kernel_rfl) (by kernel_rfl) (fun _ _ _ h => h) (Or.inl ⟨by rfl, fun w' hw => by (have q := hw.cell a0 (by simp); go_simp)⟩) hS ?_
    try simp only [Act.put, List.setIfInBounds_toArray, List.set_cons_zero, List.set_cons_succ]
    refine wpAnyH_take (i := 7) (oi := { dst := some 12, op := Op.fieldAddr 82 (Operand.tmp 3) 0, type := 0, pos := "heap.go:18", after := #[], guard := none }) (v := .pointer (some ⟨w.heap.size + 1, 0, none⟩)) rfl (by kernel_rfl) (by kernel_rfl) (by kernel_rfl) (fun _ _ _ h => h) (Or.inl ⟨by rfl, fun w' hw => by go_simp⟩) hS ?_
    try simp only [Act.put, List.setIfInBounds_toArray, List.set_cons_zero, List.set_cons_succ]
    refine wpAnyH_take (i := 8) (oi := { dst := some 13, op := Op.load 3 (Operand.tmp 12), type := 3, pos := "heap.go:18", after := #[{ on := 7, ground := Ground.data }], guard := none }) (v := .int .i64 y.id) rfl (by kernel_rfl) (by kernel_rfl) (by kernel_rfl) (fun _ _ _ h => h) (Or.inl ⟨by rfl, fun w' hw => by (have q := hw.cell b0 (by simp); go_simp)⟩) hS ?_
    try simp only [Act.put, List.setIfInBounds_toArray, List.set_cons_zero, List.set_cons_succ]
    refine wpAnyH_ready (rs := [4]) (by kernel_rfl) (by simp) ?_
    refine AllReadyH.cons (o := { dst := some 9, op := Op.call { callee := Callee.value (Operand.func 73), args := #[Operand.tmp 6, Operand.tmp 8], argTypes := #[31, 31] }, type := 3, pos := "heap.go:18", after := #[{ on := 1, ground := Ground.data }, { on := 3, ground := Ground.data }], guard := none }) rfl (fun K hK => ?_) AllReadyH.nil
    go_simp
    refine (compare_U _ _ _).mono ?_
    rintro e w' ⟨rfl, rfl⟩
    refine hK.out _ _ hS (fun _ => ?_)
    clear hK K
    try simp only [Act.put, List.setIfInBounds_toArray, List.set_cons_zero, List.set_cons_succ]
    refine wpAnyH_ready (rs := [9]) (by kernel_rfl) (by simp) ?_
    refine AllReadyH.cons (o := { dst := some 14, op := Op.call { callee := Callee.value (Operand.func 74), args := #[Operand.tmp 11, Operand.tmp 13], argTypes := #[3, 3] }, type := 3, pos := "heap.go:18", after := #[{ on := 6, ground := Ground.data }, { on := 8, ground := Ground.data }, { on := 4, ground := Ground.chain }], guard := none }) rfl (fun K hK => ?_) AllReadyH.nil
    go_simp
    refine (compare_I _ _ _).mono ?_
    rintro e w' ⟨rfl, rfl⟩
    refine hK.out _ _ hS (fun _ => ?_)
    clear hK K
    try simp only [Act.put, List.setIfInBounds_toArray, List.set_cons_zero, List.set_cons_succ]
    refine wpAnyH_ready (rs := [10]) (by kernel_rfl) (by simp) ?_
    refine AllReadyH.cons (o := { dst := some 15, op := Op.buildSlice 53 2 #[(0, Operand.tmp 9), (1, Operand.tmp 14)], type := 53, pos := "heap.go:18", after := #[{ on := 4, ground := Ground.data }, { on := 9, ground := Ground.data }], guard := none }) rfl (fun K hK => ?_) AllReadyH.nil
    go_simp
    have hS2 := hS.alloc (.cells #[.int .i64 (cmpI x.due y.due), .int .i64 (cmpI x.id y.id)] 3)
    have gC := heap_alloc_new W (.cells #[.int .i64 (cmpI x.due y.due), .int .i64 (cmpI x.id y.id)] 3)
    refine hK.out _ (W.alloc (.cells #[.int .i64 (cmpI x.due y.due), .int .i64 (cmpI x.id y.id)] 3)) hS2 (fun _ => ?_)
    clear hK K hS
    have hS := hS2
    clear hS2
    try simp only [Act.put, List.setIfInBounds_toArray, List.set_cons_zero, List.set_cons_succ]
    refine wpAnyH_ready (rs := [11]) (by kernel_rfl) (by simp) ?_
    refine AllReadyH.cons (o := { dst := some 16, op := Op.call { callee := Callee.value (Operand.func 72), args := #[Operand.tmp 15], argTypes := #[53] }, type := 3, pos := "heap.go:18", after := #[{ on := 10, ground := Ground.data }, { on := 9, ground := Ground.chain }], guard := none }) rfl (fun K hK => ?_) AllReadyH.nil
    go_simp
    refine (or_two W.heap.size _ _ _ gC).mono ?_
    rintro e w' ⟨rfl, rfl⟩
    rw [show (if cmpI x.due y.due = 0 then cmpI x.id y.id else cmpI x.due y.due) = cmpT x.key y.key from rfl]
    refine hK.out _ (W.alloc (.cells #[.int .i64 (cmpI x.due y.due), .int .i64 (cmpI x.id y.id)] 3)) hS (fun _ => ?_)
    clear hK K
    try simp only [Act.put, List.setIfInBounds_toArray, List.set_cons_zero, List.set_cons_succ]
    refine wpAnyH_take (i := 12) (oi := { dst := some 4, op := Op.assign (Operand.tmp 16), type := 3, pos := "heap.go:18", after := #[{ on := 11, ground := Ground.data }, { on := 11, ground := Ground.chain }, { on := 0, ground := Ground.phase }, { on := 1, ground := Ground.phase }, { on := 2, ground := Ground.phase }, { on := 3, ground := Ground.phase }, { on := 4, ground := Ground.phase }, { on := 5, ground := Ground.phase }, { on := 6, ground := Ground.phase }, { on := 7, ground := Ground.phase }, { on := 8, ground := Ground.phase }, { on := 9, ground := Ground.phase }, { on := 10, ground := Ground.phase }, { on := 11, ground := Ground.phase }], guard := none }) (v := .int .i64 (cmpT x.key y.key)) rfl (by kernel_rfl) (by kernel_rfl) (by kernel_rfl) (fun _ _ _ h => h) (Or.inl ⟨by rfl, fun w' hw => by go_simp⟩) hS ?_
    try simp only [Act.put, List.setIfInBounds_toArray, List.set_cons_zero, List.set_cons_succ]
    refine wpAnyH_done (by kernel_rfl) ?_ _
    exact REST.out
  · go_wp2_with fail
    go_ret
    exact ⟨rfl, hfin⟩
theorem cmp_quiet (x y : Itm) (w : World) : Calls Tryz.prog 62 #[.agg #[.int .i64 x.id, .int .u64 x.due, x.x], .agg #[.int .i64 y.id, .int .u64 y.due, y.x]] w fun e w' => e = .returned (.int .i64 (cmpT x.key y.key)) ∧ Touch [] w w' :=
  (cmp_any x y w).mono fun e w' ⟨h1, q, os', h2⟩ => ⟨h1, by
    subst h2
    exact ⟨rfl, rfl, rfl, by simp [grow], fun i hi hn => by rw [heap_grow_old _ _ (by simpa using hi)]; rfl⟩⟩
end Go.Proofs.YtobkanlnnniabaaGreat.G

/-
  The contract of siftUp.
-/
namespace Go.Proofs.YtobkanlnnniabaaGreat.G
open Go.RowKit
set_option linter.unusedVariables false
set_option linter.unusedSimpArgs false

set_option maxRecDepth 100000 in
set_option maxHeartbeats 4000000 in
theorem up_any (h m : Nat) (v : Value) (its : List Itm) (kv : List (Int × Value)) (last : Int) (i : Nat) (x : Itm) (w : World) (k : Hp w h m v its kv last) (hx : its[i]? = some x) (hn : (its.map Itm.id).Nodup) (hix : IxB kv its i) (hu : Up Itm.key its i) :
    Calls Tryz.prog 46 #[.pointer (some ⟨h, 0, none⟩), .int .i64 i] w fun e w' => ∃ (j : Nat) (its' : List Itm) (kv' : List (Int × Value)), e = .returned (.int .i64 j) ∧ j < its.length ∧ Hp w' h m v its' kv' last ∧ its'.Perm its ∧ Down Itm.key its' j ∧ (Kids Itm.key its i → Heap Itm.key its') ∧
      (∀ (j : Nat) y, its'[j]? = some y → look kv' y.id = some (.int .i64 j)) ∧ (∀ id, (∀ y ∈ its, y.id ≠ id) → look kv' id = look kv id) ∧ Touch (m :: v.ownBlock.toList) w w' := by
  have hil := (List.getElem?_eq_some_iff.1 hx).1
  obtain ⟨av, cv, rfl, hv1, hv2, hv3⟩ := k.form
  obtain ⟨g, rfl, hgh, hgm⟩ := hv3 (by omega)
  obtain ⟨c0, c1, c2⟩ := k.cells
  obtain ⟨e0, e1, e2⟩ := k.elem hx
  have tB := (Touch.refl [] w).alloc (.cells #[.int .i64 x.id, .int .u64 x.due, x.x] 82)
  have gB := heap_alloc_new w (.cells #[.int .i64 x.id, .int .u64 x.due, x.x] 82)
  have kB := Lib.hid (k.touch tB (by simp))
  have hfew := k.few
  have hlt := k.lt
  have hgl : g < w.heap.size := hlt g (by simp [Hp.foot, Value.ownBlock])
  have hml : m < w.heap.size := hlt m (by simp [Hp.foot])
  have HST := Lib.hid (Hole.start hx hix)
  have HU := Lib.hid hu
  have h1x := k.one x (List.mem_of_getElem? hx)
  have okx := k.oks x (List.mem_of_getElem? hx)
  have HN := Lib.hid hn
  clear hu hix hlt k hn hx
  go_enter Tryz.func46, Tryz.ntmps46
  go_wp2_with (refine wpList_store_new rfl 82 _ _ rfl _ _ [.int .i64 x.id, .int .u64 x.due, x.x] (by rfl) (by rfl) rfl infoE (by intro u hu; simp at hu; rcases hu with rfl | rfl | rfl; rfl; rfl; exact h1x) ?_)
  have zB : (w.alloc (.cells #[.int .i64 x.id, .int .u64 x.due, x.x] 82)).heap.size = w.heap.size + 1 := by simp
  generalize w.alloc (.cells #[.int .i64 x.id, .int .u64 x.due, x.x] 82) = W at *
  generalize hB : w.heap.size = B at *
  have hBg : B ≠ g := by omega
  have hBm : B ≠ m := by omega
  clear c0 c1 c2 e0 e1 e2
  simp only [Act.put]
  go_loopw [1] (fun vi wr => ∃ (q : Nat) (A C : List Itm) (kv' : List (Int × Value)), vi = .int .i64 q ∧ Hp wr h m (.slice (some ⟨g, 0, none⟩) its.length cv) A kv' last ∧ Hole its A C kv kv' q x ∧ Up Itm.key C q ∧ (Kids Itm.key its i → Kids Itm.key C q) ∧ Touch [m, g] W wr) (fun vi _ => (intOf vi).toNat)
  case atStart => exact ⟨i, its, its, kv, rfl, kB.out, HST.out, HU.out, fun h => h, Touch.refl _ _⟩
  case round =>
    obtain ⟨q, A, C, kv', rfl, hp, hh, hup, hkd, ht⟩ := hrel
    have HP := Lib.hid hp
    have HH := Lib.hid hh
    have HUP := Lib.hid hup
    have HKD := Lib.hid hkd
    have hAl := hh.len
    have hql := hh.il
    obtain ⟨b0, b1, b2⟩ := cells_three (ht.at gB (by simp; exact ⟨hBm, hBg⟩))
    clear hp hh hup hkd
    by_cases hq : 0 < q
    · have hpq : par q < q := by unfold par; omega
      have hpl : par q < A.length := by omega
      have hpi : par q < its.length := by omega
      have hy := List.getElem?_eq_getElem hpl
      generalize A[par q] = y at hy
      obtain ⟨y0, y1, y2⟩ := HP.out.elem hy
      obtain ⟨c0, c1, c2⟩ := HP.out.cells
      have hpar : ((q : Int) - 1).tdiv 2 = ((par q : Nat) : Int) := by unfold par; rw [Int.tdiv_eq_ediv_of_nonneg (by omega)]; omega
      have HY := Lib.hid hy
      clear hy
      go_wp2_with fail
      refine wp_region_still_tail 8 (by kernel_rfl) (by kernel_rfl) ?_
      simp only [List.take_succ_cons, List.take_zero, List.drop_succ_cons, List.drop_zero]
      iterate 8 still_step
      refine wpStill_nil ?_
      change wpList _ _ _ _ _ wr.drew
      go_wp2_with fail
      refine (cmp_quiet y x _).mono ?_
      rintro e w5 ⟨rfl, t5⟩
      have t6 : Touch [] wr w5 := ((Touch.refl [] wr).drew).trans t5 (by simp)
      have HP5 := Lib.hid (HP.out.touch t6 (by simp))
      have T6 : Touch [m, g] W w5 := ht.trans t6 (by simp)
      obtain ⟨b0, b1, b2⟩ := cells_three (T6.at gB (by simp; exact ⟨hBm, hBg⟩))
      clear t5 t6 HP ht y0 y1 y2 c0 c1 c2
      by_cases hle : cmpT y.key x.key ≤ 0
      · go_wp2_with fail
        refine (set_any h m _ A kv' last q x.id x.due x.x w5 HP5.out (by omega) h1x okx).mono ?_
        rintro e w2 ⟨rfl, hp2, t2⟩
        have T2 : Touch [m, g] w w2 := ((tB.mono (S' := [m, g]) (by simp)).trans T6 (by simp)).trans t2 (by intro y hy; simp [Value.ownBlock] at hy; rcases hy with rfl | rfl <;> simp)
        have HP2 := Lib.hid hp2
        clear hp2 t2 b0 b1 b2
        have hedge : Edge Itm.key C q := by
          intro a b ha hb
          rw [HH.out.other (by omega), HY.out] at ha
          rw [HH.out.at_i] at hb
          cases ha
          cases hb
          exact (cmpT_le _ _).1 hle
        have HE := Lib.hid hedge
        clear hedge
        go_wp2_with fail
        go_ret
        exact ⟨q, C, _, rfl, by omega, by rw [HH.out.c]; exact HP2.out, HH.out.perm, HUP.out.stop (.inr HE.out), fun hs => (HUP.out.stop (.inr HE.out)).stop (HKD.out hs), (HH.out.fin HN.out).1, (HH.out.fin HN.out).2, T2⟩
      · obtain ⟨c0, c1, c2⟩ := HP5.out.cells
        obtain ⟨y0, y1, y2⟩ := HP5.out.elem HY.out
        have hym := List.mem_of_getElem? HY.out
        have hltk : lt x.key y.key := by
          rcases le_total y.key x.key with h1 | h1
          · exact absurd ((cmpT_le _ _).2 h1) hle
          · exact h1
        have HL := Lib.hid hltk
        clear hltk
        go_wp2_with fail
        refine (set_any h m _ A kv' last q y.id y.due y.x w5 HP5.out (by omega) (HP5.out.one y hym) (HP5.out.oks y hym)).mono ?_
        rintro e w2 ⟨rfl, hp2, t2⟩
        have T2 : Touch [m, g] W w2 := T6.trans t2 (by intro y hy; simp [Value.ownBlock] at hy; rcases hy with rfl | rfl <;> simp)
        have HP2 := Lib.hid hp2
        have HM := Lib.hid (HH.out.move HN.out (p := par q) (by omega) HY.out)
        have HS := Lib.hid (HUP.out.step (by omega) HH.out.at_i (by rw [HH.out.other (by omega)]; exact HY.out) HL.out)
        have HK2 := Lib.hid (HUP.out.kids (by omega) HH.out.at_i (by rw [HH.out.other (by omega)]; exact HY.out) HL.out)
        clear hp2 t2 b0 b1 b2 c0 c1 c2 y0 y1 y2
        go_wp2_with fail
        go_roundw
        case rel => exact ⟨par q, _, _, _, rfl, HP2.out, HM.out, HS.out, fun _ => HK2.out, T2⟩
        case measure => simp [intOf]; omega
    · go_wp2_with fail
      refine (set_any h m _ A kv' last q x.id x.due x.x wr HP.out (by omega) h1x okx).mono ?_
      rintro e w2 ⟨rfl, hp2, t2⟩
      have T2 : Touch [m, g] w w2 := ((tB.mono (S' := [m, g]) (by simp)).trans ht (by simp)).trans t2 (by intro y hy; simp [Value.ownBlock] at hy; rcases hy with rfl | rfl <;> simp)
      have HP2 := Lib.hid hp2
      clear hp2 t2 b0 b1 b2
      go_wp2_with fail
      go_ret
      exact ⟨q, C, _, rfl, by omega, by rw [HH.out.c]; exact HP2.out, HH.out.perm, HUP.out.stop (.inl (by omega)), fun hs => (HUP.out.stop (.inl (by omega))).stop (HKD.out hs), (HH.out.fin HN.out).1, (HH.out.fin HN.out).2, T2⟩
end Go.Proofs.YtobkanlnnniabaaGreat.G

/-
  The contract of siftDown.
-/
namespace Go.Proofs.YtobkanlnnniabaaGreat.G
open Go.RowKit
set_option linter.unusedVariables false
set_option linter.unusedSimpArgs false

set_option maxRecDepth 100000 in
set_option maxHeartbeats 4000000 in
theorem down_any (h m : Nat) (v : Value) (its : List Itm) (kv : List (Int × Value)) (last : Int) (i : Nat) (x : Itm) (w : World) (k : Hp w h m v its kv last) (hx : its[i]? = some x) (hn : (its.map Itm.id).Nodup) (hix : IxB kv its i) (hu : Down Itm.key its i) :
    Calls Tryz.prog 63 #[.pointer (some ⟨h, 0, none⟩), .int .i64 i] w fun e w' => ∃ (its' : List Itm) (kv' : List (Int × Value)), e = .returned (.tuple #[]) ∧ Hp w' h m v its' kv' last ∧ its'.Perm its ∧ Heap Itm.key its' ∧
      (∀ (j : Nat) y, its'[j]? = some y → look kv' y.id = some (.int .i64 j)) ∧ (∀ id, (∀ y ∈ its, y.id ≠ id) → look kv' id = look kv id) ∧ Touch (m :: v.ownBlock.toList) w w' := by
  have hil := (List.getElem?_eq_some_iff.1 hx).1
  obtain ⟨av, cv, rfl, hv1, hv2, hv3⟩ := k.form
  obtain ⟨g, rfl, hgh, hgm⟩ := hv3 (by omega)
  obtain ⟨c0, c1, c2⟩ := k.cells
  obtain ⟨e0, e1, e2⟩ := k.elem hx
  have tB := (Touch.refl [] w).alloc (.cells #[.int .i64 x.id, .int .u64 x.due, x.x] 82)
  have gB := heap_alloc_new w (.cells #[.int .i64 x.id, .int .u64 x.due, x.x] 82)
  have kB := Lib.hid (k.touch tB (by simp))
  have hfew := k.few
  have hlt := k.lt
  have hgl : g < w.heap.size := hlt g (by simp [Hp.foot, Value.ownBlock])
  have hml : m < w.heap.size := hlt m (by simp [Hp.foot])
  have HST := Lib.hid (Hole.start hx hix)
  have HU := Lib.hid hu
  have h1x := k.one x (List.mem_of_getElem? hx)
  have okx := k.oks x (List.mem_of_getElem? hx)
  have HN := Lib.hid hn
  clear hu hix hlt k hn hx
  go_enter Tryz.func63, Tryz.ntmps63
  go_wp2_with (refine wpList_store_new rfl 82 _ _ rfl _ _ [.int .i64 x.id, .int .u64 x.due, x.x] (by rfl) (by rfl) rfl infoE (by intro u hu; simp at hu; rcases hu with rfl | rfl | rfl; rfl; rfl; exact h1x) ?_)
  have zB : (w.alloc (.cells #[.int .i64 x.id, .int .u64 x.due, x.x] 82)).heap.size = w.heap.size + 1 := by simp
  generalize w.alloc (.cells #[.int .i64 x.id, .int .u64 x.due, x.x] 82) = W at *
  generalize hB : w.heap.size = B at *
  have hBg : B ≠ g := by omega
  have hBm : B ≠ m := by omega
  clear c0 c1 c2 e0 e1 e2
  simp only [Act.put]
  go_loopw [1] (fun vi wr => ∃ (q : Nat) (A C : List Itm) (kv' : List (Int × Value)), vi = .int .i64 q ∧ Hp wr h m (.slice (some ⟨g, 0, none⟩) its.length cv) A kv' last ∧ Hole its A C kv kv' q x ∧ Down Itm.key C q ∧ Touch [m, g] W wr) (fun vi _ => its.length - (intOf vi).toNat)
  case atStart => exact ⟨i, its, its, kv, rfl, kB.out, HST.out, HU.out, Touch.refl _ _⟩
  case round =>
    obtain ⟨q, A, C, kv', rfl, hp, hh, hup, ht⟩ := hrel
    have HP := Lib.hid hp
    have HH := Lib.hid hh
    have HUP := Lib.hid hup
    have hAl := hh.len
    have hql := hh.il
    clear hp hh hup
    obtain ⟨c, hc⟩ : ∃ c, c = 2 * q + 1 := ⟨_, rfl⟩
    obtain ⟨d, hd⟩ : ∃ d, d = c + 1 := ⟨_, rfl⟩
    have hcI : 2 * (q : Int) + 1 = (c : Int) := by omega
    have hdI : IntKind.i64.wrap ((c : Int) + 1) = (d : Int) := by rw [IntKind.wrap_i64] <;> omega
    have hcw : IntKind.i64.wrap (2 * (q : Int) + 1) = (c : Int) := by rw [IntKind.wrap_i64] <;> omega
    have hq2 : IntKind.i64.wrap (2 * (q : Int)) = 2 * (q : Int) := by rw [IntKind.wrap_i64] <;> omega
    have HC := Lib.hid hc
    have HD := Lib.hid hd
    clear hc hd hcI
    go_wp2_with fail
    have hc := HC.out
    have hd := HD.out
    by_cases h1 : d < its.length
    · have hy := List.getElem?_eq_getElem (l := A) (i := c) (by omega)
      have hz := List.getElem?_eq_getElem (l := A) (i := d) (by omega)
      generalize A[c]'(by omega) = y at hy
      generalize A[d]'(by omega) = z at hz
      have HY := Lib.hid hy
      have HZ := Lib.hid hz
      clear hy hz
      obtain ⟨c0, c1, c2⟩ := HP.out.cells
      obtain ⟨y0, y1, y2⟩ := HP.out.elem HY.out
      obtain ⟨z0, z1, z2⟩ := HP.out.elem HZ.out
      have hd1 : decide ((d : Int) < (its.length : Int)) = true := by simpa using h1
      have hd2 : (d : Int) < (its.length : Int) := by omega
      have hd3 : (c : Int) < (its.length : Int) := by omega
      have hd4 : c < its.length := by omega
      clear hc hd
      refine wp_region_still_tail 24 (by kernel_rfl) (by kernel_rfl) ?_
      simp only [List.take_succ_cons, List.take_zero, List.drop_succ_cons, List.drop_zero]
      iterate 24 still_step
      refine wpStill_nil ?_
      change wpList _ _ _ _ _ wr.drew
      go_wp2_with fail
      refine (cmp_quiet z y _).mono ?_
      rintro e w5 ⟨rfl, t5⟩
      have t6 : Touch [] wr w5 := ((Touch.refl [] wr).drew).trans t5 (by simp)
      have HP5 := Lib.hid (HP.out.touch t6 (by simp))
      have T6 : Touch [m, g] W w5 := ht.trans t6 (by simp)
      obtain ⟨b0, b1, b2⟩ := cells_three (T6.at gB (by simp; exact ⟨hBm, hBg⟩))
      clear t5 t6 HP ht y0 y1 y2 z0 z1 z2 c0 c1 c2
      by_cases hlz : cmpT z.key y.key < 0
      · have HMIN := Lib.hid (show ∀ (b : Nat) (u : Itm), 1 ≤ b → par b = q → C[b]? = some u → le z.key u.key by
          intro b u hb hpb hu
          have e1 : b = c ∨ b = d := by (have := HC.out; have := HD.out; unfold par at hpb; omega)
          rcases e1 with rfl | rfl
          · rw [HH.out.other (by have := HC.out; omega), HY.out] at hu
            cases hu
            exact lt_le ((cmpT_lt _ _).1 hlz)
          · rw [HH.out.other (by have := HC.out; have := HD.out; omega), HZ.out] at hu
            cases hu
            exact le_refl _)
        go_wp2_with fail

        obtain ⟨c0, c1, c2⟩ := HP5.out.cells
        obtain ⟨y0, y1, y2⟩ := HP5.out.elem HZ.out
        have hdl : d < its.length := by exact h1
        have hdi : (d : Int) < (its.length : Int) := by omega
        have hge : decide ((its.length : Int) ≤ (d : Int)) = false := by simpa using hdl
        refine wp_region_still_tail 16 (by kernel_rfl) (by kernel_rfl) ?_
        simp only [List.take_succ_cons, List.take_zero, List.drop_succ_cons, List.drop_zero]
        iterate 16 still_step
        refine wpStill_nil ?_
        change wpList _ _ _ _ _ w5.drew
        go_wp2_with fail
        refine (cmp_quiet x z _).mono ?_
        rintro e w6 ⟨rfl, t6⟩
        have t7 : Touch [] w5 w6 := ((Touch.refl [] w5).drew).trans t6 (by simp)
        have HP6 := Lib.hid (HP5.out.touch t7 (by simp))
        have T7 : Touch [m, g] W w6 := T6.trans t7 (by simp)
        obtain ⟨b0, b1, b2⟩ := cells_three (T7.at gB (by simp; exact ⟨hBm, hBg⟩))
        clear t6 t7 HP5 T6 y0 y1 y2 c0 c1 c2
        have HX := Lib.hid (show d = 2 * q + 1 ∨ d = 2 * q + 2 by (have := HC.out; have := HD.out; omega))
        have hpc : par d = q ∧ 1 ≤ d ∧ q < d := by (have := HX.out; unfold par; omega)
        have HPC := Lib.hid hpc
        clear hpc
        by_cases hle : cmpT x.key z.key ≤ 0
        · go_wp2_with fail
          refine (set_any h m _ A kv' last q x.id x.due x.x w6 HP6.out (by omega) h1x okx).mono ?_
          rintro e w2 ⟨rfl, hp2, t2⟩
          have T2 : Touch [m, g] w w2 := ((tB.mono (S' := [m, g]) (by simp)).trans T7 (by simp)).trans t2 (by intro y hy; simp [Value.ownBlock] at hy; rcases hy with rfl | rfl <;> simp)
          have HP2 := Lib.hid hp2
          clear hp2 t2 b0 b1 b2
          have HE := Lib.hid (HUP.out.stop (by
            intro b hb hpb a u ha hu
            rw [hpb, HH.out.at_i] at ha
            cases ha
            exact le_trans ((cmpT_le _ _).1 hle) (HMIN.out b u hb hpb hu)))
          go_wp2_with fail
          exact end0 rfl rfl ⟨C, _, rfl, by rw [HH.out.c]; exact HP2.out, HH.out.perm, HE.out, (HH.out.fin HN.out).1, (HH.out.fin HN.out).2, T2⟩
        · obtain ⟨c0, c1, c2⟩ := HP6.out.cells
          obtain ⟨y0, y1, y2⟩ := HP6.out.elem HZ.out
          have hym := List.mem_of_getElem? HZ.out
          have hltk : lt z.key x.key := by
            rcases le_total x.key z.key with h1 | h1
            · exact absurd ((cmpT_le _ _).2 h1) hle
            · exact h1
          have HL := Lib.hid hltk
          clear hltk
          go_wp2_with fail
          refine (set_any h m _ A kv' last q z.id z.due z.x w6 HP6.out (by omega) (HP6.out.one z hym) (HP6.out.oks z hym)).mono ?_
          rintro e w2 ⟨rfl, hp2, t2⟩
          have T2 : Touch [m, g] W w2 := T7.trans t2 (by intro y hy; simp [Value.ownBlock] at hy; rcases hy with rfl | rfl <;> simp)
          have HP2 := Lib.hid hp2
          have HM := Lib.hid (HH.out.move HN.out (p := d) (by have := HPC.out; omega) HZ.out)
          have HS := Lib.hid (HUP.out.step HPC.out.2.1 HPC.out.1 HH.out.at_i (by rw [HH.out.other (by have := HPC.out; omega)]; exact HZ.out) HL.out HMIN.out)
          clear hp2 t2 b0 b1 b2 c0 c1 c2 y0 y1 y2
          go_wp2_with fail
          go_roundw
          case rel => exact ⟨d, _, _, _, rfl, HP2.out, HM.out, HS.out, T2⟩
          case measure => (have := HPC.out; simp [intOf]; omega)

      · have HMIN := Lib.hid (show ∀ (b : Nat) (u : Itm), 1 ≤ b → par b = q → C[b]? = some u → le y.key u.key by
          intro b u hb hpb hu
          have e1 : b = c ∨ b = d := by (have := HC.out; have := HD.out; unfold par at hpb; omega)
          rcases e1 with rfl | rfl
          · rw [HH.out.other (by have := HC.out; omega), HY.out] at hu
            cases hu
            exact le_refl _
          · rw [HH.out.other (by have := HC.out; have := HD.out; omega), HZ.out] at hu
            cases hu
            rcases le_total y.key z.key with h1 | h1
            · exact h1
            · exact absurd ((cmpT_lt _ _).2 h1) hlz)
        go_wp2_with fail

        obtain ⟨c0, c1, c2⟩ := HP5.out.cells
        obtain ⟨y0, y1, y2⟩ := HP5.out.elem HY.out
        have hdl : c < its.length := by exact hd4
        have hdi : (c : Int) < (its.length : Int) := by omega
        have hge : decide ((its.length : Int) ≤ (c : Int)) = false := by simpa using hdl
        refine wp_region_still_tail 16 (by kernel_rfl) (by kernel_rfl) ?_
        simp only [List.take_succ_cons, List.take_zero, List.drop_succ_cons, List.drop_zero]
        iterate 16 still_step
        refine wpStill_nil ?_
        change wpList _ _ _ _ _ w5.drew
        go_wp2_with fail
        refine (cmp_quiet x y _).mono ?_
        rintro e w6 ⟨rfl, t6⟩
        have t7 : Touch [] w5 w6 := ((Touch.refl [] w5).drew).trans t6 (by simp)
        have HP6 := Lib.hid (HP5.out.touch t7 (by simp))
        have T7 : Touch [m, g] W w6 := T6.trans t7 (by simp)
        obtain ⟨b0, b1, b2⟩ := cells_three (T7.at gB (by simp; exact ⟨hBm, hBg⟩))
        clear t6 t7 HP5 T6 y0 y1 y2 c0 c1 c2
        have HX := Lib.hid (show c = 2 * q + 1 ∨ c = 2 * q + 2 by (have := HC.out; have := HD.out; omega))
        have hpc : par c = q ∧ 1 ≤ c ∧ q < c := by (have := HX.out; unfold par; omega)
        have HPC := Lib.hid hpc
        clear hpc
        by_cases hle : cmpT x.key y.key ≤ 0
        · go_wp2_with fail
          refine (set_any h m _ A kv' last q x.id x.due x.x w6 HP6.out (by omega) h1x okx).mono ?_
          rintro e w2 ⟨rfl, hp2, t2⟩
          have T2 : Touch [m, g] w w2 := ((tB.mono (S' := [m, g]) (by simp)).trans T7 (by simp)).trans t2 (by intro y hy; simp [Value.ownBlock] at hy; rcases hy with rfl | rfl <;> simp)
          have HP2 := Lib.hid hp2
          clear hp2 t2 b0 b1 b2
          have HE := Lib.hid (HUP.out.stop (by
            intro b hb hpb a u ha hu
            rw [hpb, HH.out.at_i] at ha
            cases ha
            exact le_trans ((cmpT_le _ _).1 hle) (HMIN.out b u hb hpb hu)))
          go_wp2_with fail
          exact end0 rfl rfl ⟨C, _, rfl, by rw [HH.out.c]; exact HP2.out, HH.out.perm, HE.out, (HH.out.fin HN.out).1, (HH.out.fin HN.out).2, T2⟩
        · obtain ⟨c0, c1, c2⟩ := HP6.out.cells
          obtain ⟨y0, y1, y2⟩ := HP6.out.elem HY.out
          have hym := List.mem_of_getElem? HY.out
          have hltk : lt y.key x.key := by
            rcases le_total x.key y.key with h1 | h1
            · exact absurd ((cmpT_le _ _).2 h1) hle
            · exact h1
          have HL := Lib.hid hltk
          clear hltk
          go_wp2_with fail
          refine (set_any h m _ A kv' last q y.id y.due y.x w6 HP6.out (by omega) (HP6.out.one y hym) (HP6.out.oks y hym)).mono ?_
          rintro e w2 ⟨rfl, hp2, t2⟩
          have T2 : Touch [m, g] W w2 := T7.trans t2 (by intro y hy; simp [Value.ownBlock] at hy; rcases hy with rfl | rfl <;> simp)
          have HP2 := Lib.hid hp2
          have HM := Lib.hid (HH.out.move HN.out (p := c) (by have := HPC.out; omega) HY.out)
          have HS := Lib.hid (HUP.out.step HPC.out.2.1 HPC.out.1 HH.out.at_i (by rw [HH.out.other (by have := HPC.out; omega)]; exact HY.out) HL.out HMIN.out)
          clear hp2 t2 b0 b1 b2 c0 c1 c2 y0 y1 y2
          go_wp2_with fail
          go_roundw
          case rel => exact ⟨c, _, _, _, rfl, HP2.out, HM.out, HS.out, T2⟩
          case measure => (have := HPC.out; simp [intOf]; omega)

    · obtain ⟨c0, c1, c2⟩ := HP.out.cells
      have HD1 := Lib.hid h1
      have hd1 : decide (d < its.length) = false := by simpa using h1
      clear h1 hc hd
      go_quiet (fail)
      clear hd1
      have t6 : Touch [] wr (wr.drewN nq) := (Touch.refl [] wr).drews _
      have HP5 := Lib.hid (HP.out.touch t6 (by simp))
      have T6 : Touch [m, g] W (wr.drewN nq) := ht.trans t6 (by simp)
      generalize wr.drewN nq = w5 at *
      obtain ⟨b0, b1, b2⟩ := cells_three (T6.at gB (by simp; exact ⟨hBm, hBg⟩))
      clear t6 HP ht c0 c1 c2
      by_cases h2 : c < its.length
      · have hy := List.getElem?_eq_getElem (l := A) (i := c) (by omega)
        generalize A[c]'(by omega) = y at hy
        have HY := Lib.hid hy
        clear hy
        have HMIN := Lib.hid (show ∀ (b : Nat) (u : Itm), 1 ≤ b → par b = q → C[b]? = some u → le y.key u.key by
          intro b u hb hpb hu
          have hbl := (List.getElem?_eq_some_iff.1 hu).1
          have e1 : b = c := by (have := HC.out; have := HD.out; have := HD1.out; have := HH.out.c; have e2 : C.length = its.length := HH.out.perm.length_eq; unfold par at hpb; omega)
          subst e1
          rw [HH.out.other (by have := HC.out; omega), HY.out] at hu
          cases hu
          exact le_refl _)
        go_wp2_with fail

        obtain ⟨c0, c1, c2⟩ := HP5.out.cells
        obtain ⟨y0, y1, y2⟩ := HP5.out.elem HY.out
        have hdl : c < its.length := by exact h2
        have hdi : (c : Int) < (its.length : Int) := by omega
        have hge : decide ((its.length : Int) ≤ (c : Int)) = false := by simpa using hdl
        refine wp_region_still_tail 16 (by kernel_rfl) (by kernel_rfl) ?_
        simp only [List.take_succ_cons, List.take_zero, List.drop_succ_cons, List.drop_zero]
        iterate 16 still_step
        refine wpStill_nil ?_
        change wpList _ _ _ _ _ w5.drew
        go_wp2_with fail
        refine (cmp_quiet x y _).mono ?_
        rintro e w6 ⟨rfl, t6⟩
        have t7 : Touch [] w5 w6 := ((Touch.refl [] w5).drew).trans t6 (by simp)
        have HP6 := Lib.hid (HP5.out.touch t7 (by simp))
        have T7 : Touch [m, g] W w6 := T6.trans t7 (by simp)
        obtain ⟨b0, b1, b2⟩ := cells_three (T7.at gB (by simp; exact ⟨hBm, hBg⟩))
        clear t6 t7 HP5 T6 y0 y1 y2 c0 c1 c2
        have HX := Lib.hid (show c = 2 * q + 1 ∨ c = 2 * q + 2 by (have := HC.out; have := HD.out; omega))
        have hpc : par c = q ∧ 1 ≤ c ∧ q < c := by (have := HX.out; unfold par; omega)
        have HPC := Lib.hid hpc
        clear hpc
        by_cases hle : cmpT x.key y.key ≤ 0
        · go_wp2_with fail
          refine (set_any h m _ A kv' last q x.id x.due x.x w6 HP6.out (by omega) h1x okx).mono ?_
          rintro e w2 ⟨rfl, hp2, t2⟩
          have T2 : Touch [m, g] w w2 := ((tB.mono (S' := [m, g]) (by simp)).trans T7 (by simp)).trans t2 (by intro y hy; simp [Value.ownBlock] at hy; rcases hy with rfl | rfl <;> simp)
          have HP2 := Lib.hid hp2
          clear hp2 t2 b0 b1 b2
          have HE := Lib.hid (HUP.out.stop (by
            intro b hb hpb a u ha hu
            rw [hpb, HH.out.at_i] at ha
            cases ha
            exact le_trans ((cmpT_le _ _).1 hle) (HMIN.out b u hb hpb hu)))
          go_wp2_with fail
          exact end0 rfl rfl ⟨C, _, rfl, by rw [HH.out.c]; exact HP2.out, HH.out.perm, HE.out, (HH.out.fin HN.out).1, (HH.out.fin HN.out).2, T2⟩
        · obtain ⟨c0, c1, c2⟩ := HP6.out.cells
          obtain ⟨y0, y1, y2⟩ := HP6.out.elem HY.out
          have hym := List.mem_of_getElem? HY.out
          have hltk : lt y.key x.key := by
            rcases le_total x.key y.key with h1 | h1
            · exact absurd ((cmpT_le _ _).2 h1) hle
            · exact h1
          have HL := Lib.hid hltk
          clear hltk
          go_wp2_with fail
          refine (set_any h m _ A kv' last q y.id y.due y.x w6 HP6.out (by omega) (HP6.out.one y hym) (HP6.out.oks y hym)).mono ?_
          rintro e w2 ⟨rfl, hp2, t2⟩
          have T2 : Touch [m, g] W w2 := T7.trans t2 (by intro y hy; simp [Value.ownBlock] at hy; rcases hy with rfl | rfl <;> simp)
          have HP2 := Lib.hid hp2
          have HM := Lib.hid (HH.out.move HN.out (p := c) (by have := HPC.out; omega) HY.out)
          have HS := Lib.hid (HUP.out.step HPC.out.2.1 HPC.out.1 HH.out.at_i (by rw [HH.out.other (by have := HPC.out; omega)]; exact HY.out) HL.out HMIN.out)
          clear hp2 t2 b0 b1 b2 c0 c1 c2 y0 y1 y2
          go_wp2_with fail
          go_roundw
          case rel => exact ⟨c, _, _, _, rfl, HP2.out, HM.out, HS.out, T2⟩
          case measure => (have := HPC.out; simp [intOf]; omega)

      · have hge : decide (its.length ≤ c) = true := by simpa using h2
        have HMIN := Lib.hid (show ∀ (b : Nat), 1 ≤ b → par b = q → Edge Itm.key C b by
          intro b hb hpb a u ha hu
          have hbl := (List.getElem?_eq_some_iff.1 hu).1
          exfalso
          have := HC.out
          have e2 : C.length = its.length := HH.out.perm.length_eq
          unfold par at hpb
          omega)
        have HE := Lib.hid (HUP.out.stop HMIN.out)
        obtain ⟨c0, c1, c2⟩ := HP5.out.cells
        clear h2
        go_wp2_with fail
        go_quiet (fail)
        have t6 : Touch [] w5 (w5.drewN nq) := (Touch.refl [] w5).drews _
        have HP6 := Lib.hid (HP5.out.touch t6 (by simp))
        have T7 : Touch [m, g] W (w5.drewN nq) := T6.trans t6 (by simp)
        generalize w5.drewN nq = w6 at *
        obtain ⟨b0, b1, b2⟩ := cells_three (T7.at gB (by simp; exact ⟨hBm, hBg⟩))
        clear t6 HP5 T6 c0 c1 c2
        go_wp2_with fail
        refine (set_any h m _ A kv' last q x.id x.due x.x w6 HP6.out (by omega) h1x okx).mono ?_
        rintro e w2 ⟨rfl, hp2, t2⟩
        have T2 : Touch [m, g] w w2 := ((tB.mono (S' := [m, g]) (by simp)).trans T7 (by simp)).trans t2 (by intro y hy; simp [Value.ownBlock] at hy; rcases hy with rfl | rfl <;> simp)
        have HP2 := Lib.hid hp2
        clear hp2 t2 b0 b1 b2
        go_wp2_with fail
        exact end0 rfl rfl ⟨C, _, rfl, by rw [HH.out.c]; exact HP2.out, HH.out.perm, HE.out, (HH.out.fin HN.out).1, (HH.out.fin HN.out).2, T2⟩
end Go.Proofs.YtobkanlnnniabaaGreat.G

/-
  A heap in order, in memory; the contract of 'fix'.
-/
namespace Go.Proofs.YtobkanlnnniabaaGreat.G
open Go.RowKit
set_option linter.unusedVariables false
set_option linter.unusedSimpArgs false

theorem wpList_delete_mp {P : Program} {α : Type} [DecidableEq α] {enc : α → Value} {ok : α → Prop} {w : World} {b : Nat} {kv : List (α × Value)} {o : Oper} {ops : Array Oper} {rest : List Oper} {a : Act} {Q : Exit → Act → World → Prop} (hg : o.guard = none) (m x : Operand) (t k : TypeId) (hop : o.op = Op.call { callee := Callee.builtin Builtin.delete, args := #[m, x], argTypes := #[t, k] })
    (e : TypeId) (E : KE P k enc ok) (ht : P.underlying t = some (.map k e)) (h : Mp enc ok w b kv) (y : α) (hy : ok y) (hm : a.eval m = .map (some b)) (hx : a.eval x = enc y)
    (hK : ∀ w', Mp enc ok w' b (del kv y) → Touch [b] w w' → w'.heap.size = w.heap.size → wpList P ops Q rest (a.put o.dst (.tuple #[])) w') : wpList P ops Q (o :: rest) a w := by
  refine wpList_plain hg fun K' hK' => ?_
  obtain ⟨w', hrun, r1, r2, r3⟩ := h.drop E ht hy o.type
  unfold Oper.wp
  simp [execOp, hop, resolve, invoke, builtin, hm, hx, hrun, Result.andThen]
  exact hK' _ _ (hK w' r1 r2 r3)
theorem look_del_same (kv : List (Int × Value)) (a : Int) : look (del kv a) a = none := by
  rw [look_none]
  intro p hp
  unfold del at hp
  simpa using (List.mem_filter.1 hp).2
theorem look_del_other (kv : List (Int × Value)) (a b : Int) (h : b ≠ a) : look (del kv a) b = look kv b := by
  unfold look del
  rw [List.find?_filter]
  congr 2
  funext p
  by_cases e : p.1 = b
  · have : p.1 ≠ a := by omega
    simp [e, h]
  · simp [e]
/-- A heap in order. -/
structure HB (w : World) (h m : Nat) (v : Value) (its : List Itm) (kv : List (Int × Value)) (last : Int) : Prop where
  hp : Hp w h m v its kv last
  ids : (its.map Itm.id).Nodup
  ix : Ix kv its
  heap : Heap Itm.key its
  top : ∀ y ∈ its, 1 ≤ y.id ∧ y.id ≤ last
  lo : 0 ≤ last
  hi : last ≤ 1000
/-- What a step leaves of the heap's own blocks: its own, or new ones. -/
def Foot (h m : Nat) (v v' : Value) (w : World) : Prop := ∀ y ∈ Hp.foot h m v', y ∈ Hp.foot h m v ∨ w.heap.size ≤ y
theorem okK_of {i : Int} (h0 : -9223372036854775808 ≤ i) (h1 : i ≤ 9223372036854775807) : okK i := by
  unfold okK
  simp [Lit.wf]
  have : IntKind.i64.min = -9223372036854775808 := rfl
  omega
theorem HB.touch {S : List Nat} {w w' : World} {h m : Nat} {v : Value} {its : List Itm} {kv : List (Int × Value)} {last : Int} (k : HB w h m v its kv last) (t : Touch S w w') (hS : ∀ y ∈ Hp.foot h m v, y ∉ S) : HB w' h m v its kv last :=
  ⟨k.hp.touch t hS, k.ids, k.ix, k.heap, k.top, k.lo, k.hi⟩
/-- After sifting: in order. -/
theorem HB.sifted {w : World} {h m : Nat} {v : Value} {its its' : List Itm} {kv kv' : List (Int × Value)} {last : Int} (hp : Hp w h m v its' kv' last) (hperm : its'.Perm its) (hn : (its.map Itm.id).Nodup) (hh : Heap Itm.key its')
    (h1 : ∀ (j : Nat) y, its'[j]? = some y → look kv' y.id = some (.int .i64 j)) (h2 : ∀ id, (∀ y ∈ its, y.id ≠ id) → look kv' id = look kv id) (h3 : ∀ id, (∀ y ∈ its, y.id ≠ id) → look kv id = none)
    (h4 : ∀ y ∈ its, 1 ≤ y.id ∧ y.id ≤ last) (h5 : 0 ≤ last) (h6 : last ≤ 1000) : HB w h m v its' kv' last :=
  ⟨hp, (hperm.map Itm.id).nodup_iff.2 hn, ⟨h1, fun id hid => by
    have hid' : ∀ y ∈ its, y.id ≠ id := fun y hy => hid y (hperm.mem_iff.2 hy)
    rw [h2 id hid', h3 id hid']⟩, hh, fun y hy => h4 y (hperm.mem_iff.1 hy), h5, h6⟩
set_option maxRecDepth 100000 in
set_option maxHeartbeats 1000000 in
theorem fix_any (h m : Nat) (v : Value) (its : List Itm) (kv : List (Int × Value)) (last : Int) (i : Nat) (x : Itm) (w : World) (k : Hp w h m v its kv last) (hx : its[i]? = some x) (hn : (its.map Itm.id).Nodup) (hix : IxB kv its i) (hu : Up Itm.key its i) :
    Calls Tryz.prog 47 #[.pointer (some ⟨h, 0, none⟩), .int .i64 i] w fun e w' => ∃ (its' : List Itm) (kv' : List (Int × Value)), e = .returned (.tuple #[]) ∧ Hp w' h m v its' kv' last ∧ its'.Perm its ∧ Heap Itm.key its' ∧
      (∀ (j : Nat) y, its'[j]? = some y → look kv' y.id = some (.int .i64 j)) ∧ (∀ id, (∀ y ∈ its, y.id ≠ id) → look kv' id = look kv id) ∧ Touch (m :: v.ownBlock.toList) w w' := by
  have HU := Lib.hid (up_any h m v its kv last i x w k hx hn hix hu)
  have HN := Lib.hid hn
  clear k hx hn hix hu
  go_enter Tryz.func47, Tryz.ntmps47
  go_wp2_with fail
  refine HU.out.mono ?_
  rintro e w1 ⟨j, its1, kv1, rfl, hj, hp1, hperm1, hd1, _, ha1, ho1, t1⟩
  have hjl : j < its1.length := by rw [hperm1.length_eq]; exact hj
  have hx1 := List.getElem?_eq_getElem hjl
  have HD := Lib.hid (down_any h m v its1 kv1 last j _ w1 hp1 hx1 ((hperm1.map Itm.id).nodup_iff.2 HN.out) (fun j' y _ hy => ha1 j' y hy) hd1)
  have HP := Lib.hid (⟨hperm1, ho1, t1⟩ : _ ∧ _ ∧ _)
  clear hp1 hd1 ha1 hx1 hjl t1 ho1 hperm1
  go_wp2_with fail
  refine HD.out.mono ?_
  rintro e w2 ⟨its2, kv2, rfl, hp2, hperm2, hh2, ha2, ho2, t2⟩
  obtain ⟨p1, p2, p3⟩ := HP.out
  have FIN := Lib.hid (show Hp w2 h m v its2 kv2 last ∧ its2.Perm its ∧ Heap Itm.key its2 ∧ (∀ (j : Nat) y, its2[j]? = some y → look kv2 y.id = some (.int .i64 j)) ∧ (∀ id, (∀ y ∈ its, y.id ≠ id) → look kv2 id = look kv id) ∧ Touch (m :: v.ownBlock.toList) w w2 from
    ⟨hp2, hperm2.trans p1, hh2, ha2, fun id hid => by rw [ho2 id (fun y hy => hid y (p1.mem_iff.1 hy)), p2 id hid], p3.trans t2 (fun y hy => .inl hy)⟩)
  clear hp2 hperm2 hh2 ha2 ho2 t2 p1 p2 p3 HP
  go_wp2_with fail
  exact end0 rfl rfl ⟨its2, kv2, rfl, FIN.out⟩
end Go.Proofs.YtobkanlnnniabaaGreat.G

/-
  The contract of Push.
-/
namespace Go.Proofs.YtobkanlnnniabaaGreat.G
open Go.RowKit
set_option linter.unusedVariables false
set_option linter.unusedSimpArgs false

theorem info_parts {T k bytes : Nat} (h : (Tryz.prog.info? T).map (fun i => (i.size, i.bytes, i.zero.map fun z => z.cells.size)) = some (k, bytes, some k)) : ∃ i z, Tryz.prog.info? T = some i ∧ i.zero = some z ∧ i.size = k ∧ i.bytes = bytes ∧ z.cells.size = k := by
  cases hi : Tryz.prog.info? T with
  | none => simp [hi] at h
  | some i =>
    simp only [hi, Option.map_some, Option.some.injEq, Prod.mk.injEq] at h
    obtain ⟨h1, h2, h3⟩ := h
    cases hz : i.zero with
    | none => simp [hz] at h3
    | some z => exact ⟨i, z, rfl, hz, h1, h2, by simpa [hz] using h3⟩
theorem info82 : (Tryz.prog.info? 82).map (fun i => (i.size, i.bytes, i.zero.map fun z => z.cells.size)) = some (3, 24, some 3) := by kernel_rfl
section
variable {w : World} {h m : Nat} {v : Value} {its : List Itm} {kv : List (Int × Value)} {last : Int}
theorem Hp.frozen (k : Hp w h m v its kv last) (j : Nat) : w.frozen? ⟨h, j, none⟩ = false := by
  simp [World.frozen?, k.hdr]
theorem Hp.bump (k : Hp w h m v its kv last) (l : Int) : Hp (w.setCell ⟨h, 2, none⟩ (.int .i64 l)) h m v its kv l ∧ Touch [h] w (w.setCell ⟨h, 2, none⟩ (.int .i64 l)) := by
  have t := (Touch.refl [h] w).setCell (p := ⟨h, 2, none⟩) (by simp) (.int .i64 l)
  refine ⟨⟨?_, t.owns k.row (by intro g hg e; simp at e; exact k.hv.1 (by rw [hg, e])), k.mp.touch t (by simpa using Ne.symm k.hm), k.one, k.oks, k.hm, k.hv, k.few⟩, t⟩
  simp [World.setCell, Array.getElem?_modify, k.hdr]
theorem Hp.lay (k : Hp w h m v its kv last) {v' : Value} {its' : List Itm} {w2 : World} (t : Touch v.ownBlock.toList w w2) (hm' : w2.ownsRow 0 82 3 v' its'.length (its'.map encI).flatten) (hn : v'.ownBlock = v.ownBlock ∨ v'.ownBlock = none ∨ ∃ g, v'.ownBlock = some g ∧ w.heap.size ≤ g) (h1 : ∀ it ∈ its', it.x.oneCell' = true) (h2 : ∀ it ∈ its', okK it.id) (h3 : its'.length ≤ 1000) :
    Hp (w2.setCell ⟨h, 0, none⟩ v') h m v' its' kv last ∧ Touch (Hp.foot h m v) w (w2.setCell ⟨h, 0, none⟩ v') ∧ Foot h m v v' w := by
  have hlt := k.lt
  have hhl : h < w.heap.size := hlt h (by simp [Hp.foot])
  have hml : m < w.heap.size := hlt m (by simp [Hp.foot])
  have hmh : m ≠ h := Ne.symm k.hm
  have t3 := (Touch.refl [h] w2).setCell (p := ⟨h, 0, none⟩) (by simp) v'
  have hv1 : h ∉ v.ownBlock.toList := by
    intro e
    exact k.hv.1 (by simpa using e)
  have hv2 : m ∉ v.ownBlock.toList := by
    intro e
    exact k.hv.2 (by simpa using e)
  have hv3 : v'.ownBlock ≠ some h ∧ v'.ownBlock ≠ some m := by
    rcases hn with e | e | ⟨g, e, hg⟩
    · rw [e]
      exact k.hv
    · rw [e]
      simp
    · rw [e]
      simp
      omega
  have hH := t.at k.hdr hv1
  refine ⟨⟨?_, t3.owns hm' (by intro g hg e; simp at e; exact hv3.1 (by rw [hg, e])), (k.mp.touch t hv2).touch t3 (by simpa using hmh), h1, h2, k.hm, hv3, h3⟩, ?_, ?_⟩
  · simp [World.setCell, Array.getElem?_modify, hH]
  · exact (t.mono (fun y hy => .inl (by simp [Hp.foot] at hy ⊢; exact .inr (.inr hy)))).trans t3 (by simp [Hp.foot])
  · intro y hy
    simp only [Hp.foot, List.mem_cons, Option.mem_toList] at hy ⊢
    rcases hy with rfl | rfl | hy
    · exact .inl (.inl rfl)
    · exact .inl (.inr (.inl rfl))
    · rcases hn with e | e | ⟨g, e, hg⟩
      · rw [e] at hy
        exact .inl (.inr (.inr hy))
      · rw [e] at hy
        cases hy
      · rw [e] at hy
        cases hy
        exact .inr hg
end
set_option maxRecDepth 100000 in
set_option maxHeartbeats 2000000 in
theorem push_any (h m : Nat) (v : Value) (its : List Itm) (kv : List (Int × Value)) (last due : Int) (x : Value) (w : World) (k : HB w h m v its kv last) (h1 : x.oneCell' = true) (hl : last < 1000) (hfw : its.length < 1000) :
    Calls Tryz.prog 20 #[.pointer (some ⟨h, 0, none⟩), .int .u64 due, x] w fun e w' => ∃ (v' : Value) (its' : List Itm) (kv' : List (Int × Value)), e = .returned (.int .i64 (last + 1)) ∧ HB w' h m v' its' kv' (last + 1) ∧ its'.Perm (its ++ [(⟨last + 1, due, x⟩ : Itm)]) ∧ Foot h m v v' w ∧ Touch (Hp.foot h m v) w w' := by
  obtain ⟨i82, z82, hi82, hz82, hs82, hb82, hc82⟩ := info_parts info82
  obtain ⟨av, cv, rfl, hv1, hv2, hv3⟩ := k.hp.form
  obtain ⟨c0, c1, c2⟩ := k.hp.cells
  have f2 := k.hp.frozen 2
  have hlo := k.lo
  have hw1 : IntKind.i64.wrap (last + 1) = last + 1 := by rw [IntKind.wrap_i64] <;> omega
  obtain ⟨p1, t1⟩ := k.hp.bump (last + 1)
  have HP := Lib.hid p1
  have HK := Lib.hid k
  have hxc : x.cells = #[x] := by
    cases x <;> first | rfl | simp [Value.oneCell'] at h1
  simp only [Value.cells] at hxc
  clear k p1 hv3
  go_enter Tryz.func20, Tryz.ntmps20
  go_wp2_with fail
  generalize w.setCell ⟨h, 2, none⟩ (.int .i64 (last + 1)) = w1 at *
  clear c0 c1 c2 f2
  obtain ⟨c0, c1, c2⟩ := HP.out.cells
  refine wp_region_F (S := Touch (Value.slice av its.length cv).ownBlock.toList w1.drew) [16] (by kernel_rfl) ?_
  change wpAnyF _ _ _ _ _ _ _ _ _ w1.drew
  have hT := HP.out.touch ((Touch.refl [] w1).drew) (by simp)
  generalize hWd : w1.drew = W at *
  have TW := Lib.hid (show Touch (Hp.foot h m (.slice av its.length cv)) w1 W by rw [← hWd]; exact (Touch.refl _ w1).drew)
  clear hWd
  have hS := Touch.refl (Value.slice av its.length cv).ownBlock.toList W
  have hhb : h ∉ (Value.slice av its.length cv).ownBlock.toList := by
    intro e
    exact HP.out.hv.1 (by simpa using e)
  clear c0 c1 c2
  obtain ⟨c0, c1, c2⟩ := hT.cells
  refine wpAnyF_take (i := 0) (oi := { dst := some 14, op := Op.move (Operand.tmp 0), type := 45, pos := "heap.go:75", after := #[], guard := none }) (v := .pointer (some ⟨h, 0, none⟩)) rfl (by kernel_rfl) (by kernel_rfl) (by kernel_rfl) (by kernel_rfl) (by kernel_rfl) (fun _ _ _ h => h) (Or.inl ⟨by rfl, fun w' hw => by go_simp⟩) hS ?_
  try simp only [Act.put, List.setIfInBounds_toArray, List.set_cons_zero, List.set_cons_succ]
  refine wpAnyF_take (i := 1) (oi := { dst := some 15, op := Op.move (Operand.tmp 0), type := 45, pos := "heap.go:75", after := #[], guard := none }) (v := .pointer (some ⟨h, 0, none⟩)) rfl (by kernel_rfl) (by kernel_rfl) (by kernel_rfl) (by kernel_rfl) (by kernel_rfl) (fun _ _ _ h => h) (Or.inl ⟨by rfl, fun w' hw => by go_simp⟩) hS ?_
  try simp only [Act.put, List.setIfInBounds_toArray, List.set_cons_zero, List.set_cons_succ]
  refine wpAnyF_take (i := 2) (oi := { dst := some 16, op := Op.nilCheck (Operand.tmp 15), type := 0, pos := "heap.go:75", after := #[{ on := 1, ground := Ground.data }], guard := none }) (v := .pointer (some ⟨h, 0, none⟩)) rfl (by kernel_rfl) (by kernel_rfl) (by kernel_rfl) (by kernel_rfl) (by kernel_rfl) (fun _ _ _ h => h) (Or.inl ⟨by rfl, fun w' hw => by go_simp⟩) hS ?_
  try simp only [Act.put, List.setIfInBounds_toArray, List.set_cons_zero, List.set_cons_succ]
  refine wpAnyF_take (i := 3) (oi := { dst := some 17, op := Op.fieldAddr 80 (Operand.tmp 16) 0, type := 0, pos := "heap.go:75", after := #[{ on := 2, ground := Ground.data }], guard := none }) (v := .pointer (some ⟨h, 0, none⟩)) rfl (by kernel_rfl) (by kernel_rfl) (by kernel_rfl) (by kernel_rfl) (by kernel_rfl) (fun _ _ _ h => h) (Or.inl ⟨by rfl, fun w' hw => by go_simp⟩) hS ?_
  try simp only [Act.put, List.setIfInBounds_toArray, List.set_cons_zero, List.set_cons_succ]
  refine wpAnyF_take (i := 4) (oi := { dst := some 18, op := Op.load 78 (Operand.tmp 17), type := 78, pos := "heap.go:75", after := #[{ on := 3, ground := Ground.data }], guard := none }) (v := Value.slice av its.length cv) rfl (by kernel_rfl) (by kernel_rfl) (by kernel_rfl) (by kernel_rfl) (by kernel_rfl) (fun _ _ _ h => h) (Or.inl ⟨by rfl, fun w' hw => by (have q2 := hw.cell c0 hhb; go_simp)⟩) hS ?_
  try simp only [Act.put, List.setIfInBounds_toArray, List.set_cons_zero, List.set_cons_succ]
  refine wpAnyF_take (i := 5) (oi := { dst := some 19, op := Op.move (Operand.tmp 0), type := 45, pos := "heap.go:75", after := #[], guard := none }) (v := .pointer (some ⟨h, 0, none⟩)) rfl (by kernel_rfl) (by kernel_rfl) (by kernel_rfl) (by kernel_rfl) (by kernel_rfl) (fun _ _ _ h => h) (Or.inl ⟨by rfl, fun w' hw => by go_simp⟩) hS ?_
  try simp only [Act.put, List.setIfInBounds_toArray, List.set_cons_zero, List.set_cons_succ]
  refine wpAnyF_take (i := 6) (oi := { dst := some 20, op := Op.nilCheck (Operand.tmp 19), type := 0, pos := "heap.go:75", after := #[{ on := 5, ground := Ground.data }], guard := none }) (v := .pointer (some ⟨h, 0, none⟩)) rfl (by kernel_rfl) (by kernel_rfl) (by kernel_rfl) (by kernel_rfl) (by kernel_rfl) (fun _ _ _ h => h) (Or.inl ⟨by rfl, fun w' hw => by go_simp⟩) hS ?_
  try simp only [Act.put, List.setIfInBounds_toArray, List.set_cons_zero, List.set_cons_succ]
  refine wpAnyF_take (i := 7) (oi := { dst := some 21, op := Op.fieldAddr 80 (Operand.tmp 20) 2, type := 0, pos := "heap.go:75", after := #[{ on := 6, ground := Ground.data }], guard := none }) (v := .pointer (some ⟨h, 2, none⟩)) rfl (by kernel_rfl) (by kernel_rfl) (by kernel_rfl) (by kernel_rfl) (by kernel_rfl) (fun _ _ _ h => h) (Or.inl ⟨by rfl, fun w' hw => by go_simp⟩) hS ?_
  try simp only [Act.put, List.setIfInBounds_toArray, List.set_cons_zero, List.set_cons_succ]
  refine wpAnyF_take (i := 8) (oi := { dst := some 22, op := Op.load 3 (Operand.tmp 21), type := 3, pos := "heap.go:75", after := #[{ on := 7, ground := Ground.data }], guard := none }) (v := .int .i64 (last + 1)) rfl (by kernel_rfl) (by kernel_rfl) (by kernel_rfl) (by kernel_rfl) (by kernel_rfl) (fun _ _ _ h => h) (Or.inl ⟨by rfl, fun w' hw => by (have q2 := hw.cell c2 hhb; go_simp)⟩) hS ?_
  try simp only [Act.put, List.setIfInBounds_toArray, List.set_cons_zero, List.set_cons_succ]
  refine wpAnyF_take (i := 9) (oi := { dst := some 23, op := Op.move (Operand.tmp 1), type := 31, pos := "heap.go:75", after := #[], guard := none }) (v := .int .u64 due) rfl (by kernel_rfl) (by kernel_rfl) (by kernel_rfl) (by kernel_rfl) (by kernel_rfl) (fun _ _ _ h => h) (Or.inl ⟨by rfl, fun w' hw => by go_simp⟩) hS ?_
  try simp only [Act.put, List.setIfInBounds_toArray, List.set_cons_zero, List.set_cons_succ]
  refine wpAnyF_take (i := 10) (oi := { dst := some 24, op := Op.move (Operand.tmp 2), type := 47, pos := "heap.go:75", after := #[], guard := none }) (v := x) rfl (by kernel_rfl) (by kernel_rfl) (by kernel_rfl) (by kernel_rfl) (by kernel_rfl) (fun _ _ _ h => h) (Or.inl ⟨by rfl, fun w' hw => by go_simp⟩) hS ?_
  try simp only [Act.put, List.setIfInBounds_toArray, List.set_cons_zero, List.set_cons_succ]
  refine wpAnyF_take (i := 11) (oi := { dst := some 25, op := Op.build 82 #[(0, Operand.tmp 22), (1, Operand.tmp 23), (2, Operand.tmp 24)], type := 82, pos := "heap.go:75", after := #[{ on := 8, ground := Ground.data }, { on := 9, ground := Ground.data }, { on := 10, ground := Ground.data }], guard := none }) (v := .agg #[.int .i64 (last + 1), .int .u64 due, x]) rfl (by kernel_rfl) (by kernel_rfl) (by kernel_rfl) (by kernel_rfl) (by kernel_rfl) (fun _ _ _ h => h) (Or.inl ⟨by rfl, fun w' hw => by go_simp⟩) hS ?_
  try simp only [Act.put, List.setIfInBounds_toArray, List.set_cons_zero, List.set_cons_succ]
  refine wpAnyF_ready (rs := [12]) (by kernel_rfl) (by simp) ?_
  refine AllReadyF.cons (o := { dst := some 26, op := Op.buildSlice 78 1 #[(0, Operand.tmp 25)], type := 78, pos := "heap.go:75", after := #[{ on := 11, ground := Ground.data }], guard := none }) rfl (fun K hK => ?_) AllReadyF.nil
  refine step_of_list rfl ?_
  refine wpList_buildSlice_rows rfl 78 1 _ rfl 82 3 i82 _ Tryz.underlying78 hi82 hz82 hs82 (by omega) [[.int .i64 (last + 1), .int .u64 due, x]] rfl (by simp) (by omega) (by rfl) ?_
  have tb := (Touch.refl [] W).alloc (.cells [[.int .i64 (last + 1), .int .u64 due, x]].flatten.toArray 82)
  have hrow2 := (hT.touch tb (by simp)).row
  have hnw := range_new W [[.int .i64 (last + 1), .int .u64 due, x]].flatten 82
  have hS2 := hS.trans tb (by simp)
  refine ⟨rfl, hK.out _ _ hS2 (fun _ => ?_)⟩
  clear hK K hS
  have hS := hS2
  clear hS2
  generalize hW1 : W.alloc (.cells [[.int .i64 (last + 1), .int .u64 due, x]].flatten.toArray 82) = W1 at *
  have z1 : W1.heap.size = W.heap.size + 1 := by rw [← hW1]; simp
  clear hW1
  try simp only [Act.put, List.setIfInBounds_toArray, List.set_cons_zero, List.set_cons_succ]
  refine wpAnyF_ready (rs := [13]) (by kernel_rfl) (by simp) ?_
  refine AllReadyF.cons (o := { dst := some 27, op := Op.call { callee := Callee.builtin Builtin.append, args := #[Operand.tmp 18, Operand.tmp 26], argTypes := #[78, 78] }, type := 78, pos := "heap.go:75", after := #[{ on := 4, ground := Ground.data }, { on := 12, ground := Ground.data }], guard := none }) rfl (fun K hK => ?_) AllReadyF.nil
  refine step_app _ (by rfl) (.tmp 18) (.tmp 26) 78 (by rfl) 82 i82 _ 3 24 Tryz.underlying78 hi82 hz82 hs82 hb82 hc82 (by omega) _ its.length _ (by rfl) hrow2 (some ⟨W.heap.size, 0, none⟩) 1 1 [[.int .i64 (last + 1), .int .u64 due, x]].flatten (by rfl) (by simp) (by simp) (by intro ad h j u hu; cases h; rw [Addr.add_lit]; exact hnw j u hu) (by intro u hu; simp at hu; rcases hu with rfl | rfl | rfl; rfl; rfl; exact h1) (by unfold maxLen; omega) (by omega) ?_
  intro v2 w2 o2 t2 b2
  have t2' : Touch (Value.slice av its.length cv).ownBlock.toList W w2 := (tb.mono (by simp)).trans t2 (fun y hy => .inl hy)
  have hS2 := hS.trans t2 (fun y hy => .inl hy)
  refine hK.out _ _ hS2 (fun _ => ?_)
  clear hK K hS
  have hS := hS2
  clear hS2
  try simp only [Act.put, List.setIfInBounds_toArray, List.set_cons_zero, List.set_cons_succ]
  refine wpAnyF_take (i := 14) (oi := { dst := some 28, op := Op.nilCheck (Operand.tmp 14), type := 0, pos := "heap.go:75", after := #[{ on := 0, ground := Ground.data }, { on := 0, ground := Ground.phase }, { on := 1, ground := Ground.phase }, { on := 2, ground := Ground.phase }, { on := 3, ground := Ground.phase }, { on := 4, ground := Ground.phase }, { on := 5, ground := Ground.phase }, { on := 6, ground := Ground.phase }, { on := 7, ground := Ground.phase }, { on := 8, ground := Ground.phase }, { on := 9, ground := Ground.phase }, { on := 10, ground := Ground.phase }, { on := 11, ground := Ground.phase }, { on := 12, ground := Ground.phase }, { on := 13, ground := Ground.phase }], guard := none }) (v := .pointer (some ⟨h, 0, none⟩)) rfl (by kernel_rfl) (by kernel_rfl) (by kernel_rfl) (by kernel_rfl) (by kernel_rfl) (fun _ _ _ h => h) (Or.inl ⟨by rfl, fun w' hw => by go_simp⟩) hS ?_
  try simp only [Act.put, List.setIfInBounds_toArray, List.set_cons_zero, List.set_cons_succ]
  refine wpAnyF_take (i := 15) (oi := { dst := some 29, op := Op.fieldAddr 80 (Operand.tmp 28) 0, type := 0, pos := "heap.go:75", after := #[{ on := 14, ground := Ground.data }, { on := 0, ground := Ground.phase }, { on := 1, ground := Ground.phase }, { on := 2, ground := Ground.phase }, { on := 3, ground := Ground.phase }, { on := 4, ground := Ground.phase }, { on := 5, ground := Ground.phase }, { on := 6, ground := Ground.phase }, { on := 7, ground := Ground.phase }, { on := 8, ground := Ground.phase }, { on := 9, ground := Ground.phase }, { on := 10, ground := Ground.phase }, { on := 11, ground := Ground.phase }, { on := 12, ground := Ground.phase }, { on := 13, ground := Ground.phase }], guard := none }) (v := .pointer (some ⟨h, 0, none⟩)) rfl (by kernel_rfl) (by kernel_rfl) (by kernel_rfl) (by kernel_rfl) (by kernel_rfl) (fun _ _ _ h => h) (Or.inl ⟨by rfl, fun w' hw => by go_simp⟩) hS ?_
  try simp only [Act.put, List.setIfInBounds_toArray, List.set_cons_zero, List.set_cons_succ]
  refine wpAnyF_ready (rs := [16]) (by kernel_rfl) (by simp) ?_
  refine AllReadyF.last (o := { dst := none, op := Op.store 78 (Operand.tmp 29) (Operand.tmp 27), type := 0, pos := "heap.go:75", after := #[{ on := 15, ground := Ground.data }, { on := 13, ground := Ground.data }, { on := 13, ground := Ground.chain }, { on := 0, ground := Ground.phase }, { on := 1, ground := Ground.phase }, { on := 2, ground := Ground.phase }, { on := 3, ground := Ground.phase }, { on := 4, ground := Ground.phase }, { on := 5, ground := Ground.phase }, { on := 6, ground := Ground.phase }, { on := 7, ground := Ground.phase }, { on := 8, ground := Ground.phase }, { on := 9, ground := Ground.phase }, { on := 10, ground := Ground.phase }, { on := 11, ground := Ground.phase }, { on := 12, ground := Ground.phase }, { on := 13, ground := Ground.phase }], guard := none }) rfl (by simp) (fun K hK => ?_) AllReadyF.nil
  have q1 := t2'.cell c0 hhb
  have g0 : w2.frozen? ⟨h, 0, none⟩ = false := by simp [World.frozen?, t2'.at hT.hdr hhb]
  obtain ⟨av2, cv2, rfl, hw2, hw3, hw4⟩ := owns_form o2
  go_simp
  have q3 := w2
  refine hK.out _ _ ?_
  clear hK K q3
  try simp only [Act.put, List.setIfInBounds_toArray, List.set_cons_zero, List.set_cons_succ]
  refine wpAnyF_done (by kernel_rfl) ?_ _
  have e2 : ((its ++ [(⟨last + 1, due, x⟩ : Itm)]).map encI).flatten = (its.map encI).flatten ++ [[.int .i64 (last + 1), .int .u64 due, x]].flatten := by simp [encI]
  rw [← e2] at o2
  have hmem : ∀ it ∈ its ++ [(⟨last + 1, due, x⟩ : Itm)], it ∈ its ∨ it = ⟨last + 1, due, x⟩ := by
    intro it hit
    simpa using hit
  have hk1 : okK (last + 1) := okK_of (by omega) (by omega)
  obtain ⟨p3, t3, ft3⟩ := hT.lay (its' := its ++ [(⟨last + 1, due, x⟩ : Itm)]) t2' (by rw [List.length_append]; exact o2) (by rcases b2 with e | e; exact .inl e; exact .inr (.inr ⟨_, e, by omega⟩)) (fun it hit => by rcases hmem it hit with e | rfl; exact hT.one it e; exact h1) (fun it hit => by rcases hmem it hit with e | rfl; exact hT.oks it e; exact hk1) (by simp; omega)
  have P3 := Lib.hid p3
  have F3 := Lib.hid ft3
  have T3 := Lib.hid t3
  clear p3 o2 t2 t2' b2 e2 hmem t3 ft3 hw4 hS q1 g0 hrow2 hnw z1 tb hT c0 c1 c2
  generalize w2.setCell ⟨h, 0, none⟩ (.slice av2 (its.length + 1) cv2) = w3 at *
  obtain ⟨c0, c1, c2⟩ := P3.out.cells
  try simp only [List.length_append, List.length_singleton] at c0
  have hsn : (its ++ [(⟨last + 1, due, x⟩ : Itm)])[its.length]? = some ⟨last + 1, due, x⟩ := by simp
  have hnd : ((its ++ [(⟨last + 1, due, x⟩ : Itm)]).map Itm.id).Nodup := by
    rw [List.map_append, List.nodup_append]
    refine ⟨HK.out.ids, by simp, ?_⟩
    intro a ha b hb
    simp at hb
    obtain ⟨y, hy, rfl⟩ := List.mem_map.1 ha
    have := (HK.out.top y hy).2
    omega
  have hix : IxB kv (its ++ [(⟨last + 1, due, x⟩ : Itm)]) its.length := by
    intro j y hj hy
    have hjl := (List.getElem?_eq_some_iff.1 hy).1
    simp at hjl
    rw [List.getElem?_append_left (by omega)] at hy
    exact HK.out.ix.at_ j y hy
  have HUP := Lib.hid (up_any h m _ _ kv (last + 1) its.length _ w3 P3.out hsn hnd hix HK.out.heap.snoc)
  have HND := Lib.hid hnd
  clear hsn hnd hix
  have hwl : IntKind.i64.wrap ((its.length : Int) + 1 - 1) = (its.length : Int) := by rw [IntKind.wrap_i64] <;> omega
  go_wp2_with fail
  refine HUP.out.mono ?_
  rintro e w4 ⟨j, its4, kv4, rfl, hj, hp4, hperm4, _, hh4, ha4, ho4, t4⟩
  have hkids : Kids Itm.key (its ++ [(⟨last + 1, due, x⟩ : Itm)]) its.length := by
    intro b hb hp u z hu hz
    have := (List.getElem?_eq_some_iff.1 hz).1
    simp at this
    unfold par at hp
    omega
  have hwx := HK.out.hp.hdr
  have B4 := Lib.hid (HB.sifted (last := last + 1) hp4 hperm4 HND.out (hh4 hkids) ha4 ho4 (by
    intro id hid
    exact HK.out.ix.no id (fun y hy => hid y (by simp [hy]))) (by
    intro y hy
    simp at hy
    rcases hy with hy | rfl
    · have := HK.out.top y hy
      omega
    · simp
      omega) (by omega) (by omega))
  have T4 := Lib.hid (show Touch (Hp.foot h m (.slice av its.length cv)) w w4 from (t1.mono (S' := Hp.foot h m (.slice av its.length cv)) (by simp [Hp.foot])).trans ((TW.out.trans T3.out (fun y hy => .inl hy)).trans t4 (by
    intro y hy
    have hf := F3.out y (by simp only [Hp.foot, List.mem_cons] at hy ⊢; exact .inr hy)
    rcases hf with hf | hf
    · exact .inl hf
    · exact .inr (Nat.le_trans TW.out.size hf))) (fun y hy => .inl hy))
  have F4 := Lib.hid (show Foot h m (.slice av its.length cv) (.slice av2 (its.length + 1) cv2) w from by
    intro y hy
    rcases F3.out y hy with hf | hf
    · exact .inl hf
    · exact .inr (Nat.le_trans (Nat.le_trans t1.size TW.out.size) hf))
  have PM := Lib.hid hperm4
  have P4 := Lib.hid hp4
  obtain ⟨c0, c1, c2⟩ := hp4.cells
  clear hp4 hperm4 hh4 ha4 ho4 t4 hkids hwx
  go_wp2_with fail
  go_ret
  exact ⟨_, its4, kv4, rfl, B4.out, PM.out, F4.out, T4.out⟩
end Go.Proofs.YtobkanlnnniabaaGreat.G

/-
  slices.Clone and slices.SortFunc at the heap's items.
-/
import Derived.Shelf.SlSortCmp.NoneTotal
import Derived.Test.YtpbabdoecjlifaaUdS
import Derived.Test.YtpbabdoecjlifaaLayP
import Derived.Test.YtpbabdoecjlifaaSortK
import Derived.Lib.BufferMore
namespace Go.Proofs.Ytpbabdoecjlifaa.S
open Go.RowKit Go.Sort Go.Shelf
set_option linter.unusedVariables false
set_option linter.unusedSimpArgs false

/-- A slice of items of the call's own, made since w0. -/
structure OwnI (w0 w : World) (v : Value) (ks : List Itm) : Prop where
  row : w.ownsRow 0 97 3 v ks.length (ks.map encI).flatten
  new : ∀ g, v.ownBlock = some g → w0.heap.size ≤ g
  one : ∀ it ∈ ks, it.x.oneCell' = true
theorem OwnI.lt {w0 w : World} {v : Value} {ks : List Itm} (h : OwnI w0 w v ks) (g : Nat) (hg : v.ownBlock = some g) : g < w.heap.size := (h.row.lt g hg).2
section
variable (its : List Itm)
def encS (a : {x // x ∈ its}) : List Value := encI a.1
def cmpS (a b : {x // x ∈ its}) : Int := cmpT a.1.key b.1.key
theorem ltS (a b : {x // x ∈ its}) : ltOf (cmpS its) a b = decide (cmpT a.1.key b.1.key < 0) := rfl
theorem swoS : SWO (ltOf (cmpS its)) where
  irrefl x := by rw [ltS]; simp only [cmpT_lt, decide_eq_false_iff_not]; unfold lt; omega
  trans x y z h1 h2 := by rw [ltS] at *; simp only [cmpT_lt, decide_eq_true_eq] at *; unfold lt at *; omega
  ntrans x y z h1 h2 := by rw [ltS] at *; simp only [cmpT_lt, decide_eq_false_iff_not] at *; unfold lt at *; omega
theorem totS (hn : (its.map Itm.id).Nodup) (x y : {x // x ∈ its}) (h1 : ltOf (cmpS its) x y = false) (h2 : ltOf (cmpS its) y x = false) : x = y := by
  rw [ltS] at *
  simp only [cmpT_lt, decide_eq_false_iff_not] at *
  have e : x.1.id = y.1.id := by
    have : x.1.key.id = y.1.key.id := by unfold lt at *; omega
    exact this
  obtain ⟨x, hx⟩ := x
  obtain ⟨y, hy⟩ := y
  obtain ⟨i, hi, ei⟩ := List.getElem_of_mem hx
  obtain ⟨j, hj, ej⟩ := List.getElem_of_mem hy
  by_cases hij : i = j
  · subst hij
    exact Subtype.ext (ei.symm.trans ej)
  · exact absurd e (ids_ne hn (by rw [List.getElem?_eq_getElem hi, ei]) (by rw [List.getElem?_eq_getElem hj, ej]) hij)
def sortS : List {x // x ∈ its} := its.attach.mergeSort fun x y => !ltOf (cmpS its) y x
def sortI : List Itm := (sortS its).map (·.1)
theorem sortI_perm : (sortI its).Perm its := by
  have h := (List.mergeSort_perm its.attach (fun x y => !ltOf (cmpS its) y x)).map (·.1)
  rw [List.attach_map_subtype_val] at h
  exact h
theorem sortI_sorted : (sortI its).Pairwise fun x y => le x.key y.key := by
  unfold sortI
  rw [List.pairwise_map]
  have h : (sortS its).Pairwise (fun x y => (!ltOf (cmpS its) y x) = true) := by
    refine List.pairwise_mergeSort (le := fun x y => !ltOf (cmpS its) y x) ?_ ?_ its.attach
    · intro a b c h1 h2
      simp only [Bool.not_eq_true'] at *
      exact (swoS its).ntrans _ _ _ h2 h1
    · intro a b
      simp only [ltS]
      simp
      by_cases h : cmpT b.1.key a.1.key < 0
      · right
        rcases Int.lt_or_le (cmpT a.1.key b.1.key) 0 with h2 | h2
        · have h3 := (cmpT_lt _ _).1 h
          have h4 := (cmpT_lt _ _).1 h2
          unfold lt at h3 h4
          omega
        · exact h2
      · left
        omega
  refine h.imp fun {x y} hxy => ?_
  simp only [ltS, cmpT_lt, Bool.not_eq_true', decide_eq_false_iff_not] at hxy
  exact not_lt.1 hxy
end
theorem sizeOf97 : ∀ w, (Go.sizeOf 97).run Try.prog w = .ok 3 w := by
  intro w
  kernel_rfl
theorem isAgg97 : ∀ w, (isAgg 97).run Try.prog w = .ok true w := by
  intro w
  kernel_rfl
theorem cmpLaysS (its : List Itm) [Inhabited {x // x ∈ its}] (blk off size : Nat) (w : World) : CmpLays Try.prog 61 #[] (encS its) 3 (cmpS its) blk off size w := fun _ _ _ _ x y => cmp_any x.1 y.1 _
theorem encS_flat (its : List Itm) (l : List {x // x ∈ its}) : (l.map (encS its)).flatten = ((l.map (·.1)).map encI).flatten := by
  rw [List.map_map]
  rfl
set_option maxHeartbeats 1000000 in
theorem sort_any (v : Value) (ks : List Itm) (w0 w : World) (ho : OwnI w0 w v ks) (hl : ks.length ≤ 1000) (hn : (ks.map Itm.id).Nodup) :
    Calls Try.prog 60 #[v, .func (.func 61) #[] #[]] w fun e w' => e = .returned (.tuple #[]) ∧ OwnI w0 w' v (sortI ks) ∧ Touch v.ownBlock.toList w w' := by
  have eg : ∀ args w, (callFunc 61 args).run Try.prog w = .ok (.enter 61 args) w := enters_of Try.func61 (by kernel_rfl) rfl
  obtain ⟨a, c, rfl, _, _, h3⟩ := owns_form ho.row
  cases hks : ks with
  | nil =>
    subst hks
    have hcon := AnyF.slices_SortFunc_none { Try.sortS with } a c (.func (.func 61) #[] #[]) w
    change Calls Try.prog 60 _ _ _ at hcon
    refine hcon.mono fun e w' ⟨he, hw⟩ => ⟨he, ?_⟩
    subst hw
    have : sortI [] = [] := by simp [sortI, sortS]
    rw [this]
    exact ⟨ho, Touch.refl _ _⟩
  | cons k ks' =>
    rw [← hks]
    haveI : Inhabited {x // x ∈ ks} := ⟨⟨k, by rw [hks]; simp⟩⟩
    obtain ⟨g, rfl⟩ := h3 (by rw [hks]; simp)
    have hrow : w.ownsRow 0 97 3 (.slice (some ⟨g, 0, none⟩) ks.attach.length c) ks.attach.length (ks.attach.map (encS ks)).flatten := by
      rw [encS_flat, List.attach_map_subtype_val, List.length_attach]
      exact ho.row
    have hone : ∀ (x : {x // x ∈ ks}), ∀ u ∈ encS ks x, u.oneCell' = true := by
      intro x u hu
      simp only [encS, encI, List.mem_cons, List.not_mem_nil, or_false] at hu
      rcases hu with rfl | rfl | rfl
      · rfl
      · rfl
      · exact ho.one x.1 x.2
    have hcon := AnyQ.slices_SortFunc_total Try.sortS 3 isAgg97 sizeOf97 (encS ks) (fun _ => rfl) hone (cmpS ks) (swoS ks) 61 #[] g 0 c ks.attach.toArray w eg (cmpLaysS ks g 0 _ w) (owns_holds (enc := encS ks) (k := 3) (fun _ => rfl) ks.attach hrow) (ho.lt g rfl) (by simp; omega) (totS ks hn)
    change Calls Try.prog 60 _ _ _ at hcon
    have hl2 : (sortS ks).length = ks.attach.length := (List.mergeSort_perm ks.attach _).length_eq
    have hl3 : (sortI ks).length = ks.length := (sortI_perm ks).length_eq
    have hsz : ks.attach.toArray.size = ks.length := by simp
    rw [hsz] at hcon
    refine hcon.mono fun e w' ⟨he, n, os, hw⟩ => ⟨he, ?_⟩
    have hs := owns_sorted (enc := encS ks) (k := 3) (n := n) (os := os) (fun _ => rfl) ks.attach (sortS ks) hl2 hrow
    have ht := touch_sorted (enc := encS ks) (k := 3) w g n (sortS ks).toArray os
    have hw2 : w' = sortWorldK (encS ks) 3 w g 0 n (sortS ks).toArray os := by rw [hw]; rfl
    rw [hw2]
    refine ⟨⟨?_, ho.new, fun it hit => ho.one it ((sortI_perm ks).mem_iff.1 hit)⟩, by simpa [Value.ownBlock] using ht⟩
    rw [encS_flat, hl2, List.length_attach] at hs
    rw [hl3]
    exact hs
theorem owns_empty (w : World) (T : TypeId) : (w.alloc (.cells #[] T)).ownsRow 0 T 3 (.slice (some ⟨w.heap.size, 0, none⟩) 0 0) 0 [] :=
  ⟨rfl, .inr ⟨w.heap.size, 0, #[], rfl, Nat.zero_le _, heap_alloc_new w _, Nat.le_refl _, Nat.zero_le _, rfl, rfl⟩⟩
set_option maxRecDepth 100000 in
set_option maxHeartbeats 1000000 in
theorem clone_any (v : Value) (its : List Itm) (w : World) (h : w.ownsRow 0 97 3 v its.length (its.map encI).flatten) (h1 : ∀ it ∈ its, it.x.oneCell' = true) (hfew : its.length ≤ 1000) :
    Calls Try.prog 59 #[v] w fun e w' => ∃ v', e = .returned v' ∧ OwnI w w' v' its ∧ Touch [] w w' := by
  obtain ⟨i97, z97, hi97, hz97, hs97, hb97, hc97⟩ := info_parts info97
  obtain ⟨a, c, rfl, hc1, hc2, h3⟩ := owns_form h
  have hfl : (its.map encI).flatten.length = its.length * 3 := by rw [flat_len (encI_len its), List.length_map]
  have hone : ∀ u ∈ (its.map encI).flatten, u.oneCell' = true := by
    intro u hu
    obtain ⟨l, hl, hul⟩ := List.mem_flatten.1 hu
    obtain ⟨it, hit, rfl⟩ := List.mem_map.1 hl
    simp only [encI, List.mem_cons, List.not_mem_nil, or_false] at hul
    rcases hul with rfl | rfl | rfl
    · rfl
    · rfl
    · exact h1 it hit
  cases a with
  | none =>
    have hn : its = [] := by
      cases its with
      | nil => rfl
      | cons k ks => obtain ⟨g, hg⟩ := h3 (by simp); cases hg
    subst hn
    have hc0 : c = 0 := by
      rcases h.2 with ⟨e, _⟩ | ⟨g', cap, cur, hv, _⟩
      · simpa using e
      · simp at hv
    subst hc0
    simp only [List.length_nil]
    have heq := fun w => Go.Lib.run_eql_slice_nil_nil (P := Try.prog) w 0 0 Try.underlying91
    clear h3 h
    go_enter Try.func59, Try.ntmps59
    go_wp2_with fail
    go_ret
    exact ⟨_, rfl, ⟨World.ownsRow_nil _ _ _ _, by simp [Value.ownBlock], by simp⟩, Touch.refl _ _⟩
  | some ad =>
    have hcells : ∀ j u, (its.map encI).flatten[j]? = some u → w.cell? (ad.add j) = some u := by
      intro j u hu
      rcases h.2 with ⟨e, _⟩ | ⟨g', cap, cur, hv, hb, hh, hn, hm, hs, ht⟩
      · simp at e
      · simp at hv
        obtain ⟨rfl, rfl⟩ := hv
        rw [Addr.add_lit]
        simpa using owns_cell h j u hu
    have HR := Lib.hid hcells
    have tA := (Touch.refl [] w).alloc (.cells #[] 97)
    have hown := owns_empty w 97
    have heq := fun w => Go.Lib.run_eql_slice_some_nil (P := Try.prog) w ad its.length c Try.underlying91
    clear h3 hcells h
    go_enter Try.func59, Try.ntmps59
    go_wp2_with (at_builtin; refine wpList_app _ (by rfl) _ _ 91 (by rfl) 97 i97 _ 3 32 Try.underlying91 hi97 hz97 hs97 hb97 hc97 (by omega) _ 0 [] (by rfl) hown (some ad) its.length c (its.map encI).flatten (by rfl) hfl (by intro h; cases h) (by intro ad' h j u hu; cases h; exact tA.cell (HR.out j u hu) (by simp)) hone (by unfold maxLen; omega) (by omega) ?_)
    intro v' w2 o2 t2 b2
    have ho : OwnI w w2 v' its := ⟨o2, by
      intro g hg
      rcases b2 with e | e
      · rw [e] at hg
        simp [Value.ownBlock] at hg
        omega
      · rw [e] at hg
        cases hg
        omega, h1⟩
    have T2 : Touch [] w w2 := tA.trans t2 (by intro y hy; right; simp [Value.ownBlock] at hy; omega)
    have HO := Lib.hid ho
    clear ho o2 t2 b2 hown tA
    try simp only [Act.put]
    go_wp2_with fail
    go_ret
    exact ⟨_, rfl, HO.out, T2⟩
end Go.Proofs.Ytpbabdoecjlifaa.S

/-
  The contract of the descriptor table's Endpoints: the open endpoints, sorted.
-/
import Derived.Test.YtnglkdpmkgehoaaSrt
import Derived.Test.YtnglkdpmkgehoaaSortK
import Derived.Test.YtnglkdpmkgehoaaLayP
namespace Go.Proofs.Ytnglkdpmkgehoaa
open Go.RowKit Go.Sort Go.Shelf
set_option linter.unusedVariables false
set_option linter.unusedSimpArgs false

theorem info23 : (Try.prog.info? 23).map (fun i => (i.zero, i.size, i.bytes)) = some (some (.agg #[.int .i64 0, .int .i64 0]), 2, 16) := by kernel_rfl
/-- A slice of endpoints of the call's own, made since w0. -/
structure OwnK (w0 w : World) (v : Value) (ks : List Key) : Prop where
  row : w.ownsRow 0 23 2 v ks.length (ks.map encL).flatten
  new : ∀ g, v.ownBlock = some g → w0.heap.size ≤ g
theorem OwnK.nil (w0 w : World) : OwnK w0 w (.slice none 0 0) [] := ⟨World.ownsRow_nil _ _ _ _, by simp [Value.ownBlock]⟩
theorem OwnK.touch {S : List Nat} {w0 w w' : World} {v : Value} {ks : List Key} (h : OwnK w0 w v ks) (t : Touch S w w') (hn : ∀ g, v.ownBlock = some g → g ∉ S) : OwnK w0 w' v ks := ⟨t.owns h.row hn, h.new⟩
theorem OwnK.lt {w0 w : World} {v : Value} {ks : List Key} (h : OwnK w0 w v ks) : ∀ g, v.ownBlock = some g → g < w.heap.size := fun g hg => (h.row.lt g hg).2
theorem OwnK.older {w0 w1 w : World} {v : Value} {ks : List Key} (h : OwnK w1 w v ks) (hz : w0.heap.size ≤ w1.heap.size) : OwnK w0 w v ks := ⟨h.row, fun g hg => Nat.le_trans hz (h.new g hg)⟩
theorem encL_len (x : Key) : (encL x).length = 2 := rfl
theorem encL_one (x : Key) : ∀ v ∈ encL x, v.oneCell' = true := by
  intro v hv
  simp only [encL, List.mem_cons, List.not_mem_nil, or_false] at hv
  rcases hv with rfl | rfl <;> rfl

theorem rangeT (t m u : Nat) (live : List Fd) (used : List Bool) (total : Int) (w : World) (h : Tab w t m u live used total) :
    ∃ w1 es clock, (Instr.range 57 (.map (some m))).run Try.prog w = .ok (.pointer (some ⟨w.heap.size, 0, none⟩)) w1 ∧ MpE encK okK w1 m es clock (live.map fdv) ∧ It w1 w.heap.size m es clock [] ∧ Touch [] w w1 ∧ w1.heap.size = w.heap.size + 1 := by
  obtain ⟨es, clock, hm⟩ := h.mp
  obtain ⟨h1, h2⟩ := hm.range (P := Try.prog) (k := 23) Try.underlying57
  exact ⟨_, es, clock, h1, hm.touch ((Touch.refl [] w).alloc _) (by simp), h2, (Touch.refl [] w).alloc _, by simp⟩

set_option maxRecDepth 100000 in
set_option maxHeartbeats 2000000 in
theorem collect_any (t m u : Nat) (live : List Fd) (used : List Bool) (total : Int) (w : World) (h : Tab w t m u live used total)
    (HS : ∀ (v : Value) (ks : List Key) (wr : World), OwnK w wr v ks → ks.Perm (live.map (·.key)) → Touch [] w wr → Calls Try.prog 37 #[v, .func (.func 38) #[] #[]] wr fun e w' => e = .returned (.tuple #[]) ∧ ∃ ks', OwnK w w' v ks' ∧ ks'.Perm (live.map (·.key)) ∧ ks'.Pairwise (fun x y => cmpK y x < 0 → False) ∧ Touch [] w w') :
    Calls Try.prog 22 #[.pointer (some ⟨t, 0, none⟩)] w fun e w' => ∃ v ks, e = .returned v ∧ OwnK w w' v ks ∧ ks.Perm (live.map (·.key)) ∧ ks.Pairwise (fun x y => cmpK y x < 0 → False) ∧ Touch [] w w' := by
  obtain ⟨i23, hi23, hz23, hs23, hb23⟩ := info_parts info23
  obtain ⟨c0, c1, c2⟩ := h.cells
  obtain ⟨w1, es, clock, hr, hm, hit, t1, z1⟩ := rangeT t m u live used total w h
  have hfew := h.few
  have hml : m < w.heap.size := h.lt m (by simp [Tab.foot])
  have Z1 := Lib.hid z1
  have HS' := Lib.hid HS
  clear z1 h HS c2
  go_enter Try.func22, Try.ntmps22
  go_wp2_with fail
  clear hr
  go_loopw [3] (fun vn wr => ∃ S, It wr w.heap.size m es clock S ∧ OwnK w wr vn ((came (live.map fdv) S).map Prod.fst) ∧ (∀ g, vn.ownBlock = some g → g ≠ w.heap.size) ∧ Touch [] w wr)
    (fun vn _ => live.length - (match vn with | .slice _ n _ => n | _ => 0))
  case atStart => exact ⟨[], hit, OwnK.nil _ _, by simp [Value.ownBlock], t1⟩
  case round =>
    obtain ⟨S, hit2, ho, hne, ht⟩ := hrel
    have hb := hit2.bound hm
    have hlen := came_len hb
    have hS := few_of_lt _ S hit2.nodup hb
    simp only [List.length_map] at hS hb
    have hmr : MpE encK okK wr m es clock (live.map fdv) := by
      have := ht.at (w := w) (w' := wr) (b := m) (o := .map es clock) (by have := hm.blk; rwa [t1.block m hml (by simp)] at this) (by simp)
      exact ⟨this, hm.st, hm.eq, hm.oks⟩
    have hkl : ((came (live.map fdv) S).map Prod.fst).length = S.length := by rw [List.length_map, hlen]
    generalize hks : (came (live.map fdv) S).map Prod.fst = ks at *
    have HK := Lib.hid hks
    have HL := Lib.hid hkl
    clear hks hkl hlen
    obtain ⟨a, cp, rfl, ha1, ha2, _⟩ := owns_form ho.row
    rcases hmr.next (P := Try.prog) hit2 (by omega) 0 with ⟨hall, hnx⟩ | ⟨j, p, w2, hj, hp, hnx, t2, z2, hit3, hen⟩
    · have hperm := came_all (l := live.map fdv) hit2.nodup (by simpa using hb) hall
      have hpk : ks.Perm (live.map (·.key)) := by
        have := hperm.map Prod.fst
        rw [HK.out] at this
        simpa [List.map_map, Function.comp_def, fdv] using this
      clear hperm hall hmr hb hm t1 hit hit2 hne
      go_wp2_with fail
      refine (HS'.out _ _ wr ho hpk ht).mono ?_
      rintro e w3 ⟨rfl, ks', ho3, hp3, hs3, t3⟩
      go_wp2_with fail
      go_ret
      exact ⟨_, ks', rfl, ho3, hp3, hs3, t3⟩
    · have hlj : j < live.length := by
        have := (List.getElem?_eq_some_iff.1 hp).1
        simpa using this
      have hSlt : S.length + 1 ≤ live.length := by
        have hn : (S ++ [j]).Nodup := hit3.nodup
        have := few_of_lt live.length (S ++ [j]) hn (by
          intro x hx
          rcases List.mem_append.1 hx with hx | hx
          · exact hb x hx
          · simp at hx; omega)
        simpa using this
      have hsnoc := came_snoc (S := S) hp
      have T2 : Touch [] w w2 := ht.trans t2 (by simp)
      have ho2 := ho.touch t2 (by intro g hg; simpa using hne g hg)
      have HSN := Lib.hid hsnoc
      have Z2 := Lib.hid z2
      obtain ⟨⟨pc, pa⟩, pv⟩ := p
      simp only [encK] at hnx hen
      clear hsnoc z2 hmr t2 hp hb ho
      have hrow3 := (ho2.touch ((Touch.refl [] w2).alloc (.cells #[.int .i64 pc, .int .i64 pa] 23)) (by simp)).row
      go_wp2_with (first
        | (refine wpList_store_new rfl 23 _ _ rfl _ _ [.int .i64 pc, .int .i64 pa] (by rfl) (by rfl) rfl size23 (by simp [Value.oneCell']) ?_)
        | (refine wpList_buildSlice_rows rfl 39 1 _ rfl 23 2 i23 _ Try.underlying39 hi23 hz23 hs23 (by omega) [[.int .i64 pc, .int .i64 pa]] rfl (by simp) (by omega) (by rfl) ?_)
        | (at_builtin; refine wpList_app_rec _ (by rfl) _ _ 39 (by rfl) 23 i23 _ 2 16 Try.underlying39 hi23 hz23 hs23 hb23 rfl (by omega) _ _ _ (by rfl) hrow3 [.int .i64 pc, .int .i64 pa] 23 (by rfl) rfl (by simp [Value.oneCell']) (by rw [HL.out]; unfold maxLen; omega) (by rw [HL.out]; omega) ?_))
      intro vo w3 ho3 t3 hv3
      have z2 := Z2.out
      have hz0 := ht.size
      have hnew3 : ∀ g, vo.ownBlock = some g → w.heap.size ≤ g ∧ g ≠ w.heap.size := by
        intro g hg
        have hlt := hit2.lt
        rcases hv3 with e | e
        · rw [e] at hg
          exact ⟨ho2.new g hg, hne g hg⟩
        · rw [e] at hg
          simp at hg
          omega
      have hkeys : (came (live.map fdv) (S ++ [j])).map Prod.fst = ks ++ [(pc, pa)] := by rw [HSN.out, List.map_append, HK.out]; rfl
      have ho4 : OwnK w w3 vo ((came (live.map fdv) (S ++ [j])).map Prod.fst) := by
        rw [hkeys]
        refine ⟨?_, fun g hg => (hnew3 g hg).1⟩
        rw [List.map_append, List.flatten_append, List.length_append]
        simpa [encL] using ho3
      have hown0 : ∀ g, (Value.slice a ks.length cp).ownBlock = some g → g ≠ w.heap.size := hne
      have hit4 := (hit3.touch ((Touch.refl [] w2).alloc (.cells #[.int .i64 pc, .int .i64 pa] 23)) (by simp)).touch t3 (by intro hm2; exact hown0 _ (by simpa using hm2) rfl)
      have T3 : Touch [] w w3 := (T2.alloc (.cells #[.int .i64 pc, .int .i64 pa] 23)).trans t3 (fun g hg => .inr (ho2.new g (by simpa using hg)))
      obtain ⟨a3, cp3, rfl, _⟩ := owns_form ho3
      have HF := Lib.hid (show It w3 w.heap.size m es clock (S ++ [j]) ∧ OwnK w w3 (.slice a3 (ks.length + 1) cp3) ((came (live.map fdv) (S ++ [j])).map Prod.fst) ∧ (∀ g, (Value.slice a3 (ks.length + 1) cp3).ownBlock = some g → g ≠ w.heap.size) ∧ Touch [] w w3 from ⟨hit4, ho4, fun g hg => (hnew3 g hg).2, T3⟩)
      clear hkeys ho4 hit4 T3 hnew3 hown0 ho3 t3 hv3 hrow3 hz0 z2 hm
      go_wp2_with fail
      go_roundw
      case rel => exact ⟨S ++ [j], HF.out⟩
      case measure =>
        have := HL.out
        simp
        omega
end Go.Proofs.Ytnglkdpmkgehoaa

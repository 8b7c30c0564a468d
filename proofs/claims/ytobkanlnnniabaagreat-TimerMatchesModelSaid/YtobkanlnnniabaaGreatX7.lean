/-
  Merged texts: RgG, RhG, RcG.
-/
import Derived.Test.YtobkanlnnniabaaGreatX6

/-
  The reference's Handles and Descendants.
-/
namespace Go.Proofs.YtobkanlnnniabaaGreat.G
open Go.RowKit
set_option linter.unusedVariables false
set_option linter.unusedSimpArgs false
-- RL w r v
section
variable {w : World} {r : Nat} {v : Value} {A : TA} {last : Int}
theorem OwnN.nil' (w0 w : World) : OwnN w0 w (.slice none 0 0) [] := ⟨⟨by simp, .inl ⟨rfl, rfl⟩⟩, by simp [Value.ownBlock]⟩
theorem ids_at {i : Nat} {a : Tm × Tag} (h : A[i]? = some a) : (ids A)[i]? = some a.1.id := by simp [ids, tids, h]
theorem ids_len (A : TA) : (ids A).length = A.length := by simp [ids, tids]
theorem take_snoc {α : Type} {l : List α} {i : Nat} {x : α} (h : l[i]? = some x) : l.take (i + 1) = l.take i ++ [x] := by
  rw [List.take_add_one, h]
  rfl
set_option maxRecDepth 100000 in
set_option maxHeartbeats 4000000 in
theorem rhandles_any (k : RL w r v A last) :
    Calls Tryz.prog 38 #[.pointer (some ⟨r, 0, none⟩)] w fun e w' => ∃ v', e = .returned v' ∧ OwnN w w' v' (ids A) ∧ Touch [] w w' := by
  have HK := Lib.hid k
  have hfew := k.few
  obtain ⟨b, hb⟩ : ∃ b, b = v.ownBlock.getD 0 := ⟨_, rfl⟩
  have hvf := k.rd.form
  rw [rA_len] at hvf
  obtain ⟨a, cap, rfl, hc, hcm⟩ := hvf
  have HB := Lib.hid hb
  clear hcm k hb
  go_enter Tryz.func38, Tryz.ntmps38
  go_wp2_with fail
  go_loopw [3, 4] (fun vo vi wr => ∃ (i : Nat), vi = .int .i64 i ∧ i ≤ A.length ∧ OwnN w wr vo ((ids A).take i) ∧ Touch [] w wr) (fun _ vi _ => A.length - (intOf vi).toNat)
  case atStart => exact ⟨0, rfl, by omega, by simpa using OwnN.nil' w w, Touch.refl _ _⟩
  case round =>
    obtain ⟨i, rfl, hil, ho, ht⟩ := hrel
    have HO := Lib.hid ho
    have HT := Lib.hid ht
    have KR := HK.out.touch0 ht
    have c0 := KR.c0
    have hr := KR.rd
    rw [← HB.out] at hr
    clear ho ht KR
    by_cases hlt : i < A.length
    · have hb1 : (i : Int) < (A.length : Int) := by omega
      have hx := List.getElem?_eq_getElem hlt
      generalize A[i] = o at hx
      obtain ⟨off, rfl, rI⟩ := Rd.atA hr hx
      obtain ⟨e0, _, _, _⟩ := cellsA rI
      have HX := Lib.hid (take_snoc (ids_at hx))
      have hwi : IntKind.i64.wrap ((i : Int) + 1) = (i : Int) + 1 := by rw [IntKind.wrap_i64] <;> omega
      have TB := Lib.hid ((Touch.refl [] wr).alloc (.cells #[.int .i64 o.1.id] 3))
      have HOB := Lib.hid (HO.out.touch TB.out (by simp))
      have HSZ := Lib.hid (HT.out.trans TB.out (by simp)).size
      clear hx hr
      go_wp2_with (at_builtin; refine wpList_appN (by rfl) _ _ (by rfl) _ _ ((ids A).take i) [o.1.id] (by rfl) (by rfl) HOB.out HSZ.out (OwnN.one wr o.1.id).row (by simp; omega) ?_)
      intro v3 w3 o3 t3
      have HO3 := Lib.hid o3
      have HT3 := Lib.hid ((HT.out.trans TB.out (by simp)).trans t3 (by intro y hy; right; exact HO.out.new y (by simpa using hy)))
      clear o3 t3
      go_wp2_with fail
      go_roundw
      case rel => exact ⟨i + 1, by simp, by omega, by rw [HX.out]; exact HO3.out, HT3.out⟩
      case measure => simp [intOf] <;> omega
    · have hb1 : ¬ (i : Int) < (A.length : Int) := by omega
      have HE := Lib.hid (show OwnN w wr u3 (ids A) by
        have := HO.out
        rw [List.take_of_length_le (by rw [ids_len]; omega)] at this
        exact this)
      go_wp2_with fail
      go_ret
      exact ⟨u3, rfl, HE.out, HT.out⟩
theorem rdesc_no (k : RL w r v A last) {id : Int} (hi : id ∉ ids A) :
    Calls Tryz.prog 32 #[.pointer (some ⟨r, 0, none⟩), .int .i64 id] w fun e w' => e = .returned (.slice none 0 0) ∧ w = w' := by
  have HF := Lib.hid (find_no k hi)
  clear k
  go_enter Tryz.func32, Tryz.ntmps32
  go_wp2_with fail
  refine HF.out.mono ?_
  rintro e w' ⟨rfl, hw⟩
  obtain rfl := hw
  go_wp2_with fail
  go_ret
  exact ⟨rfl, rfl⟩
theorem desc_next {l : List Int} {i : Nat} {a : Tm × Tag} (h : A[i]? = some a) : descN ((A.take (i + 1)).map Prod.fst) l = descN ((A.take i).map Prod.fst) l ++ if a.1.id ∈ l.tail then [a.1.id] else [] := by
  rw [take_snoc h, List.map_append]
  unfold descN
  rw [List.filter_append, List.map_append]
  split <;> simp_all
theorem desc_few (l : List Int) (i : Nat) : (descN ((A.take i).map Prod.fst) l).length ≤ A.length := by
  unfold descN
  rw [List.length_map]
  refine Nat.le_trans (List.length_filter_le _ _) ?_
  simp
  omega
/-- A timer is below id exactly when its parent is in the subtree. -/
theorem below_par (h : TOk A last) {id : Int} {l : List Int} (hs : Sub (A.map Prod.fst) id l) {a : Tm × Tag} (ha : a ∈ A) : a.1.id ∈ l.tail ↔ a.1.par ∈ l := by
  rw [hs.tail]
  have hm : a.1 ∈ A.map Prod.fst := List.mem_map.2 ⟨a, ha, rfl⟩
  constructor
  · rintro ⟨h1, h2⟩
    exact (hs.par h.tree hm h2).1 h1
  · intro h1
    have h2 : a.1.id ≠ id := by
      intro e
      have h3 := h.tree.up a.1 hm
      have h4 := Bfs.ge h.tree hs a.1.par h1
      omega
    exact ⟨(hs.par h.tree hm h2).2 h1, h2⟩
set_option maxRecDepth 100000 in
set_option maxHeartbeats 8000000 in
theorem rdesc_at (k : RL w r v A last) (h : TOk A last) {i0 : Nat} {a0 : Tm × Tag} (hi0 : A[i0]? = some a0) {l : List Int} (hs : Sub (A.map Prod.fst) a0.1.id l) :
    Calls Tryz.prog 32 #[.pointer (some ⟨r, 0, none⟩), .int .i64 a0.1.id] w fun e w' => ∃ v', e = .returned v' ∧ OwnN w w' v' (descN (A.map Prod.fst) l) ∧ Touch [] w w' := by
  have HK := Lib.hid k
  have HOK := Lib.hid h
  have HS := Lib.hid hs
  have HI0 := Lib.hid hi0
  have hfew := k.few
  have hil0 := (List.getElem?_eq_some_iff.1 hi0).1
  obtain ⟨b, hb⟩ : ∃ b, b = v.ownBlock.getD 0 := ⟨_, rfl⟩
  have hvf := k.rd.form
  rw [rA_len] at hvf
  obtain ⟨a, cap, rfl, hc, hcm⟩ := hvf
  have HB := Lib.hid hb
  clear hcm k h hs hi0 hb
  go_enter Tryz.func32, Tryz.ntmps32
  go_wp2_with fail
  refine (find_at HK.out HOK.out.ids HI0.out).mono ?_
  rintro e w' ⟨rfl, hw⟩
  obtain rfl := hw
  go_wp2_with fail
  go_loopw [5, 6, 7] (fun vo vi vk wr => ∃ (i : Nat), vi = .int .i64 i ∧ i ≤ A.length ∧ OwnN w wr vo (descN ((A.take i).map Prod.fst) l) ∧ Touch [] w wr) (fun _ vi _ _ => A.length - (intOf vi).toNat)
  case atStart => exact ⟨0, rfl, by omega, by simpa [descN] using OwnN.nil' w w, Touch.refl _ _⟩
  case round =>
    obtain ⟨i, rfl, hil, ho, ht⟩ := hrel
    have HO := Lib.hid ho
    have HT := Lib.hid ht
    have HKR := Lib.hid (HK.out.touch0 ht)
    have c0 := HKR.out.c0
    have hr := HKR.out.rd
    rw [← HB.out] at hr
    clear ho ht
    by_cases hlt : i < A.length
    · have hb1 : (i : Int) < (A.length : Int) := by omega
      have hx := List.getElem?_eq_getElem hlt
      generalize A[i] = o at hx
      obtain ⟨off, rfl, rI⟩ := Rd.atA hr hx
      obtain ⟨e0, e1, _, _⟩ := cellsA rI
      have HX := Lib.hid (desc_next (l := l) hx)
      have HBP := Lib.hid (below_par HOK.out HS.out (List.mem_of_getElem? hx))
      have HXX := Lib.hid hx
      have hwi : IntKind.i64.wrap ((i : Int) + 1) = (i : Int) + 1 := by rw [IntKind.wrap_i64] <;> omega
      have HRR := Lib.hid hr
      clear hx
      go_wp2_with fail
      have HFP : Hid (Calls Tryz.prog 23 #[.pointer (some ⟨r, 0, none⟩), .int .i64 o.1.par] wr fun e w' => (∃ kk : Int, e = .returned (.int .i64 kk) ∧ ((∃ (j : Nat) (q : Tm × Tag), kk = (j : Int) ∧ A[j]? = some q ∧ (o.1.id ∈ l.tail ↔ q.1.id ∈ l)) ∨ (kk = -1 ∧ o.1.id ∉ l.tail))) ∧ wr = w') := Lib.hid (by
        refine (find_any HKR.out o.1.par).mono ?_
        rintro e w' ⟨⟨j, q, hq, he, rfl⟩ | ⟨hno, rfl⟩, rfl⟩
        · exact ⟨⟨_, rfl, .inl ⟨j, q, rfl, hq, by rw [HBP.out, he]⟩⟩, rfl⟩
        · exact ⟨⟨_, rfl, .inr ⟨rfl, fun hm => hno (HS.out.mem _ (HBP.out.1 hm))⟩⟩, rfl⟩)
      refine HFP.out.mono ?_
      rintro e w' ⟨⟨kk, rfl, hkk⟩, hw⟩
      obtain rfl := hw
      clear HFP
      go_wp2_with fail
      go_loopw [7, 5] (fun vk vo' wq => ∃ (kk : Int), vk = .int .i64 kk ∧ vo' = u5 ∧ wq = wr ∧ ((∃ (j : Nat) (q : Tm × Tag), kk = (j : Int) ∧ A[j]? = some q ∧ (o.1.id ∈ l.tail ↔ q.1.id ∈ l)) ∨ (kk = -1 ∧ o.1.id ∉ l.tail))) (fun vk _ _ => (intOf vk + 1).toNat)
      case atStart => exact ⟨kk, rfl, rfl, rfl, hkk⟩
      case round =>
        obtain ⟨kk, rfl, hvo, hwq, hkk⟩ := hrel
        subst hvo
        subst hwq
        rcases hkk with ⟨j, q, rfl, hq, hiff⟩ | ⟨rfl, hno⟩
        · have hjl := (List.getElem?_eq_some_iff.1 hq).1
          obtain ⟨off2, ho2, rI2⟩ := Rd.atA HRR.out hq
          obtain rfl : off = off2 := by simpa using ho2
          obtain ⟨q0, q1, _, _⟩ := cellsA rI2
          have HQ := Lib.hid hq
          have HIFF := Lib.hid hiff
          have hj1 : (0 : Int) ≤ (j : Int) := by omega
          have hj2 : (j : Int) < (A.length : Int) := by omega
          clear hq hiff ho2
          by_cases hcc : q.1.id = a0.1.id
          · have q3 : (q.1.id == a0.1.id) = true := by simp [hcc]
            have HIN := Lib.hid (show o.1.id ∈ l.tail from HIFF.out.2 (by rw [hcc]; exact List.mem_of_getElem? HS.out.head))
            have TB := Lib.hid ((Touch.refl [] wr).alloc (.cells #[.int .i64 o.1.id] 3))
            have HOB := Lib.hid (HO.out.touch TB.out (by simp))
            have HSZ := Lib.hid (HT.out.trans TB.out (by simp)).size
            have HFW := Lib.hid (desc_few (A := A) l i)
            clear hcc
            go_wp2_with (at_builtin; refine wpList_appN (by rfl) _ _ (by rfl) _ _ (descN ((A.take i).map Prod.fst) l) [o.1.id] (by rfl) (by rfl) HOB.out HSZ.out (OwnN.one wr o.1.id).row (by have := HFW.out; simp only [List.length_cons, List.length_nil]; omega) ?_)
            intro v3 w3 o3 t3
            have HO3 := Lib.hid o3
            have HT3 := Lib.hid ((HT.out.trans TB.out (by simp)).trans t3 (by intro y hy; right; exact HO.out.new y (by simpa using hy)))
            clear o3 t3
            go_wp2_with fail
            go_roundw
            case rel => exact ⟨i + 1, by simp, by omega, by rw [HX.out, if_pos HIN.out]; simpa only [List.map_take] using HO3.out, HT3.out⟩
            case measure => simp [intOf] <;> omega
          · have q3 : (q.1.id == a0.1.id) = false := by simp [hcc]
            have HPQ := Lib.hid (HS.out.par HOK.out.tree (List.mem_map.2 ⟨q, List.mem_of_getElem? HQ.out, rfl⟩) hcc)
            clear hcc
            go_wp2_with fail
            by_cases hp : q.1.par ∈ ids A
            · obtain ⟨j2, q2, hj2', hpe, hji, _⟩ := HOK.out.up HQ.out hp
              rw [← hpe]
              refine (find_at HKR.out HOK.out.ids hj2').mono ?_
              rintro e w' ⟨rfl, hw⟩
              obtain rfl := hw
              have HJ := Lib.hid hj2'
              have HI2 := Lib.hid (show o.1.id ∈ l.tail ↔ q2.1.id ∈ l by rw [HIFF.out, HPQ.out, hpe])
              clear hj2' hpe
              go_wp2_with fail
              go_roundw
              case rel => exact ⟨_, rfl, by trivial, by trivial, .inl ⟨j2, q2, rfl, HJ.out, HI2.out⟩⟩
              case measure => simp [intOf] <;> omega
            · refine (find_no HKR.out hp).mono ?_
              rintro e w' ⟨rfl, hw⟩
              obtain rfl := hw
              have HI2 := Lib.hid (show o.1.id ∉ l.tail by rw [HIFF.out, HPQ.out]; exact fun hm => hp (HS.out.mem _ hm))
              go_wp2_with fail
              go_roundw
              case rel => exact ⟨_, rfl, by trivial, by trivial, .inr ⟨rfl, HI2.out⟩⟩
              case measure => simp [intOf] <;> omega
        · have HNO := Lib.hid hno
          clear hno
          go_wp2_with fail
          go_roundw
          case rel => exact ⟨i + 1, by simp, by omega, by rw [HX.out, if_neg HNO.out, List.append_nil]; exact HO.out, HT.out⟩
          case measure => simp [intOf] <;> omega
    · have hb1 : ¬ (i : Int) < (A.length : Int) := by omega
      have HE := Lib.hid (show OwnN w wr u5 (descN (A.map Prod.fst) l) by
        have := HO.out
        rw [List.take_of_length_le (by omega)] at this
        exact this)
      go_wp2_with fail
      go_ret
      exact ⟨u5, rfl, HE.out, HT.out⟩
end
end Go.Proofs.YtobkanlnnniabaaGreat.G

/-
  The reference's Reset and Start.
-/
namespace Go.Proofs.YtobkanlnnniabaaGreat.G
open Go.RowKit
set_option linter.unusedVariables false
set_option linter.unusedSimpArgs false
-- RL w r v
theorem exec_builtY {a : Act} {w : World} (op : Oper) (t : TypeId) (parts : Array (Nat × Operand)) (ho : op.op = .build t parts)
    (vals : List (Nat × Value)) (cells : Array Value) (hv : (parts.toList.map fun p => (p.1, a.eval p.2)) = vals) (hb : Tryz.prog.built t vals = some cells) : (execOp a.eval op).run Tryz.prog w = .ok (.value (.agg cells)) w := by
  have hr := run_build (P := Tryz.prog) w t (parts.map fun (i, x) => (i, a.eval x)) cells (by rw [Array.toList_map, ← hb, ← hv])
  unfold execOp
  simp only [ho, Sem.run_bind, hr, Result.andThen_ok, Sem.run_pure]
theorem info6 : (Tryz.prog.info? 60).map (fun i => (i.size, i.bytes, i.zero.map fun z => z.cells.size)) = some (6, 48, some 6) := by kernel_rfl
theorem size6 : (Tryz.prog.info? 60).map (·.size) = some 6 := by kernel_rfl
theorem built_tm (a : Tm × Tag) : Tryz.prog.built 60 [(0, .int .i64 a.1.id), (1, .int .i64 a.1.par), (2, .int .u64 a.1.req), (3, .agg #[.int .i64 a.2.a, .int .i64 a.2.b, .int .i64 a.2.c])] = some (encA a).toArray := by kernel_rfl
section
variable {w w0 : World} {r : Nat} {v : Value} {A : TA} {last : Int}
theorem RL.fr (k : RL w r v A last) (j : Nat) : w.frozen? ⟨r, j, none⟩ = false := by simp [World.frozen?, k.hdr]
theorem RL.conv {A' : TA} (k : RL w r v A last) (e : rA A' = rA A) : RL w r v A' last := ⟨k.hdr, by rw [e]; exact k.row, k.hv, by have := congrArg List.length e; rw [rA_len, rA_len] at this; have := k.few; omega⟩
theorem RL.bump (k : RL w r v A last) (l : Int) : RL (w.setCell ⟨r, 1, none⟩ (.int .i64 l)) r v A l ∧ Touch [r] w (w.setCell ⟨r, 1, none⟩ (.int .i64 l)) := by
  have t := (Touch.refl [r] w).setCell (p := ⟨r, 1, none⟩) (by simp) (.int .i64 l)
  refine ⟨⟨?_, t.owns k.row (by intro g hg e; simp at e; exact k.hv (by rw [hg, e])), k.hv, k.few⟩, t⟩
  simp [World.setCell, Array.getElem?_modify, k.hdr]
theorem RL.lay (k : RL w r v A last) {v' : Value} {A' : TA} {w2 : World} (t : Touch v.ownBlock.toList w w2) (hm' : w2.ownsRow 0 60 6 v' (rA A').length (rA A').flatten) (hn : v'.ownBlock = v.ownBlock ∨ ∃ g, v'.ownBlock = some g ∧ w.heap.size ≤ g) (h3 : A'.length ≤ 1000) :
    RL (w2.setCell ⟨r, 0, none⟩ v') r v' A' last ∧ Touch (RFoot r v) w (w2.setCell ⟨r, 0, none⟩ v') ∧ (∀ y ∈ RFoot r v', y ∈ RFoot r v ∨ w.heap.size ≤ y) := by
  have hxl : r < w.heap.size := k.lt r (by simp [RFoot])
  have t3 := (Touch.refl [r] w2).setCell (p := ⟨r, 0, none⟩) (by simp) v'
  have hv1 : r ∉ v.ownBlock.toList := by
    intro e
    exact k.hv (by simpa using e)
  have hv3 : v'.ownBlock ≠ some r := by
    rcases hn with e | ⟨g, e, hg⟩
    · rw [e]
      exact k.hv
    · rw [e]
      simp
      omega
  have hH := t.at k.hdr hv1
  refine ⟨⟨?_, t3.owns hm' (by intro g hg e; simp at e; exact hv3 (by rw [hg, e])), hv3, h3⟩, ?_, ?_⟩
  · simp [World.setCell, Array.getElem?_modify, hH]
  · exact (t.mono (fun y hy => .inl (by simp [RFoot] at hy ⊢; exact .inr hy))).trans t3 (by simp [RFoot])
  · intro y hy
    simp only [RFoot, List.mem_cons, Option.mem_toList] at hy ⊢
    rcases hy with rfl | hy
    · exact .inl (.inl rfl)
    · rcases hn with e | ⟨g, e, hg⟩
      · rw [e] at hy
        exact .inl (.inr hy)
      · rw [e] at hy
        cases hy
        exact .inr hg
/-- What a call leaves of the reference. -/
def RNx (w : World) (r : Nat) (v : Value) (A : TA) (last : Int) (w' : World) : Prop := ∃ v', RL w' r v' A last ∧ (∀ y ∈ RFoot r v', y ∈ RFoot r v ∨ w.heap.size ≤ y) ∧ Touch (RFoot r v) w w'
theorem RNx.same (k : RL w r v A last) {w' : World} (t : Touch [] w w') : RNx w r v A last w' := ⟨v, k.touch0 t, fun y hy => .inl hy, t.mono (by simp)⟩
theorem flat_set {k : Nat} {u : Value} : ∀ {xs : List (List Value)} {i j : Nat} {x : List Value}, (∀ y ∈ xs, y.length = k) → xs[i]? = some x → j < k → xs.flatten.set (i * k + j) u = (xs.set i (x.set j u)).flatten
  | [], i, j, x, _, h, _ => by simp at h
  | y :: xs, 0, j, x, hk, h, hj => by
    simp at h
    subst h
    have hy := hk y (by simp)
    simp only [Nat.zero_mul, Nat.zero_add, List.flatten_cons, List.set_cons_zero]
    rw [List.set_append_left _ _ (by omega)]
  | y :: xs, i + 1, j, x, hk, h, hj => by
    have hy := hk y (by simp)
    simp only [List.getElem?_cons_succ] at h
    simp only [List.flatten_cons, List.set_cons_succ]
    rw [List.set_append_right _ _ (by rw [hy, Nat.add_mul]; omega), ← flat_set (fun z hz => hk z (List.mem_cons_of_mem _ hz)) h hj]
    congr 2
    rw [hy, Nat.add_mul]
    omega
def reqA (i d : Int) (A : TA) : TA := A.map fun b => (setReq i d b.1, b.2)
theorem reqA_set (hn : (ids A).Nodup) {i : Nat} {a : Tm × Tag} (hi : A[i]? = some a) (d : Int) : (rA A).set i ((encA a).set 2 (.int .u64 d)) = rA (reqA a.1.id d A) := by
  refine List.ext_getElem? fun j => ?_
  rw [List.getElem?_set]
  have hil := (List.getElem?_eq_some_iff.1 hi).1
  split
  · rename_i e
    subst e
    rw [rA_len, if_pos hil]
    simp [rA, reqA, hi, encA, setReq]
  · rename_i e
    cases hj : A[j]? with
    | none => simp [rA, reqA, hj]
    | some b =>
      have : b.1.id ≠ a.1.id := fun h => e (idx_uniq hn hi hj h.symm)
      simp [rA, reqA, hj, setReq, this]
set_option maxRecDepth 100000 in
set_option maxHeartbeats 4000000 in
theorem rreset_at (k : RL w r v A last) (hn : (ids A).Nodup) {i : Nat} {a : Tm × Tag} (hi : A[i]? = some a) (d : Int) :
    Calls Tryz.prog 13 #[.pointer (some ⟨r, 0, none⟩), .int .i64 a.1.id, .int .u64 d] w fun e w' => e = .returned (.bool true) ∧ RNx w r v (reqA a.1.id d A) last w' := by
  have HF := Lib.hid (find_at k hn hi)
  have c0 := k.c0
  have hil := (List.getElem?_eq_some_iff.1 hi).1
  have hvf := owns_form k.row
  rw [rA_len] at hvf
  obtain ⟨av, cv, rfl, hv1, hv2, hv3⟩ := hvf
  obtain ⟨g, rfl⟩ := hv3 (by omega)
  obtain ⟨off, ho, rI⟩ := Rd.atA k.rd hi
  obtain rfl : 0 = off := by simpa [Value.ownBlock] using ho
  obtain ⟨_, _, e2, _⟩ := cellsA rI
  simp only [Value.ownBlock, Option.getD_some, Nat.zero_add] at e2
  have f2 := owns_frozen (by have := k.row; rw [rA_len] at this; exact this) (i * 6 + 2)
  have hgr : g ≠ r := fun e => k.hv (by simp [Value.ownBlock, e])
  have hb1 : (0 : Int) ≤ (i : Int) := by omega
  have hb2 : (i : Int) < (A.length : Int) := by omega
  have t3 := (Touch.refl [g] w).setCell (p := ⟨g, i * 6 + 2, none⟩) (by simp) (.int .u64 d)
  have HR : Hid (RNx w r (.slice (some ⟨g, 0, none⟩) A.length cv) (reqA a.1.id d A) last (w.setCell ⟨g, i * 6 + 2, none⟩ (.int .u64 d))) := Lib.hid (by
    refine ⟨.slice (some ⟨g, 0, none⟩) A.length cv, ⟨t3.at k.hdr (by simpa using Ne.symm hgr), ?_, k.hv, by simp [reqA]; exact k.few⟩, fun y hy => .inl hy, t3.mono (by intro y hy; left; simp at hy; subst hy; simp [RFoot, Value.ownBlock])⟩
    have h1 := owns_set (by have := k.row; rw [rA_len] at this; exact this) (i * 6 + 2) (.int .u64 d)
    rw [flat_set (rA_lens A) (show (rA A)[i]? = some (encA a) by simp [rA, hi]) (by omega), reqA_set hn hi] at h1
    have h2 : (rA (reqA a.1.id d A)).length = A.length := by rw [rA_len]; simp [reqA]
    rw [h2]
    exact h1)
  clear k hn hi rI ho t3 hv2 hv3
  go_enter Tryz.func13, Tryz.ntmps13
  go_wp2_with fail
  refine HF.out.mono ?_
  rintro e w' ⟨rfl, hw⟩
  obtain rfl := hw
  go_wp2_with fail
  go_ret
  exact ⟨rfl, HR.out⟩
set_option maxRecDepth 100000 in
set_option maxHeartbeats 4000000 in
theorem rreset_no (k : RL w r v A last) {id : Int} (hi : id ∉ ids A) (d : Int) :
    Calls Tryz.prog 13 #[.pointer (some ⟨r, 0, none⟩), .int .i64 id, .int .u64 d] w fun e w' => e = .returned (.bool false) ∧ w = w' := by
  have HF := Lib.hid (find_no k hi)
  clear k
  go_enter Tryz.func13, Tryz.ntmps13
  go_wp2_with fail
  refine HF.out.mono ?_
  rintro e w' ⟨rfl, hw⟩
  obtain rfl := hw
  go_wp2_with fail
  go_ret
  exact ⟨rfl, rfl⟩
set_option maxRecDepth 100000 in
set_option maxHeartbeats 4000000 in
theorem rstart_root (k0 : RL w0 r v A last) (due d : Int) (x : Tag) (hl : 0 ≤ last ∧ last < 1000) (hfw : A.length < 1000) :
    Calls Tryz.prog 9 #[.pointer (some ⟨r, 0, none⟩), .int .i64 0, .int .u64 due, .agg #[.int .i64 x.a, .int .i64 x.b, .int .i64 x.c]] w0 fun e w' => e = .returned (.tuple #[.int .i64 (last + 1), .bool true]) ∧ RNx w0 r v (A ++ [(⟨⟨last + 1, 0, due, d⟩, x⟩ : Tm × Tag)]) (last + 1) w' := by
  obtain ⟨i6, z6, hi6, hz6, hs6, hb6, hc6⟩ := info_parts info6
  have TB := Lib.hid ((Touch.refl [] w0).alloc (.cells #[.int .i64 x.a, .int .i64 x.b, .int .i64 x.c] 26))
  have RB := range_new w0 [.int .i64 x.a, .int .i64 x.b, .int .i64 x.c] 26
  have k := k0.touch0 TB.out
  have hgr : w0.heap.size ≠ r := by have := k0.lt r (by simp [RFoot]); omega
  have hgv : ∀ y ∈ v.ownBlock.toList, y < w0.heap.size := fun y hy => k0.lt y (by simp only [RFoot, List.mem_cons]; exact .inr hy)
  have hvf := owns_form k.row
  rw [rA_len] at hvf
  obtain ⟨av, cv, rfl, hv1, hv2, hv3⟩ := hvf
  have c1 := k.c1
  have f1 := k.fr 1
  have hl0 := hl.1
  have hl1 := hl.2
  have hw1 : IntKind.i64.wrap (last + 1) = last + 1 := by rw [IntKind.wrap_i64] <;> omega
  obtain ⟨p1, t1⟩ := k.bump (last + 1)
  have HP := Lib.hid p1
  have HRB0 := Lib.hid (t1.range RB (by simpa using hgr))
  have T1 := Lib.hid ((TB.out.mono (S' := RFoot r (.slice av A.length cv)) (by simp)).trans (t1.mono (S' := RFoot r (.slice av A.length cv)) (by simp [RFoot])) (fun y hy => .inl hy))
  have HGV := Lib.hid hgv
  clear k p1 t1 hv3 hl RB k0 TB hgv
  go_enter Tryz.func9, Tryz.ntmps9
  go_wp2_with fail
  generalize (w0.alloc (.cells #[.int .i64 x.a, .int .i64 x.b, .int .i64 x.c] 26)).setCell ⟨r, 1, none⟩ (.int .i64 (last + 1)) = w1 at *
  generalize hgB : w0.heap.size = gB at *
  clear c1 f1
  refine wp_region_F (S := Touch (Value.slice av A.length cv).ownBlock.toList w1.drew) [17] (by kernel_rfl) ?_
  change wpAnyF _ _ _ _ _ _ _ _ _ w1.drew
  have hT := HP.out.touch0 ((Touch.refl [] w1).drew)
  have HRB := Lib.hid (((Touch.refl [] w1).drew).range HRB0.out (by simp))
  generalize hWd : w1.drew = W at *
  have TW := Lib.hid (show Touch (RFoot r (.slice av A.length cv)) w1 W by rw [← hWd]; exact (Touch.refl _ w1).drew)
  clear hWd
  have hS := Touch.refl (Value.slice av A.length cv).ownBlock.toList W
  have hhb : r ∉ (Value.slice av A.length cv).ownBlock.toList := by
    intro e
    exact HP.out.hv (by simpa using e)
  have hgbb : gB ∉ (Value.slice av A.length cv).ownBlock.toList := by
    intro e
    have := HGV.out gB e
    omega
  have c0 := hT.c0
  have c1 := hT.c1
  refine wpAnyF_take (i := 0) (oi := { dst := some 25, op := Op.move (Operand.tmp 0), type := 27, pos := "ref.go:132", after := #[], guard := none }) (v := .pointer (some ⟨r, 0, none⟩)) rfl (by kernel_rfl) (by kernel_rfl) (by kernel_rfl) (by kernel_rfl) (by kernel_rfl) (fun _ _ _ h => h) (Or.inl ⟨by rfl, fun w' hw => by go_simp⟩) hS ?_
  try simp only [Act.put, List.setIfInBounds_toArray, List.set_cons_zero, List.set_cons_succ]
  refine wpAnyF_take (i := 1) (oi := { dst := some 26, op := Op.move (Operand.tmp 0), type := 27, pos := "ref.go:132", after := #[], guard := none }) (v := .pointer (some ⟨r, 0, none⟩)) rfl (by kernel_rfl) (by kernel_rfl) (by kernel_rfl) (by kernel_rfl) (by kernel_rfl) (fun _ _ _ h => h) (Or.inl ⟨by rfl, fun w' hw => by go_simp⟩) hS ?_
  try simp only [Act.put, List.setIfInBounds_toArray, List.set_cons_zero, List.set_cons_succ]
  refine wpAnyF_take (i := 2) (oi := { dst := some 27, op := Op.nilCheck (Operand.tmp 26), type := 0, pos := "ref.go:132", after := #[{ on := 1, ground := Ground.data }], guard := none }) (v := .pointer (some ⟨r, 0, none⟩)) rfl (by kernel_rfl) (by kernel_rfl) (by kernel_rfl) (by kernel_rfl) (by kernel_rfl) (fun _ _ _ h => h) (Or.inl ⟨by rfl, fun w' hw => by go_simp⟩) hS ?_
  try simp only [Act.put, List.setIfInBounds_toArray, List.set_cons_zero, List.set_cons_succ]
  refine wpAnyF_take (i := 3) (oi := { dst := some 28, op := Op.fieldAddr 30 (Operand.tmp 27) 0, type := 0, pos := "ref.go:132", after := #[{ on := 2, ground := Ground.data }], guard := none }) (v := .pointer (some ⟨r, 0, none⟩)) rfl (by kernel_rfl) (by kernel_rfl) (by kernel_rfl) (by kernel_rfl) (by kernel_rfl) (fun _ _ _ h => h) (Or.inl ⟨by rfl, fun w' hw => by go_simp⟩) hS ?_
  try simp only [Act.put, List.setIfInBounds_toArray, List.set_cons_zero, List.set_cons_succ]
  refine wpAnyF_take (i := 4) (oi := { dst := some 29, op := Op.load 28 (Operand.tmp 28), type := 28, pos := "ref.go:132", after := #[{ on := 3, ground := Ground.data }], guard := none }) (v := Value.slice av A.length cv) rfl (by kernel_rfl) (by kernel_rfl) (by kernel_rfl) (by kernel_rfl) (by kernel_rfl) (fun _ _ _ h => h) (Or.inl ⟨by rfl, fun w' hw => by (have q2 := hw.cell c0 hhb; go_simp)⟩) hS ?_
  try simp only [Act.put, List.setIfInBounds_toArray, List.set_cons_zero, List.set_cons_succ]
  refine wpAnyF_take (i := 5) (oi := { dst := some 30, op := Op.move (Operand.tmp 0), type := 27, pos := "ref.go:132", after := #[], guard := none }) (v := .pointer (some ⟨r, 0, none⟩)) rfl (by kernel_rfl) (by kernel_rfl) (by kernel_rfl) (by kernel_rfl) (by kernel_rfl) (fun _ _ _ h => h) (Or.inl ⟨by rfl, fun w' hw => by go_simp⟩) hS ?_
  try simp only [Act.put, List.setIfInBounds_toArray, List.set_cons_zero, List.set_cons_succ]
  refine wpAnyF_take (i := 6) (oi := { dst := some 31, op := Op.nilCheck (Operand.tmp 30), type := 0, pos := "ref.go:132", after := #[{ on := 5, ground := Ground.data }], guard := none }) (v := .pointer (some ⟨r, 0, none⟩)) rfl (by kernel_rfl) (by kernel_rfl) (by kernel_rfl) (by kernel_rfl) (by kernel_rfl) (fun _ _ _ h => h) (Or.inl ⟨by rfl, fun w' hw => by go_simp⟩) hS ?_
  try simp only [Act.put, List.setIfInBounds_toArray, List.set_cons_zero, List.set_cons_succ]
  refine wpAnyF_take (i := 7) (oi := { dst := some 32, op := Op.fieldAddr 30 (Operand.tmp 31) 1, type := 0, pos := "ref.go:132", after := #[{ on := 6, ground := Ground.data }], guard := none }) (v := .pointer (some ⟨r, 1, none⟩)) rfl (by kernel_rfl) (by kernel_rfl) (by kernel_rfl) (by kernel_rfl) (by kernel_rfl) (fun _ _ _ h => h) (Or.inl ⟨by rfl, fun w' hw => by go_simp⟩) hS ?_
  try simp only [Act.put, List.setIfInBounds_toArray, List.set_cons_zero, List.set_cons_succ]
  refine wpAnyF_take (i := 8) (oi := { dst := some 33, op := Op.load 3 (Operand.tmp 32), type := 3, pos := "ref.go:132", after := #[{ on := 7, ground := Ground.data }], guard := none }) (v := .int .i64 (last + 1)) rfl (by kernel_rfl) (by kernel_rfl) (by kernel_rfl) (by kernel_rfl) (by kernel_rfl) (fun _ _ _ h => h) (Or.inl ⟨by rfl, fun w' hw => by (have q2 := hw.cell c1 hhb; go_simp)⟩) hS ?_
  try simp only [Act.put, List.setIfInBounds_toArray, List.set_cons_zero, List.set_cons_succ]
  refine wpAnyF_take (i := 9) (oi := { dst := some 34, op := Op.move (Operand.tmp 1), type := 3, pos := "ref.go:132", after := #[], guard := none }) (v := .int .i64 0) rfl (by kernel_rfl) (by kernel_rfl) (by kernel_rfl) (by kernel_rfl) (by kernel_rfl) (fun _ _ _ h => h) (Or.inl ⟨by rfl, fun w' hw => by go_simp⟩) hS ?_
  try simp only [Act.put, List.setIfInBounds_toArray, List.set_cons_zero, List.set_cons_succ]
  refine wpAnyF_take (i := 10) (oi := { dst := some 35, op := Op.move (Operand.tmp 2), type := 31, pos := "ref.go:132", after := #[], guard := none }) (v := .int .u64 due) rfl (by kernel_rfl) (by kernel_rfl) (by kernel_rfl) (by kernel_rfl) (by kernel_rfl) (fun _ _ _ h => h) (Or.inl ⟨by rfl, fun w' hw => by go_simp⟩) hS ?_
  try simp only [Act.put, List.setIfInBounds_toArray, List.set_cons_zero, List.set_cons_succ]
  refine wpAnyF_take (i := 11) (oi := { dst := some 36, op := Op.load 26 (Operand.tmp 7), type := 26, pos := "ref.go:132", after := #[], guard := none }) (v := .agg #[.int .i64 x.a, .int .i64 x.b, .int .i64 x.c]) rfl (by kernel_rfl) (by kernel_rfl) (by kernel_rfl) (by kernel_rfl) (by kernel_rfl) (fun _ _ _ h => h) (Or.inl ⟨by rfl, fun w' hw => exec_load_agg _ 26 _ rfl _ _ rfl [.int .i64 x.a, .int .i64 x.b, .int .i64 x.c] _ (hw.range HRB.out hgbb) Tryz.underlying26 rfl infoG⟩) hS ?_
  try simp only [Act.put, List.setIfInBounds_toArray, List.set_cons_zero, List.set_cons_succ]
  refine wpAnyF_take (i := 12) (oi := { dst := some 37, op := Op.build 60 #[(0, Operand.tmp 33), (1, Operand.tmp 34), (2, Operand.tmp 35), (3, Operand.tmp 36)], type := 60, pos := "ref.go:132", after := #[{ on := 8, ground := Ground.data }, { on := 9, ground := Ground.data }, { on := 10, ground := Ground.data }, { on := 11, ground := Ground.data }], guard := none }) (v := .agg (encA (⟨⟨last + 1, 0, due, d⟩, x⟩ : Tm × Tag)).toArray) rfl (by kernel_rfl) (by kernel_rfl) (by kernel_rfl) (by kernel_rfl) (by kernel_rfl) (fun _ _ _ h => h) (Or.inl ⟨by rfl, fun w' hw => exec_builtY _ 60 _ rfl [(0, .int .i64 (last + 1)), (1, .int .i64 0), (2, .int .u64 due), (3, .agg #[.int .i64 x.a, .int .i64 x.b, .int .i64 x.c])] _ rfl (built_tm (⟨⟨last + 1, 0, due, d⟩, x⟩ : Tm × Tag))⟩) hS ?_
  try simp only [Act.put, List.setIfInBounds_toArray, List.set_cons_zero, List.set_cons_succ]
  refine wpAnyF_ready (rs := [13]) (by kernel_rfl) (by simp) ?_
  refine AllReadyF.cons (o := { dst := some 38, op := Op.buildSlice 28 1 #[(0, Operand.tmp 37)], type := 28, pos := "ref.go:132", after := #[{ on := 12, ground := Ground.data }], guard := none }) rfl (fun K hK => ?_) AllReadyF.nil
  refine step_of_list rfl ?_
  refine wpList_buildSlice_rows rfl 28 1 _ rfl 60 6 i6 _ Tryz.underlying28 hi6 hz6 hs6 (by omega) [encA (⟨⟨last + 1, 0, due, d⟩, x⟩ : Tm × Tag)] rfl (by simp [encA]) (by omega) (by rfl) ?_
  have tb := (Touch.refl [] W).alloc (.cells [encA (⟨⟨last + 1, 0, due, d⟩, x⟩ : Tm × Tag)].flatten.toArray 60)
  have hrow2 := (hT.touch0 tb).row
  rw [rA_len] at hrow2
  have hnw := range_new W [encA (⟨⟨last + 1, 0, due, d⟩, x⟩ : Tm × Tag)].flatten 60
  have hS2 := hS.trans tb (by simp)
  refine ⟨rfl, hK.out _ _ hS2 (fun _ => ?_)⟩
  clear hK K hS
  have hS := hS2
  clear hS2
  generalize hW1 : W.alloc (.cells [encA (⟨⟨last + 1, 0, due, d⟩, x⟩ : Tm × Tag)].flatten.toArray 60) = W1 at *
  have z1 : W1.heap.size = W.heap.size + 1 := by rw [← hW1]; simp
  clear hW1
  try simp only [Act.put, List.setIfInBounds_toArray, List.set_cons_zero, List.set_cons_succ]
  refine wpAnyF_ready (rs := [14]) (by kernel_rfl) (by simp) ?_
  refine AllReadyF.cons (o := { dst := some 39, op := Op.call { callee := Callee.builtin Builtin.append, args := #[Operand.tmp 29, Operand.tmp 38], argTypes := #[28, 28] }, type := 28, pos := "ref.go:132", after := #[{ on := 4, ground := Ground.data }, { on := 13, ground := Ground.data }], guard := none }) rfl (fun K hK => ?_) AllReadyF.nil
  refine step_app _ (by rfl) (.tmp 29) (.tmp 38) 28 (by rfl) 60 i6 _ 6 48 Tryz.underlying28 hi6 hz6 hs6 hb6 hc6 (by omega) _ A.length _ (by rfl) hrow2 (some ⟨W.heap.size, 0, none⟩) 1 1 [encA (⟨⟨last + 1, 0, due, d⟩, x⟩ : Tm × Tag)].flatten (by rfl) (by simp [encA]) (by simp) (by intro ad h j u hu; cases h; rw [Addr.add_lit]; exact hnw j u hu) (rA_ones [(⟨⟨last + 1, 0, due, d⟩, x⟩ : Tm × Tag)]) (by unfold maxLen; omega) (by omega) ?_
  intro v2 w2 o2 t2 b2
  have t2' : Touch (Value.slice av A.length cv).ownBlock.toList W w2 := (tb.mono (by simp)).trans t2 (fun y hy => .inl hy)
  have hS2 := hS.trans t2 (fun y hy => .inl hy)
  refine hK.out _ _ hS2 (fun _ => ?_)
  clear hK K hS
  have hS := hS2
  clear hS2
  try simp only [Act.put, List.setIfInBounds_toArray, List.set_cons_zero, List.set_cons_succ]
  refine wpAnyF_take (i := 15) (oi := { dst := some 40, op := Op.nilCheck (Operand.tmp 25), type := 0, pos := "ref.go:132", after := #[{ on := 0, ground := Ground.data }, { on := 0, ground := Ground.phase }, { on := 1, ground := Ground.phase }, { on := 2, ground := Ground.phase }, { on := 3, ground := Ground.phase }, { on := 4, ground := Ground.phase }, { on := 5, ground := Ground.phase }, { on := 6, ground := Ground.phase }, { on := 7, ground := Ground.phase }, { on := 8, ground := Ground.phase }, { on := 9, ground := Ground.phase }, { on := 10, ground := Ground.phase }, { on := 11, ground := Ground.phase }, { on := 12, ground := Ground.phase }, { on := 13, ground := Ground.phase }, { on := 14, ground := Ground.phase }], guard := none }) (v := .pointer (some ⟨r, 0, none⟩)) rfl (by kernel_rfl) (by kernel_rfl) (by kernel_rfl) (by kernel_rfl) (by kernel_rfl) (fun _ _ _ h => h) (Or.inl ⟨by rfl, fun w' hw => by go_simp⟩) hS ?_
  try simp only [Act.put, List.setIfInBounds_toArray, List.set_cons_zero, List.set_cons_succ]
  refine wpAnyF_take (i := 16) (oi := { dst := some 41, op := Op.fieldAddr 30 (Operand.tmp 40) 0, type := 0, pos := "ref.go:132", after := #[{ on := 15, ground := Ground.data }, { on := 0, ground := Ground.phase }, { on := 1, ground := Ground.phase }, { on := 2, ground := Ground.phase }, { on := 3, ground := Ground.phase }, { on := 4, ground := Ground.phase }, { on := 5, ground := Ground.phase }, { on := 6, ground := Ground.phase }, { on := 7, ground := Ground.phase }, { on := 8, ground := Ground.phase }, { on := 9, ground := Ground.phase }, { on := 10, ground := Ground.phase }, { on := 11, ground := Ground.phase }, { on := 12, ground := Ground.phase }, { on := 13, ground := Ground.phase }, { on := 14, ground := Ground.phase }], guard := none }) (v := .pointer (some ⟨r, 0, none⟩)) rfl (by kernel_rfl) (by kernel_rfl) (by kernel_rfl) (by kernel_rfl) (by kernel_rfl) (fun _ _ _ h => h) (Or.inl ⟨by rfl, fun w' hw => by go_simp⟩) hS ?_
  try simp only [Act.put, List.setIfInBounds_toArray, List.set_cons_zero, List.set_cons_succ]
  refine wpAnyF_ready (rs := [17]) (by kernel_rfl) (by simp) ?_
  refine AllReadyF.last (o := { dst := none, op := Op.store 28 (Operand.tmp 41) (Operand.tmp 39), type := 0, pos := "ref.go:132", after := #[{ on := 16, ground := Ground.data }, { on := 14, ground := Ground.data }, { on := 14, ground := Ground.chain }, { on := 0, ground := Ground.phase }, { on := 1, ground := Ground.phase }, { on := 2, ground := Ground.phase }, { on := 3, ground := Ground.phase }, { on := 4, ground := Ground.phase }, { on := 5, ground := Ground.phase }, { on := 6, ground := Ground.phase }, { on := 7, ground := Ground.phase }, { on := 8, ground := Ground.phase }, { on := 9, ground := Ground.phase }, { on := 10, ground := Ground.phase }, { on := 11, ground := Ground.phase }, { on := 12, ground := Ground.phase }, { on := 13, ground := Ground.phase }, { on := 14, ground := Ground.phase }], guard := none }) rfl (by simp) (fun K hK => ?_) AllReadyF.nil
  have q1 := t2'.cell c0 hhb
  have g0 : w2.frozen? ⟨r, 0, none⟩ = false := by simp [World.frozen?, t2'.at hT.hdr hhb]
  obtain ⟨av2, cv2, rfl, hw2, hw3, hw4⟩ := owns_form o2
  go_simp
  have q3 := w2
  refine hK.out _ _ ?_
  clear hK K q3
  try simp only [Act.put, List.setIfInBounds_toArray, List.set_cons_zero, List.set_cons_succ]
  refine wpAnyF_done (by kernel_rfl) ?_ _
  have e2 : (rA (A ++ [(⟨⟨last + 1, 0, due, d⟩, x⟩ : Tm × Tag)])).flatten = (rA A).flatten ++ [encA (⟨⟨last + 1, 0, due, d⟩, x⟩ : Tm × Tag)].flatten := by simp [rA]
  rw [← e2] at o2
  obtain ⟨p3, t3, ft3⟩ := hT.lay (A' := A ++ [(⟨⟨last + 1, 0, due, d⟩, x⟩ : Tm × Tag)]) t2' (by rw [rA_len, List.length_append]; exact o2) (by rcases b2 with e | e; exact .inl e; exact .inr ⟨_, e, by omega⟩) (by simp; omega)
  have P3 := Lib.hid p3
  have F3 := Lib.hid ft3
  have T3 := Lib.hid (TW.out.trans t3 (fun y hy => .inl hy))
  have hz := TW.out.size
  have hz1 := T1.out.size
  clear p3 o2 t2 t2' b2 e2 t3 ft3 hw4 hS q1 g0 hrow2 hnw z1 tb hT c0 c1
  generalize w2.setCell ⟨r, 0, none⟩ (.slice av2 (A.length + 1) cv2) = w3 at *
  have c1 := P3.out.c1
  go_wp2_with fail
  go_ret2
  exact ⟨rfl, _, P3.out, fun y hy => by
    rcases F3.out y hy with h2 | h2
    · exact .inl h2
    · exact .inr (Nat.le_trans (Nat.le_trans hz1 hz) h2), (T1.out.trans T3.out (fun y hy => .inl hy))⟩
set_option maxRecDepth 100000 in
set_option maxHeartbeats 4000000 in
theorem rstart_child (k0 : RL w0 r v A last) (hn : (ids A).Nodup) {j0 : Nat} {p : Tm × Tag} (hp : A[j0]? = some p) (hp0 : p.1.id ≠ 0) (due d : Int) (x : Tag) (hl : 0 ≤ last ∧ last < 1000) (hfw : A.length < 1000) :
    Calls Tryz.prog 9 #[.pointer (some ⟨r, 0, none⟩), .int .i64 p.1.id, .int .u64 due, .agg #[.int .i64 x.a, .int .i64 x.b, .int .i64 x.c]] w0 fun e w' => e = .returned (.tuple #[.int .i64 (last + 1), .bool true]) ∧ RNx w0 r v (A ++ [(⟨⟨last + 1, p.1.id, due, d⟩, x⟩ : Tm × Tag)]) (last + 1) w' := by
  obtain ⟨i6, z6, hi6, hz6, hs6, hb6, hc6⟩ := info_parts info6
  have TB := Lib.hid ((Touch.refl [] w0).alloc (.cells #[.int .i64 x.a, .int .i64 x.b, .int .i64 x.c] 26))
  have RB := range_new w0 [.int .i64 x.a, .int .i64 x.b, .int .i64 x.c] 26
  have k := k0.touch0 TB.out
  have hgr : w0.heap.size ≠ r := by have := k0.lt r (by simp [RFoot]); omega
  have hgv : ∀ y ∈ v.ownBlock.toList, y < w0.heap.size := fun y hy => k0.lt y (by simp only [RFoot, List.mem_cons]; exact .inr hy)
  have HF := Lib.hid (find_at k hn hp)
  have hj0 := (List.getElem?_eq_some_iff.1 hp).1
  have q1 : (p.1.id != 0) = true := by simpa using hp0
  have hvf := owns_form k.row
  rw [rA_len] at hvf
  obtain ⟨av, cv, rfl, hv1, hv2, hv3⟩ := hvf
  have c1 := k.c1
  have f1 := k.fr 1
  have hl0 := hl.1
  have hl1 := hl.2
  have hw1 : IntKind.i64.wrap (last + 1) = last + 1 := by rw [IntKind.wrap_i64] <;> omega
  obtain ⟨p1, t1⟩ := k.bump (last + 1)
  have HP := Lib.hid p1
  have HRB0 := Lib.hid (t1.range RB (by simpa using hgr))
  have T1 := Lib.hid ((TB.out.mono (S' := RFoot r (.slice av A.length cv)) (by simp)).trans (t1.mono (S' := RFoot r (.slice av A.length cv)) (by simp [RFoot])) (fun y hy => .inl hy))
  have HGV := Lib.hid hgv
  clear k p1 t1 hv3 hl RB k0 TB hgv
  go_enter Tryz.func9, Tryz.ntmps9
  go_wp2_with fail
  refine HF.out.mono ?_
  rintro e w' ⟨rfl, hw⟩
  obtain rfl := hw
  go_wp2_with fail
  generalize (w0.alloc (.cells #[.int .i64 x.a, .int .i64 x.b, .int .i64 x.c] 26)).setCell ⟨r, 1, none⟩ (.int .i64 (last + 1)) = w1 at *
  generalize hgB : w0.heap.size = gB at *
  clear c1 f1
  refine wp_region_F (S := Touch (Value.slice av A.length cv).ownBlock.toList w1.drew) [17] (by kernel_rfl) ?_
  change wpAnyF _ _ _ _ _ _ _ _ _ w1.drew
  have hT := HP.out.touch0 ((Touch.refl [] w1).drew)
  have HRB := Lib.hid (((Touch.refl [] w1).drew).range HRB0.out (by simp))
  generalize hWd : w1.drew = W at *
  have TW := Lib.hid (show Touch (RFoot r (.slice av A.length cv)) w1 W by rw [← hWd]; exact (Touch.refl _ w1).drew)
  clear hWd
  have hS := Touch.refl (Value.slice av A.length cv).ownBlock.toList W
  have hhb : r ∉ (Value.slice av A.length cv).ownBlock.toList := by
    intro e
    exact HP.out.hv (by simpa using e)
  have hgbb : gB ∉ (Value.slice av A.length cv).ownBlock.toList := by
    intro e
    have := HGV.out gB e
    omega
  have c0 := hT.c0
  have c1 := hT.c1
  refine wpAnyF_take (i := 0) (oi := { dst := some 25, op := Op.move (Operand.tmp 0), type := 27, pos := "ref.go:132", after := #[], guard := none }) (v := .pointer (some ⟨r, 0, none⟩)) rfl (by kernel_rfl) (by kernel_rfl) (by kernel_rfl) (by kernel_rfl) (by kernel_rfl) (fun _ _ _ h => h) (Or.inl ⟨by rfl, fun w' hw => by go_simp⟩) hS ?_
  try simp only [Act.put, List.setIfInBounds_toArray, List.set_cons_zero, List.set_cons_succ]
  refine wpAnyF_take (i := 1) (oi := { dst := some 26, op := Op.move (Operand.tmp 0), type := 27, pos := "ref.go:132", after := #[], guard := none }) (v := .pointer (some ⟨r, 0, none⟩)) rfl (by kernel_rfl) (by kernel_rfl) (by kernel_rfl) (by kernel_rfl) (by kernel_rfl) (fun _ _ _ h => h) (Or.inl ⟨by rfl, fun w' hw => by go_simp⟩) hS ?_
  try simp only [Act.put, List.setIfInBounds_toArray, List.set_cons_zero, List.set_cons_succ]
  refine wpAnyF_take (i := 2) (oi := { dst := some 27, op := Op.nilCheck (Operand.tmp 26), type := 0, pos := "ref.go:132", after := #[{ on := 1, ground := Ground.data }], guard := none }) (v := .pointer (some ⟨r, 0, none⟩)) rfl (by kernel_rfl) (by kernel_rfl) (by kernel_rfl) (by kernel_rfl) (by kernel_rfl) (fun _ _ _ h => h) (Or.inl ⟨by rfl, fun w' hw => by go_simp⟩) hS ?_
  try simp only [Act.put, List.setIfInBounds_toArray, List.set_cons_zero, List.set_cons_succ]
  refine wpAnyF_take (i := 3) (oi := { dst := some 28, op := Op.fieldAddr 30 (Operand.tmp 27) 0, type := 0, pos := "ref.go:132", after := #[{ on := 2, ground := Ground.data }], guard := none }) (v := .pointer (some ⟨r, 0, none⟩)) rfl (by kernel_rfl) (by kernel_rfl) (by kernel_rfl) (by kernel_rfl) (by kernel_rfl) (fun _ _ _ h => h) (Or.inl ⟨by rfl, fun w' hw => by go_simp⟩) hS ?_
  try simp only [Act.put, List.setIfInBounds_toArray, List.set_cons_zero, List.set_cons_succ]
  refine wpAnyF_take (i := 4) (oi := { dst := some 29, op := Op.load 28 (Operand.tmp 28), type := 28, pos := "ref.go:132", after := #[{ on := 3, ground := Ground.data }], guard := none }) (v := Value.slice av A.length cv) rfl (by kernel_rfl) (by kernel_rfl) (by kernel_rfl) (by kernel_rfl) (by kernel_rfl) (fun _ _ _ h => h) (Or.inl ⟨by rfl, fun w' hw => by (have q2 := hw.cell c0 hhb; go_simp)⟩) hS ?_
  try simp only [Act.put, List.setIfInBounds_toArray, List.set_cons_zero, List.set_cons_succ]
  refine wpAnyF_take (i := 5) (oi := { dst := some 30, op := Op.move (Operand.tmp 0), type := 27, pos := "ref.go:132", after := #[], guard := none }) (v := .pointer (some ⟨r, 0, none⟩)) rfl (by kernel_rfl) (by kernel_rfl) (by kernel_rfl) (by kernel_rfl) (by kernel_rfl) (fun _ _ _ h => h) (Or.inl ⟨by rfl, fun w' hw => by go_simp⟩) hS ?_
  try simp only [Act.put, List.setIfInBounds_toArray, List.set_cons_zero, List.set_cons_succ]
  refine wpAnyF_take (i := 6) (oi := { dst := some 31, op := Op.nilCheck (Operand.tmp 30), type := 0, pos := "ref.go:132", after := #[{ on := 5, ground := Ground.data }], guard := none }) (v := .pointer (some ⟨r, 0, none⟩)) rfl (by kernel_rfl) (by kernel_rfl) (by kernel_rfl) (by kernel_rfl) (by kernel_rfl) (fun _ _ _ h => h) (Or.inl ⟨by rfl, fun w' hw => by go_simp⟩) hS ?_
  try simp only [Act.put, List.setIfInBounds_toArray, List.set_cons_zero, List.set_cons_succ]
  refine wpAnyF_take (i := 7) (oi := { dst := some 32, op := Op.fieldAddr 30 (Operand.tmp 31) 1, type := 0, pos := "ref.go:132", after := #[{ on := 6, ground := Ground.data }], guard := none }) (v := .pointer (some ⟨r, 1, none⟩)) rfl (by kernel_rfl) (by kernel_rfl) (by kernel_rfl) (by kernel_rfl) (by kernel_rfl) (fun _ _ _ h => h) (Or.inl ⟨by rfl, fun w' hw => by go_simp⟩) hS ?_
  try simp only [Act.put, List.setIfInBounds_toArray, List.set_cons_zero, List.set_cons_succ]
  refine wpAnyF_take (i := 8) (oi := { dst := some 33, op := Op.load 3 (Operand.tmp 32), type := 3, pos := "ref.go:132", after := #[{ on := 7, ground := Ground.data }], guard := none }) (v := .int .i64 (last + 1)) rfl (by kernel_rfl) (by kernel_rfl) (by kernel_rfl) (by kernel_rfl) (by kernel_rfl) (fun _ _ _ h => h) (Or.inl ⟨by rfl, fun w' hw => by (have q2 := hw.cell c1 hhb; go_simp)⟩) hS ?_
  try simp only [Act.put, List.setIfInBounds_toArray, List.set_cons_zero, List.set_cons_succ]
  refine wpAnyF_take (i := 9) (oi := { dst := some 34, op := Op.move (Operand.tmp 1), type := 3, pos := "ref.go:132", after := #[], guard := none }) (v := .int .i64 p.1.id) rfl (by kernel_rfl) (by kernel_rfl) (by kernel_rfl) (by kernel_rfl) (by kernel_rfl) (fun _ _ _ h => h) (Or.inl ⟨by rfl, fun w' hw => by go_simp⟩) hS ?_
  try simp only [Act.put, List.setIfInBounds_toArray, List.set_cons_zero, List.set_cons_succ]
  refine wpAnyF_take (i := 10) (oi := { dst := some 35, op := Op.move (Operand.tmp 2), type := 31, pos := "ref.go:132", after := #[], guard := none }) (v := .int .u64 due) rfl (by kernel_rfl) (by kernel_rfl) (by kernel_rfl) (by kernel_rfl) (by kernel_rfl) (fun _ _ _ h => h) (Or.inl ⟨by rfl, fun w' hw => by go_simp⟩) hS ?_
  try simp only [Act.put, List.setIfInBounds_toArray, List.set_cons_zero, List.set_cons_succ]
  refine wpAnyF_take (i := 11) (oi := { dst := some 36, op := Op.load 26 (Operand.tmp 7), type := 26, pos := "ref.go:132", after := #[], guard := none }) (v := .agg #[.int .i64 x.a, .int .i64 x.b, .int .i64 x.c]) rfl (by kernel_rfl) (by kernel_rfl) (by kernel_rfl) (by kernel_rfl) (by kernel_rfl) (fun _ _ _ h => h) (Or.inl ⟨by rfl, fun w' hw => exec_load_agg _ 26 _ rfl _ _ rfl [.int .i64 x.a, .int .i64 x.b, .int .i64 x.c] _ (hw.range HRB.out hgbb) Tryz.underlying26 rfl infoG⟩) hS ?_
  try simp only [Act.put, List.setIfInBounds_toArray, List.set_cons_zero, List.set_cons_succ]
  refine wpAnyF_take (i := 12) (oi := { dst := some 37, op := Op.build 60 #[(0, Operand.tmp 33), (1, Operand.tmp 34), (2, Operand.tmp 35), (3, Operand.tmp 36)], type := 60, pos := "ref.go:132", after := #[{ on := 8, ground := Ground.data }, { on := 9, ground := Ground.data }, { on := 10, ground := Ground.data }, { on := 11, ground := Ground.data }], guard := none }) (v := .agg (encA (⟨⟨last + 1, p.1.id, due, d⟩, x⟩ : Tm × Tag)).toArray) rfl (by kernel_rfl) (by kernel_rfl) (by kernel_rfl) (by kernel_rfl) (by kernel_rfl) (fun _ _ _ h => h) (Or.inl ⟨by rfl, fun w' hw => exec_builtY _ 60 _ rfl [(0, .int .i64 (last + 1)), (1, .int .i64 p.1.id), (2, .int .u64 due), (3, .agg #[.int .i64 x.a, .int .i64 x.b, .int .i64 x.c])] _ rfl (built_tm (⟨⟨last + 1, p.1.id, due, d⟩, x⟩ : Tm × Tag))⟩) hS ?_
  try simp only [Act.put, List.setIfInBounds_toArray, List.set_cons_zero, List.set_cons_succ]
  refine wpAnyF_ready (rs := [13]) (by kernel_rfl) (by simp) ?_
  refine AllReadyF.cons (o := { dst := some 38, op := Op.buildSlice 28 1 #[(0, Operand.tmp 37)], type := 28, pos := "ref.go:132", after := #[{ on := 12, ground := Ground.data }], guard := none }) rfl (fun K hK => ?_) AllReadyF.nil
  refine step_of_list rfl ?_
  refine wpList_buildSlice_rows rfl 28 1 _ rfl 60 6 i6 _ Tryz.underlying28 hi6 hz6 hs6 (by omega) [encA (⟨⟨last + 1, p.1.id, due, d⟩, x⟩ : Tm × Tag)] rfl (by simp [encA]) (by omega) (by rfl) ?_
  have tb := (Touch.refl [] W).alloc (.cells [encA (⟨⟨last + 1, p.1.id, due, d⟩, x⟩ : Tm × Tag)].flatten.toArray 60)
  have hrow2 := (hT.touch0 tb).row
  rw [rA_len] at hrow2
  have hnw := range_new W [encA (⟨⟨last + 1, p.1.id, due, d⟩, x⟩ : Tm × Tag)].flatten 60
  have hS2 := hS.trans tb (by simp)
  refine ⟨rfl, hK.out _ _ hS2 (fun _ => ?_)⟩
  clear hK K hS
  have hS := hS2
  clear hS2
  generalize hW1 : W.alloc (.cells [encA (⟨⟨last + 1, p.1.id, due, d⟩, x⟩ : Tm × Tag)].flatten.toArray 60) = W1 at *
  have z1 : W1.heap.size = W.heap.size + 1 := by rw [← hW1]; simp
  clear hW1
  try simp only [Act.put, List.setIfInBounds_toArray, List.set_cons_zero, List.set_cons_succ]
  refine wpAnyF_ready (rs := [14]) (by kernel_rfl) (by simp) ?_
  refine AllReadyF.cons (o := { dst := some 39, op := Op.call { callee := Callee.builtin Builtin.append, args := #[Operand.tmp 29, Operand.tmp 38], argTypes := #[28, 28] }, type := 28, pos := "ref.go:132", after := #[{ on := 4, ground := Ground.data }, { on := 13, ground := Ground.data }], guard := none }) rfl (fun K hK => ?_) AllReadyF.nil
  refine step_app _ (by rfl) (.tmp 29) (.tmp 38) 28 (by rfl) 60 i6 _ 6 48 Tryz.underlying28 hi6 hz6 hs6 hb6 hc6 (by omega) _ A.length _ (by rfl) hrow2 (some ⟨W.heap.size, 0, none⟩) 1 1 [encA (⟨⟨last + 1, p.1.id, due, d⟩, x⟩ : Tm × Tag)].flatten (by rfl) (by simp [encA]) (by simp) (by intro ad h j u hu; cases h; rw [Addr.add_lit]; exact hnw j u hu) (rA_ones [(⟨⟨last + 1, p.1.id, due, d⟩, x⟩ : Tm × Tag)]) (by unfold maxLen; omega) (by omega) ?_
  intro v2 w2 o2 t2 b2
  have t2' : Touch (Value.slice av A.length cv).ownBlock.toList W w2 := (tb.mono (by simp)).trans t2 (fun y hy => .inl hy)
  have hS2 := hS.trans t2 (fun y hy => .inl hy)
  refine hK.out _ _ hS2 (fun _ => ?_)
  clear hK K hS
  have hS := hS2
  clear hS2
  try simp only [Act.put, List.setIfInBounds_toArray, List.set_cons_zero, List.set_cons_succ]
  refine wpAnyF_take (i := 15) (oi := { dst := some 40, op := Op.nilCheck (Operand.tmp 25), type := 0, pos := "ref.go:132", after := #[{ on := 0, ground := Ground.data }, { on := 0, ground := Ground.phase }, { on := 1, ground := Ground.phase }, { on := 2, ground := Ground.phase }, { on := 3, ground := Ground.phase }, { on := 4, ground := Ground.phase }, { on := 5, ground := Ground.phase }, { on := 6, ground := Ground.phase }, { on := 7, ground := Ground.phase }, { on := 8, ground := Ground.phase }, { on := 9, ground := Ground.phase }, { on := 10, ground := Ground.phase }, { on := 11, ground := Ground.phase }, { on := 12, ground := Ground.phase }, { on := 13, ground := Ground.phase }, { on := 14, ground := Ground.phase }], guard := none }) (v := .pointer (some ⟨r, 0, none⟩)) rfl (by kernel_rfl) (by kernel_rfl) (by kernel_rfl) (by kernel_rfl) (by kernel_rfl) (fun _ _ _ h => h) (Or.inl ⟨by rfl, fun w' hw => by go_simp⟩) hS ?_
  try simp only [Act.put, List.setIfInBounds_toArray, List.set_cons_zero, List.set_cons_succ]
  refine wpAnyF_take (i := 16) (oi := { dst := some 41, op := Op.fieldAddr 30 (Operand.tmp 40) 0, type := 0, pos := "ref.go:132", after := #[{ on := 15, ground := Ground.data }, { on := 0, ground := Ground.phase }, { on := 1, ground := Ground.phase }, { on := 2, ground := Ground.phase }, { on := 3, ground := Ground.phase }, { on := 4, ground := Ground.phase }, { on := 5, ground := Ground.phase }, { on := 6, ground := Ground.phase }, { on := 7, ground := Ground.phase }, { on := 8, ground := Ground.phase }, { on := 9, ground := Ground.phase }, { on := 10, ground := Ground.phase }, { on := 11, ground := Ground.phase }, { on := 12, ground := Ground.phase }, { on := 13, ground := Ground.phase }, { on := 14, ground := Ground.phase }], guard := none }) (v := .pointer (some ⟨r, 0, none⟩)) rfl (by kernel_rfl) (by kernel_rfl) (by kernel_rfl) (by kernel_rfl) (by kernel_rfl) (fun _ _ _ h => h) (Or.inl ⟨by rfl, fun w' hw => by go_simp⟩) hS ?_
  try simp only [Act.put, List.setIfInBounds_toArray, List.set_cons_zero, List.set_cons_succ]
  refine wpAnyF_ready (rs := [17]) (by kernel_rfl) (by simp) ?_
  refine AllReadyF.last (o := { dst := none, op := Op.store 28 (Operand.tmp 41) (Operand.tmp 39), type := 0, pos := "ref.go:132", after := #[{ on := 16, ground := Ground.data }, { on := 14, ground := Ground.data }, { on := 14, ground := Ground.chain }, { on := 0, ground := Ground.phase }, { on := 1, ground := Ground.phase }, { on := 2, ground := Ground.phase }, { on := 3, ground := Ground.phase }, { on := 4, ground := Ground.phase }, { on := 5, ground := Ground.phase }, { on := 6, ground := Ground.phase }, { on := 7, ground := Ground.phase }, { on := 8, ground := Ground.phase }, { on := 9, ground := Ground.phase }, { on := 10, ground := Ground.phase }, { on := 11, ground := Ground.phase }, { on := 12, ground := Ground.phase }, { on := 13, ground := Ground.phase }, { on := 14, ground := Ground.phase }], guard := none }) rfl (by simp) (fun K hK => ?_) AllReadyF.nil
  have q1 := t2'.cell c0 hhb
  have g0 : w2.frozen? ⟨r, 0, none⟩ = false := by simp [World.frozen?, t2'.at hT.hdr hhb]
  obtain ⟨av2, cv2, rfl, hw2, hw3, hw4⟩ := owns_form o2
  go_simp
  have q3 := w2
  refine hK.out _ _ ?_
  clear hK K q3
  try simp only [Act.put, List.setIfInBounds_toArray, List.set_cons_zero, List.set_cons_succ]
  refine wpAnyF_done (by kernel_rfl) ?_ _
  have e2 : (rA (A ++ [(⟨⟨last + 1, p.1.id, due, d⟩, x⟩ : Tm × Tag)])).flatten = (rA A).flatten ++ [encA (⟨⟨last + 1, p.1.id, due, d⟩, x⟩ : Tm × Tag)].flatten := by simp [rA]
  rw [← e2] at o2
  obtain ⟨p3, t3, ft3⟩ := hT.lay (A' := A ++ [(⟨⟨last + 1, p.1.id, due, d⟩, x⟩ : Tm × Tag)]) t2' (by rw [rA_len, List.length_append]; exact o2) (by rcases b2 with e | e; exact .inl e; exact .inr ⟨_, e, by omega⟩) (by simp; omega)
  have P3 := Lib.hid p3
  have F3 := Lib.hid ft3
  have T3 := Lib.hid (TW.out.trans t3 (fun y hy => .inl hy))
  have hz := TW.out.size
  have hz1 := T1.out.size
  clear p3 o2 t2 t2' b2 e2 t3 ft3 hw4 hS q1 g0 hrow2 hnw z1 tb hT c0 c1
  generalize w2.setCell ⟨r, 0, none⟩ (.slice av2 (A.length + 1) cv2) = w3 at *
  have c1 := P3.out.c1
  go_wp2_with fail
  go_ret2
  exact ⟨rfl, _, P3.out, fun y hy => by
    rcases F3.out y hy with h2 | h2
    · exact .inl h2
    · exact .inr (Nat.le_trans (Nat.le_trans hz1 hz) h2), (T1.out.trans T3.out (fun y hy => .inl hy))⟩
set_option maxRecDepth 100000 in
set_option maxHeartbeats 4000000 in
theorem rstart_no (k0 : RL w0 r v A last) {par : Int} (hp : par ∉ ids A) (hp0 : par ≠ 0) (due : Int) (x : Tag) :
    Calls Tryz.prog 9 #[.pointer (some ⟨r, 0, none⟩), .int .i64 par, .int .u64 due, .agg #[.int .i64 x.a, .int .i64 x.b, .int .i64 x.c]] w0 fun e w' => e = .returned (.tuple #[.int .i64 0, .bool false]) ∧ Touch [] w0 w' := by
  have TB := Lib.hid ((Touch.refl [] w0).alloc (.cells #[.int .i64 x.a, .int .i64 x.b, .int .i64 x.c] 26))
  have HF := Lib.hid (find_no (k0.touch0 TB.out) hp)
  have q1 : (par != 0) = true := by simpa using hp0
  clear k0
  go_enter Tryz.func9, Tryz.ntmps9
  go_wp2_with fail
  refine HF.out.mono ?_
  rintro e w' ⟨rfl, hw⟩
  obtain rfl := hw
  go_wp2_with fail
  go_ret2
  exact ⟨rfl, TB.out⟩
end
end Go.Proofs.YtobkanlnnniabaaGreat.G

/-
  The reference's Cancel.
-/
namespace Go.Proofs.YtobkanlnnniabaaGreat.G
open Go.RowKit
set_option linter.unusedVariables false
set_option linter.unusedSimpArgs false
-- RL w r v
theorem rA_take (C : TA) (i : Nat) : ∀ x ∈ (rA C).take i, x.length = 6 := fun x hx => rA_lens C x (List.mem_of_mem_take hx)
theorem rA_drop (C : TA) (i : Nat) : ∀ x ∈ (rA C).drop i, x.length = 6 := fun x hx => rA_lens C x (List.mem_of_mem_drop hx)
theorem rA_sub {C : TA} {l : List (List Value)} (h : l.Sublist (rA C)) : ∀ u ∈ l.flatten, u.oneCell' = true := by
  intro u hu
  obtain ⟨x, hx, hux⟩ := List.mem_flatten.1 hu
  obtain ⟨a, _, rfl⟩ := List.mem_map.1 (h.subset hx)
  exact encA_one a u hux
theorem own_new {v v' : Value} {s m : Nat} (b : v'.ownBlock = v.ownBlock ∨ v'.ownBlock = some s) (h1 : ∀ g, v.ownBlock = some g → m ≤ g) (hs : m ≤ s) : ∀ g, v'.ownBlock = some g → m ≤ g := by
  intro g hg
  rcases b with e | e
  · rw [e] at hg
    exact h1 g hg
  · rw [e] at hg
    simp at hg
    omega
section
variable {w wr : World} {r : Nat} {v : Value} {A C : TA} {last : Int}
theorem rcut_fin {w2 : World} {g cv n i : Nat} {v2 : Value} (hT : RL w r (.slice (some ⟨g, 0, none⟩) n cv) C last) (hn : C.length = n) (hi : i < n)
    (t2 : Touch [] w w2) (o2 : w2.ownsRow 0 60 6 v2 (i + (n - (i + 1))) (((rA C).take i).flatten ++ ((rA C).drop (i + 1)).flatten)) (hnew : ∀ g2, v2.ownBlock = some g2 → w.heap.size ≤ g2) :
    RL (w2.setCell ⟨r, 0, none⟩ v2) r v2 (C.take i ++ C.drop (i + 1)) last := by
  have hxl : r < w.heap.size := hT.lt r (by simp [RFoot])
  have e1 : (rA (C.take i ++ C.drop (i + 1))).flatten = ((rA C).take i).flatten ++ ((rA C).drop (i + 1)).flatten := by
    unfold rA
    rw [List.map_append, List.flatten_append, List.map_take, List.map_drop]
  have e2 : (rA (C.take i ++ C.drop (i + 1))).length = i + (n - (i + 1)) := by
    rw [rA_len, List.length_append, List.length_take, List.length_drop, hn]
    omega
  have t3 := (Touch.refl [r] w2).setCell (p := ⟨r, 0, none⟩) (by simp) v2
  have hv3 : v2.ownBlock ≠ some r := by
    intro e
    have := hnew r e
    omega
  have hH := t2.at hT.hdr (by simp)
  refine ⟨?_, ?_, hv3, ?_⟩
  · simp [World.setCell, Array.getElem?_modify, hH]
  · rw [e1, e2]
    exact t3.owns o2 (by intro g hg e; simp at e; exact hv3 (by rw [hg, e]))
  · have := hT.few
    rw [List.length_append, List.length_take, List.length_drop]
    omega
set_option maxRecDepth 100000 in
set_option maxHeartbeats 4000000 in
theorem rcancel_no (k : RL w r v A last) {id : Int} (hi : id ∉ ids A) :
    Calls Tryz.prog 15 #[.pointer (some ⟨r, 0, none⟩), .int .i64 id] w fun e w' => e = .returned (.int .i64 0) ∧ w = w' := by
  have HF := Lib.hid (find_no k hi)
  clear k
  go_enter Tryz.func15, Tryz.ntmps15
  go_wp2_with fail
  refine HF.out.mono ?_
  rintro e w' ⟨rfl, hw⟩
  obtain rfl := hw
  go_wp2_with fail
  go_ret
  exact ⟨rfl, rfl⟩
set_option maxRecDepth 100000 in
set_option maxHeartbeats 8000000 in
theorem rcancel_at (k : RL w r v A last) (h : TOk A last) {i0 : Nat} {a0 : Tm × Tag} (hi0 : A[i0]? = some a0) {l : List Int} (hs : Sub (A.map Prod.fst) a0.1.id l) :
    Calls Tryz.prog 15 #[.pointer (some ⟨r, 0, none⟩), .int .i64 a0.1.id] w fun e w' => e = .returned (.int .i64 (l.length : Nat)) ∧ RNx w r v (A.filter fun a => decide (a.1.id ∉ l)) last w' := by
  obtain ⟨i6, z6, hi6, hz6, hs6, hb6, hc6⟩ := info_parts info6
  have HK := Lib.hid k
  have HOK := Lib.hid h
  have HS := Lib.hid hs
  have HF := Lib.hid (find_at k h.ids hi0)
  have HD := Lib.hid (rdesc_at k h hi0 hs)
  have hil0 := (List.getElem?_eq_some_iff.1 hi0).1
  have HLN := Lib.hid (can_len h.tree hs)
  have HDL := Lib.hid (desc_len h.tree hs)
  have HND := Lib.hid (can_nodup h.tree hs)
  have hfew := k.few
  have hlf := hs.few
  rw [List.length_map] at hlf
  clear k h hs hi0
  go_enter Tryz.func15, Tryz.ntmps15
  go_wp2_with fail
  refine HF.out.mono ?_
  rintro e w' ⟨rfl, hw⟩
  obtain rfl := hw
  go_wp2_with fail
  refine HD.out.mono ?_
  rintro e w1 ⟨v1, rfl, o1, t1⟩
  have HO1 := Lib.hid o1
  have T1 := Lib.hid t1
  have TB := Lib.hid ((Touch.refl [] w1).alloc (.cells #[.int .i64 a0.1.id] 3))
  have HOB := Lib.hid (HO1.out.touch TB.out (by simp))
  have HSZ := Lib.hid (T1.out.trans TB.out (by simp)).size
  have hdl : (descN (A.map Prod.fst) l).length ≤ 1000 := by have := HDL.out; omega
  clear o1 t1 HF HD
  go_wp2_with (at_builtin; refine wpList_appN (by rfl) _ _ (by rfl) _ _ (descN (A.map Prod.fst) l) [a0.1.id] (by rfl) (by rfl) HOB.out HSZ.out (OwnN.one w1 a0.1.id).row (by simp only [List.length_cons, List.length_nil]; omega) ?_)
  intro v2 w2 o2 t2
  have T2 := Lib.hid ((T1.out.trans TB.out (by simp)).trans t2 (by intro y hy; right; exact HO1.out.new y (by simpa using hy)))
  have HO2 := Lib.hid (show OwnN w w2 v2 (canN (A.map Prod.fst) a0.1.id l) from o2)
  have HK2 := Lib.hid (HK.out.touch0 T2.out)
  obtain ⟨a2, c2, rfl, hc2, _, _⟩ := owns_form o2.row
  have hcl : (descN (A.map Prod.fst) l ++ [a0.1.id]).length = l.length := HLN.out
  rw [hcl] at HO2 hc2 ⊢
  clear o2 t2 hcl HOB HSZ TB HO1 T1
  have HCL := Lib.hid HLN.out
  generalize hcn : canN (A.map Prod.fst) a0.1.id l = lr at *
  go_wp2_with fail
  go_loopw [6, 7] (fun vi vk wr => ∃ (j : Nat) (v' : Value), vi = .int .i64 j ∧ j ≤ l.length ∧ RL wr r v' (cutR A lr j) last ∧ (v' = v ∨ ∀ g, v'.ownBlock = some g → w2.heap.size ≤ g) ∧ Touch [r] w2 wr) (fun vi _ _ => l.length - (intOf vi).toNat)
  case atStart => exact ⟨0, v, rfl, by omega, by rw [cutR_zero]; exact HK2.out, .inl rfl, Touch.refl _ _⟩
  case round =>
    obtain ⟨j, v', rfl, hjl, hk, hv', ht⟩ := hrel
    have HKR := Lib.hid hk
    have HTR := Lib.hid ht
    have HVR := Lib.hid hv'
    clear hk ht hv'
    by_cases hlt : j < l.length
    · have hb1 : (j : Int) < (l.length : Int) := by omega
      have hx : lr[j]? = some (lr[j]'(by rw [HCL.out]; exact hlt)) := List.getElem?_eq_getElem _
      generalize lr[j]'(by rw [HCL.out]; exact hlt) = i at hx
      have hia : i ∈ l := by
        have := List.mem_of_getElem? hx
        rw [← hcn] at this
        exact (can_mem HS.out i).1 this
      obtain ⟨a, haA, hae⟩ := mem_ids.1 (HS.out.mem i hia)
      subst hae
      have haC := cutR_in (A := A) (hcn ▸ HND.out) hx haA rfl
      obtain ⟨q, hq⟩ := List.mem_iff_getElem?.1 haC
      have hnC : (ids (cutR A lr j)).Nodup := List.Sublist.nodup ((List.filter_sublist.map Prod.fst).map Tm.id) HOK.out.ids
      have HCUT := Lib.hid (show (cutR A lr j).take q ++ (cutR A lr j).drop (q + 1) = cutR A lr (j + 1) by
        rw [cut_at (by have := hnC; unfold ids tids at this; rw [List.map_map] at this; exact this) hq, cutR_step hx])
      have HFQ := Lib.hid (find_at HKR.out hnC hq)
      obtain ⟨g2, rfl⟩ : ∃ g2, a2 = some ⟨g2, 0, none⟩ := by
        obtain ⟨a', c', hv, _, _, h3⟩ := owns_form (by have := HO2.out.row; rw [HCL.out] at this; exact this)
        obtain ⟨g', hg'⟩ := h3 (by omega)
        simp only [Value.slice.injEq] at hv
        exact ⟨g', hv.1.trans hg'⟩
      have hg2r : g2 ∉ [r] := by
        intro hm
        simp at hm
        have h1 := HO2.out.new g2 rfl
        have h2 := HK.out.lt r (by simp [RFoot])
        omega
      have e0 : wr.cell? ⟨g2, j, none⟩ = some (.int .i64 a.1.id) := by
        have h1 := owns_cell (by have := HO2.out.row; rw [HCL.out] at this; exact this) j (.int .i64 a.1.id) (by rw [List.getElem?_map, hx]; rfl)
        exact HTR.out.cell h1 hg2r
      have hwi : IntKind.i64.wrap ((j : Int) + 1) = (j : Int) + 1 := by rw [IntKind.wrap_i64] <;> omega
      have hql := (List.getElem?_eq_some_iff.1 hq).1
      have hCfew := HKR.out.few
      obtain ⟨C, hC⟩ : ∃ C, C = cutR A lr j := ⟨_, rfl⟩
      rw [← hC] at HKR HCUT hql hCfew
      clear hnC hq haC hC hia hx haA
      obtain ⟨av, cv, rfl, hv1, hv2, hv3⟩ := owns_form HKR.out.row
      rw [rA_len] at hv1 hv3 HKR HVR
      obtain ⟨g, rfl⟩ := hv3 (by omega)
      have hgx' : ¬ g = r := fun e => HKR.out.hv (by simp [Value.ownBlock, e])
      obtain ⟨n, hN⟩ : ∃ n, C.length = n := ⟨_, rfl⟩
      rw [hN] at HKR HVR hql hv1 hCfew
      have HN := Lib.hid hN
      clear hN hv3
      have i0 : (0 : Int) ≤ (q : Int) := by omega
      have i1 : (q : Int) < (n : Int) := by omega
      have i2 : (q : Int) ≤ (cv : Int) := by omega
      have hq1 := hql
      go_wp2_with fail
      refine HFQ.out.mono ?_
      rintro e w' ⟨rfl, hw⟩
      obtain rfl := hw
      go_wp2_with fail
      have hS := Touch.refl [] wr.drew
      refine wp_region_F (S := Touch [] wr.drew) [18] (by kernel_rfl) ?_
      change wpAnyF _ _ _ _ _ _ _ _ _ wr.drew
      have t0 := (Touch.refl [] wr).drew
      have hT := HKR.out.touch0 t0
      have hH := hT.hdr
      have hRd : Rd wr.drew 6 g (.slice (some ⟨g, 0, none⟩) n cv) (rA C) := by have := hT.rd; simpa [Value.ownBlock] using this
      generalize wr.drew = W at *
      refine wpAnyF_take (i := 0) (oi := { dst := some 30, op := Op.move (Operand.tmp 0), type := 27, pos := "ref.go:185", after := #[], guard := none }) (v := .pointer (some ⟨r, 0, none⟩)) rfl (by kernel_rfl) (by kernel_rfl) (by kernel_rfl) (by kernel_rfl) (by kernel_rfl) (fun _ _ _ h => h) (Or.inl ⟨by rfl, fun w' hw => by go_simp⟩) hS ?_
      try simp only [Act.put, List.setIfInBounds_toArray, List.set_cons_zero, List.set_cons_succ]
      refine wpAnyF_take (i := 1) (oi := { dst := some 31, op := Op.move (Operand.tmp 0), type := 27, pos := "ref.go:185", after := #[], guard := none }) (v := .pointer (some ⟨r, 0, none⟩)) rfl (by kernel_rfl) (by kernel_rfl) (by kernel_rfl) (by kernel_rfl) (by kernel_rfl) (fun _ _ _ h => h) (Or.inl ⟨by rfl, fun w' hw => by go_simp⟩) hS ?_
      try simp only [Act.put, List.setIfInBounds_toArray, List.set_cons_zero, List.set_cons_succ]
      refine wpAnyF_take (i := 2) (oi := { dst := some 32, op := Op.nilCheck (Operand.tmp 31), type := 0, pos := "ref.go:185", after := #[{ on := 1, ground := Ground.data }], guard := none }) (v := .pointer (some ⟨r, 0, none⟩)) rfl (by kernel_rfl) (by kernel_rfl) (by kernel_rfl) (by kernel_rfl) (by kernel_rfl) (fun _ _ _ h => h) (Or.inl ⟨by rfl, fun w' hw => by go_simp⟩) hS ?_
      try simp only [Act.put, List.setIfInBounds_toArray, List.set_cons_zero, List.set_cons_succ]
      refine wpAnyF_take (i := 3) (oi := { dst := some 33, op := Op.fieldAddr 30 (Operand.tmp 32) 0, type := 0, pos := "ref.go:185", after := #[{ on := 2, ground := Ground.data }], guard := none }) (v := .pointer (some ⟨r, 0, none⟩)) rfl (by kernel_rfl) (by kernel_rfl) (by kernel_rfl) (by kernel_rfl) (by kernel_rfl) (fun _ _ _ h => h) (Or.inl ⟨by rfl, fun w' hw => by go_simp⟩) hS ?_
      try simp only [Act.put, List.setIfInBounds_toArray, List.set_cons_zero, List.set_cons_succ]
      refine wpAnyF_take (i := 4) (oi := { dst := some 34, op := Op.load 28 (Operand.tmp 33), type := 28, pos := "ref.go:185", after := #[{ on := 3, ground := Ground.data }], guard := none }) (v := .slice (some ⟨g, 0, none⟩) n cv) rfl (by kernel_rfl) (by kernel_rfl) (by kernel_rfl) (by kernel_rfl) (by kernel_rfl) (fun _ _ _ h => h) (Or.inl ⟨by rfl, fun w' hw => by (have q := hw.at hH (by simp); have q2 : w'.cell? ⟨r, 0, none⟩ = some (.slice (some ⟨g, 0, none⟩) n cv) := (by simp [World.cell?, q]); go_simp)⟩) hS ?_
      try simp only [Act.put, List.setIfInBounds_toArray, List.set_cons_zero, List.set_cons_succ]
      refine wpAnyF_take (i := 5) (oi := { dst := some 35, op := Op.move (Operand.tmp 7), type := 3, pos := "ref.go:185", after := #[], guard := none }) (v := .int .i64 (q : Int)) rfl (by kernel_rfl) (by kernel_rfl) (by kernel_rfl) (by kernel_rfl) (by kernel_rfl) (fun _ _ _ h => h) (Or.inl ⟨by rfl, fun w' hw => by go_simp⟩) hS ?_
      try simp only [Act.put, List.setIfInBounds_toArray, List.set_cons_zero, List.set_cons_succ]
      refine wpAnyF_take (i := 6) (oi := { dst := some 36, op := Op.slice 28 (Operand.tmp 34) none (some (Operand.tmp 35)) none, type := 28, pos := "ref.go:185", after := #[{ on := 4, ground := Ground.data }, { on := 5, ground := Ground.data }], guard := none }) (v := .slice (some ⟨g, 0, none⟩) q cv) rfl (by kernel_rfl) (by kernel_rfl) (by kernel_rfl) (by kernel_rfl) (by kernel_rfl) (fun _ _ _ h => h) (Or.inl ⟨by rfl, fun w' hw => by go_simp⟩) hS ?_
      try simp only [Act.put, List.setIfInBounds_toArray, List.set_cons_zero, List.set_cons_succ]
      refine wpAnyF_take (i := 8) (oi := { dst := some 38, op := Op.move (Operand.tmp 0), type := 27, pos := "ref.go:185", after := #[], guard := none }) (v := .pointer (some ⟨r, 0, none⟩)) rfl (by kernel_rfl) (by kernel_rfl) (by kernel_rfl) (by kernel_rfl) (by kernel_rfl) (fun _ _ _ h => h) (Or.inl ⟨by rfl, fun w' hw => by go_simp⟩) hS ?_
      try simp only [Act.put, List.setIfInBounds_toArray, List.set_cons_zero, List.set_cons_succ]
      refine wpAnyF_take (i := 9) (oi := { dst := some 39, op := Op.nilCheck (Operand.tmp 38), type := 0, pos := "ref.go:185", after := #[{ on := 8, ground := Ground.data }], guard := none }) (v := .pointer (some ⟨r, 0, none⟩)) rfl (by kernel_rfl) (by kernel_rfl) (by kernel_rfl) (by kernel_rfl) (by kernel_rfl) (fun _ _ _ h => h) (Or.inl ⟨by rfl, fun w' hw => by go_simp⟩) hS ?_
      try simp only [Act.put, List.setIfInBounds_toArray, List.set_cons_zero, List.set_cons_succ]
      refine wpAnyF_take (i := 10) (oi := { dst := some 40, op := Op.fieldAddr 30 (Operand.tmp 39) 0, type := 0, pos := "ref.go:185", after := #[{ on := 9, ground := Ground.data }], guard := none }) (v := .pointer (some ⟨r, 0, none⟩)) rfl (by kernel_rfl) (by kernel_rfl) (by kernel_rfl) (by kernel_rfl) (by kernel_rfl) (fun _ _ _ h => h) (Or.inl ⟨by rfl, fun w' hw => by go_simp⟩) hS ?_
      try simp only [Act.put, List.setIfInBounds_toArray, List.set_cons_zero, List.set_cons_succ]
      refine wpAnyF_take (i := 11) (oi := { dst := some 41, op := Op.load 28 (Operand.tmp 40), type := 28, pos := "ref.go:185", after := #[{ on := 10, ground := Ground.data }], guard := none }) (v := .slice (some ⟨g, 0, none⟩) n cv) rfl (by kernel_rfl) (by kernel_rfl) (by kernel_rfl) (by kernel_rfl) (by kernel_rfl) (fun _ _ _ h => h) (Or.inl ⟨by rfl, fun w' hw => by (have q := hw.at hH (by simp); have q2 : w'.cell? ⟨r, 0, none⟩ = some (.slice (some ⟨g, 0, none⟩) n cv) := (by simp [World.cell?, q]); go_simp)⟩) hS ?_
      try simp only [Act.put, List.setIfInBounds_toArray, List.set_cons_zero, List.set_cons_succ]
      refine wpAnyF_take (i := 12) (oi := { dst := some 42, op := Op.move (Operand.tmp 7), type := 3, pos := "ref.go:185", after := #[], guard := none }) (v := .int .i64 (q : Int)) rfl (by kernel_rfl) (by kernel_rfl) (by kernel_rfl) (by kernel_rfl) (by kernel_rfl) (fun _ _ _ h => h) (Or.inl ⟨by rfl, fun w' hw => by go_simp⟩) hS ?_
      try simp only [Act.put, List.setIfInBounds_toArray, List.set_cons_zero, List.set_cons_succ]
      refine wpAnyF_take (i := 13) (oi := { dst := some 43, op := Op.binOp BinOp.add 3 (Operand.tmp 42) (Operand.const (Value.int IntKind.i64 1)) 3, type := 3, pos := "ref.go:185", after := #[{ on := 12, ground := Ground.data }], guard := none }) (v := .int .i64 ((q + 1 : Nat) : Int)) rfl (by kernel_rfl) (by kernel_rfl) (by kernel_rfl) (by kernel_rfl) (by kernel_rfl) (fun _ _ _ h => h) (Or.inl ⟨by rfl, fun w' hw => by (go_simp; rw [IntKind.wrap_i64]; omega)⟩) hS ?_
      try simp only [Act.put, List.setIfInBounds_toArray, List.set_cons_zero, List.set_cons_succ]
      refine wpAnyF_take (i := 14) (oi := { dst := some 44, op := Op.slice 28 (Operand.tmp 41) (some (Operand.tmp 43)) none none, type := 28, pos := "ref.go:185", after := #[{ on := 11, ground := Ground.data }, { on := 13, ground := Ground.data }], guard := none }) (v := cutv (some ⟨g, 0, none⟩) n cv (q + 1) 6) rfl (by kernel_rfl) (by kernel_rfl) (by kernel_rfl) (by kernel_rfl) (by kernel_rfl) (fun _ _ _ h => h) (yieldsIf_from (by rfl) 28 _ _ rfl 60 6 Tryz.underlying28 size6 _ _ _ (q + 1) (by rfl) (by rfl) (by omega)) hS ?_
      try simp only [Act.put, List.setIfInBounds_toArray, List.set_cons_zero, List.set_cons_succ]
      refine wpAnyF_ready (rs := [7]) (by kernel_rfl) (by simp) ?_
      refine AllReadyF.cons (o := { dst := some 37, op := Op.call { callee := Callee.builtin Builtin.append, args := #[Operand.const (Value.slice none 0 0), Operand.tmp 36], argTypes := #[28, 28] }, type := 28, pos := "ref.go:185", after := #[{ on := 6, ground := Ground.data }], guard := none }) rfl (fun K hK => ?_) AllReadyF.nil
      have r1 := (hRd.touch hS (by simp)).take q (by rw [rA_len, HN.out]; omega)
      obtain ⟨p1, p2⟩ := r1.news (by omega) (rA_take C q)
      refine step_app _ (by rfl) (.const (.slice none 0 0)) (.tmp 36) 28 (by rfl) 60 i6 _ 6 48 Tryz.underlying28 hi6 hz6 hs6 hb6 hc6 (by omega) _ 0 _ (by rfl) (World.ownsRow_nil _ _ _ _) _ q _ ((rA C).take q).flatten (by rfl) (by rw [flat_len (rA_take C q), List.length_take, rA_len, HN.out]; omega) p1 p2 (rA_sub (List.take_sublist _ _)) (by unfold maxLen; omega) (by omega) ?_
      intro v1 w1 o1 t1 b1
      simp only [Nat.zero_add, List.nil_append] at o1
      have t1' : Touch [] W w1 := t1.mono (by simp [Value.ownBlock])
      have hS2 := hS.trans t1' (by simp)
      refine hK.out _ _ hS2 (fun _ => ?_)
      clear hK K hS p1 p2 r1 t1
      have hS := hS2
      clear hS2
      try simp only [Act.put, List.setIfInBounds_toArray, List.set_cons_zero, List.set_cons_succ]
      refine wpAnyF_ready (rs := [15]) (by kernel_rfl) (by simp) ?_
      refine AllReadyF.cons (o := { dst := some 45, op := Op.call { callee := Callee.builtin Builtin.append, args := #[Operand.tmp 37, Operand.tmp 44], argTypes := #[28, 28] }, type := 28, pos := "ref.go:185", after := #[{ on := 7, ground := Ground.data }, { on := 14, ground := Ground.data }, { on := 7, ground := Ground.chain }], guard := none }) rfl (fun K hK => ?_) AllReadyF.nil
      have r2 := (hRd.touch hS (by simp)).drop (P := Tryz.prog) (T := 0) (e := 0) (q + 1) (by rw [rA_len, HN.out]; omega)
      obtain ⟨p1, p2⟩ := r2.news (by omega) (rA_drop C (q + 1))
      refine step_app _ (by rfl) (.tmp 37) (.tmp 44) 28 (by rfl) 60 i6 _ 6 48 Tryz.underlying28 hi6 hz6 hs6 hb6 hc6 (by omega) _ q _ (by rfl) o1 _ (n - (q + 1)) _ ((rA C).drop (q + 1)).flatten (by rfl) (by rw [flat_len (rA_drop C (q + 1))]; simp [rA_len, HN.out]) p1 p2 (rA_sub (List.drop_sublist _ _)) (by unfold maxLen; omega) (by omega) ?_
      intro v2 w2 o2 t2 b2
      have hz1 := t1'.size
      have hnew1 := own_new b1 (m := W.heap.size) (by simp [Value.ownBlock]) (Nat.le_refl _)
      have hnew := own_new b2 hnew1 hz1
      have t2' : Touch [] W w2 := t1'.trans t2 (fun y hy => .inr (hnew1 y (by simpa using hy)))
      have hS2 := hS.trans t2 (fun y hy => .inr (hnew1 y (by simpa using hy)))
      refine hK.out _ _ hS2 (fun _ => ?_)
      clear hK K hS p1 p2 r2 t2 o1 b1 b2 hnew1
      have hS := hS2
      clear hS2
      try simp only [Act.put, List.setIfInBounds_toArray, List.set_cons_zero, List.set_cons_succ]
      refine wpAnyF_take (i := 16) (oi := { dst := some 46, op := Op.nilCheck (Operand.tmp 30), type := 0, pos := "ref.go:185", after := #[{ on := 0, ground := Ground.data }, { on := 0, ground := Ground.phase }, { on := 1, ground := Ground.phase }, { on := 2, ground := Ground.phase }, { on := 3, ground := Ground.phase }, { on := 4, ground := Ground.phase }, { on := 5, ground := Ground.phase }, { on := 6, ground := Ground.phase }, { on := 7, ground := Ground.phase }, { on := 8, ground := Ground.phase }, { on := 9, ground := Ground.phase }, { on := 10, ground := Ground.phase }, { on := 11, ground := Ground.phase }, { on := 12, ground := Ground.phase }, { on := 13, ground := Ground.phase }, { on := 14, ground := Ground.phase }, { on := 15, ground := Ground.phase }], guard := none }) (v := .pointer (some ⟨r, 0, none⟩)) rfl (by kernel_rfl) (by kernel_rfl) (by kernel_rfl) (by kernel_rfl) (by kernel_rfl) (fun _ _ _ h => h) (Or.inl ⟨by rfl, fun w' hw => by go_simp⟩) hS ?_
      try simp only [Act.put, List.setIfInBounds_toArray, List.set_cons_zero, List.set_cons_succ]
      refine wpAnyF_take (i := 17) (oi := { dst := some 47, op := Op.fieldAddr 30 (Operand.tmp 46) 0, type := 0, pos := "ref.go:185", after := #[{ on := 16, ground := Ground.data }, { on := 0, ground := Ground.phase }, { on := 1, ground := Ground.phase }, { on := 2, ground := Ground.phase }, { on := 3, ground := Ground.phase }, { on := 4, ground := Ground.phase }, { on := 5, ground := Ground.phase }, { on := 6, ground := Ground.phase }, { on := 7, ground := Ground.phase }, { on := 8, ground := Ground.phase }, { on := 9, ground := Ground.phase }, { on := 10, ground := Ground.phase }, { on := 11, ground := Ground.phase }, { on := 12, ground := Ground.phase }, { on := 13, ground := Ground.phase }, { on := 14, ground := Ground.phase }, { on := 15, ground := Ground.phase }], guard := none }) (v := .pointer (some ⟨r, 0, none⟩)) rfl (by kernel_rfl) (by kernel_rfl) (by kernel_rfl) (by kernel_rfl) (by kernel_rfl) (fun _ _ _ h => h) (Or.inl ⟨by rfl, fun w' hw => by go_simp⟩) hS ?_
      try simp only [Act.put, List.setIfInBounds_toArray, List.set_cons_zero, List.set_cons_succ]
      refine wpAnyF_ready (rs := [18]) (by kernel_rfl) (by simp) ?_
      refine AllReadyF.last (o := { dst := none, op := Op.store 28 (Operand.tmp 47) (Operand.tmp 45), type := 0, pos := "ref.go:185", after := #[{ on := 17, ground := Ground.data }, { on := 15, ground := Ground.data }, { on := 15, ground := Ground.chain }, { on := 0, ground := Ground.phase }, { on := 1, ground := Ground.phase }, { on := 2, ground := Ground.phase }, { on := 3, ground := Ground.phase }, { on := 4, ground := Ground.phase }, { on := 5, ground := Ground.phase }, { on := 6, ground := Ground.phase }, { on := 7, ground := Ground.phase }, { on := 8, ground := Ground.phase }, { on := 9, ground := Ground.phase }, { on := 10, ground := Ground.phase }, { on := 11, ground := Ground.phase }, { on := 12, ground := Ground.phase }, { on := 13, ground := Ground.phase }, { on := 14, ground := Ground.phase }, { on := 15, ground := Ground.phase }], guard := none }) rfl (by simp) (fun K hK => ?_) AllReadyF.nil
      have hH2 := t2'.at hH (by simp)
      have q1 : w2.cell? ⟨r, 0, none⟩ = some (.slice (some ⟨g, 0, none⟩) n cv) := by simp [World.cell?, hH2]
      have q2 : w2.frozen? ⟨r, 0, none⟩ = false := by simp [World.frozen?, hH2]
      obtain ⟨a2, c2, rfl, _⟩ := owns_form o2
      go_simp
      have t3 := (Touch.refl [r] w2).setCell (p := ⟨r, 0, none⟩) (by simp) (.slice a2 (q + (n - (q + 1))) c2)
      have hS2 : Touch [r] W (w2.setCell ⟨r, 0, none⟩ (.slice a2 (q + (n - (q + 1))) c2)) := (t2'.mono (by simp)).trans t3 (by simp)
      refine hK.out _ _ ?_
      clear hK K
      try simp only [Act.put, List.setIfInBounds_toArray, List.set_cons_zero, List.set_cons_succ]
      refine wpAnyF_done (by kernel_rfl) ?_ _
      have FIN := Lib.hid (rcut_fin hT HN.out hq1 t2' o2 hnew)
      have TF := Lib.hid (show Touch [r] wr _ from (t0.mono (by simp)).trans hS2 (by simp))
      have HNW := Lib.hid hnew
      have hz0 := Lib.hid t0.size
      clear hS hT hH hRd hS2 t3 hH2 q1 q2 t2' o2 hnew hz1 t1' t0
      go_wp2_with fail
      go_roundw
      case rel =>
        refine ⟨j + 1, _, by simp, by omega, ?_, Or.inr (fun b hb => Nat.le_trans (Nat.le_trans HTR.out.size hz0.out) (HNW.out b hb)), HTR.out.trans TF.out (by simp)⟩
        rw [← HCUT.out]
        exact FIN.out
      case measure => simp [intOf] <;> omega
    · have hb1 : ¬ (j : Int) < (l.length : Int) := by omega
      have hje : j = lr.length := by rw [HCL.out]; omega
      go_wp2_with fail
      go_ret
      refine ⟨rfl, v', ?_, ?_, (T2.out.mono (by simp)).trans (HTR.out.mono (by intro y hy; left; simp at hy; simp [RFoot, hy])) (fun y hy => .inl hy)⟩
      · have h1 := HKR.out
        rw [hje, cutR_all] at h1
        have h2 : (A.filter fun a => decide (a.1.id ∉ lr)) = A.filter fun a => decide (a.1.id ∉ l) := by
          refine List.filter_congr fun a _ => ?_
          have := can_mem HS.out a.1.id
          rw [hcn] at this
          simp only [this]
        rw [h2] at h1
        simpa only [decide_not] using h1
      · intro y hy
        simp only [RFoot, List.mem_cons, Option.mem_toList] at hy ⊢
        rcases hy with rfl | hy
        · exact .inl (.inl rfl)
        · rcases HVR.out with e | e
          · rw [e] at hy
            exact .inl (.inr hy)
          · exact .inr (Nat.le_trans T2.out.size (e y hy))
end
end Go.Proofs.YtobkanlnnniabaaGreat.G

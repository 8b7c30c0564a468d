/-
  Merged texts: St, Oc, Ct, Eq1.
-/
import Derived.Test.YtmdnkhpkpmbeoaaV2
import Derived.DeepKeys4

/-
  The statements' someTrace.
-/
namespace Go.Proofs.Ytmdnkhpkpmbeoaa
open Go.RowKit
set_option linter.unusedVariables false
set_option linter.unusedSimpArgs false

def rO (l : List O) : List (List Value) := l.map encO
def rE (l : List Key) : List (List Value) := l.map encE
def rT (l : List Tg) : List (List Value) := l.map encT
def someT (l : List O) (m : Nat) : List O := (l.take m).map someO
theorem rO_len (l : List O) : (rO l).length = l.length := by simp [rO]
theorem rE_len (l : List Key) : (rE l).length = l.length := by simp [rE]
theorem rT_len (l : List Tg) : (rT l).length = l.length := by simp [rT]
theorem rO_snoc (l : List O) (o : O) : rO (l ++ [o]) = rO l ++ [encO o] := by simp [rO]
theorem rE_snoc (l : List Key) (o : Key) : rE (l ++ [o]) = rE l ++ [encE o] := by simp [rE]
theorem rT_snoc (l : List Tg) (o : Tg) : rT (l ++ [o]) = rT l ++ [encT o] := by simp [rT]
theorem someT_ok {l : List O} (h : ∀ o ∈ l, OkO o) (m : Nat) : ∀ o ∈ someT l m, OkO o := by
  intro o ho
  obtain ⟨x, hx, rfl⟩ := List.mem_map.1 ho
  exact someO_ok (h x (List.mem_of_mem_take hx))
theorem someT_len (l : List O) (m : Nat) : (someT l m).length = min m l.length := by simp [someT]
theorem Rd.atO {w : World} {b n cap : Nat} {a : Option Addr} {l : List O} (h : Rd w 23 b (.slice a n cap) (rO l)) {i : Nat} {o : O} (hi : l[i]? = some o) :
    ∃ off, a = some ⟨b, off, none⟩ ∧ w.rangeAt b (off + i * 23) (encO o) := by
  obtain ⟨off, ha, hat⟩ := h.at (by intro e; rw [rO, List.map_eq_nil_iff] at e; subst e; simp at hi)
  exact ⟨off, ha, hat i (encO o) (by simp [rO, hi])⟩
theorem take_next {α : Type} {l : List α} {i : Nat} {x : α} (h : l[i]? = some x) : l.take (i + 1) = l.take i ++ [x] := by
  rw [List.take_add_one, h]
  rfl
set_option maxRecDepth 100000 in
set_option maxHeartbeats 4000000 in
theorem trace_any (v : Value) (b : Nat) (l : List O) (m : Nat) (w : World) (hr : Rd w 23 b v (rO l)) (hok : ∀ o ∈ l, OkO o) (hm : m ≤ 1000) :
    Calls Try.prog 7 #[v, .int .i64 m] w fun e w' => ∃ v', e = .returned v' ∧ OwnR 36 23 w w' v' (rO (someT l m)) ∧ Touch [] w w' := by
  obtain ⟨a, cap, rfl, hc, hcm⟩ := hr.form
  rw [rO_len] at hc hr ⊢
  have hcap : cap ≤ 9223372036854775807 := by unfold maxLen at hcm; omega
  clear hcm
  go_enter Try.func7, Try.ntmps7
  go_wp2_with fail
  go_loopw [5, 6] (fun vo vi wr => ∃ (i : Nat), vi = .int .i64 i ∧ i ≤ l.length ∧ i ≤ m ∧ OwnR 36 23 w wr vo (rO (someT l i)) ∧ Touch [] w wr) (fun _ vi _ => l.length - (intOf vi).toNat)
  case atStart => exact ⟨0, rfl, by omega, by omega, by simpa [someT, rO] using OwnR.nil 36 23 w w, Touch.refl _ _⟩
  case round =>
    obtain ⟨i, rfl, hil, him, ho, ht⟩ := hrel
    have HO := Lib.hid ho
    have HT := Lib.hid ht
    clear ho ht
    by_cases hlt : i < l.length
    · have hb1 : (i : Int) < (l.length : Int) := by omega
      by_cases hlm : i < m
      · have hb2 : (i : Int) < (m : Int) := by omega
        have hx := List.getElem?_eq_getElem hlt
        have OKI := Lib.hid (hok _ (List.getElem_mem hlt))
        generalize l[i] = o at hx OKI
        obtain ⟨off, rfl, rI⟩ := (hr.touch HT.out (by simp)).atO hx
        have HX := Lib.hid hx
        have hwi : IntKind.i64.wrap ((i : Int) + 1) = (i : Int) + 1 := by rw [IntKind.wrap_i64] <;> omega
        have hfew : (rO (someT l i)).length ≤ 100000000 := by rw [rO_len, someT_len]; omega
        have HF := Lib.hid hfew
        clear hx hfew
        go_wp2_with ((with_reducible refine at_load 36 ?_); refine wpList_load_mid rfl 36 _ rfl b (off + i * 23) rfl (encO o) _ rI Try.underlying36 rfl (by rw [infoO, OKI.out.len]) ?_)
        refine (some_any o OKI.out _).mono ?_
        rintro e w2 ⟨rfl, t2⟩
        have HO2 := Lib.hid (HO.out.touch0 t2)
        have HT2 := Lib.hid (HT.out.trans t2 (by simp))
        have OK2 := Lib.hid (someO_ok OKI.out)
        clear t2 rI
        go_wp2_with (first
            | ((with_reducible refine at_bs 22 1 ?_); refine wpList_build1 rtO rfl _ rfl (encO (someO o)) OK2.out.len rfl ?_)
            | (at_builtin; refine wpList_app1R rtO w2 rfl _ _ (by rfl) _ _ rfl HO2.out HT2.out.size (encO (someO o)) _ rfl OK2.out.len OK2.out.one HF.out ?_))
        intro v3 w3 o3 t3
        have HO3 := Lib.hid o3
        have HT3 := Lib.hid (HT2.out.trans t3 (by intro y hy; right; exact HO2.out.new y (by simpa using hy)))
        clear o3 t3
        go_wp2_with fail
        go_roundw
        case rel =>
          refine ⟨i + 1, by simp, by omega, by omega, ?_, HT3.out⟩
          rw [show someT l (i + 1) = someT l i ++ [someO o] by simp [someT, take_next HX.out], rO_snoc]
          exact HO3.out
        case measure => simp [intOf]; omega
      · have hb2 : ¬ (i : Int) < (m : Int) := by omega
        have him2 : i = m := by omega
        have HE := Lib.hid (show OwnR 36 23 w wr u5 (rO (someT l m)) by rw [← him2]; exact HO.out)
        clear him2
        go_wp2_with fail
        go_ret
        exact ⟨u5, rfl, HE.out, HT.out⟩
    · have hb1 : ¬ (i : Int) < (l.length : Int) := by omega
      have HE := Lib.hid (show OwnR 36 23 w wr u5 (rO (someT l m)) by
        have := HO.out
        have e : someT l m = someT l i := by simp only [someT]; rw [List.take_of_length_le (by omega), List.take_of_length_le (by omega)]
        rw [e]
        exact this)
      go_wp2_with fail
      go_ret
      exact ⟨u5, rfl, HE.out, HT.out⟩
end Go.Proofs.Ytmdnkhpkpmbeoaa

/-
  OfConn, the program's and the reference's.
-/
namespace Go.Proofs.Ytmdnkhpkpmbeoaa
open Go.RowKit
set_option linter.unusedVariables false
set_option linter.unusedSimpArgs false

def ofC (l : List O) (c : Int) : List O := l.filter fun o => decide (o.c = c)
theorem ofC_ok {l : List O} (h : ∀ o ∈ l, OkO o) (c : Int) : ∀ o ∈ ofC l c, OkO o := fun o ho => h o (List.mem_filter.1 ho).1
theorem ofC_len (l : List O) (c : Int) : (ofC l c).length ≤ l.length := List.length_filter_le _ _
theorem ofC_next {l : List O} {i : Nat} {o : O} (c : Int) (h : l[i]? = some o) : ofC (l.take (i + 1)) c = if o.c = c then ofC (l.take i) c ++ [o] else ofC (l.take i) c := by
  rw [take_next h]
  unfold ofC
  rw [List.filter_append]
  split <;> simp_all
theorem take_few {l : List O} (i : Nat) (c : Int) : (ofC (l.take i) c).length ≤ l.length := by
  have := ofC_len (l.take i) c
  simp at this
  omega
set_option maxRecDepth 100000 in
set_option maxHeartbeats 4000000 in
theorem ofc_any (v : Value) (b : Nat) (l : List O) (c : Int) (w : World) (hr : Rd w 23 b v (rO l)) (hok : ∀ o ∈ l, OkO o) (hl : l.length ≤ 10000000) :
    Calls Try.prog 10 #[v, .int .i64 c] w fun e w' => ∃ v', e = .returned v' ∧ OwnR 36 23 w w' v' (rO (ofC l c)) ∧ Touch [] w w' := by
  obtain ⟨a, cap, rfl, hc, hcm⟩ := hr.form
  rw [rO_len] at hc hr ⊢
  clear hcm
  go_enter Try.func10, Try.ntmps10
  go_wp2_with fail
  go_loopw [5, 10] (fun vo vi wr => ∃ (i : Nat), vi = .int .i64 i ∧ i ≤ l.length ∧ OwnR 36 23 w wr vo (rO (ofC (l.take i) c)) ∧ Touch [] w wr) (fun _ vi _ => l.length - (intOf vi).toNat)
  case atStart => exact ⟨0, rfl, by omega, by simpa [ofC, rO] using OwnR.nil 36 23 w w, Touch.refl _ _⟩
  case round =>
    obtain ⟨i, rfl, hil, ho, ht⟩ := hrel
    have HO := Lib.hid ho
    have HT := Lib.hid ht
    clear ho ht
    by_cases hlt : i < l.length
    · have hb1 : (i : Int) < (l.length : Int) := by omega
      have hx := List.getElem?_eq_getElem hlt
      have OKI := Lib.hid (hok _ (List.getElem_mem hlt))
      generalize l[i] = o at hx OKI
      obtain ⟨off, rfl, rI⟩ := (hr.touch HT.out (by simp)).atO hx
      have HX := Lib.hid (ofC_next c hx)
      have hwi : IntKind.i64.wrap ((i : Int) + 1) = (i : Int) + 1 := by rw [IntKind.wrap_i64] <;> omega
      have HF := Lib.hid (show (rO (ofC (l.take i) c)).length ≤ 100000000 by rw [rO_len]; have := take_few (l := l) i c; omega)
      have TB := Lib.hid ((Touch.refl [] wr).alloc (.cells (encO o).toArray 36))
      obtain ⟨c0, c1, c2, _, _, _⟩ := O.gets OKI.out
      clear hx
      by_cases hcc : o.c = c
      · have q1 : (o.c == c) = true := by simp [hcc]
        have HC := Lib.hid hcc
        clear hcc
        go_wp2_with (first
            | ((with_reducible refine at_load 36 ?_); refine wpList_load_mid rfl 36 _ rfl b (off + i * 23) rfl (encO o) _ rI Try.underlying36 rfl (by rw [infoO, OKI.out.len]) ?_)
            | ((with_reducible refine at_store 36 ?_); refine wpList_store_new rfl 36 _ _ rfl _ _ (encO o) (by rfl) (by rfl) (by rw [OKI.out.len]; rfl) (by rw [infoO, OKI.out.len]) OKI.out.one ?_)
            | ((with_reducible refine at_load 36 ?_); refine wpList_load_mid rfl 36 _ rfl wr.heap.size (0) rfl (encO o) _ (range_block (heap_alloc_new wr _)) Try.underlying36 rfl (by rw [infoO, OKI.out.len]) ?_)
            | ((with_reducible refine at_bs 22 1 ?_); refine wpList_build1 rtO rfl _ rfl (encO o) OKI.out.len rfl ?_)
            | (at_builtin; refine wpList_app1R rtO (wr.alloc (.cells (encO o).toArray 36)) rfl _ _ (by rfl) _ _ rfl (HO.out.touch0 TB.out) (HT.out.trans TB.out (by simp)).size (encO o) _ rfl OKI.out.len OKI.out.one HF.out ?_))
        intro v3 w3 o3 t3
        have HO3 := Lib.hid o3
        have HT3 := Lib.hid ((HT.out.trans TB.out (by simp)).trans t3 (by intro y hy; right; exact HO.out.new y (by simpa using hy)))
        clear o3 t3
        go_wp2_with fail
        go_roundw
        case rel => exact ⟨i + 1, by simp, by omega, by rw [HX.out, if_pos HC.out, rO_snoc]; exact HO3.out, HT3.out⟩
        case measure => simp [intOf]; omega
      · have q1 : (o.c == c) = false := by simp [hcc]
        have HC := Lib.hid hcc
        clear hcc
        go_wp2_with (first
            | ((with_reducible refine at_load 36 ?_); refine wpList_load_mid rfl 36 _ rfl b (off + i * 23) rfl (encO o) _ rI Try.underlying36 rfl (by rw [infoO, OKI.out.len]) ?_)
            | ((with_reducible refine at_store 36 ?_); refine wpList_store_new rfl 36 _ _ rfl _ _ (encO o) (by rfl) (by rfl) (by rw [OKI.out.len]; rfl) (by rw [infoO, OKI.out.len]) OKI.out.one ?_))
        go_roundw
        case rel => exact ⟨i + 1, by simp, by omega, by rw [HX.out, if_neg HC.out]; exact HO.out.touch0 TB.out, HT.out.trans TB.out (by simp)⟩
        case measure => simp [intOf]; omega
    · have hb1 : ¬ (i : Int) < (l.length : Int) := by omega
      have HE := Lib.hid (show OwnR 36 23 w wr u5 (rO (ofC l c)) by
        have := HO.out
        rw [List.take_of_length_le (by omega)] at this
        exact this)
      go_wp2_with fail
      go_ret
      exact ⟨u5, rfl, HE.out, HT.out⟩
set_option maxRecDepth 100000 in
set_option maxHeartbeats 4000000 in
theorem rofc_any (v : Value) (b : Nat) (l : List O) (c : Int) (w : World) (hr : Rd w 23 b v (rO l)) (hok : ∀ o ∈ l, OkO o) (hl : l.length ≤ 10000000) :
    Calls Try.prog 17 #[v, .int .i64 c] w fun e w' => ∃ v', e = .returned v' ∧ OwnR 36 23 w w' v' (rO (ofC l c)) ∧ Touch [] w w' := by
  obtain ⟨a, cap, rfl, hc, hcm⟩ := hr.form
  rw [rO_len] at hc hr ⊢
  clear hcm
  go_enter Try.func17, Try.ntmps17
  go_wp2_with fail
  go_loopw [5, 6] (fun vo vi wr => ∃ (i : Nat), vi = .int .i64 i ∧ i ≤ l.length ∧ OwnR 36 23 w wr vo (rO (ofC (l.take i) c)) ∧ Touch [] w wr) (fun _ vi _ => l.length - (intOf vi).toNat)
  case atStart => exact ⟨0, rfl, by omega, by simpa [ofC, rO] using OwnR.nil 36 23 w w, Touch.refl _ _⟩
  case round =>
    obtain ⟨i, rfl, hil, ho, ht⟩ := hrel
    have HO := Lib.hid ho
    have HT := Lib.hid ht
    clear ho ht
    by_cases hlt : i < l.length
    · have hb1 : (i : Int) < (l.length : Int) := by omega
      have hx := List.getElem?_eq_getElem hlt
      have OKI := Lib.hid (hok _ (List.getElem_mem hlt))
      generalize l[i] = o at hx OKI
      obtain ⟨off, rfl, rI⟩ := (hr.touch HT.out (by simp)).atO hx
      have HX := Lib.hid (ofC_next c hx)
      have hwi : IntKind.i64.wrap ((i : Int) + 1) = (i : Int) + 1 := by rw [IntKind.wrap_i64] <;> omega
      have HF := Lib.hid (show (rO (ofC (l.take i) c)).length ≤ 100000000 by rw [rO_len]; have := take_few (l := l) i c; omega)
      obtain ⟨_, c1, _, _, _, _, _⟩ := O.cells OKI.out rI
      clear hx
      by_cases hcc : o.c = c
      · have q1 : (o.c == c) = true := by simp [hcc]
        have HC := Lib.hid hcc
        clear hcc
        go_wp2_with (first
            | ((with_reducible refine at_load 36 ?_); refine wpList_load_mid rfl 36 _ rfl b (off + i * 23) rfl (encO o) _ rI Try.underlying36 rfl (by rw [infoO, OKI.out.len]) ?_)
            | ((with_reducible refine at_bs 22 1 ?_); refine wpList_build1 rtO rfl _ rfl (encO o) OKI.out.len rfl ?_)
            | (at_builtin; refine wpList_app1R rtO wr rfl _ _ (by rfl) _ _ rfl HO.out HT.out.size (encO o) _ rfl OKI.out.len OKI.out.one HF.out ?_))
        intro v3 w3 o3 t3
        have HO3 := Lib.hid o3
        have HT3 := Lib.hid (HT.out.trans t3 (by intro y hy; right; exact HO.out.new y (by simpa using hy)))
        clear o3 t3
        go_wp2_with fail
        go_roundw
        case rel => exact ⟨i + 1, by simp, by omega, by rw [HX.out, if_pos HC.out, rO_snoc]; exact HO3.out, HT3.out⟩
        case measure => simp [intOf]; omega
      · have q1 : (o.c == c) = false := by simp [hcc]
        have HC := Lib.hid hcc
        clear hcc
        go_wp2_with fail
        go_roundw
        case rel => exact ⟨i + 1, by simp, by omega, by rw [HX.out, if_neg HC.out]; exact HO.out, HT.out⟩
        case measure => simp [intOf]; omega
    · have hb1 : ¬ (i : Int) < (l.length : Int) := by omega
      have HE := Lib.hid (show OwnR 36 23 w wr u5 (rO (ofC l c)) by
        have := HO.out
        rw [List.take_of_length_le (by omega)] at this
        exact this)
      go_wp2_with fail
      go_ret
      exact ⟨u5, rfl, HE.out, HT.out⟩
end Go.Proofs.Ytmdnkhpkpmbeoaa

/-
  ConnectTargets, the program's and the reference's.
-/
namespace Go.Proofs.Ytmdnkhpkpmbeoaa
open Go.RowKit
set_option linter.unusedVariables false
set_option linter.unusedSimpArgs false

def tgO (o : O) : Tg := ⟨o.ad, o.p⟩
theorem tgO_ok {o : O} (h : OkO o) : OkT (tgO o) := ⟨h.ad, h.p⟩
def cn4 (l : List O) : List Tg := (l.filter fun o => decide (o.k = 4)).map tgO
/-- The targets of a connection's attempts. -/
def ctT (l : List O) (c : Int) : List Tg := cn4 (ofC l c)
theorem ctT_ok {l : List O} (h : ∀ o ∈ l, OkO o) (c : Int) : ∀ t ∈ ctT l c, OkT t := by
  intro t ht
  obtain ⟨o, ho, rfl⟩ := List.mem_map.1 ht
  exact tgO_ok (ofC_ok h c o (List.mem_filter.1 ho).1)
theorem cn4_len (l : List O) : (cn4 l).length ≤ l.length := by
  unfold cn4
  rw [List.length_map]
  exact List.length_filter_le _ _
theorem ctT_len (l : List O) (c : Int) : (ctT l c).length ≤ l.length := Nat.le_trans (cn4_len _) (ofC_len l c)
theorem cn4_next {l : List O} {i : Nat} {o : O} (h : l[i]? = some o) : cn4 (l.take (i + 1)) = if o.k = 4 then cn4 (l.take i) ++ [tgO o] else cn4 (l.take i) := by
  rw [take_next h]
  unfold cn4
  rw [List.filter_append]
  split <;> simp_all
theorem ctT_next {l : List O} {i : Nat} {o : O} (c : Int) (h : l[i]? = some o) : ctT (l.take (i + 1)) c = if o.k = 4 ∧ o.c = c then ctT (l.take i) c ++ [tgO o] else ctT (l.take i) c := by
  unfold ctT
  rw [ofC_next c h]
  by_cases h1 : o.c = c
  · rw [if_pos h1]
    unfold cn4
    rw [List.filter_append]
    by_cases h2 : o.k = 4
    · simp [h1, h2]
    · simp [h1, h2]
  · rw [if_neg h1, if_neg (fun h => h1 h.2)]
theorem cn4_take (l : List O) (i : Nat) : (cn4 (l.take i)).length ≤ l.length := by
  have := cn4_len (l.take i)
  simp at this
  omega
theorem ctT_take (l : List O) (i : Nat) (c : Int) : (ctT (l.take i) c).length ≤ l.length := by
  have := ctT_len (l.take i) c
  simp at this
  omega
theorem seventeen {α : Type} (l : List α) (h : l.length = 17) : ∃ a0 a1 a2 a3 a4 a5 a6 a7 a8 a9 a10 a11 a12 a13 a14 a15 a16, l = [a0, a1, a2, a3, a4, a5, a6, a7, a8, a9, a10, a11, a12, a13, a14, a15, a16] := by
  match l, h with
  | [a0, a1, a2, a3, a4, a5, a6, a7, a8, a9, a10, a11, a12, a13, a14, a15, a16], _ => exact ⟨_, _, _, _, _, _, _, _, _, _, _, _, _, _, _, _, _, rfl⟩
theorem built_tg (t : Tg) (h : OkT t) : Try.prog.built 46 [(1, .agg t.ad.toArray), (2, .int .i64 t.p)] = some (encT t).toArray := by
  obtain ⟨ad, p⟩ := t
  obtain ⟨a0, a1, a2, a3, a4, a5, a6, a7, a8, a9, a10, a11, a12, a13, a14, a15, a16, rfl⟩ := seventeen ad h.ad.len
  kernel_rfl
theorem wpList_built {ops : Array Oper} {rest : List Oper} {o : Oper} {a : Act} {w : World} {Q : Exit → Act → World → Prop} (hgd : o.guard = none) (t : TypeId) (parts : Array (Nat × Operand)) (ho : o.op = .build t parts)
    (vals : List (Nat × Value)) (cells : Array Value) (hv : (parts.toList.map fun p => (p.1, a.eval p.2)) = vals) (hb : Try.prog.built t vals = some cells)
    (h : wpList Try.prog ops Q rest (a.put o.dst (.agg cells)) w) : wpList Try.prog ops Q (o :: rest) a w := by
  refine wpList_plain hgd fun _ hK => ?_
  have hr := run_build (P := Try.prog) w t (parts.map fun (i, x) => (i, a.eval x)) cells (by rw [Array.toList_map, ← hb, ← hv])
  unfold Oper.wp execOp
  simp only [ho, Sem.run_bind, hr, Result.andThen_ok]
  exact hK _ _ h
set_option maxRecDepth 100000 in
set_option maxHeartbeats 4000000 in
theorem ct_any (v : Value) (b : Nat) (l0 : List O) (c : Int) (w : World) (hr : Rd w 23 b v (rO l0)) (hok : ∀ o ∈ l0, OkO o) (hl : l0.length ≤ 10000000) :
    Calls Try.prog 21 #[v, .int .i64 c] w fun e w' => ∃ v', e = .returned v' ∧ OwnR 46 19 w w' v' (rT (ctT l0 c)) ∧ Touch [] w w' := by
  have HOC := Lib.hid (ofc_any v b l0 c w hr hok hl)
  obtain ⟨l, hle⟩ : ∃ l, l = ofC l0 c := ⟨_, rfl⟩
  have hok2 := ofC_ok hok c
  have hl2 := ofC_len l0 c
  unfold ctT
  rw [← hle] at HOC hok2 hl2 ⊢
  clear hr hok hle
  go_enter Try.func21, Try.ntmps21
  go_wp2_with fail
  refine HOC.out.mono ?_
  rintro e w1 ⟨v1, rfl, ho1, ht1⟩
  obtain ⟨b, hr⟩ : ∃ b, Rd w1 23 b v1 (rO l) := ⟨_, ho1.rd (encO_lens hok2)⟩
  have HT1 := Lib.hid ht1
  clear ho1 ht1 HOC
  obtain ⟨a, cap, rfl, hc, hcm⟩ := hr.form
  rw [rO_len] at hc hr ⊢
  clear hcm
  go_wp2_with fail
  go_loopw [5, 12] (fun vo vi wr => ∃ (i : Nat), vi = .int .i64 i ∧ i ≤ l.length ∧ OwnR 46 19 w1 wr vo (rT (cn4 (l.take i))) ∧ Touch [] w1 wr) (fun _ vi _ => l.length - (intOf vi).toNat)
  case atStart => exact ⟨0, rfl, by omega, by simpa [cn4, rT] using OwnR.nil 46 19 w1 w1, Touch.refl _ _⟩
  case round =>
    obtain ⟨i, rfl, hil, ho, ht⟩ := hrel
    have HO := Lib.hid ho
    have HT := Lib.hid ht
    clear ho ht
    by_cases hlt : i < l.length
    · have hb1 : (i : Int) < (l.length : Int) := by omega
      have hx := List.getElem?_eq_getElem hlt
      have OKI := Lib.hid (hok2 _ (List.getElem_mem hlt))
      generalize l[i] = o at hx OKI
      obtain ⟨off, rfl, rI⟩ := (hr.touch HT.out (by simp)).atO hx
      have HX := Lib.hid (cn4_next hx)
      have hwi : IntKind.i64.wrap ((i : Int) + 1) = (i : Int) + 1 := by rw [IntKind.wrap_i64] <;> omega
      have HF := Lib.hid (show (rT (cn4 (l.take i))).length ≤ 100000000 by rw [rT_len]; have := cn4_take l i; omega)
      have TB := Lib.hid ((Touch.refl [] wr).alloc (.cells (encO o).toArray 36))
      have HTB := Lib.hid (HT.out.trans TB.out (by simp))
      obtain ⟨c0, c1, c2, _, c21, _⟩ := O.gets OKI.out
      obtain ⟨_, _, _, _, r4, _, _⟩ := O.cells OKI.out (range_block (heap_alloc_new wr (.cells (encO o).toArray 36)))
      clear hx
      by_cases hcc : o.k = 4
      · have q1 : (o.k == 4) = true := by simp [hcc]
        have HC := Lib.hid hcc
        clear hcc
        go_wp2_with (first
            | ((with_reducible refine at_load 36 ?_); refine wpList_load_mid rfl 36 _ rfl b (off + i * 23) rfl (encO o) _ rI Try.underlying36 rfl (by rw [infoO, OKI.out.len]) ?_)
            | ((with_reducible refine at_store 36 ?_); refine wpList_store_new rfl 36 _ _ rfl _ _ (encO o) (by rfl) (by rfl) (by rw [OKI.out.len]; rfl) (by rw [infoO, OKI.out.len]) OKI.out.one ?_)
            | ((with_reducible refine at_load 34 ?_); refine wpList_load_mid rfl 34 _ rfl wr.heap.size (4) rfl o.ad _ r4 Try.underlying34 rfl (by rw [infoA, OKI.out.ad.len]) ?_)
            | ((with_reducible refine at_build 46 ?_); refine wpList_built rfl 46 _ rfl [(1, .agg o.ad.toArray), (2, .int .i64 o.p)] _ rfl (built_tg (tgO o) (tgO_ok OKI.out)) ?_)
            | ((with_reducible refine at_bs 47 1 ?_); refine wpList_build1 rtT rfl _ rfl (encT (tgO o)) (tgO_ok OKI.out).len rfl ?_)
            | (at_builtin; refine wpList_app1R rtT (wr.alloc (.cells (encO o).toArray 36)) rfl _ _ (by rfl) _ _ rfl (HO.out.touch0 TB.out) HTB.out.size (encT (tgO o)) _ rfl (tgO_ok OKI.out).len (tgO_ok OKI.out).one HF.out ?_))
        intro v3 w3 o3 t3
        have HO3 := Lib.hid o3
        have HT3 := Lib.hid ((HT.out.trans TB.out (by simp)).trans t3 (by intro y hy; right; exact HO.out.new y (by simpa using hy)))
        clear o3 t3
        go_wp2_with fail
        go_roundw
        case rel => exact ⟨i + 1, by simp, by omega, by rw [HX.out, if_pos HC.out, rT_snoc]; exact HO3.out, HT3.out⟩
        case measure => simp [intOf]; omega
      · have q1 : (o.k == 4) = false := by simp [hcc]
        have HC := Lib.hid hcc
        clear hcc
        go_wp2_with (first
            | ((with_reducible refine at_load 36 ?_); refine wpList_load_mid rfl 36 _ rfl b (off + i * 23) rfl (encO o) _ rI Try.underlying36 rfl (by rw [infoO, OKI.out.len]) ?_)
            | ((with_reducible refine at_store 36 ?_); refine wpList_store_new rfl 36 _ _ rfl _ _ (encO o) (by rfl) (by rfl) (by rw [OKI.out.len]; rfl) (by rw [infoO, OKI.out.len]) OKI.out.one ?_))
        go_roundw
        case rel => exact ⟨i + 1, by simp, by omega, by rw [HX.out, if_neg HC.out]; exact HO.out.touch0 TB.out, HT.out.trans TB.out (by simp)⟩
        case measure => simp [intOf]; omega
    · have hb1 : ¬ (i : Int) < (l.length : Int) := by omega
      have HE := Lib.hid (show OwnR 46 19 w1 wr u5 (rT (cn4 l)) by
        have := HO.out
        rw [List.take_of_length_le (by omega)] at this
        exact this)
      go_wp2_with fail
      go_ret
      exact ⟨u5, rfl, HE.out.rebase HT1.out.size, HT1.out.trans HT.out (by simp)⟩
set_option maxRecDepth 100000 in
set_option maxHeartbeats 4000000 in
theorem rct_any (v : Value) (b : Nat) (l : List O) (c : Int) (w : World) (hr : Rd w 23 b v (rO l)) (hok : ∀ o ∈ l, OkO o) (hl : l.length ≤ 10000000) :
    Calls Try.prog 28 #[v, .int .i64 c] w fun e w' => ∃ v', e = .returned v' ∧ OwnR 46 19 w w' v' (rT (ctT l c)) ∧ Touch [] w w' := by
  obtain ⟨a, cap, rfl, hc, hcm⟩ := hr.form
  rw [rO_len] at hc hr ⊢
  clear hcm
  go_enter Try.func28, Try.ntmps28
  go_wp2_with fail
  go_loopw [5, 6] (fun vo vi wr => ∃ (i : Nat), vi = .int .i64 i ∧ i ≤ l.length ∧ OwnR 46 19 w wr vo (rT (ctT (l.take i) c)) ∧ Touch [] w wr) (fun _ vi _ => l.length - (intOf vi).toNat)
  case atStart => exact ⟨0, rfl, by omega, by simpa [ctT, cn4, ofC, rT] using OwnR.nil 46 19 w w, Touch.refl _ _⟩
  case round =>
    obtain ⟨i, rfl, hil, ho, ht⟩ := hrel
    have HO := Lib.hid ho
    have HT := Lib.hid ht
    clear ho ht
    by_cases hlt : i < l.length
    · have hb1 : (i : Int) < (l.length : Int) := by omega
      have hx := List.getElem?_eq_getElem hlt
      have OKI := Lib.hid (hok _ (List.getElem_mem hlt))
      generalize l[i] = o at hx OKI
      obtain ⟨off, rfl, rI0⟩ := hr.atO hx
      have rI := HT.out.range rI0 (by simp)
      have RI0 := Lib.hid rI0
      clear rI0
      have HX := Lib.hid (ctT_next c hx)
      have hwi : IntKind.i64.wrap ((i : Int) + 1) = (i : Int) + 1 := by rw [IntKind.wrap_i64] <;> omega
      have HF := Lib.hid (show (rT (ctT (l.take i) c)).length ≤ 100000000 by rw [rT_len]; have := ctT_take l i c; omega)
      obtain ⟨c0, c1, _, _, r4, c21, _⟩ := O.cells OKI.out rI
      clear hx
      by_cases hc4 : o.k = 4
      · have q4 : (o.k == 4) = true := by simp [hc4]
        by_cases hcc : o.c = c
        · have q1 : (o.c == c) = true := by simp [hcc]
          have HC := Lib.hid (show o.k = 4 ∧ o.c = c from ⟨hc4, hcc⟩)
          clear hcc hc4
          go_wp2_with fail
          clear c0 c1 r4 c21 rI
          have HTW := Lib.hid (HT.out.trans ((Touch.refl [] wr).drew) (by simp))
          have HOW := Lib.hid (HO.out.touch0 ((Touch.refl [] wr).drew))
          refine wp_region_held (S := Touch [] w) (by kernel_rfl) ?_
          change wpAnyH _ _ _ _ _ _ _ _ wr.drew
          generalize wr.drew = W at *
          have hS := HTW.out
          obtain ⟨_, _, _, _, r4, c21, _⟩ := O.cells OKI.out RI0.out
          refine wpAnyH_take (i := 0) (oi := { dst := some 28, op := Op.move (Operand.tmp 5), type := 47, pos := "trace.go:141", after := #[], guard := none }) (v := u5) rfl (by kernel_rfl) (by kernel_rfl) (by kernel_rfl) (fun _ _ _ h => h) (Or.inl ⟨by rfl, fun w' hw => by go_simp⟩) hS ?_
          try simp only [Act.put, List.setIfInBounds_toArray, List.set_cons_zero, List.set_cons_succ]
          refine wpAnyH_take (i := 1) (oi := { dst := some 29, op := Op.move (Operand.tmp 0), type := 22, pos := "trace.go:141", after := #[], guard := none }) (v := .slice (some ⟨b, off, none⟩) l.length cap) rfl (by kernel_rfl) (by kernel_rfl) (by kernel_rfl) (fun _ _ _ h => h) (Or.inl ⟨by rfl, fun w' hw => by go_simp⟩) hS ?_
          try simp only [Act.put, List.setIfInBounds_toArray, List.set_cons_zero, List.set_cons_succ]
          refine wpAnyH_take (i := 2) (oi := { dst := some 30, op := Op.move (Operand.tmp 6), type := 3, pos := "trace.go:141", after := #[], guard := none }) (v := .int .i64 i) rfl (by kernel_rfl) (by kernel_rfl) (by kernel_rfl) (fun _ _ _ h => h) (Or.inl ⟨by rfl, fun w' hw => by go_simp⟩) hS ?_
          try simp only [Act.put, List.setIfInBounds_toArray, List.set_cons_zero, List.set_cons_succ]
          refine wpAnyH_take (i := 3) (oi := { dst := some 31, op := Op.indexAddr 22 (Operand.tmp 29) (Operand.tmp 30), type := 0, pos := "trace.go:141", after := #[{ on := 1, ground := Ground.data }, { on := 2, ground := Ground.data }], guard := none }) (v := .pointer (some ⟨b, off + i * 23, none⟩)) rfl (by kernel_rfl) (by kernel_rfl) (by kernel_rfl) (fun _ _ _ h => h) (Or.inl ⟨by rfl, fun w' hw => by go_simp⟩) hS ?_
          try simp only [Act.put, List.setIfInBounds_toArray, List.set_cons_zero, List.set_cons_succ]
          refine wpAnyH_take (i := 4) (oi := { dst := some 32, op := Op.fieldAddr 36 (Operand.tmp 31) 4, type := 0, pos := "trace.go:141", after := #[{ on := 3, ground := Ground.data }], guard := none }) (v := .pointer (some ⟨b, off + i * 23 + 4, none⟩)) rfl (by kernel_rfl) (by kernel_rfl) (by kernel_rfl) (fun _ _ _ h => h) (Or.inl ⟨by rfl, fun w' hw => by go_simp⟩) hS ?_
          try simp only [Act.put, List.setIfInBounds_toArray, List.set_cons_zero, List.set_cons_succ]
          refine wpAnyH_take (i := 5) (oi := { dst := some 33, op := Op.load 34 (Operand.tmp 32), type := 34, pos := "trace.go:141", after := #[{ on := 4, ground := Ground.data }], guard := none }) (v := .agg o.ad.toArray) rfl (by kernel_rfl) (by kernel_rfl) (by kernel_rfl) (fun _ _ _ h => h) (Or.inl ⟨by rfl, fun w' hw => exec_load_agg _ 34 _ rfl _ _ rfl o.ad _ (hw.range r4 (by simp)) Try.underlying34 rfl (by rw [infoA, OKI.out.ad.len])⟩) hS ?_
          try simp only [Act.put, List.setIfInBounds_toArray, List.set_cons_zero, List.set_cons_succ]
          refine wpAnyH_take (i := 6) (oi := { dst := some 34, op := Op.move (Operand.tmp 0), type := 22, pos := "trace.go:141", after := #[], guard := none }) (v := .slice (some ⟨b, off, none⟩) l.length cap) rfl (by kernel_rfl) (by kernel_rfl) (by kernel_rfl) (fun _ _ _ h => h) (Or.inl ⟨by rfl, fun w' hw => by go_simp⟩) hS ?_
          try simp only [Act.put, List.setIfInBounds_toArray, List.set_cons_zero, List.set_cons_succ]
          refine wpAnyH_take (i := 7) (oi := { dst := some 35, op := Op.move (Operand.tmp 6), type := 3, pos := "trace.go:141", after := #[], guard := none }) (v := .int .i64 i) rfl (by kernel_rfl) (by kernel_rfl) (by kernel_rfl) (fun _ _ _ h => h) (Or.inl ⟨by rfl, fun w' hw => by go_simp⟩) hS ?_
          try simp only [Act.put, List.setIfInBounds_toArray, List.set_cons_zero, List.set_cons_succ]
          refine wpAnyH_take (i := 8) (oi := { dst := some 36, op := Op.indexAddr 22 (Operand.tmp 34) (Operand.tmp 35), type := 0, pos := "trace.go:141", after := #[{ on := 6, ground := Ground.data }, { on := 7, ground := Ground.data }], guard := none }) (v := .pointer (some ⟨b, off + i * 23, none⟩)) rfl (by kernel_rfl) (by kernel_rfl) (by kernel_rfl) (fun _ _ _ h => h) (Or.inl ⟨by rfl, fun w' hw => by go_simp⟩) hS ?_
          try simp only [Act.put, List.setIfInBounds_toArray, List.set_cons_zero, List.set_cons_succ]
          refine wpAnyH_take (i := 9) (oi := { dst := some 37, op := Op.fieldAddr 36 (Operand.tmp 36) 5, type := 0, pos := "trace.go:141", after := #[{ on := 8, ground := Ground.data }], guard := none }) (v := .pointer (some ⟨b, off + i * 23 + 21, none⟩)) rfl (by kernel_rfl) (by kernel_rfl) (by kernel_rfl) (fun _ _ _ h => h) (Or.inl ⟨by rfl, fun w' hw => by go_simp⟩) hS ?_
          try simp only [Act.put, List.setIfInBounds_toArray, List.set_cons_zero, List.set_cons_succ]
          refine wpAnyH_take (i := 10) (oi := { dst := some 38, op := Op.load 3 (Operand.tmp 37), type := 3, pos := "trace.go:141", after := #[{ on := 9, ground := Ground.data }], guard := none }) (v := .int .i64 o.p) rfl (by kernel_rfl) (by kernel_rfl) (by kernel_rfl) (fun _ _ _ h => h) (Or.inl ⟨by rfl, fun w' hw => by (have q := hw.cell c21 (by simp); go_simp)⟩) hS ?_
          try simp only [Act.put, List.setIfInBounds_toArray, List.set_cons_zero, List.set_cons_succ]
          refine wpAnyH_take (i := 11) (oi := { dst := some 39, op := Op.build 46 #[(1, Operand.tmp 33), (2, Operand.tmp 38)], type := 46, pos := "trace.go:141", after := #[{ on := 5, ground := Ground.data }, { on := 10, ground := Ground.data }], guard := none }) (v := .agg (encT (tgO o)).toArray) rfl (by kernel_rfl) (by kernel_rfl) (by kernel_rfl) (fun _ _ _ h => h) (Or.inl ⟨by rfl, fun w' hw => exec_builtY _ 46 _ rfl [(1, .agg o.ad.toArray), (2, .int .i64 o.p)] _ rfl (built_tg (tgO o) (tgO_ok OKI.out))⟩) hS ?_
          try simp only [Act.put, List.setIfInBounds_toArray, List.set_cons_zero, List.set_cons_succ]
          refine wpAnyH_ready (rs := [12]) (by kernel_rfl) (by simp) ?_
          refine AllReadyH.cons (o := { dst := some 40, op := Op.buildSlice 47 1 #[(0, Operand.tmp 39)], type := 47, pos := "trace.go:141", after := #[{ on := 11, ground := Ground.data }], guard := none }) rfl (fun K hK => ?_) AllReadyH.nil
          refine step_of_list rfl ?_
          refine wpList_build1 rtT rfl _ rfl (encT (tgO o)) (tgO_ok OKI.out).len rfl ?_
          have hS2 := hS.alloc (.cells (encT (tgO o)).toArray 46)
          refine ⟨rfl, hK.out _ _ hS2 (fun _ => ?_)⟩
          clear hK K hS
          have hS := hS2
          clear hS2
          try simp only [Act.put, List.setIfInBounds_toArray, List.set_cons_zero, List.set_cons_succ]
          refine wpAnyH_ready (rs := [13]) (by kernel_rfl) (by simp) ?_
          refine AllReadyH.cons (o := { dst := some 41, op := Op.call { callee := Callee.builtin Builtin.append, args := #[Operand.tmp 28, Operand.tmp 40], argTypes := #[47, 47] }, type := 47, pos := "trace.go:141", after := #[{ on := 0, ground := Ground.data }, { on := 12, ground := Ground.data }], guard := none }) rfl (fun K hK => ?_) AllReadyH.nil
          refine step_of_list rfl ?_
          refine wpList_app1R rtT W rfl _ _ (by rfl) u5 _ rfl HOW.out HTW.out.size (encT (tgO o)) _ rfl (tgO_ok OKI.out).len (tgO_ok OKI.out).one HF.out ?_
          intro v3 w3 o3 t3
          have hS3 := HTW.out.trans t3 (by intro y hy; right; exact HOW.out.new y (by simpa using hy))
          refine ⟨rfl, hK.out _ _ hS3 (fun _ => ?_)⟩
          clear hK K hS t3
          have hS := hS3
          try simp only [Act.put, List.setIfInBounds_toArray, List.set_cons_zero, List.set_cons_succ]
          refine wpAnyH_take (i := 14) (oi := { dst := some 5, op := Op.assign (Operand.tmp 41), type := 47, pos := "trace.go:141", after := #[{ on := 13, ground := Ground.data }, { on := 13, ground := Ground.chain }, { on := 0, ground := Ground.phase }, { on := 1, ground := Ground.phase }, { on := 2, ground := Ground.phase }, { on := 3, ground := Ground.phase }, { on := 4, ground := Ground.phase }, { on := 5, ground := Ground.phase }, { on := 6, ground := Ground.phase }, { on := 7, ground := Ground.phase }, { on := 8, ground := Ground.phase }, { on := 9, ground := Ground.phase }, { on := 10, ground := Ground.phase }, { on := 11, ground := Ground.phase }, { on := 12, ground := Ground.phase }, { on := 13, ground := Ground.phase }], guard := none }) (v := v3) rfl (by kernel_rfl) (by kernel_rfl) (by kernel_rfl) (fun _ _ _ h => h) (Or.inl ⟨by rfl, fun w' hw => by go_simp⟩) hS ?_
          try simp only [Act.put, List.setIfInBounds_toArray, List.set_cons_zero, List.set_cons_succ]
          refine wpAnyH_done (by kernel_rfl) ?_ _
          try simp only [Act.put, List.setIfInBounds_toArray, List.set_cons_zero, List.set_cons_succ]
          clear hS
          have HO3 := Lib.hid o3
          have HT3 := Lib.hid hS3
          clear o3 hS3
          go_wp2_with fail
          go_roundw
          case rel => exact ⟨i + 1, by simp, by omega, by rw [HX.out, if_pos HC.out, rT_snoc]; exact HO3.out, HT3.out⟩
          case measure => simp [intOf]; omega
        · have q1 : (o.c == c) = false := by simp [hcc]
          have HC := Lib.hid (show ¬ (o.k = 4 ∧ o.c = c) from fun h => hcc h.2)
          clear hcc hc4
          go_wp2_with fail
          go_roundw
          case rel => exact ⟨i + 1, by simp, by omega, by rw [HX.out, if_neg HC.out]; exact HO.out, HT.out⟩
          case measure => simp [intOf]; omega
      · have q1 : (o.k == 4) = false := by simp [hc4]
        have HC := Lib.hid (show ¬ (o.k = 4 ∧ o.c = c) from fun h => hc4 h.1)
        clear hc4
        go_wp2_with fail
        go_roundw
        case rel => exact ⟨i + 1, by simp, by omega, by rw [HX.out, if_neg HC.out]; exact HO.out, HT.out⟩
        case measure => simp [intOf]; omega
    · have hb1 : ¬ (i : Int) < (l.length : Int) := by omega
      have HE := Lib.hid (show OwnR 46 19 w wr u5 (rT (ctT l c)) by
        have := HO.out
        rw [List.take_of_length_le (by omega)] at this
        exact this)
      go_wp2_with fail
      go_ret
      exact ⟨u5, rfl, HE.out, HT.out⟩
end Go.Proofs.Ytmdnkhpkpmbeoaa

/-
  Equality of endpoints, outputs and targets.
-/
namespace Go.Proofs.Ytmdnkhpkpmbeoaa
open Go.RowKit
set_option linter.unusedVariables false
set_option linter.unusedSimpArgs false

theorem sixteen {α : Type} (xs : List α) (h : xs.length = 16) : ∃ a b c d e f g i j k l m n o p q, xs = [a, b, c, d, e, f, g, i, j, k, l, m, n, o, p, q] := by
  match xs, h with
  | [a, b, c, d, e, f, g, i, j, k, l, m, n, o, p, q], _ => exact ⟨_, _, _, _, _, _, _, _, _, _, _, _, _, _, _, _, rfl⟩
set_option maxRecDepth 100000 in
theorem key_ad (d : Nat) (b : Bool) (xs : List Int) (hl : xs.length = 16) (hr : ∀ x ∈ xs, 0 ≤ x ∧ x ≤ 255) : ∃ ls, Try.prog.keyLits (d + 3) 34 (adr b xs) = some ls := by
  obtain ⟨x0, x1, x2, x3, x4, x5, x6, x7, x8, x9, x10, x11, x12, x13, x14, x15, rfl⟩ := sixteen xs hl
  have hwf : ∀ x : Int, 0 ≤ x ∧ x ≤ 255 → (Lit.int .u8 x).wf = true := by
    intro x hx
    simp [Lit.wf, IntKind.min, IntKind.max, IntKind.signed, IntKind.bits]
    omega
  have hk1 : ∀ x ∈ [x0, x1, x2, x3, x4, x5, x6, x7, x8, x9, x10, x11, x12, x13, x14, x15], ∀ d, Try.prog.keyLits (d + 1) 5 [.int .u8 x] = some [.int .u8 x] := by
    intro x hx d
    simp [Program.keyLits, Try.underlying5, hwf x (hr x hx)]
  simp only [List.mem_cons, List.not_mem_nil, or_false, forall_eq_or_imp, forall_eq] at hk1
  obtain ⟨k0, k1, k2, k3, k4, k5, k6, k7, k8, k9, k10, k11, k12, k13, k14, k15⟩ := hk1
  have c5 : Try.prog.cellsOf 5 = 1 := by kernel_rfl
  have c4 : Try.prog.cellsOf 4 = 1 := by kernel_rfl
  have c29 : Try.prog.cellsOf 32 = 16 := by kernel_rfl
  have c31 : Try.prog.cellsOf 34 = 17 := by kernel_rfl
  have hk2 : Try.prog.keyLits (d + 2) 32 ([x0, x1, x2, x3, x4, x5, x6, x7, x8, x9, x10, x11, x12, x13, x14, x15].map (Value.int .u8)) = some ([x0, x1, x2, x3, x4, x5, x6, x7, x8, x9, x10, x11, x12, x13, x14, x15].map (Lit.int .u8)) := by
    unfold Program.keyLits
    simp [Try.underlying32, c5, c29, List.range, List.range.loop, k0, k1, k2, k3, k4, k5, k6, k7, k8, k9, k10, k11, k12, k13, k14, k15]
  have hk3 : Try.prog.keyLits (d + 2) 4 [.bool b] = some [.bool b] := by
    simp [Program.keyLits, Try.underlying4]
  simp only [List.map_cons, List.map_nil] at hk2
  refine ⟨.bool b :: [x0, x1, x2, x3, x4, x5, x6, x7, x8, x9, x10, x11, x12, x13, x14, x15].map (Lit.int .u8), ?_⟩
  unfold Program.keyLits
  simp [Try.underlying34, adr, c4, c29, c31, hk2, hk3]
theorem IsAd.key {cs : List Value} (h : IsAd cs) (d : Nat) : ∃ ls, Try.prog.keyLits (d + 3) 34 cs = some ls := by
  obtain ⟨b, xs, rfl, h1, h2⟩ := h
  exact key_ad d b xs h1 h2
theorem key_int (d : Nat) {x : Int} (h : wf x) : Try.prog.keyLits (d + 1) 3 [.int .i64 x] = some [.int .i64 x] := by
  unfold wf at h
  simp [Program.keyLits, Try.underlying3, h]
theorem key_bool (d : Nat) (b : Bool) : Try.prog.keyLits (d + 1) 4 [.bool b] = some [.bool b] := by
  simp [Program.keyLits, Try.underlying4]
theorem key_str (d : Nat) {s : ByteArray} (h : s.size ≤ 1048576) : Try.prog.keyLits (d + 1) 9 [.string s] = some [.string s.data.toList] := by
  have : s.size ≤ maxLen := by unfold maxLen; omega
  simp [Program.keyLits, Try.underlying9, this]
set_option maxRecDepth 100000 in
theorem key_out {o : O} (ok : OkO o) : ∃ ls, Try.prog.keyLits 5 36 (encO o) = some ls := by
  obtain ⟨la, ha⟩ := ok.ad.key 1
  have hl := ok.ad.len
  obtain ⟨k, c, a, d, ad, p, v⟩ := o
  obtain ⟨a0, a1, a2, a3, a4, a5, a6, a7, a8, a9, a10, a11, a12, a13, a14, a15, a16, rfl⟩ := seventeen ad hl
  have h1 := key_int 3 ok.k
  have h2 := key_int 3 ok.c
  have h3 := key_int 3 ok.a
  have h4 := key_str 3 ok.d
  have h5 := key_int 3 ok.p
  have h6 := key_bool 3 v
  have c3 : Try.prog.cellsOf 3 = 1 := by kernel_rfl
  have c4 : Try.prog.cellsOf 4 = 1 := by kernel_rfl
  have c9 : Try.prog.cellsOf 9 = 1 := by kernel_rfl
  have c34 : Try.prog.cellsOf 34 = 17 := by kernel_rfl
  have c36 : Try.prog.cellsOf 36 = 23 := by kernel_rfl
  simp only [Nat.reduceAdd] at h1 h2 h3 h4 h5 h6 ha
  simp only [encO] at *
  unfold Program.keyLits
  simp [Try.underlying36, c3, c4, c9, c34, c36, h1, h2, h3, h4, h5, h6, ha]
set_option maxRecDepth 100000 in
theorem key_tg {t : Tg} (ok : OkT t) : ∃ ls, Try.prog.keyLits 5 46 (encT t) = some ls := by
  obtain ⟨la, ha⟩ := ok.ad.key 1
  have hl := ok.ad.len
  obtain ⟨ad, p⟩ := t
  obtain ⟨a0, a1, a2, a3, a4, a5, a6, a7, a8, a9, a10, a11, a12, a13, a14, a15, a16, rfl⟩ := seventeen ad hl
  have h1 := key_int 3 ok.p
  have h4 := key_str 3 (s := ⟨#[]⟩) (by simp [ByteArray.size])
  have c3 : Try.prog.cellsOf 3 = 1 := by kernel_rfl
  have c9 : Try.prog.cellsOf 9 = 1 := by kernel_rfl
  have c34 : Try.prog.cellsOf 34 = 17 := by kernel_rfl
  have c36 : Try.prog.cellsOf 46 = 19 := by kernel_rfl
  simp only [Nat.reduceAdd] at h1 h4 ha
  simp only [encT] at *
  unfold Program.keyLits
  simp [Try.underlying46, c3, c9, c34, c36, h1, h4, ha]
theorem key_ep {p : Key} (h : okK p) : Try.prog.keyLits 5 30 (encE p) = some [.int .i64 p.1, .int .i64 p.2] := by
  have h1 := key_int 3 h.1
  have h2 := key_int 3 h.2
  have c3 : Try.prog.cellsOf 3 = 1 := by kernel_rfl
  have c30 : Try.prog.cellsOf 30 = 2 := by kernel_rfl
  simp only [Nat.reduceAdd] at h1 h2
  unfold Program.keyLits
  simp [Try.underlying30, encE, c3, c30, h1, h2]
set_option maxRecDepth 100000 in
theorem eqO {o : O} (ok : OkO o) (w : World) : (Op.equalIn 10000 36 (.agg (encO o).toArray) (.agg (encO o).toArray)).run Try.prog w = .ok true w := by
  obtain ⟨ls, h⟩ := key_out ok
  have hl := ok.ad.len
  obtain ⟨k, c, a, d, ad, p, v⟩ := o
  obtain ⟨a0, a1, a2, a3, a4, a5, a6, a7, a8, a9, a10, a11, a12, a13, a14, a15, a16, rfl⟩ := seventeen ad hl
  obtain ⟨r, hrun, hi⟩ := run_equalIn_deep 9995 5 36 (by kernel_rfl) w 5 5 (.agg (encO ⟨k, c, a, d, [a0, a1, a2, a3, a4, a5, a6, a7, a8, a9, a10, a11, a12, a13, a14, a15, a16], p, v⟩).toArray) (.agg (encO ⟨k, c, a, d, [a0, a1, a2, a3, a4, a5, a6, a7, a8, a9, a10, a11, a12, a13, a14, a15, a16], p, v⟩).toArray) ls ls (by rfl) (by rfl) h h
  rw [hi.2 rfl] at hrun
  exact hrun
set_option maxRecDepth 100000 in
theorem eqT {t : Tg} (ok : OkT t) (w : World) : (Op.equalIn 10000 46 (.agg (encT t).toArray) (.agg (encT t).toArray)).run Try.prog w = .ok true w := by
  obtain ⟨ls, h⟩ := key_tg ok
  have hl := ok.ad.len
  obtain ⟨ad, p⟩ := t
  obtain ⟨a0, a1, a2, a3, a4, a5, a6, a7, a8, a9, a10, a11, a12, a13, a14, a15, a16, rfl⟩ := seventeen ad hl
  obtain ⟨r, hrun, hi⟩ := run_equalIn_deep 9995 5 46 (by kernel_rfl) w 5 5 (.agg (encT ⟨[a0, a1, a2, a3, a4, a5, a6, a7, a8, a9, a10, a11, a12, a13, a14, a15, a16], p⟩).toArray) (.agg (encT ⟨[a0, a1, a2, a3, a4, a5, a6, a7, a8, a9, a10, a11, a12, a13, a14, a15, a16], p⟩).toArray) ls ls (by rfl) (by rfl) h h
  rw [hi.2 rfl] at hrun
  exact hrun
set_option maxRecDepth 100000 in
theorem eqE {p q : Key} (hp : okK p) (hq : okK q) (w : World) : (Op.equalIn 10000 30 (.agg (encE p).toArray) (.agg (encE q).toArray)).run Try.prog w = .ok (decide (p = q)) w := by
  obtain ⟨r, hrun, hi⟩ := run_equalIn_deep 9995 5 30 (by kernel_rfl) w 5 5 (.agg (encE p).toArray) (.agg (encE q).toArray) _ _ (by rfl) (by rfl) (key_ep hp) (key_ep hq)
  have : r = decide (p = q) := by
    obtain ⟨p1, p2⟩ := p
    obtain ⟨q1, q2⟩ := q
    cases r
    · have : ¬ ((p1, p2) = (q1, q2)) := fun e => by have := hi.2 (by simpa using e); simp at this
      simp [this]
    · have := hi.1 rfl
      simp at this
      simp [this]
  rw [hrun, this]
theorem exec_eql_agg {P : Program} {a : Act} {w : World} (op : Oper) (t t' : TypeId) (x y : Operand) (ho : op.op = .binOp .eql t x y t')
    (xs ys : Array Value) (hx : a.eval x = .agg xs) (hy : a.eval y = .agg ys) (hm : P.eqGuardType P.depth t = false) (r : Bool) (hr : (Op.equalIn 10000 t (.agg xs) (.agg ys)).run P w = .ok r w) : (execOp a.eval op).run P w = .ok (.value (.bool r)) w := by
  have hb : (binOp .eql t (.agg xs) (.agg ys)).run P w = .ok (.bool r) w := by rw [run_eql_struct, hr]; rfl
  unfold execOp
  simp only [ho, hx, hy, Sem.run_bind, run_eqGuard_agg w _ _ _ _ _ _ hm, Result.andThen_ok, hb, Sem.run_pure]
theorem exec_neq_agg {P : Program} {a : Act} {w : World} (op : Oper) (t t' : TypeId) (x y : Operand) (ho : op.op = .binOp .neq t x y t')
    (xs ys : Array Value) (hx : a.eval x = .agg xs) (hy : a.eval y = .agg ys) (hm : P.eqGuardType P.depth t = false) (r : Bool) (hr : (Op.equalIn 10000 t (.agg xs) (.agg ys)).run P w = .ok r w) : (execOp a.eval op).run P w = .ok (.value (.bool (!r))) w := by
  have hb : (binOp .neq t (.agg xs) (.agg ys)).run P w = .ok (.bool (!r)) w := by rw [run_neq_struct, hr]; rfl
  unfold execOp
  simp only [ho, hx, hy, Sem.run_bind, run_eqGuard_agg w _ _ _ _ _ _ hm, Result.andThen_ok, hb, Sem.run_pure]
theorem gE : Try.prog.eqGuardType Try.prog.depth 30 = false := by kernel_rfl
theorem gO : Try.prog.eqGuardType Try.prog.depth 36 = false := by kernel_rfl
theorem gT : Try.prog.eqGuardType Try.prog.depth 46 = false := by kernel_rfl
theorem epO_ok {o : O} (h : OkO o) : okK (epO o) := by
  unfold epO
  split
  · exact ⟨h.c, wf_small (by simp) (by simp)⟩
  · exact ⟨h.c, h.a⟩
end Go.Proofs.Ytmdnkhpkpmbeoaa

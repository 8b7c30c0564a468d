/-
  The contract of the reference table's OfConn: the sorted keys of one connection.
-/
import Derived.Test.YtnglkdpmkgehoaaRe
namespace Go.Proofs.Ytnglkdpmkgehoaa
open Go.RowKit Go.Deep
set_option linter.unusedVariables false
set_option linter.unusedSimpArgs false
theorem OwnK.snoc {w0 w : World} {v : Value} {ks : List Key} {c a : Int} (o : w.ownsRow 0 23 2 v (ks.length + 1) ((ks.map encL).flatten ++ [.int .i64 c, .int .i64 a])) (hn : ∀ g, v.ownBlock = some g → w0.heap.size ≤ g) : OwnK w0 w v (ks ++ [(c, a)]) := by
  refine ⟨?_, hn⟩
  rw [List.map_append, List.flatten_append, List.length_append]
  simpa [encL] using o
set_option maxRecDepth 100000 in
set_option maxHeartbeats 2000000 in
theorem rofconn_any (x : Nat) (limit : Int) (v : Value) (live : List Fd) (total c : Int) (w : World) (h : Rf w x limit v live total) :
    Calls Try.prog 29 #[.pointer (some ⟨x, 0, none⟩), .int .i64 c] w fun e w' => ∃ v b, e = .returned v ∧ Rd w' 2 b v (((sortK (live.map (·.key))).filter (fun k => decide (k.1 = c))).map encL) ∧ Touch [] w w' := by
  obtain ⟨i23, hi23, hz23, hs23, hb23⟩ := info_parts info23
  have hfew := h.few
  go_enter Try.func29, Try.ntmps29
  go_wp2_with fail
  refine (rend_any x limit v live total _ h).mono ?_
  rintro e w1 ⟨va, rfl, ho, t1⟩
  have hl : (sortK (live.map (·.key))).length ≤ 1000 := by rw [(sortK_perm _).length_eq]; simpa using hfew
  generalize hks : sortK (live.map (·.key)) = ks at *
  have HKS := Lib.hid hks
  clear hks
  obtain ⟨b, hb⟩ := ho.rd
  obtain ⟨aa, ca, rfl, hc1, hm1, _⟩ := owns_form ho.row
  have hc4 : ca ≤ 9223372036854775807 := by unfold maxLen at hm1; omega
  have HR := Lib.hid (fun (wr : World) (t : Touch [] w1 wr) => hb.touch t (by simp))
  clear hb ho h
  go_wp2_with fail
  go_loopw [5, 7] (fun vo vi wr => ∃ (i : Nat), i ≤ ks.length ∧ vi = .int .i64 i ∧ OwnK w1 wr vo ((ks.take i).filter (fun k => decide (k.1 = c))) ∧ Touch [] w1 wr) (fun _ vi _ => ks.length - (intOf vi).toNat)
  case atStart => exact ⟨0, by omega, rfl, by simpa using OwnK.nil w1 w1, Touch.refl _ _⟩
  case round =>
    obtain ⟨i, hi, rfl, ho, ht⟩ := hrel
    by_cases hlt : i < ks.length
    · have hx : ks[i]? = some ks[i] := List.getElem?_eq_getElem hlt
      have hsn : ks.take (i + 1) = ks.take i ++ [ks[i]] := by rw [List.take_add_one, hx]; rfl
      generalize ks[i] = k at hx hsn
      obtain ⟨kc, ka⟩ := k
      obtain ⟨off, rfl, p0, p1⟩ := rd_key (HR.out wr ht) hx
      have hsl : ((ks.take i).filter (fun k => decide (k.1 = c))).length ≤ i := Nat.le_trans (List.length_filter_le _ _) (by simp; omega)
      by_cases hkc : kc = c
      · have hsf : (ks.take (i + 1)).filter (fun k => decide (k.1 = c)) = (ks.take i).filter (fun k => decide (k.1 = c)) ++ [(kc, ka)] := by
          rw [hsn, List.filter_append]
          simp [hkc]
        have HSF := Lib.hid hsf
        have hb : (kc == c) = true := by simpa using hkc
        generalize hfs : (ks.take i).filter (fun k => decide (k.1 = c)) = fs at *
        have HFS := Lib.hid hfs
        clear hfs hsf hsn hx hkc
        have hrow := ho.row
        have hnew := ho.new
        obtain ⟨n, hn⟩ : ∃ n, fs.length = n := ⟨_, rfl⟩
        rw [hn] at hrow hsl
        go_wp2_with (first
          | (refine wpList_buildSlice_rows rfl 39 1 _ rfl 23 2 i23 _ Try.underlying39 hi23 hz23 hs23 (by omega) [[.int .i64 kc, .int .i64 ka]] rfl (by simp) (by omega) (by rfl) ?_)
          | (at_builtin; refine wpList_app_rec _ (by rfl) _ _ 39 (by rfl) 23 i23 _ 2 16 Try.underlying39 hi23 hz23 hs23 hb23 rfl (by omega) _ _ _ (by rfl) hrow [.int .i64 kc, .int .i64 ka] 23 (by rfl) rfl (by simp [Value.oneCell']) (by unfold maxLen; omega) (by omega) ?_))
        intro vo w3 ho3 t3 hv3
        have z3 := ht.size
        have hn3 : ∀ g, vo.ownBlock = some g → w1.heap.size ≤ g := by
          intro g hg
          rcases hv3 with e | e
          · rw [e] at hg; exact hnew g hg
          · rw [e] at hg; simp at hg; omega
        rw [← hn] at ho3
        have HO := Lib.hid (OwnK.snoc ho3 hn3)
        have T3 : Touch [] w1 w3 := ht.trans t3 (fun g hg => .inr (hnew g (by simpa using hg)))
        obtain ⟨a3, c3, rfl, _⟩ := owns_form ho3
        clear hv3 ho3 t3 hn3 hrow ho
        go_wp2_with fail
        go_roundw
        case rel => exact ⟨i + 1, by omega, by go_num, by rw [HSF.out]; exact HO.out, T3⟩
        case measure => simp [intOf]; omega
      · have hsf : (ks.take (i + 1)).filter (fun k => decide (k.1 = c)) = (ks.take i).filter (fun k => decide (k.1 = c)) := by
          rw [hsn, List.filter_append]
          simp [hkc]
        have HSF := Lib.hid hsf
        have HO := Lib.hid ho
        have hb : (kc == c) = false := by simpa using hkc
        clear hsf hsn hx hkc ho
        go_wp2_with fail
        go_roundw
        case rel => exact ⟨i + 1, by omega, by go_num, by rw [HSF.out]; exact HO.out, ht⟩
        case measure => simp [intOf]; omega
    · obtain rfl : i = ks.length := by omega
      rw [List.take_length] at ho
      obtain ⟨b2, hb2⟩ := ho.rd
      have HB2 := Lib.hid hb2
      clear ho hb2
      go_wp2_with fail
      go_ret
      refine ⟨_, b2, rfl, ?_, t1.trans ht (by simp)⟩
      rw [HKS.out]
      exact HB2.out
end Go.Proofs.Ytnglkdpmkgehoaa

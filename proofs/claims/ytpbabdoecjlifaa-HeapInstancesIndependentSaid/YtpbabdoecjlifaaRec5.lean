/-
  A struct is stored into an element of an owned row. Plain lemma over any program.
-/
import Derived.Test.YtpbabdoecjlifaaRecS
import Derived.Test.YtpbabdoecjlifaaRec
namespace Go.Proofs.Ytpbabdoecjlifaa
open Go.RowKit
set_option linter.unusedVariables false
set_option linter.unusedSimpArgs false
theorem wpList_store_own {P : Program} {ops : Array Oper} {rest : List Oper} {op : Oper} {a : Act} {w : World} {Q : Exit → Act → World → Prop} (hgd : op.guard = none) (ty : TypeId) (x y : Operand) (ho : op.op = .store ty x y)
    (g o n c e k : Nat) (xs cs : List Value) (row : w.ownsRow 0 e k (.slice (some ⟨g, 0, none⟩) n c) n xs) (hx : a.eval x = .pointer (some ⟨g, o, none⟩)) (hy : a.eval y = .agg cs.toArray)
    (hz : o + cs.length ≤ xs.length) (hi : (P.info? ty).map (·.size) = some cs.length) (h1 : ∀ v ∈ cs, v.oneCell' = true)
    (h : ∀ w', w'.ownsRow 0 e k (.slice (some ⟨g, 0, none⟩) n c) n (xs.take o ++ cs ++ xs.drop (o + cs.length)) → Touch [g] w w' → w'.heap.size = w.heap.size → wpList P ops Q rest (a.put op.dst undef) w') : wpList P ops Q (op :: rest) a w := by
  obtain ⟨r1, r2⟩ := row
  rcases r2 with ⟨h2, _⟩ | ⟨g', cap, cur, hv, hb, hh, hn, hm, hs, ht⟩
  · simp at h2
  · simp at hv
    obtain ⟨rfl, rfl⟩ := hv
    have hxl : xs.length ≤ cur.toList.length := by rw [← ht]; exact List.length_take_le' _ _
    refine wpList_store_part hgd ty x y ho g o e cur.toList cs hx hy (by simpa using hh) (by omega) hi h1 (fun w' hw' t z => h w' ⟨?_, .inr ⟨g, c, _, rfl, hb, hw', hn, hm, ?_, ?_⟩⟩ t z)
    · simp only [List.length_append, List.length_take, List.length_drop]
      omega
    · have : cur.toList.length = cur.size := by simp
      simp only [List.size_toArray, List.length_append, List.length_take, List.length_drop]
      omega
    · have hlen : (cur.toList.take o ++ cs).length = o + cs.length := by
        simp only [List.length_append, List.length_take]
        omega
      have e1 : xs.take o = cur.toList.take o := by
        rw [← ht, List.take_take]
        congr 1
        omega
      have e2 : xs.drop (o + cs.length) = (cur.toList.drop (o + cs.length)).take (n * k - (o + cs.length)) := by
        rw [← ht, List.drop_take]
      rw [e1, e2]
      show List.take (n * k) (cur.toList.take o ++ cs ++ cur.toList.drop (o + cs.length)) = _
      rw [List.take_append, hlen, List.take_of_length_le (by rw [hlen]; omega)]
end Go.Proofs.Ytpbabdoecjlifaa

/-
  Slices of elements of k cells each, told as lists of lists of cells. Plain lemmas over any program.
-/
import Derived.Test.YtpbabdoecjlifaaRec
namespace Go.Proofs.Ytpbabdoecjlifaa
open Go.RowKit
set_option linter.unusedVariables false
set_option linter.unusedSimpArgs false

/-! ### a slice literal of structs -/
theorem set_run : ∀ (l pre suf : List Value) (off j0 : Nat), off + j0 = pre.length → l.length ≤ suf.length →
    (l.zipIdx j0).foldl (fun (cs : Array Value) (p : Value × Nat) => cs.setIfInBounds (off + p.2) p.1) (pre ++ suf).toArray = (pre ++ l ++ suf.drop l.length).toArray := by
  intro l
  induction l with
  | nil => intro pre suf off j0 h1 h2; simp
  | cons x l ih =>
    intro pre suf off j0 h1 h2
    cases suf with
    | nil => simp at h2
    | cons y suf =>
      simp only [List.zipIdx_cons, List.foldl_cons]
      have e : (pre ++ y :: suf).toArray.setIfInBounds (off + j0) x = ((pre ++ [x]) ++ suf).toArray := by
        rw [h1]
        simp
      rw [e, ih (pre ++ [x]) suf off (j0 + 1) (by simp; omega) (by simpa using h2)]
      simp

theorem fill_step (place : Nat → Option (Nat × Nat)) (cells : Array Value) (i off k : Nat) (x : List Value) (rest : List (Nat × Value)) (hp : place i = some (off, k)) (hx : x.length = k) (hfit : off + k ≤ cells.size) :
    Instr.fill place cells ((i, Value.agg x.toArray) :: rest) = Instr.fill place (x.toArray.zipIdx.foldl (fun (cs : Array Value) (p : Value × Nat) => cs.setIfInBounds (off + p.2) p.1) cells) rest := by
  simp only [Instr.fill, hp]
  split
  · rename_i h
    exfalso
    simp [Value.cells, hx] at h
    omega
  · rfl

theorem fill_rows (k : Nat) : ∀ (xs : List (List Value)) (pre suf : List Value) (i : Nat), pre.length = i * k → suf.length = xs.length * k → (∀ x ∈ xs, x.length = k) →
    Instr.fill (fun i => some (i * k, k)) (pre ++ suf).toArray ((xs.zipIdx i).map fun p => (p.2, Value.agg p.1.toArray)) = some (pre ++ xs.flatten).toArray := by
  intro xs
  induction xs with
  | nil => intro pre suf i h1 h2 h3; simp at h2; subst h2; simp [Instr.fill]
  | cons x xs ih =>
    intro pre suf i h1 h2 h3
    have hx : x.length = k := h3 x (List.mem_cons_self)
    have hs : k ≤ suf.length := by rw [h2, List.length_cons, Nat.succ_mul]; omega
    rw [List.zipIdx_cons, List.map_cons, fill_step _ _ i (i * k) k x _ rfl hx (by simp [h1]; omega)]
    have e : x.toArray.zipIdx.foldl (fun (cs : Array Value) (p : Value × Nat) => cs.setIfInBounds (i * k + p.2) p.1) (pre ++ suf).toArray = ((pre ++ x) ++ suf.drop k).toArray := by
      have := set_run x pre suf (i * k) 0 (by omega) (by omega)
      rw [hx] at this
      rw [← this]
      simp
    rw [e, ih (pre ++ x) (suf.drop k) (i + 1) (by simp [h1, hx, Nat.succ_mul]) (by rw [List.length_drop, h2, List.length_cons, Nat.succ_mul]; omega) (fun y hy => h3 y (List.mem_cons_of_mem _ hy))]
    simp

theorem wpList_buildSlice_rows {P : Program} {ops : Array Oper} {rest : List Oper} {op : Oper} {a : Act} {w : World} {Q : Exit → Act → World → Prop} (hgd : op.guard = none) (t n : Nat) (parts : Array (Nat × Operand)) (ho : op.op = .buildSlice t n parts)
    (e k : Nat) (i : TypeInfo) (z : Value) (ht : P.underlying t = some (.slice e)) (hi : P.info? e = some i) (hz : i.zero = some z) (hs : i.size = k) (hk : 0 < k)
    (xs : List (List Value)) (hn : xs.length = n) (hx : ∀ x ∈ xs, x.length = k) (hsmall : n * k ≤ 16777216)
    (hp' : (parts.toList.map fun p => (p.1, a.eval p.2)) = (xs.zipIdx).map fun p => (p.2, Value.agg p.1.toArray))
    (h : wpList P ops Q rest (a.put op.dst (.slice (some ⟨w.heap.size, 0, none⟩) n n)) (w.alloc (.cells xs.flatten.toArray e))) : wpList P ops Q (op :: rest) a w := by
  refine wpList_plain hgd fun K hK => ?_
  have hp : (parts.map fun p => (p.1, a.eval p.2)).toList = (xs.zipIdx).map fun p => (p.2, Value.agg p.1.toArray) := by rw [Array.toList_map]; exact hp'
  subst hs
  have hf : ∀ zero : Array Value, Instr.fill (fun j => some (j * i.size, i.size)) ((Array.range (n * i.size)).map (fun j => zero[j % zero.size]!)) ((xs.zipIdx).map fun p => (p.2, Value.agg p.1.toArray)) = some xs.flatten.toArray := by
    intro zero
    have := fill_rows i.size xs [] ((Array.range (n * i.size)).map (fun j => zero[j % zero.size]!)).toList 0 (by simp) (by simp [hn]) hx
    rw [List.nil_append, List.nil_append, Array.toArray_toList] at this
    exact this
  have hrun : (Instr.buildSlice t n (parts.map fun p => (p.1, a.eval p.2))).run P w = .ok (.slice (some ⟨w.heap.size, 0, none⟩) n n) (w.alloc (.cells xs.flatten.toArray e)) := by
    have hn0 : ¬ (16777216 < n * i.size) := by omega
    by_cases hz0 : n * i.size = 0
    · have hn1 : n = 0 := by
        rcases Nat.mul_eq_zero.1 hz0 with h | h
        · exact h
        · omega
      subst hn1
      obtain rfl : xs = [] := List.eq_nil_of_length_eq_zero hn
      have hp0 : (parts.map fun p => (p.1, a.eval p.2)) = #[] := by
        have : (parts.map fun p => (p.1, a.eval p.2)).toList = [] := by rw [hp]; rfl
        simpa using this
      rw [hp0]
      have hr0 : ∀ f : Nat → Value, Array.map f (Array.range 0) = #[] := fun f => by apply Array.eq_empty_of_size_eq_zero; simp
      simp [Instr.buildSlice, run_underlying ht, sizeOf, typeInfo, hi, Instr.fill, newRow, hr0]
    · simp only [Instr.buildSlice, Sem.run_bind, run_underlying ht, Result.andThen_ok]
      simp [sizeOf, typeInfo, hi, hn0, hz0, zeroValue, hz]
      have h1 := hf z.cells
      rw [Array.toList_map] at hp
      rw [hp, h1]
      simp [newRow]
  have := hK _ _ h
  unfold Oper.wp execOp
  simp only [ho, Sem.run_bind]
  rw [show (parts.map fun x => match x with | (i, x) => (i, a.eval x)) = parts.map fun p => (p.1, a.eval p.2) from rfl, hrun]
  exact this

/-- append of one struct, which the call has just laid into a block of its own. -/
theorem wpList_app_rec {P : Program} (w : World) {ops : Array Oper} {rest : List Oper} {o : Oper} {a : Act} {Q : Exit → Act → World → Prop} (hgd : o.guard = none) (s x : Operand) (t : TypeId)
    (ho : o.op = .call { callee := .builtin .append, args := #[s, x], argTypes := #[t, t] })
    (e : TypeId) (i : TypeInfo) (z : Value) (size bytes : Nat) (ht : P.underlying t = some (.slice e)) (hi : P.info? e = some i) (hz : i.zero = some z)
    (hsize : i.size = size) (hby : i.bytes = bytes) (hzs : z.cells.size = size) (hsz : 0 < size)
    (v : Value) (n : Nat) (xs : List Value) (hs : a.eval s = v) (hown : w.ownsRow 0 e size v n xs)
    (cs : List Value) (T : TypeId) (hx : a.eval x = .slice (some ⟨w.heap.size, 0, none⟩) 1 1) (hl : cs.length = size) (h1 : ∀ u ∈ cs, u.oneCell' = true) (h63 : n + 1 ≤ maxLen) (hbytes : (n + 1) * bytes ≤ 140737488355328)
    (h : ∀ v' w', w'.ownsRow 0 e size v' (n + 1) (xs ++ cs) → Touch v.ownBlock.toList w w' → (v'.ownBlock = v.ownBlock ∨ v'.ownBlock = some (w.heap.size + 1)) → wpList P ops Q rest (a.put o.dst v') w') : wpList P ops Q (o :: rest) a (w.alloc (.cells cs.toArray T)) :=
  wpList_app _ hgd s x t ho e i z size bytes ht hi hz hsize hby hzs hsz v n xs hs (hown.alloc _) _ 1 1 cs hx (by rw [hl, Nat.one_mul]) (by intro h; cases h) (by intro ad h j u hu; cases h; rw [Addr.add_lit]; exact range_new w cs T j u hu) h1 h63 hbytes
    fun v' w' h2 h3 h4 => h v' w' h2 (Touch.trans ((Touch.refl _ _).alloc _) h3 (fun x hx => .inl hx)) (by simpa using h4)

/-! ### slices of elements of k cells -/
theorem flat_get {k : Nat} {xs : List (List Value)} (hk : ∀ x ∈ xs, x.length = k) {i j : Nat} {x : List Value} {u : Value} (hx : xs[i]? = some x) (hu : x[j]? = some u) : xs.flatten[i * k + j]? = some u := by
  induction xs generalizing i with
  | nil => simp at hx
  | cons y ys ih =>
    have hy : y.length = k := hk y (List.mem_cons_self)
    rw [List.flatten_cons]
    cases i with
    | zero =>
      simp at hx
      subst hx
      have hj : j < y.length := (List.getElem?_eq_some_iff.1 hu).1
      rw [Nat.zero_mul, Nat.zero_add, List.getElem?_append_left hj]
      exact hu
    | succ i =>
      simp at hx
      have := ih (fun x hx => hk x (List.mem_cons_of_mem _ hx)) hx
      rw [List.getElem?_append_right (by rw [hy, Nat.succ_mul]; omega), hy, Nat.succ_mul]
      rw [← this]
      congr 1
      omega
theorem flat_len {k : Nat} {xs : List (List Value)} (hk : ∀ x ∈ xs, x.length = k) : xs.flatten.length = xs.length * k := by
  induction xs with
  | nil => simp
  | cons y ys ih => rw [List.flatten_cons, List.length_append, ih (fun x hx => hk x (List.mem_cons_of_mem _ hx)), hk y (List.mem_cons_self), List.length_cons, Nat.succ_mul, Nat.add_comm]
theorem flat_inv {k : Nat} (hk0 : 0 < k) {xs : List (List Value)} (hk : ∀ x ∈ xs, x.length = k) {j : Nat} {u : Value} (hu : xs.flatten[j]? = some u) : ∃ x, xs[j / k]? = some x ∧ x[j % k]? = some u := by
  have hj : j < xs.flatten.length := (List.getElem?_eq_some_iff.1 hu).1
  rw [flat_len hk] at hj
  have hq : j / k < xs.length := (Nat.div_lt_iff_lt_mul hk0).2 hj
  have hx : xs[j / k]? = some xs[j / k] := List.getElem?_eq_getElem hq
  have hl : (xs[j / k]).length = k := hk _ (List.getElem_mem hq)
  have hr : j % k < (xs[j / k]).length := by rw [hl]; exact Nat.mod_lt _ hk0
  refine ⟨_, hx, ?_⟩
  have h2 := flat_get hk hx (List.getElem?_eq_getElem hr)
  rw [Nat.div_add_mod' j k] at h2
  rw [List.getElem?_eq_getElem hr, ← h2, hu]

/-- The slice value v reads, in w, as the elements xs, of k cells each, in block b. -/
def Rd (w : World) (k b : Nat) (v : Value) (xs : List (List Value)) : Prop :=
  ∃ (a : Option Addr) (cap : Nat), v = .slice a xs.length cap ∧ xs.length ≤ cap ∧ cap ≤ maxLen ∧ (a = none → cap = 0) ∧
    (xs ≠ [] → ∃ off, a = some ⟨b, off, none⟩ ∧ ∀ i x, xs[i]? = some x → w.rangeAt b (off + i * k) x)

theorem Rd.touch {S : List Nat} {w w' : World} {k b : Nat} {v : Value} {xs : List (List Value)} (t : Touch S w w') (h : Rd w k b v xs) (hb : b ∉ S) : Rd w' k b v xs := by
  obtain ⟨a, cap, hv, h1, h2, h3, h4⟩ := h
  refine ⟨a, cap, hv, h1, h2, h3, fun hne => ?_⟩
  obtain ⟨off, ha, hr⟩ := h4 hne
  exact ⟨off, ha, fun i x hx => t.range (hr i x hx) hb⟩
theorem Rd.draws {w : World} {k b : Nat} {v : Value} {xs : List (List Value)} (h : Rd w k b v xs) (n : Nat) : Rd (w.drewN n) k b v xs := h
theorem Rd.nil (w : World) (k b : Nat) : Rd w k b (.slice none 0 0) [] := ⟨none, 0, rfl, Nat.le_refl _, by simp [maxLen], fun _ => rfl, fun h => absurd rfl h⟩
theorem Rd.form {w : World} {k b : Nat} {v : Value} {xs : List (List Value)} (h : Rd w k b v xs) : ∃ a cap, v = .slice a xs.length cap ∧ xs.length ≤ cap ∧ cap ≤ maxLen := by
  obtain ⟨a, cap, hv, h1, h2, _⟩ := h
  exact ⟨a, cap, hv, h1, h2⟩
theorem Rd.of_owns {w : World} {k g : Nat} {T : TypeId} {v : Value} {xs : List (List Value)} (hk : ∀ x ∈ xs, x.length = k) (ho : w.ownsRow 0 T k v xs.length xs.flatten) (hg : ∀ b, v.ownBlock = some b → b = g) : Rd w k g v xs := by
  obtain ⟨a, c, rfl, h1, h2, h3⟩ := owns_form ho
  refine ⟨a, c, rfl, h1, h2, fun ha => ?_, fun hne => ?_⟩
  · subst ha
    rcases ho.2 with ⟨h4, _⟩ | ⟨_, _, _, h4, _⟩
    · simp at h4; omega
    · simp at h4
  · obtain ⟨b, rfl⟩ := h3 (List.length_pos_iff.2 hne)
    obtain rfl := hg b rfl
    refine ⟨0, rfl, fun i x hx j u hu => ?_⟩
    have := owns_cell ho (i * k + j) u (flat_get hk hx hu)
    rw [Nat.zero_add]
    exact this

/-- v[i:] -/
theorem Rd.drop {P : Program} {w : World} {k b T e : Nat} {a : Option Addr} {n cap : Nat} {xs : List (List Value)} (h : Rd w k b (.slice a n cap) xs) (i : Nat) (hi : i ≤ xs.length) :
    Rd w k b (.slice (if cap = i then a else a.map (·.add (i * k))) (n - i) (cap - i)) (xs.drop i) := by
  obtain ⟨a', cap', hv, h1, h2, h3, h4⟩ := h
  simp only [Value.slice.injEq] at hv
  obtain ⟨rfl, rfl, rfl⟩ := hv
  refine ⟨_, _, by rw [List.length_drop], by rw [List.length_drop]; omega, by omega, fun hn => ?_, fun hne => ?_⟩
  · split at hn
    · rename_i hc; omega
    · cases a with
      | none => have := h3 rfl; omega
      | some x => simp at hn
  · have hlt : i < xs.length := by
      rcases Nat.lt_or_ge i xs.length with h | h
      · exact h
      · exact absurd (List.drop_eq_nil_of_le h) hne
    obtain ⟨off, rfl, hr⟩ := h4 (by intro e; subst e; simp at hlt)
    refine ⟨off + i * k, ?_, fun j x hx => ?_⟩
    · rw [if_neg (by omega)]
      simp [Addr.add_lit]
    · rw [List.getElem?_drop] at hx
      have := hr _ _ hx
      rw [Nat.add_assoc, ← Nat.add_mul]
      exact this
/-- v[:i] -/
theorem Rd.take {w : World} {k b : Nat} {a : Option Addr} {n cap : Nat} {xs : List (List Value)} (h : Rd w k b (.slice a n cap) xs) (i : Nat) (hi : i ≤ xs.length) : Rd w k b (.slice a i cap) (xs.take i) := by
  obtain ⟨a', cap', hv, h1, h2, h3, h4⟩ := h
  simp only [Value.slice.injEq] at hv
  obtain ⟨rfl, rfl, rfl⟩ := hv
  refine ⟨a, cap, by rw [List.length_take, Nat.min_eq_left hi], by rw [List.length_take]; omega, h2, h3, fun hne => ?_⟩
  obtain ⟨off, ha, hr⟩ := h4 (by intro e; subst e; simp at hne)
  refine ⟨off, ha, fun j x hx => ?_⟩
  rw [List.getElem?_take] at hx
  split at hx
  · exact hr _ _ hx
  · cases hx
/-- The cells of such a slice, one behind the other: what append copies. -/
theorem Rd.news {w : World} {k b : Nat} (hk0 : 0 < k) {a : Option Addr} {n cap : Nat} {xs : List (List Value)} (hk : ∀ x ∈ xs, x.length = k) (h : Rd w k b (.slice a n cap) xs) :
    (a = none → n = 0 ∧ cap = 0) ∧ ∀ ad, a = some ad → ∀ j u, xs.flatten[j]? = some u → w.cell? (ad.add j) = some u := by
  obtain ⟨a', cap', hv, h1, h2, h3, h4⟩ := h
  simp only [Value.slice.injEq] at hv
  obtain ⟨rfl, rfl, rfl⟩ := hv
  refine ⟨fun ha => by have := h3 ha; omega, fun ad had j u hu => ?_⟩
  have hne : xs ≠ [] := by intro e; subst e; simp at hu
  obtain ⟨off, rfl, hr⟩ := h4 hne
  simp at had
  subst had
  obtain ⟨x, hx, hxu⟩ := flat_inv hk0 hk hu
  have := hr _ _ hx _ _ hxu
  rw [Addr.add_lit, ← this]
  congr 2
  rw [Nat.add_assoc, Nat.div_add_mod']
/-- Where element i lies. -/
theorem Rd.at {w : World} {k b : Nat} {a : Option Addr} {n cap : Nat} {xs : List (List Value)} (h : Rd w k b (.slice a n cap) xs) (hne : xs ≠ []) : ∃ off, a = some ⟨b, off, none⟩ ∧ ∀ i x, xs[i]? = some x → w.rangeAt b (off + i * k) x := by
  obtain ⟨a', cap', hv, h1, h2, h3, h4⟩ := h
  simp only [Value.slice.injEq] at hv
  obtain ⟨rfl, rfl, rfl⟩ := hv
  exact h4 hne
end Go.Proofs.Ytpbabdoecjlifaa

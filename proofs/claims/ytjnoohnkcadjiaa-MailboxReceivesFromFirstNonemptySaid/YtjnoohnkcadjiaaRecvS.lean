/-
  The state of the data of MailboxReceivesFromFirstNonempty, and how it turns: one box more; one element taken.
-/
import Derived.Test.YtjnoohnkcadjiaaAwake
import Derived.Test.YtjnoohnkcadjiaaFlat
import Derived.Test.YtjnoohnkcadjiaaFirst
import Derived.BigQuiet
import Derived.Deep.QuietTactic
namespace Go.Proofs.Ytjnoohnkcadjiaa.mailboxReceivesFromFirstNonempty
open Go.RowKit Go.Deep
set_option linter.unusedVariables false
set_option linter.unusedSimpArgs false

theorem info3 : (Try.prog.info? 3).map (fun i => (i.zero, i.size, i.bytes)) = some (some (.int .i64 0), 1, 8) := by kernel_rfl
theorem info33 : (Try.prog.info? 33).map (fun i => (i.zero, i.size, i.bytes)) = some (some (.pointer none), 1, 8) := by kernel_rfl

/-- What box j holds once l of its K elements are left. -/
def buf (j K l : Nat) : List Value := (List.range' (10 * j + (K - l)) l).map fun q : Nat => Value.int .i64 (q : Int)
theorem buf_zero (j K : Nat) : buf j K 0 = [] := by simp [buf]
theorem buf_cons (j K l : Nat) (h : 0 < l) (hl : l ≤ K) : buf j K l = .int .i64 ((10 * j + (K - l) : Nat) : Int) :: buf j K (l - 1) := by
  obtain ⟨m, rfl⟩ : ∃ m, l = m + 1 := ⟨l - 1, by omega⟩
  simp only [buf, List.range'_succ, List.map_cons, Nat.add_sub_cancel]
  rw [show 10 * j + (K - (m + 1)) + 1 = 10 * j + (K - m) by omega]
theorem buf_push (j l : Nat) : (buf j l l).toArray.push (.int .i64 ((10 * j + l : Nat) : Int)) = (buf j (l + 1) (l + 1)).toArray := by
  simp [buf, List.range'_concat]
theorem buf_len (j K l : Nat) : (buf j K l).length = l := by simp [buf]

/-- The blocks B j, C j of the first n boxes lie from N on, and no two are one. -/
structure Apart (N n : Nat) (B C : Nat → Nat) : Prop where
  lo : ∀ j, j < n → N ≤ B j ∧ N ≤ C j
  bb : ∀ i j, i < n → j < n → i ≠ j → B i ≠ B j
  cc : ∀ i j, i < n → j < n → i ≠ j → C i ≠ C j
  bc : ∀ i j, i < n → j < n → B i ≠ C j
/-- A row's block (if it has one) lies from N on and is none of theirs. -/
def Off (N n : Nat) (B C : Nat → Nat) (v : Value) : Prop := ∀ g, v.ownBlock = some g → N ≤ g ∧ ∀ j, j < n → g ≠ B j ∧ g ≠ C j

/-- The state of the law's own data. -/
structure St (N n : Nat) (B C K L : Nat → Nat) (vl vleft : Value) (w : World) : Prop where
  apart : Apart N n B C
  offl : Off N n B C vl
  offr : Off N n B C vleft
  lr : ∀ g, vl.ownBlock = some g → vleft.ownBlock ≠ some g
  l : w.ownsRow 0 33 1 vl n ((List.range n).map fun j => Value.pointer (some ⟨B j, 0, none⟩))
  left : w.ownsRow 0 3 1 vleft n ((List.range n).map fun j => Value.int .i64 (L j : Int))
  box : ∀ j, j < n → IsBox w 58 (B j) (C j) 4 (buf j (K j) (L j)).toArray

theorem St.empty (N : Nat) (B C K L : Nat → Nat) (w : World) : St N 0 B C K L (.slice none 0 0) (.slice none 0 0) w :=
  ⟨⟨by omega, by omega, by omega, by omega⟩, by intro g h; simp [Value.ownBlock] at h, by intro g h; simp [Value.ownBlock] at h, by intro g h; simp [Value.ownBlock] at h,
    by simpa using World.ownsRow_nil w 0 33 1, by simpa using World.ownsRow_nil w 0 3 1, by omega⟩
def upd (f : Nat → Nat) (i x : Nat) : Nat → Nat := fun j => if j = i then x else f j
theorem upd_old (f : Nat → Nat) (i x j : Nat) (h : j < i) : upd f i x j = f j := by simp [upd]; omega
theorem upd_new (f : Nat → Nat) (i x : Nat) : upd f i x i = x := by simp [upd]

/-- The state stays where nothing of it is written. -/
theorem St.keep {N n : Nat} {B C K L : Nat → Nat} {vl vleft : Value} {w w' : World} {S : List Nat} (h : St N n B C K L vl vleft w) (t : Touch S w w')
    (h1 : ∀ g, vl.ownBlock = some g → g ∉ S) (h2 : ∀ g, vleft.ownBlock = some g → g ∉ S) (h3 : ∀ j, j < n → B j ∉ S ∧ C j ∉ S) : St N n B C K L vl vleft w' :=
  ⟨h.apart, h.offl, h.offr, h.lr, t.owns h.l h1, t.owns h.left h2, fun j hj => t.box (h.box j hj) (h3 j hj).1 (h3 j hj).2⟩

/-- One box more. -/
theorem St.snoc {N i b c : Nat} {B C K L : Nat → Nat} {vl vleft vl' vleft' : Value} {w w2 w3 w4 : World} (h : St N i B C K L vl vleft w) (hN : N ≤ w.heap.size)
    (hb : w.heap.size ≤ b) (hc : w.heap.size ≤ c) (hbc : b ≠ c) (hb2 : b < w2.heap.size) (hc2 : c < w2.heap.size) (t2 : Touch [] w w2) (hbox : IsBox w2 58 b c 4 (buf i (K i) (L i)).toArray)
    (ho3 : w3.ownsRow 0 33 1 vl' (i + 1) (((List.range i).map fun j => Value.pointer (some ⟨B j, 0, none⟩)) ++ [.pointer (some ⟨b, 0, none⟩)])) (t3 : Touch vl.ownBlock.toList w2 w3) (hv3 : vl'.ownBlock = vl.ownBlock ∨ vl'.ownBlock = some (w2.heap.size + 1))
    (ho4 : w4.ownsRow 0 3 1 vleft' (i + 1) (((List.range i).map fun j => Value.int .i64 (L j : Int)) ++ [.int .i64 (L i : Int)])) (t4 : Touch vleft.ownBlock.toList w3 w4) (hv4 : vleft'.ownBlock = vleft.ownBlock ∨ vleft'.ownBlock = some (w3.heap.size + 1)) :
    St N (i + 1) (upd B i b) (upd C i c) K L vl' vleft' w4 := by
  have hlt : ∀ j, j < i → B j < w.heap.size ∧ C j < w.heap.size := fun j hj => (h.box j hj).lt
  have hgl : ∀ g, vl.ownBlock = some g → g < w.heap.size := fun g hg => (h.l.lt g hg).2
  have hgr : ∀ g, vleft.ownBlock = some g → g < w.heap.size := fun g hg => (h.left.lt g hg).2
  have z2 := t2.size
  have z3 := t3.size
  have z4 := t4.size
  have old : ∀ j, j < i → upd B i b j = B j ∧ upd C i c j = C j := fun j hj => ⟨upd_old _ _ _ _ hj, upd_old _ _ _ _ hj⟩
  have cases_lt : ∀ j, j < i + 1 → (j < i ∧ upd B i b j = B j ∧ upd C i c j = C j) ∨ (j = i ∧ upd B i b j = b ∧ upd C i c j = c) := by
    intro j hj
    by_cases hji : j < i
    · exact .inl ⟨hji, old j hji⟩
    · obtain rfl : j = i := by omega
      exact .inr ⟨rfl, upd_new _ _ _, upd_new _ _ _⟩
  have nl : ∀ x, (x = b ∨ x = c) → x ∉ vl.ownBlock.toList := by
    intro x hx hm
    have := hgl x (by simpa using hm)
    omega
  have nr : ∀ x, (x = b ∨ x = c) → x ∉ vleft.ownBlock.toList := by
    intro x hx hm
    have := hgr x (by simpa using hm)
    omega
  refine ⟨⟨?_, ?_, ?_, ?_⟩, ?_, ?_, ?_, ?_, ?_, ?_⟩
  · intro j hj
    rcases cases_lt j hj with ⟨hji, e1, e2⟩ | ⟨rfl, e1, e2⟩
    · rw [e1, e2]; exact h.apart.lo j hji
    · rw [e1, e2]; omega
  · intro p q hp hq hne
    rcases cases_lt p hp with ⟨hpi, e1, e2⟩ | ⟨rfl, e1, e2⟩ <;> rcases cases_lt q hq with ⟨hqi, f1, f2⟩ | ⟨rfl, f1, f2⟩
    · rw [e1, f1]; exact h.apart.bb p q hpi hqi hne
    · rw [e1, f1]; have := hlt p hpi; omega
    · rw [e1, f1]; have := hlt q hqi; omega
    · exact absurd rfl hne
  · intro p q hp hq hne
    rcases cases_lt p hp with ⟨hpi, e1, e2⟩ | ⟨rfl, e1, e2⟩ <;> rcases cases_lt q hq with ⟨hqi, f1, f2⟩ | ⟨rfl, f1, f2⟩
    · rw [e2, f2]; exact h.apart.cc p q hpi hqi hne
    · rw [e2, f2]; have := hlt p hpi; omega
    · rw [e2, f2]; have := hlt q hqi; omega
    · exact absurd rfl hne
  · intro p q hp hq
    rcases cases_lt p hp with ⟨hpi, e1, e2⟩ | ⟨rfl, e1, e2⟩ <;> rcases cases_lt q hq with ⟨hqi, f1, f2⟩ | ⟨rfl, f1, f2⟩
    · rw [e1, f2]; exact h.apart.bc p q hpi hqi
    · rw [e1, f2]; have := hlt p hpi; omega
    · rw [e1, f2]; have := hlt q hqi; omega
    · rw [e1, f2]; exact hbc
  · intro g hg
    have hg' : (vl.ownBlock = some g) ∨ g = w2.heap.size + 1 := by
      rcases hv3 with e | e
      · rw [e] at hg; exact .inl hg
      · rw [e] at hg; simp at hg; omega
    rcases hg' with hg' | hg'
    · obtain ⟨k1, k2⟩ := h.offl g hg'
      have := hgl g hg'
      refine ⟨k1, fun j hj => ?_⟩
      rcases cases_lt j hj with ⟨hji, e1, e2⟩ | ⟨rfl, e1, e2⟩
      · rw [e1, e2]; exact k2 j hji
      · rw [e1, e2]; omega
    · refine ⟨by omega, fun j hj => ?_⟩
      rcases cases_lt j hj with ⟨hji, e1, e2⟩ | ⟨rfl, e1, e2⟩
      · rw [e1, e2]; have := hlt j hji; omega
      · rw [e1, e2]; omega
  · intro g hg
    have hg' : (vleft.ownBlock = some g) ∨ g = w3.heap.size + 1 := by
      rcases hv4 with e | e
      · rw [e] at hg; exact .inl hg
      · rw [e] at hg; simp at hg; omega
    rcases hg' with hg' | hg'
    · obtain ⟨k1, k2⟩ := h.offr g hg'
      have := hgr g hg'
      refine ⟨k1, fun j hj => ?_⟩
      rcases cases_lt j hj with ⟨hji, e1, e2⟩ | ⟨rfl, e1, e2⟩
      · rw [e1, e2]; exact k2 j hji
      · rw [e1, e2]; omega
    · refine ⟨by omega, fun j hj => ?_⟩
      rcases cases_lt j hj with ⟨hji, e1, e2⟩ | ⟨rfl, e1, e2⟩
      · rw [e1, e2]; have := hlt j hji; omega
      · rw [e1, e2]; omega
  · intro g hg hg2
    have l3 := (ho3.lt g hg).2
    have hg' : (vl.ownBlock = some g) ∨ g = w2.heap.size + 1 := by
      rcases hv3 with e | e
      · rw [e] at hg; exact .inl hg
      · rw [e] at hg; simp at hg; omega
    have hg2' : (vleft.ownBlock = some g) ∨ g = w3.heap.size + 1 := by
      rcases hv4 with e | e
      · rw [e] at hg2; exact .inl hg2
      · rw [e] at hg2; simp at hg2; omega
    rcases hg2' with k | k
    · have := hgr g k
      rcases hg' with q | q
      · exact h.lr g q k
      · omega
    · omega
  · have e : (List.range (i + 1)).map (fun j => Value.pointer (some ⟨upd B i b j, 0, none⟩)) = ((List.range i).map fun j => Value.pointer (some ⟨B j, 0, none⟩)) ++ [.pointer (some ⟨b, 0, none⟩)] := by
      rw [List.range_succ, List.map_append, List.map_singleton, upd_new]
      congr 1
      exact List.map_congr_left fun j hj => by rw [upd_old _ _ _ _ (List.mem_range.1 hj)]
    rw [e]
    refine t4.owns ho3 (fun g hg hm => ?_)
    have l3 := (ho3.lt g hg).2
    have k : vleft.ownBlock = some g := by simpa using hm
    have := hgr g k
    rcases hv3 with e | e
    · rw [e] at hg; exact h.lr g hg k
    · rw [e] at hg; simp at hg; omega
  · rw [List.range_succ, List.map_append, List.map_singleton]
    exact ho4
  · intro j hj
    rcases cases_lt j hj with ⟨hji, e1, e2⟩ | ⟨rfl, e1, e2⟩
    · rw [e1, e2]
      have k1 := t2.box (h.box j hji) (by simp) (by simp)
      have k2 := t3.box k1 (fun hm => ((h.offl (B j) (by simpa using hm)).2 j hji).1 rfl) (fun hm => ((h.offl (C j) (by simpa using hm)).2 j hji).2 rfl)
      exact t4.box k2 (fun hm => ((h.offr (B j) (by simpa using hm)).2 j hji).1 rfl) (fun hm => ((h.offr (C j) (by simpa using hm)).2 j hji).2 rfl)
    · rw [e1, e2]
      exact t4.box (t3.box hbox (nl b (.inl rfl)) (nl c (.inr rfl))) (nr b (.inl rfl)) (nr c (.inr rfl))

/-- One element is taken from box k, and left[k] goes down by one. -/
theorem St.take {N n k g cl : Nat} {B C K L : Nat → Nat} {vl : Value} {w w2 : World} (h : St N n B C K L vl (.slice (some ⟨g, 0, none⟩) n cl) w) (hk : k < n) (hpos : 0 < L k)
    (hb2 : IsBox w2 58 (B k) (C k) 4 (buf k (K k) (L k - 1)).toArray) (t2 : Touch [C k] w w2) (q : Nat) :
    St N n B C K (upd L k (L k - 1)) vl (.slice (some ⟨g, 0, none⟩) n cl) ((w2.drewN q).setCell ⟨g, k, none⟩ (.int .i64 ((L k : Int) - 1))) := by
  have hgo := h.offr g rfl
  have nck : ∀ g', vl.ownBlock = some g' → g' ∉ [C k] := fun g' hg' hm => ((h.offl g' hg').2 k hk).2 (by simpa using hm)
  have ngk : g ∉ [C k] := fun hm => (hgo.2 k hk).2 (by simpa using hm)
  have t3 : Touch [g] w2 ((w2.drewN q).setCell ⟨g, k, none⟩ (.int .i64 ((L k : Int) - 1))) :=
    Touch.setCell (⟨rfl, rfl, rfl, Nat.le_refl _, fun _ _ _ => rfl⟩ : Touch [g] w2 (w2.drewN q)) (.inl (by simp)) _
  have hleft := t2.owns h.left (fun g' hg' => by simp [Value.ownBlock] at hg'; subst hg'; exact ngk)
  refine ⟨h.apart, h.offl, h.offr, h.lr, t3.owns (t2.owns h.l nck) (fun g' hg' hm => ?_), ?_, ?_⟩
  · have e : g' = g := by simpa using hm
    subst e
    exact h.lr g' hg' rfl
  · have hset := owns_set (w := w2.drewN q) (show (w2.drewN q).ownsRow 0 3 1 _ _ _ from hleft) k (.int .i64 ((L k : Int) - 1))
    have e : ((List.range n).map fun j => Value.int .i64 (L j : Int)).set k (.int .i64 ((L k : Int) - 1)) = (List.range n).map fun j => Value.int .i64 (upd L k (L k - 1) j : Int) := by
      apply List.ext_getElem?
      intro j
      rw [List.getElem?_set]
      by_cases hj : k = j
      · subst hj
        simp [hk, upd_new]
        omega
      · rw [if_neg hj]
        by_cases hjn : j < n
        · simp [hjn, upd, Ne.symm hj]
        · simp [hjn]
    rw [e] at hset
    exact hset
  · intro j hj
    have nbg : B j ∉ [g] := fun hm => (hgo.2 j hj).1 (by simpa using (Eq.symm (by simpa using hm)))
    have ncg : C j ∉ [g] := fun hm => (hgo.2 j hj).2 (by simpa using (Eq.symm (by simpa using hm)))
    by_cases hjk : j = k
    · subst hjk
      rw [upd_new]
      exact t3.box hb2 nbg ncg
    · have : upd L k (L k - 1) j = L j := by simp [upd, hjk]
      rw [this]
      exact t3.box (t2.box (h.box j hj) (fun hm => h.apart.bc j k hj hk (by simpa using hm)) (fun hm => h.apart.cc j k hj hk hjk (by simpa using hm))) nbg ncg
end Go.Proofs.Ytjnoohnkcadjiaa.mailboxReceivesFromFirstNonempty

/-
  The walk of MailboxMatchesModel: true at every n and every list of operations. No condition.
-/
import Derived.Test.YtjnoohnkcadjiaaAwake
import Derived.Test.YtjnoohnkcadjiaaFlat
namespace Go.Proofs.Ytjnoohnkcadjiaa.mailboxMatchesModel
open Go.RowKit Go.Deep
set_option linter.unusedVariables false
set_option linter.unusedSimpArgs false

theorem info3 : (Try.prog.info? 3).map (fun i => (i.zero, i.size, i.bytes)) = some (some (.int .i64 0), 1, 8) := by kernel_rfl

theorem owns_form {w : World} {base e size n : Nat} {v : Value} {xs : List Value} (h : w.ownsRow base e size v n xs) : ∃ a c, v = .slice a n c ∧ (0 < n → ∃ g, a = some ⟨g, 0, none⟩) := by
  rcases h.2 with ⟨rfl, rfl⟩ | ⟨g, cap, cur, rfl, _⟩
  · exact ⟨none, 0, rfl, by omega⟩
  · exact ⟨_, _, rfl, fun _ => ⟨g, rfl⟩⟩

theorem mapPush (xs : List Int) (y : Int) : (xs.map (Value.int .i64)).toArray.push (.int .i64 y) = ((xs ++ [y]).map (Value.int .i64)).toArray := by simp
theorem mapSnoc (xs : List Int) (y : Int) : xs.map (Value.int .i64) ++ [.int .i64 y] = (xs ++ [y]).map (Value.int .i64) := by simp
/-- A box below the base of what grows stays. -/
theorem grown_box {w w' : World} {row : Option Nat} {T b c cap : Nat} {buf : Array Value} (h : w.grownBy w' row) (hb : IsBox w T b c cap buf) (hr : ∀ k, row = some k → k ≠ b ∧ k ≠ c) : IsBox w' T b c cap buf := by
  obtain ⟨s, r, hc⟩ := hb.ch
  obtain ⟨l1, l2⟩ := hb.lt
  exact ⟨by rw [h.block b l1 (fun e => (hr b e.symm).1 rfl)]; exact hb.box, s, r, by rw [h.block c l2 (fun e => (hr c e.symm).2 rfl)]; exact hc⟩
theorem alloc_box {w : World} {T b c cap : Nat} {buf : Array Value} (hb : IsBox w T b c cap buf) (o : Obj) : IsBox (w.alloc o) T b c cap buf :=
  grown_box (World.grownBy_alloc w o none) hb (by intro k h; cases h)
theorem one_new (w : World) (v : Value) (T : TypeId) : ∀ j u, [v][j]? = some u → (w.alloc (.cells #[v] T)).cell? ((⟨w.heap.size, 0, none⟩ : Addr).add j) = some u := by
  intro j u h
  match j, h with
  | 0, h => simp at h; subst h; simp [Addr.add]
theorem one_cell (k : IntKind) (n : Int) : ∀ u ∈ [Value.int k n], u.oneCell' = true := by
  intro u h; simp at h; subst h; rfl

set_option maxRecDepth 100000 in
set_option maxHeartbeats 4000000 in
theorem walk0 (n : Int) (a : Option Addr) (len cap : Nat) (hl : len ≤ cap) (hm : cap ≤ maxLen) (w : World)
    (ha : len = 0 ∨ ∃ b off, a = some ⟨b, off, none⟩ ∧ b < w.heap.size ∧ ∀ i, i < len → ∃ x y, w.cell? ⟨b, off + i * 2, none⟩ = some (.int .i64 x) ∧ w.cell? ⟨b, off + i * 2 + 1, none⟩ = some (.int .i64 y)) :
    Calls Try.prog 4 #[.int .i64 n, .slice a len cap] w fun e w' => e = .returned (.bool true) ∧ Below w.heap.size w w' := by
  obtain ⟨i3, hi3, hz3, hs3, hb3⟩ := info_parts info3
  have hlm : len ≤ 9223372036854775807 := by unfold maxLen at hm; omega
  have hg0 := gmod_lo n 9 (by omega)
  have hg1 := gmod_hi n 9 (by omega)
  go_enter Try.func4, Try.ntmps4
  go_wp2_with fail
  refine (mod_any _ _ _ (by omega) (by omega)).mono ?_
  rintro e w' ⟨rfl, rfl⟩
  generalize gmod n 9 = g at *
  obtain ⟨gk, rfl⟩ := Int.eq_ofNat_of_zero_le hg0
  have hgk : gk < 9 := by omega
  go_wp2_with fail
  refine (new_int _ w (by omega) (by omega)).mono ?_
  rintro e w1 ⟨rfl, hbox, hb1, hz⟩
  rw [show (1 + (gk : Int)).toNat = 1 + gk by omega] at hbox
  go_wp2_with fail
  go_loopw [8, 9] (fun vx vi wr => ∃ (k : Nat) (xs : List Int), k ≤ len ∧ vi = .int .i64 k ∧ xs.length ≤ 1 + gk ∧ IsBox wr 58 (w.heap.size + 1) w.heap.size (1 + gk) (xs.map (Value.int .i64)).toArray ∧ wr.ownsRow (w.heap.size + 2) 3 1 vx xs.length (xs.map (Value.int .i64)) ∧ Below w.heap.size w wr ∧ w.heap.size + 2 ≤ wr.heap.size)
    (fun _ vi _ => len - (intOf vi).toNat)
  case atStart => exact ⟨0, [], by omega, rfl, by simp, by simpa using hbox, World.ownsRow_nil _ _ _ _, hb1, by omega⟩
  case round =>
    obtain ⟨k, xs, hk, rfl, hxl, hbx, hown, hbel, hsz⟩ := hrel
    by_cases hlt : k < len
    · by_cases h90 : k < 90
      · rcases ha with ha | ⟨b, off, rfl, hbw, hc⟩
        · omega
        obtain ⟨x, y, hx, hy⟩ := hc k hlt
        rw [← hbel.cell (by exact hbw)] at hx hy
        obtain ⟨ao, c, rfl, hao⟩ := owns_form hown
        have q0 := gmod_lo x 5 (by omega)
        by_cases h3 : gmod x 5 < 3
        · have hlen : (xs.map (Value.int .i64)).toArray.size = xs.length := by simp
          by_cases hroom : xs.length < 1 + gk
          · have d1 : decide ((xs.length : Int) < 1 + (gk : Int)) = true := by simp; omega
            go_wp2_with fail
            refine (mod_any _ _ _ (by omega) (by omega)).mono ?_
            rintro e w' ⟨rfl, rfl⟩
            go_wp2_with fail
            refine (send_int_room _ _ _ _ y wr hbx (by rw [hlen]; exact hroom)).mono ?_
            rintro e wr2 ⟨rfl, hbx2, hbut⟩
            have hx2 : wr2.cell? ⟨b, off + k * 2, none⟩ = some (.int .i64 x) := by
              rw [World.cell?_of_block (w := wr) (hbut.block _ (by simp; omega))]; exact hx
            have hy2 : wr2.cell? ⟨b, off + k * 2 + 1, none⟩ = some (.int .i64 y) := by
              rw [World.cell?_of_block (w := wr) (hbut.block _ (by simp; omega))]; exact hy
            clear hx hy
            have hown2 := (hbut.owns hown (by omega)).alloc (.cells #[.int .i64 y] 3)
            have hz2 : wr.heap.size ≤ wr2.heap.size := by rw [hbut.size]; exact Nat.le_refl _
            clear hown
            go_wp2_with (at_builtin; go_loud (refine wpList_append_own _ rfl _ _ 36 rfl (w.heap.size + 2) 3 i3 (.int .i64 0) 1 8 Try.underlying36 hi3 hz3 hs3 hb3 rfl (by decide) _ _ _ rfl hown2 ⟨wr2.heap.size, 0, none⟩ 1 1 [.int .i64 y] rfl rfl (one_new _ _ _) (one_cell _ _) (by unfold maxLen; omega) (by omega) (by simp; omega) ?_))
            intro vx' wr3 hown3 hgrow3 _
            have hownb := hown2.lt
            have hbx3 : IsBox wr3 58 (w.heap.size + 1) w.heap.size (1 + gk) ((xs ++ [y]).map (Value.int .i64)).toArray := by
              rw [← mapPush]
              exact grown_box hgrow3 (alloc_box hbx2 _) (fun q hq => by have := hownb q hq; omega)
            have hbel3 : Below w.heap.size w wr3 :=
              ((hbel.trans (hbut.below (Nat.le_refl _))).alloc (by omega) _).grown hgrow3 (by simp; omega) (fun q hq => by have := hownb q hq; omega)
            have hsz3 : w.heap.size + 2 ≤ wr3.heap.size := by have := hgrow3.size; simp at this; omega
            clear hownb hgrow3 hown2 hbx2 hbut hx2 hy2 hbx
            obtain ⟨an, cn, rfl, _⟩ := owns_form hown3
            have hlen3 : ((xs ++ [y]).map (Value.int .i64)).toArray.size = (xs ++ [y]).length := by simp
            have hl3 : (xs ++ [y]).length ≤ 1 + gk := by simp; omega
            go_wp2_with fail
            refine (len_int _ _ _ _ wr3 hbx3).mono ?_
            rintro e w' ⟨rfl, rfl⟩
            rw [hlen3]
            clear hlen3
            go_wp2_with fail
            refine (cap_int _ _ _ _ wr3 hbx3).mono ?_
            rintro e w' ⟨rfl, rfl⟩
            go_wp2_with fail
            go_roundw
            case rel => exact ⟨k + 1, xs ++ [y], by omega, by go_num, hl3, hbx3, by rw [← mapSnoc, List.length_append]; exact hown3, hbel3, hsz3⟩
            case measure => simp [intOf]; omega
          · have d1 : decide ((xs.length : Int) < 1 + (gk : Int)) = false := by simp; omega
            go_wp2_with fail
            refine (mod_any _ _ _ (by omega) (by omega)).mono ?_
            rintro e w' ⟨rfl, rfl⟩
            go_wp2_with fail
            refine (send_int_full _ _ _ _ y wr hbx (by rw [hlen]; omega)).mono ?_
            rintro e wr2 ⟨rfl, rfl⟩
            have hbx3 := hbx
            have hbel3 := hbel
            have hsz3 := hsz
            have hlen3 : ((xs).map (Value.int .i64)).toArray.size = (xs).length := by simp
            have hl3 : (xs).length ≤ 1 + gk := by exact hxl
            go_wp2_with fail
            refine (len_int _ _ _ _ wr hbx3).mono ?_
            rintro e w' ⟨rfl, rfl⟩
            rw [hlen3]
            clear hlen3
            go_wp2_with fail
            refine (cap_int _ _ _ _ wr hbx3).mono ?_
            rintro e w' ⟨rfl, rfl⟩
            go_wp2_with fail
            go_roundw
            case rel => exact ⟨k + 1, xs, by omega, by go_num, hl3, hbx3, hown, hbel3, hsz3⟩
            case measure => simp [intOf]; omega
        · have g3 : ¬ gmod x 5 < 3 := h3
          cases xs with
          | nil =>
            go_wp2_with fail
            refine (mod_any _ _ _ (by omega) (by omega)).mono ?_
            rintro e w' ⟨rfl, rfl⟩
            go_wp2_with fail
            refine (recv_int_none _ _ _ wr hbx).mono ?_
            rintro e wr2 ⟨rfl, rfl⟩
            have hbx3 := hbx
            have hbel3 := hbel
            have hsz3 := hsz
            have hlen3 : (([] : List Int).map (Value.int .i64)).toArray.size = ([] : List Int).length := by simp
            have hl3 : ([] : List Int).length ≤ 1 + gk := by simp
            go_wp2_with fail
            refine (len_int _ _ _ _ wr hbx3).mono ?_
            rintro e w' ⟨rfl, rfl⟩
            rw [hlen3]
            clear hlen3
            go_wp2_with fail
            refine (cap_int _ _ _ _ wr hbx3).mono ?_
            rintro e w' ⟨rfl, rfl⟩
            go_wp2_with fail
            go_roundw
            case rel => exact ⟨k + 1, [], by omega, by go_num, hl3, hbx3, hown, hbel3, hsz3⟩
            case measure => simp [intOf]; omega
          | cons x0 tl =>
            go_wp2_with fail
            refine (mod_any _ _ _ (by omega) (by omega)).mono ?_
            rintro e w' ⟨rfl, rfl⟩
            go_wp2_with fail
            refine (recv_int_some _ _ _ _ wr hbx (.int .i64 x0) (tl.map (Value.int .i64)) rfl).mono ?_
            rintro e wr2 ⟨rfl, hbx2, hbut⟩
            have hown2 := hbut.owns hown (by omega)
            obtain ⟨g, rfl⟩ := hao (by simp)
            have hx0 : wr2.cell? ⟨g, 0, none⟩ = some (.int .i64 x0) := by
              have := hown2.cells (g := g) rfl 0 (.int .i64 x0) (by simp)
              simpa [Addr.add] using this
            clear hown hx hy hao hbx
            have hcells : ∀ j u, (tl.map (Value.int .i64))[j]? = some u → (wr2.alloc (.cells #[] 3)).cell? ((⟨g, 1, none⟩ : Addr).add j) = some u := by
              intro j u hu
              have := (hown2.alloc (.cells #[] 3)).cells (g := g) rfl (j + 1) u (by simpa using hu)
              rw [Addr.add_lit] at this ⊢
              rw [← this]
              congr 2
              omega
            have hone : ∀ u ∈ tl.map (Value.int .i64), u.oneCell' = true := ints_oneCell .i64 tl
            have hsz2 : wr.heap.size ≤ wr2.heap.size := by rw [hbut.size]; exact Nat.le_refl _
            have hc1 : tl.length + 1 ≤ c := by
              rcases hown2.2 with ⟨h1, _⟩ | ⟨_, _, _, h1, _, _, h2, _⟩
              · simp at h1
              · simp at h1; simp at h2; omega
            by_cases hcc : c = 1
            · subst hcc
              obtain rfl : tl = [] := List.eq_nil_of_length_eq_zero (by omega)
              go_wp2_with (at_builtin; refine wpList_append_own _ rfl _ _ 36 rfl (w.heap.size + 2) 3 i3 (.int .i64 0) 1 8 Try.underlying36 hi3 hz3 hs3 hb3 rfl (by decide) _ 0 [] rfl (World.ownsRow_made wr2 #[] 0 (by omega) (by simp [maxLen]) rfl) ⟨g, 0, none⟩ 0 0 [] rfl (by simp) (by intro j u h; simp at h) (by intro u h; simp at h) (by simp [maxLen]) (by omega) (by simp; omega) ?_)
              intro vx' wr3 hown3 hgrow3 _
              try simp only [Nat.zero_add, List.nil_append] at hown3
              have hbx3 : IsBox wr3 58 (w.heap.size + 1) w.heap.size (1 + gk) (([] : List Int).map (Value.int .i64)).toArray := grown_box hgrow3 (alloc_box hbx2 _) (fun q hq => by simp [Value.ownBlock] at hq; omega)
              have hbel3 : Below w.heap.size w wr3 :=
                ((hbel.trans (hbut.below (Nat.le_refl _))).alloc (by omega) _).grown hgrow3 (by simp; omega) (fun q hq => by simp [Value.ownBlock] at hq; omega)
              have hsz3 : w.heap.size + 2 ≤ wr3.heap.size := by have := hgrow3.size; simp at this; omega
              clear hgrow3 hown2 hbx2 hbut hx0 hcells hone
              obtain ⟨an, cn, rfl, _⟩ := owns_form hown3
              have hlen3 : ((([] : List Int)).map (Value.int .i64)).toArray.size = (([] : List Int)).length := by simp
              have hl3 : (([] : List Int)).length ≤ 1 + gk := by simp
              go_wp2_with fail
              refine (len_int _ _ _ _ wr3 hbx3).mono ?_
              rintro e w' ⟨rfl, rfl⟩
              rw [hlen3]
              clear hlen3
              go_wp2_with fail
              refine (cap_int _ _ _ _ wr3 hbx3).mono ?_
              rintro e w' ⟨rfl, rfl⟩
              go_wp2_with fail
              go_roundw
              case rel => exact ⟨k + 1, ([] : List Int), by omega, by go_num, hl3, hbx3, hown3, hbel3, hsz3⟩
              case measure => simp [intOf]; omega
            · go_wp2_with (at_builtin; refine wpList_append_own _ rfl _ _ 36 rfl (w.heap.size + 2) 3 i3 (.int .i64 0) 1 8 Try.underlying36 hi3 hz3 hs3 hb3 rfl (by decide) _ 0 [] rfl (World.ownsRow_made wr2 #[] 0 (by omega) (by simp [maxLen]) rfl) ⟨g, 1, none⟩ tl.length (c - 1) (tl.map (Value.int .i64)) rfl (by simp) hcells hone (by simp at hxl; unfold maxLen; omega) (by simp at hxl; omega) (by simp; omega) ?_)
              intro vx' wr3 hown3 hgrow3 _
              try simp only [Nat.zero_add, List.nil_append] at hown3
              have hbx3 : IsBox wr3 58 (w.heap.size + 1) w.heap.size (1 + gk) (tl.map (Value.int .i64)).toArray := grown_box hgrow3 (alloc_box hbx2 _) (fun q hq => by simp [Value.ownBlock] at hq; omega)
              have hbel3 : Below w.heap.size w wr3 :=
                ((hbel.trans (hbut.below (Nat.le_refl _))).alloc (by omega) _).grown hgrow3 (by simp; omega) (fun q hq => by simp [Value.ownBlock] at hq; omega)
              have hsz3 : w.heap.size + 2 ≤ wr3.heap.size := by have := hgrow3.size; simp at this; omega
              clear hgrow3 hown2 hbx2 hbut hx0 hcells hone
              obtain ⟨an, cn, rfl, _⟩ := owns_form hown3
              have hlen3 : ((tl).map (Value.int .i64)).toArray.size = (tl).length := by simp
              have hl3 : (tl).length ≤ 1 + gk := by simp at hxl; omega
              go_wp2_with fail
              refine (len_int _ _ _ _ wr3 hbx3).mono ?_
              rintro e w' ⟨rfl, rfl⟩
              rw [hlen3]
              clear hlen3
              go_wp2_with fail
              refine (cap_int _ _ _ _ wr3 hbx3).mono ?_
              rintro e w' ⟨rfl, rfl⟩
              go_wp2_with fail
              go_roundw
              case rel => exact ⟨k + 1, tl, by omega, by go_num, hl3, hbx3, hown3, hbel3, hsz3⟩
              case measure => simp [intOf]; omega
      · go_wp2_with fail
        refine (awake_any wr).mono ?_
        rintro e w2 ⟨rfl, hb2⟩
        go_wp2_with fail
        go_ret
        exact ⟨rfl, hbel.trans (hb2.mono (by omega))⟩
    · go_wp2_with fail
      refine (awake_any wr).mono ?_
      rintro e w2 ⟨rfl, hb2⟩
      go_wp2_with fail
      go_ret
      exact ⟨rfl, hbel.trans (hb2.mono (by omega))⟩

theorem walk {H : Type} {enc : TypeId × Value → H} (n : Int) (hn : (Lit.int .i64 n).wf = true) (v : Value) (w : World) (hv : IsSlice enc Try.prog w 0 (fun _ => true) true [3, 3] v) :
    Calls Try.prog 4 #[.int .i64 n, v] w fun e w' => e = .returned (.bool true) ∧ Below w.heap.size w w' := by
  obtain ⟨a, len, cap, rfl, hl, hm, hc⟩ := hv.at (by simp)
  refine walk0 n a len cap hl hm w ?_
  rcases hc with h0 | ⟨b, off, rfl, hc⟩
  · exact .inl h0
  · by_cases h0 : len = 0
    · exact .inl h0
    · refine .inr ⟨b, off, rfl, ?_, fun i hi => ?_⟩
      · obtain ⟨u, hu, _⟩ := hc 0 0 3 (by omega) rfl
        exact World.block_lt_of_cell? w _ hu
      · obtain ⟨u, hu, lu⟩ := hc i 0 3 hi rfl
        obtain ⟨u2, hu2, lu2⟩ := hc i 1 3 hi rfl
        obtain ⟨x, rfl, _⟩ := lu.int Try.underlying3
        obtain ⟨y, rfl, _⟩ := lu2.int Try.underlying3
        exact ⟨x, y, hu, hu2⟩
end Go.Proofs.Ytjnoohnkcadjiaa.mailboxMatchesModel

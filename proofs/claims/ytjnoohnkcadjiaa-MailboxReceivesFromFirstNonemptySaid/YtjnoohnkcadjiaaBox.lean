/-
  The contracts of package mailbox (New, TrySend, TryReceive, Len, Cap at int, string and api.Endpoint) and of ginnelgen.Mod. No conditions beside the state of the channel's block.
-/
import Derived.Test.YtjnoohnkcadjiaaRows
import Derived.WalkKit
import Derived.Conc.LoneCalls
import Derived.Conc.LoneSelect
namespace Go.Proofs.Ytjnoohnkcadjiaa
open Go.RowKit Go.Conc
set_option linter.unusedVariables false
set_option linter.unusedSimpArgs false

/-- What Mod(v, n) is: v taken modulo 2^64, then modulo n. -/
def gmod (v n : Int) : Int := (v % 18446744073709551616) % n
theorem gmod_lo (v n : Int) (hn : 1 ≤ n) : 0 ≤ gmod v n := Int.emod_nonneg _ (by omega)
theorem gmod_hi (v n : Int) (hn : 1 ≤ n) : gmod v n < n := Int.emod_lt_of_pos _ (by omega)

theorem mod_eq (v n : Int) (hn : 1 ≤ n) (hn2 : n ≤ 1000000) : wrap64 ((IntKind.u64.wrap v).tmod n) = gmod v n := by
  have h0 : 0 ≤ IntKind.u64.wrap v := by simp [IntKind.wrap, IntKind.signed, IntKind.bits]; omega
  rw [Int.tmod_eq_emod_of_nonneg h0]
  have h1 := Int.emod_nonneg (IntKind.u64.wrap v) (show n ≠ 0 by omega)
  have h2 := Int.emod_lt_of_pos (IntKind.u64.wrap v) (show 0 < n by omega)
  rw [IntWalk.wrap64_in _ ⟨by omega, by omega⟩]
  unfold gmod
  congr 1

theorem mod_any (v n : Int) (w : World) (hn : 1 ≤ n) (hn2 : n ≤ 1000000) :
    Calls Try.prog 10 #[.int .i64 v, .int .i64 n] w fun e w' => e = .returned (.int .i64 (gmod v n)) ∧ w = w' := by
  have H := mod_eq v n hn hn2
  go_enter Try.func10, Try.ntmps10
  go_wp2
  go_ret
  exact ⟨by simp [← H], rfl⟩

theorem run_getObj_chan (P : Program) {w : World} {c cap s r : Nat} {buf : Array Value} (h : w.heap[c]? = some (.chan cap buf false s r false)) :
    (getObj c).run P w = .ok (.chan cap buf false s r false) w := by
  simp [getObj, Sem.run, h]

/-- The mailbox at block b: its channel lies at block c, has room for cap elements and holds buf. -/
structure IsBox (w : World) (T b c cap : Nat) (buf : Array Value) : Prop where
  box : w.heap[b]? = some (.cells #[.chan (some c)] T (0, 0))
  ch : ∃ s r, w.heap[c]? = some (.chan cap buf false s r false)

theorem cellBox {w : World} {T b c cap : Nat} {buf : Array Value} (h : IsBox w T b c cap buf) : w.cell? ⟨b, 0, none⟩ = some (.chan (some c)) := by
  simp [World.cell?, h.box]
theorem IsBox.ne {w : World} {T b c cap : Nat} {buf : Array Value} (h : IsBox w T b c cap buf) : b ≠ c := by
  intro e
  obtain ⟨s, r, h2⟩ := h.ch
  have h1 := h.box
  rw [e, h2] at h1
  simp at h1
theorem IsBox.lt {w : World} {T b c cap : Nat} {buf : Array Value} (h : IsBox w T b c cap buf) : b < w.heap.size ∧ c < w.heap.size := by
  obtain ⟨s, r, h2⟩ := h.ch
  exact ⟨(Array.getElem?_eq_some_iff.1 h.box).1, (Array.getElem?_eq_some_iff.1 h2).1⟩

/-- w' is w but for the block c. -/
structure But1 (c : Nat) (w w' : World) : Prop where
  os : w'.os = w.os
  tape : w'.tape = w.tape
  output : w'.output = w.output
  size : w'.heap.size = w.heap.size
  block : ∀ k, k ≠ c → w'.heap[k]? = w.heap[k]?
theorem but1_setChan (w : World) (c cap : Nat) (buf : Array Value) (s r : Nat) : But1 c w (w.setChan c cap buf false s r false) :=
  ⟨rfl, rfl, rfl, by simp [World.setChan], fun k hk => by simp only [World.setChan]; rw [Array.getElem?_setIfInBounds_ne (by omega)]⟩
theorem But1.below {c B : Nat} {w w' : World} (h : But1 c w w') (hB : B ≤ c) : Below B w w' := ⟨h.os, h.tape, h.output, by rw [h.size]; omega, fun k hk => h.block k (by omega)⟩
theorem But1.box {c T b c2 cap : Nat} {buf : Array Value} {w w' : World} (h : But1 c w w') (hb : IsBox w T b c2 cap buf) (h1 : b ≠ c) (h2 : c2 ≠ c) : IsBox w' T b c2 cap buf := by
  obtain ⟨s, r, hc⟩ := hb.ch
  exact ⟨by rw [h.block b h1]; exact hb.box, s, r, by rw [h.block c2 h2]; exact hc⟩
theorem But1.owns {c : Nat} {w w' : World} (h : But1 c w w') {base : Nat} {E k : Nat} {v : Value} {n : Nat} {xs : List Value} (ho : w.ownsRow base E k v n xs) (hb : c < base) : w'.ownsRow base E k v n xs := by
  obtain ⟨h1, h2⟩ := ho
  refine ⟨h1, ?_⟩
  rcases h2 with h2 | ⟨g, cap, cur, hv, hg, hh, rest⟩
  · exact .inl h2
  · exact .inr ⟨g, cap, cur, hv, hg, by rw [h.block g (by omega)]; exact hh, rest⟩
theorem setBox {w : World} {T b c cap : Nat} {buf buf' : Array Value} (hb : IsBox w T b c cap buf) (s r : Nat) : IsBox (w.setChan c cap buf' false s r false) T b c cap buf' := by
  obtain ⟨s0, r0, hc⟩ := hb.ch
  have hlt := (Array.getElem?_eq_some_iff.1 hc).1
  exact ⟨by rw [(but1_setChan w c cap buf' s r).block b hb.ne]; exact hb.box, s, r, heap_setChan w c cap buf' false s r false hlt⟩

set_option maxRecDepth 100000 in
theorem send_int_room (b c cap : Nat) (buf : Array Value) (x : Int) (w : World) (hbox : IsBox w 58 b c cap buf) (hr : buf.size < cap) :
    Calls Try.prog 12 #[.pointer (some ⟨b, 0, none⟩), .int .i64 x] w fun e w' => e = .returned (.bool true) ∧ IsBox w' 58 b c cap (buf.push (.int .i64 x)) ∧ But1 c w w' := by
  obtain ⟨s, r, hc⟩ := hbox.ch
  have hb := cellBox hbox
  refine calls_of_loneTo fun cs => ?_
  have e : Frame.enter Try.prog 12 #[.pointer (some ⟨b, 0, none⟩), .int .i64 x] .normal = (base 12).at ⟨#[.pointer (some ⟨b, 0, none⟩), .int .i64 x, undef, undef, undef, undef, undef, undef, undef, undef, undef, undef, undef], []⟩ [.code (Try.f12.body.getD .skip)] := by
    simp [Frame.enter, Frame.at, Try.func12, base, Try.f12]
  rw [e]
  refine LoneTo.goes (n := 60) ?_
  simp only [Try.f12, Option.getD_some]
  s_c stepG_seq
  s_reg
  s_op
  s_c stepG_region_end
  s_c stepG_seq
  s_c stepG_seq
  s_reg
  s_op
  s_op
  s_op
  s_op
  s_c stepG_region_end
  s_reg
  s_op
  s_c stepG_region_end
  s_c stepG_seq
  s_reg
  s_stop
  refine LoneTo.step (step_lone_select_send_room (c := c) (cap := cap) (buf := buf) (s := s) (r := r) (tm := false) (v := .int .i64 x) (z' := .int .i64 0) (stepG_comm (cases := #[scase c (.int .i64 x) (.int .i64 0)]) (blocking := false) (shape := .select) (w' := w) rfl rfl (by decide) (by simp [go_sem, execOp, scase, Act.eval])) hc hr) ?_
  rw [Frame.finish_at]
  walk_nrm
  refine LoneTo.goes (n := 60) ?_
  s_op
  s_op
  s_c stepG_region_end
  s_c stepG_block
  s_cond true
  s_c stepG_seq
  s_reg
  s_op
  s_c stepG_region_end
  s_c stepG_ret'
  s_stop
  refine LoneTo.done ⟨.returned (.bool true), _, rfl, ⟨rfl, setBox hbox _ _, but1_setChan _ _ _ _ _ _⟩, rfl, rfl, rfl, rfl, _, Try.func12, by simp [results, Try.f12, Frame.at]⟩

set_option maxRecDepth 100000 in
theorem send_int_full (b c cap : Nat) (buf : Array Value) (x : Int) (w : World) (hbox : IsBox w 58 b c cap buf) (hr : cap ≤ buf.size) :
    Calls Try.prog 12 #[.pointer (some ⟨b, 0, none⟩), .int .i64 x] w fun e w' => e = .returned (.bool false) ∧ w = w' := by
  obtain ⟨s, r, hc⟩ := hbox.ch
  have hb := cellBox hbox
  refine calls_of_loneTo fun cs => ?_
  have e : Frame.enter Try.prog 12 #[.pointer (some ⟨b, 0, none⟩), .int .i64 x] .normal = (base 12).at ⟨#[.pointer (some ⟨b, 0, none⟩), .int .i64 x, undef, undef, undef, undef, undef, undef, undef, undef, undef, undef, undef], []⟩ [.code (Try.f12.body.getD .skip)] := by
    simp [Frame.enter, Frame.at, Try.func12, base, Try.f12]
  rw [e]
  refine LoneTo.goes (n := 60) ?_
  simp only [Try.f12, Option.getD_some]
  s_c stepG_seq
  s_reg
  s_op
  s_c stepG_region_end
  s_c stepG_seq
  s_c stepG_seq
  s_reg
  s_op
  s_op
  s_op
  s_op
  s_c stepG_region_end
  s_reg
  s_op
  s_c stepG_region_end
  s_c stepG_seq
  s_reg
  s_stop
  refine LoneTo.step (step_lone_select_send_full (c := c) (cap := cap) (buf := buf) (s := s) (r := r) (tm := false) (v := .int .i64 x) (z' := .int .i64 0) (stepG_comm (cases := #[scase c (.int .i64 x) (.int .i64 0)]) (blocking := false) (shape := .select) (w' := w) rfl rfl (by decide) (by simp [go_sem, execOp, scase, Act.eval])) hc hr) ?_
  rw [Frame.finish_at]
  walk_nrm
  refine LoneTo.goes (n := 60) ?_
  s_op
  s_op
  s_c stepG_region_end
  s_c stepG_block
  s_cond false
  s_c stepG_seq
  s_reg
  s_op
  s_c stepG_region_end
  s_c stepG_ret'
  s_stop
  refine LoneTo.done ⟨.returned (.bool false), _, rfl, ⟨rfl, rfl⟩, rfl, rfl, rfl, rfl, _, Try.func12, by simp [results, Try.f12, Frame.at]⟩

set_option maxRecDepth 100000 in
theorem recv_int_some (b c cap : Nat) (buf : Array Value) (w : World) (hbox : IsBox w 58 b c cap buf) (v : Value) (tl : List Value) (hr : buf.toList = v :: tl) :
    Calls Try.prog 13 #[.pointer (some ⟨b, 0, none⟩)] w fun e w' => e = .returned (.tuple #[v, .bool true]) ∧ IsBox w' 58 b c cap tl.toArray ∧ But1 c w w' := by
  obtain ⟨s, r, hc⟩ := hbox.ch
  have hb := cellBox hbox
  obtain rfl : buf = (v :: tl).toArray := by rw [← hr]
  refine calls_of_loneTo fun cs => ?_
  have e : Frame.enter Try.prog 13 #[.pointer (some ⟨b, 0, none⟩)] .normal = (base 13).at ⟨#[.pointer (some ⟨b, 0, none⟩), undef, undef, undef, undef, undef, undef, undef, undef, undef, undef, undef, undef, undef, undef, undef], []⟩ [.code (Try.f13.body.getD .skip)] := by
    simp [Frame.enter, Frame.at, Try.func13, base, Try.f13]
  rw [e]
  refine LoneTo.goes (n := 60) ?_
  simp only [Try.f13, Option.getD_some]
  s_c stepG_seq
  s_reg
  s_op
  s_op
  s_c stepG_region_end
  s_c stepG_seq
  s_reg
  s_op
  s_op
  s_op
  s_op
  s_c stepG_region_end
  s_c stepG_seq
  s_reg
  s_stop
  refine LoneTo.step (step_lone_select_recv_buf (c := c) (cap := cap) (buf := (v :: tl).toArray) (s := s) (r := r) (tm := false) (closed := false) (z := .int .i64 0) (stepG_comm (cases := #[rcase c (.int .i64 0)]) (blocking := false) (shape := .select) (w' := w) rfl rfl (by decide) (by simp [go_sem, execOp, rcase, Act.eval])) hc (by simp)) ?_
  rw [Frame.finish_at]
  rw [show (v :: tl).toArray.extract 1 (v :: tl).toArray.size = tl.toArray by simp, show (v :: tl).toArray.getD 0 undef = v by simp]
  walk_nrm
  refine LoneTo.goes (n := 60) ?_
  s_op
  s_op
  s_c stepG_region_end
  s_c stepG_block
  s_cond true
  s_c stepG_seq
  s_reg
  s_op
  s_op
  s_c stepG_region_end
  s_c stepG_seq
  s_reg
  s_op
  s_op
  s_op
  s_c stepG_region_end
  s_c stepG_ret'
  s_stop
  refine LoneTo.done ⟨.returned (.tuple #[v, .bool true]), _, rfl, ⟨rfl, setBox hbox _ _, but1_setChan _ _ _ _ _ _⟩, rfl, rfl, rfl, rfl, _, Try.func13, by simp [results, Try.f13, Frame.at]⟩

set_option maxRecDepth 100000 in
theorem recv_int_none (b c cap : Nat) (w : World) (hbox : IsBox w 58 b c cap #[])  :
    Calls Try.prog 13 #[.pointer (some ⟨b, 0, none⟩)] w fun e w' => e = .returned (.tuple #[.int .i64 0, .bool false]) ∧ w = w' := by
  obtain ⟨s, r, hc⟩ := hbox.ch
  have hb := cellBox hbox
  refine calls_of_loneTo fun cs => ?_
  have e : Frame.enter Try.prog 13 #[.pointer (some ⟨b, 0, none⟩)] .normal = (base 13).at ⟨#[.pointer (some ⟨b, 0, none⟩), undef, undef, undef, undef, undef, undef, undef, undef, undef, undef, undef, undef, undef, undef, undef], []⟩ [.code (Try.f13.body.getD .skip)] := by
    simp [Frame.enter, Frame.at, Try.func13, base, Try.f13]
  rw [e]
  refine LoneTo.goes (n := 60) ?_
  simp only [Try.f13, Option.getD_some]
  s_c stepG_seq
  s_reg
  s_op
  s_op
  s_c stepG_region_end
  s_c stepG_seq
  s_reg
  s_op
  s_op
  s_op
  s_op
  s_c stepG_region_end
  s_c stepG_seq
  s_reg
  s_stop
  refine LoneTo.step (step_lone_select_default (c := c) (cap := cap) (s := s) (r := r) (tm := false) (z := .int .i64 0) (stepG_comm (cases := #[rcase c (.int .i64 0)]) (blocking := false) (shape := .select) (w' := w) rfl rfl (by decide) (by simp [go_sem, execOp, rcase, Act.eval])) hc) ?_
  rw [Frame.finish_at]
  walk_nrm
  refine LoneTo.goes (n := 60) ?_
  s_op
  s_op
  s_c stepG_region_end
  s_c stepG_block
  s_cond false
  s_c stepG_seq
  s_reg
  s_op
  s_c stepG_region_end
  s_c stepG_seq
  s_reg
  s_op
  s_op
  s_op
  s_c stepG_region_end
  s_c stepG_ret'
  s_stop
  refine LoneTo.done ⟨.returned (.tuple #[.int .i64 0, .bool false]), _, rfl, ⟨rfl, rfl⟩, rfl, rfl, rfl, rfl, _, Try.func13, by simp [results, Try.f13, Frame.at]⟩

set_option maxRecDepth 100000 in
theorem send_string_room (b c cap : Nat) (buf : Array Value) (x : ByteArray) (w : World) (hbox : IsBox w 61 b c cap buf) (hr : buf.size < cap) :
    Calls Try.prog 18 #[.pointer (some ⟨b, 0, none⟩), .string x] w fun e w' => e = .returned (.bool true) ∧ IsBox w' 61 b c cap (buf.push (.string x)) ∧ But1 c w w' := by
  obtain ⟨s, r, hc⟩ := hbox.ch
  have hb := cellBox hbox
  refine calls_of_loneTo fun cs => ?_
  have e : Frame.enter Try.prog 18 #[.pointer (some ⟨b, 0, none⟩), .string x] .normal = (base 18).at ⟨#[.pointer (some ⟨b, 0, none⟩), .string x, undef, undef, undef, undef, undef, undef, undef, undef, undef, undef, undef], []⟩ [.code (Try.f18.body.getD .skip)] := by
    simp [Frame.enter, Frame.at, Try.func18, base, Try.f18]
  rw [e]
  refine LoneTo.goes (n := 60) ?_
  simp only [Try.f18, Option.getD_some]
  s_c stepG_seq
  s_reg
  s_op
  s_c stepG_region_end
  s_c stepG_seq
  s_c stepG_seq
  s_reg
  s_op
  s_op
  s_op
  s_op
  s_c stepG_region_end
  s_reg
  s_op
  s_c stepG_region_end
  s_c stepG_seq
  s_reg
  s_stop
  refine LoneTo.step (step_lone_select_send_room (c := c) (cap := cap) (buf := buf) (s := s) (r := r) (tm := false) (v := .string x) (z' := .string ⟨#[]⟩) (stepG_comm (cases := #[scase c (.string x) (.string ⟨#[]⟩)]) (blocking := false) (shape := .select) (w' := w) rfl rfl (by decide) (by simp [go_sem, execOp, scase, Act.eval])) hc hr) ?_
  rw [Frame.finish_at]
  walk_nrm
  refine LoneTo.goes (n := 60) ?_
  s_op
  s_op
  s_c stepG_region_end
  s_c stepG_block
  s_cond true
  s_c stepG_seq
  s_reg
  s_op
  s_c stepG_region_end
  s_c stepG_ret'
  s_stop
  refine LoneTo.done ⟨.returned (.bool true), _, rfl, ⟨rfl, setBox hbox _ _, but1_setChan _ _ _ _ _ _⟩, rfl, rfl, rfl, rfl, _, Try.func18, by simp [results, Try.f18, Frame.at]⟩

set_option maxRecDepth 100000 in
theorem send_string_full (b c cap : Nat) (buf : Array Value) (x : ByteArray) (w : World) (hbox : IsBox w 61 b c cap buf) (hr : cap ≤ buf.size) :
    Calls Try.prog 18 #[.pointer (some ⟨b, 0, none⟩), .string x] w fun e w' => e = .returned (.bool false) ∧ w = w' := by
  obtain ⟨s, r, hc⟩ := hbox.ch
  have hb := cellBox hbox
  refine calls_of_loneTo fun cs => ?_
  have e : Frame.enter Try.prog 18 #[.pointer (some ⟨b, 0, none⟩), .string x] .normal = (base 18).at ⟨#[.pointer (some ⟨b, 0, none⟩), .string x, undef, undef, undef, undef, undef, undef, undef, undef, undef, undef, undef], []⟩ [.code (Try.f18.body.getD .skip)] := by
    simp [Frame.enter, Frame.at, Try.func18, base, Try.f18]
  rw [e]
  refine LoneTo.goes (n := 60) ?_
  simp only [Try.f18, Option.getD_some]
  s_c stepG_seq
  s_reg
  s_op
  s_c stepG_region_end
  s_c stepG_seq
  s_c stepG_seq
  s_reg
  s_op
  s_op
  s_op
  s_op
  s_c stepG_region_end
  s_reg
  s_op
  s_c stepG_region_end
  s_c stepG_seq
  s_reg
  s_stop
  refine LoneTo.step (step_lone_select_send_full (c := c) (cap := cap) (buf := buf) (s := s) (r := r) (tm := false) (v := .string x) (z' := .string ⟨#[]⟩) (stepG_comm (cases := #[scase c (.string x) (.string ⟨#[]⟩)]) (blocking := false) (shape := .select) (w' := w) rfl rfl (by decide) (by simp [go_sem, execOp, scase, Act.eval])) hc hr) ?_
  rw [Frame.finish_at]
  walk_nrm
  refine LoneTo.goes (n := 60) ?_
  s_op
  s_op
  s_c stepG_region_end
  s_c stepG_block
  s_cond false
  s_c stepG_seq
  s_reg
  s_op
  s_c stepG_region_end
  s_c stepG_ret'
  s_stop
  refine LoneTo.done ⟨.returned (.bool false), _, rfl, ⟨rfl, rfl⟩, rfl, rfl, rfl, rfl, _, Try.func18, by simp [results, Try.f18, Frame.at]⟩

set_option maxRecDepth 100000 in
theorem recv_string_some (b c cap : Nat) (buf : Array Value) (w : World) (hbox : IsBox w 61 b c cap buf) (v : Value) (tl : List Value) (hr : buf.toList = v :: tl) :
    Calls Try.prog 19 #[.pointer (some ⟨b, 0, none⟩)] w fun e w' => e = .returned (.tuple #[v, .bool true]) ∧ IsBox w' 61 b c cap tl.toArray ∧ But1 c w w' := by
  obtain ⟨s, r, hc⟩ := hbox.ch
  have hb := cellBox hbox
  obtain rfl : buf = (v :: tl).toArray := by rw [← hr]
  refine calls_of_loneTo fun cs => ?_
  have e : Frame.enter Try.prog 19 #[.pointer (some ⟨b, 0, none⟩)] .normal = (base 19).at ⟨#[.pointer (some ⟨b, 0, none⟩), undef, undef, undef, undef, undef, undef, undef, undef, undef, undef, undef, undef, undef, undef, undef], []⟩ [.code (Try.f19.body.getD .skip)] := by
    simp [Frame.enter, Frame.at, Try.func19, base, Try.f19]
  rw [e]
  refine LoneTo.goes (n := 60) ?_
  simp only [Try.f19, Option.getD_some]
  s_c stepG_seq
  s_reg
  s_op
  s_op
  s_c stepG_region_end
  s_c stepG_seq
  s_reg
  s_op
  s_op
  s_op
  s_op
  s_c stepG_region_end
  s_c stepG_seq
  s_reg
  s_stop
  refine LoneTo.step (step_lone_select_recv_buf (c := c) (cap := cap) (buf := (v :: tl).toArray) (s := s) (r := r) (tm := false) (closed := false) (z := .string ⟨#[]⟩) (stepG_comm (cases := #[rcase c (.string ⟨#[]⟩)]) (blocking := false) (shape := .select) (w' := w) rfl rfl (by decide) (by simp [go_sem, execOp, rcase, Act.eval])) hc (by simp)) ?_
  rw [Frame.finish_at]
  rw [show (v :: tl).toArray.extract 1 (v :: tl).toArray.size = tl.toArray by simp, show (v :: tl).toArray.getD 0 undef = v by simp]
  walk_nrm
  refine LoneTo.goes (n := 60) ?_
  s_op
  s_op
  s_c stepG_region_end
  s_c stepG_block
  s_cond true
  s_c stepG_seq
  s_reg
  s_op
  s_op
  s_c stepG_region_end
  s_c stepG_seq
  s_reg
  s_op
  s_op
  s_op
  s_c stepG_region_end
  s_c stepG_ret'
  s_stop
  refine LoneTo.done ⟨.returned (.tuple #[v, .bool true]), _, rfl, ⟨rfl, setBox hbox _ _, but1_setChan _ _ _ _ _ _⟩, rfl, rfl, rfl, rfl, _, Try.func19, by simp [results, Try.f19, Frame.at]⟩

set_option maxRecDepth 100000 in
theorem recv_string_none (b c cap : Nat) (w : World) (hbox : IsBox w 61 b c cap #[])  :
    Calls Try.prog 19 #[.pointer (some ⟨b, 0, none⟩)] w fun e w' => e = .returned (.tuple #[.string ⟨#[]⟩, .bool false]) ∧ w = w' := by
  obtain ⟨s, r, hc⟩ := hbox.ch
  have hb := cellBox hbox
  refine calls_of_loneTo fun cs => ?_
  have e : Frame.enter Try.prog 19 #[.pointer (some ⟨b, 0, none⟩)] .normal = (base 19).at ⟨#[.pointer (some ⟨b, 0, none⟩), undef, undef, undef, undef, undef, undef, undef, undef, undef, undef, undef, undef, undef, undef, undef], []⟩ [.code (Try.f19.body.getD .skip)] := by
    simp [Frame.enter, Frame.at, Try.func19, base, Try.f19]
  rw [e]
  refine LoneTo.goes (n := 60) ?_
  simp only [Try.f19, Option.getD_some]
  s_c stepG_seq
  s_reg
  s_op
  s_op
  s_c stepG_region_end
  s_c stepG_seq
  s_reg
  s_op
  s_op
  s_op
  s_op
  s_c stepG_region_end
  s_c stepG_seq
  s_reg
  s_stop
  refine LoneTo.step (step_lone_select_default (c := c) (cap := cap) (s := s) (r := r) (tm := false) (z := .string ⟨#[]⟩) (stepG_comm (cases := #[rcase c (.string ⟨#[]⟩)]) (blocking := false) (shape := .select) (w' := w) rfl rfl (by decide) (by simp [go_sem, execOp, rcase, Act.eval])) hc) ?_
  rw [Frame.finish_at]
  walk_nrm
  refine LoneTo.goes (n := 60) ?_
  s_op
  s_op
  s_c stepG_region_end
  s_c stepG_block
  s_cond false
  s_c stepG_seq
  s_reg
  s_op
  s_c stepG_region_end
  s_c stepG_seq
  s_reg
  s_op
  s_op
  s_op
  s_c stepG_region_end
  s_c stepG_ret'
  s_stop
  refine LoneTo.done ⟨.returned (.tuple #[.string ⟨#[]⟩, .bool false]), _, rfl, ⟨rfl, rfl⟩, rfl, rfl, rfl, rfl, _, Try.func19, by simp [results, Try.f19, Frame.at]⟩

theorem len_ep (b c cap : Nat) (buf : Array Value) (w : World) (hbox : IsBox w 48 b c cap buf) :
    Calls Try.prog 8 #[.pointer (some ⟨b, 0, none⟩)] w fun e w' => e = .returned (.int .i64 (buf.size : Int)) ∧ w = w' := by
  obtain ⟨s, r, hc⟩ := hbox.ch
  have hb := cellBox hbox
  have hl : (Builtin.len_ #[46] 3 #[.chan (some c)]).run Try.prog w = .ok (.int .i64 (buf.size : Int)) w := by simp [Builtin.len_, run_underlying Try.underlying46, run_getObj_chan Try.prog hc, goInt]
  go_enter Try.func8, Try.ntmps8
  go_wp2
  go_ret
  exact ⟨rfl, rfl⟩
theorem cap_ep (b c cap : Nat) (buf : Array Value) (w : World) (hbox : IsBox w 48 b c cap buf) :
    Calls Try.prog 9 #[.pointer (some ⟨b, 0, none⟩)] w fun e w' => e = .returned (.int .i64 (cap : Int)) ∧ w = w' := by
  obtain ⟨s, r, hc⟩ := hbox.ch
  have hb := cellBox hbox
  have hl : (Builtin.cap_ #[46] 3 #[.chan (some c)]).run Try.prog w = .ok (.int .i64 (cap : Int)) w := by simp [Builtin.cap_, run_underlying Try.underlying46, run_getObj_chan Try.prog hc, goInt]
  go_enter Try.func9, Try.ntmps9
  go_wp2
  go_ret
  exact ⟨rfl, rfl⟩
theorem info_ep : ∃ i, Try.prog.info? 27 = some i ∧ i.bytes = 16 := by
  have h : (Try.prog.info? 27).map (·.bytes) = some 16 := by kernel_rfl
  obtain ⟨i, hi, hb⟩ := Option.map_eq_some_iff.1 h
  exact ⟨i, hi, hb⟩
/-- The world behind New(n). -/
theorem new_ep (n : Int) (w : World) (h1 : 1 ≤ n) (h2 : n ≤ 4096) :
    Calls Try.prog 6 #[.int .i64 n] w fun e w' => e = .returned (.tuple #[.pointer (some ⟨w.heap.size + 1, 0, none⟩), .int .i64 0]) ∧ IsBox w' 48 (w.heap.size + 1) w.heap.size n.toNat #[] ∧ Below w.heap.size w w' ∧ w'.heap.size = w.heap.size + 2 := by
  obtain ⟨k, rfl⟩ := Int.eq_ofNat_of_zero_le (show 0 ≤ n by omega)
  obtain ⟨i, hi, hib⟩ := info_ep
  have hm : (Instr.makeChan 46 (.int .i64 (k : Int))).run Try.prog w = .ok (.chan (some w.heap.size)) (w.alloc (.chan k #[] false 0 0 false)) :=
    run_makeChan Try.underlying46 hi .i64 k (by omega) (by rw [hib]; omega)
  go_enter Try.func6, Try.ntmps6
  go_wp2
  go_ret2
  refine ⟨rfl, ⟨?_, 0, 0, ?_⟩, ?_, by simp⟩
  · have := heap_alloc_new (w.alloc (.chan k #[] false 0 0 false)) (.cells #[.chan (some w.heap.size)] 48)
    simpa only [World.size_alloc] using this
  · rw [Below.heap_alloc _ _ _ (by simp)]
    exact heap_alloc_new w _
  · exact ((Below.refl _ _).alloc (Nat.le_refl _) _).alloc (by simp) _
theorem new_ep_no (n : Int) (w : World) (h : n < 1 ∨ 4096 < n) :
    Calls Try.prog 6 #[.int .i64 n] w fun e w' => e = .returned (.tuple #[.pointer none, .int .i64 1]) ∧ w = w' := by
  rcases h with h | h
  · go_enter Try.func6, Try.ntmps6
    go_wp2
    go_ret2
    exact ⟨rfl, rfl⟩
  · have h' : ¬ n < 1 := by omega
    go_enter Try.func6, Try.ntmps6
    go_wp2
    go_ret2
    exact ⟨rfl, rfl⟩

theorem len_int (b c cap : Nat) (buf : Array Value) (w : World) (hbox : IsBox w 58 b c cap buf) :
    Calls Try.prog 14 #[.pointer (some ⟨b, 0, none⟩)] w fun e w' => e = .returned (.int .i64 (buf.size : Int)) ∧ w = w' := by
  obtain ⟨s, r, hc⟩ := hbox.ch
  have hb := cellBox hbox
  have hl : (Builtin.len_ #[56] 3 #[.chan (some c)]).run Try.prog w = .ok (.int .i64 (buf.size : Int)) w := by simp [Builtin.len_, run_underlying Try.underlying56, run_getObj_chan Try.prog hc, goInt]
  go_enter Try.func14, Try.ntmps14
  go_wp2
  go_ret
  exact ⟨rfl, rfl⟩
theorem cap_int (b c cap : Nat) (buf : Array Value) (w : World) (hbox : IsBox w 58 b c cap buf) :
    Calls Try.prog 15 #[.pointer (some ⟨b, 0, none⟩)] w fun e w' => e = .returned (.int .i64 (cap : Int)) ∧ w = w' := by
  obtain ⟨s, r, hc⟩ := hbox.ch
  have hb := cellBox hbox
  have hl : (Builtin.cap_ #[56] 3 #[.chan (some c)]).run Try.prog w = .ok (.int .i64 (cap : Int)) w := by simp [Builtin.cap_, run_underlying Try.underlying56, run_getObj_chan Try.prog hc, goInt]
  go_enter Try.func15, Try.ntmps15
  go_wp2
  go_ret
  exact ⟨rfl, rfl⟩
theorem info_int : ∃ i, Try.prog.info? 3 = some i ∧ i.bytes = 8 := by
  have h : (Try.prog.info? 3).map (·.bytes) = some 8 := by kernel_rfl
  obtain ⟨i, hi, hb⟩ := Option.map_eq_some_iff.1 h
  exact ⟨i, hi, hb⟩
/-- The world behind New(n). -/
theorem new_int (n : Int) (w : World) (h1 : 1 ≤ n) (h2 : n ≤ 4096) :
    Calls Try.prog 11 #[.int .i64 n] w fun e w' => e = .returned (.tuple #[.pointer (some ⟨w.heap.size + 1, 0, none⟩), .int .i64 0]) ∧ IsBox w' 58 (w.heap.size + 1) w.heap.size n.toNat #[] ∧ Below w.heap.size w w' ∧ w'.heap.size = w.heap.size + 2 := by
  obtain ⟨k, rfl⟩ := Int.eq_ofNat_of_zero_le (show 0 ≤ n by omega)
  obtain ⟨i, hi, hib⟩ := info_int
  have hm : (Instr.makeChan 56 (.int .i64 (k : Int))).run Try.prog w = .ok (.chan (some w.heap.size)) (w.alloc (.chan k #[] false 0 0 false)) :=
    run_makeChan Try.underlying56 hi .i64 k (by omega) (by rw [hib]; omega)
  go_enter Try.func11, Try.ntmps11
  go_wp2
  go_ret2
  refine ⟨rfl, ⟨?_, 0, 0, ?_⟩, ?_, by simp⟩
  · have := heap_alloc_new (w.alloc (.chan k #[] false 0 0 false)) (.cells #[.chan (some w.heap.size)] 58)
    simpa only [World.size_alloc] using this
  · rw [Below.heap_alloc _ _ _ (by simp)]
    exact heap_alloc_new w _
  · exact ((Below.refl _ _).alloc (Nat.le_refl _) _).alloc (by simp) _
theorem new_int_no (n : Int) (w : World) (h : n < 1 ∨ 4096 < n) :
    Calls Try.prog 11 #[.int .i64 n] w fun e w' => e = .returned (.tuple #[.pointer none, .int .i64 1]) ∧ w = w' := by
  rcases h with h | h
  · go_enter Try.func11, Try.ntmps11
    go_wp2
    go_ret2
    exact ⟨rfl, rfl⟩
  · have h' : ¬ n < 1 := by omega
    go_enter Try.func11, Try.ntmps11
    go_wp2
    go_ret2
    exact ⟨rfl, rfl⟩

theorem len_string (b c cap : Nat) (buf : Array Value) (w : World) (hbox : IsBox w 61 b c cap buf) :
    Calls Try.prog 20 #[.pointer (some ⟨b, 0, none⟩)] w fun e w' => e = .returned (.int .i64 (buf.size : Int)) ∧ w = w' := by
  obtain ⟨s, r, hc⟩ := hbox.ch
  have hb := cellBox hbox
  have hl : (Builtin.len_ #[59] 3 #[.chan (some c)]).run Try.prog w = .ok (.int .i64 (buf.size : Int)) w := by simp [Builtin.len_, run_underlying Try.underlying59, run_getObj_chan Try.prog hc, goInt]
  go_enter Try.func20, Try.ntmps20
  go_wp2
  go_ret
  exact ⟨rfl, rfl⟩
theorem cap_string (b c cap : Nat) (buf : Array Value) (w : World) (hbox : IsBox w 61 b c cap buf) :
    Calls Try.prog 21 #[.pointer (some ⟨b, 0, none⟩)] w fun e w' => e = .returned (.int .i64 (cap : Int)) ∧ w = w' := by
  obtain ⟨s, r, hc⟩ := hbox.ch
  have hb := cellBox hbox
  have hl : (Builtin.cap_ #[59] 3 #[.chan (some c)]).run Try.prog w = .ok (.int .i64 (cap : Int)) w := by simp [Builtin.cap_, run_underlying Try.underlying59, run_getObj_chan Try.prog hc, goInt]
  go_enter Try.func21, Try.ntmps21
  go_wp2
  go_ret
  exact ⟨rfl, rfl⟩
theorem info_string : ∃ i, Try.prog.info? 9 = some i ∧ i.bytes = 16 := by
  have h : (Try.prog.info? 9).map (·.bytes) = some 16 := by kernel_rfl
  obtain ⟨i, hi, hb⟩ := Option.map_eq_some_iff.1 h
  exact ⟨i, hi, hb⟩
/-- The world behind New(n). -/
theorem new_string (n : Int) (w : World) (h1 : 1 ≤ n) (h2 : n ≤ 4096) :
    Calls Try.prog 17 #[.int .i64 n] w fun e w' => e = .returned (.tuple #[.pointer (some ⟨w.heap.size + 1, 0, none⟩), .int .i64 0]) ∧ IsBox w' 61 (w.heap.size + 1) w.heap.size n.toNat #[] ∧ Below w.heap.size w w' ∧ w'.heap.size = w.heap.size + 2 := by
  obtain ⟨k, rfl⟩ := Int.eq_ofNat_of_zero_le (show 0 ≤ n by omega)
  obtain ⟨i, hi, hib⟩ := info_string
  have hm : (Instr.makeChan 59 (.int .i64 (k : Int))).run Try.prog w = .ok (.chan (some w.heap.size)) (w.alloc (.chan k #[] false 0 0 false)) :=
    run_makeChan Try.underlying59 hi .i64 k (by omega) (by rw [hib]; omega)
  go_enter Try.func17, Try.ntmps17
  go_wp2
  go_ret2
  refine ⟨rfl, ⟨?_, 0, 0, ?_⟩, ?_, by simp⟩
  · have := heap_alloc_new (w.alloc (.chan k #[] false 0 0 false)) (.cells #[.chan (some w.heap.size)] 61)
    simpa only [World.size_alloc] using this
  · rw [Below.heap_alloc _ _ _ (by simp)]
    exact heap_alloc_new w _
  · exact ((Below.refl _ _).alloc (Nat.le_refl _) _).alloc (by simp) _
theorem new_string_no (n : Int) (w : World) (h : n < 1 ∨ 4096 < n) :
    Calls Try.prog 17 #[.int .i64 n] w fun e w' => e = .returned (.tuple #[.pointer none, .int .i64 1]) ∧ w = w' := by
  rcases h with h | h
  · go_enter Try.func17, Try.ntmps17
    go_wp2
    go_ret2
    exact ⟨rfl, rfl⟩
  · have h' : ¬ n < 1 := by omega
    go_enter Try.func17, Try.ntmps17
    go_wp2
    go_ret2
    exact ⟨rfl, rfl⟩

end Go.Proofs.Ytjnoohnkcadjiaa

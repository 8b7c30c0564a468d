/-
  The statement 'DialerReportsExhaustionSaid' of the seat: the frame of the row round the walk of the law's Go function (YtiklhaajhdephaaDoorW11): for every input the call returns true and each argument reads as it did.
-/
import Derived.Test.YtiklhaajhdephaaDoorHF
import Derived.Test.YtiklhaajhdephaaDoorGG
import Derived.Test.YtiklhaajhdephaaDoorGA
import Derived.WalkKit
import Derived.ProofKit
import Derived.OpenShut
import Derived.ShutString
import Derived.ChangeOld
import Derived.Below
import Derived.Test.YtiklhaajhdephaaDoorTie
import Derived.Test.YtiklhaajhdephaaDoorCards
import Derived.LaidMore
import Derived.Lay
import Derived.SevenTiedAt
import Derived.Stop.Joined
import Derived.MakeChecks

/-
  The walk of DialerReportsExhaustion: true at every configuration, every list of reasons, every list of flags and either family.
-/
namespace Go.Proofs.YtiklhaajhdephaaDoor.dialerReportsExhaustion
open Go.RowKit Go.Deep
set_option linter.unusedVariables false
set_option linter.unusedSimpArgs false

theorem u64_of {n : Int} (h : (Lit.int .u64 n).wf = true) : 0 ≤ n ∧ n ≤ maxT := by
  have m1 : IntKind.u64.max = 18446744073709551615 := rfl
  have m2 : IntKind.u64.min = 0 := rfl
  simp [Lit.wf] at h
  unfold maxT
  omega
theorem i64_of {n : Int} (h : (Lit.int .i64 n).wf = true) : -9223372036854775808 ≤ n ∧ n ≤ 9223372036854775807 := by
  have m1 : IntKind.i64.max = 9223372036854775807 := rfl
  have m2 : IntKind.i64.min = -9223372036854775808 := rfl
  simp [Lit.wf] at h
  omega
theorem cfg_of {H : Type} {enc : TypeId × Value → H} {w : World} {base : Nat} {spare : Nat → Bool} {held : Bool} {cs : Array Value} (h : CellsOk enc Tryd.prog w base spare held [57, 57, 57, 3, 3] cs.toList) : ∃ c : Cfg, cs = c.cells.toArray ∧ c.Ok := by
  obtain ⟨hlen, hc⟩ := h
  obtain ⟨v0, e0, l0⟩ := hc 0 57 rfl
  obtain ⟨v1, e1, l1⟩ := hc 1 57 rfl
  obtain ⟨v2, e2, l2⟩ := hc 2 57 rfl
  obtain ⟨v3, e3, l3⟩ := hc 3 3 rfl
  obtain ⟨v4, e4, l4⟩ := hc 4 3 rfl
  obtain ⟨a, rfl, ha⟩ := l0.int Tryd.underlying57
  obtain ⟨b, rfl, hb⟩ := l1.int Tryd.underlying57
  obtain ⟨c, rfl, hcc⟩ := l2.int Tryd.underlying57
  obtain ⟨d, rfl, hd⟩ := l3.int Tryd.underlying3
  obtain ⟨e, rfl, he⟩ := l4.int Tryd.underlying3
  refine ⟨⟨a, b, c, d, e⟩, ?_, ?_⟩
  · obtain ⟨L⟩ := cs
    simp only at hlen e0 e1 e2 e3 e4
    match L, hlen with
    | [x0, x1, x2, x3, x4], _ => simp at e0 e1 e2 e3 e4; rw [e0, e1, e2, e3, e4]; rfl
  · exact ⟨u64_of ha, u64_of hb, u64_of hcc, i64_of hd, i64_of he⟩

def Ints (w : World) (a : Option Addr) (n : Nat) : Prop := ∀ i, i < n → ∃ b o x, a = some ⟨b, o, none⟩ ∧ w.cell? ⟨b, o + i, none⟩ = some (.int .i64 x)
def Flags (w : World) (a : Option Addr) (n : Nat) : Prop := ∀ i, i < n → ∃ b o x, a = some ⟨b, o, none⟩ ∧ w.cell? ⟨b, o + i, none⟩ = some (.bool x)
def YesAt (w : World) (a : Option Addr) (n i : Nat) : Prop := i < n ∧ ∃ b o, a = some ⟨b, o, none⟩ ∧ w.cell? ⟨b, o + i, none⟩ = some (.bool true)
def NoAt (w : World) (a : Option Addr) (n i : Nat) : Prop := n ≤ i ∨ (i < n ∧ ∃ b o, a = some ⟨b, o, none⟩ ∧ w.cell? ⟨b, o + i, none⟩ = some (.bool false))
theorem flag_at {w : World} {a : Option Addr} {n : Nat} (h : Flags w a n) (i : Nat) : YesAt w a n i ∨ NoAt w a n i := by
  by_cases hi : i < n
  · obtain ⟨b, o, x, h1, h2⟩ := h i hi
    cases x with
    | true => exact .inl ⟨hi, b, o, h1, h2⟩
    | false => exact .inr (.inr ⟨hi, b, o, h1, h2⟩)
  · exact .inr (.inl (by omega))
theorem built_row (i : Nat) : Tryd.prog.built 26 [(0, .int .u8 42), (1, .int .u8 0), (2, .int .u8 0), (3, .int .u8 (i : Int))] = some ([42, 0, 0, (i : Int), 0, 0, 0, 0, 0, 0, 0, 0, 0, 0, 0, 0].map (Value.int .u8)).toArray := by kernel_rfl
theorem built_adr (b : Bool) (i : Nat) : Tryd.prog.built 28 [(0, .bool b), (1, .agg ([42, 0, 0, (i : Int), 0, 0, 0, 0, 0, 0, 0, 0, 0, 0, 0, 0].map (Value.int .u8)).toArray)] = some (adr b [42, 0, 0, (i : Int), 0, 0, 0, 0, 0, 0, 0, 0, 0, 0, 0, 0]).toArray := by kernel_rfl
set_option maxRecDepth 100000 in
set_option maxHeartbeats 8000000 in
theorem walk0 (c : Cfg) (ok : c.Ok) (aw : Option Addr) (nw cw : Nat) (as_ : Option Addr) (ns cs : Nat) (v6 : Bool) (w : World) (hws : Ints w aw nw) (hnw : nw ≤ 9223372036854775807) (hsk : Flags w as_ ns) (hns : ns ≤ 9223372036854775807) :
    Calls Tryd.prog 11 #[.agg c.cells.toArray, .slice aw nw cw, .slice as_ ns cs, .bool v6] w fun e w' => e = .returned (.bool true) ∧ Touch [] w w' := by
  have HT := Lib.hid ((Touch.refl [] w).alloc (.cells c.cells.toArray 59))
  have hrow := range_new w c.cells 59
  have HBX := Lib.hid (heap_alloc_new w (.cells c.cells.toArray 59))
  have HGC := Lib.hid (gcfg_any c ok (w.alloc (.cells c.cells.toArray 59)))
  have HWS := Lib.hid hws
  have HSK := Lib.hid hsk
  have HSM := Lib.hid c.gen_small
  have HGV := Lib.hid c.gen_valid
  have HCL := Lib.hid c.len
  obtain ⟨n, hn⟩ : ∃ n, n = min nw 8 := ⟨_, rfl⟩
  have hnI : min (nw : Int) 8 = (n : Int) := by omega
  have hn8 : n ≤ 8 ∧ n ≤ nw := by omega
  clear ok hws hsk hn
  generalize c.gen = g at *
  go_enter Tryd.func11, Tryd.ntmps11
  go_wp2_with ((with_reducible refine at_load 59 ?_); refine wpList_load_mid rfl 59 _ rfl w.heap.size 0 rfl c.cells _ hrow Tryd.underlying59 rfl (by rw [sizeCf, HCL.out]) ?_)
  refine HGC.out.mono ?_
  rintro e w1 ⟨rfl, t1⟩
  have HB1 := Lib.hid (t1.at HBX.out (by simp))
  have HT1 := Lib.hid (HT.out.trans t1 (by simp))
  clear t1 hrow HBX HGC HT
  go_wp2_with ((with_reducible refine at_store 59 ?_); refine wpList_store_into rfl 59 _ _ rfl w.heap.size 59 _ g.cells rfl rfl HB1.out (by rfl) sizeCf g.one ?_)
  intro w2 h2 t2 z2
  have HT2 := Lib.hid (HT1.out.trans t2 (by intro y hy; right; simp at hy; omega))
  have hrr := range_block h2
  have HNW := Lib.hid (dnew_ok g w2 (.slice none 0 0) 0 [] (by simpa using Rd.nil w2 17 0) HGV.out rfl (.inr rfl) (by simp))
  clear h2 t2 z2 HB1 HT1
  go_wp2_with ((with_reducible refine at_load 59 ?_); refine wpList_load_mid rfl 59 _ rfl w.heap.size 0 rfl g.cells _ hrr Tryd.underlying59 rfl (by rw [sizeCf]; rfl) ?_)
  refine HNW.out.mono ?_
  rintro e w3 ⟨h, b, rfl, d3, t3⟩
  have HD3 := Lib.hid d3
  have HT3 := Lib.hid (HT2.out.trans t3 (by simp))
  clear d3 t3 HNW hrr
  go_wp2_with fail
  go_loopw [12, 13] (fun v12 v13 wr => ∃ i : Nat, i ≤ n ∧ v13 = .int .i64 i ∧ OwnA w3 wr v12 ((xL8 v6).take i) ∧ Touch [] w3 wr) (fun _ v13 _ => n - (intOf v13).toNat)
  case atStart => exact ⟨0, by omega, rfl, Own.nil _ _, Touch.refl _ _⟩
  case round =>
    obtain ⟨i, hin, rfl, hown, ht⟩ := hrel
    have HO := Lib.hid hown
    have HTR := Lib.hid ht
    clear hown ht
    by_cases hlt : i < n
    · have hwi : IntKind.i64.wrap ((i : Int) + 1) = (i : Int) + 1 := by rw [IntKind.wrap_i64] <;> omega
      have hw8 : IntKind.u8.wrap (i : Int) = (i : Int) := by show (i : Int) % 256 = i; omega
      have hlt2 : (i : Int) < (n : Int) := by omega
      have HST := Lib.hid (xL_step (b := v6) (show i < 8 by omega))
      obtain ⟨x, hx⟩ : ∃ x, x = xA v6 i := ⟨_, rfl⟩
      have HBR := Lib.hid (built_row i)
      have HBA := Lib.hid (show Tryd.prog.built 28 [(0, .bool v6), (1, .agg ([42, 0, 0, (i : Int), 0, 0, 0, 0, 0, 0, 0, 0, 0, 0, 0, 0].map (Value.int .u8)).toArray)] = some x.cells.toArray by rw [built_adr, xA_cells (show i < 8 by omega), hx])
      rw [← hx] at HST
      have hlen := xL_len v6 (show i ≤ 8 by omega)
      have HLL := Lib.hid (show (((xL8 v6).take i).length + 1) * 17 ≤ 140737488355328 by omega)
      clear hlen hx
      go_wp2_with (first
        | ((with_reducible refine at_build 26 ?_); refine wpList_built (by rfl) 26 _ (by rfl) _ _ (by rfl) HBR.out ?_)
        | ((with_reducible refine at_build 28 ?_); refine wpList_built (by rfl) 28 _ (by rfl) _ _ (by rfl) HBA.out ?_)
        | (refine wpList_build_ad rfl _ rfl x (by rfl) ?_)
        | (at_builtin; refine wpList_app_ad w3 wr (by rfl) _ _ (by rfl) _ ((xL8 v6).take i) (by rfl) HO.out HTR.out.size x (by rfl) HLL.out ?_))
      intro v5 w5 ho5 t5 hv5
      have HO5 := Lib.hid ho5
      have HT5 := Lib.hid (HTR.out.trans t5 (fun q hq => .inr (HO.out.new q (by simpa using hq))))
      clear ho5 t5 hv5
      go_wp2_with fail
      go_roundw
      case rel => exact ⟨i + 1, by omega, by go_num, by rw [HST.out]; exact HO5.out, HT5.out⟩
      case measure => simp [intOf]; omega
    · have hin' : i = n := by omega
      subst hin'
      obtain ⟨wN, rfl⟩ : ∃ wN : World, wN = wr := ⟨_, rfl⟩
      obtain ⟨bl, hrd, hbl⟩ := HO.out.rdn
      have HD4 := Lib.hid (HD3.out.touch0 HTR.out)
      have HT4 := Lib.hid (HT3.out.trans HTR.out (by simp))
      have HAN := Lib.hid (dansB v6 w2 wN h b _ HD4.out (by have := HT2.out.size; have := HD4.out.new; have := (Array.getElem?_eq_some_iff.1 HD4.out.cell).1; omega) (by simp [initS, addL]) (by simp [initS]) 0 (by decide) _ bl _ hrd (fun hne hm => by
        have h1 := HO.out.new bl (hbl hne)
        obtain ⟨j, hj⟩ := mem_dfoot.1 hm
        have h2 := (HD3.out.lt j _ hj).2
        omega) 0 rfl rfl (by cases v6 <;> rfl))
      have HX1 := Lib.hid (ex1 g v6 hn8.1)
      generalize (initS g []).ansB v6 0 ((xL8 v6).take i) 0 = s1 at *
      obtain ⟨aL, cL, hvL, _, _, _⟩ := HO.out.form
      rw [xL_len v6 hn8.1] at hvL
      subst hvL
      clear hrd hbl HD3 HT3
      go_wp2_with fail
      refine HAN.out.mono ?_
      rintro e w5 ⟨rfl, b5, d5, s5⟩
      have HD5 := Lib.hid d5
      have HT5 := Lib.hid (show Touch [] w w5 from HT4.out.trans s5.t (fun q hq => .inr (by obtain ⟨j, hj⟩ := mem_dfoot.1 hq; have h1 := (HD4.out.lt j q hj).1; have := HT2.out.size; omega)))
      have HXO := Lib.hid (dexh_any w2 w5 h b5 s1 d5 (by rw [HX1.out.A, xL_len v6 hn8.1]; omega) (by rw [HX1.out.rs]; split <;> simp) false HX1.out.over 0 rfl)
      clear d5 s5 HAN HD4 HT4
      go_wp2_with fail
      refine HXO.out.mono ?_
      rintro e w6 ⟨rfl, t6⟩
      have HD6 := Lib.hid (HD5.out.touch0 t6)
      have HT6 := Lib.hid (HT5.out.trans t6 (by simp))
      have HZ2 := Lib.hid (show w2.heap.size ≤ w6.heap.size from by have := HD6.out.new; have := (Array.getElem?_eq_some_iff.1 HD6.out.cell).1; omega)
      have HAN := Lib.hid (dansB (!v6) w2 w6 h b5 s1 HD6.out HZ2.out (by rw [HX1.out.A, xL_len v6 hn8.1]; omega) (by rw [HX1.out.rs]; split <;> simp) 0 (by decide) (.slice none 0 0) 0 [] (by simpa using Rd.nil w6 17 0) (fun hne => absurd rfl hne) 4 HX1.out.res HX1.out.canc HX1.out.o)
      have HE0 := Lib.hid (HX1.out.next hn8.1)
      generalize s1.ansB (!v6) 0 [] 4 = s2 at *
      clear t6 HXO HD5 HT5
      go_wp2_with fail
      refine HAN.out.mono ?_
      rintro e w7 ⟨rfl, b7, d7, s7⟩
      have HD7 := Lib.hid d7
      have HT7 := Lib.hid (show Touch [] w w7 from HT6.out.trans s7.t (fun q hq => .inr (by obtain ⟨j, hj⟩ := mem_dfoot.1 hq; have h1 := (HD6.out.lt j q hj).1; have := HT2.out.size; omega)))
      have HZ7 := Lib.hid (Nat.le_trans HZ2.out s7.t.size)
      clear d7 s7 HAN HD6 HT6 HX1
      go_wp2_with fail
      go_loopw [16, 17, 18] (fun v16 v17 v18 wr => ∃ (j ls : Nat) (now : Int) (b : DV) (s : DS), j ≤ i ∧ v18 = .int .i64 j ∧ v16 = .int .i64 ls ∧ v17 = .int .u64 now ∧ 0 ≤ now ∧ now ≤ 3 * j ∧ Dl w2 wr h b s ∧ Ex g i j ls s ∧ Touch [] w wr ∧ w2.heap.size ≤ wr.heap.size) (fun _ _ v18 _ => i - (intOf v18).toNat)
      case atStart => exact ⟨0, 4, 0, b7, s2, by omega, rfl, rfl, rfl, by omega, by omega, HD7.out, HE0.out, HT7.out, HZ7.out⟩
      case round =>
        obtain ⟨j, ls, now, b, s, hji, rfl, rfl, rfl, hn0, hn1, hdl, hex, ht, hz⟩ := hrel
        have HD := Lib.hid hdl
        have HE := Lib.hid hex
        have HTQ := Lib.hid ht
        have HZ := Lib.hid hz
        have hA := hex.len
        have hK := hex.kl
        have hR := hex.rl
        have HRS := Lib.hid hex.rs
        have HAL := Lib.hid (show s.A.length ≤ 1000000 by omega)
        have HKL := Lib.hid (show s.K.length ≤ 1000000 by omega)
        have HRL := Lib.hid (show s.rs.length ≤ 1000000 by omega)
        have HSF := Lib.hid (show w.heap.size ≤ w2.heap.size from HT2.out.size)
        clear hdl hex ht hz hA hK hR HD7 HT7 HE0
        by_cases hlt2 : j < i
        · have hlt3 : (j : Int) < (i : Int) := by omega
          have hwi : IntKind.i64.wrap ((j : Int) + 1) = (j : Int) + 1 := by rw [IntKind.wrap_i64] <;> omega
          have HXO := Lib.hid (dexh_any w2 wr h b s HD.out HAL.out HRS.out false (HE.out.on hlt2 hn8.1) 0 rfl)
          obtain ⟨bw, ow, xw, rfl, hcw⟩ := HWS.out j (by omega)
          obtain ⟨y, hy⟩ : ∃ y : Nat, (y : Int) = 1 + gmod xw 7 := ⟨(1 + gmod xw 7).toNat, by have := gmod_lo xw 7 (by decide); omega⟩
          have hy7 : 1 ≤ y ∧ y ≤ 7 := by have h1 := gmod_lo xw 7 (by decide); have h2 := gmod_hi xw 7 (by decide); omega
          have hwy : IntKind.i64.wrap (1 + gmod xw 7) = (y : Int) := by rw [IntKind.wrap_i64] <;> omega
          have hmn : min (ls : Int) (y : Int) = ((min ls y : Nat) : Int) := by omega
          have HCW := Lib.hid hcw
          obtain ⟨a, r, hcand⟩ := HE.out.cand hlt2 hn8.1 (show 1 ≤ g.mc by have := HSM.out; omega) (now := now) hn0
          have HCN := Lib.hid hcand
          have HREM := Lib.hid (cand_rem hcand).1
          have HNW := Lib.hid (show 0 ≤ now ∧ now ≤ maxT from ⟨hn0, by unfold maxT; omega⟩)
          have HY7 := Lib.hid hy7
          clear hcw hy hcand
          go_wp2_with fail
          refine HXO.out.mono ?_
          rintro e w8 ⟨rfl, t8⟩
          have HD8 := Lib.hid (HD.out.touch0 t8)
          have HT8 := Lib.hid (HTQ.out.trans t8 (by simp))
          have HZ8 := Lib.hid (Nat.le_trans HZ.out t8.size)
          have hcw8 := HT8.out.cell HCW.out (by simp)
          clear t8 HXO HD HTQ HZ
          go_wp2_with fail
          refine (mod_any xw 7 _ (by decide) (by decide)).mono ?_
          rintro e _ ⟨rfl, rfl⟩
          rcases flag_at HSK.out j with hyes | hno
          · obtain ⟨hjs, bs, os, rfl, hcs⟩ := hyes
            have hcs8 := HT8.out.cell hcs (by simp)
            have hjs2 : decide (j < ns) = true := by simpa using hjs
            have HSKP := Lib.hid (dskip_yes w2 w8 h b s HD8.out HZ8.out HAL.out HKL.out HRL.out now HNW.out y a r HCN.out)
            have HE9 := Lib.hid (HE.out.skip HREM.out HY7.out)
            clear hcs
            go_wp2_with fail
            refine HSKP.out.mono ?_
            rintro e w9 ⟨rfl, b9, d9, s9⟩
            have HD9 := Lib.hid d9
            have HT9 := Lib.hid (show Touch [] w w9 from HT8.out.trans s9.t (fun q hq => .inr (by obtain ⟨k, hk⟩ := mem_dfoot.1 hq; have h1 := (HD8.out.lt k q hk).1; have := HSF.out; omega)))
            have HZ9 := Lib.hid (Nat.le_trans HZ8.out s9.t.size)
            clear d9 s9 HSKP
            go_wp2_with fail
            go_roundw
            case rel => exact ⟨j + 1, min ls y, now, b9, _, by omega, by go_num, rfl, rfl, by omega, by omega, HD9.out, HE9.out, HT9.out, HZ9.out⟩
            case measure => simp [intOf]; omega
          · rcases hno with hge | ⟨hjs, bs, os, rfl, hcs⟩
            · have hjs2 : decide (j < ns) = false := by simp; omega
              clear hge
              have HSTA := Lib.hid (dstart_yes w2 w8 h b s HD8.out HZ8.out HAL.out HKL.out (by rw [HE.out.act]; simp) (by rw [HE.out.c]; exact HGV.out) now 0 HNW.out (by decide) a r HCN.out)
              have HBU := Lib.hid (Ex.busy s now 0 a)
              have HHA := Lib.hid (Ex.has s now 0 a)
              have HE9 := Lib.hid (HE.out.failed HREM.out HY7.out now 0)
              have HS0 := Lib.hid (show (s.startS now 0 a).rs.length ≤ 1000000 from HRL.out)
              have HS1 := Lib.hid (show (s.startS now 0 a).A.length ≤ 1000000 from HAL.out)
              have HS2 := Lib.hid (show ∀ x ∈ (s.startS now 0 a).rs, 1 ≤ x ∧ x ≤ 7 from HRS.out)
              obtain ⟨ss, hss⟩ : ∃ ss, ss = s.startS now 0 a := ⟨_, rfl⟩
              rw [← hss] at HSTA HBU HHA HE9 HS0 HS1 HS2
              have hsl := HE.out.st
              obtain ⟨tr, htr⟩ : ∃ tr, tr = s.S.length + 1 := ⟨_, rfl⟩
              rw [← htr] at HSTA HHA HE9
              have HTR9 := Lib.hid (show tr ≤ 1000000 by omega)
              clear hss hsl htr
              go_wp2_with fail
              refine HSTA.out.mono ?_
              rintro e w9 ⟨rfl, b9, d9, s9⟩
              have HD9 := Lib.hid d9
              have HT9 := Lib.hid (show Touch [] w w9 from HT8.out.trans s9.t (fun q hq => .inr (by obtain ⟨k, hk⟩ := mem_dfoot.1 hq; have h1 := (HD8.out.lt k q hk).1; have := HSF.out; omega)))
              have HZ9 := Lib.hid (Nat.le_trans HZ8.out s9.t.size)
              have HXO := Lib.hid (dexh_any w2 w9 h b9 ss d9 HS1.out HS2.out false HBU.out 0 rfl)
              clear d9 s9 HSTA HD8 HT8 HZ8
              go_wp2_with fail
              refine HXO.out.mono ?_
              rintro e wa ⟨rfl, ta⟩
              have HDa := Lib.hid (HD9.out.touch0 ta)
              have HTa := Lib.hid (HT9.out.trans ta (by simp))
              have HZa := Lib.hid (Nat.le_trans HZ9.out ta.size)
              have HFA := Lib.hid (dfail_yes w2 wa h b9 ss HDa.out HZa.out HS0.out (tr : Int) (y : Int) (okZ_nat HTR9.out) HHA.out)
              clear ta HXO HD9 HT9 HZ9
              go_wp2_with fail
              refine HFA.out.mono ?_
              rintro e wb ⟨rfl, bb, db, sb⟩
              have HDb := Lib.hid db
              have HTb := Lib.hid (show Touch [] w wb from HTa.out.trans sb.t (fun q hq => .inr (by obtain ⟨k, hk⟩ := mem_dfoot.1 hq; have h1 := (HDa.out.lt k q hk).1; have := HSF.out; omega)))
              have HZb := Lib.hid (Nat.le_trans HZa.out sb.t.size)
              have hw3 := wrap_u64 (n := now + 3) (by omega) (by unfold maxT; omega)
              clear db sb HFA
              go_wp2_with fail
              go_roundw
              case rel => exact ⟨j + 1, min ls y, now + 3, bb, _, by omega, by go_num, rfl, rfl, by omega, by omega, HDb.out, HE9.out, HTb.out, HZb.out⟩
              case measure => simp [intOf]; omega
            · have hcs8 := HT8.out.cell hcs (by simp)
              have hjs2 : decide (j < ns) = true := by simpa using hjs
              clear hcs
              have HSTA := Lib.hid (dstart_yes w2 w8 h b s HD8.out HZ8.out HAL.out HKL.out (by rw [HE.out.act]; simp) (by rw [HE.out.c]; exact HGV.out) now 0 HNW.out (by decide) a r HCN.out)
              have HBU := Lib.hid (Ex.busy s now 0 a)
              have HHA := Lib.hid (Ex.has s now 0 a)
              have HE9 := Lib.hid (HE.out.failed HREM.out HY7.out now 0)
              have HS0 := Lib.hid (show (s.startS now 0 a).rs.length ≤ 1000000 from HRL.out)
              have HS1 := Lib.hid (show (s.startS now 0 a).A.length ≤ 1000000 from HAL.out)
              have HS2 := Lib.hid (show ∀ x ∈ (s.startS now 0 a).rs, 1 ≤ x ∧ x ≤ 7 from HRS.out)
              obtain ⟨ss, hss⟩ : ∃ ss, ss = s.startS now 0 a := ⟨_, rfl⟩
              rw [← hss] at HSTA HBU HHA HE9 HS0 HS1 HS2
              have hsl := HE.out.st
              obtain ⟨tr, htr⟩ : ∃ tr, tr = s.S.length + 1 := ⟨_, rfl⟩
              rw [← htr] at HSTA HHA HE9
              have HTR9 := Lib.hid (show tr ≤ 1000000 by omega)
              clear hss hsl htr
              go_wp2_with fail
              refine HSTA.out.mono ?_
              rintro e w9 ⟨rfl, b9, d9, s9⟩
              have HD9 := Lib.hid d9
              have HT9 := Lib.hid (show Touch [] w w9 from HT8.out.trans s9.t (fun q hq => .inr (by obtain ⟨k, hk⟩ := mem_dfoot.1 hq; have h1 := (HD8.out.lt k q hk).1; have := HSF.out; omega)))
              have HZ9 := Lib.hid (Nat.le_trans HZ8.out s9.t.size)
              have HXO := Lib.hid (dexh_any w2 w9 h b9 ss d9 HS1.out HS2.out false HBU.out 0 rfl)
              clear d9 s9 HSTA HD8 HT8 HZ8
              go_wp2_with fail
              refine HXO.out.mono ?_
              rintro e wa ⟨rfl, ta⟩
              have HDa := Lib.hid (HD9.out.touch0 ta)
              have HTa := Lib.hid (HT9.out.trans ta (by simp))
              have HZa := Lib.hid (Nat.le_trans HZ9.out ta.size)
              have HFA := Lib.hid (dfail_yes w2 wa h b9 ss HDa.out HZa.out HS0.out (tr : Int) (y : Int) (okZ_nat HTR9.out) HHA.out)
              clear ta HXO HD9 HT9 HZ9
              go_wp2_with fail
              refine HFA.out.mono ?_
              rintro e wb ⟨rfl, bb, db, sb⟩
              have HDb := Lib.hid db
              have HTb := Lib.hid (show Touch [] w wb from HTa.out.trans sb.t (fun q hq => .inr (by obtain ⟨k, hk⟩ := mem_dfoot.1 hq; have h1 := (HDa.out.lt k q hk).1; have := HSF.out; omega)))
              have HZb := Lib.hid (Nat.le_trans HZa.out sb.t.size)
              have hw3 := wrap_u64 (n := now + 3) (by omega) (by unfold maxT; omega)
              clear db sb HFA
              go_wp2_with fail
              go_roundw
              case rel => exact ⟨j + 1, min ls y, now + 3, bb, _, by omega, by go_num, rfl, rfl, by omega, by omega, HDb.out, HE9.out, HTb.out, HZb.out⟩
              case measure => simp [intOf]; omega
        · have hji' : j = i := by omega
          subst hji'
          have HXO := Lib.hid (dexh_any w2 wr h b s HD.out HAL.out HRS.out true HE.out.over ls (by rw [if_pos rfl]; exact HE.out.pr))
          have hll : ((ls : Int) == (ls : Int)) = true := by simp
          go_wp2_with fail
          refine HXO.out.mono ?_
          rintro e w8 ⟨rfl, t8⟩
          have HT8 := Lib.hid (HTQ.out.trans t8 (by simp))
          clear t8
          go_wp2_with fail
          refine (awake29_ok _).mono ?_
          rintro e w9 ⟨rfl, t9⟩
          have HT9 := Lib.hid (HT8.out.trans t9 (by simp))
          clear t9
          go_wp2_with fail
          go_ret
          exact ⟨rfl, HT9.out⟩
theorem walk {H : Type} {enc : TypeId × Value → H} {w : World} (cs : Array Value) (hs : CellsOk enc Tryd.prog w 0 (fun _ => true) true [57, 57, 57, 3, 3] cs.toList) (v : Value) (hv : IsSlice enc Tryd.prog w 0 (fun _ => true) true [3] v) (u : Value) (hu : IsSlice enc Tryd.prog w 0 (fun _ => true) true [4] u) (f : Bool) :
    Calls Tryd.prog 11 #[.agg cs, v, u, .bool f] w fun e w' => e = .returned (.bool true) ∧ Below w.heap.size w w' := by
  obtain ⟨c, rfl, hok⟩ := cfg_of hs
  obtain ⟨a, len, cap, rfl, hl, hm, hc⟩ := hv.at (by simp)
  obtain ⟨a2, len2, cap2, rfl, hl2, hm2, hc2⟩ := hu.at (by simp)
  unfold maxLen at hm hm2
  refine (walk0 c hok a len cap a2 len2 cap2 f w ?_ (by omega) ?_ (by omega)).mono fun e w' ⟨h1, h2⟩ => ⟨h1, h2.below (by simp) (Nat.le_refl _)⟩
  · intro i hi
    rcases hc with h0 | ⟨b, off, rfl, hc⟩
    · omega
    · obtain ⟨u, hu, l⟩ := hc i 0 3 hi rfl
      obtain ⟨x, rfl, hx⟩ := l.int Tryd.underlying3
      exact ⟨b, off, x, rfl, by simpa using hu⟩
  · intro i hi
    rcases hc2 with h0 | ⟨b, off, rfl, hc⟩
    · omega
    · obtain ⟨u, hu, l⟩ := hc i 0 4 hi rfl
      obtain ⟨x, rfl⟩ := l.bool Tryd.underlying4
      exact ⟨b, off, x, rfl, by simpa using hu⟩
end Go.Proofs.YtiklhaajhdephaaDoor.dialerReportsExhaustion

/-
  The statement 'DialerReportsExhaustionSaid' of the seat: the frame of the row round the walk of the law's Go function (YtiklhaajhdephaaDoorW11): for every input the call returns true and each argument reads as it did.
-/
namespace Go.Proofs.YtiklhaajhdephaaDoor.dialerReportsExhaustion
open Go.ChangeShapes Go.WideShapes Go.Deep Go.ChangeAt Go.RowKit
open Go.ChangeMaps (open_string shut_string)
set_option linter.unusedVariables false

theorem own : ownKnob Tryd.prog.godebug = none := by kernel_rfl
theorem laidOut : laidOutB Tryd.prog = true := by kernel_rfl

set_option maxRecDepth 100000 in
theorem lifted (os : Os) (started : os.Started) (H : Type) (enc : TypeId × Value → H) :
    ReturnsInHanded {} Tryd.checked os 11 .any (fun w args => (Rows.dialerReportsExhaustionSpec.pre enc Tryd.prog Tryd.f11 Rows.dialerReportsExhaustionRow.domain false w args ∧ laidMetH Tryd.prog Rows.dialerReportsExhaustionRow.laid w) ∧ sizedMet enc Tryd.prog Tryd.f11 (OpenSpec.ofChange Rows.dialerReportsExhaustionSpec) false w args)
      (Rows.dialerReportsExhaustionSpec.post enc Tryd.prog Tryd.f11 false true false false) := by
  refine returnsInHanded_of_change_and (C := Tryd.checked) (X := fun w _ => laidMetH Tryd.prog Rows.dialerReportsExhaustionRow.laid w) (fun _ _ _ hh h => h.of_heap hh) own started (by kernel_rfl) Tryd.func11
    (ChangeSpec.witness_shaped (enc := enc) (C := Tryd.checked) (os := os) (X := fun w _ => laidMetH Tryd.prog Rows.dialerReportsExhaustionRow.laid w) false (World.laidAll Tryd.prog os Rows.dialerReportsExhaustionRow.laid) #[.agg #[.int .u64 0, .int .u64 0, .int .u64 0, .int .i64 0, .int .i64 0], .slice none 0 0, .slice none 0 0, .bool false] 8 (World.laidAll_os _ _ _)
      (World.shaped_of_ZipB (by kernel_rfl) (by kernel_rfl)) (by kernel_rfl) (by kernel_rfl) (by kernel_rfl)
      (by rw [MakeChecks.laidMetH_plain _ _ _ (by kernel_rfl)]; exact laidMet_laidAll _ (by kernel_rfl) (by kernel_rfl))) ?_
  intro W base args ds gs before hval0 hW hcnd hsz0 hL _
  have hval : ∀ (j : Nat) t v, Tryd.f11.params[j]? = some t → args[j]? = some v → Value.okWide Tryd.prog W .any base t v := hval0
  have hW' := hW
  obtain ⟨p, q, hA0, hV, rfl, hfz, hnd⟩ := hW
  have hA : DataW.TrodAll enc Tryd.prog W 0 (fun _ => true) true Tryd.f11.params.toList args.toList ds p := hA0
  rw [Tryd.params11] at hA hval
  obtain ⟨v0, vs0, d0, ds0, p0, q0, hargs, rfl, rfl, h0, r0⟩ := trodAll_cons hA
  obtain ⟨v1, vs1, d1, ds1, p1, q1, rfl, rfl, rfl, h1, r1⟩ := trodAll_cons r0
  obtain ⟨v2, vs2, d2, ds2, p2, q2, rfl, rfl, rfl, h2, r2⟩ := trodAll_cons r1
  obtain ⟨v3, vs3, d3, ds3, p3, q3, rfl, rfl, rfl, h3, r3⟩ := trodAll_cons r2
  obtain ⟨rfl, rfl, rfl⟩ := trodAll_nil r3
  obtain rfl : args = #[v0, v1, v2, v3] := by cases args; simp_all
  obtain ⟨rfl, rfl⟩ := trodVars_none hV
  have k0 := h0
  have lt0 : ∀ x ∈ p0, x.block < W.heap.size := by obtain ⟨m, hm⟩ := k0; exact DataW.trod_lt m _ _ _ hm
  have k1 := h1
  have lt1 : ∀ x ∈ p1, x.block < W.heap.size := by obtain ⟨m, hm⟩ := k1; exact DataW.trod_lt m _ _ _ hm
  have k2 := h2
  have lt2 : ∀ x ∈ p2, x.block < W.heap.size := by obtain ⟨m, hm⟩ := k2; exact DataW.trod_lt m _ _ _ hm
  have k3 := h3
  have lt3 : ∀ x ∈ p3, x.block < W.heap.size := by obtain ⟨m, hm⟩ := k3; exact DataW.trod_lt m _ _ _ hm
  obtain ⟨c0, rfl⟩ := okWide_struct Tryd.underlying59 (hval 0 59 v0 rfl rfl)
  have s0 : CellsOk enc Tryd.prog W 0 (fun _ => true) true [57, 57, 57, 3, 3] c0.toList := by
    obtain ⟨fuel, hf⟩ := h0
    exact agg_ok (d := 8) (by kernel_rfl) (by simpa [Value.cells] using hf)
  obtain ⟨b1, len1, cap1, hv1⟩ := okWide_slice Tryd.underlying74 (hval 1 74 v1 rfl rfl)
  have s1 : IsSlice enc Tryd.prog W 0 (fun _ => true) true [3] v1 := by
    obtain ⟨fuel, hf⟩ := h1
    rw [hv1] at hf ⊢
    exact slice_ok (d := 8) Tryd.underlying74 (by kernel_rfl) (by kernel_rfl) (by simpa [Value.cells] using hf)
  obtain ⟨b2, len2, cap2, hv2⟩ := okWide_slice Tryd.underlying33 (hval 2 33 v2 rfl rfl)
  have s2 : IsSlice enc Tryd.prog W 0 (fun _ => true) true [4] v2 := by
    obtain ⟨fuel, hf⟩ := h2
    rw [hv2] at hf ⊢
    exact slice_ok (d := 8) Tryd.underlying33 (by kernel_rfl) (by kernel_rfl) (by simpa [Value.cells] using hf)
  obtain ⟨a3, rfl, e3, ee3⟩ := open_bool Tryd.underlying4 (hval 3 4 v3 rfl rfl) h3
  clear hA0 hval0
  refine (walk (H := H) (enc := enc) (w := W) c0 s0 v1 s1 v2 s2 a3).mono fun e W' ⟨he, bel⟩ => ?_
  subst he
  exact ⟨_, rfl, _, _, _, [], _, [], hW', trodAll_mk1 (shut_bool Tryd.underlying4 _), (trodAll_cons_mk (Below.trod laidOut (by kernel_rfl) (of_decide_eq_true (by kernel_rfl)) k0 bel lt0) (trodAll_cons_mk (Below.trod laidOut (by kernel_rfl) (of_decide_eq_true (by kernel_rfl)) k1 bel lt1) (trodAll_cons_mk (Below.trod laidOut (by kernel_rfl) (of_decide_eq_true (by kernel_rfl)) k2 bel lt2) (trodAll_cons_mk (Below.trod laidOut (by kernel_rfl) (of_decide_eq_true (by kernel_rfl)) k3 bel lt3) trodAll_mk0)))), rfl, bel.frame _, fun h => by cases h⟩

theorem over : Rows.dialerReportsExhaustionRow.holds Tryd.pinned (OpenSpec.ofChange Rows.dialerReportsExhaustionSpec) :=
  OpenClaim.holds_of_wide 11 Tryd.f11 rfl rfl rfl rfl rfl rfl rfl ⟨rfl, rfl, rfl, rfl, rfl⟩ rfl rfl rfl rfl rfl (by kernel_rfl) Tryd.func11 (by kernel_rfl)
    (of_decide_eq_true (by kernel_rfl)) (by unfold Func.isWrapper; first | (rw [if_pos (by decide +kernel)]; kernel_rfl) | (rw [if_neg (by decide +kernel)]; exact ⟨rfl, rfl⟩))
    (fun os started H enc _ => lifted os started H enc)

theorem proved : Rows.DialerReportsExhaustionCardSaid :=
  Claim7.holds_tied_plain_at .later [] [.data, .pinned] true (true, "5befad24a3e9b3d9c688acd4ea44020d752db1b22d3d70f9edc34305006425d2") false over (fun _ h => by cases h) (by kernel_rfl) (fun _ h => by cases h) dialerReportsExhaustion_row_tie rfl ⟨rfl, rfl⟩ (by kernel_rfl) rfl
    (fun f fn hf hfn => by
      obtain rfl : f = 11 := Option.some.inj ((show Tryd.prog.funcNamed "ginnel/ginnellaw29.DialerReportsExhaustion" = some 11 by kernel_rfl).symm.trans hf) |>.symm
      obtain rfl : fn = Tryd.f11 := (Option.some.inj (Tryd.func11.symm.trans hfn)).symm
      exact ⟨by kernel_rfl, fun j t ht => by
        rw [Tryd.params11] at ht
        have hm : t ∈ [59, 74, 33, 4] := by simpa using Array.mem_of_getElem? ht
        have hall : ([59, 74, 33, 4].all fun u => !Tryd.prog.wantsStandIn u) = true := by kernel_rfl
        exact (show Tryd.prog.wantsStandIn t = false by simpa using List.all_eq_true.1 hall t hm)⟩)
    (by kernel_rfl)
#print axioms proved
end Go.Proofs.YtiklhaajhdephaaDoor.dialerReportsExhaustion

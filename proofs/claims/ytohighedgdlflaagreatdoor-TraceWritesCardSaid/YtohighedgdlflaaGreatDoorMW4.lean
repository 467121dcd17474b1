/- Texts of a proof that TraceWrites holds, for every row of observations, merged in order. -/
import Derived.Test.YtohighedgdlflaaGreatDoorMW3
import Derived.Deep.QuietTactic
import Derived.BigQuiet
/- The law TraceWrites answers true where all may be. -/
namespace Go.Proofs.YtohighedgdlflaaGreatDoor
open Go.Shelf Go.RowKit Go.Sort Go.Lib Go.Proofs.YtohighedgdlflaaGreatDoorW.PrintWords Go.Proofs.YtohighedgdlflaaGreatDoor.PR
set_option linter.unusedVariables false
set_option linter.unusedSimpArgs false
set_option maxRecDepth 100000 in
set_option maxHeartbeats 20000000 in
theorem writes_true (l : List S35) (A : Option Addr) (c : Nat) (m : Int) (w : World) (hW : WTab w) (hT : PTab w) (hm : w.cell? ⟨2, 0, none⟩ = some (.int .i64 m)) (hR : Kd.C k35 w A l.length l) (hc : l.length ≤ c) (hcm : c ≤ 9223372036854775807) (hF : ∀ o ∈ l, FitsT o) (hall : (l.take 400).all mayB = true) :
    Calls Tryz.prog 5 #[.slice A l.length c] w fun e w' => e = .returned (.bool true) ∧ Below w.heap.size w w' := by
  have HW := Lib.hid hW
  have HT := Lib.hid hT
  have HM := Lib.hid hm
  have HR := Lib.hid hR
  have HF : Hid (∀ o ∈ l.take 400, FitsT o) := fun o ho => hF o (List.mem_of_mem_take ho)
  clear hT hm hR hF hW
  go_enter Tryz.func5, Tryz.ntmps5
  go_wp2_with fail
  refine (known_ok m w HT.out HM.out).mono ?_
  rintro e w1 ⟨rfl, hb1⟩
  have HB1 := Lib.hid hb1
  clear hb1
  go_wp2_with fail
  refine (bound_ok A l.length c w1 hc hcm).mono ?_
  rintro e w1' ⟨rfl, rfl⟩
  have hC1 := Kd.C_take (Kd.C_below HR.out HB1.out) (m := min 400 l.length) (by omega)
  have htk : l.take (min 400 l.length) = l.take 400 := by
    rw [← List.take_take]; simp
  rw [htk] at hC1
  obtain ⟨l1, hl1⟩ : ∃ l1, l1 = l.take 400 := ⟨_, rfl⟩
  rw [← hl1] at hC1 HF
  have hlen : min 400 l.length = l1.length := by rw [hl1, List.length_take]
  have h400 : l1.length ≤ 400 := by omega
  have hc1 : l1.length ≤ c := by omega
  rw [hlen]
  have HC1 := Lib.hid hC1
  have HAll : Hid (l1.all mayB = true) := by
    show l1.all mayB = true
    rw [hl1]; exact hall
  clear hC1 htk hl1 hlen HR hall
  go_wp2_with fail
  refine (twin_ok A c l1 _ HC1.out hc1 (by omega)).mono ?_
  rintro e w2 ⟨v2, rfl, hr2, hb2⟩
  have HB2 := Lib.hid (HB1.out.trans (hb2.mono HB1.out.size))
  obtain ⟨A2, c2, rfl, hc2, hC2⟩ := Kd.R_reads hr2
  have HC2 := Lib.hid hC2
  clear hr2 hb2 hC2 HC1 hc1
  go_wp2_with fail
  refine (lent_ok A2 c2 l1 _ HC2.out hc2 (by omega)).mono ?_
  rintro e w3 ⟨v3, rfl, hr3, hb3⟩
  have hL := lentL_len l1
  obtain ⟨g, c3, rfl, hg, hc3, hO⟩ := orow_of_R hr3 (by omega)
  have HB3 := Lib.hid hb3
  have HO := Lib.hid hO
  clear hr3 hb3 hO
  have hgc : l1.length ≤ c3 := by omega
  have hg0 : w.heap.size ≤ g := Nat.le_trans HB2.out.size hg
  have HBw3 : Hid (Below w.heap.size w w3) := HB2.out.trans (HB3.out.mono HB2.out.size)
  have hg3 : g < w3.heap.size := HO.out.lt
  rw [hL]
  go_wp2_with fail
  have HFF : Hid (∀ o ∈ l1, Fits o) := fun o ho => (HF.out o ho).1
  refine (enc_call w.heap.size l1 (by omega) (some ⟨g, 0, none⟩) c3 w3 HBw3.out.size (HW.out.below HBw3.out) ((HO.out.head_).C (by omega)) HFF.out).mono ?_
  rintro e w4 ⟨A5, c5, rfl, hc5, hR5, hb4⟩
  obtain ⟨X1, hX1⟩ : ∃ X1, X1 = encX l1 := ⟨_, rfl⟩
  obtain ⟨b1, hb1⟩ : ∃ b1, b1 = l1.all mayB := ⟨_, rfl⟩
  have HXB : Hid (Crc.Bytes X1) := by rw [hX1]; exact encX_bytes l1
  have HXL : Hid (X1.length ≤ 8812) := by
    show X1.length ≤ 8812
    rw [hX1]; have := encX_len l1; omega
  rw [← hX1] at hc5 hR5 ⊢
  rw [← hb1]
  have HX1 := Lib.hid hX1
  have Hb1 := Lib.hid hb1
  have HR5 := Lib.hid hR5
  have hs4 := hb4.size
  have HO4 := Lib.hid (HO.out.below hb4)
  have HC4 := Lib.hid (Kd.C_below HC2.out (HB3.out.trans (hb4.mono HB3.out.size)))
  have HB4 := Lib.hid (HBw3.out.trans (hb4.mono HBw3.out.size))
  clear hb4 HO hR5 hX1 hb1 HBw3 HB3
  obtain ⟨E1, hE1⟩ : ∃ E1 : Int, E1 = (if b1 = true then 0 else 220) := ⟨_, rfl⟩
  rw [← hE1]
  have HE1 := Lib.hid hE1
  clear hE1
  go_wp2_with fail
  rw [← hL]
  refine (kept_ok (some ⟨g, 0, none⟩) A2 c3 c2 l1 w4 (HO4.out.C (by omega)) hc3 HC4.out hc2 (by omega)).mono ?_
  rintro e w5 ⟨rfl, hb5⟩
  have HO5 := Lib.hid (HO4.out.below hb5)
  have HC5 := Lib.hid (Kd.C_below HC4.out hb5)
  have HB5 := Lib.hid (HB4.out.trans (hb5.mono HB4.out.size))
  have HR5' := Lib.hid (Kd.R_below HR5.out hb5)
  have hs5 := hb5.size
  clear hb5 HO4 HC4 HB4 HR5
  go_wp2_with fail
  refine (twin_ok A2 c2 l1 _ HC5.out hc2 (by omega)).mono ?_
  rintro e w6 ⟨v6, rfl, hr6, hb6⟩
  obtain ⟨A6, c6, rfl, hc6, hC6⟩ := Kd.R_reads hr6
  have HO6 := Lib.hid (HO5.out.below hb6)
  have HB6 := Lib.hid (HB5.out.trans (hb6.mono HB5.out.size))
  have HR6 := Lib.hid (Kd.R_below HR5'.out hb6)
  have HD6 := Lib.hid hC6
  have hs6 := hb6.size
  clear hr6 hb6 hC6 HO5 HC5 HB5 HR5'
  go_wp2_with fail
  refine (refEnc_call l1 A6 c6 w6 HD6.out hc6 HF.out (by omega)).mono ?_
  rintro e w7 ⟨A8, c8, rfl, hc8, hC8, hb7⟩
  rw [← HX1.out] at hc8 hC8 ⊢
  rw [← Hb1.out]
  have HO7 := Lib.hid (HO6.out.below hb7)
  have HB7 := Lib.hid (HB6.out.trans (hb7.mono HB6.out.size))
  have HR7 := Lib.hid (Kd.R_below HR6.out hb7)
  have HC8 := Lib.hid hC8
  have hs7 := hb7.size
  clear hb7 HO6 HB6 HD6 HR6 hC8
  obtain ⟨S1, hS1⟩ : ∃ S1, S1 = strOf X1 := ⟨_, rfl⟩
  have hk5 := str_conv (c := c5) (Kd.R_reads' HR7.out).2.2 HXB.out
  have hk8 := str_conv (c := c8) HC8.out HXB.out
  rw [← hS1] at hk5 hk8
  have HS1 := Lib.hid hS1
  clear hS1
  have hEb : E1 = if b1 = true then 0 else 220 := HE1.out
  clear HE1
  obtain rfl : b1 = true := Hb1.out.trans HAll.out
  all_goals
    first | obtain rfl : E1 = 220 := hEb | obtain rfl : E1 = 0 := hEb
    go_wp2_with fail
    clear hk5 hk8
    have HBW7 := HW.out.below HB7.out
    refine (say_enc w.heap.size 3 1 9 (by decide) (by decide) (by decide) (by decide) (by decide) (by decide) w7 HB7.out.size HBW7).mono ?_
    clear HBW7
    rintro e w8 ⟨g10, c10, rfl, hc10, hr10, hb8⟩
    have HO8 := Lib.hid (HO7.out.below hb8)
    have HB8 := Lib.hid (HB7.out.trans (hb8.mono HB7.out.size))
    have HR5 := Lib.hid (Kd.R_below HR7.out hb8)
    have HC8' := Lib.hid (Kd.C_below HC8.out hb8)
    have HR10 := Lib.hid hr10
    have hs8 := hb8.size
    clear hr10 hb8 HO7 HB7 HR7 HC8
    go_wp2_with fail
    refine (enc_call w.heap.size l1 (by omega) (some ⟨g, 0, none⟩) c3 w8 HB8.out.size (HW.out.below HB8.out) ((HO8.out.head_).C (by omega)) HFF.out).mono ?_
    rintro e w9 ⟨A12, c12, rfl, hc12, hR12, hb9⟩
    rw [← HX1.out] at hc12 hR12 ⊢
    rw [← Hb1.out]
    have HR12 := Lib.hid hR12
    have HO9 := Lib.hid (HO8.out.below hb9)
    have HB9 := Lib.hid (HB8.out.trans (hb9.mono HB8.out.size))
    have HR5a := Lib.hid (Kd.R_below HR5.out hb9)
    have HR10a := Lib.hid (Kd.R_below HR10.out hb9)
    have HC8a := Lib.hid (Kd.C_below HC8'.out hb9)
    have hs9 := hb9.size
    clear hb9 HO8 hR12 HB8 HR5 HR10 HC8'
    have hk5 := str_conv (c := c5) (Kd.R_reads' HR5a.out).2.2 HXB.out
    have hk8 := str_conv (c := c8) HC8a.out HXB.out
    have hk12 := str_conv (c := c12) (Kd.R_reads' HR12.out).2.2 HXB.out
    rw [← HS1.out] at hk5 hk8 hk12
    go_wp2_with fail
    clear hk5 hk8 hk12
    refine (enc_call w.heap.size l1 (by omega) (some ⟨g, 0, none⟩) c3 w9 HB9.out.size (HW.out.below HB9.out) ((HO9.out.head_).C (by omega)) HFF.out).mono ?_
    rintro e w10 ⟨A14, c14, rfl, hc14, hR14, hb10⟩
    rw [← HX1.out] at hc14 hR14 ⊢
    rw [← Hb1.out]
    have HR14 := Lib.hid hR14
    have HO10 := Lib.hid (HO9.out.below hb10)
    have HB10 := Lib.hid (HB9.out.trans (hb10.mono HB9.out.size))
    have HR5b := Lib.hid (Kd.R_below HR5a.out hb10)
    have HR10b := Lib.hid (Kd.R_below HR10a.out hb10)
    have HR12b := Lib.hid (Kd.R_below HR12.out hb10)
    have HC8b := Lib.hid (Kd.C_below HC8a.out hb10)
    have hs10 := hb10.size
    clear hb10 HO9 hR14 HB9 HR5a HR10a HC8a HR12
    have hk8 := str_conv (c := c8) HC8b.out HXB.out
    have hk14 := str_conv (c := c14) (Kd.R_reads' HR14.out).2.2 HXB.out
    rw [← HS1.out] at hk8 hk14
    go_wp2_with fail
    clear hk8 hk14
    have hkb : Hid (KeepBut w10 w10 g none) := KeepBut.refl _ _ _
    go_loopw [16] (fun v16 wr => ∃ k : Nat, k ≤ l1.length ∧ v16 = .int .i64 k ∧ Hid (ORow wr g (rowM modW l1 k)) ∧ Hid (Below w.heap.size w wr) ∧ Hid (KeepBut w10 wr g none)) (fun i _ => l1.length - (RowKit.intOf i).toNat)
    case atStart =>
      refine ⟨0, by omega, rfl, ?_, HB10, hkb⟩
      rw [rowM_0]; exact HO10
    case round =>
      clear HO10 HB10 hkb
      obtain ⟨k, hk, rfl, HOk, HBk, HKk⟩ := hrel
      by_cases hlt : k < l1.length
      · obtain ⟨x, hx⟩ : ∃ x, x = l1[k] := ⟨_, rfl⟩
        have hget := rowM_get modW l1 k hlt
        rw [← hx] at hget
        obtain ⟨c4, z4⟩ := HOk.out.cell hget (j := 3) rfl
        have hO1 := HOk.out.set (y := modWp x) (v := .int .u32 ((x.f3 + 1) % 4294967296)) hget (show 3 < 6 by omega) (fun k => by match k with
          | 0 => rfl
          | 1 => rfl
          | 2 => rfl
          | 3 => rfl
          | 4 => rfl
          | 5 => rfl
          | k + 6 => rfl)
        have hget2 : ((rowM modW l1 k).set k (modWp x))[k]? = some (modWp x) := by
          rw [List.getElem?_set, if_pos rfl, if_pos (by rw [rowM_len]; omega)]
        obtain ⟨d0, y0⟩ := hO1.cell hget2 (j := 0) rfl
        have hO2 := hO1.set (y := modW x) (v := .int .u64 (IntKind.u64.wrap (x.f0.tdiv 2))) hget2 (show 0 < 6 by omega) (fun k => by match k with
          | 0 => rfl
          | 1 => rfl
          | 2 => rfl
          | 3 => rfl
          | 4 => rfl
          | 5 => rfl
          | k + 6 => rfl)
        rw [hx, rowM_set modW l1 k hlt, ← hx] at hO2
        have hB2 : Below w.heap.size w ((wr.setCell ⟨g, k * 6 + 3, none⟩ (.int .u32 ((x.f3 + 1) % 4294967296))).setCell ⟨g, k * 6 + 0, none⟩ (.int .u64 (IntKind.u64.wrap (x.f0.tdiv 2)))) := (HBk.out.setCell hg0 _).setCell hg0 _
        have hK2 : KeepBut w10 ((wr.setCell ⟨g, k * 6 + 3, none⟩ (.int .u32 ((x.f3 + 1) % 4294967296))).setCell ⟨g, k * 6 + 0, none⟩ (.int .u64 (IntKind.u64.wrap (x.f0.tdiv 2)))) g none := (HKk.out.set_ _ _).set_ _ _
        have HO2 := Lib.hid hO2
        have HB2' := Lib.hid hB2
        have HK2' := Lib.hid hK2
        clear hO1 hO2 hB2 hK2 hget hget2 hx
        simp only [Nat.add_zero, modWp] at d0 y0 HO2 HB2' HK2'
        go_wp2_with fail
        go_roundw
        case rel => exact ⟨k + 1, by omega, by go_num, HO2, HB2', HK2'⟩
        case measure => simp [RowKit.intOf]; omega
      · obtain rfl : k = l1.length := by omega
        have HOn : Hid (ORow wr g (l1.map modW ++ List.replicate 8 mark0)) := by
          show ORow wr g (l1.map modW ++ List.replicate 8 mark0)
          rw [← rowM_n]; exact HOk.out
        obtain ⟨l2, hl2⟩ : ∃ l2, l2 = l1.map modW := ⟨_, rfl⟩
        have hln : l1.length = l2.length := by rw [hl2, List.length_map]
        have HF2 : Hid (∀ o ∈ l2, FitsT o) := by
          intro o ho
          rw [hl2] at ho
          obtain ⟨o', ho', rfl⟩ := List.mem_map.1 ho
          exact modW_fits (HF.out o' ho')
        have HFF2 : Hid (∀ o ∈ l2, Fits o) := fun o ho => (HF2.out o ho).1
        rw [← hl2] at HOn
        have HR5c := Lib.hid (Kd.R_keep HR5b.out HKk.out (fun k hk => by have := hk.1; omega))
        have HR10c := Lib.hid (Kd.R_keep HR10b.out HKk.out (fun k hk => by have := hk.1; omega))
        have HR12c := Lib.hid (Kd.R_keep HR12b.out HKk.out (fun k hk => by have := hk.1; omega))
        have HR14c := Lib.hid (Kd.R_keep HR14.out HKk.out (fun k hk => by have := hk.1; omega))
        have HKs : Hid (w10.heap.size ≤ wr.heap.size) := HKk.out.1
        clear hl2 HOk HF hL HKk HR5b HR10b HR12b HR14 HC8b HX1 HFF HC2 hc3
        rw [hln] at h400 hgc hc2 ⊢
        clear hlt hk
        go_wp2_with fail
        refine (enc_call w.heap.size l2 (by omega) (some ⟨g, 0, none⟩) c3 wr HBk.out.size (HW.out.below HBk.out) ((HOn.out.head_).C (by omega)) HFF2.out).mono ?_
        rintro e w17 ⟨A17, c17, rfl, hc17, hR17, hb17⟩
        obtain ⟨X2, hX2⟩ : ∃ X2, X2 = encX l2 := ⟨_, rfl⟩
        obtain ⟨b2, hb2⟩ : ∃ b2, b2 = l2.all mayB := ⟨_, rfl⟩
        have HXB2 : Hid (Crc.Bytes X2) := by rw [hX2]; exact encX_bytes l2
        have hXL2 : X2.length ≤ 8812 := by
          rw [hX2]; have := encX_len l2; omega
        rw [← hX2] at hc17 hR17 ⊢
        rw [← hb2]
        have HX2 := Lib.hid hX2
        have Hb2 := Lib.hid hb2
        have HC17 := Lib.hid (Kd.R_reads' hR17).2.2
        have HO17 := Lib.hid (HOn.out.below hb17)
        have HB17 := Lib.hid (HBk.out.trans (hb17.mono HBk.out.size))
        have HR5d := Lib.hid (Kd.R_below HR5c.out hb17)
        have HR10d := Lib.hid (Kd.R_below HR10c.out hb17)
        have HR12d := Lib.hid (Kd.R_below HR12c.out hb17)
        have HR14d := Lib.hid (Kd.R_below HR14c.out hb17)
        have Hsz17 : Hid (w10.heap.size ≤ w17.heap.size) := Nat.le_trans HKs.out hb17.size
        clear HKs hb17 HOn HBk hR17 hX2 hb2 HR5c HR10c HR12c HR14c
        obtain ⟨E2, hE2⟩ : ∃ E2 : Int, E2 = (if b2 = true then 0 else 220) := ⟨_, rfl⟩
        rw [← hE2]
        have HE2 : Hid (decide (E2 = 0) = b2) := by
          show decide (E2 = 0) = b2
          rw [hE2]; cases b2 <;> rfl
        clear hE2
        go_wp2_with fail
        refine (twin_ok (some ⟨g, 0, none⟩) c3 l2 _ ((HO17.out.head_).C (by omega)) hgc (by omega)).mono ?_
        rintro e w18 ⟨v18, rfl, hr18, hb18⟩
        obtain ⟨A18, c18, rfl, hc18, hC18⟩ := Kd.R_reads hr18
        have HD18 := Lib.hid hC18
        have HC18 := Lib.hid (Kd.C_below HC17.out hb18)
        have HB18 := Lib.hid (HB17.out.trans (hb18.mono HB17.out.size))
        have HR5e := Lib.hid (Kd.R_below HR5d.out hb18)
        have HR10e := Lib.hid (Kd.R_below HR10d.out hb18)
        have HR12e := Lib.hid (Kd.R_below HR12d.out hb18)
        have HR14e := Lib.hid (Kd.R_below HR14d.out hb18)
        have Hsz18 : Hid (w17.heap.size ≤ w18.heap.size) := hb18.size
        clear hr18 hb18 hC18 HO17 HB17 HC17 HR5d HR10d HR12d HR14d
        go_wp2_with fail
        refine (refEnc_call l2 A18 c18 w18 HD18.out hc18 HF2.out (by omega)).mono ?_
        rintro e w19 ⟨A19, c19, rfl, hc19, hC19, hb19⟩
        rw [← HX2.out] at hc19 hC19 ⊢
        rw [← Hb2.out]
        have HC19 := Lib.hid (Kd.C_below HC18.out hb19)
        have HB19 := Lib.hid (HB18.out.trans (hb19.mono HB18.out.size))
        have HR5f := Lib.hid (Kd.R_below HR5e.out hb19)
        have HR10f := Lib.hid (Kd.R_below HR10e.out hb19)
        have HR12f := Lib.hid (Kd.R_below HR12e.out hb19)
        have HR14f := Lib.hid (Kd.R_below HR14e.out hb19)
        obtain ⟨S2, hS2⟩ : ∃ S2, S2 = strOf X2 := ⟨_, rfl⟩
        have hk17 := str_conv (c := c17) HC19.out HXB2.out
        have hk19 := str_conv (c := c19) hC19 HXB2.out
        rw [← hS2] at hk17 hk19
        have HB19s : Hid (w10.heap.size ≤ w19.heap.size) := Nat.le_trans Hsz17.out (Nat.le_trans Hsz18.out hb19.size)
        clear Hsz17 Hsz18 hS2 hC19 hb19 HC18 HD18 HB18 HR5e HR10e HR12e HR14e HX2 Hb2
        have hE2 := HE2.out
        go_wp2_with fail
        clear hk17 hk19
        clear hE2 HE2
        go_loopw [21, 22] (fun v21 v22 wh => ∃ k : Nat, k ≤ 20 ∧ v22 = .int .i64 k ∧ Hid (Kd.R (Kd.slice 5 (Kd.int .u8)) 37 wh w19.heap.size (fun _ => True) v21 (heldL k)) ∧ Hid (Below w19.heap.size w19 wh)) (fun _ i _ => 20 - (RowKit.intOf i).toNat)
        case atStart => exact ⟨0, by omega, rfl, Kd.R_nil _ _ _ _ _, Below.refl _ _⟩
        case round =>
          obtain ⟨k, hk, rfl, HRk, HBk⟩ := hrel
          by_cases hlt : k < 20
          · have hwk : IntKind.u64.wrap (k : Int) = (k : Int) := u64w k (by omega)
            go_wp2_with fail
            have HBwk : Hid (Below w.heap.size w wr) := HB19.out.trans (HBk.out.mono HB19.out.size)
            refine (say_enc w19.heap.size (k : Int) 2 9 (by omega) (by omega) (by decide) (by decide) (by decide) (by decide) wr HBk.out.size (HW.out.below HBwk.out)).mono ?_
            rintro e wn ⟨gx, cx, rfl, hcx, hrx, hbx⟩
            have HRk2 := Lib.hid (Kd.R_below HRk.out hbx)
            have HVL := Lib.hid (Kd.R_lt HRk.out)
            have HBk2 := Lib.hid (HBk.out.trans (hbx.mono HBk.out.size))
            have HRx := Lib.hid hrx
            have HSx := Lib.hid hbx.size
            have Hlen := heldL_len k
            clear hrx hbx HRk HBk HBwk
            go_wp2_with (first | ((with_reducible refine gate_builtin (b := .append) (xs := #[.tmp 207, .tmp 209]) rfl ?_); at_builtin; refine Kd.R_append (Kd.slice 5 (Kd.int .u8)) (w0 := w19) w19.heap.size rfl (.tmp 207) (.tmp 209) 49 37 (.slice none 0 0) 24 rfl Tryz.underlying49 infoSl37 rfl (by decide) (by omega) u21 (heldL k) (encBytes [sayO (k : Int) 2 9]) [.slice (some ⟨gx, 0, none⟩) 34 cx] (fun _ => True) (fun k_ => wr.heap.size ≤ k_ ∧ k_ < wn.heap.size) rfl rfl ⟨_, rfl, HRx.out⟩ (fun k_ hk => ⟨trivial, fun he => by have := HVL.out k_ he.symm; omega⟩) (fun _ _ => trivial) HRk2.out HBk2.out HBk2.out.size (by rw [Hlen]; omega) ?_; intro v1 w1 ho1 hb1 hg1 hat1; rw [← heldL_succ] at ho1; have HRn := Lib.hid ho1; have HBn := Lib.hid hb1; clear ho1 hb1 hg1 hat1))
            go_roundw
            case rel => exact ⟨k + 1, by omega, by go_num, HRn, HBn⟩
            case measure => simp [RowKit.intOf]; omega
          · obtain ⟨kh, hkh⟩ : ∃ kh, kh = k := ⟨_, rfl⟩
            have Hkh : Hid (kh = 20) := by show kh = 20; omega
            rw [← hkh] at HRk hlt ⊢
            clear hkh hk
            go_wp2_with fail
            clear hlt
            obtain ⟨gh, ch, hgh, hgh0, hgh1, _⟩ := Kd.R_form HRk.out (by rw [heldL_len, Hkh.out]; omega)
            rw [heldL_len] at hgh
            subst hgh
            have hCh := (Kd.R_reads' HRk.out).2.2
            rw [heldL_len] at hCh
            have HCh := Lib.hid hCh
            have hch : kh ≤ ch := by have := (Kd.R_reads' HRk.out).2.1; omega
            have HRw := Lib.hid (HB19.out.trans (HBk.out.mono HB19.out.size))
            have HR5g := Lib.hid (Kd.R_below HR5f.out HBk.out)
            have HR10g := Lib.hid (Kd.R_below HR10f.out HBk.out)
            have HR12g := Lib.hid (Kd.R_below HR12f.out HBk.out)
            have HR14g := Lib.hid (Kd.R_below HR14f.out HBk.out)
            clear hCh HR5f HR10f HR12f HR14f
            go_loopw [25] (fun v25 wh => ∃ k : Nat, k ≤ 20 ∧ v25 = .int .i64 k ∧ Hid (Below wr.heap.size wr wh)) (fun i _ => 20 - (RowKit.intOf i).toNat)
            case atStart => exact ⟨0, by omega, rfl, Below.refl _ _⟩
            case round =>
              obtain ⟨k, hk, rfl, HBh⟩ := hrel
              by_cases hlt : k < 20
              · have hwk : IntKind.u64.wrap (k : Int) = (k : Int) := u64w k (by omega)
                have hltk : k < kh := by have := Hkh.out; omega
                go_wp2_with fail
                refine (say_ref (k : Int) 2 9 (by omega) (by omega) (by decide) (by decide) (by decide) (by decide) wr).mono ?_
                rintro e wn ⟨A26, c26, rfl, hc26, hC26, hb26⟩
                have HBn := Lib.hid (HBh.out.trans (hb26.mono HBh.out.size))
                obtain ⟨Ah, cc, hcell, hconv⟩ := held_at (Kd.C_below HCh.out HBn.out) hltk (by omega)
                have hl34 := (sayO_enc (t := (k : Int)) (cl := 2) (a := 9) (by omega) (by decide) (by decide)).2.1
                have hconv2 := fun nd => str_conv (A := A26) (c := c26) (xs := encBytes [sayO ((k : Nat) : Int) 2 9]) (Kd.C_drewN (by rw [hl34]; exact hC26) nd) (encBytes_bytes _)
                rw [hl34] at hconv2
                obtain ⟨S3, hS3⟩ : ∃ S3, S3 = strOf (encBytes [sayO ((k : Nat) : Int) 2 9]) := ⟨_, rfl⟩
                rw [← hS3] at hconv hconv2
                clear hS3 hl34 hC26 hb26 HBh
                go_wp2_with fail
                go_quiet (fail)
                go_wp2_with fail
                go_roundw
                case rel => exact ⟨k + 1, by omega, by go_num, pw_below_drewN HBn.out _⟩
                case measure => simp [RowKit.intOf]; omega
              · have HB20s : Hid (w19.heap.size ≤ wr.heap.size) := Nat.le_trans HBk.out.size HBh.out.size
                have HB20 := Lib.hid (HRw.out.trans (HBh.out.mono HRw.out.size))
                have HR5h := Lib.hid (Kd.R_below HR5g.out HBh.out)
                have HR10h := Lib.hid (Kd.R_below HR10g.out HBh.out)
                have HR12h := Lib.hid (Kd.R_below HR12g.out HBh.out)
                have HR14h := Lib.hid (Kd.R_below HR14g.out HBh.out)
                clear HR5g HR10g HR12g HR14g HCh
                go_wp2_with fail
                clear hlt hk
                obtain ⟨L, hL⟩ : ∃ L, L = wr.heap.size := ⟨_, rfl⟩
                obtain ⟨W0, hW0⟩ : ∃ W0, W0 = wr.alloc (.cells #[.slice A5 X1.length c5, .slice (some ⟨g10, 0, none⟩) 34 c10, .slice A12 X1.length c12, .slice A14 X1.length c14] 37) := ⟨_, rfl⟩
                rw [← hW0, ← hL]
                have hl34 := (sayO_enc (t := 3) (cl := 1) (a := 9) (by decide) (by decide) (by decide)).2.1
                have hbW0 : Below wr.heap.size wr W0 := by rw [hW0]; exact below_alloc (Below.refl _ _) _
                have hwL : w10.heap.size ≤ L := by rw [hL]; exact Nat.le_trans HB19s.out HB20s.out
                have hcm4 := came_four (L := L) (H := L + 1) (eo := 37) xW yW HR5h.out HR10h.out HR12h.out HR14h.out (by omega) (by omega) (by omega) (by omega) (by omega) (by omega) hwL (by omega) (by rw [hL]; exact HB20.out.size) (by decide) (by have := HXL.out; omega) (by rw [hl34]; decide) (by have := HXL.out; omega) (by have := HXL.out; omega) (fun _ => rfl) (fun _ => rfl)
                have hp4 := p1_four (W := W0) (L := L) (eo := 37) xW (Kd.R_below HR5h.out hbW0) (Kd.R_below HR10h.out hbW0) (Kd.R_below HR12h.out hbW0) (Kd.R_below HR14h.out hbW0) (by rw [hW0, hL]; exact heap_alloc_new _ _)
                rw [hl34] at hcm4 hp4
                obtain ⟨vs, hvs⟩ : ∃ vs, vs = four (.slice A5 X1.length c5) (.slice (some ⟨g10, 0, none⟩) 34 c10) (.slice A12 X1.length c12) (.slice A14 X1.length c14) := ⟨_, rfl⟩
                obtain ⟨ns, hns⟩ : ∃ ns, ns = fourN X1.length 34 X1.length X1.length := ⟨_, rfl⟩
                rw [← hvs, ← hns] at hcm4 hp4
                have HC : Hid (Came w.heap.size L 4 1 5 37 (L + 1) vs ns xW yW) := hcm4
                have HP : Hid (P1 W0 w.heap.size L 4 1 5 37 vs ns xW 0 0) := hp4
                have HBW : Hid (Below w.heap.size w W0) := HB20.out.trans (hbW0.mono HB20.out.size)
                have HSW : Hid (L < W0.heap.size) := by show L < W0.heap.size; rw [hW0, hL]; simp
                clear hcm4 hp4 hbW0 hvs hns hl34 hW0 hL hwL HR5h HR10h HR12h HR14h HB20 HRw HBh HB20s HB19s
                go_loopw [30] (fun v30 wh => ∃ i : Nat, i ≤ 4 ∧ v30 = .int .i64 i ∧ Hid (P1 wh w.heap.size L 4 1 5 37 vs ns xW i 0) ∧ Hid (Below w.heap.size w wh) ∧ Hid (L < wh.heap.size)) (fun i _ => 4 - (RowKit.intOf i).toNat)
                case atStart => exact ⟨0, by omega, rfl, HP, HBW, HSW⟩
                case round =>
                  clear HP HBW HSW
                  obtain ⟨i, hi, rfl, HP, HBW, HSW⟩ := hrel
                  by_cases hlt : i < 4
                  · obtain ⟨Ai, ci, hvi, hci, hAi⟩ := HC.out.view hlt
                    have hd4 : decide ((i : Int) < 4) = true := by simp; omega
                    have HAi := Lib.hid hAi
                    have Hvi := Lib.hid hvi
                    have Hci := Lib.hid hci
                    have Hsm := Lib.hid (HC.out.small i hlt)
                    clear hAi hvi hci
                    go_wp2_with fail
                    go_loopw [31] (fun v31 wh => ∃ j : Nat, j ≤ ns i ∧ v31 = .int .i64 j ∧ Hid (P1 wh w.heap.size L 4 1 5 37 vs ns xW i j) ∧ Hid (Below w.heap.size w wh) ∧ Hid (L < wh.heap.size)) (fun j _ => ns i - (RowKit.intOf j).toNat)
                    case atStart => exact ⟨0, by omega, rfl, HP, HBW, HSW⟩
                    case round =>
                      clear HP HBW HSW
                      obtain ⟨j, hj, rfl, HPj, HBj, HSj⟩ := hrel
                      have hcell := HPj.out.blk.cell hlt
                      rw [Hvi.out] at hcell
                      by_cases hlj : j < ns i
                      · obtain ⟨gi, rfl⟩ := HAi.out (by omega)
                        have hrow := HPj.out.own i hlt
                        rw [Hvi.out] at hrow
                        obtain ⟨⟨u, hu⟩, hf⟩ := hrow.here (j := j) (by omega)
                        have hgb := hrow.base (g := gi) rfl
                        have hx8 := w8_200 i hlt
                        have hst := P1.step HC.out HPj.out hlt hlj Hvi.out
                        have HPn : Hid (P1 (wr.setCell ⟨gi, j, none⟩ (.int .u8 (200 + (i : Int)))) w.heap.size L 4 1 5 37 vs ns xW i (j + 1)) := by
                          rw [Nat.mul_one] at hst; exact hst
                        have HBn : Hid (Below w.heap.size w (wr.setCell ⟨gi, j, none⟩ (.int .u8 (200 + (i : Int))))) := HBj.out.setCell hgb _
                        have HSn : Hid (L < (wr.setCell ⟨gi, j, none⟩ (.int .u8 (200 + (i : Int)))).heap.size) := Nat.lt_of_lt_of_le HSj.out (Nat.le_of_eq (by simp))
                        have hdj : decide ((j : Int) < (ns i : Int)) = true := by simp; omega
                        have hsm := Hsm.out
                        clear hrow hgb hst HPj HBj HSj
                        go_wp2_with fail
                        go_roundw
                        case rel => exact ⟨j + 1, by omega, by go_num, HPn, HBn, HSn⟩
                        case measure => simp [RowKit.intOf]; omega
                      · obtain rfl : j = ns i := by omega
                        have HPn := Lib.hid (P1.next HPj.out)
                        clear HPj
                        go_wp2_with fail
                        go_roundw
                        case rel => exact ⟨i + 1, by omega, by go_num, HPn, HBj, HSj⟩
                        case measure => simp [RowKit.intOf]; omega
                  · have hi4 : i = 4 := by omega
                    have HP2 : Hid (P2 wr w.heap.size L 4 1 5 37 (L + 1) vs ns xW yW 0 (.slice none 0 0) []) := P1.done (by have h4 := HP.out; rw [hi4] at h4; exact h4) (by have := HSW.out; omega)
                    clear HP hi4 HSW hi
                    go_wp2_with fail
                    clear hlt
                    go_loopw [29, 32] (fun v29 v32 wh => ∃ (i : Nat) (ys : List Value), i ≤ 4 ∧ v32 = .int .i64 i ∧ Hid (P2 wh w.heap.size L 4 1 5 37 (L + 1) vs ns xW yW i v29 ys) ∧ Hid (Below w.heap.size w wh)) (fun _ i _ => 4 - (RowKit.intOf i).toNat)
                    case atStart => exact ⟨0, [], by omega, rfl, HP2, HBW⟩
                    case round =>
                      clear HP2 HBW
                      obtain ⟨i, ys, hi, rfl, HP, HBi⟩ := hrel
                      by_cases hlt : i < 4
                      · have hd4 : decide ((i : Int) < 4) = true := by simp; omega
                        have hcell := HP.out.blk.cell hlt
                        have HI := Lib.hid (P2.enter HC.out HP.out hlt)
                        have Hsm := Lib.hid (HC.out.small i hlt)
                        have HBL := Lib.hid HC.out.BL
                        obtain ⟨Ai, ci, hvi, hci, hAi⟩ := HC.out.view hlt
                        rw [hvi] at hcell
                        have HI0 : Hid (In wr w.heap.size L 4 1 5 37 (L + 1) vs ns xW yW i 0 (.slice Ai (ns i) ci) u29 ys) := by
                          have := HI.out; rw [hvi] at this; exact this
                        clear hvi hci hAi HP HI
                        go_wp2_with fail
                        clear hcell
                        go_loopw [33, 34] (fun v33 v34 wh => ∃ j : Nat, j ≤ 64 ∧ v34 = .int .i64 j ∧ Hid (In wh w.heap.size L 4 1 5 37 (L + 1) vs ns xW yW i j v33 u29 ys) ∧ Hid (Below w.heap.size w wh)) (fun _ j _ => 64 - (RowKit.intOf j).toNat)
                        case atStart => exact ⟨0, by omega, rfl, HI0, HBi⟩
                        case round =>
                          clear HI0 HBi
                          obtain ⟨j, hj, rfl, HIj, HBj⟩ := hrel
                          by_cases hlj : j < 64
                          · have hx8 := w8_210 i hlt
                            have HIa := Lib.hid (HIj.out.below (below_alloc (Below.refl wr.heap.size wr) (.cells #[.int .u8 (210 + (i : Int))] 5)))
                            have HBa := Lib.hid (HBj.out.alloc HBj.out.size (.cells #[.int .u8 (210 + (i : Int))] 5))
                            have Hsm1 : Hid (ns i ≤ 1000000000) := Hsm
                            clear HIj HBj
                            go_wp2_with (first | ((with_reducible refine gate_builtin (b := .append) (xs := #[.tmp 270, .tmp 274]) rfl ?_); at_builtin; refine RowIs.app_step w.heap.size rfl (.tmp 270) (.tmp 274) 37 5 (.int .u8 0) 1 1 rfl Tryz.underlying37 info5 rfl (by decide) u33 (ns i + j) (EY ns xW yW i) (yW i) wr.heap.size rfl rfl rfl (by intro j_ u_ hu; cases j_ with | zero => (obtain rfl := Option.some.inj hu; exact (by simp [World.cell?_alloc_new])) | succ j_ => (cases hu)) (by intro u_ hu; obtain rfl := List.mem_singleton.1 hu; rfl) HIa.out.yR HBa.out.size (by have := Hsm1.out; omega) (by have := Hsm1.out; omega) ?_; intro g_ c_ w1 ho1 hg1 hat1 hk1; have HIn := Lib.hid (In.step HC.out HIa.out hlt ho1 hg1 hat1 hk1); have HBn := Lib.hid (HBa.out.grown hg1 HBa.out.size (fun k hk => HIa.out.yR.base hk)); clear ho1 hg1 hat1 hk1))
                            go_roundw
                            case rel => exact ⟨j + 1, by omega, by go_num, HIn, HBn⟩
                            case measure => simp [RowKit.intOf]; omega
                          · obtain rfl : j = 64 := by omega
                            obtain ⟨gy, cy, rfl, hcy⟩ : ∃ g c, u33 = .slice (some ⟨g, 0, none⟩) (ns i + 64) c ∧ ns i + 64 ≤ c := by
                              rcases HIj.out.yR.form with ⟨_, h0⟩ | h0
                              · omega
                              · exact h0
                            have HSz := Lib.hid HIj.out.hH
                            have Hcy := Lib.hid hcy
                            clear hcy
                            go_wp2_with (first | ((with_reducible refine gate_builtin (b := .append) (xs := #[.tmp 276, .tmp 278]) rfl ?_); at_builtin; refine print_append_cells (w0 := wr) (L + 1) rfl (.tmp 276) (.tmp 278) 49 37 (.slice none 0 0) 1 24 rfl Tryz.underlying49 infoSl37 rfl (by decide) (by decide) u29 i ys [.slice (some ⟨gy, 0, none⟩) (ns i + 64) cy] rfl rfl rfl (by intro u_ hu; obtain rfl := List.mem_singleton.1 hu; rfl) HIj.out.lon (Below.refl _ _) HSz.out (by omega) ?_; intro v1 w1 ho1 hb1 hg1 hat1; have HPn := Lib.hid (In.leave HC.out rfl Hcy.out HIj.out hlt ho1 hg1); have HBn := Lib.hid (HBj.out.trans (hb1.mono (Nat.le_succ_of_le HBL.out))); clear ho1 hb1 hg1 hat1))
                            go_roundw
                            case rel => exact ⟨i + 1, _, by omega, by go_num, HPn, HBn⟩
                            case measure => simp [RowKit.intOf]; omega
                      · have Hi4 : Hid (i = 4) := by show i = 4; omega
                        obtain ⟨gl, cl, rfl, hcl⟩ : ∃ g c, u29 = .slice (some ⟨g, 0, none⟩) i c ∧ i ≤ c := by
                          rcases RowIs.form (W := wr) (B := L + 1) (e := 37) (s := 1) (E := fun _ => none) ⟨ys, HP.out.lon, fun j hj X hX => by cases hX⟩ with ⟨_, h0⟩ | h0
                          · have := Hi4.out; omega
                          · exact h0
                        go_wp2_with fail
                        clear hlt hi
                        go_loop [35] (fun v35 => ∃ k : Nat, k ≤ 4 ∧ v35 = .int .i64 k) (fun k => 4 - (RowKit.intOf k).toNat)
                        case atStart => exact ⟨0, by omega, rfl⟩
                        case round =>
                          obtain ⟨k, hk, rfl⟩ := hrel
                          by_cases hlk : k < 4
                          · have hd4 : decide ((k : Int) < 4) = true := by simp; omega
                            have hki : k < i := by have := Hi4.out; omega
                            have hkI : (k : Int) < (i : Int) := by omega
                            obtain ⟨gk, ck, hyk, hck, hYk, _⟩ := HP.out.ysO k hki
                            have hcl1 := HP.out.lon.cells (g := gl) rfl k _ hyk
                            rw [show ((⟨gl, 0, none⟩ : Addr).add k) = ⟨gl, k, none⟩ from by rw [Lib.add_plain, Nat.zero_add]] at hcl1
                            have hcell := HP.out.blk.cell hlk
                            obtain ⟨Ak, c2, hvk, hc2, hAk⟩ := HC.out.view hlk
                            rw [hvk] at hcell
                            have HRd := Lib.hid (HP.out.rd k hlk)
                            have HAk := Lib.hid hAk
                            have Hvk := Lib.hid hvk
                            have HYk := Lib.hid hYk
                            have hsm := HC.out.small k hlk
                            clear hyk hck hYk hvk hc2 hAk
                            go_wp2_with fail
                            go_loop [36] (fun v36 => ∃ j : Nat, j ≤ ns k + 64 ∧ v36 = .int .i64 j) (fun j => ns k + 64 - (RowKit.intOf j).toNat)
                            case atStart => exact ⟨0, by omega, rfl⟩
                            case round =>
                              obtain ⟨j, hj, rfl⟩ := hrel
                              by_cases hlj : j < ns k + 64
                              · have hdj : decide ((j : Int) < (ns k : Int) + 64) = true := by simp; omega
                                by_cases hjn : j < ns k
                                · obtain ⟨ga, rfl⟩ := HAk.out (by omega)
                                  have hel := HRd.out ga c2 Hvk.out j hjn 0 _ (by decide) rfl
                                  rw [Nat.mul_one, Nat.add_zero] at hel
                                  have hx8 := w8_200 k hlk
                                  have hd : decide ((j : Int) < (ns k : Int)) = true := by simp; omega
                                  have hd2 : decide ((ns k : Int) ≤ (j : Int)) = false := by simp; omega
                                  go_wp2_with fail
                                  go_round
                                  case rel => exact ⟨j + 1, by omega, by go_num⟩
                                  case measure => simp [RowKit.intOf]; omega
                                · have hEY : EY ns xW yW k j = some (yW k) := by unfold EY; rw [if_neg hjn]
                                  have hel := HYk.out.cell hlj hEY (t := 0) (by decide) rfl
                                  rw [Nat.mul_one, Nat.add_zero] at hel
                                  have hx8 := w8_210 k hlk
                                  have hd : decide ((j : Int) < (ns k : Int)) = false := by simp; omega
                                  have hd2 : decide ((ns k : Int) ≤ (j : Int)) = true := by simp; omega
                                  clear hEY
                                  go_wp2_with fail
                                  go_round
                                  case rel => exact ⟨j + 1, by omega, by go_num⟩
                                  case measure => simp [RowKit.intOf]; omega
                              · obtain rfl : j = ns k + 64 := by omega
                                go_wp2_with fail
                                go_round
                                case rel => exact ⟨k + 1, by omega, by go_num⟩
                                case measure => simp [RowKit.intOf]; omega
                          · go_wp2_with fail
                            go_ret
                            exact ⟨rfl, HBi.out⟩
end Go.Proofs.YtohighedgdlflaaGreatDoor

/- Texts of a proof that TraceReads holds, for every row of bytes, merged in order. -/
import Derived.Test.YtohighedgdlflaaGreatDoorTMR23
import Derived.Test.YtohighedgdlflaaGreatDoorTMR21
import Derived.Deep.QuietTactic
import Derived.BigQuiet
import Derived.Deep.DeepCutAuto
import Derived.Deep.CutBlock
/- The law TraceReads answers true, whatever the bytes. -/
namespace Go.Proofs.YtohighedgdlflaaGreatDoor
open Go.Shelf Go.RowKit Go.Sort Go.Lib Go.Proofs.YtohighedgdlflaaGreatDoorW.PrintWords Go.Proofs.YtohighedgdlflaaGreatDoor.PR
set_option linter.unusedVariables false
set_option linter.unusedSimpArgs false
set_option maxRecDepth 100000 in
set_option maxHeartbeats 20000000 in
theorem reads_ok (l : List Int) (A : Option Addr) (c : Nat) (m : Int) (w : World) (hW : WTab w) (hT : PTab w) (hm : w.cell? ⟨2, 0, none⟩ = some (.int .i64 m)) (hR : Kd.C (Kd.int .u8) w A l.length l) (hc : l.length ≤ c) (hcm : c ≤ 9223372036854775807) (hb : Crc.Bytes l) :
    Calls Tryz.prog 4 #[.slice A l.length c] w fun e w' => e = .returned (.bool true) ∧ Below w.heap.size w w' := by
  have HW := Lib.hid hW
  have HT := Lib.hid hT
  have HM := Lib.hid hm
  have HR := Lib.hid hR
  have HX : Hid (Crc.Bytes (l.take 10000)) := fun x hx => hb x (List.mem_of_mem_take hx)
  clear hT hm hR hW hb
  go_enter Tryz.func4, Tryz.ntmps4
  go_wp2_with fail
  refine (known_ok m w HT.out HM.out).mono ?_
  rintro e w1 ⟨rfl, hb1⟩
  have HB1 := Lib.hid hb1
  clear hb1
  obtain ⟨N, hN⟩ : ∃ N, N = min 10000 l.length := ⟨_, rfl⟩
  have HN := Lib.hid hN
  clear hN
  go_upto_if 42 with fail
  go_cut [0] from 40 (fun s0 wc => s0 = .slice A N c ∧ wc = w1)
  case first =>
    by_cases hbig : 10000 < l.length
    · have hd : decide ((10000 : Int) < (l.length : Int)) = true := by simp; omega
      have h10 : (10000 : Int) ≤ (c : Int) := by omega
      go_wp2_with fail
      go_meet
      case rel =>
        have := HN.out
        rw [show N = 10000 by omega]
        exact ⟨rfl, rfl⟩
    · have hd : decide ((10000 : Int) < (l.length : Int)) = false := by simp; omega
      go_wp2_with fail
      go_meet
      case rel =>
        have := HN.out
        rw [show N = l.length by omega]
        exact ⟨rfl, rfl⟩
  case rest =>
    obtain ⟨rfl, rfl⟩ := hcut
    obtain ⟨bs, hbs⟩ : ∃ bs, bs = l.take 10000 := ⟨_, rfl⟩
    have HC1 : Hid (Kd.C (Kd.int .u8) wc A N bs) := by
      show Kd.C (Kd.int .u8) wc A N bs
      have h := Kd.C_take (Kd.C_below HR.out HB1.out) (m := N) (by rw [HN.out]; omega)
      have e : l.take N = l.take 10000 := by rw [HN.out, ← List.take_take]; simp
      rw [e, List.length_take, ← HN.out, ← hbs] at h
      exact h
    have HLn : Hid (bs.length = N) := by
      show bs.length = N
      rw [hbs, List.length_take, HN.out]
    rw [← hbs] at HX
    have hN10 : N ≤ 10000 := by have := HN.out; omega
    have hNc : N ≤ c := by have := HN.out; omega
    clear hbs HR HN hc
    obtain ⟨D1, D2, hD⟩ : ∃ D1 D2, decode bs = (D1, D2) := ⟨_, _, rfl⟩
    have hDl : D1.length ≤ 1000 := by
      have := decode_len bs (by rw [HLn.out]; exact hN10)
      rw [hD] at this; exact this
    have HD := Lib.hid hD
    clear hD
    have HRd : Hid (ReadsInt (wc.alloc (.cells #[] 5)) .u8 A N bs) := C_reads (Kd.C_below HC1.out (below_alloc (Below.refl _ _) _))
    go_wp2_with (first | ((with_reducible refine gate_builtin (b := .append) (xs := #[.tmp 45, .tmp 46]) rfl ?_); at_builtin; refine print_append_row (w0 := wc) wc.heap.size rfl (.tmp 45) (.tmp 46) 37 5 .u8 1 rfl Tryz.underlying37 info5 (by decide) (.slice (some ⟨wc.heap.size, 0, none⟩) 0 0) [] bs A N c rfl rfl (own_empty wc) HRd.out (below_alloc (Below.refl _ _) _) (by simp) (by simp; omega) ?_; intro v4 w4 ho4 hb4 hg4 hat4; have HO4 := Lib.hid ho4; have HB4 := Lib.hid hb4; clear ho4 hb4 hg4 hat4) | ((with_reducible refine gate_builtin (b := .append) (xs := #[.tmp 47, .const (.string ⟨#[49, 50, 51, 52, 53, 54, 55, 56]⟩)]) rfl ?_); at_builtin; refine print_append_str (w0 := wc) wc.heap.size rfl (.tmp 47) (.const (.string ⟨#[49, 50, 51, 52, 53, 54, 55, 56]⟩)) 37 9 5 rfl Tryz.underlying37 Tryz.underlying9 info5 v4 ([] ++ bs) ⟨#[49, 50, 51, 52, 53, 54, 55, 56]⟩ rfl rfl HO4.out HB4.out HB4.out.size (by rw [List.nil_append, HLn.out]; exact Nat.le_trans (Nat.add_le_add_right hN10 _) (by decide)) ?_; intro v5 w5 ho5 hb5 hg5; obtain ⟨g, cw, rfl, hgB, hcw, hbr⟩ := whole_of HLn.out (by rw [List.nil_append]; rfl) ho5; have HGl := Lib.hid hbr.lt; have HO5 := Lib.hid hbr; have HB5 := Lib.hid (HB1.out.trans (hb5.mono HB1.out.size)); have HC5 := Lib.hid (Kd.C_below HC1.out hb5); have HG := Lib.hid (Nat.le_trans HB1.out.size hgB); clear ho5 hb5 hg5 hbr HO4 HB4 HC1 HB1 HRd hgB))
    refine (dec_call w.heap.size bs N HLn.out D1 D2 HD.out (some ⟨g, 0, none⟩) cw w5 HB5.out.size (HW.out.below HB5.out) (whole_C HO5.out HLn.out hN10) (by omega) hN10 HX.out).mono ?_
    rintro e w6 ⟨A5, c5, rfl, hc5, hR5, hb6⟩
    have HR5 := Lib.hid hR5
    have HO6 := Lib.hid (HO5.out.below hb6)
    have HC6 := Lib.hid (Kd.C_below HC5.out hb6)
    have HB6 := Lib.hid (HB5.out.trans (hb6.mono HB5.out.size))
    have hs6 := hb6.size
    obtain ⟨E, hE⟩ : ∃ E : Int, E = (if D2 < 0 then 0 else 221) := ⟨_, rfl⟩
    obtain ⟨P, hP⟩ : ∃ P : Int, P = (if D2 < 0 then 0 else D2) := ⟨_, rfl⟩
    rw [← hE, ← hP]
    have HE := Lib.hid hE
    have HP := Lib.hid hP
    clear hR5 hb6 hE hP HO5 HC5 HB5
    have HRd : Hid (ReadsInt (w6.alloc (.cells #[] 5)) .u8 A N bs) := C_reads (Kd.C_below HC6.out (below_alloc (Below.refl _ _) _))
    go_wp2_with (first | ((with_reducible refine gate_builtin (b := .append) (xs := #[.tmp 59, .tmp 60]) rfl ?_); at_builtin; refine print_append_row (w0 := w6) w6.heap.size rfl (.tmp 59) (.tmp 60) 37 5 .u8 1 rfl Tryz.underlying37 info5 (by decide) (.slice (some ⟨w6.heap.size, 0, none⟩) 0 0) [] bs A N c rfl rfl (own_empty w6) HRd.out (below_alloc (Below.refl _ _) _) (by simp) (by simp; omega) ?_; intro v7 w7 ho7 hb7 hg7 hat7; obtain ⟨A7, c7, rfl, hc7, hC7⟩ := copy_of HLn.out hN10 (List.nil_append bs) ho7; have HC7 := Lib.hid hC7; have HR7 := Lib.hid (Kd.R_below HR5.out hb7); have HO7 := Lib.hid (HO6.out.below hb7); have HCb7 := Lib.hid (Kd.C_below HC6.out hb7); have HB7 := Lib.hid (HB6.out.trans (hb7.mono HB6.out.size)); have hs7 := hb7.size; clear ho7 hb7 hg7 hat7 hC7 HR5 HO6 HC6 HB6 HRd))
    refine (refDec_call w.heap.size bs N HLn.out D1 D2 HD.out A7 c7 w7 HB7.out.size HC7.out hc7 hN10 HX.out).mono ?_
    rintro e w8 ⟨A8, c8, rfl, hc8, hC8, hb8⟩
    have HC8 := Lib.hid hC8
    have HR8 := Lib.hid (Kd.R_below HR7.out hb8)
    have HO8 := Lib.hid (HO7.out.below hb8)
    have HCb8 := Lib.hid (Kd.C_below HCb7.out hb8)
    have HB8 := Lib.hid (HB7.out.trans (hb8.mono HB7.out.size))
    have hs8 := hb8.size
    clear hC8 hb8 HC7 HR7 HO7 HCb7 HB7
    obtain ⟨S0, hS0⟩ : ∃ S0, S0 = strOf bs := ⟨_, rfl⟩
    obtain ⟨S1, hS1⟩ : ∃ S1, S1 = strOf (bs ++ t8) := ⟨_, rfl⟩
    have hk4 := whole_str (cw := cw) HO8.out HLn.out hN10 HX.out
    have hk0 := str_n (c := c) HCb8.out HLn.out HX.out
    have hadd := strOf_app bs
    rw [← hS0] at hk0 hadd
    rw [← hS1] at hk4 hadd
    have hsz : ¬ 9223372036854775807 < S0.size + 8 := by
      have h1 := strOf_size bs
      rw [← hS0, HLn.out] at h1
      rw [h1]; omega
    clear hS0 hS1
    go_wp2_with fail
    refine (same_ok A5 A8 c5 c8 D1 w8 (Kd.R_reads' HR8.out).2.2 hc5 (Kd.R_reads' HC8.out).2.2 hc8 (by omega)).mono ?_
    rintro e w9 ⟨rfl, hdr9⟩
    have hb9 : Below w8.heap.size w8 w9 := by
      obtain ⟨nd, rfl⟩ := hdr9
      exact pw_below_drewN (Below.refl _ _) nd
    have HR9 := Lib.hid (Kd.R_below HR8.out hb9)
    have HC9 := Lib.hid (Kd.R_below HC8.out hb9)
    have HO9 := Lib.hid (HO8.out.below hb9)
    have HB9 := Lib.hid (HB8.out.trans (hb9.mono HB8.out.size))
    have hs9 := hb9.size
    clear hk4 hk0 hadd hsz hb9 hdr9 HR8 HC8 HO8 HCb8 HB8
    go_upto_region 9 with fail
    go_cut [103] from 81 to 103 (fun s103 wx => s103 = .bool false ∧ wx = w9)
    case first =>
      by_cases hD2 : D2 < 0
      · obtain rfl : E = 0 := by have := HE.out; rw [if_pos hD2] at this; exact this
        obtain rfl : P = 0 := by have := HP.out; rw [if_pos hD2] at this; exact this
        have hq1 : decide ((0 : Int) ≤ D2) = false := by simp; omega
        have hq2 : decide (D2 < (0 : Int)) = true := by simp; omega
        go_wp2_with fail
        go_meet
        case rel => exact ⟨rfl, rfl⟩
      · obtain rfl : E = 221 := by have := HE.out; rw [if_neg hD2] at this; exact this
        obtain rfl : P = D2 := by have := HP.out; rw [if_neg hD2] at this; exact this
        have hq1 : decide ((0 : Int) ≤ P) = true := by simp; omega
        have hq2 : decide (P < (0 : Int)) = false := by simp; omega
        go_wp2_with fail
        go_meet
        case rel => exact ⟨rfl, rfl⟩
    case rest =>
      obtain ⟨rfl, rfl⟩ := hcut
      go_wp2_with fail
      refine (btw_ref _).mono ?_
      rintro e w10 ⟨A10, c10, rfl, hc10, hC10, hb10⟩
      have HC10 := Lib.hid hC10
      have HR10 := Lib.hid (Kd.R_below HR9.out hb10)
      have HD10 := Lib.hid (Kd.R_below HC9.out hb10)
      have HO10 := Lib.hid (HO9.out.below hb10)
      have HB10 := Lib.hid (HB9.out.trans (hb10.mono HB9.out.size))
      have hs10 := hb10.size
      clear hC10 hb10 HR9 HC9 HO9 HB9
      go_wp2_with fail
      refine (btw_call w.heap.size A10 c10 w10 HB10.out.size (HW.out.below HB10.out) HC10.out hc10).mono ?_
      rintro e w12 ⟨A12, c12, rfl, hc12, hR12, hb12⟩
      have HK12 := Lib.hid hR12
      have HR12 := Lib.hid (Kd.R_below HR10.out hb12)
      have HD12 := Lib.hid (Kd.R_below HD10.out hb12)
      have HO12 := Lib.hid (HO10.out.below hb12)
      have HB12 := Lib.hid (HB10.out.trans (hb12.mono HB10.out.size))
      have hs12 := hb12.size
      clear hR12 hb12 HC10 HR10 HD10 HO10 HB10
      go_wp2_with fail
      refine (dec_call w.heap.size bs N HLn.out D1 D2 HD.out (some ⟨g, 0, none⟩) cw w12 HB12.out.size (HW.out.below HB12.out) (whole_C HO12.out HLn.out hN10) (by omega) hN10 HX.out).mono ?_
      rintro e w13 ⟨A13, c13, rfl, hc13, hR13, hb13⟩
      rw [← HE.out, ← HP.out]
      have HM13 := Lib.hid hR13
      have HK13 := Lib.hid (Kd.R_below HK12.out hb13)
      have HR13 := Lib.hid (Kd.R_below HR12.out hb13)
      have HD13 := Lib.hid (Kd.R_below HD12.out hb13)
      have HO13 := Lib.hid (HO12.out.below hb13)
      have HB13 := Lib.hid (HB12.out.trans (hb13.mono HB12.out.size))
      have hs13 := hb13.size
      clear hR13 hb13 HK12 HR12 HD12 HO12 HB12
      go_wp2_with fail
      refine (dec_call w.heap.size bs N HLn.out D1 D2 HD.out (some ⟨g, 0, none⟩) cw w13 HB13.out.size (HW.out.below HB13.out) (whole_C HO13.out HLn.out hN10) (by omega) hN10 HX.out).mono ?_
      rintro e w14 ⟨A14, c14, rfl, hc14, hR14, hb14⟩
      rw [← HE.out, ← HP.out]
      clear HE HP
      have HW14 := Lib.hid hR14
      have HM14 := Lib.hid (Kd.R_below HM13.out hb14)
      have HK14 := Lib.hid (Kd.R_below HK13.out hb14)
      have HR14 := Lib.hid (Kd.R_below HR13.out hb14)
      have HD14 := Lib.hid (Kd.R_below HD13.out hb14)
      have HO14 := Lib.hid (HO13.out.below hb14)
      have HB14 := Lib.hid (HB13.out.trans (hb14.mono HB13.out.size))
      have hs14 := hb14.size
      clear hR14 hb14 HM13 HK13 HR13 HD13 HO13 HB13
      go_wp2_with fail
      go_loopw [21, 22] (fun v21 v22 wh => ∃ k : Nat, k ≤ 20 ∧ v22 = .int .i64 k ∧ Hid (Kd.R (Kd.slice 35 k35) 22 wh w14.heap.size (fun _ => True) v21 (heldR k)) ∧ Hid (Below w14.heap.size w14 wh)) (fun _ i _ => 20 - (RowKit.intOf i).toNat)
      case atStart => exact ⟨0, by omega, rfl, Kd.R_nil _ _ _ _ _, Below.refl _ _⟩
      case round =>
        obtain ⟨k, hk, rfl, HRk, HBk⟩ := hrel
        by_cases hlt : k < 20
        · have hwk : IntKind.u64.wrap (k : Int) = (k : Int) := u64w k (by omega)
          go_wp2_with fail
          have HBwk : Hid (Below w.heap.size w wr) := HB14.out.trans (HBk.out.mono HB14.out.size)
          refine (say_ref (k : Int) 3 5 (by omega) (by omega) (by decide) (by decide) (by decide) (by decide) wr).mono ?_
          rintro e wn ⟨A23, c23, rfl, hc23, hC23, hb23⟩
          have HRk1 := Lib.hid (Kd.R_below HRk.out hb23)
          have HBk1 := Lib.hid (HBk.out.trans (hb23.mono HBk.out.size))
          have HBw1 := Lib.hid (HBwk.out.trans (hb23.mono HBwk.out.size))
          have HC23 := Lib.hid hC23
          clear hb23 hC23 HRk HBk HBwk
          go_wp2_with fail
          refine (say_call w14.heap.size k (by omega) A23 c23 wn HBk1.out.size (HW.out.below HBw1.out) HC23.out hc23).mono ?_
          rintro e wx ⟨A25, c25, rfl, hc25, hr25, hb25⟩
          have HRk2 := Lib.hid (Kd.R_below HRk1.out hb25)
          have HVL := Lib.hid (Kd.R_lt HRk1.out)
          have HBk2 := Lib.hid (HBk1.out.trans (hb25.mono HBk1.out.size))
          have HRx := Lib.hid hr25
          have HSx := Lib.hid hb25.size
          have Hlen := heldR_len k
          clear hr25 hb25 HRk1 HBk1 HBw1 HC23
          go_wp2_with (first | ((with_reducible refine gate_builtin (b := .append) (xs := #[.tmp 153, .tmp 155]) rfl ?_); at_builtin; refine Kd.R_append (Kd.slice 35 k35) (w0 := w14) w14.heap.size rfl (.tmp 153) (.tmp 155) 44 22 (.slice none 0 0) 24 rfl Tryz.underlying44 infoSl22 rfl (by decide) (by omega) u21 (heldR k) [sayO (k : Int) 3 5] [.slice A25 1 c25] (fun _ => True) (fun k_ => wn.heap.size ≤ k_ ∧ k_ < wx.heap.size) rfl rfl ⟨_, rfl, HRx.out⟩ (fun k_ hk => ⟨trivial, fun he => by have := HVL.out k_ he.symm; omega⟩) (fun _ _ => trivial) HRk2.out HBk2.out HBk2.out.size (by rw [Hlen]; omega) ?_; intro v1 w1 ho1 hb1 hg1 hat1; rw [← heldR_succ] at ho1; have HRn := Lib.hid ho1; have HBn := Lib.hid hb1; clear ho1 hb1 hg1 hat1))
          go_roundw
          case rel => exact ⟨k + 1, by omega, by go_num, HRn, HBn⟩
          case measure => simp [RowKit.intOf]; omega
        · obtain ⟨kh, hkh⟩ : ∃ kh, kh = k := ⟨_, rfl⟩
          have Hkh : Hid (kh = 20) := by show kh = 20; omega
          rw [← hkh] at HRk hlt ⊢
          clear hkh hk
          obtain ⟨gh, ch, hgh, hgh0, hgh1, _⟩ := Kd.R_form HRk.out (by rw [heldR_len, Hkh.out]; omega)
          rw [heldR_len] at hgh
          subst hgh
          have hCh := (Kd.R_reads' HRk.out).2.2
          rw [heldR_len] at hCh
          have HCh := Lib.hid hCh
          have hch : kh ≤ ch := by
            have := (Kd.R_reads' HRk.out).2.1
            omega
          have hs15 : w14.heap.size ≤ wr.heap.size := HBk.out.size
          have HB15 := Lib.hid (HB14.out.trans (HBk.out.mono HB14.out.size))
          have HR15 := Lib.hid (Kd.R_below HR14.out HBk.out)
          have HK15 := Lib.hid (Kd.R_below HK14.out HBk.out)
          have HM15 := Lib.hid (Kd.R_below HM14.out HBk.out)
          have HW15 := Lib.hid (Kd.R_below HW14.out HBk.out)
          have HD15 := Lib.hid (Kd.R_below HD14.out HBk.out)
          have HO15 := Lib.hid (HO14.out.below HBk.out)
          clear hCh HRk HBk HB14 HR14 HK14 HM14 HW14 HD14 HO14 hgh0 hgh1
          obtain ⟨w15, hw15⟩ : ∃ w15, w15 = wr := ⟨_, rfl⟩
          rw [← hw15] at HCh hs15 HB15 HR15 HK15 HM15 HW15 HD15 HO15 ⊢
          clear hw15
          go_wp2_with fail
          clear hlt
          go_loop [28] (fun v28 => ∃ k : Nat, k ≤ kh ∧ v28 = .int .i64 k) (fun i => kh - (RowKit.intOf i).toNat)
          case atStart => exact ⟨0, by omega, rfl⟩
          case round =>
            obtain ⟨k, hk, rfl⟩ := hrel
            by_cases hlt : k < kh
            · have hd20 : decide ((k : Int) < 20) = true := by have := Hkh.out; simp; omega
              have hkI : (k : Int) < (kh : Int) := by omega
              have hwk : IntKind.u64.wrap (k : Int) = (k : Int) := u64w k (by have := Hkh.out; omega)
              obtain ⟨ad, cc, hcell, hel⟩ := heldR_at HCh.out hlt
              have hk20 : k < 20 := by have := Hkh.out; omega
              go_wp2_with fail
              go_round
              case rel => exact ⟨k + 1, by omega, by go_num⟩
              case measure => simp [RowKit.intOf]; omega
            · have hd20 : decide ((k : Int) < 20) = false := by have := Hkh.out; simp; omega
              go_wp2_with fail
              clear hlt hk hd20 HCh hch Hkh
              have hkb : Hid (KeepBut w15 w15 g none) := KeepBut.refl _ _ _
              go_loopw [29] (fun v29 wh => ∃ (i : Nat) (b2 : List Int), i ≤ N ∧ v29 = .int .i64 i ∧ Hid (b2.length = N) ∧ Hid (Crc.Bytes b2) ∧ Hid (BRow wh g (b2 ++ t8)) ∧ Hid (Below w.heap.size w wh) ∧ Hid (KeepBut w15 wh g none)) (fun i _ => N - (RowKit.intOf i).toNat)
              case atStart => exact ⟨0, bs, by omega, rfl, HLn, HX, HO15, HB15, hkb⟩
              case round =>
                clear HB15 HO15 hkb
                obtain ⟨i, b2, hi, rfl, HL2, HX2, HO2, HB2, HK2⟩ := hrel
                by_cases hlt : i < N
                · have hdi : decide ((i : Int) < (N : Int)) = true := by simp; omega
                  have hi2 : i < b2.length := by rw [HL2.out]; exact hlt
                  by_cases h7 : (i : Int) % 7 = 3
                  · have h73 : ((i : Int) % 7 == 3) = true := beq_iff_eq.2 h7
                    obtain ⟨b, hbq⟩ : ∃ b, b = b2[i] := ⟨_, rfl⟩
                    have hcb := HO2.out.cell (get_t8 hi2)
                    rw [← hbq] at hcb
                    obtain ⟨hcb1, hcb2⟩ := hcb
                    have hby := HX2.out b (by rw [hbq]; exact List.getElem_mem hi2)
                    obtain ⟨y, hxy, hy0, hy1⟩ := xor1 b hby.1 hby.2
                    have HOn : Hid (BRow (wr.setCell ⟨g, i, none⟩ (.int .u8 y)) g (b2.set i y ++ t8)) := by
                      have h := HO2.out.set (i := i) (by rw [List.length_append]; omega) y
                      rw [set_t8 hi2] at h; exact h
                    have HBn : Hid (Below w.heap.size w (wr.setCell ⟨g, i, none⟩ (.int .u8 y))) := HB2.out.setCell HG.out _
                    have HKn : Hid (KeepBut w15 (wr.setCell ⟨g, i, none⟩ (.int .u8 y)) g none) := HK2.out.set_ _ _
                    have HXn : Hid (Crc.Bytes (b2.set i y)) := bytes_set' HX2.out ⟨hy0, hy1⟩
                    have HLs : Hid ((b2.set i y).length = N) := by
                      show (b2.set i y).length = N
                      rw [List.length_set]; exact HL2.out
                    have hiw : i < N + 8 := by omega
                    clear hbq hby hy0 hy1 HO2 HB2 HK2 hi2
                    go_wp2_with fail
                    go_roundw
                    case rel => exact ⟨i + 1, _, by omega, by go_num, HLs, HXn, HOn, HBn, HKn⟩
                    case measure => simp [RowKit.intOf]; omega
                  · have h73 : ((i : Int) % 7 == 3) = false := beq_eq_false_iff_ne.2 h7
                    go_wp2_with fail
                    go_roundw
                    case rel => exact ⟨i + 1, b2, by omega, by go_num, HL2, HX2, HO2, HB2, HK2⟩
                    case measure => simp [RowKit.intOf]; omega
                · obtain ⟨w20, hw20⟩ : ∃ w20, w20 = wr := ⟨_, rfl⟩
                  rw [← hw20] at HO2 HB2 HK2 ⊢
                  clear hw20
                  have hgl := HGl.out
                  have HR20 := Lib.hid (Kd.R_keep HR15.out HK2.out (fun k hk => by have := hk.1; omega))
                  have HK20 := Lib.hid (Kd.R_keep HK15.out HK2.out (fun k hk => by have := hk.1; omega))
                  have HM20 := Lib.hid (Kd.R_keep HM15.out HK2.out (fun k hk => by have := hk.1; omega))
                  have HW20 := Lib.hid (Kd.R_keep HW15.out HK2.out (fun k hk => by have := hk.1; omega))
                  have HD20 := Lib.hid (Kd.R_keep HD15.out HK2.out (fun k hk => by have := hk.1; omega))
                  obtain ⟨F1, F2, hF⟩ : ∃ F1 F2, decode b2 = (F1, F2) := ⟨_, _, rfl⟩
                  have hFl : F1.length ≤ 1000 := by
                    have := decode_len b2 (by rw [HL2.out]; exact hN10)
                    rw [hF] at this; exact this
                  have HF := Lib.hid hF
                  have hs20 : w15.heap.size ≤ w20.heap.size := HK2.out.1
                  have hdn : decide ((i : Int) < (N : Int)) = false := by simp; omega
                  clear hF HK2 HR15 HK15 HM15 HW15 HD15
                  go_wp2_with fail
                  refine (dec_call w.heap.size b2 N HL2.out F1 F2 HF.out (some ⟨g, 0, none⟩) cw w20 HB2.out.size (HW.out.below HB2.out) (whole_C HO2.out HL2.out hN10) (by omega) hN10 HX2.out).mono ?_
                  rintro e w21 ⟨A30, c30, rfl, hc30, hR30, hb21⟩
                  obtain ⟨E, hE⟩ : ∃ E : Int, E = (if F2 < 0 then 0 else 221) := ⟨_, rfl⟩
                  obtain ⟨P2, hP⟩ : ∃ P : Int, P = (if F2 < 0 then 0 else F2) := ⟨_, rfl⟩
                  rw [← hE, ← hP]
                  have HP := Lib.hid hP
                  have HX21 := Lib.hid hR30
                  have HO21 := Lib.hid (HO2.out.below hb21)
                  have HR21 := Lib.hid (Kd.R_below HR20.out hb21)
                  have HK21 := Lib.hid (Kd.R_below HK20.out hb21)
                  have HM21 := Lib.hid (Kd.R_below HM20.out hb21)
                  have HW21 := Lib.hid (Kd.R_below HW20.out hb21)
                  have HD21 := Lib.hid (Kd.R_below HD20.out hb21)
                  have HB21 := Lib.hid (HB2.out.trans (hb21.mono HB2.out.size))
                  have hs21 := hb21.size
                  clear hE hP hR30 hb21 HO2 HR20 HK20 HM20 HW20 HD20 HB2
                  have HRd : Hid (ReadsInt (w21.alloc (.cells #[] 5)) .u8 (some ⟨g, 0, none⟩) N b2) := C_reads (Kd.C_below (whole_C HO21.out HL2.out hN10) (below_alloc (Below.refl _ _) _))
                  go_wp2_with (first | ((with_reducible refine gate_builtin (b := .append) (xs := #[.tmp 206, .tmp 210]) rfl ?_); at_builtin; refine print_append_row (w0 := w21) w21.heap.size rfl (.tmp 206) (.tmp 210) 37 5 .u8 1 rfl Tryz.underlying37 info5 (by decide) (.slice (some ⟨w21.heap.size, 0, none⟩) 0 0) [] b2 (some ⟨g, 0, none⟩) N cw rfl rfl (own_empty w21) HRd.out (below_alloc (Below.refl _ _) _) (by simp) (by simp; omega) ?_; intro v7 w22 ho7 hb7 hg7 hat7; obtain ⟨A7, c7', rfl, hc7', hC7⟩ := copy_of HL2.out hN10 (List.nil_append b2) ho7; have HC22 := Lib.hid hC7; have HX22 := Lib.hid (Kd.R_below HX21.out hb7); have HR22 := Lib.hid (Kd.R_below HR21.out hb7); have HK22 := Lib.hid (Kd.R_below HK21.out hb7); have HM22 := Lib.hid (Kd.R_below HM21.out hb7); have HW22 := Lib.hid (Kd.R_below HW21.out hb7); have HD22 := Lib.hid (Kd.R_below HD21.out hb7); have HB22 := Lib.hid (HB21.out.trans (hb7.mono HB21.out.size)); have hs22 := hb7.size; clear ho7 hb7 hg7 hat7 hC7 HX21 HR21 HK21 HM21 HW21 HD21 HB21 HO21 HRd))
                  refine (refDec_call w.heap.size b2 N HL2.out F1 F2 HF.out A7 c7' w22 HB22.out.size HC22.out hc7' hN10 HX2.out).mono ?_
                  rintro e w23 ⟨A33, c33, rfl, hc33, hC33, hb23⟩
                  have HY23 := Lib.hid hC33
                  have HX23 := Lib.hid (Kd.R_below HX22.out hb23)
                  have HR23 := Lib.hid (Kd.R_below HR22.out hb23)
                  have HK23 := Lib.hid (Kd.R_below HK22.out hb23)
                  have HM23 := Lib.hid (Kd.R_below HM22.out hb23)
                  have HW23 := Lib.hid (Kd.R_below HW22.out hb23)
                  have HD23 := Lib.hid (Kd.R_below HD22.out hb23)
                  have HB23 := Lib.hid (HB22.out.trans (hb23.mono HB22.out.size))
                  have hs23 := hb23.size
                  clear hC33 hb23 HC22 HX22 HR22 HK22 HM22 HW22 HD22 HB22
                  go_wp2_with fail
                  refine (same_ok A30 A33 c30 c33 F1 w23 (Kd.R_reads' HX23.out).2.2 hc30 (Kd.R_reads' HY23.out).2.2 hc33 (by omega)).mono ?_
                  rintro e w24 ⟨rfl, hdr⟩
                  have hb24 : Below w23.heap.size w23 w24 := by
                    obtain ⟨nd, rfl⟩ := hdr
                    exact pw_below_drewN (Below.refl _ _) nd
                  have HR24 := Lib.hid (Kd.R_below HR23.out hb24)
                  have HK24 := Lib.hid (Kd.R_below HK23.out hb24)
                  have HM24 := Lib.hid (Kd.R_below HM23.out hb24)
                  have HW24 := Lib.hid (Kd.R_below HW23.out hb24)
                  have HD24 := Lib.hid (Kd.R_below HD23.out hb24)
                  have HB24 := Lib.hid (HB23.out.trans (hb24.mono HB23.out.size))
                  have hs24 := hb24.size
                  clear hdr hb24 HX23 HY23 HR23 HK23 HM23 HW23 HD23 HB23
                  go_upto_region 35 with fail
                  go_cut [236] from 218 to 236 (fun s236 wx => s236 = .bool false ∧ wx = w24)
                  case first =>
                    by_cases hF2 : F2 < 0
                    · obtain rfl : P2 = 0 := by have := HP.out; rw [if_pos hF2] at this; exact this
                      have hq1 : decide ((0 : Int) ≤ F2) = false := by simp; omega
                      have hq2 : decide (F2 < (0 : Int)) = true := by simp; omega
                      go_wp2_with fail
                      go_meet
                      case rel => exact ⟨rfl, rfl⟩
                    · obtain rfl : P2 = F2 := by have := HP.out; rw [if_neg hF2] at this; exact this
                      have hq1 : decide ((0 : Int) ≤ P2) = true := by simp; omega
                      have hq2 : decide (P2 < (0 : Int)) = false := by simp; omega
                      go_wp2_with fail
                      go_meet
                      case rel => exact ⟨rfl, rfl⟩
                  case rest =>
                    obtain ⟨rfl, rfl⟩ := hcut
                    clear HP
                    go_wp2_with fail
                    refine (same_ok A13 A8 c13 c8 D1 _ (Kd.R_reads' HM24.out).2.2 hc13 (Kd.R_reads' HD24.out).2.2 hc8 (by omega)).mono ?_
                    rintro e w25 ⟨rfl, hdr⟩
                    have hb25 : Below wc.heap.size wc w25 := by
                      obtain ⟨nd, rfl⟩ := hdr
                      exact pw_below_drewN (Below.refl _ _) nd
                    have HR25 := Lib.hid (Kd.R_below HR24.out hb25)
                    have HK25 := Lib.hid (Kd.R_below HK24.out hb25)
                    have HM25 := Lib.hid (Kd.R_below HM24.out hb25)
                    have HW25 := Lib.hid (Kd.R_below HW24.out hb25)
                    have HD25 := Lib.hid (Kd.R_below HD24.out hb25)
                    have HB25 := Lib.hid (HB24.out.trans (hb25.mono HB24.out.size))
                    have hs25 := hb25.size
                    clear hdr hb25 HR24 HK24 HM24 HW24 HD24 HB24
                    go_wp2_with fail
                    refine (same_ok A14 A8 c14 c8 D1 w25 (Kd.R_reads' HW25.out).2.2 hc14 (Kd.R_reads' HD25.out).2.2 hc8 (by omega)).mono ?_
                    rintro e w26 ⟨rfl, hdr⟩
                    have hb26 : Below w25.heap.size w25 w26 := by
                      obtain ⟨nd, rfl⟩ := hdr
                      exact pw_below_drewN (Below.refl _ _) nd
                    have HR26 := Lib.hid (Kd.R_below HR25.out hb26)
                    have HK26 := Lib.hid (Kd.R_below HK25.out hb26)
                    have HM26 := Lib.hid (Kd.R_below HM25.out hb26)
                    have HW26 := Lib.hid (Kd.R_below HW25.out hb26)
                    have HB26 := Lib.hid (HB25.out.trans (hb26.mono HB25.out.size))
                    have hs26 := hb26.size
                    clear hdr hb26 HR25 HK25 HM25 HW25 HD25 HB25
                    go_wp2_with fail
                    have hbA : Below w26.heap.size w26 (w26.alloc (.cells #[.slice A5 D1.length c5, .slice A12 2 c12, .slice A13 D1.length c13, .slice A14 D1.length c14] 22)) := below_alloc (Below.refl _ _) _
                    have hCm := came_four (L := w26.heap.size) (H := w26.heap.size + 1) (eo := 22) xA yA HR26.out HK26.out HM26.out HW26.out (by omega) (by omega) (by omega) (by omega) (by omega) (by omega) (by omega) (by omega) HB26.out.size (by decide) (by omega) (by decide) (by omega) (by omega) (fun _ => rfl) (fun _ => rfl)
                    have hP1 := p1_four (W := w26.alloc (.cells #[.slice A5 D1.length c5, .slice A12 2 c12, .slice A13 D1.length c13, .slice A14 D1.length c14] 22)) (L := w26.heap.size) (eo := 22) xA (Kd.R_below HR26.out hbA) (Kd.R_below HK26.out hbA) (Kd.R_below HM26.out hbA) (Kd.R_below HW26.out hbA) (heap_alloc_new _ _)
                    refine (alone_ok (N := 4) (cN := 4) w _ hCm hP1 (HB26.out.trans (hbA.mono HB26.out.size)) (by simp) (by decide) (by decide)).mono ?_
                    rintro e w27 ⟨rfl, hb27⟩
                    have HB27 := Lib.hid hb27
                    clear hCm hP1 hbA hb27 HR26 HK26 HM26 HW26 HB26
                    go_wp2_with fail
                    go_ret
                    exact ⟨rfl, HB27.out⟩
end Go.Proofs.YtohighedgdlflaaGreatDoor

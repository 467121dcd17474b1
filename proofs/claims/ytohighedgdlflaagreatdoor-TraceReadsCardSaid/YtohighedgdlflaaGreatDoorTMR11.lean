/- Texts of a proof that TraceReads holds, for every row of bytes, merged in order. -/
import Derived.Test.YtohighedgdlflaaGreatDoorTMR8
import Derived.Test.YtohighedgdlflaaGreatDoorTMR10
import Derived.BigQuiet
import Derived.Deep.QuietTactic
/- The document's Decode answers as decode says. -/
namespace Go.Proofs.YtohighedgdlflaaGreatDoor
open Go.Proofs.YtohighedgdlflaaGreatDoorW.PrintLast Go.Shelf Go.RowKit Go.Sort Go.Lib Go.Proofs.YtohighedgdlflaaGreatDoorW.PrintWords Go.Proofs.YtohighedgdlflaaGreatDoor.PR
set_option linter.unusedVariables false
set_option linter.unusedSimpArgs false
theorem getz (bs : List Int) (N : Nat) (hn : bs.length = N) (A : Option Addr) (c : Nat) (q z : Int) (p n : Nat) (w : World) (hR : Kd.C (Kd.int .u8) w A N bs) (hb : Crc.Bytes bs) (hq : q = (p : Int)) (hz : z = (n : Int)) (hp : p + n ≤ N) (hn8 : n ≤ 8) :
    Calls Tryz.prog 49 #[.slice A N c, .int .i64 q, .int .i64 z] w fun e w' => e = .returned (.int .u64 (lev ((bs.drop p).take n))) ∧ w = w' := by
  subst hq hz hn
  exact get_ok bs A c p n w hR hb hp hn8
theorem refSum_n (xs : List Int) (n : Nat) (hn : xs.length = n) (A : Option Addr) (c : Nat) (w : World) (hR : Kd.C (Kd.int .u8) w A n xs) (hc : n ≤ c) (hb : Crc.Bytes xs) (hl : n < 1000000000) :
    Calls Tryz.prog 50 #[.slice A n c] w fun e w' => e = .returned (.int .u32 (Crc.crc xs)) ∧ Drawn0 w w' := by
  subst hn
  exact cloisterref22_Sum.calls _ A c xs _ w hR hc (sum_f xs hb hl)
theorem crc_n {xs : List Int} (h : Crc.Bytes xs) : ∃ n : Nat, Crc.crc xs = (n : Int) ∧ n < 4294967296 := by
  have := crc_b h
  exact ⟨(Crc.crc xs).toNat, by omega, by omega⟩
/-- The two results for an answer. -/
def RefD (w : World) (r : List S35 × Int) (e : Ending) (w' : World) : Prop :=
  ∃ v, e = .returned (.tuple #[v, .int .i64 r.2]) ∧ Kd.R k35 35 w' w.heap.size (fun _ => True) v r.1 ∧ Below w.heap.size w w'
theorem RefD.bad {w W : World} {p : Int} (h : Below w.heap.size w W) : RefD w ([], p) (.returned (.tuple #[.slice none 0 0, .int .i64 p])) W :=
  ⟨.slice none 0 0, rfl, Kd.R_nil _ _ _ _ _, h⟩
theorem lev_b4 {bs : List Int} (h : Crc.Bytes bs) (p : Nat) : ∃ m : Nat, lev ((bs.drop p).take 4) = (m : Int) ∧ m < 4294967296 := by
  have := lev_bounds (cut_bytes h p 4)
  have hl : ((bs.drop p).take 4).length ≤ 4 := List.length_take_le _ _
  have h2 : (2 : Nat) ^ (8 * ((bs.drop p).take 4).length) ≤ 2 ^ 32 := Nat.pow_le_pow_right (by omega) (by omega)
  have h3 : lev ((bs.drop p).take 4) < 4294967296 := Int.lt_of_lt_of_le this.2 (by
    calc (2 : Int) ^ (8 * ((bs.drop p).take 4).length) ≤ 2 ^ 32 := by exact_mod_cast h2
      _ = 4294967296 := by decide)
  exact ⟨(lev ((bs.drop p).take 4)).toNat, by omega, by omega⟩
theorem lev_b8 {bs : List Int} (h : Crc.Bytes bs) (p : Nat) : 0 ≤ lev ((bs.drop p).take 8) ∧ lev ((bs.drop p).take 8) < 18446744073709551616 := by
  have := lev_bounds (cut_bytes h p 8)
  have hl : ((bs.drop p).take 8).length ≤ 8 := List.length_take_le _ _
  have h2 : (2 : Nat) ^ (8 * ((bs.drop p).take 8).length) ≤ 2 ^ 64 := Nat.pow_le_pow_right (by omega) (by omega)
  exact ⟨this.1, Int.lt_of_lt_of_le this.2 (by
    calc (2 : Int) ^ (8 * ((bs.drop p).take 8).length) ≤ 2 ^ 64 := by exact_mod_cast h2
      _ = 18446744073709551616 := by decide)⟩
theorem lev_one {bs : List Int} {p : Nat} (hp : p < bs.length) : lev ((bs.drop p).take 1) = bs.getD p 0 := by
  rw [lev_front (n := 0) hp]; simp [lev]
theorem add_pos' (ab ao : Nat) (asp) (n : Nat) (h : 0 < n) : (⟨ab, ao, asp⟩ : Addr).add n = ⟨ab, ao + n, none⟩ := by
  unfold Addr.add
  rw [if_neg (by omega)]
theorem u32_small (n : Nat) (h : n < 4294967296) : IntKind.u32.wrap (n : Int) = (n : Int) := by
  show (n : Int) % 4294967296 = _
  omega
theorem byte_n {bs : List Int} (h : Crc.Bytes bs) {p : Nat} (hp : p < bs.length) : ∃ b : Nat, bs.getD p 0 = (b : Int) ∧ b < 256 := by
  have := h (bs.getD p 0) (by rw [List.getD_eq_getElem?_getD, List.getElem?_eq_getElem hp]; exact List.getElem_mem _)
  exact ⟨(bs.getD p 0).toNat, by omega, by omega⟩
theorem lev_n8 {bs : List Int} (h : Crc.Bytes bs) (p : Nat) : ∃ m : Nat, lev ((bs.drop p).take 8) = (m : Int) ∧ m < 18446744073709551616 := by
  have := lev_b8 h p
  exact ⟨(lev ((bs.drop p).take 8)).toNat, by omega, by omega⟩
theorem cells6_of {W : World} {O : Nat} {v0 v1 v2 v3 v4 v5 : Value} (h : W.heap[O]? = some (.cells #[v0, v1, v2, v3, v4, v5] 35 (0, 0))) : W.cell? ⟨O, 0, none⟩ = some v0 ∧ W.cell? ⟨O, 1, none⟩ = some v1 ∧ W.cell? ⟨O, 2, none⟩ = some v2 ∧ W.cell? ⟨O, 3, none⟩ = some v3 ∧ W.cell? ⟨O, 4, none⟩ = some v4 ∧ W.cell? ⟨O, 5, none⟩ = some v5 := by
  refine ⟨?_, ?_, ?_, ?_, ?_, ?_⟩ <;> simp [World.cell?, h]
theorem add_one' (a : Addr) : a.add 1 = ⟨a.block, a.off + 1, none⟩ := by cases a; simp [Addr.add]
theorem add_two' (a : Addr) : a.add 2 = ⟨a.block, a.off + 2, none⟩ := by cases a; simp [Addr.add]
theorem add_three' (a : Addr) : a.add 3 = ⟨a.block, a.off + 3, none⟩ := by cases a; simp [Addr.add]
theorem add_zero' (a : Addr) : a.add 0 = a := by cases a; simp [Addr.add]
set_option maxRecDepth 100000 in
set_option maxHeartbeats 4000000 in
theorem refDecode_n (bs : List Int) (N : Nat) (hn : bs.length = N) (A : Option Addr) (c : Nat) (w : World) (hR : Kd.C (Kd.int .u8) w A N bs) (hc : N ≤ c) (hl : N ≤ 67108864) (hb : Crc.Bytes bs) :
    Calls Tryz.prog 17 #[.slice A N c] w (RefD w (decode bs)) := by
  have HR := Lib.hid hR
  have HX := Lib.hid hb
  have HN := Lib.hid hn
  clear hR hb hn
  go_enter Tryz.func17, Tryz.ntmps17
  go_wp2_with fail
  go_loopw [4] (fun v4 wh => ∃ i : Nat, i ≤ 4 ∧ v4 = .int .i64 i ∧ Hid (∀ t, t < i → badMagic bs t = false) ∧ Hid (Below w.heap.size w wh)) (fun i _ => 4 - (RowKit.intOf i).toNat)
  case atStart => exact ⟨0, by omega, rfl, fun t ht => absurd ht (by omega), Below.refl _ _⟩
  case round =>
    obtain ⟨i, hi, rfl, hbad, HB⟩ := hrel
    by_cases hlt : i < 4
    · by_cases hle : i < N
      · have hle' : i < bs.length := by rw [HN.out]; exact hle
        obtain ⟨ad, rfl, hcs⟩ := (C_reads (Kd.C_below HR.out HB.out)).2.2 (by omega)
        obtain ⟨b, hb⟩ : ∃ b, b = bs.getD i 0 := ⟨_, rfl⟩
        have hc0 : wr.cell? (ad.add i) = some (.int .u8 b) := by rw [hb]; exact hcs i hle
        clear hcs
        obtain ⟨m, hm⟩ : ∃ m, m = magicL.getD i 0 := ⟨_, rfl⟩
        by_cases hne : b = m
        · have hgood : Hid (∀ t, t < i + 1 → badMagic bs t = false) := by
            intro t ht
            by_cases e : t = i
            · subst e; rw [badMagic_at hle', ← hb, ← hm, hne]; simp
            · exact hbad.out t (by omega)
          subst hne
          clear hb hle'
          rcases (show i = 0 ∨ i = 1 ∨ i = 2 ∨ i = 3 by omega) with rfl | rfl | rfl | rfl
          all_goals
            simp only [magicL, List.getD_eq_getElem?_getD] at hm
            simp at hm
            subst hm
            have hd0 : decide (N = 0) = false := decide_eq_false (by omega)
            have e1 : (0 : Int) < (N : Int) := by omega
            try have e2 : (1 : Int) < (N : Int) := by omega
            try have e3 : (2 : Int) < (N : Int) := by omega
            try have e4 : (3 : Int) < (N : Int) := by omega
            try simp only [add_zero', add_one', add_two', add_three'] at hc0
            try have hd1 : decide ((N : Int) ≤ 1) = false := decide_eq_false (by omega)
            try have hd2 : decide ((N : Int) ≤ 2) = false := decide_eq_false (by omega)
            try have hd3 : decide ((N : Int) ≤ 3) = false := decide_eq_false (by omega)
            go_wp2_with fail
            go_quiet (fail)
            go_wp2_with fail
            go_roundw
            case rel => exact ⟨_, by omega, by first | rfl | go_num, hgood, pw_below_drewN HB.out _⟩
            case measure => simp [RowKit.intOf]
        · have hbd : Hid (decode bs = ([], (i : Int))) := decode_bad hbad.out (by rw [badMagic_at hle', ← hb, ← hm]; simpa using hne) hlt
          clear hb hle'
          rcases (show i = 0 ∨ i = 1 ∨ i = 2 ∨ i = 3 by omega) with rfl | rfl | rfl | rfl
          all_goals
            simp only [magicL, List.getD_eq_getElem?_getD] at hm
            simp at hm
            subst hm
            have hd0 : decide (N = 0) = false := decide_eq_false (by omega)
            have e1 : (0 : Int) < (N : Int) := by omega
            try have e2 : (1 : Int) < (N : Int) := by omega
            try have e3 : (2 : Int) < (N : Int) := by omega
            try have e4 : (3 : Int) < (N : Int) := by omega
            try simp only [add_zero', add_one', add_two', add_three'] at hc0
            try have hd1 : decide ((N : Int) ≤ 1) = false := decide_eq_false (by omega)
            try have hd2 : decide ((N : Int) ≤ 2) = false := decide_eq_false (by omega)
            try have hd3 : decide ((N : Int) ≤ 3) = false := decide_eq_false (by omega)
            try have hq0 : (b != ((({ data := #[67, 76, 84, 82] } : ByteArray)[0]).toNat : Int)) = true := bne_iff_ne.2 hne
            try have hq1 : (b != ((({ data := #[67, 76, 84, 82] } : ByteArray)[1]).toNat : Int)) = true := bne_iff_ne.2 hne
            try have hq2 : (b != ((({ data := #[67, 76, 84, 82] } : ByteArray)[2]).toNat : Int)) = true := bne_iff_ne.2 hne
            try have hq3 : (b != ((({ data := #[67, 76, 84, 82] } : ByteArray)[3]).toNat : Int)) = true := bne_iff_ne.2 hne
            go_wp2_with fail
            go_quiet (fail)
            go_wp2_with fail
            refine bodyPost_ret (results_tmp2 rfl _ _ _) rfl ?_
            rw [hbd.out]
            exact RefD.bad (pw_below_drewN HB.out _)
      · have hbd : Hid (decode bs = ([], (i : Int))) := decode_bad hbad.out (badMagic_len hlt (by rw [HN.out]; omega)) hlt
        have hd1 : decide ((N : Int) ≤ (i : Int)) = true := decide_eq_true (by omega)
        have hd2 : decide (N ≤ i) = true := decide_eq_true (by omega)
        go_wp2_with fail
        go_quiet (fail)
        go_wp2_with fail
        refine bodyPost_ret (results_tmp2 rfl _ _ _) rfl ?_
        rw [hbd.out]
        exact RefD.bad (pw_below_drewN HB.out _)
    · obtain rfl : i = 4 := by omega
      have hd : Hid (decode bs = decBody bs) := decode_good hbad.out
      clear hbad
      have HRw := Lib.hid (Kd.C_below HR.out HB.out)
      by_cases h12 : N < 12
      · have hbd : Hid (decode bs = ([], 4)) := by
          show decode bs = _
          rw [hd.out]; unfold decBody; rw [if_pos (by rw [HN.out]; exact h12)]
        have hI12 : (N : Int) < 12 := by omega
        clear hd
        go_wp2_with fail
        refine bodyPost_ret (results_tmp2 rfl _ _ _) rfl ?_
        rw [hbd.out]
        exact RefD.bad HB.out
      · have hI12 : ¬ (N : Int) < 12 := by omega
        obtain ⟨m, hm, hm32⟩ := lev_b4 HX.out 4
        have Hm := Lib.hid hm
        clear hm
        go_wp2_with fail
        refine (getz bs N HN.out A c 4 4 4 4 wr HRw.out HX.out rfl rfl (by omega) (by omega)).mono ?_
        rintro e w' ⟨rfl, rfl⟩
        rw [Hm.out]
        by_cases hlen : N = 12 + 22 * m
        · by_cases hbig : m ≤ 1000000
          · have hlI : (N : Int) = 12 + 22 * (m : Int) := by omega
            have hdb : Hid (decode bs = if lev ((bs.drop (N - 4)).take 4) ≠ Crc.crc (bs.take (N - 4)) then ([], ((N - 4 : Nat) : Int)) else decRows bs m 8 []) := by
              show decode bs = _
              rw [hd.out]; unfold decBody
              rw [HN.out, Hm.out, if_neg h12, if_neg (by omega)]
              simp
            obtain ⟨M, hM⟩ : ∃ M, M = N - 4 := ⟨_, rfl⟩
            rw [← hM] at hdb
            have eM : (N : Int) - 4 = (M : Int) := by omega
            have hM4 : M + 4 = N := by omega
            have HM := Lib.hid hM4
            have HLen := Lib.hid hlen
            clear hd hM
            have hdm : ((12 : Int) + 22 * (m : Int)) = (N : Int) := by omega
            have hM0 : (0 : Int) ≤ (M : Int) ∧ M ≤ N ∧ M ≤ c := by omega
            obtain ⟨hM0, hM1, hM2⟩ := hM0
            clear hlI hM4 hlen
            go_wp2_with fail
            have HXt : Hid (Crc.Bytes (bs.take M)) := fun x hx => HX.out x (List.mem_of_mem_take hx)
            obtain ⟨cr, hcr, hcr32⟩ := crc_n HXt.out
            have Hcr := Lib.hid hcr
            clear hcr
            have hCt : Kd.C (Kd.int .u8) wr A M (bs.take M) := by
              have h := HRw.out
              rw [← HN.out] at h
              have h2 := Kd.C_take h (m := M) (by rw [HN.out]; exact hM1)
              rwa [List.length_take, HN.out, Nat.min_eq_left hM1] at h2
            refine (refSum_n (bs.take M) M (by rw [List.length_take, HN.out]; omega) A c wr hCt (by omega) HXt.out (by omega)).mono ?_
            clear hCt
            rintro e w1 ⟨rfl, ⟨nd, rfl⟩⟩
            rw [Hcr.out]
            have HB1 := Lib.hid (pw_below_drewN HB.out nd)
            have HR1 := Lib.hid (Kd.C_drewN HRw.out nd)
            clear HB HRw
            obtain ⟨w1, hw1⟩ : ∃ w1, w1 = wr.drewN nd := ⟨_, rfl⟩
            rw [← hw1] at HB1 HR1 ⊢
            clear hw1
            go_wp2_with fail
            refine (getz bs N HN.out A c (M : Int) 4 M 4 w1 HR1.out HX.out rfl rfl (by have := HM.out; omega) (by omega)).mono ?_
            rintro e w' ⟨rfl, rfl⟩
            obtain ⟨g4, hg4, hg32⟩ := lev_b4 HX.out M
            rw [hg4]
            rw [hg4, Hcr.out] at hdb
            clear hg4 Hcr HXt
            by_cases heq : g4 = cr
            · subst heq
              have hdc : Hid (decode bs = decRows bs m 8 []) := by
                show decode bs = _
                rw [hdb.out]; simp
              clear hdb
              go_wp2_with fail
              go_loopw [6, 7] (fun v6 v7 wh => ∃ (i : Nat) (acc : List S35), i ≤ m ∧ v7 = .int .i64 i ∧ Hid (acc.length = i) ∧ Hid (decode bs = decRows bs (m - i) (8 + 22 * i) acc) ∧ Hid (Kd.R k35 35 wh w.heap.size (fun _ => True) v6 acc) ∧ Hid (Below w.heap.size w wh)) (fun _ i _ => m - (RowKit.intOf i).toNat)
              case atStart => exact ⟨0, [], by omega, rfl, rfl, hdc, Kd.R_nil _ _ _ _ _, HB1⟩
              case round =>
                clear hdc
                obtain ⟨i, acc, hi, rfl, hal, hdc, HA, HBi⟩ := hrel
                by_cases hlt : i < m
                · obtain ⟨p, hp⟩ : ∃ p, p = 8 + 22 * i := ⟨_, rfl⟩
                  have hpI : (8 : Int) + 22 * (i : Int) = (p : Int) := by omega
                  have hpN : p + 22 + 4 ≤ N := by have := HLen.out; omega
                  have hp8 : Hid (p = 8 + 22 * i) := hp
                  rw [← hp] at hdc
                  clear hp
                  have HXm := Lib.hid (Kd.C_below HR.out HBi.out)
                  obtain ⟨ad, rfl, hcs⟩ := (C_reads HXm.out).2.2 (by omega)
                  obtain ⟨ab, ao, asp⟩ := ad
                  obtain ⟨b1, hb1, hb1n⟩ := byte_n HX.out (p := p + 8) (by rw [HN.out]; omega)
                  obtain ⟨b2, hb2, hb2n⟩ := byte_n HX.out (p := p + 9) (by rw [HN.out]; omega)
                  have hc1 := hcs (p + 8) (by omega)
                  have hc2 := hcs (p + 9) (by omega)
                  rw [hb1] at hc1
                  rw [hb2] at hc2
                  rw [add_pos' _ _ _ _ (by omega)] at hc1 hc2
                  clear hcs
                  obtain ⟨f0, hf0, hf0n⟩ := lev_n8 HX.out p
                  obtain ⟨f3, hf3, hf3n⟩ := lev_b4 HX.out (p + 10)
                  obtain ⟨f4, hf4, hf4n⟩ := lev_b4 HX.out (p + 14)
                  obtain ⟨f5, hf5, hf5n⟩ := lev_b4 HX.out (p + 18)
                  have hrow : Hid (rowAt bs p = ⟨f0, b1, b2, f3, f4, f5⟩) := by
                    show rowAt bs p = _
                    unfold rowAt
                    rw [hf0, hf3, hf4, hf5, lev_one (by rw [HN.out]; omega), lev_one (by rw [HN.out]; omega), hb1, hb2]
                  have w10 : wrap64 ((p : Int) + 10) = (p : Int) + 10 := by unfold wrap64; omega
                  have w14 : wrap64 ((p : Int) + 14) = (p : Int) + 14 := by unfold wrap64; omega
                  have w18 : wrap64 ((p : Int) + 18) = (p : Int) + 18 := by unfold wrap64; omega
                  have hg0 : ∀ W, Below wr.heap.size wr W → Calls Tryz.prog 49 #[.slice (some ⟨ab, ao, asp⟩) N c, .int .i64 ((p : Nat) : Int), .int .i64 8] W fun e w' => e = .returned (.int .u64 (f0 : Nat)) ∧ W = w' := fun W hW => by
                    have := getz bs N HN.out (some ⟨ab, ao, asp⟩) c (p : Int) 8 p 8 W (Kd.C_below HXm.out hW) HX.out rfl rfl (by omega) (by omega)
                    rwa [hf0] at this
                  have hg3 : ∀ W, Below wr.heap.size wr W → Calls Tryz.prog 49 #[.slice (some ⟨ab, ao, asp⟩) N c, .int .i64 (wrap64 (((p : Nat) : Int) + 10)), .int .i64 4] W fun e w' => e = .returned (.int .u64 (f3 : Nat)) ∧ W = w' := fun W hW => by
                    have := getz bs N HN.out (some ⟨ab, ao, asp⟩) c ((p : Int) + 10) 4 (p + 10) 4 W (Kd.C_below HXm.out hW) HX.out (by omega) rfl (by omega) (by omega)
                    rwa [hf3, ← w10] at this
                  have hg4 : ∀ W, Below wr.heap.size wr W → Calls Tryz.prog 49 #[.slice (some ⟨ab, ao, asp⟩) N c, .int .i64 (wrap64 (((p : Nat) : Int) + 14)), .int .i64 4] W fun e w' => e = .returned (.int .u64 (f4 : Nat)) ∧ W = w' := fun W hW => by
                    have := getz bs N HN.out (some ⟨ab, ao, asp⟩) c ((p : Int) + 14) 4 (p + 14) 4 W (Kd.C_below HXm.out hW) HX.out (by omega) rfl (by omega) (by omega)
                    rwa [hf4, ← w14] at this
                  have hg5 : ∀ W, Below wr.heap.size wr W → Calls Tryz.prog 49 #[.slice (some ⟨ab, ao, asp⟩) N c, .int .i64 (wrap64 (((p : Nat) : Int) + 18)), .int .i64 4] W fun e w' => e = .returned (.int .u64 (f5 : Nat)) ∧ W = w' := fun W hW => by
                    have := getz bs N HN.out (some ⟨ab, ao, asp⟩) c ((p : Int) + 18) 4 (p + 18) 4 W (Kd.C_below HXm.out hW) HX.out (by omega) rfl (by omega) (by omega)
                    rwa [hf5, ← w18] at this
                  have HS : Hid (∀ W, Below wr.heap.size wr W → W.cell? ⟨ab, ao + (p + 8), none⟩ = some (.int .u8 (b1 : Nat)) ∧ W.cell? ⟨ab, ao + (p + 9), none⟩ = some (.int .u8 (b2 : Nat))) := fun W hW => ⟨(hW.cell (World.block_lt_of_cell? wr _ hc1)).trans hc1, (hW.cell (World.block_lt_of_cell? wr _ hc2)).trans hc2⟩
                  have HBc : Hid (Below wr.heap.size wr wr.drew) := below_drew (Below.refl _ _)
                  have i8 : (p : Int) + 8 < (N : Int) := by omega
                  have i9 : (p : Int) + 9 < (N : Int) := by omega
                  have j8 : (0 : Int) ≤ (p : Int) + 8 := by omega
                  have j9 : (0 : Int) ≤ (p : Int) + 9 := by omega
                  have t8 : ((p : Int) + 8).toNat = p + 8 := by omega
                  have t9 : ((p : Int) + 9).toNat = p + 9 := by omega
                  have a8 : (⟨ab, ao, asp⟩ : Addr).add (p + 8) = ⟨ab, ao + (p + 8), none⟩ := add_pos' _ _ _ _ (by omega)
                  have a9 : (⟨ab, ao, asp⟩ : Addr).add (p + 9) = ⟨ab, ao + (p + 9), none⟩ := add_pos' _ _ _ _ (by omega)
                  have w8 : wrap64 ((p : Int) + 8) = (p : Int) + 8 := by unfold wrap64; omega
                  have w9 : wrap64 ((p : Int) + 9) = (p : Int) + 9 := by unfold wrap64; omega
                  have wb1 : wrap64 (b1 : Int) = (b1 : Int) := by unfold wrap64; omega
                  have wb2 : wrap64 (b2 : Int) = (b2 : Int) := by unfold wrap64; omega
                  have u3_ : IntKind.u32.wrap (f3 : Int) = (f3 : Int) := u32_small f3 hf3n
                  have u4_ : IntKind.u32.wrap (f4 : Int) = (f4 : Int) := u32_small f4 hf4n
                  have u5_ : IntKind.u32.wrap (f5 : Int) = (f5 : Int) := u32_small f5 hf5n
                  clear hb1 hb2 hf0 hf3 hf4 hf5
                  go_wp2_with fail
                  clear hc1 hc2
                  refine start_ (n := 33) (S := fun w' => w'.cell? ⟨ab, ao + (p + 8), none⟩ = some (.int .u8 (b1 : Nat)) ∧ w'.cell? ⟨ab, ao + (p + 9), none⟩ = some (.int .u8 (b2 : Nat))) (ds := [32]) #[false, false, false, false, false, false, false, false, false, false, false, false, false, false, false, false, false, false, false, false, false, false, false, false, false, false, false, false, false, false, false, false, false] (by kernel_rfl) rfl rfl ⟨(HS.out _ HBc.out).1, (HS.out _ HBc.out).2⟩ (fun hHeld => ?_)
                  generalize wr.drew = W3 at HBc hHeld ⊢
                  refine pure_ (i := 0) (N := some 69) (v := ?_) (a' := ?_) #[true, false, false, false, false, false, false, false, false, false, false, false, false, false, false, false, false, false, false, false, false, false, false, false, false, false, false, false, false, false, false, false, false] rfl rfl (by kernel_rfl) (fun _ _ _ h => h) (Or.inl ⟨by rfl, ?_⟩) ?_ ?_
                  rotate_left
                  · intro w'
                    go_simp
                    with_reducible rfl
                  rotate_left
                  · simp only [Act.put, List.setIfInBounds_toArray, List.set_cons_zero, List.set_cons_succ, i64_w, i32_w]
                    rfl
                  refine pure_ (i := 1) (N := some 70) (v := ?_) (a' := ?_) #[true, true, false, false, false, false, false, false, false, false, false, false, false, false, false, false, false, false, false, false, false, false, false, false, false, false, false, false, false, false, false, false, false] rfl rfl (by kernel_rfl) (fun _ _ _ h => h) (Or.inl ⟨by rfl, ?_⟩) ?_ ?_
                  rotate_left
                  · intro w'
                    go_simp
                    with_reducible rfl
                  rotate_left
                  · simp only [Act.put, List.setIfInBounds_toArray, List.set_cons_zero, List.set_cons_succ, i64_w, i32_w]
                    rfl
                  refine pure_ (i := 3) (N := some 72) (v := ?_) (a' := ?_) #[true, true, false, true, false, false, false, false, false, false, false, false, false, false, false, false, false, false, false, false, false, false, false, false, false, false, false, false, false, false, false, false, false] rfl rfl (by kernel_rfl) (fun _ _ _ h => h) (Or.inl ⟨by rfl, ?_⟩) ?_ ?_
                  rotate_left
                  · intro w'
                    go_simp
                    with_reducible rfl
                  rotate_left
                  · simp only [Act.put, List.setIfInBounds_toArray, List.set_cons_zero, List.set_cons_succ, i64_w, i32_w]
                    rfl
                  refine pure_ (i := 4) (N := some 73) (v := ?_) (a' := ?_) #[true, true, false, true, true, false, false, false, false, false, false, false, false, false, false, false, false, false, false, false, false, false, false, false, false, false, false, false, false, false, false, false, false] rfl rfl (by kernel_rfl) (fun _ _ _ h => h) (Or.inl ⟨by rfl, ?_⟩) ?_ ?_
                  rotate_left
                  · intro w'
                    go_simp
                    with_reducible rfl
                  rotate_left
                  · simp only [Act.put, List.setIfInBounds_toArray, List.set_cons_zero, List.set_cons_succ, i64_w, i32_w]
                    rfl
                  refine pure_ (i := 5) (N := some 74) (v := ?_) (a' := ?_) #[true, true, false, true, true, true, false, false, false, false, false, false, false, false, false, false, false, false, false, false, false, false, false, false, false, false, false, false, false, false, false, false, false] rfl rfl (by kernel_rfl) (fun _ _ _ h => h) (Or.inl ⟨by rfl, ?_⟩) ?_ ?_
                  rotate_left
                  · intro w'
                    go_simp
                    with_reducible rfl
                  rotate_left
                  · simp only [Act.put, List.setIfInBounds_toArray, List.set_cons_zero, List.set_cons_succ, i64_w, i32_w]
                    rfl
                  refine pure_ (i := 6) (N := some 75) (v := ?_) (a' := ?_) #[true, true, false, true, true, true, true, false, false, false, false, false, false, false, false, false, false, false, false, false, false, false, false, false, false, false, false, false, false, false, false, false, false] rfl rfl (by kernel_rfl) (fun _ _ _ h => h) (Or.inl ⟨by rfl, ?_⟩) ?_ ?_
                  rotate_left
                  · intro w'
                    go_simp
                    with_reducible rfl
                  rotate_left
                  · simp only [Act.put, List.setIfInBounds_toArray, List.set_cons_zero, List.set_cons_succ, i64_w, i32_w]
                    rfl
                  refine pure_ (i := 9) (N := some 78) (v := ?_) (a' := ?_) #[true, true, false, true, true, true, true, false, false, true, false, false, false, false, false, false, false, false, false, false, false, false, false, false, false, false, false, false, false, false, false, false, false] rfl rfl (by kernel_rfl) (fun _ _ _ h => h) (Or.inl ⟨by rfl, ?_⟩) ?_ ?_
                  rotate_left
                  · intro w'
                    go_simp
                    with_reducible rfl
                  rotate_left
                  · simp only [Act.put, List.setIfInBounds_toArray, List.set_cons_zero, List.set_cons_succ, i64_w, i32_w]
                    rfl
                  refine pure_ (i := 10) (N := some 79) (v := ?_) (a' := ?_) #[true, true, false, true, true, true, true, false, false, true, true, false, false, false, false, false, false, false, false, false, false, false, false, false, false, false, false, false, false, false, false, false, false] rfl rfl (by kernel_rfl) (fun _ _ _ h => h) (Or.inl ⟨by rfl, ?_⟩) ?_ ?_
                  rotate_left
                  · intro w'
                    go_simp
                    with_reducible rfl
                  rotate_left
                  · simp only [Act.put, List.setIfInBounds_toArray, List.set_cons_zero, List.set_cons_succ, i64_w, i32_w]
                    rfl
                  refine pure_ (i := 11) (N := some 80) (v := ?_) (a' := ?_) #[true, true, false, true, true, true, true, false, false, true, true, true, false, false, false, false, false, false, false, false, false, false, false, false, false, false, false, false, false, false, false, false, false] rfl rfl (by kernel_rfl) (fun _ _ _ h => h) (Or.inl ⟨by rfl, ?_⟩) ?_ ?_
                  rotate_left
                  · intro w'
                    go_simp
                    with_reducible rfl
                  rotate_left
                  · simp only [Act.put, List.setIfInBounds_toArray, List.set_cons_zero, List.set_cons_succ, i64_w, i32_w]
                    rfl
                  refine pure_ (i := 12) (N := some 81) (v := ?_) (a' := ?_) #[true, true, false, true, true, true, true, false, false, true, true, true, true, false, false, false, false, false, false, false, false, false, false, false, false, false, false, false, false, false, false, false, false] rfl rfl (by kernel_rfl) (fun _ _ _ h => h) (Or.inl ⟨by rfl, ?_⟩) ?_ ?_
                  rotate_left
                  · intro w'
                    go_simp
                    with_reducible rfl
                  rotate_left
                  · simp only [Act.put, List.setIfInBounds_toArray, List.set_cons_zero, List.set_cons_succ, i64_w, i32_w]
                    rfl
                  refine pure_ (i := 15) (N := some 84) (v := ?_) (a' := ?_) #[true, true, false, true, true, true, true, false, false, true, true, true, true, false, false, true, false, false, false, false, false, false, false, false, false, false, false, false, false, false, false, false, false] rfl rfl (by kernel_rfl) (fun _ _ _ h => h) (Or.inl ⟨by rfl, ?_⟩) ?_ ?_
                  rotate_left
                  · intro w'
                    go_simp
                    with_reducible rfl
                  rotate_left
                  · simp only [Act.put, List.setIfInBounds_toArray, List.set_cons_zero, List.set_cons_succ, i64_w, i32_w]
                    rfl
                  refine pure_ (i := 16) (N := some 85) (v := ?_) (a' := ?_) #[true, true, false, true, true, true, true, false, false, true, true, true, true, false, false, true, true, false, false, false, false, false, false, false, false, false, false, false, false, false, false, false, false] rfl rfl (by kernel_rfl) (fun _ _ _ h => h) (Or.inl ⟨by rfl, ?_⟩) ?_ ?_
                  rotate_left
                  · intro w'
                    go_simp
                    with_reducible rfl
                  rotate_left
                  · simp only [Act.put, List.setIfInBounds_toArray, List.set_cons_zero, List.set_cons_succ, i64_w, i32_w]
                    rfl
                  refine pure_ (i := 17) (N := some 86) (v := ?_) (a' := ?_) #[true, true, false, true, true, true, true, false, false, true, true, true, true, false, false, true, true, true, false, false, false, false, false, false, false, false, false, false, false, false, false, false, false] rfl rfl (by kernel_rfl) (fun _ _ _ h => h) (Or.inl ⟨by rfl, ?_⟩) ?_ ?_
                  rotate_left
                  · intro w'
                    go_simp
                    with_reducible rfl
                  rotate_left
                  · simp only [Act.put, List.setIfInBounds_toArray, List.set_cons_zero, List.set_cons_succ, i64_w, i32_w]
                    rfl
                  refine pure_ (i := 20) (N := some 89) (v := ?_) (a' := ?_) #[true, true, false, true, true, true, true, false, false, true, true, true, true, false, false, true, true, true, false, false, true, false, false, false, false, false, false, false, false, false, false, false, false] rfl rfl (by kernel_rfl) (fun _ _ _ h => h) (Or.inl ⟨by rfl, ?_⟩) ?_ ?_
                  rotate_left
                  · intro w'
                    go_simp
                    with_reducible rfl
                  rotate_left
                  · simp only [Act.put, List.setIfInBounds_toArray, List.set_cons_zero, List.set_cons_succ, i64_w, i32_w]
                    rfl
                  refine pure_ (i := 21) (N := some 90) (v := ?_) (a' := ?_) #[true, true, false, true, true, true, true, false, false, true, true, true, true, false, false, true, true, true, false, false, true, true, false, false, false, false, false, false, false, false, false, false, false] rfl rfl (by kernel_rfl) (fun _ _ _ h => h) (Or.inl ⟨by rfl, ?_⟩) ?_ ?_
                  rotate_left
                  · intro w'
                    go_simp
                    with_reducible rfl
                  rotate_left
                  · simp only [Act.put, List.setIfInBounds_toArray, List.set_cons_zero, List.set_cons_succ, i64_w, i32_w]
                    rfl
                  refine pure_ (i := 22) (N := some 91) (v := ?_) (a' := ?_) #[true, true, false, true, true, true, true, false, false, true, true, true, true, false, false, true, true, true, false, false, true, true, true, false, false, false, false, false, false, false, false, false, false] rfl rfl (by kernel_rfl) (fun _ _ _ h => h) (Or.inl ⟨by rfl, ?_⟩) ?_ ?_
                  rotate_left
                  · intro w'
                    go_simp
                    with_reducible rfl
                  rotate_left
                  · simp only [Act.put, List.setIfInBounds_toArray, List.set_cons_zero, List.set_cons_succ, i64_w, i32_w]
                    rfl
                  refine pure_ (i := 25) (N := some 94) (v := ?_) (a' := ?_) #[true, true, false, true, true, true, true, false, false, true, true, true, true, false, false, true, true, true, false, false, true, true, true, false, false, true, false, false, false, false, false, false, false] rfl rfl (by kernel_rfl) (fun _ _ _ h => h) (Or.inl ⟨by rfl, ?_⟩) ?_ ?_
                  rotate_left
                  · intro w'
                    go_simp
                    with_reducible rfl
                  rotate_left
                  · simp only [Act.put, List.setIfInBounds_toArray, List.set_cons_zero, List.set_cons_succ, i64_w, i32_w]
                    rfl
                  refine pure_ (i := 26) (N := some 95) (v := ?_) (a' := ?_) #[true, true, false, true, true, true, true, false, false, true, true, true, true, false, false, true, true, true, false, false, true, true, true, false, false, true, true, false, false, false, false, false, false] rfl rfl (by kernel_rfl) (fun _ _ _ h => h) (Or.inl ⟨by rfl, ?_⟩) ?_ ?_
                  rotate_left
                  · intro w'
                    go_simp
                    with_reducible rfl
                  rotate_left
                  · simp only [Act.put, List.setIfInBounds_toArray, List.set_cons_zero, List.set_cons_succ, i64_w, i32_w]
                    rfl
                  refine pure_ (i := 27) (N := some 96) (v := ?_) (a' := ?_) #[true, true, false, true, true, true, true, false, false, true, true, true, true, false, false, true, true, true, false, false, true, true, true, false, false, true, true, true, false, false, false, false, false] rfl rfl (by kernel_rfl) (fun _ _ _ h => h) (Or.inl ⟨by rfl, ?_⟩) ?_ ?_
                  rotate_left
                  · intro w'
                    go_simp
                    with_reducible rfl
                  rotate_left
                  · simp only [Act.put, List.setIfInBounds_toArray, List.set_cons_zero, List.set_cons_succ, i64_w, i32_w]
                    rfl
                  refine take_ (i := 7) (N := some 76) (v := ?_) (a' := ?_) #[true, true, false, true, true, true, true, true, false, true, true, true, true, false, false, true, true, true, false, false, true, true, true, false, false, true, true, true, false, false, false, false, false] rfl rfl (by kernel_rfl) (fun _ _ _ h => h) (Or.inl ⟨by rfl, ?_⟩) hHeld ?_ ?_
                  rotate_left
                  · rintro w' ⟨s0, s1⟩
                    go_simp
                    with_reducible rfl
                  rotate_left
                  · simp only [Act.put, List.setIfInBounds_toArray, List.set_cons_zero, List.set_cons_succ, i64_w, i32_w]
                    rfl
                  refine pure_ (i := 8) (N := some 77) (v := ?_) (a' := ?_) #[true, true, false, true, true, true, true, true, true, true, true, true, true, false, false, true, true, true, false, false, true, true, true, false, false, true, true, true, false, false, false, false, false] rfl rfl (by kernel_rfl) (fun _ _ _ h => h) (Or.inl ⟨by rfl, ?_⟩) ?_ ?_
                  rotate_left
                  · intro w'
                    go_simp
                    with_reducible rfl
                  rotate_left
                  · simp only [Act.put, List.setIfInBounds_toArray, List.set_cons_zero, List.set_cons_succ, i64_w, i32_w]
                    rfl
                  refine take_ (i := 13) (N := some 82) (v := ?_) (a' := ?_) #[true, true, false, true, true, true, true, true, true, true, true, true, true, true, false, true, true, true, false, false, true, true, true, false, false, true, true, true, false, false, false, false, false] rfl rfl (by kernel_rfl) (fun _ _ _ h => h) (Or.inl ⟨by rfl, ?_⟩) hHeld ?_ ?_
                  rotate_left
                  · rintro w' ⟨s0, s1⟩
                    go_simp
                    with_reducible rfl
                  rotate_left
                  · simp only [Act.put, List.setIfInBounds_toArray, List.set_cons_zero, List.set_cons_succ, i64_w, i32_w]
                    rfl
                  refine pure_ (i := 14) (N := some 83) (v := ?_) (a' := ?_) #[true, true, false, true, true, true, true, true, true, true, true, true, true, true, true, true, true, true, false, false, true, true, true, false, false, true, true, true, false, false, false, false, false] rfl rfl (by kernel_rfl) (fun _ _ _ h => h) (Or.inl ⟨by rfl, ?_⟩) ?_ ?_
                  rotate_left
                  · intro w'
                    go_simp
                    with_reducible rfl
                  rotate_left
                  · simp only [Act.put, List.setIfInBounds_toArray, List.set_cons_zero, List.set_cons_succ, i64_w, i32_w]
                    rfl
                  refine join_ (σ := Nat) 1 #[true, true, true, true, true, true, true, true, true, true, true, true, true, true, true, true, true, true, true, true, true, true, true, true, true, true, true, true, true, true, true, true, false] (fun O => [(71, .int .u64 (f0 : Nat)), (87, .int .u64 (f3 : Nat)), (88, .int .u32 (f3 : Nat)), (92, .int .u64 (f4 : Nat)), (93, .int .u32 (f4 : Nat)), (97, .int .u64 (f5 : Nat)), (98, .int .u32 (f5 : Nat)), (99, .agg #[.int .u64 (f0 : Nat), .int .i64 (b1 : Nat), .int .i64 (b2 : Nat), .int .u32 (f3 : Nat), .int .u32 (f4 : Nat), .int .u32 (f5 : Nat)]), (9, .pointer (some ⟨O, 0, none⟩))]) (fun O w' => wr.heap.size ≤ O ∧ w'.heap[O]? = some (.cells #[.int .u64 0, .int .i64 0, .int .i64 0, .int .u32 0, .int .u32 0, .int .u32 0] 35 (0, 0)) ∧ Below wr.heap.size wr w') ?_ ?_
                  rotate_left
                  · intro hCont
                    refine two_ (i := 2) (j := 31) (Ni := some 71) (Nj := some 9) #[true, true, true, true, true, true, true, true, true, true, true, true, true, true, true, true, true, true, false, false, true, true, true, false, false, true, true, true, false, false, false, false, false] #[true, true, false, true, true, true, true, true, true, true, true, true, true, true, true, true, true, true, false, false, true, true, true, false, false, true, true, true, false, false, false, true, false] rfl rfl rfl rfl (by kernel_rfl) (by decide) (by decide) (fun K hK => ?_) (fun K hK => ?_)
                    · skip
                      refine goes_ Tryz.func49 (by kernel_rfl) rfl #[.slice (some ⟨ab, ao, asp⟩) N c, .int .i64 ((p : Nat) : Int), .int .i64 8] (by rfl) rfl rfl (by simp only [List.map_toArray, List.map_cons, List.map_nil]; rfl) ?_
                      with_reducible refine (hg0 _ HBc.out).mono ?_
                      rintro e w4 ⟨rfl, rfl⟩
                      refine ⟨_, rfl, ?_⟩
                      refine hK.out _ _ ⟨(HS.out _ HBc.out).1, (HS.out _ HBc.out).2⟩ (fun hHeld => ?_)
                      clear hK K
                      refine norm_ (a' := ?_) ?_ ?_
                      rotate_left
                      · show Act.put _ (some 71) _ = _
                        simp only [Act.put, List.setIfInBounds_toArray, List.set_cons_zero, List.set_cons_succ, i64_w, i32_w]
                        rfl
                      refine two_ (i := 18) (j := 31) (Ni := some 87) (Nj := some 9) #[true, true, true, true, true, true, true, true, true, true, true, true, true, true, true, true, true, true, true, false, true, true, true, false, false, true, true, true, false, false, false, false, false] #[true, true, true, true, true, true, true, true, true, true, true, true, true, true, true, true, true, true, false, false, true, true, true, false, false, true, true, true, false, false, false, true, false] rfl rfl rfl rfl (by kernel_rfl) (by decide) (by decide) (fun K hK => ?_) (fun K hK => ?_)
                      · skip
                        refine goes_ Tryz.func49 (by kernel_rfl) rfl #[.slice (some ⟨ab, ao, asp⟩) N c, .int .i64 (wrap64 (((p : Nat) : Int) + 10)), .int .i64 4] (by rfl) rfl rfl (by simp only [List.map_toArray, List.map_cons, List.map_nil]; rfl) ?_
                        with_reducible refine (hg3 _ HBc.out).mono ?_
                        rintro e w4 ⟨rfl, rfl⟩
                        refine ⟨_, rfl, ?_⟩
                        refine hK.out _ _ ⟨(HS.out _ HBc.out).1, (HS.out _ HBc.out).2⟩ (fun hHeld => ?_)
                        clear hK K
                        refine norm_ (a' := ?_) ?_ ?_
                        rotate_left
                        · show Act.put _ (some 87) _ = _
                          simp only [Act.put, List.setIfInBounds_toArray, List.set_cons_zero, List.set_cons_succ, i64_w, i32_w]
                          rfl
                        refine pure_ (i := 19) (N := some 88) (v := ?_) (a' := ?_) #[true, true, true, true, true, true, true, true, true, true, true, true, true, true, true, true, true, true, true, true, true, true, true, false, false, true, true, true, false, false, false, false, false] rfl rfl (by kernel_rfl) (fun _ _ _ h => h) (Or.inl ⟨by rfl, ?_⟩) ?_ ?_
                        rotate_left
                        · intro w'
                          go_simp
                          with_reducible rfl
                        rotate_left
                        · simp only [Act.put, List.setIfInBounds_toArray, List.set_cons_zero, List.set_cons_succ, i64_w, i32_w]
                          rfl
                        refine two_ (i := 23) (j := 31) (Ni := some 92) (Nj := some 9) #[true, true, true, true, true, true, true, true, true, true, true, true, true, true, true, true, true, true, true, true, true, true, true, true, false, true, true, true, false, false, false, false, false] #[true, true, true, true, true, true, true, true, true, true, true, true, true, true, true, true, true, true, true, true, true, true, true, false, false, true, true, true, false, false, false, true, false] rfl rfl rfl rfl (by kernel_rfl) (by decide) (by decide) (fun K hK => ?_) (fun K hK => ?_)
                        · skip
                          refine goes_ Tryz.func49 (by kernel_rfl) rfl #[.slice (some ⟨ab, ao, asp⟩) N c, .int .i64 (wrap64 (((p : Nat) : Int) + 14)), .int .i64 4] (by rfl) rfl rfl (by simp only [List.map_toArray, List.map_cons, List.map_nil]; rfl) ?_
                          with_reducible refine (hg4 _ HBc.out).mono ?_
                          rintro e w4 ⟨rfl, rfl⟩
                          refine ⟨_, rfl, ?_⟩
                          refine hK.out _ _ ⟨(HS.out _ HBc.out).1, (HS.out _ HBc.out).2⟩ (fun hHeld => ?_)
                          clear hK K
                          refine norm_ (a' := ?_) ?_ ?_
                          rotate_left
                          · show Act.put _ (some 92) _ = _
                            simp only [Act.put, List.setIfInBounds_toArray, List.set_cons_zero, List.set_cons_succ, i64_w, i32_w]
                            rfl
                          refine pure_ (i := 24) (N := some 93) (v := ?_) (a' := ?_) #[true, true, true, true, true, true, true, true, true, true, true, true, true, true, true, true, true, true, true, true, true, true, true, true, true, true, true, true, false, false, false, false, false] rfl rfl (by kernel_rfl) (fun _ _ _ h => h) (Or.inl ⟨by rfl, ?_⟩) ?_ ?_
                          rotate_left
                          · intro w'
                            go_simp
                            with_reducible rfl
                          rotate_left
                          · simp only [Act.put, List.setIfInBounds_toArray, List.set_cons_zero, List.set_cons_succ, i64_w, i32_w]
                            rfl
                          refine two_ (i := 28) (j := 31) (Ni := some 97) (Nj := some 9) #[true, true, true, true, true, true, true, true, true, true, true, true, true, true, true, true, true, true, true, true, true, true, true, true, true, true, true, true, true, false, false, false, false] #[true, true, true, true, true, true, true, true, true, true, true, true, true, true, true, true, true, true, true, true, true, true, true, true, true, true, true, true, false, false, false, true, false] rfl rfl rfl rfl (by kernel_rfl) (by decide) (by decide) (fun K hK => ?_) (fun K hK => ?_)
                          · skip
                            refine goes_ Tryz.func49 (by kernel_rfl) rfl #[.slice (some ⟨ab, ao, asp⟩) N c, .int .i64 (wrap64 (((p : Nat) : Int) + 18)), .int .i64 4] (by rfl) rfl rfl (by simp only [List.map_toArray, List.map_cons, List.map_nil]; rfl) ?_
                            with_reducible refine (hg5 _ HBc.out).mono ?_
                            rintro e w4 ⟨rfl, rfl⟩
                            refine ⟨_, rfl, ?_⟩
                            refine hK.out _ _ ⟨(HS.out _ HBc.out).1, (HS.out _ HBc.out).2⟩ (fun hHeld => ?_)
                            clear hK K
                            refine norm_ (a' := ?_) ?_ ?_
                            rotate_left
                            · show Act.put _ (some 97) _ = _
                              simp only [Act.put, List.setIfInBounds_toArray, List.set_cons_zero, List.set_cons_succ, i64_w, i32_w]
                              rfl
                            refine pure_ (i := 29) (N := some 98) (v := ?_) (a' := ?_) #[true, true, true, true, true, true, true, true, true, true, true, true, true, true, true, true, true, true, true, true, true, true, true, true, true, true, true, true, true, true, false, false, false] rfl rfl (by kernel_rfl) (fun _ _ _ h => h) (Or.inl ⟨by rfl, ?_⟩) ?_ ?_
                            rotate_left
                            · intro w'
                              go_simp
                              with_reducible rfl
                            rotate_left
                            · simp only [Act.put, List.setIfInBounds_toArray, List.set_cons_zero, List.set_cons_succ, i64_w, i32_w]
                              rfl
                            refine pure_ (i := 30) (N := some 99) (v := ?_) (a' := ?_) #[true, true, true, true, true, true, true, true, true, true, true, true, true, true, true, true, true, true, true, true, true, true, true, true, true, true, true, true, true, true, true, false, false] rfl rfl (by kernel_rfl) (fun _ _ _ h => h) (Or.inl ⟨by rfl, ?_⟩) ?_ ?_
                            rotate_left
                            · intro w'
                              go_simp
                              with_reducible rfl
                            rotate_left
                            · simp only [Act.put, List.setIfInBounds_toArray, List.set_cons_zero, List.set_cons_succ, i64_w, i32_w]
                              rfl
                            refine one_ (i := 31) (N := some 9) #[true, true, true, true, true, true, true, true, true, true, true, true, true, true, true, true, true, true, true, true, true, true, true, true, true, true, true, true, true, true, true, true, false] rfl rfl (by kernel_rfl) (by decide) (fun K hK => ?_)
                            refine value_ (w1 := ?_) (v := ?_) (by rfl) rfl ?_ ?_
                            rotate_left 2
                            · go_simp
                              constructor
                              · rfl
                              · rfl
                            have hO : wr.heap.size ≤ W3.heap.size := HBc.out.size
                            have HZ := Lib.hid (blk_new W3 (.cells #[.int .u64 0, .int .i64 0, .int .i64 0, .int .u32 0, .int .u32 0, .int .u32 0] 35 (0, 0)))
                            replace HBc := Lib.hid (HBc.out.alloc hO (.cells #[.int .u64 0, .int .i64 0, .int .i64 0, .int .u32 0, .int .u32 0, .int .u32 0] 35))
                            refine hK.out _ _ ⟨(HS.out _ HBc.out).1, (HS.out _ HBc.out).2⟩ (fun hHeld => ?_)
                            clear hK K
                            refine norm_ (a' := ?_) ?_ ?_
                            rotate_left
                            · show Act.put _ (some 9) _ = _
                              simp only [Act.put, List.setIfInBounds_toArray, List.set_cons_zero, List.set_cons_succ, i64_w, i32_w]
                              rfl
                            exact norm_ (by simp only [putAll, Act.put, List.setIfInBounds_toArray, List.set_cons_zero, List.set_cons_succ]) (hCont W3.heap.size _ ⟨hO, HZ.out, HBc.out⟩)
                          · skip
                            refine value_ (w1 := ?_) (v := ?_) (by rfl) rfl ?_ ?_
                            rotate_left 2
                            · go_simp
                              constructor
                              · rfl
                              · rfl
                            have hO : wr.heap.size ≤ W3.heap.size := HBc.out.size
                            have HZ := Lib.hid (blk_new W3 (.cells #[.int .u64 0, .int .i64 0, .int .i64 0, .int .u32 0, .int .u32 0, .int .u32 0] 35 (0, 0)))
                            replace HBc := Lib.hid (HBc.out.alloc hO (.cells #[.int .u64 0, .int .i64 0, .int .i64 0, .int .u32 0, .int .u32 0, .int .u32 0] 35))
                            refine hK.out _ _ ⟨(HS.out _ HBc.out).1, (HS.out _ HBc.out).2⟩ (fun hHeld => ?_)
                            clear hK K
                            refine norm_ (a' := ?_) ?_ ?_
                            rotate_left
                            · show Act.put _ (some 9) _ = _
                              simp only [Act.put, List.setIfInBounds_toArray, List.set_cons_zero, List.set_cons_succ, i64_w, i32_w]
                              rfl
                            refine one_ (i := 28) (N := some 97) #[true, true, true, true, true, true, true, true, true, true, true, true, true, true, true, true, true, true, true, true, true, true, true, true, true, true, true, true, true, false, false, true, false] rfl rfl (by kernel_rfl) (by decide) (fun K hK => ?_)
                            refine goes_ Tryz.func49 (by kernel_rfl) rfl #[.slice (some ⟨ab, ao, asp⟩) N c, .int .i64 (wrap64 (((p : Nat) : Int) + 18)), .int .i64 4] (by rfl) rfl rfl (by simp only [List.map_toArray, List.map_cons, List.map_nil]; rfl) ?_
                            with_reducible refine (hg5 _ HBc.out).mono ?_
                            rintro e w4 ⟨rfl, rfl⟩
                            refine ⟨_, rfl, ?_⟩
                            refine hK.out _ _ ⟨(HS.out _ HBc.out).1, (HS.out _ HBc.out).2⟩ (fun hHeld => ?_)
                            clear hK K
                            refine norm_ (a' := ?_) ?_ ?_
                            rotate_left
                            · show Act.put _ (some 97) _ = _
                              simp only [Act.put, List.setIfInBounds_toArray, List.set_cons_zero, List.set_cons_succ, i64_w, i32_w]
                              rfl
                            refine pure_ (i := 29) (N := some 98) (v := ?_) (a' := ?_) #[true, true, true, true, true, true, true, true, true, true, true, true, true, true, true, true, true, true, true, true, true, true, true, true, true, true, true, true, true, true, false, true, false] rfl rfl (by kernel_rfl) (fun _ _ _ h => h) (Or.inl ⟨by rfl, ?_⟩) ?_ ?_
                            rotate_left
                            · intro w'
                              go_simp
                              with_reducible rfl
                            rotate_left
                            · simp only [Act.put, List.setIfInBounds_toArray, List.set_cons_zero, List.set_cons_succ, i64_w, i32_w]
                              rfl
                            refine pure_ (i := 30) (N := some 99) (v := ?_) (a' := ?_) #[true, true, true, true, true, true, true, true, true, true, true, true, true, true, true, true, true, true, true, true, true, true, true, true, true, true, true, true, true, true, true, true, false] rfl rfl (by kernel_rfl) (fun _ _ _ h => h) (Or.inl ⟨by rfl, ?_⟩) ?_ ?_
                            rotate_left
                            · intro w'
                              go_simp
                              with_reducible rfl
                            rotate_left
                            · simp only [Act.put, List.setIfInBounds_toArray, List.set_cons_zero, List.set_cons_succ, i64_w, i32_w]
                              rfl
                            exact norm_ (by simp only [putAll, Act.put, List.setIfInBounds_toArray, List.set_cons_zero, List.set_cons_succ]) (hCont W3.heap.size _ ⟨hO, HZ.out, HBc.out⟩)
                        · skip
                          refine value_ (w1 := ?_) (v := ?_) (by rfl) rfl ?_ ?_
                          rotate_left 2
                          · go_simp
                            constructor
                            · rfl
                            · rfl
                          have hO : wr.heap.size ≤ W3.heap.size := HBc.out.size
                          have HZ := Lib.hid (blk_new W3 (.cells #[.int .u64 0, .int .i64 0, .int .i64 0, .int .u32 0, .int .u32 0, .int .u32 0] 35 (0, 0)))
                          replace HBc := Lib.hid (HBc.out.alloc hO (.cells #[.int .u64 0, .int .i64 0, .int .i64 0, .int .u32 0, .int .u32 0, .int .u32 0] 35))
                          refine hK.out _ _ ⟨(HS.out _ HBc.out).1, (HS.out _ HBc.out).2⟩ (fun hHeld => ?_)
                          clear hK K
                          refine norm_ (a' := ?_) ?_ ?_
                          rotate_left
                          · show Act.put _ (some 9) _ = _
                            simp only [Act.put, List.setIfInBounds_toArray, List.set_cons_zero, List.set_cons_succ, i64_w, i32_w]
                            rfl
                          refine one_ (i := 23) (N := some 92) #[true, true, true, true, true, true, true, true, true, true, true, true, true, true, true, true, true, true, true, true, true, true, true, true, false, true, true, true, false, false, false, true, false] rfl rfl (by kernel_rfl) (by decide) (fun K hK => ?_)
                          refine goes_ Tryz.func49 (by kernel_rfl) rfl #[.slice (some ⟨ab, ao, asp⟩) N c, .int .i64 (wrap64 (((p : Nat) : Int) + 14)), .int .i64 4] (by rfl) rfl rfl (by simp only [List.map_toArray, List.map_cons, List.map_nil]; rfl) ?_
                          with_reducible refine (hg4 _ HBc.out).mono ?_
                          rintro e w4 ⟨rfl, rfl⟩
                          refine ⟨_, rfl, ?_⟩
                          refine hK.out _ _ ⟨(HS.out _ HBc.out).1, (HS.out _ HBc.out).2⟩ (fun hHeld => ?_)
                          clear hK K
                          refine norm_ (a' := ?_) ?_ ?_
                          rotate_left
                          · show Act.put _ (some 92) _ = _
                            simp only [Act.put, List.setIfInBounds_toArray, List.set_cons_zero, List.set_cons_succ, i64_w, i32_w]
                            rfl
                          refine pure_ (i := 24) (N := some 93) (v := ?_) (a' := ?_) #[true, true, true, true, true, true, true, true, true, true, true, true, true, true, true, true, true, true, true, true, true, true, true, true, true, true, true, true, false, false, false, true, false] rfl rfl (by kernel_rfl) (fun _ _ _ h => h) (Or.inl ⟨by rfl, ?_⟩) ?_ ?_
                          rotate_left
                          · intro w'
                            go_simp
                            with_reducible rfl
                          rotate_left
                          · simp only [Act.put, List.setIfInBounds_toArray, List.set_cons_zero, List.set_cons_succ, i64_w, i32_w]
                            rfl
                          refine one_ (i := 28) (N := some 97) #[true, true, true, true, true, true, true, true, true, true, true, true, true, true, true, true, true, true, true, true, true, true, true, true, true, true, true, true, true, false, false, true, false] rfl rfl (by kernel_rfl) (by decide) (fun K hK => ?_)
                          refine goes_ Tryz.func49 (by kernel_rfl) rfl #[.slice (some ⟨ab, ao, asp⟩) N c, .int .i64 (wrap64 (((p : Nat) : Int) + 18)), .int .i64 4] (by rfl) rfl rfl (by simp only [List.map_toArray, List.map_cons, List.map_nil]; rfl) ?_
                          with_reducible refine (hg5 _ HBc.out).mono ?_
                          rintro e w4 ⟨rfl, rfl⟩
                          refine ⟨_, rfl, ?_⟩
                          refine hK.out _ _ ⟨(HS.out _ HBc.out).1, (HS.out _ HBc.out).2⟩ (fun hHeld => ?_)
                          clear hK K
                          refine norm_ (a' := ?_) ?_ ?_
                          rotate_left
                          · show Act.put _ (some 97) _ = _
                            simp only [Act.put, List.setIfInBounds_toArray, List.set_cons_zero, List.set_cons_succ, i64_w, i32_w]
                            rfl
                          refine pure_ (i := 29) (N := some 98) (v := ?_) (a' := ?_) #[true, true, true, true, true, true, true, true, true, true, true, true, true, true, true, true, true, true, true, true, true, true, true, true, true, true, true, true, true, true, false, true, false] rfl rfl (by kernel_rfl) (fun _ _ _ h => h) (Or.inl ⟨by rfl, ?_⟩) ?_ ?_
                          rotate_left
                          · intro w'
                            go_simp
                            with_reducible rfl
                          rotate_left
                          · simp only [Act.put, List.setIfInBounds_toArray, List.set_cons_zero, List.set_cons_succ, i64_w, i32_w]
                            rfl
                          refine pure_ (i := 30) (N := some 99) (v := ?_) (a' := ?_) #[true, true, true, true, true, true, true, true, true, true, true, true, true, true, true, true, true, true, true, true, true, true, true, true, true, true, true, true, true, true, true, true, false] rfl rfl (by kernel_rfl) (fun _ _ _ h => h) (Or.inl ⟨by rfl, ?_⟩) ?_ ?_
                          rotate_left
                          · intro w'
                            go_simp
                            with_reducible rfl
                          rotate_left
                          · simp only [Act.put, List.setIfInBounds_toArray, List.set_cons_zero, List.set_cons_succ, i64_w, i32_w]
                            rfl
                          exact norm_ (by simp only [putAll, Act.put, List.setIfInBounds_toArray, List.set_cons_zero, List.set_cons_succ]) (hCont W3.heap.size _ ⟨hO, HZ.out, HBc.out⟩)
                      · skip
                        refine value_ (w1 := ?_) (v := ?_) (by rfl) rfl ?_ ?_
                        rotate_left 2
                        · go_simp
                          constructor
                          · rfl
                          · rfl
                        have hO : wr.heap.size ≤ W3.heap.size := HBc.out.size
                        have HZ := Lib.hid (blk_new W3 (.cells #[.int .u64 0, .int .i64 0, .int .i64 0, .int .u32 0, .int .u32 0, .int .u32 0] 35 (0, 0)))
                        replace HBc := Lib.hid (HBc.out.alloc hO (.cells #[.int .u64 0, .int .i64 0, .int .i64 0, .int .u32 0, .int .u32 0, .int .u32 0] 35))
                        refine hK.out _ _ ⟨(HS.out _ HBc.out).1, (HS.out _ HBc.out).2⟩ (fun hHeld => ?_)
                        clear hK K
                        refine norm_ (a' := ?_) ?_ ?_
                        rotate_left
                        · show Act.put _ (some 9) _ = _
                          simp only [Act.put, List.setIfInBounds_toArray, List.set_cons_zero, List.set_cons_succ, i64_w, i32_w]
                          rfl
                        refine one_ (i := 18) (N := some 87) #[true, true, true, true, true, true, true, true, true, true, true, true, true, true, true, true, true, true, true, false, true, true, true, false, false, true, true, true, false, false, false, true, false] rfl rfl (by kernel_rfl) (by decide) (fun K hK => ?_)
                        refine goes_ Tryz.func49 (by kernel_rfl) rfl #[.slice (some ⟨ab, ao, asp⟩) N c, .int .i64 (wrap64 (((p : Nat) : Int) + 10)), .int .i64 4] (by rfl) rfl rfl (by simp only [List.map_toArray, List.map_cons, List.map_nil]; rfl) ?_
                        with_reducible refine (hg3 _ HBc.out).mono ?_
                        rintro e w4 ⟨rfl, rfl⟩
                        refine ⟨_, rfl, ?_⟩
                        refine hK.out _ _ ⟨(HS.out _ HBc.out).1, (HS.out _ HBc.out).2⟩ (fun hHeld => ?_)
                        clear hK K
                        refine norm_ (a' := ?_) ?_ ?_
                        rotate_left
                        · show Act.put _ (some 87) _ = _
                          simp only [Act.put, List.setIfInBounds_toArray, List.set_cons_zero, List.set_cons_succ, i64_w, i32_w]
                          rfl
                        refine pure_ (i := 19) (N := some 88) (v := ?_) (a' := ?_) #[true, true, true, true, true, true, true, true, true, true, true, true, true, true, true, true, true, true, true, true, true, true, true, false, false, true, true, true, false, false, false, true, false] rfl rfl (by kernel_rfl) (fun _ _ _ h => h) (Or.inl ⟨by rfl, ?_⟩) ?_ ?_
                        rotate_left
                        · intro w'
                          go_simp
                          with_reducible rfl
                        rotate_left
                        · simp only [Act.put, List.setIfInBounds_toArray, List.set_cons_zero, List.set_cons_succ, i64_w, i32_w]
                          rfl
                        refine one_ (i := 23) (N := some 92) #[true, true, true, true, true, true, true, true, true, true, true, true, true, true, true, true, true, true, true, true, true, true, true, true, false, true, true, true, false, false, false, true, false] rfl rfl (by kernel_rfl) (by decide) (fun K hK => ?_)
                        refine goes_ Tryz.func49 (by kernel_rfl) rfl #[.slice (some ⟨ab, ao, asp⟩) N c, .int .i64 (wrap64 (((p : Nat) : Int) + 14)), .int .i64 4] (by rfl) rfl rfl (by simp only [List.map_toArray, List.map_cons, List.map_nil]; rfl) ?_
                        with_reducible refine (hg4 _ HBc.out).mono ?_
                        rintro e w4 ⟨rfl, rfl⟩
                        refine ⟨_, rfl, ?_⟩
                        refine hK.out _ _ ⟨(HS.out _ HBc.out).1, (HS.out _ HBc.out).2⟩ (fun hHeld => ?_)
                        clear hK K
                        refine norm_ (a' := ?_) ?_ ?_
                        rotate_left
                        · show Act.put _ (some 92) _ = _
                          simp only [Act.put, List.setIfInBounds_toArray, List.set_cons_zero, List.set_cons_succ, i64_w, i32_w]
                          rfl
                        refine pure_ (i := 24) (N := some 93) (v := ?_) (a' := ?_) #[true, true, true, true, true, true, true, true, true, true, true, true, true, true, true, true, true, true, true, true, true, true, true, true, true, true, true, true, false, false, false, true, false] rfl rfl (by kernel_rfl) (fun _ _ _ h => h) (Or.inl ⟨by rfl, ?_⟩) ?_ ?_
                        rotate_left
                        · intro w'
                          go_simp
                          with_reducible rfl
                        rotate_left
                        · simp only [Act.put, List.setIfInBounds_toArray, List.set_cons_zero, List.set_cons_succ, i64_w, i32_w]
                          rfl
                        refine one_ (i := 28) (N := some 97) #[true, true, true, true, true, true, true, true, true, true, true, true, true, true, true, true, true, true, true, true, true, true, true, true, true, true, true, true, true, false, false, true, false] rfl rfl (by kernel_rfl) (by decide) (fun K hK => ?_)
                        refine goes_ Tryz.func49 (by kernel_rfl) rfl #[.slice (some ⟨ab, ao, asp⟩) N c, .int .i64 (wrap64 (((p : Nat) : Int) + 18)), .int .i64 4] (by rfl) rfl rfl (by simp only [List.map_toArray, List.map_cons, List.map_nil]; rfl) ?_
                        with_reducible refine (hg5 _ HBc.out).mono ?_
                        rintro e w4 ⟨rfl, rfl⟩
                        refine ⟨_, rfl, ?_⟩
                        refine hK.out _ _ ⟨(HS.out _ HBc.out).1, (HS.out _ HBc.out).2⟩ (fun hHeld => ?_)
                        clear hK K
                        refine norm_ (a' := ?_) ?_ ?_
                        rotate_left
                        · show Act.put _ (some 97) _ = _
                          simp only [Act.put, List.setIfInBounds_toArray, List.set_cons_zero, List.set_cons_succ, i64_w, i32_w]
                          rfl
                        refine pure_ (i := 29) (N := some 98) (v := ?_) (a' := ?_) #[true, true, true, true, true, true, true, true, true, true, true, true, true, true, true, true, true, true, true, true, true, true, true, true, true, true, true, true, true, true, false, true, false] rfl rfl (by kernel_rfl) (fun _ _ _ h => h) (Or.inl ⟨by rfl, ?_⟩) ?_ ?_
                        rotate_left
                        · intro w'
                          go_simp
                          with_reducible rfl
                        rotate_left
                        · simp only [Act.put, List.setIfInBounds_toArray, List.set_cons_zero, List.set_cons_succ, i64_w, i32_w]
                          rfl
                        refine pure_ (i := 30) (N := some 99) (v := ?_) (a' := ?_) #[true, true, true, true, true, true, true, true, true, true, true, true, true, true, true, true, true, true, true, true, true, true, true, true, true, true, true, true, true, true, true, true, false] rfl rfl (by kernel_rfl) (fun _ _ _ h => h) (Or.inl ⟨by rfl, ?_⟩) ?_ ?_
                        rotate_left
                        · intro w'
                          go_simp
                          with_reducible rfl
                        rotate_left
                        · simp only [Act.put, List.setIfInBounds_toArray, List.set_cons_zero, List.set_cons_succ, i64_w, i32_w]
                          rfl
                        exact norm_ (by simp only [putAll, Act.put, List.setIfInBounds_toArray, List.set_cons_zero, List.set_cons_succ]) (hCont W3.heap.size _ ⟨hO, HZ.out, HBc.out⟩)
                    · skip
                      refine value_ (w1 := ?_) (v := ?_) (by rfl) rfl ?_ ?_
                      rotate_left 2
                      · go_simp
                        constructor
                        · rfl
                        · rfl
                      have hO : wr.heap.size ≤ W3.heap.size := HBc.out.size
                      have HZ := Lib.hid (blk_new W3 (.cells #[.int .u64 0, .int .i64 0, .int .i64 0, .int .u32 0, .int .u32 0, .int .u32 0] 35 (0, 0)))
                      replace HBc := Lib.hid (HBc.out.alloc hO (.cells #[.int .u64 0, .int .i64 0, .int .i64 0, .int .u32 0, .int .u32 0, .int .u32 0] 35))
                      refine hK.out _ _ ⟨(HS.out _ HBc.out).1, (HS.out _ HBc.out).2⟩ (fun hHeld => ?_)
                      clear hK K
                      refine norm_ (a' := ?_) ?_ ?_
                      rotate_left
                      · show Act.put _ (some 9) _ = _
                        simp only [Act.put, List.setIfInBounds_toArray, List.set_cons_zero, List.set_cons_succ, i64_w, i32_w]
                        rfl
                      refine one_ (i := 2) (N := some 71) #[true, true, true, true, true, true, true, true, true, true, true, true, true, true, true, true, true, true, false, false, true, true, true, false, false, true, true, true, false, false, false, true, false] rfl rfl (by kernel_rfl) (by decide) (fun K hK => ?_)
                      refine goes_ Tryz.func49 (by kernel_rfl) rfl #[.slice (some ⟨ab, ao, asp⟩) N c, .int .i64 ((p : Nat) : Int), .int .i64 8] (by rfl) rfl rfl (by simp only [List.map_toArray, List.map_cons, List.map_nil]; rfl) ?_
                      with_reducible refine (hg0 _ HBc.out).mono ?_
                      rintro e w4 ⟨rfl, rfl⟩
                      refine ⟨_, rfl, ?_⟩
                      refine hK.out _ _ ⟨(HS.out _ HBc.out).1, (HS.out _ HBc.out).2⟩ (fun hHeld => ?_)
                      clear hK K
                      refine norm_ (a' := ?_) ?_ ?_
                      rotate_left
                      · show Act.put _ (some 71) _ = _
                        simp only [Act.put, List.setIfInBounds_toArray, List.set_cons_zero, List.set_cons_succ, i64_w, i32_w]
                        rfl
                      refine one_ (i := 18) (N := some 87) #[true, true, true, true, true, true, true, true, true, true, true, true, true, true, true, true, true, true, true, false, true, true, true, false, false, true, true, true, false, false, false, true, false] rfl rfl (by kernel_rfl) (by decide) (fun K hK => ?_)
                      refine goes_ Tryz.func49 (by kernel_rfl) rfl #[.slice (some ⟨ab, ao, asp⟩) N c, .int .i64 (wrap64 (((p : Nat) : Int) + 10)), .int .i64 4] (by rfl) rfl rfl (by simp only [List.map_toArray, List.map_cons, List.map_nil]; rfl) ?_
                      with_reducible refine (hg3 _ HBc.out).mono ?_
                      rintro e w4 ⟨rfl, rfl⟩
                      refine ⟨_, rfl, ?_⟩
                      refine hK.out _ _ ⟨(HS.out _ HBc.out).1, (HS.out _ HBc.out).2⟩ (fun hHeld => ?_)
                      clear hK K
                      refine norm_ (a' := ?_) ?_ ?_
                      rotate_left
                      · show Act.put _ (some 87) _ = _
                        simp only [Act.put, List.setIfInBounds_toArray, List.set_cons_zero, List.set_cons_succ, i64_w, i32_w]
                        rfl
                      refine pure_ (i := 19) (N := some 88) (v := ?_) (a' := ?_) #[true, true, true, true, true, true, true, true, true, true, true, true, true, true, true, true, true, true, true, true, true, true, true, false, false, true, true, true, false, false, false, true, false] rfl rfl (by kernel_rfl) (fun _ _ _ h => h) (Or.inl ⟨by rfl, ?_⟩) ?_ ?_
                      rotate_left
                      · intro w'
                        go_simp
                        with_reducible rfl
                      rotate_left
                      · simp only [Act.put, List.setIfInBounds_toArray, List.set_cons_zero, List.set_cons_succ, i64_w, i32_w]
                        rfl
                      refine one_ (i := 23) (N := some 92) #[true, true, true, true, true, true, true, true, true, true, true, true, true, true, true, true, true, true, true, true, true, true, true, true, false, true, true, true, false, false, false, true, false] rfl rfl (by kernel_rfl) (by decide) (fun K hK => ?_)
                      refine goes_ Tryz.func49 (by kernel_rfl) rfl #[.slice (some ⟨ab, ao, asp⟩) N c, .int .i64 (wrap64 (((p : Nat) : Int) + 14)), .int .i64 4] (by rfl) rfl rfl (by simp only [List.map_toArray, List.map_cons, List.map_nil]; rfl) ?_
                      with_reducible refine (hg4 _ HBc.out).mono ?_
                      rintro e w4 ⟨rfl, rfl⟩
                      refine ⟨_, rfl, ?_⟩
                      refine hK.out _ _ ⟨(HS.out _ HBc.out).1, (HS.out _ HBc.out).2⟩ (fun hHeld => ?_)
                      clear hK K
                      refine norm_ (a' := ?_) ?_ ?_
                      rotate_left
                      · show Act.put _ (some 92) _ = _
                        simp only [Act.put, List.setIfInBounds_toArray, List.set_cons_zero, List.set_cons_succ, i64_w, i32_w]
                        rfl
                      refine pure_ (i := 24) (N := some 93) (v := ?_) (a' := ?_) #[true, true, true, true, true, true, true, true, true, true, true, true, true, true, true, true, true, true, true, true, true, true, true, true, true, true, true, true, false, false, false, true, false] rfl rfl (by kernel_rfl) (fun _ _ _ h => h) (Or.inl ⟨by rfl, ?_⟩) ?_ ?_
                      rotate_left
                      · intro w'
                        go_simp
                        with_reducible rfl
                      rotate_left
                      · simp only [Act.put, List.setIfInBounds_toArray, List.set_cons_zero, List.set_cons_succ, i64_w, i32_w]
                        rfl
                      refine one_ (i := 28) (N := some 97) #[true, true, true, true, true, true, true, true, true, true, true, true, true, true, true, true, true, true, true, true, true, true, true, true, true, true, true, true, true, false, false, true, false] rfl rfl (by kernel_rfl) (by decide) (fun K hK => ?_)
                      refine goes_ Tryz.func49 (by kernel_rfl) rfl #[.slice (some ⟨ab, ao, asp⟩) N c, .int .i64 (wrap64 (((p : Nat) : Int) + 18)), .int .i64 4] (by rfl) rfl rfl (by simp only [List.map_toArray, List.map_cons, List.map_nil]; rfl) ?_
                      with_reducible refine (hg5 _ HBc.out).mono ?_
                      rintro e w4 ⟨rfl, rfl⟩
                      refine ⟨_, rfl, ?_⟩
                      refine hK.out _ _ ⟨(HS.out _ HBc.out).1, (HS.out _ HBc.out).2⟩ (fun hHeld => ?_)
                      clear hK K
                      refine norm_ (a' := ?_) ?_ ?_
                      rotate_left
                      · show Act.put _ (some 97) _ = _
                        simp only [Act.put, List.setIfInBounds_toArray, List.set_cons_zero, List.set_cons_succ, i64_w, i32_w]
                        rfl
                      refine pure_ (i := 29) (N := some 98) (v := ?_) (a' := ?_) #[true, true, true, true, true, true, true, true, true, true, true, true, true, true, true, true, true, true, true, true, true, true, true, true, true, true, true, true, true, true, false, true, false] rfl rfl (by kernel_rfl) (fun _ _ _ h => h) (Or.inl ⟨by rfl, ?_⟩) ?_ ?_
                      rotate_left
                      · intro w'
                        go_simp
                        with_reducible rfl
                      rotate_left
                      · simp only [Act.put, List.setIfInBounds_toArray, List.set_cons_zero, List.set_cons_succ, i64_w, i32_w]
                        rfl
                      refine pure_ (i := 30) (N := some 99) (v := ?_) (a' := ?_) #[true, true, true, true, true, true, true, true, true, true, true, true, true, true, true, true, true, true, true, true, true, true, true, true, true, true, true, true, true, true, true, true, false] rfl rfl (by kernel_rfl) (fun _ _ _ h => h) (Or.inl ⟨by rfl, ?_⟩) ?_ ?_
                      rotate_left
                      · intro w'
                        go_simp
                        with_reducible rfl
                      rotate_left
                      · simp only [Act.put, List.setIfInBounds_toArray, List.set_cons_zero, List.set_cons_succ, i64_w, i32_w]
                        rfl
                      exact norm_ (by simp only [putAll, Act.put, List.setIfInBounds_toArray, List.set_cons_zero, List.set_cons_succ]) (hCont W3.heap.size _ ⟨hO, HZ.out, HBc.out⟩)
                  rintro O w8 ⟨hO, hZ, hBc⟩
                  clear HBc
                  have HZ := Lib.hid hZ
                  have HBc := Lib.hid hBc
                  have hHeld := And.intro (HS.out _ HBc.out).1 (HS.out _ HBc.out).2
                  obtain ⟨z0, z1, z2, z3, z4, z5⟩ := zero_cells HZ.out; obtain ⟨y1, y2, y3, y4, y5⟩ := zero_sets HZ.out (.int .u64 (f0 : Nat)) (.int .i64 (b1 : Nat)) (.int .i64 (b2 : Nat)) (.int .u32 (f3 : Nat)) (.int .u32 (f4 : Nat)); obtain ⟨x1, x2, x3, x4, x5⟩ := zero_setsf HZ.out (.int .u64 (f0 : Nat)) (.int .i64 (b1 : Nat)) (.int .i64 (b2 : Nat)) (.int .u32 (f3 : Nat)) (.int .u32 (f4 : Nat)); have zf0 := zero_frozen HZ.out 0; have zf1 := zero_frozen HZ.out 1; have zf2 := zero_frozen HZ.out 2; have zf3 := zero_frozen HZ.out 3; have zf4 := zero_frozen HZ.out 4; have zf5 := zero_frozen HZ.out 5
                  refine norm_ (a' := ?_) ?_ ?_
                  rotate_left
                  · simp only [putAll, Act.put, List.setIfInBounds_toArray, List.set_cons_zero, List.set_cons_succ]
                    rfl
                  refine last_ (i := 32) (N := none) #[true, true, true, true, true, true, true, true, true, true, true, true, true, true, true, true, true, true, true, true, true, true, true, true, true, true, true, true, true, true, true, true, true] rfl rfl (by kernel_rfl) (by decide) (fun K hK => ?_)
                  refine skip_ (w1 := ?_) (by rfl) rfl ?_ ?_
                  rotate_left
                  · go_simp
                    rfl
                  refine hK.out _ _ ?_
                  clear hK K
                  refine done_ (by kernel_rfl) ?_
                  obtain ⟨wc, hwc⟩ : ∃ wc, wc = ((((((w8.setCell ⟨O, 0, none⟩ (.int .u64 (f0 : Nat))).setCell ⟨O, 1, none⟩ (.int .i64 (b1 : Nat))).setCell ⟨O, 2, none⟩ (.int .i64 (b2 : Nat))).setCell ⟨O, 3, none⟩ (.int .u32 (f3 : Nat))).setCell ⟨O, 4, none⟩ (.int .u32 (f4 : Nat))).setCell ⟨O, 5, none⟩ (.int .u32 (f5 : Nat))) := ⟨_, rfl⟩
                  have HBd : Hid (Below wr.heap.size wr wc) := by
                    show Below wr.heap.size wr wc
                    rw [hwc]; exact set6b HBc.out hO
                  have hOb := set6_ob HZ.out (.int .u64 (f0 : Nat)) (.int .i64 (b1 : Nat)) (.int .i64 (b2 : Nat)) (.int .u32 (f3 : Nat)) (.int .u32 (f4 : Nat)) (.int .u32 (f5 : Nat))
                  rw [← hwc] at hOb ⊢
                  clear hwc z0 z1 z2 z3 z4 z5 y1 y2 y3 y4 y5 x1 x2 x3 x4 x5 zf0 zf1 zf2 zf3 zf4 zf5 HZ hHeld HBc hg0 hg3 hg4 hg5 HS i8 i9 j8 j9 t8 t9 a8 a9 w9 w10 w14 w18 wb1 wb2 u3_ u4_ u5_ hO HXm
                  obtain ⟨e0, e1, e2, e3, e4, e5⟩ := cells6_of hOb
                  have HOb := Lib.hid hOb
                  clear hOb
                  go_wp2_with fail
                  refine (refMay_ok ⟨f0, b1, b2, f3, f4, f5⟩ wc).mono ?_
                  rintro e w9 ⟨rfl, hb9⟩
                  clear e0 e1 e2 e3 e4 e5
                  obtain ⟨e0, e1, e2, e3, e4, e5⟩ := cells6_of ((hb9.block _ (heap_lt' HOb.out)).trans HOb.out)
                  have HBw : Hid (Below wr.heap.size wr w9) := HBd.out.trans (hb9.mono HBd.out.size)
                  have HA9 := Lib.hid (Kd.R_below HA.out HBw.out)
                  have HB9 := Lib.hid (HBi.out.trans (HBw.out.mono HBi.out.size))
                  clear hb9 HOb HBd HA HBi HBw
                  obtain ⟨mb, hmb⟩ : ∃ mb, mb = mayB ⟨f0, b1, b2, f3, f4, f5⟩ := ⟨_, rfl⟩
                  rw [← hmb]
                  have hstep : Hid (decode bs = if mb = true then decRows bs (m - (i + 1)) (p + 22) (acc ++ [⟨f0, b1, b2, f3, f4, f5⟩]) else ([], (p : Int))) := by
                    show decode bs = _
                    rw [hdc.out, show m - i = (m - (i + 1)) + 1 by omega, decRows, hrow.out, ← hmb]
                  clear hdc hrow hmb
                  cases mb with
                  | false =>
                    go_wp2_with fail
                    refine bodyPost_ret (results_tmp2 rfl _ _ _) rfl ?_
                    rw [hstep.out]
                    exact RefD.bad HB9.out
                  | true =>
                    have hdc2 : Hid (decode bs = decRows bs (m - (i + 1)) (8 + 22 * (i + 1)) (acc ++ [⟨f0, b1, b2, f3, f4, f5⟩])) := by
                      show decode bs = _
                      rw [hstep.out, if_pos rfl, hp8.out]; rfl
                    clear hstep
                    go_wp2_with (at_builtin; refine Kd.R_append k35 (w0 := w) w.heap.size rfl (.tmp 105) (.tmp 107) 22 35 (.agg #[(.int .u64 0), (.int .i64 0), (.int .i64 0), (.int .u32 0), (.int .u32 0), (.int .u32 0)]) 40 rfl Tryz.underlying22 info35 rfl (by decide) (by omega) _ acc (⟨f0, b1, b2, f3, f4, f5⟩ : S35) [.int .u64 (f0 : Nat), .int .i64 (b1 : Nat), .int .i64 (b2 : Nat), .int .u32 (f3 : Nat), .int .u32 (f4 : Nat), .int .u32 (f5 : Nat)] (fun _ => True) (fun _ => False) rfl rfl (k35_mkM _ _ _ (⟨f0, b1, b2, f3, f4, f5⟩ : S35)) (fun _ hk => hk.elim) (fun _ _ => trivial) HA9.out HB9.out HB9.out.size (by have := hal.out; omega) ?_; intro v10 w10 ho10 hb10 hg10 hat10; have HA10 := Lib.hid ho10; have HB10 := Lib.hid hb10; clear ho10 hb10 hg10 hat10)
                    go_roundw
                    case rel => exact ⟨i + 1, acc ++ [⟨f0, b1, b2, f3, f4, f5⟩], by omega, by go_num, by show (acc ++ [_]).length = i + 1; rw [List.length_append, hal.out]; rfl, hdc2, HA10, HB10⟩
                    case measure => simp [RowKit.intOf]; omega
                · obtain rfl : i = m := by omega
                  have hfin : Hid (decode bs = (acc, -1)) := by
                    show decode bs = _
                    rw [hdc.out, Nat.sub_self]; rfl
                  clear hdc
                  go_wp2_with fail
                  refine bodyPost_ret (results_tmp2 rfl _ _ _) rfl ?_
                  rw [hfin.out]
                  exact ⟨_, rfl, HA.out, HBi.out⟩
            · have hbd : Hid (decode bs = ([], (M : Int))) := by
                show decode bs = _
                rw [hdb.out, if_pos (by omega)]
              have hne : ((cr : Int) == (g4 : Int)) = false := beq_eq_false_iff_ne.2 (by omega)
              have hne2 : ((cr : Int) != (g4 : Int)) = true := bne_iff_ne.2 (by omega)
              clear hdb
              go_wp2_with fail
              refine bodyPost_ret (results_tmp2 rfl _ _ _) rfl ?_
              rw [hbd.out]
              exact RefD.bad HB1.out
          · have hbd : Hid (decode bs = ([], 4)) := by
              show decode bs = _
              rw [hd.out]; unfold decBody
              rw [HN.out, Hm.out, if_neg h12, if_pos (.inr (by omega))]
            have hlI : (N : Int) = 12 + 22 * (m : Int) := by omega
            have hbI : (1000000 : Int) < (m : Int) := by omega
            clear hd
            go_wp2_with fail
            refine bodyPost_ret (results_tmp2 rfl _ _ _) rfl ?_
            rw [hbd.out]
            exact RefD.bad HB.out
        · have hbd : Hid (decode bs = ([], 4)) := by
            show decode bs = _
            rw [hd.out]; unfold decBody
            rw [HN.out, Hm.out, if_neg h12, if_pos (.inl (by omega))]
          have hlI : ¬ (N : Int) = 12 + 22 * (m : Int) := by omega
          clear hd
          go_wp2_with fail
          refine bodyPost_ret (results_tmp2 rfl _ _ _) rfl ?_
          rw [hbd.out]
          exact RefD.bad HB.out
end Go.Proofs.YtohighedgdlflaaGreatDoor

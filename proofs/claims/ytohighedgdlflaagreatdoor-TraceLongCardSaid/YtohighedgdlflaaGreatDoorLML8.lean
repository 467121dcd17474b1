/- The law TraceLong of package trace answers true, for every two numbers. -/
import Derived.Test.YtohighedgdlflaaGreatDoorLML7
import Derived.Test.YtohighedgdlflaaGreatDoorLML2
import Derived.Test.YtohighedgdlflaaGreatDoorLML3
import Derived.Test.YtohighedgdlflaaGreatDoorLML5
import Derived.Lib.SlBytesConst
import Derived.Test.YtohighedgdlflaaGreatDoorLML6
import Derived.Test.YtohighedgdlflaaGreatDoorLML4
import Derived.Laws.Strings3
/- trace.Decode answers as decode says. -/
namespace Go.Proofs.YtohighedgdlflaaGreatDoor
open Go.RowKit Go.Proofs.YtohighedgdlflaaGreatDoorW.PrintWords Go.Proofs.YtohighedgdlflaaGreatDoor.PR
set_option linter.unusedVariables false
set_option linter.unusedSimpArgs false
/-- The three results for an answer. -/
def DecR (w : World) (r : List S35 × Int) (e : Ending) (w' : World) : Prop :=
  ∃ v, e = .returned (.tuple #[v, .int .i64 (if r.2 < 0 then 0 else 221), .int .i64 (if r.2 < 0 then 0 else r.2)]) ∧ Kd.R k35 35 w' w.heap.size (fun _ => True) v r.1 ∧ Below w.heap.size w w'
theorem DecR.bad {w W : World} {p : Int} (hp : 0 ≤ p) (h : Below w.heap.size w W) : DecR w ([], p) (.returned (.tuple #[.slice none 0 0, .int .i64 221, .int .i64 p])) W :=
  ⟨.slice none 0 0, by simp [show ¬ p < 0 by omega], Kd.R_nil _ _ _ _ _, h⟩
theorem Rd.below {w W : World} {base g gb cap at_ : Nat} {bs : List Int} (h : Rd w base g gb cap bs at_) (hb : Below w.heap.size w W) : Rd W base g gb cap bs at_ :=
  ⟨h.base_g, h.base_gb, h.le, h.small, (hb.block g (heap_lt h.cells)).trans h.cells, pw_own_below h.own hb⟩
theorem Rd.gb_lt {w : World} {base g gb cap at_ : Nat} {bs : List Int} (h : Rd w base g gb cap bs at_) : gb < w.heap.size := own_lt h.own gb rfl
theorem Rd.keep {w W : World} {base g gb cap at_ g2 : Nat} {bs : List Int} (h : Rd w base g gb cap bs at_) (hk : KeepBut w W g2 none) (h1 : g ≠ g2) (h2 : gb ≠ g2) : Rd W base g gb cap bs at_ :=
  ⟨h.base_g, h.base_gb, h.le, h.small, (hk.2 g (heap_lt h.cells) h1 (by simp)).trans h.cells, own_move h.own (fun k hkk => by
    have : gb = k := by simpa [Value.ownBlock] using hkk
    subst this
    exact hk.2 gb h.gb_lt h2 (by simp))⟩
theorem Rd.grown {w W : World} {base g gb cap at_ b2 : Nat} {bs : List Int} {ok : Nat → Prop} {v : Value} {xs : List S35} (h : Rd w base g gb cap bs at_) (ho : Kd.R k35 35 w b2 ok v xs) (hg : w.grownBy W v.ownBlock) : Rd W base g gb cap bs at_ := by
  have n1 : some g ≠ v.ownBlock := Kd.R_ne ho h.cells (by decide)
  have n2 : some gb ≠ v.ownBlock := by
    obtain ⟨cs, hc⟩ := own_typed h.own gb rfl
    exact Kd.R_ne ho hc (by decide)
  exact ⟨h.base_g, h.base_gb, h.le, h.small, (hg.block g (heap_lt h.cells) n1).trans h.cells, own_move h.own (fun k hkk => by
    have : gb = k := by simpa [Value.ownBlock] using hkk
    subst this
    exact hg.block gb h.gb_lt n2)⟩
/-- A row of the call's own beside a reader that is read from. -/
theorem R_rk {w W : World} {base g gb cap at_ b2 : Nat} {bs : List Int} {ok : Nat → Prop} {v : Value} {xs : List S35} {bs2 : List Int} {at2 : Nat} (ho : Kd.R k35 35 w b2 ok v xs) (h : Rd w base g gb cap bs at_) (hk : Rk w W base g gb cap bs2 at2) : Kd.R k35 35 W b2 ok v xs := by
  have h1 := Kd.R_types ho h.cells (by intro q hq; have : q = 35 := by simpa [k35, Kd.iso, Kd.pair, Kd.int, Kd.scalar] using hq
                                       omega)
  exact Kd.R_mono (Kd.R_keep h1 hk.keep (fun k hk => hk.2)) (fun _ hk => hk.1)
theorem lev1_b {bs : List Int} (h : Crc.Bytes bs) (p : Nat) : 0 ≤ lev ((bs.drop p).take 1) ∧ lev ((bs.drop p).take 1) < 256 := by
  have := lev_bounds (bytes_cut h p 1)
  have hl : ((bs.drop p).take 1).length ≤ 1 := List.length_take_le _ _
  refine ⟨this.1, Int.lt_of_lt_of_le this.2 ?_⟩
  calc (2 : Int) ^ (8 * ((bs.drop p).take 1).length) ≤ 2 ^ 8 := by
        have : (2 : Nat) ^ (8 * ((bs.drop p).take 1).length) ≤ 2 ^ 8 := Nat.pow_le_pow_right (by omega) (by omega)
        exact_mod_cast this
    _ = 256 := by decide
theorem lev4_b {bs : List Int} (h : Crc.Bytes bs) (p : Nat) : 0 ≤ lev ((bs.drop p).take 4) ∧ lev ((bs.drop p).take 4) < 4294967296 := by
  have := lev_bounds (bytes_cut h p 4)
  have hl : ((bs.drop p).take 4).length ≤ 4 := List.length_take_le _ _
  refine ⟨this.1, Int.lt_of_lt_of_le this.2 ?_⟩
  calc (2 : Int) ^ (8 * ((bs.drop p).take 4).length) ≤ 2 ^ 32 := by
        have : (2 : Nat) ^ (8 * ((bs.drop p).take 4).length) ≤ 2 ^ 32 := Nat.pow_le_pow_right (by omega) (by omega)
        exact_mod_cast this
    _ = 4294967296 := by decide
set_option maxRecDepth 100000 in
set_option maxHeartbeats 2000000 in
theorem decode_ok (bs : List Int) (A : Option Addr) (c : Nat) (w : World) (hT : WTab w) (hR : Kd.C (Kd.int .u8) w A bs.length bs) (hc : bs.length ≤ c) (hl : bs.length ≤ 67108864) (hb : Crc.Bytes bs) :
    Calls Tryz.prog 16 #[.slice A bs.length c] w (DecR w (decode bs)) := by
  have HR := Lib.hid hR
  have HT := Lib.hid hT
  have HB := Lib.hid hb
  clear hR hT hb
  have kc := fun (w : World) (C : Array Value) (n c : Nat) => Lib.run_convert_bytes_const (P := Tryz.prog) w 37 5 C n c Tryz.underlying37 Tryz.underlying5
  go_enter Tryz.func16, Tryz.ntmps16
  go_wp2_with fail
  have hbW : Hid (Below w.heap.size w (w.alloc (.cells #[.int .u8 67, .int .u8 76, .int .u8 84, .int .u8 82] 5 (4, 5)))) := below_alloc (Below.refl _ _) _
  have hmag : Hid (∀ k, k < 4 → (w.alloc (.cells #[.int .u8 67, .int .u8 76, .int .u8 84, .int .u8 82] 5 (4, 5))).cell? ⟨w.heap.size, k, none⟩ = some (.int .u8 (magicL.getD k 0))) := by
    intro k hk
    simp only [World.cell?, heap_alloc_new]
    match k, hk with
    | 0, _ => rfl
    | 1, _ => rfl
    | 2, _ => rfl
    | 3, _ => rfl
  generalize w.alloc (.cells #[.int .u8 67, .int .u8 76, .int .u8 84, .int .u8 82] 5 (4, 5)) = W at *
  go_loop [5, 6, 16] (fun v5 v6 v16 => ∃ k : Nat, k ≤ 4 ∧ v16 = .int .i64 k ∧ Hid (∀ i, i < k → badMagic bs i = false)) (fun _ _ i => 4 - (intOf i).toNat)
  case atStart => exact ⟨0, by omega, rfl, fun i hi => by omega⟩
  case round =>
    obtain ⟨k, hk, rfl, hg⟩ := hrel
    by_cases hlt : k < 4
    · obtain ⟨m, hm⟩ : ∃ m, m = magicL.getD k 0 := ⟨_, rfl⟩
      have hm0 : W.cell? ⟨w.heap.size, k, none⟩ = some (.int .u8 m) := by rw [hm]; exact hmag.out k hlt
      by_cases hin : bs.length ≤ k
      · have hbad : Hid (decode bs = ([], (k : Int))) := decode_bad hg.out (badMagic_len hlt hin) hlt
        have hin' : ¬ (k : Int) < bs.length := by omega
        clear hm
        go_wp2
        refine bodyPost_ret (results_tmp3 rfl _ _ _) rfl ?_
        rw [hbad.out]
        exact DecR.bad (by omega) hbW.out
      · have hin2 : k < bs.length := by omega
        obtain ⟨b, hb⟩ : ∃ b, b = bs.getD k 0 := ⟨_, rfl⟩
        obtain ⟨ad, rfl, hcs⟩ := (C_reads (Kd.C_below HR.out hbW.out)).2.2 (by omega)
        have hc0 : W.cell? (ad.add k) = some (.int .u8 b) := by rw [hb]; exact hcs k hin2
        clear hcs
        by_cases hne : b = m
        · have hgood : Hid (∀ i, i < k + 1 → badMagic bs i = false) := by
            intro i hi
            by_cases e : i = k
            · subst e; rw [badMagic_at hin2, ← hb, ← hm, hne]; simp
            · exact hg.out i (by omega)
          subst hne
          clear hb hm
          go_wp2
          go_round
          case rel => exact ⟨k + 1, by omega, by go_num, hgood⟩
          case measure => simp [intOf]; omega
        · have hbad : Hid (decode bs = ([], (k : Int))) := decode_bad hg.out (by rw [badMagic_at hin2, ← hb, ← hm]; simpa using hne) hlt
          have hne' : (b != m) = true := by simpa using hne
          clear hb hm
          go_wp2
          refine bodyPost_ret (results_tmp3 rfl _ _ _) rfl ?_
          rw [hbad.out]
          exact DecR.bad (by omega) hbW.out
    · obtain rfl : k = 4 := by omega
      have hlen : 4 ≤ bs.length := by
        rcases Nat.lt_or_ge 3 bs.length with h | h
        · exact h
        · have := hg.out 3 (by omega); rw [badMagic_len (by omega) h] at this; cases this
      have hd : Hid (decode bs = decBody bs) := decode_good hg.out
      clear hmag hg kc
      go_wp2_with fail
      refine (newReader_ok bs A c W (Kd.C_below HR.out hbW.out) (by omega) hl).mono ?_
      rintro e w1 ⟨g, gb, cap, rfl, hr1, hb1⟩
      have hws := hbW.out.size
      have HG : w.heap.size ≤ g := Nat.le_trans hws hr1.base_g
      have HB1 : Hid (Below w.heap.size w w1) := hbW.out.trans (hb1.mono hws)
      have HR1 := Lib.hid hr1
      clear hr1 hb1 hbW
      go_wp2_with fail
      refine (rawr_ok _ g gb cap 0 4 bs w1 HR1.out (by omega) (by omega)).mono ?_
      rintro e w2 ⟨v2, rfl, hk2⟩
      have HR2 := Lib.hid hk2.rd
      have HB2 : Hid (Below w.heap.size w w2) := hk2.below _ _ HG HB1.out
      clear hk2 HR1 HB1
      go_wp2_with fail
      by_cases h8 : bs.length < 8
      · refine (word_short _ g gb cap _ bs w2 HR2.out (by omega)).mono ?_
        rintro e w3 ⟨rfl, hk3⟩
        have HB3 : Hid (Below w.heap.size w w3) := hk3 _ _ HG HB2.out
        clear hk3
        have h12 : (bs.length : Int) < 12 := by omega
        have hbad : Hid (decode bs = ([], 4)) := by
          show decode bs = _
          rw [hd.out]; unfold decBody; rw [if_pos (by omega)]
        go_wp2_with fail
        refine bodyPost_ret (results_tmp3 rfl _ _ _) rfl ?_
        rw [hbad.out]
        exact DecR.bad (by omega) HB3.out
      · refine (word_r _ g gb cap _ bs w2 HR2.out (by omega) HB.out).mono ?_
        rintro e w3 ⟨rfl, hk3⟩
        have HR3 := Lib.hid hk3.rd
        have HB3 : Hid (Below w.heap.size w w3) := hk3.below _ _ HG HB2.out
        clear hk3 HR2 HB2
        obtain ⟨n, hn⟩ : ∃ n, n = lev ((bs.drop 4).take 4) := ⟨_, rfl⟩
        have hnb : 0 ≤ n ∧ n < 4294967296 := by
          have := lev_bounds (bytes_cut HB.out 4 4)
          rw [hn]
          rw [List.length_take, List.length_drop, show min 4 (bs.length - 4) = 4 by omega] at this
          omega
        obtain ⟨hn0, hn1⟩ := hnb
        have Hn := Lib.hid hn
        rw [show 0 + 4 = 4 from rfl, ← hn]
        clear hn
        by_cases h12 : bs.length < 12
        · have hbad : Hid (decode bs = ([], 4)) := by
            show decode bs = _
            rw [hd.out]; unfold decBody; rw [if_pos h12]
          have h12' : (bs.length : Int) < 12 := by omega
          go_wp2_with fail
          refine bodyPost_ret (results_tmp3 rfl _ _ _) rfl ?_
          rw [hbad.out]
          exact DecR.bad (by omega) HB3.out
        · have h12' : ¬ (bs.length : Int) < 12 := by omega
          by_cases heq : (bs.length : Int) = 12 + 22 * n
          · have heq' : ((bs.length : Int) != 12 + 22 * n) = false := by simpa using heq
            have Heq := Lib.hid heq
            clear heq
            by_cases hbig : 1000000 < n
            · have hbad : Hid (decode bs = ([], 4)) := by
                show decode bs = _
                rw [hd.out]; unfold decBody; rw [if_neg h12, if_pos (by rw [← Hn.out]; exact .inr hbig)]
              go_wp2_with fail
              refine bodyPost_ret (results_tmp3 rfl _ _ _) rfl ?_
              rw [hbad.out]
              exact DecR.bad (by omega) HB3.out
            · have hbig' : n ≤ 1000000 := by omega
              go_wp2_with fail
              obtain ⟨m, hm⟩ : ∃ m, m = bs.length - 4 := ⟨_, rfl⟩
              have hm4 : bs.length = m + 4 := by omega
              obtain ⟨ys, hys⟩ : ∃ ys, ys = bs.drop m := ⟨_, rfl⟩
              have hyl : ys.length = bs.length - m := by rw [hys, List.length_drop]
              have hCy := Kd.C_drop (Kd.C_below HR.out HB3.out) (m := m) (by omega) hc
              rw [if_neg (by omega), ← hys] at hCy
              have HYB : Hid (Crc.Bytes ys) := by rw [hys]; exact fun x hx => HB.out x (List.mem_of_mem_drop hx)
              have hnr := newReader_ok ys (A.map (·.add (m * 1))) (c - m) w3 hCy (by omega) (by omega)
              rw [hyl] at hnr
              simp only [Nat.mul_one] at hnr
              rw [← hm]
              refine hnr.mono ?_
              clear hnr hCy
              rintro e w4 ⟨g2, gb2, cap2, rfl, hr4, hb4⟩
              have HR4 := Lib.hid hr4
              have HRm := Lib.hid (HR3.out.below hb4)
              have hws3 := HB3.out.size
              have HB4 : Hid (Below w.heap.size w w4) := HB3.out.trans (hb4.mono hws3)
              have HN : Hid (g ≠ g2 ∧ gb ≠ g2 ∧ w.heap.size ≤ g2) := by
                have h1 := hr4.base_g; have h2 := heap_lt HR3.out.cells; have h3 := HR3.out.gb_lt
                exact ⟨by omega, by omega, by omega⟩
              clear hr4 hb4 HR3
              have Hys := Lib.hid hys
              have Hyl := Lib.hid hyl
              have Hm := Lib.hid hm
              have Hm4 := Lib.hid hm4
              have hw4 : IntKind.i64.wrap ((bs.length : Int) - 4) = (bs.length : Int) - 4 := IntWalk.i64_in _ (by omega)
              have hsl37 : ∀ W : World, (Instr.slice 37 (.slice A bs.length c) none (some (.int .i64 ((bs.length : Int) - 4))) none).run Tryz.prog W = .ok (.slice A m c) W := by
                obtain ⟨i0, hi, _⟩ := Option.map_eq_some_iff.1 info5
                intro W
                have := cut_to (P := Tryz.prog) 37 5 .i64 Tryz.underlying37 hi A bs.length c ((bs.length : Int) - 4) (by omega) (by omega) hc W
                rw [this]; congr 2; omega
              clear hys hyl hm hm4
              have HTL : Hid ((bs.take m).length = m) := by show (bs.take m).length = m; rw [List.length_take]; have := Hm4.out; omega
              have HTB : Hid (Crc.Bytes (bs.take m)) := fun x hx => HB.out x (List.mem_of_mem_take hx)
              have HCT : Hid (∀ X, Below w.heap.size w X → Kd.C (Kd.int .u8) X A m (bs.take m)) := by
                intro X hX
                have := Kd.C_take (Kd.C_below HR.out hX) (m := m) (by have := Hm4.out; omega)
                rwa [HTL.out] at this
              go_upto_region 13 with (fail)
              go_cut [72] (fun v72 wc => ∃ b : Bool, v72 = .bool b ∧ Hid (b = (lev (ys.take 4) != Crc.crc (bs.take m))) ∧ Hid (Rd wc W.heap.size g gb cap bs 8) ∧ Hid (Below w.heap.size w wc))
              case first =>
                go_region_with (first | (go_at_call 44; refine (word_r _ g2 gb2 cap2 0 ys _ (HR4.out.below (by first | exact below_drew (Below.refl _ _) | exact below_drew (below_alloc (Below.refl _ _) _))) (by have := Hyl.out; have := Hm4.out; omega) HYB.out).mono ?_; rintro e w5 ⟨rfl, hk5⟩; have HK5 := Lib.hid hk5; have HB5 : Hid (Below w.heap.size w w5) := hk5.below _ _ HN.out.2.2 (by first | exact below_drew HB4.out | exact below_drew (HB4.out.alloc HB4.out.size _)); clear hk5) | (go_at_call 45; refine (sum_okn (bs.take m) m HTL.out A c _ _ _ (HT.out.below (by first | exact HB5.out | exact HB5.out.alloc HB5.out.size _)) (by first | (simp; done) | exact keep_cell HK5.out.keep (by simp) (by have := heap_lt HR4.out.cells; simp; omega)) (HCT.out _ (by first | exact HB5.out | exact HB5.out.alloc HB5.out.size _)) HTB.out).mono ?_; rintro e w6 ⟨rfl, rfl⟩))
                all_goals
                  go_wp2_with fail
                  go_meet
                  case rel =>
                    refine ⟨_, rfl, rfl, ?_, ?_⟩
                    · first
                      | exact ((HRm.out.below (below_drew (Below.refl _ _))).keep HK5.out.keep HN.out.1 HN.out.2.1).below (below_alloc (Below.refl _ _) _)
                      | exact (HRm.out.below (below_drew (below_alloc (Below.refl _ _) _))).keep HK5.out.keep HN.out.1 HN.out.2.1
                    · first
                      | exact HB5.out.alloc HB5.out.size _
                      | exact HB5.out
              case rest =>
                clear hsl37 hw4 HTL HTB HCT HRm HR4 HB4 HB3 hk hlt hws hws3 HN HYB
                obtain ⟨b, rfl, hb, HRc, HBc⟩ := hcut
                have hlt4 : ys.take 4 = (bs.drop (bs.length - 4)).take 4 := by rw [Hys.out, ← Hm.out]
                cases b with
                | true =>
                  have hbad : Hid (decode bs = ([], ((bs.length - 4 : Nat) : Int))) := by
                    show decode bs = _
                    rw [hd.out]; unfold decBody
                    rw [if_neg h12, if_neg (by rw [← Hn.out]; intro h; rcases h with h | h; exact h Heq.out; omega), if_pos (by rw [← hlt4, ← Hm.out]; have := hb.out.symm; simpa using this)]
                  have hcast : ((bs.length - 4 : Nat) : Int) = (bs.length : Int) - 4 := by omega
                  have Hc := Lib.hid hcast
                  clear hcast hlt4 hb
                  go_wp2_with fail
                  refine bodyPost_ret (results_tmp3 rfl _ _ _) rfl ?_
                  rw [hbad.out]
                  have := DecR.bad (w := w) (W := wc) (p := ((bs.length - 4 : Nat) : Int)) (by omega) HBc.out
                  rw [Hc.out] at this ⊢
                  exact this
                | false =>
                  have hgood : Hid (decode bs = decRows bs n.toNat 8 []) := by
                    show decode bs = _
                    rw [hd.out]; unfold decBody
                    rw [if_neg h12, if_neg (by rw [← Hn.out]; intro h; rcases h with h | h; exact h Heq.out; omega), if_neg (by rw [← hlt4, ← Hm.out]; have := hb.out.symm; simpa using this), ← Hn.out]
                  clear hlt4 hb Hys Hyl Hm Hm4 hd Hn
                  go_wp2_with fail
                  obtain ⟨N, rfl⟩ := Int.eq_ofNat_of_zero_le hn0
                  rw [Int.toNat_natCast] at hgood
                  have hbl : bs.length = 12 + 22 * N := by have := Heq.out; omega
                  have Hbl := Lib.hid hbl
                  have hN : N ≤ 1000000 := by omega
                  clear hbl heq' Heq hn0 hn1 h12 h12' hbig' hbig h8 hlen
                  go_loopw [10, 11, 12, 77] (fun v10 v11 v12 v77 wr => ∃ (k : Nat) (acc : List S35), k ≤ N ∧ v77 = .int .i64 k ∧ Hid (acc.length = k) ∧ Hid (Rd wr W.heap.size g gb cap bs (8 + 22 * k)) ∧ Hid (Kd.R k35 35 wr w.heap.size (fun _ => True) v10 acc) ∧ Hid (decode bs = decRows bs (N - k) (8 + 22 * k) acc) ∧ Hid (Below w.heap.size w wr)) (fun _ _ _ i _ => N - (intOf i).toNat)
                  case atStart => exact ⟨0, [], by omega, rfl, rfl, HRc, Kd.R_nil _ _ _ _ _, hgood, HBc⟩
                  case round =>
                    clear hgood HRc HBc
                    obtain ⟨k, acc, hk, rfl, hal, HR1, HA, hdec, HB1⟩ := hrel
                    by_cases hlt : k < N
                    · have hp : 8 + 22 * k + 22 ≤ bs.length := by have := Hbl.out; omega
                      have Hp := Lib.hid hp; clear hp
                      go_wp2_with fail
                      refine (at_r _ g gb cap _ bs wr HR1.out).mono ?_
                      rintro e w2 ⟨rfl, rfl⟩
                      go_wp2_with fail
                      refine (long_r _ g gb cap _ bs _ HR1.out (by have := Hp.out; omega) HB.out).mono ?_
                      rintro e w2 ⟨rfl, hk2⟩
                      have HR2 := Lib.hid hk2.rd
                      have HA2 := Lib.hid (R_rk HA.out HR1.out hk2)
                      have HB2 := Lib.hid (hk2.below _ _ HG HB1.out)
                      clear hk2 HR1 HA HB1
                      obtain ⟨t, ht⟩ : ∃ x, x = lev ((bs.drop (8 + 22 * k)).take 8) := ⟨_, rfl⟩
                      try simp only [Nat.add_assoc, Nat.reduceAdd]
                      try simp only [Nat.add_assoc, Nat.reduceAdd] at ht HR2
                      rw [← ht]
                      have Ht := Lib.hid ht; clear ht
                      go_wp2_with fail
                      refine (byte_r _ g gb cap _ bs _ HR2.out (by have := Hp.out; omega) HB.out).mono ?_
                      rintro e w3 ⟨rfl, hk3⟩
                      have HR3 := Lib.hid hk3.rd
                      have HA3 := Lib.hid (R_rk HA2.out HR2.out hk3)
                      have HB3 := Lib.hid (hk3.below _ _ HG HB2.out)
                      clear hk3 HR2 HA2 HB2
                      obtain ⟨q1, hq1⟩ : ∃ x, x = lev ((bs.drop (8 + 22 * k + 8)).take 1) := ⟨_, rfl⟩
                      obtain ⟨q1l, q1r⟩ : 0 ≤ q1 ∧ q1 < 256 := by rw [hq1]; exact lev1_b HB.out _
                      try simp only [Nat.add_assoc, Nat.reduceAdd]
                      try simp only [Nat.add_assoc, Nat.reduceAdd] at hq1 HR3
                      rw [← hq1]
                      have Hq1 := Lib.hid hq1; clear hq1
                      go_wp2_with fail
                      refine (byte_r _ g gb cap _ bs _ HR3.out (by have := Hp.out; omega) HB.out).mono ?_
                      rintro e w4 ⟨rfl, hk4⟩
                      have HR4 := Lib.hid hk4.rd
                      have HA4 := Lib.hid (R_rk HA3.out HR3.out hk4)
                      have HB4 := Lib.hid (hk4.below _ _ HG HB3.out)
                      clear hk4 HR3 HA3 HB3
                      obtain ⟨q2, hq2⟩ : ∃ x, x = lev ((bs.drop (8 + 22 * k + 9)).take 1) := ⟨_, rfl⟩
                      obtain ⟨q2l, q2r⟩ : 0 ≤ q2 ∧ q2 < 256 := by rw [hq2]; exact lev1_b HB.out _
                      try simp only [Nat.add_assoc, Nat.reduceAdd]
                      try simp only [Nat.add_assoc, Nat.reduceAdd] at hq2 HR4
                      rw [← hq2]
                      have Hq2 := Lib.hid hq2; clear hq2
                      go_wp2_with fail
                      refine (word_r _ g gb cap _ bs _ HR4.out (by have := Hp.out; omega) HB.out).mono ?_
                      rintro e w5 ⟨rfl, hk5⟩
                      have HR5 := Lib.hid hk5.rd
                      have HA5 := Lib.hid (R_rk HA4.out HR4.out hk5)
                      have HB5 := Lib.hid (hk5.below _ _ HG HB4.out)
                      clear hk5 HR4 HA4 HB4
                      obtain ⟨pc, hpc⟩ : ∃ x, x = lev ((bs.drop (8 + 22 * k + 10)).take 4) := ⟨_, rfl⟩
                      obtain ⟨pcl, pcr⟩ : 0 ≤ pc ∧ pc < 4294967296 := by rw [hpc]; exact lev4_b HB.out _
                      try simp only [Nat.add_assoc, Nat.reduceAdd]
                      try simp only [Nat.add_assoc, Nat.reduceAdd] at hpc HR5
                      rw [← hpc]
                      have Hpc := Lib.hid hpc; clear hpc
                      go_wp2_with fail
                      refine (word_r _ g gb cap _ bs _ HR5.out (by have := Hp.out; omega) HB.out).mono ?_
                      rintro e w6 ⟨rfl, hk6⟩
                      have HR6 := Lib.hid hk6.rd
                      have HA6 := Lib.hid (R_rk HA5.out HR5.out hk6)
                      have HB6 := Lib.hid (hk6.below _ _ HG HB5.out)
                      clear hk6 HR5 HA5 HB5
                      obtain ⟨fa, hfa⟩ : ∃ x, x = lev ((bs.drop (8 + 22 * k + 14)).take 4) := ⟨_, rfl⟩
                      obtain ⟨fal, far⟩ : 0 ≤ fa ∧ fa < 4294967296 := by rw [hfa]; exact lev4_b HB.out _
                      try simp only [Nat.add_assoc, Nat.reduceAdd]
                      try simp only [Nat.add_assoc, Nat.reduceAdd] at hfa HR6
                      rw [← hfa]
                      have Hfa := Lib.hid hfa; clear hfa
                      go_wp2_with fail
                      refine (word_r _ g gb cap _ bs _ HR6.out (by have := Hp.out; omega) HB.out).mono ?_
                      rintro e w7 ⟨rfl, hk7⟩
                      have HR7 := Lib.hid hk7.rd
                      have HA7 := Lib.hid (R_rk HA6.out HR6.out hk7)
                      have HB7 := Lib.hid (hk7.below _ _ HG HB6.out)
                      clear hk7 HR6 HA6 HB6
                      obtain ⟨fb, hfb⟩ : ∃ x, x = lev ((bs.drop (8 + 22 * k + 18)).take 4) := ⟨_, rfl⟩
                      obtain ⟨fbl, fbr⟩ : 0 ≤ fb ∧ fb < 4294967296 := by rw [hfb]; exact lev4_b HB.out _
                      try simp only [Nat.add_assoc, Nat.reduceAdd]
                      try simp only [Nat.add_assoc, Nat.reduceAdd] at hfb HR7
                      rw [← hfb]
                      have Hfb := Lib.hid hfb; clear hfb
                      go_wp2_with fail
                      obtain ⟨o, ho⟩ : ∃ o : S35, o = ⟨t, q1, q2, pc, fa, fb⟩ := ⟨_, rfl⟩
                      have hrow : Hid (rowAt bs (8 + 22 * k) = o) := by
                        show rowAt bs (8 + 22 * k) = o
                        rw [ho]; unfold rowAt
                        simp only [Nat.add_assoc]
                        rw [← Ht.out, ← Hq1.out, ← Hq2.out, ← Hpc.out, ← Hfa.out, ← Hfb.out]
                      have hbl7 : Hid (Below w7.heap.size w7 (w7.alloc (.cells #[.int .u64 o.f0, .int .i64 o.f1, .int .i64 o.f2, .int .u32 o.f3, .int .u32 o.f4, .int .u32 o.f5] 35))) := below_alloc (Below.refl _ _) _
                      have hob : Hid (Ob6 (w7.alloc (.cells #[.int .u64 o.f0, .int .i64 o.f1, .int .i64 o.f2, .int .u32 o.f3, .int .u32 o.f4, .int .u32 o.f5] 35)) w7.heap.size o) := heap_alloc_new w7 _
                      have e0 : t = o.f0 := by rw [ho]
                      have e1 : q1 = o.f1 := by rw [ho]
                      have e2 : q2 = o.f2 := by rw [ho]
                      have e3 : pc = o.f3 := by rw [ho]
                      have e4 : fa = o.f4 := by rw [ho]
                      have e5 : fb = o.f5 := by rw [ho]
                      clear Ht Hq1 Hq2 Hpc Hfa Hfb ho q1l q1r q2l q2r pcl pcr fal far fbl fbr
                      rw [e0, e1, e2, e3, e4, e5]
                      clear e0 e1 e2 e3 e4 e5
                      refine (may_ok o _).mono ?_
                      rintro e w8 ⟨rfl, hb8⟩
                      have HB78 : Hid (Below w7.heap.size w7 w8) := hbl7.out.trans (hb8.mono hbl7.out.size)
                      have hob8 : Ob6 w8 w7.heap.size o := (hb8.block _ (heap_lt hob.out)).trans hob.out
                      obtain ⟨c0, c1, c2, c3, c4, c5⟩ := hob8.cells
                      have HR8 := Lib.hid (HR7.out.below HB78.out)
                      have HA8 := Lib.hid (Kd.R_below HA7.out HB78.out)
                      have HB8 := Lib.hid (HB7.out.trans (HB78.out.mono HB7.out.size))
                      clear hob8 hb8 hbl7 hob HB78 HR7 HA7 HB7
                      obtain ⟨mb, hmb⟩ : ∃ mb, mb = mayB o := ⟨_, rfl⟩
                      rw [← hmb]
                      have hdec2 : Hid (decode bs = if mb = true then decRows bs (N - (k + 1)) (8 + 22 * (k + 1)) (acc ++ [o]) else ([], ((8 + 22 * k : Nat) : Int))) := by
                        show decode bs = _
                        rw [hdec.out, show N - k = (N - (k + 1)) + 1 by omega]
                        simp only [decRows]
                        rw [hrow.out, ← hmb]
                        rfl
                      clear hmb hdec hrow
                      cases mb with
                      | false =>
                        have hbad : Hid (decode bs = ([], ((8 + 22 * k : Nat) : Int))) := by
                          show decode bs = _
                          rw [hdec2.out]; rfl
                        clear hdec2
                        have hcast : Hid (((8 + 22 * k : Nat) : Int) = 8 + 22 * (k : Int)) := by show ((8 + 22 * k : Nat) : Int) = _; omega
                        go_wp2_with fail
                        refine bodyPost_ret (results_tmp3 rfl _ _ _) rfl ?_
                        rw [hbad.out]
                        have := DecR.bad (w := w) (W := w8) (p := ((8 + 22 * k : Nat) : Int)) (by omega) HB8.out
                        rw [hcast.out] at this ⊢
                        exact this
                      | true =>
                        have hdec3 : Hid (decode bs = decRows bs (N - (k + 1)) (8 + 22 * (k + 1)) (acc ++ [o])) := by
                          show decode bs = _
                          rw [hdec2.out]; rfl
                        clear hdec2
                        go_wp2_with (at_builtin; refine Kd.R_append k35 (w0 := w) w.heap.size rfl (.tmp 100) (.tmp 102) 22 35 (.agg #[(.int .u64 0), (.int .i64 0), (.int .i64 0), (.int .u32 0), (.int .u32 0), (.int .u32 0)]) 40 rfl Tryz.underlying22 info35 rfl (by decide) (by omega) _ acc o [.int .u64 o.f0, .int .i64 o.f1, .int .i64 o.f2, .int .u32 o.f3, .int .u32 o.f4, .int .u32 o.f5] (fun _ => True) (fun _ => False) rfl rfl (k35_mkM _ _ _ o) (fun _ hk => hk.elim) (fun _ _ => trivial) HA8.out HB8.out HB8.out.size (by have := hal.out; omega) ?_; intro v9 w9 ho9 hb9 hg9 hat9; have HR9 := Lib.hid (HR8.out.grown HA8.out hg9); have HA9 := Lib.hid ho9; have HB9 := Lib.hid hb9; clear ho9 hb9 hg9 hat9)
                        go_roundw
                        case rel => exact ⟨k + 1, acc ++ [o], by omega, by go_num, by show (acc ++ [o]).length = k + 1; rw [List.length_append, hal.out]; rfl, HR9, HA9, hdec3, HB9⟩
                        case measure => simp [intOf]; omega
                    · obtain rfl : k = N := by omega
                      have hfin : Hid (decode bs = (acc, -1)) := by
                        show decode bs = _
                        rw [hdec.out, Nat.sub_self]; rfl
                      clear hdec
                      go_wp2_with fail
                      refine bodyPost_ret (results_tmp3 rfl _ _ _) rfl ?_
                      rw [hfin.out]
                      exact ⟨_, rfl, HA.out, HB1.out⟩
          · have heq' : ((bs.length : Int) != 12 + 22 * n) = true := by simpa using heq
            have hbad : Hid (decode bs = ([], 4)) := by
              show decode bs = _
              rw [hd.out]; unfold decBody; rw [if_neg h12, if_pos (by rw [← Hn.out]; exact .inl heq)]
            clear heq
            go_wp2_with fail
            refine bodyPost_ret (results_tmp3 rfl _ _ _) rfl ?_
            rw [hbad.out]
            exact DecR.bad (by omega) HB3.out
end Go.Proofs.YtohighedgdlflaaGreatDoor

/- The read functions of trace.forms. -/
namespace Go.Proofs.YtohighedgdlflaaGreatDoor
open Go.Shelf Go.RowKit Go.Sort Go.Lib Go.Proofs.YtohighedgdlflaaGreatDoorW.PrintWords Go.Proofs.YtohighedgdlflaaGreatDoor.PR
set_option linter.unusedVariables false
set_option linter.unusedSimpArgs false
/-- The observation's block. -/
def ObN (W : World) (O t cl q p a b : Nat) : Prop := W.heap[O]? = some (.cells #[.int .u64 t, .int .i64 cl, .int .i64 q, .int .u32 p, .int .u32 a, .int .u32 b] 35 (0, 0))
theorem ObN.below {W W' : World} {O t cl q p a b : Nat} (h : ObN W O t cl q p a b) (hb : Below W.heap.size W W') : ObN W' O t cl q p a b := (hb.block O (heap_lt' h)).trans h
theorem ObN.cells {W : World} {O t cl q p a b : Nat} (h : ObN W O t cl q p a b) : W.cell? ⟨O, 0, none⟩ = some (.int .u64 t) ∧ W.cell? ⟨O, 1, none⟩ = some (.int .i64 cl) ∧ W.cell? ⟨O, 2, none⟩ = some (.int .i64 q) ∧ W.cell? ⟨O, 3, none⟩ = some (.int .u32 p) ∧ W.cell? ⟨O, 4, none⟩ = some (.int .u32 a) ∧ W.cell? ⟨O, 5, none⟩ = some (.int .u32 b) := by
  unfold ObN at h
  refine ⟨?_, ?_, ?_, ?_, ?_, ?_⟩ <;> simp [World.cell?, h]
theorem ObN.frozen {W : World} {O t cl q p a b : Nat} (h : ObN W O t cl q p a b) (j : Nat) : W.frozen? ⟨O, j, none⟩ = false := by
  unfold ObN at h
  simp [World.frozen?, h]
theorem ObN.set4 {W : World} {O t cl q p a b : Nat} (h : ObN W O t cl q p a b) (x : Nat) : ObN (W.setCell ⟨O, 4, none⟩ (.int .u32 x)) O t cl q p x b := by
  unfold ObN at *
  rw [heap_setCell_same _ _ _ _ _ _ h]; rfl
theorem ObN.set5 {W : World} {O t cl q p a b : Nat} (h : ObN W O t cl q p a b) (x : Nat) : ObN (W.setCell ⟨O, 5, none⟩ (.int .u32 x)) O t cl q p a x := by
  unfold ObN at *
  rw [heap_setCell_same _ _ _ _ _ _ h]; rfl
def RdR (W : World) (O t cl q p a b : Nat) (e : Ending) (w' : World) : Prop := e = .returned (.tuple #[]) ∧ ObN w' O t cl q p a b ∧ Below O W w'
theorem r83_ok (O t cl q p : Nat) (v : Value) (w : World) (hO : ObN w O t cl q p 0 0) : Calls Tryz.prog 83 #[.pointer (some ⟨O, 0, none⟩), v] w (RdR w O t cl q p 0 0) := by
  go_enter Tryz.func83, Tryz.ntmps83
  go_wp2_with fail
  go_end0
  exact ⟨rfl, hO, Below.refl _ _⟩
set_option maxRecDepth 100000 in
set_option maxHeartbeats 2000000 in
theorem r85_ok (O t cl q p a g c : Nat) (w : World) (ha : a < 4294967296) (hO : ObN w O t cl q p 0 0) (h0 : w.cell? ⟨g, 4, none⟩ = some (.string (hexS a))) :
    Calls Tryz.prog 85 #[.pointer (some ⟨O, 0, none⟩), .slice (some ⟨g, 4, none⟩) 1 c] w (RdR w O t cl q p a 0) := by
  have HO := Lib.hid hO
  go_enter Tryz.func85, Tryz.ntmps85
  go_wp2_with fail
  refine (unhex_ok a ha _).mono ?_
  rintro e w1 ⟨rfl, hb⟩
  have HB := Lib.hid hb
  have HO1 := Lib.hid (hO.below hb)
  obtain ⟨c0, c1, c2, c3, c4, c5⟩ := HO1.out.cells
  have f4 := HO1.out.frozen 4
  have hOlt := heap_lt' hO
  clear hb h0 hO
  go_wp2_with fail
  go_end0
  exact ⟨rfl, HO1.out.set4 a, (HB.out.mono (Nat.le_of_lt hOlt)).setCell (Nat.le_refl _) _⟩
set_option maxRecDepth 100000 in
set_option maxHeartbeats 2000000 in
theorem r78_ok (O t cl q p a g c : Nat) (w : World) (ha : a ≤ 31) (hO : ObN w O t cl q p 0 0) (h0 : w.cell? ⟨g, 4, none⟩ = some (.string (decS a))) :
    Calls Tryz.prog 78 #[.pointer (some ⟨O, 0, none⟩), .slice (some ⟨g, 4, none⟩) 1 c] w (RdR w O t cl q p a 0) := by
  have HO := Lib.hid hO
  go_enter Tryz.func78, Tryz.ntmps78
  go_wp2_with fail
  refine (decimal_ok a 31 (by omega) ha _).mono ?_
  rintro e w1 ⟨rfl, hb⟩
  have HB := Lib.hid hb
  have HO1 := Lib.hid (hO.below hb)
  obtain ⟨c0, c1, c2, c3, c4, c5⟩ := HO1.out.cells
  have f4 := HO1.out.frozen 4
  have hOlt := heap_lt' hO
  have ha2 : (a : Int) ≤ 31 := by omega
  clear hb h0 hO
  go_wp2_with fail
  go_end0
  exact ⟨rfl, HO1.out.set4 a, (HB.out.mono (Nat.le_of_lt hOlt)).setCell (Nat.le_refl _) _⟩
set_option maxRecDepth 100000 in
set_option maxHeartbeats 8000000 in
theorem r71_ok (O t cl q p a b g c : Nat) (w : World) (ha : a < 4294967296) (hb : b < 4294967296) (hO : ObN w O t cl q p 0 0) (h0 : w.cell? ⟨g, 4, none⟩ = some (.string (hexS a))) (h1 : w.cell? ⟨g, 5, none⟩ = some (.string (hexS b))) :
    Calls Tryz.prog 71 #[.pointer (some ⟨O, 0, none⟩), .slice (some ⟨g, 4, none⟩) 2 c] w (RdR w O t cl q p a b) := by
  have hOlt := heap_lt' hO
  have HF : Hid (∀ W, Below w.heap.size w W → W.cell? ⟨g, 4, none⟩ = some (.string (hexS a)) ∧ W.cell? ⟨g, 5, none⟩ = some (.string (hexS b)) ∧ ObN W O t cl q p 0 0) := fun W hW => ⟨cell_later hW h0, cell_later hW h1, hO.below hW⟩
  clear h0 h1 hO
  go_enter Tryz.func71, Tryz.ntmps71
  go_wp2_with fail
  obtain ⟨i0, i1, _⟩ := HF.out _ (Below.refl _ _)
  go_region_with (first
    | (go_at_call 76; with_reducible refine (unhex_ok a ha _).mono ?_; rintro e w5 ⟨rfl, hb5⟩; have HB5 := Lib.hid ((below_drew (Below.refl w.heap.size w)).trans (hb5.mono (by simp))); obtain ⟨d0, d1, d2⟩ := HF.out _ HB5.out; have HD2 := Lib.hid d2; clear hb5 d2)
    | (go_at_call 76; with_reducible refine (unhex_ok b hb _).mono ?_; rintro e w6 ⟨rfl, hb6⟩; have HB6 := Lib.hid (HB5.out.trans (hb6.mono HB5.out.size)); have HD3 := Lib.hid (HD2.out.below hb6); obtain ⟨x0, x1, x2, x3, x4, x5⟩ := HD3.out.cells; have f4 := HD3.out.frozen 4; have f5 := HD3.out.frozen 5; have y5 := (HD3.out.set4 a).cells.2.2.2.2.2; have z5 := (HD3.out.set4 a).frozen 5; clear hb6))
  all_goals
    go_wp2_with fail
    go_end0
    exact ⟨rfl, (HD3.out.set4 a).set5 b, ((HB6.out.mono (Nat.le_of_lt hOlt)).setCell (Nat.le_refl _) _).setCell (Nat.le_refl _) _⟩
end Go.Proofs.YtohighedgdlflaaGreatDoor

/- Two more read functions of trace.forms. -/
namespace Go.Proofs.YtohighedgdlflaaGreatDoor
open Go.Shelf Go.RowKit Go.Sort Go.Lib Go.Proofs.YtohighedgdlflaaGreatDoorW.PrintWords Go.Proofs.YtohighedgdlflaaGreatDoor.PR
set_option linter.unusedVariables false
set_option linter.unusedSimpArgs false
theorem cat_fst (a b : Nat) : (hexS a ++ hexS b).extract 0 8 = hexS a := by
  apply ByteArray.ext
  simp [hexS, hexL]
theorem cat_snd (a b : Nat) : (hexS a ++ hexS b).extract 8 16 = hexS b := by
  apply ByteArray.ext
  simp [hexS, hexL]
  exact List.take_of_length_le (by simp)
set_option maxRecDepth 100000 in
set_option maxHeartbeats 8000000 in
theorem r81_ok (O t cl q p a b g c : Nat) (w : World) (ha : a < 4294967296) (hb : b < 4294967296) (hO : ObN w O t cl q p 0 0) (h0 : w.cell? ⟨g, 4, none⟩ = some (.string (hexS b ++ hexS a))) :
    Calls Tryz.prog 81 #[.pointer (some ⟨O, 0, none⟩), .slice (some ⟨g, 4, none⟩) 1 c] w (RdR w O t cl q p a b) := by
  have hOlt := heap_lt' hO
  obtain ⟨x, hx⟩ : ∃ x, x = hexS b ++ hexS a := ⟨_, rfl⟩
  have hsz : x.size = 16 := by rw [hx, ByteArray.size_append, hexS_size, hexS_size]
  have hs1 : ∀ W : World, (Instr.slice 9 (.string x) none (some (.int .i64 8)) none).run Tryz.prog W = .ok (.string (hexS b)) W := fun W => by
    rw [run_slice_string_to_if W 9 x .i64 8 Tryz.underlying9, if_pos (by rw [hsz]; omega), hx, show (8 : Int).toNat = 8 from rfl, cat_fst]
  have hs2 : ∀ W : World, (Instr.slice 9 (.string x) (some (.int .i64 8)) none none).run Tryz.prog W = .ok (.string (hexS a)) W := fun W => by
    rw [run_slice_string_from_if W 9 x .i64 8 Tryz.underlying9, if_pos (by rw [hsz]; omega), hsz, hx, show (8 : Int).toNat = 8 from rfl, cat_snd]
  rw [← hx] at h0
  have HF : Hid (∀ W, Below w.heap.size w W → W.cell? ⟨g, 4, none⟩ = some (.string x) ∧ ObN W O t cl q p 0 0) := fun W hW => ⟨cell_later hW h0, hO.below hW⟩
  clear h0 hO hx
  go_enter Tryz.func81, Tryz.ntmps81
  obtain ⟨i0, _⟩ := HF.out _ (Below.refl _ _)
  go_wp2_with fail
  refine (must_ok _).mono ?_
  rintro e w1 ⟨rfl, rfl⟩
  go_wp2_with fail
  go_region_with (first
    | (go_at_call 76; with_reducible refine (unhex_ok b hb _).mono ?_; rintro e w5 ⟨rfl, hb5⟩; have HB5 := Lib.hid ((below_drew (Below.refl w1.heap.size w1)).trans (hb5.mono (by simp))); obtain ⟨d0, d2⟩ := HF.out _ HB5.out; have HD2 := Lib.hid d2; clear hb5 d2)
    | (go_at_call 76; with_reducible refine (unhex_ok a ha _).mono ?_; rintro e w6 ⟨rfl, hb6⟩; have HB6 := Lib.hid (HB5.out.trans (hb6.mono HB5.out.size)); have HD3 := Lib.hid (HD2.out.below hb6); obtain ⟨x0, x1, x2, x3, x4, x5⟩ := HD3.out.cells; have f4 := HD3.out.frozen 4; have f5 := HD3.out.frozen 5; have y5 := (HD3.out.set5 b).cells.2.2.2.2.1; have z5 := (HD3.out.set5 b).frozen 4; clear hb6))
  all_goals
    go_wp2_with fail
    go_end0
    exact ⟨rfl, (HD3.out.set5 b).set4 a, ((HB6.out.mono (Nat.le_of_lt hOlt)).setCell (Nat.le_refl _) _).setCell (Nat.le_refl _) _⟩
end Go.Proofs.YtohighedgdlflaaGreatDoor

/- The read function of a fault. -/
namespace Go.Proofs.YtohighedgdlflaaGreatDoor
open Go.Shelf Go.RowKit Go.Sort Go.Lib Go.Proofs.YtohighedgdlflaaGreatDoorW.PrintWords Go.Proofs.YtohighedgdlflaaGreatDoor.PR
set_option linter.unusedVariables false
set_option linter.unusedSimpArgs false
theorem idx_fault (a : Nat) (h1 : 1 ≤ a) (h6 : a ≤ 6) : Lib.idxOfS (faultS.take 7) (faultS.getD a ByteArray.empty) = a := by
  rcases (show a = 1 ∨ a = 2 ∨ a = 3 ∨ a = 4 ∨ a = 5 ∨ a = 6 by omega) with h | h | h | h | h | h <;> subst h <;> decide
set_option maxRecDepth 100000 in
set_option maxHeartbeats 8000000 in
theorem r73_ok (O t cl q p a b g c n : Nat) (w : World) (ha1 : 1 ≤ a) (ha6 : a ≤ 6) (hb : b < 4294967296) (hF : Frm w n) (hO : ObN w O t cl q p 0 0) (h0 : w.cell? ⟨g, 4, none⟩ = some (.string (faultS.getD a ByteArray.empty))) (h1 : w.cell? ⟨g, 5, none⟩ = some (.string (hexS b))) :
    Calls Tryz.prog 73 #[.pointer (some ⟨O, 0, none⟩), .slice (some ⟨g, 4, none⟩) 2 c, .pointer (some ⟨n + 1, 0, none⟩)] w (RdR w O t cl q p a b) := by
  have hOlt := heap_lt' hO
  obtain ⟨x, hx⟩ : ∃ x, x = faultS.getD a ByteArray.empty := ⟨_, rfl⟩
  have hidx : ∀ m, Calls Tryz.prog 74 #[.slice (some ⟨n, 0, none⟩) 7 7, .string x] (w.drewN m) fun e w' => e = .returned (.int .i64 a) ∧ w' = w.drewN m := fun m => by
    have h := Tryz.slices_Index_string n 0 7 7 faultS x (w.drewN m) (by decide) (by decide) (fun j hj => by
      have hj7 : j < 7 := hj
      rw [World.cell?_drewN, Nat.zero_add]
      simp only [World.cell?, hF.names]
      rcases (show j = 0 ∨ j = 1 ∨ j = 2 ∨ j = 3 ∨ j = 4 ∨ j = 5 ∨ j = 6 by omega) with h | h | h | h | h | h | h <;> subst h <;> rfl)
    rwa [hx, idx_fault a ha1 ha6, ← hx] at h
  have hptr : w.cell? ⟨n + 1, 0, none⟩ = some (.slice (some ⟨n, 0, none⟩) 7 7) := by simp [World.cell?, hF.ptr]
  rw [← hx] at h0
  have HF : Hid (∀ W, Below w.heap.size w W → W.cell? ⟨g, 5, none⟩ = some (.string (hexS b)) ∧ ObN W O t cl q p 0 0) := fun W hW => ⟨cell_later hW h1, hO.below hW⟩
  have hap : (0 : Int) < a := by omega
  have haw : (a : Int) < 4294967296 := by omega
  clear hx hF hO
  go_enter Tryz.func73, Tryz.ntmps73
  go_wp2_with fail
  go_quiet ((go_at_call 74; with_reducible exact Calls.quiet_of_same (hidx _)))
  clear hidx hptr h0
  go_wp2_with fail
  rw [show decide (0 < a) = true from decide_eq_true (by omega)]
  refine (must_ok _).mono ?_
  rintro e w1 ⟨rfl, rfl⟩
  go_wp2_with fail
  refine (unhex_ok b hb _).mono ?_
  rintro e w5 ⟨rfl, hb5⟩
  have HB5 := Lib.hid ((pw_below_drewN (Below.refl w.heap.size w) nq).trans (hb5.mono (by simp)))
  obtain ⟨d0, d2⟩ := HF.out _ HB5.out
  have HD2 := Lib.hid d2
  obtain ⟨x0, x1, x2, x3, x4, x5⟩ := HD2.out.cells
  have f4 := HD2.out.frozen 4
  have f5 := HD2.out.frozen 5
  have y5 := (HD2.out.set4 a).cells.2.2.2.2.2
  have z5 := (HD2.out.set4 a).frozen 5
  clear hb5 d2
  go_wp2_with fail
  go_end0
  exact ⟨rfl, (HD2.out.set4 a).set5 b, ((HB5.out.mono (Nat.le_of_lt hOlt)).setCell (Nat.le_refl _) _).setCell (Nat.le_refl _) _⟩
end Go.Proofs.YtohighedgdlflaaGreatDoor

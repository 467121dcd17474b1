/- The law TraceLong of package trace answers true, for every two numbers. -/
import Derived.Test.YtohighedgdlflaaGreatDoorLML15
import Derived.Test.YtohighedgdlflaaGreatDoorLML16
import Derived.Test.YtohighedgdlflaaGreatDoorLML12
import Derived.Test.YtohighedgdlflaaGreatDoorLML17
import Derived.Deep.QuietTactic
import Derived.BigQuiet
import Derived.Lib.QuietBelow
import Derived.Laws.EntriesVeiled
import Derived.Deep.DeepCutAuto
/- The law TraceLong answers true. -/
namespace Go.Proofs.YtohighedgdlflaaGreatDoor
open Go.Shelf Go.RowKit Go.Sort Go.Lib Go.Proofs.YtohighedgdlflaaGreatDoorW.PrintWords Go.Proofs.YtohighedgdlflaaGreatDoorW.PrintLast Go.Proofs.YtohighedgdlflaaGreatDoor.PR
set_option linter.unusedVariables false
set_option linter.unusedSimpArgs false
theorem i64_quo {a : Int} (h : I64 a) (d : Int) (hd : 2 ≤ d) : I64 (a.tdiv d) ∧ wrap64 (a.tdiv d) = a.tdiv d := by
  have h1 : I64 (a.tdiv d) := by
    obtain ⟨h2, h3⟩ := h
    rcases Int.le_total 0 a with h0 | h0
    · rw [Int.tdiv_eq_ediv_of_nonneg h0]
      have h4 := Int.ediv_nonneg h0 (show 0 ≤ d by omega)
      have h5 := Int.ediv_le_self d h0
      exact ⟨by omega, by omega⟩
    · obtain ⟨b, rfl⟩ : ∃ b, a = -b := ⟨-a, by omega⟩
      rw [Int.neg_tdiv, Int.tdiv_eq_ediv_of_nonneg (show 0 ≤ b by omega)]
      have h4 := Int.ediv_nonneg (show 0 ≤ b by omega) (show 0 ≤ d by omega)
      have h5 := Int.ediv_le_self d (show 0 ≤ b by omega)
      exact ⟨by omega, by omega⟩
  refine ⟨h1, ?_⟩
  obtain ⟨h2, h3⟩ := h1
  unfold wrap64; omega
attribute [local go_sem] Oper.semAt_some
set_option maxRecDepth 100000 in
set_option maxHeartbeats 2000000 in
theorem longLaw_ok (more at_ : Int) (m : Int) (w : World) (hW : WTab w) (hT : PTab w) (hm : w.cell? ⟨2, 0, none⟩ = some (.int .i64 m)) (hmo : I64 more) (hat : I64 at_) :
    Calls Tryz.prog 8 #[.int .i64 more, .int .i64 at_] w fun e w' => e = .returned (.bool true) ∧ Below w.heap.size w w' := by
  obtain ⟨bx, hbx⟩ : ∃ bx : Obj, bx = .cells #[.bool false] 4 := ⟨_, rfl⟩
  have hb0 : Below w.heap.size w (w.alloc bx) := below_alloc (Below.refl _ _) _
  have HT := Lib.hid (hT.below hb0)
  have HW := Lib.hid (hW.below hb0)
  have HM : Hid ((w.alloc bx).cell? ⟨2, 0, none⟩ = some (.int .i64 m)) := pw_cell_below hb0 hm
  have HR0 : Hid (Boxed (w.alloc bx) w.heap.size 4 (.bool false)) := by rw [hbx]; exact Boxed.new w 4 (.bool false)
  have HMo := Lib.hid hmo
  have HAt := Lib.hid hat
  have HBw := Lib.hid hb0
  have hm2 : 2 < w.heap.size := World.block_lt_of_cell? _ _ hm
  clear hT hW hm hmo hat hb0
  refine (callsIn_wide (n := 9)).1 ?_
  refine callsIn_of_wp_marks Tryz.func8 rfl trivial ?_ rfl
  simp only [Tryz.ntmps8, List.size_toArray, List.length_cons, List.length_nil, Nat.reduceAdd, Nat.reduceSub, Array.replicate_succ, Array.replicate_zero, List.push_toArray, List.append_toArray, List.nil_append, List.cons_append]
  refine wpIn_wide.2 ?_
  go_wp2_with fail
  rw [← hbx]
  have hsz1 : (w.alloc bx).heap.size = w.heap.size + 1 := by simp
  obtain ⟨w1, hw1⟩ : ∃ w1, w1 = w.alloc bx := ⟨_, rfl⟩
  rw [← hw1] at HT HW HM HR0 HBw hsz1 ⊢
  clear hw1 hbx bx
  refine (known_ok m w1 HT.out HM.out).mono ?_
  rintro e w2 ⟨rfl, hb2⟩
  have HB2 := Lib.hid hb2
  clear hb2
  obtain ⟨r1, hr1, hp1⟩ := pick_okw more 20 HMo.out (by omega)
  have Hp1 : Hid (∀ w, Calls Tryz.prog 29 #[.int .i64 more, .int .i64 20] w fun e w' => e = .returned (.int .i64 r1) ∧ Drawn0 w w') := hp1
  clear hp1
  go_wp2_with fail
  refine (Hp1.out _).mono ?_
  rintro e w3 ⟨rfl, ⟨n3, rfl⟩⟩
  have HB3 : Hid (Below w1.heap.size w1 (w2.drewN n3)) := pw_below_drewN HB2.out n3
  clear HB2
  generalize w2.drewN n3 = w3 at HB3 ⊢
  obtain ⟨hq1, hq2⟩ := i64_quo HMo.out 100 (by omega)
  obtain ⟨hq3, hq4⟩ := i64_quo HMo.out 20 (by omega)
  obtain ⟨r2, hr2, hp2⟩ := pick_okw (more.tdiv 100) 16 hq1 (by omega)
  obtain ⟨r5, hr5, hp5⟩ := pick_okw (more.tdiv 20) 5 hq3 (by omega)
  have Hp2 : Hid (∀ w, Calls Tryz.prog 29 #[.int .i64 (more.tdiv 100), .int .i64 16] w fun e w' => e = .returned (.int .i64 r2) ∧ Drawn0 w w') := hp2
  have Hp5 : Hid (∀ w, Calls Tryz.prog 29 #[.int .i64 (more.tdiv 20), .int .i64 5] w fun e w' => e = .returned (.int .i64 r5) ∧ Drawn0 w w') := hp5
  clear hp2 hp5 hq1 hq3
  go_wp2_with fail
  refine (Hp2.out _).mono ?_
  rintro e w4 ⟨rfl, ⟨n4, rfl⟩⟩
  have HB4 : Hid (Below w1.heap.size w1 (w3.drewN n4)) := pw_below_drewN HB3.out n4
  clear HB3
  generalize w3.drewN n4 = w4 at HB4 ⊢
  go_upto_if 36 with fail
  go_cut [6] from 29 to 45 (fun s6 wc => ∃ n : Nat, s6 = .int .i64 n ∧ 300 ≤ n ∧ n ≤ 80000 ∧ Hid (Below w1.heap.size w1 wc))
  case first =>
    by_cases h2 : r2 = 0
    · have h2b : ((r2 : Int) == 0) = true := beq_iff_eq.mpr (by omega)
      clear h2
      go_wp2_with fail
      refine (Hp1.out _).mono ?_
      rintro e w5 ⟨rfl, ⟨n5, rfl⟩⟩
      have HB5 : Hid (Below w1.heap.size w1 (w4.drewN n5)) := pw_below_drewN HB4.out n5
      clear HB4
      generalize w4.drewN n5 = w5 at HB5 ⊢
      go_wp2_with fail
      refine (Hp5.out _).mono ?_
      rintro e w6 ⟨rfl, ⟨n6, rfl⟩⟩
      have HB6 : Hid (Below w1.heap.size w1 (w5.drewN n6)) := pw_below_drewN HB5.out n6
      clear HB5
      generalize w5.drewN n6 = w6 at HB6 ⊢
      by_cases h5 : r5 = 4
      · have h5b : ((r5 : Int) == 4) = true := beq_iff_eq.mpr (by omega)
        clear h5
        go_wp2_with fail
        go_meet
        case rel => exact ⟨65530 + r1 + 5000, by go_num, by omega, by omega, HB6⟩
      · have h5b : ((r5 : Int) == 4) = false := beq_eq_false_iff_ne.mpr (by omega)
        clear h5
        go_wp2_with fail
        go_meet
        case rel => exact ⟨65530 + r1, by go_num, by omega, by omega, HB6⟩
    · have h2b : ((r2 : Int) == 0) = false := beq_eq_false_iff_ne.mpr (by omega)
      clear h2
      go_wp2_with fail
      go_meet
      case rel => exact ⟨300 + r1, by go_num, by omega, by omega, HB4⟩
  case rest =>
    obtain ⟨n, rfl, hn1, hn2, HBc⟩ := hcut
    go_wp2_with fail
    go_loopw [7, 8] (fun v7 v8 wr => ∃ k : Nat, k ≤ n ∧ v8 = .int .i64 k ∧ Hid (Kd.R k35 35 wr w1.heap.size (fun _ => True) v7 (longL k)) ∧ Hid (Below w1.heap.size w1 wr)) (fun _ i _ => n - (RowKit.intOf i).toNat)
    case atStart => exact ⟨0, by omega, rfl, Kd.R_nil _ _ _ _ _, HBc⟩
    case round =>
      clear HBc
      obtain ⟨k, hk, rfl, HRk, HBk⟩ := hrel
      by_cases hlt : k < n
      · have hltI : (k : Int) < (n : Int) := by omega
        have hm1 : (k : Int) % 18446744073709551616 = (k : Int) := by omega
        have hm2' : ((k : Int) * 3) % 18446744073709551616 = (k : Int) * 3 := by omega
        have hm3 : (k : Int).tmod 2 = ((k % 2 : Nat) : Int) := by rw [Int.tmod_eq_emod_of_nonneg (by omega)]; omega
        have hm5 : (k : Int) % 4294967296 = (k : Int) := by omega
        have hm6 : ((k : Int) * 7) % 4294967296 = (k : Int) * 7 := by omega
        have hll := longL_len k
        have hsu := Lib.hid (longL_succ k)
        clear hll
        go_wp2_with (at_builtin; refine Kd.R_append k35 (w0 := w1) w1.heap.size rfl (.tmp 51) (.tmp 64) 22 35 (.agg #[(.int .u64 0), (.int .i64 0), (.int .i64 0), (.int .u32 0), (.int .u32 0), (.int .u32 0)]) 40 rfl Tryz.underlying22 info35 rfl (by decide) (by omega) _ (longL k) (obL k) [.int .u64 ((k : Int) * 3), .int .i64 (1 + (k : Int) % 2), .int .i64 7, .int .u32 (k : Int), .int .u32 ((k : Int) * 7), .int .u32 0] (fun _ => True) (fun _ => False) rfl rfl (k35_mkM _ _ _ (obL k)) (fun _ hk => hk.elim) (fun _ _ => trivial) HRk.out HBk.out HBk.out.size (by rw [longL_len]; omega) ?_; intro v9 w9 ho9 hb9 hg9 hat9; have HA9 := Lib.hid ho9; have HB9 := Lib.hid hb9; clear ho9 hb9 hg9 hat9)
        go_roundw
        case rel => exact ⟨k + 1, by omega, by go_num, (by show Kd.R _ _ _ _ _ _ _; rw [hsu.out]; exact HA9.out), HB9⟩
        case measure => simp [RowKit.intOf]; omega
      · obtain rfl : k = n := by omega
        obtain ⟨A7, c7, rfl, hc7, hC7⟩ := Kd.R_reads HRk.out
        obtain ⟨l, hl⟩ : ∃ l, l = longL k := ⟨_, rfl⟩
        have hln : l.length = k := by rw [hl, longL_len]
        have hlm : l.length ≤ 80000 := by omega
        have hlp : 0 < l.length := by omega
        have Hl := Lib.hid hl
        have Hln := Lib.hid hln
        have HR7 : Hid (Kd.R k35 35 wr w1.heap.size (fun _ => True) (.slice A7 l.length c7) l) := by
          have := HRk.out
          rwa [← hl] at this
        rw [← hl] at hc7 ⊢
        have HMay : Hid (∀ o ∈ l, mayB o = true) := by show ∀ o ∈ l, mayB o = true; rw [hl]; exact longL_may _ (by omega)
        have HF : Hid (∀ o ∈ l, FitsT o) := by show ∀ o ∈ l, FitsT o; rw [hl]; exact longL_fits _ (by omega)
        have hok : encOk l = true := by
          unfold encOk
          rw [Bool.and_eq_true]
          exact ⟨decide_eq_true (by omega), List.all_eq_true.2 HMay.out⟩
        have hallB : l.all mayB = true := List.all_eq_true.2 HMay.out
        have HOk := Lib.hid hok
        have HAll := Lib.hid hallB
        clear hok hallB hl hln hC7 HRk hlt hk
        have hm2' : 2 < w1.heap.size := by omega
        go_wp2_with fail
        refine (encode_ok l A7 c7 wr (HW.out.below HBk.out) (Kd.R_reads' HR7.out).2.2 (fun o ho => (HF.out o ho).1)).mono ?_
        rintro e w5 ⟨v5, rfl, hr5, hb5⟩
        rw [if_pos HOk.out] at hr5 ⊢
        obtain ⟨bs, hbs⟩ : ∃ bs, bs = encBytes l := ⟨_, rfl⟩
        rw [← hbs] at hr5
        have hlen : bs.length = 12 + 22 * l.length := by rw [hbs]; exact enc_len l
        obtain ⟨gb, cb, rfl, _, _, _⟩ := Kd.R_form hr5 (by omega)
        obtain ⟨_, hcb, hC5⟩ := Kd.R_reads' hr5
        have hbb : Crc.Bytes bs := by rw [hbs]; exact enc_bytes l
        have Hbb := Lib.hid hbb
        have HBS := Lib.hid hbs
        have HLen := Lib.hid hlen
        have HC5 := Lib.hid hC5
        have HR8 := Lib.hid (Kd.R_below HR7.out hb5)
        have HB5 := Lib.hid (HBk.out.trans (hb5.mono HBk.out.size))
        clear hr5 hb5 hC5 HR7 HBk hbs hlen hbb
        go_wp2_with fail
        refine (refEncode_ok l A7 c7 w5 (Kd.R_reads' HR8.out).2.2 hc7 HF.out (by omega)).mono ?_
        rintro e w6 ⟨v6, rfl, hr6, hb6⟩
        rw [if_pos HAll.out, ← HBS.out] at hr6
        rw [HAll.out]
        obtain ⟨A6, c6_, rfl, hc6, hC6⟩ := Kd.R_reads hr6
        obtain ⟨S, hS⟩ : ∃ S, S = strOf bs := ⟨_, rfl⟩
        have hk9 := str_conv (c := cb) (Kd.C_below HC5.out hb6) Hbb.out
        have hk11 := str_conv (c := c6_) hC6 Hbb.out
        rw [← hS] at hk9 hk11
        have HC6 := Lib.hid (Kd.C_below HC5.out hb6)
        have HR9 := Lib.hid (Kd.R_below HR8.out hb6)
        have HB6 := Lib.hid (HB5.out.trans (hb6.mono HB5.out.size))
        clear hr6 hb6 hC6 HR8 HC5 HB5 hS
        go_wp2_with fail
        refine (decode_ok bs (some ⟨gb, 0, none⟩) cb w6 (HW.out.below HB6.out) HC6.out hcb (by rw [HLen.out]; omega) Hbb.out).mono ?_
        clear hk9 hk11
        rintro e w7 ⟨v7, rfl, hr7, hb7⟩
        have hde : decode bs = (l, -1) := by rw [HBS.out]; exact decode_enc l (by omega) HMay.out HF.out
        rw [hde] at hr7 ⊢
        obtain ⟨A8, c8, rfl, hc8, hC8⟩ := Kd.R_reads hr7
        have HD7 := Lib.hid hC8
        have HR10 := Lib.hid (Kd.R_below HR9.out hb7)
        have HB7 := Lib.hid (HB6.out.trans (hb7.mono HB6.out.size))
        clear hr7 hb7 hC8 HR9 HC6 HB6 hde
        go_wp2_with fail
        refine (text_ok l A7 c7 w7 (HT.out.below HB7.out) (Kd.R_reads' HR10.out).2.2 HF.out (by omega)).mono ?_
        rintro e w8 ⟨rfl, hb8⟩
        rw [if_pos HAll.out, if_pos HAll.out]
        obtain ⟨tx, htx⟩ : ∃ tx, tx = textS l := ⟨_, rfl⟩
        rw [← htx]
        have HTx := Lib.hid htx
        have HD8 := Lib.hid (Kd.C_below HD7.out hb8)
        have HR11 := Lib.hid (Kd.R_below HR10.out hb8)
        have HB8 := Lib.hid (HB7.out.trans (hb8.mono HB7.out.size))
        clear hb8 HD7 HR10 HB7 htx
        go_wp2_with fail
        obtain ⟨g7, c7x, he7, hg7, hg7l, _⟩ := Kd.R_form HR11.out hlp
        injection he7 with he7a he7b he7c
        subst he7a
        clear he7b he7c c7x
        have hps := parse_text l HMay.out HF.out (by omega) m w8 (by rw [HB8.out.cell hm2']; exact HM.out)
        rw [← HTx.out] at hps
        refine hps.mono ?_
        clear hps
        rintro e w9 ⟨v9, rfl, hr9, hb9⟩
        obtain ⟨g9, c9, rfl, hg9, hc9, hO9⟩ := orow_of_R hr9 hlp
        have HO9 := Lib.hid hO9
        have HD9 := Lib.hid (Kd.C_below HD8.out hb9)
        have HR12 := Lib.hid (Kd.R_below HR11.out hb9)
        have HB9 := Lib.hid (HB8.out.trans (hb9.mono HB8.out.size))
        have hs89 := hb9.size
        clear hr9 hb9 HD8 HR11 HO9 
        have HO9 := Lib.hid hO9
        clear hO9
        go_wp2_with fail
        refine (same_ok A8 (some ⟨g7, 0, none⟩) c8 c7 l w9 HD9.out hc8 (Kd.R_reads' HR12.out).2.2 hc7 (by omega)).mono ?_
        rintro e w10 ⟨rfl, ⟨n10, rfl⟩⟩
        go_wp2_with fail
        refine (same_ok (some ⟨g9, 0, none⟩) (some ⟨g7, 0, none⟩) c9 c7 l _ (Kd.C_drewN (HO9.out.C (by omega)) n10) hc9 (Kd.C_drewN (Kd.R_reads' HR12.out).2.2 n10) hc7 (by omega)).mono ?_
        rintro e w11 ⟨rfl, ⟨n11, rfl⟩⟩
        obtain ⟨g7', c7', he7', _, _, hO7⟩ := orow_of_R HR12.out hlp
        injection he7' with he7a he7b he7c
        obtain rfl : g7 = g7' := by
          injection he7a with he7a
          injection he7a
        clear he7b he7c he7a
        have hbd : Below w9.heap.size w9 ((w9.drewN n10).drewN n11) := pw_below_drewN (pw_below_drewN (Below.refl _ _) n10) n11
        obtain ⟨w12, hw12⟩ : ∃ w12, w12 = (w9.drewN n10).drewN n11 := ⟨_, rfl⟩
        rw [← hw12] at hbd ⊢
        have HO7 := Lib.hid (hO7.below hbd)
        have HO9' := Lib.hid (HO9.out.below hbd)
        have HB12 := Lib.hid (HB9.out.trans (hbd.mono HB9.out.size))
        have h79 : g7 < g9 := by omega
        clear hw12 hbd hO7 HO9 HD9 HR12 HB9 hs89 hg9
        go_wp2_with fail
        refine (digest_ok 2 l (some ⟨g7, 0, none⟩) c7 w12 (HW.out.below HB12.out) (HO7.out.C (by omega)) hc7 (by omega) (fun o ho => (HF.out o ho).1)).mono ?_
        obtain ⟨d1, hd1⟩ : ∃ d1, d1 = digI 2 l := ⟨_, rfl⟩
        rw [← hd1]
        have HD1 := Lib.hid hd1
        clear hd1
        rintro e w13 ⟨rfl, hb13⟩
        have HP7 := Lib.hid (HO7.out.below hb13)
        have HP9 := Lib.hid (HO9'.out.below hb13)
        have HB13 := Lib.hid (HB12.out.trans (hb13.mono HB12.out.size))
        clear hb13 HO7 HO9' HB12
        obtain ⟨q, hq, hpq0⟩ := pick_okw at_ k HAt.out (by omega)
        have Hpq := Lib.hid hpq0
        clear hpq0
        go_wp2_with fail
        refine (Hpq.out _).mono ?_
        rintro e w14 ⟨rfl, ⟨n14, rfl⟩⟩
        clear Hpq
        have hbd : Below w13.heap.size w13 (w13.drewN n14) := pw_below_drewN (Below.refl _ _) n14
        have HP7 := Lib.hid (HP7.out.below hbd)
        have HP9 := Lib.hid (HP9.out.below hbd)
        have HB13 := Lib.hid (HB13.out.trans (hbd.mono HB13.out.size))
        clear hbd
        generalize w13.drewN n14 = w14 at HP7 HP9 HB13 ⊢
        go_upto_region 23 with (fail)
        obtain ⟨w15, hw15⟩ : ∃ w15, w15 = w14.alloc (.cells #[.int .i64 (q : Nat)] 3) := ⟨_, rfl⟩
        obtain ⟨e5, he5⟩ : ∃ e5, e5 = w14.heap.size := ⟨_, rfl⟩
        have hb15 : Below w14.heap.size w14 w15 := by rw [hw15]; exact below_alloc (Below.refl _ _) _
        have b5 : Boxed w15 e5 3 (.int .i64 (q : Nat)) := by rw [hw15, he5]; exact Boxed.new _ _ _
        have HQ7 := Lib.hid (HP7.out.below hb15)
        have HQ9 := Lib.hid (HP9.out.below hb15)
        have HB15 := Lib.hid (HB13.out.trans (hb15.mono HB13.out.size))
        have h95 : g9 < e5 := by rw [he5]; exact HP9.out.lt
        have h15 : w1.heap.size ≤ g7 := hg7
        have hget : l[q]? = some (obL q) := by rw [Hl.out]; exact longL_get _ _ hq
        obtain ⟨z4, zf4⟩ := HQ9.out.cell hget (j := 4) (u := .int .u32 ((q : Int) * 7)) rfl
        have hset := HQ9.out.set (y := chA (obL q) ((q : Int) * 7 + 1)) (v := .int .u32 ((q : Int) * 7 + 1)) hget (show 4 < 6 by omega) (fun k => by match k with
          | 0 => rfl
          | 1 => rfl
          | 2 => rfl
          | 3 => rfl
          | 4 => rfl
          | 5 => rfl
          | k + 6 => rfl)
        have c5k := b5.cell
        have hmq : ((q : Int) * 7 + 1) % 4294967296 = (q : Int) * 7 + 1 := by omega
        have hq7 : (q : Int) < (l.length : Int) := by have := Hln.out; omega
        have hm3 : (q : Int).tmod 2 = ((q % 2 : Nat) : Int) := by rw [Int.tmod_eq_emod_of_nonneg (by omega)]; omega
        rw [← hw15, ← he5]
        have HSet := Lib.hid hset
        have Hget := Lib.hid hget
        have Hb5 := Lib.hid b5
        clear hset hget b5 hw15 he5 hb15 HP7 HP9 HB13
        go_wp2_with fail
        obtain ⟨w16, hw16⟩ : ∃ w16, w16 = w15.setCell ⟨g9, q * 6 + 4, none⟩ (.int .u32 ((q : Int) * 7 + 1)) := ⟨_, rfl⟩
        obtain ⟨l2, hl2⟩ : ∃ l2, l2 = l.set q (chA (obL q) ((q : Int) * 7 + 1)) := ⟨_, rfl⟩
        have hll2 : l2.length = l.length := by rw [hl2, List.length_set]
        have hO16 : Off g9 g9 w15 w16 := by rw [hw16]; exact (Off.refl _ _ _).set _ _ (.inl rfl)
        have HU7 := Lib.hid (orow_off HQ7.out hO16 (by omega) (by omega))
        have HU9 : Hid (ORow w16 g9 l2) := by rw [hw16, hl2]; exact HSet.out
        have HU5 := Lib.hid (boxed_off Hb5.out hO16 (by omega) (by omega))
        have HB16 : Hid (Below w1.heap.size w1 w16) := by rw [hw16]; exact HB15.out.setCell (p := ⟨g9, q * 6 + 4, none⟩) (by show w1.heap.size ≤ g9; omega) _
        rw [← hw16]
        have Hl2 := Lib.hid hl2
        have Hll2 := Lib.hid hll2
        clear hw16 hl2 hll2 hO16 HSet HQ7 HQ9 Hb5 HB15 z4 zf4 c5k hmq
        have hpv : partI (ofL (1 + (q : Int) % 2) l) (ofL (1 + (q : Int) % 2) l2) = ((q / 2 : Nat) : Int) := by
          rw [Hl2.out, Hl.out]; exact part_here k q hq _ (by omega)
        have hpo : partI (ofL (2 - (q : Int) % 2) l) (ofL (2 - (q : Int) % 2) l2) = -1 := by
          rw [Hl2.out, Hl.out]; exact part_other k q hq _ _ (by omega)
        have Hpv := Lib.hid hpv
        have Hpo := Lib.hid hpo
        clear hpv hpo
        refine (part_n (1 + (q : Int) % 2) l l2 l.length l.length rfl Hll2.out (some ⟨g7, 0, none⟩) (some ⟨g9, 0, none⟩) c7 c9 w16 (HU7.out.C (by omega)) hc7 (by omega) (HU9.out.C (by rw [Hll2.out]; omega)) hc9 (by omega)).mono ?_
        rw [Hpv.out]
        rintro e w17 ⟨rfl, hb17⟩
        have HV7 := Lib.hid (HU7.out.below hb17)
        have HV9 := Lib.hid (HU9.out.below hb17)
        have HV5 := Lib.hid (boxed_below HU5.out hb17)
        have HB17 := Lib.hid (HB16.out.trans (hb17.mono HB16.out.size))
        have c5k := HV5.out.cell
        clear hb17 HU7 HU9 HU5 HB16
        go_wp2_with fail
        refine (part_n (2 - (q : Int) % 2) l l2 l.length l.length rfl Hll2.out (some ⟨g7, 0, none⟩) (some ⟨g9, 0, none⟩) c7 c9 w17 (HV7.out.C (by omega)) hc7 (by omega) (HV9.out.C (by rw [Hll2.out]; omega)) hc9 (by omega)).mono ?_
        rw [Hpo.out]
        clear c5k
        rintro e w18 ⟨rfl, hb18⟩
        have HX7 := Lib.hid (HV7.out.below hb18)
        have HX5 := Lib.hid (boxed_below HV5.out hb18)
        have HB18 := Lib.hid (HB17.out.trans (hb18.mono HB17.out.size))
        clear hb18 HV7 HV9 HV5 HB17
        go_wp2_with fail
        refine (refDigest_ok 2 l (some ⟨g7, 0, none⟩) c7 w18 (HX7.out.C (by omega)) hc7 HF.out (by omega)).mono ?_
        rw [← HD1.out]
        rintro e w19 ⟨rfl, hb19⟩
        have HY7 := Lib.hid (HX7.out.below hb19)
        have HY5 := Lib.hid (boxed_below HX5.out hb19)
        have HB19 := Lib.hid (HB18.out.trans (hb19.mono HB18.out.size))
        have c5k := HY5.out.cell
        clear hb19 HX7 HX5 HB18
        go_wp2_with fail
        refine (of_seq (1 + (q : Int) % 2) l (some ⟨g7, 0, none⟩) c7 w19 (HY7.out.C (by omega)) hc7 (by omega)).mono ?_
        clear c5k
        rintro e w20 ⟨rfl, hs20, hb20⟩
        obtain ⟨s, hs⟩ : ∃ s, s = w19.heap.size := ⟨_, rfl⟩
        obtain ⟨hi, hhi⟩ : ∃ hi, hi = w20.heap.size := ⟨_, rfl⟩
        have h7s : g7 < s := by rw [hs]; exact HY7.out.lt
        have h5s : e5 < s := by rw [hs]; exact HY5.out.lt
        rw [← hs] at hs20 ⊢
        rw [← hhi] at hs20
        have HQ20 := Lib.hid hs20
        have HZ7 := Lib.hid (HY7.out.below hb20)
        have HZ5 := Lib.hid (boxed_below HY5.out hb20)
        have HB20 := Lib.hid (HB19.out.trans (hb20.mono HB19.out.size))
        clear hs hhi hs20 hb20 HY7 HY5 HB19
        unfold seqV
        have kn := fun W : World => run_eql_func W (.func 62) #[] #[.pointer (some ⟨s + 1, 0, none⟩), .pointer (some ⟨s, 0, none⟩)]
        go_wp2_with fail
        clear kn
        have hget : l[q]? = some (obL q) := Hget.out
        have hzd := HZ7.out.below (below_drew (Below.refl w20.heap.size w20))
        obtain ⟨z4, zf4⟩ := hzd.cell hget (j := 4) (u := .int .u32 ((q : Int) * 7)) rfl
        have c5k : w20.drew.cell? ⟨e5, 0, none⟩ = some (.int .i64 (q : Nat)) := HZ5.out.cell
        have hset := hzd.set (y := chA (obL q) ((q : Int) * 7 + 9)) (v := .int .u32 ((q : Int) * 7 + 9)) hget (show 4 < 6 by omega) (fun k => by match k with
          | 0 => rfl
          | 1 => rfl
          | 2 => rfl
          | 3 => rfl
          | 4 => rfl
          | 5 => rfl
          | k + 6 => rfl)
        have hmq : ((q : Int) * 7 + 9) % 4294967296 = (q : Int) * 7 + 9 := by omega
        have HSet := Lib.hid hset
        clear hset hget hzd
        refine wp_region_noPanic ?_
        refine start_ (n := 11) (S := fun w' => w'.cell? ⟨e5, 0, none⟩ = some (.int .i64 (q : Nat)) ∧ w'.cell? ⟨g7, q * 6 + 4, none⟩ = some (.int .u32 ((q : Int) * 7))) (ds := [10]) #[false, false, false, false, false, false, false, false, false, false, false] (by kernel_rfl) rfl rfl ⟨c5k, z4⟩ (fun hHeld => ?_)
        refine pure_ (i := 0) (N := some 166) (v := ?_) (a' := ?_) #[true, false, false, false, false, false, false, false, false, false, false] rfl rfl (by kernel_rfl) (fun _ _ _ h => h) (Or.inl ⟨by rfl, ?_⟩) ?_ ?_
        rotate_left
        · intro w'
          go_simp
          with_reducible rfl
        rotate_left
        · simp only [Act.put, List.setIfInBounds_toArray, List.set_cons_zero, List.set_cons_succ, i64_w, i32_w]
          rfl
        refine pure_ (i := 2) (N := some 168) (v := ?_) (a' := ?_) #[true, false, true, false, false, false, false, false, false, false, false] rfl rfl (by kernel_rfl) (fun _ _ _ h => h) (Or.inl ⟨by rfl, ?_⟩) ?_ ?_
        rotate_left
        · intro w'
          go_simp
          with_reducible rfl
        rotate_left
        · simp only [Act.put, List.setIfInBounds_toArray, List.set_cons_zero, List.set_cons_succ, i64_w, i32_w]
          rfl
        refine take_ (i := 1) (N := some 167) (v := ?_) (a' := ?_) #[true, true, true, false, false, false, false, false, false, false, false] rfl rfl (by kernel_rfl) (fun _ _ _ h => h) (Or.inl ⟨by rfl, ?_⟩) hHeld ?_ ?_
        rotate_left
        · rintro w' ⟨s0, s1⟩
          go_simp
          with_reducible rfl
        rotate_left
        · simp only [Act.put, List.setIfInBounds_toArray, List.set_cons_zero, List.set_cons_succ, i64_w, i32_w]
          rfl
        refine take_ (i := 3) (N := some 169) (v := ?_) (a' := ?_) #[true, true, true, true, false, false, false, false, false, false, false] rfl rfl (by kernel_rfl) (fun _ _ _ h => h) (Or.inl ⟨by rfl, ?_⟩) hHeld ?_ ?_
        rotate_left
        · rintro w' ⟨s0, s1⟩
          go_simp
          with_reducible rfl
        rotate_left
        · simp only [Act.put, List.setIfInBounds_toArray, List.set_cons_zero, List.set_cons_succ, i64_w, i32_w]
          rfl
        refine pure_ (i := 4) (N := some 170) (v := ?_) (a' := ?_) #[true, true, true, true, true, false, false, false, false, false, false] rfl rfl (by kernel_rfl) (fun _ _ _ h => h) (Or.inl ⟨by rfl, ?_⟩) ?_ ?_
        rotate_left
        · intro w'
          go_simp
          with_reducible rfl
        rotate_left
        · simp only [Act.put, List.setIfInBounds_toArray, List.set_cons_zero, List.set_cons_succ, i64_w, i32_w]
          rfl
        refine pure_ (i := 5) (N := some 171) (v := ?_) (a' := ?_) #[true, true, true, true, true, true, false, false, false, false, false] rfl rfl (by kernel_rfl) (fun _ _ _ h => h) (Or.inl ⟨by rfl, ?_⟩) ?_ ?_
        rotate_left
        · intro w'
          go_simp
          with_reducible rfl
        rotate_left
        · simp only [Act.put, List.setIfInBounds_toArray, List.set_cons_zero, List.set_cons_succ, i64_w, i32_w]
          rfl
        refine take_ (i := 6) (N := some 172) (v := ?_) (a' := ?_) #[true, true, true, true, true, true, true, false, false, false, false] rfl rfl (by kernel_rfl) (fun _ _ _ h => h) (Or.inl ⟨by rfl, ?_⟩) hHeld ?_ ?_
        rotate_left
        · rintro w' ⟨s0, s1⟩
          go_simp
          with_reducible rfl
        rotate_left
        · simp only [Act.put, List.setIfInBounds_toArray, List.set_cons_zero, List.set_cons_succ, i64_w, i32_w]
          rfl
        refine pure_ (i := 7) (N := some 173) (v := ?_) (a' := ?_) #[true, true, true, true, true, true, true, true, false, false, false] rfl rfl (by kernel_rfl) (fun _ _ _ h => h) (Or.inl ⟨by rfl, ?_⟩) ?_ ?_
        rotate_left
        · intro w'
          go_simp
          with_reducible rfl
        rotate_left
        · simp only [Act.put, List.setIfInBounds_toArray, List.set_cons_zero, List.set_cons_succ, i64_w, i32_w]
          rfl
        refine pure_ (i := 8) (N := some 174) (v := ?_) (a' := ?_) #[true, true, true, true, true, true, true, true, true, false, false] rfl rfl (by kernel_rfl) (fun _ _ _ h => h) (Or.inl ⟨by rfl, ?_⟩) ?_ ?_
        rotate_left
        · intro w'
          go_simp
          with_reducible rfl
        rotate_left
        · simp only [Act.put, List.setIfInBounds_toArray, List.set_cons_zero, List.set_cons_succ, i64_w, i32_w]
          rfl
        refine pure_ (i := 9) (N := some 175) (v := ?_) (a' := ?_) #[true, true, true, true, true, true, true, true, true, true, false] rfl rfl (by kernel_rfl) (fun _ _ _ h => h) (Or.inl ⟨by rfl, ?_⟩) ?_ ?_
        rotate_left
        · intro w'
          go_simp
          with_reducible rfl
        rotate_left
        · simp only [Act.put, List.setIfInBounds_toArray, List.set_cons_zero, List.set_cons_succ, i64_w, i32_w]
          rfl
        refine last_ (i := 10) (N := none) #[true, true, true, true, true, true, true, true, true, true, true] rfl rfl (by kernel_rfl) (by decide) (fun K hK => ?_)
        refine skip_ (w1 := ?_) (by rfl) rfl ?_ ?_
        rotate_left
        · go_simp
          rfl
        refine hK.out _ _ ?_
        clear hK K
        refine done_ (by kernel_rfl) ?_
        refine NoPanic.normal ?_
        have hwr : IntKind.u32.wrap ((q : Int) * 7 + 9) = (q : Int) * 7 + 9 := by
          show ((q : Int) * 7 + 9) % 4294967296 = _
          omega
        rw [hwr]
        obtain ⟨w21, hw21⟩ : ∃ w21, w21 = (w20.setCell ⟨g7, q * 6 + 4, none⟩ (.int .u32 ((q : Int) * 7 + 9))).drew := ⟨_, rfl⟩
        have hO21 : Off g7 g7 w20 w21 := by
          rw [hw21]
          exact ((Off.refl _ _ _).set _ _ (.inl rfl)).trans (Off.of_below (below_drew (Below.refl _ _)))
        have HB21 : Hid (Below w1.heap.size w1 w21) := by
          rw [hw21]
          exact below_drew (HB20.out.setCell (p := ⟨g7, q * 6 + 4, none⟩) h15 _)
        have HQ21 := Lib.hid (HQ20.out.off hO21 (.inl h7s) (.inl h7s))
        have H521 := Lib.hid (boxed_off HZ5.out hO21 (by omega) (by omega))
        rw [← hw21]
        clear hw21 hO21 HSet HZ7 HZ5 HQ20 HB20 z4 zf4 c5k hmq hwr
        go_wp2_with fail
        obtain ⟨V0, hV0⟩ : ∃ V0, V0 = w21.alloc (.cells #[.int .i64 0] 3) := ⟨_, rfl⟩
        obtain ⟨e6, he6⟩ : ∃ e6, e6 = w21.heap.size := ⟨_, rfl⟩
        have hbV : Below w21.heap.size w21 V0 := by rw [hV0]; exact below_alloc (Below.refl _ _) _
        have bC : Boxed V0 e6 3 (.int .i64 0) := by rw [hV0, he6]; exact Boxed.new _ _ _
        have HQV := Lib.hid (HQ21.out.below hbV)
        have H5V := Lib.hid (boxed_below H521.out hbV)
        have HBV := Lib.hid (HB21.out.trans (hbV.mono HB21.out.size))
        have hhi6 : hi ≤ e6 := by rw [he6]; exact HQ21.out.le
        have h56 : e5 < e6 := by rw [he6]; exact H521.out.lt
        have hw16 : w1.heap.size ≤ e6 := by rw [he6]; exact HB21.out.size
        have heV : e6 < V0.heap.size := bC.lt
        rw [← hV0, ← he6]
        have HbC := Lib.hid bC
        clear hV0 he6 hbV bC HQ21 H521 HB21
        have hq2 : (q : Int).tdiv 2 = (q : Int) / 2 := Int.tdiv_eq_ediv_of_nonneg (by omega)
        have hm6 : ((q : Int) * 7) % 4294967296 = (q : Int) * 7 := by omega
        refine (wpIn_wide (n := 9)).1 ?_
        refine wpIn_range6 (p := 177) (q := 28) (by omega) HQV.out (by omega) (by rfl)
          (fun pre W => (Boxed W e6 3 (.int .i64 (pre.length : Nat)) ∧ ∀ x, pre[q / 2]? = some x → x.f4 = (q : Int) * 7) ∧ (Off e6 e6 V0 W ∧ Below w1.heap.size w1 W))
          (fun _ pre _ => ∃ x, pre[q / 2]? = some x ∧ x.f4 ≠ (q : Int) * 7)
          (OwnFrom.and (OwnFrom.and (Own.from (boxed_own e6 3 (fun pre : List S35 => .int .i64 (pre.length : Nat))) _) (ownFrom_pure _ _)) (OwnFrom.and (ownFrom_off _ _ _ (Nat.le_refl _)) (ownFrom_below (Nat.le_refl _) HBV.out.size)))
          (fun _ _ _ _ _ hs _ _ => hs)
          ⟨⟨HbC.out, fun x h => by simp at h⟩, Off.refl _ _ _, HBV.out⟩
          (fun pre W h => h.2.1.1)
          ?assign ?body ?done ?stop
        case assign =>
          intro y x W K hK
          unfold actR obj6 ob6 at hK
          unfold ob6
          simp only [List.setIfInBounds_toArray, List.set_cons_zero, List.set_cons_succ] at hK ⊢
          gi_wp2
          exact hK
        case body =>
          rintro y pre x Bx W hy hr ⟨⟨bk, hpre⟩, hoff, hbw⟩ hBx bX hlt
          unfold actR ob6
          simp only [List.setIfInBounds_toArray, List.set_cons_zero, List.set_cons_succ]
          have b5 := boxed_off H5V.out hoff (by omega) (by omega)
          have ck := bk.cell
          have fk := bk.frozen
          have c5 := b5.cell
          obtain ⟨z0, z1, z2, z3, z4, z5⟩ := bX.cells
          have bR := boxed_below HR0.out hbw
          have cR := bR.cell
          have fR := bR.frozen
          have hWs := hoff.1
          have Hpre := Lib.hid hpre
          have HStep := Lib.hid (loop_step0 (lo := s) (hi := hi) (.int .i64 ((pre.length : Int) + 1)) V0.heap.size bk hoff hbw (by omega) (.inr hhi6) (by omega))
          clear hpre bk hoff hbw b5 bX bR hr
          by_cases hc : pre.length = q / 2
          · have hce : ((pre.length : Int) == (q : Int) / 2) = true := beq_iff_eq.mpr (by omega)
            have Hc := Lib.hid hc
            clear hc
            by_cases hx : x.f4 = (q : Int) * 7
            · have hxe : (x.f4 != (q : Int) * 7) = false := by simp [hx]
              have Hx := Lib.hid hx
              clear hx
              gi_wp2
              obtain ⟨q1, q2, q3, q4, q5⟩ := HStep.out
              refine ⟨q1, q2, ⟨?_, fun x' hx' => ?_⟩, q4, q5⟩
              · rw [List.length_append, List.length_singleton, Int.natCast_add]
                exact q3
              · rw [← Hc.out, List.getElem?_append_right (Nat.le_refl _), Nat.sub_self] at hx'
                obtain rfl := Option.some.inj hx'
                exact Hx.out
            · have hxe : (x.f4 != (q : Int) * 7) = true := by simp [hx]
              have Hx := Lib.hid hx
              clear hx
              gi_wp2
              refine ⟨(KeepsOthers.setCell _ _ _).from _, x, ?_, Hx.out⟩
              rw [← Hc.out, List.getElem?_append_right (Nat.le_refl _), Nat.sub_self]
              rfl
          · have hce : ((pre.length : Int) == (q : Int) / 2) = false := beq_eq_false_iff_ne.mpr (by omega)
            have Hc := Lib.hid hc
            clear hc
            gi_wp2
            obtain ⟨q1, q2, q3, q4, q5⟩ := HStep.out
            refine ⟨q1, q2, ⟨?_, fun x' hx' => ?_⟩, q4, q5⟩
            · rw [List.length_append, List.length_singleton, Int.natCast_add]
              exact q3
            · have hcc := Hc.out
              rcases Nat.lt_or_ge (q / 2) pre.length with h' | h'
              · rw [List.getElem?_append_left h'] at hx'
                exact Hpre.out x' hx'
              · rw [List.getElem?_eq_none (by rw [List.length_append, List.length_singleton]; omega)] at hx'
                cases hx'
        case done =>
          intro D W hD hI hK
          obtain ⟨⟨bk, hpre⟩, hoff, hbw⟩ := hI
          obtain ⟨cnt, hcnt⟩ : ∃ cnt, cnt = (ofL (1 + (q : Int) % 2) l).length := ⟨_, rfl⟩
          have hmany : k / 2 ≤ cnt := by rw [hcnt, Hl.out]; exact of_many k q
          rw [← hcnt] at bk
          have b5 := boxed_off H5V.out hoff (by omega) (by omega)
          have ck := bk.cell
          have c5 := b5.cell
          have bR := boxed_below HR0.out hbw
          have cR := bR.cell
          have fR := bR.frozen
          have hn2' : (k : Int).tdiv 2 = (k : Int) / 2 := Int.tdiv_eq_ediv_of_nonneg (by omega)
          have hge : decide ((cnt : Int) ≥ (k : Int) / 2) = true := decide_eq_true (by omega)
          have hge2 : decide ((k : Int) / 2 ≤ (cnt : Int)) = true := decide_eq_true (by omega)
          have hge3 : decide (k / 2 ≤ cnt) = true := decide_eq_true hmany
          have HbR := Lib.hid bR
          have HbwW := Lib.hid hbw
          have HK := Lib.hid hK
          have hD2 : w.heap.size < D := by omega
          clear hK hcnt bk b5 bR hoff hbw hpre hmany
          go_wp2_with fail
          exact leave1 rfl (R := w.heap.size) ((heap_setCell_ne _ _ _ _ (by show D ≠ w.heap.size; omega)).trans HK.out) (by omega) ((HBw.out.trans (HbwW.out.mono (by omega))).setCell (p := ⟨w.heap.size, 0, none⟩) (Nat.le_refl _) _) (HbR.out.set _) rfl
        case stop =>
          rintro D c pre W _ hp ⟨x, hx1, hx2⟩ _
          exfalso
          have hh := of_here k q hq
          rw [← Hl.out] at hh
          obtain ⟨t, ht⟩ := hp
          have hlt2 : q / 2 < pre.length := by
            rcases Nat.lt_or_ge (q / 2) pre.length with h' | h'
            · exact h'
            · rw [List.getElem?_eq_none h'] at hx1; cases hx1
          rw [← ht, List.getElem?_append_left hlt2, hx1] at hh
          obtain rfl := Option.some.inj hh
          exact hx2 rfl
end Go.Proofs.YtohighedgdlflaaGreatDoor

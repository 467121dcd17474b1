/- The law TraceSums of package trace answers true, for every cell, every two rows of observations and every place to stop. -/
import Derived.Test.YtohighedgdlflaaGreatDoorTMS13
import Derived.Test.YtohighedgdlflaaGreatDoorTPRx4
import Derived.Test.YtohighedgdlflaaGreatDoorTMS4
import Derived.Test.YtohighedgdlflaaGreatDoorTMS8
import Derived.Test.YtohighedgdlflaaGreatDoorTMS7
import Derived.Test.YtohighedgdlflaaGreatDoorTPRx5
import Derived.Test.YtohighedgdlflaaGreatDoorTMS12
/- trace.Part, walked. -/
namespace Go.Proofs.YtohighedgdlflaaGreatDoor
open Go.RowKit Go.Proofs.YtohighedgdlflaaGreatDoorW.PrintWords Go.Proofs.YtohighedgdlflaaGreatDoor.PR
set_option linter.unusedVariables false
set_option linter.unusedSimpArgs false
/-- How two observations compare. -/
theorem eq35_run {p q : S35} (b : Bool) (h : b = true ↔ same6 p q) (d : Nat) (w : World) :
    (Op.equalIn (d + 2) 35 (.agg #[.int .u64 p.f0, .int .i64 p.f1, .int .i64 p.f2, .int .u32 p.f3, .int .u32 p.f4, .int .u32 p.f5]) (.agg #[.int .u64 q.f0, .int .i64 q.f1, .int .i64 q.f2, .int .u32 q.f3, .int .u32 q.f4, .int .u32 q.f5])).run Tryz.prog w = .ok b w := by
  rw [eqA35]
  congr 1
  rw [Bool.eq_iff_iff, h]
  simp [same6, Bool.and_eq_true, beq_iff_eq]
set_option maxRecDepth 100000 in
set_option maxHeartbeats 4000000 in
theorem part_ok (cell : Int) (a b : List S35) (A B : Option Addr) (ca cb : Nat) (w : World) (hA : Kd.C k35 w A a.length a) (hca : a.length ≤ ca) (ha : a.length ≤ 1000000) (hB : Kd.C k35 w B b.length b) (hcb : b.length ≤ cb) (hb : b.length ≤ 1000000) :
    Calls Tryz.prog 23 #[.int .i64 cell, .slice A a.length ca, .slice B b.length cb] w fun e w' => e = .returned (.int .i64 (partI (ofL cell a) (ofL cell b))) ∧ Below w.heap.size w w' := by
  have HA := Lib.hid hA
  have HB := Lib.hid hB
  have hxl := ofL_le cell a
  have hyl := ofL_le cell b
  clear hA hB
  obtain ⟨x, hx⟩ : ∃ x, x = ofL cell a := ⟨_, rfl⟩
  obtain ⟨y, hy⟩ : ∃ y, y = ofL cell b := ⟨_, rfl⟩
  rw [← hx] at hxl ⊢
  rw [← hy] at hyl ⊢
  have Hx := Lib.hid hx
  have Hy := Lib.hid hy
  clear hx hy
  have hxm : x.length ≤ 1000000 := by omega
  have hym : y.length ≤ 1000000 := by omega
  clear hxl hyl
  go_enter Tryz.func23, Tryz.ntmps23
  go_wp2_with fail
  refine (of_collect cell a A ca w HA.out hca ha).mono ?_
  rintro e w1 ⟨lb, rfl, hb1, hcol1⟩
  have HB1 := Lib.hid hb1
  have HCol := Lib.hid hcol1
  clear hb1 hcol1
  go_wp2_with fail
  refine HCol.out.mono ?_
  rintro e w2 ⟨v2, rfl, hv2, hb2⟩
  have HV2 := Lib.hid hv2
  have HB2 := Lib.hid (HB1.out.trans (hb2.mono HB1.out.size))
  clear hv2 hb2 HCol
  go_wp2_with fail
  refine (of_collect cell b B cb w2 (Kd.C_below HB.out HB2.out) hcb hb).mono ?_
  rintro e w3 ⟨lb3, rfl, hb3, hcol3⟩
  have HB3 := Lib.hid (HB2.out.trans (hb3.mono HB2.out.size))
  have HV3 := Lib.hid (own_move HV2.out (fun k hk => hb3.block k (own_lt HV2.out k hk)))
  have HCol := Lib.hid hcol3
  clear hb3 hcol3 HV2
  go_wp2_with fail
  refine HCol.out.mono ?_
  rintro e w4 ⟨v4, rfl, hv4, hb4⟩
  rw [← Hx.out] at HV3
  rw [← Hy.out] at hv4
  have HX := R_of_own6 (own_move HV3.out (fun k hk => hb4.block k (own_lt HV3.out k hk)))
  have HY := R_of_own6 hv4
  obtain ⟨A2, c2, rfl, hc2, hC2⟩ := Kd.R_reads HX
  obtain ⟨A4, c4, rfl, hc4, hC4⟩ := Kd.R_reads HY
  have HX2 := Lib.hid hC2
  have HY2 := Lib.hid hC4
  have HB4 := Lib.hid (HB3.out.trans (hb4.mono HB3.out.size))
  clear HX HY hC2 hC4 hv4 HV3 hb4 HB3 HB2 HB1 HCol HA HB Hx Hy
  go_wp2_with fail
  go_loopw [9] (fun v9 wr => ∃ k : Nat, k ≤ comm x y ∧ v9 = .int .i64 k ∧ Hid (Kd.C k35 wr A2 x.length x) ∧ Hid (Kd.C k35 wr A4 y.length y) ∧ Hid (Below w.heap.size w wr)) (fun i _ => comm x y - (RowKit.intOf i).toNat)
  case atStart => exact ⟨0, by omega, rfl, HX2, HY2, HB4⟩
  case round =>
    clear HX2 HY2 HB4
    obtain ⟨k, hk, rfl, HX, HY, HB⟩ := hrel
    have hle := comm_le x y
    by_cases h1 : k < x.length
    · have c1 : decide ((k : Int) < (x.length : Int)) = true := decide_eq_true (by omega)
      by_cases h2 : k < y.length
      · have c2 : decide ((k : Int) < (y.length : Int)) = true := decide_eq_true (by omega)
        obtain ⟨ad, rfl, a0, a1, a2, a3, a4, a5⟩ := at_T35 HX.out k (by omega) (by omega)
        obtain ⟨bd, rfl, b0, b1, b2, b3, b4, b5⟩ := at_T35 HY.out k (by omega) (by omega)
        obtain ⟨p, hp⟩ : ∃ p, p = rd_T35 x k := ⟨_, rfl⟩
        obtain ⟨q, hq⟩ : ∃ q, q = rd_T35 y k := ⟨_, rfl⟩
        have hp2 : x[k]? = some p := by
          rw [hp]; simp [rd_T35, List.getD_eq_getElem?_getD, List.getElem?_eq_getElem h1]
        have hq2 : y[k]? = some q := by
          rw [hq]; simp [rd_T35, List.getD_eq_getElem?_getD, List.getElem?_eq_getElem h2]
        have Hs := Lib.hid (comm_spec x y k p q hk hp2 hq2)
        rw [← hp] at a0 a1 a2 a3 a4 a5
        rw [← hq] at b0 b1 b2 b3 b4 b5
        simp only [Int.toNat_natCast] at a0 a1 a2 a3 a4 a5 b0 b1 b2 b3 b4 b5
        clear hp hq hp2 hq2
        by_cases hs : same6 p q
        · have hlt := Hs.out.2 hs
          have kq := fun (d : Nat) (w : World) => eq35_run (p := p) (q := q) true (by simp only [true_iff]; exact hs) d w
          clear hs Hs
          go_wp2
          repeat (go_quiet (fail); try go_wp2)
          go_roundw
          case rel => exact ⟨k + 1, by omega, by go_num, Kd.C_drewN HX.out _, Kd.C_drewN HY.out _, pw_below_drewN HB.out _⟩
          case measure => simp [RowKit.intOf]; omega
        · have hge : k = comm x y := by
            have := Hs.out
            have h3 : ¬ k < comm x y := fun h => hs (this.1 h)
            omega
          have kq := fun (d : Nat) (w : World) => eq35_run (p := p) (q := q) false ⟨fun h => (by cases h), fun h => absurd h hs⟩ d w
          have e1 : ((k : Int) == (x.length : Int)) = false := beq_eq_false_iff_ne.mpr (by omega)
          have HP := Lib.hid (show partI x y = (k : Int) by unfold partI; rw [if_neg (fun h => by omega), ← hge])
          clear hge
          clear hs Hs
          go_wp2
          repeat (go_quiet (fail); try go_wp2)
          go_ret
          exact ⟨by rw [HP.out]; rfl, pw_below_drewN HB.out _⟩
      · have c2 : decide ((k : Int) < (y.length : Int)) = false := decide_eq_false (by omega)
        have hge : k = comm x y := by omega
        have e1 : ((k : Int) == (x.length : Int)) = false := beq_eq_false_iff_ne.mpr (by omega)
        have HP := Lib.hid (show partI x y = (k : Int) by unfold partI; rw [if_neg (fun h => by omega), ← hge])
        clear hge
        go_wp2
        repeat (go_quiet (fail); try go_wp2)
        go_ret
        exact ⟨by rw [HP.out]; rfl, pw_below_drewN HB.out _⟩
    · have c1 : decide ((k : Int) < (x.length : Int)) = false := decide_eq_false (by omega)
      have hge : k = comm x y := by omega
      have e1 : ((k : Int) == (x.length : Int)) = true := beq_iff_eq.mpr (by omega)
      by_cases h2 : k = y.length
      · have e2 : ((k : Int) == (y.length : Int)) = true := beq_iff_eq.mpr (by omega)
        have HP := Lib.hid (show partI x y = -1 by unfold partI; rw [if_pos ⟨by omega, by omega⟩])
        clear hge h2
        go_wp2
        repeat (go_quiet (fail); try go_wp2)
        go_ret
        exact ⟨by rw [HP.out]; rfl, pw_below_drewN HB.out _⟩
      · have e2 : ((k : Int) == (y.length : Int)) = false := beq_eq_false_iff_ne.mpr (by omega)
        have HP := Lib.hid (show partI x y = (k : Int) by unfold partI; rw [if_neg (fun h => by omega), ← hge])
        clear hge
        go_wp2
        repeat (go_quiet (fail); try go_wp2)
        go_ret
        exact ⟨by rw [HP.out]; rfl, pw_below_drewN HB.out _⟩
end Go.Proofs.YtohighedgdlflaaGreatDoor

/- What the document's own writers of bytes give: leb, rowB, crc. -/
namespace Go.Proofs.YtohighedgdlflaaGreatDoor
open Go.Shelf Go.RowKit Go.Sort Go.Lib Go.Proofs.YtohighedgdlflaaGreatDoorW.PrintWords Go.Proofs.YtohighedgdlflaaGreatDoor.PR
set_option linter.unusedVariables false
set_option linter.unusedSimpArgs false
theorem put_mod (q : Int) (h0 : 0 ≤ q) : (Int.tmod q 256) % 256 = q % 256 := by
  rw [Int.tmod_eq_emod_of_nonneg h0]; omega
theorem put_div (q : Int) (h0 : 0 ≤ q) (h1 : q < 18446744073709551616) : IntKind.u64.wrap (Int.tdiv q 256) = q / 256 := by
  rw [Int.tdiv_eq_ediv_of_nonneg h0]
  show (q / 256) % 18446744073709551616 = _
  omega
theorem put_l (l : List Int) (x : Int) (n e : Nat) (h0 : 0 ≤ x) (h1 : x < 18446744073709551616) (hn : n ≤ 8) (hl : l.length < 100000000000000) : ∀ j : Nat, j ≤ n → cloisterref22_put.l0 (j + e + 1) (l ++ leb (n - j) x) (x / 2 ^ (8 * (n - j))) (n : Int) ((n - j : Nat) : Int) = some (l ++ leb n x)
  | 0, _ => by
    rw [cloisterref22_put.l0, Nat.sub_zero, if_neg (by omega)]
  | j + 1, hj => by
    have ih := put_l l x n e h0 h1 hn hl j (by omega)
    obtain ⟨i, hi⟩ : ∃ i, i = n - (j + 1) := ⟨_, rfl⟩
    have e8 : n - j = i + 1 := by omega
    rw [e8] at ih
    have hin : i < n := by omega
    rw [← hi, show j + 1 + e + 1 = (j + e + 1) + 1 by omega, cloisterref22_put.l0, if_pos (by omega), if_pos (by rw [List.length_append, leb_length]; omega)]
    have hp : (0 : Int) < 2 ^ (8 * i) := Int.pow_pos (by decide)
    have hq0 : 0 ≤ x / 2 ^ (8 * i) := Int.ediv_nonneg h0 (Int.le_of_lt hp)
    have hq1 : x / 2 ^ (8 * i) < 18446744073709551616 := Int.lt_of_le_of_lt (Int.ediv_le_self _ h0) h1
    have hd : x / 2 ^ (8 * i) / 256 = x / 2 ^ (8 * (i + 1)) := by
      rw [Int.ediv_ediv_of_nonneg (Int.le_of_lt hp), show 8 * (i + 1) = 8 * i + 8 by omega, Int.pow_add]
      rfl
    rw [put_mod _ hq0, put_div _ hq0 hq1, hd, w64_succ i (by omega), List.append_assoc, ← leb_succ]
    exact ih
theorem put_f (l : List Int) (x : Int) (n k : Nat) (h0 : 0 ≤ x) (h1 : x < 18446744073709551616) (hn : n ≤ 8) (hk : 9 ≤ k) (hl : l.length < 100000000000000) : cloisterref22_put.f k l x (n : Int) = some (l ++ leb n x) := by
  have h := put_l l x n (k - n - 1) h0 h1 hn hl n (Nat.le_refl _)
  rw [Nat.sub_self, show n + (k - n - 1) + 1 = k by omega] at h
  have e1 : x / 2 ^ (8 * 0) = x := by simp
  have e2 : leb 0 x = [] := rfl
  rw [e1, e2, List.append_nil] at h
  exact h
theorem row_f (k : Nat) (hk : 9 ≤ k) {t cl q p a b : Nat} (hG : GoodN t cl q p a b) : cloisterref22_Row.f k (t : Int) (cl : Int) (q : Int) (p : Int) (a : Int) (b : Int) = some (rowB (obN t cl q p a b)) := by
  have g1 := hG.t63; have g2 := hG.cl8; have g3 := hG.q7; have g4 := hG.p32; have g5 := hG.a32; have g6 := hG.b32
  have wr : ∀ n : Nat, n < 18446744073709551616 → IntKind.u64.wrap (n : Int) = (n : Int) := fun n h => by
    show (n : Int) % 18446744073709551616 = _
    omega
  have c1 : ((cl : Int)) % 256 = (cl : Int) := by omega
  have c2 : ((q : Int)) % 256 = (q : Int) := by omega
  unfold cloisterref22_Row.f
  have p8 : ∀ l : List Int, ∀ x : Int, 0 ≤ x → x < 18446744073709551616 → l.length < 100000000000000 → cloisterref22_put.f k l x 8 = some (l ++ leb 8 x) := fun l x a b c => put_f l x 8 k a b (by decide) hk c
  have p1 : ∀ l : List Int, ∀ x : Int, 0 ≤ x → x < 18446744073709551616 → l.length < 100000000000000 → cloisterref22_put.f k l x 1 = some (l ++ leb 1 x) := fun l x a b c => put_f l x 1 k a b (by decide) hk c
  have p4 : ∀ l : List Int, ∀ x : Int, 0 ≤ x → x < 18446744073709551616 → l.length < 100000000000000 → cloisterref22_put.f k l x 4 = some (l ++ leb 4 x) := fun l x a b c => put_f l x 4 k a b (by decide) hk c
  rw [p8 [] (t : Int) (by omega) (by omega) (by simp), Option.bind_some, wr cl (by omega), p1 _ (cl : Int) (by omega) (by omega) (by simp [leb_length]), Option.bind_some, wr q (by omega), p1 _ (q : Int) (by omega) (by omega) (by simp [leb_length]), Option.bind_some, wr p (by omega), p4 _ (p : Int) (by omega) (by omega) (by simp [leb_length]), Option.bind_some, wr a (by omega), p4 _ (a : Int) (by omega) (by omega) (by simp [leb_length]), Option.bind_some, wr b (by omega), p4 _ (b : Int) (by omega) (by omega) (by simp [leb_length])]
  unfold rowB obN
  simp only [c1, c2]
  rfl
theorem sum_step (k : Nat) (xs : List Int) (s : Nat) (i : Int) (x5 : Nat) (hs : s < 4294967296) (h5 : x5 < 8) : cloisterref22_Sum.l1 (k + 1) xs (s : Int) i (x5 : Int) = cloisterref22_Sum.l1 k xs ((Crc.bitN s : Nat) : Int) i ((x5 + 1 : Nat) : Int) := by
  have hm : Int.tmod (s : Int) 2 = ((s % 2 : Nat) : Int) := by rw [Int.tmod_eq_emod_of_nonneg (Int.natCast_nonneg s)]; omega
  have hd : (Int.tdiv (s : Int) 2) % 4294967296 = ((s / 2 : Nat) : Int) := by
    rw [Int.tdiv_eq_ediv_of_nonneg (Int.natCast_nonneg s)]; omega
  rw [cloisterref22_Sum.l1, if_pos (by omega), hm, hd, w64_succ x5 (by omega)]
  unfold Crc.bitN
  by_cases h : s % 2 = 1
  · rw [if_pos (by omega), if_pos h]
    have := Crc.xor_u32 (s / 2) 3988292384 (by show s / 2 < 4294967296; omega) (by decide)
    rw [show ((3988292384 : Nat) : Int) = 3988292384 from rfl] at this
    rw [this]
  · rw [if_neg (by omega), if_neg h, Nat.xor_zero]
theorem bl (s : Nat) (h : s < 4294967296) : Crc.bitN s < 4294967296 := Crc.bitN_lt h
theorem sum_byte (k : Nat) (xs : List Int) (s : Nat) (i : Nat) (hs : s < 4294967296) (hi : i < 1000000000000) : cloisterref22_Sum.l1 (k + 9) xs (s : Int) (i : Int) 0 = cloisterref22_Sum.l0 k xs ((Crc.bitN (Crc.bitN (Crc.bitN (Crc.bitN (Crc.bitN (Crc.bitN (Crc.bitN (Crc.bitN s))))))) : Nat) : Int) ((i + 1 : Nat) : Int) := by
  have h1 := bl _ hs; have h2 := bl _ h1; have h3 := bl _ h2; have h4 := bl _ h3; have h5 := bl _ h4; have h6 := bl _ h5; have h7 := bl _ h6
  have e0 := sum_step (k + 8) xs s i 0 hs (by decide)
  rw [show ((0 : Nat) : Int) = 0 from rfl] at e0
  rw [show k + 9 = k + 8 + 1 from rfl, e0, sum_step (k + 7) xs _ i _ h1 (by decide), sum_step (k + 6) xs _ i _ h2 (by decide), sum_step (k + 5) xs _ i _ h3 (by decide), sum_step (k + 4) xs _ i _ h4 (by decide), sum_step (k + 3) xs _ i _ h5 (by decide), sum_step (k + 2) xs _ i _ h6 (by decide), sum_step (k + 1) xs _ i _ h7 (by decide)]
  rw [cloisterref22_Sum.l1, if_neg (by decide), w64_succ i (by omega)]
theorem sum_l (xs : List Int) (hb : Crc.Bytes xs) (hl : xs.length < 1000000000) : ∀ (j : Nat) (s : Nat), j ≤ xs.length → s < 4294967296 → cloisterref22_Sum.l0 (10 * j + 1) xs (s : Int) ((xs.length - j : Nat) : Int) = some ((Crc.stN (xs.drop (xs.length - j)) s ^^^ 4294967295 : Nat) : Int)
  | 0, s, _, hs => by
    rw [cloisterref22_Sum.l0, if_neg (by omega), Nat.sub_zero, List.drop_length]
    have := Crc.xor_u32 s 4294967295 hs (by decide)
    rw [show ((4294967295 : Nat) : Int) = 4294967295 from rfl] at this
    rw [this]; rfl
  | j + 1, s, hj, hs => by
    obtain ⟨i, hi⟩ : ∃ i, i = xs.length - (j + 1) := ⟨_, rfl⟩
    have e8 : xs.length - j = i + 1 := by omega
    have hil : i < xs.length := by omega
    have hx := hb _ (List.getElem_mem hil)
    obtain ⟨n, hn⟩ : ∃ n : Nat, xs[i] = (n : Int) := ⟨xs[i].toNat, by omega⟩
    have hn256 : n < 256 := by omega
    have hrd : rd xs (i : Int) = (n : Int) := by
      rw [← hn]; simp [rd, List.getD_eq_getElem?_getD, List.getElem?_eq_getElem hil]
    have hxr : Go.bits .xor .u32 (s : Int) ((n : Int) % 4294967296) = ((s ^^^ n : Nat) : Int) := by
      rw [show (n : Int) % 4294967296 = (n : Int) by omega]
      exact Crc.xor_u32 s n hs (by show n < 4294967296; omega)
    have hsx : s ^^^ n < 4294967296 := Nat.xor_lt_two_pow (n := 32) hs (by omega)
    have hby : Crc.byteN s n < 4294967296 := Crc.byteN_lt hs hn256
    have ih := sum_l xs hb hl j (Crc.byteN s n) (by omega) hby
    rw [e8] at ih
    rw [← hi, show 10 * (j + 1) + 1 = (10 * j + 1 + 9) + 1 by omega, cloisterref22_Sum.l0, if_pos (by omega), if_pos (by omega), hrd, hxr, sum_byte (10 * j + 1) xs _ i hsx (by omega), List.drop_eq_getElem_cons hil, hn]
    exact ih
theorem sum_f (xs : List Int) (hb : Crc.Bytes xs) (hl : xs.length < 1000000000) : cloisterref22_Sum.f (10 * xs.length + 1) xs = some (Crc.crc xs) := by
  have h := sum_l xs hb hl xs.length 4294967295 (Nat.le_refl _) (by decide)
  rw [Nat.sub_self, List.drop_zero] at h
  exact h
end Go.Proofs.YtohighedgdlflaaGreatDoor

/- The document's Of, Digest and Part, in plain Lean. -/
namespace Go.Proofs.YtohighedgdlflaaGreatDoor
open Go.Shelf Go.RowKit Go.Sort Go.Lib Go.Proofs.YtohighedgdlflaaGreatDoorW.PrintWords Go.Proofs.YtohighedgdlflaaGreatDoor.PR
set_option linter.unusedVariables false
set_option linter.unusedSimpArgs false
theorem ofR_l (cell : Int) (l : List S35) (hl : l.length ≤ 1000000) (F : Nat) : ∀ j : Nat, j ≤ l.length →
    cloisterref22_Of.l0 (j + F + 1) cell l (ofL cell (l.take (l.length - j))) ((l.length - j : Nat) : Int) = some (ofL cell l)
  | 0, _ => by
    rw [Nat.sub_zero, List.take_length, cloisterref22_Of.l0, if_neg (by omega)]
  | j + 1, hj => by
    have ih := ofR_l cell l hl F j (by omega)
    obtain ⟨i, hi⟩ : ∃ i, i = l.length - (j + 1) := ⟨_, rfl⟩
    have e8 : l.length - j = i + 1 := by omega
    rw [e8] at ih
    have hil : i < l.length := by omega
    rw [← hi, show j + 1 + F + 1 = (j + F + 1) + 1 by omega, cloisterref22_Of.l0, if_pos (by omega), if_pos (by omega)]
    obtain ⟨o, ho⟩ : ∃ o, o = rd_T35 l i := ⟨_, rfl⟩
    have ho2 : l[i]? = some o := by
      rw [ho]; simp [rd_T35, List.getD_eq_getElem?_getD, List.getElem?_eq_getElem hil]
    have hs := ofL_succ cell l i o ho2
    have hle : (ofL cell (l.take i)).length ≤ i := Nat.le_trans (ofL_le _ _) (by rw [List.length_take]; omega)
    rw [← ho, w64_succ i (by omega)]
    by_cases hc : o.f1 = cell
    · rw [if_pos hc] at hs ⊢
      rw [if_pos (by omega)]
      rw [hs] at ih
      exact ih
    · rw [if_neg hc] at hs ⊢
      rw [hs] at ih
      exact ih
theorem ofR_f (cell : Int) (l : List S35) (hl : l.length ≤ 1000000) (k : Nat) (hk : l.length + 1 ≤ k) : cloisterref22_Of.f k cell l = some (ofL cell l) := by
  have h := ofR_l cell l hl (k - l.length - 1) l.length (Nat.le_refl _)
  rw [Nat.sub_self, show l.length + (k - l.length - 1) + 1 = k by omega] at h
  exact h
/-- cloisterref22.Of (27). -/
theorem refOf_ok (cell : Int) (l : List S35) (A : Option Addr) (c : Nat) (w : World) (hr : Kd.C k35 w A l.length l) (hc : l.length ≤ c) (hl : l.length ≤ 1000000) :
    Calls Tryz.prog 27 #[.int .i64 cell, .slice A l.length c] w fun e w' => ∃ v, e = .returned v ∧ Kd.R k35 35 w' w.heap.size (fun _ => True) v (ofL cell l) ∧ Below w.heap.size w w' :=
  cloisterref22_Of.calls (l.length + 1) cell A c l _ w hr hc (ofR_f cell l hl _ (Nat.le_refl _))
theorem sum_fk (xs : List Int) (hb : Crc.Bytes xs) (hl : xs.length < 1000000000) : ∀ e : Nat, cloisterref22_Sum.f (10 * xs.length + 1 + e) xs = some (Crc.crc xs)
  | 0 => sum_f xs hb hl
  | e + 1 => cloisterref22_Sum.mono _ _ _ (sum_fk xs hb hl e)
theorem digR_l (m : List S35) (hF : ∀ o ∈ m, FitsT o) (hl : m.length ≤ 1000000) (F : Nat) (hF2 : 10 * (22 * m.length) + 9 ≤ F) : ∀ j : Nat, j ≤ m.length →
    cloisterref22_Digest.l0 (j + F + 1) (digB (m.take (m.length - j))) m ((m.length - j : Nat) : Int) = some (Crc.crc (digB m))
  | 0, _ => by
    have hle := digB_len m
    have hs := sum_fk (digB m) (digB_bytes m) (by omega) (F - (10 * (digB m).length + 1))
    rw [show 10 * (digB m).length + 1 + (F - (10 * (digB m).length + 1)) = F by omega] at hs
    rw [Nat.sub_zero, List.take_length, Nat.zero_add, cloisterref22_Digest.l0, if_neg (by omega), hs, Option.bind_some]
  | j + 1, hj => by
    have ih := digR_l m hF hl F hF2 j (by omega)
    obtain ⟨i, hi⟩ : ∃ i, i = m.length - (j + 1) := ⟨_, rfl⟩
    have e8 : m.length - j = i + 1 := by omega
    rw [e8] at ih
    have hil : i < m.length := by omega
    rw [← hi, show j + 1 + F + 1 = (j + F + 1) + 1 by omega, cloisterref22_Digest.l0, if_pos (by omega), if_pos (by omega)]
    obtain ⟨o, ho⟩ : ∃ o, o = rd_T35 m i := ⟨_, rfl⟩
    have ho2 : m[i]? = some o := by
      rw [ho]; simp [rd_T35, List.getD_eq_getElem?_getD, List.getElem?_eq_getElem hil]
    have hm := List.mem_of_getElem? ho2
    have hs := digB_succ m i o ho2
    have hle : (digB (m.take i)).length ≤ 22 * i := Nat.le_trans (digB_len _) (by rw [List.length_take]; omega)
    have hmf := refMay_f o (j + F - 1)
    rw [show j + F - 1 + 2 = j + F + 1 by omega] at hmf
    rw [← ho, hmf, Option.bind_some, w64_succ i (by omega)]
    cases hmb : mayB o with
    | false =>
      rw [if_neg (by decide)]
      rw [if_neg (by rw [hmb]; decide)] at hs
      rw [hs] at ih
      exact ih
    | true =>
      obtain ⟨t, cl, q, p, a, b, hob, hG⟩ := good_of_may hmb (hF o hm)
      have hr := row_f (j + F + 1) (by omega) hG
      have hro := rowB_length o
      rw [if_pos rfl, hob]
      show ((cloisterref22_Row.f (j + F + 1) (t : Int) (cl : Int) (q : Int) (p : Int) (a : Int) (b : Int)).bind _) = _
      rw [hr, Option.bind_some, ← hob, if_pos (by omega)]
      rw [if_pos hmb] at hs
      rw [hs] at ih
      exact ih
theorem digR_f (cell : Int) (l : List S35) (hF : ∀ o ∈ l, FitsT o) (hl : l.length ≤ 1000000) : cloisterref22_Digest.f (l.length + (10 * (22 * l.length) + 9) + 1) cell l = some (digI cell l) := by
  have hle := ofL_le cell l
  have h := digR_l (ofL cell l) (fun o ho => hF o (ofL_mem ho)) (by omega) (l.length - (ofL cell l).length + (10 * (22 * l.length) + 9)) (by omega) (ofL cell l).length (Nat.le_refl _)
  rw [Nat.sub_self, show (ofL cell l).length + (l.length - (ofL cell l).length + (10 * (22 * l.length) + 9)) + 1 = l.length + (10 * (22 * l.length) + 9) + 1 by omega] at h
  unfold cloisterref22_Digest.f
  rw [ofR_f cell l hl _ (by omega), Option.bind_some]
  exact h
/-- cloisterref22.Digest (25). -/
theorem refDigest_ok (cell : Int) (l : List S35) (A : Option Addr) (c : Nat) (w : World) (hr : Kd.C k35 w A l.length l) (hc : l.length ≤ c) (hF : ∀ o ∈ l, FitsT o) (hl : l.length ≤ 1000000) :
    Calls Tryz.prog 25 #[.int .i64 cell, .slice A l.length c] w fun e w' => e = .returned (.int .u32 (digI cell l)) ∧ Below w.heap.size w w' :=
  cloisterref22_Digest.calls _ cell A c l _ w hr hc (digR_f cell l hF hl)
theorem partR_l (x y : List S35) (hx : x.length ≤ 1000000) (hy : y.length ≤ 1000000) (F : Nat) : ∀ j : Nat, j ≤ comm x y →
    cloisterref22_Part.l0 (j + F + 1) x y ((comm x y - j : Nat) : Int) = some (if comm x y = x.length ∧ comm x y = y.length then -1 else (comm x y : Int))
  | 0, _ => by
    have hle := comm_le x y
    have e1 : ((comm x y : Int) = (x.length : Int)) ↔ comm x y = x.length := by omega
    have e2 : ((comm x y : Int) = (y.length : Int)) ↔ comm x y = y.length := by omega
    have tail : (if (comm x y : Int) = (x.length : Int) then (if (comm x y : Int) = (y.length : Int) then (some (-1 : Int)) else (some (comm x y : Int))) else (some (comm x y : Int))) = some (if comm x y = x.length ∧ comm x y = y.length then -1 else (comm x y : Int)) := by
      simp only [e1, e2]
      by_cases h1 : comm x y = x.length
      · by_cases h2 : comm x y = y.length
        · rw [if_pos h1, if_pos h2, if_pos ⟨h1, h2⟩]
        · rw [if_pos h1, if_neg h2, if_neg (fun h => h2 h.2)]
      · rw [if_neg h1, if_neg (fun h => h1 h.1)]
    rw [Nat.sub_zero, Nat.zero_add, cloisterref22_Part.l0]
    by_cases h1 : (comm x y : Int) < (x.length : Int)
    · by_cases h2 : (comm x y : Int) < (y.length : Int)
      · rw [if_pos h1, if_pos h2, if_pos (by omega)]
        have hi1 : comm x y < x.length := by omega
        have hi2 : comm x y < y.length := by omega
        obtain ⟨p, hp⟩ : ∃ p, p = rd_T35 x (comm x y) := ⟨_, rfl⟩
        have hp2 : x[comm x y]? = some p := by
          rw [hp]; simp [rd_T35, List.getD_eq_getElem?_getD, List.getElem?_eq_getElem hi1]
        obtain ⟨q, hq⟩ : ∃ q, q = rd_T35 y (comm x y) := ⟨_, rfl⟩
        have hq2 : y[comm x y]? = some q := by
          rw [hq]; simp [rd_T35, List.getD_eq_getElem?_getD, List.getElem?_eq_getElem hi2]
        have hne : ¬ same6 p q := fun h => absurd ((comm_spec x y (comm x y) p q (Nat.le_refl _) hp2 hq2).2 h) (Nat.lt_irrefl _)
        rw [← hp, ← hq, if_neg (by simpa [same6, Bool.and_eq_true, beq_iff_eq] using hne)]
        exact tail
      · rw [if_pos h1, if_neg h2]
        exact tail
    · rw [if_neg h1]
      exact tail
  | j + 1, hj => by
    have ih := partR_l x y hx hy F j (by omega)
    have hle := comm_le x y
    obtain ⟨i, hi⟩ : ∃ i, i = comm x y - (j + 1) := ⟨_, rfl⟩
    have e8 : comm x y - j = i + 1 := by omega
    rw [e8] at ih
    have hi1 : i < x.length := by omega
    have hi2 : i < y.length := by omega
    obtain ⟨p, hp⟩ : ∃ p, p = rd_T35 x i := ⟨_, rfl⟩
    have hp2 : x[i]? = some p := by
      rw [hp]; simp [rd_T35, List.getD_eq_getElem?_getD, List.getElem?_eq_getElem hi1]
    obtain ⟨q, hq⟩ : ∃ q, q = rd_T35 y i := ⟨_, rfl⟩
    have hq2 : y[i]? = some q := by
      rw [hq]; simp [rd_T35, List.getD_eq_getElem?_getD, List.getElem?_eq_getElem hi2]
    have heq : same6 p q := comm_before x y i p q (by omega) hp2 hq2
    rw [← hi, show j + 1 + F + 1 = (j + F + 1) + 1 by omega, cloisterref22_Part.l0, if_pos (by omega), if_pos (by omega), if_pos (by omega), ← hp, ← hq, if_pos (by simpa [same6, Bool.and_eq_true, beq_iff_eq] using heq), w64_succ i (by omega)]
    exact ih
theorem partR_f (cell : Int) (a b : List S35) (ha : a.length ≤ 1000000) (hb : b.length ≤ 1000000) : cloisterref22_Part.f (a.length + b.length + 1) cell a b = some (partI (ofL cell a) (ofL cell b)) := by
  have h1 := ofL_le cell a
  have h2 := ofL_le cell b
  have hle := comm_le (ofL cell a) (ofL cell b)
  have h := partR_l (ofL cell a) (ofL cell b) (by omega) (by omega) (a.length + b.length - comm (ofL cell a) (ofL cell b)) _ (Nat.le_refl _)
  rw [Nat.sub_self, show comm (ofL cell a) (ofL cell b) + (a.length + b.length - comm (ofL cell a) (ofL cell b)) + 1 = a.length + b.length + 1 by omega] at h
  unfold cloisterref22_Part.f
  rw [ofR_f cell a ha _ (by omega), Option.bind_some, ofR_f cell b hb _ (by omega), Option.bind_some]
  exact h
/-- cloisterref22.Part (26). -/
theorem refPart_ok (cell : Int) (a b : List S35) (A B : Option Addr) (ca cb : Nat) (w : World) (hA : Kd.C k35 w A a.length a) (hca : a.length ≤ ca) (ha : a.length ≤ 1000000) (hB : Kd.C k35 w B b.length b) (hcb : b.length ≤ cb) (hb : b.length ≤ 1000000) :
    Calls Tryz.prog 26 #[.int .i64 cell, .slice A a.length ca, .slice B b.length cb] w fun e w' => e = .returned (.int .i64 (partI (ofL cell a) (ofL cell b))) ∧ Below w.heap.size w w' :=
  cloisterref22_Part.calls _ cell A ca a B cb b _ w hA hca hB hcb (partR_f cell a b ha hb)
end Go.Proofs.YtohighedgdlflaaGreatDoor

/- What the law TraceSums writes into its rows, and what stays where few blocks are written. -/
namespace Go.Proofs.YtohighedgdlflaaGreatDoor
open Go.RowKit Go.Shelf Go.Proofs.YtohighedgdlflaaGreatDoorW.PrintWords Go.Proofs.YtohighedgdlflaaGreatDoor.PR
set_option linter.unusedVariables false
set_option linter.unusedSimpArgs false
/-- What TraceSums writes into an observation of the first row, .. -/
def modC1 (o : S35) : S35 := ⟨o.f0, o.f1, o.f2, o.f3, (o.f4.tdiv 2) % 4294967296, o.f5⟩
def modC (o : S35) : S35 := ⟨o.f0, wrap64 (o.f1.tmod 3 + 1), o.f2, o.f3, (o.f4.tdiv 2) % 4294967296, o.f5⟩
/-- .. and of the second. -/
def modP (o : S35) : S35 := ⟨o.f0, o.f1, o.f2, (o.f3 + 1) % 4294967296, o.f4, o.f5⟩
theorem modC_fits {o : S35} (h : FitsT o) : FitsT (modC o) := by
  obtain ⟨⟨f1, f2, f3, f4, f5, f6⟩, f7, f8⟩ := h
  refine ⟨⟨f1, f2, ?_, ?_, f5, f6⟩, f7, f8⟩
  · show 0 ≤ (o.f4.tdiv 2) % 4294967296; omega
  · show (o.f4.tdiv 2) % 4294967296 < 4294967296; omega
theorem modP_fits {o : S35} (h : FitsT o) : FitsT (modP o) := by
  obtain ⟨⟨f1, f2, f3, f4, f5, f6⟩, f7, f8⟩ := h
  refine ⟨⟨?_, ?_, f3, f4, f5, f6⟩, f7, f8⟩
  · show 0 ≤ (o.f3 + 1) % 4294967296; omega
  · show (o.f3 + 1) % 4294967296 < 4294967296; omega
/-- All blocks but two lie as they lay. -/
def Off (g h : Nat) (W W' : World) : Prop := W.heap.size ≤ W'.heap.size ∧ ∀ k, k < W.heap.size → k ≠ g → k ≠ h → W'.heap[k]? = W.heap[k]?
theorem Off.refl (g h : Nat) (W : World) : Off g h W W := ⟨Nat.le_refl _, fun _ _ _ _ => rfl⟩
theorem Off.trans {g h : Nat} {A B C : World} (x : Off g h A B) (y : Off g h B C) : Off g h A C := ⟨Nat.le_trans x.1 y.1, fun k hk h1 h2 => (y.2 k (Nat.lt_of_lt_of_le hk x.1) h1 h2).trans (x.2 k hk h1 h2)⟩
theorem Off.of_below {g h : Nat} {W W' : World} (hb : Below W.heap.size W W') : Off g h W W' := ⟨hb.size, fun k hk _ _ => hb.block k hk⟩
theorem heap_setCell_ne (W : World) (p : Addr) (v : Value) (k : Nat) (hk : k ≠ p.block) : (W.setCell p v).heap[k]? = W.heap[k]? := by
  unfold World.setCell
  split <;> simp only [Array.getElem?_modify] <;> rw [if_neg (by omega)]
theorem Off.set {g h : Nat} {A W : World} (x : Off g h A W) (p : Addr) (v : Value) (hp : p.block = g ∨ p.block = h) : Off g h A (W.setCell p v) :=
  x.trans ⟨by simp, fun k _ h1 h2 => heap_setCell_ne W p v k (by rcases hp with e | e <;> rw [e] <;> assumption)⟩
theorem Off.mono {g h g' h' : Nat} {W W' : World} (x : Off g h W W') (hg : g = g' ∨ g = h' ∨ W.heap.size ≤ g) (hh : h = g' ∨ h = h' ∨ W.heap.size ≤ h) : Off g' h' W W' :=
  ⟨x.1, fun k hk h1 h2 => x.2 k hk (by omega) (by omega)⟩
theorem SeqIs.off {g h : Nat} {W W' : World} {s hi : Nat} {cell : Int} {l : List S35} (q : SeqIs W s hi cell l) (x : Off g h W W') (hg : g < s ∨ hi ≤ g) (hh : h < s ∨ hi ≤ h) : SeqIs W' s hi cell l :=
  q.keep ⟨x.1, fun k h1 h2 => x.2 k (by have := q.le; omega) (by omega) (by omega)⟩
theorem boxed_off {g h : Nat} {W W' : World} {B : Nat} {t : TypeId} {v : Value} (q : Boxed W B t v) (x : Off g h W W') (hg : B ≠ g) (hh : B ≠ h) : Boxed W' B t v := (x.2 B q.lt hg hh).trans q
theorem orow_off {g h : Nat} {W W' : World} {k : Nat} {l : List S35} (q : ORow W k l) (x : Off g h W W') (hg : k ≠ g) (hh : k ≠ h) : ORow W' k l := by
  obtain ⟨cur, h1, h2⟩ := q
  exact ⟨cur, (x.2 k (heap_lt h1) hg hh).trans h1, h2⟩
theorem cell_of_heap {W W' : World} {p : Addr} {u : Value} (h : W'.heap[p.block]? = W.heap[p.block]?) (hc : W.cell? p = some u) : W'.cell? p = some u := by
  rw [← hc]
  unfold World.cell?
  rw [h]
/-- A row of observations in a block below n. -/
structure LRow (W : World) (n : Nat) (A : Option Addr) (l : List S35) : Prop where
  c : Kd.C k35 W A l.length l
  lt : ∀ ad, A = some ad → 0 < l.length → ad.block < n
  le : n ≤ W.heap.size
theorem LRow.of_R {W : World} {base c : Nat} {ok : Nat → Prop} {A : Option Addr} {l : List S35} (h : Kd.R k35 35 W base ok (.slice A l.length c) l) : LRow W W.heap.size A l := by
  obtain ⟨A', c', e, _, hC⟩ := Kd.R_reads h
  injection e with e
  subst e
  refine ⟨hC, fun ad had hp => ?_, Nat.le_refl _⟩
  obtain ⟨g, cap, e2, _, hg, _⟩ := Kd.R_form h hp
  injection e2 with e2
  rw [had] at e2
  obtain rfl := Option.some.inj e2
  exact hg
theorem LRow.keep {W W' : World} {n : Nat} {A : Option Addr} {l : List S35} (h : LRow W n A l) (hs : n ≤ W'.heap.size) (hb : ∀ k, k < n → W'.heap[k]? = W.heap[k]?) : LRow W' n A l := by
  obtain ⟨hC, hl, hn⟩ := h
  refine ⟨⟨hC.1, hC.2.1, fun hp => ?_⟩, hl, hs⟩
  obtain ⟨ad, had, cs⟩ := hC.2.2 hp
  refine ⟨ad, had, fun j p hj => ?_⟩
  obtain ⟨c, h1, h2, h3⟩ := cs j p hj
  obtain rfl := k35_open h2
  refine ⟨_, h1, k35_mk _ _, fun i u hu => cell_of_heap ?_ (h3 i u hu)⟩
  have e : ∀ m, (ad.add m).block = ad.block := fun m => by unfold Addr.add; split <;> rfl
  rw [e]
  exact hb _ (hl ad had hp)
theorem LRow.below {W W' : World} {n m : Nat} {A : Option Addr} {l : List S35} (h : LRow W n A l) (hb : Below m W W') (hm : n ≤ m) : LRow W' n A l := h.keep (Nat.le_trans h.le hb.size) (fun k hk => hb.block k (by omega))
theorem LRow.off {g g' : Nat} {W W' : World} {n : Nat} {A : Option Addr} {l : List S35} (h : LRow W n A l) (x : Off g g' W W') (hg : n ≤ g) (hh : n ≤ g') : LRow W' n A l := h.keep (Nat.le_trans h.le x.1) (fun k hk => x.2 k (by have := h.le; omega) (by omega) (by omega))
/-- A whole element is written. -/
theorem ORow.set6 {W : World} {g : Nat} {xs : List S35} (h : ORow W g xs) {i : Nat} (hi : i < xs.length) (y : S35) :
    ORow ((((((W.setCell ⟨g, i * 6, none⟩ (.int .u64 y.f0)).setCell ⟨g, i * 6 + 1, none⟩ (.int .i64 y.f1)).setCell ⟨g, i * 6 + 2, none⟩ (.int .i64 y.f2)).setCell ⟨g, i * 6 + 3, none⟩ (.int .u32 y.f3)).setCell ⟨g, i * 6 + 4, none⟩ (.int .u32 y.f4)).setCell ⟨g, i * 6 + 5, none⟩ (.int .u32 y.f5)) g (xs.set i y) := by
  obtain ⟨x, hx⟩ : ∃ x, x = xs[i] := ⟨_, rfl⟩
  have e0 : xs[i]? = some x := by rw [List.getElem?_eq_getElem hi, hx]
  have hs : ∀ (zs : List S35) (z z' : S35), zs[i]? = some z → (zs.set i z')[i]? = some z' := fun zs z z' hz => by
    rw [List.getElem?_set, if_pos rfl, if_pos]
    rcases Nat.lt_or_ge i zs.length with h' | h'
    · exact h'
    · rw [List.getElem?_eq_none h'] at hz; simp at hz
  have r0 := h.set (y := ⟨y.f0, x.f1, x.f2, x.f3, x.f4, x.f5⟩) (v := .int .u64 y.f0) e0 (show 0 < 6 by omega) (fun k => by match k with | 0 => rfl | 1 => rfl | 2 => rfl | 3 => rfl | 4 => rfl | 5 => rfl | k + 6 => rfl)
  have e1 := hs _ _ ⟨y.f0, x.f1, x.f2, x.f3, x.f4, x.f5⟩ e0
  have r1 := r0.set (y := ⟨y.f0, y.f1, x.f2, x.f3, x.f4, x.f5⟩) (v := .int .i64 y.f1) e1 (show 1 < 6 by omega) (fun k => by match k with | 0 => rfl | 1 => rfl | 2 => rfl | 3 => rfl | 4 => rfl | 5 => rfl | k + 6 => rfl)
  have e2 := hs _ _ ⟨y.f0, y.f1, x.f2, x.f3, x.f4, x.f5⟩ e1
  have r2 := r1.set (y := ⟨y.f0, y.f1, y.f2, x.f3, x.f4, x.f5⟩) (v := .int .i64 y.f2) e2 (show 2 < 6 by omega) (fun k => by match k with | 0 => rfl | 1 => rfl | 2 => rfl | 3 => rfl | 4 => rfl | 5 => rfl | k + 6 => rfl)
  have e3 := hs _ _ ⟨y.f0, y.f1, y.f2, x.f3, x.f4, x.f5⟩ e2
  have r3 := r2.set (y := ⟨y.f0, y.f1, y.f2, y.f3, x.f4, x.f5⟩) (v := .int .u32 y.f3) e3 (show 3 < 6 by omega) (fun k => by match k with | 0 => rfl | 1 => rfl | 2 => rfl | 3 => rfl | 4 => rfl | 5 => rfl | k + 6 => rfl)
  have e4 := hs _ _ ⟨y.f0, y.f1, y.f2, y.f3, x.f4, x.f5⟩ e3
  have r4 := r3.set (y := ⟨y.f0, y.f1, y.f2, y.f3, y.f4, x.f5⟩) (v := .int .u32 y.f4) e4 (show 4 < 6 by omega) (fun k => by match k with | 0 => rfl | 1 => rfl | 2 => rfl | 3 => rfl | 4 => rfl | 5 => rfl | k + 6 => rfl)
  have e5 := hs _ _ ⟨y.f0, y.f1, y.f2, y.f3, y.f4, x.f5⟩ e4
  have r5 := r4.set (y := ⟨y.f0, y.f1, y.f2, y.f3, y.f4, y.f5⟩) (v := .int .u32 y.f5) e5 (show 5 < 6 by omega) (fun k => by match k with | 0 => rfl | 1 => rfl | 2 => rfl | 3 => rfl | 4 => rfl | 5 => rfl | k + 6 => rfl)
  simp only [List.set_set, Nat.add_zero] at r5
  exact r5
/-- A function value is not nil. -/
theorem run_eql_func (w : World) (f : Fn) (ts : Array Value) (lb : Array Value) : (binOp .eql 53 (.func f ts lb) .nilFunc).run Tryz.prog w = .ok (.bool false) w := by
  have h : ∀ d : Nat, (Op.equalIn (d + 1) 53 (.func f ts lb) .nilFunc).run Tryz.prog w = .ok false w := fun d => by
    simp [Op.equalIn, run_underlying Tryz.underlying53]
  simp only [binOp]
  simp [Op.equal, Op.maxDepth, h 9999]
/-- Where the law's things lie. -/
structure SumP (w1 : World) (g h s hi j nA nB : Nat) (a1 b1 : List S35) : Prop where
  n1 : w1.heap.size ≤ nA
  n2 : w1.heap.size ≤ nB
  ag : nA ≤ g
  bg : nB ≤ g
  gh : g < h
  hs : h < s
  hj : hi ≤ j
/-- What the law holds while it goes on. -/
structure SumSt (w1 W : World) (g h s hi j nA nB : Nat) (A3 B4 : Option Addr) (xs ys a1 b1 : List S35) (cell : Int) : Prop where
  hb : Below w1.heap.size w1 W
  x : ORow W g xs
  y : ORow W h ys
  a : LRow W nA A3 a1
  b : LRow W nB B4 b1
  q : SeqIs W s hi cell a1
  j : Boxed W j 53 (seqV s)
theorem SumSt.below {w1 W W' : World} {g h s hi j nA nB : Nat} {A3 B4 : Option Addr} {xs ys a1 b1 : List S35} {cell : Int} (t : SumSt w1 W g h s hi j nA nB A3 B4 xs ys a1 b1 cell) (hb : Below W.heap.size W W') : SumSt w1 W' g h s hi j nA nB A3 B4 xs ys a1 b1 cell :=
  ⟨t.hb.trans (hb.mono t.hb.size), t.x.below hb, t.y.below hb, t.a.below hb t.a.le, t.b.below hb t.b.le, t.q.below hb, boxed_below t.j hb⟩
theorem SumSt.lt {w1 W : World} {g h s hi j nA nB : Nat} {A3 B4 : Option Addr} {xs ys a1 b1 : List S35} {cell : Int} (t : SumSt w1 W g h s hi j nA nB A3 B4 xs ys a1 b1 cell) : g < W.heap.size ∧ h < W.heap.size ∧ hi ≤ W.heap.size ∧ s < hi ∧ j < W.heap.size :=
  ⟨t.x.lt, t.y.lt, t.q.le, by have := t.q.lt; omega, t.j.lt⟩
theorem SumSt.offX {w1 W W' : World} {g h s hi j nA nB : Nat} {A3 B4 : Option Addr} {xs ys a1 b1 zs : List S35} {cell : Int} (p : SumP w1 g h s hi j nA nB a1 b1) (t : SumSt w1 W g h s hi j nA nB A3 B4 xs ys a1 b1 cell) (o : Off g g W W') (hb : Below w1.heap.size w1 W') (hx : ORow W' g zs) : SumSt w1 W' g h s hi j nA nB A3 B4 zs ys a1 b1 cell := by
  have l := t.lt
  obtain ⟨p1, p2, p3, p4, p5, p6, p7⟩ := p
  exact ⟨hb, hx, orow_off t.y o (by omega) (by omega), t.a.off o p3 p3, t.b.off o p4 p4, t.q.off o (.inl (by omega)) (.inl (by omega)), boxed_off t.j o (by omega) (by omega)⟩
theorem SumSt.offY {w1 W W' : World} {g h s hi j nA nB : Nat} {A3 B4 : Option Addr} {xs ys a1 b1 zs : List S35} {cell : Int} (p : SumP w1 g h s hi j nA nB a1 b1) (t : SumSt w1 W g h s hi j nA nB A3 B4 xs ys a1 b1 cell) (o : Off h h W W') (hb : Below w1.heap.size w1 W') (hy : ORow W' h zs) : SumSt w1 W' g h s hi j nA nB A3 B4 xs zs a1 b1 cell := by
  have l := t.lt
  obtain ⟨p1, p2, p3, p4, p5, p6, p7⟩ := p
  exact ⟨hb, orow_off t.x o (by omega) (by omega), hy, t.a.off o (by omega) (by omega), t.b.off o (by omega) (by omega), t.q.off o (.inl (by omega)) (.inl (by omega)), boxed_off t.j o (by omega) (by omega)⟩
theorem digest_n (cell : Int) (l : List S35) (n : Nat) (hn : l.length = n) (A : Option Addr) (c : Nat) (w : World) (hT : WTab w) (hR : Kd.C k35 w A l.length l) (hc : n ≤ c) (hl : n ≤ 1000000) (hF : ∀ o ∈ l, FitsT o) :
    Calls Tryz.prog 22 #[.int .i64 cell, .slice A n c] w fun e w' => e = .returned (.int .u32 (digI cell l)) ∧ Below w.heap.size w w' := by
  subst hn; exact digest_ok cell l A c w hT hR hc hl (fun o ho => (hF o ho).1)
theorem part_n (cell : Int) (a b : List S35) (n m : Nat) (hn : a.length = n) (hm : b.length = m) (A B : Option Addr) (ca cb : Nat) (w : World) (hA : Kd.C k35 w A a.length a) (hca : n ≤ ca) (ha : n ≤ 1000000) (hB : Kd.C k35 w B b.length b) (hcb : m ≤ cb) (hb : m ≤ 1000000) :
    Calls Tryz.prog 23 #[.int .i64 cell, .slice A n ca, .slice B m cb] w fun e w' => e = .returned (.int .i64 (partI (ofL cell a) (ofL cell b))) ∧ Below w.heap.size w w' := by
  subst hn hm; exact part_ok cell a b A B ca cb w hA hca ha hB hcb hb
theorem of_n (cell : Int) (l : List S35) (n : Nat) (hn : l.length = n) (A : Option Addr) (c : Nat) (w : World) (hR : Kd.C k35 w A l.length l) (hc : n ≤ c) (hl : n ≤ 1000000) :
    Calls Tryz.prog 24 #[.int .i64 cell, .slice A n c] w fun e w' => e = .returned (seqV w.heap.size) ∧ SeqIs w' w.heap.size w'.heap.size cell l ∧ Below w.heap.size w w' := by
  subst hn; exact of_seq cell l A c w hR hc hl
/-- A row of the caller's own, in one word. -/
theorem twin_n (A : Option Addr) (c : Nat) (l : List S35) (n : Nat) (hn : l.length = n) (w : World) (hr : Kd.C k35 w A l.length l) (hc : n ≤ c) (hl : n < 1000000000) :
    Calls Tryz.prog 10 #[.slice A n c] w fun e w' => ∃ A' c', e = .returned (.slice A' n c') ∧ n ≤ c' ∧ LRow w' w'.heap.size A' l ∧ Below w.heap.size w w' := by
  subst hn
  refine (twin_ok A c l w hr hc hl).mono ?_
  rintro e w1 ⟨v, rfl, h1, h2⟩
  obtain ⟨A', c', rfl, h3, _⟩ := Kd.R_reads h1
  exact ⟨A', c', rfl, h3, LRow.of_R h1, h2⟩
theorem refDigest_n (cell : Int) (l : List S35) (n : Nat) (hn : l.length = n) (A : Option Addr) (c : Nat) (w : World) (hr : LRow w w.heap.size A l) (hc : n ≤ c) (hF : ∀ o ∈ l, FitsT o) (hl : n ≤ 1000000) :
    Calls Tryz.prog 25 #[.int .i64 cell, .slice A n c] w fun e w' => e = .returned (.int .u32 (digI cell l)) ∧ Below w.heap.size w w' := by
  subst hn; exact refDigest_ok cell l A c w hr.c hc hF hl
theorem refPart_n (cell : Int) (a b : List S35) (n m : Nat) (hn : a.length = n) (hm : b.length = m) (A B : Option Addr) (ca cb : Nat) (w : World) (hA : Kd.C k35 w A a.length a) (hca : n ≤ ca) (ha : n ≤ 1000000) (hB : Kd.C k35 w B b.length b) (hcb : m ≤ cb) (hb : m ≤ 1000000) :
    Calls Tryz.prog 26 #[.int .i64 cell, .slice A n ca, .slice B m cb] w fun e w' => e = .returned (.int .i64 (partI (ofL cell a) (ofL cell b))) ∧ Below w.heap.size w w' := by
  subst hn hm; exact refPart_ok cell a b A B ca cb w hA hca ha hB hcb hb
theorem refOf_n (cell : Int) (l : List S35) (n : Nat) (hn : l.length = n) (A : Option Addr) (c : Nat) (w : World) (hr : Kd.C k35 w A l.length l) (hc : n ≤ c) (hl : n ≤ 1000000) :
    Calls Tryz.prog 27 #[.int .i64 cell, .slice A n c] w fun e w' => ∃ A' c', e = .returned (.slice A' (ofL cell l).length c') ∧ (ofL cell l).length ≤ c' ∧ LRow w' w'.heap.size A' (ofL cell l) ∧ Below w.heap.size w w' := by
  subst hn
  refine (refOf_ok cell l A c w hr hc hl).mono ?_
  rintro e w1 ⟨v, rfl, h1, h2⟩
  obtain ⟨A', c', rfl, h3, _⟩ := Kd.R_reads h1
  exact ⟨A', c', rfl, h3, LRow.of_R h1, h2⟩
theorem ownFrom_off {β : Type} (g B : Nat) (W0 : World) (hB : W0.heap.size ≤ B) : OwnFrom B (fun (_ : β) (W : World) => Off g g W0 W) := fun _ X Y row hs hg hr =>
  ⟨Nat.le_trans hs.1 hg.size, fun k hk h1 h2 => (hg.block k (Nat.lt_of_lt_of_le hk hs.1) (fun e => by have := (hr k e.symm).1; omega)).trans (hs.2 k hk h1 h2)⟩
/-- The n-th element, as the walk reads it. -/
theorem LRow.six {W : World} {n : Nat} {A : Option Addr} {l : List S35} (h : LRow W n A l) {k : Nat} {x : S35} (hx : l[k]? = some x) : ∃ ad, A = some ad ∧ W.cell? (ad.add (k * 6)) = some (.int .u64 x.f0) ∧ W.cell? ⟨(ad.add (k * 6)).block, (ad.add (k * 6)).off + 1, none⟩ = some (.int .i64 x.f1) ∧ W.cell? ⟨(ad.add (k * 6)).block, (ad.add (k * 6)).off + 2, none⟩ = some (.int .i64 x.f2) ∧ W.cell? ⟨(ad.add (k * 6)).block, (ad.add (k * 6)).off + 3, none⟩ = some (.int .u32 x.f3) ∧ W.cell? ⟨(ad.add (k * 6)).block, (ad.add (k * 6)).off + 4, none⟩ = some (.int .u32 x.f4) ∧ W.cell? ⟨(ad.add (k * 6)).block, (ad.add (k * 6)).off + 5, none⟩ = some (.int .u32 x.f5) := by
  have hk : k < l.length := by
    rcases Nat.lt_or_ge k l.length with h' | h'
    · exact h'
    · rw [List.getElem?_eq_none h'] at hx; simp at hx
  obtain ⟨ad, e, h1, h2, h3, h4, h5, h6⟩ := at_T35 h.c (k : Int) (by omega) (by omega)
  have hr : rd_T35 l (k : Int) = x := by
    simp [rd_T35, List.getD_eq_getElem?_getD, hx]
  rw [hr] at h1 h2 h3 h4 h5 h6
  simp only [Int.toNat_natCast] at h1 h2 h3 h4 h5 h6
  exact ⟨ad, e, h1, h2, h3, h4, h5, h6⟩
/-- How a prefix goes on. -/
theorem prefix_next {α : Type} {pre l : List α} {x : α} (h : pre <+: l) (hx : l[pre.length]? = some x) : pre ++ [x] <+: l := by
  obtain ⟨t, rfl⟩ := h
  rw [List.getElem?_append_right (Nat.le_refl _), Nat.sub_self] at hx
  cases t with
  | nil => simp at hx
  | cons y t =>
    obtain rfl := Option.some.inj hx
    exact ⟨t, by simp⟩
theorem prefix_last {α : Type} {pre l : List α} {x : α} (h : pre ++ [x] <+: l) : l[pre.length]? = some x := by
  obtain ⟨t, rfl⟩ := h
  simp
end Go.Proofs.YtohighedgdlflaaGreatDoor

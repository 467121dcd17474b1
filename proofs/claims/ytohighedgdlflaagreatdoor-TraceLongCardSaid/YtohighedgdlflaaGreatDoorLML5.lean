/- The law TraceLong of package trace answers true, for every two numbers. -/
import Derived.Test.YtohighedgdlflaaGreatDoorLML4
import Derived.Test.YtohighedgdlflaaGreatDoorLML2
import Derived.Test.YtohighedgdlflaaGreatDoorLML1
import Derived.Lib.SplitLaws
import Derived.Lib.Join
/- trace.Encode writes what encBytes says. -/
namespace Go.Proofs.YtohighedgdlflaaGreatDoor
open Go.RowKit Go.Proofs.YtohighedgdlflaaGreatDoorW.PrintWords Go.Proofs.YtohighedgdlflaaGreatDoor.PR
set_option linter.unusedVariables false
set_option linter.unusedSimpArgs false
/-- What the trace of l is, but for its sum. -/
def encBody (l : List S35) : List Int := leb 4 1381256259 ++ leb 4 l.length ++ l.flatMap rowB
def encBytes (l : List S35) : List Int := encBody l ++ leb 4 (Crc.crc (encBody l))
def encOk (l : List S35) : Bool := decide (l.length ≤ 1000000) && l.all mayB
theorem notMay_ok (o : S35) (w : World) : Calls Tryz.prog 54 #[.agg #[.int .u64 o.f0, .int .i64 o.f1, .int .i64 o.f2, .int .u32 o.f3, .int .u32 o.f4, .int .u32 o.f5]] w fun e w' => e = .returned (.bool (!mayB o)) ∧ Below w.heap.size w w' := by
  have hbl : Hid (Below w.heap.size w (w.alloc (.cells #[.int .u64 o.f0, .int .i64 o.f1, .int .i64 o.f2, .int .u32 o.f3, .int .u32 o.f4, .int .u32 o.f5] 35))) := below_alloc (Below.refl _ _) _
  go_enter Tryz.func54, Tryz.ntmps54
  go_wp2_with fail
  refine (may_ok o _).mono ?_
  rintro e w1 ⟨rfl, hb1⟩
  have HB1 := Lib.hid (hbl.out.trans (hb1.mono hbl.out.size))
  clear hb1 hbl
  have hnot : ∀ (x : Bool) (w : World), (Op.unary .not (.bool x)).run Tryz.prog w = .ok (.bool (!x)) w := fun _ _ => rfl
  go_wp2_with fail
  go_ret
  exact ⟨rfl, HB1.out⟩
set_option maxHeartbeats 400000 in
theorem anyNot_ok (l : List S35) (A : Option Addr) (c : Nat) (w : World) (hR : Kd.C k35 w A l.length l) :
    Calls Tryz.prog 99 #[.slice A l.length c, .func (.func 54) #[] #[]] w fun e w' => ∃ r : Int, e = .returned (.int .i64 r) ∧ (decide (0 ≤ r) = !l.all mayB) ∧ Below w.heap.size w w' := by
  have HR := Lib.hid hR
  have hm := Kd.C_max hR
  clear hR
  go_enter Tryz.func99, Tryz.ntmps99
  go_wp2_with fail
  go_loopw [5, 8] (fun v5 v8 wr => ∃ k : Nat, k ≤ l.length ∧ v8 = .int .i64 k ∧ Hid ((l.take k).all mayB = true) ∧ Hid (Below w.heap.size w wr)) (fun _ i _ => l.length - (intOf i).toNat)
  case atStart => exact ⟨0, by omega, rfl, rfl, Below.refl _ _⟩
  case round =>
    obtain ⟨k, hk, rfl, hall, HB⟩ := hrel
    by_cases hlt : k < l.length
    · obtain ⟨o, ho⟩ : ∃ o, o = rd_T35 l k := ⟨_, rfl⟩
      have ho2 : Hid (l[k]? = some o) := by
        show l[k]? = some o
        rw [ho]; simp [rd_T35, List.getD_eq_getElem?_getD, List.getElem?_eq_getElem hlt]
      obtain ⟨ad, rfl, c0, c1, c2, c3, c4, c5⟩ := at_T35 (Kd.C_below HR.out HB.out) k (by omega) (by omega)
      rw [← ho] at c0 c1 c2 c3 c4 c5
      simp only [Int.toNat_natCast] at c0 c1 c2 c3 c4 c5
      clear ho
      go_wp2_with fail
      refine (notMay_ok o _).mono ?_
      rintro e w2 ⟨rfl, hb2⟩
      have HB2 := Lib.hid (HB.out.trans (hb2.mono HB.out.size))
      clear hb2 HB c0 c1 c2 c3 c4 c5
      cases hmb : mayB o with
      | false =>
        have Hmb := Lib.hid hmb
        clear hmb
        go_wp2_with fail
        go_ret
        refine ⟨_, rfl, ?_, HB2.out⟩
        have : l.all mayB = false := by
          rw [List.all_eq_false]
          exact ⟨o, List.mem_of_getElem? ho2.out, by rw [Hmb.out]; decide⟩
        simp [this]
      | true =>
        have hall2 : Hid ((l.take (k + 1)).all mayB = true) := by
          show (l.take (k + 1)).all mayB = true
          rw [List.take_add_one, ho2.out]
          simp [hall.out, hmb]
        clear hmb hall
        go_wp2_with fail
        go_roundw
        case rel => exact ⟨k + 1, by omega, by go_num, hall2, HB2⟩
        case measure => simp [intOf]; omega
    · obtain rfl : k = l.length := by omega
      go_wp2_with fail
      go_ret
      refine ⟨-1, rfl, ?_, HB.out⟩
      have := hall.out
      rw [List.take_of_length_le (Nat.le_refl _)] at this
      rw [this]; decide
theorem contains_ok (l : List S35) (A : Option Addr) (c : Nat) (w : World) (hR : Kd.C k35 w A l.length l) :
    Calls Tryz.prog 53 #[.slice A l.length c, .func (.func 54) #[] #[]] w fun e w' => e = .returned (.bool (!l.all mayB)) ∧ Below w.heap.size w w' := by
  go_enter Tryz.func53, Tryz.ntmps53
  go_wp2_with fail
  refine (anyNot_ok l A c w hR).mono ?_
  rintro e w1 ⟨r, rfl, hr, hb⟩
  have Hr := Lib.hid hr
  have HB := Lib.hid hb
  clear hr hb hR
  go_wp2_with fail
  go_ret
  exact ⟨by rw [← Hr.out]; rfl, HB.out⟩
/-- The two results for an answer. -/
def EncR (w : World) (l : List S35) (e : Ending) (w' : World) : Prop :=
  ∃ v, e = .returned (.tuple #[v, .int .i64 (if encOk l = true then 0 else 220)]) ∧ Kd.R (Kd.int .u8) 5 w' w.heap.size (fun _ => True) v (if encOk l = true then encBytes l else []) ∧ Below w.heap.size w w'
theorem EncR.bad {w W : World} {l : List S35} (hb : encOk l = false) (h : Below w.heap.size w W) : EncR w l (.returned (.tuple #[.slice none 0 0, .int .i64 220])) W :=
  ⟨.slice none 0 0, by rw [hb]; rfl, by rw [hb]; exact Kd.R_nil _ _ _ _ _, h⟩
theorem flat_len (l : List S35) : (l.flatMap rowB).length = 22 * l.length := by
  induction l with
  | nil => rfl
  | cons o l ih => rw [List.flatMap_cons, List.length_append, rowB_length, ih, List.length_cons]; omega
theorem encBody_len (l : List S35) : (encBody l).length = 8 + 22 * l.length := by
  simp only [encBody, List.length_append, leb_length, flat_len]
theorem leb_bytes (n : Nat) (x : Int) : Crc.Bytes (leb n x) := by
  intro y hy
  simp only [leb, List.mem_map] at hy
  obtain ⟨i, _, rfl⟩ := hy
  omega
theorem encBody_bytes (l : List S35) : Crc.Bytes (encBody l) := by
  intro y hy
  simp only [encBody, List.mem_append, List.mem_flatMap, rowB] at hy
  rcases hy with (h | h) | ⟨o, _, h⟩
  · exact leb_bytes _ _ y h
  · exact leb_bytes _ _ y h
  · rcases h with ((((h | h) | h) | h) | h) | h <;> exact leb_bytes _ _ y h
theorem crc_b {xs : List Int} (h : Crc.Bytes xs) : 0 ≤ Crc.crc xs ∧ Crc.crc xs < 4294967296 := by
  have h1 := Crc.stN_lt (s := 4294967295) h (by decide)
  have := Nat.xor_lt_two_pow h1 (show 4294967295 < 2 ^ 32 by decide)
  unfold Crc.crc
  omega
set_option maxRecDepth 100000 in
set_option maxHeartbeats 1000000 in
theorem encode_ok (l : List S35) (A : Option Addr) (c : Nat) (w : World) (hT : WTab w) (hR : Kd.C k35 w A l.length l) (hF : ∀ o ∈ l, Fits o) :
    Calls Tryz.prog 21 #[.slice A l.length c] w (EncR w l) := by
  have HR := Lib.hid hR
  have HT := Lib.hid hT
  have HF := Lib.hid hF
  have hm := Kd.C_max hR
  clear hR hT hF
  by_cases hbig : 1000000 < l.length
  · have hbad : Hid (encOk l = false) := by show encOk l = false; unfold encOk; rw [decide_eq_false (by omega)]; rfl
    have hbig' : (1000000 : Int) < l.length := by omega
    clear hbig
    go_enter Tryz.func21, Tryz.ntmps21
    go_wp2_with fail
    refine bodyPost_ret (results_tmp2 rfl _ _ _) rfl ?_
    exact EncR.bad hbad.out (Below.refl _ _)
  · have hbig' : ¬ (1000000 : Int) < l.length := by omega
    have hsm : l.length ≤ 1000000 := by omega
    clear hbig
    cases hall : l.all mayB with
    | false =>
      have hbad : Hid (encOk l = false) := by show encOk l = false; unfold encOk; simp [hall]
      go_enter Tryz.func21, Tryz.ntmps21
      go_wp2_with fail
      refine (contains_ok l A c w HR.out).mono ?_
      rw [hall]
      clear hall
      rintro e w1 ⟨rfl, hb1⟩
      have HB1 := Lib.hid hb1
      clear hb1
      go_wp2_with fail
      refine bodyPost_ret (results_tmp2 rfl _ _ _) rfl ?_
      exact EncR.bad hbad.out HB1.out
    | true =>
      have hok : Hid (encOk l = true) := by show encOk l = true; unfold encOk; simp [hall, hsm]
      go_enter Tryz.func21, Tryz.ntmps21
      go_wp2_with fail
      refine (contains_ok l A c w HR.out).mono ?_
      rw [hall]
      clear hall
      rintro e w1 ⟨rfl, hb1⟩
      have HB1 := Lib.hid hb1
      clear hb1
      go_wp2_with fail
      refine (newWriter_ok (12 + 22 * (l.length : Int)) w.heap.size w w1 (by omega) (by omega) HB1.out HB1.out.size).mono ?_
      rintro e w2 ⟨g, rfl, hW2, hg2, hb2, _⟩
      have HW2 := Lib.hid hW2
      have HB2 := Lib.hid hb2
      clear hW2 hb2 HB1
      go_wp2_with fail
      refine (word_ok w.heap.size g _ 1381256259 _ _ w w2 HW2.out (by omega) (by simp; omega) (by omega) (by omega) HB2.out).mono ?_
      rintro e w3 ⟨rfl, v3, hW3, _, hb3⟩
      have HW3 := Lib.hid hW3
      have HB3 := Lib.hid hb3
      clear hW3 hb3 HB2 HW2
      go_wp2_with fail
      refine (word_ok w.heap.size g _ l.length _ _ w w3 HW3.out (by omega) (by simp [leb_length]; omega) (by omega) (by omega) HB3.out).mono ?_
      rintro e w4 ⟨rfl, v4, hW4, _, hb4⟩
      have HW4 := Lib.hid hW4
      have HB4 := Lib.hid hb4
      clear hW4 hb4 HB3 HW3
      go_wp2_with fail
      clear hg2 hbig'
      go_loopw [7, 38] (fun v7 v38 wr => ∃ (k : Nat) (v : Value) (zs : List Int), k ≤ l.length ∧ v38 = .int .i64 k ∧ Hid (zs = leb 4 1381256259 ++ leb 4 l.length ++ (l.take k).flatMap rowB) ∧ Hid (Wr wr w.heap.size g (12 + 22 * (l.length : Int)) v zs) ∧ Hid (Below w.heap.size w wr)) (fun _ i _ => l.length - (intOf i).toNat)
      case atStart => exact ⟨0, v4, _, by omega, rfl, by simp [Hid], HW4, HB4⟩
      case round =>
        clear HW4 HB4
        obtain ⟨k, v, zs, hk, rfl, hz, HW, HB⟩ := hrel
        by_cases hlt : k < l.length
        · obtain ⟨o, ho⟩ : ∃ o, o = rd_T35 l k := ⟨_, rfl⟩
          have ho2 : Hid (l[k]? = some o) := by
            show l[k]? = some o
            rw [ho]; simp [rd_T35, List.getD_eq_getElem?_getD, List.getElem?_eq_getElem hlt]
          obtain ⟨ad, rfl, c0, c1, c2, c3, c4, c5⟩ := at_T35 (Kd.C_below HR.out HB.out) k (by omega) (by omega)
          rw [← ho] at c0 c1 c2 c3 c4 c5
          simp only [Int.toNat_natCast] at c0 c1 c2 c3 c4 c5
          clear ho
          have hfit := Lib.hid (HF.out o (List.mem_of_getElem? ho2.out))
          have hzl : Hid (zs.length = 8 + 22 * k) := by
            show zs.length = 8 + 22 * k
            rw [hz.out, List.length_append, List.length_append, leb_length, leb_length, flat_len, List.length_take]; omega
          go_wp2_with fail
          have hbl : Hid (Below wr.heap.size wr (wr.alloc (.cells #[.int .u64 o.f0, .int .i64 o.f1, .int .i64 o.f2, .int .u32 o.f3, .int .u32 o.f4, .int .u32 o.f5] 35))) := below_alloc (Below.refl _ _) _
          refine (row_ok w.heap.size g _ o v zs w _ (HW.out.below hbl.out) (by omega) (by have := hzl.out; omega) hfit.out (HB.out.trans (hbl.out.mono HB.out.size))).mono ?_
          rintro e w6 ⟨rfl, v6, hW6, _, hb6⟩
          have HW6 := Lib.hid hW6
          have HB6 := Lib.hid hb6
          clear hW6 hb6 HB HW hbl c0 c1 c2 c3 c4 c5
          go_wp2_with fail
          go_roundw
          case rel =>
            refine ⟨k + 1, v6, _, by omega, by go_num, ?_, HW6, HB6⟩
            show _ = _
            rw [hz.out, List.take_add_one, ho2.out, List.flatMap_append, List.append_assoc]
            simp
          case measure => simp [intOf]; omega
        · obtain rfl : k = l.length := by omega
          have hzb : Hid (zs = encBody l) := by
            show zs = encBody l
            rw [hz.out, List.take_of_length_le (Nat.le_refl _)]; rfl
          have hzl : Hid (zs.length = 8 + 22 * l.length) := by show zs.length = _; rw [hzb.out, encBody_len]
          clear hz
          go_wp2_with fail
          refine (done_ok w.heap.size g _ v zs w wr HW.out (by omega) (by have := hzl.out; omega) HB.out HB.out.size).mono ?_
          rintro e w6 ⟨v6, rfl, hr6, hb6, _⟩
          obtain ⟨A6, c6, rfl, hc6, hC6⟩ := Kd.R_reads hr6
          have HA6 : Hid (∀ ad, A6 = some ad → ad.block < w6.heap.size) := fun ad h => Kd.R_lt hr6 ad.block (by rw [h]; rfl)
          have HC6 := Lib.hid hC6
          have HB6 := Lib.hid hb6
          have Hc6 := Lib.hid hc6
          clear hr6 hb6 hC6 HB HW hc6
          have hzi : (zs.length : Int) < 67000000 := by have := hzl.out; omega
          go_wp2_with fail
          refine (newWriter_ok ((zs.length : Int) + 4) w.heap.size w w6 (by omega) (by omega) HB6.out HB6.out.size).mono ?_
          rintro e w7 ⟨g2, rfl, hW7, hg2, hb7, hb67⟩
          have HG2 := Lib.hid hg2
          clear hg2
          have HW7 := Lib.hid hW7
          have HB7 := Lib.hid hb7
          have HC7 := Lib.hid (Kd.C_below HC6.out hb67)
          clear hW7 hb7 hb67 HB6 HC6
          go_wp2_with fail
          refine (raw_ok w.heap.size g2 _ _ [] zs A6 c6 w w7 HW7.out (by omega) (by simp; omega) HC7.out Hc6.out HB7.out).mono ?_
          rintro e w8 ⟨rfl, v8, hW8, hk8, hb8⟩
          rw [List.nil_append] at hW8
          have HW8 := Lib.hid hW8
          have HB8 := Lib.hid hb8
          go_wp2_with fail
          have HC8 : Hid (Kd.C (Kd.int .u8) w8 A6 zs.length zs) := Kd.C_keep (0 : Int) HC7.out hk8.1 (fun ad h _ => by have := HA6.out ad h; have := HG2.out; omega)
          have hbl : Hid (Below w8.heap.size w8 (w8.alloc (.cells #[.slice A6 zs.length c6] 37))) := below_alloc (Below.refl _ _) _
          clear hW8 hk8 hb8 HW7 HB7 HC7 HA6 HG2
          refine (sum_ok zs A6 c6 _ _ _ (HT.out.below (HB8.out.trans (hbl.out.mono HB8.out.size))) (by simp) (Kd.C_below HC8.out hbl.out) (by rw [hzb.out]; exact encBody_bytes l)).mono ?_
          rintro e w9 ⟨rfl, rfl⟩
          have HW9 := Lib.hid (HW8.out.below hbl.out)
          have HB9 := Lib.hid (HB8.out.trans (hbl.out.mono HB8.out.size))
          have hcr := crc_b (encBody_bytes l)
          rw [← hzb.out] at hcr
          obtain ⟨hcr0, hcr1⟩ := hcr
          obtain ⟨cr, hcr⟩ : ∃ cr, cr = Crc.crc zs := ⟨_, rfl⟩
          rw [← hcr] at hcr0 hcr1 ⊢
          have Hcr := Lib.hid hcr
          clear hcr HC8 HW8 HB8
          go_wp2_with fail
          refine (word_ok w.heap.size g2 _ cr v8 zs w _ HW9.out (by omega) (by omega) hcr0 hcr1 HB9.out).mono ?_
          rintro e w10 ⟨rfl, v10, hW10, _, hb10⟩
          have HW10 := Lib.hid hW10
          have HB10 := Lib.hid hb10
          clear hW10 hb10 HW9 HB9
          go_wp2_with fail
          refine (done_ok w.heap.size g2 _ v10 _ w w10 HW10.out (by omega) (by rw [List.length_append, leb_length]; omega) HB10.out HB10.out.size).mono ?_
          rintro e w11 ⟨v11, rfl, hr11, hb11, _⟩
          have HR11 := Lib.hid (Kd.R_lower hr11 HB10.out.size)
          have HB11 := Lib.hid hb11
          clear hr11 hb11 HW10 HB10
          go_wp2_with fail
          refine bodyPost_ret (results_tmp2 rfl _ _ _) rfl ?_
          refine ⟨v11, by rw [hok.out]; rfl, ?_, HB11.out⟩
          rw [hok.out, if_pos rfl]
          have := HR11.out
          rw [Hcr.out, hzb.out] at this
          exact this
end Go.Proofs.YtohighedgdlflaaGreatDoor

/- Numbers of the lowest byte first: read and written. -/
namespace Go.Proofs.YtohighedgdlflaaGreatDoor
set_option linter.unusedVariables false
set_option linter.unusedSimpArgs false
/-- The number that some bytes are, the lowest first. -/
def lev : List Int → Int
  | [] => 0
  | b :: bs => b + 256 * lev bs
theorem lev_snoc : ∀ (bs : List Int) (b : Int), lev (bs ++ [b]) = lev bs + b * 2 ^ (8 * bs.length)
  | [], b => by simp [lev]
  | a :: bs, b => by
    have ih := lev_snoc bs b
    simp only [List.cons_append, lev, List.length_cons, ih]
    rw [show 8 * (bs.length + 1) = 8 * bs.length + 8 by omega, Int.pow_add]
    have : (2 : Int) ^ 8 = 256 := by decide
    rw [this, Int.mul_add]
    have h2 : (256 : Int) * (b * 2 ^ (8 * bs.length)) = b * (2 ^ (8 * bs.length) * 256) := by
      rw [Int.mul_comm, Int.mul_assoc]
    omega
theorem lev_bounds : ∀ {bs : List Int}, Crc.Bytes bs → 0 ≤ lev bs ∧ lev bs < 2 ^ (8 * bs.length)
  | [], _ => by simp [lev]
  | a :: bs, h => by
    have ih := lev_bounds (bs := bs) (fun x hx => h x (List.mem_cons_of_mem _ hx))
    have ha := h a List.mem_cons_self
    simp only [lev, List.length_cons]
    rw [show 8 * (bs.length + 1) = 8 * bs.length + 8 by omega, Int.pow_add]
    have : (2 : Int) ^ 8 = 256 := by decide
    rw [this]
    omega
theorem or_u64 (a b k : Nat) (ha : a < 2 ^ (8 * k)) (hb : b < 256) (hk : k < 8) : bits .or .u64 (a : Int) ((b * 2 ^ (8 * k) : Nat) : Int) = ((a + b * 2 ^ (8 * k) : Nat) : Int) := by
  have hp : 2 ^ (8 * k) * 256 ≤ 2 ^ 64 := by
    rw [show (256 : Nat) = 2 ^ 8 by decide, ← Nat.pow_add]
    exact Nat.pow_le_pow_right (by omega) (by omega)
  have hpos : 0 < 2 ^ (8 * k) := Nat.two_pow_pos _
  have hbm : b * 2 ^ (8 * k) + 2 ^ (8 * k) ≤ 2 ^ 64 := by
    have : (b + 1) * 2 ^ (8 * k) ≤ 256 * 2 ^ (8 * k) := Nat.mul_le_mul_right _ (by omega)
    rw [Nat.add_mul, Nat.one_mul] at this
    rw [Nat.mul_comm 256] at this
    omega
  have ha64 : a % 2 ^ IntKind.u64.bits = a := Nat.mod_eq_of_lt (by simp only [IntKind.bits]; omega)
  have hb64 : (b * 2 ^ (8 * k)) % 2 ^ IntKind.u64.bits = b * 2 ^ (8 * k) := Nat.mod_eq_of_lt (by simp only [IntKind.bits]; omega)
  simp only [bits, BitVec.ofInt_natCast, BitVec.toNat_or, BitVec.toNat_ofNat, ha64, hb64]
  have e : a ||| b * 2 ^ (8 * k) = a + b * 2 ^ (8 * k) := by
    rw [Nat.or_comm, Nat.mul_comm, ← Nat.two_pow_add_eq_or_of_lt ha, Nat.add_comm]
  rw [e]
  have h64 : (((a + b * 2 ^ (8 * k) : Nat) : Int)) < 2 ^ 64 := by exact_mod_cast (by omega : a + b * 2 ^ (8 * k) < 2 ^ 64)
  simp only [IntKind.wrap, IntKind.bits, IntKind.signed, Bool.false_eq_true, if_false]
  exact Int.emod_eq_of_lt (by omega) h64
theorem shl_u64 (b k : Nat) (hb : b < 256) (hk : k < 8) : IntKind.u64.wrap ((b : Int) * 2 ^ (8 * (k : Int)).toNat) = ((b * 2 ^ (8 * k) : Nat) : Int) := by
  have e : (8 * (k : Int)).toNat = 8 * k := by omega
  rw [e]
  have hp : 2 ^ (8 * k) * 256 ≤ 2 ^ 64 := by
    rw [show (256 : Nat) = 2 ^ 8 by decide, ← Nat.pow_add]
    exact Nat.pow_le_pow_right (by omega) (by omega)
  have hbm : b * 2 ^ (8 * k) < 2 ^ 64 := by
    have : (b + 1) * 2 ^ (8 * k) ≤ 256 * 2 ^ (8 * k) := Nat.mul_le_mul_right _ (by omega)
    rw [Nat.add_mul, Nat.one_mul, Nat.mul_comm 256] at this
    have hpos : 0 < 2 ^ (8 * k) := Nat.two_pow_pos _
    omega
  have h64 : (((b * 2 ^ (8 * k) : Nat) : Int)) < 2 ^ 64 := by exact_mod_cast hbm
  have e2 : ((b : Int) * 2 ^ (8 * k)) = ((b * 2 ^ (8 * k) : Nat) : Int) := by simp
  rw [e2]
  simp only [IntKind.wrap, IntKind.bits, IntKind.signed, Bool.false_eq_true, if_false]
  exact Int.emod_eq_of_lt (by omega) h64
end Go.Proofs.YtohighedgdlflaaGreatDoor

/- What Decode answers, in plain Lean. -/
namespace Go.Proofs.YtohighedgdlflaaGreatDoor
open Go.Proofs.YtohighedgdlflaaGreatDoor.PR
set_option linter.unusedVariables false
set_option linter.unusedSimpArgs false
/-- The row at a place. -/
def rowAt (bs : List Int) (p : Nat) : S35 := ⟨lev ((bs.drop p).take 8), lev ((bs.drop (p + 8)).take 1), lev ((bs.drop (p + 9)).take 1), lev ((bs.drop (p + 10)).take 4), lev ((bs.drop (p + 14)).take 4), lev ((bs.drop (p + 18)).take 4)⟩
/-- m rows from place p on, behind those that have been read; the place of the first that may not be, -1: there is none. -/
def decRows (bs : List Int) : Nat → Nat → List S35 → List S35 × Int
  | 0, _, acc => (acc, -1)
  | m + 1, p, acc => if mayB (rowAt bs p) = true then decRows bs m (p + 22) (acc ++ [rowAt bs p]) else ([], p)
def magicL : List Int := [67, 76, 84, 82]
/-- Of a text that begins as it must. -/
def decBody (bs : List Int) : List S35 × Int :=
  if bs.length < 12 then ([], 4)
  else if (bs.length : Int) ≠ 12 + 22 * lev ((bs.drop 4).take 4) ∨ lev ((bs.drop 4).take 4) > 1000000 then ([], 4)
  else if lev ((bs.drop (bs.length - 4)).take 4) ≠ Crc.crc (bs.take (bs.length - 4)) then ([], ((bs.length - 4 : Nat) : Int))
  else decRows bs (lev ((bs.drop 4).take 4)).toNat 8 []
/-- The first of the four first bytes that is another one: 4: there is none. -/
def badMagic (bs : List Int) (k : Nat) : Bool := bs.getD k (-1) != magicL.getD k 0
def decode (bs : List Int) : List S35 × Int :=
  if badMagic bs 0 = true then ([], 0) else if badMagic bs 1 = true then ([], 1) else if badMagic bs 2 = true then ([], 2) else if badMagic bs 3 = true then ([], 3) else decBody bs
theorem decode_bad {bs : List Int} {k : Nat} (h : ∀ i, i < k → badMagic bs i = false) (hk : badMagic bs k = true) (h4 : k < 4) : decode bs = ([], (k : Int)) := by
  unfold decode
  match k, h4 with
  | 0, _ => rw [if_pos hk]; rfl
  | 1, _ => rw [if_neg (by simp [h 0 (by omega)]), if_pos hk]; rfl
  | 2, _ => rw [if_neg (by simp [h 0 (by omega)]), if_neg (by simp [h 1 (by omega)]), if_pos hk]; rfl
  | 3, _ => rw [if_neg (by simp [h 0 (by omega)]), if_neg (by simp [h 1 (by omega)]), if_neg (by simp [h 2 (by omega)]), if_pos hk]; rfl
theorem decode_good {bs : List Int} (h : ∀ i, i < 4 → badMagic bs i = false) : decode bs = decBody bs := by
  unfold decode
  rw [if_neg (by simp [h 0 (by omega)]), if_neg (by simp [h 1 (by omega)]), if_neg (by simp [h 2 (by omega)]), if_neg (by simp [h 3 (by omega)])]
theorem badMagic_len {bs : List Int} {k : Nat} (h4 : k < 4) (h : bs.length ≤ k) : badMagic bs k = true := by
  unfold badMagic
  rw [List.getD_eq_getElem?_getD, List.getElem?_eq_none h]
  match k, h4 with
  | 0, _ => rfl
  | 1, _ => rfl
  | 2, _ => rfl
  | 3, _ => rfl
theorem badMagic_at {bs : List Int} {k : Nat} (h : k < bs.length) : badMagic bs k = (bs.getD k 0 != magicL.getD k 0) := by
  unfold badMagic
  simp [List.getD_eq_getElem?_getD, List.getElem?_eq_getElem h]
end Go.Proofs.YtohighedgdlflaaGreatDoor

/- Plain law: what was written as bytes is read; a byte that is another one is told. -/
namespace Go.Proofs.YtohighedgdlflaaGreatDoor
open Go.Proofs.YtohighedgdlflaaGreatDoor.PR
set_option linter.unusedVariables false
set_option linter.unusedSimpArgs false
namespace Crc
end Crc
theorem mod_div (x P Q : Int) (hP : 0 < P) : (x % (P * (256 * Q))) / P % 256 = x / P % 256 := by
  have e : x % (P * (256 * Q)) = x + P * (256 * (-(Q * (x / (P * (256 * Q)))))) := by
    rw [Int.emod_def]
    have : P * (256 * -(Q * (x / (P * (256 * Q))))) = -(P * (256 * Q) * (x / (P * (256 * Q)))) := by
      rw [Int.mul_neg, Int.mul_neg, Int.mul_assoc, Int.mul_assoc]
    rw [this]; omega
  rw [e, Int.add_mul_ediv_left _ _ (by omega), Int.add_mul_emod_self_left]
theorem lev_leb : ∀ (n : Nat) (x : Int), 0 ≤ x → x < 2 ^ (8 * n) → lev (leb n x) = x
  | 0, x, h0, h1 => by simp at h1; have : x = 0 := by omega
                       subst this; rfl
  | n + 1, x, h0, h1 => by
    have hp : (0 : Int) < 2 ^ (8 * n) := Int.pow_pos (by decide)
    have hm0 : 0 ≤ x % 2 ^ (8 * n) := Int.emod_nonneg _ (by omega)
    have hml : x % 2 ^ (8 * n) < 2 ^ (8 * n) := Int.emod_lt_of_pos _ hp
    have key : ∀ (m : Nat), m ≤ n → leb m (x % 2 ^ (8 * n)) = leb m x := by
      intro m hm
      unfold leb
      apply List.map_congr_left
      intro i hi
      have hi' : i < n := by have := List.mem_range.1 hi; omega
      have e1 : (2 : Int) ^ (8 * n) = 2 ^ (8 * i) * (256 * 2 ^ (8 * (n - i - 1))) := by
        rw [show (256 : Int) = 2 ^ 8 by decide, ← Int.pow_add, ← Int.pow_add]
        congr 1; omega
      have hpi : (0 : Int) < 2 ^ (8 * i) := Int.pow_pos (by decide)
      rw [e1]
      exact mod_div x _ _ hpi
    have ih := lev_leb n (x % 2 ^ (8 * n)) hm0 hml
    rw [key n (Nat.le_refl _)] at ih
    rw [leb_succ, lev_snoc, ih, leb_length]
    have hq : x / 2 ^ (8 * n) < 256 := by
      apply Int.ediv_lt_of_lt_mul hp
      rw [show 8 * (n + 1) = 8 + 8 * n by omega, Int.pow_add] at h1
      exact h1
    have hq0 : 0 ≤ x / 2 ^ (8 * n) := Int.ediv_nonneg h0 (by omega)
    rw [Int.emod_eq_of_lt hq0 hq]
    have := Int.emod_add_mul_ediv x (2 ^ (8 * n))
    rw [Int.mul_comm (x / 2 ^ (8 * n))]
    omega
end Go.Proofs.YtohighedgdlflaaGreatDoor

/- Plain law: Decode of what Encode wrote; of one byte less; of another byte. -/
namespace Go.Proofs.YtohighedgdlflaaGreatDoor
open Go.Proofs.YtohighedgdlflaaGreatDoor.PR
set_option linter.unusedVariables false
set_option linter.unusedSimpArgs false
theorem enc_len (l : List S35) : (encBytes l).length = 12 + 22 * l.length := by
  unfold encBytes
  rw [List.length_append, encBody_len, leb_length]; omega
theorem enc_bytes (l : List S35) : Crc.Bytes (encBytes l) := by
  intro z hz
  unfold encBytes at hz
  rcases List.mem_append.1 hz with h | h
  · exact encBody_bytes l z h
  · exact leb_bytes _ _ z h
theorem magic_leb : leb 4 1381256259 = magicL := by decide
theorem enc_take (l : List S35) : (encBytes l).take (8 + 22 * l.length) = encBody l := by
  unfold encBytes
  rw [List.take_append_of_le_length (by rw [encBody_len]; exact Nat.le_refl _), List.take_of_length_le (by rw [encBody_len]; exact Nat.le_refl _)]
theorem enc_drop (l : List S35) : (encBytes l).drop (8 + 22 * l.length) = leb 4 (Crc.crc (encBody l)) := by
  unfold encBytes
  rw [List.drop_append_of_le_length (by rw [encBody_len]; exact Nat.le_refl _), List.drop_of_length_le (by rw [encBody_len]; exact Nat.le_refl _), List.nil_append]
theorem enc_head (l : List S35) : encBytes l = magicL ++ (leb 4 l.length ++ (l.flatMap rowB ++ leb 4 (Crc.crc (encBody l)))) := by
  unfold encBytes encBody
  rw [magic_leb]; simp [List.append_assoc]
theorem magicL_len : magicL.length = 4 := rfl
theorem enc_count (l : List S35) : ((encBytes l).drop 4).take 4 = leb 4 l.length := by
  rw [enc_head, List.drop_append_of_le_length (by rw [magicL_len]; exact Nat.le_refl _), List.drop_of_length_le (by rw [magicL_len]; exact Nat.le_refl _), List.nil_append, List.take_append_of_le_length (by rw [leb_length]; exact Nat.le_refl _), List.take_of_length_le (by rw [leb_length]; exact Nat.le_refl _)]
theorem enc_magic (l : List S35) (i : Nat) (h : i < 4) : badMagic (encBytes l) i = false := by
  unfold badMagic
  rw [enc_head]
  match i, h with
  | 0, _ => rfl
  | 1, _ => rfl
  | 2, _ => rfl
  | 3, _ => rfl
theorem count_n (l : List S35) (hl : l.length ≤ 1000000) : lev (leb 4 l.length) = l.length := lev_leb 4 _ (by omega) (by
  have : (2 : Int) ^ (8 * 4) = 4294967296 := by decide
  omega)
theorem sum_n (l : List S35) : lev (leb 4 (Crc.crc (encBody l))) = Crc.crc (encBody l) := by
  have := crc_b (encBody_bytes l)
  have e : (2 : Int) ^ (8 * 4) = 4294967296 := by decide
  exact lev_leb 4 _ this.1 (by omega)
end Go.Proofs.YtohighedgdlflaaGreatDoor

/- Plain law: Decode of what Encode wrote is what was handed in. -/
namespace Go.Proofs.YtohighedgdlflaaGreatDoor
open Go.Proofs.YtohighedgdlflaaGreatDoor.PR
set_option linter.unusedVariables false
set_option linter.unusedSimpArgs false
theorem pow8 : (2 : Int) ^ (8 * 8) = 18446744073709551616 := by decide
theorem pow4 : (2 : Int) ^ (8 * 4) = 4294967296 := by decide
theorem pow1 : (2 : Int) ^ (8 * 1) = 256 := by decide
theorem cut1 {α : Type} (a b : List α) (n : Nat) (h : a.length = n) : (a ++ b).take n = a := by
  rw [List.take_append_of_le_length (by omega), List.take_of_length_le (by omega)]
theorem cut2 {α : Type} (a b : List α) (n : Nat) (h : a.length = n) : (a ++ b).drop n = b := by
  rw [List.drop_append_of_le_length (by omega), List.drop_of_length_le (by omega), List.nil_append]
theorem rowAt_of {bs rest : List Int} {p : Nat} {o : S35} (h : bs.drop p = rowB o ++ rest) (hm : mayB o = true) (hF : FitsT o) : rowAt bs p = o := by
  obtain ⟨t, cl, q, pc, a, b, rfl, hG⟩ := good_of_may hm hF
  have h1 := hG.t63; have h2 := hG.cl8; have h3 := hG.q7; have h4 := hG.p32; have h5 := hG.a32; have h6 := hG.b32
  have hb : bs.drop p = leb 8 (t : Int) ++ (leb 1 ((cl : Int) % 256) ++ (leb 1 ((q : Int) % 256) ++ (leb 4 (pc : Int) ++ (leb 4 (a : Int) ++ (leb 4 (b : Int) ++ rest))))) := by
    rw [h]; simp [rowB, obN, List.append_assoc]
  have d8 : bs.drop (p + 8) = leb 1 ((cl : Int) % 256) ++ (leb 1 ((q : Int) % 256) ++ (leb 4 (pc : Int) ++ (leb 4 (a : Int) ++ (leb 4 (b : Int) ++ rest)))) := by
    rw [← List.drop_drop, hb, cut2 _ _ 8 (leb_length _ _)]
  have d9 : bs.drop (p + 9) = leb 1 ((q : Int) % 256) ++ (leb 4 (pc : Int) ++ (leb 4 (a : Int) ++ (leb 4 (b : Int) ++ rest))) := by
    rw [show p + 9 = p + 8 + 1 by omega, ← List.drop_drop, d8, cut2 _ _ 1 (leb_length _ _)]
  have d10 : bs.drop (p + 10) = leb 4 (pc : Int) ++ (leb 4 (a : Int) ++ (leb 4 (b : Int) ++ rest)) := by
    rw [show p + 10 = p + 9 + 1 by omega, ← List.drop_drop, d9, cut2 _ _ 1 (leb_length _ _)]
  have d14 : bs.drop (p + 14) = leb 4 (a : Int) ++ (leb 4 (b : Int) ++ rest) := by
    rw [show p + 14 = p + 10 + 4 by omega, ← List.drop_drop, d10, cut2 _ _ 4 (leb_length _ _)]
  have d18 : bs.drop (p + 18) = leb 4 (b : Int) ++ rest := by
    rw [show p + 18 = p + 14 + 4 by omega, ← List.drop_drop, d14, cut2 _ _ 4 (leb_length _ _)]
  unfold rowAt
  have e8 := pow8; have e4 := pow4; have e1 := pow1
  rw [hb, d8, d9, d10, d14, d18, cut1 _ _ 8 (leb_length _ _), cut1 _ _ 1 (leb_length _ _), cut1 _ _ 1 (leb_length _ _), cut1 _ _ 4 (leb_length _ _), cut1 _ _ 4 (leb_length _ _), cut1 _ _ 4 (leb_length _ _)]
  rw [lev_leb 8 t (by omega) (by omega), lev_leb 1 _ (by omega) (by omega), lev_leb 1 _ (by omega) (by omega), lev_leb 4 pc (by omega) (by omega), lev_leb 4 a (by omega) (by omega), lev_leb 4 b (by omega) (by omega)]
  unfold obN
  congr 1 <;> omega
theorem decRows_of (bs rest : List Int) : ∀ (s : List S35) (p : Nat) (acc : List S35), (∀ o ∈ s, mayB o = true) → (∀ o ∈ s, FitsT o) → bs.drop p = s.flatMap rowB ++ rest → decRows bs s.length p acc = (acc ++ s, -1)
  | [], p, acc, _, _, _ => by simp [decRows]
  | o :: s, p, acc, hm, hF, h => by
    have ho : bs.drop p = rowB o ++ (s.flatMap rowB ++ rest) := by rw [h]; simp [List.append_assoc]
    have hr := rowAt_of ho (hm o (by simp)) (hF o (by simp))
    have hd : bs.drop (p + 22) = s.flatMap rowB ++ rest := by rw [← List.drop_drop, ho, cut2 _ _ 22 (rowB_length o)]
    rw [List.length_cons, decRows, hr, if_pos (hm o (by simp)), decRows_of bs rest s (p + 22) (acc ++ [o]) (fun x hx => hm x (by simp [hx])) (fun x hx => hF x (by simp [hx])) hd]
    simp
/-- There and back. -/
theorem decode_enc (l : List S35) (hl : l.length ≤ 1000000) (hm : ∀ o ∈ l, mayB o = true) (hF : ∀ o ∈ l, FitsT o) : decode (encBytes l) = (l, -1) := by
  have hN := enc_len l
  rw [decode_good (fun i hi => enc_magic l i hi)]
  unfold decBody
  rw [hN, if_neg (by omega), enc_count, count_n l hl, if_neg (by omega), if_neg]
  · rw [Int.toNat_natCast]
    have hd : (encBytes l).drop 8 = l.flatMap rowB ++ leb 4 (Crc.crc (encBody l)) := by
      rw [show 8 = 4 + 4 from rfl, ← List.drop_drop, enc_head, cut2 _ _ 4 magicL_len, cut2 _ _ 4 (leb_length _ _)]
    rw [decRows_of (encBytes l) _ l 8 [] hm hF hd]
    rfl
  · rw [show 12 + 22 * l.length - 4 = 8 + 22 * l.length by omega, enc_drop, enc_take, List.take_of_length_le (by rw [leb_length]; exact Nat.le_refl _), sum_n]
    exact fun h => h rfl
end Go.Proofs.YtohighedgdlflaaGreatDoor

/- strings.Split at one byte, as a plain recursion. -/
namespace Go.Proofs.YtohighedgdlflaaGreatDoor
open Go.Lib
def splitC (c : UInt8) : List UInt8 → List (List UInt8)
  | [] => [[]]
  | b :: l => if b = c then [] :: splitC c l else
    match splitC c l with
    | [] => [[b]]
    | p :: ps => (b :: p) :: ps
theorem splitK_splitC (c : UInt8) : ∀ (s : List UInt8), splitK [c] 0 (count s [c]) s = splitC c s
  | [] => by rw [count_miss (by simp [index])]; rfl
  | b :: l => by
    have ih := splitK_splitC c l
    by_cases h : b = c
    · subst h
      have hix : index (b :: l) [b] = 0 := by rw [index]; simp [List.isPrefixOf]
      rw [count_cons_eq, Nat.add_comm, splitK, hix]
      simp [splitC, ih]
    · have hp : ([c] : List UInt8).isPrefixOf (b :: l) = false := by simp [List.isPrefixOf, Ne.symm h]
      have hix : index (b :: l) [c] = if index l [c] == -1 then -1 else index l [c] + 1 := by rw [index, hp]; simp
      rw [count_cons_ne b c l h]
      by_cases hm : index l [c] = -1
      · rw [count_miss hm] at ih ⊢
        rw [splitK] at ih ⊢
        rw [splitC, if_neg h, ← ih]
      · have hge := index_ge l [c]
        obtain ⟨j, hj⟩ : ∃ j : Nat, index l [c] = j := ⟨(index l [c]).toNat, by omega⟩
        have hix' : index (b :: l) [c] = ((j + 1 : Nat) : Int) := by rw [hix, if_neg (fun e => hm (beq_iff_eq.1 e)), hj]; omega
        rw [count_hit (by simp) hj, Nat.add_comm] at ih ⊢
        rw [splitK, hj] at ih
        rw [splitK, hix']
        rw [if_neg (show ¬ ((((j : Nat) : Int) == -1) = true) by simp <;> omega)] at ih
        rw [if_neg (show ¬ ((((j + 1 : Nat) : Int) == -1) = true) by simp <;> omega)]
        rw [splitC, if_neg h, ← ih]
        have e1 : (((j + 1 : Nat) : Int)).toNat = j + 1 := by omega
        have e2 : ((j : Int)).toNat = j := by omega
        rw [e1, e2]
        simp [List.take_succ_cons]
theorem splitC_none (c : UInt8) : ∀ (s : List UInt8), c ∉ s → splitC c s = [s]
  | [], _ => rfl
  | b :: l, h => by
    have h1 : b ≠ c := fun e => h (by simp [e])
    have h2 : c ∉ l := fun e => h (by simp [e])
    rw [splitC, if_neg h1, splitC_none c l h2]
theorem splitC_app (c : UInt8) : ∀ (s r : List UInt8), c ∉ s → splitC c (s ++ c :: r) = s :: splitC c r
  | [], r, _ => by rw [List.nil_append, splitC, if_pos rfl]
  | b :: l, r, h => by
    have h1 : b ≠ c := fun e => h (by simp [e])
    have h2 : c ∉ l := fun e => h (by simp [e])
    rw [List.cons_append, splitC, if_neg h1, splitC_app c l r h2]
/-- A joined row, cut again. -/
theorem splitC_join (c : UInt8) : ∀ (x : List UInt8) (xs : List (List UInt8)), (∀ y ∈ x :: xs, c ∉ y) → splitC c (Lib.join (x :: xs) [c]) = x :: xs
  | x, [], h => by
    rw [Lib.join_one]
    exact splitC_none c x (h x (by simp))
  | x, y :: ys, h => by
    have ih := splitC_join c y ys (fun z hz => h z (by simp at hz ⊢; exact Or.inr hz))
    have : Lib.join (x :: y :: ys) [c] = x ++ c :: Lib.join (y :: ys) [c] := by
      simp [Lib.join_cons, Lib.joinTail]
    rw [this, splitC_app c x _ (h x (by simp)), ih]
theorem splitC_lines (c : UInt8) : ∀ (xs : List (List UInt8)), (∀ y ∈ xs, c ∉ y) → splitC c (xs.flatMap fun x => x ++ [c]) = xs ++ [[]]
  | [], _ => rfl
  | x :: xs, h => by
    have ih := splitC_lines c xs (fun z hz => h z (by simp [hz]))
    rw [List.flatMap_cons, List.append_assoc, List.singleton_append, splitC_app c x _ (h x (by simp)), ih]
    rfl
theorem splitB_splitC (c : UInt8) (s : ByteArray) : (splitB ⟨#[c]⟩ 0 (countB s ⟨#[c]⟩) s).map (·.data.toList) = splitC c s.data.toList := by
  rw [splitB_data]
  exact splitK_splitC c s.data.toList
end Go.Proofs.YtohighedgdlflaaGreatDoor

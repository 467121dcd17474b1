/- The law TraceLong of package trace answers true, for every two numbers. -/
import Derived.Test.YtohighedgdlflaaGreatDoorLML2
import Derived.Lib.Strings
import Derived.Lib.ConvBytes
import Derived.Lib.AtoiErrMem
import Derived.Lib.ParseIntBMem
import Derived.Laws.Strings3
import Derived.Laws.Closers25
import Derived.Laws.Closers25b
import Derived.BigCall
import Derived.BigGuard
import Derived.Lib.OthersKept
import Derived.Test.YtohighedgdlflaaGreatDoorLML3
import Derived.Deep.QuietTactic
import Derived.BigQuiet
import Derived.Deep.RegionHeld3
import Derived.Lib.QuietBelow
import Derived.Lib.OwnBridge
import Derived.Test.YtohighedgdlflaaGreatDoorLML5
import Derived.Test.YtohighedgdlflaaGreatDoorLML4
import Derived.Test.YtohighedgdlflaaGreatDoorLML1
/- strconv.ParseUint at base 16: eight digits that trace.hex wrote are read. -/
namespace Go.Proofs.YtohighedgdlflaaGreatDoor
open Go.Shelf Go.RowKit Go.Sort Go.Lib Go.Proofs.YtohighedgdlflaaGreatDoorW.PrintWords Go.Proofs.YtohighedgdlflaaGreatDoor.PR
set_option linter.unusedVariables false
set_option linter.unusedSimpArgs false
theorem lower_ok (c : Int) (w : World) : Calls Tryz.prog 151 #[.int .u8 c] w fun e w' => e = .returned (.int .u8 (bits .or .u8 c 32)) ∧ w' = w := by
  go_enter Tryz.func151, Tryz.ntmps151
  go_wp2_with fail
  go_ret
  exact ⟨rfl, rfl⟩
theorem hexDig_lo {d : Nat} (h : d < 10) : ((hexDig d).toNat : Int) = 48 + d := by
  rcases (show d = 0 ∨ d = 1 ∨ d = 2 ∨ d = 3 ∨ d = 4 ∨ d = 5 ∨ d = 6 ∨ d = 7 ∨ d = 8 ∨ d = 9 by omega) with h | h | h | h | h | h | h | h | h | h <;> subst h <;> rfl
theorem hexDig_hi {d : Nat} (h : ¬ d < 10) (h2 : d < 16) : ((hexDig d).toNat : Int) = 87 + d := by
  rcases (show d = 10 ∨ d = 11 ∨ d = 12 ∨ d = 13 ∨ d = 14 ∨ d = 15 by omega) with h | h | h | h | h | h <;> subst h <;> rfl
theorem or_hi {d : Nat} (h : ¬ d < 10) (h2 : d < 16) : bits .or .u8 (87 + (d : Int)) 32 = 87 + d := by
  rcases (show d = 10 ∨ d = 11 ∨ d = 12 ∨ d = 13 ∨ d = 14 ∨ d = 15 by omega) with h | h | h | h | h | h <;> subst h <;> decide
set_option maxHeartbeats 8000000 in
set_option maxRecDepth 100000 in
theorem pu136_ok (n : Nat) (hn : n < 4294967296) (w : World) :
    Calls Tryz.prog 136 #[.string (hexS n), .int .i64 16, .int .i64 32] w fun e w' => e = .returned (.tuple #[.int .u64 n, .nilIface]) ∧ Below w.heap.size w w' := by
  have hemp : (hexS n).toList.isEmpty = false := by
    rw [← decide_eq_emptyBytes]
    exact decide_eq_false (fun h => by have := hexS_size n; rw [h] at this; simp at this)
  have hcv := Lib.run_convert_string_bytes (P := Tryz.prog) w 9 37 5 (hexS n) (u := .string) Tryz.underlying9 Tryz.underlying37 Tryz.underlying5
  have hB : ∀ j, j < 8 → (Lib.bytesWorld w 5 (hexS n)).cell? ⟨w.heap.size, j, none⟩ = some (.int .u8 (hexAt n j).toNat) := fun j hj => by
    rw [Lib.bytesWorld_cell w 5 (hexS n) j (by rw [hexS_size]; omega)]
    simp [hexS, hexL, List.getD, hj]
  have hbl : Below w.heap.size w (Lib.bytesWorld w 5 (hexS n)) := bytesWorld_below w 5 (hexS n)
  obtain ⟨W1, hW1⟩ : ∃ W1, W1 = Lib.bytesWorld w 5 (hexS n) := ⟨_, rfl⟩
  rw [← hW1] at hcv hB hbl
  clear hW1
  have HBl := Lib.hid hbl
  clear hbl
  have hmv : IntKind.u64.wrap (IntKind.u64.wrap 4294967296 - 1) = 4294967295 := by
    rw [IntKind.wrap_u64, IntKind.wrap_u64]
    decide
  have hsz : (hexS n).size = 8 := hexS_size n
  rw [hsz] at hcv
  obtain ⟨s, hs⟩ : ∃ s, s = hexS n := ⟨_, rfl⟩
  rw [← hs] at hcv hemp hsz ⊢
  clear hs
  go_enter Tryz.func136, Tryz.ntmps136
  go_wp2
  go_loop [12, 13, 101] (fun vu vn vi => ∃ (k : Nat) (a : Int), vu = .bool false ∧ vn = .int .u64 a ∧ vi = .int .i64 k ∧ k ≤ 8 ∧ Hid (a = (n / 16 ^ (8 - k) : Nat)))
    (fun _ _ vi => 8 - (RowKit.intOf vi).toNat)
  case atStart => exact ⟨0, 0, rfl, rfl, rfl, by omega, by show (0 : Int) = _; simp; omega⟩
  case round =>
    obtain ⟨k, a, rfl, rfl, rfl, hk, hh⟩ := hrel
    obtain ⟨acc, hacc⟩ : ∃ acc : Nat, acc = n / 16 ^ (8 - k) := ⟨_, rfl⟩
    have ha : a = acc := by rw [hh.out, hacc]
    by_cases hkn : k < 8
    · have hc := hB k hkn
      obtain ⟨d, hd⟩ : ∃ d, d = n / 16 ^ (7 - k) % 16 := ⟨_, rfl⟩
      have hd16 : d < 16 := by omega
      have hnext : acc * 16 + d = n / 16 ^ (8 - (k + 1)) := by
        have h1 := hacc
        rw [show 8 - k = (7 - k) + 1 by omega, Nat.pow_succ, ← Nat.div_div_eq_div_mul] at h1
        rw [show 8 - (k + 1) = 7 - k by omega, h1, hd]
        omega
      have hb32 : acc * 16 + d < 4294967296 := by
        rw [hnext]
        exact Nat.lt_of_le_of_lt (Nat.div_le_self _ _) hn
      have hx : hexAt n k = hexDig d := by unfold hexAt; rw [hd]
      rw [hx] at hc
      have Hnext : Hid (a * 16 + (d : Int) = (n / 16 ^ (8 - (k + 1)) : Nat)) := by
        show a * 16 + (d : Int) = _
        rw [← hnext, ha]; norm_cast
      clear hB hx hnext hd hh
      by_cases hlo : d < 10
      · rw [hexDig_lo hlo] at hc
        have i1 : a * 16 + (d : Int) ≤ 4294967295 := by omega
        have i2 : (0 : Int) ≤ a := by omega
        obtain ⟨e, he⟩ : ∃ e : Int, e = (d : Int) := ⟨_, rfl⟩
        have i3 : (0 : Int) ≤ e := by omega
        have i4 : e ≤ 9 := by omega
        rw [← he] at i1 hc Hnext
        clear hd16 hlo hb32 hacc ha he
        go_wp2_with fail
        refine ⟨⟨k + 1, a * 16 + e, rfl, (by first | rfl | (congr 1; omega)), (by first | rfl | (congr 1; omega)), by omega, Hnext⟩, by simp [RowKit.intOf]; omega⟩
      · rw [hexDig_hi hlo hd16] at hc
        have hor := or_hi hlo hd16
        have i1 : a * 16 + (d : Int) ≤ 4294967295 := by omega
        have i2 : (0 : Int) ≤ a := by omega
        obtain ⟨e, he⟩ : ∃ e : Int, e = (d : Int) := ⟨_, rfl⟩
        have i3 : (10 : Int) ≤ e := by omega
        have i4 : e ≤ 15 := by omega
        rw [← he] at i1 hc Hnext hor
        clear hd16 hlo hb32 hacc ha he
        go_wp2_with fail
        refine (lower_ok _ _).mono ?_
        rw [hor]
        rintro e' w' ⟨rfl, rfl⟩
        go_wp2_with fail
        refine (lower_ok _ _).mono ?_
        rw [hor]
        rintro e' w' ⟨rfl, rfl⟩
        go_wp2_with fail
        refine (lower_ok _ _).mono ?_
        rw [hor]
        rintro e' w' ⟨rfl, rfl⟩
        go_wp2_with fail
        refine ⟨⟨k + 1, a * 16 + e, rfl, (by first | rfl | (congr 1; omega)), (by first | rfl | (congr 1; omega)), by omega, Hnext⟩, by simp [RowKit.intOf]; omega⟩
    · obtain rfl : k = 8 := by omega
      have hacc2 : a = n := by rw [hh.out]; simp
      subst hacc2
      go_wp2
      go_ret2
      exact ⟨rfl, HBl.out⟩
theorem pu110_ok (n : Nat) (hn : n < 4294967296) (w : World) :
    Calls Tryz.prog 110 #[.string (hexS n), .int .i64 16, .int .i64 32] w fun e w' => e = .returned (.tuple #[.int .u64 n, .nilIface]) ∧ Below w.heap.size w w' := by
  have hn2 : (n : Int) < 4294967296 := by omega
  go_enter Tryz.func110, Tryz.ntmps110
  go_wp2_with fail
  refine (pu136_ok n hn _).mono ?_
  rintro e w1 ⟨rfl, hb⟩
  have HB := Lib.hid hb
  clear hb
  go_wp2_with fail
  refine bodyPost_ret (results_tmp2 rfl _ _ _) rfl ?_
  exact ⟨rfl, HB.out⟩
theorem must_ok (w : World) : Calls Tryz.prog 75 #[.bool true] w fun e w' => e = .returned (.tuple #[]) ∧ w' = w := by
  go_enter Tryz.func75, Tryz.ntmps75
  go_wp2_with fail
  go_end0
  exact ⟨rfl, rfl⟩
abbrev digitS : ByteArray := ⟨#[48, 49, 50, 51, 52, 53, 54, 55, 56, 57, 97, 98, 99, 100, 101, 102]⟩
theorem dw_nil {α : Type} (p : α → Bool) (l : List α) (h : ∀ b ∈ l, p b = true) : l.dropWhile p = [] := by
  induction l with
  | nil => rfl
  | cons x l ih => rw [List.dropWhile_cons, if_pos (h x (by simp))]; exact ih (fun b hb => h b (by simp [hb]))
theorem trim_hex (n : Nat) : Lib.trimS (hexS n).data.toList digitS.data.toList = [] := by
  have hall : ∀ b ∈ (hexL n).reverse, digitS.data.toList.contains b = true := by
    intro b hb
    rw [List.mem_reverse] at hb
    simp only [hexL, List.mem_map] at hb
    obtain ⟨j, _, rfl⟩ := hb
    have hd : n / 16 ^ (7 - j) % 16 < 16 := by omega
    unfold hexAt
    generalize n / 16 ^ (7 - j) % 16 = d at hd
    rcases (show d = 0 ∨ d = 1 ∨ d = 2 ∨ d = 3 ∨ d = 4 ∨ d = 5 ∨ d = 6 ∨ d = 7 ∨ d = 8 ∨ d = 9 ∨ d = 10 ∨ d = 11 ∨ d = 12 ∨ d = 13 ∨ d = 14 ∨ d = 15 by omega) with h | h | h | h | h | h | h | h | h | h | h | h | h | h | h | h <;> subst h <;> decide
  have h2 : (hexL n).reverse.dropWhile (digitS.data.toList.contains ·) = [] := by
    exact dw_nil _ _ hall
  unfold Lib.trimS Lib.trimRightS Lib.trimLeftS
  rw [show (hexS n).data.toList = hexL n by simp [hexS], h2]
  rfl
theorem unhex_ok (n : Nat) (hn : n < 4294967296) (w : World) :
    Calls Tryz.prog 76 #[.string (hexS n)] w fun e w' => e = .returned (.int .u32 n) ∧ Below w.heap.size w w' := by
  have hn2 : (n : Int) < 4294967296 := by omega
  have hsz : (hexS n).size = 8 := hexS_size n
  go_enter Tryz.func76, Tryz.ntmps76
  go_wp2_with fail
  refine (Tryz.strings_Trim_laid (hexS n) digitS _ (by rw [hsz]; omega) (by decide) (ascii_of_all (by decide))).mono ?_
  rintro e w1 ⟨rfl, hb⟩
  rw [trim_hex]
  have HB := Lib.hid hb
  clear hb
  go_wp2_with fail
  refine (must_ok _).mono ?_
  rintro e w2 ⟨rfl, rfl⟩
  go_wp2_with fail
  refine (pu110_ok n hn _).mono ?_
  rintro e w3 ⟨rfl, hb⟩
  have HB3 := Lib.hid (HB.out.trans (hb.mono HB.out.size))
  clear hb
  go_wp2_with fail
  go_ret
  exact ⟨rfl, HB3.out⟩
end Go.Proofs.YtohighedgdlflaaGreatDoor

/- trace.cutLeft at digits alone: nothing is left. -/
namespace Go.Proofs.YtohighedgdlflaaGreatDoor
open Go.Shelf Go.RowKit Go.Sort Go.Lib Go.Proofs.YtohighedgdlflaaGreatDoorW.PrintWords Go.Proofs.YtohighedgdlflaaGreatDoor.PR
set_option linter.unusedVariables false
set_option linter.unusedSimpArgs false
/-- A string of digits. -/
def Digits (s : ByteArray) : Prop := ∀ (j : Nat) (h : j < s.size), 48 ≤ (s[j]'h).toNat ∧ (s[j]'h).toNat < 58
abbrev tenS : ByteArray := ⟨#[48, 49, 50, 51, 52, 53, 54, 55, 56, 57]⟩
theorem tenS_at (q : Nat) (h : q < tenS.size) : (tenS[q]'h).toNat = 48 + q := by
  have h10 : q < 10 := h
  rcases (show q = 0 ∨ q = 1 ∨ q = 2 ∨ q = 3 ∨ q = 4 ∨ q = 5 ∨ q = 6 ∨ q = 7 ∨ q = 8 ∨ q = 9 by omega) with h | h | h | h | h | h | h | h | h | h <;> subst h <;> rfl
theorem iterPos_of {w : World} {k : Nat} {s : ByteArray} {p : Nat} (h : w.heap[k]? = some (.stringIter s p)) : w.iterPos k = p := by simp [World.iterPos, h]
set_option maxHeartbeats 8000000 in
set_option maxRecDepth 100000 in
theorem cutLeft_ok (s : ByteArray) (hs : Digits s) (w : World) :
    Calls Tryz.prog 112 #[.string s, .string tenS] w fun e w' => e = .returned (.string ⟨#[]⟩) ∧ Below w.heap.size w w' := by
  have HS := Lib.hid hs
  clear hs
  go_enter Tryz.func112, Tryz.ntmps112
  go_wp2_with fail
  go_loopw [5, 6, 7, 9] (fun v5 v6 v7 v9 wr => ∃ pos : Nat, pos ≤ s.size ∧ Hid (wr.heap[w.heap.size]? = some (.stringIter s pos)) ∧ Hid (Below w.heap.size w wr)) (fun _ _ _ _ wr => s.size - wr.iterPos w.heap.size)
  case atStart => exact ⟨0, by omega, World.iter_heap _ _ _, below_alloc (Below.refl _ _) _⟩
  case round =>
    obtain ⟨pos, hpos, HI, HB⟩ := hrel
    have hpos0 := iterPos_of HI.out
    by_cases hlt : pos < s.size
    · obtain ⟨hd1, hd2⟩ := HS.out pos hlt
      have hn := fun ty => run_next_ascii_at (P := Tryz.prog) wr w.heap.size s pos ty HI.out hlt (by omega)
      obtain ⟨d, hd⟩ : ∃ d : Nat, (s[pos]'hlt).toNat = 48 + d := ⟨(s[pos]'hlt).toNat - 48, by omega⟩
      rw [hd] at hn
      have hd10 : d < 10 := by omega
      have HI1 : Hid ((wr.iterAt w.heap.size s (pos + 1)).heap[w.heap.size]? = some (.stringIter s (pos + 1))) := iterAt_heap _ _ _ _ _ HI.out
      have HB1 : Hid (Below w.heap.size w (wr.iterAt w.heap.size s (pos + 1))) := below_iterAt HB.out (Nat.le_refl _) _ _
      obtain ⟨W1, hW1⟩ : ∃ W1, W1 = wr.iterAt w.heap.size s (pos + 1) := ⟨_, rfl⟩
      rw [← hW1] at hn HI1 HB1
      clear hd hd1 hd2 hW1 HI HB
      go_wp2_with fail
      go_loopw [7, 9] (fun v7 v9 wr => ∃ q : Nat, q ≤ 10 ∧ v7 = .bool (decide (d < q)) ∧ Hid (wr.heap[W1.heap.size]? = some (.stringIter tenS q)) ∧ Hid (Below W1.heap.size W1 wr)) (fun _ _ wr => 10 - wr.iterPos W1.heap.size)
      case atStart => exact ⟨0, by omega, by simp, World.iter_heap _ _ _, below_alloc (Below.refl _ _) _⟩
      case round =>
        clear hn
        obtain ⟨q, hq, rfl, HJ, HC⟩ := hrel
        have hq0 := iterPos_of HJ.out
        by_cases hql : q < 10
        · have hn2 := fun ty => run_next_ascii_at (P := Tryz.prog) wr W1.heap.size tenS q ty HJ.out hql (by rw [tenS_at q hql]; omega)
          rw [tenS_at q hql] at hn2
          have HJ1 : Hid ((wr.iterAt W1.heap.size tenS (q + 1)).heap[W1.heap.size]? = some (.stringIter tenS (q + 1))) := iterAt_heap _ _ _ _ _ HJ.out
          have HC1 : Hid (Below W1.heap.size W1 (wr.iterAt W1.heap.size tenS (q + 1))) := below_iterAt HC.out (Nat.le_refl _) _ _
          have hm1 := iterPos_of HJ1.out
          obtain ⟨W3, hW3⟩ : ∃ W3, W3 = wr.iterAt W1.heap.size tenS (q + 1) := ⟨_, rfl⟩
          rw [← hW3] at hn2 HJ1 HC1 hm1
          clear hW3
          by_cases hdq : d < q
          · have hdec : decide (d < q) = true := decide_eq_true hdq
            rw [hdec]
            go_wp2_with fail
            go_roundw
            case rel => exact ⟨q + 1, by omega, by simp; omega, HJ1, HC1⟩
            case measure => rw [hm1, hq0]; omega
          · have hdec : decide (d < q) = false := decide_eq_false hdq
            rw [hdec]
            go_wp2_with fail
            go_roundw
            case rel =>
              refine ⟨q + 1, by omega, ?_, HJ1, HC1⟩
              congr 1
              by_cases hdq2 : d = q
              · subst hdq2; simp
              · have : ¬ (48 + (d : Int)) = 48 + (q : Int) := by omega
                simp [show ¬ d < q + 1 by omega]; omega
            case measure => rw [hm1, hq0]; omega
        · obtain rfl : q = 10 := by omega
          have hn2 := fun ty => run_next_end_at (P := Tryz.prog) wr W1.heap.size tenS 10 ty HJ.out (by decide)
          have hdec : decide (d < 10) = true := decide_eq_true hd10
          rw [hdec]
          have HI2 : Hid (wr.heap[w.heap.size]? = some (.stringIter s (pos + 1))) := by
            show wr.heap[w.heap.size]? = _
            rw [HC.out.block _ (heap_lt' HI1.out)]; exact HI1.out
          have HB2 : Hid (Below w.heap.size w wr) := HB1.out.trans (HC.out.mono HB1.out.size)
          have hm2 := iterPos_of HI2.out
          go_wp2_with fail
          go_roundw
          case rel => exact ⟨pos + 1, by omega, HI2, HB2⟩
          case measure => rw [hm2, hpos0]; omega
    · have hn := fun ty => run_next_end_at (P := Tryz.prog) wr w.heap.size s pos ty HI.out hlt
      go_wp2_with fail
      go_ret
      exact ⟨rfl, HB.out⟩
end Go.Proofs.YtohighedgdlflaaGreatDoor

/- Decimal digits, read again. -/
namespace Go.Proofs.YtohighedgdlflaaGreatDoor
open Go.Shelf Go.RowKit Go.Sort Go.Lib Go.Proofs.YtohighedgdlflaaGreatDoorW.PrintWords Go.Proofs.YtohighedgdlflaaGreatDoor.PR
set_option linter.unusedVariables false
set_option linter.unusedSimpArgs false
theorem pm_append (M : Nat) (ys : List UInt8) : ∀ (xs : List UInt8) (acc v : Nat), Lib.parseUintM M acc xs = .ok v → Lib.parseUintM M acc (xs ++ ys) = Lib.parseUintM M v ys
  | [], acc, v, h => by simp [Lib.parseUintM] at h; subst h; rfl
  | c :: r, acc, v, h => by
    simp only [Lib.parseUintM, List.cons_append] at h ⊢
    split at h
    · split at h
      · cases h
      · split at h
        · cases h
        · rename_i h1 h2 h3
          rw [if_pos h1, if_neg h2, if_neg h3]
          exact pm_append M ys r _ v h
    · cases h
theorem dec_step {u : Nat} (h : ¬ u < 10) : Lib.decDigits u = Lib.decDigits (u / 10) ++ [UInt8.ofNat (48 + u % 10)] := by
  rw [Lib.decDigits, dif_neg h]
theorem dec_small {u : Nat} (h : u < 10) : Lib.decDigits u = [UInt8.ofNat (48 + u)] := by
  rw [Lib.decDigits, dif_pos h]
theorem pm_dec : ∀ (u : Nat), u < 18446744073709551616 → Lib.parseUintM 18446744073709551615 0 (Lib.decDigits u) = .ok u := by
  intro u
  induction u using Nat.strongRecOn with
  | ind u ih =>
    intro hu
    by_cases h : u < 10
    · rw [dec_small h]
      have hc : (UInt8.ofNat (48 + u)).toNat = 48 + u := by simp; omega
      simp only [Lib.parseUintM, hc]
      rw [if_pos (by omega), if_neg (by omega), if_neg (by omega)]
      congr 1; omega
    · rw [dec_step h, pm_append _ _ _ _ _ (ih (u / 10) (by omega) (by omega))]
      have hc : (UInt8.ofNat (48 + u % 10)).toNat = 48 + u % 10 := by simp; omega
      simp only [Lib.parseUintM, hc]
      rw [if_pos (by omega), if_neg (by omega), if_neg (by omega)]
      congr 1; omega
theorem dec_ne (u : Nat) : Lib.decDigits u ≠ [] := by
  intro h
  have := Lib.decDigits_length u
  rw [h] at this
  have := Lib.nDigits_pos u
  simp at *; omega
theorem pb_dec (u : Nat) (hu : u < 18446744073709551616) : Lib.parseUintB 64 (decS u).data.toList = .ok u := by
  unfold Lib.parseUintB
  rw [show (decS u).data.toList = Lib.decDigits u by simp [decS], if_neg (dec_ne u)]
  exact pm_dec u hu
theorem u8n {k : Nat} (h : k < 256) : (UInt8.ofNat k).toNat = k := by simp; omega
theorem dec_mem : ∀ (u : Nat), ∀ b ∈ Lib.decDigits u, 48 ≤ b.toNat ∧ b.toNat < 58 := by
  intro u
  induction u using Nat.strongRecOn with
  | ind u ih =>
    intro b hb
    by_cases h : u < 10
    · rw [dec_small h] at hb
      rw [List.mem_singleton] at hb
      rw [hb, u8n (by omega)]; omega
    · rw [dec_step h] at hb
      rcases List.mem_append.1 hb with h1 | h1
      · exact ih (u / 10) (by omega) b h1
      · rw [List.mem_singleton] at h1
        rw [h1, u8n (by omega)]; omega
theorem dec_head : ∀ (u : Nat), u ≠ 0 → ∀ c, (Lib.decDigits u)[0]? = some c → c.toNat ≠ 48 := by
  intro u
  induction u using Nat.strongRecOn with
  | ind u ih =>
    intro hu c hc
    by_cases h : u < 10
    · rw [dec_small h] at hc
      simp only [List.getElem?_cons_zero, Option.some.injEq] at hc
      rw [← hc, u8n (by omega)]; omega
    · rw [dec_step h, List.getElem?_append_left (by rw [Lib.decDigits_length]; exact Lib.nDigits_pos _)] at hc
      exact ih (u / 10) (by omega) (by omega) c hc
theorem dec_digits (u : Nat) : Digits (decS u) := by
  intro j h
  have : (decS u)[j]'h ∈ Lib.decDigits u := by
    have h2 : j < (Lib.decDigits u).length := by rw [Lib.decDigits_length, ← decS_size]; exact h
    have h3 : (decS u)[j]'h = (Lib.decDigits u)[j] := rfl
    rw [h3]; exact List.getElem_mem h2
  exact dec_mem u _ this
theorem cutRight_ok (w : World) : Calls Tryz.prog 111 #[.string ⟨#[]⟩, .string tenS] w fun e w' => e = .returned (.string ⟨#[]⟩) ∧ w' = w := by
  go_enter Tryz.func111, Tryz.ntmps111
  go_wp2_with fail
  go_loop [0] (fun v0 => v0 = .string ⟨#[]⟩) (fun _ => 0)
  case atStart => rfl
  case round =>
    obtain rfl := hrel
    go_wp2_with fail
    go_ret
    exact ⟨rfl, rfl⟩
theorem decimal_0 (m : Nat) (w : World) :
    Calls Tryz.prog 79 #[.string ⟨#[48]⟩, .int .u64 m] w fun e w' => e = .returned (.int .u64 0) ∧ Below w.heap.size w w' := by
  have HSZ : Hid ((⟨#[48]⟩ : ByteArray).size = 1) := rfl
  have HD : Hid (Digits ⟨#[48]⟩) := by
    intro j h
    obtain rfl : j = 0 := by have : j < 1 := h; omega
    have h48 : ((⟨#[48]⟩ : ByteArray)[0]'h) = 48 := rfl
    rw [h48]; decide
  have HP : Hid (Lib.parseUintB 64 (⟨#[48]⟩ : ByteArray).data.toList = .ok 0) := by
    have := pb_dec 0 (by decide)
    rwa [show decS 0 = ⟨#[48]⟩ by unfold decS; rw [dec_small (by decide)]; rfl] at this
  have hm : (0 : Int) ≤ m := by omega
  have hslc : ∀ W : World, (Instr.slice 9 (.string digitS) none (some (.int .i64 10)) none).run Tryz.prog W = .ok (.string tenS) W := fun W => by kernel_rfl
  have HB0 := Lib.hid (Below.refl w.heap.size w)
  go_enter Tryz.func79, Tryz.ntmps79
  go_wp2_with fail
  go_region_held3 (fun W => Hid (Below w.heap.size w W))
    (first
      | exact HB0
      | exact Lib.hid (below_drew HB0.out)
      | exact HB5)
    (first
      | (go_at_call 112; with_reducible refine (cutLeft_ok _ HD.out _).mono ?_; rintro e w5 ⟨rfl, hb5⟩; have HB5 := Lib.hid ((below_drew HB0.out).trans (hb5.mono (by simp))))
      | (go_at_call 111; with_reducible refine (cutRight_ok _).mono ?_; rintro e w6 ⟨rfl, rfl⟩)
      | (go_at_call 75; with_reducible refine (must_ok _).mono ?_; rintro e w7 ⟨rfl, rfl⟩))
  go_wp2_with fail
  refine (Tryz.strconv_ParseUint_10_at64_ok _ (by first | (rw [HSZ.out]; omega) | decide) _ HP.out _).mono ?_
  rintro e w8 ⟨rfl, hw8⟩
  have HB8 : Hid (Below w.heap.size w w8) := by
    rcases hw8 with rfl | rfl
    · exact HB5
    · exact HB5.out.trans ((bytesWorld_below _ _ _).mono HB5.out.size)
  clear hw8
  go_wp2_with fail
  refine (must_ok _).mono ?_
  rintro e w9 ⟨rfl, rfl⟩
  go_wp2_with fail
  go_ret
  exact ⟨rfl, HB8.out⟩
theorem decimal_ok (u m : Nat) (hu : u < 18446744073709551616) (hm : u ≤ m) (w : World) :
    Calls Tryz.prog 79 #[.string (decS u), .int .u64 m] w fun e w' => e = .returned (.int .u64 u) ∧ Below w.heap.size w w' := by
  by_cases hu0 : u = 0
  · subst hu0
    have := decimal_0 m w
    rwa [show (⟨#[48]⟩ : ByteArray) = decS 0 by unfold decS; rw [dec_small (by decide)]; rfl] at this
  have hsz : (decS u).size = Lib.nDigits u := decS_size u
  have hn1 := Lib.nDigits_pos u
  have hn20 := Lib.nDigits_le20 u hu
  have HSZ := Lib.hid hsz
  have HD := Lib.hid (dec_digits u)
  have HP := Lib.hid (pb_dec u hu)
  have h0 : 0 < (decS u).size := by omega
  have hne : ((((decS u)[0]'h0).toNat : Int) != 48) = true := by
    have h1 := dec_head u hu0 ((decS u)[0]'h0) (by
      have h2 : 0 < (Lib.decDigits u).length := by rw [Lib.decDigits_length]; omega
      rw [List.getElem?_eq_getElem h2]; rfl)
    simp; omega
  have hemp : (decS u).toList.isEmpty = false := by
    rw [← decide_eq_emptyBytes]
    exact decide_eq_false (fun h => by rw [h] at hsz; simp at hsz; omega)
  have hs1 : 0 < (decS u).size := h0
  generalize decS u = s at *
  have hm2 : (u : Int) ≤ m := by omega
  clear hsz hm hu
  have hslc : ∀ W : World, (Instr.slice 9 (.string digitS) none (some (.int .i64 10)) none).run Tryz.prog W = .ok (.string tenS) W := fun W => by kernel_rfl
  have HB0 := Lib.hid (Below.refl w.heap.size w)
  go_enter Tryz.func79, Tryz.ntmps79
  go_wp2_with fail
  have cL : ∀ d os, Calls Tryz.prog 112 #[.string s, .string tenS] (grow (redrawn w d) os) fun e w'' => e = .returned (.string ⟨#[]⟩) ∧ ∃ p : Regrown, w'' = grow (redrawn w p.d) p.os := fun d os => Calls.regrown_of (cutLeft_ok s HD.out _)
  have cR : ∀ d os, Calls Tryz.prog 111 #[.string ⟨#[]⟩, .string tenS] (grow (redrawn w d) os) fun e w'' => e = .returned (.string ⟨#[]⟩) ∧ ∃ p : Regrown, w'' = grow (redrawn w p.d) p.os := fun d os => Calls.regrown_of ((cutRight_ok _).mono fun _ _ ⟨h1, h2⟩ => ⟨h1, h2 ▸ Below.refl _ _⟩)
  have cM : ∀ d os, Calls Tryz.prog 75 #[.bool true] (grow (redrawn w d) os) fun e w'' => e = .returned (.tuple #[]) ∧ ∃ p : Regrown, w'' = grow (redrawn w p.d) p.os := fun d os => Calls.regrown_of ((must_ok _).mono fun _ _ ⟨h1, h2⟩ => ⟨h1, h2 ▸ Below.refl _ _⟩)
  refine wp_region_quiet_below (by kernel_rfl) (by kernel_rfl) ?_
  repeat (quiet_step (first | with_reducible exact cL _ _ | with_reducible exact cR _ _ | with_reducible exact cM _ _))
  refine wpQuiet_nil ?_
  intro _ hw'
  obtain ⟨⟨dq, osq⟩, hw''⟩ := hw'
  subst hw''
  have HB5 := Lib.hid (below_regrown w dq osq)
  go_wp2_with fail
  refine (Tryz.strconv_ParseUint_10_at64_ok _ (by first | (rw [HSZ.out]; omega) | decide) _ HP.out _).mono ?_
  rintro e w8 ⟨rfl, hw8⟩
  have HB8 : Hid (Below w.heap.size w w8) := by
    rcases hw8 with rfl | rfl
    · exact HB5
    · exact HB5.out.trans ((bytesWorld_below _ _ _).mono HB5.out.size)
  clear hw8
  go_wp2_with fail
  refine (must_ok _).mono ?_
  rintro e w9 ⟨rfl, rfl⟩
  go_wp2_with fail
  go_ret
  exact ⟨rfl, HB8.out⟩
end Go.Proofs.YtohighedgdlflaaGreatDoor

/- slices.DeleteFunc at Parse's predicate: the empty words go. -/
namespace Go.Proofs.YtohighedgdlflaaGreatDoor
open Go.Shelf Go.RowKit Go.Sort Go.Lib Go.Proofs.YtohighedgdlflaaGreatDoorW.PrintWords Go.Proofs.YtohighedgdlflaaGreatDoor.PR
set_option linter.unusedVariables false
set_option linter.unusedSimpArgs false
def emp (x : ByteArray) : Bool := x.toList.isEmpty
theorem p2_ok (x : ByteArray) (W : World) : FnGives Tryz.prog 67 #[] #[.string x] (.bool (emp x)) W := by
  show Calls Tryz.prog 67 #[.string x] W _
  cases hx : x.toList.isEmpty with
  | true =>
    go_enter Tryz.func67, Tryz.ntmps67
    go_wp2_with fail
    go_ret
    exact ⟨by unfold emp; rw [hx]; rfl, 0, rfl⟩
  | false =>
    go_enter Tryz.func67, Tryz.ntmps67
    go_wp2_with fail
    go_ret
    exact ⟨by unfold emp; rw [hx]; rfl, 0, rfl⟩
theorem del_ok (g cap : Nat) (d : Array ByteArray) (w : World) (hH : Holds Value.string w g 0 d) (hg : g < w.heap.size) (hsz : d.size ≤ 9223372036854775807) (hcap : d.size ≤ cap) :
    Calls Tryz.prog 66 #[.slice (some ⟨g, 0, none⟩) d.size cap, .func (.func 67) #[] #[]] w fun e w' => e = .returned (.slice (some ⟨g, 0, none⟩) (d.toList.filter fun x => !emp x).length cap) ∧ Below g w w' ∧ ∀ (j : Nat) x, (d.toList.filter fun x => !emp x)[j]? = some x → w'.cell? ⟨g, j, none⟩ = some (.string x) := by
  have eg : ∀ args w, (callFunc 67 args).run Tryz.prog w = .ok (.enter 67 args) w := enters_of Tryz.func67 (by kernel_rfl) rfl
  have hcon := AnyE.slices_DeleteFunc Tryz.del66 Value.string (fun _ => rfl) emp 67 #[] eg ByteArray.empty Tryz.zeroValue9 g 0 cap d w
    (fun W x _ => p2_ok x W) (fun n os dk x _ => p2_ok x _) hH hsz hcap
  refine hcon.mono ?_
  rintro e w' ⟨rfl, q, rfl⟩
  obtain ⟨r, hr⟩ : ∃ r, r = (d.toList.filter fun x => !emp x) := ⟨_, rfl⟩
  have hrl : r.length ≤ d.size := by rw [hr]; simpa using List.length_filter_le (fun x => !emp x) d.toList
  rw [← hr]
  refine ⟨rfl, below_putRow (Below.refl _ _) (Nat.le_refl _), fun j x hx => ?_⟩
  have hj : j < r.length := by
    rcases Nat.lt_or_ge j r.length with h' | h'
    · exact h'
    · rw [List.getElem?_eq_none h'] at hx; simp at hx
  have h := cell?_putRow Value.string (Sort.ahead w q) g 0 d (r ++ List.replicate (d.size - r.length) ByteArray.empty).toArray hH (by simp; omega) j (by simp; omega)
  rw [Nat.zero_add] at h
  rw [h]
  congr 2
  rw [getElem!_pos _ j (by simp; omega)]
  have hx2 : r[j] = x := by rw [List.getElem?_eq_getElem hj] at hx; exact Option.some.inj hx
  simp [List.getElem_append_left hj, hx2]
end Go.Proofs.YtohighedgdlflaaGreatDoor

/- The pieces of a text of lines, and what they say. -/
namespace Go.Proofs.YtohighedgdlflaaGreatDoor
open Go.Shelf Go.RowKit Go.Sort Go.Lib Go.Proofs.YtohighedgdlflaaGreatDoorW.PrintWords Go.Proofs.YtohighedgdlflaaGreatDoor.PR
set_option linter.unusedVariables false
set_option linter.unusedSimpArgs false
def pieces (s : ByteArray) : List ByteArray := Lib.splitB ⟨#[10]⟩ 0 (Lib.countB s ⟨#[10]⟩) s
def cutB (s : ByteArray) : List ByteArray := Lib.splitB ⟨#[32]⟩ 0 (Lib.countB s ⟨#[32]⟩) s
def wordsB (s : ByteArray) : List ByteArray := (cutB s).filter fun x => !emp x
def PieceIs (x : ByteArray) (os : List S35) : Prop :=
  (wordsB x = [] ∧ os = []) ∨ ∃ t cl q p a b : Nat, GoodN t cl q p a b ∧ wordsB x = wordsN t cl q p a b ∧ os = [obN t cl q p a b]
theorem splitC_le (c : UInt8) : ∀ (s : List UInt8) (x : List UInt8), x ∈ splitC c s → x.length ≤ s.length
  | [], x, h => by simp [splitC] at h; simp [h]
  | b :: l, x, h => by
    have ih := splitC_le c l
    rw [splitC] at h
    split at h
    · rcases List.mem_cons.1 h with rfl | h
      · simp
      · have := ih x h; simp; omega
    · split at h
      · rename_i heq
        simp at h; subst h; simp
      · rename_i p ps heq
        rcases List.mem_cons.1 h with rfl | h
        · have := ih p (by rw [heq]; simp); simp; omega
        · have := ih x (by rw [heq]; simp [h]); simp; omega
theorem pieces_le {s x : ByteArray} (h : x ∈ pieces s) : x.size ≤ s.size := by
  have h1 : x.data.toList ∈ splitC 10 s.data.toList := by
    rw [← splitB_splitC]
    exact List.mem_map_of_mem h
  have := splitC_le _ _ _ h1
  rw [Lib.size_eq, Lib.size_eq]
  exact this
theorem pieces_len (s : ByteArray) : (pieces s).length = Lib.countB s ⟨#[10]⟩ + 1 := Lib.splitB_all _ (by decide) 0 _ s rfl
theorem cutB_len (s : ByteArray) : (cutB s).length = Lib.countB s ⟨#[32]⟩ + 1 := Lib.splitB_all _ (by decide) 0 _ s rfl
theorem count_small (s sep : ByteArray) (h1 : 1 ≤ sep.size) : Lib.countB s sep ≤ s.size := Lib.countB_le sep h1 _ s (Nat.le_refl _)
/-- A digit stands first. -/
theorem decS_first (t : Nat) : ∃ h : 0 < (decS t).size, ((((decS t)[0]'h).toNat : Int) != 35) = true := by
  have hz : 0 < (decS t).size := by
    rw [decS_size, ← Lib.decDigits_length]
    rw [Lib.decDigits]; split <;> simp
  refine ⟨hz, ?_⟩
  have key : ∀ (u : Nat) c, (Lib.decDigits u)[0]? = some c → 48 ≤ c.toNat := by
    intro u
    induction u using Nat.strongRecOn with
    | _ u ih =>
      intro c hc
      rw [Lib.decDigits] at hc
      split at hc
      · rename_i h
        simp at hc
        rw [← hc]
        rcases (show u = 0 ∨ u = 1 ∨ u = 2 ∨ u = 3 ∨ u = 4 ∨ u = 5 ∨ u = 6 ∨ u = 7 ∨ u = 8 ∨ u = 9 by omega) with h | h | h | h | h | h | h | h | h | h <;> subst h <;> decide
      · rename_i h
        refine ih (u / 10) (by omega) c ?_
        rw [List.getElem?_append_left] at hc
        · exact hc
        · rw [Lib.decDigits]; split <;> simp
  have h1 : (Lib.decDigits t)[0]? = some ((decS t)[0]'hz) := by
    have hl : 0 < (Lib.decDigits t).length := by rw [Lib.decDigits_length, ← decS_size]; exact hz
    rw [List.getElem?_eq_getElem hl]
    congr 1
  have h2 := key t _ h1
  rw [bne_iff_ne]
  omega
end Go.Proofs.YtohighedgdlflaaGreatDoor

/- Plain law: the pieces of a text that was written, and their words. -/
namespace Go.Proofs.YtohighedgdlflaaGreatDoor
open Go.Shelf Go.RowKit Go.Sort Go.Lib Go.Proofs.YtohighedgdlflaaGreatDoorW.PrintWords Go.Proofs.YtohighedgdlflaaGreatDoor.PR
set_option linter.unusedVariables false
set_option linter.unusedSimpArgs false
/-- A word: not empty, no blank, no end of a line. -/
def WordB (w : ByteArray) : Prop := w.data.toList ≠ [] ∧ ∀ c ∈ w.data.toList, c ≠ 10 ∧ c ≠ 32
theorem dec_word (n : Nat) : WordB (decS n) := by
  refine ⟨?_, ?_⟩
  · show Lib.decDigits n ≠ []
    rw [Lib.decDigits]; split <;> simp
  · intro c hc
    have h1 : 48 ≤ c.toNat ∧ c.toNat < 58 := dec_mem n c hc
    constructor <;> (intro h; subst h; revert h1; decide)
theorem hexDig_word (d : Nat) (h : d < 16) : hexDig d ≠ 10 ∧ hexDig d ≠ 32 := by
  rcases (show d = 0 ∨ d = 1 ∨ d = 2 ∨ d = 3 ∨ d = 4 ∨ d = 5 ∨ d = 6 ∨ d = 7 ∨ d = 8 ∨ d = 9 ∨ d = 10 ∨ d = 11 ∨ d = 12 ∨ d = 13 ∨ d = 14 ∨ d = 15 by omega) with h | h | h | h | h | h | h | h | h | h | h | h | h | h | h | h <;> subst h <;> decide
theorem hex_word (n : Nat) : WordB (hexS n) := by
  refine ⟨by simp [hexS, hexL], ?_⟩
  intro c hc
  have h1 : c ∈ hexL n := by simpa [hexS] using hc
  obtain ⟨j, _, rfl⟩ := List.mem_map.1 h1
  exact hexDig_word _ (Nat.mod_lt _ (by decide))
theorem app_word {a b : ByteArray} (ha : WordB a) (hb : WordB b) : WordB (a ++ b) := by
  constructor
  · rw [ByteArray.data_append, Array.toList_append]
    intro h
    exact ha.1 (List.append_eq_nil_iff.1 h).1
  · intro c hc
    rw [ByteArray.data_append, Array.toList_append] at hc
    rcases List.mem_append.1 hc with h | h
    · exact ha.2 c h
    · exact hb.2 c h
theorem kind_word (q : Nat) (h1 : 1 ≤ q) (h7 : q ≤ 7) : WordB (kindS.getD q ByteArray.empty) := by
  rcases (show q = 1 ∨ q = 2 ∨ q = 3 ∨ q = 4 ∨ q = 5 ∨ q = 6 ∨ q = 7 by omega) with h | h | h | h | h | h | h <;> subst h <;> exact ⟨by decide, by decide⟩
theorem fault_word (q : Nat) (h1 : 1 ≤ q) (h6 : q ≤ 6) : WordB (faultS.getD q ByteArray.empty) := by
  rcases (show q = 1 ∨ q = 2 ∨ q = 3 ∨ q = 4 ∨ q = 5 ∨ q = 6 by omega) with h | h | h | h | h | h <;> subst h <;> exact ⟨by decide, by decide⟩
theorem words_word {t cl q p a b : Nat} (hG : GoodN t cl q p a b) : ∀ w ∈ wordsN t cl q p a b, WordB w := by
  intro w hw
  unfold wordsN at hw
  rcases List.mem_append.1 hw with h | h
  · simp only [List.mem_cons, List.mem_nil_iff, or_false] at h
    rcases h with rfl | rfl | rfl | rfl
    · exact dec_word _
    · exact dec_word _
    · exact kind_word q hG.q1 hG.q7
    · exact hex_word _
  · have hk3 := hG.k3
    rcases (show q = 1 ∨ q = 2 ∨ q = 3 ∨ q = 4 ∨ q = 5 ∨ q = 6 ∨ q = 7 by have := hG.q1; have := hG.q7; omega) with h1 | h1 | h1 | h1 | h1 | h1 | h1 <;> subst h1 <;> simp [writeN] at h
    · rcases h with rfl | rfl <;> exact hex_word _
    · rcases h with rfl | rfl <;> exact hex_word _
    · rcases h with rfl | rfl
      · exact fault_word a (hk3 rfl).1 (hk3 rfl).2
      · exact hex_word _
    · subst h; exact dec_word _
    · subst h; exact app_word (hex_word _) (hex_word _)
    · subst h; exact hex_word _
theorem join_mem (c : UInt8) : ∀ (xs : List (List UInt8)) (b : UInt8), b ∈ Lib.join xs [c] → b = c ∨ ∃ x ∈ xs, b ∈ x
  | [], b, h => by simp [Lib.join_nil] at h
  | [x], b, h => by rw [Lib.join_one] at h; exact .inr ⟨x, by simp, h⟩
  | x :: y :: ys, b, h => by
    have e : Lib.join (x :: y :: ys) [c] = x ++ c :: Lib.join (y :: ys) [c] := by simp [Lib.join_cons, Lib.joinTail]
    rw [e] at h
    rcases List.mem_append.1 h with h | h
    · exact .inr ⟨x, by simp, h⟩
    · rcases List.mem_cons.1 h with h | h
      · exact .inl h
      · rcases join_mem c (y :: ys) b h with h | ⟨z, hz, h⟩
        · exact .inl h
        · exact .inr ⟨z, by simp at hz ⊢; exact .inr hz, h⟩
theorem map_ba' {xs ys : List ByteArray} (h : xs.map (·.data.toList) = ys.map (·.data.toList)) : xs = ys := by
  induction xs generalizing ys with
  | nil => cases ys with
    | nil => rfl
    | cons y ys => simp at h
  | cons x xs ih => cases ys with
    | nil => simp at h
    | cons y ys =>
      simp only [List.map_cons, List.cons.injEq] at h
      rw [ByteArray.ext (Array.toList_inj.1 h.1), ih h.2]
/-- The words of a line that was written. -/
theorem line_words {t cl q p a b : Nat} (hG : GoodN t cl q p a b) : wordsB (lineZ t cl q p a b) = wordsN t cl q p a b := by
  have hw := words_word hG
  have hc : cutB (lineZ t cl q p a b) = wordsN t cl q p a b := map_ba' (by
    show (Lib.splitB ⟨#[32]⟩ 0 (Lib.countB _ ⟨#[32]⟩) _).map (·.data.toList) = _
    rw [splitB_splitC]
    have hx : ∃ x xs, (wordsN t cl q p a b).map (·.data.toList) = x :: xs := ⟨_, _, rfl⟩
    obtain ⟨x, xs, hx⟩ := hx
    show splitC 32 (Lib.join ((wordsN t cl q p a b).map (·.data.toList)) [32]) = _
    rw [hx]
    refine splitC_join 32 x xs (fun y hy => ?_)
    rw [← hx] at hy
    obtain ⟨w, hw1, rfl⟩ := List.mem_map.1 hy
    exact fun h => (hw w hw1).2 32 h |>.2 rfl)
  unfold wordsB
  rw [hc, List.filter_eq_self]
  intro w hw1
  have h1 := (hw w hw1).1
  have : emp w = false := by
    unfold emp
    rw [← decide_eq_emptyBytes]
    refine decide_eq_false (fun h => h1 ?_)
    rw [h]; rfl
  rw [this]; rfl
theorem line_no10 {t cl q p a b : Nat} (hG : GoodN t cl q p a b) : (10 : UInt8) ∉ (lineZ t cl q p a b).data.toList := by
  intro h
  rcases join_mem 32 _ 10 h with h | ⟨x, hx, h⟩
  · exact absurd h (by decide)
  · obtain ⟨w, hw, rfl⟩ := List.mem_map.1 hx
    exact (words_word hG w hw).2 10 h |>.1 rfl
/-- The pieces of a text that was written: its lines, and an empty one behind them. -/
theorem text_pieces (l : List S35) (hm : ∀ o ∈ l, mayB o = true) (hF : ∀ o ∈ l, FitsT o) : ∃ zs : List ByteArray, pieces (textS l) = zs ++ [⟨#[]⟩] ∧ zs.length = l.length ∧ ∀ (k : Nat) z o, zs[k]? = some z → l[k]? = some o → PieceIs z [o] := by
  have each : ∀ o ∈ l, ∃ z : ByteArray, lineB o = z.data.toList ++ [10] ∧ (10 : UInt8) ∉ z.data.toList ∧ PieceIs z [o] := by
    intro o ho
    obtain ⟨t, cl, q, p, a, b, rfl, hG⟩ := good_of_may (hm o ho) (hF o ho)
    exact ⟨lineZ t cl q p a b, lineB_obN t cl q p a b, line_no10 hG, .inr ⟨t, cl, q, p, a, b, hG, line_words hG, rfl⟩⟩
  have build : ∀ (m : List S35), (∀ o ∈ m, ∃ z : ByteArray, lineB o = z.data.toList ++ [10] ∧ (10 : UInt8) ∉ z.data.toList ∧ PieceIs z [o]) → ∃ zs : List ByteArray, zs.length = m.length ∧ textB m = (zs.map (·.data.toList)).flatMap (fun x => x ++ [10]) ∧ (∀ z ∈ zs, (10 : UInt8) ∉ z.data.toList) ∧ ∀ (k : Nat) z o, zs[k]? = some z → m[k]? = some o → PieceIs z [o] := by
    intro m
    induction m with
    | nil => intro _; exact ⟨[], rfl, rfl, by simp, by simp⟩
    | cons o m ih =>
      intro h
      obtain ⟨z, h1, h2, h3⟩ := h o (by simp)
      obtain ⟨zs, g1, g2, g3, g4⟩ := ih (fun x hx => h x (by simp [hx]))
      refine ⟨z :: zs, by simp [g1], ?_, ?_, ?_⟩
      · have e : textB (o :: m) = lineB o ++ textB m := by simp [textB]
        rw [e, h1, g2]; simp
      · intro y hy
        rcases List.mem_cons.1 hy with rfl | hy
        · exact h2
        · exact g3 y hy
      · intro k y x hy hx
        match k with
        | 0 =>
          simp at hy hx
          subst hy; subst hx
          exact h3
        | k + 1 => exact g4 k y x (by simpa using hy) (by simpa using hx)
  obtain ⟨zs, g1, g2, g3, g4⟩ := build l each
  refine ⟨zs, map_ba' ?_, g1, g4⟩
  show (Lib.splitB ⟨#[10]⟩ 0 (Lib.countB _ ⟨#[10]⟩) _).map (·.data.toList) = _
  rw [splitB_splitC]
  show splitC 10 (textB l) = _
  rw [g2, splitC_lines 10 _ (fun y hy => by
    obtain ⟨z, hz, rfl⟩ := List.mem_map.1 hy
    exact g3 z hz)]
  simp
end Go.Proofs.YtohighedgdlflaaGreatDoor

/- What the calls of package wire's Reader that a trace uses come to. -/
namespace Go.Proofs.YtohighedgdlflaaGreatDoor
open Go.RowKit Go.Proofs.YtohighedgdlflaaGreatDoorW.PrintWords Go.Proofs.YtohighedgdlflaaGreatDoor.PR
set_option linter.unusedVariables false
set_option linter.unusedSimpArgs false
/-- Reader at block g: its bytes (a row of its own), how many have been read, nothing wrong. -/
structure Rd (w : World) (base g gb cap : Nat) (bs : List Int) (at_ : Nat) : Prop where
  mk' ::
  base_g : base ≤ g
  base_gb : base ≤ gb
  le : at_ ≤ bs.length
  small : bs.length ≤ 67108864
  cells : w.heap[g]? = some (.cells #[.slice (some ⟨gb, 0, none⟩) bs.length cap, .int .i64 at_, .int .i64 0, .int .i64 0] 126 (0, 0))
  own : w.ownsRow base 5 1 (.slice (some ⟨gb, 0, none⟩) bs.length cap) bs.length (nums .u8 bs)
theorem Rd.cap_le {w : World} {base g gb cap at_ : Nat} {bs : List Int} (h : Rd w base g gb cap bs at_) : bs.length ≤ cap ∧ cap ≤ 9223372036854775807 := by
  rcases h.own.2 with ⟨h, _⟩ | ⟨g', cap', cur, e, _, _, h1, h2, _⟩
  · cases h
  · injection e with _ _ e; subst e; exact ⟨h1, h2⟩
theorem Rd.byte {w : World} {base g gb cap at_ : Nat} {bs : List Int} (h : Rd w base g gb cap bs at_) (i : Nat) (hi : i < bs.length) : w.cell? ⟨gb, i, none⟩ = some (.int .u8 (bs.getD i 0)) := by
  have := (own_at h.own i (by omega) (by omega)).1
  simpa [rd] using this
set_option maxRecDepth 10000 in
set_option maxHeartbeats 400000 in
theorem next_ok (base g gb cap at_ n : Nat) (bs : List Int) (w : World) (hr : Rd w base g gb cap bs at_) (hn : at_ + n ≤ bs.length) (hn0 : 0 < n) :
    Calls Tryz.prog 95 #[.pointer (some ⟨g, 0, none⟩), .int .i64 n] w fun e w' => e = .returned (.slice (some ⟨gb, at_, none⟩) n (cap - at_)) ∧ ∃ m, w' = (w.setCell ⟨g, 1, none⟩ (.int .i64 ((at_ + n : Nat) : Int))).drewN m := by
  have h0 : w.cell? ⟨g, 0, none⟩ = some (.slice (some ⟨gb, 0, none⟩) bs.length cap) := by simp [World.cell?, hr.cells]
  have h1 : w.cell? ⟨g, 1, none⟩ = some (.int .i64 at_) := by simp [World.cell?, hr.cells]
  have h3 : w.cell? ⟨g, 3, none⟩ = some (.int .i64 0) := by simp [World.cell?, hr.cells]
  have hf : w.frozen? ⟨g, 1, none⟩ = false := by simp [World.frozen?, hr.cells]
  have hs := hr.small
  obtain ⟨hc1, hc2⟩ := hr.cap_le
  have h0' : (w.setCell ⟨g, 1, none⟩ (.int .i64 ((at_ : Int) + n))).cell? ⟨g, 0, none⟩ = some (.slice (some ⟨gb, 0, none⟩) bs.length cap) := by rw [World.cell?_setCell_other _ _ _ _ (by simp)]; exact h0
  have h1' : (w.setCell ⟨g, 1, none⟩ (.int .i64 ((at_ : Int) + n))).cell? ⟨g, 1, none⟩ = some (.int .i64 ((at_ : Int) + n)) := World.cell?_setCell_same' _ _ _ (by rw [h1]; rfl)
  have HR := Lib.hid hr
  clear hr
  go_enter Tryz.func95, Tryz.ntmps95
  go_wp2
  go_quiet (fail)
  go_wp2
  go_quiet (fail)
  go_wp2
  refine bodyPost_ret (results_tmp rfl _ _ _) rfl ?_
  rename_i nq1 _
  refine ⟨?_, nq1 + nq, ?_⟩
  · show Ending.returned (.slice _ (at_ + n - at_) _) = _
    rw [Nat.add_sub_cancel_left]
  · rw [Int.natCast_add]; simp [World.setCell, World.drewN, Nat.add_assoc]
/-- What a read leaves. -/
structure Rk (w w' : World) (base g gb cap : Nat) (bs : List Int) (at_ : Nat) : Prop where
  mk' ::
  rd : Rd w' base g gb cap bs at_
  keep : KeepBut w w' g none
  below : ∀ (B : Nat) (w0 : World), B ≤ g → Below B w0 w → Below B w0 w'
theorem Rd.step {w : World} {base g gb cap at_ n m : Nat} {bs : List Int} (h : Rd w base g gb cap bs at_) (hn : at_ + n ≤ bs.length) : Rk w ((w.setCell ⟨g, 1, none⟩ (.int .i64 ((at_ + n : Nat) : Int))).drewN m) base g gb cap bs (at_ + n) := by
  have hne : gb ≠ g := by
    rintro rfl
    rcases h.own.2 with ⟨h, _⟩ | ⟨g', cap', cur, e, _, hh, _⟩
    · cases h
    · injection e with e _ _; injection e with e; injection e with e; subst e
      rw [h.cells] at hh; injection hh with hh; injection hh with _ hh; cases hh
  refine ⟨⟨h.base_g, h.base_gb, hn, h.small, ?_, ?_⟩, ⟨?_, fun i hi hg _ => ?_⟩, fun B w0 hB hb => ?_⟩
  · show ((w.setCell _ _).heap)[g]? = _
    simp [World.setCell, Array.getElem?_modify, h.cells]
  · refine own_move (w := w) h.own (fun k hk => ?_)
    have : gb = k := by simpa [Value.ownBlock] using hk
    subst this
    exact Below.heap_setCell _ _ _ _ hne
  · simp [World.setCell, World.drewN]
  · exact Below.heap_setCell _ _ _ _ hg
  · exact pw_below_drewN (hb.setCell (p := ⟨g, 1, none⟩) hB _) m
end Go.Proofs.YtohighedgdlflaaGreatDoor

/- The law TraceLong of package trace answers true, for every two numbers. -/
import Derived.Laws.BitsLemmas
import Derived.Test.YtohighedgdlflaaGreatDoorLML1
import Derived.Test.YtohighedgdlflaaGreatDoorCards
import Derived.Test.YtohighedgdlflaaGreatDoorTie
import Derived.WalkKit
import Derived.ProofKit
import Derived.OpenShut
import Derived.Deep.DeepHandedRow
import Derived.Lib.LaidTab
import Derived.LaidMore
import Derived.Stop.LaidErr
import Derived.SevenTiedAt
import Derived.Below
import Derived.Carry
import Derived.Deep.QuietTactic
import Derived.BigQuiet
import Derived.Test.YtohighedgdlflaaGreatDoorLPRx2
import Derived.Test.YtohighedgdlflaaGreatDoorLPRx4
/- The CRC-32: by bits, and four bits at a time by a table: the same number. -/
namespace Go.Proofs.YtohighedgdlflaaGreatDoor
set_option linter.unusedVariables false
set_option linter.unusedSimpArgs false
namespace Crc
/-- One bit. -/
def bitN (c : Nat) : Nat := (c / 2) ^^^ (if c % 2 = 1 then 3988292384 else 0)
theorem bitN_xor (a b : Nat) : bitN (a ^^^ b) = bitN a ^^^ bitN b := by
  unfold bitN
  have h1 : (a ^^^ b) / 2 = a / 2 ^^^ b / 2 := Nat.xor_div_two
  have h2 : ((a ^^^ b) % 2 = 1) ↔ ¬ (a % 2 = 1 ↔ b % 2 = 1) := by
    simp
  rw [h1]
  by_cases ha : a % 2 = 1 <;> by_cases hb : b % 2 = 1
  · rw [if_neg (by rw [h2]; simp [ha, hb]), if_pos ha, if_pos hb]
    simp only [Nat.xor_zero]
    rw [Nat.xor_assoc, Nat.xor_comm 3988292384, Nat.xor_assoc, Nat.xor_self, Nat.xor_zero]
  · rw [if_pos (by rw [h2]; simp [ha, hb]), if_pos ha, if_neg hb]
    simp only [Nat.xor_zero]
    rw [Nat.xor_assoc, Nat.xor_assoc, Nat.xor_comm 3988292384]
  · rw [if_pos (by rw [h2]; simp [ha, hb]), if_neg ha, if_pos hb]
    simp only [Nat.xor_zero, Nat.xor_assoc]
  · rw [if_neg (by rw [h2]; simp [ha, hb]), if_neg ha, if_neg hb]
    simp
theorem bitN_even (q : Nat) : bitN (2 * q) = q := by
  unfold bitN
  rw [if_neg (by omega), Nat.xor_zero]; omega
/-- Four bits by the table. -/
def tblN : Nat → Nat
  | 0 => 0 | 1 => 498536548 | 2 => 997073096 | 3 => 651767980 | 4 => 1994146192 | 5 => 1802195444 | 6 => 1303535960 | 7 => 1342533948
  | 8 => 3988292384 | 9 => 4027552580 | 10 => 3604390888 | 11 => 3412177804 | 12 => 2607071920 | 13 => 2262029012 | 14 => 2685067896 | 15 => 3183342108 | _ => 0
theorem tblN_bits : ∀ r, r < 16 → bitN (bitN (bitN (bitN r))) = tblN r := by decide
theorem split16 (s : Nat) : s = (16 * (s / 16)) ^^^ (s % 16) := by
  apply Nat.eq_of_testBit_eq
  intro j
  have h := Nat.testBit_two_pow_mul_add (s / 16) (i := 4) (b := s % 16) (by omega) j
  rw [show 2 ^ 4 * (s / 16) + s % 16 = s by omega] at h
  rw [Nat.testBit_xor, h, show 16 * (s / 16) = 2 ^ 4 * (s / 16) by omega, Nat.testBit_two_pow_mul]
  have h2 : (s % 16).testBit j = (decide (j < 4) && (s % 16).testBit j) := by
    by_cases hj : j < 4
    · simp [hj]
    · have : (s % 16).testBit j = false := Nat.testBit_lt_two_pow (Nat.lt_of_lt_of_le (show s % 16 < 2 ^ 4 by omega) (Nat.pow_le_pow_right (by omega) (by omega)))
      simp [hj, this]
  by_cases hj : j < 4
  · simp [hj, show ¬ 4 ≤ j by omega]
  · rw [h2]; simp [hj, show 4 ≤ j by omega]
theorem nib (s : Nat) : bitN (bitN (bitN (bitN s))) = (s / 16) ^^^ tblN (s % 16) := by
  conv => lhs; rw [split16 s]
  simp only [bitN_xor]
  rw [tblN_bits (s % 16) (by omega)]
  congr 1
  rw [show 16 * (s / 16) = 2 * (2 * (2 * (2 * (s / 16)))) by omega]
  simp only [bitN_even]
theorem bitN_lt {s : Nat} (h : s < 2 ^ 32) : bitN s < 2 ^ 32 := by
  unfold bitN
  refine Nat.xor_lt_two_pow (by omega) ?_
  split <;> decide
/-- One byte. -/
def byteN (s b : Nat) : Nat := bitN (bitN (bitN (bitN (bitN (bitN (bitN (bitN (s ^^^ b))))))))
def stN (xs : List Int) (s : Nat) : Nat := xs.foldl (fun s b => byteN s b.toNat) s
theorem byteN_lt {s b : Nat} (h : s < 2 ^ 32) (hb : b < 256) : byteN s b < 2 ^ 32 := by
  unfold byteN
  have : s ^^^ b < 2 ^ 32 := Nat.xor_lt_two_pow h (by omega)
  exact bitN_lt (bitN_lt (bitN_lt (bitN_lt (bitN_lt (bitN_lt (bitN_lt (bitN_lt this)))))))
/-- The bytes' kind. -/
def Bytes (xs : List Int) : Prop := ∀ x ∈ xs, 0 ≤ x ∧ x < 256
theorem stN_lt : ∀ {xs : List Int} {s : Nat}, Bytes xs → s < 2 ^ 32 → stN xs s < 2 ^ 32
  | [], s, _, h => h
  | x :: xs, s, hx, h => stN_lt (xs := xs) (fun y hy => hx y (List.mem_cons_of_mem _ hy)) (byteN_lt h (by have := hx x List.mem_cons_self; omega))
/-- The sum of some bytes. -/
def crc (xs : List Int) : Int := ((stN xs 4294967295 ^^^ 4294967295 : Nat) : Int)
theorem byteN_nibs (s b : Nat) : byteN s b = (((s ^^^ b) / 16 ^^^ tblN ((s ^^^ b) % 16)) / 16) ^^^ tblN (((s ^^^ b) / 16 ^^^ tblN ((s ^^^ b) % 16)) % 16) := by
  unfold byteN
  rw [nib, nib]
theorem xor_u32 (a b : Nat) (ha : a < 2 ^ 32) (hb : b < 2 ^ 32) : bits .xor .u32 a b = ((a ^^^ b : Nat) : Int) := by
  have ha' : a % 2 ^ IntKind.u32.bits = a := Nat.mod_eq_of_lt (by simpa [IntKind.bits] using ha)
  have hb' : b % 2 ^ IntKind.u32.bits = b := Nat.mod_eq_of_lt (by simpa [IntKind.bits] using hb)
  simp only [bits, BitVec.ofInt_natCast, BitVec.toNat_xor, BitVec.toNat_ofNat, ha', hb']
  rw [IntKind.wrap_u32]
  have := Nat.xor_lt_two_pow ha hb
  omega
theorem and15_u32 (a : Nat) (ha : a < 2 ^ 32) : bits .and .u32 a 15 = ((a % 16 : Nat) : Int) := by
  have := bits_mask .u32 32 (by decide) (fun n h0 h1 => by rw [IntKind.wrap_u32]; omega) 4 (by decide) (a : Int) (by omega) (by exact_mod_cast ha)
  simpa using this
theorem tblN_lt (r : Nat) : tblN r < 2 ^ 32 := by
  unfold tblN
  split <;> decide
theorem stN_append (xs ys : List Int) (s : Nat) : stN (xs ++ ys) s = stN ys (stN xs s) := by simp [stN]
end Crc
end Go.Proofs.YtohighedgdlflaaGreatDoor

/- wire.Sum of one text is the CRC-32 of its bytes. -/
namespace Go.Proofs.YtohighedgdlflaaGreatDoor
open Go.RowKit Go.Proofs.YtohighedgdlflaaGreatDoorW.PrintWords Go.Proofs.YtohighedgdlflaaGreatDoor.PR
set_option linter.unusedVariables false
set_option linter.unusedSimpArgs false
/-- The table of package wire lies in block 0. -/
def WTab (w : World) : Prop := 0 < w.heap.size ∧ ∀ r, r < 16 → w.cell? ⟨0, r, none⟩ = some (.int .u32 (Crc.tblN r : Nat))
theorem WTab.below {w W : World} (h : WTab w) (hb : Below w.heap.size w W) : WTab W :=
  ⟨Nat.lt_of_lt_of_le h.1 hb.size, fun r hr => (hb.cell (p := ⟨0, r, none⟩) h.1).trans (h.2 r hr)⟩
set_option maxHeartbeats 400000 in
theorem sum_ok (xs : List Int) (A : Option Addr) (c pb pc : Nat) (w : World) (hT : WTab w) (hp : w.cell? ⟨pb, 0, none⟩ = some (.slice A xs.length c)) (hR : Kd.C (Kd.int .u8) w A xs.length xs) (hx : Crc.Bytes xs) :
    Calls Tryz.prog 45 #[.slice (some ⟨pb, 0, none⟩) 1 pc] w fun e w' => e = .returned (.int .u32 (Crc.crc xs)) ∧ w = w' := by
  have HT := Lib.hid hT
  have HR := Lib.hid (C_reads hR)
  have HX := Lib.hid hx
  have hm : xs.length ≤ 9223372036854775807 := HR.out.2.1
  clear hT hR hx
  go_enter Tryz.func45, Tryz.ntmps45
  go_wp2
  refine wp_loop_rounds 2 ?_
  rw [rounds_succ]
  go_wp2
  go_loop [3, 7, 16] (fun v3 v7 v16 => ∃ (k s : Nat), k ≤ xs.length ∧ v16 = .int .i64 k ∧ v3 = .int .u32 s ∧ Hid (s = Crc.stN (xs.take k) 4294967295)) (fun _ _ i => xs.length - (intOf i).toNat)
  case atStart => exact ⟨0, 4294967295, by omega, rfl, rfl, rfl⟩
  case round =>
    obtain ⟨k, s, hk, rfl, rfl, hs⟩ := hrel
    have hsl : s < 4294967296 := by
      rw [hs.out]
      exact Crc.stN_lt (fun x hx => HX.out x (List.mem_of_mem_take hx)) (by decide)
    by_cases hlt : k < xs.length
    · obtain ⟨b, hb0, hb⟩ : ∃ b : Nat, b < 256 ∧ Hid ((b : Int) = xs.getD k 0) := by
        have h := HX.out (xs.getD k 0) (by rw [List.getD_eq_getElem?_getD, List.getElem?_eq_getElem hlt]; exact List.getElem_mem hlt)
        exact ⟨(xs.getD k 0).toNat, by omega, by show (((xs.getD k 0).toNat : Nat) : Int) = _; omega⟩
      obtain ⟨ad, rfl, hcs⟩ := HR.out.2.2 (by omega)
      have hc0 : w.cell? (ad.add k) = some (.int .u8 b) := by rw [hb.out]; exact hcs k hlt
      clear hcs
      obtain ⟨s1, hs1⟩ : ∃ s1, s1 = s ^^^ b := ⟨_, rfl⟩
      have l1 : s1 < 2 ^ 32 := by rw [hs1]; exact Nat.xor_lt_two_pow hsl (by omega)
      have e1 : bits .xor .u32 (s : Int) (b : Int) = s1 := by rw [hs1]; exact Crc.xor_u32 s b hsl (by omega)
      obtain ⟨r1, hr1⟩ : ∃ r1, r1 = s1 % 16 := ⟨_, rfl⟩
      have e2 : bits .and .u32 (s1 : Int) 15 = r1 := by rw [hr1]; exact Crc.and15_u32 s1 l1
      have lr1 : r1 < 16 := by omega
      obtain ⟨t1, ht1⟩ : ∃ t1, t1 = Crc.tblN r1 := ⟨_, rfl⟩
      have c1 : w.cell? ⟨0, r1, none⟩ = some (.int .u32 t1) := by rw [ht1]; exact HT.out.2 r1 lr1
      obtain ⟨s2, hs2⟩ : ∃ s2, s2 = (s1 / 16) ^^^ t1 := ⟨_, rfl⟩
      have l2 : s2 < 2 ^ 32 := by rw [hs2, ht1]; exact Nat.xor_lt_two_pow (by omega) (Crc.tblN_lt _)
      have e3 : bits .xor .u32 ((s1 : Int) / 16) (t1 : Int) = s2 := by
        have := Crc.xor_u32 (s1 / 16) t1 (by omega) (by rw [ht1]; exact Crc.tblN_lt _)
        rw [hs2, ← this]; simp
      obtain ⟨r2, hr2⟩ : ∃ r2, r2 = s2 % 16 := ⟨_, rfl⟩
      have e4 : bits .and .u32 (s2 : Int) 15 = r2 := by rw [hr2]; exact Crc.and15_u32 s2 l2
      have lr2 : r2 < 16 := by omega
      obtain ⟨t2, ht2⟩ : ∃ t2, t2 = Crc.tblN r2 := ⟨_, rfl⟩
      have c2 : w.cell? ⟨0, r2, none⟩ = some (.int .u32 t2) := by rw [ht2]; exact HT.out.2 r2 lr2
      obtain ⟨s3, hs3⟩ : ∃ s3, s3 = (s2 / 16) ^^^ t2 := ⟨_, rfl⟩
      have e5 : bits .xor .u32 ((s2 : Int) / 16) (t2 : Int) = s3 := by
        have := Crc.xor_u32 (s2 / 16) t2 (by omega) (by rw [ht2]; exact Crc.tblN_lt _)
        rw [hs3, ← this]; simp
      have hfin : Hid (s3 = Crc.stN (xs.take (k + 1)) 4294967295) := by
        show s3 = _
        rw [List.take_succ_eq_append_getElem hlt, Crc.stN_append, ← hs.out]
        have hbb : xs[k].toNat = b := by
          have := hb.out
          rw [List.getD_eq_getElem?_getD, List.getElem?_eq_getElem hlt] at this
          simp at this; omega
        simp only [Crc.stN, List.foldl_cons, List.foldl_nil, hbb]
        rw [Crc.byteN_nibs, hs3, ht2, hr2, hs2, ht1, hr1, hs1]
      clear hs1 hr1 ht1 hs2 hr2 ht2 hs3 l1 l2
      go_wp2
      go_round
      case rel => exact ⟨k + 1, s3, by omega, by go_num, rfl, hfin⟩
      case measure => simp [intOf]; omega
    · obtain rfl : k = xs.length := by omega
      have e6 : bits .xor .u32 IntKind.u32.max (s : Int) = Crc.crc xs := by
        have := Crc.xor_u32 4294967295 s (by decide) hsl
        rw [show (IntKind.u32.max : Int) = ((4294967295 : Nat) : Int) by decide, this, Nat.xor_comm]
        unfold Crc.crc
        rw [hs.out, List.take_of_length_le (Nat.le_refl _)]
      go_wp2
      rw [rounds_succ]
      go_wp2
      go_ret
      exact ⟨rfl, rfl⟩
theorem sum_okn (xs : List Int) (n : Nat) (hn : xs.length = n) (A : Option Addr) (c pb pc : Nat) (w : World) (hT : WTab w) (hp : w.cell? ⟨pb, 0, none⟩ = some (.slice A n c)) (hR : Kd.C (Kd.int .u8) w A n xs) (hx : Crc.Bytes xs) :
    Calls Tryz.prog 45 #[.slice (some ⟨pb, 0, none⟩) 1 pc] w fun e w' => e = .returned (.int .u32 (Crc.crc xs)) ∧ w = w' := by
  subst hn
  exact sum_ok xs A c pb pc w hT hp hR hx
end Go.Proofs.YtohighedgdlflaaGreatDoor

/- What the rows' lists give the laws of package trace, and a world for the witness. -/
set_option maxRecDepth 100000
namespace Go.Proofs.YtohighedgdlflaaGreatDoor
open Go.ChangeShapes Go.WideShapes Go.ChangeAt Go.RowKit
set_option linter.unusedVariables false
namespace base
theorem own : ownKnob Tryz.prog.godebug = none := by kernel_rfl
theorem gPow : Tryz.prog.globalNamed "internal/strconv.uint64pow10" = some 1 := by kernel_rfl
theorem maxLen_cell {W : World} (h : W.ShapedOpen Tryz.prog) : ∃ m, W.cell? ⟨2, 0, none⟩ = some (.int .i64 m) := by
  obtain ⟨cs, hc, hs, hr⟩ := h.1 2 #[.int .i64 0] 3 (of_decide_eq_true (by kernel_rfl)) (by kernel_rfl)
  obtain ⟨ts, hts, _, hcell⟩ := hr (by kernel_rfl)
  have e : Tryz.prog.cellTypes Tryz.prog.depth 3 = some [3] := by kernel_rfl
  obtain rfl : [3] = ts := Option.some.inj (e.symm.trans hts)
  have h0 : 0 < cs.size := by rw [hs]; decide
  obtain ⟨u, hu, hk⟩ := hcell 0 cs[0] (Array.getElem?_eq_getElem h0)
  obtain rfl : 3 = u := Option.some.inj hu
  unfold Cell.ok at hk
  rw [Tryz.underlying3] at hk
  have hci : W.cell? ⟨2, 0, none⟩ = cs[0]? := by simp only [World.cell?, hc]; rfl
  rw [hci, Array.getElem?_eq_getElem h0]
  cases hv : cs[0] <;> rw [hv] at hk <;> simp at hk
  obtain ⟨rfl, _⟩ := hk
  exact ⟨_, rfl⟩
theorem gPowType : (Tryz.prog.globals[1]?).map (·.type) = some 174 := by kernel_rfl
theorem powCells : Tryz.prog.cellsOf 174 = 20 := by kernel_rfl
theorem cells32 : Tryz.prog.cellsOf 32 = 1 := by kernel_rfl
theorem cells31 : Tryz.prog.cellsOf 31 = 1 := by kernel_rfl
/-- The table of powers, out of the row's list. -/
theorem pow_of {rest : List (String × DataW Unit)} {W : World} (h : laidMet Tryz.prog (("internal/strconv.uint64pow10", Rows.laid_internal_strconv_uint64pow10) :: rest) W) : PTab W :=
  Lib.tabIs_of_head (rest := rest) gPow gPowType Tryz.underlying174 Tryz.underlying32 cells32 powCells h
theorem gWire : Tryz.prog.globalNamed "cloister/wire.table" = some 0 := by kernel_rfl
theorem gWireType : (Tryz.prog.globals[0]?).map (·.type) = some 130 := by kernel_rfl
theorem wireCells : Tryz.prog.cellsOf 130 = 16 := by kernel_rfl
def wireZ : List Int := [0, 498536548, 997073096, 651767980, 1994146192, 1802195444, 1303535960, 1342533948, 3988292384, 4027552580, 3604390888, 3412177804, 2607071920, 2262029012, 2685067896, 3183342108]
theorem wire_of {rest : List (String × DataW Unit)} {W : World} (h : laidMet Tryz.prog (("cloister/wire.table", Rows.laid_cloister_wire_table) :: rest) W) : WTab W := by
  have ht : Lib.TabIs Tryz.prog W "cloister/wire.table" .u32 wireZ := Lib.tabIs_of_head (rest := rest) gWire gWireType Tryz.underlying130 Tryz.underlying31 cells31 wireCells h
  have hc : ∀ r, r < 16 → W.cell? ⟨0, r, none⟩ = some (.int .u32 (Crc.tblN r : Nat)) := by
    intro r hr
    rw [ht.cell gWire r hr]
    have e : ∀ r, r < 16 → wireZ.getD r 0 = ((Crc.tblN r : Nat) : Int) := by decide
    rw [e r hr]
  exact ⟨World.block_lt_of_cell? _ _ (hc 0 (by decide)), hc⟩
/-- A world for the witness: what the door's own run lays, and Go's pinned table. -/
noncomputable def W0 (os : Os) : World :=
  { World.doorLaid Tryz.prog 4000 os with heap := (World.doorLaid Tryz.prog 4000 os).heap.modify 7 fun
      | .cells _ t fz => .cells ((Pinned.utf8FirstZ.map fun (z : Nat) => Value.int .u8 (z : Int)).toArray) t fz
      | o => o }
end base
end Go.Proofs.YtohighedgdlflaaGreatDoor

/- trace.hex writes eight hexadecimal digits. -/
namespace Go.Proofs.YtohighedgdlflaaGreatDoor
open Go.Shelf Go.RowKit Go.Sort Go.Lib Go.Proofs.YtohighedgdlflaaGreatDoorW.PrintWords Go.Proofs.YtohighedgdlflaaGreatDoor.PR
set_option linter.unusedVariables false
set_option linter.unusedSimpArgs false
/-- A hexadecimal digit. -/
def hexDig (d : Nat) : UInt8 := #[48, 49, 50, 51, 52, 53, 54, 55, 56, 57, 97, 98, 99, 100, 101, 102].getD d 0
def hexAt (n j : Nat) : UInt8 := hexDig (n / 16 ^ (7 - j) % 16)
def hexL (n : Nat) : List UInt8 := (List.range 8).map (hexAt n)
def hexS (n : Nat) : ByteArray := ⟨(hexL n).toArray⟩
set_option maxHeartbeats 1600000 in
set_option maxRecDepth 100000 in
theorem hex_ok (n : Nat) (hn : n < 4294967296) (w : World) :
    Calls Tryz.prog 36 #[.int .u32 n] w fun e w' => e = .returned (.string (hexS n)) ∧ Below w.heap.size w w' := by
  have hmk : ∀ W : World, (Instr.makeSlice 37 (.int .i64 8) (.int .i64 8)).run Tryz.prog W = .ok (.slice (some ⟨W.heap.size, 0, none⟩) 8 8) (W.alloc (.cells (Array.replicate 8 (.int .u8 0)) 5)) := fun W => by
    obtain ⟨i0, hi, hzz⟩ := Option.map_eq_some_iff.1 info5
    simp only [Prod.mk.injEq] at hzz
    obtain ⟨hz0, hz1, hz2⟩ := hzz
    have h := run_make (P := Tryz.prog) (w := W) 37 5 i0 (.int .u8 0) Tryz.underlying37 hi hz0 .i64 .i64 8 8 (by omega) (by omega) (by rw [hz2]; omega) (by omega)
    rw [h, hz1]
    rw [show madeCells (Value.int IntKind.u8 0).cells (Int.toNat 8 * 1) = Array.replicate 8 (Value.int IntKind.u8 0) from by kernel_rfl]
    rfl
  go_enter Tryz.func36, Tryz.ntmps36
  go_wp2_with fail
  go_loopw [4, 8] (fun v4 v8 wr => ∃ k : Nat, k ≤ 8 ∧ v8 = .int .i64 k ∧ Hid (Below w.heap.size w wr) ∧ Hid (∀ j < 8, wr.cell? ⟨w.heap.size, j, none⟩ = some (.int .u8 (if j < k then (hexAt n j).toNat else 0)) ∧ wr.frozen? ⟨w.heap.size, j, none⟩ = false)) (fun _ i _ => 8 - (RowKit.intOf i).toNat)
  case atStart =>
    refine ⟨0, by omega, rfl, below_alloc (Below.refl _ _) _, ?_⟩
    intro j hj
    refine ⟨?_, World.frozen?_alloc_new _ _ _ _⟩
    rw [World.cell?_alloc_new, Array.getElem?_replicate, if_pos hj, if_neg (by omega)]
  case round =>
    obtain ⟨k, hk, rfl, HB, HC⟩ := hrel
    by_cases hlt : k < 8
    · have hlt' : (k : Int) < 8 := by omega
      obtain ⟨hc, hf⟩ := HC.out k hlt
      obtain ⟨d, hd⟩ : ∃ d, d = n / 16 ^ (7 - k) % 16 := ⟨_, rfl⟩
      have hd16 : d < 16 := by omega
      have hand : bits .and .u32 ((n : Int) / 2 ^ (28 - 4 * k)) 15 = (d : Int) := by
        rw [show (n : Int) / 2 ^ (28 - 4 * k) = ((n / 2 ^ (28 - 4 * k) : Nat) : Int) from by norm_cast, Crc.and15_u32 _ (by have := Nat.div_le_self n (2 ^ (28 - 4 * k)); omega), hd]
        rw [show 28 - 4 * k = 4 * (7 - k) by omega, Nat.pow_mul]
      have Hd := Lib.hid hd
      clear hd
      go_wp2_with fail
      go_roundw
      case rel =>
        refine ⟨k + 1, by omega, by go_num, HB.out.setCell (Nat.le_refl _) _, ?_⟩
        intro j hj
        have hcell : hexAt n k = (#[48, 49, 50, 51, 52, 53, 54, 55, 56, 57, 97, 98, 99, 100, 101, 102] : Array UInt8)[d] := by
          unfold hexAt hexDig
          rw [← Hd.out]
          simp [Array.getD, hd16]
        obtain ⟨hcj, hfj⟩ := HC.out j hj
        refine ⟨?_, by rw [World.frozen?_setCell]; exact hfj⟩
        by_cases hjk : j = k
        · subst hjk
          rw [World.cell?_setCell_same _ _ _ hc, if_pos (by omega), hcell]
          rfl
        · rw [World.cell?_setCell_other _ _ _ _ (by simp [hjk]), hcj]
          have : (j < k + 1) ↔ j < k := by omega
          simp [this]
      case measure => simp [RowKit.intOf]; omega
    · obtain rfl : k = 8 := by omega
      have hcv : (convert 37 9 (.slice (some ⟨w.heap.size, 0, none⟩) 8 8)).run Tryz.prog wr = .ok (.string (hexS n)) wr := by
        have h := run_convert_bytes_back (P := Tryz.prog) wr 37 9 5 ⟨w.heap.size, 0, none⟩ 8 (hexL n) Tryz.underlying37 Tryz.underlying5 Tryz.underlying9 (fun j hj => by
          have hj8 : j < 8 := by simpa [hexL] using hj
          rw [Lib.add_plain, Nat.zero_add, (HC.out j hj8).1, if_pos hj8]
          simp [hexL])
        rw [show (hexL n).length = 8 from by simp [hexL]] at h
        exact h
      go_wp2_with fail
      go_ret
      exact ⟨rfl, HB.out⟩
end Go.Proofs.YtohighedgdlflaaGreatDoor

/- trace.forms: the table, as it lies in memory; what its write functions write. -/
namespace Go.Proofs.YtohighedgdlflaaGreatDoor
open Go.Shelf Go.RowKit Go.Sort Go.Lib Go.Proofs.YtohighedgdlflaaGreatDoorW.PrintWords Go.Proofs.YtohighedgdlflaaGreatDoor.PR
set_option linter.unusedVariables false
set_option linter.unusedSimpArgs false
/-- The names of the faults, as trace.faults lays them. -/
def faultS : List ByteArray := [⟨#[]⟩, ⟨#[97, 108, 105, 103, 110]⟩, ⟨#[111, 117, 116, 115, 105, 100, 101]⟩, ⟨#[117, 110, 109, 97, 112, 112, 101, 100]⟩, ⟨#[109, 97, 108, 102, 111, 114, 109, 101, 100]⟩, ⟨#[100, 101, 110, 105, 101, 100]⟩, ⟨#[105, 108, 108, 101, 103, 97, 108]⟩]
def kindS : List ByteArray := [⟨#[]⟩, ⟨#[108, 111, 97, 100]⟩, ⟨#[99, 97, 108, 108]⟩, ⟨#[102, 97, 117, 108, 116]⟩, ⟨#[105, 114, 113]⟩, ⟨#[99, 108, 111, 99, 107]⟩, ⟨#[104, 97, 108, 116]⟩, ⟨#[115, 97, 121]⟩]
def faultCells : Array Value := #[.string ⟨#[]⟩, .string ⟨#[97, 108, 105, 103, 110]⟩, .string ⟨#[111, 117, 116, 115, 105, 100, 101]⟩, .string ⟨#[117, 110, 109, 97, 112, 112, 101, 100]⟩, .string ⟨#[109, 97, 108, 102, 111, 114, 109, 101, 100]⟩, .string ⟨#[100, 101, 110, 105, 101, 100]⟩, .string ⟨#[105, 108, 108, 101, 103, 97, 108]⟩]
def formCells (p : Nat) : Array Value :=
  #[.string ⟨#[]⟩, .nilFunc, .int .i64 0, .nilFunc,
    .string ⟨#[108, 111, 97, 100]⟩, .func (.func 70) #[] #[], .int .i64 2, .func (.func 71) #[] #[],
    .string ⟨#[99, 97, 108, 108]⟩, .func (.func 70) #[] #[], .int .i64 2, .func (.func 71) #[] #[],
    .string ⟨#[102, 97, 117, 108, 116]⟩, .func (.func 72) #[] #[.pointer (some ⟨p, 0, none⟩)], .int .i64 2, .func (.func 73) #[] #[.pointer (some ⟨p, 0, none⟩)],
    .string ⟨#[105, 114, 113]⟩, .func (.func 77) #[] #[], .int .i64 1, .func (.func 78) #[] #[],
    .string ⟨#[99, 108, 111, 99, 107]⟩, .func (.func 80) #[] #[], .int .i64 1, .func (.func 81) #[] #[],
    .string ⟨#[104, 97, 108, 116]⟩, .func (.func 82) #[] #[], .int .i64 0, .func (.func 83) #[] #[],
    .string ⟨#[115, 97, 121]⟩, .func (.func 84) #[] #[], .int .i64 1, .func (.func 85) #[] #[]]
/-- The table lies in the three blocks from n on. -/
structure Frm (w : World) (n : Nat) : Prop where
  names : w.heap[n]? = some (.cells faultCells 9 (0, 0))
  ptr : w.heap[n + 1]? = some (.cells #[.slice (some ⟨n, 0, none⟩) 7 7] 78 (0, 0))
  tab : w.heap[n + 2]? = some (.cells (formCells (n + 1)) 74 (0, 0))
theorem heap_lt' {w : World} {n : Nat} {o : Obj} (h : w.heap[n]? = some o) : n < w.heap.size := by
  rcases Nat.lt_or_ge n w.heap.size with h' | h'
  · exact h'
  · rw [Array.getElem?_eq_none h'] at h; simp at h
theorem Frm.lt {w : World} {n : Nat} (h : Frm w n) : n + 2 < w.heap.size := heap_lt' h.tab
theorem Frm.below {w w' : World} {n : Nat} (h : Frm w n) (hb : Below w.heap.size w w') : Frm w' n := by
  have := h.lt
  exact ⟨by rw [hb.block _ (by omega)]; exact h.names, by rw [hb.block _ (by omega)]; exact h.ptr, by rw [hb.block _ (by omega)]; exact h.tab⟩
theorem Frm.others {w w' : World} {n b : Nat} (h : Frm w n) (hb : OthersKept 5 (some b) w w') (hn : b < n) : Frm w' n :=
  ⟨hb _ _ h.names (by simp; omega) (fun c fz => by simp), hb _ _ h.ptr (by simp; omega) (fun c fz => by simp), hb _ _ h.tab (by simp; omega) (fun c fz => by simp)⟩
theorem faults_ok (w : World) :
    Calls Tryz.prog 69 #[] w fun e w' => e = .returned (.slice (some ⟨w.heap.size, 0, none⟩) 7 7) ∧ w' = w.alloc (.cells faultCells 9) := by
  go_enter Tryz.func69, Tryz.ntmps69
  go_wp2_with fail
  go_ret
  exact ⟨rfl, rfl⟩
theorem forms_ok (w : World) :
    Calls Tryz.prog 32 #[] w fun e w' => e = .returned (.slice (some ⟨w.heap.size + 2, 0, none⟩) 8 8) ∧ Frm w' w.heap.size ∧ Below w.heap.size w w' := by
  go_enter Tryz.func32, Tryz.ntmps32
  go_wp2_with fail
  refine (faults_ok _).mono ?_
  rintro e w' ⟨rfl, rfl⟩
  go_wp2_with fail
  go_ret
  refine ⟨rfl, ⟨blk_alloc (blk_alloc (blk_new _ _) _) _, ?_, ?_⟩, ?_⟩
  · refine blk_alloc ?_ _
    have := blk_new (w.alloc (.cells faultCells 9)) (.cells #[.slice (some ⟨w.heap.size, 0, none⟩) 7 7] 78 (0, 0))
    rwa [World.size_alloc] at this
  · have := blk_new ((w.alloc (.cells faultCells 9)).alloc (.cells #[.slice (some ⟨w.heap.size, 0, none⟩) 7 7] 78 (0, 0))) (.cells (formCells (w.heap.size + 1)) 74 (0, 0))
    rwa [World.size_alloc, World.size_alloc] at this
  · exact below_alloc (below_alloc (below_alloc (Below.refl _ _) _) _) _
/-- What a write function hands back. -/
def WrR (w : World) (xs : List ByteArray) (e : Ending) (w' : World) : Prop :=
  ∃ v, e = .returned v ∧ Kd.string.R 9 w' w.heap.size (fun _ => True) v xs ∧ Below w.heap.size w w'
theorem WrR.mk' {w W : World} (xs : List ByteArray) (hb : Below w.heap.size w W) {n : Nat} (hn : n = xs.length) (hm : xs.length ≤ 9223372036854775807) {cs : Array Value} (hcs : cs = (xs.map Value.string).toArray) :
    WrR w xs (.returned (.slice (some ⟨W.heap.size, 0, none⟩) n n)) (W.alloc (.cells cs 9)) := by
  subst hn hcs
  refine ⟨_, rfl, ?_, hb.alloc hb.size _⟩
  refine Kd.R_of_own (enc := Value.string) (h1 := fun _ => rfl) ?_ (fun _ _ => trivial)
  have h2 := World.ownsRow_lit (base := w.heap.size) (e := 9) (size := 1) W (xs.map Value.string).toArray xs.length hb.size (by simpa [maxLen] using hm) (by simp)
  simpa [encs] using h2
end Go.Proofs.YtohighedgdlflaaGreatDoor

/- trace.forms: the table, as it lies in memory; what its write functions write. -/
namespace Go.Proofs.YtohighedgdlflaaGreatDoor
open Go.Shelf Go.RowKit Go.Sort Go.Lib Go.Proofs.YtohighedgdlflaaGreatDoorW.PrintWords Go.Proofs.YtohighedgdlflaaGreatDoor.PR
set_option linter.unusedVariables false
set_option linter.unusedSimpArgs false
set_option maxRecDepth 100000 in
set_option maxHeartbeats 1000000 in
theorem w70_ok (x0 x1 x2 x3 : Int) (a b : Nat) (ha : a < 4294967296) (hb : b < 4294967296) (w : World) :
    Calls Tryz.prog 70 #[.agg #[.int .u64 x0, .int .i64 x1, .int .i64 x2, .int .u32 x3, .int .u32 a, .int .u32 b]] w (WrR w [hexS a, hexS b]) := by
  go_enter Tryz.func70, Tryz.ntmps70
  go_wp2_with fail
  have hbl : Hid (Below w.heap.size w (w.alloc (.cells #[.int .u64 x0, .int .i64 x1, .int .i64 x2, .int .u32 x3, .int .u32 a, .int .u32 b] 35))) := below_alloc (Below.refl _ _) _
  go_region_with (first
    | (go_at_call 36; with_reducible refine (hex_ok a ha _).mono ?_; rintro e w5 ⟨rfl, hb5⟩; have HB5 := Lib.hid ((below_drew hbl.out).trans (hb5.mono (by simp))); have hc5 : w5.cell? ⟨w.heap.size, 5, none⟩ = some (.int .u32 b) := cell_later hb5 (by simp [World.cell?_alloc_new]); clear hb5)
    | (go_at_call 36; with_reducible refine (hex_ok b hb _).mono ?_; rintro e w6 ⟨rfl, hb6⟩; have HB6 := Lib.hid (HB5.out.trans (hb6.mono HB5.out.size)); clear hb6))
  all_goals
    go_wp2_with fail
    go_ret
    exact WrR.mk' _ HB6.out rfl (by simp) rfl
end Go.Proofs.YtohighedgdlflaaGreatDoor

/- trace.forms: the table, as it lies in memory; what its write functions write. -/
namespace Go.Proofs.YtohighedgdlflaaGreatDoor
open Go.Shelf Go.RowKit Go.Sort Go.Lib Go.Proofs.YtohighedgdlflaaGreatDoorW.PrintWords Go.Proofs.YtohighedgdlflaaGreatDoor.PR
set_option linter.unusedVariables false
set_option linter.unusedSimpArgs false
set_option maxRecDepth 100000 in
set_option maxHeartbeats 1000000 in
theorem w72_ok (x0 x1 x2 x3 : Int) (a b n : Nat) (ha1 : a < 7) (hb : b < 4294967296) (w : World) (hF : Frm w n) :
    Calls Tryz.prog 72 #[.agg #[.int .u64 x0, .int .i64 x1, .int .i64 x2, .int .u32 x3, .int .u32 a, .int .u32 b], .pointer (some ⟨n + 1, 0, none⟩)] w (WrR w [faultS.getD a ByteArray.empty, hexS b]) := by
  obtain ⟨s, hs⟩ : ∃ s, s = faultS.getD a ByteArray.empty := ⟨_, rfl⟩
  rw [← hs]
  have hcell : Hid (∀ W, Below (w.heap.size + 1) (w.alloc (.cells #[.int .u64 x0, .int .i64 x1, .int .i64 x2, .int .u32 x3, .int .u32 a, .int .u32 b] 35)) W → W.cell? ⟨n + 1, 0, none⟩ = some (.slice (some ⟨n, 0, none⟩) 7 7) ∧ W.cell? ⟨n, a, none⟩ = some (.string s) ∧ W.cell? ⟨w.heap.size, 4, none⟩ = some (.int .u32 a) ∧ W.cell? ⟨w.heap.size, 5, none⟩ = some (.int .u32 b)) := by
    intro W hW
    have := hF.lt
    refine ⟨?_, ?_, ?_, ?_⟩
    · rw [hW.cell (by simp; omega), (below_alloc (Below.refl w.heap.size w) _).cell (by simp; omega)]; simp [World.cell?, hF.ptr]
    · rw [hW.cell (by simp; omega), (below_alloc (Below.refl w.heap.size w) _).cell (by simp; omega), hs]
      simp only [World.cell?, hF.names]
      rcases (show a = 0 ∨ a = 1 ∨ a = 2 ∨ a = 3 ∨ a = 4 ∨ a = 5 ∨ a = 6 by omega) with h | h | h | h | h | h | h <;> subst h <;> rfl
    · rw [hW.cell (by simp)]; simp [World.cell?_alloc_new]
    · rw [hW.cell (by simp)]; simp [World.cell?_alloc_new]
  have ha2 : (0 : Int) ≤ a ∧ (a : Int) < 7 := by omega
  clear hs hF
  go_enter Tryz.func72, Tryz.ntmps72
  go_wp2_with fail
  have hbl : Hid (Below w.heap.size w (w.alloc (.cells #[.int .u64 x0, .int .i64 x1, .int .i64 x2, .int .u32 x3, .int .u32 a, .int .u32 b] 35))) := below_alloc (Below.refl _ _) _
  obtain ⟨c1, c2, c3, c4⟩ := hcell.out _ (Below.refl _ _)
  obtain ⟨c1', c2', c3', c4'⟩ := hcell.out _ (below_drew (Below.refl _ _))
  go_region_with (go_at_call 36; with_reducible refine (hex_ok b hb _).mono ?_; rintro e w5 ⟨rfl, hb5⟩; have HB5 := Lib.hid ((below_drew hbl.out).trans (hb5.mono (by simp))); obtain ⟨d1, d2, d3, d4⟩ := hcell.out _ ((below_drew (Below.refl _ _)).trans (hb5.mono (by simp))); clear hb5)
  all_goals
    go_wp2_with fail
    go_ret
    exact WrR.mk' _ HB5.out rfl (by simp) rfl
end Go.Proofs.YtohighedgdlflaaGreatDoor

/- trace.forms: the table, as it lies in memory; what its write functions write. -/
namespace Go.Proofs.YtohighedgdlflaaGreatDoor
open Go.Shelf Go.RowKit Go.Sort Go.Lib Go.Proofs.YtohighedgdlflaaGreatDoorW.PrintWords Go.Proofs.YtohighedgdlflaaGreatDoor.PR
set_option linter.unusedVariables false
set_option linter.unusedSimpArgs false
theorem WrR.mk2 {w W : World} (xs : List ByteArray) (hb : Below w.heap.size w W) {n g : Nat} (hg : g = W.heap.size) (hn : n = xs.length) (hm : xs.length ≤ 9223372036854775807) {cs : Array Value} (hcs : cs = (xs.map Value.string).toArray) :
    WrR w xs (.returned (.slice (some ⟨g, 0, none⟩) n n)) (W.alloc (.cells cs 9)) := by subst hg; exact WrR.mk' xs hb hn hm hcs
theorem hexS_size (n : Nat) : (hexS n).size = 8 := by simp [hexS, hexL, ByteArray.size]
set_option maxRecDepth 100000 in
set_option maxHeartbeats 1000000 in
theorem w77_ok (x0 x1 x2 x3 : Int) (a b : Nat) (ha : a < 100) (w : World) :
    Calls Tryz.prog 77 #[.agg #[.int .u64 x0, .int .i64 x1, .int .i64 x2, .int .u32 x3, .int .u32 a, .int .u32 b]] w (WrR w [⟨(Lib.decDigits a).toArray⟩]) := by
  go_enter Tryz.func77, Tryz.ntmps77
  go_wp2_with fail
  have hbl : Hid (Below w.heap.size w (w.alloc (.cells #[.int .u64 x0, .int .i64 x1, .int .i64 x2, .int .u32 x3, .int .u32 a, .int .u32 b] 35))) := below_alloc (Below.refl _ _) _
  refine (Tryz.strconv_Itoa_small a ha _).mono ?_
  rintro e w1 ⟨rfl, rfl⟩
  go_wp2_with fail
  go_ret
  refine WrR.mk2 _ hbl.out (by simp) rfl ?_ rfl; simp
set_option maxRecDepth 100000 in
set_option maxHeartbeats 1000000 in
theorem w82_ok (x0 x1 x2 x3 : Int) (a b : Nat) (w : World) :
    Calls Tryz.prog 82 #[.agg #[.int .u64 x0, .int .i64 x1, .int .i64 x2, .int .u32 x3, .int .u32 a, .int .u32 b]] w (WrR w []) := by
  go_enter Tryz.func82, Tryz.ntmps82
  go_wp2_with fail
  have hbl : Hid (Below w.heap.size w (w.alloc (.cells #[.int .u64 x0, .int .i64 x1, .int .i64 x2, .int .u32 x3, .int .u32 a, .int .u32 b] 35))) := below_alloc (Below.refl _ _) _
  go_ret
  exact ⟨_, rfl, Kd.R_nil _ _ _ _ _, hbl.out⟩
set_option maxRecDepth 100000 in
set_option maxHeartbeats 1000000 in
theorem w84_ok (x0 x1 x2 x3 : Int) (a b : Nat) (ha : a < 4294967296) (w : World) :
    Calls Tryz.prog 84 #[.agg #[.int .u64 x0, .int .i64 x1, .int .i64 x2, .int .u32 x3, .int .u32 a, .int .u32 b]] w (WrR w [hexS a]) := by
  go_enter Tryz.func84, Tryz.ntmps84
  go_wp2_with fail
  have hbl : Hid (Below w.heap.size w (w.alloc (.cells #[.int .u64 x0, .int .i64 x1, .int .i64 x2, .int .u32 x3, .int .u32 a, .int .u32 b] 35))) := below_alloc (Below.refl _ _) _
  refine (hex_ok a ha _).mono ?_
  rintro e w1 ⟨rfl, hb⟩
  have HB := Lib.hid (hbl.out.trans (hb.mono hbl.out.size))
  clear hb
  go_wp2_with fail
  go_ret
  refine WrR.mk2 _ HB.out (by simp) rfl ?_ rfl; simp
set_option maxRecDepth 100000 in
set_option maxHeartbeats 1000000 in
theorem w80_ok (x0 x1 x2 x3 : Int) (a b : Nat) (ha : a < 4294967296) (hb : b < 4294967296) (w : World) :
    Calls Tryz.prog 80 #[.agg #[.int .u64 x0, .int .i64 x1, .int .i64 x2, .int .u32 x3, .int .u32 a, .int .u32 b]] w (WrR w [hexS b ++ hexS a]) := by
  go_enter Tryz.func80, Tryz.ntmps80
  go_wp2_with fail
  have hbl : Hid (Below w.heap.size w (w.alloc (.cells #[.int .u64 x0, .int .i64 x1, .int .i64 x2, .int .u32 x3, .int .u32 a, .int .u32 b] 35))) := below_alloc (Below.refl _ _) _
  have hadd : ∀ W : World, (Op.stringOp .add (hexS b) (hexS a)).run Tryz.prog W = .ok (.string (hexS b ++ hexS a)) W := fun W => run_string_add_sum W _ _ (by rw [hexS_size, hexS_size]; omega)
  go_region_with (first
    | (go_at_call 36; with_reducible refine (hex_ok b hb _).mono ?_; rintro e w5 ⟨rfl, hb5⟩; have HB5 := Lib.hid ((below_drew hbl.out).trans (hb5.mono (by simp))); have hc5 : w5.cell? ⟨w.heap.size, 4, none⟩ = some (.int .u32 a) := cell_later hb5 (by simp [World.cell?_alloc_new]); clear hb5)
    | (go_at_call 36; with_reducible refine (hex_ok a ha _).mono ?_; rintro e w6 ⟨rfl, hb6⟩; have HB6 := Lib.hid (HB5.out.trans (hb6.mono HB5.out.size)); clear hb6))
  all_goals
    go_wp2_with fail
    go_ret
    refine WrR.mk2 _ HB6.out (by simp) rfl ?_ rfl; simp
end Go.Proofs.YtohighedgdlflaaGreatDoor

/- Which observations may be: the program's answer, and the document's, are mayB. -/
namespace Go.Proofs.YtohighedgdlflaaGreatDoor
open Go.RowKit Go.Proofs.YtohighedgdlflaaGreatDoorW.PrintWords Go.Proofs.YtohighedgdlflaaGreatDoor.PR
set_option linter.unusedVariables false
set_option linter.unusedSimpArgs false
/-- By its kind. -/
def kindB (k a b : Int) : Bool :=
  if k = 1 then true else if k = 2 then true else if k = 3 then decide (1 ≤ a) && decide (a ≤ 6) else if k = 4 then decide (a < 32) && (b == 0)
  else if k = 5 then decide (b ≤ 2147483647) else if k = 6 then (a == 0) && (b == 0) else if k = 7 then b == 0 else false
def mayB (o : S35) : Bool := decide (1 ≤ o.f1) && decide (o.f1 ≤ 8) && decide (o.f0 ≤ 9223372036854775807) && kindB o.f2 o.f4 o.f5
theorem may_f (o : S35) (k : Nat) : trace_may.f (k + 2) o.f0 o.f1 o.f2 o.f3 o.f4 o.f5 = some (mayB o) := by
  obtain ⟨t, c, q, p, a, b⟩ := o
  simp only [trace_may.f, trace_may.j0, trace_may.j1, mayB, kindB]
  by_cases h1 : c < 1
  · simp [h1, show ¬ 1 ≤ c by omega]
  · by_cases h2 : 8 < c
    · simp [h1, h2, show ¬ c ≤ 8 by omega]
    · by_cases h3 : 9223372036854775807 < t
      · simp [h1, h2, h3, show ¬ t ≤ 9223372036854775807 by omega]
      · have e1 : 1 ≤ c := by omega
        have e2 : c ≤ 8 := by omega
        have e3 : t ≤ 9223372036854775807 := by omega
        simp only [h1, h2, h3, e1, e2, e3, gt_iff_lt, if_false, decide_true, decide_false, Bool.and_true, Bool.true_and, Bool.false_eq_true]
        by_cases k1 : q = 1
        · simp [k1]
        · by_cases k2 : q = 2
          · simp [k2]
          · have b1 : (q == 1) = false := by simpa using k1
            have b2 : (q == 2) = false := by simpa using k2
            simp only [k1, k2, b2, if_false, Bool.false_eq_true]
            by_cases k3 : q = 3
            · simp only [k3, if_true]
              by_cases ha : 1 ≤ a
              · simp [ha, show a ≥ 1 from ha]
              · simp [ha]
            · by_cases k4 : q = 4
              · simp only [k4]
                by_cases ha : a < 32 <;> simp [ha]
              · by_cases k5 : q = 5
                · simp [k5]
                · by_cases k6 : q = 6
                  · simp only [k6]
                    by_cases ha : a = 0 <;> simp [ha]
                  · by_cases k7 : q = 7
                    · simp [k7]
                    · simp [k3, k4, k5, k6, k7]
theorem refMay_f (o : S35) (k : Nat) : cloisterref22_May.f (k + 2) o.f0 o.f1 o.f2 o.f3 o.f4 o.f5 = some (mayB o) := by
  obtain ⟨t, c, q, p, a, b⟩ := o
  simp only [cloisterref22_May.f, cloisterref22_May.j0, cloisterref22_May.j1, mayB, kindB]
  by_cases h1 : c < 1
  · simp [h1, show ¬ 1 ≤ c by omega]
  · by_cases h2 : 8 < c
    · simp [h1, h2, show ¬ c ≤ 8 by omega]
    · by_cases h3 : 9223372036854775807 < t
      · simp [h1, h2, h3, show ¬ t ≤ 9223372036854775807 by omega]
      · have e1 : 1 ≤ c := by omega
        have e2 : c ≤ 8 := by omega
        have e3 : t ≤ 9223372036854775807 := by omega
        simp only [h1, h2, h3, e1, e2, e3, gt_iff_lt, if_false, decide_true, decide_false, Bool.and_true, Bool.true_and, Bool.false_eq_true]
        by_cases k1 : q = 1
        · simp [k1]
        · by_cases k2 : q = 2
          · simp [k2]
          · have b1 : (q == 1) = false := by simpa using k1
            have b2 : (q == 2) = false := by simpa using k2
            simp only [k1, k2, b2, if_false, Bool.false_eq_true]
            by_cases k3 : q = 3
            · simp only [k3, if_true]
              by_cases ha : 1 ≤ a
              · simp [ha, show a ≥ 1 from ha]
              · simp [ha]
            · by_cases k4 : q = 4
              · simp only [k4]
                by_cases ha : a ≤ 31
                · simp [ha, show a < 32 by omega]
                · simp [ha, show ¬ a < 32 by omega]
              · by_cases k5 : q = 5
                · simp [k5]
                · by_cases k6 : q = 6
                  · simp only [k6]
                    by_cases ha : a = 0 <;> simp [ha]
                  · by_cases k7 : q = 7
                    · simp [k7]
                    · simp [k3, k4, k5, k6, k7]
theorem may_ok (o : S35) (w : World) : Calls Tryz.prog 33 #[.agg #[.int .u64 o.f0, .int .i64 o.f1, .int .i64 o.f2, .int .u32 o.f3, .int .u32 o.f4, .int .u32 o.f5]] w fun e w' => e = .returned (.bool (mayB o)) ∧ Below w.heap.size w w' :=
  trace_may.calls 2 _ _ _ _ _ _ _ w (may_f o 0)
end Go.Proofs.YtohighedgdlflaaGreatDoor

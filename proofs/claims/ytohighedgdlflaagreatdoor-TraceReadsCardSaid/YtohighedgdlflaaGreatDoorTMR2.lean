/- Texts of a proof that TraceReads holds, for every row of bytes, merged in order. -/
import Derived.Test.YtohighedgdlflaaGreatDoorTPRx1
import Derived.Outline
import Derived.WalkSpells
import Derived.WalkLawsBesides
import Derived.Deep.RegionLaw
import Derived.Lib.Hide
import Derived.Test.YtohighedgdlflaaGreatDoorTMR1
import Derived.Lib.AppendIntMem
import Derived.Laws.BitsLemmas
import Derived.Test.YtohighedgdlflaaGreatDoorCards
import Derived.Test.YtohighedgdlflaaGreatDoorTie
import Derived.WalkKit
import Derived.ProofKit
import Derived.OpenShut
import Derived.Deep.DeepHandedRow
import Derived.Lib.LaidTab
import Derived.LaidMore
import Derived.Stop.LaidErr
import Derived.SevenTiedAt
import Derived.Below
import Derived.Carry
import Derived.Deep.Slices
/- Small laws used by all texts of this claim: an append of one element as a step of a region of open order; byte strings as little-endian numbers. -/
namespace Go.Proofs.YtohighedgdlflaaGreatDoor
open Go.RowKit Go.Proofs.YtohighedgdlflaaGreatDoorW.PrintWords
set_option linter.unusedVariables false
set_option linter.unusedSimpArgs false

section
variable {P : Program} {ops : Array Oper} {o : Oper} {a : Act} {Q : Exit → Act → World → Prop} {K : Act → World → Prop}
end

theorem C_reads {w : World} {k : IntKind} {A : Option Addr} {n : Nat} {xs : List Int} (h : Kd.C (Kd.int k) w A n xs) : ReadsInt w k A n xs := Kd.reads_of_C (enc := Value.int k) (d := (0 : Int)) (h1 := fun _ => rfl) h
/-- The n lowest bytes of x, the lowest first. -/
def leb (n : Nat) (x : Int) : List Int := (List.range n).map fun i => x / 2 ^ (8 * i) % 256
theorem leb_length (n : Nat) (x : Int) : (leb n x).length = n := by simp [leb]
theorem leb_succ (n : Nat) (x : Int) : leb (n + 1) x = leb n x ++ [x / 2 ^ (8 * n) % 256] := by simp [leb, List.range_succ]
end Go.Proofs.YtohighedgdlflaaGreatDoor

/- strconv.FormatUint at base 10: the decimal digits of every uint64. -/
namespace Go.Proofs.YtohighedgdlflaaGreatDoor
open Go.Shelf Go.RowKit Go.Sort Go.Lib Go.Proofs.YtohighedgdlflaaGreatDoorW.PrintWords
set_option linter.unusedVariables false
set_option linter.unusedSimpArgs false
/-- The table of powers of ten lies where it was laid. -/
abbrev PTab (w : World) : Prop := Lib.TabIs Tryz.prog w "internal/strconv.uint64pow10" .u64 Lib.pow10Tab
theorem holds_zero0 (w : World) (T : TypeId) (nd : Nat) (hs : nd ≤ 24) : Holds (fun (b : UInt8) => Value.int .u8 (b.toNat : Int)) (w.alloc (.cells zeros24 T)) w.heap.size 0 (Array.replicate nd (0 : UInt8)) := fun j hj => by
  have hj' : j < nd := by simpa using hj
  refine ⟨?_, World.frozen?_alloc_new _ _ _ _⟩
  rw [World.cell?_alloc_new, zeros24_at _ (by omega), getElem!_pos _ j hj]
  simp
theorem fin_pos0 (w : World) (o : Obj) (dk : Array UInt8) (k : Nat) : ∃ os, (putRow (fun (b : UInt8) => Value.int .u8 (b.toNat : Int)) (w.alloc o) w.heap.size 0 dk).drewN k = grow (w.drewN k) os := by
  rw [alloc_eq_grow]
  obtain ⟨os', _, e⟩ := putRow_grow_new (fun (b : UInt8) => Value.int .u8 (b.toNat : Int)) w #[o] w.heap.size 0 dk (Nat.le_refl _)
  exact ⟨os', by rw [e]; rfl⟩
theorem PTab.below {w w' : World} (h : PTab w) (hb : Below w.heap.size w w') : PTab w' := tabBelow_of_tabIs h w' hb
set_option maxHeartbeats 1600000 in
set_option maxRecDepth 100000 in
theorem fmt86_ok (u : Nat) (hu64 : u < 18446744073709551616) (w : World) (htab : PTab w) :
    Calls Tryz.prog 86 #[.int .u64 u, .int .i64 10] w fun e w' => e = .returned (.string ⟨(Lib.decDigits u).toArray⟩) ∧ Below w.heap.size w w' := by
  by_cases hs : u < 100
  · have hs' : (u : Int) < 100 := by omega
    go_enter Tryz.func86, Tryz.ntmps86
    go_wp2_with fail
    refine (Tryz.internal_strconv_small u hs _).mono ?_
    rintro e w' ⟨rfl, rfl⟩
    go_wp2_with fail
    go_ret
    exact ⟨rfl, Below.refl _ _⟩
  · have hs' : ¬ (u : Int) < 100 := by omega
    have hu1 : 1 ≤ u := by omega
    have hnd20 : Lib.nDigits u ≤ 20 := by have := Lib.numDigits_eq u hu1 hu64; split at this <;> omega
    have hb3 : Lib.nDigits u ≤ 23 := by omega
    have hal : Tryz.prog.arrayLen 149 = 24 := by simp [Program.arrayLen, Tryz.underlying149]
    have hsl1 : ∀ W, (Instr.sliceAt 149 (.pointer (some ⟨w.heap.size, 0, none⟩)) none (some (.int .i64 (Lib.nDigits u : Int))) none).run Tryz.prog W = .ok (.slice (some ⟨w.heap.size, 0, none⟩) (Lib.nDigits u) 24) W := fun W => by
      rw [run_sliceAt_array_h W 149 ⟨w.heap.size, 0, none⟩ (by simp [Program.arrayLen, Program.elem, Tryz.underlying149]) .i64 (Lib.nDigits u : Int) (by omega) (by rw [hal]; omega)]
      go_simp
      try omega
    have hH0 := holds_zero0 w 149 (Lib.nDigits u) (by omega)
    have hfmt := Tryz.internal_strconv_formatBase10 w.heap.size 0 24 u (Array.replicate (Lib.nDigits u) 0) (w.alloc (.cells Lib.zeros24 149)) hH0 (by rw [Array.size_replicate]; exact Lib.lt_pow_nDigits u) hu64 (by rw [Array.size_replicate]; omega)
    rw [Array.size_replicate] at hfmt
    have HH0 := Lib.hid hH0
    clear hH0 hal
    go_enter Tryz.func86, Tryz.ntmps86
    go_wp2_with fail
    refine (Tryz.internal_strconv_numDigits u hu1 hu64 _ (Lib.tabIs_alloc htab _)).mono ?_
    rintro e w' ⟨rfl, rfl⟩
    go_wp2_with fail
    refine hfmt.mono ?_
    rintro e w' ⟨rfl, k, v', dk, rfl, hF⟩
    have hcv : (convert 37 9 (.slice (some ⟨w.heap.size, 0, none⟩) (Lib.nDigits u) 24)).run Tryz.prog ((putRow (fun (b : UInt8) => Value.int .u8 (b.toNat : Int)) (w.alloc (.cells Lib.zeros24 149)) w.heap.size 0 dk).drewN k) = .ok (.string ⟨(Lib.decDigits u).toArray⟩) ((putRow (fun (b : UInt8) => Value.int .u8 (b.toNat : Int)) (w.alloc (.cells Lib.zeros24 149)) w.heap.size 0 dk).drewN k) := by
      have h := run_convert_bytes_back (P := Tryz.prog) ((putRow (fun (b : UInt8) => Value.int .u8 (b.toNat : Int)) (w.alloc (.cells Lib.zeros24 149)) w.heap.size 0 dk).drewN k) 37 9 5 ⟨w.heap.size, 0, none⟩ 24 (Lib.decDigits u) Tryz.underlying37 Tryz.underlying5 Tryz.underlying9 (fun j hj => by
        rw [Lib.row_is_numeral hF j hj, Lib.add_plain, World.cell?_drewN]
        exact cell?_putRow (fun (b : UInt8) => Value.int .u8 (b.toNat : Int)) _ w.heap.size 0 _ dk HH0.out (by rw [hF.size, Array.size_replicate]) j (by rw [hF.size]; rw [Lib.decDigits_length] at hj; exact hj))
      rw [Lib.decDigits_length] at h
      exact h
    go_wp2_with fail
    go_ret
    obtain ⟨os, eo⟩ := fin_pos0 w (.cells Lib.zeros24 149) dk k
    refine ⟨rfl, ?_⟩
    rw [eo]
    exact below_grow _ _ (Nat.le_refl _) _ _
theorem fmt_ok (u : Nat) (hu64 : u < 18446744073709551616) (w : World) (htab : PTab w) :
    Calls Tryz.prog 34 #[.int .u64 u, .int .i64 10] w fun e w' => e = .returned (.string ⟨(Lib.decDigits u).toArray⟩) ∧ Below w.heap.size w w' := by
  go_enter Tryz.func34, Tryz.ntmps34
  go_wp2_with fail
  refine (fmt86_ok u hu64 _ htab).mono ?_
  rintro e w' ⟨rfl, hb⟩
  have HB := Lib.hid hb
  clear hb
  go_wp2_with fail
  go_ret
  exact ⟨rfl, HB.out⟩
end Go.Proofs.YtohighedgdlflaaGreatDoor

/- The CRC-32: by bits, and four bits at a time by a table: the same number. -/
namespace Go.Proofs.YtohighedgdlflaaGreatDoor
set_option linter.unusedVariables false
set_option linter.unusedSimpArgs false
namespace Crc
/-- One bit. -/
def bitN (c : Nat) : Nat := (c / 2) ^^^ (if c % 2 = 1 then 3988292384 else 0)
theorem bitN_xor (a b : Nat) : bitN (a ^^^ b) = bitN a ^^^ bitN b := by
  unfold bitN
  have h1 : (a ^^^ b) / 2 = a / 2 ^^^ b / 2 := Nat.xor_div_two
  have h2 : ((a ^^^ b) % 2 = 1) ↔ ¬ (a % 2 = 1 ↔ b % 2 = 1) := by
    simp
  rw [h1]
  by_cases ha : a % 2 = 1 <;> by_cases hb : b % 2 = 1
  · rw [if_neg (by rw [h2]; simp [ha, hb]), if_pos ha, if_pos hb]
    simp only [Nat.xor_zero]
    rw [Nat.xor_assoc, Nat.xor_comm 3988292384, Nat.xor_assoc, Nat.xor_self, Nat.xor_zero]
  · rw [if_pos (by rw [h2]; simp [ha, hb]), if_pos ha, if_neg hb]
    simp only [Nat.xor_zero]
    rw [Nat.xor_assoc, Nat.xor_assoc, Nat.xor_comm 3988292384]
  · rw [if_pos (by rw [h2]; simp [ha, hb]), if_neg ha, if_pos hb]
    simp only [Nat.xor_zero, Nat.xor_assoc]
  · rw [if_neg (by rw [h2]; simp [ha, hb]), if_neg ha, if_neg hb]
    simp
theorem bitN_even (q : Nat) : bitN (2 * q) = q := by
  unfold bitN
  rw [if_neg (by omega), Nat.xor_zero]; omega
/-- Four bits by the table. -/
def tblN : Nat → Nat
  | 0 => 0 | 1 => 498536548 | 2 => 997073096 | 3 => 651767980 | 4 => 1994146192 | 5 => 1802195444 | 6 => 1303535960 | 7 => 1342533948
  | 8 => 3988292384 | 9 => 4027552580 | 10 => 3604390888 | 11 => 3412177804 | 12 => 2607071920 | 13 => 2262029012 | 14 => 2685067896 | 15 => 3183342108 | _ => 0
theorem tblN_bits : ∀ r, r < 16 → bitN (bitN (bitN (bitN r))) = tblN r := by decide
theorem split16 (s : Nat) : s = (16 * (s / 16)) ^^^ (s % 16) := by
  apply Nat.eq_of_testBit_eq
  intro j
  have h := Nat.testBit_two_pow_mul_add (s / 16) (i := 4) (b := s % 16) (by omega) j
  rw [show 2 ^ 4 * (s / 16) + s % 16 = s by omega] at h
  rw [Nat.testBit_xor, h, show 16 * (s / 16) = 2 ^ 4 * (s / 16) by omega, Nat.testBit_two_pow_mul]
  have h2 : (s % 16).testBit j = (decide (j < 4) && (s % 16).testBit j) := by
    by_cases hj : j < 4
    · simp [hj]
    · have : (s % 16).testBit j = false := Nat.testBit_lt_two_pow (Nat.lt_of_lt_of_le (show s % 16 < 2 ^ 4 by omega) (Nat.pow_le_pow_right (by omega) (by omega)))
      simp [hj, this]
  by_cases hj : j < 4
  · simp [hj, show ¬ 4 ≤ j by omega]
  · rw [h2]; simp [hj, show 4 ≤ j by omega]
theorem nib (s : Nat) : bitN (bitN (bitN (bitN s))) = (s / 16) ^^^ tblN (s % 16) := by
  conv => lhs; rw [split16 s]
  simp only [bitN_xor]
  rw [tblN_bits (s % 16) (by omega)]
  congr 1
  rw [show 16 * (s / 16) = 2 * (2 * (2 * (2 * (s / 16)))) by omega]
  simp only [bitN_even]
theorem bitN_lt {s : Nat} (h : s < 2 ^ 32) : bitN s < 2 ^ 32 := by
  unfold bitN
  refine Nat.xor_lt_two_pow (by omega) ?_
  split <;> decide
/-- One byte. -/
def byteN (s b : Nat) : Nat := bitN (bitN (bitN (bitN (bitN (bitN (bitN (bitN (s ^^^ b))))))))
def stN (xs : List Int) (s : Nat) : Nat := xs.foldl (fun s b => byteN s b.toNat) s
theorem byteN_lt {s b : Nat} (h : s < 2 ^ 32) (hb : b < 256) : byteN s b < 2 ^ 32 := by
  unfold byteN
  have : s ^^^ b < 2 ^ 32 := Nat.xor_lt_two_pow h (by omega)
  exact bitN_lt (bitN_lt (bitN_lt (bitN_lt (bitN_lt (bitN_lt (bitN_lt (bitN_lt this)))))))
/-- The bytes' kind. -/
def Bytes (xs : List Int) : Prop := ∀ x ∈ xs, 0 ≤ x ∧ x < 256
theorem stN_lt : ∀ {xs : List Int} {s : Nat}, Bytes xs → s < 2 ^ 32 → stN xs s < 2 ^ 32
  | [], s, _, h => h
  | x :: xs, s, hx, h => stN_lt (xs := xs) (fun y hy => hx y (List.mem_cons_of_mem _ hy)) (byteN_lt h (by have := hx x List.mem_cons_self; omega))
/-- The sum of some bytes. -/
def crc (xs : List Int) : Int := ((stN xs 4294967295 ^^^ 4294967295 : Nat) : Int)
theorem byteN_nibs (s b : Nat) : byteN s b = (((s ^^^ b) / 16 ^^^ tblN ((s ^^^ b) % 16)) / 16) ^^^ tblN (((s ^^^ b) / 16 ^^^ tblN ((s ^^^ b) % 16)) % 16) := by
  unfold byteN
  rw [nib, nib]
theorem xor_u32 (a b : Nat) (ha : a < 2 ^ 32) (hb : b < 2 ^ 32) : bits .xor .u32 a b = ((a ^^^ b : Nat) : Int) := by
  have ha' : a % 2 ^ IntKind.u32.bits = a := Nat.mod_eq_of_lt (by simpa [IntKind.bits] using ha)
  have hb' : b % 2 ^ IntKind.u32.bits = b := Nat.mod_eq_of_lt (by simpa [IntKind.bits] using hb)
  simp only [bits, BitVec.ofInt_natCast, BitVec.toNat_xor, BitVec.toNat_ofNat, ha', hb']
  rw [IntKind.wrap_u32]
  have := Nat.xor_lt_two_pow ha hb
  omega
theorem and15_u32 (a : Nat) (ha : a < 2 ^ 32) : bits .and .u32 a 15 = ((a % 16 : Nat) : Int) := by
  have := bits_mask .u32 32 (by decide) (fun n h0 h1 => by rw [IntKind.wrap_u32]; omega) 4 (by decide) (a : Int) (by omega) (by exact_mod_cast ha)
  simpa using this
theorem tblN_lt (r : Nat) : tblN r < 2 ^ 32 := by
  unfold tblN
  split <;> decide
theorem stN_append (xs ys : List Int) (s : Nat) : stN (xs ++ ys) s = stN ys (stN xs s) := by simp [stN]
end Crc
end Go.Proofs.YtohighedgdlflaaGreatDoor

/- wire.Sum of one text is the CRC-32 of its bytes. -/
namespace Go.Proofs.YtohighedgdlflaaGreatDoor
open Go.RowKit Go.Proofs.YtohighedgdlflaaGreatDoorW.PrintWords Go.Proofs.YtohighedgdlflaaGreatDoor.PR
set_option linter.unusedVariables false
set_option linter.unusedSimpArgs false
/-- The table of package wire lies in block 0. -/
def WTab (w : World) : Prop := 0 < w.heap.size ∧ ∀ r, r < 16 → w.cell? ⟨0, r, none⟩ = some (.int .u32 (Crc.tblN r : Nat))
theorem WTab.below {w W : World} (h : WTab w) (hb : Below w.heap.size w W) : WTab W :=
  ⟨Nat.lt_of_lt_of_le h.1 hb.size, fun r hr => (hb.cell (p := ⟨0, r, none⟩) h.1).trans (h.2 r hr)⟩
set_option maxHeartbeats 400000 in
theorem sum_ok (xs : List Int) (A : Option Addr) (c pb pc : Nat) (w : World) (hT : WTab w) (hp : w.cell? ⟨pb, 0, none⟩ = some (.slice A xs.length c)) (hR : Kd.C (Kd.int .u8) w A xs.length xs) (hx : Crc.Bytes xs) :
    Calls Tryz.prog 45 #[.slice (some ⟨pb, 0, none⟩) 1 pc] w fun e w' => e = .returned (.int .u32 (Crc.crc xs)) ∧ w = w' := by
  have HT := Lib.hid hT
  have HR := Lib.hid (C_reads hR)
  have HX := Lib.hid hx
  have hm : xs.length ≤ 9223372036854775807 := HR.out.2.1
  clear hT hR hx
  go_enter Tryz.func45, Tryz.ntmps45
  go_wp2
  refine wp_loop_rounds 2 ?_
  rw [rounds_succ]
  go_wp2
  go_loop [3, 7, 16] (fun v3 v7 v16 => ∃ (k s : Nat), k ≤ xs.length ∧ v16 = .int .i64 k ∧ v3 = .int .u32 s ∧ Hid (s = Crc.stN (xs.take k) 4294967295)) (fun _ _ i => xs.length - (intOf i).toNat)
  case atStart => exact ⟨0, 4294967295, by omega, rfl, rfl, rfl⟩
  case round =>
    obtain ⟨k, s, hk, rfl, rfl, hs⟩ := hrel
    have hsl : s < 4294967296 := by
      rw [hs.out]
      exact Crc.stN_lt (fun x hx => HX.out x (List.mem_of_mem_take hx)) (by decide)
    by_cases hlt : k < xs.length
    · obtain ⟨b, hb0, hb⟩ : ∃ b : Nat, b < 256 ∧ Hid ((b : Int) = xs.getD k 0) := by
        have h := HX.out (xs.getD k 0) (by rw [List.getD_eq_getElem?_getD, List.getElem?_eq_getElem hlt]; exact List.getElem_mem hlt)
        exact ⟨(xs.getD k 0).toNat, by omega, by show (((xs.getD k 0).toNat : Nat) : Int) = _; omega⟩
      obtain ⟨ad, rfl, hcs⟩ := HR.out.2.2 (by omega)
      have hc0 : w.cell? (ad.add k) = some (.int .u8 b) := by rw [hb.out]; exact hcs k hlt
      clear hcs
      obtain ⟨s1, hs1⟩ : ∃ s1, s1 = s ^^^ b := ⟨_, rfl⟩
      have l1 : s1 < 2 ^ 32 := by rw [hs1]; exact Nat.xor_lt_two_pow hsl (by omega)
      have e1 : bits .xor .u32 (s : Int) (b : Int) = s1 := by rw [hs1]; exact Crc.xor_u32 s b hsl (by omega)
      obtain ⟨r1, hr1⟩ : ∃ r1, r1 = s1 % 16 := ⟨_, rfl⟩
      have e2 : bits .and .u32 (s1 : Int) 15 = r1 := by rw [hr1]; exact Crc.and15_u32 s1 l1
      have lr1 : r1 < 16 := by omega
      obtain ⟨t1, ht1⟩ : ∃ t1, t1 = Crc.tblN r1 := ⟨_, rfl⟩
      have c1 : w.cell? ⟨0, r1, none⟩ = some (.int .u32 t1) := by rw [ht1]; exact HT.out.2 r1 lr1
      obtain ⟨s2, hs2⟩ : ∃ s2, s2 = (s1 / 16) ^^^ t1 := ⟨_, rfl⟩
      have l2 : s2 < 2 ^ 32 := by rw [hs2, ht1]; exact Nat.xor_lt_two_pow (by omega) (Crc.tblN_lt _)
      have e3 : bits .xor .u32 ((s1 : Int) / 16) (t1 : Int) = s2 := by
        have := Crc.xor_u32 (s1 / 16) t1 (by omega) (by rw [ht1]; exact Crc.tblN_lt _)
        rw [hs2, ← this]; simp
      obtain ⟨r2, hr2⟩ : ∃ r2, r2 = s2 % 16 := ⟨_, rfl⟩
      have e4 : bits .and .u32 (s2 : Int) 15 = r2 := by rw [hr2]; exact Crc.and15_u32 s2 l2
      have lr2 : r2 < 16 := by omega
      obtain ⟨t2, ht2⟩ : ∃ t2, t2 = Crc.tblN r2 := ⟨_, rfl⟩
      have c2 : w.cell? ⟨0, r2, none⟩ = some (.int .u32 t2) := by rw [ht2]; exact HT.out.2 r2 lr2
      obtain ⟨s3, hs3⟩ : ∃ s3, s3 = (s2 / 16) ^^^ t2 := ⟨_, rfl⟩
      have e5 : bits .xor .u32 ((s2 : Int) / 16) (t2 : Int) = s3 := by
        have := Crc.xor_u32 (s2 / 16) t2 (by omega) (by rw [ht2]; exact Crc.tblN_lt _)
        rw [hs3, ← this]; simp
      have hfin : Hid (s3 = Crc.stN (xs.take (k + 1)) 4294967295) := by
        show s3 = _
        rw [List.take_succ_eq_append_getElem hlt, Crc.stN_append, ← hs.out]
        have hbb : xs[k].toNat = b := by
          have := hb.out
          rw [List.getD_eq_getElem?_getD, List.getElem?_eq_getElem hlt] at this
          simp at this; omega
        simp only [Crc.stN, List.foldl_cons, List.foldl_nil, hbb]
        rw [Crc.byteN_nibs, hs3, ht2, hr2, hs2, ht1, hr1, hs1]
      clear hs1 hr1 ht1 hs2 hr2 ht2 hs3 l1 l2
      go_wp2
      go_round
      case rel => exact ⟨k + 1, s3, by omega, by go_num, rfl, hfin⟩
      case measure => simp [intOf]; omega
    · obtain rfl : k = xs.length := by omega
      have e6 : bits .xor .u32 IntKind.u32.max (s : Int) = Crc.crc xs := by
        have := Crc.xor_u32 4294967295 s (by decide) hsl
        rw [show (IntKind.u32.max : Int) = ((4294967295 : Nat) : Int) by decide, this, Nat.xor_comm]
        unfold Crc.crc
        rw [hs.out, List.take_of_length_le (Nat.le_refl _)]
      go_wp2
      rw [rounds_succ]
      go_wp2
      go_ret
      exact ⟨rfl, rfl⟩
theorem sum_okn (xs : List Int) (n : Nat) (hn : xs.length = n) (A : Option Addr) (c pb pc : Nat) (w : World) (hT : WTab w) (hp : w.cell? ⟨pb, 0, none⟩ = some (.slice A n c)) (hR : Kd.C (Kd.int .u8) w A n xs) (hx : Crc.Bytes xs) :
    Calls Tryz.prog 45 #[.slice (some ⟨pb, 0, none⟩) 1 pc] w fun e w' => e = .returned (.int .u32 (Crc.crc xs)) ∧ w = w' := by
  subst hn
  exact sum_ok xs A c pb pc w hT hp hR hx
end Go.Proofs.YtohighedgdlflaaGreatDoor

/- What the rows' lists give the laws of package trace, and a world for the witness. -/
set_option maxRecDepth 100000
namespace Go.Proofs.YtohighedgdlflaaGreatDoor
open Go.ChangeShapes Go.WideShapes Go.ChangeAt Go.RowKit
set_option linter.unusedVariables false
namespace base
theorem own : ownKnob Tryz.prog.godebug = none := by kernel_rfl
theorem laidOut : laidOutB Tryz.prog = true := by kernel_rfl
theorem gPow : Tryz.prog.globalNamed "internal/strconv.uint64pow10" = some 1 := by kernel_rfl
theorem maxLen_cell {W : World} (h : W.ShapedOpen Tryz.prog) : ∃ m, W.cell? ⟨2, 0, none⟩ = some (.int .i64 m) := by
  obtain ⟨cs, hc, hs, hr⟩ := h.1 2 #[.int .i64 0] 3 (of_decide_eq_true (by kernel_rfl)) (by kernel_rfl)
  obtain ⟨ts, hts, _, hcell⟩ := hr (by kernel_rfl)
  have e : Tryz.prog.cellTypes Tryz.prog.depth 3 = some [3] := by kernel_rfl
  obtain rfl : [3] = ts := Option.some.inj (e.symm.trans hts)
  have h0 : 0 < cs.size := by rw [hs]; decide
  obtain ⟨u, hu, hk⟩ := hcell 0 cs[0] (Array.getElem?_eq_getElem h0)
  obtain rfl : 3 = u := Option.some.inj hu
  unfold Cell.ok at hk
  rw [Tryz.underlying3] at hk
  have hci : W.cell? ⟨2, 0, none⟩ = cs[0]? := by simp only [World.cell?, hc]; rfl
  rw [hci, Array.getElem?_eq_getElem h0]
  cases hv : cs[0] <;> rw [hv] at hk <;> simp at hk
  obtain ⟨rfl, _⟩ := hk
  exact ⟨_, rfl⟩
theorem gPowType : (Tryz.prog.globals[1]?).map (·.type) = some 174 := by kernel_rfl
theorem powCells : Tryz.prog.cellsOf 174 = 20 := by kernel_rfl
theorem cells32 : Tryz.prog.cellsOf 32 = 1 := by kernel_rfl
theorem cells31 : Tryz.prog.cellsOf 31 = 1 := by kernel_rfl
/-- The table of powers, out of the row's list. -/
theorem pow_of {rest : List (String × DataW Unit)} {W : World} (h : laidMet Tryz.prog (("internal/strconv.uint64pow10", Rows.laid_internal_strconv_uint64pow10) :: rest) W) : PTab W :=
  Lib.tabIs_of_head (rest := rest) gPow gPowType Tryz.underlying174 Tryz.underlying32 cells32 powCells h
theorem gWire : Tryz.prog.globalNamed "cloister/wire.table" = some 0 := by kernel_rfl
theorem gWireType : (Tryz.prog.globals[0]?).map (·.type) = some 130 := by kernel_rfl
theorem wireCells : Tryz.prog.cellsOf 130 = 16 := by kernel_rfl
def wireZ : List Int := [0, 498536548, 997073096, 651767980, 1994146192, 1802195444, 1303535960, 1342533948, 3988292384, 4027552580, 3604390888, 3412177804, 2607071920, 2262029012, 2685067896, 3183342108]
theorem wire_of {rest : List (String × DataW Unit)} {W : World} (h : laidMet Tryz.prog (("cloister/wire.table", Rows.laid_cloister_wire_table) :: rest) W) : WTab W := by
  have ht : Lib.TabIs Tryz.prog W "cloister/wire.table" .u32 wireZ := Lib.tabIs_of_head (rest := rest) gWire gWireType Tryz.underlying130 Tryz.underlying31 cells31 wireCells h
  have hc : ∀ r, r < 16 → W.cell? ⟨0, r, none⟩ = some (.int .u32 (Crc.tblN r : Nat)) := by
    intro r hr
    rw [ht.cell gWire r hr]
    have e : ∀ r, r < 16 → wireZ.getD r 0 = ((Crc.tblN r : Nat) : Int) := by decide
    rw [e r hr]
  exact ⟨World.block_lt_of_cell? _ _ (hc 0 (by decide)), hc⟩
/-- A world for the witness: what the door's own run lays, and Go's pinned table. -/
noncomputable def W0 (os : Os) : World :=
  { World.doorLaid Tryz.prog 4000 os with heap := (World.doorLaid Tryz.prog 4000 os).heap.modify 7 fun
      | .cells _ t fz => .cells ((Pinned.utf8FirstZ.map fun (z : Nat) => Value.int .u8 (z : Int)).toArray) t fz
      | o => o }
end base
end Go.Proofs.YtohighedgdlflaaGreatDoor

/- A row of bytes among the arguments, opened. -/
namespace Go.Proofs.YtohighedgdlflaaGreatDoor
open Go.ChangeShapes Go.WideShapes Go.Deep Go.RowKit Go.Proofs.YtohighedgdlflaaGreatDoorW.PrintWords Go.Proofs.YtohighedgdlflaaGreatDoor.PR
set_option linter.unusedVariables false
set_option linter.unusedSimpArgs false
theorem cells5' : Tryz.prog.cellsOf 5 = 1 := by kernel_rfl
theorem wf_u8 {n : Int} (h : (Lit.int .u8 n).wf = true) : 0 ≤ n ∧ n < 256 := by
  have e1 : IntKind.u8.min = 0 := by decide
  have e2 : IntKind.u8.max = 255 := by decide
  simp only [Lit.wf, Bool.and_eq_true, decide_eq_true_eq, e1, e2] at h
  omega
section
variable {H : Type} {enc : TypeId × Value → H} {W : World} {spare : Nat → Bool} {held : Bool}
theorem open_bys {fuel : Nat} {A : Option Addr} {len cap : Nat} {x : DataW H × List MemPlace} (h : DataW.trod enc Tryz.prog W 0 spare held fuel 37 [.slice A len cap] = some x) :
    ∃ l : List Int, len = l.length ∧ l.length ≤ cap ∧ cap ≤ 9223372036854775807 ∧ Kd.C (Kd.int .u8) W A l.length l ∧ Crc.Bytes l := by
  rcases open_slice Tryz.underlying37 h with ⟨h0, _⟩ | ⟨a, len', cap', m, n, D, Pl, hcs, _, hl, hm, hmm, _, hx⟩
  · simp only [List.cons.injEq, Value.slice.injEq, and_true] at h0
    obtain ⟨rfl, rfl, rfl⟩ := h0
    exact ⟨[], rfl, by simp, by simp, Kd.C_nil _ _, fun x hx => by simp at hx⟩
  · simp only [List.cons.injEq, Value.slice.injEq, and_true] at hcs
    obtain ⟨rfl, rfl, rfl⟩ := hcs
    have hlm : len ≤ m := by rw [hmm]; split <;> omega
    have hmax : cap ≤ 9223372036854775807 := by
      have e : maxLen = 9223372036854775807 := by decide
      omega
    have each : ∀ i, i < len → ∃ o : Int, (0 ≤ o ∧ o < 256) ∧ W.cell? (a.add i) = some (.int .u8 o) := by
      intro i hi
      obtain ⟨cs', h1, h2⟩ := hx i (by omega)
      rw [cells5'] at h1
      obtain ⟨_, hlen, hcell⟩ := World.cells?_some h1
      match cs', hlen with
      | [v0], _ =>
        obtain ⟨n0, e0, _, w0⟩ := DataW.trod_int Tryz.underlying5 h2
        obtain rfl : v0 = .int .u8 n0 := (List.cons.inj (show [v0] = [_] from e0)).1
        refine ⟨n0, wf_u8 w0, ?_⟩
        have := hcell 0 (by decide)
        rw [Deep.add_add, Nat.mul_one, Nat.add_zero] at this
        exact this
    obtain ⟨q, hq⟩ := choose_lt each
    refine ⟨(List.range len).map q, by simp, by simpa using hl, hmax, Kd.C_of_reads (d := (0 : Int)) ⟨rfl, by simp; omega, fun _ => ⟨a, rfl, fun j hj => ?_⟩⟩, ?_⟩
    · have h' : j < len := by simpa using hj
      rw [(hq j h').2]
      simp [List.getD_eq_getElem?_getD, List.getElem?_map, List.getElem?_range h']
    · intro o ho
      obtain ⟨i, hi, rfl⟩ := List.mem_map.1 ho
      exact (hq i (List.mem_range.1 hi)).1
end
end Go.Proofs.YtohighedgdlflaaGreatDoor

/- trace.hex writes eight hexadecimal digits. -/
namespace Go.Proofs.YtohighedgdlflaaGreatDoor
open Go.Shelf Go.RowKit Go.Sort Go.Lib Go.Proofs.YtohighedgdlflaaGreatDoorW.PrintWords Go.Proofs.YtohighedgdlflaaGreatDoor.PR
set_option linter.unusedVariables false
set_option linter.unusedSimpArgs false
/-- A hexadecimal digit. -/
def hexDig (d : Nat) : UInt8 := #[48, 49, 50, 51, 52, 53, 54, 55, 56, 57, 97, 98, 99, 100, 101, 102].getD d 0
def hexAt (n j : Nat) : UInt8 := hexDig (n / 16 ^ (7 - j) % 16)
def hexL (n : Nat) : List UInt8 := (List.range 8).map (hexAt n)
def hexS (n : Nat) : ByteArray := ⟨(hexL n).toArray⟩
set_option maxHeartbeats 1600000 in
set_option maxRecDepth 100000 in
theorem hex_ok (n : Nat) (hn : n < 4294967296) (w : World) :
    Calls Tryz.prog 36 #[.int .u32 n] w fun e w' => e = .returned (.string (hexS n)) ∧ Below w.heap.size w w' := by
  have hmk : ∀ W : World, (Instr.makeSlice 37 (.int .i64 8) (.int .i64 8)).run Tryz.prog W = .ok (.slice (some ⟨W.heap.size, 0, none⟩) 8 8) (W.alloc (.cells (Array.replicate 8 (.int .u8 0)) 5)) := fun W => by
    obtain ⟨i0, hi, hzz⟩ := Option.map_eq_some_iff.1 info5
    simp only [Prod.mk.injEq] at hzz
    obtain ⟨hz0, hz1, hz2⟩ := hzz
    have h := run_make (P := Tryz.prog) (w := W) 37 5 i0 (.int .u8 0) Tryz.underlying37 hi hz0 .i64 .i64 8 8 (by omega) (by omega) (by rw [hz2]; omega) (by omega)
    rw [h, hz1]
    rw [show madeCells (Value.int IntKind.u8 0).cells (Int.toNat 8 * 1) = Array.replicate 8 (Value.int IntKind.u8 0) from by kernel_rfl]
    rfl
  go_enter Tryz.func36, Tryz.ntmps36
  go_wp2_with fail
  go_loopw [4, 8] (fun v4 v8 wr => ∃ k : Nat, k ≤ 8 ∧ v8 = .int .i64 k ∧ Hid (Below w.heap.size w wr) ∧ Hid (∀ j < 8, wr.cell? ⟨w.heap.size, j, none⟩ = some (.int .u8 (if j < k then (hexAt n j).toNat else 0)) ∧ wr.frozen? ⟨w.heap.size, j, none⟩ = false)) (fun _ i _ => 8 - (RowKit.intOf i).toNat)
  case atStart =>
    refine ⟨0, by omega, rfl, below_alloc (Below.refl _ _) _, ?_⟩
    intro j hj
    refine ⟨?_, World.frozen?_alloc_new _ _ _ _⟩
    rw [World.cell?_alloc_new, Array.getElem?_replicate, if_pos hj, if_neg (by omega)]
  case round =>
    obtain ⟨k, hk, rfl, HB, HC⟩ := hrel
    by_cases hlt : k < 8
    · have hlt' : (k : Int) < 8 := by omega
      obtain ⟨hc, hf⟩ := HC.out k hlt
      obtain ⟨d, hd⟩ : ∃ d, d = n / 16 ^ (7 - k) % 16 := ⟨_, rfl⟩
      have hd16 : d < 16 := by omega
      have hand : bits .and .u32 ((n : Int) / 2 ^ (28 - 4 * k)) 15 = (d : Int) := by
        rw [show (n : Int) / 2 ^ (28 - 4 * k) = ((n / 2 ^ (28 - 4 * k) : Nat) : Int) from by norm_cast, Crc.and15_u32 _ (by have := Nat.div_le_self n (2 ^ (28 - 4 * k)); omega), hd]
        rw [show 28 - 4 * k = 4 * (7 - k) by omega, Nat.pow_mul]
      have Hd := Lib.hid hd
      clear hd
      go_wp2_with fail
      go_roundw
      case rel =>
        refine ⟨k + 1, by omega, by go_num, HB.out.setCell (Nat.le_refl _) _, ?_⟩
        intro j hj
        have hcell : hexAt n k = (#[48, 49, 50, 51, 52, 53, 54, 55, 56, 57, 97, 98, 99, 100, 101, 102] : Array UInt8)[d] := by
          unfold hexAt hexDig
          rw [← Hd.out]
          simp [Array.getD, hd16]
        obtain ⟨hcj, hfj⟩ := HC.out j hj
        refine ⟨?_, by rw [World.frozen?_setCell]; exact hfj⟩
        by_cases hjk : j = k
        · subst hjk
          rw [World.cell?_setCell_same _ _ _ hc, if_pos (by omega), hcell]
          rfl
        · rw [World.cell?_setCell_other _ _ _ _ (by simp [hjk]), hcj]
          have : (j < k + 1) ↔ j < k := by omega
          simp [this]
      case measure => simp [RowKit.intOf]; omega
    · obtain rfl : k = 8 := by omega
      have hcv : (convert 37 9 (.slice (some ⟨w.heap.size, 0, none⟩) 8 8)).run Tryz.prog wr = .ok (.string (hexS n)) wr := by
        have h := run_convert_bytes_back (P := Tryz.prog) wr 37 9 5 ⟨w.heap.size, 0, none⟩ 8 (hexL n) Tryz.underlying37 Tryz.underlying5 Tryz.underlying9 (fun j hj => by
          have hj8 : j < 8 := by simpa [hexL] using hj
          rw [Lib.add_plain, Nat.zero_add, (HC.out j hj8).1, if_pos hj8]
          simp [hexL])
        rw [show (hexL n).length = 8 from by simp [hexL]] at h
        exact h
      go_wp2_with fail
      go_ret
      exact ⟨rfl, HB.out⟩
end Go.Proofs.YtohighedgdlflaaGreatDoor

/- Texts of a proof that TraceReads holds, for every row of bytes, merged in order. -/
import Derived.Test.YtohighedgdlflaaGreatDoorTMR2
import Derived.Deep.QuietTactic
import Derived.BigQuiet
import Derived.Lib.Strings
import Derived.Lib.ConvBytes
import Derived.Lib.AtoiErrMem
import Derived.Lib.ParseIntBMem
import Derived.Laws.Strings3
import Derived.Laws.Closers25
import Derived.Laws.Closers25b
import Derived.BigCall
import Derived.BigGuard
import Derived.Lib.OthersKept
/- trace.forms: the table, as it lies in memory; what its write functions write. -/
namespace Go.Proofs.YtohighedgdlflaaGreatDoor
open Go.Shelf Go.RowKit Go.Sort Go.Lib Go.Proofs.YtohighedgdlflaaGreatDoorW.PrintWords Go.Proofs.YtohighedgdlflaaGreatDoor.PR
set_option linter.unusedVariables false
set_option linter.unusedSimpArgs false
/-- The names of the faults, as trace.faults lays them. -/
def faultS : List ByteArray := [⟨#[]⟩, ⟨#[97, 108, 105, 103, 110]⟩, ⟨#[111, 117, 116, 115, 105, 100, 101]⟩, ⟨#[117, 110, 109, 97, 112, 112, 101, 100]⟩, ⟨#[109, 97, 108, 102, 111, 114, 109, 101, 100]⟩, ⟨#[100, 101, 110, 105, 101, 100]⟩, ⟨#[105, 108, 108, 101, 103, 97, 108]⟩]
def kindS : List ByteArray := [⟨#[]⟩, ⟨#[108, 111, 97, 100]⟩, ⟨#[99, 97, 108, 108]⟩, ⟨#[102, 97, 117, 108, 116]⟩, ⟨#[105, 114, 113]⟩, ⟨#[99, 108, 111, 99, 107]⟩, ⟨#[104, 97, 108, 116]⟩, ⟨#[115, 97, 121]⟩]
def faultCells : Array Value := #[.string ⟨#[]⟩, .string ⟨#[97, 108, 105, 103, 110]⟩, .string ⟨#[111, 117, 116, 115, 105, 100, 101]⟩, .string ⟨#[117, 110, 109, 97, 112, 112, 101, 100]⟩, .string ⟨#[109, 97, 108, 102, 111, 114, 109, 101, 100]⟩, .string ⟨#[100, 101, 110, 105, 101, 100]⟩, .string ⟨#[105, 108, 108, 101, 103, 97, 108]⟩]
def formCells (p : Nat) : Array Value :=
  #[.string ⟨#[]⟩, .nilFunc, .int .i64 0, .nilFunc,
    .string ⟨#[108, 111, 97, 100]⟩, .func (.func 70) #[] #[], .int .i64 2, .func (.func 71) #[] #[],
    .string ⟨#[99, 97, 108, 108]⟩, .func (.func 70) #[] #[], .int .i64 2, .func (.func 71) #[] #[],
    .string ⟨#[102, 97, 117, 108, 116]⟩, .func (.func 72) #[] #[.pointer (some ⟨p, 0, none⟩)], .int .i64 2, .func (.func 73) #[] #[.pointer (some ⟨p, 0, none⟩)],
    .string ⟨#[105, 114, 113]⟩, .func (.func 77) #[] #[], .int .i64 1, .func (.func 78) #[] #[],
    .string ⟨#[99, 108, 111, 99, 107]⟩, .func (.func 80) #[] #[], .int .i64 1, .func (.func 81) #[] #[],
    .string ⟨#[104, 97, 108, 116]⟩, .func (.func 82) #[] #[], .int .i64 0, .func (.func 83) #[] #[],
    .string ⟨#[115, 97, 121]⟩, .func (.func 84) #[] #[], .int .i64 1, .func (.func 85) #[] #[]]
/-- The table lies in the three blocks from n on. -/
structure Frm (w : World) (n : Nat) : Prop where
  names : w.heap[n]? = some (.cells faultCells 9 (0, 0))
  ptr : w.heap[n + 1]? = some (.cells #[.slice (some ⟨n, 0, none⟩) 7 7] 78 (0, 0))
  tab : w.heap[n + 2]? = some (.cells (formCells (n + 1)) 74 (0, 0))
theorem heap_lt' {w : World} {n : Nat} {o : Obj} (h : w.heap[n]? = some o) : n < w.heap.size := by
  rcases Nat.lt_or_ge n w.heap.size with h' | h'
  · exact h'
  · rw [Array.getElem?_eq_none h'] at h; simp at h
theorem Frm.lt {w : World} {n : Nat} (h : Frm w n) : n + 2 < w.heap.size := heap_lt' h.tab
theorem Frm.below {w w' : World} {n : Nat} (h : Frm w n) (hb : Below w.heap.size w w') : Frm w' n := by
  have := h.lt
  exact ⟨by rw [hb.block _ (by omega)]; exact h.names, by rw [hb.block _ (by omega)]; exact h.ptr, by rw [hb.block _ (by omega)]; exact h.tab⟩
theorem Frm.others {w w' : World} {n b : Nat} (h : Frm w n) (hb : OthersKept 5 (some b) w w') (hn : b < n) : Frm w' n :=
  ⟨hb _ _ h.names (by simp; omega) (fun c fz => by simp), hb _ _ h.ptr (by simp; omega) (fun c fz => by simp), hb _ _ h.tab (by simp; omega) (fun c fz => by simp)⟩
theorem faults_ok (w : World) :
    Calls Tryz.prog 69 #[] w fun e w' => e = .returned (.slice (some ⟨w.heap.size, 0, none⟩) 7 7) ∧ w' = w.alloc (.cells faultCells 9) := by
  go_enter Tryz.func69, Tryz.ntmps69
  go_wp2_with fail
  go_ret
  exact ⟨rfl, rfl⟩
theorem forms_ok (w : World) :
    Calls Tryz.prog 32 #[] w fun e w' => e = .returned (.slice (some ⟨w.heap.size + 2, 0, none⟩) 8 8) ∧ Frm w' w.heap.size ∧ Below w.heap.size w w' := by
  go_enter Tryz.func32, Tryz.ntmps32
  go_wp2_with fail
  refine (faults_ok _).mono ?_
  rintro e w' ⟨rfl, rfl⟩
  go_wp2_with fail
  go_ret
  refine ⟨rfl, ⟨blk_alloc (blk_alloc (blk_new _ _) _) _, ?_, ?_⟩, ?_⟩
  · refine blk_alloc ?_ _
    have := blk_new (w.alloc (.cells faultCells 9)) (.cells #[.slice (some ⟨w.heap.size, 0, none⟩) 7 7] 78 (0, 0))
    rwa [World.size_alloc] at this
  · have := blk_new ((w.alloc (.cells faultCells 9)).alloc (.cells #[.slice (some ⟨w.heap.size, 0, none⟩) 7 7] 78 (0, 0))) (.cells (formCells (w.heap.size + 1)) 74 (0, 0))
    rwa [World.size_alloc, World.size_alloc] at this
  · exact below_alloc (below_alloc (below_alloc (Below.refl _ _) _) _) _
/-- What a write function hands back. -/
def WrR (w : World) (xs : List ByteArray) (e : Ending) (w' : World) : Prop :=
  ∃ v, e = .returned v ∧ Kd.string.R 9 w' w.heap.size (fun _ => True) v xs ∧ Below w.heap.size w w'
theorem WrR.mk' {w W : World} (xs : List ByteArray) (hb : Below w.heap.size w W) {n : Nat} (hn : n = xs.length) (hm : xs.length ≤ 9223372036854775807) {cs : Array Value} (hcs : cs = (xs.map Value.string).toArray) :
    WrR w xs (.returned (.slice (some ⟨W.heap.size, 0, none⟩) n n)) (W.alloc (.cells cs 9)) := by
  subst hn hcs
  refine ⟨_, rfl, ?_, hb.alloc hb.size _⟩
  refine Kd.R_of_own (enc := Value.string) (h1 := fun _ => rfl) ?_ (fun _ _ => trivial)
  have h2 := World.ownsRow_lit (base := w.heap.size) (e := 9) (size := 1) W (xs.map Value.string).toArray xs.length hb.size (by simpa [maxLen] using hm) (by simp)
  simpa [encs] using h2
end Go.Proofs.YtohighedgdlflaaGreatDoor

/- trace.forms: the table, as it lies in memory; what its write functions write. -/
namespace Go.Proofs.YtohighedgdlflaaGreatDoor
open Go.Shelf Go.RowKit Go.Sort Go.Lib Go.Proofs.YtohighedgdlflaaGreatDoorW.PrintWords Go.Proofs.YtohighedgdlflaaGreatDoor.PR
set_option linter.unusedVariables false
set_option linter.unusedSimpArgs false
theorem WrR.mk2 {w W : World} (xs : List ByteArray) (hb : Below w.heap.size w W) {n g : Nat} (hg : g = W.heap.size) (hn : n = xs.length) (hm : xs.length ≤ 9223372036854775807) {cs : Array Value} (hcs : cs = (xs.map Value.string).toArray) :
    WrR w xs (.returned (.slice (some ⟨g, 0, none⟩) n n)) (W.alloc (.cells cs 9)) := by subst hg; exact WrR.mk' xs hb hn hm hcs
theorem hexS_size (n : Nat) : (hexS n).size = 8 := by simp [hexS, hexL, ByteArray.size]
set_option maxRecDepth 100000 in
set_option maxHeartbeats 1000000 in
theorem w77_ok (x0 x1 x2 x3 : Int) (a b : Nat) (ha : a < 100) (w : World) :
    Calls Tryz.prog 77 #[.agg #[.int .u64 x0, .int .i64 x1, .int .i64 x2, .int .u32 x3, .int .u32 a, .int .u32 b]] w (WrR w [⟨(Lib.decDigits a).toArray⟩]) := by
  go_enter Tryz.func77, Tryz.ntmps77
  go_wp2_with fail
  have hbl : Hid (Below w.heap.size w (w.alloc (.cells #[.int .u64 x0, .int .i64 x1, .int .i64 x2, .int .u32 x3, .int .u32 a, .int .u32 b] 35))) := below_alloc (Below.refl _ _) _
  refine (Tryz.strconv_Itoa_small a ha _).mono ?_
  rintro e w1 ⟨rfl, rfl⟩
  go_wp2_with fail
  go_ret
  refine WrR.mk2 _ hbl.out (by simp) rfl ?_ rfl; simp
set_option maxRecDepth 100000 in
set_option maxHeartbeats 1000000 in
theorem w82_ok (x0 x1 x2 x3 : Int) (a b : Nat) (w : World) :
    Calls Tryz.prog 82 #[.agg #[.int .u64 x0, .int .i64 x1, .int .i64 x2, .int .u32 x3, .int .u32 a, .int .u32 b]] w (WrR w []) := by
  go_enter Tryz.func82, Tryz.ntmps82
  go_wp2_with fail
  have hbl : Hid (Below w.heap.size w (w.alloc (.cells #[.int .u64 x0, .int .i64 x1, .int .i64 x2, .int .u32 x3, .int .u32 a, .int .u32 b] 35))) := below_alloc (Below.refl _ _) _
  go_ret
  exact ⟨_, rfl, Kd.R_nil _ _ _ _ _, hbl.out⟩
set_option maxRecDepth 100000 in
set_option maxHeartbeats 1000000 in
theorem w84_ok (x0 x1 x2 x3 : Int) (a b : Nat) (ha : a < 4294967296) (w : World) :
    Calls Tryz.prog 84 #[.agg #[.int .u64 x0, .int .i64 x1, .int .i64 x2, .int .u32 x3, .int .u32 a, .int .u32 b]] w (WrR w [hexS a]) := by
  go_enter Tryz.func84, Tryz.ntmps84
  go_wp2_with fail
  have hbl : Hid (Below w.heap.size w (w.alloc (.cells #[.int .u64 x0, .int .i64 x1, .int .i64 x2, .int .u32 x3, .int .u32 a, .int .u32 b] 35))) := below_alloc (Below.refl _ _) _
  refine (hex_ok a ha _).mono ?_
  rintro e w1 ⟨rfl, hb⟩
  have HB := Lib.hid (hbl.out.trans (hb.mono hbl.out.size))
  clear hb
  go_wp2_with fail
  go_ret
  refine WrR.mk2 _ HB.out (by simp) rfl ?_ rfl; simp
set_option maxRecDepth 100000 in
set_option maxHeartbeats 1000000 in
theorem w80_ok (x0 x1 x2 x3 : Int) (a b : Nat) (ha : a < 4294967296) (hb : b < 4294967296) (w : World) :
    Calls Tryz.prog 80 #[.agg #[.int .u64 x0, .int .i64 x1, .int .i64 x2, .int .u32 x3, .int .u32 a, .int .u32 b]] w (WrR w [hexS b ++ hexS a]) := by
  go_enter Tryz.func80, Tryz.ntmps80
  go_wp2_with fail
  have hbl : Hid (Below w.heap.size w (w.alloc (.cells #[.int .u64 x0, .int .i64 x1, .int .i64 x2, .int .u32 x3, .int .u32 a, .int .u32 b] 35))) := below_alloc (Below.refl _ _) _
  have hadd : ∀ W : World, (Op.stringOp .add (hexS b) (hexS a)).run Tryz.prog W = .ok (.string (hexS b ++ hexS a)) W := fun W => run_string_add_sum W _ _ (by rw [hexS_size, hexS_size]; omega)
  go_region_with (first
    | (go_at_call 36; with_reducible refine (hex_ok b hb _).mono ?_; rintro e w5 ⟨rfl, hb5⟩; have HB5 := Lib.hid ((below_drew hbl.out).trans (hb5.mono (by simp))); have hc5 : w5.cell? ⟨w.heap.size, 4, none⟩ = some (.int .u32 a) := cell_later hb5 (by simp [World.cell?_alloc_new]); clear hb5)
    | (go_at_call 36; with_reducible refine (hex_ok a ha _).mono ?_; rintro e w6 ⟨rfl, hb6⟩; have HB6 := Lib.hid (HB5.out.trans (hb6.mono HB5.out.size)); clear hb6))
  all_goals
    go_wp2_with fail
    go_ret
    refine WrR.mk2 _ HB6.out (by simp) rfl ?_ rfl; simp
end Go.Proofs.YtohighedgdlflaaGreatDoor

/- strconv.ParseUint at base 16: eight digits that trace.hex wrote are read. -/
namespace Go.Proofs.YtohighedgdlflaaGreatDoor
open Go.Shelf Go.RowKit Go.Sort Go.Lib Go.Proofs.YtohighedgdlflaaGreatDoorW.PrintWords Go.Proofs.YtohighedgdlflaaGreatDoor.PR
set_option linter.unusedVariables false
set_option linter.unusedSimpArgs false
theorem lower_ok (c : Int) (w : World) : Calls Tryz.prog 151 #[.int .u8 c] w fun e w' => e = .returned (.int .u8 (bits .or .u8 c 32)) ∧ w' = w := by
  go_enter Tryz.func151, Tryz.ntmps151
  go_wp2_with fail
  go_ret
  exact ⟨rfl, rfl⟩
theorem hexDig_lo {d : Nat} (h : d < 10) : ((hexDig d).toNat : Int) = 48 + d := by
  rcases (show d = 0 ∨ d = 1 ∨ d = 2 ∨ d = 3 ∨ d = 4 ∨ d = 5 ∨ d = 6 ∨ d = 7 ∨ d = 8 ∨ d = 9 by omega) with h | h | h | h | h | h | h | h | h | h <;> subst h <;> rfl
theorem hexDig_hi {d : Nat} (h : ¬ d < 10) (h2 : d < 16) : ((hexDig d).toNat : Int) = 87 + d := by
  rcases (show d = 10 ∨ d = 11 ∨ d = 12 ∨ d = 13 ∨ d = 14 ∨ d = 15 by omega) with h | h | h | h | h | h <;> subst h <;> rfl
theorem or_hi {d : Nat} (h : ¬ d < 10) (h2 : d < 16) : bits .or .u8 (87 + (d : Int)) 32 = 87 + d := by
  rcases (show d = 10 ∨ d = 11 ∨ d = 12 ∨ d = 13 ∨ d = 14 ∨ d = 15 by omega) with h | h | h | h | h | h <;> subst h <;> decide
set_option maxHeartbeats 8000000 in
set_option maxRecDepth 100000 in
theorem pu136_ok (n : Nat) (hn : n < 4294967296) (w : World) :
    Calls Tryz.prog 136 #[.string (hexS n), .int .i64 16, .int .i64 32] w fun e w' => e = .returned (.tuple #[.int .u64 n, .nilIface]) ∧ Below w.heap.size w w' := by
  have hemp : (hexS n).toList.isEmpty = false := by
    rw [← decide_eq_emptyBytes]
    exact decide_eq_false (fun h => by have := hexS_size n; rw [h] at this; simp at this)
  have hcv := Lib.run_convert_string_bytes (P := Tryz.prog) w 9 37 5 (hexS n) (u := .string) Tryz.underlying9 Tryz.underlying37 Tryz.underlying5
  have hB : ∀ j, j < 8 → (Lib.bytesWorld w 5 (hexS n)).cell? ⟨w.heap.size, j, none⟩ = some (.int .u8 (hexAt n j).toNat) := fun j hj => by
    rw [Lib.bytesWorld_cell w 5 (hexS n) j (by rw [hexS_size]; omega)]
    simp [hexS, hexL, List.getD, hj]
  have hbl : Below w.heap.size w (Lib.bytesWorld w 5 (hexS n)) := bytesWorld_below w 5 (hexS n)
  obtain ⟨W1, hW1⟩ : ∃ W1, W1 = Lib.bytesWorld w 5 (hexS n) := ⟨_, rfl⟩
  rw [← hW1] at hcv hB hbl
  clear hW1
  have HBl := Lib.hid hbl
  clear hbl
  have hmv : IntKind.u64.wrap (IntKind.u64.wrap 4294967296 - 1) = 4294967295 := by
    rw [IntKind.wrap_u64, IntKind.wrap_u64]
    decide
  have hsz : (hexS n).size = 8 := hexS_size n
  rw [hsz] at hcv
  obtain ⟨s, hs⟩ : ∃ s, s = hexS n := ⟨_, rfl⟩
  rw [← hs] at hcv hemp hsz ⊢
  clear hs
  go_enter Tryz.func136, Tryz.ntmps136
  go_wp2
  go_loop [12, 13, 101] (fun vu vn vi => ∃ (k : Nat) (a : Int), vu = .bool false ∧ vn = .int .u64 a ∧ vi = .int .i64 k ∧ k ≤ 8 ∧ Hid (a = (n / 16 ^ (8 - k) : Nat)))
    (fun _ _ vi => 8 - (RowKit.intOf vi).toNat)
  case atStart => exact ⟨0, 0, rfl, rfl, rfl, by omega, by show (0 : Int) = _; simp; omega⟩
  case round =>
    obtain ⟨k, a, rfl, rfl, rfl, hk, hh⟩ := hrel
    obtain ⟨acc, hacc⟩ : ∃ acc : Nat, acc = n / 16 ^ (8 - k) := ⟨_, rfl⟩
    have ha : a = acc := by rw [hh.out, hacc]
    by_cases hkn : k < 8
    · have hc := hB k hkn
      obtain ⟨d, hd⟩ : ∃ d, d = n / 16 ^ (7 - k) % 16 := ⟨_, rfl⟩
      have hd16 : d < 16 := by omega
      have hnext : acc * 16 + d = n / 16 ^ (8 - (k + 1)) := by
        have h1 := hacc
        rw [show 8 - k = (7 - k) + 1 by omega, Nat.pow_succ, ← Nat.div_div_eq_div_mul] at h1
        rw [show 8 - (k + 1) = 7 - k by omega, h1, hd]
        omega
      have hb32 : acc * 16 + d < 4294967296 := by
        rw [hnext]
        exact Nat.lt_of_le_of_lt (Nat.div_le_self _ _) hn
      have hx : hexAt n k = hexDig d := by unfold hexAt; rw [hd]
      rw [hx] at hc
      have Hnext : Hid (a * 16 + (d : Int) = (n / 16 ^ (8 - (k + 1)) : Nat)) := by
        show a * 16 + (d : Int) = _
        rw [← hnext, ha]; norm_cast
      clear hB hx hnext hd hh
      by_cases hlo : d < 10
      · rw [hexDig_lo hlo] at hc
        have i1 : a * 16 + (d : Int) ≤ 4294967295 := by omega
        have i2 : (0 : Int) ≤ a := by omega
        obtain ⟨e, he⟩ : ∃ e : Int, e = (d : Int) := ⟨_, rfl⟩
        have i3 : (0 : Int) ≤ e := by omega
        have i4 : e ≤ 9 := by omega
        rw [← he] at i1 hc Hnext
        clear hd16 hlo hb32 hacc ha he
        go_wp2_with fail
        refine ⟨⟨k + 1, a * 16 + e, rfl, (by first | rfl | (congr 1; omega)), (by first | rfl | (congr 1; omega)), by omega, Hnext⟩, by simp [RowKit.intOf]; omega⟩
      · rw [hexDig_hi hlo hd16] at hc
        have hor := or_hi hlo hd16
        have i1 : a * 16 + (d : Int) ≤ 4294967295 := by omega
        have i2 : (0 : Int) ≤ a := by omega
        obtain ⟨e, he⟩ : ∃ e : Int, e = (d : Int) := ⟨_, rfl⟩
        have i3 : (10 : Int) ≤ e := by omega
        have i4 : e ≤ 15 := by omega
        rw [← he] at i1 hc Hnext hor
        clear hd16 hlo hb32 hacc ha he
        go_wp2_with fail
        refine (lower_ok _ _).mono ?_
        rw [hor]
        rintro e' w' ⟨rfl, rfl⟩
        go_wp2_with fail
        refine (lower_ok _ _).mono ?_
        rw [hor]
        rintro e' w' ⟨rfl, rfl⟩
        go_wp2_with fail
        refine (lower_ok _ _).mono ?_
        rw [hor]
        rintro e' w' ⟨rfl, rfl⟩
        go_wp2_with fail
        refine ⟨⟨k + 1, a * 16 + e, rfl, (by first | rfl | (congr 1; omega)), (by first | rfl | (congr 1; omega)), by omega, Hnext⟩, by simp [RowKit.intOf]; omega⟩
    · obtain rfl : k = 8 := by omega
      have hacc2 : a = n := by rw [hh.out]; simp
      subst hacc2
      go_wp2
      go_ret2
      exact ⟨rfl, HBl.out⟩
theorem pu110_ok (n : Nat) (hn : n < 4294967296) (w : World) :
    Calls Tryz.prog 110 #[.string (hexS n), .int .i64 16, .int .i64 32] w fun e w' => e = .returned (.tuple #[.int .u64 n, .nilIface]) ∧ Below w.heap.size w w' := by
  have hn2 : (n : Int) < 4294967296 := by omega
  go_enter Tryz.func110, Tryz.ntmps110
  go_wp2_with fail
  refine (pu136_ok n hn _).mono ?_
  rintro e w1 ⟨rfl, hb⟩
  have HB := Lib.hid hb
  clear hb
  go_wp2_with fail
  refine bodyPost_ret (results_tmp2 rfl _ _ _) rfl ?_
  exact ⟨rfl, HB.out⟩
theorem must_ok (w : World) : Calls Tryz.prog 75 #[.bool true] w fun e w' => e = .returned (.tuple #[]) ∧ w' = w := by
  go_enter Tryz.func75, Tryz.ntmps75
  go_wp2_with fail
  go_end0
  exact ⟨rfl, rfl⟩
abbrev digitS : ByteArray := ⟨#[48, 49, 50, 51, 52, 53, 54, 55, 56, 57, 97, 98, 99, 100, 101, 102]⟩
theorem dw_nil {α : Type} (p : α → Bool) (l : List α) (h : ∀ b ∈ l, p b = true) : l.dropWhile p = [] := by
  induction l with
  | nil => rfl
  | cons x l ih => rw [List.dropWhile_cons, if_pos (h x (by simp))]; exact ih (fun b hb => h b (by simp [hb]))
theorem trim_hex (n : Nat) : Lib.trimS (hexS n).data.toList digitS.data.toList = [] := by
  have hall : ∀ b ∈ (hexL n).reverse, digitS.data.toList.contains b = true := by
    intro b hb
    rw [List.mem_reverse] at hb
    simp only [hexL, List.mem_map] at hb
    obtain ⟨j, _, rfl⟩ := hb
    have hd : n / 16 ^ (7 - j) % 16 < 16 := by omega
    unfold hexAt
    generalize n / 16 ^ (7 - j) % 16 = d at hd
    rcases (show d = 0 ∨ d = 1 ∨ d = 2 ∨ d = 3 ∨ d = 4 ∨ d = 5 ∨ d = 6 ∨ d = 7 ∨ d = 8 ∨ d = 9 ∨ d = 10 ∨ d = 11 ∨ d = 12 ∨ d = 13 ∨ d = 14 ∨ d = 15 by omega) with h | h | h | h | h | h | h | h | h | h | h | h | h | h | h | h <;> subst h <;> decide
  have h2 : (hexL n).reverse.dropWhile (digitS.data.toList.contains ·) = [] := by
    exact dw_nil _ _ hall
  unfold Lib.trimS Lib.trimRightS Lib.trimLeftS
  rw [show (hexS n).data.toList = hexL n by simp [hexS], h2]
  rfl
theorem unhex_ok (n : Nat) (hn : n < 4294967296) (w : World) :
    Calls Tryz.prog 76 #[.string (hexS n)] w fun e w' => e = .returned (.int .u32 n) ∧ Below w.heap.size w w' := by
  have hn2 : (n : Int) < 4294967296 := by omega
  have hsz : (hexS n).size = 8 := hexS_size n
  go_enter Tryz.func76, Tryz.ntmps76
  go_wp2_with fail
  refine (Tryz.strings_Trim_laid (hexS n) digitS _ (by rw [hsz]; omega) (by decide) (ascii_of_all (by decide))).mono ?_
  rintro e w1 ⟨rfl, hb⟩
  rw [trim_hex]
  have HB := Lib.hid hb
  clear hb
  go_wp2_with fail
  refine (must_ok _).mono ?_
  rintro e w2 ⟨rfl, rfl⟩
  go_wp2_with fail
  refine (pu110_ok n hn _).mono ?_
  rintro e w3 ⟨rfl, hb⟩
  have HB3 := Lib.hid (HB.out.trans (hb.mono HB.out.size))
  clear hb
  go_wp2_with fail
  go_ret
  exact ⟨rfl, HB3.out⟩
end Go.Proofs.YtohighedgdlflaaGreatDoor

/- trace.cutLeft at digits alone: nothing is left. -/
namespace Go.Proofs.YtohighedgdlflaaGreatDoor
open Go.Shelf Go.RowKit Go.Sort Go.Lib Go.Proofs.YtohighedgdlflaaGreatDoorW.PrintWords Go.Proofs.YtohighedgdlflaaGreatDoor.PR
set_option linter.unusedVariables false
set_option linter.unusedSimpArgs false
/-- A string of digits. -/
def Digits (s : ByteArray) : Prop := ∀ (j : Nat) (h : j < s.size), 48 ≤ (s[j]'h).toNat ∧ (s[j]'h).toNat < 58
abbrev tenS : ByteArray := ⟨#[48, 49, 50, 51, 52, 53, 54, 55, 56, 57]⟩
theorem tenS_at (q : Nat) (h : q < tenS.size) : (tenS[q]'h).toNat = 48 + q := by
  have h10 : q < 10 := h
  rcases (show q = 0 ∨ q = 1 ∨ q = 2 ∨ q = 3 ∨ q = 4 ∨ q = 5 ∨ q = 6 ∨ q = 7 ∨ q = 8 ∨ q = 9 by omega) with h | h | h | h | h | h | h | h | h | h <;> subst h <;> rfl
theorem iterPos_of {w : World} {k : Nat} {s : ByteArray} {p : Nat} (h : w.heap[k]? = some (.stringIter s p)) : w.iterPos k = p := by simp [World.iterPos, h]
set_option maxHeartbeats 8000000 in
set_option maxRecDepth 100000 in
theorem cutLeft_ok (s : ByteArray) (hs : Digits s) (w : World) :
    Calls Tryz.prog 112 #[.string s, .string tenS] w fun e w' => e = .returned (.string ⟨#[]⟩) ∧ Below w.heap.size w w' := by
  have HS := Lib.hid hs
  clear hs
  go_enter Tryz.func112, Tryz.ntmps112
  go_wp2_with fail
  go_loopw [5, 6, 7, 9] (fun v5 v6 v7 v9 wr => ∃ pos : Nat, pos ≤ s.size ∧ Hid (wr.heap[w.heap.size]? = some (.stringIter s pos)) ∧ Hid (Below w.heap.size w wr)) (fun _ _ _ _ wr => s.size - wr.iterPos w.heap.size)
  case atStart => exact ⟨0, by omega, World.iter_heap _ _ _, below_alloc (Below.refl _ _) _⟩
  case round =>
    obtain ⟨pos, hpos, HI, HB⟩ := hrel
    have hpos0 := iterPos_of HI.out
    by_cases hlt : pos < s.size
    · obtain ⟨hd1, hd2⟩ := HS.out pos hlt
      have hn := fun ty => run_next_ascii_at (P := Tryz.prog) wr w.heap.size s pos ty HI.out hlt (by omega)
      obtain ⟨d, hd⟩ : ∃ d : Nat, (s[pos]'hlt).toNat = 48 + d := ⟨(s[pos]'hlt).toNat - 48, by omega⟩
      rw [hd] at hn
      have hd10 : d < 10 := by omega
      have HI1 : Hid ((wr.iterAt w.heap.size s (pos + 1)).heap[w.heap.size]? = some (.stringIter s (pos + 1))) := iterAt_heap _ _ _ _ _ HI.out
      have HB1 : Hid (Below w.heap.size w (wr.iterAt w.heap.size s (pos + 1))) := below_iterAt HB.out (Nat.le_refl _) _ _
      obtain ⟨W1, hW1⟩ : ∃ W1, W1 = wr.iterAt w.heap.size s (pos + 1) := ⟨_, rfl⟩
      rw [← hW1] at hn HI1 HB1
      clear hd hd1 hd2 hW1 HI HB
      go_wp2_with fail
      go_loopw [7, 9] (fun v7 v9 wr => ∃ q : Nat, q ≤ 10 ∧ v7 = .bool (decide (d < q)) ∧ Hid (wr.heap[W1.heap.size]? = some (.stringIter tenS q)) ∧ Hid (Below W1.heap.size W1 wr)) (fun _ _ wr => 10 - wr.iterPos W1.heap.size)
      case atStart => exact ⟨0, by omega, by simp, World.iter_heap _ _ _, below_alloc (Below.refl _ _) _⟩
      case round =>
        clear hn
        obtain ⟨q, hq, rfl, HJ, HC⟩ := hrel
        have hq0 := iterPos_of HJ.out
        by_cases hql : q < 10
        · have hn2 := fun ty => run_next_ascii_at (P := Tryz.prog) wr W1.heap.size tenS q ty HJ.out hql (by rw [tenS_at q hql]; omega)
          rw [tenS_at q hql] at hn2
          have HJ1 : Hid ((wr.iterAt W1.heap.size tenS (q + 1)).heap[W1.heap.size]? = some (.stringIter tenS (q + 1))) := iterAt_heap _ _ _ _ _ HJ.out
          have HC1 : Hid (Below W1.heap.size W1 (wr.iterAt W1.heap.size tenS (q + 1))) := below_iterAt HC.out (Nat.le_refl _) _ _
          have hm1 := iterPos_of HJ1.out
          obtain ⟨W3, hW3⟩ : ∃ W3, W3 = wr.iterAt W1.heap.size tenS (q + 1) := ⟨_, rfl⟩
          rw [← hW3] at hn2 HJ1 HC1 hm1
          clear hW3
          by_cases hdq : d < q
          · have hdec : decide (d < q) = true := decide_eq_true hdq
            rw [hdec]
            go_wp2_with fail
            go_roundw
            case rel => exact ⟨q + 1, by omega, by simp; omega, HJ1, HC1⟩
            case measure => rw [hm1, hq0]; omega
          · have hdec : decide (d < q) = false := decide_eq_false hdq
            rw [hdec]
            go_wp2_with fail
            go_roundw
            case rel =>
              refine ⟨q + 1, by omega, ?_, HJ1, HC1⟩
              congr 1
              by_cases hdq2 : d = q
              · subst hdq2; simp
              · have : ¬ (48 + (d : Int)) = 48 + (q : Int) := by omega
                simp [show ¬ d < q + 1 by omega]; omega
            case measure => rw [hm1, hq0]; omega
        · obtain rfl : q = 10 := by omega
          have hn2 := fun ty => run_next_end_at (P := Tryz.prog) wr W1.heap.size tenS 10 ty HJ.out (by decide)
          have hdec : decide (d < 10) = true := decide_eq_true hd10
          rw [hdec]
          have HI2 : Hid (wr.heap[w.heap.size]? = some (.stringIter s (pos + 1))) := by
            show wr.heap[w.heap.size]? = _
            rw [HC.out.block _ (heap_lt' HI1.out)]; exact HI1.out
          have HB2 : Hid (Below w.heap.size w wr) := HB1.out.trans (HC.out.mono HB1.out.size)
          have hm2 := iterPos_of HI2.out
          go_wp2_with fail
          go_roundw
          case rel => exact ⟨pos + 1, by omega, HI2, HB2⟩
          case measure => rw [hm2, hpos0]; omega
    · have hn := fun ty => run_next_end_at (P := Tryz.prog) wr w.heap.size s pos ty HI.out hlt
      go_wp2_with fail
      go_ret
      exact ⟨rfl, HB.out⟩
end Go.Proofs.YtohighedgdlflaaGreatDoor

/- trace.forms: the table, as it lies in memory; what its write functions write. -/
namespace Go.Proofs.YtohighedgdlflaaGreatDoor
open Go.Shelf Go.RowKit Go.Sort Go.Lib Go.Proofs.YtohighedgdlflaaGreatDoorW.PrintWords Go.Proofs.YtohighedgdlflaaGreatDoor.PR
set_option linter.unusedVariables false
set_option linter.unusedSimpArgs false
set_option maxRecDepth 100000 in
set_option maxHeartbeats 1000000 in
theorem w70_ok (x0 x1 x2 x3 : Int) (a b : Nat) (ha : a < 4294967296) (hb : b < 4294967296) (w : World) :
    Calls Tryz.prog 70 #[.agg #[.int .u64 x0, .int .i64 x1, .int .i64 x2, .int .u32 x3, .int .u32 a, .int .u32 b]] w (WrR w [hexS a, hexS b]) := by
  go_enter Tryz.func70, Tryz.ntmps70
  go_wp2_with fail
  have hbl : Hid (Below w.heap.size w (w.alloc (.cells #[.int .u64 x0, .int .i64 x1, .int .i64 x2, .int .u32 x3, .int .u32 a, .int .u32 b] 35))) := below_alloc (Below.refl _ _) _
  go_region_with (first
    | (go_at_call 36; with_reducible refine (hex_ok a ha _).mono ?_; rintro e w5 ⟨rfl, hb5⟩; have HB5 := Lib.hid ((below_drew hbl.out).trans (hb5.mono (by simp))); have hc5 : w5.cell? ⟨w.heap.size, 5, none⟩ = some (.int .u32 b) := cell_later hb5 (by simp [World.cell?_alloc_new]); clear hb5)
    | (go_at_call 36; with_reducible refine (hex_ok b hb _).mono ?_; rintro e w6 ⟨rfl, hb6⟩; have HB6 := Lib.hid (HB5.out.trans (hb6.mono HB5.out.size)); clear hb6))
  all_goals
    go_wp2_with fail
    go_ret
    exact WrR.mk' _ HB6.out rfl (by simp) rfl
end Go.Proofs.YtohighedgdlflaaGreatDoor

/- trace.forms: the table, as it lies in memory; what its write functions write. -/
namespace Go.Proofs.YtohighedgdlflaaGreatDoor
open Go.Shelf Go.RowKit Go.Sort Go.Lib Go.Proofs.YtohighedgdlflaaGreatDoorW.PrintWords Go.Proofs.YtohighedgdlflaaGreatDoor.PR
set_option linter.unusedVariables false
set_option linter.unusedSimpArgs false
set_option maxRecDepth 100000 in
set_option maxHeartbeats 1000000 in
theorem w72_ok (x0 x1 x2 x3 : Int) (a b n : Nat) (ha1 : a < 7) (hb : b < 4294967296) (w : World) (hF : Frm w n) :
    Calls Tryz.prog 72 #[.agg #[.int .u64 x0, .int .i64 x1, .int .i64 x2, .int .u32 x3, .int .u32 a, .int .u32 b], .pointer (some ⟨n + 1, 0, none⟩)] w (WrR w [faultS.getD a ByteArray.empty, hexS b]) := by
  obtain ⟨s, hs⟩ : ∃ s, s = faultS.getD a ByteArray.empty := ⟨_, rfl⟩
  rw [← hs]
  have hcell : Hid (∀ W, Below (w.heap.size + 1) (w.alloc (.cells #[.int .u64 x0, .int .i64 x1, .int .i64 x2, .int .u32 x3, .int .u32 a, .int .u32 b] 35)) W → W.cell? ⟨n + 1, 0, none⟩ = some (.slice (some ⟨n, 0, none⟩) 7 7) ∧ W.cell? ⟨n, a, none⟩ = some (.string s) ∧ W.cell? ⟨w.heap.size, 4, none⟩ = some (.int .u32 a) ∧ W.cell? ⟨w.heap.size, 5, none⟩ = some (.int .u32 b)) := by
    intro W hW
    have := hF.lt
    refine ⟨?_, ?_, ?_, ?_⟩
    · rw [hW.cell (by simp; omega), (below_alloc (Below.refl w.heap.size w) _).cell (by simp; omega)]; simp [World.cell?, hF.ptr]
    · rw [hW.cell (by simp; omega), (below_alloc (Below.refl w.heap.size w) _).cell (by simp; omega), hs]
      simp only [World.cell?, hF.names]
      rcases (show a = 0 ∨ a = 1 ∨ a = 2 ∨ a = 3 ∨ a = 4 ∨ a = 5 ∨ a = 6 by omega) with h | h | h | h | h | h | h <;> subst h <;> rfl
    · rw [hW.cell (by simp)]; simp [World.cell?_alloc_new]
    · rw [hW.cell (by simp)]; simp [World.cell?_alloc_new]
  have ha2 : (0 : Int) ≤ a ∧ (a : Int) < 7 := by omega
  clear hs hF
  go_enter Tryz.func72, Tryz.ntmps72
  go_wp2_with fail
  have hbl : Hid (Below w.heap.size w (w.alloc (.cells #[.int .u64 x0, .int .i64 x1, .int .i64 x2, .int .u32 x3, .int .u32 a, .int .u32 b] 35))) := below_alloc (Below.refl _ _) _
  obtain ⟨c1, c2, c3, c4⟩ := hcell.out _ (Below.refl _ _)
  obtain ⟨c1', c2', c3', c4'⟩ := hcell.out _ (below_drew (Below.refl _ _))
  go_region_with (go_at_call 36; with_reducible refine (hex_ok b hb _).mono ?_; rintro e w5 ⟨rfl, hb5⟩; have HB5 := Lib.hid ((below_drew hbl.out).trans (hb5.mono (by simp))); obtain ⟨d1, d2, d3, d4⟩ := hcell.out _ ((below_drew (Below.refl _ _)).trans (hb5.mono (by simp))); clear hb5)
  all_goals
    go_wp2_with fail
    go_ret
    exact WrR.mk' _ HB5.out rfl (by simp) rfl
end Go.Proofs.YtohighedgdlflaaGreatDoor

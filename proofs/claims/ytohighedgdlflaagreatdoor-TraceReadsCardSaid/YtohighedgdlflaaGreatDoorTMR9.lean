/- Texts of a proof that TraceReads holds, for every row of bytes, merged in order. -/
import Derived.Test.YtohighedgdlflaaGreatDoorTMR5
import Derived.Test.YtohighedgdlflaaGreatDoorTMR2
import Derived.Test.YtohighedgdlflaaGreatDoorTMR4
import Derived.Test.YtohighedgdlflaaGreatDoorTPRx3
/- NewWriter, Raw and Done of package wire, where nothing goes wrong. -/
namespace Go.Proofs.YtohighedgdlflaaGreatDoor
open Go.RowKit Go.Proofs.YtohighedgdlflaaGreatDoorW.PrintWords Go.Proofs.YtohighedgdlflaaGreatDoor.PR
set_option linter.unusedVariables false
set_option linter.unusedSimpArgs false
end Go.Proofs.YtohighedgdlflaaGreatDoor

/- trace.Encode writes what encBytes says. -/
namespace Go.Proofs.YtohighedgdlflaaGreatDoor
open Go.RowKit Go.Proofs.YtohighedgdlflaaGreatDoorW.PrintWords Go.Proofs.YtohighedgdlflaaGreatDoor.PR
set_option linter.unusedVariables false
set_option linter.unusedSimpArgs false
/-- What the trace of l is, but for its sum. -/
def encBody (l : List S35) : List Int := leb 4 1381256259 ++ leb 4 l.length ++ l.flatMap rowB
def encBytes (l : List S35) : List Int := encBody l ++ leb 4 (Crc.crc (encBody l))
def encOk (l : List S35) : Bool := decide (l.length ≤ 1000000) && l.all mayB
/-- The two results for an answer. -/
def EncR (w : World) (l : List S35) (e : Ending) (w' : World) : Prop :=
  ∃ v, e = .returned (.tuple #[v, .int .i64 (if encOk l = true then 0 else 220)]) ∧ Kd.R (Kd.int .u8) 5 w' w.heap.size (fun _ => True) v (if encOk l = true then encBytes l else []) ∧ Below w.heap.size w w'
theorem EncR.bad {w W : World} {l : List S35} (hb : encOk l = false) (h : Below w.heap.size w W) : EncR w l (.returned (.tuple #[.slice none 0 0, .int .i64 220])) W :=
  ⟨.slice none 0 0, by rw [hb]; rfl, by rw [hb]; exact Kd.R_nil _ _ _ _ _, h⟩
theorem flat_len (l : List S35) : (l.flatMap rowB).length = 22 * l.length := by
  induction l with
  | nil => rfl
  | cons o l ih => rw [List.flatMap_cons, List.length_append, rowB_length, ih, List.length_cons]; omega
theorem encBody_len (l : List S35) : (encBody l).length = 8 + 22 * l.length := by
  simp only [encBody, List.length_append, leb_length, flat_len]
theorem leb_bytes (n : Nat) (x : Int) : Crc.Bytes (leb n x) := by
  intro y hy
  simp only [leb, List.mem_map] at hy
  obtain ⟨i, _, rfl⟩ := hy
  omega
theorem encBody_bytes (l : List S35) : Crc.Bytes (encBody l) := by
  intro y hy
  simp only [encBody, List.mem_append, List.mem_flatMap, rowB] at hy
  rcases hy with (h | h) | ⟨o, _, h⟩
  · exact leb_bytes _ _ y h
  · exact leb_bytes _ _ y h
  · rcases h with ((((h | h) | h) | h) | h) | h <;> exact leb_bytes _ _ y h
theorem crc_b {xs : List Int} (h : Crc.Bytes xs) : 0 ≤ Crc.crc xs ∧ Crc.crc xs < 4294967296 := by
  have h1 := Crc.stN_lt (s := 4294967295) h (by decide)
  have := Nat.xor_lt_two_pow h1 (show 4294967295 < 2 ^ 32 by decide)
  unfold Crc.crc
  omega
end Go.Proofs.YtohighedgdlflaaGreatDoor

/- What the document's own writers of numbers give: decS and hexS. -/
namespace Go.Proofs.YtohighedgdlflaaGreatDoor
open Go.Shelf Go.RowKit Go.Sort Go.Lib Go.Proofs.YtohighedgdlflaaGreatDoorW.PrintWords Go.Proofs.YtohighedgdlflaaGreatDoor.PR
set_option linter.unusedVariables false
set_option linter.unusedSimpArgs false
theorem w64_small (n : Nat) (h : n < 9223372036854775808) : wrap64 (n : Int) = (n : Int) := by unfold wrap64; omega
theorem w64_succ (i : Nat) (h : i + 1 < 9223372036854775808) : wrap64 ((i : Int) + 1) = ((i + 1 : Nat) : Int) := by
  have := w64_small (i + 1) h
  rw [← this]; congr 1
theorem i8 {i j : Nat} (h : i = 8 - (j + 1)) : (i : Int) < 8 := by omega
end Go.Proofs.YtohighedgdlflaaGreatDoor

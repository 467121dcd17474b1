/- The law TraceSums of package trace answers true, for every cell, every two rows of observations and every place to stop. -/
import Derived.Test.YtohighedgdlflaaGreatDoorTMS1
import Derived.Test.YtohighedgdlflaaGreatDoorTMS2
import Derived.Test.YtohighedgdlflaaGreatDoorTMS3
import Derived.Test.YtohighedgdlflaaGreatDoorTMS8
import Derived.Test.YtohighedgdlflaaGreatDoorTMS4
import Derived.Test.YtohighedgdlflaaGreatDoorTMS6
/- Numbers of the lowest byte first: read and written. -/
namespace Go.Proofs.YtohighedgdlflaaGreatDoor
set_option linter.unusedVariables false
set_option linter.unusedSimpArgs false
/-- The number that some bytes are, the lowest first. -/
def lev : List Int → Int
  | [] => 0
  | b :: bs => b + 256 * lev bs
end Go.Proofs.YtohighedgdlflaaGreatDoor

/- What Decode answers, in plain Lean. -/
namespace Go.Proofs.YtohighedgdlflaaGreatDoor
open Go.Proofs.YtohighedgdlflaaGreatDoor.PR
set_option linter.unusedVariables false
set_option linter.unusedSimpArgs false
/-- The row at a place. -/
def rowAt (bs : List Int) (p : Nat) : S35 := ⟨lev ((bs.drop p).take 8), lev ((bs.drop (p + 8)).take 1), lev ((bs.drop (p + 9)).take 1), lev ((bs.drop (p + 10)).take 4), lev ((bs.drop (p + 14)).take 4), lev ((bs.drop (p + 18)).take 4)⟩
/-- m rows from place p on, behind those that have been read; the place of the first that may not be, -1: there is none. -/
def decRows (bs : List Int) : Nat → Nat → List S35 → List S35 × Int
  | 0, _, acc => (acc, -1)
  | m + 1, p, acc => if mayB (rowAt bs p) = true then decRows bs m (p + 22) (acc ++ [rowAt bs p]) else ([], p)
def magicL : List Int := [67, 76, 84, 82]
/-- Of a text that begins as it must. -/
def decBody (bs : List Int) : List S35 × Int :=
  if bs.length < 12 then ([], 4)
  else if (bs.length : Int) ≠ 12 + 22 * lev ((bs.drop 4).take 4) ∨ lev ((bs.drop 4).take 4) > 1000000 then ([], 4)
  else if lev ((bs.drop (bs.length - 4)).take 4) ≠ Crc.crc (bs.take (bs.length - 4)) then ([], ((bs.length - 4 : Nat) : Int))
  else decRows bs (lev ((bs.drop 4).take 4)).toNat 8 []
/-- The first of the four first bytes that is another one: 4: there is none. -/
def badMagic (bs : List Int) (k : Nat) : Bool := bs.getD k (-1) != magicL.getD k 0
def decode (bs : List Int) : List S35 × Int :=
  if badMagic bs 0 = true then ([], 0) else if badMagic bs 1 = true then ([], 1) else if badMagic bs 2 = true then ([], 2) else if badMagic bs 3 = true then ([], 3) else decBody bs
end Go.Proofs.YtohighedgdlflaaGreatDoor

/- Plain law: what was written as bytes is read; a byte that is another one is told. -/
namespace Go.Proofs.YtohighedgdlflaaGreatDoor
open Go.Proofs.YtohighedgdlflaaGreatDoor.PR
set_option linter.unusedVariables false
set_option linter.unusedSimpArgs false
namespace Crc
end Crc
end Go.Proofs.YtohighedgdlflaaGreatDoor

/- Plain law: Decode of what Encode wrote; of one byte less; of another byte. -/
namespace Go.Proofs.YtohighedgdlflaaGreatDoor
open Go.Proofs.YtohighedgdlflaaGreatDoor.PR
set_option linter.unusedVariables false
set_option linter.unusedSimpArgs false
end Go.Proofs.YtohighedgdlflaaGreatDoor

/- Plain law: Decode of what Encode wrote is what was handed in. -/
namespace Go.Proofs.YtohighedgdlflaaGreatDoor
open Go.Proofs.YtohighedgdlflaaGreatDoor.PR
set_option linter.unusedVariables false
set_option linter.unusedSimpArgs false
end Go.Proofs.YtohighedgdlflaaGreatDoor

/- Plain law: the pieces of a text that was written, and their words. -/
namespace Go.Proofs.YtohighedgdlflaaGreatDoor
open Go.Shelf Go.RowKit Go.Sort Go.Lib Go.Proofs.YtohighedgdlflaaGreatDoorW.PrintWords Go.Proofs.YtohighedgdlflaaGreatDoor.PR
set_option linter.unusedVariables false
set_option linter.unusedSimpArgs false
end Go.Proofs.YtohighedgdlflaaGreatDoor

/- What the calls of package wire's Reader that a trace uses come to. -/
namespace Go.Proofs.YtohighedgdlflaaGreatDoor
open Go.RowKit Go.Proofs.YtohighedgdlflaaGreatDoorW.PrintWords Go.Proofs.YtohighedgdlflaaGreatDoor.PR
set_option linter.unusedVariables false
set_option linter.unusedSimpArgs false
/-- Reader at block g: its bytes (a row of its own), how many have been read, nothing wrong. -/
structure Rd (w : World) (base g gb cap : Nat) (bs : List Int) (at_ : Nat) : Prop where
  mk' ::
  base_g : base ≤ g
  base_gb : base ≤ gb
  le : at_ ≤ bs.length
  small : bs.length ≤ 67108864
  cells : w.heap[g]? = some (.cells #[.slice (some ⟨gb, 0, none⟩) bs.length cap, .int .i64 at_, .int .i64 0, .int .i64 0] 126 (0, 0))
  own : w.ownsRow base 5 1 (.slice (some ⟨gb, 0, none⟩) bs.length cap) bs.length (nums .u8 bs)
theorem Rd.byte {w : World} {base g gb cap at_ : Nat} {bs : List Int} (h : Rd w base g gb cap bs at_) (i : Nat) (hi : i < bs.length) : w.cell? ⟨gb, i, none⟩ = some (.int .u8 (bs.getD i 0)) := by
  have := (own_at h.own i (by omega) (by omega)).1
  simpa [rd] using this
/-- What a read leaves. -/
structure Rk (w w' : World) (base g gb cap : Nat) (bs : List Int) (at_ : Nat) : Prop where
  mk' ::
  rd : Rd w' base g gb cap bs at_
  keep : KeepBut w w' g none
  below : ∀ (B : Nat) (w0 : World), B ≤ g → Below B w0 w → Below B w0 w'
theorem Rd.step {w : World} {base g gb cap at_ n m : Nat} {bs : List Int} (h : Rd w base g gb cap bs at_) (hn : at_ + n ≤ bs.length) : Rk w ((w.setCell ⟨g, 1, none⟩ (.int .i64 ((at_ + n : Nat) : Int))).drewN m) base g gb cap bs (at_ + n) := by
  have hne : gb ≠ g := by
    rintro rfl
    rcases h.own.2 with ⟨h, _⟩ | ⟨g', cap', cur, e, _, hh, _⟩
    · cases h
    · injection e with e _ _; injection e with e; injection e with e; subst e
      rw [h.cells] at hh; injection hh with hh; injection hh with _ hh; cases hh
  refine ⟨⟨h.base_g, h.base_gb, hn, h.small, ?_, ?_⟩, ⟨?_, fun i hi hg _ => ?_⟩, fun B w0 hB hb => ?_⟩
  · show ((w.setCell _ _).heap)[g]? = _
    simp [World.setCell, Array.getElem?_modify, h.cells]
  · refine own_move (w := w) h.own (fun k hk => ?_)
    have : gb = k := by simpa [Value.ownBlock] using hk
    subst this
    exact Below.heap_setCell _ _ _ _ hne
  · simp [World.setCell, World.drewN]
  · exact Below.heap_setCell _ _ _ _ hg
  · exact pw_below_drewN (hb.setCell (p := ⟨g, 1, none⟩) hB _) m
end Go.Proofs.YtohighedgdlflaaGreatDoor

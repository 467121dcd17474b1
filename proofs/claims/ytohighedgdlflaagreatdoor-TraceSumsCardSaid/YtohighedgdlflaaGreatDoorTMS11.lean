/- The law TraceSums of package trace answers true, for every cell, every two rows of observations and every place to stop. -/
import Derived.Test.YtohighedgdlflaaGreatDoorTMS10
import Derived.Test.YtohighedgdlflaaGreatDoorTMS2
import Derived.Test.YtohighedgdlflaaGreatDoorTMS3
import Derived.Test.YtohighedgdlflaaGreatDoorTMS9
import Derived.Lib.SlBytesConst
/- trace.Decode answers as decode says. -/
namespace Go.Proofs.YtohighedgdlflaaGreatDoor
open Go.RowKit Go.Proofs.YtohighedgdlflaaGreatDoorW.PrintWords Go.Proofs.YtohighedgdlflaaGreatDoor.PR
set_option linter.unusedVariables false
set_option linter.unusedSimpArgs false
/-- The three results for an answer. -/
def DecR (w : World) (r : List S35 × Int) (e : Ending) (w' : World) : Prop :=
  ∃ v, e = .returned (.tuple #[v, .int .i64 (if r.2 < 0 then 0 else 221), .int .i64 (if r.2 < 0 then 0 else r.2)]) ∧ Kd.R k35 35 w' w.heap.size (fun _ => True) v r.1 ∧ Below w.heap.size w w'
theorem DecR.bad {w W : World} {p : Int} (hp : 0 ≤ p) (h : Below w.heap.size w W) : DecR w ([], p) (.returned (.tuple #[.slice none 0 0, .int .i64 221, .int .i64 p])) W :=
  ⟨.slice none 0 0, by simp [show ¬ p < 0 by omega], Kd.R_nil _ _ _ _ _, h⟩
theorem Rd.below {w W : World} {base g gb cap at_ : Nat} {bs : List Int} (h : Rd w base g gb cap bs at_) (hb : Below w.heap.size w W) : Rd W base g gb cap bs at_ :=
  ⟨h.base_g, h.base_gb, h.le, h.small, (hb.block g (heap_lt h.cells)).trans h.cells, pw_own_below h.own hb⟩
theorem Rd.gb_lt {w : World} {base g gb cap at_ : Nat} {bs : List Int} (h : Rd w base g gb cap bs at_) : gb < w.heap.size := own_lt h.own gb rfl
theorem Rd.keep {w W : World} {base g gb cap at_ g2 : Nat} {bs : List Int} (h : Rd w base g gb cap bs at_) (hk : KeepBut w W g2 none) (h1 : g ≠ g2) (h2 : gb ≠ g2) : Rd W base g gb cap bs at_ :=
  ⟨h.base_g, h.base_gb, h.le, h.small, (hk.2 g (heap_lt h.cells) h1 (by simp)).trans h.cells, own_move h.own (fun k hkk => by
    have : gb = k := by simpa [Value.ownBlock] using hkk
    subst this
    exact hk.2 gb h.gb_lt h2 (by simp))⟩
theorem Rd.grown {w W : World} {base g gb cap at_ b2 : Nat} {bs : List Int} {ok : Nat → Prop} {v : Value} {xs : List S35} (h : Rd w base g gb cap bs at_) (ho : Kd.R k35 35 w b2 ok v xs) (hg : w.grownBy W v.ownBlock) : Rd W base g gb cap bs at_ := by
  have n1 : some g ≠ v.ownBlock := Kd.R_ne ho h.cells (by decide)
  have n2 : some gb ≠ v.ownBlock := by
    obtain ⟨cs, hc⟩ := own_typed h.own gb rfl
    exact Kd.R_ne ho hc (by decide)
  exact ⟨h.base_g, h.base_gb, h.le, h.small, (hg.block g (heap_lt h.cells) n1).trans h.cells, own_move h.own (fun k hkk => by
    have : gb = k := by simpa [Value.ownBlock] using hkk
    subst this
    exact hg.block gb h.gb_lt n2)⟩
end Go.Proofs.YtohighedgdlflaaGreatDoor

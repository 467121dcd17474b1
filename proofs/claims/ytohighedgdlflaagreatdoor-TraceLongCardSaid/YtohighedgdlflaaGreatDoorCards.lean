/-
  DERIVED. GIVEN WITH THE SEED: THE CARDS: each row of YtohighedgdlflaaGreatDoorRows.lean that lists a variable, with what it lists TIED to the program's text (the seventh form; the later family's looks); each row that meets fmt, with fmt's text TOLD by the authors' own Lean function (tested against real Go, not proved from fmt's source: count such statements apart). THE CARD IS WHAT COUNTS. Prove the row's statement (the work); the ties are given (YtohighedgdlflaaGreatDoorTie.lean); close each card by the builder's one call (the guide's Derived/Test/ToyasCard.lean, 'card_holds'). Laid BY PROGRAM, IN A SANDBOX (cutbox-door.mjs). By AI agents, Wed Nov 11 2026. No macro, syntax, notation, axiom, sorry.
-/
import Derived.Test.YtohighedgdlflaaGreatDoorRows
import GoSem.ClaimSeven
namespace Go.Proofs.YtohighedgdlflaaGreatDoor
namespace Rows

/-- THE TIED CARD OF 'cloisterlaw22.TraceTells'. -/
def traceTellsCard : Claim7 := { stood := { row := traceTellsRow, standIns := [], harness := (true, "e3fe642020651501da862c43582f28515ac3ce876be560b2cd3adb0ae4898f29"), looks := true }, kinds := [], alts := [], laidByText := true, laidKinds := [.data, .data, .data, .data, .sentinel, .sentinel, .pinned], laidTests := true, laidLooks := .later }
def TraceTellsCardSaid : Prop := Claim7.holds Tryz.pinned (.plain (OpenSpec.ofChange traceTellsSpec)) traceTellsCard

/-- THE TIED CARD OF 'cloisterlaw22.TraceReads'. -/
def traceReadsCard : Claim7 := { stood := { row := traceReadsRow, standIns := [], harness := (true, "e3fe642020651501da862c43582f28515ac3ce876be560b2cd3adb0ae4898f29"), looks := true }, kinds := [], alts := [], laidByText := true, laidKinds := [.data, .data, .data, .data, .data, .sentinel, .sentinel, .pinned], laidTests := true, laidLooks := .later }
def TraceReadsCardSaid : Prop := Claim7.holds Tryz.pinned (.plain (OpenSpec.ofChange traceReadsSpec)) traceReadsCard

/-- THE TIED CARD OF 'cloisterlaw22.TraceWrites'. -/
def traceWritesCard : Claim7 := { stood := { row := traceWritesRow, standIns := [], harness := (true, "e3fe642020651501da862c43582f28515ac3ce876be560b2cd3adb0ae4898f29"), looks := true }, kinds := [], alts := [], laidByText := true, laidKinds := [.data, .data, .data, .data, .data, .sentinel, .sentinel, .pinned], laidTests := true, laidLooks := .later }
def TraceWritesCardSaid : Prop := Claim7.holds Tryz.pinned (.plain (OpenSpec.ofChange traceWritesSpec)) traceWritesCard

/-- THE TIED CARD OF 'cloisterlaw22.TraceSums'. -/
def traceSumsCard : Claim7 := { stood := { row := traceSumsRow, standIns := [], harness := (true, "e3fe642020651501da862c43582f28515ac3ce876be560b2cd3adb0ae4898f29"), looks := true }, kinds := [], alts := [], laidByText := true, laidKinds := [.data, .data, .data, .data, .data, .sentinel, .sentinel, .pinned], laidTests := true, laidLooks := .later }
def TraceSumsCardSaid : Prop := Claim7.holds Tryz.pinned (.plain (OpenSpec.ofChange traceSumsSpec)) traceSumsCard

/-- THE TIED CARD OF 'cloisterlaw22.TraceBack'. -/
def traceBackCard : Claim7 := { stood := { row := traceBackRow, standIns := [], harness := (true, "e3fe642020651501da862c43582f28515ac3ce876be560b2cd3adb0ae4898f29"), looks := true }, kinds := [], alts := [], laidByText := true, laidKinds := [.data, .data, .data, .data, .data, .sentinel, .sentinel, .pinned], laidTests := true, laidLooks := .later }
def TraceBackCardSaid : Prop := Claim7.holds Tryz.pinned (.plain (OpenSpec.ofChange traceBackSpec)) traceBackCard

/-- THE TIED CARD OF 'cloisterlaw22.TraceLong'. -/
def traceLongCard : Claim7 := { stood := { row := traceLongRow, standIns := [], harness := (true, "e3fe642020651501da862c43582f28515ac3ce876be560b2cd3adb0ae4898f29"), looks := true }, kinds := [], alts := [], laidByText := true, laidKinds := [.data, .data, .data, .data, .data, .sentinel, .sentinel, .pinned], laidTests := true, laidLooks := .later }
def TraceLongCardSaid : Prop := Claim7.holds Tryz.pinned (.plain (OpenSpec.ofChange traceLongSpec)) traceLongCard

/-- THE SECOND FORM's CARD OF 'cloisterlaw22.TraceTells'. -/
def traceTellsUptoCard : Claim7 := { stood := { row := traceTellsUptoRow, standIns := [], harness := (true, "e3fe642020651501da862c43582f28515ac3ce876be560b2cd3adb0ae4898f29"), looks := true }, kinds := [], alts := [], laidByText := true, laidKinds := [.data, .data, .data, .data, .sentinel, .sentinel, .pinned], laidTests := true, laidLooks := .later }
def TraceTellsUptoCardSaid : Prop := Claim7.holds Tryz.pinned (.plain (OpenSpec.upto traceTellsSpec)) traceTellsUptoCard

/-- THE SECOND FORM's CARD OF 'cloisterlaw22.TraceReads'. -/
def traceReadsUptoCard : Claim7 := { stood := { row := traceReadsUptoRow, standIns := [], harness := (true, "e3fe642020651501da862c43582f28515ac3ce876be560b2cd3adb0ae4898f29"), looks := true }, kinds := [], alts := [], laidByText := true, laidKinds := [.data, .data, .data, .data, .data, .sentinel, .sentinel, .pinned], laidTests := true, laidLooks := .later }
def TraceReadsUptoCardSaid : Prop := Claim7.holds Tryz.pinned (.plain (OpenSpec.upto traceReadsSpec)) traceReadsUptoCard

/-- THE SECOND FORM's CARD OF 'cloisterlaw22.TraceWrites'. -/
def traceWritesUptoCard : Claim7 := { stood := { row := traceWritesUptoRow, standIns := [], harness := (true, "e3fe642020651501da862c43582f28515ac3ce876be560b2cd3adb0ae4898f29"), looks := true }, kinds := [], alts := [], laidByText := true, laidKinds := [.data, .data, .data, .data, .data, .sentinel, .sentinel, .pinned], laidTests := true, laidLooks := .later }
def TraceWritesUptoCardSaid : Prop := Claim7.holds Tryz.pinned (.plain (OpenSpec.upto traceWritesSpec)) traceWritesUptoCard

/-- THE SECOND FORM's CARD OF 'cloisterlaw22.TraceSums'. -/
def traceSumsUptoCard : Claim7 := { stood := { row := traceSumsUptoRow, standIns := [], harness := (true, "e3fe642020651501da862c43582f28515ac3ce876be560b2cd3adb0ae4898f29"), looks := true }, kinds := [], alts := [], laidByText := true, laidKinds := [.data, .data, .data, .data, .data, .sentinel, .sentinel, .pinned], laidTests := true, laidLooks := .later }
def TraceSumsUptoCardSaid : Prop := Claim7.holds Tryz.pinned (.plain (OpenSpec.upto traceSumsSpec)) traceSumsUptoCard

/-- THE SECOND FORM's CARD OF 'cloisterlaw22.TraceBack'. -/
def traceBackUptoCard : Claim7 := { stood := { row := traceBackUptoRow, standIns := [], harness := (true, "e3fe642020651501da862c43582f28515ac3ce876be560b2cd3adb0ae4898f29"), looks := true }, kinds := [], alts := [], laidByText := true, laidKinds := [.data, .data, .data, .data, .data, .sentinel, .sentinel, .pinned], laidTests := true, laidLooks := .later }
def TraceBackUptoCardSaid : Prop := Claim7.holds Tryz.pinned (.plain (OpenSpec.upto traceBackSpec)) traceBackUptoCard

/-- THE SECOND FORM's CARD OF 'cloisterlaw22.TraceLong'. -/
def traceLongUptoCard : Claim7 := { stood := { row := traceLongUptoRow, standIns := [], harness := (true, "e3fe642020651501da862c43582f28515ac3ce876be560b2cd3adb0ae4898f29"), looks := true }, kinds := [], alts := [], laidByText := true, laidKinds := [.data, .data, .data, .data, .data, .sentinel, .sentinel, .pinned], laidTests := true, laidLooks := .later }
def TraceLongUptoCardSaid : Prop := Claim7.holds Tryz.pinned (.plain (OpenSpec.upto traceLongSpec)) traceLongUptoCard
end Rows
end Go.Proofs.YtohighedgdlflaaGreatDoor

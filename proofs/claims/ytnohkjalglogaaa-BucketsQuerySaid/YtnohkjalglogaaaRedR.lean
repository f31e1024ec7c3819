/- Contract of reduced in the reference. -/
import Derived.Test.YtnohkjalglogaaaRed
import Derived.Deep.Cut
namespace Go.Proofs.Ytnohkjalglogaaa.wid
open Go.RowKit Go.Proofs.Ytnohkjalglogaaa.mem Go.Proofs.Ytnohkjalglogaaa.gro
set_option linter.unusedVariables false
end Go.Proofs.Ytnohkjalglogaaa.wid

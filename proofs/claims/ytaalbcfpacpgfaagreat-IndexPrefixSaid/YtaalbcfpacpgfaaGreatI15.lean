/- Index: Remove. -/
import Derived.Test.YtaalbcfpacpgfaaGreatI14
import Derived.Test.YtaalbcfpacpgfaaGreatJF
namespace Go.Proofs.YtaalbcfpacpgfaaGreat
open Go.RowKit Go.Lib Go.Vfs Go.Par Go.Typ Go.Shelf Go.Ix
set_option linter.unusedVariables false
set_option linter.unusedSimpArgs false

end Go.Proofs.YtaalbcfpacpgfaaGreat


/- The types of the arguments of OrderMany, read: out of a program of the session's own (genrow.py). -/
import Derived.Test.YthfaacheolhjnaaHOrderMany
import Derived.Test.YthfaacheolhjnaaShapes
namespace Go.Proofs.Ythfaacheolhjnaa.TyOrderMany
open Go.RowKit Go.Proofs.YthfaacheolhjnaaW.PrintWords Go.Proofs.Ythfaacheolhjnaa.Shapes Go.Proofs.Ythfaacheolhjnaa.Ord
set_option linter.unusedVariables false
end Go.Proofs.Ythfaacheolhjnaa.TyOrderMany

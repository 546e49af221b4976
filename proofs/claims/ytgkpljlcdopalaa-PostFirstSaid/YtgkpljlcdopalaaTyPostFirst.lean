/- The types of the arguments of PostFirst, read: out of a program of the session's own (genrow.py). -/
import Derived.Test.YtgkpljlcdopalaaHPostFirst
import Derived.Test.YtgkpljlcdopalaaShapes
namespace Go.Proofs.Ytgkpljlcdopalaa.TyPostFirst
open Go.RowKit Go.Proofs.YtgkpljlcdopalaaW.PrintWords Go.Proofs.Ytgkpljlcdopalaa.Shapes Go.Proofs.Ytgkpljlcdopalaa.Post
set_option linter.unusedVariables false
end Go.Proofs.Ytgkpljlcdopalaa.TyPostFirst

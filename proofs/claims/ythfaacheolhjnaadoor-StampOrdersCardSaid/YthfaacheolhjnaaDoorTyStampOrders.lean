/- The types of the arguments of StampOrders, read: out of a program of the session's own (genrow.py). -/
import Derived.Test.YthfaacheolhjnaaDoorMStampOrdersx0
import Derived.Test.YthfaacheolhjnaaDoorShapes
namespace Go.Proofs.YthfaacheolhjnaaDoor.TyStampOrders
open Go.RowKit Go.Proofs.YthfaacheolhjnaaDoorW.PrintWords Go.Proofs.YthfaacheolhjnaaDoor.Shapes Go.Proofs.YthfaacheolhjnaaDoor.MStampOrders
set_option linter.unusedVariables false
def ok25 (x : S25) : Prop := (inU64 x.f0) ∧ (inU32 x.f1)
theorem raw25 : Opens Tryd.prog 140737488351232 25 (Kd.pair (Kd.int .u64) (Kd.int .u32)) (okPair inU64 inU32) := by
  refine opens_struct Tryd.underlying25 (by kernel_rfl) ?_
  refine opensF_cons ?_ ?_ ?_
  · rfl
  · exact (opens_u64 Tryd.underlying22 (by kernel_rfl))
  refine opensF_one ?_ ?_
  · rfl
  · exact (opens_u32 Tryd.underlying23 (by kernel_rfl))
theorem opens25 : Opens Tryd.prog 140737488351232 25 k25 ok25 :=
  opens_iso _ (fun x => ⟨x.1, x.2⟩) (fun _ => rfl) raw25 (fun x h => h)
end Go.Proofs.YthfaacheolhjnaaDoor.TyStampOrders

/- The types of the arguments of PostKeeps, read: out of a program of the session's own (genrow.py). -/
import Derived.Test.YtgkpljlcdopalaaHPostKeeps
import Derived.Test.YtgkpljlcdopalaaShapes
namespace Go.Proofs.Ytgkpljlcdopalaa.TyPostKeeps
open Go.RowKit Go.Proofs.YtgkpljlcdopalaaW.PrintWords Go.Proofs.Ytgkpljlcdopalaa.Shapes Go.Proofs.Ytgkpljlcdopalaa.Post
set_option linter.unusedVariables false
def ok45 (x : S45) : Prop := (inI64 x.f0) ∧ (inI64 x.f1) ∧ ((okText 140737488351232) x.f2)
theorem raw45 : Opens Try.prog 140737488351232 45 (Kd.pair (Kd.int .i64) (Kd.pair (Kd.int .i64) Kd.string)) (okPair inI64 (okPair inI64 (okText 140737488351232))) := by
  refine opens_struct Try.underlying45 (by kernel_rfl) ?_
  refine opensF_cons ?_ ?_ ?_
  · rfl
  · exact (opens_i64 Try.underlying3 (by kernel_rfl))
  refine opensF_cons ?_ ?_ ?_
  · rfl
  · exact (opens_i64 Try.underlying3 (by kernel_rfl))
  refine opensF_one ?_ ?_
  · rfl
  · exact (opens_string Try.underlying9 (by kernel_rfl))
theorem opens45 : Opens Try.prog 140737488351232 45 k45 ok45 :=
  opens_iso _ (fun x => ⟨x.1, x.2.1, x.2.2⟩) (fun _ => rfl) raw45 (fun x h => h)
end Go.Proofs.Ytgkpljlcdopalaa.TyPostKeeps

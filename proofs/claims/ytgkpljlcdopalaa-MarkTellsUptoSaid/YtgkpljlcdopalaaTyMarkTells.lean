/- The types of the arguments of MarkTells, read: out of a program of the session's own (genrow.py). -/
import Derived.Test.YtgkpljlcdopalaaPMarkTellsx0
import Derived.Test.YtgkpljlcdopalaaShapes
namespace Go.Proofs.Ytgkpljlcdopalaa.TyMarkTells
open Go.RowKit Go.Proofs.YtgkpljlcdopalaaW.PrintWords Go.Proofs.Ytgkpljlcdopalaa.Shapes Go.Proofs.Ytgkpljlcdopalaa.PMarkTells
set_option linter.unusedVariables false
def ok25 (x : S25) : Prop := (inU64 x.f0) ∧ (inU32 x.f1)
theorem raw25 : Opens Try.prog 536870912 25 (Kd.pair (Kd.int .u64) (Kd.int .u32)) (okPair inU64 inU32) := by
  refine opens_struct Try.underlying25 (by kernel_rfl) ?_
  refine opensF_cons ?_ ?_ ?_
  · rfl
  · exact (opens_u64 Try.underlying22 (by kernel_rfl))
  refine opensF_one ?_ ?_
  · rfl
  · exact (opens_u32 Try.underlying23 (by kernel_rfl))
theorem opens25 : Opens Try.prog 536870912 25 k25 ok25 :=
  opens_iso _ (fun x => ⟨x.1, x.2⟩) (fun _ => rfl) raw25 (fun x h => h)
end Go.Proofs.Ytgkpljlcdopalaa.TyMarkTells

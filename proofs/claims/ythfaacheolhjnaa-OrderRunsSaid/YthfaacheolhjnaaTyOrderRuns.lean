/- The types of the arguments of OrderRuns, read: out of a program of the session's own (genrow.py). -/
import Derived.Test.YthfaacheolhjnaaHOrderRuns
import Derived.Test.YthfaacheolhjnaaShapes
namespace Go.Proofs.Ythfaacheolhjnaa.TyOrderRuns
open Go.RowKit Go.Proofs.YthfaacheolhjnaaW.PrintWords Go.Proofs.Ythfaacheolhjnaa.Shapes Go.Proofs.Ythfaacheolhjnaa.Ord
set_option linter.unusedVariables false
def ok31 (x : S31) : Prop := (inI64 x.f0) ∧ (inI64 x.f1) ∧ (inI64 x.f2) ∧ ((okText 140737488351232) x.f3) ∧ ((okText 140737488351232) x.f4)
theorem raw31 : Opens Try.prog 140737488351232 31 (Kd.pair (Kd.int .i64) (Kd.pair (Kd.int .i64) (Kd.pair (Kd.int .i64) (Kd.pair Kd.string Kd.string)))) (okPair inI64 (okPair inI64 (okPair inI64 (okPair (okText 140737488351232) (okText 140737488351232))))) := by
  refine opens_struct Try.underlying31 (by kernel_rfl) ?_
  refine opensF_cons ?_ ?_ ?_
  · rfl
  · exact (opens_i64 Try.underlying3 (by kernel_rfl))
  refine opensF_cons ?_ ?_ ?_
  · rfl
  · exact (opens_i64 Try.underlying3 (by kernel_rfl))
  refine opensF_cons ?_ ?_ ?_
  · rfl
  · exact (opens_i64 Try.underlying3 (by kernel_rfl))
  refine opensF_cons ?_ ?_ ?_
  · rfl
  · exact (opens_string Try.underlying9 (by kernel_rfl))
  refine opensF_one ?_ ?_
  · rfl
  · exact (opens_string Try.underlying9 (by kernel_rfl))
theorem opens31 : Opens Try.prog 140737488351232 31 k31 ok31 :=
  opens_iso _ (fun x => ⟨x.1, x.2.1, x.2.2.1, x.2.2.2.1, x.2.2.2.2⟩) (fun _ => rfl) raw31 (fun x h => h)
end Go.Proofs.Ythfaacheolhjnaa.TyOrderRuns

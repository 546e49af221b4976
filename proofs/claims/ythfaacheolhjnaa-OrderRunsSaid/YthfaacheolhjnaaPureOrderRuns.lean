/- The pure law of OrderRuns: over numbers and lists alone. -/
import Derived.Test.YthfaacheolhjnaaHOrderRuns
import Derived.Test.YthfaacheolhjnaaTyOrderRuns
namespace Go.Proofs.Ythfaacheolhjnaa.Pure
open Go.RowKit Go.Proofs.YthfaacheolhjnaaW.PrintWords Go.Proofs.YthfaacheolhjnaaW.PrintLast Go.Proofs.Ythfaacheolhjnaa.Ord Go.Proofs.Ythfaacheolhjnaa.Shapes Go.Proofs.Ythfaacheolhjnaa.TyOrderRuns
set_option linter.unusedVariables false

theorem OrderRuns : ∀ (l0 : List S31), l0.length * Try.prog.bytesOf 31 ≤ 140737488351232 → (∀ a ∈ l0, ok31 a) → ∃ k, dovecotelaw08_OrderRuns.f k l0 = some true := by
  intros
  exact ⟨0, rfl⟩

end Go.Proofs.Ythfaacheolhjnaa.Pure

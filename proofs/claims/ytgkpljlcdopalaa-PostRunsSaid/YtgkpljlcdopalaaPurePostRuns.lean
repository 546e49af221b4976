/- The pure law of PostRuns: over numbers and lists alone. -/
import Derived.Test.YtgkpljlcdopalaaHPostRuns
import Derived.Test.YtgkpljlcdopalaaTyPostRuns
namespace Go.Proofs.Ytgkpljlcdopalaa.Pure
open Go.RowKit Go.Proofs.YtgkpljlcdopalaaW.PrintWords Go.Proofs.YtgkpljlcdopalaaW.PrintLast Go.Proofs.Ytgkpljlcdopalaa.Post Go.Proofs.Ytgkpljlcdopalaa.Shapes Go.Proofs.Ytgkpljlcdopalaa.TyPostRuns
set_option linter.unusedVariables false

theorem PostRuns : ∀ (l0 : List S45), l0.length * Try.prog.bytesOf 45 ≤ 140737488351232 → (∀ a ∈ l0, ok45 a) → ∃ k, dovecotelaw16_PostRuns.f k l0 = some true := by
  intros
  exact ⟨0, rfl⟩

end Go.Proofs.Ytgkpljlcdopalaa.Pure

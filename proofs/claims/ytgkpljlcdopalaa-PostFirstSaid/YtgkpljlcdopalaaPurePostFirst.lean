/- The pure law of PostFirst: over numbers and lists alone. -/
import Derived.Test.YtgkpljlcdopalaaHPostFirst
import Derived.Test.YtgkpljlcdopalaaTyPostFirst
namespace Go.Proofs.Ytgkpljlcdopalaa.Pure
open Go.RowKit Go.Proofs.YtgkpljlcdopalaaW.PrintWords Go.Proofs.YtgkpljlcdopalaaW.PrintLast Go.Proofs.Ytgkpljlcdopalaa.Post Go.Proofs.Ytgkpljlcdopalaa.Shapes Go.Proofs.Ytgkpljlcdopalaa.TyPostFirst
set_option linter.unusedVariables false

theorem PostFirst : ∀ (l0 : List ByteArray), l0.length * Try.prog.bytesOf 9 ≤ 140737488351232 → (∀ a ∈ l0, (okText 140737488351232) a) → ∃ k, dovecotelaw16_PostFirst.f k l0 = some true := by
  intros
  exact ⟨0, rfl⟩

end Go.Proofs.Ytgkpljlcdopalaa.Pure

/- The pure law of VerdictNothing: over numbers and lists alone. -/
import Derived.Test.YtdelbidaclddgaaHVerdictNothing
import Derived.Test.YtdelbidaclddgaaTyVerdictNothing
namespace Go.Proofs.Ytdelbidaclddgaa.Pure
open Go.RowKit Go.Proofs.YtdelbidaclddgaaW.PrintWords Go.Proofs.YtdelbidaclddgaaW.PrintLast Go.Proofs.Ytdelbidaclddgaa.Ver Go.Proofs.Ytdelbidaclddgaa.MVerdictRuns Go.Proofs.Ytdelbidaclddgaa.Shapes Go.Proofs.Ytdelbidaclddgaa.TyVerdictNothing
set_option linter.unusedVariables false

theorem VerdictNothing : ∀ (a0 : S40), ok40 a0 → ∃ k, dovecotelaw11_VerdictNothing.f k a0 = some true := by
  intros
  exact ⟨0, rfl⟩

end Go.Proofs.Ytdelbidaclddgaa.Pure

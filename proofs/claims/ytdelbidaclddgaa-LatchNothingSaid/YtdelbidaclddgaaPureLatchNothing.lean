/- The pure law of LatchNothing: over numbers and lists alone. -/
import Derived.Test.YtdelbidaclddgaaHLatchNothing
import Derived.Test.YtdelbidaclddgaaTyLatchNothing
namespace Go.Proofs.Ytdelbidaclddgaa.Pure
open Go.RowKit Go.Proofs.YtdelbidaclddgaaW.PrintWords Go.Proofs.YtdelbidaclddgaaW.PrintLast Go.Proofs.Ytdelbidaclddgaa.Lat Go.Proofs.Ytdelbidaclddgaa.MLatchRuns Go.Proofs.Ytdelbidaclddgaa.Shapes Go.Proofs.Ytdelbidaclddgaa.TyLatchNothing
set_option linter.unusedVariables false

theorem LatchNothing : ∀ (a0 : S58), ok58 a0 → ∃ k, dovecotelaw10_LatchNothing.f k a0 = some true := by
  intros
  exact ⟨0, rfl⟩

end Go.Proofs.Ytdelbidaclddgaa.Pure

/- The pure law of StoreRuns: over numbers and lists alone. -/
import Derived.Test.YtomcjcoehahikaaHStoreRuns
import Derived.Test.YtomcjcoehahikaaTyStoreRuns
namespace Go.Proofs.Ytomcjcoehahikaa.Pure
open Go.RowKit Go.Proofs.YtomcjcoehahikaaW.PrintWords Go.Proofs.YtomcjcoehahikaaW.PrintLast Go.Proofs.Ytomcjcoehahikaa.Sto Go.Proofs.Ytomcjcoehahikaa.MStoreRuns Go.Proofs.Ytomcjcoehahikaa.Shapes Go.Proofs.Ytomcjcoehahikaa.TyStoreRuns
set_option linter.unusedVariables false

theorem StoreRuns : ∀ (l0 : List S69), l0.length * Try.prog.bytesOf 69 ≤ 140737488351232 → (∀ a ∈ l0, ok69 a) → ∃ k, dovecotelaw09_StoreRuns.f k l0 = some true := by
  intros
  exact ⟨0, rfl⟩

end Go.Proofs.Ytomcjcoehahikaa.Pure

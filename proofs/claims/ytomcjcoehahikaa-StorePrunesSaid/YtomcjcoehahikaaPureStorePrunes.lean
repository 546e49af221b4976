/- The pure law of StorePrunes: over numbers and lists alone. -/
import Derived.Test.YtomcjcoehahikaaHStorePrunes
import Derived.Test.YtomcjcoehahikaaTyStorePrunes
namespace Go.Proofs.Ytomcjcoehahikaa.Pure
open Go.RowKit Go.Proofs.YtomcjcoehahikaaW.PrintWords Go.Proofs.YtomcjcoehahikaaW.PrintLast Go.Proofs.Ytomcjcoehahikaa.Sto Go.Proofs.Ytomcjcoehahikaa.MStoreRuns Go.Proofs.Ytomcjcoehahikaa.Shapes Go.Proofs.Ytomcjcoehahikaa.TyStorePrunes
set_option linter.unusedVariables false

theorem StorePrunes : ∀ (l0 : List S69) (a1_0 : Int) (a1_1 : Int) (a2_0 : Int) (a2_1 : Int), l0.length * Try.prog.bytesOf 69 ≤ 140737488351232 → (∀ a ∈ l0, ok69 a) → ok27 ⟨a1_0, a1_1⟩ → ok27 ⟨a2_0, a2_1⟩ → ∃ k, dovecotelaw09_StorePrunes.f k l0 a1_0 a1_1 a2_0 a2_1 = some true := by
  intros
  exact ⟨0, rfl⟩

end Go.Proofs.Ytomcjcoehahikaa.Pure

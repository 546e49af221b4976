/- The pure law of StoreScans: over numbers and lists alone. -/
import Derived.Test.YtomcjcoehahikaaHStoreScans
import Derived.Test.YtomcjcoehahikaaTyStoreScans
namespace Go.Proofs.Ytomcjcoehahikaa.Pure
open Go.RowKit Go.Proofs.YtomcjcoehahikaaW.PrintWords Go.Proofs.YtomcjcoehahikaaW.PrintLast Go.Proofs.Ytomcjcoehahikaa.Sto Go.Proofs.Ytomcjcoehahikaa.MStoreRuns Go.Proofs.Ytomcjcoehahikaa.Shapes Go.Proofs.Ytomcjcoehahikaa.TyStoreScans
set_option linter.unusedVariables false

theorem StoreScans : ∀ (l0 : List S69) (a1_0 : Int) (a1_1 : Int) (a2 : ByteArray), l0.length * Try.prog.bytesOf 69 ≤ 140737488351232 → (∀ a ∈ l0, ok69 a) → ok27 ⟨a1_0, a1_1⟩ → ((okText 140737488351232) a2) → ∃ k, dovecotelaw09_StoreScans.f k l0 a1_0 a1_1 a2 = some true := by
  intros
  exact ⟨0, rfl⟩

end Go.Proofs.Ytomcjcoehahikaa.Pure

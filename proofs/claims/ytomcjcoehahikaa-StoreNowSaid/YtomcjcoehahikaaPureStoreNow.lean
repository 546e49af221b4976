/- The pure law of StoreNow: over numbers and lists alone. -/
import Derived.Test.YtomcjcoehahikaaHStoreNow
import Derived.Test.YtomcjcoehahikaaTyStoreNow
namespace Go.Proofs.Ytomcjcoehahikaa.Pure
open Go.RowKit Go.Proofs.YtomcjcoehahikaaW.PrintWords Go.Proofs.YtomcjcoehahikaaW.PrintLast Go.Proofs.Ytomcjcoehahikaa.Sto Go.Proofs.Ytomcjcoehahikaa.MStoreRuns Go.Proofs.Ytomcjcoehahikaa.Shapes Go.Proofs.Ytomcjcoehahikaa.TyStoreNow
set_option linter.unusedVariables false

theorem StoreNow : ∀ (l0 : List S69) (a1 : ByteArray) (a2 : ByteArray), l0.length * Try.prog.bytesOf 69 ≤ 140737488351232 → (∀ a ∈ l0, ok69 a) → ((okText 140737488351232) a1) → ((okText 140737488351232) a2) → ∃ k, dovecotelaw09_StoreNow.f k l0 a1 a2 = some true := by
  intros
  exact ⟨0, rfl⟩

end Go.Proofs.Ytomcjcoehahikaa.Pure

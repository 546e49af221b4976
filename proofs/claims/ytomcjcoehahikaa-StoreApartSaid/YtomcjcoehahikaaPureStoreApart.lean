/- The pure law of StoreApart: over numbers and lists alone. -/
import Derived.Test.YtomcjcoehahikaaHStoreApart
import Derived.Test.YtomcjcoehahikaaTyStoreApart
namespace Go.Proofs.Ytomcjcoehahikaa.Pure
open Go.RowKit Go.Proofs.YtomcjcoehahikaaW.PrintWords Go.Proofs.YtomcjcoehahikaaW.PrintLast Go.Proofs.Ytomcjcoehahikaa.Sto Go.Proofs.Ytomcjcoehahikaa.MStoreRuns Go.Proofs.Ytomcjcoehahikaa.Shapes Go.Proofs.Ytomcjcoehahikaa.TyStoreApart
set_option linter.unusedVariables false

theorem StoreApart : ∀ (l0 : List S69) (a1 : ByteArray) (a2_0 : Int) (a2_1 : Int), l0.length * Try.prog.bytesOf 69 ≤ 140737488351232 → (∀ a ∈ l0, ok69 a) → ((okText 140737488351232) a1) → ok27 ⟨a2_0, a2_1⟩ → ∃ k, dovecotelaw09_StoreApart.f k l0 a1 a2_0 a2_1 = some true := by
  intros
  exact ⟨0, rfl⟩

end Go.Proofs.Ytomcjcoehahikaa.Pure

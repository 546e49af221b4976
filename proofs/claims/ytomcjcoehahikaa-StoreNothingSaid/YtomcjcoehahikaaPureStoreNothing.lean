/- The pure law of StoreNothing: over numbers and lists alone. -/
import Derived.Test.YtomcjcoehahikaaHStoreNothing
import Derived.Test.YtomcjcoehahikaaTyStoreNothing
namespace Go.Proofs.Ytomcjcoehahikaa.Pure
open Go.RowKit Go.Proofs.YtomcjcoehahikaaW.PrintWords Go.Proofs.YtomcjcoehahikaaW.PrintLast Go.Proofs.Ytomcjcoehahikaa.Sto Go.Proofs.Ytomcjcoehahikaa.Shapes Go.Proofs.Ytomcjcoehahikaa.TyStoreNothing
set_option linter.unusedVariables false

theorem StoreNothing : ∀ (a0 : ByteArray) (a1_0 : Int) (a1_1 : Int) (a1_2 : Int) (a1_3 : Int) (a1_4 : ByteArray) (a1_5 : Bool), ((okText 140737488351232) a0) → ok31 ⟨a1_0, a1_1, a1_2, a1_3, a1_4, a1_5⟩ → ∃ k, dovecotelaw09_StoreNothing.f k a0 a1_0 a1_1 a1_2 a1_3 a1_4 a1_5 = some true := by
  intros
  exact ⟨0, rfl⟩

end Go.Proofs.Ytomcjcoehahikaa.Pure

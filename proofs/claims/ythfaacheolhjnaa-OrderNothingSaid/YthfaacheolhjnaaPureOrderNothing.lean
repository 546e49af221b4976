/- The pure law of OrderNothing: over numbers and lists alone. -/
import Derived.Test.YthfaacheolhjnaaHOrderNothing
import Derived.Test.YthfaacheolhjnaaTyOrderNothing
namespace Go.Proofs.Ythfaacheolhjnaa.Pure
open Go.RowKit Go.Proofs.YthfaacheolhjnaaW.PrintWords Go.Proofs.YthfaacheolhjnaaW.PrintLast Go.Proofs.Ythfaacheolhjnaa.Ord Go.Proofs.Ythfaacheolhjnaa.Shapes Go.Proofs.Ythfaacheolhjnaa.TyOrderNothing
set_option linter.unusedVariables false

theorem OrderNothing : ∀ (a0 : ByteArray) (a1 : Int), ((okText 140737488351232) a0) → (inI64 a1) → ∃ k, dovecotelaw08_OrderNothing.f k a0 a1 = some true := by
  intros
  exact ⟨0, rfl⟩

end Go.Proofs.Ythfaacheolhjnaa.Pure

/- The pure law of OrderRanges: over numbers and lists alone. -/
import Derived.Test.YthfaacheolhjnaaHOrderRanges
import Derived.Test.YthfaacheolhjnaaTyOrderRanges
namespace Go.Proofs.Ythfaacheolhjnaa.Pure
open Go.RowKit Go.Proofs.YthfaacheolhjnaaW.PrintWords Go.Proofs.YthfaacheolhjnaaW.PrintLast Go.Proofs.Ythfaacheolhjnaa.Ord Go.Proofs.Ythfaacheolhjnaa.Shapes Go.Proofs.Ythfaacheolhjnaa.TyOrderRanges
set_option linter.unusedVariables false

theorem OrderRanges : ∀ (l0 : List ByteArray) (a1 : ByteArray) (a2 : Int), l0.length * Try.prog.bytesOf 9 ≤ 140737488351232 → (∀ a ∈ l0, (okText 140737488351232) a) → ((okText 140737488351232) a1) → (inI64 a2) → ∃ k, dovecotelaw08_OrderRanges.f k l0 a1 a2 = some true := by
  intros
  exact ⟨0, rfl⟩

end Go.Proofs.Ythfaacheolhjnaa.Pure

/- The pure law of OrderMany: over numbers and lists alone. -/
import Derived.Test.YthfaacheolhjnaaHOrderMany
import Derived.Test.YthfaacheolhjnaaTyOrderMany
namespace Go.Proofs.Ythfaacheolhjnaa.Pure
open Go.RowKit Go.Proofs.YthfaacheolhjnaaW.PrintWords Go.Proofs.YthfaacheolhjnaaW.PrintLast Go.Proofs.Ythfaacheolhjnaa.Ord Go.Proofs.Ythfaacheolhjnaa.Shapes Go.Proofs.Ythfaacheolhjnaa.TyOrderMany
set_option linter.unusedVariables false

theorem OrderMany : ∀ (l0 : List Int) (a1 : Int), l0.length * Try.prog.bytesOf 42 ≤ 140737488351232 → (∀ a ∈ l0, inU16 a) → (inU16 a1) → ∃ k, dovecotelaw08_OrderMany.f k l0 a1 = some true := by
  intros
  exact ⟨0, rfl⟩

end Go.Proofs.Ythfaacheolhjnaa.Pure

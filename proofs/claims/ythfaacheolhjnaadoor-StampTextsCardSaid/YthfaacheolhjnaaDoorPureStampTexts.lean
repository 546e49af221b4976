/- The pure law of StampTexts: over numbers and lists alone. -/
import Derived.Test.YthfaacheolhjnaaDoorHStampTexts
import Derived.Test.YthfaacheolhjnaaDoorTyStampTexts
namespace Go.Proofs.YthfaacheolhjnaaDoor.Pure
open Go.RowKit Go.Proofs.YthfaacheolhjnaaDoorW.PrintWords Go.Proofs.YthfaacheolhjnaaDoorW.PrintLast Go.Proofs.YthfaacheolhjnaaDoor.Txt Go.Proofs.YthfaacheolhjnaaDoor.Shapes Go.Proofs.YthfaacheolhjnaaDoor.TyStampTexts
set_option linter.unusedVariables false

theorem StampTexts : ∀ (a0_0 : Int) (a0_1 : Int) (a1 : ByteArray), ok25 ⟨a0_0, a0_1⟩ → ((okText 140737488351232) a1) → ∃ k, dovecotelaw01_StampTexts.f k a0_0 a0_1 a1 = some true := by
  intro a b s h1 hs
  obtain ⟨⟨x1, x2⟩, y1, y2⟩ := h1
  replace x1 : 0 ≤ a := x1
  replace x2 : a ≤ 18446744073709551615 := x2
  replace y1 : 0 ≤ b := y1
  replace y2 : b ≤ 4294967295 := y2
  exact ⟨0, if_pos ⟨⟨x1, by omega⟩, ⟨y1, by omega⟩, hs⟩⟩

end Go.Proofs.YthfaacheolhjnaaDoor.Pure

/- The pure law of StampSums: over numbers and lists alone. -/
import Derived.Test.YthfaacheolhjnaaDoorHStampSums
import Derived.Test.YthfaacheolhjnaaDoorTyStampSums
namespace Go.Proofs.YthfaacheolhjnaaDoor.Pure
open Go.RowKit Go.Proofs.YthfaacheolhjnaaDoorW.PrintWords Go.Proofs.YthfaacheolhjnaaDoorW.PrintLast Go.Proofs.YthfaacheolhjnaaDoor.FSums Go.Proofs.YthfaacheolhjnaaDoor.Shapes Go.Proofs.YthfaacheolhjnaaDoor.TyStampSums
set_option linter.unusedVariables false

theorem StampSums : ∀ (a0_0 : Int) (a0_1 : Int) (a1_0 : Int) (a1_1 : Int), ok25 ⟨a0_0, a0_1⟩ → ok25 ⟨a1_0, a1_1⟩ → ∃ k, dovecotelaw01_StampSums.f k a0_0 a0_1 a1_0 a1_1 = some true := by
  intro a b c d h1 h2
  obtain ⟨⟨x1, x2⟩, y1, y2⟩ := h1
  obtain ⟨⟨x3, x4⟩, y3, y4⟩ := h2
  replace x1 : 0 ≤ a := x1
  replace x2 : a ≤ 18446744073709551615 := x2
  replace y1 : 0 ≤ b := y1
  replace y2 : b ≤ 4294967295 := y2
  replace x3 : 0 ≤ c := x3
  replace x4 : c ≤ 18446744073709551615 := x4
  replace y3 : 0 ≤ d := y3
  replace y4 : d ≤ 4294967295 := y4
  exact ⟨0, if_pos ⟨⟨x1, by omega⟩, ⟨y1, by omega⟩, ⟨x3, by omega⟩, y3, by omega⟩⟩

end Go.Proofs.YthfaacheolhjnaaDoor.Pure

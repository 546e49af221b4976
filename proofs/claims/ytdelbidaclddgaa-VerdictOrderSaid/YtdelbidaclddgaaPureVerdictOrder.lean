/- The pure law of VerdictOrder: over numbers and lists alone. -/
import Derived.Test.YtdelbidaclddgaaHVerdictOrder
import Derived.Test.YtdelbidaclddgaaTyVerdictOrder
namespace Go.Proofs.Ytdelbidaclddgaa.Pure
open Go.RowKit Go.Proofs.YtdelbidaclddgaaW.PrintWords Go.Proofs.YtdelbidaclddgaaW.PrintLast Go.Proofs.Ytdelbidaclddgaa.Ver Go.Proofs.Ytdelbidaclddgaa.MVerdictRuns Go.Proofs.Ytdelbidaclddgaa.Shapes Go.Proofs.Ytdelbidaclddgaa.TyVerdictOrder
set_option linter.unusedVariables false

theorem VerdictOrder : ∀ (l0 : List S37) (a1 : Int), l0.length * Try.prog.bytesOf 37 ≤ 140737488351232 → (∀ a ∈ l0, ok37 a) → (inI64 a1) → ∃ k, dovecotelaw11_VerdictOrder.f k l0 a1 = some true := by
  intro l t _ h40 _
  have key : ∀ {x : S37}, ok37 x → Rng kcV knV x := fun {x} hx => ⟨hx.1.1.1, by have := hx.1.1.2; show x.f0.f0 < 4294967296; omega, hx.1.2.1, by have := hx.1.2.2; show x.f0.f1 < 4294967296; omega⟩
  exact ⟨0, if_pos fun y hy => key (h40 y hy)⟩

end Go.Proofs.Ytdelbidaclddgaa.Pure

/- The pure law of VerdictRuns: over numbers and lists alone. -/
import Derived.Test.YtdelbidaclddgaaHVerdictRuns
import Derived.Test.YtdelbidaclddgaaTyVerdictRuns
namespace Go.Proofs.Ytdelbidaclddgaa.Pure
open Go.RowKit Go.Proofs.YtdelbidaclddgaaW.PrintWords Go.Proofs.YtdelbidaclddgaaW.PrintLast Go.Proofs.Ytdelbidaclddgaa.Ver Go.Proofs.Ytdelbidaclddgaa.MVerdictRuns Go.Proofs.Ytdelbidaclddgaa.Shapes Go.Proofs.Ytdelbidaclddgaa.TyVerdictRuns
set_option linter.unusedVariables false

theorem VerdictRuns : ∀ (l0 : List S40), l0.length * Try.prog.bytesOf 40 ≤ 140737488351232 → (∀ a ∈ l0, ok40 a) → ∃ k, dovecotelaw11_VerdictRuns.f k l0 = some true := by
  intro l _ h40
  have key : ∀ {x : S37}, ok37 x → Rng kcV knV x := fun {x} hx => ⟨hx.1.1.1, by have := hx.1.1.2; show x.f0.f0 < 4294967296; omega, hx.1.2.1, by have := hx.1.2.2; show x.f0.f1 < 4294967296; omega⟩
  refine ⟨0, if_pos fun y hy => ⟨key (h40 y hy).2.1, ?_⟩⟩
  have hl := (h40 y hy).2.2.2.1
  rw [show Try.prog.bytesOf 32 = 8 by kernel_rfl] at hl
  omega

end Go.Proofs.Ytdelbidaclddgaa.Pure

/- The pure law of VerdictStays: over numbers and lists alone. -/
import Derived.Test.YtdelbidaclddgaaHVerdictStays
import Derived.Test.YtdelbidaclddgaaTyVerdictStays
namespace Go.Proofs.Ytdelbidaclddgaa.Pure
open Go.RowKit Go.Proofs.YtdelbidaclddgaaW.PrintWords Go.Proofs.YtdelbidaclddgaaW.PrintLast Go.Proofs.Ytdelbidaclddgaa.Ver Go.Proofs.Ytdelbidaclddgaa.MVerdictRuns Go.Proofs.Ytdelbidaclddgaa.Shapes Go.Proofs.Ytdelbidaclddgaa.TyVerdictStays
set_option linter.unusedVariables false

theorem VerdictStays : ∀ (a0_0 : Int) (a0_1 : Int) (a0_2 : Int) (a0_3 : Int) (a0_4 : Int) (a0_5 : Int) (a0_6 : Int) (a0_7 : Bool) (l1 : List S40), ok37 ⟨⟨a0_0, a0_1⟩, ⟨a0_2, a0_3⟩, ⟨a0_4, a0_5⟩, a0_6, a0_7⟩ → l1.length * Try.prog.bytesOf 40 ≤ 140737488351232 → (∀ a ∈ l1, ok40 a) → ∃ k, dovecotelaw11_VerdictStays.f k a0_0 a0_1 a0_2 a0_3 a0_4 a0_5 a0_6 a0_7 l1 = some true := by
  intro a b c d e f g h l h37 _ h40
  have key : ∀ {x : S37}, ok37 x → Rng kcV knV x := fun {x} hx => ⟨hx.1.1.1, by have := hx.1.1.2; show x.f0.f0 < 4294967296; omega, hx.1.2.1, by have := hx.1.2.2; show x.f0.f1 < 4294967296; omega⟩
  refine ⟨0, if_pos ⟨key h37, fun y hy => ⟨key (h40 y hy).2.1, ?_⟩⟩⟩
  have hl := (h40 y hy).2.2.2.1
  rw [show Try.prog.bytesOf 32 = 8 by kernel_rfl] at hl
  omega

end Go.Proofs.Ytdelbidaclddgaa.Pure

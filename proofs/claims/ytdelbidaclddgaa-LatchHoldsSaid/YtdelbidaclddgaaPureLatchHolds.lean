/- The pure law of LatchHolds: over numbers and lists alone. -/
import Derived.Test.YtdelbidaclddgaaHLatchHolds
import Derived.Test.YtdelbidaclddgaaTyLatchHolds
namespace Go.Proofs.Ytdelbidaclddgaa.Pure
open Go.RowKit Go.Proofs.YtdelbidaclddgaaW.PrintWords Go.Proofs.YtdelbidaclddgaaW.PrintLast Go.Proofs.Ytdelbidaclddgaa.Lat Go.Proofs.Ytdelbidaclddgaa.MLatchRuns Go.Proofs.Ytdelbidaclddgaa.Shapes Go.Proofs.Ytdelbidaclddgaa.TyLatchHolds
set_option linter.unusedVariables false

theorem LatchHolds : ∀ (l0 : List S63) (l1 : List S58), l0.length * Try.prog.bytesOf 63 ≤ 140737488351232 → (∀ a ∈ l0, ok63 a) → l1.length * Try.prog.bytesOf 58 ≤ 140737488351232 → (∀ a ∈ l1, ok58 a) → ∃ k, dovecotelaw10_LatchHolds.f k l0 l1 = some true := by
  intro l0 l _ _ _ h58
  refine ⟨0, if_pos fun y hy => ?_⟩
  obtain ⟨_, ⟨⟨k1, k2⟩, k3, k4⟩, _, _, _, ⟨hl, _⟩, _, _, hl2, _⟩ := h58 y hy
  rw [show Try.prog.bytesOf 32 = 8 by kernel_rfl] at hl2
  rw [show Try.prog.bytesOf 63 = 40 by kernel_rfl] at hl
  refine ⟨⟨k1, ?_, k3, ?_⟩, by omega, by omega⟩
  · show y.f1.f0 < 4294967296; omega
  · show y.f1.f1 < 4294967296; omega

end Go.Proofs.Ytdelbidaclddgaa.Pure

/- The pure law of LatchRuns: over numbers and lists alone. -/
import Derived.Test.YtdelbidaclddgaaHLatchRuns
import Derived.Test.YtdelbidaclddgaaTyLatchRuns
namespace Go.Proofs.Ytdelbidaclddgaa.Pure
open Go.RowKit Go.Proofs.YtdelbidaclddgaaW.PrintWords Go.Proofs.YtdelbidaclddgaaW.PrintLast Go.Proofs.Ytdelbidaclddgaa.Lat Go.Proofs.Ytdelbidaclddgaa.MLatchRuns Go.Proofs.Ytdelbidaclddgaa.Shapes Go.Proofs.Ytdelbidaclddgaa.TyLatchRuns
set_option linter.unusedVariables false

theorem LatchRuns : ∀ (l0 : List S58), l0.length * Try.prog.bytesOf 58 ≤ 140737488351232 → (∀ a ∈ l0, ok58 a) → ∃ k, dovecotelaw10_LatchRuns.f k l0 = some true := by
  intro l _ h58
  refine ⟨0, if_pos fun y hy => ?_⟩
  obtain ⟨_, ⟨⟨k1, k2⟩, k3, k4⟩, _, ⟨⟨p1, _⟩, p2, _⟩, _, ⟨hl, _⟩, _, _, hl2, _⟩ := h58 y hy
  rw [show Try.prog.bytesOf 32 = 8 by kernel_rfl] at hl2
  rw [show Try.prog.bytesOf 63 = 40 by kernel_rfl] at hl
  refine ⟨⟨⟨k1, ?_, k3, ?_⟩, by omega, by omega⟩, p1, p2⟩
  · show y.f1.f0 < 4294967296; omega
  · show y.f1.f1 < 4294967296; omega

end Go.Proofs.Ytdelbidaclddgaa.Pure

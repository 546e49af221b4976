/- The pure law of LatchFirst: over numbers and lists alone. -/
import Derived.Test.YtdelbidaclddgaaHLatchFirst
import Derived.Test.YtdelbidaclddgaaTyLatchFirst
namespace Go.Proofs.Ytdelbidaclddgaa.Pure
open Go.RowKit Go.Proofs.YtdelbidaclddgaaW.PrintWords Go.Proofs.YtdelbidaclddgaaW.PrintLast Go.Proofs.Ytdelbidaclddgaa.Lat Go.Proofs.Ytdelbidaclddgaa.MLatchRuns Go.Proofs.Ytdelbidaclddgaa.Shapes Go.Proofs.Ytdelbidaclddgaa.TyLatchFirst
set_option linter.unusedVariables false

theorem LatchFirst : ∀ (l0 : List S58) (a1 : S58), l0.length * Try.prog.bytesOf 58 ≤ 140737488351232 → (∀ a ∈ l0, ok58 a) → ok58 a1 → ∃ k, dovecotelaw10_LatchFirst.f k l0 a1 = some true := by
  intro l a _ h58 ha
  refine ⟨0, if_pos ⟨fun y hy => ?_, ?_⟩⟩
  · obtain ⟨_, ⟨⟨k1, k2⟩, k3, k4⟩, _, _, _, ⟨hl, _⟩, _, _, hl2, _⟩ := h58 y hy
    rw [show Try.prog.bytesOf 32 = 8 by kernel_rfl] at hl2
    rw [show Try.prog.bytesOf 63 = 40 by kernel_rfl] at hl
    refine ⟨⟨k1, ?_, k3, ?_⟩, by omega, by omega⟩
    · show y.f1.f0 < 4294967296; omega
    · show y.f1.f1 < 4294967296; omega
  · obtain ⟨_, _, _, _, _, _, _, _, hl2, _⟩ := ha
    rw [show Try.prog.bytesOf 32 = 8 by kernel_rfl] at hl2
    omega

end Go.Proofs.Ytdelbidaclddgaa.Pure

/- The pure law of PostKeeps: over numbers and lists alone. -/
import Derived.Test.YtgkpljlcdopalaaHPostKeeps
import Derived.Test.YtgkpljlcdopalaaTyPostKeeps
namespace Go.Proofs.Ytgkpljlcdopalaa.Pure
open Go.RowKit Go.Proofs.YtgkpljlcdopalaaW.PrintWords Go.Proofs.YtgkpljlcdopalaaW.PrintLast Go.Proofs.Ytgkpljlcdopalaa.Post Go.Proofs.Ytgkpljlcdopalaa.Shapes Go.Proofs.Ytgkpljlcdopalaa.TyPostKeeps
set_option linter.unusedVariables false

theorem PostKeeps : ∀ (l0 : List S45), l0.length * Try.prog.bytesOf 45 ≤ 140737488351232 → (∀ a ∈ l0, ok45 a) → ∃ k, dovecotelaw16_PostKeeps.f k l0 = some true := by
  intro l0 y0 w0
  refine ⟨0, ?_⟩
  unfold dovecotelaw16_PostKeeps.f
  rw [if_pos (List.all_eq_true.2 (fun x hx => decide_eq_true (by have := (w0 x hx).2.2; unfold okText at this; omega)))]

end Go.Proofs.Ytgkpljlcdopalaa.Pure

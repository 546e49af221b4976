/- The pure law of ChainTells: over numbers and lists alone. -/
import Derived.Test.YtomcjcoehahikaaHChainTells
import Derived.Test.YtomcjcoehahikaaTyChainTells
namespace Go.Proofs.Ytomcjcoehahikaa.Pure
open Go.RowKit Go.Proofs.YtomcjcoehahikaaW.PrintWords Go.Proofs.YtomcjcoehahikaaW.PrintLast Go.Proofs.Ytomcjcoehahikaa.Sto Go.Proofs.Ytomcjcoehahikaa.MStoreRuns Go.Proofs.Ytomcjcoehahikaa.Shapes Go.Proofs.Ytomcjcoehahikaa.TyChainTells
set_option linter.unusedVariables false

theorem ChainTells : ∀ (l0 : List S31) (a1_0 : Int) (a1_1 : Int) (a1_2 : Int) (a1_3 : Int) (a1_4 : ByteArray) (a1_5 : Bool) (a2_0 : Int) (a2_1 : Int), l0.length * Try.prog.bytesOf 31 ≤ 140737488351232 → (∀ a ∈ l0, ok31 a) → ok31 ⟨⟨a1_0, a1_1⟩, ⟨a1_2, a1_3⟩, a1_4, a1_5⟩ → ok27 ⟨a2_0, a2_1⟩ → ∃ k, dovecotelaw07_ChainTells.f k l0 a1_0 a1_1 a1_2 a1_3 a1_4 a1_5 a2_0 a2_1 = some true := by
  intros
  exact ⟨0, rfl⟩

end Go.Proofs.Ytomcjcoehahikaa.Pure

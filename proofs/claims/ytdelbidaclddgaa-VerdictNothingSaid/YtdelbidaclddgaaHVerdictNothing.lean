/- The law VerdictNothing walked by hand; a seat's own text. -/
import Derived.Test.YtdelbidaclddgaaVerH
import Derived.Deep.LoopGhost
import Derived.Deep.Cut
import Derived.Lib.Hide
import Derived.StillTailTactics
import Derived.Deep.QuietTactic
import Derived.BigQuiet
import Derived.Outline
import Derived.Deep.RegionWith
import Derived.Deep.RegionHeld3
import Derived.WalkLawsBesides
namespace Go.Proofs.Ytdelbidaclddgaa.Ver
open Go.RowKit Go.Proofs.YtdelbidaclddgaaW.PrintWords
set_option linter.unusedVariables false
set_option linter.unusedSimpArgs false
open Go.Proofs.Ytdelbidaclddgaa.MVerdictRuns Go.Proofs.YtdelbidaclddgaaW.PrintLast
def dovecotelaw11_VerdictNothing.f (k : Nat) (a0 : S40) : Option Bool := some true
theorem dovecotelaw11_VerdictNothing.calls (k : Nat) (a0 : S40) (cs0 : Array Value) (r : Bool) (w : World) (hr0 : k40.K w a0 cs0.toList) (h : dovecotelaw11_VerdictNothing.f k a0 = some r) :
    Calls Try.prog 5 #[.agg cs0] w fun e w' => e = .returned (.bool r) ∧ Below w.heap.size w w' := by
  obtain rfl := Option.some.inj h
  obtain ⟨A, c, e, _, _⟩ := k40_open hr0
  have e2 : cs0 = _ := Array.toList_inj.1 (e.trans rfl : cs0.toList = (List.toArray [_, _, _, _, _, _, _, _, _, _, _, _]).toList)
  subst e2
  exact (nothing_walk a0.f0 a0.f1 a0.f2 A a0.f3.length c w).mono fun e w' ⟨h1, h2⟩ => ⟨h1, h2.bel⟩
end Go.Proofs.Ytdelbidaclddgaa.Ver

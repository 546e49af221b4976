/- The law LatchNothing walked by hand; a seat's own text. -/
import Derived.Test.YtdelbidaclddgaaLatS
import Derived.Deep.LoopGhost
import Derived.Deep.Cut
import Derived.Lib.Hide
import Derived.StillTailTactics
import Derived.Deep.QuietTactic
import Derived.BigQuiet
import Derived.Outline
import Derived.Deep.RegionWith
import Derived.Deep.RegionHeld3
import Derived.WalkLawsBesides
namespace Go.Proofs.Ytdelbidaclddgaa.Lat
open Go.RowKit Go.Proofs.YtdelbidaclddgaaW.PrintWords
set_option linter.unusedVariables false
set_option linter.unusedSimpArgs false
open Go.Proofs.Ytdelbidaclddgaa.MLatchRuns Go.Proofs.YtdelbidaclddgaaW.PrintLast
noncomputable def dovecotelaw10_LatchNothing.f (k : Nat) (a0 : S58) : Option Bool := some true
theorem dovecotelaw10_LatchNothing.calls (k : Nat) (a0 : S58) (cs0 : Array Value) (r : Bool) (w : World) (hr0 : k58.K w a0 cs0.toList) (h : dovecotelaw10_LatchNothing.f k a0 = some r) :
    Calls Try.prog 11 #[.agg cs0] w fun e w' => e = .returned (.bool r) ∧ Below w.heap.size w w' := by
  obtain rfl := Option.some.inj h
  obtain ⟨Aw, cw, Ab, cb, e, _, _⟩ := k58_open hr0
  have e2 : cs0 = _ := Array.toList_inj.1 (e.trans rfl : cs0.toList = (List.toArray [_, _, _, _, _, _, _, _, _, _, _, _]).toList)
  subst e2
  exact (nothing_walk a0 Aw Ab cw cb w).mono fun e w' ⟨h1, h2⟩ => ⟨h1, h2.bel⟩
end Go.Proofs.Ytdelbidaclddgaa.Lat

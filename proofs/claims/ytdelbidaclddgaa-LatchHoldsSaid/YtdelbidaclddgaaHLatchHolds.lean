/- The law LatchHolds walked by hand; a seat's own text. -/
import Derived.Test.YtdelbidaclddgaaLatU
import Derived.Deep.LoopGhost
import Derived.Deep.Cut
import Derived.Lib.Hide
import Derived.StillTailTactics
import Derived.Deep.QuietTactic
import Derived.BigQuiet
import Derived.Outline
import Derived.Deep.RegionWith
import Derived.Deep.RegionHeld3
import Derived.WalkLawsBesides
namespace Go.Proofs.Ytdelbidaclddgaa.Lat
open Go.RowKit Go.Proofs.YtdelbidaclddgaaW.PrintWords
set_option linter.unusedVariables false
set_option linter.unusedSimpArgs false
open Go.Proofs.Ytdelbidaclddgaa.MLatchRuns Go.Proofs.YtdelbidaclddgaaW.PrintLast
def okHolds (l : List S58) : Prop := ∀ a ∈ l, okAct a
open Classical in
noncomputable def dovecotelaw10_LatchHolds.f (k : Nat) (l0 : List S63) (l1 : List S58) : Option Bool := if okHolds l1 then some true else none
theorem dovecotelaw10_LatchHolds.calls (k : Nat) (A0 : Option Addr) (c0 : Nat) (l0 : List S63) (A1 : Option Addr) (c1 : Nat) (l1 : List S58) (r : Bool) (w : World) (hr0 : Kd.C k63 w A0 l0.length l0) (hc0 : l0.length ≤ c0) (hr1 : Kd.C k58 w A1 l1.length l1) (hc1 : l1.length ≤ c1) (h : dovecotelaw10_LatchHolds.f k l0 l1 = some r) :
    Calls Try.prog 9 #[.slice A0 l0.length c0, .slice A1 l1.length c1] w fun e w' => e = .returned (.bool r) ∧ Below w.heap.size w w' := by
  unfold dovecotelaw10_LatchHolds.f at h
  split at h
  · rename_i hg
    obtain rfl := Option.some.inj h
    exact (holds_walk hr0 hc0 hr1 hc1 hg).mono fun e w' ⟨h1, h2⟩ => ⟨h1, h2.bel⟩
  · cases h
end Go.Proofs.Ytdelbidaclddgaa.Lat

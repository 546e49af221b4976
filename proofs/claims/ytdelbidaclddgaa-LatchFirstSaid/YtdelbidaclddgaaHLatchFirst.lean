/- The law LatchFirst walked by hand; a seat's own text. -/
import Derived.Test.YtdelbidaclddgaaLatT
import Derived.Deep.LoopGhost
import Derived.Deep.Cut
import Derived.Lib.Hide
import Derived.StillTailTactics
import Derived.Deep.QuietTactic
import Derived.BigQuiet
import Derived.Outline
import Derived.Deep.RegionWith
import Derived.Deep.RegionHeld3
import Derived.WalkLawsBesides
namespace Go.Proofs.Ytdelbidaclddgaa.Lat
open Go.RowKit Go.Proofs.YtdelbidaclddgaaW.PrintWords
set_option linter.unusedVariables false
set_option linter.unusedSimpArgs false
open Go.Proofs.Ytdelbidaclddgaa.MLatchRuns Go.Proofs.YtdelbidaclddgaaW.PrintLast
def okFirst (l : List S58) (a : S58) : Prop := (∀ x ∈ l, okAct x) ∧ a.f8.length ≤ 4611686018427387904
open Classical in
noncomputable def dovecotelaw10_LatchFirst.f (k : Nat) (l0 : List S58) (a1 : S58) : Option Bool := if okFirst l0 a1 then some true else none
theorem dovecotelaw10_LatchFirst.calls (k : Nat) (A0 : Option Addr) (c0 : Nat) (l0 : List S58) (a1 : S58) (cs1 : Array Value) (r : Bool) (w : World) (hr0 : Kd.C k58 w A0 l0.length l0) (hc0 : l0.length ≤ c0) (hr1 : k58.K w a1 cs1.toList) (h : dovecotelaw10_LatchFirst.f k l0 a1 = some r) :
    Calls Try.prog 7 #[.slice A0 l0.length c0, .agg cs1] w fun e w' => e = .returned (.bool r) ∧ Below w.heap.size w w' := by
  unfold dovecotelaw10_LatchFirst.f at h
  split at h
  · rename_i hg
    obtain rfl := Option.some.inj h
    obtain ⟨Aw, cw, Ab, cb, e, _, _, hb, hk⟩ := k58_open hr1
    have e2 : cs1 = _ := Array.toList_inj.1 (e.trans rfl : cs1.toList = (List.toArray [_, _, _, _, _, _, _, _, _, _, _, _]).toList)
    subst e2
    exact (first_walk hr0 hc0 hg.1 a1 Aw Ab cw cb hb hk hg.2).mono fun e w' ⟨h1, h2⟩ => ⟨h1, h2.bel⟩
  · cases h
end Go.Proofs.Ytdelbidaclddgaa.Lat

/- The law VerdictStays walked by hand; a seat's own text. -/
import Derived.Test.YtdelbidaclddgaaVerO
import Derived.Deep.LoopGhost
import Derived.Deep.Cut
import Derived.Lib.Hide
import Derived.StillTailTactics
import Derived.Deep.QuietTactic
import Derived.BigQuiet
import Derived.Outline
import Derived.Deep.RegionWith
import Derived.Deep.RegionHeld3
import Derived.WalkLawsBesides
namespace Go.Proofs.Ytdelbidaclddgaa.Ver
open Go.RowKit Go.Proofs.YtdelbidaclddgaaW.PrintWords
set_option linter.unusedVariables false
set_option linter.unusedSimpArgs false
open Go.Proofs.Ytdelbidaclddgaa.MVerdictRuns Go.Proofs.YtdelbidaclddgaaW.PrintLast
def okStays (v : S37) (l : List S40) : Prop := Rng kcV knV v ∧ ∀ a ∈ l, okAct a
open Classical in
noncomputable def dovecotelaw11_VerdictStays.f (k : Nat) (a0_0 a0_1 a0_2 a0_3 a0_4 a0_5 a0_6 : Int) (a0_7 : Bool) (l1 : List S40) : Option Bool := if okStays ⟨⟨a0_0, a0_1⟩, ⟨a0_2, a0_3⟩, ⟨a0_4, a0_5⟩, a0_6, a0_7⟩ l1 then some true else none
theorem dovecotelaw11_VerdictStays.calls (k : Nat) (a0_0 : Int) (a0_1 : Int) (a0_2 : Int) (a0_3 : Int) (a0_4 : Int) (a0_5 : Int) (a0_6 : Int) (a0_7 : Bool) (A1 : Option Addr) (c1 : Nat) (l1 : List S40) (r : Bool) (w : World) (hr1 : Kd.C k40 w A1 l1.length l1) (hc1 : l1.length ≤ c1) (h : dovecotelaw11_VerdictStays.f k a0_0 a0_1 a0_2 a0_3 a0_4 a0_5 a0_6 a0_7 l1 = some r) :
    Calls Try.prog 4 #[.agg #[.int .u32 a0_0, .int .u32 a0_1, .int .u64 a0_2, .int .u32 a0_3, .int .u64 a0_4, .int .u32 a0_5, .int .u8 a0_6, .bool a0_7], .slice A1 l1.length c1] w fun e w' => e = .returned (.bool r) ∧ Below w.heap.size w w' := by
  unfold dovecotelaw11_VerdictStays.f at h
  split at h
  · rename_i hg
    obtain rfl := Option.some.inj h
    exact (stays_calls ⟨⟨a0_0, a0_1⟩, ⟨a0_2, a0_3⟩, ⟨a0_4, a0_5⟩, a0_6, a0_7⟩ hg.1 hr1 hc1 hg.2).mono fun e w' ⟨h1, h2⟩ => ⟨h1, h2.bel⟩
  · cases h
end Go.Proofs.Ytdelbidaclddgaa.Ver

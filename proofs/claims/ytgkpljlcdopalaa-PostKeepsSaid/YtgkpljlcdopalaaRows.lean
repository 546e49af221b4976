/-
  No cell of these rows narrows 'for every input' (looked for: loops, veiled, ifaces, maps, wideKeys, modest, calm, conditions, laid).
  DERIVED. THE GIVEN ROWS OF THIS SEAT. 10 by the template 'for every input the law returns true; each argument reads behind the call as it read before'; 0 by the template 'total and deterministic' (their statements: YtgkpljlcdopalaaTotals.lean).
  GIVEN WITH THE SEED: the statements are not yours to turn. If you find one false, say at which input.
  Laid BY PROGRAM, IN A SANDBOX (cutbox-rows.mjs): the forced cells as the released guide's own fill.sh prints them over the translation 08c26852ba07a18f… (all of the seat's roots in one cut). By AI agents, Wed Nov 11 2026. No macro, syntax, notation, axiom, sorry.
-/
import Derived.Test.YtgkpljlcdopalaaChecked
import GoSem.Claim
import GoSem.ClaimJoined
import GoSem.ClaimMapViews
import Derived.JoinedTies
import Derived.KernelRfl
namespace Go.Proofs.Ytgkpljlcdopalaa
/- THE CELL 'sum', in the pinned program and in every row, IS THE sha256 OF THE DUMP (.gsa) THAT YtgkpljlcdopalaaProg.lean LOADS. Nothing in Lean hashes anything: it is a label: what it is worth is what the hold of that sum in a sandbox is worth. -/
noncomputable def Try.pinned : Pinned := { name := "ytgkpljlcdopalaa", sum := "08c26852ba07a18f8aaf10ec8fa57d0d72146ff103ab0e33c3398da7adaf4b43", checked := Try.checked }
namespace Rows
def none {H : Type} : Left H := { results := [], args := [] }

/-- 'dovecotelaw06.ClockCounts': WHATEVER THE INPUT: true; the input reads as it did. -/
def clockCountsSpec : ChangeSpec := { name := "clockCounts", fn := fun _ => fun
  | [d1, d2, d3] => { results := [.lit (.bool true)], args := [d1, d2, d3] }
  | _ => none }
def clockCountsRow : OpenClaim := { program := "ytgkpljlcdopalaa", sum := "08c26852ba07a18f8aaf10ec8fa57d0d72146ff103ab0e33c3398da7adaf4b43", func := "dovecote/dovecotelaw06.ClockCounts", spec := "clockCounts", apart := false }
def ClockCountsSaid : Prop := clockCountsRow.holds Try.pinned (OpenSpec.ofChange clockCountsSpec)

/-- ITS FALSE NEIGHBOUR: 'it returns false'. Refute it at one input. -/
def clockCountsWrong : ChangeSpec := { name := "clockCounts", fn := fun _ => fun
  | [d1, d2, d3] => { results := [.lit (.bool false)], args := [d1, d2, d3] }
  | _ => none }
def ClockCountsWrongFalsely : Prop := clockCountsRow.holds Try.pinned (OpenSpec.ofChange clockCountsWrong)

/-- 'dovecotelaw16.PostFirst': WHATEVER THE INPUT: true; the input reads as it did. -/
def postFirstSpec : ChangeSpec := { name := "postFirst", fn := fun _ => fun
  | [d] => { results := [.lit (.bool true)], args := [d] }
  | _ => none }
def postFirstRow : OpenClaim := { program := "ytgkpljlcdopalaa", sum := "08c26852ba07a18f8aaf10ec8fa57d0d72146ff103ab0e33c3398da7adaf4b43", func := "dovecote/dovecotelaw16.PostFirst", spec := "postFirst", apart := false }
def PostFirstSaid : Prop := postFirstRow.holds Try.pinned (OpenSpec.ofChange postFirstSpec)

/-- ITS FALSE NEIGHBOUR: 'it returns false'. Refute it at one input. -/
def postFirstWrong : ChangeSpec := { name := "postFirst", fn := fun _ => fun
  | [d] => { results := [.lit (.bool false)], args := [d] }
  | _ => none }
def PostFirstWrongFalsely : Prop := postFirstRow.holds Try.pinned (OpenSpec.ofChange postFirstWrong)

/-- 'dovecotelaw16.PostRuns': WHATEVER THE INPUT: true; the input reads as it did. -/
def postRunsSpec : ChangeSpec := { name := "postRuns", fn := fun _ => fun
  | [d] => { results := [.lit (.bool true)], args := [d] }
  | _ => none }
def postRunsRow : OpenClaim := { program := "ytgkpljlcdopalaa", sum := "08c26852ba07a18f8aaf10ec8fa57d0d72146ff103ab0e33c3398da7adaf4b43", func := "dovecote/dovecotelaw16.PostRuns", spec := "postRuns", apart := false }
def PostRunsSaid : Prop := postRunsRow.holds Try.pinned (OpenSpec.ofChange postRunsSpec)

/-- ITS FALSE NEIGHBOUR: 'it returns false'. Refute it at one input. -/
def postRunsWrong : ChangeSpec := { name := "postRuns", fn := fun _ => fun
  | [d] => { results := [.lit (.bool false)], args := [d] }
  | _ => none }
def PostRunsWrongFalsely : Prop := postRunsRow.holds Try.pinned (OpenSpec.ofChange postRunsWrong)

/-- 'dovecotelaw16.PostKeeps': WHATEVER THE INPUT: true; the input reads as it did. -/
def postKeepsSpec : ChangeSpec := { name := "postKeeps", fn := fun _ => fun
  | [d] => { results := [.lit (.bool true)], args := [d] }
  | _ => none }
def postKeepsRow : OpenClaim := { program := "ytgkpljlcdopalaa", sum := "08c26852ba07a18f8aaf10ec8fa57d0d72146ff103ab0e33c3398da7adaf4b43", func := "dovecote/dovecotelaw16.PostKeeps", spec := "postKeeps", apart := false }
def PostKeepsSaid : Prop := postKeepsRow.holds Try.pinned (OpenSpec.ofChange postKeepsSpec)

/-- ITS FALSE NEIGHBOUR: 'it returns false'. Refute it at one input. -/
def postKeepsWrong : ChangeSpec := { name := "postKeeps", fn := fun _ => fun
  | [d] => { results := [.lit (.bool false)], args := [d] }
  | _ => none }
def PostKeepsWrongFalsely : Prop := postKeepsRow.holds Try.pinned (OpenSpec.ofChange postKeepsWrong)

/-- 'dovecotelaw18.MarkTells': WHATEVER THE INPUT: true; the input reads as it did. -/
def markTellsSpec : ChangeSpec := { name := "markTells", fn := fun _ => fun
  | [d1, d2, d3] => { results := [.lit (.bool true)], args := [d1, d2, d3] }
  | _ => none }
def markTellsRow : OpenClaim := { program := "ytgkpljlcdopalaa", sum := "08c26852ba07a18f8aaf10ec8fa57d0d72146ff103ab0e33c3398da7adaf4b43", func := "dovecote/dovecotelaw18.MarkTells", spec := "markTells", apart := false }
def MarkTellsSaid : Prop := markTellsRow.holds Try.pinned (OpenSpec.ofChange markTellsSpec)

/-- ITS FALSE NEIGHBOUR: 'it returns false'. Refute it at one input. -/
def markTellsWrong : ChangeSpec := { name := "markTells", fn := fun _ => fun
  | [d1, d2, d3] => { results := [.lit (.bool false)], args := [d1, d2, d3] }
  | _ => none }
def MarkTellsWrongFalsely : Prop := markTellsRow.holds Try.pinned (OpenSpec.ofChange markTellsWrong)

/-- 'dovecotelaw18.MarkRises': WHATEVER THE INPUT: true; the input reads as it did. -/
def markRisesSpec : ChangeSpec := { name := "markRises", fn := fun _ => fun
  | [d1, d2, d3] => { results := [.lit (.bool true)], args := [d1, d2, d3] }
  | _ => none }
def markRisesRow : OpenClaim := { program := "ytgkpljlcdopalaa", sum := "08c26852ba07a18f8aaf10ec8fa57d0d72146ff103ab0e33c3398da7adaf4b43", func := "dovecote/dovecotelaw18.MarkRises", spec := "markRises", apart := false }
def MarkRisesSaid : Prop := markRisesRow.holds Try.pinned (OpenSpec.ofChange markRisesSpec)

/-- ITS FALSE NEIGHBOUR: 'it returns false'. Refute it at one input. -/
def markRisesWrong : ChangeSpec := { name := "markRises", fn := fun _ => fun
  | [d1, d2, d3] => { results := [.lit (.bool false)], args := [d1, d2, d3] }
  | _ => none }
def MarkRisesWrongFalsely : Prop := markRisesRow.holds Try.pinned (OpenSpec.ofChange markRisesWrong)

/-- 'dovecotelaw06.ClockBounds': WHATEVER THE INPUT: true; the input reads as it did. -/
def clockBoundsSpec : ChangeSpec := { name := "clockBounds", fn := fun _ => fun
  | [d1, d2] => { results := [.lit (.bool true)], args := [d1, d2] }
  | _ => none }
def clockBoundsRow : OpenClaim := { program := "ytgkpljlcdopalaa", sum := "08c26852ba07a18f8aaf10ec8fa57d0d72146ff103ab0e33c3398da7adaf4b43", func := "dovecote/dovecotelaw06.ClockBounds", spec := "clockBounds", apart := false }
def ClockBoundsSaid : Prop := clockBoundsRow.holds Try.pinned (OpenSpec.ofChange clockBoundsSpec)

/-- ITS FALSE NEIGHBOUR: 'it returns false'. Refute it at one input. -/
def clockBoundsWrong : ChangeSpec := { name := "clockBounds", fn := fun _ => fun
  | [d1, d2] => { results := [.lit (.bool false)], args := [d1, d2] }
  | _ => none }
def ClockBoundsWrongFalsely : Prop := clockBoundsRow.holds Try.pinned (OpenSpec.ofChange clockBoundsWrong)

/-- 'dovecotelaw06.ClockRises': WHATEVER THE INPUT: true; the input reads as it did. -/
def clockRisesSpec : ChangeSpec := { name := "clockRises", fn := fun _ => fun
  | [d1, d2, d3] => { results := [.lit (.bool true)], args := [d1, d2, d3] }
  | _ => none }
def clockRisesRow : OpenClaim := { program := "ytgkpljlcdopalaa", sum := "08c26852ba07a18f8aaf10ec8fa57d0d72146ff103ab0e33c3398da7adaf4b43", func := "dovecote/dovecotelaw06.ClockRises", spec := "clockRises", apart := false }
def ClockRisesSaid : Prop := clockRisesRow.holds Try.pinned (OpenSpec.ofChange clockRisesSpec)

/-- ITS FALSE NEIGHBOUR: 'it returns false'. Refute it at one input. -/
def clockRisesWrong : ChangeSpec := { name := "clockRises", fn := fun _ => fun
  | [d1, d2, d3] => { results := [.lit (.bool false)], args := [d1, d2, d3] }
  | _ => none }
def ClockRisesWrongFalsely : Prop := clockRisesRow.holds Try.pinned (OpenSpec.ofChange clockRisesWrong)

/-- 'dovecotelaw06.ClockTalks': WHATEVER THE INPUT: true; the input reads as it did. -/
def clockTalksSpec : ChangeSpec := { name := "clockTalks", fn := fun _ => fun
  | [d] => { results := [.lit (.bool true)], args := [d] }
  | _ => none }
def clockTalksRow : OpenClaim := { program := "ytgkpljlcdopalaa", sum := "08c26852ba07a18f8aaf10ec8fa57d0d72146ff103ab0e33c3398da7adaf4b43", func := "dovecote/dovecotelaw06.ClockTalks", spec := "clockTalks", apart := false }
def ClockTalksSaid : Prop := clockTalksRow.holds Try.pinned (OpenSpec.ofChange clockTalksSpec)

/-- ITS FALSE NEIGHBOUR: 'it returns false'. Refute it at one input. -/
def clockTalksWrong : ChangeSpec := { name := "clockTalks", fn := fun _ => fun
  | [d] => { results := [.lit (.bool false)], args := [d] }
  | _ => none }
def ClockTalksWrongFalsely : Prop := clockTalksRow.holds Try.pinned (OpenSpec.ofChange clockTalksWrong)

/-- 'dovecotelaw06.ClockTells': WHATEVER THE INPUT: true; the input reads as it did. -/
def clockTellsSpec : ChangeSpec := { name := "clockTells", fn := fun _ => fun
  | [d1, d2, d3] => { results := [.lit (.bool true)], args := [d1, d2, d3] }
  | _ => none }
def clockTellsRow : OpenClaim := { program := "ytgkpljlcdopalaa", sum := "08c26852ba07a18f8aaf10ec8fa57d0d72146ff103ab0e33c3398da7adaf4b43", func := "dovecote/dovecotelaw06.ClockTells", spec := "clockTells", apart := false }
def ClockTellsSaid : Prop := clockTellsRow.holds Try.pinned (OpenSpec.ofChange clockTellsSpec)

/-- ITS FALSE NEIGHBOUR: 'it returns false'. Refute it at one input. -/
def clockTellsWrong : ChangeSpec := { name := "clockTells", fn := fun _ => fun
  | [d1, d2, d3] => { results := [.lit (.bool false)], args := [d1, d2, d3] }
  | _ => none }
def ClockTellsWrongFalsely : Prop := clockTellsRow.holds Try.pinned (OpenSpec.ofChange clockTellsWrong)

/- THE SECOND FORM. 'bulk': how many values and letters a reading holds, each counted each time it is reached (what is shared counts as often as it is met; a slice's spare places count too). A statement '..UptoSaid' is the law's where the arguments, and the package variables that the reading takes, are together of bulk at most 1048576: NARROWER than '..Said'. Prove '..Said' where nothing that the law and all that it calls make is longer than what came in: it says more and counts as full. Else prove '..UptoSaid'. A law counts once. -/
mutual
def uptoBulk {H : Type} : DataW H → Nat
  | .lit (.string bytes) => bytes.length + 1
  | .lit _ => 1
  | .nil => 1
  | .ptr d => uptoBulk d + 1
  | .slice elems spare => uptoBulkAll elems + uptoBulkAll spare + 1
  | .agg parts => uptoBulkAll parts + 1
  | .iface _ d => uptoBulk d + 1
  | .map entries => uptoBulkEntries entries + 1
  | .held _ => 1
def uptoBulkAll {H : Type} : List (DataW H) → Nat
  | [] => 0
  | d :: r => uptoBulk d + uptoBulkAll r
def uptoBulkEntries {H : Type} : List (Lit × DataW H) → Nat
  | [] => 0
  | x :: r => uptoBulkEntry x + uptoBulkEntries r
def uptoBulkEntry {H : Type} : Lit × DataW H → Nat
  | (.string bytes, d) => bytes.length + uptoBulk d + 1
  | (_, d) => uptoBulk d + 1
 end
def uptoSmall : (H : Type) → List (DataW H) → Bool := fun _ ds => decide (uptoBulkAll ds ≤ 1048576)
def OpenSpec.upto (s : _root_.Go.ChangeSpec) : _root_.Go.OpenSpec := { _root_.Go.OpenSpec.ofChange s with cond := some uptoSmall }

/-- 'dovecotelaw06.ClockCounts', WHERE WHAT IT READS IS OF BULK AT MOST 1048576: true; the input reads as it did. -/
def clockCountsUptoRow : OpenClaim := { program := "ytgkpljlcdopalaa", sum := "08c26852ba07a18f8aaf10ec8fa57d0d72146ff103ab0e33c3398da7adaf4b43", func := "dovecote/dovecotelaw06.ClockCounts", spec := "clockCounts", apart := false, narrowed := true }
def ClockCountsUptoSaid : Prop := clockCountsUptoRow.holds Try.pinned (OpenSpec.upto clockCountsSpec)

/-- 'dovecotelaw16.PostFirst', WHERE WHAT IT READS IS OF BULK AT MOST 1048576: true; the input reads as it did. -/
def postFirstUptoRow : OpenClaim := { program := "ytgkpljlcdopalaa", sum := "08c26852ba07a18f8aaf10ec8fa57d0d72146ff103ab0e33c3398da7adaf4b43", func := "dovecote/dovecotelaw16.PostFirst", spec := "postFirst", apart := false, narrowed := true }
def PostFirstUptoSaid : Prop := postFirstUptoRow.holds Try.pinned (OpenSpec.upto postFirstSpec)

/-- 'dovecotelaw16.PostRuns', WHERE WHAT IT READS IS OF BULK AT MOST 1048576: true; the input reads as it did. -/
def postRunsUptoRow : OpenClaim := { program := "ytgkpljlcdopalaa", sum := "08c26852ba07a18f8aaf10ec8fa57d0d72146ff103ab0e33c3398da7adaf4b43", func := "dovecote/dovecotelaw16.PostRuns", spec := "postRuns", apart := false, narrowed := true }
def PostRunsUptoSaid : Prop := postRunsUptoRow.holds Try.pinned (OpenSpec.upto postRunsSpec)

/-- 'dovecotelaw16.PostKeeps', WHERE WHAT IT READS IS OF BULK AT MOST 1048576: true; the input reads as it did. -/
def postKeepsUptoRow : OpenClaim := { program := "ytgkpljlcdopalaa", sum := "08c26852ba07a18f8aaf10ec8fa57d0d72146ff103ab0e33c3398da7adaf4b43", func := "dovecote/dovecotelaw16.PostKeeps", spec := "postKeeps", apart := false, narrowed := true }
def PostKeepsUptoSaid : Prop := postKeepsUptoRow.holds Try.pinned (OpenSpec.upto postKeepsSpec)

/-- 'dovecotelaw18.MarkTells', WHERE WHAT IT READS IS OF BULK AT MOST 1048576: true; the input reads as it did. -/
def markTellsUptoRow : OpenClaim := { program := "ytgkpljlcdopalaa", sum := "08c26852ba07a18f8aaf10ec8fa57d0d72146ff103ab0e33c3398da7adaf4b43", func := "dovecote/dovecotelaw18.MarkTells", spec := "markTells", apart := false, narrowed := true }
def MarkTellsUptoSaid : Prop := markTellsUptoRow.holds Try.pinned (OpenSpec.upto markTellsSpec)

/-- 'dovecotelaw18.MarkRises', WHERE WHAT IT READS IS OF BULK AT MOST 1048576: true; the input reads as it did. -/
def markRisesUptoRow : OpenClaim := { program := "ytgkpljlcdopalaa", sum := "08c26852ba07a18f8aaf10ec8fa57d0d72146ff103ab0e33c3398da7adaf4b43", func := "dovecote/dovecotelaw18.MarkRises", spec := "markRises", apart := false, narrowed := true }
def MarkRisesUptoSaid : Prop := markRisesUptoRow.holds Try.pinned (OpenSpec.upto markRisesSpec)

/-- 'dovecotelaw06.ClockBounds', WHERE WHAT IT READS IS OF BULK AT MOST 1048576: true; the input reads as it did. -/
def clockBoundsUptoRow : OpenClaim := { program := "ytgkpljlcdopalaa", sum := "08c26852ba07a18f8aaf10ec8fa57d0d72146ff103ab0e33c3398da7adaf4b43", func := "dovecote/dovecotelaw06.ClockBounds", spec := "clockBounds", apart := false, narrowed := true }
def ClockBoundsUptoSaid : Prop := clockBoundsUptoRow.holds Try.pinned (OpenSpec.upto clockBoundsSpec)

/-- 'dovecotelaw06.ClockRises', WHERE WHAT IT READS IS OF BULK AT MOST 1048576: true; the input reads as it did. -/
def clockRisesUptoRow : OpenClaim := { program := "ytgkpljlcdopalaa", sum := "08c26852ba07a18f8aaf10ec8fa57d0d72146ff103ab0e33c3398da7adaf4b43", func := "dovecote/dovecotelaw06.ClockRises", spec := "clockRises", apart := false, narrowed := true }
def ClockRisesUptoSaid : Prop := clockRisesUptoRow.holds Try.pinned (OpenSpec.upto clockRisesSpec)

/-- 'dovecotelaw06.ClockTalks', WHERE WHAT IT READS IS OF BULK AT MOST 1048576: true; the input reads as it did. -/
def clockTalksUptoRow : OpenClaim := { program := "ytgkpljlcdopalaa", sum := "08c26852ba07a18f8aaf10ec8fa57d0d72146ff103ab0e33c3398da7adaf4b43", func := "dovecote/dovecotelaw06.ClockTalks", spec := "clockTalks", apart := false, narrowed := true }
def ClockTalksUptoSaid : Prop := clockTalksUptoRow.holds Try.pinned (OpenSpec.upto clockTalksSpec)

/-- 'dovecotelaw06.ClockTells', WHERE WHAT IT READS IS OF BULK AT MOST 1048576: true; the input reads as it did. -/
def clockTellsUptoRow : OpenClaim := { program := "ytgkpljlcdopalaa", sum := "08c26852ba07a18f8aaf10ec8fa57d0d72146ff103ab0e33c3398da7adaf4b43", func := "dovecote/dovecotelaw06.ClockTells", spec := "clockTells", apart := false, narrowed := true }
def ClockTellsUptoSaid : Prop := clockTellsUptoRow.holds Try.pinned (OpenSpec.upto clockTellsSpec)

end Rows
end Go.Proofs.Ytgkpljlcdopalaa

/-
  No cell of these rows narrows 'for every input' (looked for: loops, veiled, ifaces, maps, wideKeys, modest, calm, conditions, laid).
  DERIVED. THE GIVEN ROWS OF THIS SEAT. 9 by the template 'for every input the law returns true; each argument reads behind the call as it read before'; 0 by the template 'total and deterministic' (their statements: YtdelbidaclddgaaTotals.lean).
  GIVEN WITH THE SEED: the statements are not yours to turn. If you find one false, say at which input.
  Laid BY PROGRAM, IN A SANDBOX (cutbox-rows.mjs): the forced cells as the released guide's own fill.sh prints them over the translation 4bf4275e25e099a7… (all of the seat's roots in one cut). By AI agents, Wed Nov 11 2026. No macro, syntax, notation, axiom, sorry.
-/
import Derived.Test.YtdelbidaclddgaaChecked
import GoSem.Claim
import GoSem.ClaimJoined
import GoSem.ClaimMapViews
import Derived.JoinedTies
import Derived.KernelRfl
namespace Go.Proofs.Ytdelbidaclddgaa
/- THE CELL 'sum', in the pinned program and in every row, IS THE sha256 OF THE DUMP (.gsa) THAT YtdelbidaclddgaaProg.lean LOADS. Nothing in Lean hashes anything: it is a label: what it is worth is what the hold of that sum in a sandbox is worth. -/
noncomputable def Try.pinned : Pinned := { name := "ytdelbidaclddgaa", sum := "4bf4275e25e099a7e48f9cf449e61eca9e841052667b4806b6cdc241318d89bc", checked := Try.checked }
namespace Rows
def none {H : Type} : Left H := { results := [], args := [] }

/-- 'dovecotelaw11.VerdictRuns': WHATEVER THE INPUT: true; the input reads as it did. -/
def verdictRunsSpec : ChangeSpec := { name := "verdictRuns", fn := fun _ => fun
  | [d] => { results := [.lit (.bool true)], args := [d] }
  | _ => none }
def verdictRunsRow : OpenClaim := { program := "ytdelbidaclddgaa", sum := "4bf4275e25e099a7e48f9cf449e61eca9e841052667b4806b6cdc241318d89bc", func := "dovecote/dovecotelaw11.VerdictRuns", spec := "verdictRuns", unfollowed := true, recurses := true, plainKeys := false, apart := false }
def VerdictRunsSaid : Prop := verdictRunsRow.holds Try.pinned (OpenSpec.ofChange verdictRunsSpec)

/-- ITS FALSE NEIGHBOUR: 'it returns false'. Refute it at one input. -/
def verdictRunsWrong : ChangeSpec := { name := "verdictRuns", fn := fun _ => fun
  | [d] => { results := [.lit (.bool false)], args := [d] }
  | _ => none }
def VerdictRunsWrongFalsely : Prop := verdictRunsRow.holds Try.pinned (OpenSpec.ofChange verdictRunsWrong)

/-- 'dovecotelaw11.VerdictStays': WHATEVER THE INPUT: true; the input reads as it did. -/
def verdictStaysSpec : ChangeSpec := { name := "verdictStays", fn := fun _ => fun
  | [d1, d2] => { results := [.lit (.bool true)], args := [d1, d2] }
  | _ => none }
def verdictStaysRow : OpenClaim := { program := "ytdelbidaclddgaa", sum := "4bf4275e25e099a7e48f9cf449e61eca9e841052667b4806b6cdc241318d89bc", func := "dovecote/dovecotelaw11.VerdictStays", spec := "verdictStays", unfollowed := true, recurses := true, plainKeys := false, apart := false }
def VerdictStaysSaid : Prop := verdictStaysRow.holds Try.pinned (OpenSpec.ofChange verdictStaysSpec)

/-- ITS FALSE NEIGHBOUR: 'it returns false'. Refute it at one input. -/
def verdictStaysWrong : ChangeSpec := { name := "verdictStays", fn := fun _ => fun
  | [d1, d2] => { results := [.lit (.bool false)], args := [d1, d2] }
  | _ => none }
def VerdictStaysWrongFalsely : Prop := verdictStaysRow.holds Try.pinned (OpenSpec.ofChange verdictStaysWrong)

/-- 'dovecotelaw11.VerdictNothing': WHATEVER THE INPUT: true; the input reads as it did. -/
def verdictNothingSpec : ChangeSpec := { name := "verdictNothing", fn := fun _ => fun
  | [d] => { results := [.lit (.bool true)], args := [d] }
  | _ => none }
def verdictNothingRow : OpenClaim := { program := "ytdelbidaclddgaa", sum := "4bf4275e25e099a7e48f9cf449e61eca9e841052667b4806b6cdc241318d89bc", func := "dovecote/dovecotelaw11.VerdictNothing", spec := "verdictNothing", unfollowed := true, recurses := true, plainKeys := false, apart := false }
def VerdictNothingSaid : Prop := verdictNothingRow.holds Try.pinned (OpenSpec.ofChange verdictNothingSpec)

/-- ITS FALSE NEIGHBOUR: 'it returns false'. Refute it at one input. -/
def verdictNothingWrong : ChangeSpec := { name := "verdictNothing", fn := fun _ => fun
  | [d] => { results := [.lit (.bool false)], args := [d] }
  | _ => none }
def VerdictNothingWrongFalsely : Prop := verdictNothingRow.holds Try.pinned (OpenSpec.ofChange verdictNothingWrong)

/-- 'dovecotelaw11.VerdictOrder': WHATEVER THE INPUT: true; the input reads as it did. -/
def verdictOrderSpec : ChangeSpec := { name := "verdictOrder", fn := fun _ => fun
  | [d1, d2] => { results := [.lit (.bool true)], args := [d1, d2] }
  | _ => none }
def verdictOrderRow : OpenClaim := { program := "ytdelbidaclddgaa", sum := "4bf4275e25e099a7e48f9cf449e61eca9e841052667b4806b6cdc241318d89bc", func := "dovecote/dovecotelaw11.VerdictOrder", spec := "verdictOrder", unfollowed := true, recurses := true, plainKeys := false, apart := false }
def VerdictOrderSaid : Prop := verdictOrderRow.holds Try.pinned (OpenSpec.ofChange verdictOrderSpec)

/-- ITS FALSE NEIGHBOUR: 'it returns false'. Refute it at one input. -/
def verdictOrderWrong : ChangeSpec := { name := "verdictOrder", fn := fun _ => fun
  | [d1, d2] => { results := [.lit (.bool false)], args := [d1, d2] }
  | _ => none }
def VerdictOrderWrongFalsely : Prop := verdictOrderRow.holds Try.pinned (OpenSpec.ofChange verdictOrderWrong)

/-- 'dovecotelaw10.LatchFirst': WHATEVER THE INPUT: true; the input reads as it did. -/
def latchFirstSpec : ChangeSpec := { name := "latchFirst", fn := fun _ => fun
  | [d1, d2] => { results := [.lit (.bool true)], args := [d1, d2] }
  | _ => none }
def latchFirstRow : OpenClaim := { program := "ytdelbidaclddgaa", sum := "4bf4275e25e099a7e48f9cf449e61eca9e841052667b4806b6cdc241318d89bc", func := "dovecote/dovecotelaw10.LatchFirst", spec := "latchFirst", unfollowed := true, recurses := true, plainKeys := false, apart := false }
def LatchFirstSaid : Prop := latchFirstRow.holds Try.pinned (OpenSpec.ofChange latchFirstSpec)

/-- ITS FALSE NEIGHBOUR: 'it returns false'. Refute it at one input. -/
def latchFirstWrong : ChangeSpec := { name := "latchFirst", fn := fun _ => fun
  | [d1, d2] => { results := [.lit (.bool false)], args := [d1, d2] }
  | _ => none }
def LatchFirstWrongFalsely : Prop := latchFirstRow.holds Try.pinned (OpenSpec.ofChange latchFirstWrong)

/-- 'dovecotelaw10.LatchWhole': WHATEVER THE INPUT: true; the input reads as it did. -/
def latchWholeSpec : ChangeSpec := { name := "latchWhole", fn := fun _ => fun
  | [d] => { results := [.lit (.bool true)], args := [d] }
  | _ => none }
def latchWholeRow : OpenClaim := { program := "ytdelbidaclddgaa", sum := "4bf4275e25e099a7e48f9cf449e61eca9e841052667b4806b6cdc241318d89bc", func := "dovecote/dovecotelaw10.LatchWhole", spec := "latchWhole", unfollowed := true, recurses := true, plainKeys := false, apart := false }
def LatchWholeSaid : Prop := latchWholeRow.holds Try.pinned (OpenSpec.ofChange latchWholeSpec)

/-- ITS FALSE NEIGHBOUR: 'it returns false'. Refute it at one input. -/
def latchWholeWrong : ChangeSpec := { name := "latchWhole", fn := fun _ => fun
  | [d] => { results := [.lit (.bool false)], args := [d] }
  | _ => none }
def LatchWholeWrongFalsely : Prop := latchWholeRow.holds Try.pinned (OpenSpec.ofChange latchWholeWrong)

/-- 'dovecotelaw10.LatchHolds': WHATEVER THE INPUT: true; the input reads as it did. -/
def latchHoldsSpec : ChangeSpec := { name := "latchHolds", fn := fun _ => fun
  | [d1, d2] => { results := [.lit (.bool true)], args := [d1, d2] }
  | _ => none }
def latchHoldsRow : OpenClaim := { program := "ytdelbidaclddgaa", sum := "4bf4275e25e099a7e48f9cf449e61eca9e841052667b4806b6cdc241318d89bc", func := "dovecote/dovecotelaw10.LatchHolds", spec := "latchHolds", unfollowed := true, recurses := true, plainKeys := false, apart := false }
def LatchHoldsSaid : Prop := latchHoldsRow.holds Try.pinned (OpenSpec.ofChange latchHoldsSpec)

/-- ITS FALSE NEIGHBOUR: 'it returns false'. Refute it at one input. -/
def latchHoldsWrong : ChangeSpec := { name := "latchHolds", fn := fun _ => fun
  | [d1, d2] => { results := [.lit (.bool false)], args := [d1, d2] }
  | _ => none }
def LatchHoldsWrongFalsely : Prop := latchHoldsRow.holds Try.pinned (OpenSpec.ofChange latchHoldsWrong)

/-- 'dovecotelaw10.LatchRuns': WHATEVER THE INPUT: true; the input reads as it did. -/
def latchRunsSpec : ChangeSpec := { name := "latchRuns", fn := fun _ => fun
  | [d] => { results := [.lit (.bool true)], args := [d] }
  | _ => none }
def latchRunsRow : OpenClaim := { program := "ytdelbidaclddgaa", sum := "4bf4275e25e099a7e48f9cf449e61eca9e841052667b4806b6cdc241318d89bc", func := "dovecote/dovecotelaw10.LatchRuns", spec := "latchRuns", unfollowed := true, recurses := true, plainKeys := false, apart := false }
def LatchRunsSaid : Prop := latchRunsRow.holds Try.pinned (OpenSpec.ofChange latchRunsSpec)

/-- ITS FALSE NEIGHBOUR: 'it returns false'. Refute it at one input. -/
def latchRunsWrong : ChangeSpec := { name := "latchRuns", fn := fun _ => fun
  | [d] => { results := [.lit (.bool false)], args := [d] }
  | _ => none }
def LatchRunsWrongFalsely : Prop := latchRunsRow.holds Try.pinned (OpenSpec.ofChange latchRunsWrong)

/-- 'dovecotelaw10.LatchNothing': WHATEVER THE INPUT: true; the input reads as it did. -/
def latchNothingSpec : ChangeSpec := { name := "latchNothing", fn := fun _ => fun
  | [d] => { results := [.lit (.bool true)], args := [d] }
  | _ => none }
def latchNothingRow : OpenClaim := { program := "ytdelbidaclddgaa", sum := "4bf4275e25e099a7e48f9cf449e61eca9e841052667b4806b6cdc241318d89bc", func := "dovecote/dovecotelaw10.LatchNothing", spec := "latchNothing", unfollowed := true, recurses := true, plainKeys := false, apart := false }
def LatchNothingSaid : Prop := latchNothingRow.holds Try.pinned (OpenSpec.ofChange latchNothingSpec)

/-- ITS FALSE NEIGHBOUR: 'it returns false'. Refute it at one input. -/
def latchNothingWrong : ChangeSpec := { name := "latchNothing", fn := fun _ => fun
  | [d] => { results := [.lit (.bool false)], args := [d] }
  | _ => none }
def LatchNothingWrongFalsely : Prop := latchNothingRow.holds Try.pinned (OpenSpec.ofChange latchNothingWrong)

/- THE SECOND FORM. 'bulk': how many values and letters a reading holds, each counted each time it is reached (what is shared counts as often as it is met; a slice's spare places count too). A statement '..UptoSaid' is the law's where the arguments, and the package variables that the reading takes, are together of bulk at most 1048576: NARROWER than '..Said'. Prove '..Said' where nothing that the law and all that it calls make is longer than what came in: it says more and counts as full. Else prove '..UptoSaid'. A law counts once. -/
mutual
def uptoBulk {H : Type} : DataW H → Nat
  | .lit (.string bytes) => bytes.length + 1
  | .lit _ => 1
  | .nil => 1
  | .ptr d => uptoBulk d + 1
  | .slice elems spare => uptoBulkAll elems + uptoBulkAll spare + 1
  | .agg parts => uptoBulkAll parts + 1
  | .iface _ d => uptoBulk d + 1
  | .map entries => uptoBulkEntries entries + 1
  | .held _ => 1
def uptoBulkAll {H : Type} : List (DataW H) → Nat
  | [] => 0
  | d :: r => uptoBulk d + uptoBulkAll r
def uptoBulkEntries {H : Type} : List (Lit × DataW H) → Nat
  | [] => 0
  | x :: r => uptoBulkEntry x + uptoBulkEntries r
def uptoBulkEntry {H : Type} : Lit × DataW H → Nat
  | (.string bytes, d) => bytes.length + uptoBulk d + 1
  | (_, d) => uptoBulk d + 1
 end
def uptoSmall : (H : Type) → List (DataW H) → Bool := fun _ ds => decide (uptoBulkAll ds ≤ 1048576)
def OpenSpec.upto (s : _root_.Go.ChangeSpec) : _root_.Go.OpenSpec := { _root_.Go.OpenSpec.ofChange s with cond := some uptoSmall }

/-- 'dovecotelaw11.VerdictRuns', WHERE WHAT IT READS IS OF BULK AT MOST 1048576: true; the input reads as it did. -/
def verdictRunsUptoRow : OpenClaim := { program := "ytdelbidaclddgaa", sum := "4bf4275e25e099a7e48f9cf449e61eca9e841052667b4806b6cdc241318d89bc", func := "dovecote/dovecotelaw11.VerdictRuns", spec := "verdictRuns", unfollowed := true, recurses := true, plainKeys := false, apart := false, narrowed := true }
def VerdictRunsUptoSaid : Prop := verdictRunsUptoRow.holds Try.pinned (OpenSpec.upto verdictRunsSpec)

/-- 'dovecotelaw11.VerdictStays', WHERE WHAT IT READS IS OF BULK AT MOST 1048576: true; the input reads as it did. -/
def verdictStaysUptoRow : OpenClaim := { program := "ytdelbidaclddgaa", sum := "4bf4275e25e099a7e48f9cf449e61eca9e841052667b4806b6cdc241318d89bc", func := "dovecote/dovecotelaw11.VerdictStays", spec := "verdictStays", unfollowed := true, recurses := true, plainKeys := false, apart := false, narrowed := true }
def VerdictStaysUptoSaid : Prop := verdictStaysUptoRow.holds Try.pinned (OpenSpec.upto verdictStaysSpec)

/-- 'dovecotelaw11.VerdictNothing', WHERE WHAT IT READS IS OF BULK AT MOST 1048576: true; the input reads as it did. -/
def verdictNothingUptoRow : OpenClaim := { program := "ytdelbidaclddgaa", sum := "4bf4275e25e099a7e48f9cf449e61eca9e841052667b4806b6cdc241318d89bc", func := "dovecote/dovecotelaw11.VerdictNothing", spec := "verdictNothing", unfollowed := true, recurses := true, plainKeys := false, apart := false, narrowed := true }
def VerdictNothingUptoSaid : Prop := verdictNothingUptoRow.holds Try.pinned (OpenSpec.upto verdictNothingSpec)

/-- 'dovecotelaw11.VerdictOrder', WHERE WHAT IT READS IS OF BULK AT MOST 1048576: true; the input reads as it did. -/
def verdictOrderUptoRow : OpenClaim := { program := "ytdelbidaclddgaa", sum := "4bf4275e25e099a7e48f9cf449e61eca9e841052667b4806b6cdc241318d89bc", func := "dovecote/dovecotelaw11.VerdictOrder", spec := "verdictOrder", unfollowed := true, recurses := true, plainKeys := false, apart := false, narrowed := true }
def VerdictOrderUptoSaid : Prop := verdictOrderUptoRow.holds Try.pinned (OpenSpec.upto verdictOrderSpec)

/-- 'dovecotelaw10.LatchFirst', WHERE WHAT IT READS IS OF BULK AT MOST 1048576: true; the input reads as it did. -/
def latchFirstUptoRow : OpenClaim := { program := "ytdelbidaclddgaa", sum := "4bf4275e25e099a7e48f9cf449e61eca9e841052667b4806b6cdc241318d89bc", func := "dovecote/dovecotelaw10.LatchFirst", spec := "latchFirst", unfollowed := true, recurses := true, plainKeys := false, apart := false, narrowed := true }
def LatchFirstUptoSaid : Prop := latchFirstUptoRow.holds Try.pinned (OpenSpec.upto latchFirstSpec)

/-- 'dovecotelaw10.LatchWhole', WHERE WHAT IT READS IS OF BULK AT MOST 1048576: true; the input reads as it did. -/
def latchWholeUptoRow : OpenClaim := { program := "ytdelbidaclddgaa", sum := "4bf4275e25e099a7e48f9cf449e61eca9e841052667b4806b6cdc241318d89bc", func := "dovecote/dovecotelaw10.LatchWhole", spec := "latchWhole", unfollowed := true, recurses := true, plainKeys := false, apart := false, narrowed := true }
def LatchWholeUptoSaid : Prop := latchWholeUptoRow.holds Try.pinned (OpenSpec.upto latchWholeSpec)

/-- 'dovecotelaw10.LatchHolds', WHERE WHAT IT READS IS OF BULK AT MOST 1048576: true; the input reads as it did. -/
def latchHoldsUptoRow : OpenClaim := { program := "ytdelbidaclddgaa", sum := "4bf4275e25e099a7e48f9cf449e61eca9e841052667b4806b6cdc241318d89bc", func := "dovecote/dovecotelaw10.LatchHolds", spec := "latchHolds", unfollowed := true, recurses := true, plainKeys := false, apart := false, narrowed := true }
def LatchHoldsUptoSaid : Prop := latchHoldsUptoRow.holds Try.pinned (OpenSpec.upto latchHoldsSpec)

/-- 'dovecotelaw10.LatchRuns', WHERE WHAT IT READS IS OF BULK AT MOST 1048576: true; the input reads as it did. -/
def latchRunsUptoRow : OpenClaim := { program := "ytdelbidaclddgaa", sum := "4bf4275e25e099a7e48f9cf449e61eca9e841052667b4806b6cdc241318d89bc", func := "dovecote/dovecotelaw10.LatchRuns", spec := "latchRuns", unfollowed := true, recurses := true, plainKeys := false, apart := false, narrowed := true }
def LatchRunsUptoSaid : Prop := latchRunsUptoRow.holds Try.pinned (OpenSpec.upto latchRunsSpec)

/-- 'dovecotelaw10.LatchNothing', WHERE WHAT IT READS IS OF BULK AT MOST 1048576: true; the input reads as it did. -/
def latchNothingUptoRow : OpenClaim := { program := "ytdelbidaclddgaa", sum := "4bf4275e25e099a7e48f9cf449e61eca9e841052667b4806b6cdc241318d89bc", func := "dovecote/dovecotelaw10.LatchNothing", spec := "latchNothing", unfollowed := true, recurses := true, plainKeys := false, apart := false, narrowed := true }
def LatchNothingUptoSaid : Prop := latchNothingUptoRow.holds Try.pinned (OpenSpec.upto latchNothingSpec)

end Rows
end Go.Proofs.Ytdelbidaclddgaa

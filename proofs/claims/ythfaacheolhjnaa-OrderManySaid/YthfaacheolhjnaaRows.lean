/-
  No cell of these rows narrows 'for every input' (looked for: loops, veiled, ifaces, maps, wideKeys, modest, calm, conditions, laid).
  DERIVED. THE GIVEN ROWS OF THIS SEAT. 4 by the template 'for every input the law returns true; each argument reads behind the call as it read before'; 0 by the template 'total and deterministic' (their statements: YthfaacheolhjnaaTotals.lean).
  GIVEN WITH THE SEED: the statements are not yours to turn. If you find one false, say at which input.
  Laid BY PROGRAM, IN A SANDBOX (cutbox-rows.mjs): the forced cells as the released guide's own fill.sh prints them over the translation ea0b912fb22ecbd7… (all of the seat's roots in one cut). By AI agents, Wed Nov 11 2026. No macro, syntax, notation, axiom, sorry.
-/
import Derived.Test.YthfaacheolhjnaaChecked
import GoSem.Claim
import GoSem.ClaimJoined
import GoSem.ClaimMapViews
import Derived.JoinedTies
import Derived.KernelRfl
namespace Go.Proofs.Ythfaacheolhjnaa
/- THE CELL 'sum', in the pinned program and in every row, IS THE sha256 OF THE DUMP (.gsa) THAT YthfaacheolhjnaaProg.lean LOADS. Nothing in Lean hashes anything: it is a label: what it is worth is what the hold of that sum in a sandbox is worth. -/
noncomputable def Try.pinned : Pinned := { name := "ythfaacheolhjnaa", sum := "ea0b912fb22ecbd7ca90282303fd6600ed529ea7e9afe19259dd9ef1a2c59beb", checked := Try.checked }
namespace Rows
def none {H : Type} : Left H := { results := [], args := [] }

/-- 'dovecotelaw08.OrderRuns': WHATEVER THE INPUT: true; the input reads as it did. -/
def orderRunsSpec : ChangeSpec := { name := "orderRuns", fn := fun _ => fun
  | [d] => { results := [.lit (.bool true)], args := [d] }
  | _ => none }
def orderRunsRow : OpenClaim := { program := "ythfaacheolhjnaa", sum := "ea0b912fb22ecbd7ca90282303fd6600ed529ea7e9afe19259dd9ef1a2c59beb", func := "dovecote/dovecotelaw08.OrderRuns", spec := "orderRuns", recurses := true, apart := false }
def OrderRunsSaid : Prop := orderRunsRow.holds Try.pinned (OpenSpec.ofChange orderRunsSpec)

/-- ITS FALSE NEIGHBOUR: 'it returns false'. Refute it at one input. -/
def orderRunsWrong : ChangeSpec := { name := "orderRuns", fn := fun _ => fun
  | [d] => { results := [.lit (.bool false)], args := [d] }
  | _ => none }
def OrderRunsWrongFalsely : Prop := orderRunsRow.holds Try.pinned (OpenSpec.ofChange orderRunsWrong)

/-- 'dovecotelaw08.OrderMany': WHATEVER THE INPUT: true; the input reads as it did. -/
def orderManySpec : ChangeSpec := { name := "orderMany", fn := fun _ => fun
  | [d1, d2] => { results := [.lit (.bool true)], args := [d1, d2] }
  | _ => none }
def orderManyRow : OpenClaim := { program := "ythfaacheolhjnaa", sum := "ea0b912fb22ecbd7ca90282303fd6600ed529ea7e9afe19259dd9ef1a2c59beb", func := "dovecote/dovecotelaw08.OrderMany", spec := "orderMany", recurses := true, apart := false }
def OrderManySaid : Prop := orderManyRow.holds Try.pinned (OpenSpec.ofChange orderManySpec)

/-- ITS FALSE NEIGHBOUR: 'it returns false'. Refute it at one input. -/
def orderManyWrong : ChangeSpec := { name := "orderMany", fn := fun _ => fun
  | [d1, d2] => { results := [.lit (.bool false)], args := [d1, d2] }
  | _ => none }
def OrderManyWrongFalsely : Prop := orderManyRow.holds Try.pinned (OpenSpec.ofChange orderManyWrong)

/-- 'dovecotelaw08.OrderNothing': WHATEVER THE INPUT: true; the input reads as it did. -/
def orderNothingSpec : ChangeSpec := { name := "orderNothing", fn := fun _ => fun
  | [d1, d2] => { results := [.lit (.bool true)], args := [d1, d2] }
  | _ => none }
def orderNothingRow : OpenClaim := { program := "ythfaacheolhjnaa", sum := "ea0b912fb22ecbd7ca90282303fd6600ed529ea7e9afe19259dd9ef1a2c59beb", func := "dovecote/dovecotelaw08.OrderNothing", spec := "orderNothing", recurses := true, apart := false }
def OrderNothingSaid : Prop := orderNothingRow.holds Try.pinned (OpenSpec.ofChange orderNothingSpec)

/-- ITS FALSE NEIGHBOUR: 'it returns false'. Refute it at one input. -/
def orderNothingWrong : ChangeSpec := { name := "orderNothing", fn := fun _ => fun
  | [d1, d2] => { results := [.lit (.bool false)], args := [d1, d2] }
  | _ => none }
def OrderNothingWrongFalsely : Prop := orderNothingRow.holds Try.pinned (OpenSpec.ofChange orderNothingWrong)

/-- 'dovecotelaw08.OrderRanges': WHATEVER THE INPUT: true; the input reads as it did. -/
def orderRangesSpec : ChangeSpec := { name := "orderRanges", fn := fun _ => fun
  | [d1, d2, d3] => { results := [.lit (.bool true)], args := [d1, d2, d3] }
  | _ => none }
def orderRangesRow : OpenClaim := { program := "ythfaacheolhjnaa", sum := "ea0b912fb22ecbd7ca90282303fd6600ed529ea7e9afe19259dd9ef1a2c59beb", func := "dovecote/dovecotelaw08.OrderRanges", spec := "orderRanges", recurses := true, apart := false }
def OrderRangesSaid : Prop := orderRangesRow.holds Try.pinned (OpenSpec.ofChange orderRangesSpec)

/-- ITS FALSE NEIGHBOUR: 'it returns false'. Refute it at one input. -/
def orderRangesWrong : ChangeSpec := { name := "orderRanges", fn := fun _ => fun
  | [d1, d2, d3] => { results := [.lit (.bool false)], args := [d1, d2, d3] }
  | _ => none }
def OrderRangesWrongFalsely : Prop := orderRangesRow.holds Try.pinned (OpenSpec.ofChange orderRangesWrong)

/- THE SECOND FORM. 'bulk': how many values and letters a reading holds, each counted each time it is reached (what is shared counts as often as it is met; a slice's spare places count too). A statement '..UptoSaid' is the law's where the arguments, and the package variables that the reading takes, are together of bulk at most 1048576: NARROWER than '..Said'. Prove '..Said' where nothing that the law and all that it calls make is longer than what came in: it says more and counts as full. Else prove '..UptoSaid'. A law counts once. -/
mutual
def uptoBulk {H : Type} : DataW H → Nat
  | .lit (.string bytes) => bytes.length + 1
  | .lit _ => 1
  | .nil => 1
  | .ptr d => uptoBulk d + 1
  | .slice elems spare => uptoBulkAll elems + uptoBulkAll spare + 1
  | .agg parts => uptoBulkAll parts + 1
  | .iface _ d => uptoBulk d + 1
  | .map entries => uptoBulkEntries entries + 1
  | .held _ => 1
def uptoBulkAll {H : Type} : List (DataW H) → Nat
  | [] => 0
  | d :: r => uptoBulk d + uptoBulkAll r
def uptoBulkEntries {H : Type} : List (Lit × DataW H) → Nat
  | [] => 0
  | x :: r => uptoBulkEntry x + uptoBulkEntries r
def uptoBulkEntry {H : Type} : Lit × DataW H → Nat
  | (.string bytes, d) => bytes.length + uptoBulk d + 1
  | (_, d) => uptoBulk d + 1
 end
def uptoSmall : (H : Type) → List (DataW H) → Bool := fun _ ds => decide (uptoBulkAll ds ≤ 1048576)
def OpenSpec.upto (s : _root_.Go.ChangeSpec) : _root_.Go.OpenSpec := { _root_.Go.OpenSpec.ofChange s with cond := some uptoSmall }

/-- 'dovecotelaw08.OrderRuns', WHERE WHAT IT READS IS OF BULK AT MOST 1048576: true; the input reads as it did. -/
def orderRunsUptoRow : OpenClaim := { program := "ythfaacheolhjnaa", sum := "ea0b912fb22ecbd7ca90282303fd6600ed529ea7e9afe19259dd9ef1a2c59beb", func := "dovecote/dovecotelaw08.OrderRuns", spec := "orderRuns", recurses := true, apart := false, narrowed := true }
def OrderRunsUptoSaid : Prop := orderRunsUptoRow.holds Try.pinned (OpenSpec.upto orderRunsSpec)

/-- 'dovecotelaw08.OrderMany', WHERE WHAT IT READS IS OF BULK AT MOST 1048576: true; the input reads as it did. -/
def orderManyUptoRow : OpenClaim := { program := "ythfaacheolhjnaa", sum := "ea0b912fb22ecbd7ca90282303fd6600ed529ea7e9afe19259dd9ef1a2c59beb", func := "dovecote/dovecotelaw08.OrderMany", spec := "orderMany", recurses := true, apart := false, narrowed := true }
def OrderManyUptoSaid : Prop := orderManyUptoRow.holds Try.pinned (OpenSpec.upto orderManySpec)

/-- 'dovecotelaw08.OrderNothing', WHERE WHAT IT READS IS OF BULK AT MOST 1048576: true; the input reads as it did. -/
def orderNothingUptoRow : OpenClaim := { program := "ythfaacheolhjnaa", sum := "ea0b912fb22ecbd7ca90282303fd6600ed529ea7e9afe19259dd9ef1a2c59beb", func := "dovecote/dovecotelaw08.OrderNothing", spec := "orderNothing", recurses := true, apart := false, narrowed := true }
def OrderNothingUptoSaid : Prop := orderNothingUptoRow.holds Try.pinned (OpenSpec.upto orderNothingSpec)

/-- 'dovecotelaw08.OrderRanges', WHERE WHAT IT READS IS OF BULK AT MOST 1048576: true; the input reads as it did. -/
def orderRangesUptoRow : OpenClaim := { program := "ythfaacheolhjnaa", sum := "ea0b912fb22ecbd7ca90282303fd6600ed529ea7e9afe19259dd9ef1a2c59beb", func := "dovecote/dovecotelaw08.OrderRanges", spec := "orderRanges", recurses := true, apart := false, narrowed := true }
def OrderRangesUptoSaid : Prop := orderRangesUptoRow.holds Try.pinned (OpenSpec.upto orderRangesSpec)

end Rows
end Go.Proofs.Ythfaacheolhjnaa

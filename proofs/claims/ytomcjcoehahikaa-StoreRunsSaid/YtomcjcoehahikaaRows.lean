/-
  No cell of these rows narrows 'for every input' (looked for: loops, veiled, ifaces, maps, wideKeys, modest, calm, conditions, laid).
  DERIVED. THE GIVEN ROWS OF THIS SEAT. 10 by the template 'for every input the law returns true; each argument reads behind the call as it read before'; 0 by the template 'total and deterministic' (their statements: YtomcjcoehahikaaTotals.lean).
  GIVEN WITH THE SEED: the statements are not yours to turn. If you find one false, say at which input.
  Laid BY PROGRAM, IN A SANDBOX (cutbox-rows.mjs): the forced cells as the released guide's own fill.sh prints them over the translation 5cb791b40f0bfa0f… (all of the seat's roots in one cut). By AI agents, Wed Nov 11 2026. No macro, syntax, notation, axiom, sorry.
-/
import Derived.Test.YtomcjcoehahikaaChecked
import GoSem.Claim
import GoSem.ClaimJoined
import GoSem.ClaimMapViews
import Derived.JoinedTies
import Derived.KernelRfl
namespace Go.Proofs.Ytomcjcoehahikaa
/- THE CELL 'sum', in the pinned program and in every row, IS THE sha256 OF THE DUMP (.gsa) THAT YtomcjcoehahikaaProg.lean LOADS. Nothing in Lean hashes anything: it is a label: what it is worth is what the hold of that sum in a sandbox is worth. -/
noncomputable def Try.pinned : Pinned := { name := "ytomcjcoehahikaa", sum := "5cb791b40f0bfa0ff8d75f2a4f3b2bd7fc6b51f18aa9ea2c8e680515cd727e02", checked := Try.checked }
namespace Rows
def none {H : Type} : Left H := { results := [], args := [] }

/-- 'dovecotelaw07.ChainOrder': WHATEVER THE INPUT: true; the input reads as it did. -/
def chainOrderSpec : ChangeSpec := { name := "chainOrder", fn := fun _ => fun
  | [d1, d2] => { results := [.lit (.bool true)], args := [d1, d2] }
  | _ => none }
def chainOrderRow : OpenClaim := { program := "ytomcjcoehahikaa", sum := "5cb791b40f0bfa0ff8d75f2a4f3b2bd7fc6b51f18aa9ea2c8e680515cd727e02", func := "dovecote/dovecotelaw07.ChainOrder", spec := "chainOrder", inPlace := ["slices.overlaps[dovecote/api.Version]"], unfollowed := true, recurses := true, apart := false }
def ChainOrderSaid : Prop := chainOrderRow.holds Try.pinned (OpenSpec.ofChange chainOrderSpec)

/-- ITS FALSE NEIGHBOUR: 'it returns false'. Refute it at one input. -/
def chainOrderWrong : ChangeSpec := { name := "chainOrder", fn := fun _ => fun
  | [d1, d2] => { results := [.lit (.bool false)], args := [d1, d2] }
  | _ => none }
def ChainOrderWrongFalsely : Prop := chainOrderRow.holds Try.pinned (OpenSpec.ofChange chainOrderWrong)

/-- 'dovecotelaw07.ChainSees': WHATEVER THE INPUT: true; the input reads as it did. -/
def chainSeesSpec : ChangeSpec := { name := "chainSees", fn := fun _ => fun
  | [d1, d2, d3] => { results := [.lit (.bool true)], args := [d1, d2, d3] }
  | _ => none }
def chainSeesRow : OpenClaim := { program := "ytomcjcoehahikaa", sum := "5cb791b40f0bfa0ff8d75f2a4f3b2bd7fc6b51f18aa9ea2c8e680515cd727e02", func := "dovecote/dovecotelaw07.ChainSees", spec := "chainSees", inPlace := ["slices.overlaps[dovecote/api.Version]"], unfollowed := true, recurses := true, apart := false }
def ChainSeesSaid : Prop := chainSeesRow.holds Try.pinned (OpenSpec.ofChange chainSeesSpec)

/-- ITS FALSE NEIGHBOUR: 'it returns false'. Refute it at one input. -/
def chainSeesWrong : ChangeSpec := { name := "chainSees", fn := fun _ => fun
  | [d1, d2, d3] => { results := [.lit (.bool false)], args := [d1, d2, d3] }
  | _ => none }
def ChainSeesWrongFalsely : Prop := chainSeesRow.holds Try.pinned (OpenSpec.ofChange chainSeesWrong)

/-- 'dovecotelaw07.ChainTells': WHATEVER THE INPUT: true; the input reads as it did. -/
def chainTellsSpec : ChangeSpec := { name := "chainTells", fn := fun _ => fun
  | [d1, d2, d3] => { results := [.lit (.bool true)], args := [d1, d2, d3] }
  | _ => none }
def chainTellsRow : OpenClaim := { program := "ytomcjcoehahikaa", sum := "5cb791b40f0bfa0ff8d75f2a4f3b2bd7fc6b51f18aa9ea2c8e680515cd727e02", func := "dovecote/dovecotelaw07.ChainTells", spec := "chainTells", inPlace := ["slices.overlaps[dovecote/api.Version]"], unfollowed := true, recurses := true, apart := false }
def ChainTellsSaid : Prop := chainTellsRow.holds Try.pinned (OpenSpec.ofChange chainTellsSpec)

/-- ITS FALSE NEIGHBOUR: 'it returns false'. Refute it at one input. -/
def chainTellsWrong : ChangeSpec := { name := "chainTells", fn := fun _ => fun
  | [d1, d2, d3] => { results := [.lit (.bool false)], args := [d1, d2, d3] }
  | _ => none }
def ChainTellsWrongFalsely : Prop := chainTellsRow.holds Try.pinned (OpenSpec.ofChange chainTellsWrong)

/-- 'dovecotelaw07.ChainPrunes': WHATEVER THE INPUT: true; the input reads as it did. -/
def chainPrunesSpec : ChangeSpec := { name := "chainPrunes", fn := fun _ => fun
  | [d1, d2, d3] => { results := [.lit (.bool true)], args := [d1, d2, d3] }
  | _ => none }
def chainPrunesRow : OpenClaim := { program := "ytomcjcoehahikaa", sum := "5cb791b40f0bfa0ff8d75f2a4f3b2bd7fc6b51f18aa9ea2c8e680515cd727e02", func := "dovecote/dovecotelaw07.ChainPrunes", spec := "chainPrunes", inPlace := ["slices.overlaps[dovecote/api.Version]"], unfollowed := true, recurses := true, apart := false }
def ChainPrunesSaid : Prop := chainPrunesRow.holds Try.pinned (OpenSpec.ofChange chainPrunesSpec)

/-- ITS FALSE NEIGHBOUR: 'it returns false'. Refute it at one input. -/
def chainPrunesWrong : ChangeSpec := { name := "chainPrunes", fn := fun _ => fun
  | [d1, d2, d3] => { results := [.lit (.bool false)], args := [d1, d2, d3] }
  | _ => none }
def ChainPrunesWrongFalsely : Prop := chainPrunesRow.holds Try.pinned (OpenSpec.ofChange chainPrunesWrong)

/-- 'dovecotelaw09.StoreScans': WHATEVER THE INPUT: true; the input reads as it did. -/
def storeScansSpec : ChangeSpec := { name := "storeScans", fn := fun _ => fun
  | [d1, d2, d3] => { results := [.lit (.bool true)], args := [d1, d2, d3] }
  | _ => none }
def storeScansRow : OpenClaim := { program := "ytomcjcoehahikaa", sum := "5cb791b40f0bfa0ff8d75f2a4f3b2bd7fc6b51f18aa9ea2c8e680515cd727e02", func := "dovecote/dovecotelaw09.StoreScans", spec := "storeScans", inPlace := ["slices.overlaps[dovecote/api.Version]"], unfollowed := true, recurses := true, apart := false }
def StoreScansSaid : Prop := storeScansRow.holds Try.pinned (OpenSpec.ofChange storeScansSpec)

/-- ITS FALSE NEIGHBOUR: 'it returns false'. Refute it at one input. -/
def storeScansWrong : ChangeSpec := { name := "storeScans", fn := fun _ => fun
  | [d1, d2, d3] => { results := [.lit (.bool false)], args := [d1, d2, d3] }
  | _ => none }
def StoreScansWrongFalsely : Prop := storeScansRow.holds Try.pinned (OpenSpec.ofChange storeScansWrong)

/-- 'dovecotelaw09.StoreNow': WHATEVER THE INPUT: true; the input reads as it did. -/
def storeNowSpec : ChangeSpec := { name := "storeNow", fn := fun _ => fun
  | [d1, d2, d3] => { results := [.lit (.bool true)], args := [d1, d2, d3] }
  | _ => none }
def storeNowRow : OpenClaim := { program := "ytomcjcoehahikaa", sum := "5cb791b40f0bfa0ff8d75f2a4f3b2bd7fc6b51f18aa9ea2c8e680515cd727e02", func := "dovecote/dovecotelaw09.StoreNow", spec := "storeNow", inPlace := ["slices.overlaps[dovecote/api.Version]"], unfollowed := true, recurses := true, apart := false }
def StoreNowSaid : Prop := storeNowRow.holds Try.pinned (OpenSpec.ofChange storeNowSpec)

/-- ITS FALSE NEIGHBOUR: 'it returns false'. Refute it at one input. -/
def storeNowWrong : ChangeSpec := { name := "storeNow", fn := fun _ => fun
  | [d1, d2, d3] => { results := [.lit (.bool false)], args := [d1, d2, d3] }
  | _ => none }
def StoreNowWrongFalsely : Prop := storeNowRow.holds Try.pinned (OpenSpec.ofChange storeNowWrong)

/-- 'dovecotelaw09.StoreApart': WHATEVER THE INPUT: true; the input reads as it did. -/
def storeApartSpec : ChangeSpec := { name := "storeApart", fn := fun _ => fun
  | [d1, d2, d3] => { results := [.lit (.bool true)], args := [d1, d2, d3] }
  | _ => none }
def storeApartRow : OpenClaim := { program := "ytomcjcoehahikaa", sum := "5cb791b40f0bfa0ff8d75f2a4f3b2bd7fc6b51f18aa9ea2c8e680515cd727e02", func := "dovecote/dovecotelaw09.StoreApart", spec := "storeApart", inPlace := ["slices.overlaps[dovecote/api.Version]"], unfollowed := true, recurses := true, apart := false }
def StoreApartSaid : Prop := storeApartRow.holds Try.pinned (OpenSpec.ofChange storeApartSpec)

/-- ITS FALSE NEIGHBOUR: 'it returns false'. Refute it at one input. -/
def storeApartWrong : ChangeSpec := { name := "storeApart", fn := fun _ => fun
  | [d1, d2, d3] => { results := [.lit (.bool false)], args := [d1, d2, d3] }
  | _ => none }
def StoreApartWrongFalsely : Prop := storeApartRow.holds Try.pinned (OpenSpec.ofChange storeApartWrong)

/-- 'dovecotelaw09.StorePrunes': WHATEVER THE INPUT: true; the input reads as it did. -/
def storePrunesSpec : ChangeSpec := { name := "storePrunes", fn := fun _ => fun
  | [d1, d2, d3] => { results := [.lit (.bool true)], args := [d1, d2, d3] }
  | _ => none }
def storePrunesRow : OpenClaim := { program := "ytomcjcoehahikaa", sum := "5cb791b40f0bfa0ff8d75f2a4f3b2bd7fc6b51f18aa9ea2c8e680515cd727e02", func := "dovecote/dovecotelaw09.StorePrunes", spec := "storePrunes", inPlace := ["slices.overlaps[dovecote/api.Version]"], unfollowed := true, recurses := true, apart := false }
def StorePrunesSaid : Prop := storePrunesRow.holds Try.pinned (OpenSpec.ofChange storePrunesSpec)

/-- ITS FALSE NEIGHBOUR: 'it returns false'. Refute it at one input. -/
def storePrunesWrong : ChangeSpec := { name := "storePrunes", fn := fun _ => fun
  | [d1, d2, d3] => { results := [.lit (.bool false)], args := [d1, d2, d3] }
  | _ => none }
def StorePrunesWrongFalsely : Prop := storePrunesRow.holds Try.pinned (OpenSpec.ofChange storePrunesWrong)

/-- 'dovecotelaw09.StoreRuns': WHATEVER THE INPUT: true; the input reads as it did. -/
def storeRunsSpec : ChangeSpec := { name := "storeRuns", fn := fun _ => fun
  | [d] => { results := [.lit (.bool true)], args := [d] }
  | _ => none }
def storeRunsRow : OpenClaim := { program := "ytomcjcoehahikaa", sum := "5cb791b40f0bfa0ff8d75f2a4f3b2bd7fc6b51f18aa9ea2c8e680515cd727e02", func := "dovecote/dovecotelaw09.StoreRuns", spec := "storeRuns", inPlace := ["slices.overlaps[dovecote/api.Version]"], unfollowed := true, recurses := true, apart := false }
def StoreRunsSaid : Prop := storeRunsRow.holds Try.pinned (OpenSpec.ofChange storeRunsSpec)

/-- ITS FALSE NEIGHBOUR: 'it returns false'. Refute it at one input. -/
def storeRunsWrong : ChangeSpec := { name := "storeRuns", fn := fun _ => fun
  | [d] => { results := [.lit (.bool false)], args := [d] }
  | _ => none }
def StoreRunsWrongFalsely : Prop := storeRunsRow.holds Try.pinned (OpenSpec.ofChange storeRunsWrong)

/-- 'dovecotelaw09.StoreNothing': WHATEVER THE INPUT: true; the input reads as it did. -/
def storeNothingSpec : ChangeSpec := { name := "storeNothing", fn := fun _ => fun
  | [d1, d2] => { results := [.lit (.bool true)], args := [d1, d2] }
  | _ => none }
def storeNothingRow : OpenClaim := { program := "ytomcjcoehahikaa", sum := "5cb791b40f0bfa0ff8d75f2a4f3b2bd7fc6b51f18aa9ea2c8e680515cd727e02", func := "dovecote/dovecotelaw09.StoreNothing", spec := "storeNothing", inPlace := ["slices.overlaps[dovecote/api.Version]"], unfollowed := true, recurses := true, apart := false }
def StoreNothingSaid : Prop := storeNothingRow.holds Try.pinned (OpenSpec.ofChange storeNothingSpec)

/-- ITS FALSE NEIGHBOUR: 'it returns false'. Refute it at one input. -/
def storeNothingWrong : ChangeSpec := { name := "storeNothing", fn := fun _ => fun
  | [d1, d2] => { results := [.lit (.bool false)], args := [d1, d2] }
  | _ => none }
def StoreNothingWrongFalsely : Prop := storeNothingRow.holds Try.pinned (OpenSpec.ofChange storeNothingWrong)

/- THE SECOND FORM. 'bulk': how many values and letters a reading holds, each counted each time it is reached (what is shared counts as often as it is met; a slice's spare places count too). A statement '..UptoSaid' is the law's where the arguments, and the package variables that the reading takes, are together of bulk at most 1048576: NARROWER than '..Said'. Prove '..Said' where nothing that the law and all that it calls make is longer than what came in: it says more and counts as full. Else prove '..UptoSaid'. A law counts once. -/
mutual
def uptoBulk {H : Type} : DataW H → Nat
  | .lit (.string bytes) => bytes.length + 1
  | .lit _ => 1
  | .nil => 1
  | .ptr d => uptoBulk d + 1
  | .slice elems spare => uptoBulkAll elems + uptoBulkAll spare + 1
  | .agg parts => uptoBulkAll parts + 1
  | .iface _ d => uptoBulk d + 1
  | .map entries => uptoBulkEntries entries + 1
  | .held _ => 1
def uptoBulkAll {H : Type} : List (DataW H) → Nat
  | [] => 0
  | d :: r => uptoBulk d + uptoBulkAll r
def uptoBulkEntries {H : Type} : List (Lit × DataW H) → Nat
  | [] => 0
  | x :: r => uptoBulkEntry x + uptoBulkEntries r
def uptoBulkEntry {H : Type} : Lit × DataW H → Nat
  | (.string bytes, d) => bytes.length + uptoBulk d + 1
  | (_, d) => uptoBulk d + 1
 end
def uptoSmall : (H : Type) → List (DataW H) → Bool := fun _ ds => decide (uptoBulkAll ds ≤ 1048576)
def OpenSpec.upto (s : _root_.Go.ChangeSpec) : _root_.Go.OpenSpec := { _root_.Go.OpenSpec.ofChange s with cond := some uptoSmall }

/-- 'dovecotelaw07.ChainOrder', WHERE WHAT IT READS IS OF BULK AT MOST 1048576: true; the input reads as it did. -/
def chainOrderUptoRow : OpenClaim := { program := "ytomcjcoehahikaa", sum := "5cb791b40f0bfa0ff8d75f2a4f3b2bd7fc6b51f18aa9ea2c8e680515cd727e02", func := "dovecote/dovecotelaw07.ChainOrder", spec := "chainOrder", inPlace := ["slices.overlaps[dovecote/api.Version]"], unfollowed := true, recurses := true, apart := false, narrowed := true }
def ChainOrderUptoSaid : Prop := chainOrderUptoRow.holds Try.pinned (OpenSpec.upto chainOrderSpec)

/-- 'dovecotelaw07.ChainSees', WHERE WHAT IT READS IS OF BULK AT MOST 1048576: true; the input reads as it did. -/
def chainSeesUptoRow : OpenClaim := { program := "ytomcjcoehahikaa", sum := "5cb791b40f0bfa0ff8d75f2a4f3b2bd7fc6b51f18aa9ea2c8e680515cd727e02", func := "dovecote/dovecotelaw07.ChainSees", spec := "chainSees", inPlace := ["slices.overlaps[dovecote/api.Version]"], unfollowed := true, recurses := true, apart := false, narrowed := true }
def ChainSeesUptoSaid : Prop := chainSeesUptoRow.holds Try.pinned (OpenSpec.upto chainSeesSpec)

/-- 'dovecotelaw07.ChainTells', WHERE WHAT IT READS IS OF BULK AT MOST 1048576: true; the input reads as it did. -/
def chainTellsUptoRow : OpenClaim := { program := "ytomcjcoehahikaa", sum := "5cb791b40f0bfa0ff8d75f2a4f3b2bd7fc6b51f18aa9ea2c8e680515cd727e02", func := "dovecote/dovecotelaw07.ChainTells", spec := "chainTells", inPlace := ["slices.overlaps[dovecote/api.Version]"], unfollowed := true, recurses := true, apart := false, narrowed := true }
def ChainTellsUptoSaid : Prop := chainTellsUptoRow.holds Try.pinned (OpenSpec.upto chainTellsSpec)

/-- 'dovecotelaw07.ChainPrunes', WHERE WHAT IT READS IS OF BULK AT MOST 1048576: true; the input reads as it did. -/
def chainPrunesUptoRow : OpenClaim := { program := "ytomcjcoehahikaa", sum := "5cb791b40f0bfa0ff8d75f2a4f3b2bd7fc6b51f18aa9ea2c8e680515cd727e02", func := "dovecote/dovecotelaw07.ChainPrunes", spec := "chainPrunes", inPlace := ["slices.overlaps[dovecote/api.Version]"], unfollowed := true, recurses := true, apart := false, narrowed := true }
def ChainPrunesUptoSaid : Prop := chainPrunesUptoRow.holds Try.pinned (OpenSpec.upto chainPrunesSpec)

/-- 'dovecotelaw09.StoreScans', WHERE WHAT IT READS IS OF BULK AT MOST 1048576: true; the input reads as it did. -/
def storeScansUptoRow : OpenClaim := { program := "ytomcjcoehahikaa", sum := "5cb791b40f0bfa0ff8d75f2a4f3b2bd7fc6b51f18aa9ea2c8e680515cd727e02", func := "dovecote/dovecotelaw09.StoreScans", spec := "storeScans", inPlace := ["slices.overlaps[dovecote/api.Version]"], unfollowed := true, recurses := true, apart := false, narrowed := true }
def StoreScansUptoSaid : Prop := storeScansUptoRow.holds Try.pinned (OpenSpec.upto storeScansSpec)

/-- 'dovecotelaw09.StoreNow', WHERE WHAT IT READS IS OF BULK AT MOST 1048576: true; the input reads as it did. -/
def storeNowUptoRow : OpenClaim := { program := "ytomcjcoehahikaa", sum := "5cb791b40f0bfa0ff8d75f2a4f3b2bd7fc6b51f18aa9ea2c8e680515cd727e02", func := "dovecote/dovecotelaw09.StoreNow", spec := "storeNow", inPlace := ["slices.overlaps[dovecote/api.Version]"], unfollowed := true, recurses := true, apart := false, narrowed := true }
def StoreNowUptoSaid : Prop := storeNowUptoRow.holds Try.pinned (OpenSpec.upto storeNowSpec)

/-- 'dovecotelaw09.StoreApart', WHERE WHAT IT READS IS OF BULK AT MOST 1048576: true; the input reads as it did. -/
def storeApartUptoRow : OpenClaim := { program := "ytomcjcoehahikaa", sum := "5cb791b40f0bfa0ff8d75f2a4f3b2bd7fc6b51f18aa9ea2c8e680515cd727e02", func := "dovecote/dovecotelaw09.StoreApart", spec := "storeApart", inPlace := ["slices.overlaps[dovecote/api.Version]"], unfollowed := true, recurses := true, apart := false, narrowed := true }
def StoreApartUptoSaid : Prop := storeApartUptoRow.holds Try.pinned (OpenSpec.upto storeApartSpec)

/-- 'dovecotelaw09.StorePrunes', WHERE WHAT IT READS IS OF BULK AT MOST 1048576: true; the input reads as it did. -/
def storePrunesUptoRow : OpenClaim := { program := "ytomcjcoehahikaa", sum := "5cb791b40f0bfa0ff8d75f2a4f3b2bd7fc6b51f18aa9ea2c8e680515cd727e02", func := "dovecote/dovecotelaw09.StorePrunes", spec := "storePrunes", inPlace := ["slices.overlaps[dovecote/api.Version]"], unfollowed := true, recurses := true, apart := false, narrowed := true }
def StorePrunesUptoSaid : Prop := storePrunesUptoRow.holds Try.pinned (OpenSpec.upto storePrunesSpec)

/-- 'dovecotelaw09.StoreRuns', WHERE WHAT IT READS IS OF BULK AT MOST 1048576: true; the input reads as it did. -/
def storeRunsUptoRow : OpenClaim := { program := "ytomcjcoehahikaa", sum := "5cb791b40f0bfa0ff8d75f2a4f3b2bd7fc6b51f18aa9ea2c8e680515cd727e02", func := "dovecote/dovecotelaw09.StoreRuns", spec := "storeRuns", inPlace := ["slices.overlaps[dovecote/api.Version]"], unfollowed := true, recurses := true, apart := false, narrowed := true }
def StoreRunsUptoSaid : Prop := storeRunsUptoRow.holds Try.pinned (OpenSpec.upto storeRunsSpec)

/-- 'dovecotelaw09.StoreNothing', WHERE WHAT IT READS IS OF BULK AT MOST 1048576: true; the input reads as it did. -/
def storeNothingUptoRow : OpenClaim := { program := "ytomcjcoehahikaa", sum := "5cb791b40f0bfa0ff8d75f2a4f3b2bd7fc6b51f18aa9ea2c8e680515cd727e02", func := "dovecote/dovecotelaw09.StoreNothing", spec := "storeNothing", inPlace := ["slices.overlaps[dovecote/api.Version]"], unfollowed := true, recurses := true, apart := false, narrowed := true }
def StoreNothingUptoSaid : Prop := storeNothingUptoRow.holds Try.pinned (OpenSpec.upto storeNothingSpec)

end Rows
end Go.Proofs.Ytomcjcoehahikaa

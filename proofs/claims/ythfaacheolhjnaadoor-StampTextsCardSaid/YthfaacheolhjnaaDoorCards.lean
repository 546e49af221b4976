/-
  DERIVED. GIVEN WITH THE SEED: THE CARDS: each row of YthfaacheolhjnaaDoorRows.lean that lists a variable, with what it lists TIED to the program's text (the seventh form; the later family's looks); each row that meets fmt, with fmt's text TOLD by the authors' own Lean function (tested against real Go, not proved from fmt's source: count such statements apart). THE CARD IS WHAT COUNTS. Prove the row's statement (the work); the ties are given (YthfaacheolhjnaaDoorTie.lean); close each card by the builder's one call (the guide's Derived/Test/ToyasCard.lean, 'card_holds'). Laid BY PROGRAM, IN A SANDBOX (cutbox-door.mjs). By AI agents, Wed Nov 11 2026. No macro, syntax, notation, axiom, sorry.
-/
import Derived.Test.YthfaacheolhjnaaDoorRows
import GoSem.ClaimSeven
namespace Go.Proofs.YthfaacheolhjnaaDoor
namespace Rows

/-- THE TIED CARD OF 'dovecotelaw01.StampSteps'. -/
def stampStepsCard : Claim7 := { stood := { row := stampStepsRow, standIns := [], harness := (true, "c37aa3f9b8ccc5ea6f471296181fd69516e9233439402eb8556fe981580baf14"), looks := true }, kinds := [], alts := [], laidByText := true, laidKinds := [.data, .data, .data], laidTests := true, laidLooks := .later }
def StampStepsCardSaid : Prop := Claim7.holds Tryd.pinned (.plain (OpenSpec.ofChange stampStepsSpec)) stampStepsCard

/-- THE TIED CARD OF 'dovecotelaw01.StampSums'. -/
def stampSumsCard : Claim7 := { stood := { row := stampSumsRow, standIns := [], harness := (true, "c37aa3f9b8ccc5ea6f471296181fd69516e9233439402eb8556fe981580baf14"), looks := true }, kinds := [], alts := [], laidByText := true, laidKinds := [.data, .data, .data], laidTests := true, laidLooks := .later }
def StampSumsCardSaid : Prop := Claim7.holds Tryd.pinned (.plain (OpenSpec.ofChange stampSumsSpec)) stampSumsCard

/-- THE TIED CARD OF 'dovecotelaw01.StampOrders'. -/
def stampOrdersCard : Claim7 := { stood := { row := stampOrdersRow, standIns := [], harness := (true, "c37aa3f9b8ccc5ea6f471296181fd69516e9233439402eb8556fe981580baf14"), looks := true }, kinds := [], alts := [], laidByText := true, laidKinds := [.data, .data, .data], laidTests := true, laidLooks := .later }
def StampOrdersCardSaid : Prop := Claim7.holds Tryd.pinned (.plain (OpenSpec.ofChange stampOrdersSpec)) stampOrdersCard

/-- THE TIED CARD OF 'dovecotelaw01.StampTexts'. -/
def stampTextsCard : Claim7 := { stood := { row := stampTextsRow, standIns := [], harness := (true, "c37aa3f9b8ccc5ea6f471296181fd69516e9233439402eb8556fe981580baf14"), looks := true }, kinds := [], alts := [], laidByText := true, laidKinds := [.data, .data, .data, .sentinel, .sentinel], laidTests := true, laidLooks := .later }
def StampTextsCardSaid : Prop := Claim7.holds Tryd.pinned (.plain (OpenSpec.ofChange stampTextsSpec)) stampTextsCard

/-- THE SECOND FORM's CARD OF 'dovecotelaw01.StampSteps'. -/
def stampStepsUptoCard : Claim7 := { stood := { row := stampStepsUptoRow, standIns := [], harness := (true, "c37aa3f9b8ccc5ea6f471296181fd69516e9233439402eb8556fe981580baf14"), looks := true }, kinds := [], alts := [], laidByText := true, laidKinds := [.data, .data, .data], laidTests := true, laidLooks := .later }
def StampStepsUptoCardSaid : Prop := Claim7.holds Tryd.pinned (.plain (OpenSpec.upto stampStepsSpec)) stampStepsUptoCard

/-- THE SECOND FORM's CARD OF 'dovecotelaw01.StampSums'. -/
def stampSumsUptoCard : Claim7 := { stood := { row := stampSumsUptoRow, standIns := [], harness := (true, "c37aa3f9b8ccc5ea6f471296181fd69516e9233439402eb8556fe981580baf14"), looks := true }, kinds := [], alts := [], laidByText := true, laidKinds := [.data, .data, .data], laidTests := true, laidLooks := .later }
def StampSumsUptoCardSaid : Prop := Claim7.holds Tryd.pinned (.plain (OpenSpec.upto stampSumsSpec)) stampSumsUptoCard

/-- THE SECOND FORM's CARD OF 'dovecotelaw01.StampOrders'. -/
def stampOrdersUptoCard : Claim7 := { stood := { row := stampOrdersUptoRow, standIns := [], harness := (true, "c37aa3f9b8ccc5ea6f471296181fd69516e9233439402eb8556fe981580baf14"), looks := true }, kinds := [], alts := [], laidByText := true, laidKinds := [.data, .data, .data], laidTests := true, laidLooks := .later }
def StampOrdersUptoCardSaid : Prop := Claim7.holds Tryd.pinned (.plain (OpenSpec.upto stampOrdersSpec)) stampOrdersUptoCard

/-- THE SECOND FORM's CARD OF 'dovecotelaw01.StampTexts'. -/
def stampTextsUptoCard : Claim7 := { stood := { row := stampTextsUptoRow, standIns := [], harness := (true, "c37aa3f9b8ccc5ea6f471296181fd69516e9233439402eb8556fe981580baf14"), looks := true }, kinds := [], alts := [], laidByText := true, laidKinds := [.data, .data, .data, .sentinel, .sentinel], laidTests := true, laidLooks := .later }
def StampTextsUptoCardSaid : Prop := Claim7.holds Tryd.pinned (.plain (OpenSpec.upto stampTextsSpec)) stampTextsUptoCard
end Rows
end Go.Proofs.YthfaacheolhjnaaDoor

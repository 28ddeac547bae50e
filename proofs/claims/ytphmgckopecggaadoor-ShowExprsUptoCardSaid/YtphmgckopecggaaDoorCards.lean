/-
  DERIVED. GIVEN WITH THE SEED: THE CARDS: each row of YtphmgckopecggaaDoorRows.lean that lists a variable, with what it lists TIED to the program's text (the seventh form; the later family's looks); each row that meets fmt, with fmt's text TOLD by the authors' own Lean function (tested against real Go, not proved from fmt's source: count such statements apart). THE CARD IS WHAT COUNTS. Prove the row's statement (the work); the ties are given (YtphmgckopecggaaDoorTie.lean); close each card by the builder's one call (the guide's Derived/Test/ToyasCard.lean, 'card_holds'). Laid BY PROGRAM, IN A SANDBOX (cutbox-door.mjs). By AI agents, Wed Nov 11 2026. No macro, syntax, notation, axiom, sorry.
-/
import Derived.Test.YtphmgckopecggaaDoorRows
import GoSem.ClaimSeven
namespace Go.Proofs.YtphmgckopecggaaDoor
namespace Rows

/-- THE TIED CARD OF 'blazonlaw11.ShowExprs'. -/
def showExprsCard : Claim7 := { stood := { row := showExprsRow, standIns := [], harness := (true, "7ab8d8537a87f6c31561fdb6a31f4af6c548d9e78bd2f27e0e777b22cc1eba7d"), looks := false }, kinds := [], alts := [], laidByText := true, laidKinds := [.data, .data, .data, .listed, .data], laidTests := true, laidLooks := .later }
def ShowExprsCardSaid : Prop := Claim7.holds Tryd.pinned (.plain (OpenSpec.ofChange showExprsSpec)) showExprsCard

/-- THE TIED CARD OF 'blazonlaw11.ShowLeast'. -/
def showLeastCard : Claim7 := { stood := { row := showLeastRow, standIns := [], harness := (true, "7ab8d8537a87f6c31561fdb6a31f4af6c548d9e78bd2f27e0e777b22cc1eba7d"), looks := false }, kinds := [], alts := [], laidByText := true, laidKinds := [.data, .data, .data, .listed, .data], laidTests := true, laidLooks := .later }
def ShowLeastCardSaid : Prop := Claim7.holds Tryd.pinned (.plain (OpenSpec.ofChange showLeastSpec)) showLeastCard

/-- THE SECOND FORM's CARD OF 'blazonlaw11.ShowExprs'. -/
def showExprsUptoCard : Claim7 := { stood := { row := showExprsUptoRow, standIns := [], harness := (true, "7ab8d8537a87f6c31561fdb6a31f4af6c548d9e78bd2f27e0e777b22cc1eba7d"), looks := false }, kinds := [], alts := [], laidByText := true, laidKinds := [.data, .data, .data, .listed, .data], laidTests := true, laidLooks := .later }
def ShowExprsUptoCardSaid : Prop := Claim7.holds Tryd.pinned (.plain (OpenSpec.upto showExprsSpec)) showExprsUptoCard

/-- THE SECOND FORM's CARD OF 'blazonlaw11.ShowLeast'. -/
def showLeastUptoCard : Claim7 := { stood := { row := showLeastUptoRow, standIns := [], harness := (true, "7ab8d8537a87f6c31561fdb6a31f4af6c548d9e78bd2f27e0e777b22cc1eba7d"), looks := false }, kinds := [], alts := [], laidByText := true, laidKinds := [.data, .data, .data, .listed, .data], laidTests := true, laidLooks := .later }
def ShowLeastUptoCardSaid : Prop := Claim7.holds Tryd.pinned (.plain (OpenSpec.upto showLeastSpec)) showLeastUptoCard
end Rows
end Go.Proofs.YtphmgckopecggaaDoor

/-
  DERIVED. GIVEN WITH THE SEED: THE CARDS: each row of YtdljlhjjonkfeaaDoorRows.lean that lists a variable, with what it lists TIED to the program's text (the seventh form; the later family's looks); each row that meets fmt, with fmt's text TOLD by the authors' own Lean function (tested against real Go, not proved from fmt's source: count such statements apart). THE CARD IS WHAT COUNTS. Prove the row's statement (the work); the ties are given (YtdljlhjjonkfeaaDoorTie.lean); close each card by the builder's one call (the guide's Derived/Test/ToyasCard.lean, 'card_holds'). Laid BY PROGRAM, IN A SANDBOX (cutbox-door.mjs). By AI agents, Wed Nov 11 2026. No macro, syntax, notation, axiom, sorry.
-/
import Derived.Test.YtdljlhjjonkfeaaDoorRows
import GoSem.ClaimSeven
namespace Go.Proofs.YtdljlhjjonkfeaaDoor
namespace Rows

/-- THE TIED CARD OF 'arboretlaw16.CtrlPlays'. -/
def ctrlPlaysCard : Claim7 := { stood := { row := ctrlPlaysRow, standIns := [], harness := (true, "1b3485d2e32d6bae5d3b0c9d3b157890366b7f801851f9e361664fb265891dba"), looks := false }, kinds := [], alts := [], laidByText := true, laidKinds := [.data], laidTests := true, laidLooks := .later }
def CtrlPlaysCardSaid : Prop := Claim7.holds Tryd.pinned (.plain (OpenSpec.ofChange ctrlPlaysSpec)) ctrlPlaysCard

/-- THE TIED CARD OF 'arboretlaw16.CtrlNext'. -/
def ctrlNextCard : Claim7 := { stood := { row := ctrlNextRow, standIns := [], harness := (true, "1b3485d2e32d6bae5d3b0c9d3b157890366b7f801851f9e361664fb265891dba"), looks := false }, kinds := [], alts := [], laidByText := true, laidKinds := [.data], laidTests := true, laidLooks := .later }
def CtrlNextCardSaid : Prop := Claim7.holds Tryd.pinned (.plain (OpenSpec.ofChange ctrlNextSpec)) ctrlNextCard

/-- THE TIED CARD OF 'arboretlaw16.CtrlNil'. -/
def ctrlNilCard : Claim7 := { stood := { row := ctrlNilRow, standIns := [], harness := (true, "1b3485d2e32d6bae5d3b0c9d3b157890366b7f801851f9e361664fb265891dba"), looks := false }, kinds := [], alts := [], laidByText := true, laidKinds := [.data], laidTests := true, laidLooks := .later }
def CtrlNilCardSaid : Prop := Claim7.holds Tryd.pinned (.plain (OpenSpec.ofChange ctrlNilSpec)) ctrlNilCard

/-- THE SECOND FORM's CARD OF 'arboretlaw16.CtrlPlays'. -/
def ctrlPlaysUptoCard : Claim7 := { stood := { row := ctrlPlaysUptoRow, standIns := [], harness := (true, "1b3485d2e32d6bae5d3b0c9d3b157890366b7f801851f9e361664fb265891dba"), looks := false }, kinds := [], alts := [], laidByText := true, laidKinds := [.data], laidTests := true, laidLooks := .later }
def CtrlPlaysUptoCardSaid : Prop := Claim7.holds Tryd.pinned (.plain (OpenSpec.upto ctrlPlaysSpec)) ctrlPlaysUptoCard

/-- THE SECOND FORM's CARD OF 'arboretlaw16.CtrlNext'. -/
def ctrlNextUptoCard : Claim7 := { stood := { row := ctrlNextUptoRow, standIns := [], harness := (true, "1b3485d2e32d6bae5d3b0c9d3b157890366b7f801851f9e361664fb265891dba"), looks := false }, kinds := [], alts := [], laidByText := true, laidKinds := [.data], laidTests := true, laidLooks := .later }
def CtrlNextUptoCardSaid : Prop := Claim7.holds Tryd.pinned (.plain (OpenSpec.upto ctrlNextSpec)) ctrlNextUptoCard

/-- THE SECOND FORM's CARD OF 'arboretlaw16.CtrlNil'. -/
def ctrlNilUptoCard : Claim7 := { stood := { row := ctrlNilUptoRow, standIns := [], harness := (true, "1b3485d2e32d6bae5d3b0c9d3b157890366b7f801851f9e361664fb265891dba"), looks := false }, kinds := [], alts := [], laidByText := true, laidKinds := [.data], laidTests := true, laidLooks := .later }
def CtrlNilUptoCardSaid : Prop := Claim7.holds Tryd.pinned (.plain (OpenSpec.upto ctrlNilSpec)) ctrlNilUptoCard
end Rows
end Go.Proofs.YtdljlhjjonkfeaaDoor

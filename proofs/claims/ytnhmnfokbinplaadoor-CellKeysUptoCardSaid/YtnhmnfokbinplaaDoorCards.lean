/-
  DERIVED. GIVEN WITH THE SEED: THE CARDS: each row of YtnhmnfokbinplaaDoorRows.lean that lists a variable, with what it lists TIED to the program's text (the seventh form; the later family's looks); each row that meets fmt, with fmt's text TOLD by the authors' own Lean function (tested against real Go, not proved from fmt's source: count such statements apart). THE CARD IS WHAT COUNTS. Prove the row's statement (the work); the ties are given (YtnhmnfokbinplaaDoorTie.lean); close each card by the builder's one call (the guide's Derived/Test/ToyasCard.lean, 'card_holds'). Laid BY PROGRAM, IN A SANDBOX (cutbox-door.mjs). By AI agents, Wed Nov 11 2026. No macro, syntax, notation, axiom, sorry.
-/
import Derived.Test.YtnhmnfokbinplaaDoorRows
import GoSem.ClaimSeven
namespace Go.Proofs.YtnhmnfokbinplaaDoor
namespace Rows

/-- THE TIED CARD OF 'tallylaw.CellRows'. -/
def cellRowsCard : Claim7 := { stood := { row := cellRowsRow, standIns := [], harness := (true, "53045881cc5774694b71af9ffde6e131b00a690000e332c18ac02e546eee7b21"), looks := false }, kinds := [], alts := [], laidByText := true, laidKinds := [.data, .pinned], laidTests := true, laidLooks := .later }
def CellRowsCardSaid : Prop := Claim7.holds Tryd.pinned (.plain (OpenSpec.ofChange cellRowsSpec)) cellRowsCard

/-- THE TIED CARD OF 'tallykeep.CellKeys'. -/
def cellKeysCard : Claim7 := { stood := { row := cellKeysRow, standIns := [], harness := (true, "53045881cc5774694b71af9ffde6e131b00a690000e332c18ac02e546eee7b21"), looks := false }, kinds := [], alts := [], laidByText := true, laidKinds := [.data, .pinned], laidTests := true, laidLooks := .later }
def CellKeysCardSaid : Prop := Claim7.holds Tryd.pinned (.plain (OpenSpec.ofChange cellKeysSpec)) cellKeysCard

/-- THE SECOND FORM's CARD OF 'tallylaw.CellRows'. -/
def cellRowsUptoCard : Claim7 := { stood := { row := cellRowsUptoRow, standIns := [], harness := (true, "53045881cc5774694b71af9ffde6e131b00a690000e332c18ac02e546eee7b21"), looks := false }, kinds := [], alts := [], laidByText := true, laidKinds := [.data, .pinned], laidTests := true, laidLooks := .later }
def CellRowsUptoCardSaid : Prop := Claim7.holds Tryd.pinned (.plain (OpenSpec.upto cellRowsSpec)) cellRowsUptoCard

/-- THE SECOND FORM's CARD OF 'tallykeep.CellKeys'. -/
def cellKeysUptoCard : Claim7 := { stood := { row := cellKeysUptoRow, standIns := [], harness := (true, "53045881cc5774694b71af9ffde6e131b00a690000e332c18ac02e546eee7b21"), looks := false }, kinds := [], alts := [], laidByText := true, laidKinds := [.data, .pinned], laidTests := true, laidLooks := .later }
def CellKeysUptoCardSaid : Prop := Claim7.holds Tryd.pinned (.plain (OpenSpec.upto cellKeysSpec)) cellKeysUptoCard
end Rows
end Go.Proofs.YtnhmnfokbinplaaDoor

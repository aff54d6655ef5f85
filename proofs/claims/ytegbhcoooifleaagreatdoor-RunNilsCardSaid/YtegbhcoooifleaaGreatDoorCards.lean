/-
  DERIVED. GIVEN WITH THE SEED: THE CARDS: each row of YtegbhcoooifleaaGreatDoorRows.lean that lists a variable, with what it lists TIED to the program's text (the seventh form; the later family's looks); each row that meets fmt, with fmt's text TOLD by the authors' own Lean function (tested against real Go, not proved from fmt's source: count such statements apart). THE CARD IS WHAT COUNTS. Prove the row's statement (the work); the ties are given (YtegbhcoooifleaaGreatDoorTie.lean); close each card by the builder's one call (the guide's Derived/Test/ToyasCard.lean, 'card_holds'). Laid BY PROGRAM, IN A SANDBOX (cutbox-door.mjs). By AI agents, Wed Nov 11 2026. No macro, syntax, notation, axiom, sorry.
-/
import Derived.Test.YtegbhcoooifleaaGreatDoorRows
import GoSem.ClaimSeven
namespace Go.Proofs.YtegbhcoooifleaaGreatDoor
namespace Rows

/-- THE TIED CARD OF 'tallylaw.RunNils'. -/
def runNilsCard : Claim7 := { stood := { row := runNilsRow, standIns := [], harness := (true, "81b67d52ed8c67e91a29e21ffaa75b2d9261b21ed0a937103f50cd6851139df2"), looks := true }, kinds := [], alts := [], laidByText := true, laidKinds := [.data, .pinned], laidTests := true, laidLooks := .later }
def RunNilsCardSaid : Prop := Claim7.holds Tryz.pinned (.plain (OpenSpec.ofChange runNilsSpec)) runNilsCard

/-- THE SECOND FORM's CARD OF 'tallylaw.RunNils'. -/
def runNilsUptoCard : Claim7 := { stood := { row := runNilsUptoRow, standIns := [], harness := (true, "81b67d52ed8c67e91a29e21ffaa75b2d9261b21ed0a937103f50cd6851139df2"), looks := true }, kinds := [], alts := [], laidByText := true, laidKinds := [.data, .pinned], laidTests := true, laidLooks := .later }
def RunNilsUptoCardSaid : Prop := Claim7.holds Tryz.pinned (.plain (OpenSpec.upto runNilsSpec)) runNilsUptoCard
end Rows
end Go.Proofs.YtegbhcoooifleaaGreatDoor

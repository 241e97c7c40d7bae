/-
  DERIVED. GIVEN WITH THE SEED: THE CARDS: each row of YthllkfbegdmdkaaDoorRows.lean that lists a variable, with what it lists TIED to the program's text (the seventh form; the later family's looks); each row that meets fmt, with fmt's text TOLD by the authors' own Lean function (tested against real Go, not proved from fmt's source: count such statements apart). THE CARD IS WHAT COUNTS. Prove the row's statement (the work); the ties are given (YthllkfbegdmdkaaDoorTie.lean); close each card by the builder's one call (the guide's Derived/Test/ToyasCard.lean, 'card_holds'). Laid BY PROGRAM, IN A SANDBOX (cutbox-door.mjs). By AI agents, Wed Nov 11 2026. No macro, syntax, notation, axiom, sorry.
-/
import Derived.Test.YthllkfbegdmdkaaDoorRows
import GoSem.ClaimSeven
namespace Go.Proofs.YthllkfbegdmdkaaDoor
namespace Rows

/-- THE TIED CARD OF 'clavierlaw12.OtherLevels'. -/
def otherLevelsCard : Claim7 := { stood := { row := otherLevelsRow, standIns := [], harness := (true, "968da75539bc25663501e8de3376c20133c7cdd600963d84e4e91b03ebed7dd5"), looks := false }, kinds := [], alts := [], laidByText := true, laidKinds := [.data, .data, .data, .data, .pinned], laidTests := true, laidLooks := .later }
def OtherLevelsCardSaid : Prop := Claim7.holds Tryd.pinned (.plain (OpenSpec.ofChange otherLevelsSpec)) otherLevelsCard

/-- THE TIED CARD OF 'clavierlaw11.LegacyForms'. -/
def legacyFormsCard : Claim7 := { stood := { row := legacyFormsRow, standIns := [], harness := (true, "968da75539bc25663501e8de3376c20133c7cdd600963d84e4e91b03ebed7dd5"), looks := false }, kinds := [], alts := [], laidByText := true, laidKinds := [.data, .data, .data, .data, .pinned], laidTests := true, laidLooks := .later }
def LegacyFormsCardSaid : Prop := Claim7.holds Tryd.pinned (.plain (OpenSpec.ofChange legacyFormsSpec)) legacyFormsCard

/-- THE SECOND FORM's CARD OF 'clavierlaw12.OtherLevels'. -/
def otherLevelsUptoCard : Claim7 := { stood := { row := otherLevelsUptoRow, standIns := [], harness := (true, "968da75539bc25663501e8de3376c20133c7cdd600963d84e4e91b03ebed7dd5"), looks := false }, kinds := [], alts := [], laidByText := true, laidKinds := [.data, .data, .data, .data, .pinned], laidTests := true, laidLooks := .later }
def OtherLevelsUptoCardSaid : Prop := Claim7.holds Tryd.pinned (.plain (OpenSpec.upto otherLevelsSpec)) otherLevelsUptoCard

/-- THE SECOND FORM's CARD OF 'clavierlaw11.LegacyForms'. -/
def legacyFormsUptoCard : Claim7 := { stood := { row := legacyFormsUptoRow, standIns := [], harness := (true, "968da75539bc25663501e8de3376c20133c7cdd600963d84e4e91b03ebed7dd5"), looks := false }, kinds := [], alts := [], laidByText := true, laidKinds := [.data, .data, .data, .data, .pinned], laidTests := true, laidLooks := .later }
def LegacyFormsUptoCardSaid : Prop := Claim7.holds Tryd.pinned (.plain (OpenSpec.upto legacyFormsSpec)) legacyFormsUptoCard
end Rows
end Go.Proofs.YthllkfbegdmdkaaDoor

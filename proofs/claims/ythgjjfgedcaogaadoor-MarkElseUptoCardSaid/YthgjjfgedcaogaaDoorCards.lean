/-
  DERIVED. GIVEN WITH THE SEED: THE CARDS: each row of YthgjjfgedcaogaaDoorRows.lean that lists a variable, with what it lists TIED to the program's text (the seventh form; the later family's looks); each row that meets fmt, with fmt's text TOLD by the authors' own Lean function (tested against real Go, not proved from fmt's source: count such statements apart). THE CARD IS WHAT COUNTS. Prove the row's statement (the work); the ties are given (YthgjjfgedcaogaaDoorTie.lean); close each card by the builder's one call (the guide's Derived/Test/ToyasCard.lean, 'card_holds'). Laid BY PROGRAM, IN A SANDBOX (cutbox-door.mjs). By AI agents, Wed Nov 11 2026. No macro, syntax, notation, axiom, sorry.
-/
import Derived.Test.YthgjjfgedcaogaaDoorRows
import GoSem.ClaimSeven
namespace Go.Proofs.YthgjjfgedcaogaaDoor
namespace Rows

/-- THE TIED CARD OF 'tartanlaw24.MarkOnly'. -/
def markOnlyCard : Claim7 := { stood := { row := markOnlyRow, standIns := [], harness := (true, "4090451fe7826f01dd17267599946f9612cd9b75a11eda39ea45ed8b7b82a7fa"), looks := true }, kinds := [], alts := [], laidByText := true, laidKinds := [.data, .data, .data, .sentinel, .sentinel], laidTests := true, laidLooks := .later }
def MarkOnlyCardSaid : Prop := Claim7.holds Tryd.pinned (.plain (OpenSpec.ofChange markOnlySpec)) markOnlyCard

/-- THE TIED CARD OF 'tartanlaw24.MarkElse'. -/
def markElseCard : Claim7 := { stood := { row := markElseRow, standIns := [], harness := (true, "4090451fe7826f01dd17267599946f9612cd9b75a11eda39ea45ed8b7b82a7fa"), looks := true }, kinds := [], alts := [], laidByText := true, laidKinds := [.data, .data, .data, .sentinel, .sentinel], laidTests := true, laidLooks := .later }
def MarkElseCardSaid : Prop := Claim7.holds Tryd.pinned (.plain (OpenSpec.ofChange markElseSpec)) markElseCard

/-- THE SECOND FORM's CARD OF 'tartanlaw24.MarkOnly'. -/
def markOnlyUptoCard : Claim7 := { stood := { row := markOnlyUptoRow, standIns := [], harness := (true, "4090451fe7826f01dd17267599946f9612cd9b75a11eda39ea45ed8b7b82a7fa"), looks := true }, kinds := [], alts := [], laidByText := true, laidKinds := [.data, .data, .data, .sentinel, .sentinel], laidTests := true, laidLooks := .later }
def MarkOnlyUptoCardSaid : Prop := Claim7.holds Tryd.pinned (.plain (OpenSpec.upto markOnlySpec)) markOnlyUptoCard

/-- THE SECOND FORM's CARD OF 'tartanlaw24.MarkElse'. -/
def markElseUptoCard : Claim7 := { stood := { row := markElseUptoRow, standIns := [], harness := (true, "4090451fe7826f01dd17267599946f9612cd9b75a11eda39ea45ed8b7b82a7fa"), looks := true }, kinds := [], alts := [], laidByText := true, laidKinds := [.data, .data, .data, .sentinel, .sentinel], laidTests := true, laidLooks := .later }
def MarkElseUptoCardSaid : Prop := Claim7.holds Tryd.pinned (.plain (OpenSpec.upto markElseSpec)) markElseUptoCard
end Rows
end Go.Proofs.YthgjjfgedcaogaaDoor

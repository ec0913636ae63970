/-
  DERIVED. GIVEN WITH THE SEED: THE CARDS: each row of YthhgndcpeeifeaaGreatDoorRows.lean that lists a variable, with what it lists TIED to the program's text (the seventh form; the later family's looks); each row that meets fmt, with fmt's text TOLD by the authors' own Lean function (tested against real Go, not proved from fmt's source: count such statements apart). THE CARD IS WHAT COUNTS. Prove the row's statement (the work); the ties are given (YthhgndcpeeifeaaGreatDoorTie.lean); close each card by the builder's one call (the guide's Derived/Test/ToyasCard.lean, 'card_holds'). Laid BY PROGRAM, IN A SANDBOX (cutbox-door.mjs). By AI agents, Wed Nov 11 2026. No macro, syntax, notation, axiom, sorry.
-/
import Derived.Test.YthhgndcpeeifeaaGreatDoorRows
import GoSem.ClaimSeven
namespace Go.Proofs.YthhgndcpeeifeaaGreatDoor
namespace Rows

/-- THE TIED CARD OF 'spinneretlaw10.CompileFor'. -/
def compileForCard : Claim7 := { stood := { row := compileForRow, standIns := [], harness := (true, "a133fea6bffef105be2478b1f67464a6601975b6e457e6a1fefeef3bf9d75225"), looks := true }, kinds := [], alts := [], laidByText := true, laidKinds := [.data, .data, .data, .listed, .data, .widerDeep, .widerDeep, .widerDeep, .widerDeep, .widerDeep], laidTests := true, laidLooks := .later }
def CompileForCardSaid : Prop := Claim7.holds Tryz.pinned (.plain (OpenSpec.ofChange compileForSpec)) compileForCard

/-- THE TIED CARD OF 'spinneretlaw10.CompileSelect'. -/
def compileSelectCard : Claim7 := { stood := { row := compileSelectRow, standIns := [], harness := (true, "a133fea6bffef105be2478b1f67464a6601975b6e457e6a1fefeef3bf9d75225"), looks := true }, kinds := [], alts := [], laidByText := true, laidKinds := [.data, .data, .data, .listed, .data, .widerDeep, .widerDeep, .widerDeep, .widerDeep, .widerDeep], laidTests := true, laidLooks := .later }
def CompileSelectCardSaid : Prop := Claim7.holds Tryz.pinned (.plain (OpenSpec.ofChange compileSelectSpec)) compileSelectCard

/-- THE TIED CARD OF 'spinneretlaw10.CompileGoto'. -/
def compileGotoCard : Claim7 := { stood := { row := compileGotoRow, standIns := [], harness := (true, "a133fea6bffef105be2478b1f67464a6601975b6e457e6a1fefeef3bf9d75225"), looks := true }, kinds := [], alts := [], laidByText := true, laidKinds := [.data, .data, .data, .listed, .data, .widerDeep, .widerDeep, .widerDeep, .widerDeep, .widerDeep], laidTests := true, laidLooks := .later }
def CompileGotoCardSaid : Prop := Claim7.holds Tryz.pinned (.plain (OpenSpec.ofChange compileGotoSpec)) compileGotoCard

/-- THE SECOND FORM's CARD OF 'spinneretlaw10.CompileFor'. -/
def compileForUptoCard : Claim7 := { stood := { row := compileForUptoRow, standIns := [], harness := (true, "a133fea6bffef105be2478b1f67464a6601975b6e457e6a1fefeef3bf9d75225"), looks := true }, kinds := [], alts := [], laidByText := true, laidKinds := [.data, .data, .data, .listed, .data, .widerDeep, .widerDeep, .widerDeep, .widerDeep, .widerDeep], laidTests := true, laidLooks := .later }
def CompileForUptoCardSaid : Prop := Claim7.holds Tryz.pinned (.plain (OpenSpec.upto compileForSpec)) compileForUptoCard

/-- THE SECOND FORM's CARD OF 'spinneretlaw10.CompileSelect'. -/
def compileSelectUptoCard : Claim7 := { stood := { row := compileSelectUptoRow, standIns := [], harness := (true, "a133fea6bffef105be2478b1f67464a6601975b6e457e6a1fefeef3bf9d75225"), looks := true }, kinds := [], alts := [], laidByText := true, laidKinds := [.data, .data, .data, .listed, .data, .widerDeep, .widerDeep, .widerDeep, .widerDeep, .widerDeep], laidTests := true, laidLooks := .later }
def CompileSelectUptoCardSaid : Prop := Claim7.holds Tryz.pinned (.plain (OpenSpec.upto compileSelectSpec)) compileSelectUptoCard

/-- THE SECOND FORM's CARD OF 'spinneretlaw10.CompileGoto'. -/
def compileGotoUptoCard : Claim7 := { stood := { row := compileGotoUptoRow, standIns := [], harness := (true, "a133fea6bffef105be2478b1f67464a6601975b6e457e6a1fefeef3bf9d75225"), looks := true }, kinds := [], alts := [], laidByText := true, laidKinds := [.data, .data, .data, .listed, .data, .widerDeep, .widerDeep, .widerDeep, .widerDeep, .widerDeep], laidTests := true, laidLooks := .later }
def CompileGotoUptoCardSaid : Prop := Claim7.holds Tryz.pinned (.plain (OpenSpec.upto compileGotoSpec)) compileGotoUptoCard
end Rows
end Go.Proofs.YthhgndcpeeifeaaGreatDoor

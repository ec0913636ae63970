/-
  DERIVED. GIVEN WITH THE SEED: THE CARDS: each row of YthkebhjaaikopaaGreatDoorRows.lean that lists a variable, with what it lists TIED to the program's text (the seventh form; the later family's looks); each row that meets fmt, with fmt's text TOLD by the authors' own Lean function (tested against real Go, not proved from fmt's source: count such statements apart). THE CARD IS WHAT COUNTS. Prove the row's statement (the work); the ties are given (YthkebhjaaikopaaGreatDoorTie.lean); close each card by the builder's one call (the guide's Derived/Test/ToyasCard.lean, 'card_holds'). Laid BY PROGRAM, IN A SANDBOX (cutbox-door.mjs). By AI agents, Wed Nov 11 2026. No macro, syntax, notation, axiom, sorry.
-/
import Derived.Test.YthkebhjaaikopaaGreatDoorRows
import GoSem.ClaimSeven
namespace Go.Proofs.YthkebhjaaikopaaGreatDoor
namespace Rows

/-- THE TIED CARD OF 'spinneretlaw03.SyntaxFirst'. -/
def syntaxFirstCard : Claim7 := { stood := { row := syntaxFirstRow, standIns := [], harness := (true, "4c764296d5c7eb14d45ed65604de8381c115739dcff59256d31fd0c97f823df9"), looks := true }, kinds := [], alts := [], laidByText := true, laidKinds := [.listed, .data, .widerDeep, .widerDeep, .widerDeep], laidTests := true, laidLooks := .later }
def SyntaxFirstCardSaid : Prop := Claim7.holds Tryz.pinned (.plain (OpenSpec.ofChange syntaxFirstSpec)) syntaxFirstCard

/-- THE TIED CARD OF 'spinneretlaw03.SyntaxLoose'. -/
def syntaxLooseCard : Claim7 := { stood := { row := syntaxLooseRow, standIns := [], harness := (true, "4c764296d5c7eb14d45ed65604de8381c115739dcff59256d31fd0c97f823df9"), looks := true }, kinds := [], alts := [], laidByText := true, laidKinds := [.listed, .data, .widerDeep, .widerDeep, .widerDeep], laidTests := true, laidLooks := .later }
def SyntaxLooseCardSaid : Prop := Claim7.holds Tryz.pinned (.plain (OpenSpec.ofChange syntaxLooseSpec)) syntaxLooseCard

/-- THE TIED CARD OF 'spinneretlaw03.SyntaxMade'. -/
def syntaxMadeCard : Claim7 := { stood := { row := syntaxMadeRow, standIns := [], harness := (true, "4c764296d5c7eb14d45ed65604de8381c115739dcff59256d31fd0c97f823df9"), looks := true }, kinds := [], alts := [], laidByText := true, laidKinds := [.listed, .data, .widerDeep, .widerDeep, .widerDeep], laidTests := true, laidLooks := .later }
def SyntaxMadeCardSaid : Prop := Claim7.holds Tryz.pinned (.plain (OpenSpec.ofChange syntaxMadeSpec)) syntaxMadeCard

/-- THE SECOND FORM's CARD OF 'spinneretlaw03.SyntaxFirst'. -/
def syntaxFirstUptoCard : Claim7 := { stood := { row := syntaxFirstUptoRow, standIns := [], harness := (true, "4c764296d5c7eb14d45ed65604de8381c115739dcff59256d31fd0c97f823df9"), looks := true }, kinds := [], alts := [], laidByText := true, laidKinds := [.listed, .data, .widerDeep, .widerDeep, .widerDeep], laidTests := true, laidLooks := .later }
def SyntaxFirstUptoCardSaid : Prop := Claim7.holds Tryz.pinned (.plain (OpenSpec.upto syntaxFirstSpec)) syntaxFirstUptoCard

/-- THE SECOND FORM's CARD OF 'spinneretlaw03.SyntaxLoose'. -/
def syntaxLooseUptoCard : Claim7 := { stood := { row := syntaxLooseUptoRow, standIns := [], harness := (true, "4c764296d5c7eb14d45ed65604de8381c115739dcff59256d31fd0c97f823df9"), looks := true }, kinds := [], alts := [], laidByText := true, laidKinds := [.listed, .data, .widerDeep, .widerDeep, .widerDeep], laidTests := true, laidLooks := .later }
def SyntaxLooseUptoCardSaid : Prop := Claim7.holds Tryz.pinned (.plain (OpenSpec.upto syntaxLooseSpec)) syntaxLooseUptoCard

/-- THE SECOND FORM's CARD OF 'spinneretlaw03.SyntaxMade'. -/
def syntaxMadeUptoCard : Claim7 := { stood := { row := syntaxMadeUptoRow, standIns := [], harness := (true, "4c764296d5c7eb14d45ed65604de8381c115739dcff59256d31fd0c97f823df9"), looks := true }, kinds := [], alts := [], laidByText := true, laidKinds := [.listed, .data, .widerDeep, .widerDeep, .widerDeep], laidTests := true, laidLooks := .later }
def SyntaxMadeUptoCardSaid : Prop := Claim7.holds Tryz.pinned (.plain (OpenSpec.upto syntaxMadeSpec)) syntaxMadeUptoCard
end Rows
end Go.Proofs.YthkebhjaaikopaaGreatDoor

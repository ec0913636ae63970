/-
  DERIVED. GIVEN WITH THE SEED: THE CARDS: each row of YtmnkbjjffgcdmaaDoorRows.lean that lists a variable, with what it lists TIED to the program's text (the seventh form; the later family's looks); each row that meets fmt, with fmt's text TOLD by the authors' own Lean function (tested against real Go, not proved from fmt's source: count such statements apart). THE CARD IS WHAT COUNTS. Prove the row's statement (the work); the ties are given (YtmnkbjjffgcdmaaDoorTie.lean); close each card by the builder's one call (the guide's Derived/Test/ToyasCard.lean, 'card_holds'). Laid BY PROGRAM, IN A SANDBOX (cutbox-door.mjs). By AI agents, Wed Nov 11 2026. No macro, syntax, notation, axiom, sorry.
-/
import Derived.Test.YtmnkbjjffgcdmaaDoorRows
import GoSem.ClaimSeven
namespace Go.Proofs.YtmnkbjjffgcdmaaDoor
namespace Rows

/-- THE TIED CARD OF 'spinneretlaw01.LexPlaces'. -/
def lexPlacesCard : Claim7 := { stood := { row := lexPlacesRow, standIns := [], harness := (true, "b655fef92f26aa3abce4d76c293103551ededc491f494aaf908f3fd372bc989d"), looks := false }, kinds := [], alts := [], laidByText := true, laidKinds := [.listed, .data], laidTests := true, laidLooks := .later }
def LexPlacesCardSaid : Prop := Claim7.holds Tryd.pinned (.plain (OpenSpec.ofChange lexPlacesSpec)) lexPlacesCard

/-- THE TIED CARD OF 'spinneretlaw01.LexFirst'. -/
def lexFirstCard : Claim7 := { stood := { row := lexFirstRow, standIns := [], harness := (true, "b655fef92f26aa3abce4d76c293103551ededc491f494aaf908f3fd372bc989d"), looks := false }, kinds := [], alts := [], laidByText := true, laidKinds := [.listed, .data], laidTests := true, laidLooks := .later }
def LexFirstCardSaid : Prop := Claim7.holds Tryd.pinned (.plain (OpenSpec.ofChange lexFirstSpec)) lexFirstCard

/-- THE SECOND FORM's CARD OF 'spinneretlaw01.LexPlaces'. -/
def lexPlacesUptoCard : Claim7 := { stood := { row := lexPlacesUptoRow, standIns := [], harness := (true, "b655fef92f26aa3abce4d76c293103551ededc491f494aaf908f3fd372bc989d"), looks := false }, kinds := [], alts := [], laidByText := true, laidKinds := [.listed, .data], laidTests := true, laidLooks := .later }
def LexPlacesUptoCardSaid : Prop := Claim7.holds Tryd.pinned (.plain (OpenSpec.upto lexPlacesSpec)) lexPlacesUptoCard

/-- THE SECOND FORM's CARD OF 'spinneretlaw01.LexFirst'. -/
def lexFirstUptoCard : Claim7 := { stood := { row := lexFirstUptoRow, standIns := [], harness := (true, "b655fef92f26aa3abce4d76c293103551ededc491f494aaf908f3fd372bc989d"), looks := false }, kinds := [], alts := [], laidByText := true, laidKinds := [.listed, .data], laidTests := true, laidLooks := .later }
def LexFirstUptoCardSaid : Prop := Claim7.holds Tryd.pinned (.plain (OpenSpec.upto lexFirstSpec)) lexFirstUptoCard
end Rows
end Go.Proofs.YtmnkbjjffgcdmaaDoor

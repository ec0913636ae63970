/-
  DERIVED. GIVEN WITH THE SEED: THE PROGRAM's TIES (one call each: nine closed facts by the kernel) AND EACH ROW's TIE, after the 31st guide's Derived/Test/Toyas{Tie, Card}.lean. No idea stands in it: it is a product of the set-up. Laid BY PROGRAM, IN A SANDBOX (cutbox-door.mjs). By AI agents, Wed Nov 11 2026. No macro, syntax, notation, axiom, sorry.
-/
import Derived.Test.YthkebhjaaikopaaGreatDoorRows
import Derived.LaidByTextLater
import Derived.SevenTiedAt
import Derived.LaidSub
import Derived.LaidOnce
namespace Go.Proofs.YthkebhjaaikopaaGreatDoor
open Go
set_option maxRecDepth 100000
theorem seatTie1 : Tryz.prog.laidByTextLater [("unicode.White_Space", Rows.laid_unicode_White_Space), ("strings.asciiSpace", Rows.laid_strings_asciiSpace), ("spinneret/syntax.levels", Rows.laid_spinneret_syntax_levels), ("spinneret/syntax.types", Rows.laid_spinneret_syntax_types), ("spinneret/syntax.shows", Rows.laid_spinneret_syntax_shows)] [.listed, .data, .widerDeep, .widerDeep, .widerDeep] true :=
  Program.laidByTextLater_by_one 68 8 257 (by kernel_rfl) (by kernel_rfl) (by kernel_rfl) (by kernel_rfl) (by kernel_rfl) (by kernel_rfl) (fun _ _ => by kernel_rfl)
theorem noOwnUnsafe : Tryz.pinned.checked.prog.headLifts.contains "ownunsafe" = false := by kernel_rfl
theorem tie : Tryz.prog.laidByTextLater [("unicode.White_Space", Rows.laid_unicode_White_Space), ("strings.asciiSpace", Rows.laid_strings_asciiSpace), ("spinneret/syntax.levels", Rows.laid_spinneret_syntax_levels), ("spinneret/syntax.types", Rows.laid_spinneret_syntax_types), ("spinneret/syntax.shows", Rows.laid_spinneret_syntax_shows)] [.listed, .data, .widerDeep, .widerDeep, .widerDeep] true :=
  Program.laidByTextLater.sub seatTie1 ["unicode.White_Space", "strings.asciiSpace", "spinneret/syntax.levels", "spinneret/syntax.types", "spinneret/syntax.shows"] (by kernel_rfl) (by kernel_rfl)
theorem syntaxFirst_row_tie : Rows.syntaxFirstRow.laidByTextAt .later Tryz.pinned [.listed, .data, .widerDeep, .widerDeep, .widerDeep] true :=
  OpenClaim.laidByTextAt_later rfl rfl tie noOwnUnsafe
theorem syntaxLoose_row_tie : Rows.syntaxLooseRow.laidByTextAt .later Tryz.pinned [.listed, .data, .widerDeep, .widerDeep, .widerDeep] true :=
  OpenClaim.laidByTextAt_later rfl rfl tie noOwnUnsafe
theorem syntaxMade_row_tie : Rows.syntaxMadeRow.laidByTextAt .later Tryz.pinned [.listed, .data, .widerDeep, .widerDeep, .widerDeep] true :=
  OpenClaim.laidByTextAt_later rfl rfl tie noOwnUnsafe
theorem syntaxFirstUpto_row_tie : Rows.syntaxFirstUptoRow.laidByTextAt .later Tryz.pinned [.listed, .data, .widerDeep, .widerDeep, .widerDeep] true :=
  OpenClaim.laidByTextAt_later rfl rfl tie noOwnUnsafe
theorem syntaxLooseUpto_row_tie : Rows.syntaxLooseUptoRow.laidByTextAt .later Tryz.pinned [.listed, .data, .widerDeep, .widerDeep, .widerDeep] true :=
  OpenClaim.laidByTextAt_later rfl rfl tie noOwnUnsafe
theorem syntaxMadeUpto_row_tie : Rows.syntaxMadeUptoRow.laidByTextAt .later Tryz.pinned [.listed, .data, .widerDeep, .widerDeep, .widerDeep] true :=
  OpenClaim.laidByTextAt_later rfl rfl tie noOwnUnsafe
end Go.Proofs.YthkebhjaaikopaaGreatDoor

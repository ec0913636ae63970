/-
  DERIVED. GIVEN WITH THE SEED: THE PROGRAM's TIES (one call each: nine closed facts by the kernel) AND EACH ROW's TIE, after the 31st guide's Derived/Test/Toyas{Tie, Card}.lean. No idea stands in it: it is a product of the set-up. Laid BY PROGRAM, IN A SANDBOX (cutbox-door.mjs). By AI agents, Wed Nov 11 2026. No macro, syntax, notation, axiom, sorry.
-/
import Derived.Test.YthhgndcpeeifeaaGreatDoorRows
import Derived.LaidByTextLater
import Derived.SevenTiedAt
import Derived.LaidSub
import Derived.LaidOnce
namespace Go.Proofs.YthhgndcpeeifeaaGreatDoor
open Go
set_option maxRecDepth 100000
theorem seatTie1 : Tryz.prog.laidByTextLater [("math/bits.deBruijn32tab", Rows.laid_math_bits_deBruijn32tab), ("math/bits.deBruijn64tab", Rows.laid_math_bits_deBruijn64tab), ("internal/strconv.uint64pow10", Rows.laid_internal_strconv_uint64pow10), ("unicode.White_Space", Rows.laid_unicode_White_Space), ("strings.asciiSpace", Rows.laid_strings_asciiSpace), ("spinneret/syntax.levels", Rows.laid_spinneret_syntax_levels), ("spinneret/syntax.types", Rows.laid_spinneret_syntax_types), ("spinneret/syntax.shows", Rows.laid_spinneret_syntax_shows), ("spinneret/print.marks", Rows.laid_spinneret_print_marks), ("spinneret/print.words", Rows.laid_spinneret_print_words)] [.data, .data, .data, .listed, .data, .widerDeep, .widerDeep, .widerDeep, .widerDeep, .widerDeep] true :=
  Program.laidByTextLater_by_one 93 8 257 (by kernel_rfl) (by kernel_rfl) (by kernel_rfl) (by kernel_rfl) (by kernel_rfl) (by kernel_rfl) (fun _ _ => by kernel_rfl)
theorem noOwnUnsafe : Tryz.pinned.checked.prog.headLifts.contains "ownunsafe" = false := by kernel_rfl
theorem tie : Tryz.prog.laidByTextLater [("math/bits.deBruijn32tab", Rows.laid_math_bits_deBruijn32tab), ("math/bits.deBruijn64tab", Rows.laid_math_bits_deBruijn64tab), ("internal/strconv.uint64pow10", Rows.laid_internal_strconv_uint64pow10), ("unicode.White_Space", Rows.laid_unicode_White_Space), ("strings.asciiSpace", Rows.laid_strings_asciiSpace), ("spinneret/syntax.levels", Rows.laid_spinneret_syntax_levels), ("spinneret/syntax.types", Rows.laid_spinneret_syntax_types), ("spinneret/syntax.shows", Rows.laid_spinneret_syntax_shows), ("spinneret/print.marks", Rows.laid_spinneret_print_marks), ("spinneret/print.words", Rows.laid_spinneret_print_words)] [.data, .data, .data, .listed, .data, .widerDeep, .widerDeep, .widerDeep, .widerDeep, .widerDeep] true :=
  Program.laidByTextLater.sub seatTie1 ["math/bits.deBruijn32tab", "math/bits.deBruijn64tab", "internal/strconv.uint64pow10", "unicode.White_Space", "strings.asciiSpace", "spinneret/syntax.levels", "spinneret/syntax.types", "spinneret/syntax.shows", "spinneret/print.marks", "spinneret/print.words"] (by kernel_rfl) (by kernel_rfl)
theorem compileFor_row_tie : Rows.compileForRow.laidByTextAt .later Tryz.pinned [.data, .data, .data, .listed, .data, .widerDeep, .widerDeep, .widerDeep, .widerDeep, .widerDeep] true :=
  OpenClaim.laidByTextAt_later rfl rfl tie noOwnUnsafe
theorem compileSelect_row_tie : Rows.compileSelectRow.laidByTextAt .later Tryz.pinned [.data, .data, .data, .listed, .data, .widerDeep, .widerDeep, .widerDeep, .widerDeep, .widerDeep] true :=
  OpenClaim.laidByTextAt_later rfl rfl tie noOwnUnsafe
theorem compileGoto_row_tie : Rows.compileGotoRow.laidByTextAt .later Tryz.pinned [.data, .data, .data, .listed, .data, .widerDeep, .widerDeep, .widerDeep, .widerDeep, .widerDeep] true :=
  OpenClaim.laidByTextAt_later rfl rfl tie noOwnUnsafe
theorem compileForUpto_row_tie : Rows.compileForUptoRow.laidByTextAt .later Tryz.pinned [.data, .data, .data, .listed, .data, .widerDeep, .widerDeep, .widerDeep, .widerDeep, .widerDeep] true :=
  OpenClaim.laidByTextAt_later rfl rfl tie noOwnUnsafe
theorem compileSelectUpto_row_tie : Rows.compileSelectUptoRow.laidByTextAt .later Tryz.pinned [.data, .data, .data, .listed, .data, .widerDeep, .widerDeep, .widerDeep, .widerDeep, .widerDeep] true :=
  OpenClaim.laidByTextAt_later rfl rfl tie noOwnUnsafe
theorem compileGotoUpto_row_tie : Rows.compileGotoUptoRow.laidByTextAt .later Tryz.pinned [.data, .data, .data, .listed, .data, .widerDeep, .widerDeep, .widerDeep, .widerDeep, .widerDeep] true :=
  OpenClaim.laidByTextAt_later rfl rfl tie noOwnUnsafe
end Go.Proofs.YthhgndcpeeifeaaGreatDoor

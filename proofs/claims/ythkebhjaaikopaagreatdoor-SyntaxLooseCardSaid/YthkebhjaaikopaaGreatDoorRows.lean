/-
  NARROWER THAN 'FOR EVERY INPUT', by the rows' own cells (each row's printed sentence says how): SyntaxFirst: laid · SyntaxLoose: laid · SyntaxMade: laid.
  DERIVED. THE GIVEN ROWS OF THIS SEAT. 3 by the template 'for every input the law returns true; each argument reads behind the call as it read before'; 0 by the template 'total and deterministic' (their statements: YthkebhjaaikopaaGreatDoorTotals.lean).
  GIVEN WITH THE SEED: the statements are not yours to turn. If you find one false, say at which input.
  Laid BY PROGRAM, IN A SANDBOX (cutbox-rows.mjs): the forced cells as the released guide's own fill.sh prints them over the translation cbd4f357e9dc3376… (all of the seat's roots in one cut). By AI agents, Wed Nov 11 2026. No macro, syntax, notation, axiom, sorry.
-/
import Derived.Test.YthkebhjaaikopaaGreatDoorChecked
import GoSem.Claim
import GoSem.ClaimJoined
import GoSem.ClaimMapViews
import Derived.JoinedTies
import Derived.KernelRfl
namespace Go.Proofs.YthkebhjaaikopaaGreatDoor
/- THE CELL 'sum', in the pinned program and in every row, IS THE sha256 OF THE DUMP (.gsa) THAT YthkebhjaaikopaaGreatDoorProg.lean LOADS. Nothing in Lean hashes anything: it is a label: what it is worth is what the hold of that sum in a sandbox is worth. -/
noncomputable def Tryz.pinned : Pinned := { name := "ythkebhjaaikopaagreatdoor", sum := "cbd4f357e9dc3376d2e5976966291852a276f931f5fb6b7ab51ef7896dfe771b", checked := Tryz.checked }
namespace Rows
def none {H : Type} : Left H := { results := [], args := [] }

/- WHAT THE LISTED PACKAGE-LEVEL VARIABLES READ AS WHEN THE CALL BEGINS. Each datum BY PROGRAM (the guide's laid-datum.mjs) off the statement by which the dump's own 'gosem.cut.vars' lays the variable. In a bare row this is a premise. The card (YthkebhjaaikopaaGreatDoorCards.lean) ties it to the program's text. -/
def laid_unicode_White_Space {H : Type} : DataW H := .ptr (.agg [.slice [.agg [.lit (.int .u16 9), .lit (.int .u16 13), .lit (.int .u16 1)], .agg [.lit (.int .u16 32), .lit (.int .u16 133), .lit (.int .u16 101)], .agg [.lit (.int .u16 160), .lit (.int .u16 5760), .lit (.int .u16 5600)], .agg [.lit (.int .u16 8192), .lit (.int .u16 8202), .lit (.int .u16 1)], .agg [.lit (.int .u16 8232), .lit (.int .u16 8233), .lit (.int .u16 1)], .agg [.lit (.int .u16 8239), .lit (.int .u16 8287), .lit (.int .u16 48)], .agg [.lit (.int .u16 12288), .lit (.int .u16 12288), .lit (.int .u16 1)]] [], .nil, .lit (.int .i64 2)])
def laid_strings_asciiSpace {H : Type} : DataW H := .agg [.lit (.int .u8 0), .lit (.int .u8 0), .lit (.int .u8 0), .lit (.int .u8 0), .lit (.int .u8 0), .lit (.int .u8 0), .lit (.int .u8 0), .lit (.int .u8 0), .lit (.int .u8 0), .lit (.int .u8 1), .lit (.int .u8 1), .lit (.int .u8 1), .lit (.int .u8 1), .lit (.int .u8 1), .lit (.int .u8 0), .lit (.int .u8 0), .lit (.int .u8 0), .lit (.int .u8 0), .lit (.int .u8 0), .lit (.int .u8 0), .lit (.int .u8 0), .lit (.int .u8 0), .lit (.int .u8 0), .lit (.int .u8 0), .lit (.int .u8 0), .lit (.int .u8 0), .lit (.int .u8 0), .lit (.int .u8 0), .lit (.int .u8 0), .lit (.int .u8 0), .lit (.int .u8 0), .lit (.int .u8 0), .lit (.int .u8 1), .lit (.int .u8 0), .lit (.int .u8 0), .lit (.int .u8 0), .lit (.int .u8 0), .lit (.int .u8 0), .lit (.int .u8 0), .lit (.int .u8 0), .lit (.int .u8 0), .lit (.int .u8 0), .lit (.int .u8 0), .lit (.int .u8 0), .lit (.int .u8 0), .lit (.int .u8 0), .lit (.int .u8 0), .lit (.int .u8 0), .lit (.int .u8 0), .lit (.int .u8 0), .lit (.int .u8 0), .lit (.int .u8 0), .lit (.int .u8 0), .lit (.int .u8 0), .lit (.int .u8 0), .lit (.int .u8 0), .lit (.int .u8 0), .lit (.int .u8 0), .lit (.int .u8 0), .lit (.int .u8 0), .lit (.int .u8 0), .lit (.int .u8 0), .lit (.int .u8 0), .lit (.int .u8 0), .lit (.int .u8 0), .lit (.int .u8 0), .lit (.int .u8 0), .lit (.int .u8 0), .lit (.int .u8 0), .lit (.int .u8 0), .lit (.int .u8 0), .lit (.int .u8 0), .lit (.int .u8 0), .lit (.int .u8 0), .lit (.int .u8 0), .lit (.int .u8 0), .lit (.int .u8 0), .lit (.int .u8 0), .lit (.int .u8 0), .lit (.int .u8 0), .lit (.int .u8 0), .lit (.int .u8 0), .lit (.int .u8 0), .lit (.int .u8 0), .lit (.int .u8 0), .lit (.int .u8 0), .lit (.int .u8 0), .lit (.int .u8 0), .lit (.int .u8 0), .lit (.int .u8 0), .lit (.int .u8 0), .lit (.int .u8 0), .lit (.int .u8 0), .lit (.int .u8 0), .lit (.int .u8 0), .lit (.int .u8 0), .lit (.int .u8 0), .lit (.int .u8 0), .lit (.int .u8 0), .lit (.int .u8 0), .lit (.int .u8 0), .lit (.int .u8 0), .lit (.int .u8 0), .lit (.int .u8 0), .lit (.int .u8 0), .lit (.int .u8 0), .lit (.int .u8 0), .lit (.int .u8 0), .lit (.int .u8 0), .lit (.int .u8 0), .lit (.int .u8 0), .lit (.int .u8 0), .lit (.int .u8 0), .lit (.int .u8 0), .lit (.int .u8 0), .lit (.int .u8 0), .lit (.int .u8 0), .lit (.int .u8 0), .lit (.int .u8 0), .lit (.int .u8 0), .lit (.int .u8 0), .lit (.int .u8 0), .lit (.int .u8 0), .lit (.int .u8 0), .lit (.int .u8 0), .lit (.int .u8 0), .lit (.int .u8 0), .lit (.int .u8 0), .lit (.int .u8 0), .lit (.int .u8 0), .lit (.int .u8 0), .lit (.int .u8 0), .lit (.int .u8 0), .lit (.int .u8 0), .lit (.int .u8 0), .lit (.int .u8 0), .lit (.int .u8 0), .lit (.int .u8 0), .lit (.int .u8 0), .lit (.int .u8 0), .lit (.int .u8 0), .lit (.int .u8 0), .lit (.int .u8 0), .lit (.int .u8 0), .lit (.int .u8 0), .lit (.int .u8 0), .lit (.int .u8 0), .lit (.int .u8 0), .lit (.int .u8 0), .lit (.int .u8 0), .lit (.int .u8 0), .lit (.int .u8 0), .lit (.int .u8 0), .lit (.int .u8 0), .lit (.int .u8 0), .lit (.int .u8 0), .lit (.int .u8 0), .lit (.int .u8 0), .lit (.int .u8 0), .lit (.int .u8 0), .lit (.int .u8 0), .lit (.int .u8 0), .lit (.int .u8 0), .lit (.int .u8 0), .lit (.int .u8 0), .lit (.int .u8 0), .lit (.int .u8 0), .lit (.int .u8 0), .lit (.int .u8 0), .lit (.int .u8 0), .lit (.int .u8 0), .lit (.int .u8 0), .lit (.int .u8 0), .lit (.int .u8 0), .lit (.int .u8 0), .lit (.int .u8 0), .lit (.int .u8 0), .lit (.int .u8 0), .lit (.int .u8 0), .lit (.int .u8 0), .lit (.int .u8 0), .lit (.int .u8 0), .lit (.int .u8 0), .lit (.int .u8 0), .lit (.int .u8 0), .lit (.int .u8 0), .lit (.int .u8 0), .lit (.int .u8 0), .lit (.int .u8 0), .lit (.int .u8 0), .lit (.int .u8 0), .lit (.int .u8 0), .lit (.int .u8 0), .lit (.int .u8 0), .lit (.int .u8 0), .lit (.int .u8 0), .lit (.int .u8 0), .lit (.int .u8 0), .lit (.int .u8 0), .lit (.int .u8 0), .lit (.int .u8 0), .lit (.int .u8 0), .lit (.int .u8 0), .lit (.int .u8 0), .lit (.int .u8 0), .lit (.int .u8 0), .lit (.int .u8 0), .lit (.int .u8 0), .lit (.int .u8 0), .lit (.int .u8 0), .lit (.int .u8 0), .lit (.int .u8 0), .lit (.int .u8 0), .lit (.int .u8 0), .lit (.int .u8 0), .lit (.int .u8 0), .lit (.int .u8 0), .lit (.int .u8 0), .lit (.int .u8 0), .lit (.int .u8 0), .lit (.int .u8 0), .lit (.int .u8 0), .lit (.int .u8 0), .lit (.int .u8 0), .lit (.int .u8 0), .lit (.int .u8 0), .lit (.int .u8 0), .lit (.int .u8 0), .lit (.int .u8 0), .lit (.int .u8 0), .lit (.int .u8 0), .lit (.int .u8 0), .lit (.int .u8 0), .lit (.int .u8 0), .lit (.int .u8 0), .lit (.int .u8 0), .lit (.int .u8 0), .lit (.int .u8 0), .lit (.int .u8 0), .lit (.int .u8 0), .lit (.int .u8 0), .lit (.int .u8 0), .lit (.int .u8 0), .lit (.int .u8 0), .lit (.int .u8 0), .lit (.int .u8 0), .lit (.int .u8 0), .lit (.int .u8 0), .lit (.int .u8 0), .lit (.int .u8 0), .lit (.int .u8 0), .lit (.int .u8 0), .lit (.int .u8 0), .lit (.int .u8 0), .lit (.int .u8 0), .lit (.int .u8 0)]
def laid_spinneret_syntax_levels {H : Type} : DataW H := .agg [.agg [.slice [.lit (.string [124, 124])] [], .lit (.int .i64 23)], .agg [.slice [.lit (.string [38, 38])] [], .lit (.int .i64 22)], .agg [.slice [.lit (.string [124])] [], .lit (.int .i64 21)], .agg [.slice [.lit (.string [94])] [], .lit (.int .i64 20)], .agg [.slice [.lit (.string [38])] [], .lit (.int .i64 19)], .agg [.slice [.lit (.string [61, 61]), .lit (.string [33, 61])] [], .lit (.int .i64 17)], .agg [.slice [.lit (.string [60]), .lit (.string [60, 61]), .lit (.string [62]), .lit (.string [62, 61])] [], .lit (.int .i64 13)], .agg [.slice [.lit (.string [60, 60]), .lit (.string [62, 62])] [], .lit (.int .i64 11)], .agg [.slice [.lit (.string [43]), .lit (.string [45])] [], .lit (.int .i64 9)], .agg [.slice [.lit (.string [42]), .lit (.string [47]), .lit (.string [37])] [], .lit (.int .i64 6)]]
def laid_spinneret_syntax_types {H : Type} : DataW H := .slice [.lit (.string []), .lit (.string [98, 105, 116]), .lit (.string [98, 111, 111, 108]), .lit (.string [98, 121, 116, 101]), .lit (.string [115, 104, 111, 114, 116]), .lit (.string [105, 110, 116]), .lit (.string [117, 110, 115, 105, 103, 110, 101, 100]), .lit (.string [109, 116, 121, 112, 101]), .lit (.string [112, 105, 100]), .lit (.string [99, 104, 97, 110])] []
def laid_spinneret_syntax_shows {H : Type} : DataW H := .slice [.lit (.string []), .lit (.string [104, 105, 100, 100, 101, 110]), .lit (.string [115, 104, 111, 119]), .lit (.string [108, 111, 99, 97, 108])] []

/-- 'spinneretlaw03.SyntaxFirst': WHATEVER THE INPUT: true; the input reads as it did. -/
def syntaxFirstSpec : ChangeSpec := { name := "syntaxFirst", fn := fun _ => fun
  | [d1, d2] => { results := [.lit (.bool true)], args := [d1, d2] }
  | _ => none }
def syntaxFirstRow : OpenClaim := { program := "ythkebhjaaikopaagreatdoor", sum := "cbd4f357e9dc3376d2e5976966291852a276f931f5fb6b7ab51ef7896dfe771b", func := "spinneret/spinneretlaw03.SyntaxFirst", spec := "syntaxFirst", unfollowed := true, recurses := true, named := ["strings.asciiSpace", "unicode.White_Space", "spinneret/syntax.types", "spinneret/syntax.shows", "spinneret/syntax.levels"], apart := false, laid := [("unicode.White_Space", laid_unicode_White_Space), ("strings.asciiSpace", laid_strings_asciiSpace), ("spinneret/syntax.levels", laid_spinneret_syntax_levels), ("spinneret/syntax.types", laid_spinneret_syntax_types), ("spinneret/syntax.shows", laid_spinneret_syntax_shows)] }
def SyntaxFirstSaid : Prop := syntaxFirstRow.holds Tryz.pinned (OpenSpec.ofChange syntaxFirstSpec)

/-- ITS FALSE NEIGHBOUR: 'it returns false'. Refute it at one input. -/
def syntaxFirstWrong : ChangeSpec := { name := "syntaxFirst", fn := fun _ => fun
  | [d1, d2] => { results := [.lit (.bool false)], args := [d1, d2] }
  | _ => none }
def SyntaxFirstWrongFalsely : Prop := syntaxFirstRow.holds Tryz.pinned (OpenSpec.ofChange syntaxFirstWrong)

/-- 'spinneretlaw03.SyntaxLoose': WHATEVER THE INPUT: true; the input reads as it did. -/
def syntaxLooseSpec : ChangeSpec := { name := "syntaxLoose", fn := fun _ => fun
  | [d1, d2] => { results := [.lit (.bool true)], args := [d1, d2] }
  | _ => none }
def syntaxLooseRow : OpenClaim := { program := "ythkebhjaaikopaagreatdoor", sum := "cbd4f357e9dc3376d2e5976966291852a276f931f5fb6b7ab51ef7896dfe771b", func := "spinneret/spinneretlaw03.SyntaxLoose", spec := "syntaxLoose", inPlace := ["internal/bytealg.IndexByteString", "internal/bytealg.IndexString"], unfollowed := true, recurses := true, named := ["strings.asciiSpace", "unicode.White_Space", "internal/bytealg.MaxLen", "spinneret/syntax.types", "spinneret/syntax.shows", "spinneret/syntax.levels"], apart := false, laid := [("unicode.White_Space", laid_unicode_White_Space), ("strings.asciiSpace", laid_strings_asciiSpace), ("spinneret/syntax.levels", laid_spinneret_syntax_levels), ("spinneret/syntax.types", laid_spinneret_syntax_types), ("spinneret/syntax.shows", laid_spinneret_syntax_shows)] }
def SyntaxLooseSaid : Prop := syntaxLooseRow.holds Tryz.pinned (OpenSpec.ofChange syntaxLooseSpec)

/-- ITS FALSE NEIGHBOUR: 'it returns false'. Refute it at one input. -/
def syntaxLooseWrong : ChangeSpec := { name := "syntaxLoose", fn := fun _ => fun
  | [d1, d2] => { results := [.lit (.bool false)], args := [d1, d2] }
  | _ => none }
def SyntaxLooseWrongFalsely : Prop := syntaxLooseRow.holds Tryz.pinned (OpenSpec.ofChange syntaxLooseWrong)

/-- 'spinneretlaw03.SyntaxMade': WHATEVER THE INPUT: true; the input reads as it did. -/
def syntaxMadeSpec : ChangeSpec := { name := "syntaxMade", fn := fun _ => fun
  | [d] => { results := [.lit (.bool true)], args := [d] }
  | _ => none }
def syntaxMadeRow : OpenClaim := { program := "ythkebhjaaikopaagreatdoor", sum := "cbd4f357e9dc3376d2e5976966291852a276f931f5fb6b7ab51ef7896dfe771b", func := "spinneret/spinneretlaw03.SyntaxMade", spec := "syntaxMade", inPlace := ["internal/bytealg.IndexByteString", "internal/bytealg.IndexString"], unfollowed := true, recurses := true, named := ["strings.asciiSpace", "unicode.White_Space", "internal/bytealg.MaxLen", "spinneret/syntax.types", "spinneret/syntax.shows", "spinneret/syntax.levels"], apart := false, laid := [("unicode.White_Space", laid_unicode_White_Space), ("strings.asciiSpace", laid_strings_asciiSpace), ("spinneret/syntax.levels", laid_spinneret_syntax_levels), ("spinneret/syntax.types", laid_spinneret_syntax_types), ("spinneret/syntax.shows", laid_spinneret_syntax_shows)] }
def SyntaxMadeSaid : Prop := syntaxMadeRow.holds Tryz.pinned (OpenSpec.ofChange syntaxMadeSpec)

/-- ITS FALSE NEIGHBOUR: 'it returns false'. Refute it at one input. -/
def syntaxMadeWrong : ChangeSpec := { name := "syntaxMade", fn := fun _ => fun
  | [d] => { results := [.lit (.bool false)], args := [d] }
  | _ => none }
def SyntaxMadeWrongFalsely : Prop := syntaxMadeRow.holds Tryz.pinned (OpenSpec.ofChange syntaxMadeWrong)

/- THE SECOND FORM. 'bulk': how many values and letters a reading holds, each counted each time it is reached (what is shared counts as often as it is met; a slice's spare places count too). A statement '..UptoSaid' is the law's where the arguments, and the package variables that the reading takes, are together of bulk at most 1048576: NARROWER than '..Said'. Prove '..Said' where nothing that the law and all that it calls make is longer than what came in: it says more and counts as full. Else prove '..UptoSaid'. A law counts once. -/
mutual
def uptoBulk {H : Type} : DataW H → Nat
  | .lit (.string bytes) => bytes.length + 1
  | .lit _ => 1
  | .nil => 1
  | .ptr d => uptoBulk d + 1
  | .slice elems spare => uptoBulkAll elems + uptoBulkAll spare + 1
  | .agg parts => uptoBulkAll parts + 1
  | .iface _ d => uptoBulk d + 1
  | .map entries => uptoBulkEntries entries + 1
  | .held _ => 1
def uptoBulkAll {H : Type} : List (DataW H) → Nat
  | [] => 0
  | d :: r => uptoBulk d + uptoBulkAll r
def uptoBulkEntries {H : Type} : List (Lit × DataW H) → Nat
  | [] => 0
  | x :: r => uptoBulkEntry x + uptoBulkEntries r
def uptoBulkEntry {H : Type} : Lit × DataW H → Nat
  | (.string bytes, d) => bytes.length + uptoBulk d + 1
  | (_, d) => uptoBulk d + 1
 end
def uptoSmall : (H : Type) → List (DataW H) → Bool := fun _ ds => decide (uptoBulkAll ds ≤ 1048576)
def OpenSpec.upto (s : _root_.Go.ChangeSpec) : _root_.Go.OpenSpec := { _root_.Go.OpenSpec.ofChange s with cond := some uptoSmall }

/-- 'spinneretlaw03.SyntaxFirst', WHERE WHAT IT READS IS OF BULK AT MOST 1048576: true; the input reads as it did. -/
def syntaxFirstUptoRow : OpenClaim := { program := "ythkebhjaaikopaagreatdoor", sum := "cbd4f357e9dc3376d2e5976966291852a276f931f5fb6b7ab51ef7896dfe771b", func := "spinneret/spinneretlaw03.SyntaxFirst", spec := "syntaxFirst", unfollowed := true, recurses := true, named := ["strings.asciiSpace", "unicode.White_Space", "spinneret/syntax.types", "spinneret/syntax.shows", "spinneret/syntax.levels"], apart := false, laid := [("unicode.White_Space", laid_unicode_White_Space), ("strings.asciiSpace", laid_strings_asciiSpace), ("spinneret/syntax.levels", laid_spinneret_syntax_levels), ("spinneret/syntax.types", laid_spinneret_syntax_types), ("spinneret/syntax.shows", laid_spinneret_syntax_shows)], narrowed := true }
def SyntaxFirstUptoSaid : Prop := syntaxFirstUptoRow.holds Tryz.pinned (OpenSpec.upto syntaxFirstSpec)

/-- 'spinneretlaw03.SyntaxLoose', WHERE WHAT IT READS IS OF BULK AT MOST 1048576: true; the input reads as it did. -/
def syntaxLooseUptoRow : OpenClaim := { program := "ythkebhjaaikopaagreatdoor", sum := "cbd4f357e9dc3376d2e5976966291852a276f931f5fb6b7ab51ef7896dfe771b", func := "spinneret/spinneretlaw03.SyntaxLoose", spec := "syntaxLoose", inPlace := ["internal/bytealg.IndexByteString", "internal/bytealg.IndexString"], unfollowed := true, recurses := true, named := ["strings.asciiSpace", "unicode.White_Space", "internal/bytealg.MaxLen", "spinneret/syntax.types", "spinneret/syntax.shows", "spinneret/syntax.levels"], apart := false, laid := [("unicode.White_Space", laid_unicode_White_Space), ("strings.asciiSpace", laid_strings_asciiSpace), ("spinneret/syntax.levels", laid_spinneret_syntax_levels), ("spinneret/syntax.types", laid_spinneret_syntax_types), ("spinneret/syntax.shows", laid_spinneret_syntax_shows)], narrowed := true }
def SyntaxLooseUptoSaid : Prop := syntaxLooseUptoRow.holds Tryz.pinned (OpenSpec.upto syntaxLooseSpec)

/-- 'spinneretlaw03.SyntaxMade', WHERE WHAT IT READS IS OF BULK AT MOST 1048576: true; the input reads as it did. -/
def syntaxMadeUptoRow : OpenClaim := { program := "ythkebhjaaikopaagreatdoor", sum := "cbd4f357e9dc3376d2e5976966291852a276f931f5fb6b7ab51ef7896dfe771b", func := "spinneret/spinneretlaw03.SyntaxMade", spec := "syntaxMade", inPlace := ["internal/bytealg.IndexByteString", "internal/bytealg.IndexString"], unfollowed := true, recurses := true, named := ["strings.asciiSpace", "unicode.White_Space", "internal/bytealg.MaxLen", "spinneret/syntax.types", "spinneret/syntax.shows", "spinneret/syntax.levels"], apart := false, laid := [("unicode.White_Space", laid_unicode_White_Space), ("strings.asciiSpace", laid_strings_asciiSpace), ("spinneret/syntax.levels", laid_spinneret_syntax_levels), ("spinneret/syntax.types", laid_spinneret_syntax_types), ("spinneret/syntax.shows", laid_spinneret_syntax_shows)], narrowed := true }
def SyntaxMadeUptoSaid : Prop := syntaxMadeUptoRow.holds Tryz.pinned (OpenSpec.upto syntaxMadeSpec)

end Rows
end Go.Proofs.YthkebhjaaikopaaGreatDoor

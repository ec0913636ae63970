/-
  No cell of these rows narrows 'for every input' (looked for: loops, veiled, ifaces, maps, wideKeys, modest, calm, conditions, laid).
  DERIVED. THE GIVEN ROWS OF THIS SEAT. 3 by the template 'for every input the law returns true; each argument reads behind the call as it read before'; 0 by the template 'total and deterministic' (their statements: YtaliplbbmhfenaaTotals.lean).
  GIVEN WITH THE SEED: the statements are not yours to turn. If you find one false, say at which input.
  Laid BY PROGRAM, IN A SANDBOX (cutbox-rows.mjs): the forced cells as the released guide's own fill.sh prints them over the translation f8afedb002b44da1… (all of the seat's roots in one cut). By AI agents, Wed Nov 11 2026. No macro, syntax, notation, axiom, sorry.
-/
import Derived.Test.YtaliplbbmhfenaaChecked
import GoSem.Claim
import GoSem.ClaimJoined
import GoSem.ClaimMapViews
import Derived.JoinedTies
import Derived.KernelRfl
namespace Go.Proofs.Ytaliplbbmhfenaa
/- THE CELL 'sum', in the pinned program and in every row, IS THE sha256 OF THE DUMP (.gsa) THAT YtaliplbbmhfenaaProg.lean LOADS. Nothing in Lean hashes anything: it is a label: what it is worth is what the hold of that sum in a sandbox is worth. -/
noncomputable def Try.pinned : Pinned := { name := "ytaliplbbmhfenaa", sum := "f8afedb002b44da1fb7c2b8f717b75ada87c686c03ae9b8c46a83e8fd9de85a4", checked := Try.checked }
namespace Rows
def none {H : Type} : Left H := { results := [], args := [] }

/-- 'spinneretlaw02.PrepOnce': WHATEVER THE INPUT: true; the input reads as it did. -/
def prepOnceSpec : ChangeSpec := { name := "prepOnce", fn := fun _ => fun
  | [d1, d2] => { results := [.lit (.bool true)], args := [d1, d2] }
  | _ => none }
def prepOnceRow : OpenClaim := { program := "ytaliplbbmhfenaa", sum := "f8afedb002b44da1fb7c2b8f717b75ada87c686c03ae9b8c46a83e8fd9de85a4", func := "spinneret/spinneretlaw02.PrepOnce", spec := "prepOnce", unfollowed := true, recurses := true, apart := false }
def PrepOnceSaid : Prop := prepOnceRow.holds Try.pinned (OpenSpec.ofChange prepOnceSpec)

/-- ITS FALSE NEIGHBOUR: 'it returns false'. Refute it at one input. -/
def prepOnceWrong : ChangeSpec := { name := "prepOnce", fn := fun _ => fun
  | [d1, d2] => { results := [.lit (.bool false)], args := [d1, d2] }
  | _ => none }
def PrepOnceWrongFalsely : Prop := prepOnceRow.holds Try.pinned (OpenSpec.ofChange prepOnceWrong)

/-- 'spinneretlaw02.PrepSkips': WHATEVER THE INPUT: true; the input reads as it did. -/
def prepSkipsSpec : ChangeSpec := { name := "prepSkips", fn := fun _ => fun
  | [d1, d2] => { results := [.lit (.bool true)], args := [d1, d2] }
  | _ => none }
def prepSkipsRow : OpenClaim := { program := "ytaliplbbmhfenaa", sum := "f8afedb002b44da1fb7c2b8f717b75ada87c686c03ae9b8c46a83e8fd9de85a4", func := "spinneret/spinneretlaw02.PrepSkips", spec := "prepSkips", unfollowed := true, recurses := true, apart := false }
def PrepSkipsSaid : Prop := prepSkipsRow.holds Try.pinned (OpenSpec.ofChange prepSkipsSpec)

/-- ITS FALSE NEIGHBOUR: 'it returns false'. Refute it at one input. -/
def prepSkipsWrong : ChangeSpec := { name := "prepSkips", fn := fun _ => fun
  | [d1, d2] => { results := [.lit (.bool false)], args := [d1, d2] }
  | _ => none }
def PrepSkipsWrongFalsely : Prop := prepSkipsRow.holds Try.pinned (OpenSpec.ofChange prepSkipsWrong)

/-- 'spinneretlaw02.PrepPlain': WHATEVER THE INPUT: true; the input reads as it did. -/
def prepPlainSpec : ChangeSpec := { name := "prepPlain", fn := fun _ => fun
  | [d] => { results := [.lit (.bool true)], args := [d] }
  | _ => none }
def prepPlainRow : OpenClaim := { program := "ytaliplbbmhfenaa", sum := "f8afedb002b44da1fb7c2b8f717b75ada87c686c03ae9b8c46a83e8fd9de85a4", func := "spinneret/spinneretlaw02.PrepPlain", spec := "prepPlain", unfollowed := true, recurses := true, apart := false }
def PrepPlainSaid : Prop := prepPlainRow.holds Try.pinned (OpenSpec.ofChange prepPlainSpec)

/-- ITS FALSE NEIGHBOUR: 'it returns false'. Refute it at one input. -/
def prepPlainWrong : ChangeSpec := { name := "prepPlain", fn := fun _ => fun
  | [d] => { results := [.lit (.bool false)], args := [d] }
  | _ => none }
def PrepPlainWrongFalsely : Prop := prepPlainRow.holds Try.pinned (OpenSpec.ofChange prepPlainWrong)

/- THE SECOND FORM. 'bulk': how many values and letters a reading holds, each counted each time it is reached (what is shared counts as often as it is met; a slice's spare places count too). A statement '..UptoSaid' is the law's where the arguments, and the package variables that the reading takes, are together of bulk at most 1048576: NARROWER than '..Said'. Prove '..Said' where nothing that the law and all that it calls make is longer than what came in: it says more and counts as full. Else prove '..UptoSaid'. A law counts once. -/
mutual
def uptoBulk {H : Type} : DataW H → Nat
  | .lit (.string bytes) => bytes.length + 1
  | .lit _ => 1
  | .nil => 1
  | .ptr d => uptoBulk d + 1
  | .slice elems spare => uptoBulkAll elems + uptoBulkAll spare + 1
  | .agg parts => uptoBulkAll parts + 1
  | .iface _ d => uptoBulk d + 1
  | .map entries => uptoBulkEntries entries + 1
  | .held _ => 1
def uptoBulkAll {H : Type} : List (DataW H) → Nat
  | [] => 0
  | d :: r => uptoBulk d + uptoBulkAll r
def uptoBulkEntries {H : Type} : List (Lit × DataW H) → Nat
  | [] => 0
  | x :: r => uptoBulkEntry x + uptoBulkEntries r
def uptoBulkEntry {H : Type} : Lit × DataW H → Nat
  | (.string bytes, d) => bytes.length + uptoBulk d + 1
  | (_, d) => uptoBulk d + 1
 end
def uptoSmall : (H : Type) → List (DataW H) → Bool := fun _ ds => decide (uptoBulkAll ds ≤ 1048576)
def OpenSpec.upto (s : _root_.Go.ChangeSpec) : _root_.Go.OpenSpec := { _root_.Go.OpenSpec.ofChange s with cond := some uptoSmall }

/-- 'spinneretlaw02.PrepOnce', WHERE WHAT IT READS IS OF BULK AT MOST 1048576: true; the input reads as it did. -/
def prepOnceUptoRow : OpenClaim := { program := "ytaliplbbmhfenaa", sum := "f8afedb002b44da1fb7c2b8f717b75ada87c686c03ae9b8c46a83e8fd9de85a4", func := "spinneret/spinneretlaw02.PrepOnce", spec := "prepOnce", unfollowed := true, recurses := true, apart := false, narrowed := true }
def PrepOnceUptoSaid : Prop := prepOnceUptoRow.holds Try.pinned (OpenSpec.upto prepOnceSpec)

/-- 'spinneretlaw02.PrepSkips', WHERE WHAT IT READS IS OF BULK AT MOST 1048576: true; the input reads as it did. -/
def prepSkipsUptoRow : OpenClaim := { program := "ytaliplbbmhfenaa", sum := "f8afedb002b44da1fb7c2b8f717b75ada87c686c03ae9b8c46a83e8fd9de85a4", func := "spinneret/spinneretlaw02.PrepSkips", spec := "prepSkips", unfollowed := true, recurses := true, apart := false, narrowed := true }
def PrepSkipsUptoSaid : Prop := prepSkipsUptoRow.holds Try.pinned (OpenSpec.upto prepSkipsSpec)

/-- 'spinneretlaw02.PrepPlain', WHERE WHAT IT READS IS OF BULK AT MOST 1048576: true; the input reads as it did. -/
def prepPlainUptoRow : OpenClaim := { program := "ytaliplbbmhfenaa", sum := "f8afedb002b44da1fb7c2b8f717b75ada87c686c03ae9b8c46a83e8fd9de85a4", func := "spinneret/spinneretlaw02.PrepPlain", spec := "prepPlain", unfollowed := true, recurses := true, apart := false, narrowed := true }
def PrepPlainUptoSaid : Prop := prepPlainUptoRow.holds Try.pinned (OpenSpec.upto prepPlainSpec)

end Rows
end Go.Proofs.Ytaliplbbmhfenaa

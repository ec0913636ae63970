/- Part of the proof of CompileForCardSaid. -/
import Derived.Test.YthhgndcpeeifeaaGreatDoorE20
import Derived.WalkKit
import Derived.ScopeJumps
set_option linter.unusedVariables false
set_option linter.unusedSimpArgs false
set_option linter.unusedSectionVars false
set_option linter.constructorNameAsVariable false
namespace Go.Proofs.Lx6
open Go.ChangeShapes Go.WideShapes Go.ChangeAt Go.RowKit
def RTPost (R : Int × Int) (w : World) : Ending → World → Prop := fun e w' => (∃ v, e = .returned (.tuple #[v, .int .i64 R.1, .int .i64 R.2])) ∧ Below w.heap.size w w'
def RTRel (l : List UInt8) (R : Int × Int) (w : World) (v i j : Value) (wr : World) : Prop :=
  ∃ (c ln a f : Nat) (xs : List Value), a ≤ l.length ∧ c ≤ 8191 ∧ ln ≤ a + 1 ∧ l.length < a + f ∧ i = .int .i64 ln ∧ j = .int .i64 a ∧ wr.ownsRow w.heap.size 164 5 v c xs ∧ R = toksE l f a c ∧ Below w.heap.size w wr ∧ w.heap.size ≤ wr.heap.size
theorem alloc_cells {w : World} {b : Nat} (hb : w.heap.size = b) (arr : Array Value) (e : TypeId) : ∀ (j : Nat) (u : Value), arr.toList[j]? = some u → (w.alloc (.cells arr e)).cell? ((⟨b, 0, none⟩ : Addr).add j) = some u := by
  intro j u h
  subst hb
  have ha : (⟨w.heap.size, 0, none⟩ : Addr).add j = ⟨w.heap.size, j, none⟩ := by
    simp [Addr.add]
    intro h; omega
  rw [ha, World.cell?_alloc_new]
  simpa using h
theorem tok_one {k a b n : Int} {t : ByteArray} : ∀ u ∈ [Value.int .i64 k, .int .i64 a, .int .i64 b, .string t, .int .i64 n], u.oneCell' = true := by
  intro u hu
  simp at hu
  rcases hu with rfl | rfl | rfl | rfl | rfl <;> rfl
end Go.Proofs.Lx6
namespace Go.Proofs.Lx6
open Go.ChangeShapes Go.WideShapes Go.ChangeAt Go.RowKit
theorem begF_drop (l : List UInt8) (a j : Nat) (t : List UInt8) : begF (l.drop a) j t = begF l (j + a) t := by
  unfold begF
  rw [List.drop_drop, Nat.add_comm]
theorem blankF_drop (c : Int) (l : List UInt8) (a : Nat) : blankF c (l.drop a) 0 = blankF c l a := by
  unfold blankF
  have e1 : srch (fun j => begF (l.drop a) j [42, 47]) (0 + 2) ((l.drop a).length - (0 + 2)) = srch (fun j => begF l (j + a) [42, 47]) 2 (l.length - (a + 2)) := by
    rw [srch_congr (fun j => begF_drop l a j [42, 47]), List.length_drop]
    congr 1
  have e2 : srch (fun j => begF l j [42, 47]) (a + 2) (l.length - (a + 2)) = (srch (fun j => begF l (j + a) [42, 47]) 2 (l.length - (a + 2))).map (· + a) := by
    rw [Nat.add_comm a 2]
    exact srch_shift _ a _ 2
  have e3 : srch (isNl (l.drop a)) 0 ((l.drop a).length - 0) = srch (fun j => isNl l (j + a)) 0 (l.length - a) := by
    rw [srch_congr (q := fun j => isNl l (j + a)) (fun j => by simp [isNl, List.getD_eq_getElem?_getD, Nat.add_comm]), List.length_drop]
    rfl
  have e4 : srch (isNl l) a (l.length - a) = (srch (fun j => isNl l (j + a)) 0 (l.length - a)).map (· + a) := by
    have := srch_shift (isNl l) a (l.length - a) 0
    rwa [Nat.zero_add] at this
  rw [e1, e2, e3, e4, begF_drop, begF_drop, begF_drop, Nat.zero_add, Option.map_map]
  congr 5
  · funext j; simp only [Function.comp]; congr 1; omega
  · rw [List.length_drop]
    cases srch (fun j => isNl l (j + a)) 0 (l.length - a) with
    | none => simp
    | some j => simp
set_option maxHeartbeats 1000000 in
theorem clone_any (s : ByteArray) (w : World) (hlim : s.size ≤ 281474976710656) :
    Calls Tryz.prog 58 #[.string s] w fun e w' => e = .returned (.string s) ∧ Below w.heap.size w w' := by
  go_enter Tryz.func58, Tryz.ntmps58
  go_wp2_with fail
  refine (Tryz.stringslite_Clone s w hlim).mono ?_
  rintro e w1 ⟨rfl, hB⟩
  go_wp2
  refine bodyPost_ret (v := .string s) (by simp [results, Tryz.results58, go_sem]) rfl ⟨rfl, hB⟩
theorem fields_marks : Lib.fields [33,33,32,63,63,32,45,62,32,58,58,32,43,43,32,45,45,32,60,60,32,62,62,32,60,61,32,62,61,32,61,61,32,33,61,32,38,38,32,124,124,32,46,46,32,33,32,63,32,60,32,62,32,61,32,43,32,45,32,42,32,47,32,37,32,38,32,124,32,94,32,126,32,40,32,41,32,91,32,93,32,123,32,125,32,44,32,59,32,58,32,46,32,64,32,35] = marksL := by decide +kernel
/-- Tokens stand one behind the other, blanks between, up to a place. -/
inductive Path (l : List UInt8) : List (Nat × Nat) → Nat → Nat → Prop
  | nil : Path l [] 0 1
  | blank {pts p ln n k} : Path l pts p ln → p < l.length → blankF (bt l p) l p = some (n + 1, k) → Path l pts (p + (n + 1)) (ln + k)
  | tok {pts p ln k} : Path l pts p ln → p < l.length → blankF (bt l p) l p = some (0, k) → (nextF l p).e = 0 → Path l (pts ++ [(p, ln)]) (p + (nextF l p).len) ln
def tokC (l : List UInt8) (p : Nat × Nat) : List Value := [.int .i64 (nextF l p.1).kind, .int .i64 p.1, .int .i64 p.2, .string ⟨(nextF l p.1).text.toArray⟩, .int .i64 (nextF l p.1).n]
/-- What lex's Tokens comes to: what is wrong, and where, and no tokens; or the tokens. -/
def TksPost (l : List UInt8) (R : Int × Int) (w : World) : Ending → World → Prop := fun e w' =>
  ((R.1 ≠ 0 ∧ e = .returned (.tuple #[.slice none 0 0, .int .i64 R.1, .int .i64 R.2])) ∨
   (R = (0, 0) ∧ ∃ (v : Value) (pts : List (Nat × Nat)) (ln : Nat), e = .returned (.tuple #[v, .int .i64 0, .int .i64 0]) ∧ Path l pts l.length ln ∧
      w'.ownsRow w.heap.size 164 5 v (pts.length + 1) (pts.flatMap (tokC l) ++ [.int .i64 0, .int .i64 l.length, .int .i64 ln, .string ⟨#[]⟩, .int .i64 0]))) ∧ Below w.heap.size w w'
theorem wp_scope_head {P : Program} {a : Act} {w : World} {Q : Exit → Act → World → Prop} {A B C D rest : Code} (l : Nat) (J : Act → World → Prop) (μ : Act → World → Nat)
    (hf : findLabel (A.seq (B.seq (C.seq (D.seq ((Code.label l).seq rest))))) l = some (Code.skip.seq rest))
    (first : ∀ R : Code, (∀ a w, J a w → R.wp P (Exit.jump l J Q) a w) → (A.seq (B.seq (C.seq (D.seq ((Code.label l).seq R))))).wp P (Exit.jump l J Q) a w)
    (pass : ∀ a w, J a w → rest.wp P (Exit.jump l (fun a' w' => J a' w' ∧ μ a' w' < μ a w) Q) a w) :
    (Code.scope (A.seq (B.seq (C.seq (D.seq ((Code.label l).seq rest)))))).wp P Q a w := by
  refine wp_scope_jumps l J μ hf (first rest fun a w hJ => wp_mono (pass a w hJ) ?_) (fun a w hJ => wp_seq (wp_skip (pass a w hJ)))
  intro e a' w' h
  cases e with
  | goto l' => exact ⟨h.1, h.2.1⟩
  | normal => exact h
  | exit i => exact h
  | ret => exact h
  | panic c => exact h
  | outgrown => exact h
end Go.Proofs.Lx6

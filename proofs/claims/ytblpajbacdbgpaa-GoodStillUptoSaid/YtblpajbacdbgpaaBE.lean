/-
  What tables of good comes to: plain definitions and lemmas. No condition.
-/
import Derived.Test.YtblpajbacdbgpaaBA
namespace Go.Proofs.Ytblpajbacdbgpaa
open Go.ChangeShapes Go.WideShapes Go.ChangeAt Go.RowKit Go.Deep Go.Joins
/-- The marks behind a list; none: one is marked twice. -/
def hadF (had : List Bool) : List Int → Option (List Bool)
  | [] => some had
  | p :: r => if had.getD p.toNat false = true then none else hadF (had.set p.toNat true) r
def exF (M : MoD) : Nat → Nat → List Bool → Int × Int
  | 0, _, _ => (0, 0)
  | n + 1, i, had => if expressionF M i (M.exprs.getD i default) = true then (match hadF had (heldF (M.exprs.getD i default)) with | some had' => exF M n (i + 1) had' | none => (3, (i : Int))) else (3, (i : Int))
def shB (M : MoD) (i : Nat) : Bool := !shapeF (M.shapes.getD i default)
def chB (M : MoD) (i : Nat) : Bool := !inB M.shapes.length (M.chans.getD i default)
def tablesF (M : MoD) : Int × Int :=
  if 128 < M.globals.length ∨ M.init.length ≠ M.globals.length then (1, -1)
  else if 0 ≤ typesF M.globals M.init then (1, typesF M.globals M.init)
  else if 32 < M.shapes.length ∨ 32 < M.chans.length then (2, -1)
  else match srch (shB M) 0 M.shapes.length with
    | some i => (2, (i : Int))
    | none => match srch (chB M) 0 M.chans.length with
      | some i => (2, (i : Int))
      | none => if M.procs.length < 1 ∨ 16 < M.procs.length ∨ M.claim < -1 ∨ (M.procs.length : Int) ≤ M.claim ∨ 4096 < M.exprs.length then (3, -1)
        else exF M M.exprs.length 0 (List.replicate M.exprs.length false)
theorem hadF_len : ∀ (l : List Int) (had had' : List Bool), hadF had l = some had' → had'.length = had.length
  | [], _, _, h => by simp [hadF] at h; rw [h]
  | p :: r, had, had', h => by
    unfold hadF at h
    split at h
    · simp at h
    · rw [hadF_len r _ _ h, List.length_set]
theorem exF_good (M : MoD) : ∀ (n i : Nat) (had : List Bool), exF M n i had = (0, 0) → ∀ j, i ≤ j → j < i + n → expressionF M j (M.exprs.getD j default) = true
  | 0, i, _, _, j, h1, h2 => by omega
  | n + 1, i, had, h, j, h1, h2 => by
    unfold exF at h
    split at h
    · rename_i hx
      split at h
      · rename_i had' hh
        by_cases e : j = i
        · rw [e]; exact hx
        · exact exF_good M n (i + 1) had' h j (by omega) (by omega)
      · simp at h
    · simp at h
theorem exF_cases (M : MoD) : ∀ (n i : Nat) (had : List Bool), exF M n i had = (0, 0) ∨ (exF M n i had).1 = 3
  | 0, _, _ => .inl rfl
  | n + 1, i, had => by
    unfold exF
    split
    · split
      · exact exF_cases M n (i + 1) _
      · exact .inr rfl
    · exact .inr rfl
theorem tables_cases (M : MoD) : (tablesF M = (0, 0) ∧ GoodX M ∧ (-1 ≤ M.claim ∧ M.procs.length ≤ 16)) ∨ 0 < (tablesF M).1 := by
  unfold tablesF
  split
  · exact .inr (by show (0 : Int) < 1; omega)
  · split
    · exact .inr (by show (0 : Int) < 1; omega)
    · split
      · exact .inr (by show (0 : Int) < 2; omega)
      · split
        · exact .inr (by show (0 : Int) < 2; omega)
        · split
          · exact .inr (by show (0 : Int) < 2; omega)
          · split
            · exact .inr (by show (0 : Int) < 3; omega)
            · rcases exF_cases M M.exprs.length 0 (List.replicate M.exprs.length false) with h | h
              · exact .inl ⟨h, fun j hj => exF_good M _ _ _ h j (Nat.zero_le _) (by omega), by omega⟩
              · exact .inr (by rw [h]; omega)
end Go.Proofs.Ytblpajbacdbgpaa

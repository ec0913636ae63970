/-
  What Tokens tells of a source, and what a good token is like: plain lemmas, no program.
-/
import Derived.Test.YtmnkbjjffgcdmaaDoorL
namespace Go.Proofs.YtmnkbjjffgcdmaaDoor
open Go.ChangeShapes Go.WideShapes Go.ChangeAt Go.RowKit
/-- What is wrong with a source from a place on, and where (0, 0: nothing), after c tokens. -/
def toksE (l : List UInt8) : Nat → Nat → Nat → Int × Int
  | 0, _, _ => (0, 0)
  | f + 1, a, c =>
    if l.length ≤ a then (0, 0) else
    match blankF (bt l a) l a with
    | none => (3, a)
    | some (n + 1, _) => toksE l f (a + (n + 1)) c
    | some (0, _) => if (nextF l a).e = 0 then (if c = 8191 then (8, a) else toksE l f (a + (nextF l a).len) (c + 1)) else ((nextF l a).e, a)
/-- What Tokens tells of a source. -/
def toksR (l : List UInt8) : Int × Int := if 65535 < l.length then (1, 65535) else toksE l (l.length + 1) 0 0
theorem letF_digF_pos {l : List UInt8} {a : Nat} {p : Nat → Bool} (h : a < l.length) (hp : p a = true) : a + 1 ≤ runEnd p l a ∧ runEnd p l a ≤ l.length := by
  have h2 := (runEnd_bd p l a (by omega)).2
  refine ⟨?_, h2⟩
  unfold runEnd
  rw [srch_miss h (by rw [hp]; rfl)]
  exact srch_ge (by omega)
theorem marks_pos : ∀ j, j < 41 → 1 ≤ (marksL.getD j []).length := by
  have h : ∀ j : Fin 41, 1 ≤ (marksL.getD j.val []).length := by decide +kernel
  exact fun j hj => h ⟨j, hj⟩
theorem begF_len {l : List UInt8} {a : Nat} {t : List UInt8} (h : begF l a t = true) (ha : a ≤ l.length) : a + t.length ≤ l.length ∧ sub l a t.length = t := by
  unfold begF at h
  rw [pre_take] at h
  have h1 := eq_of_beq h
  have h2 := congrArg List.length h1
  simp at h2
  exact ⟨by omega, h1⟩
theorem sub_len {l : List UInt8} {a n : Nat} (h : a + n ≤ l.length) : (sub l a n).length = n := by
  unfold sub; simp; omega
/-- What a good token is like. -/
theorem nextF_good {l : List UInt8} {a : Nat} (ha : a < l.length) (h : (nextF l a).e = 0) :
    1 ≤ (nextF l a).len ∧ a + (nextF l a).len ≤ l.length ∧
      (((nextF l a).kind = 1 ∨ (nextF l a).kind = 2 ∨ (nextF l a).kind = 4) ∧ (nextF l a).text = sub l a (nextF l a).len ∧ (nextF l a).text.length = (nextF l a).len ∨
       (nextF l a).kind = 3 ∧ (nextF l a).text = sub l (a + 1) ((nextF l a).len - 2) ∧ (nextF l a).text.length + 2 = (nextF l a).len ∧ 2 ≤ (nextF l a).len) := by
  unfold nextF at h ⊢
  split at h
  · rename_i h1
    obtain ⟨q1, q2⟩ := letF_digF_pos (p := isW l) ha (by unfold isW; rw [h1]; rfl)
    rw [if_pos h1]
    split at h
    · exact absurd h (by decide)
    · rename_i h2
      rw [if_neg h2]
      exact ⟨by show 1 ≤ _ - a; omega, by show a + (_ - a) ≤ _; omega, .inl ⟨.inl rfl, rfl, sub_len (by omega)⟩⟩
  · rename_i h1
    rw [if_neg h1]
    split at h
    · rename_i h2
      obtain ⟨q1, q2⟩ := letF_digF_pos (p := isD l) ha (by unfold isD; exact h2)
      rw [if_pos h2]
      split at h
      · exact absurd h (by decide)
      · rename_i h3
        rw [if_neg h3]
        exact ⟨by show 1 ≤ _ - a; omega, by show a + (_ - a) ≤ _; omega, .inl ⟨.inr (.inl rfl), rfl, sub_len (by omega)⟩⟩
    · rename_i h2
      rw [if_neg h2]
      split at h
      · rename_i h3
        rw [if_pos h3]
        cases hT : txtF l a with
        | none => rw [hT] at h; exact absurd (show (3 : Int) = 0 from h) (by decide)
        | some e =>
          rw [hT] at h
          have hb := txtF_bd hT
          simp only at h ⊢
          split at h
          · exact absurd h (by decide)
          · rename_i h4
            rw [if_neg h4]
            refine ⟨by show 1 ≤ e - a; omega, by show a + (e - a) ≤ _; omega, .inr ⟨rfl, rfl, ?_, by show 2 ≤ e - a; omega⟩⟩
            show (sub l (a + 1) (e - a - 2)).length + 2 = e - a
            rw [sub_len (by omega)]; omega
      · rename_i h3
        rw [if_neg h3]
        split at h
        · rename_i h4
          rw [if_pos h4]
          cases hC : charF l a with
          | none => rw [hC] at h; exact absurd (show (3 : Int) = 0 from h) (by decide)
          | some p =>
            obtain ⟨v, n⟩ := p
            have hb := charF_bd hC
            exact ⟨by show 1 ≤ n; omega, by show a + n ≤ _; omega, .inl ⟨.inr (.inl rfl), rfl, sub_len (by omega)⟩⟩
        · rename_i h4
          rw [if_neg h4]
          cases hM : markJ l a with
          | none => rw [hM] at h; exact absurd h (by decide)
          | some j =>
            have hj := srch_bd hM
            have hb := begF_len hj.2.2 (Nat.le_of_lt ha)
            exact ⟨marks_pos j (by omega), hb.1, .inl ⟨.inr (.inr rfl), hb.2.symm, rfl⟩⟩
end Go.Proofs.YtmnkbjjffgcdmaaDoor

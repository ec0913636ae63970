/-
  LexPlaces: the tokens of a path by their number: where each lies, what lies between. Plain lemmas; no condition.
-/
import Derived.Test.YtmnkbjjffgcdmaaDoorP
import Derived.Lib.SmallJoins
namespace Go.Proofs.YtmnkbjjffgcdmaaDoor
open Go.ChangeShapes Go.WideShapes Go.ChangeAt Go.RowKit
/-- Blanks from a place to a place. -/
inductive Gap (l : List UInt8) : Nat → Nat → Prop
  | nil (p : Nat) : Gap l p p
  | step {p q n k : Nat} : p < l.length → blankF (bt l p) l p = some (n + 1, k) → Gap l (p + (n + 1)) q → Gap l p q
theorem Gap.snoc {l : List UInt8} {p q n k : Nat} (h : Gap l p q) (hq : q < l.length) (hb : blankF (bt l q) l q = some (n + 1, k)) : Gap l p (q + (n + 1)) := by
  induction h with
  | nil p => exact .step hq hb (.nil _)
  | step h1 h2 _ ih => exact .step h1 h2 (ih hq hb)
theorem Gap.le {l : List UInt8} {p q : Nat} (h : Gap l p q) : p ≤ q := by
  induction h with
  | nil p => exact Nat.le_refl _
  | step _ _ _ ih => omega
theorem Gap.next {l : List UInt8} {p q : Nat} (h : Gap l p q) (hlt : p < q) : ∃ n k, p < l.length ∧ blankF (bt l p) l p = some (n + 1, k) ∧ Gap l (p + (n + 1)) q := by
  cases h with
  | nil => omega
  | step h1 h2 h3 => exact ⟨_, _, h1, h2, h3⟩
/-- Where the i-th token's predecessor ends. -/
def endOf (l : List UInt8) (pts : List (Nat × Nat)) : Nat → Nat
  | 0 => 0
  | i + 1 => (pts.getD i (0, 0)).1 + (nextF l (pts.getD i (0, 0)).1).len
theorem endOf_app {l : List UInt8} {pts : List (Nat × Nat)} {x : Nat × Nat} : ∀ {i : Nat}, i ≤ pts.length → endOf l (pts ++ [x]) i = endOf l pts i
  | 0, _ => rfl
  | i + 1, h => by
    have : (pts ++ [x]).getD i (0, 0) = pts.getD i (0, 0) := by
      rw [List.getD_eq_getElem?_getD, List.getD_eq_getElem?_getD, List.getElem?_append_left (by omega)]
    show ((pts ++ [x]).getD i (0, 0)).1 + (nextF l ((pts ++ [x]).getD i (0, 0)).1).len = (pts.getD i (0, 0)).1 + (nextF l (pts.getD i (0, 0)).1).len
    rw [this]
/-- A path, token by token. -/
theorem Path.at {l : List UInt8} {pts : List (Nat × Nat)} {p : Nat} (h : Path l pts p) : (∀ i, i < pts.length → Gap l (endOf l pts i) (pts.getD i (0, 0)).1 ∧ (pts.getD i (0, 0)).1 < l.length ∧ (nextF l (pts.getD i (0, 0)).1).e = 0) ∧ Gap l (endOf l pts pts.length) p := by
  induction h with
  | nil => exact ⟨fun i hi => by simp at hi, .nil _⟩
  | blank _ h2 h3 ih => exact ⟨ih.1, ih.2.snoc h2 h3⟩
  | @tok pts p k ln _ h2 h3 h4 ih =>
    have hlast : (pts ++ [(p, ln)]).getD pts.length (0, 0) = (p, ln) := by
      rw [List.getD_eq_getElem?_getD, List.getElem?_append_right (Nat.le_refl _)]; simp
    constructor
    · intro i hi
      rw [List.length_append, List.length_singleton] at hi
      by_cases hc : i < pts.length
      · have := ih.1 i hc
        rw [endOf_app (Nat.le_of_lt hc)]
        have e : (pts ++ [(p, ln)]).getD i (0, 0) = pts.getD i (0, 0) := by
          rw [List.getD_eq_getElem?_getD, List.getD_eq_getElem?_getD, List.getElem?_append_left hc]
        rw [e]
        exact this
      · obtain rfl : i = pts.length := by omega
        rw [endOf_app (Nat.le_refl _), hlast]
        exact ⟨ih.2, h2, h4⟩
    · rw [List.length_append, List.length_singleton]
      show Gap l (((pts ++ [(p, ln)]).getD pts.length (0, 0)).1 + (nextF l ((pts ++ [(p, ln)]).getD pts.length (0, 0)).1).len) _
      rw [hlast]
      exact .nil _
theorem flat_cell (f : Nat × Nat → List Value) (hf : ∀ x, (f x).length = 5) : ∀ (pts : List (Nat × Nat)) (tl : List Value) (i j : Nat), i < pts.length → j < 5 → (pts.flatMap f ++ tl)[5 * i + j]? = (f (pts.getD i (0, 0)))[j]?
  | [], _, i, _, h, _ => by simp at h
  | x :: pts, tl, 0, j, _, hj => by
    rw [List.flatMap_cons, List.append_assoc, List.getElem?_append_left (by rw [hf]; omega)]
    simp
  | x :: pts, tl, i + 1, j, h, hj => by
    rw [List.flatMap_cons, List.append_assoc, List.getElem?_append_right (by rw [hf]; omega), hf]
    have := flat_cell f hf pts tl i j (by simpa using h) hj
    rw [show 5 * (i + 1) + j - 5 = 5 * i + j by omega, this]
    rfl
theorem flat_last (f : Nat × Nat → List Value) (hf : ∀ x, (f x).length = 5) : ∀ (pts : List (Nat × Nat)) (tl : List Value) (j : Nat), (pts.flatMap f ++ tl)[5 * pts.length + j]? = tl[j]?
  | [], tl, j => by simp
  | x :: pts, tl, j => by
    rw [List.flatMap_cons, List.append_assoc, List.getElem?_append_right (by rw [hf, List.length_cons]; omega), hf, List.length_cons, show 5 * (pts.length + 1) + j - 5 = 5 * pts.length + j by omega]
    exact flat_last f hf pts tl j
/-- What the walk of LexPlaces wants of the i-th token. -/
def PlAt (s : ByteArray) (c : Nat) (E : Nat → Nat) (g : Nat) (W : World) (i : Nat) : Prop :=
  ∃ (K N ln : Int) (A : Nat) (T : ByteArray), W.cell? ⟨g, 5 * i + 0, none⟩ = some (.int .i64 K) ∧ W.cell? ⟨g, 5 * i + 1, none⟩ = some (.int .i64 A) ∧ W.cell? ⟨g, 5 * i + 2, none⟩ = some (.int .i64 ln) ∧ W.cell? ⟨g, 5 * i + 3, none⟩ = some (.string T) ∧ W.cell? ⟨g, 5 * i + 4, none⟩ = some (.int .i64 N) ∧
    E i ≤ A ∧ A ≤ s.size ∧ Gap s.data.toList (E i) A ∧ (K = 0 ↔ i = c) ∧
    ((¬ K = 3 ∧ A + T.size ≤ s.size ∧ s.extract A (A + T.size) = T ∧ E (i + 1) = A + T.size) ∨ (K = 3 ∧ A + T.size + 2 ≤ s.size ∧ s.extract (A + 1) (A + T.size + 1) = T ∧ E (i + 1) = A + T.size + 2))
theorem places_at {s : ByteArray} {pts : List (Nat × Nat)} {ln : Nat} {base : Nat} {v : Value} {w' : World} (hp : Path s.data.toList pts s.data.toList.length)
    (ho : w'.ownsRow base 27 5 v (pts.length + 1) (pts.flatMap (tokC s.data.toList) ++ [.int .i64 0, .int .i64 s.data.toList.length, .int .i64 ln, .string ⟨#[]⟩, .int .i64 0])) :
    ∃ (g cap : Nat) (E : Nat → Nat), v = .slice (some ⟨g, 0, none⟩) (pts.length + 1) cap ∧ ((pts.length : Int) + 1 ≤ 9223372036854775807) ∧ E 0 = 0 ∧ E (pts.length + 1) = s.size ∧ ∀ i, i ≤ pts.length → PlAt s pts.length E g w' i := by
  have hlen : s.data.toList.length = s.size := rfl
  have hf : ∀ x, (tokC s.data.toList x).length = 5 := fun _ => rfl
  obtain ⟨g, cap, rfl, hmax⟩ : ∃ g cap : Nat, v = .slice (some ⟨g, 0, none⟩) (pts.length + 1) cap ∧ (pts.length : Int) + 1 ≤ 9223372036854775807 := by
    rcases ho.2 with ⟨_, h⟩ | ⟨g, cap, cur, h, _, _, h2, h3, _⟩
    · omega
    · exact ⟨g, cap, h, by unfold maxLen at h3; omega⟩
  have hc := fun j hj => ho.cellAt j hj
  obtain ⟨hP, hE⟩ := hp.at
  refine ⟨g, cap, fun i => if i ≤ pts.length then endOf s.data.toList pts i else s.size, rfl, hmax, rfl, if_neg (by omega), fun i hi => ?_⟩
  by_cases hlt : i < pts.length
  · obtain ⟨h1, h2, h3⟩ := hP i hlt
    have hcell : ∀ j, j < 5 → w'.cell? ⟨g, 5 * i + j, none⟩ = ([.int .i64 (nextF s.data.toList (pts.getD i (0, 0)).1).kind, .int .i64 (pts.getD i (0, 0)).1, .int .i64 (pts.getD i (0, 0)).2, .string ⟨(nextF s.data.toList (pts.getD i (0, 0)).1).text.toArray⟩, .int .i64 (nextF s.data.toList (pts.getD i (0, 0)).1).n] : List Value)[j]? := fun j hj => by
      rw [hc _ (by omega), flat_cell _ hf _ _ _ _ hlt hj]
      rfl
    have hEi : (if i ≤ pts.length then endOf s.data.toList pts i else s.size) = endOf s.data.toList pts i := if_pos hi
    have hEn : (if i + 1 ≤ pts.length then endOf s.data.toList pts (i + 1) else s.size) = (pts.getD i (0, 0)).1 + (nextF s.data.toList (pts.getD i (0, 0)).1).len := if_pos (by omega)
    have hg := nextF_good h2 h3
    clear hP hE hc ho hp
    generalize (pts.getD i (0, 0)).1 = a at *
    generalize (pts.getD i (0, 0)).2 = l0 at *
    obtain ⟨g1, g2, g3⟩ := hg
    rw [hlen] at g2 h2
    generalize nextF s.data.toList a = r at *
    have hT : (⟨r.text.toArray⟩ : ByteArray).size = r.text.length := rfl
    refine ⟨r.kind, r.n, l0, a, ⟨r.text.toArray⟩, hcell 0 (by omega), hcell 1 (by omega), hcell 2 (by omega), hcell 3 (by omega), hcell 4 (by omega), by simp only [hEi]; exact h1.le, by omega, by simp only [hEi]; exact h1, ?_, ?_⟩
    · constructor
      · intro hk
        rcases g3 with ⟨hk2, _⟩ | ⟨hk2, _⟩ <;> omega
      · intro h; omega
    · simp only [hEn, hT]
      rcases g3 with ⟨hk, ht, hl⟩ | ⟨hk, ht, hl, h2l⟩
      · refine .inl ⟨by omega, by omega, ?_, by omega⟩
        rw [ext_ba, hl, show a + r.len - a = r.len by omega, ← ht]
      · refine .inr ⟨hk, by omega, ?_, by omega⟩
        rw [ext_ba, show a + r.text.length + 1 - (a + 1) = r.len - 2 by omega, ← ht]
  · obtain rfl : i = pts.length := by omega
    have hcell : ∀ j, w'.cell? ⟨g, 5 * pts.length + j, none⟩ = if 5 * pts.length + j < (pts.length + 1) * 5 then ([.int .i64 0, .int .i64 s.data.toList.length, .int .i64 ln, .string ⟨#[]⟩, .int .i64 0] : List Value)[j]? else w'.cell? ⟨g, 5 * pts.length + j, none⟩ := fun j => by
      split
      · rw [hc _ (by assumption), flat_last _ hf]
      · rfl
    have hcc : ∀ j, j < 5 → w'.cell? ⟨g, 5 * pts.length + j, none⟩ = ([.int .i64 0, .int .i64 s.data.toList.length, .int .i64 ln, .string ⟨#[]⟩, .int .i64 0] : List Value)[j]? := fun j hj => by
      rw [hcell j, if_pos (by omega)]
    refine ⟨0, 0, ln, s.size, ⟨#[]⟩, hcc 0 (by omega), hcc 1 (by omega), hcc 2 (by omega), hcc 3 (by omega), hcc 4 (by omega), ?_, Nat.le_refl _, ?_, ⟨fun _ => rfl, fun _ => rfl⟩, .inl ⟨by decide, Nat.le_refl _, ?_, ?_⟩⟩
    · simp only [Nat.le_refl, if_true]; exact hE.le
    · simp only [Nat.le_refl, if_true]; exact hE
    · rw [ext_ba]
      show (⟨(sub s.data.toList s.size (s.size + 0 - s.size)).toArray⟩ : ByteArray) = ⟨#[]⟩
      rw [Nat.add_zero, Nat.sub_self]
      rfl
    · simp only [show ¬ pts.length + 1 ≤ pts.length by omega, if_false]
      rfl
end Go.Proofs.YtmnkbjjffgcdmaaDoor

/- Part of the proof of CompileForCardSaid. -/
import Derived.Test.YthhgndcpeeifeaaGreatDoorE19
import Derived.Outline
import Derived.WalkKit
set_option linter.unusedVariables false
set_option linter.unusedSimpArgs false
set_option linter.unusedSectionVars false
set_option linter.constructorNameAsVariable false
namespace Go.Proofs.Lx6
open Go.ChangeShapes Go.WideShapes Go.ChangeAt Go.RowKit
/-- What the reference's Next returns: the error, and the length where there is none. -/
def NextPost (r : TR) (w : World) : Ending → World → Prop := fun e w' => (∃ (k p q n en : Int) (tx : ByteArray), e = .returned (.tuple #[.agg #[.int .i64 k, .int .i64 p, .int .i64 q, .string tx, .int .i64 n], .int .i64 en, .int .i64 r.e]) ∧ (r.e = 0 → en = r.len)) ∧ Below w.heap.size w w'
theorem NextPost.bad {c : Int} {w w' : World} (hc : c ≠ 0) (hB : Below w.heap.size w w') : NextPost (.bad c) w (.returned (.tuple #[tokV 0 0 0 [] 0, .int .i64 0, .int .i64 c])) w' :=
  ⟨⟨0, 0, 0, 0, 0, ⟨#[]⟩, rfl, fun h => absurd h hc⟩, hB⟩
theorem NextPost.good {r : TR} {k p q n : Int} {tx : ByteArray} {w w' : World} (h : r.e = 0) (hB : Below w.heap.size w w') : NextPost r w (.returned (.tuple #[.agg #[.int .i64 k, .int .i64 p, .int .i64 q, .string tx, .int .i64 n], .int .i64 r.len, .int .i64 0])) w' :=
  ⟨⟨k, p, q, n, r.len, tx, by rw [h], fun _ => rfl⟩, hB⟩
end Go.Proofs.Lx6
namespace Go.Proofs.Lx6
open Go.ChangeShapes Go.WideShapes Go.ChangeAt Go.RowKit
def capM (x : Int) : Int := if x < 1099511627776 then x else 1099511627776
end Go.Proofs.Lx6
namespace Go.Proofs.Lx6
open Go.ChangeShapes Go.WideShapes Go.ChangeAt Go.RowKit
def marksA : Array Value := (marksL.map fun m => Value.string ⟨m.toArray⟩).toArray
def MarksPost (w : World) : Ending → World → Prop := fun e w' => ∃ kb : Nat, e = .returned (.slice (some ⟨kb, 0, none⟩) 41 41) ∧ w.heap.size = kb ∧ kb < w'.heap.size ∧ (∀ i, i < 41 → w'.cell? ⟨kb, i, none⟩ = some (.string ⟨(marksL.getD i []).toArray⟩)) ∧ Below w.heap.size w w'
theorem marks_cell (w : World) (i : Nat) (h : i < 41) : (w.alloc (.cells marksA 9)).cell? ⟨w.heap.size, i, none⟩ = some (.string ⟨(marksL.getD i []).toArray⟩) := by
  have hl : marksL.length = 41 := by decide +kernel
  rw [World.cell?_alloc_new]
  unfold marksA
  simp [hl, h]
end Go.Proofs.Lx6
namespace Go.Proofs.Lx6
open Go.ChangeShapes Go.WideShapes Go.ChangeAt Go.RowKit
/-- What is wrong with a source from a place on, and where (0, 0: nothing), after c tokens. -/
def toksE (l : List UInt8) : Nat → Nat → Nat → Int × Int
  | 0, _, _ => (0, 0)
  | f + 1, a, c =>
    if l.length ≤ a then (0, 0) else
    match blankF (bt l a) l a with
    | none => (3, a)
    | some (n + 1, _) => toksE l f (a + (n + 1)) c
    | some (0, _) => if (nextF l a).e = 0 then (if c = 8191 then (8, a) else toksE l f (a + (nextF l a).len) (c + 1)) else ((nextF l a).e, a)
/-- What Tokens tells of a source. -/
def toksR (l : List UInt8) : Int × Int := if 65535 < l.length then (1, 65535) else toksE l (l.length + 1) 0 0
theorem letF_digF_pos {l : List UInt8} {a : Nat} {p : Nat → Bool} (h : a < l.length) (hp : p a = true) : a + 1 ≤ runEnd p l a ∧ runEnd p l a ≤ l.length := by
  have h2 := (runEnd_bd p l a (by omega)).2
  refine ⟨?_, h2⟩
  unfold runEnd
  rw [srch_miss h (by rw [hp]; rfl)]
  exact srch_ge (by omega)
theorem marks_pos : ∀ j, j < 41 → 1 ≤ (marksL.getD j []).length := by
  have h : ∀ j : Fin 41, 1 ≤ (marksL.getD j.val []).length := by decide +kernel
  exact fun j hj => h ⟨j, hj⟩
theorem begF_len {l : List UInt8} {a : Nat} {t : List UInt8} (h : begF l a t = true) (ha : a ≤ l.length) : a + t.length ≤ l.length ∧ sub l a t.length = t := by
  unfold begF at h
  rw [pre_take] at h
  have h1 := eq_of_beq h
  have h2 := congrArg List.length h1
  simp at h2
  exact ⟨by omega, h1⟩
theorem sub_len {l : List UInt8} {a n : Nat} (h : a + n ≤ l.length) : (sub l a n).length = n := by
  unfold sub; simp; omega
/-- What a good token is like. -/
theorem nextF_good {l : List UInt8} {a : Nat} (ha : a < l.length) (h : (nextF l a).e = 0) :
    1 ≤ (nextF l a).len ∧ a + (nextF l a).len ≤ l.length ∧
      (((nextF l a).kind = 1 ∨ (nextF l a).kind = 2 ∨ (nextF l a).kind = 4) ∧ (nextF l a).text = sub l a (nextF l a).len ∧ (nextF l a).text.length = (nextF l a).len ∨
       (nextF l a).kind = 3 ∧ (nextF l a).text = sub l (a + 1) ((nextF l a).len - 2) ∧ (nextF l a).text.length + 2 = (nextF l a).len ∧ 2 ≤ (nextF l a).len) := by
  unfold nextF at h ⊢
  split at h
  · rename_i h1
    obtain ⟨q1, q2⟩ := letF_digF_pos (p := isW l) ha (by unfold isW; rw [h1]; rfl)
    rw [if_pos h1]
    split at h
    · exact absurd h (by decide)
    · rename_i h2
      rw [if_neg h2]
      exact ⟨by show 1 ≤ _ - a; omega, by show a + (_ - a) ≤ _; omega, .inl ⟨.inl rfl, rfl, sub_len (by omega)⟩⟩
  · rename_i h1
    rw [if_neg h1]
    split at h
    · rename_i h2
      obtain ⟨q1, q2⟩ := letF_digF_pos (p := isD l) ha (by unfold isD; exact h2)
      rw [if_pos h2]
      split at h
      · exact absurd h (by decide)
      · rename_i h3
        rw [if_neg h3]
        exact ⟨by show 1 ≤ _ - a; omega, by show a + (_ - a) ≤ _; omega, .inl ⟨.inr (.inl rfl), rfl, sub_len (by omega)⟩⟩
    · rename_i h2
      rw [if_neg h2]
      split at h
      · rename_i h3
        rw [if_pos h3]
        cases hT : txtF l a with
        | none => rw [hT] at h; exact absurd (show (3 : Int) = 0 from h) (by decide)
        | some e =>
          rw [hT] at h
          have hb := txtF_bd hT
          simp only at h ⊢
          split at h
          · exact absurd h (by decide)
          · rename_i h4
            rw [if_neg h4]
            refine ⟨by show 1 ≤ e - a; omega, by show a + (e - a) ≤ _; omega, .inr ⟨rfl, rfl, ?_, by show 2 ≤ e - a; omega⟩⟩
            show (sub l (a + 1) (e - a - 2)).length + 2 = e - a
            rw [sub_len (by omega)]; omega
      · rename_i h3
        rw [if_neg h3]
        split at h
        · rename_i h4
          rw [if_pos h4]
          cases hC : charF l a with
          | none => rw [hC] at h; exact absurd (show (3 : Int) = 0 from h) (by decide)
          | some p =>
            obtain ⟨v, n⟩ := p
            have hb := charF_bd hC
            exact ⟨by show 1 ≤ n; omega, by show a + n ≤ _; omega, .inl ⟨.inr (.inl rfl), rfl, sub_len (by omega)⟩⟩
        · rename_i h4
          rw [if_neg h4]
          cases hM : markJ l a with
          | none => rw [hM] at h; exact absurd h (by decide)
          | some j =>
            have hj := srch_bd hM
            have hb := begF_len hj.2.2 (Nat.le_of_lt ha)
            exact ⟨marks_pos j (by omega), hb.1, .inl ⟨.inr (.inr rfl), hb.2.symm, rfl⟩⟩
end Go.Proofs.Lx6
namespace Go.Proofs.Lx6
open Go.ChangeShapes Go.WideShapes Go.ChangeAt Go.RowKit
theorem Tryz.info164 : (Tryz.prog.info? 164).map (fun i => (i.zero, i.size, i.bytes)) = some (some (.agg #[.int .i64 0, .int .i64 0, .int .i64 0, .string ⟨#[]⟩, .int .i64 0]), 5, 48) := by kernel_rfl
theorem own_below {w w' : World} {base : Nat} {e : TypeId} {size : Nat} {v : Value} {n : Nat} {xs : List Value} (h : w.ownsRow base e size v n xs) (hB : Below w.heap.size w w') : w'.ownsRow base e size v n xs := by
  refine ⟨h.1, ?_⟩
  rcases h.2 with h2 | ⟨g, cap, cur, rfl, hb, hg, r⟩
  · exact .inl h2
  · refine .inr ⟨g, cap, cur, rfl, hb, (hB.block g ?_).trans hg, r⟩
    exact (Array.getElem?_eq_some_iff.1 hg).1
theorem own_shape {w : World} {base : Nat} {e : TypeId} {size : Nat} {v : Value} {n : Nat} {xs : List Value} (h : w.ownsRow base e size v n xs) : ∃ ao cap, v = .slice ao n cap := by
  rcases h.2 with ⟨rfl, rfl⟩ | ⟨g, cap, cur, rfl, hb, hg, r⟩
  · exact ⟨none, 0, rfl⟩
  · exact ⟨_, cap, rfl⟩
theorem below_grown {B : Nat} {w wr W w1 : World} {e : TypeId} {size : Nat} {v : Value} {n : Nat} {xs : List Value} (h : Below B w wr) (hb : B ≤ wr.heap.size) (hown : wr.ownsRow B e size v n xs) (hW : Below wr.heap.size wr W) (hg : W.grownBy w1 v.ownBlock) : Below B w w1 :=
  (h.trans (hW.mono hb)).grown hg (Nat.le_trans hb hW.size) fun k hk => (hown.lt k hk).1
theorem blankF_le {c : Int} {l : List UInt8} {a n k : Nat} (h : blankF c l a = some (n, k)) (ha : a < l.length) : a + n ≤ l.length ∧ k ≤ n := by
  unfold blankF at h
  split at h
  · simp at h; omega
  · split at h
    · simp at h; omega
    · split at h
      · rename_i h3
        have := begF_len h3 (Nat.le_of_lt ha)
        simp at h this; omega
      · split at h
        · cases hs : srch (fun j => begF l j [42, 47]) (a + 2) (l.length - (a + 2)) with
          | none => rw [hs] at h; simp at h
          | some j =>
            rw [hs] at h
            have hj := srch_bd hs
            have := begF_len hj.2.2 (by omega)
            simp at h this
            omega
        · split at h
          · simp at h
            have := srch_ge (p := isNl l) (i := a) (N := l.length) (by omega)
            cases hs : srch (isNl l) a (l.length - a) with
            | none => rw [hs] at h; simp at h; omega
            | some j =>
              rw [hs] at h
              have hj := srch_bd hs
              simp at h; omega
          · simp at h; omega
theorem toksE_end {l : List UInt8} {f a c : Nat} (h : l.length ≤ a) : toksE l f a c = (0, 0) := by
  cases f with
  | zero => rfl
  | succ f => rw [toksE, if_pos h]
theorem toksE_none {l : List UInt8} {f a c : Nat} (h : a < l.length) (hb : blankF (bt l a) l a = none) : toksE l (f + 1) a c = ((3 : Int), (a : Int)) := by
  rw [toksE, if_neg (by omega), hb]
theorem toksE_blank {l : List UInt8} {f a c n k : Nat} (h : a < l.length) (hb : blankF (bt l a) l a = some (n + 1, k)) : toksE l (f + 1) a c = toksE l f (a + (n + 1)) c := by
  rw [toksE, if_neg (by omega), hb]
theorem toksE_bad {l : List UInt8} {f a c k : Nat} (h : a < l.length) (hb : blankF (bt l a) l a = some (0, k)) (he : ¬ (nextF l a).e = 0) : toksE l (f + 1) a c = ((nextF l a).e, (a : Int)) := by
  rw [toksE, if_neg (by omega), hb]
  exact if_neg he
theorem toksE_many {l : List UInt8} {f a k : Nat} (h : a < l.length) (hb : blankF (bt l a) l a = some (0, k)) (he : (nextF l a).e = 0) : toksE l (f + 1) a 8191 = ((8 : Int), (a : Int)) := by
  rw [toksE, if_neg (by omega), hb]
  exact (if_pos he).trans (if_pos rfl)
theorem toksE_tok {l : List UInt8} {f a c k : Nat} (h : a < l.length) (hb : blankF (bt l a) l a = some (0, k)) (he : (nextF l a).e = 0) (hc : ¬ c = 8191) : toksE l (f + 1) a c = toksE l f (a + (nextF l a).len) (c + 1) := by
  rw [toksE, if_neg (by omega), hb]
  exact (if_pos he).trans (if_neg hc)
end Go.Proofs.Lx6

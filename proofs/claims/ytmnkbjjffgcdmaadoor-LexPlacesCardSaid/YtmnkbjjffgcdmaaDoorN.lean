/-
  Steps of what Tokens tells, and what is owned behind a call: plain lemmas.
-/
import Derived.Test.YtmnkbjjffgcdmaaDoorM
import Derived.WalkKit
namespace Go.Proofs.YtmnkbjjffgcdmaaDoor
open Go.ChangeShapes Go.WideShapes Go.ChangeAt Go.RowKit
theorem Tryd.info27 : (Tryd.prog.info? 27).map (fun i => (i.zero, i.size, i.bytes)) = some (some (.agg #[.int .i64 0, .int .i64 0, .int .i64 0, .string ⟨#[]⟩, .int .i64 0]), 5, 48) := by kernel_rfl
theorem own_below {w w' : World} {base : Nat} {e : TypeId} {size : Nat} {v : Value} {n : Nat} {xs : List Value} (h : w.ownsRow base e size v n xs) (hB : Below w.heap.size w w') : w'.ownsRow base e size v n xs := by
  refine ⟨h.1, ?_⟩
  rcases h.2 with h2 | ⟨g, cap, cur, rfl, hb, hg, r⟩
  · exact .inl h2
  · refine .inr ⟨g, cap, cur, rfl, hb, (hB.block g ?_).trans hg, r⟩
    exact (Array.getElem?_eq_some_iff.1 hg).1
theorem own_shape {w : World} {base : Nat} {e : TypeId} {size : Nat} {v : Value} {n : Nat} {xs : List Value} (h : w.ownsRow base e size v n xs) : ∃ ao cap, v = .slice ao n cap := by
  rcases h.2 with ⟨rfl, rfl⟩ | ⟨g, cap, cur, rfl, hb, hg, r⟩
  · exact ⟨none, 0, rfl⟩
  · exact ⟨_, cap, rfl⟩
theorem below_grown {B : Nat} {w wr W w1 : World} {e : TypeId} {size : Nat} {v : Value} {n : Nat} {xs : List Value} (h : Below B w wr) (hb : B ≤ wr.heap.size) (hown : wr.ownsRow B e size v n xs) (hW : Below wr.heap.size wr W) (hg : W.grownBy w1 v.ownBlock) : Below B w w1 :=
  (h.trans (hW.mono hb)).grown hg (Nat.le_trans hb hW.size) fun k hk => (hown.lt k hk).1
theorem blankF_le {c : Int} {l : List UInt8} {a n k : Nat} (h : blankF c l a = some (n, k)) (ha : a < l.length) : a + n ≤ l.length ∧ k ≤ n := by
  unfold blankF at h
  split at h
  · simp at h; omega
  · split at h
    · simp at h; omega
    · split at h
      · rename_i h3
        have := begF_len h3 (Nat.le_of_lt ha)
        simp at h this; omega
      · split at h
        · cases hs : srch (fun j => begF l j [42, 47]) (a + 2) (l.length - (a + 2)) with
          | none => rw [hs] at h; simp at h
          | some j =>
            rw [hs] at h
            have hj := srch_bd hs
            have := begF_len hj.2.2 (by omega)
            simp at h this
            omega
        · split at h
          · simp at h
            have := srch_ge (p := isNl l) (i := a) (N := l.length) (by omega)
            cases hs : srch (isNl l) a (l.length - a) with
            | none => rw [hs] at h; simp at h; omega
            | some j =>
              rw [hs] at h
              have hj := srch_bd hs
              simp at h; omega
          · simp at h; omega
theorem toksE_end {l : List UInt8} {f a c : Nat} (h : l.length ≤ a) : toksE l f a c = (0, 0) := by
  cases f with
  | zero => rfl
  | succ f => rw [toksE, if_pos h]
theorem toksE_none {l : List UInt8} {f a c : Nat} (h : a < l.length) (hb : blankF (bt l a) l a = none) : toksE l (f + 1) a c = ((3 : Int), (a : Int)) := by
  rw [toksE, if_neg (by omega), hb]
theorem toksE_blank {l : List UInt8} {f a c n k : Nat} (h : a < l.length) (hb : blankF (bt l a) l a = some (n + 1, k)) : toksE l (f + 1) a c = toksE l f (a + (n + 1)) c := by
  rw [toksE, if_neg (by omega), hb]
theorem toksE_bad {l : List UInt8} {f a c k : Nat} (h : a < l.length) (hb : blankF (bt l a) l a = some (0, k)) (he : ¬ (nextF l a).e = 0) : toksE l (f + 1) a c = ((nextF l a).e, (a : Int)) := by
  rw [toksE, if_neg (by omega), hb]
  exact if_neg he
theorem toksE_many {l : List UInt8} {f a k : Nat} (h : a < l.length) (hb : blankF (bt l a) l a = some (0, k)) (he : (nextF l a).e = 0) : toksE l (f + 1) a 8191 = ((8 : Int), (a : Int)) := by
  rw [toksE, if_neg (by omega), hb]
  exact (if_pos he).trans (if_pos rfl)
theorem toksE_tok {l : List UInt8} {f a c k : Nat} (h : a < l.length) (hb : blankF (bt l a) l a = some (0, k)) (he : (nextF l a).e = 0) (hc : ¬ c = 8191) : toksE l (f + 1) a c = toksE l f (a + (nextF l a).len) (c + 1) := by
  rw [toksE, if_neg (by omega), hb]
  exact (if_pos he).trans (if_neg hc)
end Go.Proofs.YtmnkbjjffgcdmaaDoor

/-
  Contract of lex's quoted: it is the number in quotes at the text's head. Conditions: the text begins with a quote and has at most 65535 bytes; the variable that Cut's callees read is there.
-/
import Derived.Test.YtmnkbjjffgcdmaaDoorC
namespace Go.Proofs.YtmnkbjjffgcdmaaDoor
open Go.ChangeShapes Go.WideShapes Go.ChangeAt Go.RowKit
/-! The plain part: which of these it is. -/
theorem index_39 (l : List UInt8) : (Lib.index l [39] = -1 ∧ ∀ k, k < l.length → bt l k ≠ 39) ∨ ∃ i : Nat, Lib.index l [39] = i ∧ i < l.length ∧ bt l i = 39 ∧ ∀ k, k < i → bt l k ≠ 39 := by
  induction l with
  | nil => left; exact ⟨rfl, fun k hk => absurd hk (by simp)⟩
  | cons b l ih =>
    by_cases hb : b = 39
    · subst hb
      right
      exact ⟨0, by simp [Lib.index], by simp, rfl, fun k hk => absurd hk (by omega)⟩
    · have hne : ¬ ((b.toNat : Int) = 39) := fun e => hb (UInt8.toNat_inj.1 (by have : (39 : UInt8).toNat = 39 := rfl; omega))
      have hpre : List.isPrefixOf [39] (b :: l) = false := by
        show ((39 : UInt8) == b && true) = false
        rw [Bool.and_true]; exact beq_false_of_ne (Ne.symm hb)
      rcases ih with ⟨h1, h2⟩ | ⟨i, h1, h2, h3, h4⟩
      · left
        refine ⟨by simp only [Lib.index, hpre, h1]; rfl, fun k hk => ?_⟩
        cases k with
        | zero => exact hne
        | succ k => exact h2 k (by simpa using hk)
      · right
        refine ⟨i + 1, ?_, by simpa using h2, h3, fun k hk => ?_⟩
        · simp only [Lib.index, hpre, h1]
          rw [if_neg (by simp), if_neg (by simp)]
          rfl
        · cases k with
          | zero => exact hne
          | succ k => exact h4 k (by omega)
theorem bt_drop (l : List UInt8) (a k : Nat) : bt (l.drop a) k = bt l (a + k) := by
  simp [bt, List.getD_eq_getElem?_getD]
theorem bt_u8 {l : List UInt8} {k : Nat} {c : UInt8} : bt l k = (c.toNat : Int) ↔ l.getD k 0 = c := by
  unfold bt
  constructor
  · intro h; exact UInt8.toNat_inj.1 (by omega)
  · intro h; rw [h]
theorem pre_cons (a b : UInt8) (us bs : List UInt8) : (a :: us).isPrefixOf (b :: bs) = (a == b && us.isPrefixOf bs) := rfl
theorem pre_nilr (a : UInt8) (us : List UInt8) : (a :: us).isPrefixOf [] = false := rfl
theorem pre_no1 (a : UInt8) {b : UInt8} {x : UInt8} (c : UInt8) (us bs : List UInt8) (h : b ≠ c) : (a :: c :: us).isPrefixOf (x :: b :: bs) = false := by
  rw [pre_cons, pre_cons, beq_false_of_ne (Ne.symm h), Bool.false_and, Bool.and_false]
theorem bt_cons (c : UInt8) (l : List UInt8) (k : Nat) : bt (c :: l) (k + 1) = bt l k := rfl
theorem bt_39 (b : UInt8) : (b.toNat : Int) = 39 ↔ b = 39 := ⟨fun e => UInt8.toNat_inj.1 (by have : (39 : UInt8).toNat = 39 := rfl; omega), fun e => by rw [e]; rfl⟩
theorem bt_92 (b : UInt8) : (b.toNat : Int) = 92 ↔ b = 92 := ⟨fun e => UInt8.toNat_inj.1 (by have : (92 : UInt8).toNat = 92 := rfl; omega), fun e => by rw [e]; rfl⟩
theorem bt_10 (b : UInt8) : (b.toNat : Int) = 10 ↔ b = 10 := ⟨fun e => UInt8.toNat_inj.1 (by have : (10 : UInt8).toNat = 10 := rfl; omega), fun e => by rw [e]; rfl⟩
theorem charF_head (x : UInt8) (l1 : List UInt8) : charF (x :: l1) 0 =
    (if 1 < l1.length ∧ bt l1 1 = 39 ∧ bt l1 0 ≠ 39 ∧ bt l1 0 ≠ 92 ∧ bt l1 0 ≠ 10 then some (bt l1 0, 3)
     else if 2 < l1.length ∧ bt l1 0 = 92 ∧ bt l1 2 = 39 then (escF (bt l1 1)).map fun v => (v, 4) else none) := by
  unfold charF
  simp only [List.length_cons, Nat.zero_add, bt_cons]
  congr 1
  · simp only [show (2 < l1.length + 1) = (1 < l1.length) by rw [eq_iff_iff]; omega]
  · simp only [show (3 < l1.length + 1) = (2 < l1.length) by rw [eq_iff_iff]; omega]
theorem pre4 (l1 : List UInt8) : Lib.hasPrefix (39 :: l1) [39, 92, 39, 39] = [92, 39, 39].isPrefixOf l1 := by
  unfold Lib.hasPrefix
  show ((39 : UInt8) == 39 && _) = _
  simp
theorem quoted_any (t : ByteArray) (m : Int) (w : World) (h1 : 1 ≤ t.size) (hs : t.size ≤ 65535) (hm : w.cell? ⟨2, 0, none⟩ = some (.int .i64 m)) (h39 : bt t.data.toList 0 = 39) :
    Calls Tryd.prog 22 #[.string t] w fun e w' => e = .returned (chV (charF t.data.toList 0)) ∧ Below w.heap.size w w' := by
  have hn : t.data.toList.length = t.size := rfl
  generalize hl : t.data.toList = l at *
  match l, hn with
  | [], hn => simp at hn; omega
  | x :: l1, hn =>
    have hx : x = 39 := (bt_39 x).1 h39
    subst hx
    simp only [List.length_cons] at hn
    have hd : t.data.toList.drop 1 = l1 := by rw [hl]; rfl
    rw [charF_head]
    rcases index_39 l1 with ⟨hi, hno⟩ | ⟨i, hi, hil, hib, hno⟩
    · refine quoted_no t m w h1 hs hm _ ?_ ?_ ?_
      · rw [hd]; exact cut_no l1 hi
      · rw [hl, pre4]
        match l1, hno with
        | [], _ => rfl
        | [a], _ => rw [pre_cons, pre_nilr, Bool.and_false]
        | [a, b], hno => rw [pre_cons, pre_cons, pre_nilr, Bool.and_false, Bool.and_false]
        | a :: b :: c :: r, hno =>
          have := hno 1 (by simp)
          simp only [bt_cons] at this
          have hb : b ≠ 39 := fun e => this (by rw [e]; rfl)
          exact pre_no1 _ _ _ _ hb
      · rw [if_neg (fun h => hno 1 h.1 h.2.1), if_neg (fun h => hno 2 h.1 h.2.2)]
    · have hc := cut_at l1 i hi
      match i, l1, hil, hib, hno, hc, hn, hd with
      | 0, b :: r, hil, hib, hno, hc, hn, hd =>
        obtain rfl : b = 39 := (bt_39 b).1 hib
        refine quoted_len t m w h1 hs hm _ [] r ?_ (by simp at hn ⊢; omega) (by simp) (by simp) ?_ ?_
        · rw [hd, hc]; simp
        · rw [hl, pre4]; rfl
        · rw [if_neg (fun h => h.2.2.1 rfl), if_neg (fun h => by have := h.2.1; rw [show bt (39 :: r) 0 = 39 from rfl] at this; omega)]
      | 1, b :: c :: r, hil, hib, hno, hc, hn, hd =>
        obtain rfl : c = 39 := (bt_39 c).1 hib
        have hb39 : b ≠ 39 := fun e => hno 0 (by omega) (by rw [e]; rfl)
        cases hp : [92, 39, 39].isPrefixOf (b :: 39 :: r)
        · refine quoted_1 t m w h1 hs hm _ b r ?_ (by simp at hn; omega) ?_ ?_
          · rw [hd, hc]; simp
          · rw [hl, pre4, hp]
          · have e1 : bt (b :: 39 :: r) 1 = 39 := rfl
            have e0 : bt (b :: 39 :: r) 0 = (b.toNat : Int) := rfl
            by_cases h92 : b = 92
            · subst h92
              rw [if_neg (fun h => h.2.2.2.1 rfl), if_neg, if_pos (.inl rfl)]
              rintro ⟨g1, _, g3⟩
              match r, g1, g3 with
              | d :: r, _, g3 =>
                obtain rfl : d = 39 := (bt_39 d).1 g3
                exact absurd hp (by rw [pre_cons, pre_cons, pre_cons, show ([] : List UInt8).isPrefixOf r = true by cases r <;> rfl]; decide)
            · by_cases h10 : b = 10
              · subst h10
                rw [if_neg (fun h => h.2.2.2.2 rfl), if_neg (fun h => absurd (show (10 : Int) = 92 from h.2.1) (by decide)), if_pos (.inr rfl)]
              · rw [if_pos ⟨by simp, e1, fun e => hb39 ((bt_39 b).1 e), fun e => h92 ((bt_92 b).1 e), fun e => h10 ((bt_10 b).1 e)⟩, if_neg (by rintro (h | h); exact h92 h; exact h10 h), e0]
        · refine quoted_39 t m w h1 hs hm _ [b] r true ?_ ?_ ?_
          · rw [hd, hc]; simp
          · rw [hl, pre4, hp]
          · match r, hp with
            | [], hp => rw [pre_cons, pre_cons, pre_nilr, Bool.and_false, Bool.and_false] at hp; exact absurd hp (by decide)
            | d :: r, hp =>
              rw [pre_cons, pre_cons, pre_cons] at hp
              simp only [Bool.and_eq_true, beq_iff_eq] at hp
              obtain ⟨rfl, _, rfl, _⟩ := hp
              rw [if_neg (fun h => h.2.2.2.1 rfl), if_pos ⟨by simp, rfl, rfl⟩]
              rfl
      | 2, b :: c :: d :: r, hil, hib, hno, hc, hn, hd =>
        obtain rfl : d = 39 := (bt_39 d).1 hib
        have hb39 : b ≠ 39 := fun e => hno 0 (by omega) (by rw [e]; rfl)
        have hc39 : c ≠ 39 := fun e => hno 1 (by omega) (by rw [e]; rfl)
        by_cases hb : b = 92
        · subst hb
          refine quoted_2 t m w h1 hs hm _ c r ?_ (by simp at hn; omega) ?_ ?_ hc39
          · rw [hd, hc]; simp
          · rw [hl, pre4]; exact pre_no1 _ _ _ _ hc39
          · rw [if_neg (fun h => hc39 ((bt_39 c).1 h.2.1)), if_pos ⟨by simp, rfl, rfl⟩]; rfl
        · refine quoted_2n t m w h1 hs hm _ b c r ?_ (by simp at hn; omega) ?_ ?_ hb
          · rw [hd, hc]; simp
          · rw [hl, pre4]; exact pre_no1 _ _ _ _ hc39
          · rw [if_neg (fun h => hc39 ((bt_39 c).1 h.2.1)), if_neg (fun h => hb ((bt_92 b).1 h.2.1))]
      | i + 3, b :: c :: d :: r, hil, hib, hno, hc, hn, hd =>
        have hc39 : c ≠ 39 := fun e => hno 1 (by omega) (by rw [e]; rfl)
        have hd39 : d ≠ 39 := fun e => hno 2 (by omega) (by rw [e]; rfl)
        refine quoted_len t m w h1 hs hm _ ((b :: c :: d :: r).take (i + 3)) ((b :: c :: d :: r).drop (i + 3 + 1)) ?_ ?_ ?_ ?_ ?_ ?_
        · rw [hd, hc]
        · rw [List.length_take, List.length_drop]; simp only [List.length_cons] at hn hil ⊢; omega
        · rw [List.length_take]; omega
        · rw [List.length_take]; omega
        · rw [hl, pre4]; exact pre_no1 _ _ _ _ hc39
        · rw [if_neg (fun h => hc39 ((bt_39 c).1 h.2.1)), if_neg (fun h => hd39 ((bt_39 d).1 h.2.2))]
end Go.Proofs.YtmnkbjjffgcdmaaDoor

/-
  LexFirst's plain law: what is wrong at a place is told whatever stands behind it. No program.
-/
import Derived.Test.YtmnkbjjffgcdmaaDoorR
namespace Go.Proofs.YtmnkbjjffgcdmaaDoor
open Go.ChangeShapes Go.WideShapes Go.ChangeAt Go.RowKit
/-- Two lists are alike up to a place that is in both. -/
def Ag (l l' : List UInt8) (q : Nat) : Prop := q < l.length ∧ q < l'.length ∧ l'.take (q + 1) = l.take (q + 1)
section
variable {l l' : List UInt8} {q : Nat} (h : Ag l l' q)
include h
theorem Ag.getD {j : Nat} (hj : j ≤ q) : l'.getD j 0 = l.getD j 0 := by
  have e : ∀ m : List UInt8, m.getD j 0 = (m.take (q + 1)).getD j 0 := by
    intro m
    rw [List.getD_eq_getElem?_getD, List.getD_eq_getElem?_getD, List.getElem?_take_of_lt (by omega)]
  rw [e l', e l, h.2.2]
theorem Ag.bt {j : Nat} (hj : j ≤ q) : bt l' j = bt l j := by
  unfold YtmnkbjjffgcdmaaDoor.bt
  rw [h.getD hj]
theorem Ag.sub {a n : Nat} (hn : a + n ≤ q + 1) : sub l' a n = sub l a n := by
  have e : ∀ m : List UInt8, YtmnkbjjffgcdmaaDoor.sub m a n = ((m.take (q + 1)).drop a).take n := by
    intro m
    unfold YtmnkbjjffgcdmaaDoor.sub
    rw [List.drop_take, List.take_take, Nat.min_eq_left (by omega)]
  rw [e l', e l, h.2.2]
theorem Ag.beg {a : Nat} {t : List UInt8} (hn : a + t.length ≤ q + 1) : begF l' a t = begF l a t := by
  unfold begF
  rw [pre_take, pre_take]
  have := h.sub hn
  unfold YtmnkbjjffgcdmaaDoor.sub at this
  rw [this]
theorem Ag.isW {j : Nat} (hj : j ≤ q) : isW l' j = isW l j := by
  unfold YtmnkbjjffgcdmaaDoor.isW
  rw [h.bt hj]
theorem Ag.isD {j : Nat} (hj : j ≤ q) : isD l' j = isD l j := by
  unfold YtmnkbjjffgcdmaaDoor.isD
  rw [h.bt hj]
theorem Ag.isNl {j : Nat} (hj : j ≤ q) : isNl l' j = isNl l j := by
  unfold YtmnkbjjffgcdmaaDoor.isNl
  rw [h.getD hj]
theorem Ag.dval {a : Nat} : ∀ n, a + n ≤ q + 1 → dval l' a n = dval l a n := by
  intro n
  induction n with
  | zero => intro _; rfl
  | succ n ih =>
    intro hn
    unfold YtmnkbjjffgcdmaaDoor.dval
    rw [ih (by omega), h.bt (by omega)]
omit h in
theorem srch_loc {p p' : Nat → Bool} {n' : Nat} : ∀ {n i j : Nat}, srch p i n = some j → (∀ x, i ≤ x → x ≤ j → p' x = p x) → j < i + n' → srch p' i n' = some j := by
  induction n' with
  | zero => intro n i j h1 h2 h3; have := srch_bd h1; omega
  | succ n' ih =>
    intro n i j h1 h2 h3
    cases n with
    | zero => simp [srch] at h1
    | succ n =>
      have hb := srch_bd h1
      unfold srch at h1 ⊢
      rw [h2 i (Nat.le_refl _) hb.1]
      split at h1
      · rename_i hp; rw [if_pos hp]; exact h1
      · rename_i hp
        rw [if_neg hp]
        have hb2 := srch_bd h1
        exact ih h1 (fun x a b => h2 x (by omega) b) (by omega)
theorem Ag.run {p p' : Nat → Bool} {a : Nat} (ha : a ≤ q) (hp : ∀ x, x ≤ q → p' x = p x) (hE : runEnd p l a ≤ q) : runEnd p' l' a = runEnd p l a := by
  unfold runEnd at hE ⊢
  cases hs : srch (fun j => !p j) a (l.length - a) with
  | none => rw [hs] at hE; have := h.1; simp at hE; omega
  | some e =>
    rw [hs] at hE
    simp at hE
    have hb := srch_bd hs
    rw [srch_loc (p := fun j => !p j) (p' := fun j => !p' j) hs (fun x _ hx => by rw [hp x (by omega)]) (by have := h.2.1; omega)]
    rfl
theorem Ag.txt : ∀ f i e, txt l f i = some e → e ≤ q + 1 → ∀ f', e ≤ i + f' → txt l' f' i = some e
  | 0, i, e, h1, _, _, _ => by simp [YtmnkbjjffgcdmaaDoor.txt] at h1
  | f + 1, i, e, h1, he, f', hf => by
    have hb := txt_bd l _ _ _ h1
    obtain ⟨f', rfl⟩ : ∃ g, f' = g + 1 := ⟨f' - 1, by omega⟩
    have hl := h.1
    have hl' := h.2.1
    unfold YtmnkbjjffgcdmaaDoor.txt at h1 ⊢
    rw [if_neg (by omega)] at h1
    rw [if_neg (by omega), h.bt (by omega)]
    split at h1
    · rename_i h2; rw [if_pos h2]; exact h1
    · rename_i h2
      rw [if_neg h2]
      split at h1
      · simp at h1
      · rename_i h3
        rw [if_neg h3]
        split at h1
        · rename_i h4
          rw [if_pos h4]
          split at h1
          · simp at h1
          · rename_i h5
            have hb2 := txt_bd l _ _ _ h1
            rw [h.bt (by omega)]
            rw [if_neg (fun c => h5 ⟨by omega, c.2⟩)]
            exact Ag.txt f _ e h1 he f' (by omega)
        · rename_i h4
          rw [if_neg h4]
          exact Ag.txt f _ e h1 he f' (by omega)
theorem Ag.char {a n : Nat} {v : Int} (h1 : charF l a = some (v, n)) (hq : a + n ≤ q) : charF l' a = some (v, n) := by
  have hb := charF_bd h1
  have hl := h.1
  have hl' := h.2.1
  unfold charF at h1 ⊢
  rw [h.bt (by omega), h.bt (by omega)]
  split at h1
  · rename_i h2
    rw [if_pos ⟨by omega, h2.2⟩]; exact h1
  · rename_i h2
    split at h1
    · rename_i h3
      have h4 : n = 4 := by
        cases he : escF (YtmnkbjjffgcdmaaDoor.bt l (a + 2)) with
        | none => rw [he] at h1; simp at h1
        | some x => rw [he] at h1; simp at h1; omega
      rw [if_neg (fun c => h2 ⟨by omega, c.2⟩), h.bt (by omega), if_pos ⟨by omega, h3.2⟩]
      exact h1
    · simp at h1
theorem Ag.mark {a : Nat} (hq : a + 1 ≤ q) : markJ l' a = markJ l a := by
  unfold markJ
  exact srch_congr (fun j => h.beg (by have := marks_len j; omega)) 0 _
theorem Ag.blank {a n k : Nat} {c : Int} (hb : blankF c l a = some (n, k)) (ha : a + 1 ≤ q) (hn : a + n ≤ q) : blankF c l' a = some (n, k) := by
  have hl := h.1
  have hl' := h.2.1
  unfold blankF at hb ⊢
  rw [h.beg (t := [92, 10]) (by simp; omega), h.beg (t := [47, 42]) (by simp; omega), h.beg (t := [47, 47]) (by simp; omega)]
  split at hb
  · rename_i h1; rw [if_pos h1]; exact hb
  · rename_i h1
    rw [if_neg h1]
    split at hb
    · rename_i h2; rw [if_pos h2]; exact hb
    · rename_i h2
      rw [if_neg h2]
      split at hb
      · rename_i h3; rw [if_pos h3]; exact hb
      · rename_i h3
        rw [if_neg h3]
        split at hb
        · rename_i h4
          rw [if_pos h4]
          cases hs : srch (fun j => begF l j [42, 47]) (a + 2) (l.length - (a + 2)) with
          | none => rw [hs] at hb; simp at hb
          | some j =>
            rw [hs] at hb
            have hj := srch_bd hs
            simp at hb
            rw [srch_loc (p' := fun j => begF l' j [42, 47]) hs (fun x _ hx => h.beg (by simp; omega)) (by omega)]
            simpa using hb
        · rename_i h4
          rw [if_neg h4]
          split at hb
          · rename_i h5
            rw [if_pos h5]
            cases hs : srch (YtmnkbjjffgcdmaaDoor.isNl l) a (l.length - a) with
            | none => rw [hs] at hb; simp at hb; omega
            | some j =>
              rw [hs] at hb
              have hj := srch_bd hs
              simp at hb
              rw [srch_loc (p' := YtmnkbjjffgcdmaaDoor.isNl l') hs (fun x _ hx => h.isNl (by omega)) (by omega)]
              simpa using hb
          · rename_i h5
            rw [if_neg h5]; exact hb
theorem Ag.next {a : Nat} (ha : a ≤ q) (hg : (nextF l a).e = 0) (hq : a + (nextF l a).len ≤ q) : nextF l' a = nextF l a := by
  have hal : a < l.length := by have := h.1; omega
  have hbnd := nextF_good hal hg
  have hl' := h.2.1
  have ha1 : a + 1 ≤ q := by omega
  clear hbnd
  unfold nextF at hg hq ⊢
  rw [h.bt ha]
  split
  · rename_i h1
    rw [if_pos h1] at hg hq
    split at hg
    · exact absurd hg (by decide)
    · rename_i h2
      rw [if_neg h2] at hq
      have hq2 : a + (runEnd (YtmnkbjjffgcdmaaDoor.isW l) l a - a) ≤ q := hq
      have he : runEnd (YtmnkbjjffgcdmaaDoor.isW l') l' a = runEnd (YtmnkbjjffgcdmaaDoor.isW l) l a := h.run ha (fun x hx => h.isW hx) (by omega)
      rw [he, h.sub (by omega)]
  · rename_i h1
    rw [if_neg h1] at hg hq
    split
    · rename_i h2
      rw [if_pos h2] at hg hq
      split at hg
      · exact absurd hg (by decide)
      · rename_i h3
        rw [if_neg h3] at hq
        have hq2 : a + (runEnd (YtmnkbjjffgcdmaaDoor.isD l) l a - a) ≤ q := hq
        have he : runEnd (YtmnkbjjffgcdmaaDoor.isD l') l' a = runEnd (YtmnkbjjffgcdmaaDoor.isD l) l a := h.run ha (fun x hx => h.isD hx) (by omega)
        rw [he, h.sub (by omega), h.dval _ (by omega)]
    · rename_i h2
      rw [if_neg h2] at hg hq
      split
      · rename_i h3
        rw [if_pos h3] at hg hq
        cases hT : txtF l a with
        | none => rw [hT] at hg; exact absurd (show (3 : Int) = 0 from hg) (by decide)
        | some e =>
          rw [hT] at hg hq
          simp only at hg hq
          split at hg
          · exact absurd hg (by decide)
          · rename_i h4
            rw [if_neg h4] at hq
            have hq2 : a + (e - a) ≤ q := hq
            have hb := txtF_bd hT
            have hT' : txtF l' a = some e := h.txt _ _ _ hT (by omega) _ (by omega)
            rw [hT']
            simp only
            rw [h.sub (by omega)]
      · rename_i h3
        rw [if_neg h3] at hg hq
        split
        · rename_i h4
          rw [if_pos h4] at hg hq
          cases hC : charF l a with
          | none => rw [hC] at hg; exact absurd (show (3 : Int) = 0 from hg) (by decide)
          | some p =>
            obtain ⟨v, n⟩ := p
            rw [hC] at hg hq
            have hq2 : a + n ≤ q := hq
            rw [h.char hC hq2]
            simp only
            rw [h.sub (by omega)]
        · rename_i h4
          rw [h.mark ha1]
omit h in
theorem marks_head : ∀ j, j < 41 → ∃ i, i < 41 ∧ ∃ c t, marksL.getD j [] = c :: t ∧ marksL.getD i [] = [c] := by
  have h : ∀ j : Fin 41, ∃ i : Fin 41, (marksL.getD j.val []) ≠ [] ∧ marksL.getD i.val [] = [(marksL.getD j.val []).headD 0] := by decide +kernel
  intro j hj
  obtain ⟨i, h1, h2⟩ := h ⟨j, hj⟩
  cases hm : marksL.getD j [] with
  | nil => exact absurd hm h1
  | cons c t => exact ⟨i.val, i.isLt, c, t, rfl, by rw [h2]; simp only; rw [hm]; rfl⟩
omit h in
theorem srch_none {p : Nat → Bool} : ∀ {n i : Nat}, srch p i n = none ↔ ∀ x, i ≤ x → x < i + n → p x = false := by
  intro n
  induction n with
  | zero => intro i; exact ⟨fun _ x h1 h2 => by omega, fun _ => rfl⟩
  | succ n ih =>
    intro i
    unfold srch
    by_cases hp : p i = true
    · rw [if_pos hp]
      exact ⟨fun h => by simp at h, fun h => by rw [h i (by omega) (by omega)] at hp; simp at hp⟩
    · rw [if_neg hp, ih]
      constructor
      · intro h x h1 h2
        by_cases hx : x = i
        · rw [hx]; simpa using hp
        · exact h x (by omega) (by omega)
      · exact fun h x h1 h2 => h x (by omega) (by omega)
omit h in
theorem begF_cons {l : List UInt8} {a : Nat} {c : UInt8} {t : List UInt8} (hb : begF l a (c :: t) = true) : begF l a [c] = true := by
  unfold begF at hb ⊢
  cases hd : l.drop a with
  | nil => rw [hd] at hb; simp at hb
  | cons x r =>
    rw [hd] at hb
    simp only [List.isPrefixOf_cons_cons, Bool.and_eq_true] at hb ⊢
    exact ⟨hb.1, by simp⟩
theorem Ag.noMark (hm : markJ l q = none) : markJ l' q = none := by
  unfold markJ at hm ⊢
  rw [srch_none] at hm ⊢
  intro x hx1 hx2
  obtain ⟨i, hi, c, t, e1, e2⟩ := marks_head x (by omega)
  have h0 := hm i (by omega) (by omega)
  rw [e2] at h0
  rw [e1]
  cases hb : begF l' q (c :: t) with
  | false => rfl
  | true =>
    have hb2 := begF_cons hb
    rw [h.beg (by simp)] at hb2
    rw [hb2] at h0
    exact h0
end
theorem bad_char {l : List UInt8} {a : Nat} (he : (nextF l a).e = 2) : letF (bt l a) = false ∧ digF (bt l a) = false ∧ bt l a ≠ 34 ∧ bt l a ≠ 39 ∧ markJ l a = none := by
  unfold nextF at he
  split at he
  · split at he
    · exact absurd he (by decide)
    · exact absurd (show (0 : Int) = 2 from he) (by decide)
  · rename_i h1
    split at he
    · split at he
      · exact absurd he (by decide)
      · exact absurd (show (0 : Int) = 2 from he) (by decide)
    · rename_i h2
      split at he
      · cases hT : txtF l a with
        | none => rw [hT] at he; exact absurd (show (3 : Int) = 2 from he) (by decide)
        | some e =>
          rw [hT] at he
          simp only at he
          split at he
          · exact absurd (show (5 : Int) = 2 from he) (by decide)
          · exact absurd (show (0 : Int) = 2 from he) (by decide)
      · rename_i h3
        split at he
        · cases hC : charF l a with
          | none => rw [hC] at he; exact absurd (show (3 : Int) = 2 from he) (by decide)
          | some p => obtain ⟨v, n⟩ := p; rw [hC] at he; exact absurd (show (0 : Int) = 2 from he) (by decide)
        · rename_i h4
          cases hM : markJ l a with
          | none => exact ⟨by simpa using h1, by simpa using h2, h3, h4, rfl⟩
          | some j => rw [hM] at he; exact absurd (show (0 : Int) = 2 from he) (by decide)
theorem char_bad {l : List UInt8} {a : Nat} (h1 : letF (bt l a) = false) (h2 : digF (bt l a) = false) (h3 : bt l a ≠ 34) (h4 : bt l a ≠ 39) (h5 : markJ l a = none) : nextF l a = .bad 2 := by
  unfold nextF
  rw [if_neg (by rw [h1]; decide), if_neg (by rw [h2]; decide), if_neg h3, if_neg h4, h5]
/-- At the place of what is wrong, with a blank behind it. -/
theorem Ag.blankAt {l l' : List UInt8} {q k : Nat} {c : Int} (h : Ag l l' q) (hsp : l'.getD (q + 1) 0 = 32) (hm : markJ l q = none) (hb : blankF c l q = some (0, k)) : ∃ k', blankF c l' q = some (0, k') := by
  have hno := srch_none.1 (show srch (fun j => begF l' q (marksL.getD j [])) 0 (41 - 0) = none from h.noMark hm)
  have hs := hno 23 (by omega) (by omega)
  have e23 : marksL.getD 23 [] = [47] := by decide +kernel
  have e47 : begF l' q [47] = false := by rw [e23] at hs; exact hs
  have e2 : begF l' q [47, 42] = false := by
    cases hx : begF l' q [47, 42] with
    | false => rfl
    | true => rw [begF_cons hx] at e47; exact e47
  have e3 : begF l' q [47, 47] = false := by
    cases hx : begF l' q [47, 47] with
    | false => rfl
    | true => rw [begF_cons hx] at e47; exact e47
  have e1 : begF l' q [92, 10] = false := by
    cases hx : begF l' q [92, 10] with
    | false => rfl
    | true =>
      have h2 := (begF_len hx (Nat.le_of_lt h.2.1)).2
      have h3 : (YtmnkbjjffgcdmaaDoor.sub l' q 2).getD 1 0 = l'.getD (q + 1) 0 := by
        unfold YtmnkbjjffgcdmaaDoor.sub
        rw [List.getD_eq_getElem?_getD, List.getD_eq_getElem?_getD, List.getElem?_take_of_lt (by omega), List.getElem?_drop]
      rw [hsp, show YtmnkbjjffgcdmaaDoor.sub l' q 2 = [92, 10] from h2] at h3
      exact absurd h3 (by decide)
  unfold blankF at hb ⊢
  split at hb
  · simp at hb
  · rename_i h1
    rw [if_neg h1]
    split at hb
    · simp at hb
    · rename_i h2
      rw [if_neg h2, e1, e2, e3]
      exact ⟨0, by simp⟩
theorem first_run (l : List UInt8) (A : Int) : ∀ f a c, toksE l f a c = (2, A) → ∃ q : Nat, A = q ∧ a ≤ q ∧ q < l.length ∧
    ∀ l', Ag l l' q → l'.getD (q + 1) 0 = 32 → ∀ f', q < a + f' → toksE l' f' a c = (2, (q : Int))
  | 0, a, c, h => by
    have := congrArg Prod.fst h
    exact absurd (show (0 : Int) = 2 from this) (by decide)
  | f + 1, a, c, h => by
    by_cases ha : l.length ≤ a
    · rw [toksE_end ha] at h
      have := congrArg Prod.fst h
      exact absurd (show (0 : Int) = 2 from this) (by decide)
    · have ha2 : a < l.length := by omega
      cases hb : blankF (bt l a) l a with
      | none =>
        rw [toksE_none ha2 hb] at h
        have := congrArg Prod.fst h
        exact absurd (show (3 : Int) = 2 from this) (by decide)
      | some p =>
        obtain ⟨n, k⟩ := p
        cases n with
        | succ n =>
          rw [toksE_blank ha2 hb] at h
          obtain ⟨q, hA, h1, h2, h3⟩ := first_run l A f _ c h
          refine ⟨q, hA, by omega, h2, fun l' hg hsp f' hf => ?_⟩
          obtain ⟨f', rfl⟩ : ∃ g, f' = g + 1 := ⟨f' - 1, by omega⟩
          have hb' : blankF (bt l' a) l' a = some (n + 1, k) := by rw [hg.bt (by omega)]; exact hg.blank hb (by omega) (by omega)
          rw [toksE_blank (by have := hg.2.1; omega) hb']
          exact h3 l' hg hsp f' (by omega)
        | zero =>
          by_cases he : (nextF l a).e = 0
          · have hG := nextF_good ha2 he
            by_cases hc : c = 8191
            · subst hc
              rw [toksE_many ha2 hb he] at h
              have := congrArg Prod.fst h
              exact absurd (show (8 : Int) = 2 from this) (by decide)
            · rw [toksE_tok ha2 hb he hc] at h
              obtain ⟨q, hA, h1, h2, h3⟩ := first_run l A f _ _ h
              refine ⟨q, hA, by omega, h2, fun l' hg hsp f' hf => ?_⟩
              obtain ⟨f', rfl⟩ : ∃ g, f' = g + 1 := ⟨f' - 1, by omega⟩
              have hb' : blankF (bt l' a) l' a = some (0, k) := by rw [hg.bt (by omega)]; exact hg.blank hb (by omega) (by omega)
              have hn' := hg.next (a := a) (by omega) he h1
              rw [toksE_tok (by have := hg.2.1; omega) hb' (by rw [hn']; exact he) hc, hn']
              exact h3 l' hg hsp f' (by omega)
          · rw [toksE_bad ha2 hb he] at h
            have e1 : (nextF l a).e = 2 := congrArg Prod.fst h
            have e2 : (a : Int) = A := congrArg Prod.snd h
            obtain ⟨b1, b2, b3, b4, b5⟩ := bad_char e1
            refine ⟨a, e2.symm, Nat.le_refl _, ha2, fun l' hg hsp f' hf => ?_⟩
            obtain ⟨f', rfl⟩ : ∃ g, f' = g + 1 := ⟨f' - 1, by omega⟩
            have hbt := hg.bt (Nat.le_refl a)
            obtain ⟨k', hb'⟩ := hg.blankAt hsp b5 hb
            have hbad := char_bad (l := l') (a := a) (by rw [hbt]; exact b1) (by rw [hbt]; exact b2) (by rw [hbt]; exact b3) (by rw [hbt]; exact b4) (hg.noMark b5)
            rw [toksE_bad hg.2.1 (by rw [hbt]; exact hb') (by rw [hbad]; decide), hbad]
            rfl
theorem first_law : FirstLaw := by
  intro l more h1 h2 h3
  have hT : toksR l = toksE l (l.length + 1) 0 0 := by unfold toksR; rw [if_neg (by omega)]
  rw [hT] at h3 ⊢
  obtain ⟨q, hA, -, hq, hall⟩ := first_run l _ _ _ _ (Prod.ext h3 rfl)
  refine ⟨q, hA, hq, ?_⟩
  have hlen : (l.take (q + 1)).length = q + 1 := by rw [List.length_take]; omega
  have hlen2 : (l.take (q + 1) ++ 32 :: more).length = q + 2 + more.length := by rw [List.length_append, hlen, List.length_cons]; omega
  have hT2 : toksR (l.take (q + 1) ++ 32 :: more) = toksE (l.take (q + 1) ++ 32 :: more) ((l.take (q + 1) ++ 32 :: more).length + 1) 0 0 := by unfold toksR; rw [if_neg (by omega)]
  rw [hT2]
  refine hall _ ⟨hq, by omega, ?_⟩ ?_ _ (by omega)
  · rw [List.take_append_of_le_length (by omega), List.take_take, Nat.min_self]
  · rw [List.getD_eq_getElem?_getD, List.getElem?_append_right (by omega), hlen]
    simp
end Go.Proofs.YtmnkbjjffgcdmaaDoor

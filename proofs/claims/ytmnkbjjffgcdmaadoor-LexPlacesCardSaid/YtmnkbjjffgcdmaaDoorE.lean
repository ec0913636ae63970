/-
  Contract of lex's blank. Conditions: the text is not empty and has at most 65535 bytes; the variable that Index's callees read is there.
-/
import Derived.Test.YtmnkbjjffgcdmaaDoorD
namespace Go.Proofs.YtmnkbjjffgcdmaaDoor
open Go.ChangeShapes Go.WideShapes Go.ChangeAt Go.RowKit
theorem srch_shift (p : Nat → Bool) (a : Nat) : ∀ n i, srch p (i + a) n = (srch (fun j => p (j + a)) i n).map (· + a)
  | 0, _ => rfl
  | n + 1, i => by
    unfold srch
    by_cases h : p (i + a) = true
    · rw [if_pos h, if_pos h]; rfl
    · rw [if_neg h, if_neg h, show i + a + 1 = (i + 1) + a by omega, srch_shift p a n (i + 1)]
def natI : Option Nat → Int
  | some j => j
  | none => -1
theorem natI_map1 (o : Option Nat) : natI (o.map (· + 1)) = if natI o == -1 then -1 else natI o + 1 := by
  cases o with
  | none => rfl
  | some j =>
    show ((j + 1 : Nat) : Int) = (if ((j : Int) == -1) = true then (-1 : Int) else (j : Int) + 1)
    have h : ((j : Int) == -1) = false := by rw [beq_eq_false_iff_ne]; omega
    rw [h]; rfl
theorem srch_congr {p q : Nat → Bool} (h : ∀ j, p j = q j) (i n : Nat) : srch p i n = srch q i n := by rw [show p = q from funext h]
theorem ixb_srch (l : List UInt8) (c : UInt8) : Lib.indexByte l c = natI (srch (fun j => l.getD j 0 == c) 0 l.length) := by
  induction l with
  | nil => rfl
  | cons b l ih =>
    simp only [Lib.indexByte, List.length_cons, srch]
    by_cases h : (b == c) = true
    · rw [if_pos h, if_pos (by simpa using h)]; rfl
    · rw [if_neg h, if_neg (show ¬ ((b :: l).getD 0 0 == c) = true from h), srch_shift _ 1 l.length 0, natI_map1, ih]
      have e : srch (fun j => (b :: l).getD (j + 1) 0 == c) 0 l.length = srch (fun j => l.getD j 0 == c) 0 l.length := srch_congr (fun j => by simp) 0 _
      rw [e]
theorem ix_srch (l sub : List UInt8) (hs : sub ≠ []) : Lib.index l sub = natI (srch (fun j => begF l j sub) 0 l.length) := by
  induction l with
  | nil => cases sub with
    | nil => exact absurd rfl hs
    | cons _ _ => rfl
  | cons b l ih =>
    simp only [Lib.index, List.length_cons, srch]
    by_cases h : sub.isPrefixOf (b :: l) = true
    · rw [if_pos h, if_pos (by simpa [begF] using h)]; rfl
    · rw [if_neg h, if_neg (show ¬ begF (b :: l) 0 sub = true from h), srch_shift _ 1 l.length 0, natI_map1, ih]
      have e : srch (fun j => begF (b :: l) (j + 1) sub) 0 l.length = srch (fun j => begF l j sub) 0 l.length := srch_congr (fun j => by simp [begF]) 0 _
      rw [e]
theorem isb : ∀ c : Fin 256, decide (0 ≤ Lib.indexByte [32, 9, 12, 13] ((c.val : Int).toNat.toUInt8)) = ((c.val : Int) == 32 || (c.val : Int) == 9 || (c.val : Int) == 12 || (c.val : Int) == 13) := by decide +kernel
theorem isb' (c : UInt8) : decide (0 ≤ Lib.indexByte [32, 9, 12, 13] c) = ((c.toNat : Int) == 32 || (c.toNat : Int) == 9 || (c.toNat : Int) == 12 || (c.toNat : Int) == 13) := by
  have := isb ⟨c.toNat, c.toNat_lt⟩
  simpa using this
def pbV : Option (Nat × Nat) → Value
  | some (n, k) => .tuple #[.int .i64 n, .int .i64 k]
  | none => .tuple #[.int .i64 (-1), .int .i64 0]
section
variable (t : ByteArray) (m : Int) (w : World) (h1 : 0 < t.size) (hs : t.size ≤ 65535) (hm : w.cell? ⟨2, 0, none⟩ = some (.int .i64 m))
include h1 hs hm
set_option maxHeartbeats 2000000 in
theorem pblank_any : Calls Tryd.prog 9 #[.string t] w fun e w' => e = .returned (pbV (blankF (t[0].toNat : Int) t.data.toList 0)) ∧ w = w' := by
  obtain ⟨R, HR0⟩ : ∃ R, blankF (t[0].toNat : Int) t.data.toList 0 = R := ⟨_, rfl⟩
  rw [HR0]
  have HR := Lib.hid HR0; clear HR0
  have HM := Lib.hid hm; clear hm
  have hlen : Hid (t.data.toList.length = t.size) := rfl
  cases h10 : ((t[0].toNat : Int) == 10)
  · have ib := isb' t[0]
    cases hor : ((t[0].toNat : Int) == 32 || (t[0].toNat : Int) == 9 || (t[0].toNat : Int) == 12 || (t[0].toNat : Int) == 13)
    · have iN : Lib.indexByte [32, 9, 12, 13] t[0] < 0 := by rw [hor] at ib; have := of_decide_eq_false ib; omega
      clear ib
      cases hb1 : begF t.data.toList 0 [92, 10]
      · cases hb2 : begF t.data.toList 0 [47, 47]
        · cases hb3 : begF t.data.toList 0 [47, 42]
          · have E : Hid (R = some (0, 0)) := HR.out.symm.trans (by unfold blankF; rw [h10, hor, hb1, hb2, hb3]; rfl)
            have H1 := Lib.hid hb1; have H2 := Lib.hid hb2; have H3 := Lib.hid hb3
            clear hb1 hb2 hb3 hor
            go_enter Tryd.func9, Tryd.ntmps9
            go_wp2_with fail
            refine (Tryd.strings_IndexByte _ _ _).mono ?_
            rintro e w2 ⟨rfl, hw2⟩
            subst hw2
            go_wp2_with fail
            refine (Tryd.strings_HasPrefix _ _ _).mono ?_
            rintro e w3 ⟨rfl, hw3⟩
            subst hw3
            rw [show Lib.hasPrefix t.data.toList (⟨#[92, 10]⟩ : ByteArray).data.toList = false from H1.out]
            go_wp2_with fail
            refine (Tryd.strings_HasPrefix _ _ _).mono ?_
            rintro e w3 ⟨rfl, hw3⟩
            subst hw3
            rw [show Lib.hasPrefix t.data.toList (⟨#[47, 47]⟩ : ByteArray).data.toList = false from H2.out]
            go_wp2_with fail
            refine (Tryd.strings_HasPrefix _ _ _).mono ?_
            rintro e w3 ⟨rfl, hw3⟩
            subst hw3
            rw [show Lib.hasPrefix t.data.toList (⟨#[47, 42]⟩ : ByteArray).data.toList = false from H3.out]
            go_wp2_with fail
            go_ret2
            exact ⟨retv (by rw [E.out]; rfl), rfl⟩
          · have E : Hid (R = (srch (fun j => begF t.data.toList j [42, 47]) 2 (t.size - 2)).map fun j => (j + 2, 0)) := HR.out.symm.trans (by unfold blankF; rw [h10, hor, hb1, hb3, hlen.out]; rfl)
            have hb4 : 2 ≤ t.size := by
              unfold begF at hb3
              rw [pre_take, beq_iff_eq] at hb3
              have := congrArg List.length hb3
              rw [List.length_take, List.length_drop, hlen.out] at this
              simp at this
              omega
            have IX : Hid (Lib.index (t.data.toList.drop 2) [42, 47] = natI ((srch (fun j => begF t.data.toList j [42, 47]) 2 (t.size - 2)).map (· - 2))) := by
              unfold Hid
              rw [ix_srch _ _ (by simp), List.length_drop, hlen.out, show (2 : Nat) = 0 + 2 from rfl, srch_shift _ 2 (t.size - (0 + 2)) 0]
              rw [Option.map_map]
              rw [srch_congr (q := fun j => begF t.data.toList (j + 2) [42, 47]) (fun j => by simp [begF, Nat.add_comm])]
              cases srch (fun j => begF t.data.toList (j + 2) [42, 47]) 0 (t.size - (0 + 2)) <;> simp [natI]
            have bd : ∀ j, srch (fun j => begF t.data.toList j [42, 47]) 2 (t.size - 2) = some j → 2 ≤ j ∧ j < t.size := fun j h => by have := srch_bd h; omega
            generalize srch (fun j => begF t.data.toList j [42, 47]) 2 (t.size - 2) = o at E IX bd
            have H1 := Lib.hid hb1; have H2 := Lib.hid hb2; have H3 := Lib.hid hb3
            have HI := Lib.hid (Tryd.strings_Index (t.extract 2 t.size) ⟨#[42, 47]⟩ m w (by simp; omega) HM.out)
            rw [show (t.extract 2 t.size).data.toList = t.data.toList.drop 2 from Lib.extract_to_end t 2, show (⟨#[42, 47]⟩ : ByteArray).data.toList = [42, 47] from rfl, IX.out] at HI
            clear hb1 hb2 hb3 hor
            cases o with
            | none =>
              clear bd
              go_enter Tryd.func9, Tryd.ntmps9
              go_wp2_with fail
              refine (Tryd.strings_IndexByte _ _ _).mono ?_
              rintro e w2 ⟨rfl, hw2⟩
              subst hw2
              go_wp2_with fail
              refine (Tryd.strings_HasPrefix _ _ _).mono ?_
              rintro e w3 ⟨rfl, hw3⟩
              subst hw3
              rw [show Lib.hasPrefix t.data.toList (⟨#[92, 10]⟩ : ByteArray).data.toList = false from H1.out]
              go_wp2_with fail
              refine (Tryd.strings_HasPrefix _ _ _).mono ?_
              rintro e w3 ⟨rfl, hw3⟩
              subst hw3
              rw [show Lib.hasPrefix t.data.toList (⟨#[47, 47]⟩ : ByteArray).data.toList = false from H2.out]
              go_wp2_with fail
              refine (Tryd.strings_HasPrefix _ _ _).mono ?_
              rintro e w3 ⟨rfl, hw3⟩
              subst hw3
              rw [show Lib.hasPrefix t.data.toList (⟨#[47, 42]⟩ : ByteArray).data.toList = true from H3.out]
              go_wp2_with fail
              refine HI.out.mono ?_
              rintro e w3 ⟨rfl, hw3⟩
              subst hw3
              simp only [Option.map_none, natI]
              go_wp2_with fail
              go_ret2
              exact ⟨retv (by rw [E.out]; rfl), rfl⟩
            | some j =>
              obtain ⟨bj1, bj2⟩ := bd j rfl
              clear bd
              obtain ⟨j, rfl⟩ : ∃ i, j = i + 2 := ⟨j - 2, by omega⟩
              go_enter Tryd.func9, Tryd.ntmps9
              go_wp2_with fail
              refine (Tryd.strings_IndexByte _ _ _).mono ?_
              rintro e w2 ⟨rfl, hw2⟩
              subst hw2
              go_wp2_with fail
              refine (Tryd.strings_HasPrefix _ _ _).mono ?_
              rintro e w3 ⟨rfl, hw3⟩
              subst hw3
              rw [show Lib.hasPrefix t.data.toList (⟨#[92, 10]⟩ : ByteArray).data.toList = false from H1.out]
              go_wp2_with fail
              refine (Tryd.strings_HasPrefix _ _ _).mono ?_
              rintro e w3 ⟨rfl, hw3⟩
              subst hw3
              rw [show Lib.hasPrefix t.data.toList (⟨#[47, 47]⟩ : ByteArray).data.toList = false from H2.out]
              go_wp2_with fail
              refine (Tryd.strings_HasPrefix _ _ _).mono ?_
              rintro e w3 ⟨rfl, hw3⟩
              subst hw3
              rw [show Lib.hasPrefix t.data.toList (⟨#[47, 42]⟩ : ByteArray).data.toList = true from H3.out]
              go_wp2_with fail
              refine HI.out.mono ?_
              rintro e w3 ⟨rfl, hw3⟩
              subst hw3
              simp only [Option.map_some, natI, Nat.add_sub_cancel]
              go_wp2_with fail
              go_ret2
              exact ⟨retv (by rw [E.out]; simp [pbV]; omega), rfl⟩
        · have E : Hid (R = some ((srch (isNl t.data.toList) 0 t.size).getD t.size, 0)) := HR.out.symm.trans (by
            have hb3 : begF t.data.toList 0 [47, 42] = false := by
              unfold begF at hb2 ⊢
              revert hb2
              cases List.drop 0 t.data.toList with
              | nil => intro h; exact absurd h (by decide)
              | cons x r => cases r with
                | nil => intro _; rw [pre_cons, pre_nilr, Bool.and_false]
                | cons y r =>
                  rw [pre_cons, pre_cons, pre_cons, pre_cons]
                  simp only [Bool.and_eq_true, beq_iff_eq]
                  rintro ⟨_, rfl, _⟩
                  simp
            unfold blankF; rw [h10, hor, hb1, hb2, hb3, hlen.out]; rfl)
          have IX : Hid (Lib.indexByte t.data.toList 10 = natI (srch (isNl t.data.toList) 0 t.size)) := by
            unfold Hid
            rw [ixb_srch, hlen.out]; rfl
          have bd : ∀ j, srch (isNl t.data.toList) 0 t.size = some j → j < t.size := fun j h => by have := srch_bd h; omega
          generalize srch (isNl t.data.toList) 0 t.size = o at E IX bd
          have H1 := Lib.hid hb1; have H2 := Lib.hid hb2
          clear hb1 hb2 hor
          cases o with
          | none =>
            clear bd
            go_enter Tryd.func9, Tryd.ntmps9
            go_wp2_with fail
            refine (Tryd.strings_IndexByte _ _ _).mono ?_
            rintro e w2 ⟨rfl, hw2⟩
            subst hw2
            go_wp2_with fail
            refine (Tryd.strings_HasPrefix _ _ _).mono ?_
            rintro e w3 ⟨rfl, hw3⟩
            subst hw3
            rw [show Lib.hasPrefix t.data.toList (⟨#[92, 10]⟩ : ByteArray).data.toList = false from H1.out]
            go_wp2_with fail
            refine (Tryd.strings_HasPrefix _ _ _).mono ?_
            rintro e w3 ⟨rfl, hw3⟩
            subst hw3
            rw [show Lib.hasPrefix t.data.toList (⟨#[47, 47]⟩ : ByteArray).data.toList = true from H2.out]
            go_wp2_with fail
            refine (Tryd.strings_IndexByte _ _ _).mono ?_
            rintro e w3 ⟨rfl, hw3⟩
            subst hw3
            rw [show Lib.indexByte t.data.toList ((10 : Int).toNat.toUInt8) = -1 from IX.out]
            go_wp2_with fail
            go_ret2
            exact ⟨retv (by rw [E.out]; rfl), rfl⟩
          | some j =>
            have bj := bd j rfl
            clear bd
            go_enter Tryd.func9, Tryd.ntmps9
            go_wp2_with fail
            refine (Tryd.strings_IndexByte _ _ _).mono ?_
            rintro e w2 ⟨rfl, hw2⟩
            subst hw2
            go_wp2_with fail
            refine (Tryd.strings_HasPrefix _ _ _).mono ?_
            rintro e w3 ⟨rfl, hw3⟩
            subst hw3
            rw [show Lib.hasPrefix t.data.toList (⟨#[92, 10]⟩ : ByteArray).data.toList = false from H1.out]
            go_wp2_with fail
            refine (Tryd.strings_HasPrefix _ _ _).mono ?_
            rintro e w3 ⟨rfl, hw3⟩
            subst hw3
            rw [show Lib.hasPrefix t.data.toList (⟨#[47, 47]⟩ : ByteArray).data.toList = true from H2.out]
            go_wp2_with fail
            refine (Tryd.strings_IndexByte _ _ _).mono ?_
            rintro e w3 ⟨rfl, hw3⟩
            subst hw3
            rw [show Lib.indexByte t.data.toList ((10 : Int).toNat.toUInt8) = (j : Int) from IX.out]
            go_wp2_with fail
            go_ret2
            exact ⟨retv (by rw [E.out]; rfl), rfl⟩
      · have E : Hid (R = some (2, 0)) := HR.out.symm.trans (by unfold blankF; rw [h10, hor, hb1]; rfl)
        have H1 := Lib.hid hb1
        clear hb1 hor
        go_enter Tryd.func9, Tryd.ntmps9
        go_wp2_with fail
        refine (Tryd.strings_IndexByte _ _ _).mono ?_
        rintro e w2 ⟨rfl, hw2⟩
        subst hw2
        go_wp2_with fail
        refine (Tryd.strings_HasPrefix _ _ _).mono ?_
        rintro e w3 ⟨rfl, hw3⟩
        subst hw3
        rw [show Lib.hasPrefix t.data.toList (⟨#[92, 10]⟩ : ByteArray).data.toList = true from H1.out]
        go_wp2_with fail
        go_ret2
        exact ⟨retv (by rw [E.out]; rfl), rfl⟩
    · have E : Hid (R = some (1, 0)) := HR.out.symm.trans (by unfold blankF; rw [h10, hor]; rfl)
      have iN : 0 ≤ Lib.indexByte [32, 9, 12, 13] t[0] := by rw [hor] at ib; exact of_decide_eq_true ib
      clear ib hor
      go_enter Tryd.func9, Tryd.ntmps9
      go_wp2_with fail
      refine (Tryd.strings_IndexByte _ _ _).mono ?_
      rintro e w2 ⟨rfl, hw2⟩
      subst hw2
      go_wp2_with fail
      go_ret2
      exact ⟨retv (by rw [E.out]; rfl), rfl⟩
  · have E : Hid (R = some (1, 1)) := HR.out.symm.trans (by unfold blankF; rw [h10]; rfl)
    go_enter Tryd.func9, Tryd.ntmps9
    go_wp2
    go_ret2
    exact ⟨retv (by rw [E.out]; rfl), rfl⟩
end
end Go.Proofs.YtmnkbjjffgcdmaaDoor

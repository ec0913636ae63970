/- Part of the proof of SyntaxLooseCardSaid (LCx LDx LEx). -/
import Derived.Test.YthkebhjaaikopaaGreatDoorM33
import Derived.Test.YthkebhjaaikopaaGreatDoorShelf
set_option maxHeartbeats 8000000
namespace Go.Proofs.YthkebhjaaikopaaGreatDoor.Lx
open Go.ChangeShapes Go.WideShapes Go.ChangeAt Go.RowKit
section
variable (t : ByteArray) (m : Int) (w : World) (h1 : 1 ≤ t.size) (hs : t.size ≤ 65535) (hm : w.cell? ⟨4, 0, none⟩ = some (.int .i64 m)) (R : Option (Int × Nat))
include h1 hs hm
end
theorem fw (p : Nat → Bool) (a : Nat) : ∀ n i, bq p (i + a) n = (bq (fun j => p (j + a)) i n).map (· + a)
  | 0, _ => rfl
  | n + 1, i => by
    unfold bq
    by_cases h : p (i + a) = true
    · rw [if_pos h, if_pos h]; rfl
    · rw [if_neg h, if_neg h, show i + a + 1 = (i + 1) + a by omega, fw p a n (i + 1)]
theorem ir {p q : Nat → Bool} (h : ∀ j, p j = q j) (i n : Nat) : bq p i n = bq q i n := by rw [show p = q from funext h]
theorem uG : ∀ c : Fin 256, decide (0 ≤ Lib.indexByte [32, 9, 12, 13] ((c.val : Int).toNat.toUInt8)) = ((c.val : Int) == 32 || (c.val : Int) == 9 || (c.val : Int) == 12 || (c.val : Int) == 13) := by decide +kernel
theorem uy (c : UInt8) : decide (0 ≤ Lib.indexByte [32, 9, 12, 13] c) = ((c.toNat : Int) == 32 || (c.toNat : Int) == 9 || (c.toNat : Int) == 12 || (c.toNat : Int) == 13) := by
  have := uG ⟨c.toNat, c.toNat_lt⟩; simpa using this
def tz : Option (Nat × Nat) → Value
  | some (n, k) => .tuple #[.int .i64 n, .int .i64 k]
  | none => .tuple #[.int .i64 (-1), .int .i64 0]
section
variable (t : ByteArray) (w : World) (h1 : 0 < t.size) (hc : (t[0].toNat : Int) ≠ 47 ∧ (t[0].toNat : Int) ≠ 92)
include h1 hc
theorem nf : Calls Tryz.prog 70 #[.string t] w fun e w' => e = .returned (tz (aP (t[0].toNat : Int) t.data.toList 0)) ∧ w = w' := by
  obtain ⟨R, HR0⟩ : ∃ R, aP (t[0].toNat : Int) t.data.toList 0 = R := ⟨_, rfl⟩; rw [HR0]; have HR := qd HR0; clear HR0; have hb : ∀ x y : UInt8, (t[0].toNat : Int) ≠ (x.toNat : Int) → bL t.data.toList 0 [x, y] = false := fun x y h => by
    have e := q8 t 0 h1; unfold bL; cases hl : t.data.toList with
    | nil => rfl
    | cons b r =>
      rw [hl] at e; have e2 : b = t[0] := e; rw [show [x, y].isPrefixOf (List.drop 0 (b :: r)) = (x == b && [y].isPrefixOf r) from rfl, beq_false_of_ne (fun q => h (by rw [← e2, q])), Bool.false_and]
  have hb1 := hb 92 10 hc.2; have hb2 := hb 47 47 hc.1; have hb3 := hb 47 42 hc.1; clear hb hc; have hlen : Hid (t.data.toList.length = t.size) := rfl; cases h10 : ((t[0].toNat : Int) == 10)
  · have ib := uy t[0]; cases hor : ((t[0].toNat : Int) == 32 || (t[0].toNat : Int) == 9 || (t[0].toNat : Int) == 12 || (t[0].toNat : Int) == 13)
    · have iN : Lib.indexByte [32, 9, 12, 13] t[0] < 0 := by rw [hor] at ib; have := of_decide_eq_false ib; omega
      clear ib; have E : Hid (R = some (0, 0)) := HR.out.symm.trans (by unfold aP; rw [h10, hor, hb1, hb2, hb3]; rfl); have H1 := qd hb1; have H2 := qd hb2; have H3 := qd hb3; clear hb1 hb2 hb3 hor; go_enter Tryz.func70, Tryz.ntmps70; go_wp2_with fail; refine (Tryz.strings_IndexByte _ _ _).mono ?_; rintro e w2 ⟨rfl, hw2⟩; subst hw2; go_wp2_with fail; refine (Tryz.strings_HasPrefix _ _ _).mono ?_; rintro e w3 ⟨rfl, hw3⟩; subst hw3; rw [show Lib.hasPrefix t.data.toList (⟨#[92, 10]⟩ : ByteArray).data.toList = false from H1.out]; go_wp2_with fail; refine (Tryz.strings_HasPrefix _ _ _).mono ?_; rintro e w3 ⟨rfl, hw3⟩; subst hw3; rw [show Lib.hasPrefix t.data.toList (⟨#[47, 47]⟩ : ByteArray).data.toList = false from H2.out]; go_wp2_with fail; refine (Tryz.strings_HasPrefix _ _ _).mono ?_; rintro e w3 ⟨rfl, hw3⟩; subst hw3; rw [show Lib.hasPrefix t.data.toList (⟨#[47, 42]⟩ : ByteArray).data.toList = false from H3.out]; go_wp2_with fail
      go_ret2
      exact ⟨gk (by rw [E.out]; rfl), rfl⟩
    · have E : Hid (R = some (1, 0)) := HR.out.symm.trans (by unfold aP; rw [h10, hor]; rfl); have iN : 0 ≤ Lib.indexByte [32, 9, 12, 13] t[0] := by rw [hor] at ib; exact of_decide_eq_true ib
      clear ib hor; go_enter Tryz.func70, Tryz.ntmps70; go_wp2_with fail; refine (Tryz.strings_IndexByte _ _ _).mono ?_; rintro e w2 ⟨rfl, hw2⟩; subst hw2; go_wp2_with fail
      go_ret2
      exact ⟨gk (by rw [E.out]; rfl), rfl⟩
  · have E : Hid (R = some (1, 1)) := HR.out.symm.trans (by unfold aP; rw [h10]; rfl); go_enter Tryz.func70, Tryz.ntmps70; go_wp2
    go_ret2
    exact ⟨gk (by rw [E.out]; rfl), rfl⟩
end
end Go.Proofs.YthkebhjaaikopaaGreatDoor.Lx

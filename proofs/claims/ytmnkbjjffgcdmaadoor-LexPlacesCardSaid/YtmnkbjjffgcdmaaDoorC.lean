/-
  Contracts of lex's textual, and of its quoted, part by part. Conditions: a place inside the text, which is at most 65535 bytes long; what Cut gives.
-/
import Derived.Test.YtmnkbjjffgcdmaaDoorB
import Derived.Test.YtmnkbjjffgcdmaaDoorShelf
namespace Go.Proofs.YtmnkbjjffgcdmaaDoor
open Go.ChangeShapes Go.WideShapes Go.ChangeAt Go.RowKit
def txR (a : Nat) : Option Nat → Value
  | some e => if 202 + a < e then .tuple #[.int .i64 0, .int .i64 5] else .tuple #[.int .i64 e, .int .i64 0]
  | none => .tuple #[.int .i64 0, .int .i64 3]
set_option maxHeartbeats 2000000 in
theorem textual_any (s : ByteArray) (a : Nat) (w : World) (ha : a < s.size) (hs : s.size ≤ 65535) :
    Calls Tryd.prog 21 #[.string s, .int .i64 a] w fun e w' => e = .returned (txR a (txtF s.data.toList a)) ∧ w = w' := by
  have hlen : Hid (s.data.toList.length = s.size) := rfl
  obtain ⟨T, HT⟩ : ∃ T, Hid (txtF s.data.toList a = T) := ⟨_, rfl⟩
  rw [HT.out]
  go_enter Tryd.func21, Tryd.ntmps21
  go_wp2
  go_loop [6] (fun i => ∃ k f : Nat, a + 1 ≤ k ∧ k ≤ s.size + 1 ∧ s.size + 1 ≤ k + f ∧ i = .int .i64 k ∧ T = txt s.data.toList f k) (fun i => s.size + 1 - (intOf i).toNat)
  case atStart => exact ⟨a + 1, s.size + 2, by omega, by omega, by omega, by go_num, by rw [← HT.out]; rfl⟩
  case round =>
    obtain ⟨k, f, hk1, hk2, hf, rfl, ht⟩ := hrel
    have H := Lib.hid ht; clear ht
    by_cases hlt : k < s.size
    · obtain ⟨f, rfl⟩ : ∃ g, f = g + 1 := ⟨f - 1, by omega⟩
      have b34 := bt_int s k hlt 34
      have b10 := bt_int s k hlt 10
      have b92 := bt_int s k hlt 92
      by_cases c10 : bt s.data.toList k = 10
      · have E : Hid (T = none) := H.out.trans (by rw [txt, if_neg (by rw [hlen.out]; omega), if_neg (by rw [c10]; decide), if_pos c10])
        have g10 : ((s[k].toNat : Int) != 10) = false := by rw [bne, b10, c10]; rfl
        clear b34 b10 b92 c10
        go_wp2
        go_ret2
        refine ⟨retv ?_, rfl⟩
        rw [E.out]; rfl
      · have g10 : ((s[k].toNat : Int) != 10) = true := by rw [bne, b10, decide_eq_false c10]; rfl
        by_cases c34 : bt s.data.toList k = 34
        · have E : Hid (T = some (k + 1)) := H.out.trans (by rw [txt, if_neg (by rw [hlen.out]; omega), if_pos c34])
          have g34 : ((s[k].toNat : Int) == 34) = true := by rw [b34, c34]; rfl
          clear b34 b10 b92 c34
          by_cases hl : 200 < (k : Int) - a - 1
          · go_wp2
            go_ret2
            refine ⟨retv ?_, rfl⟩
            rw [E.out]; simp only [txR]; rw [if_pos (by omega)]; rfl
          · go_wp2
            go_ret2
            refine ⟨retv ?_, rfl⟩
            rw [E.out]; simp only [txR]; rw [if_neg (by omega)]; rfl
        · have g34 : ((s[k].toNat : Int) == 34) = false := by rw [b34]; exact decide_eq_false c34
          by_cases c92 : bt s.data.toList k = 92
          · have g92 : ((s[k].toNat : Int) == 92) = true := by rw [b92, c92]; rfl
            have E : Hid (T = if k + 1 < s.size ∧ bt s.data.toList (k + 1) = 10 then none else txt s.data.toList f (k + 2)) := H.out.trans (by rw [txt, if_neg (by rw [hlen.out]; omega), if_neg c34, if_neg c10, if_pos c92, hlen.out])
            clear b34 b10 b92 c34 c10 c92
            by_cases hlt1 : k + 1 < s.size
            · have hlti : (k : Int) + 1 < s.size := by omega
              have b := bt_int s (k + 1) hlt1 10
              by_cases c1 : bt s.data.toList (k + 1) = 10
              · have g1 : ((s[k + 1].toNat : Int) != 10) = false := by rw [bne, b, c1]; rfl
                have E2 : Hid (T = txt s.data.toList f (k + 1)) := by
                  obtain ⟨g, rfl⟩ : ∃ g, f = g + 1 := ⟨f - 1, by omega⟩
                  exact E.out.trans (by rw [if_pos ⟨hlt1, c1⟩, txt, if_neg (by rw [hlen.out]; omega), if_neg (by rw [c1]; decide), if_pos c1])
                clear b c1
                go_wp2
                go_round
                case rel => exact ⟨k + 1, f, by omega, by omega, by omega, by go_num, E2.out⟩
                case measure => simp [intOf]; omega
              · have g1 : ((s[k + 1].toNat : Int) != 10) = true := by rw [bne, b, decide_eq_false c1]; rfl
                have E2 : Hid (T = txt s.data.toList f (k + 2)) := E.out.trans (by rw [if_neg (fun h => c1 h.2)])
                clear b c1
                go_wp2
                go_round
                case rel => exact ⟨k + 2, f, by omega, by omega, by omega, by go_num, E2.out⟩
                case measure => simp [intOf]; omega
            · have hlti : ¬ (k : Int) + 1 < s.size := by omega
              have E2 : Hid (T = txt s.data.toList f (k + 1)) := E.out.trans (by rw [if_neg (fun h => hlt1 h.1), txt_end (by rw [hlen.out]; omega), txt_end (by rw [hlen.out]; omega)])
              go_wp2
              go_round
              case rel => exact ⟨k + 1, f, by omega, by omega, by omega, by go_num, E2.out⟩
              case measure => simp [intOf]; omega
          · have g92 : ((s[k].toNat : Int) == 92) = false := by rw [b92]; exact decide_eq_false c92
            have E : Hid (T = txt s.data.toList f (k + 1)) := H.out.trans (by rw [txt, if_neg (by rw [hlen.out]; omega), if_neg c34, if_neg c10, if_neg c92])
            clear b34 b10 b92 c34 c10 c92
            go_wp2
            go_round
            case rel => exact ⟨k + 1, f, by omega, by omega, by omega, by go_num, E.out⟩
            case measure => simp [intOf]; omega
    · have E : Hid (T = none) := H.out.trans (txt_end (by rw [hlen.out]; omega) f)
      go_wp2
      go_ret2
      refine ⟨retv ?_, rfl⟩
      rw [E.out]; rfl
theorem cut_at (t : List UInt8) (i : Nat) (h : Lib.index t [39] = i) : Lib.cut t [39] = (t.take i, t.drop (i + 1), true) := by
  simp [Lib.cut, h]
theorem cut_no (t : List UInt8) (h : Lib.index t [39] = -1) : Lib.cut t [39] = (t, [], false) := by
  simp [Lib.cut, h]
theorem list_ba (l : List UInt8) : (⟨l.toArray⟩ : ByteArray).data.toList = l := rfl
theorem below_drewN {B : Nat} (w : World) (q : Nat) : Below B w (w.drewN q) := ⟨rfl, rfl, rfl, Nat.le_refl _, fun _ _ => rfl⟩
theorem wrap_byte (b : UInt8) : wrap64 (b.toNat : Int) = (b.toNat : Int) := IntWalk.wrap64_in _ (by have := b.toNat_lt; constructor <;> omega)
theorem idx_else (b : UInt8) (h : b ≠ 110 ∧ b ≠ 10 ∧ b ≠ 116 ∧ b ≠ 9 ∧ b ≠ 48 ∧ b ≠ 0 ∧ b ≠ 92 ∧ b ≠ 39) : Lib.indexByte [110, 10, 116, 9, 48, 0, 92, 92, 39, 39] b = -1 := by
  obtain ⟨h1, h2, h3, h4, h5, h6, h7, h8⟩ := h
  simp [Lib.indexByte, h1.symm, h2.symm, h3.symm, h4.symm, h5.symm, h6.symm, h7.symm, h8.symm]
theorem esc_else (b : UInt8) (h : b ≠ 110 ∧ b ≠ 116 ∧ b ≠ 48 ∧ b ≠ 92 ∧ b ≠ 39) : escF b.toNat = none := by
  obtain ⟨h1, h2, h3, h4, h5⟩ := h
  have f : ∀ k : UInt8, b ≠ k → ¬ ((b.toNat : Int) = (k.toNat : Int)) := fun k hk e => hk (UInt8.toNat_inj.1 (by omega))
  unfold escF
  rw [if_neg (show ¬ ((b.toNat : Int) = 110) from f 110 h1), if_neg (show ¬ ((b.toNat : Int) = 116) from f 116 h2), if_neg (show ¬ ((b.toNat : Int) = 48) from f 48 h3), if_neg (show ¬ ((b.toNat : Int) = 92) from f 92 h4), if_neg (show ¬ ((b.toNat : Int) = 39) from f 39 h5)]
section
variable (t : ByteArray) (m : Int) (w : World) (h1 : 1 ≤ t.size) (hs : t.size ≤ 65535) (hm : w.cell? ⟨2, 0, none⟩ = some (.int .i64 m)) (R : Option (Int × Nat))
include h1 hs hm
/-- The quote is missing. -/
theorem quoted_no (hcut : Lib.cut (t.data.toList.drop 1) [39] = (t.data.toList.drop 1, [], false)) (hp : Lib.hasPrefix t.data.toList [39, 92, 39, 39] = false) (hR : R = none) :
    Calls Tryd.prog 22 #[.string t] w fun e w' => e = .returned (chV R) ∧ Below w.heap.size w w' := by
  subst hR
  have HC := Lib.hid (Tryd.strings_Cut (t.extract 1 t.size) ⟨#[39]⟩ m w (by simp; omega) hm)
  have e1 : (t.extract 1 t.size).data.toList = t.data.toList.drop 1 := Lib.extract_to_end t 1
  rw [e1, list_ba, hcut] at HC
  clear e1 hcut hm
  have HP := Lib.hid hp; clear hp
  obtain ⟨B, hB⟩ : ∃ B : List UInt8, t.data.toList.drop 1 = B := ⟨_, rfl⟩
  have hBl : B.length + 1 = t.size := by rw [← hB]; have : t.data.toList.length = t.size := rfl; simp; omega
  rw [hB] at HC
  clear hB
  have q1 : ((B.length : Int) == (t.size : Int) - 1) = true := by simp; omega
  go_enter Tryd.func22, Tryd.ntmps22
  go_wp2_with fail
  refine HC.out.mono ?_
  rintro e w1 ⟨rfl, n, rfl⟩
  go_wp2_with fail
  refine (Tryd.strings_HasPrefix _ _ _).mono ?_
  rintro e w2 ⟨rfl, hw2⟩
  subst hw2
  rw [show (⟨#[39, 92, 39, 39]⟩ : ByteArray).data.toList = [39, 92, 39, 39] from rfl, HP.out]
  go_wp2
  go_ret2
  exact ⟨rfl, below_drewN _ _⟩
/-- One byte in quotes. -/
theorem quoted_1 (b1 : UInt8) (r : List UInt8) (hcut : Lib.cut (t.data.toList.drop 1) [39] = ([b1], r, true)) (hr : r.length + 3 = t.size) (hp : Lib.hasPrefix t.data.toList [39, 92, 39, 39] = false)
    (hR : R = if b1 = 92 ∨ b1 = 10 then none else some ((b1.toNat : Int), 3)) :
    Calls Tryd.prog 22 #[.string t] w fun e w' => e = .returned (chV R) ∧ Below w.heap.size w w' := by
  have HC := Lib.hid (Tryd.strings_Cut (t.extract 1 t.size) ⟨#[39]⟩ m w (by simp; omega) hm)
  have e1 : (t.extract 1 t.size).data.toList = t.data.toList.drop 1 := Lib.extract_to_end t 1
  rw [e1, list_ba, hcut] at HC
  clear e1 hcut hm
  have HP := Lib.hid hp; clear hp
  have q1 : ((1 : Int) == (t.size : Int) - 1) = false := by simp; omega
  have q2 : ((r.length : Int) + 1 + 2 != (t.size : Int)) = false := by simp; omega
  have hby : (b1.toNat : Int) ≤ 255 := by have := b1.toNat_lt; omega
  have HE := Lib.hid hR; clear hR
  by_cases c1 : b1 = 92
  · subst c1
    go_enter Tryd.func22, Tryd.ntmps22
    go_wp2_with fail
    refine HC.out.mono ?_
    rintro e w1 ⟨rfl, n, rfl⟩
    go_wp2_with fail
    refine (Tryd.strings_HasPrefix _ _ _).mono ?_
    rintro e w2 ⟨rfl, hw2⟩
    subst hw2
    rw [show (⟨#[39, 92, 39, 39]⟩ : ByteArray).data.toList = [39, 92, 39, 39] from rfl, HP.out]
    go_wp2
    go_ret2
    exact ⟨retv (by rw [HE.out]; rfl), below_drewN _ _⟩
  by_cases c2 : b1 = 10
  · subst c2
    go_enter Tryd.func22, Tryd.ntmps22
    go_wp2_with fail
    refine HC.out.mono ?_
    rintro e w1 ⟨rfl, n, rfl⟩
    go_wp2_with fail
    refine (Tryd.strings_HasPrefix _ _ _).mono ?_
    rintro e w2 ⟨rfl, hw2⟩
    subst hw2
    rw [show (⟨#[39, 92, 39, 39]⟩ : ByteArray).data.toList = [39, 92, 39, 39] from rfl, HP.out]
    go_wp2
    go_ret2
    exact ⟨retv (by rw [HE.out]; rfl), below_drewN _ _⟩
  have d1 : (b1 == 92) = false := by simpa using c1
  have d2 : (b1 == 10) = false := by simpa using c2
  go_enter Tryd.func22, Tryd.ntmps22
  go_wp2_with fail
  refine HC.out.mono ?_
  rintro e w1 ⟨rfl, n, rfl⟩
  go_wp2_with fail
  refine (Tryd.strings_HasPrefix _ _ _).mono ?_
  rintro e w2 ⟨rfl, hw2⟩
  subst hw2
  rw [show (⟨#[39, 92, 39, 39]⟩ : ByteArray).data.toList = [39, 92, 39, 39] from rfl, HP.out]
  go_wp2
  go_ret2
  exact ⟨retv (by rw [HE.out, if_neg (by simp [c1, c2])]; simp [chV]; exact wrap_byte _), below_drewN _ _⟩
/-- An escape that is none. -/
theorem quoted_2n (b1 b2 : UInt8) (r : List UInt8) (hcut : Lib.cut (t.data.toList.drop 1) [39] = ([b1, b2], r, true)) (hr : r.length + 4 = t.size) (hp : Lib.hasPrefix t.data.toList [39, 92, 39, 39] = false)
    (hR : R = none) (hb : b1 ≠ 92) :
    Calls Tryd.prog 22 #[.string t] w fun e w' => e = .returned (chV R) ∧ Below w.heap.size w w' := by
  have HC := Lib.hid (Tryd.strings_Cut (t.extract 1 t.size) ⟨#[39]⟩ m w (by simp; omega) hm)
  have e1 : (t.extract 1 t.size).data.toList = t.data.toList.drop 1 := Lib.extract_to_end t 1
  rw [e1, list_ba, hcut] at HC
  clear e1 hcut hm
  have HP := Lib.hid hp; clear hp
  have q1 : ((2 : Int) == (t.size : Int) - 1) = false := by simp; omega
  have q2 : ((r.length : Int) + 2 + 2 != (t.size : Int)) = false := by simp; omega
  have HE := Lib.hid hR; clear hR
  have d1 : ((b1.toNat : Int) == 92) = false := by
    have := byte_int b1 92
    rw [show ((92 : UInt8).toNat : Int) = 92 from rfl] at this
    rw [← this]; simpa using hb
  have d2 : ((((⟨#[b1, b2]⟩ : ByteArray)[0]'(Nat.zero_lt_succ 1)).toNat : Int) == 92) = false := d1
  go_enter Tryd.func22, Tryd.ntmps22
  go_wp2_with fail
  refine HC.out.mono ?_
  rintro e w1 ⟨rfl, n, rfl⟩
  go_wp2_with fail
  refine (Tryd.strings_HasPrefix _ _ _).mono ?_
  rintro e w2 ⟨rfl, hw2⟩
  subst hw2
  rw [show (⟨#[39, 92, 39, 39]⟩ : ByteArray).data.toList = [39, 92, 39, 39] from rfl, HP.out]
  go_wp2_with fail
  go_wp2
  go_ret2
  exact ⟨retv (by rw [HE.out]; rfl), below_drewN _ _⟩
/-- An escape. -/
theorem quoted_2 (b2 : UInt8) (r : List UInt8) (hcut : Lib.cut (t.data.toList.drop 1) [39] = ([92, b2], r, true)) (hr : r.length + 4 = t.size) (hp : Lib.hasPrefix t.data.toList [39, 92, 39, 39] = false)
    (hR : R = (escF b2.toNat).map fun v => (v, 4)) (h39 : b2 ≠ 39) :
    Calls Tryd.prog 22 #[.string t] w fun e w' => e = .returned (chV R) ∧ Below w.heap.size w w' := by
  have HC := Lib.hid (Tryd.strings_Cut (t.extract 1 t.size) ⟨#[39]⟩ m w (by simp; omega) hm)
  have e1 : (t.extract 1 t.size).data.toList = t.data.toList.drop 1 := Lib.extract_to_end t 1
  rw [e1, list_ba, hcut] at HC
  clear e1 hcut hm
  have HP := Lib.hid hp; clear hp
  have q1 : ((2 : Int) == (t.size : Int) - 1) = false := by simp; omega
  have q2 : ((r.length : Int) + 2 + 2 != (t.size : Int)) = false := by simp; omega
  have HE := Lib.hid hR; clear hR
  have d2 : ((((⟨#[92, b2]⟩ : ByteArray)[0]'(Nat.zero_lt_succ 1)).toNat : Int) == 92) = true := rfl
  by_cases c110 : b2 = 110
  · subst c110
    have HE2 := Lib.hid (HE.out.trans (show _ = some (10, 4) by decide))
    go_enter Tryd.func22, Tryd.ntmps22
    go_wp2_with fail
    refine HC.out.mono ?_
    rintro e w1 ⟨rfl, n, rfl⟩
    go_wp2_with fail
    refine (Tryd.strings_HasPrefix _ _ _).mono ?_
    rintro e w2 ⟨rfl, hw2⟩
    subst hw2
    rw [show (⟨#[39, 92, 39, 39]⟩ : ByteArray).data.toList = [39, 92, 39, 39] from rfl, HP.out]
    go_wp2_with fail
    refine (Tryd.strings_IndexByte _ _ _).mono ?_
    rintro e w2 ⟨rfl, hw2⟩
    subst hw2
    rw [show Lib.indexByte (⟨#[110, 10, 116, 9, 48, 0, 92, 92, 39, 39]⟩ : ByteArray).data.toList (((((⟨#[92, 110]⟩ : ByteArray)[1]'(Nat.succ_lt_succ (Nat.zero_lt_succ 0))).toNat : Int)).toNat.toUInt8) = 0 from by decide]
    go_wp2
    go_ret2
    exact ⟨retv (by rw [HE2.out]; exact congrArg (fun z => Value.tuple #[.int .i64 z, .int .i64 4]) (wrap_byte 10)), below_drewN _ _⟩
  by_cases c116 : b2 = 116
  · subst c116
    have HE2 := Lib.hid (HE.out.trans (show _ = some (9, 4) by decide))
    go_enter Tryd.func22, Tryd.ntmps22
    go_wp2_with fail
    refine HC.out.mono ?_
    rintro e w1 ⟨rfl, n, rfl⟩
    go_wp2_with fail
    refine (Tryd.strings_HasPrefix _ _ _).mono ?_
    rintro e w2 ⟨rfl, hw2⟩
    subst hw2
    rw [show (⟨#[39, 92, 39, 39]⟩ : ByteArray).data.toList = [39, 92, 39, 39] from rfl, HP.out]
    go_wp2_with fail
    refine (Tryd.strings_IndexByte _ _ _).mono ?_
    rintro e w2 ⟨rfl, hw2⟩
    subst hw2
    rw [show Lib.indexByte (⟨#[110, 10, 116, 9, 48, 0, 92, 92, 39, 39]⟩ : ByteArray).data.toList (((((⟨#[92, 116]⟩ : ByteArray)[1]'(Nat.succ_lt_succ (Nat.zero_lt_succ 0))).toNat : Int)).toNat.toUInt8) = 2 from by decide]
    go_wp2
    go_ret2
    exact ⟨retv (by rw [HE2.out]; exact congrArg (fun z => Value.tuple #[.int .i64 z, .int .i64 4]) (wrap_byte 9)), below_drewN _ _⟩
  by_cases c48 : b2 = 48
  · subst c48
    have HE2 := Lib.hid (HE.out.trans (show _ = some (0, 4) by decide))
    go_enter Tryd.func22, Tryd.ntmps22
    go_wp2_with fail
    refine HC.out.mono ?_
    rintro e w1 ⟨rfl, n, rfl⟩
    go_wp2_with fail
    refine (Tryd.strings_HasPrefix _ _ _).mono ?_
    rintro e w2 ⟨rfl, hw2⟩
    subst hw2
    rw [show (⟨#[39, 92, 39, 39]⟩ : ByteArray).data.toList = [39, 92, 39, 39] from rfl, HP.out]
    go_wp2_with fail
    refine (Tryd.strings_IndexByte _ _ _).mono ?_
    rintro e w2 ⟨rfl, hw2⟩
    subst hw2
    rw [show Lib.indexByte (⟨#[110, 10, 116, 9, 48, 0, 92, 92, 39, 39]⟩ : ByteArray).data.toList (((((⟨#[92, 48]⟩ : ByteArray)[1]'(Nat.succ_lt_succ (Nat.zero_lt_succ 0))).toNat : Int)).toNat.toUInt8) = 4 from by decide]
    go_wp2
    go_ret2
    exact ⟨retv (by rw [HE2.out]; exact congrArg (fun z => Value.tuple #[.int .i64 z, .int .i64 4]) (wrap_byte 0)), below_drewN _ _⟩
  by_cases c92 : b2 = 92
  · subst c92
    have HE2 := Lib.hid (HE.out.trans (show _ = some (92, 4) by decide))
    go_enter Tryd.func22, Tryd.ntmps22
    go_wp2_with fail
    refine HC.out.mono ?_
    rintro e w1 ⟨rfl, n, rfl⟩
    go_wp2_with fail
    refine (Tryd.strings_HasPrefix _ _ _).mono ?_
    rintro e w2 ⟨rfl, hw2⟩
    subst hw2
    rw [show (⟨#[39, 92, 39, 39]⟩ : ByteArray).data.toList = [39, 92, 39, 39] from rfl, HP.out]
    go_wp2_with fail
    refine (Tryd.strings_IndexByte _ _ _).mono ?_
    rintro e w2 ⟨rfl, hw2⟩
    subst hw2
    rw [show Lib.indexByte (⟨#[110, 10, 116, 9, 48, 0, 92, 92, 39, 39]⟩ : ByteArray).data.toList (((((⟨#[92, 92]⟩ : ByteArray)[1]'(Nat.succ_lt_succ (Nat.zero_lt_succ 0))).toNat : Int)).toNat.toUInt8) = 6 from by decide]
    go_wp2
    go_ret2
    exact ⟨retv (by rw [HE2.out]; exact congrArg (fun z => Value.tuple #[.int .i64 z, .int .i64 4]) (wrap_byte 92)), below_drewN _ _⟩
  by_cases c10 : b2 = 10
  · subst c10
    have HE2 := Lib.hid (HE.out.trans (show _ = none by decide))
    go_enter Tryd.func22, Tryd.ntmps22
    go_wp2_with fail
    refine HC.out.mono ?_
    rintro e w1 ⟨rfl, n, rfl⟩
    go_wp2_with fail
    refine (Tryd.strings_HasPrefix _ _ _).mono ?_
    rintro e w2 ⟨rfl, hw2⟩
    subst hw2
    rw [show (⟨#[39, 92, 39, 39]⟩ : ByteArray).data.toList = [39, 92, 39, 39] from rfl, HP.out]
    go_wp2_with fail
    refine (Tryd.strings_IndexByte _ _ _).mono ?_
    rintro e w2 ⟨rfl, hw2⟩
    subst hw2
    rw [show Lib.indexByte (⟨#[110, 10, 116, 9, 48, 0, 92, 92, 39, 39]⟩ : ByteArray).data.toList (((((⟨#[92, 10]⟩ : ByteArray)[1]'(Nat.succ_lt_succ (Nat.zero_lt_succ 0))).toNat : Int)).toNat.toUInt8) = 1 from by decide]
    go_wp2
    go_ret2
    exact ⟨retv (by rw [HE2.out]; rfl), below_drewN _ _⟩
  by_cases c9 : b2 = 9
  · subst c9
    have HE2 := Lib.hid (HE.out.trans (show _ = none by decide))
    go_enter Tryd.func22, Tryd.ntmps22
    go_wp2_with fail
    refine HC.out.mono ?_
    rintro e w1 ⟨rfl, n, rfl⟩
    go_wp2_with fail
    refine (Tryd.strings_HasPrefix _ _ _).mono ?_
    rintro e w2 ⟨rfl, hw2⟩
    subst hw2
    rw [show (⟨#[39, 92, 39, 39]⟩ : ByteArray).data.toList = [39, 92, 39, 39] from rfl, HP.out]
    go_wp2_with fail
    refine (Tryd.strings_IndexByte _ _ _).mono ?_
    rintro e w2 ⟨rfl, hw2⟩
    subst hw2
    rw [show Lib.indexByte (⟨#[110, 10, 116, 9, 48, 0, 92, 92, 39, 39]⟩ : ByteArray).data.toList (((((⟨#[92, 9]⟩ : ByteArray)[1]'(Nat.succ_lt_succ (Nat.zero_lt_succ 0))).toNat : Int)).toNat.toUInt8) = 3 from by decide]
    go_wp2
    go_ret2
    exact ⟨retv (by rw [HE2.out]; rfl), below_drewN _ _⟩
  by_cases c0 : b2 = 0
  · subst c0
    have HE2 := Lib.hid (HE.out.trans (show _ = none by decide))
    go_enter Tryd.func22, Tryd.ntmps22
    go_wp2_with fail
    refine HC.out.mono ?_
    rintro e w1 ⟨rfl, n, rfl⟩
    go_wp2_with fail
    refine (Tryd.strings_HasPrefix _ _ _).mono ?_
    rintro e w2 ⟨rfl, hw2⟩
    subst hw2
    rw [show (⟨#[39, 92, 39, 39]⟩ : ByteArray).data.toList = [39, 92, 39, 39] from rfl, HP.out]
    go_wp2_with fail
    refine (Tryd.strings_IndexByte _ _ _).mono ?_
    rintro e w2 ⟨rfl, hw2⟩
    subst hw2
    rw [show Lib.indexByte (⟨#[110, 10, 116, 9, 48, 0, 92, 92, 39, 39]⟩ : ByteArray).data.toList (((((⟨#[92, 0]⟩ : ByteArray)[1]'(Nat.succ_lt_succ (Nat.zero_lt_succ 0))).toNat : Int)).toNat.toUInt8) = 5 from by decide]
    go_wp2
    go_ret2
    exact ⟨retv (by rw [HE2.out]; rfl), below_drewN _ _⟩
  have HI := Lib.hid (idx_else b2 ⟨c110, c10, c116, c9, c48, c0, c92, h39⟩)
  have HN := Lib.hid (esc_else b2 ⟨c110, c116, c48, c92, h39⟩)
  go_enter Tryd.func22, Tryd.ntmps22
  go_wp2_with fail
  refine HC.out.mono ?_
  rintro e w1 ⟨rfl, n, rfl⟩
  go_wp2_with fail
  refine (Tryd.strings_HasPrefix _ _ _).mono ?_
  rintro e w2 ⟨rfl, hw2⟩
  subst hw2
  rw [show (⟨#[39, 92, 39, 39]⟩ : ByteArray).data.toList = [39, 92, 39, 39] from rfl, HP.out]
  go_wp2_with fail
  refine (Tryd.strings_IndexByte _ _ _).mono ?_
  rintro e w2 ⟨rfl, hw2⟩
  subst hw2
  rw [show Lib.indexByte (⟨#[110, 10, 116, 9, 48, 0, 92, 92, 39, 39]⟩ : ByteArray).data.toList (((((⟨#[92, b2]⟩ : ByteArray)[1]'(Nat.succ_lt_succ (Nat.zero_lt_succ 0))).toNat : Int)).toNat.toUInt8) = -1 from by
    refine Eq.trans (congrArg _ ?_) HI.out
    show (b2.toNat).toUInt8 = b2
    simp]
  go_wp2
  go_ret2
  exact ⟨retv (by rw [HE.out, HN.out]; rfl), below_drewN _ _⟩
/-- No byte, or three and more. -/
theorem quoted_len (B r : List UInt8) (hcut : Lib.cut (t.data.toList.drop 1) [39] = (B, r, true)) (hr : r.length + B.length + 2 = t.size) (hB1 : B.length ≠ 1) (hB2 : B.length ≠ 2) (hp : Lib.hasPrefix t.data.toList [39, 92, 39, 39] = false)
    (hR : R = none) :
    Calls Tryd.prog 22 #[.string t] w fun e w' => e = .returned (chV R) ∧ Below w.heap.size w w' := by
  have HC := Lib.hid (Tryd.strings_Cut (t.extract 1 t.size) ⟨#[39]⟩ m w (by simp; omega) hm)
  have e1 : (t.extract 1 t.size).data.toList = t.data.toList.drop 1 := Lib.extract_to_end t 1
  rw [e1, list_ba, hcut] at HC
  clear e1 hcut hm
  have HP := Lib.hid hp; clear hp
  have q1 : ((B.length : Int) == (t.size : Int) - 1) = false := by simp; omega
  have q2 : ((r.length : Int) + B.length + 2 != (t.size : Int)) = false := by simp; omega
  have q3 : ((B.length : Int) == 1) = false := by simp; omega
  have q4 : ((B.length : Int) == 2) = false := by simp; omega
  have HE := Lib.hid hR; clear hR
  go_enter Tryd.func22, Tryd.ntmps22
  go_wp2_with fail
  refine HC.out.mono ?_
  rintro e w1 ⟨rfl, n, rfl⟩
  go_wp2_with fail
  refine (Tryd.strings_HasPrefix _ _ _).mono ?_
  rintro e w2 ⟨rfl, hw2⟩
  subst hw2
  rw [show (⟨#[39, 92, 39, 39]⟩ : ByteArray).data.toList = [39, 92, 39, 39] from rfl, HP.out]
  go_wp2
  go_ret2
  exact ⟨retv (by rw [HE.out]; rfl), below_drewN _ _⟩
/-- The quote itself. -/
theorem quoted_39 (B r : List UInt8) (ok : Bool) (hcut : Lib.cut (t.data.toList.drop 1) [39] = (B, r, ok)) (hp : Lib.hasPrefix t.data.toList [39, 92, 39, 39] = true) (hR : R = some (39, 4)) :
    Calls Tryd.prog 22 #[.string t] w fun e w' => e = .returned (chV R) ∧ Below w.heap.size w w' := by
  have HC := Lib.hid (Tryd.strings_Cut (t.extract 1 t.size) ⟨#[39]⟩ m w (by simp; omega) hm)
  have e1 : (t.extract 1 t.size).data.toList = t.data.toList.drop 1 := Lib.extract_to_end t 1
  rw [e1, list_ba, hcut] at HC
  clear e1 hcut hm
  have HP := Lib.hid hp; clear hp
  have HE := Lib.hid hR; clear hR
  go_enter Tryd.func22, Tryd.ntmps22
  go_wp2_with fail
  refine HC.out.mono ?_
  rintro e w1 ⟨rfl, n, rfl⟩
  go_wp2_with fail
  refine (Tryd.strings_HasPrefix _ _ _).mono ?_
  rintro e w2 ⟨rfl, hw2⟩
  subst hw2
  rw [show (⟨#[39, 92, 39, 39]⟩ : ByteArray).data.toList = [39, 92, 39, 39] from rfl, HP.out]
  go_wp2
  go_ret2
  exact ⟨retv (by rw [HE.out]; rfl), below_drewN _ _⟩
end
end Go.Proofs.YtmnkbjjffgcdmaaDoor

/- Part of the proof of CompileForCardSaid. -/
import Derived.Test.YthhgndcpeeifeaaGreatDoorE17
import Derived.Test.YthhgndcpeeifeaaGreatDoorShelf
set_option linter.unusedVariables false
set_option linter.unusedSimpArgs false
set_option linter.unusedSectionVars false
set_option linter.constructorNameAsVariable false
namespace Go.Proofs.Lx6
open Go.ChangeShapes Go.WideShapes Go.ChangeAt Go.RowKit
def txR (a : Nat) : Option Nat → Value
  | some e => if 202 + a < e then .tuple #[.int .i64 0, .int .i64 5] else .tuple #[.int .i64 e, .int .i64 0]
  | none => .tuple #[.int .i64 0, .int .i64 3]
set_option maxHeartbeats 2000000 in
theorem textual_any (s : ByteArray) (a : Nat) (w : World) (ha : a < s.size) (hs : s.size ≤ 65535) :
    Calls Tryz.prog 109 #[.string s, .int .i64 a] w fun e w' => e = .returned (txR a (txtF s.data.toList a)) ∧ w = w' := by
  have hlen : Hid (s.data.toList.length = s.size) := rfl
  obtain ⟨T, HT⟩ : ∃ T, Hid (txtF s.data.toList a = T) := ⟨_, rfl⟩
  rw [HT.out]
  go_enter Tryz.func109, Tryz.ntmps109
  go_wp2
  go_loop [6] (fun i => ∃ k f : Nat, a + 1 ≤ k ∧ k ≤ s.size + 1 ∧ s.size + 1 ≤ k + f ∧ i = .int .i64 k ∧ T = txt s.data.toList f k) (fun i => s.size + 1 - (intOf i).toNat)
  case atStart => exact ⟨a + 1, s.size + 2, by omega, by omega, by omega, by go_num, by rw [← HT.out]; rfl⟩
  case round =>
    obtain ⟨k, f, hk1, hk2, hf, rfl, ht⟩ := hrel
    have H := Lib.hid ht; clear ht
    by_cases hlt : k < s.size
    · obtain ⟨f, rfl⟩ : ∃ g, f = g + 1 := ⟨f - 1, by omega⟩
      have b34 := bt_int s k hlt 34
      have b10 := bt_int s k hlt 10
      have b92 := bt_int s k hlt 92
      by_cases c10 : bt s.data.toList k = 10
      · have E : Hid (T = none) := H.out.trans (by rw [txt, if_neg (by rw [hlen.out]; omega), if_neg (by rw [c10]; decide), if_pos c10])
        have g10 : ((s[k].toNat : Int) != 10) = false := by rw [bne, b10, c10]; rfl
        clear b34 b10 b92 c10
        go_wp2
        go_ret2
        refine ⟨retv ?_, rfl⟩
        rw [E.out]; rfl
      · have g10 : ((s[k].toNat : Int) != 10) = true := by rw [bne, b10, decide_eq_false c10]; rfl
        by_cases c34 : bt s.data.toList k = 34
        · have E : Hid (T = some (k + 1)) := H.out.trans (by rw [txt, if_neg (by rw [hlen.out]; omega), if_pos c34])
          have g34 : ((s[k].toNat : Int) == 34) = true := by rw [b34, c34]; rfl
          clear b34 b10 b92 c34
          by_cases hl : 200 < (k : Int) - a - 1
          · go_wp2
            go_ret2
            refine ⟨retv ?_, rfl⟩
            rw [E.out]; simp only [txR]; rw [if_pos (by omega)]; rfl
          · go_wp2
            go_ret2
            refine ⟨retv ?_, rfl⟩
            rw [E.out]; simp only [txR]; rw [if_neg (by omega)]; rfl
        · have g34 : ((s[k].toNat : Int) == 34) = false := by rw [b34]; exact decide_eq_false c34
          by_cases c92 : bt s.data.toList k = 92
          · have g92 : ((s[k].toNat : Int) == 92) = true := by rw [b92, c92]; rfl
            have E : Hid (T = if k + 1 < s.size ∧ bt s.data.toList (k + 1) = 10 then none else txt s.data.toList f (k + 2)) := H.out.trans (by rw [txt, if_neg (by rw [hlen.out]; omega), if_neg c34, if_neg c10, if_pos c92, hlen.out])
            clear b34 b10 b92 c34 c10 c92
            by_cases hlt1 : k + 1 < s.size
            · have hlti : (k : Int) + 1 < s.size := by omega
              have b := bt_int s (k + 1) hlt1 10
              by_cases c1 : bt s.data.toList (k + 1) = 10
              · have g1 : ((s[k + 1].toNat : Int) != 10) = false := by rw [bne, b, c1]; rfl
                have E2 : Hid (T = txt s.data.toList f (k + 1)) := by
                  obtain ⟨g, rfl⟩ : ∃ g, f = g + 1 := ⟨f - 1, by omega⟩
                  exact E.out.trans (by rw [if_pos ⟨hlt1, c1⟩, txt, if_neg (by rw [hlen.out]; omega), if_neg (by rw [c1]; decide), if_pos c1])
                clear b c1
                go_wp2
                go_round
                case rel => exact ⟨k + 1, f, by omega, by omega, by omega, by go_num, E2.out⟩
                case measure => simp [intOf]; omega
              · have g1 : ((s[k + 1].toNat : Int) != 10) = true := by rw [bne, b, decide_eq_false c1]; rfl
                have E2 : Hid (T = txt s.data.toList f (k + 2)) := E.out.trans (by rw [if_neg (fun h => c1 h.2)])
                clear b c1
                go_wp2
                go_round
                case rel => exact ⟨k + 2, f, by omega, by omega, by omega, by go_num, E2.out⟩
                case measure => simp [intOf]; omega
            · have hlti : ¬ (k : Int) + 1 < s.size := by omega
              have E2 : Hid (T = txt s.data.toList f (k + 1)) := E.out.trans (by rw [if_neg (fun h => hlt1 h.1), txt_end (by rw [hlen.out]; omega), txt_end (by rw [hlen.out]; omega)])
              go_wp2
              go_round
              case rel => exact ⟨k + 1, f, by omega, by omega, by omega, by go_num, E2.out⟩
              case measure => simp [intOf]; omega
          · have g92 : ((s[k].toNat : Int) == 92) = false := by rw [b92]; exact decide_eq_false c92
            have E : Hid (T = txt s.data.toList f (k + 1)) := H.out.trans (by rw [txt, if_neg (by rw [hlen.out]; omega), if_neg c34, if_neg c10, if_neg c92])
            clear b34 b10 b92 c34 c10 c92
            go_wp2
            go_round
            case rel => exact ⟨k + 1, f, by omega, by omega, by omega, by go_num, E.out⟩
            case measure => simp [intOf]; omega
    · have E : Hid (T = none) := H.out.trans (txt_end (by rw [hlen.out]; omega) f)
      go_wp2
      go_ret2
      refine ⟨retv ?_, rfl⟩
      rw [E.out]; rfl
theorem cut_at (t : List UInt8) (i : Nat) (h : Lib.index t [39] = i) : Lib.cut t [39] = (t.take i, t.drop (i + 1), true) := by
  simp [Lib.cut, h]
theorem cut_no (t : List UInt8) (h : Lib.index t [39] = -1) : Lib.cut t [39] = (t, [], false) := by
  simp [Lib.cut, h]
theorem list_ba (l : List UInt8) : (⟨l.toArray⟩ : ByteArray).data.toList = l := rfl
theorem below_drewN {B : Nat} (w : World) (q : Nat) : Below B w (w.drewN q) := ⟨rfl, rfl, rfl, Nat.le_refl _, fun _ _ => rfl⟩
theorem wrap_byte (b : UInt8) : wrap64 (b.toNat : Int) = (b.toNat : Int) := IntWalk.wrap64_in _ (by have := b.toNat_lt; constructor <;> omega)
theorem idx_else (b : UInt8) (h : b ≠ 110 ∧ b ≠ 10 ∧ b ≠ 116 ∧ b ≠ 9 ∧ b ≠ 48 ∧ b ≠ 0 ∧ b ≠ 92 ∧ b ≠ 39) : Lib.indexByte [110, 10, 116, 9, 48, 0, 92, 92, 39, 39] b = -1 := by
  obtain ⟨h1, h2, h3, h4, h5, h6, h7, h8⟩ := h
  simp [Lib.indexByte, h1.symm, h2.symm, h3.symm, h4.symm, h5.symm, h6.symm, h7.symm, h8.symm]
theorem esc_else (b : UInt8) (h : b ≠ 110 ∧ b ≠ 116 ∧ b ≠ 48 ∧ b ≠ 92 ∧ b ≠ 39) : escF b.toNat = none := by
  obtain ⟨h1, h2, h3, h4, h5⟩ := h
  have f : ∀ k : UInt8, b ≠ k → ¬ ((b.toNat : Int) = (k.toNat : Int)) := fun k hk e => hk (UInt8.toNat_inj.1 (by omega))
  unfold escF
  rw [if_neg (show ¬ ((b.toNat : Int) = 110) from f 110 h1), if_neg (show ¬ ((b.toNat : Int) = 116) from f 116 h2), if_neg (show ¬ ((b.toNat : Int) = 48) from f 48 h3), if_neg (show ¬ ((b.toNat : Int) = 92) from f 92 h4), if_neg (show ¬ ((b.toNat : Int) = 39) from f 39 h5)]
section
variable (t : ByteArray) (m : Int) (w : World) (h1 : 1 ≤ t.size) (hs : t.size ≤ 65535) (hm : w.cell? ⟨4, 0, none⟩ = some (.int .i64 m)) (R : Option (Int × Nat))
include h1 hs hm
/-- The quote is missing. -/
theorem quoted_no (hcut : Lib.cut (t.data.toList.drop 1) [39] = (t.data.toList.drop 1, [], false)) (hp : Lib.hasPrefix t.data.toList [39, 92, 39, 39] = false) (hR : R = none) :
    Calls Tryz.prog 110 #[.string t] w fun e w' => e = .returned (chV R) ∧ Below w.heap.size w w' := by
  subst hR
  have HC := Lib.hid (Tryz.strings_Cut (t.extract 1 t.size) ⟨#[39]⟩ m w (by simp; omega) hm)
  have e1 : (t.extract 1 t.size).data.toList = t.data.toList.drop 1 := Lib.extract_to_end t 1
  rw [e1, list_ba, hcut] at HC
  clear e1 hcut hm
  have HP := Lib.hid hp; clear hp
  obtain ⟨B, hB⟩ : ∃ B : List UInt8, t.data.toList.drop 1 = B := ⟨_, rfl⟩
  have hBl : B.length + 1 = t.size := by rw [← hB]; have : t.data.toList.length = t.size := rfl; simp; omega
  rw [hB] at HC
  clear hB
  have q1 : ((B.length : Int) == (t.size : Int) - 1) = true := by simp; omega
  go_enter Tryz.func110, Tryz.ntmps110
  go_wp2_with fail
  refine HC.out.mono ?_
  rintro e w1 ⟨rfl, n, rfl⟩
  go_wp2_with fail
  refine (Tryz.strings_HasPrefix _ _ _).mono ?_
  rintro e w2 ⟨rfl, hw2⟩
  subst hw2
  rw [show (⟨#[39, 92, 39, 39]⟩ : ByteArray).data.toList = [39, 92, 39, 39] from rfl, HP.out]
  go_wp2
  go_ret2
  exact ⟨rfl, below_drewN _ _⟩
/-- One byte in quotes. -/
theorem quoted_1 (b1 : UInt8) (r : List UInt8) (hcut : Lib.cut (t.data.toList.drop 1) [39] = ([b1], r, true)) (hr : r.length + 3 = t.size) (hp : Lib.hasPrefix t.data.toList [39, 92, 39, 39] = false)
    (hR : R = if b1 = 92 ∨ b1 = 10 then none else some ((b1.toNat : Int), 3)) :
    Calls Tryz.prog 110 #[.string t] w fun e w' => e = .returned (chV R) ∧ Below w.heap.size w w' := by
  have HC := Lib.hid (Tryz.strings_Cut (t.extract 1 t.size) ⟨#[39]⟩ m w (by simp; omega) hm)
  have e1 : (t.extract 1 t.size).data.toList = t.data.toList.drop 1 := Lib.extract_to_end t 1
  rw [e1, list_ba, hcut] at HC
  clear e1 hcut hm
  have HP := Lib.hid hp; clear hp
  have q1 : ((1 : Int) == (t.size : Int) - 1) = false := by simp; omega
  have q2 : ((r.length : Int) + 1 + 2 != (t.size : Int)) = false := by simp; omega
  have hby : (b1.toNat : Int) ≤ 255 := by have := b1.toNat_lt; omega
  have HE := Lib.hid hR; clear hR
  by_cases c1 : b1 = 92
  · subst c1
    go_enter Tryz.func110, Tryz.ntmps110
    go_wp2_with fail
    refine HC.out.mono ?_
    rintro e w1 ⟨rfl, n, rfl⟩
    go_wp2_with fail
    refine (Tryz.strings_HasPrefix _ _ _).mono ?_
    rintro e w2 ⟨rfl, hw2⟩
    subst hw2
    rw [show (⟨#[39, 92, 39, 39]⟩ : ByteArray).data.toList = [39, 92, 39, 39] from rfl, HP.out]
    go_wp2
    go_ret2
    exact ⟨retv (by rw [HE.out]; rfl), below_drewN _ _⟩
  by_cases c2 : b1 = 10
  · subst c2
    go_enter Tryz.func110, Tryz.ntmps110
    go_wp2_with fail
    refine HC.out.mono ?_
    rintro e w1 ⟨rfl, n, rfl⟩
    go_wp2_with fail
    refine (Tryz.strings_HasPrefix _ _ _).mono ?_
    rintro e w2 ⟨rfl, hw2⟩
    subst hw2
    rw [show (⟨#[39, 92, 39, 39]⟩ : ByteArray).data.toList = [39, 92, 39, 39] from rfl, HP.out]
    go_wp2
    go_ret2
    exact ⟨retv (by rw [HE.out]; rfl), below_drewN _ _⟩
  have d1 : (b1 == 92) = false := by simpa using c1
  have d2 : (b1 == 10) = false := by simpa using c2
  go_enter Tryz.func110, Tryz.ntmps110
  go_wp2_with fail
  refine HC.out.mono ?_
  rintro e w1 ⟨rfl, n, rfl⟩
  go_wp2_with fail
  refine (Tryz.strings_HasPrefix _ _ _).mono ?_
  rintro e w2 ⟨rfl, hw2⟩
  subst hw2
  rw [show (⟨#[39, 92, 39, 39]⟩ : ByteArray).data.toList = [39, 92, 39, 39] from rfl, HP.out]
  go_wp2
  go_ret2
  exact ⟨retv (by rw [HE.out, if_neg (by simp [c1, c2])]; simp [chV]; exact wrap_byte _), below_drewN _ _⟩
/-- An escape that is none. -/
theorem quoted_2n (b1 b2 : UInt8) (r : List UInt8) (hcut : Lib.cut (t.data.toList.drop 1) [39] = ([b1, b2], r, true)) (hr : r.length + 4 = t.size) (hp : Lib.hasPrefix t.data.toList [39, 92, 39, 39] = false)
    (hR : R = none) (hb : b1 ≠ 92) :
    Calls Tryz.prog 110 #[.string t] w fun e w' => e = .returned (chV R) ∧ Below w.heap.size w w' := by
  have HC := Lib.hid (Tryz.strings_Cut (t.extract 1 t.size) ⟨#[39]⟩ m w (by simp; omega) hm)
  have e1 : (t.extract 1 t.size).data.toList = t.data.toList.drop 1 := Lib.extract_to_end t 1
  rw [e1, list_ba, hcut] at HC
  clear e1 hcut hm
  have HP := Lib.hid hp; clear hp
  have q1 : ((2 : Int) == (t.size : Int) - 1) = false := by simp; omega
  have q2 : ((r.length : Int) + 2 + 2 != (t.size : Int)) = false := by simp; omega
  have HE := Lib.hid hR; clear hR
  have d1 : ((b1.toNat : Int) == 92) = false := by
    have := byte_int b1 92
    rw [show ((92 : UInt8).toNat : Int) = 92 from rfl] at this
    rw [← this]; simpa using hb
  have d2 : ((((⟨#[b1, b2]⟩ : ByteArray)[0]'(Nat.zero_lt_succ 1)).toNat : Int) == 92) = false := d1
  go_enter Tryz.func110, Tryz.ntmps110
  go_wp2_with fail
  refine HC.out.mono ?_
  rintro e w1 ⟨rfl, n, rfl⟩
  go_wp2_with fail
  refine (Tryz.strings_HasPrefix _ _ _).mono ?_
  rintro e w2 ⟨rfl, hw2⟩
  subst hw2
  rw [show (⟨#[39, 92, 39, 39]⟩ : ByteArray).data.toList = [39, 92, 39, 39] from rfl, HP.out]
  go_wp2_with fail
  go_wp2
  go_ret2
  exact ⟨retv (by rw [HE.out]; rfl), below_drewN _ _⟩
/-- An escape. -/
theorem quoted_2 (b2 : UInt8) (r : List UInt8) (hcut : Lib.cut (t.data.toList.drop 1) [39] = ([92, b2], r, true)) (hr : r.length + 4 = t.size) (hp : Lib.hasPrefix t.data.toList [39, 92, 39, 39] = false)
    (hR : R = (escF b2.toNat).map fun v => (v, 4)) (h39 : b2 ≠ 39) :
    Calls Tryz.prog 110 #[.string t] w fun e w' => e = .returned (chV R) ∧ Below w.heap.size w w' := by
  have HC := Lib.hid (Tryz.strings_Cut (t.extract 1 t.size) ⟨#[39]⟩ m w (by simp; omega) hm)
  have e1 : (t.extract 1 t.size).data.toList = t.data.toList.drop 1 := Lib.extract_to_end t 1
  rw [e1, list_ba, hcut] at HC
  clear e1 hcut hm
  have HP := Lib.hid hp; clear hp
  have q1 : ((2 : Int) == (t.size : Int) - 1) = false := by simp; omega
  have q2 : ((r.length : Int) + 2 + 2 != (t.size : Int)) = false := by simp; omega
  have HE := Lib.hid hR; clear hR
  have d2 : ((((⟨#[92, b2]⟩ : ByteArray)[0]'(Nat.zero_lt_succ 1)).toNat : Int) == 92) = true := rfl
  by_cases c110 : b2 = 110
  · subst c110
    have HE2 := Lib.hid (HE.out.trans (show _ = some (10, 4) by decide))
    go_enter Tryz.func110, Tryz.ntmps110
    go_wp2_with fail
    refine HC.out.mono ?_
    rintro e w1 ⟨rfl, n, rfl⟩
    go_wp2_with fail
    refine (Tryz.strings_HasPrefix _ _ _).mono ?_
    rintro e w2 ⟨rfl, hw2⟩
    subst hw2
    rw [show (⟨#[39, 92, 39, 39]⟩ : ByteArray).data.toList = [39, 92, 39, 39] from rfl, HP.out]
    go_wp2_with fail
    refine (Tryz.strings_IndexByte _ _ _).mono ?_
    rintro e w2 ⟨rfl, hw2⟩
    subst hw2
    rw [show Lib.indexByte (⟨#[110, 10, 116, 9, 48, 0, 92, 92, 39, 39]⟩ : ByteArray).data.toList (((((⟨#[92, 110]⟩ : ByteArray)[1]'(Nat.succ_lt_succ (Nat.zero_lt_succ 0))).toNat : Int)).toNat.toUInt8) = 0 from by decide]
    go_wp2
    go_ret2
    exact ⟨retv (by rw [HE2.out]; exact congrArg (fun z => Value.tuple #[.int .i64 z, .int .i64 4]) (wrap_byte 10)), below_drewN _ _⟩
  by_cases c116 : b2 = 116
  · subst c116
    have HE2 := Lib.hid (HE.out.trans (show _ = some (9, 4) by decide))
    go_enter Tryz.func110, Tryz.ntmps110
    go_wp2_with fail
    refine HC.out.mono ?_
    rintro e w1 ⟨rfl, n, rfl⟩
    go_wp2_with fail
    refine (Tryz.strings_HasPrefix _ _ _).mono ?_
    rintro e w2 ⟨rfl, hw2⟩
    subst hw2
    rw [show (⟨#[39, 92, 39, 39]⟩ : ByteArray).data.toList = [39, 92, 39, 39] from rfl, HP.out]
    go_wp2_with fail
    refine (Tryz.strings_IndexByte _ _ _).mono ?_
    rintro e w2 ⟨rfl, hw2⟩
    subst hw2
    rw [show Lib.indexByte (⟨#[110, 10, 116, 9, 48, 0, 92, 92, 39, 39]⟩ : ByteArray).data.toList (((((⟨#[92, 116]⟩ : ByteArray)[1]'(Nat.succ_lt_succ (Nat.zero_lt_succ 0))).toNat : Int)).toNat.toUInt8) = 2 from by decide]
    go_wp2
    go_ret2
    exact ⟨retv (by rw [HE2.out]; exact congrArg (fun z => Value.tuple #[.int .i64 z, .int .i64 4]) (wrap_byte 9)), below_drewN _ _⟩
  by_cases c48 : b2 = 48
  · subst c48
    have HE2 := Lib.hid (HE.out.trans (show _ = some (0, 4) by decide))
    go_enter Tryz.func110, Tryz.ntmps110
    go_wp2_with fail
    refine HC.out.mono ?_
    rintro e w1 ⟨rfl, n, rfl⟩
    go_wp2_with fail
    refine (Tryz.strings_HasPrefix _ _ _).mono ?_
    rintro e w2 ⟨rfl, hw2⟩
    subst hw2
    rw [show (⟨#[39, 92, 39, 39]⟩ : ByteArray).data.toList = [39, 92, 39, 39] from rfl, HP.out]
    go_wp2_with fail
    refine (Tryz.strings_IndexByte _ _ _).mono ?_
    rintro e w2 ⟨rfl, hw2⟩
    subst hw2
    rw [show Lib.indexByte (⟨#[110, 10, 116, 9, 48, 0, 92, 92, 39, 39]⟩ : ByteArray).data.toList (((((⟨#[92, 48]⟩ : ByteArray)[1]'(Nat.succ_lt_succ (Nat.zero_lt_succ 0))).toNat : Int)).toNat.toUInt8) = 4 from by decide]
    go_wp2
    go_ret2
    exact ⟨retv (by rw [HE2.out]; exact congrArg (fun z => Value.tuple #[.int .i64 z, .int .i64 4]) (wrap_byte 0)), below_drewN _ _⟩
  by_cases c92 : b2 = 92
  · subst c92
    have HE2 := Lib.hid (HE.out.trans (show _ = some (92, 4) by decide))
    go_enter Tryz.func110, Tryz.ntmps110
    go_wp2_with fail
    refine HC.out.mono ?_
    rintro e w1 ⟨rfl, n, rfl⟩
    go_wp2_with fail
    refine (Tryz.strings_HasPrefix _ _ _).mono ?_
    rintro e w2 ⟨rfl, hw2⟩
    subst hw2
    rw [show (⟨#[39, 92, 39, 39]⟩ : ByteArray).data.toList = [39, 92, 39, 39] from rfl, HP.out]
    go_wp2_with fail
    refine (Tryz.strings_IndexByte _ _ _).mono ?_
    rintro e w2 ⟨rfl, hw2⟩
    subst hw2
    rw [show Lib.indexByte (⟨#[110, 10, 116, 9, 48, 0, 92, 92, 39, 39]⟩ : ByteArray).data.toList (((((⟨#[92, 92]⟩ : ByteArray)[1]'(Nat.succ_lt_succ (Nat.zero_lt_succ 0))).toNat : Int)).toNat.toUInt8) = 6 from by decide]
    go_wp2
    go_ret2
    exact ⟨retv (by rw [HE2.out]; exact congrArg (fun z => Value.tuple #[.int .i64 z, .int .i64 4]) (wrap_byte 92)), below_drewN _ _⟩
  by_cases c10 : b2 = 10
  · subst c10
    have HE2 := Lib.hid (HE.out.trans (show _ = none by decide))
    go_enter Tryz.func110, Tryz.ntmps110
    go_wp2_with fail
    refine HC.out.mono ?_
    rintro e w1 ⟨rfl, n, rfl⟩
    go_wp2_with fail
    refine (Tryz.strings_HasPrefix _ _ _).mono ?_
    rintro e w2 ⟨rfl, hw2⟩
    subst hw2
    rw [show (⟨#[39, 92, 39, 39]⟩ : ByteArray).data.toList = [39, 92, 39, 39] from rfl, HP.out]
    go_wp2_with fail
    refine (Tryz.strings_IndexByte _ _ _).mono ?_
    rintro e w2 ⟨rfl, hw2⟩
    subst hw2
    rw [show Lib.indexByte (⟨#[110, 10, 116, 9, 48, 0, 92, 92, 39, 39]⟩ : ByteArray).data.toList (((((⟨#[92, 10]⟩ : ByteArray)[1]'(Nat.succ_lt_succ (Nat.zero_lt_succ 0))).toNat : Int)).toNat.toUInt8) = 1 from by decide]
    go_wp2
    go_ret2
    exact ⟨retv (by rw [HE2.out]; rfl), below_drewN _ _⟩
  by_cases c9 : b2 = 9
  · subst c9
    have HE2 := Lib.hid (HE.out.trans (show _ = none by decide))
    go_enter Tryz.func110, Tryz.ntmps110
    go_wp2_with fail
    refine HC.out.mono ?_
    rintro e w1 ⟨rfl, n, rfl⟩
    go_wp2_with fail
    refine (Tryz.strings_HasPrefix _ _ _).mono ?_
    rintro e w2 ⟨rfl, hw2⟩
    subst hw2
    rw [show (⟨#[39, 92, 39, 39]⟩ : ByteArray).data.toList = [39, 92, 39, 39] from rfl, HP.out]
    go_wp2_with fail
    refine (Tryz.strings_IndexByte _ _ _).mono ?_
    rintro e w2 ⟨rfl, hw2⟩
    subst hw2
    rw [show Lib.indexByte (⟨#[110, 10, 116, 9, 48, 0, 92, 92, 39, 39]⟩ : ByteArray).data.toList (((((⟨#[92, 9]⟩ : ByteArray)[1]'(Nat.succ_lt_succ (Nat.zero_lt_succ 0))).toNat : Int)).toNat.toUInt8) = 3 from by decide]
    go_wp2
    go_ret2
    exact ⟨retv (by rw [HE2.out]; rfl), below_drewN _ _⟩
  by_cases c0 : b2 = 0
  · subst c0
    have HE2 := Lib.hid (HE.out.trans (show _ = none by decide))
    go_enter Tryz.func110, Tryz.ntmps110
    go_wp2_with fail
    refine HC.out.mono ?_
    rintro e w1 ⟨rfl, n, rfl⟩
    go_wp2_with fail
    refine (Tryz.strings_HasPrefix _ _ _).mono ?_
    rintro e w2 ⟨rfl, hw2⟩
    subst hw2
    rw [show (⟨#[39, 92, 39, 39]⟩ : ByteArray).data.toList = [39, 92, 39, 39] from rfl, HP.out]
    go_wp2_with fail
    refine (Tryz.strings_IndexByte _ _ _).mono ?_
    rintro e w2 ⟨rfl, hw2⟩
    subst hw2
    rw [show Lib.indexByte (⟨#[110, 10, 116, 9, 48, 0, 92, 92, 39, 39]⟩ : ByteArray).data.toList (((((⟨#[92, 0]⟩ : ByteArray)[1]'(Nat.succ_lt_succ (Nat.zero_lt_succ 0))).toNat : Int)).toNat.toUInt8) = 5 from by decide]
    go_wp2
    go_ret2
    exact ⟨retv (by rw [HE2.out]; rfl), below_drewN _ _⟩
  have HI := Lib.hid (idx_else b2 ⟨c110, c10, c116, c9, c48, c0, c92, h39⟩)
  have HN := Lib.hid (esc_else b2 ⟨c110, c116, c48, c92, h39⟩)
  go_enter Tryz.func110, Tryz.ntmps110
  go_wp2_with fail
  refine HC.out.mono ?_
  rintro e w1 ⟨rfl, n, rfl⟩
  go_wp2_with fail
  refine (Tryz.strings_HasPrefix _ _ _).mono ?_
  rintro e w2 ⟨rfl, hw2⟩
  subst hw2
  rw [show (⟨#[39, 92, 39, 39]⟩ : ByteArray).data.toList = [39, 92, 39, 39] from rfl, HP.out]
  go_wp2_with fail
  refine (Tryz.strings_IndexByte _ _ _).mono ?_
  rintro e w2 ⟨rfl, hw2⟩
  subst hw2
  rw [show Lib.indexByte (⟨#[110, 10, 116, 9, 48, 0, 92, 92, 39, 39]⟩ : ByteArray).data.toList (((((⟨#[92, b2]⟩ : ByteArray)[1]'(Nat.succ_lt_succ (Nat.zero_lt_succ 0))).toNat : Int)).toNat.toUInt8) = -1 from by
    refine Eq.trans (congrArg _ ?_) HI.out
    show (b2.toNat).toUInt8 = b2
    simp]
  go_wp2
  go_ret2
  exact ⟨retv (by rw [HE.out, HN.out]; rfl), below_drewN _ _⟩
/-- No byte, or three and more. -/
theorem quoted_len (B r : List UInt8) (hcut : Lib.cut (t.data.toList.drop 1) [39] = (B, r, true)) (hr : r.length + B.length + 2 = t.size) (hB1 : B.length ≠ 1) (hB2 : B.length ≠ 2) (hp : Lib.hasPrefix t.data.toList [39, 92, 39, 39] = false)
    (hR : R = none) :
    Calls Tryz.prog 110 #[.string t] w fun e w' => e = .returned (chV R) ∧ Below w.heap.size w w' := by
  have HC := Lib.hid (Tryz.strings_Cut (t.extract 1 t.size) ⟨#[39]⟩ m w (by simp; omega) hm)
  have e1 : (t.extract 1 t.size).data.toList = t.data.toList.drop 1 := Lib.extract_to_end t 1
  rw [e1, list_ba, hcut] at HC
  clear e1 hcut hm
  have HP := Lib.hid hp; clear hp
  have q1 : ((B.length : Int) == (t.size : Int) - 1) = false := by simp; omega
  have q2 : ((r.length : Int) + B.length + 2 != (t.size : Int)) = false := by simp; omega
  have q3 : ((B.length : Int) == 1) = false := by simp; omega
  have q4 : ((B.length : Int) == 2) = false := by simp; omega
  have HE := Lib.hid hR; clear hR
  go_enter Tryz.func110, Tryz.ntmps110
  go_wp2_with fail
  refine HC.out.mono ?_
  rintro e w1 ⟨rfl, n, rfl⟩
  go_wp2_with fail
  refine (Tryz.strings_HasPrefix _ _ _).mono ?_
  rintro e w2 ⟨rfl, hw2⟩
  subst hw2
  rw [show (⟨#[39, 92, 39, 39]⟩ : ByteArray).data.toList = [39, 92, 39, 39] from rfl, HP.out]
  go_wp2
  go_ret2
  exact ⟨retv (by rw [HE.out]; rfl), below_drewN _ _⟩
/-- The quote itself. -/
theorem quoted_39 (B r : List UInt8) (ok : Bool) (hcut : Lib.cut (t.data.toList.drop 1) [39] = (B, r, ok)) (hp : Lib.hasPrefix t.data.toList [39, 92, 39, 39] = true) (hR : R = some (39, 4)) :
    Calls Tryz.prog 110 #[.string t] w fun e w' => e = .returned (chV R) ∧ Below w.heap.size w w' := by
  have HC := Lib.hid (Tryz.strings_Cut (t.extract 1 t.size) ⟨#[39]⟩ m w (by simp; omega) hm)
  have e1 : (t.extract 1 t.size).data.toList = t.data.toList.drop 1 := Lib.extract_to_end t 1
  rw [e1, list_ba, hcut] at HC
  clear e1 hcut hm
  have HP := Lib.hid hp; clear hp
  have HE := Lib.hid hR; clear hR
  go_enter Tryz.func110, Tryz.ntmps110
  go_wp2_with fail
  refine HC.out.mono ?_
  rintro e w1 ⟨rfl, n, rfl⟩
  go_wp2_with fail
  refine (Tryz.strings_HasPrefix _ _ _).mono ?_
  rintro e w2 ⟨rfl, hw2⟩
  subst hw2
  rw [show (⟨#[39, 92, 39, 39]⟩ : ByteArray).data.toList = [39, 92, 39, 39] from rfl, HP.out]
  go_wp2
  go_ret2
  exact ⟨retv (by rw [HE.out]; rfl), below_drewN _ _⟩
end
end Go.Proofs.Lx6
namespace Go.Proofs.Lx6
open Go.ChangeShapes Go.WideShapes Go.ChangeAt Go.RowKit
/-! The plain part: which of these it is. -/
theorem index_39 (l : List UInt8) : (Lib.index l [39] = -1 ∧ ∀ k, k < l.length → bt l k ≠ 39) ∨ ∃ i : Nat, Lib.index l [39] = i ∧ i < l.length ∧ bt l i = 39 ∧ ∀ k, k < i → bt l k ≠ 39 := by
  induction l with
  | nil => left; exact ⟨rfl, fun k hk => absurd hk (by simp)⟩
  | cons b l ih =>
    by_cases hb : b = 39
    · subst hb
      right
      exact ⟨0, by simp [Lib.index], by simp, rfl, fun k hk => absurd hk (by omega)⟩
    · have hne : ¬ ((b.toNat : Int) = 39) := fun e => hb (UInt8.toNat_inj.1 (by have : (39 : UInt8).toNat = 39 := rfl; omega))
      have hpre : List.isPrefixOf [39] (b :: l) = false := by
        show ((39 : UInt8) == b && true) = false
        rw [Bool.and_true]; exact beq_false_of_ne (Ne.symm hb)
      rcases ih with ⟨h1, h2⟩ | ⟨i, h1, h2, h3, h4⟩
      · left
        refine ⟨by simp only [Lib.index, hpre, h1]; rfl, fun k hk => ?_⟩
        cases k with
        | zero => exact hne
        | succ k => exact h2 k (by simpa using hk)
      · right
        refine ⟨i + 1, ?_, by simpa using h2, h3, fun k hk => ?_⟩
        · simp only [Lib.index, hpre, h1]
          rw [if_neg (by simp), if_neg (by simp)]
          rfl
        · cases k with
          | zero => exact hne
          | succ k => exact h4 k (by omega)
theorem bt_drop (l : List UInt8) (a k : Nat) : bt (l.drop a) k = bt l (a + k) := by
  simp [bt, List.getD_eq_getElem?_getD]
theorem bt_u8 {l : List UInt8} {k : Nat} {c : UInt8} : bt l k = (c.toNat : Int) ↔ l.getD k 0 = c := by
  unfold bt
  constructor
  · intro h; exact UInt8.toNat_inj.1 (by omega)
  · intro h; rw [h]
theorem pre_cons (a b : UInt8) (us bs : List UInt8) : (a :: us).isPrefixOf (b :: bs) = (a == b && us.isPrefixOf bs) := rfl
theorem pre_nilr (a : UInt8) (us : List UInt8) : (a :: us).isPrefixOf [] = false := rfl
theorem pre_no1 (a : UInt8) {b : UInt8} {x : UInt8} (c : UInt8) (us bs : List UInt8) (h : b ≠ c) : (a :: c :: us).isPrefixOf (x :: b :: bs) = false := by
  rw [pre_cons, pre_cons, beq_false_of_ne (Ne.symm h), Bool.false_and, Bool.and_false]
theorem bt_cons (c : UInt8) (l : List UInt8) (k : Nat) : bt (c :: l) (k + 1) = bt l k := rfl
theorem bt_39 (b : UInt8) : (b.toNat : Int) = 39 ↔ b = 39 := ⟨fun e => UInt8.toNat_inj.1 (by have : (39 : UInt8).toNat = 39 := rfl; omega), fun e => by rw [e]; rfl⟩
theorem bt_92 (b : UInt8) : (b.toNat : Int) = 92 ↔ b = 92 := ⟨fun e => UInt8.toNat_inj.1 (by have : (92 : UInt8).toNat = 92 := rfl; omega), fun e => by rw [e]; rfl⟩
theorem bt_10 (b : UInt8) : (b.toNat : Int) = 10 ↔ b = 10 := ⟨fun e => UInt8.toNat_inj.1 (by have : (10 : UInt8).toNat = 10 := rfl; omega), fun e => by rw [e]; rfl⟩
theorem charF_head (x : UInt8) (l1 : List UInt8) : charF (x :: l1) 0 =
    (if 1 < l1.length ∧ bt l1 1 = 39 ∧ bt l1 0 ≠ 39 ∧ bt l1 0 ≠ 92 ∧ bt l1 0 ≠ 10 then some (bt l1 0, 3)
     else if 2 < l1.length ∧ bt l1 0 = 92 ∧ bt l1 2 = 39 then (escF (bt l1 1)).map fun v => (v, 4) else none) := by
  unfold charF
  simp only [List.length_cons, Nat.zero_add, bt_cons]
  congr 1
  · simp only [show (2 < l1.length + 1) = (1 < l1.length) by rw [eq_iff_iff]; omega]
  · simp only [show (3 < l1.length + 1) = (2 < l1.length) by rw [eq_iff_iff]; omega]
theorem pre4 (l1 : List UInt8) : Lib.hasPrefix (39 :: l1) [39, 92, 39, 39] = [92, 39, 39].isPrefixOf l1 := by
  unfold Lib.hasPrefix
  show ((39 : UInt8) == 39 && _) = _
  simp
theorem quoted_any (t : ByteArray) (m : Int) (w : World) (h1 : 1 ≤ t.size) (hs : t.size ≤ 65535) (hm : w.cell? ⟨4, 0, none⟩ = some (.int .i64 m)) (h39 : bt t.data.toList 0 = 39) :
    Calls Tryz.prog 110 #[.string t] w fun e w' => e = .returned (chV (charF t.data.toList 0)) ∧ Below w.heap.size w w' := by
  have hn : t.data.toList.length = t.size := rfl
  generalize hl : t.data.toList = l at *
  match l, hn with
  | [], hn => simp at hn; omega
  | x :: l1, hn =>
    have hx : x = 39 := (bt_39 x).1 h39
    subst hx
    simp only [List.length_cons] at hn
    have hd : t.data.toList.drop 1 = l1 := by rw [hl]; rfl
    rw [charF_head]
    rcases index_39 l1 with ⟨hi, hno⟩ | ⟨i, hi, hil, hib, hno⟩
    · refine quoted_no t m w h1 hs hm _ ?_ ?_ ?_
      · rw [hd]; exact cut_no l1 hi
      · rw [hl, pre4]
        match l1, hno with
        | [], _ => rfl
        | [a], _ => rw [pre_cons, pre_nilr, Bool.and_false]
        | [a, b], hno => rw [pre_cons, pre_cons, pre_nilr, Bool.and_false, Bool.and_false]
        | a :: b :: c :: r, hno =>
          have := hno 1 (by simp)
          simp only [bt_cons] at this
          have hb : b ≠ 39 := fun e => this (by rw [e]; rfl)
          exact pre_no1 _ _ _ _ hb
      · rw [if_neg (fun h => hno 1 h.1 h.2.1), if_neg (fun h => hno 2 h.1 h.2.2)]
    · have hc := cut_at l1 i hi
      match i, l1, hil, hib, hno, hc, hn, hd with
      | 0, b :: r, hil, hib, hno, hc, hn, hd =>
        obtain rfl : b = 39 := (bt_39 b).1 hib
        refine quoted_len t m w h1 hs hm _ [] r ?_ (by simp at hn ⊢; omega) (by simp) (by simp) ?_ ?_
        · rw [hd, hc]; simp
        · rw [hl, pre4]; rfl
        · rw [if_neg (fun h => h.2.2.1 rfl), if_neg (fun h => by have := h.2.1; rw [show bt (39 :: r) 0 = 39 from rfl] at this; omega)]
      | 1, b :: c :: r, hil, hib, hno, hc, hn, hd =>
        obtain rfl : c = 39 := (bt_39 c).1 hib
        have hb39 : b ≠ 39 := fun e => hno 0 (by omega) (by rw [e]; rfl)
        cases hp : [92, 39, 39].isPrefixOf (b :: 39 :: r)
        · refine quoted_1 t m w h1 hs hm _ b r ?_ (by simp at hn; omega) ?_ ?_
          · rw [hd, hc]; simp
          · rw [hl, pre4, hp]
          · have e1 : bt (b :: 39 :: r) 1 = 39 := rfl
            have e0 : bt (b :: 39 :: r) 0 = (b.toNat : Int) := rfl
            by_cases h92 : b = 92
            · subst h92
              rw [if_neg (fun h => h.2.2.2.1 rfl), if_neg, if_pos (.inl rfl)]
              rintro ⟨g1, _, g3⟩
              match r, g1, g3 with
              | d :: r, _, g3 =>
                obtain rfl : d = 39 := (bt_39 d).1 g3
                exact absurd hp (by rw [pre_cons, pre_cons, pre_cons, show ([] : List UInt8).isPrefixOf r = true by cases r <;> rfl]; decide)
            · by_cases h10 : b = 10
              · subst h10
                rw [if_neg (fun h => h.2.2.2.2 rfl), if_neg (fun h => absurd (show (10 : Int) = 92 from h.2.1) (by decide)), if_pos (.inr rfl)]
              · rw [if_pos ⟨by simp, e1, fun e => hb39 ((bt_39 b).1 e), fun e => h92 ((bt_92 b).1 e), fun e => h10 ((bt_10 b).1 e)⟩, if_neg (by rintro (h | h); exact h92 h; exact h10 h), e0]
        · refine quoted_39 t m w h1 hs hm _ [b] r true ?_ ?_ ?_
          · rw [hd, hc]; simp
          · rw [hl, pre4, hp]
          · match r, hp with
            | [], hp => rw [pre_cons, pre_cons, pre_nilr, Bool.and_false, Bool.and_false] at hp; exact absurd hp (by decide)
            | d :: r, hp =>
              rw [pre_cons, pre_cons, pre_cons] at hp
              simp only [Bool.and_eq_true, beq_iff_eq] at hp
              obtain ⟨rfl, _, rfl, _⟩ := hp
              rw [if_neg (fun h => h.2.2.2.1 rfl), if_pos ⟨by simp, rfl, rfl⟩]
              rfl
      | 2, b :: c :: d :: r, hil, hib, hno, hc, hn, hd =>
        obtain rfl : d = 39 := (bt_39 d).1 hib
        have hb39 : b ≠ 39 := fun e => hno 0 (by omega) (by rw [e]; rfl)
        have hc39 : c ≠ 39 := fun e => hno 1 (by omega) (by rw [e]; rfl)
        by_cases hb : b = 92
        · subst hb
          refine quoted_2 t m w h1 hs hm _ c r ?_ (by simp at hn; omega) ?_ ?_ hc39
          · rw [hd, hc]; simp
          · rw [hl, pre4]; exact pre_no1 _ _ _ _ hc39
          · rw [if_neg (fun h => hc39 ((bt_39 c).1 h.2.1)), if_pos ⟨by simp, rfl, rfl⟩]; rfl
        · refine quoted_2n t m w h1 hs hm _ b c r ?_ (by simp at hn; omega) ?_ ?_ hb
          · rw [hd, hc]; simp
          · rw [hl, pre4]; exact pre_no1 _ _ _ _ hc39
          · rw [if_neg (fun h => hc39 ((bt_39 c).1 h.2.1)), if_neg (fun h => hb ((bt_92 b).1 h.2.1))]
      | i + 3, b :: c :: d :: r, hil, hib, hno, hc, hn, hd =>
        have hc39 : c ≠ 39 := fun e => hno 1 (by omega) (by rw [e]; rfl)
        have hd39 : d ≠ 39 := fun e => hno 2 (by omega) (by rw [e]; rfl)
        refine quoted_len t m w h1 hs hm _ ((b :: c :: d :: r).take (i + 3)) ((b :: c :: d :: r).drop (i + 3 + 1)) ?_ ?_ ?_ ?_ ?_ ?_
        · rw [hd, hc]
        · rw [List.length_take, List.length_drop]; simp only [List.length_cons] at hn hil ⊢; omega
        · rw [List.length_take]; omega
        · rw [List.length_take]; omega
        · rw [hl, pre4]; exact pre_no1 _ _ _ _ hc39
        · rw [if_neg (fun h => hc39 ((bt_39 c).1 h.2.1)), if_neg (fun h => hd39 ((bt_39 d).1 h.2.2))]
end Go.Proofs.Lx6
namespace Go.Proofs.Lx6
open Go.ChangeShapes Go.WideShapes Go.ChangeAt Go.RowKit
theorem srch_shift (p : Nat → Bool) (a : Nat) : ∀ n i, srch p (i + a) n = (srch (fun j => p (j + a)) i n).map (· + a)
  | 0, _ => rfl
  | n + 1, i => by
    unfold srch
    by_cases h : p (i + a) = true
    · rw [if_pos h, if_pos h]; rfl
    · rw [if_neg h, if_neg h, show i + a + 1 = (i + 1) + a by omega, srch_shift p a n (i + 1)]
def natI : Option Nat → Int
  | some j => j
  | none => -1
theorem natI_map1 (o : Option Nat) : natI (o.map (· + 1)) = if natI o == -1 then -1 else natI o + 1 := by
  cases o with
  | none => rfl
  | some j =>
    show ((j + 1 : Nat) : Int) = (if ((j : Int) == -1) = true then (-1 : Int) else (j : Int) + 1)
    have h : ((j : Int) == -1) = false := by rw [beq_eq_false_iff_ne]; omega
    rw [h]; rfl
theorem srch_congr {p q : Nat → Bool} (h : ∀ j, p j = q j) (i n : Nat) : srch p i n = srch q i n := by rw [show p = q from funext h]
theorem ixb_srch (l : List UInt8) (c : UInt8) : Lib.indexByte l c = natI (srch (fun j => l.getD j 0 == c) 0 l.length) := by
  induction l with
  | nil => rfl
  | cons b l ih =>
    simp only [Lib.indexByte, List.length_cons, srch]
    by_cases h : (b == c) = true
    · rw [if_pos h, if_pos (by simpa using h)]; rfl
    · rw [if_neg h, if_neg (show ¬ ((b :: l).getD 0 0 == c) = true from h), srch_shift _ 1 l.length 0, natI_map1, ih]
      have e : srch (fun j => (b :: l).getD (j + 1) 0 == c) 0 l.length = srch (fun j => l.getD j 0 == c) 0 l.length := srch_congr (fun j => by simp) 0 _
      rw [e]
theorem ix_srch (l sub : List UInt8) (hs : sub ≠ []) : Lib.index l sub = natI (srch (fun j => begF l j sub) 0 l.length) := by
  induction l with
  | nil => cases sub with
    | nil => exact absurd rfl hs
    | cons _ _ => rfl
  | cons b l ih =>
    simp only [Lib.index, List.length_cons, srch]
    by_cases h : sub.isPrefixOf (b :: l) = true
    · rw [if_pos h, if_pos (by simpa [begF] using h)]; rfl
    · rw [if_neg h, if_neg (show ¬ begF (b :: l) 0 sub = true from h), srch_shift _ 1 l.length 0, natI_map1, ih]
      have e : srch (fun j => begF (b :: l) (j + 1) sub) 0 l.length = srch (fun j => begF l j sub) 0 l.length := srch_congr (fun j => by simp [begF]) 0 _
      rw [e]
theorem isb : ∀ c : Fin 256, decide (0 ≤ Lib.indexByte [32, 9, 12, 13] ((c.val : Int).toNat.toUInt8)) = ((c.val : Int) == 32 || (c.val : Int) == 9 || (c.val : Int) == 12 || (c.val : Int) == 13) := by decide +kernel
theorem isb' (c : UInt8) : decide (0 ≤ Lib.indexByte [32, 9, 12, 13] c) = ((c.toNat : Int) == 32 || (c.toNat : Int) == 9 || (c.toNat : Int) == 12 || (c.toNat : Int) == 13) := by
  have := isb ⟨c.toNat, c.toNat_lt⟩
  simpa using this
def pbV : Option (Nat × Nat) → Value
  | some (n, k) => .tuple #[.int .i64 n, .int .i64 k]
  | none => .tuple #[.int .i64 (-1), .int .i64 0]
section
variable (t : ByteArray) (m : Int) (w : World) (h1 : 0 < t.size) (hs : t.size ≤ 65535) (hm : w.cell? ⟨4, 0, none⟩ = some (.int .i64 m))
include h1 hs hm
set_option maxHeartbeats 2000000 in
theorem pblank_any : Calls Tryz.prog 56 #[.string t] w fun e w' => e = .returned (pbV (blankF (t[0].toNat : Int) t.data.toList 0)) ∧ w = w' := by
  obtain ⟨R, HR0⟩ : ∃ R, blankF (t[0].toNat : Int) t.data.toList 0 = R := ⟨_, rfl⟩
  rw [HR0]
  have HR := Lib.hid HR0; clear HR0
  have HM := Lib.hid hm; clear hm
  have hlen : Hid (t.data.toList.length = t.size) := rfl
  cases h10 : ((t[0].toNat : Int) == 10)
  · have ib := isb' t[0]
    cases hor : ((t[0].toNat : Int) == 32 || (t[0].toNat : Int) == 9 || (t[0].toNat : Int) == 12 || (t[0].toNat : Int) == 13)
    · have iN : Lib.indexByte [32, 9, 12, 13] t[0] < 0 := by rw [hor] at ib; have := of_decide_eq_false ib; omega
      clear ib
      cases hb1 : begF t.data.toList 0 [92, 10]
      · cases hb2 : begF t.data.toList 0 [47, 47]
        · cases hb3 : begF t.data.toList 0 [47, 42]
          · have E : Hid (R = some (0, 0)) := HR.out.symm.trans (by unfold blankF; rw [h10, hor, hb1, hb2, hb3]; rfl)
            have H1 := Lib.hid hb1; have H2 := Lib.hid hb2; have H3 := Lib.hid hb3
            clear hb1 hb2 hb3 hor
            go_enter Tryz.func56, Tryz.ntmps56
            go_wp2_with fail
            refine (Tryz.strings_IndexByte _ _ _).mono ?_
            rintro e w2 ⟨rfl, hw2⟩
            subst hw2
            go_wp2_with fail
            refine (Tryz.strings_HasPrefix _ _ _).mono ?_
            rintro e w3 ⟨rfl, hw3⟩
            subst hw3
            rw [show Lib.hasPrefix t.data.toList (⟨#[92, 10]⟩ : ByteArray).data.toList = false from H1.out]
            go_wp2_with fail
            refine (Tryz.strings_HasPrefix _ _ _).mono ?_
            rintro e w3 ⟨rfl, hw3⟩
            subst hw3
            rw [show Lib.hasPrefix t.data.toList (⟨#[47, 47]⟩ : ByteArray).data.toList = false from H2.out]
            go_wp2_with fail
            refine (Tryz.strings_HasPrefix _ _ _).mono ?_
            rintro e w3 ⟨rfl, hw3⟩
            subst hw3
            rw [show Lib.hasPrefix t.data.toList (⟨#[47, 42]⟩ : ByteArray).data.toList = false from H3.out]
            go_wp2_with fail
            go_ret2
            exact ⟨retv (by rw [E.out]; rfl), rfl⟩
          · have E : Hid (R = (srch (fun j => begF t.data.toList j [42, 47]) 2 (t.size - 2)).map fun j => (j + 2, 0)) := HR.out.symm.trans (by unfold blankF; rw [h10, hor, hb1, hb3, hlen.out]; rfl)
            have hb4 : 2 ≤ t.size := by
              unfold begF at hb3
              rw [pre_take, beq_iff_eq] at hb3
              have := congrArg List.length hb3
              rw [List.length_take, List.length_drop, hlen.out] at this
              simp at this
              omega
            have IX : Hid (Lib.index (t.data.toList.drop 2) [42, 47] = natI ((srch (fun j => begF t.data.toList j [42, 47]) 2 (t.size - 2)).map (· - 2))) := by
              unfold Hid
              rw [ix_srch _ _ (by simp), List.length_drop, hlen.out, show (2 : Nat) = 0 + 2 from rfl, srch_shift _ 2 (t.size - (0 + 2)) 0]
              rw [Option.map_map]
              rw [srch_congr (q := fun j => begF t.data.toList (j + 2) [42, 47]) (fun j => by simp [begF, Nat.add_comm])]
              cases srch (fun j => begF t.data.toList (j + 2) [42, 47]) 0 (t.size - (0 + 2)) <;> simp [natI]
            have bd : ∀ j, srch (fun j => begF t.data.toList j [42, 47]) 2 (t.size - 2) = some j → 2 ≤ j ∧ j < t.size := fun j h => by have := srch_bd h; omega
            generalize srch (fun j => begF t.data.toList j [42, 47]) 2 (t.size - 2) = o at E IX bd
            have H1 := Lib.hid hb1; have H2 := Lib.hid hb2; have H3 := Lib.hid hb3
            have HI := Lib.hid (Tryz.strings_Index (t.extract 2 t.size) ⟨#[42, 47]⟩ m w (by simp; omega) HM.out)
            rw [show (t.extract 2 t.size).data.toList = t.data.toList.drop 2 from Lib.extract_to_end t 2, show (⟨#[42, 47]⟩ : ByteArray).data.toList = [42, 47] from rfl, IX.out] at HI
            clear hb1 hb2 hb3 hor
            cases o with
            | none =>
              clear bd
              go_enter Tryz.func56, Tryz.ntmps56
              go_wp2_with fail
              refine (Tryz.strings_IndexByte _ _ _).mono ?_
              rintro e w2 ⟨rfl, hw2⟩
              subst hw2
              go_wp2_with fail
              refine (Tryz.strings_HasPrefix _ _ _).mono ?_
              rintro e w3 ⟨rfl, hw3⟩
              subst hw3
              rw [show Lib.hasPrefix t.data.toList (⟨#[92, 10]⟩ : ByteArray).data.toList = false from H1.out]
              go_wp2_with fail
              refine (Tryz.strings_HasPrefix _ _ _).mono ?_
              rintro e w3 ⟨rfl, hw3⟩
              subst hw3
              rw [show Lib.hasPrefix t.data.toList (⟨#[47, 47]⟩ : ByteArray).data.toList = false from H2.out]
              go_wp2_with fail
              refine (Tryz.strings_HasPrefix _ _ _).mono ?_
              rintro e w3 ⟨rfl, hw3⟩
              subst hw3
              rw [show Lib.hasPrefix t.data.toList (⟨#[47, 42]⟩ : ByteArray).data.toList = true from H3.out]
              go_wp2_with fail
              refine HI.out.mono ?_
              rintro e w3 ⟨rfl, hw3⟩
              subst hw3
              simp only [Option.map_none, natI]
              go_wp2_with fail
              go_ret2
              exact ⟨retv (by rw [E.out]; rfl), rfl⟩
            | some j =>
              obtain ⟨bj1, bj2⟩ := bd j rfl
              clear bd
              obtain ⟨j, rfl⟩ : ∃ i, j = i + 2 := ⟨j - 2, by omega⟩
              go_enter Tryz.func56, Tryz.ntmps56
              go_wp2_with fail
              refine (Tryz.strings_IndexByte _ _ _).mono ?_
              rintro e w2 ⟨rfl, hw2⟩
              subst hw2
              go_wp2_with fail
              refine (Tryz.strings_HasPrefix _ _ _).mono ?_
              rintro e w3 ⟨rfl, hw3⟩
              subst hw3
              rw [show Lib.hasPrefix t.data.toList (⟨#[92, 10]⟩ : ByteArray).data.toList = false from H1.out]
              go_wp2_with fail
              refine (Tryz.strings_HasPrefix _ _ _).mono ?_
              rintro e w3 ⟨rfl, hw3⟩
              subst hw3
              rw [show Lib.hasPrefix t.data.toList (⟨#[47, 47]⟩ : ByteArray).data.toList = false from H2.out]
              go_wp2_with fail
              refine (Tryz.strings_HasPrefix _ _ _).mono ?_
              rintro e w3 ⟨rfl, hw3⟩
              subst hw3
              rw [show Lib.hasPrefix t.data.toList (⟨#[47, 42]⟩ : ByteArray).data.toList = true from H3.out]
              go_wp2_with fail
              refine HI.out.mono ?_
              rintro e w3 ⟨rfl, hw3⟩
              subst hw3
              simp only [Option.map_some, natI, Nat.add_sub_cancel]
              go_wp2_with fail
              go_ret2
              exact ⟨retv (by rw [E.out]; simp [pbV]; omega), rfl⟩
        · have E : Hid (R = some ((srch (isNl t.data.toList) 0 t.size).getD t.size, 0)) := HR.out.symm.trans (by
            have hb3 : begF t.data.toList 0 [47, 42] = false := by
              unfold begF at hb2 ⊢
              revert hb2
              cases List.drop 0 t.data.toList with
              | nil => intro h; exact absurd h (by decide)
              | cons x r => cases r with
                | nil => intro _; rw [pre_cons, pre_nilr, Bool.and_false]
                | cons y r =>
                  rw [pre_cons, pre_cons, pre_cons, pre_cons]
                  simp only [Bool.and_eq_true, beq_iff_eq]
                  rintro ⟨_, rfl, _⟩
                  simp
            unfold blankF; rw [h10, hor, hb1, hb2, hb3, hlen.out]; rfl)
          have IX : Hid (Lib.indexByte t.data.toList 10 = natI (srch (isNl t.data.toList) 0 t.size)) := by
            unfold Hid
            rw [ixb_srch, hlen.out]; rfl
          have bd : ∀ j, srch (isNl t.data.toList) 0 t.size = some j → j < t.size := fun j h => by have := srch_bd h; omega
          generalize srch (isNl t.data.toList) 0 t.size = o at E IX bd
          have H1 := Lib.hid hb1; have H2 := Lib.hid hb2
          clear hb1 hb2 hor
          cases o with
          | none =>
            clear bd
            go_enter Tryz.func56, Tryz.ntmps56
            go_wp2_with fail
            refine (Tryz.strings_IndexByte _ _ _).mono ?_
            rintro e w2 ⟨rfl, hw2⟩
            subst hw2
            go_wp2_with fail
            refine (Tryz.strings_HasPrefix _ _ _).mono ?_
            rintro e w3 ⟨rfl, hw3⟩
            subst hw3
            rw [show Lib.hasPrefix t.data.toList (⟨#[92, 10]⟩ : ByteArray).data.toList = false from H1.out]
            go_wp2_with fail
            refine (Tryz.strings_HasPrefix _ _ _).mono ?_
            rintro e w3 ⟨rfl, hw3⟩
            subst hw3
            rw [show Lib.hasPrefix t.data.toList (⟨#[47, 47]⟩ : ByteArray).data.toList = true from H2.out]
            go_wp2_with fail
            refine (Tryz.strings_IndexByte _ _ _).mono ?_
            rintro e w3 ⟨rfl, hw3⟩
            subst hw3
            rw [show Lib.indexByte t.data.toList ((10 : Int).toNat.toUInt8) = -1 from IX.out]
            go_wp2_with fail
            go_ret2
            exact ⟨retv (by rw [E.out]; rfl), rfl⟩
          | some j =>
            have bj := bd j rfl
            clear bd
            go_enter Tryz.func56, Tryz.ntmps56
            go_wp2_with fail
            refine (Tryz.strings_IndexByte _ _ _).mono ?_
            rintro e w2 ⟨rfl, hw2⟩
            subst hw2
            go_wp2_with fail
            refine (Tryz.strings_HasPrefix _ _ _).mono ?_
            rintro e w3 ⟨rfl, hw3⟩
            subst hw3
            rw [show Lib.hasPrefix t.data.toList (⟨#[92, 10]⟩ : ByteArray).data.toList = false from H1.out]
            go_wp2_with fail
            refine (Tryz.strings_HasPrefix _ _ _).mono ?_
            rintro e w3 ⟨rfl, hw3⟩
            subst hw3
            rw [show Lib.hasPrefix t.data.toList (⟨#[47, 47]⟩ : ByteArray).data.toList = true from H2.out]
            go_wp2_with fail
            refine (Tryz.strings_IndexByte _ _ _).mono ?_
            rintro e w3 ⟨rfl, hw3⟩
            subst hw3
            rw [show Lib.indexByte t.data.toList ((10 : Int).toNat.toUInt8) = (j : Int) from IX.out]
            go_wp2_with fail
            go_ret2
            exact ⟨retv (by rw [E.out]; rfl), rfl⟩
      · have E : Hid (R = some (2, 0)) := HR.out.symm.trans (by unfold blankF; rw [h10, hor, hb1]; rfl)
        have H1 := Lib.hid hb1
        clear hb1 hor
        go_enter Tryz.func56, Tryz.ntmps56
        go_wp2_with fail
        refine (Tryz.strings_IndexByte _ _ _).mono ?_
        rintro e w2 ⟨rfl, hw2⟩
        subst hw2
        go_wp2_with fail
        refine (Tryz.strings_HasPrefix _ _ _).mono ?_
        rintro e w3 ⟨rfl, hw3⟩
        subst hw3
        rw [show Lib.hasPrefix t.data.toList (⟨#[92, 10]⟩ : ByteArray).data.toList = true from H1.out]
        go_wp2_with fail
        go_ret2
        exact ⟨retv (by rw [E.out]; rfl), rfl⟩
    · have E : Hid (R = some (1, 0)) := HR.out.symm.trans (by unfold blankF; rw [h10, hor]; rfl)
      have iN : 0 ≤ Lib.indexByte [32, 9, 12, 13] t[0] := by rw [hor] at ib; exact of_decide_eq_true ib
      clear ib hor
      go_enter Tryz.func56, Tryz.ntmps56
      go_wp2_with fail
      refine (Tryz.strings_IndexByte _ _ _).mono ?_
      rintro e w2 ⟨rfl, hw2⟩
      subst hw2
      go_wp2_with fail
      go_ret2
      exact ⟨retv (by rw [E.out]; rfl), rfl⟩
  · have E : Hid (R = some (1, 1)) := HR.out.symm.trans (by unfold blankF; rw [h10]; rfl)
    go_enter Tryz.func56, Tryz.ntmps56
    go_wp2
    go_ret2
    exact ⟨retv (by rw [E.out]; rfl), rfl⟩
end
end Go.Proofs.Lx6

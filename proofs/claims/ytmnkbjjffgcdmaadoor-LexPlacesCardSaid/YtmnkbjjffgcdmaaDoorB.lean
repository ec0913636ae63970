/-
  Contracts of the reference's char and quoted. Conditions: a place inside the text, which is at most 65535 bytes long.
-/
import Derived.Test.YtmnkbjjffgcdmaaDoorA
namespace Go.Proofs.YtmnkbjjffgcdmaaDoor
open Go.ChangeShapes Go.WideShapes Go.ChangeAt Go.RowKit
/-- The byte at a place, as a number. -/
def bt (l : List UInt8) (k : Nat) : Int := ((l.getD k 0).toNat : Int)
theorem bt_eq (s : ByteArray) (k : Nat) (hk : k < s.size) : bt s.data.toList k = (s[k].toNat : Int) := by unfold bt; rw [getb s k hk]
def escF (c : Int) : Option Int := if c = 110 then some 10 else if c = 116 then some 9 else if c = 48 then some 0 else if c = 92 then some 92 else if c = 39 then some 39 else none
/-- The number in quotes at a place, and how many bytes it has. -/
def charF (l : List UInt8) (a : Nat) : Option (Int × Nat) :=
  if a + 2 < l.length ∧ bt l (a + 2) = 39 ∧ bt l (a + 1) ≠ 39 ∧ bt l (a + 1) ≠ 92 ∧ bt l (a + 1) ≠ 10 then some (bt l (a + 1), 3)
  else if a + 3 < l.length ∧ bt l (a + 1) = 92 ∧ bt l (a + 3) = 39 then (escF (bt l (a + 2))).map fun v => (v, 4)
  else none
def chV : Option (Int × Nat) → Value
  | some (v, n) => .tuple #[.int .i64 v, .int .i64 n]
  | none => .tuple #[.int .i64 0, .int .i64 0]
theorem getD_some {o : Option (Int × Nat)} {v : Int} {n : Nat} (h : o = some (v, n)) : chV o = .tuple #[.int .i64 v, .int .i64 n] := by rw [h]; rfl
theorem getD_none {o : Option (Int × Nat)} (h : o = none) : chV o = .tuple #[.int .i64 0, .int .i64 0] := by rw [h]; rfl
set_option maxHeartbeats 1000000 in
theorem char_1 (s : ByteArray) (a : Nat) (w : World) (ha : a < s.size) (hs : s.size ≤ 65535) (h1 : ¬ a + 2 < s.size) (R : Option (Int × Nat)) (HR : Hid (charF s.data.toList a = R)) :
    Calls Tryd.prog 26 #[.string s, .int .i64 a] w fun e w' => e = .returned (chV R) ∧ w = w' := by
  have e1 : ¬ ((a : Int) + 2 < s.size) := by omega
  have e2 : ¬ ((a : Int) + 3 < s.size) := by omega
  have hlen : Hid (s.data.toList.length = s.size) := rfl
  go_enter Tryd.func26, Tryd.ntmps26
  go_wp2
  go_ret2
  refine ⟨retv (getD_none ?_).symm, rfl⟩
  rw [← HR.out]
  unfold charF
  rw [hlen.out, if_neg (by omega), if_neg (by omega)]
set_option maxHeartbeats 4000000 in
theorem char_2 (s : ByteArray) (a : Nat) (w : World) (hs : s.size ≤ 65535) (h1 : a + 2 < s.size) (h2 : ¬ a + 3 < s.size) (R : Option (Int × Nat)) (HR : Hid (charF s.data.toList a = R)) :
    Calls Tryd.prog 26 #[.string s, .int .i64 a] w fun e w' => e = .returned (chV R) ∧ w = w' := by
  have e1 : (a : Int) + 2 < s.size := by omega
  have e3 : (a : Int) + 1 < s.size := by omega
  have e2 : ¬ ((a : Int) + 3 < s.size) := by omega
  have hlen : Hid (s.data.toList.length = s.size) := rfl
  have HV : Hid (charF s.data.toList a = if (s[a + 2].toNat : Int) = 39 ∧ (s[a + 1].toNat : Int) ≠ 39 ∧ (s[a + 1].toNat : Int) ≠ 92 ∧ (s[a + 1].toNat : Int) ≠ 10 then some ((s[a + 1].toNat : Int), 3) else none) := by
    unfold Hid charF
    rw [hlen.out, bt_eq s (a + 2) (by omega), bt_eq s (a + 1) (by omega)]
    simp only [h1, h2, true_and, false_and, if_false]
  have hby : (s[a + 1].toNat : Int) ≤ 255 := by have := s[a+1].toNat_lt; omega
  go_enter Tryd.func26, Tryd.ntmps26
  go_wp2
  all_goals
    go_ret2
    refine ⟨retv ?_, rfl⟩
    have hv := HR.out.symm.trans HV.out
    clear HR HV hlen
    first
      | (rw [if_pos (by simp_all)] at hv; rw [getD_some hv]; first | rfl | (simp [wrap64_byte]; done))
      | (rw [if_neg (by rintro ⟨q1, q2, q3, q4⟩; simp_all)] at hv; rw [getD_none hv]; rfl)
set_option maxHeartbeats 8000000 in
theorem char_3 (s : ByteArray) (a : Nat) (w : World) (hs : s.size ≤ 65535) (h1 : a + 3 < s.size) (R : Option (Int × Nat)) (HR : Hid (charF s.data.toList a = R)) :
    Calls Tryd.prog 26 #[.string s, .int .i64 a] w fun e w' => e = .returned (chV R) ∧ w = w' := by
  have e1 : (a : Int) + 2 < s.size := by omega
  have e3 : (a : Int) + 1 < s.size := by omega
  have e2 : (a : Int) + 3 < s.size := by omega
  have hlen : Hid (s.data.toList.length = s.size) := rfl
  have HV : Hid (charF s.data.toList a = if (s[a + 2].toNat : Int) = 39 ∧ (s[a + 1].toNat : Int) ≠ 39 ∧ (s[a + 1].toNat : Int) ≠ 92 ∧ (s[a + 1].toNat : Int) ≠ 10 then some ((s[a + 1].toNat : Int), 3)
      else if (s[a + 1].toNat : Int) = 92 ∧ (s[a + 3].toNat : Int) = 39 then (escF (s[a + 2].toNat : Int)).map fun v => (v, 4) else none) := by
    unfold Hid charF
    rw [hlen.out, bt_eq s (a + 2) (by omega), bt_eq s (a + 1) (by omega), bt_eq s (a + 3) (by omega)]
    simp only [show a + 2 < s.size by omega, h1, true_and]
  have hby : (s[a + 1].toNat : Int) ≤ 255 := by have := s[a+1].toNat_lt; omega
  go_enter Tryd.func26, Tryd.ntmps26
  go_wp2
  all_goals
    go_ret2
    refine ⟨retv ?_, rfl⟩
    have hv := HR.out.symm.trans HV.out
    clear HR HV hlen
    rw [hv]
    unfold escF
    (repeat' split) <;> first | rfl | (exfalso; simp_all; done) | (simp [chV, wrap64_byte]; done) | (simp_all [chV, wrap64_byte]; done)
theorem char_any (s : ByteArray) (a : Nat) (w : World) (ha : a < s.size) (hs : s.size ≤ 65535) :
    Calls Tryd.prog 26 #[.string s, .int .i64 a] w fun e w' => e = .returned (chV (charF s.data.toList a)) ∧ w = w' := by
  by_cases h3 : a + 3 < s.size
  · exact char_3 s a w hs h3 _ rfl
  · by_cases h2 : a + 2 < s.size
    · exact char_2 s a w hs h2 h3 _ rfl
    · exact char_1 s a w ha hs h2 _ rfl
/-- Where the text ends whose inner bytes begin at a place. -/
def txt (l : List UInt8) : Nat → Nat → Option Nat
  | 0, _ => none
  | f + 1, i => if l.length ≤ i then none else if bt l i = 34 then some (i + 1) else if bt l i = 10 then none
    else if bt l i = 92 then (if i + 1 < l.length ∧ bt l (i + 1) = 10 then none else txt l f (i + 2)) else txt l f (i + 1)
theorem txt_end {l : List UInt8} {i : Nat} (h : l.length ≤ i) : ∀ f, txt l f i = none
  | 0 => rfl
  | f + 1 => by rw [txt, if_pos h]
def txtF (l : List UInt8) (a : Nat) : Option Nat := txt l (l.length + 2) (a + 1)
def txV (a : Nat) : Option Nat → Int
  | some e => e - a
  | none => 0
theorem bt_int (s : ByteArray) (k : Nat) (hk : k < s.size) (c : Int) : ((s[k].toNat : Int) == c) = decide (bt s.data.toList k = c) := by
  rw [bt_eq s k hk, Bool.eq_iff_iff]; simp
set_option maxHeartbeats 2000000 in
theorem rquoted_any (s : ByteArray) (a : Nat) (w : World) (ha : a < s.size) (hs : s.size ≤ 65535) :
    Calls Tryd.prog 27 #[.string s, .int .i64 a] w fun e w' => e = .returned (.int .i64 (txV a (txtF s.data.toList a))) ∧ w = w' := by
  have hlen : Hid (s.data.toList.length = s.size) := rfl
  obtain ⟨T, HT⟩ : ∃ T, Hid (txtF s.data.toList a = T) := ⟨_, rfl⟩
  rw [HT.out]
  go_enter Tryd.func27, Tryd.ntmps27
  go_wp2
  go_loop [5] (fun i => ∃ k f : Nat, a + 1 ≤ k ∧ k ≤ s.size + 1 ∧ s.size + 1 ≤ k + f ∧ i = .int .i64 k ∧ T = txt s.data.toList f k) (fun i => s.size + 1 - (intOf i).toNat)
  case atStart => exact ⟨a + 1, s.size + 2, by omega, by omega, by omega, by go_num, by rw [← HT.out]; rfl⟩
  case round =>
    obtain ⟨k, f, hk1, hk2, hf, rfl, ht⟩ := hrel
    have H := Lib.hid ht; clear ht
    by_cases hlt : k < s.size
    · obtain ⟨f, rfl⟩ : ∃ g, f = g + 1 := ⟨f - 1, by omega⟩
      have b34 := bt_int s k hlt 34
      have b10 := bt_int s k hlt 10
      have b92 := bt_int s k hlt 92
      by_cases c34 : bt s.data.toList k = 34
      · have E : Hid (T = some (k + 1)) := H.out.trans (by rw [txt, if_neg (by rw [hlen.out]; omega), if_pos c34])
        have g34 : ((s[k].toNat : Int) == 34) = true := by rw [b34, c34]; rfl
        clear b34 b10 b92 c34
        go_wp2
        go_ret
        refine ⟨reti ?_, rfl⟩
        rw [E.out]; simp only [txV]; go_num
      · have g34 : ((s[k].toNat : Int) == 34) = false := by rw [b34]; exact decide_eq_false c34
        by_cases c10 : bt s.data.toList k = 10
        · have E : Hid (T = none) := H.out.trans (by rw [txt, if_neg (by rw [hlen.out]; omega), if_neg c34, if_pos c10])
          have g10 : ((s[k].toNat : Int) == 10) = true := by rw [b10, c10]; rfl
          clear b34 b10 b92 c34 c10
          go_wp2
          go_ret
          refine ⟨reti ?_, rfl⟩
          rw [E.out]; rfl
        · have g10 : ((s[k].toNat : Int) == 10) = false := by rw [b10]; exact decide_eq_false c10
          by_cases c92 : bt s.data.toList k = 92
          · have g92 : ((s[k].toNat : Int) == 92) = true := by rw [b92, c92]; rfl
            have E : Hid (T = if k + 1 < s.size ∧ bt s.data.toList (k + 1) = 10 then none else txt s.data.toList f (k + 2)) := H.out.trans (by rw [txt, if_neg (by rw [hlen.out]; omega), if_neg c34, if_neg c10, if_pos c92, hlen.out])
            clear b34 b10 b92 c34 c10 c92
            by_cases hlt1 : k + 1 < s.size
            · have hlti : (k : Int) + 1 < s.size := by omega
              have b := bt_int s (k + 1) hlt1 10
              by_cases c1 : bt s.data.toList (k + 1) = 10
              · have g1 : ((s[k + 1].toNat : Int) == 10) = true := by rw [b, c1]; rfl
                have E2 : Hid (T = none) := E.out.trans (by rw [if_pos ⟨hlt1, c1⟩])
                clear b c1
                go_wp2
                go_ret
                refine ⟨reti ?_, rfl⟩
                rw [E2.out]; rfl
              · have g1 : ((s[k + 1].toNat : Int) == 10) = false := by rw [b]; exact decide_eq_false c1
                have E2 : Hid (T = txt s.data.toList f (k + 2)) := E.out.trans (by rw [if_neg (fun h => c1 h.2)])
                clear b c1
                go_wp2
                go_round
                case rel => exact ⟨k + 2, f, by omega, by omega, by omega, by go_num, E2.out⟩
                case measure => simp [intOf]; omega
            · have hlti : ¬ (k : Int) + 1 < s.size := by omega
              have E2 : Hid (T = txt s.data.toList f (k + 2)) := E.out.trans (by rw [if_neg (fun h => hlt1 h.1)])
              go_wp2
              go_round
              case rel => exact ⟨k + 2, f, by omega, by omega, by omega, by go_num, E2.out⟩
              case measure => simp [intOf]; omega
          · have g92 : ((s[k].toNat : Int) == 92) = false := by rw [b92]; exact decide_eq_false c92
            have E : Hid (T = txt s.data.toList f (k + 1)) := H.out.trans (by rw [txt, if_neg (by rw [hlen.out]; omega), if_neg c34, if_neg c10, if_neg c92])
            clear b34 b10 b92 c34 c10 c92
            go_wp2
            go_round
            case rel => exact ⟨k + 1, f, by omega, by omega, by omega, by go_num, E.out⟩
            case measure => simp [intOf]; omega
    · have E : Hid (T = none) := H.out.trans (txt_end (by rw [hlen.out]; omega) f)
      go_wp2
      go_ret
      refine ⟨reti ?_, rfl⟩
      rw [E.out]; rfl
end Go.Proofs.YtmnkbjjffgcdmaaDoor

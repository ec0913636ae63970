/-
  Contract of lex's token where a word begins. Conditions: the text has at most 65535 bytes.
-/
import Derived.Test.YtmnkbjjffgcdmaaDoorE
import Derived.BigRegion
import Derived.RegionTactic
import Derived.ChangeAlike
import Derived.ScopeJumps
import Derived.WalkMore
namespace Go.Proofs.YtmnkbjjffgcdmaaDoor
open Go.ChangeShapes Go.WideShapes Go.ChangeAt Go.RowKit
theorem wp_scope_once {P : Program} {a : Act} {w : World} {Q : Exit → Act → World → Prop} {c rest : Code} (l : Nat) (hf : findLabel c l = some rest)
    (first : c.wp P (Exit.jump l (fun a w => rest.wp P (Exit.noGoto Q) a w) Q) a w) : (Code.scope c).wp P Q a w :=
  wp_scope_jumps l (fun a w => rest.wp P (Exit.noGoto Q) a w) (fun _ _ => 0) hf first (fun a w h => wp_mono h (fun e a w hq => by
    cases e with
    | goto l' => exact hq.elim
    | _ => exact hq))
def isW (l : List UInt8) (j : Nat) : Bool := letF (bt l j) || digF (bt l j)
def isD (l : List UInt8) (j : Nat) : Bool := digF (bt l j)
def runEnd (p : Nat → Bool) (l : List UInt8) (a : Nat) : Nat := (srch (fun j => !p j) a (l.length - a)).getD l.length
def sub (l : List UInt8) (a n : Nat) : List UInt8 := (l.drop a).take n
def tokV (k at_ line : Int) (text : List UInt8) (n : Int) : Value := .agg #[.int .i64 k, .int .i64 at_, .int .i64 line, .string ⟨text.toArray⟩, .int .i64 n]
theorem ext_ba (s : ByteArray) (a b : Nat) : s.extract a b = ⟨(sub s.data.toList a (b - a)).toArray⟩ := by
  have h := Lib.extract_data s a b
  generalize s.extract a b = x at h ⊢
  obtain ⟨⟨d⟩⟩ := x
  have h' : d = sub s.data.toList a (b - a) := h
  rw [h']
theorem byte_le (s : ByteArray) (k : Nat) (hk : k < s.size) : (s[k].toNat : Int) ≤ 255 := by have := s[k].toNat_lt; omega
theorem runEnd_bd (p : Nat → Bool) (l : List UInt8) (a : Nat) (h : a ≤ l.length) : a ≤ runEnd p l a ∧ runEnd p l a ≤ l.length := by
  unfold runEnd
  cases hs : srch (fun j => !p j) a (l.length - a) with
  | none => exact ⟨h, Nat.le_refl _⟩
  | some j => have := srch_bd hs; exact ⟨this.1, by simp; omega⟩
/-- What a word's token is: its length, or too long. -/
def nameV (a e : Nat) (l : List UInt8) : Value := if 32 < e - a then .tuple #[tokV 0 0 0 [] 0, .int .i64 0, .int .i64 5] else .tuple #[tokV 1 0 0 (sub l a (e - a)) 0, .int .i64 e, .int .i64 0]
set_option maxHeartbeats 4000000 in
set_option maxRecDepth 20000 in
theorem token_name (s : ByteArray) (a : Nat) (K : Value) (w : World) (ha : a < s.size) (hs : s.size ≤ 65535) (hl : letF (s[a].toNat : Int) = true) :
    Calls Tryd.prog 10 #[.string s, .int .i64 a, K] w fun e w' => e = .returned (nameV a (runEnd (isW s.data.toList) s.data.toList a) s.data.toList) ∧ Below w.heap.size w w' := by
  have hby := byte_le s a ha
  have HL := Lib.hid hl; clear hl
  have hlen : Hid (s.data.toList.length = s.size) := rfl
  have hbd := runEnd_bd (isW s.data.toList) s.data.toList a (by rw [hlen.out]; omega)
  have HE : Hid (runEnd (isW s.data.toList) s.data.toList a = (srch (fun j => !isW s.data.toList j) a (s.size - a)).getD s.size) := rfl
  rw [hlen.out] at hbd
  obtain ⟨hbd1, hbd2⟩ := hbd
  generalize runEnd (isW s.data.toList) s.data.toList a = E at *
  go_enter Tryd.func10, Tryd.ntmps10
  go_wp2
  refine wp_scope_once 0 rfl ?_
  go_wp2_with fail
  refine (letter_any _ _ (by omega) hby).mono ?_
  rintro e w1 ⟨rfl, rfl⟩
  rw [HL.out]
  go_wp2_with fail
  go_step3
  refine ⟨rfl, ?_⟩
  go_wp2_with fail
  go_loop [7] (fun i => ∃ k : Nat, a ≤ k ∧ k ≤ s.size ∧ i = .int .i64 k ∧ E = (srch (fun j => !isW s.data.toList j) k (s.size - k)).getD s.size) (fun i => s.size - (intOf i).toNat)
  case atStart => exact ⟨a, by omega, by omega, rfl, HE.out⟩
  case round =>
    obtain ⟨k, hk1, hk2, rfl, hE⟩ := hrel
    have HE2 := Lib.hid hE; clear hE
    by_cases hlt : k < s.size
    · have hbk := byte_le s k hlt
      cases h1 : letF (s[k].toNat : Int)
      · cases h2 : digF (s[k].toNat : Int)
        · have HE3 : Hid (E = k) := HE2.out.trans (by rw [srch_hit hlt (by unfold isW; rw [bt_eq s k hlt, h1, h2]; rfl)]; rfl)
          have H1 := Lib.hid h1; clear h1
          have H2 := Lib.hid h2; clear h2
          go_wp2_with fail
          refine (letter_any _ _ (by omega) hbk).mono ?_
          rintro e w1 ⟨rfl, rfl⟩
          rw [H1.out]
          go_wp2_with fail
          refine (digit_any _ _ (by omega) hbk).mono ?_
          rintro e w1 ⟨rfl, rfl⟩
          rw [H2.out]
          by_cases hbig : 32 < (k : Int) - a
          · go_wp2_with fail
            try rw [Exit.noGoto_ret]
            refine bodyPost_ret (v := .tuple #[tokV 0 0 0 [] 0, .int .i64 0, .int .i64 5]) (by simp [results, Tryd.results10, go_sem, tokV]) rfl ⟨?_, by go_grown⟩
            rw [HE3.out, nameV, if_pos (by omega)]
          · go_wp2_with fail
            try rw [Exit.noGoto_ret]
            refine bodyPost_ret (v := .tuple #[.agg #[.int .i64 1, .int .i64 0, .int .i64 0, .string (s.extract a k), .int .i64 0], .int .i64 (k : Nat), .int .i64 0]) (by simp [results, Tryd.results10, go_sem]) rfl ⟨?_, by go_grown⟩
            rw [HE3.out, nameV, if_neg (by omega), tokV, ext_ba]
        · have HE3 : Hid (E = (srch (fun j => !isW s.data.toList j) (k + 1) (s.size - (k + 1))).getD s.size) := HE2.out.trans (by rw [srch_miss hlt (by unfold isW; rw [bt_eq s k hlt, h1, h2]; rfl)])
          have H1 := Lib.hid h1; clear h1
          have H2 := Lib.hid h2; clear h2
          go_wp2_with fail
          refine (letter_any _ _ (by omega) hbk).mono ?_
          rintro e w1 ⟨rfl, rfl⟩
          rw [H1.out]
          go_wp2_with fail
          refine (digit_any _ _ (by omega) hbk).mono ?_
          rintro e w1 ⟨rfl, rfl⟩
          rw [H2.out]
          go_wp2_with fail
          go_round
          case rel => exact ⟨k + 1, by omega, by omega, by go_num, HE3.out⟩
          case measure => simp [intOf]; omega
      · have HE3 : Hid (E = (srch (fun j => !isW s.data.toList j) (k + 1) (s.size - (k + 1))).getD s.size) := HE2.out.trans (by rw [srch_miss hlt (by unfold isW; rw [bt_eq s k hlt, h1]; rfl)])
        have H1 := Lib.hid h1; clear h1
        go_wp2_with fail
        refine (letter_any _ _ (by omega) hbk).mono ?_
        rintro e w1 ⟨rfl, rfl⟩
        rw [H1.out]
        go_wp2_with fail
        go_round
        case rel => exact ⟨k + 1, by omega, by omega, by go_num, HE3.out⟩
        case measure => simp [intOf]; omega
    · have HE3 : Hid (E = s.size) := HE2.out.trans (by rw [srch_end (by omega)]; rfl)
      have hks : k = s.size := by omega
      subst hks
      by_cases hbig : 32 < (s.size : Int) - a
      · go_wp2_with fail
        try rw [Exit.noGoto_ret]
        refine bodyPost_ret (v := .tuple #[tokV 0 0 0 [] 0, .int .i64 0, .int .i64 5]) (by simp [results, Tryd.results10, go_sem, tokV]) rfl ⟨?_, by go_grown⟩
        rw [HE3.out, nameV, if_pos (by omega)]
      · go_wp2_with fail
        try rw [Exit.noGoto_ret]
        refine bodyPost_ret (v := .tuple #[.agg #[.int .i64 1, .int .i64 0, .int .i64 0, .string (s.extract a s.size), .int .i64 0], .int .i64 (s.size : Nat), .int .i64 0]) (by simp [results, Tryd.results10, go_sem]) rfl ⟨?_, by go_grown⟩
        rw [HE3.out, nameV, if_neg (by omega), tokV, ext_ba]
end Go.Proofs.YtmnkbjjffgcdmaaDoor

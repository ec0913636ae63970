/- Part of the proof of SyntaxLooseCardSaid (LAx LBx). -/
import Derived.Test.YthkebhjaaikopaaGreatDoorM01
import Derived.Test.YthkebhjaaikopaaGreatDoorRows
import Derived.WalkKit
import Derived.ProofKit
import Derived.Lib.Hide
import Derived.BigQuiet
import Derived.Handy
import Derived.WalkSpells
import Derived.Lib.Strings
import Derived.Lib.IndexBytes
set_option maxHeartbeats 8000000
namespace Go.Proofs.YthkebhjaaikopaaGreatDoor.Lx
open Go.ChangeShapes Go.WideShapes Go.ChangeAt Go.RowKit
theorem cD {a b : Bool} (h : a = b) : Ending.returned (.bool a) = Ending.returned (.bool b) := by rw [h]
theorem mY {k : IntKind} {a b : Int} (h : a = b) : Ending.returned (.int k a) = Ending.returned (.int k b) := by rw [h]
def eD (c : Int) : Bool := decide (c = 95 ∨ (97 ≤ c ∧ c ≤ 122) ∨ (65 ≤ c ∧ c ≤ 90))
def dU (c : Int) : Bool := decide (48 ≤ c ∧ c ≤ 57)
theorem ux : ∀ n : Fin 256, ¬ ((n.val : Int) = 95) → eD (n.val : Int) = (decide (97 ≤ bits .or .u8 (n.val : Int) 32) && decide (bits .or .u8 (n.val : Int) 32 ≤ 122)) := by decide +kernel
theorem ua (c : Int) (h0 : 0 ≤ c) (h1 : c ≤ 255) (h : ¬ c = 95) : eD c = (decide (97 ≤ bits .or .u8 c 32) && decide (bits .or .u8 c 32 ≤ 122)) := by
 obtain ⟨n, rfl⟩ := Int.eq_ofNat_of_zero_le h0; exact ux ⟨n, by omega⟩ h
theorem dg (c : Int) (w : World) (h0 : 0 ≤ c) (h1 : c ≤ 255) :
 Calls Tryz.prog 122 #[.int .u8 c] w fun e w' => e = .returned (.bool (eD c)) ∧ w = w' := by
 by_cases h : c = 95
 · subst h; go_enter Tryz.func122, Tryz.ntmps122; go_wp2; go_ret; exact ⟨rfl, rfl⟩
 · have H := qd (ua c h0 h1 h); have hb : (c == 95) = false := by simpa using h
   go_enter Tryz.func122, Tryz.ntmps122; go_wp2
   all_goals
    go_ret; refine ⟨cD ?_, rfl⟩; rw [H.out]; simp [*]
    try omega
theorem dF (c : Int) (w : World) (h0 : 0 ≤ c) (h1 : c ≤ 255) :
 Calls Tryz.prog 123 #[.int .u8 c] w fun e w' => e = .returned (.bool (dU c)) ∧ w = w' := by
 go_enter Tryz.func123, Tryz.ntmps123; go_wp2; go_ret; refine ⟨cD ?_, rfl⟩; unfold dU; exact decide_eq_decide.2 (by omega)
theorem bA (c : Int) (w : World) (h0 : 0 ≤ c) (h1 : c ≤ 255) :
 Calls Tryz.prog 83 #[.int .u8 c] w fun e w' => e = .returned (.bool (eD c)) ∧ w = w' := by
 go_enter Tryz.func83, Tryz.ntmps83; go_wp2
 all_goals
  go_ret; refine ⟨cD ?_, rfl⟩; unfold eD; refine Bool.eq_iff_iff.2 ?_; simp [*] <;> omega
theorem bv (c : Int) (w : World) (h0 : 0 ≤ c) (h1 : c ≤ 255) :
 Calls Tryz.prog 84 #[.int .u8 c] w fun e w' => e = .returned (.bool (dU c)) ∧ w = w' := by
 go_enter Tryz.func84, Tryz.ntmps84; go_wp2
 all_goals
  go_ret; refine ⟨cD ?_, rfl⟩; unfold dU; refine Bool.eq_iff_iff.2 ?_; simp [*] <;> omega
def bL (l : List UInt8) (a : Nat) (t : List UInt8) : Bool := t.isPrefixOf (l.drop a)
theorem fN (t l : List UInt8) : t.isPrefixOf l = (l.take t.length == t) := by
 rw [Bool.eq_iff_iff]; simp only [List.isPrefixOf_iff_prefix, beq_iff_eq]; constructor
 · rintro ⟨r, rfl⟩; simp
 · intro h; exact ⟨l.drop t.length, by conv => lhs; lhs; rw [← h]
                                       exact List.take_append_drop _ _⟩
theorem aU (s : ByteArray) (a : Nat) (t : ByteArray) (w : World) (h1 : a ≤ s.size) (hs : s.size ≤ 65535) (ht : t.size ≤ 100) :
 Calls Tryz.prog 82 #[.string s, .int .i64 a, .string t] w fun e w' => e = .returned (.bool (bL s.data.toList a t.data.toList)) ∧ w = w' := by
 by_cases h : a + t.size ≤ s.size
 · have hle : (a : Int) ≤ a + t.size := by omega
   have hle2 : (a : Int) + t.size ≤ s.size := by omega
   have hle3 : (0 : Int) ≤ (a : Int) + t.size := by omega
   go_enter Tryz.func82, Tryz.ntmps82; go_wp2; go_ret; refine ⟨cD ?_, rfl⟩; rw [Lib.extract_toList, Lib.toList_data, Nat.add_sub_cancel_left, bL, fN, show t.data.toList.length = t.size from rfl]
 · go_enter Tryz.func82, Tryz.ntmps82; go_wp2; go_ret; refine ⟨cD ?_, rfl⟩; unfold bL; rw [fN]
   symm
   rw [beq_eq_false_iff_ne]; intro e; have := congrArg List.length e; simp at this; omega
def bq (p : Nat → Bool) : Nat → Nat → Option Nat
 | _, 0 => none
 | i, n + 1 => if p i then some i else bq p (i + 1) n
theorem dj {p : Nat → Bool} {i N : Nat} (h : i < N) (hp : p i = true) : bq p i (N - i) = some i := by
 obtain ⟨k, hk⟩ : ∃ k, N - i = k + 1 := ⟨N - i - 1, by omega⟩; rw [hk, bq, if_pos hp]
theorem cg {p : Nat → Bool} {i N : Nat} (h : i < N) (hp : p i = false) : bq p i (N - i) = bq p (i + 1) (N - (i + 1)) := by
 obtain ⟨k, hk⟩ : ∃ k, N - i = k + 1 := ⟨N - i - 1, by omega⟩; rw [hk, bq, hp, show N - (i + 1) = k by omega]; rfl
theorem dk {p : Nat → Bool} {i N : Nat} (h : N ≤ i) : bq p i (N - i) = none := by
 rw [show N - i = 0 by omega, bq]
theorem fc {p : Nat → Bool} : ∀ {n i j : Nat}, bq p i n = some j → i ≤ j ∧ j < i + n ∧ p j = true
 | 0, _, _, h => by simp [bq] at h
 | n + 1, i, j, h => by
   unfold bq at h
   split at h
   · obtain rfl : i = j := by simpa using h
     exact ⟨by omega, by omega, by assumption⟩
   · have := fc h; exact ⟨by omega, by omega, this.2.2⟩
def eE (l : List UInt8) (j : Nat) : Bool := l.getD j 0 == 10
def aP (c : Int) (l : List UInt8) (a : Nat) : Option (Nat × Nat) :=
 if c == 10 then some (1, 1)
 else if c == 32 || c == 9 || c == 12 || c == 13 then some (1, 0)
 else if bL l a [92, 10] then some (2, 0)
 else if bL l a [47, 42] then (bq (fun j => bL l j [42, 47]) (a + 2) (l.length - (a + 2))).map fun j => (j + 2 - a, 0)
 else if bL l a [47, 47] then some ((bq (eE l) a (l.length - a)).getD l.length - a, 0)
 else some (0, 0)
def lJ : Option (Nat × Nat) → Value
 | some (n, k) => .tuple #[.int .i64 n, .int .i64 k, .bool true]
 | none => .tuple #[.int .i64 0, .int .i64 0, .bool false]
theorem gk {a b : Value} (h : a = b) : Ending.returned a = Ending.returned b := by rw [h]
theorem q8 (s : ByteArray) (k : Nat) (hk : k < s.size) : s.data.toList.getD k 0 = s[k] := by
 have : k < s.data.toList.length := hk; rw [List.getD_eq_getElem?_getD, List.getElem?_eq_getElem this]; rfl
theorem rk (c d : UInt8) : (c == d) = ((c.toNat : Int) == (d.toNat : Int)) := by
 rw [Bool.eq_iff_iff]; simp only [beq_iff_eq, ← UInt8.toNat_inj]; omega
theorem tB (s : ByteArray) (k : Nat) (hk : k < s.size) : eE s.data.toList k = ((s[k].toNat : Int) == 10) := by
 unfold eE; rw [q8 s k hk, rk]; rfl
theorem ge {c : Int} (h : (c == 32 || c == 9 || c == 12 || c == 13) = false) : (c == 32) = false ∧ (c == 9) = false ∧ (c == 12) = false ∧ (c == 13) = false := by
 simpa [and_assoc] using h
section
variable (s : ByteArray) (a : Nat) (w : World) (h1 : a < s.size) (hs : s.size ≤ 65535)
include h1 hs
theorem lI (h : ((s[a].toNat : Int) == 10) = true ∨ ((s[a].toNat : Int) == 10) = false ∧ ((s[a].toNat : Int) == 32 || (s[a].toNat : Int) == 9 || (s[a].toNat : Int) == 12 || (s[a].toNat : Int) == 13) = true) :
 Calls Tryz.prog 33 #[.string s, .int .i64 a] w fun e w' => e = .returned (lJ (aP (s[a].toNat : Int) s.data.toList a)) ∧ w = w' := by
 have B1 := qd (aU s a ⟨#[92, 10]⟩ w (by omega) hs (by decide)); have B2 := qd (aU s a ⟨#[47, 42]⟩ w (by omega) hs (by decide)); have B3 := qd (aU s a ⟨#[47, 47]⟩ w (by omega) hs (by decide)); have E : Hid (aP (s[a].toNat : Int) s.data.toList a = some (1, if (s[a].toNat : Int) == 10 then 1 else 0)) := by
  unfold Hid aP; rcases h with h | ⟨h, h'⟩
  · simp [h]
  · rw [h, h']; rfl
 rcases h with h | ⟨h, h'⟩
 all_goals
  go_enter Tryz.func33, Tryz.ntmps33; go_wp2_with fail; refine B1.out.mono ?_; rintro e w1 ⟨rfl, rfl⟩; go_wp2_with fail; refine B2.out.mono ?_; rintro e w1 ⟨rfl, rfl⟩; go_wp2_with fail; refine B3.out.mono ?_; rintro e w1 ⟨rfl, rfl⟩; go_wp2_with fail
  all_goals first
   | (exfalso; simp_all; done)
   | (go_ret3; exact ⟨gk (by rw [E.out]; simp [lJ, *]), rfl⟩)
variable (h10 : ((s[a].toNat : Int) == 10) = false) (hor : ((s[a].toNat : Int) == 32 || (s[a].toNat : Int) == 9 || (s[a].toNat : Int) == 12 || (s[a].toNat : Int) == 13) = false)
include h10 hor
theorem lH (hb1 : bL s.data.toList a [92, 10] = true) :
 Calls Tryz.prog 33 #[.string s, .int .i64 a] w fun e w' => e = .returned (lJ (aP (s[a].toNat : Int) s.data.toList a)) ∧ w = w' := by
 have B1 := qd (aU s a ⟨#[92, 10]⟩ w (by omega) hs (by decide)); have B2 := qd (aU s a ⟨#[47, 42]⟩ w (by omega) hs (by decide)); have B3 := qd (aU s a ⟨#[47, 47]⟩ w (by omega) hs (by decide)); have E : Hid (aP (s[a].toNat : Int) s.data.toList a = some (2, 0)) := by
  unfold Hid aP; rw [h10, hor, hb1]; rfl
 have H1 := qd hb1; clear hb1; obtain ⟨o1, o2, o3, o4⟩ := ge hor; clear hor; go_enter Tryz.func33, Tryz.ntmps33; go_wp2_with fail; refine B1.out.mono ?_; rintro e w1 ⟨rfl, rfl⟩; rw [H1.out]; go_wp2_with fail; refine B2.out.mono ?_; rintro e w1 ⟨rfl, rfl⟩; go_wp2_with fail; refine B3.out.mono ?_; rintro e w1 ⟨rfl, rfl⟩; go_wp2_with fail; go_ret3; exact ⟨gk (by rw [E.out]; simp [lJ]), rfl⟩
variable (hb1 : bL s.data.toList a [92, 10] = false)
include hb1
theorem lF (hb2 : bL s.data.toList a [47, 42] = false) (hb3 : bL s.data.toList a [47, 47] = false) :
 Calls Tryz.prog 33 #[.string s, .int .i64 a] w fun e w' => e = .returned (lJ (aP (s[a].toNat : Int) s.data.toList a)) ∧ w = w' := by
 have B1 := qd (aU s a ⟨#[92, 10]⟩ w (by omega) hs (by decide)); have B2 := qd (aU s a ⟨#[47, 42]⟩ w (by omega) hs (by decide)); have B3 := qd (aU s a ⟨#[47, 47]⟩ w (by omega) hs (by decide)); have E : Hid (aP (s[a].toNat : Int) s.data.toList a = some (0, 0)) := by
  unfold Hid aP; rw [h10, hor, hb1, hb2, hb3]; rfl
 have H1 := qd hb1; clear hb1; have H2 := qd hb2; clear hb2; have H3 := qd hb3; clear hb3; obtain ⟨o1, o2, o3, o4⟩ := ge hor; clear hor; go_enter Tryz.func33, Tryz.ntmps33; go_wp2_with fail; refine B1.out.mono ?_; rintro e w1 ⟨rfl, rfl⟩; rw [H1.out]; go_wp2_with fail; refine B2.out.mono ?_; rintro e w1 ⟨rfl, rfl⟩; rw [H2.out]; go_wp2_with fail; refine B3.out.mono ?_; rintro e w1 ⟨rfl, rfl⟩; rw [H3.out]; go_wp2_with fail; go_ret3; exact ⟨gk (by rw [E.out]; simp [lJ]), rfl⟩
theorem lG (hb2 : bL s.data.toList a [47, 42] = true) (b3 : Bool) (hb3 : bL s.data.toList a [47, 47] = b3) :
 Calls Tryz.prog 33 #[.string s, .int .i64 a] w fun e w' => e = .returned (lJ (aP (s[a].toNat : Int) s.data.toList a)) ∧ w = w' := by
 have B1 := qd (aU s a ⟨#[92, 10]⟩ w (by omega) hs (by decide)); have B2 := qd (aU s a ⟨#[47, 42]⟩ w (by omega) hs (by decide)); have B3 := qd (aU s a ⟨#[47, 47]⟩ w (by omega) hs (by decide)); have hlen : Hid (s.data.toList.length = s.size) := rfl; have E : Hid (aP (s[a].toNat : Int) s.data.toList a = (bq (fun j => bL s.data.toList j [42, 47]) (a + 2) (s.size - (a + 2))).map fun j => (j + 2 - a, 0)) := by
  unfold Hid aP; rw [h10, hor, hb1, hb2, hlen.out]; rfl
 have hb2' : a + 2 ≤ s.size := by
  unfold bL at hb2; rw [fN, beq_iff_eq] at hb2; have := congrArg List.length hb2; rw [List.length_take, List.length_drop, hlen.out] at this; simp at this; omega
 have H1 := qd hb1; clear hb1; have H2 := qd hb2; clear hb2; have H3 := qd hb3; clear hb3; obtain ⟨o1, o2, o3, o4⟩ := ge hor; clear hor; go_enter Tryz.func33, Tryz.ntmps33; go_wp2_with fail; refine B1.out.mono ?_; rintro e w1 ⟨rfl, rfl⟩; rw [H1.out]; go_wp2_with fail; refine B2.out.mono ?_; rintro e w1 ⟨rfl, rfl⟩; rw [H2.out]; go_wp2_with fail; refine B3.out.mono ?_; rintro e w1 ⟨rfl, rfl⟩; rw [H3.out]; go_wp2_with fail
 go_loop [11] (fun i => ∃ k : Nat, a + 2 ≤ k ∧ k ≤ s.size ∧ i = .int .i64 k ∧ bq (fun j => bL s.data.toList j [42, 47]) (a + 2) (s.size - (a + 2)) = bq (fun j => bL s.data.toList j [42, 47]) k (s.size - k)) (fun i => s.size - (intOf i).toNat)
 case atStart => exact ⟨a + 2, by omega, hb2', by go_num, rfl⟩
 case round =>
  obtain ⟨k, hk1, hk2, rfl, hs'⟩ := hrel; have HS := qd hs'; clear hs'
  by_cases hlt : k < s.size
  · have B4 := qd (aU s k ⟨#[42, 47]⟩ w (by omega) hs (by decide))
    by_cases hb : bL s.data.toList k [42, 47] = true
    · have H4 := qd (dj (p := fun j => bL s.data.toList j [42, 47]) hlt hb); have H5 := qd hb; clear hb; go_wp2_with fail; refine B4.out.mono ?_; rintro e w1 ⟨rfl, rfl⟩; rw [H5.out]; go_wp2; go_ret3; refine ⟨gk ?_, rfl⟩; rw [E.out, HS.out, H4.out]; simp [lJ]; omega
    · have hb' : bL s.data.toList k [42, 47] = false := by simpa using hb
      have H4 := qd (cg (p := fun j => bL s.data.toList j [42, 47]) hlt hb'); have H5 := qd hb'; clear hb hb'; go_wp2_with fail; refine B4.out.mono ?_; rintro e w1 ⟨rfl, rfl⟩; rw [H5.out]; go_wp2
      go_round
      case rel => exact ⟨k + 1, by omega, by omega, by go_num, HS.out.trans H4.out⟩
      case measure => simp [intOf]; omega
  · go_wp2; go_ret3; refine ⟨gk ?_, rfl⟩; rw [E.out, HS.out, dk (by omega)]; rfl
theorem ku (hb2 : bL s.data.toList a [47, 42] = false) (hb3 : bL s.data.toList a [47, 47] = true) :
 Calls Tryz.prog 33 #[.string s, .int .i64 a] w fun e w' => e = .returned (lJ (aP (s[a].toNat : Int) s.data.toList a)) ∧ w = w' := by
 have B1 := qd (aU s a ⟨#[92, 10]⟩ w (by omega) hs (by decide)); have B2 := qd (aU s a ⟨#[47, 42]⟩ w (by omega) hs (by decide)); have B3 := qd (aU s a ⟨#[47, 47]⟩ w (by omega) hs (by decide)); have hlen : Hid (s.data.toList.length = s.size) := rfl; have E : Hid (aP (s[a].toNat : Int) s.data.toList a = some ((bq (eE s.data.toList) a (s.size - a)).getD s.size - a, 0)) := by
  unfold Hid aP; rw [h10, hor, hb1, hb2, hb3, hlen.out]; rfl
 have H1 := qd hb1; clear hb1; have H2 := qd hb2; clear hb2; have H3 := qd hb3; clear hb3; obtain ⟨o1, o2, o3, o4⟩ := ge hor; clear hor; go_enter Tryz.func33, Tryz.ntmps33; go_wp2_with fail; refine B1.out.mono ?_; rintro e w1 ⟨rfl, rfl⟩; rw [H1.out]; go_wp2_with fail; refine B2.out.mono ?_; rintro e w1 ⟨rfl, rfl⟩; rw [H2.out]; go_wp2_with fail; refine B3.out.mono ?_; rintro e w1 ⟨rfl, rfl⟩; rw [H3.out]; go_wp2_with fail
 go_loop [13] (fun i => ∃ k : Nat, a + k ≤ s.size ∧ i = .int .i64 k ∧ bq (eE s.data.toList) a (s.size - a) = bq (eE s.data.toList) (a + k) (s.size - (a + k))) (fun i => s.size - (intOf i).toNat)
 case atStart => exact ⟨0, by omega, by go_num, rfl⟩
 case round =>
  obtain ⟨k, hk2, rfl, hs'⟩ := hrel; have HS := qd hs'; clear hs'
  by_cases hlt : a + k < s.size
  · have hlti : (a : Int) + k < s.size := by omega
    have hn := tB s (a + k) hlt; cases hb : eE s.data.toList (a + k)
    · have H4 := qd (cg (p := eE s.data.toList) hlt hb); have hc : ((s[a + k].toNat : Int) != 10) = true := by rw [bne, ← hn, hb]; rfl
      clear hn hb; go_wp2
      go_round
      case rel => exact ⟨k + 1, by omega, by go_num, HS.out.trans H4.out⟩
      case measure => simp [intOf]; omega
    · have H4 := qd (dj (p := eE s.data.toList) hlt hb); have hc : ((s[a + k].toNat : Int) != 10) = false := by rw [bne, ← hn, hb]; rfl
      clear hn hb; go_wp2; go_ret3; refine ⟨gk ?_, rfl⟩; rw [E.out, HS.out, H4.out]; simp [lJ]
  · go_wp2; go_ret3; refine ⟨gk ?_, rfl⟩; rw [E.out, HS.out, dk (by omega)]; simp [lJ]; omega
end
theorem dK (s : ByteArray) (a : Nat) (w : World) (h1 : a < s.size) (hs : s.size ≤ 65535) :
 Calls Tryz.prog 33 #[.string s, .int .i64 a] w fun e w' => e = .returned (lJ (aP (s[a].toNat : Int) s.data.toList a)) ∧ w = w' := by
 cases h10 : ((s[a].toNat : Int) == 10)
 · cases hor : ((s[a].toNat : Int) == 32 || (s[a].toNat : Int) == 9 || (s[a].toNat : Int) == 12 || (s[a].toNat : Int) == 13)
   · cases hb1 : bL s.data.toList a [92, 10]
     · cases hb2 : bL s.data.toList a [47, 42]
       · cases hb3 : bL s.data.toList a [47, 47]
         · exact lF s a w h1 hs h10 hor hb1 hb2 hb3
         · exact ku s a w h1 hs h10 hor hb1 hb2 hb3
       · exact lG s a w h1 hs h10 hor hb1 hb2 _ rfl
     · exact lH s a w h1 hs h10 hor hb1
   · exact lI s a w h1 hs (.inr ⟨h10, hor⟩)
 · exact lI s a w h1 hs (.inl h10)
def bt (l : List UInt8) (k : Nat) : Int := ((l.getD k 0).toNat : Int)
theorem ck (s : ByteArray) (k : Nat) (hk : k < s.size) : bt s.data.toList k = (s[k].toNat : Int) := by unfold bt; rw [q8 s k hk]
def sx (c : Int) : Option Int := if c = 110 then some 10 else if c = 116 then some 9 else if c = 48 then some 0 else if c = 92 then some 92 else if c = 39 then some 39 else none
def dQ (l : List UInt8) (a : Nat) : Option (Int × Nat) :=
 if a + 2 < l.length ∧ bt l (a + 2) = 39 ∧ bt l (a + 1) ≠ 39 ∧ bt l (a + 1) ≠ 92 ∧ bt l (a + 1) ≠ 10 then some (bt l (a + 1), 3)
 else if a + 3 < l.length ∧ bt l (a + 1) = 92 ∧ bt l (a + 3) = 39 then (sx (bt l (a + 2))).map fun v => (v, 4)
 else none
def rG : Option (Int × Nat) → Value
 | some (v, n) => .tuple #[.int .i64 v, .int .i64 n]
 | none => .tuple #[.int .i64 0, .int .i64 0]
theorem pL {o : Option (Int × Nat)} {v : Int} {n : Nat} (h : o = some (v, n)) : rG o = .tuple #[.int .i64 v, .int .i64 n] := by rw [h]; rfl
theorem jR {o : Option (Int × Nat)} (h : o = none) : rG o = .tuple #[.int .i64 0, .int .i64 0] := by rw [h]; rfl
theorem tP (s : ByteArray) (a : Nat) (w : World) (ha : a < s.size) (hs : s.size ≤ 65535) (h1 : ¬ a + 2 < s.size) (R : Option (Int × Nat)) (HR : Hid (dQ s.data.toList a = R)) :
 Calls Tryz.prog 85 #[.string s, .int .i64 a] w fun e w' => e = .returned (rG R) ∧ w = w' := by
 have e1 : ¬ ((a : Int) + 2 < s.size) := by omega
 have e2 : ¬ ((a : Int) + 3 < s.size) := by omega
 have hlen : Hid (s.data.toList.length = s.size) := rfl; go_enter Tryz.func85, Tryz.ntmps85; go_wp2
 go_ret2
 refine ⟨gk (jR ?_).symm, rfl⟩; rw [← HR.out]; unfold dQ; rw [hlen.out, if_neg (by omega), if_neg (by omega)]
theorem tN (s : ByteArray) (a : Nat) (w : World) (hs : s.size ≤ 65535) (h1 : a + 2 < s.size) (h2 : ¬ a + 3 < s.size) (R : Option (Int × Nat)) (HR : Hid (dQ s.data.toList a = R)) :
 Calls Tryz.prog 85 #[.string s, .int .i64 a] w fun e w' => e = .returned (rG R) ∧ w = w' := by
 have e1 : (a : Int) + 2 < s.size := by omega
 have e3 : (a : Int) + 1 < s.size := by omega
 have e2 : ¬ ((a : Int) + 3 < s.size) := by omega
 have hlen : Hid (s.data.toList.length = s.size) := rfl; have HV : Hid (dQ s.data.toList a = if (s[a + 2].toNat : Int) = 39 ∧ (s[a + 1].toNat : Int) ≠ 39 ∧ (s[a + 1].toNat : Int) ≠ 92 ∧ (s[a + 1].toNat : Int) ≠ 10 then some ((s[a + 1].toNat : Int), 3) else none) := by
  unfold Hid dQ; rw [hlen.out, ck s (a + 2) (by omega), ck s (a + 1) (by omega)]; simp only [h1, h2, true_and, false_and, if_false]
 have hby : (s[a + 1].toNat : Int) ≤ 255 := by have := s[a+1].toNat_lt; omega
 go_enter Tryz.func85, Tryz.ntmps85; go_wp2
 all_goals
  go_ret2
  refine ⟨gk ?_, rfl⟩; have hv := HR.out.symm.trans HV.out; clear HR HV hlen
  first
   | (rw [if_pos (by simp_all)] at hv; rw [pL hv]; first | rfl | (simp [wrap64_byte]; done))
   | (rw [if_neg (by rintro ⟨q1, q2, q3, q4⟩; simp_all)] at hv; rw [jR hv]; rfl)
theorem tM (s : ByteArray) (a : Nat) (w : World) (hs : s.size ≤ 65535) (h1 : a + 3 < s.size) (R : Option (Int × Nat)) (HR : Hid (dQ s.data.toList a = R)) :
 Calls Tryz.prog 85 #[.string s, .int .i64 a] w fun e w' => e = .returned (rG R) ∧ w = w' := by
 have e1 : (a : Int) + 2 < s.size := by omega
 have e3 : (a : Int) + 1 < s.size := by omega
 have e2 : (a : Int) + 3 < s.size := by omega
 have hlen : Hid (s.data.toList.length = s.size) := rfl; have HV : Hid (dQ s.data.toList a = if (s[a + 2].toNat : Int) = 39 ∧ (s[a + 1].toNat : Int) ≠ 39 ∧ (s[a + 1].toNat : Int) ≠ 92 ∧ (s[a + 1].toNat : Int) ≠ 10 then some ((s[a + 1].toNat : Int), 3)
  else if (s[a + 1].toNat : Int) = 92 ∧ (s[a + 3].toNat : Int) = 39 then (sx (s[a + 2].toNat : Int)).map fun v => (v, 4) else none) := by
  unfold Hid dQ; rw [hlen.out, ck s (a + 2) (by omega), ck s (a + 1) (by omega), ck s (a + 3) (by omega)]; simp only [show a + 2 < s.size by omega, h1, true_and]
 have hby : (s[a + 1].toNat : Int) ≤ 255 := by have := s[a+1].toNat_lt; omega
 go_enter Tryz.func85, Tryz.ntmps85; go_wp2
 all_goals
  go_ret2
  refine ⟨gk ?_, rfl⟩; have hv := HR.out.symm.trans HV.out; clear HR HV hlen; rw [hv]; unfold sx
  (repeat' split) <;> first | rfl | (exfalso; simp_all; done) | (simp [rG, wrap64_byte]; done) | (simp_all [rG, wrap64_byte]; done)
theorem ri (s : ByteArray) (a : Nat) (w : World) (ha : a < s.size) (hs : s.size ≤ 65535) :
 Calls Tryz.prog 85 #[.string s, .int .i64 a] w fun e w' => e = .returned (rG (dQ s.data.toList a)) ∧ w = w' := by
 by_cases h3 : a + 3 < s.size
 · exact tM s a w hs h3 _ rfl
 · by_cases h2 : a + 2 < s.size
   · exact tN s a w hs h2 h3 _ rfl
   · exact tP s a w ha hs h2 _ rfl
def ls (l : List UInt8) : Nat → Nat → Option Nat
 | 0, _ => none
 | f + 1, i => if l.length ≤ i then none else if bt l i = 34 then some (i + 1) else if bt l i = 10 then none
   else if bt l i = 92 then (if i + 1 < l.length ∧ bt l (i + 1) = 10 then none else ls l f (i + 2)) else ls l f (i + 1)
theorem rN {l : List UInt8} {i : Nat} (h : l.length ≤ i) : ∀ f, ls l f i = none
 | 0 => rfl
 | f + 1 => by rw [ls, if_pos h]
def mM (l : List UInt8) (a : Nat) : Option Nat := ls l (l.length + 2) (a + 1)
def tY (a : Nat) : Option Nat → Int
 | some e => e - a
 | none => 0
theorem kV (s : ByteArray) (k : Nat) (hk : k < s.size) (c : Int) : ((s[k].toNat : Int) == c) = decide (bt s.data.toList k = c) := by
 rw [ck s k hk, Bool.eq_iff_iff]; simp
theorem lD (s : ByteArray) (a : Nat) (w : World) (ha : a < s.size) (hs : s.size ≤ 65535) :
 Calls Tryz.prog 86 #[.string s, .int .i64 a] w fun e w' => e = .returned (.int .i64 (tY a (mM s.data.toList a))) ∧ w = w' := by
 have hlen : Hid (s.data.toList.length = s.size) := rfl; obtain ⟨T, HT⟩ : ∃ T, Hid (mM s.data.toList a = T) := ⟨_, rfl⟩; rw [HT.out]; go_enter Tryz.func86, Tryz.ntmps86; go_wp2
 go_loop [5] (fun i => ∃ k f : Nat, a + 1 ≤ k ∧ k ≤ s.size + 1 ∧ s.size + 1 ≤ k + f ∧ i = .int .i64 k ∧ T = ls s.data.toList f k) (fun i => s.size + 1 - (intOf i).toNat)
 case atStart => exact ⟨a + 1, s.size + 2, by omega, by omega, by omega, by go_num, by rw [← HT.out]; rfl⟩
 case round =>
  obtain ⟨k, f, hk1, hk2, hf, rfl, ht⟩ := hrel; have H := qd ht; clear ht
  by_cases hlt : k < s.size
  · obtain ⟨f, rfl⟩ : ∃ g, f = g + 1 := ⟨f - 1, by omega⟩; have b34 := kV s k hlt 34; have b10 := kV s k hlt 10; have b92 := kV s k hlt 92
    by_cases c34 : bt s.data.toList k = 34
    · have E : Hid (T = some (k + 1)) := H.out.trans (by rw [ls, if_neg (by rw [hlen.out]; omega), if_pos c34]); have g34 : ((s[k].toNat : Int) == 34) = true := by rw [b34, c34]; rfl
      clear b34 b10 b92 c34; go_wp2; go_ret; refine ⟨mY ?_, rfl⟩; rw [E.out]; simp only [tY]; go_num
    · have g34 : ((s[k].toNat : Int) == 34) = false := by rw [b34]; exact decide_eq_false c34
      by_cases c10 : bt s.data.toList k = 10
      · have E : Hid (T = none) := H.out.trans (by rw [ls, if_neg (by rw [hlen.out]; omega), if_neg c34, if_pos c10]); have g10 : ((s[k].toNat : Int) == 10) = true := by rw [b10, c10]; rfl
        clear b34 b10 b92 c34 c10; go_wp2; go_ret; refine ⟨mY ?_, rfl⟩; rw [E.out]; rfl
      · have g10 : ((s[k].toNat : Int) == 10) = false := by rw [b10]; exact decide_eq_false c10
        by_cases c92 : bt s.data.toList k = 92
        · have g92 : ((s[k].toNat : Int) == 92) = true := by rw [b92, c92]; rfl
          have E : Hid (T = if k + 1 < s.size ∧ bt s.data.toList (k + 1) = 10 then none else ls s.data.toList f (k + 2)) := H.out.trans (by rw [ls, if_neg (by rw [hlen.out]; omega), if_neg c34, if_neg c10, if_pos c92, hlen.out]); clear b34 b10 b92 c34 c10 c92
          by_cases hlt1 : k + 1 < s.size
          · have hlti : (k : Int) + 1 < s.size := by omega
            have b := kV s (k + 1) hlt1 10
            by_cases c1 : bt s.data.toList (k + 1) = 10
            · have g1 : ((s[k + 1].toNat : Int) == 10) = true := by rw [b, c1]; rfl
              have E2 : Hid (T = none) := E.out.trans (by rw [if_pos ⟨hlt1, c1⟩]); clear b c1; go_wp2; go_ret; refine ⟨mY ?_, rfl⟩; rw [E2.out]; rfl
            · have g1 : ((s[k + 1].toNat : Int) == 10) = false := by rw [b]; exact decide_eq_false c1
              have E2 : Hid (T = ls s.data.toList f (k + 2)) := E.out.trans (by rw [if_neg (fun h => c1 h.2)]); clear b c1; go_wp2
              go_round
              case rel => exact ⟨k + 2, f, by omega, by omega, by omega, by go_num, E2.out⟩
              case measure => simp [intOf]; omega
          · have hlti : ¬ (k : Int) + 1 < s.size := by omega
            have E2 : Hid (T = ls s.data.toList f (k + 2)) := E.out.trans (by rw [if_neg (fun h => hlt1 h.1)]); go_wp2
            go_round
            case rel => exact ⟨k + 2, f, by omega, by omega, by omega, by go_num, E2.out⟩
            case measure => simp [intOf]; omega
        · have g92 : ((s[k].toNat : Int) == 92) = false := by rw [b92]; exact decide_eq_false c92
          have E : Hid (T = ls s.data.toList f (k + 1)) := H.out.trans (by rw [ls, if_neg (by rw [hlen.out]; omega), if_neg c34, if_neg c10, if_neg c92]); clear b34 b10 b92 c34 c10 c92; go_wp2
          go_round
          case rel => exact ⟨k + 1, f, by omega, by omega, by omega, by go_num, E.out⟩
          case measure => simp [intOf]; omega
  · have E : Hid (T = none) := H.out.trans (rN (by rw [hlen.out]; omega) f); go_wp2; go_ret; refine ⟨mY ?_, rfl⟩; rw [E.out]; rfl
end Go.Proofs.YthkebhjaaikopaaGreatDoor.Lx

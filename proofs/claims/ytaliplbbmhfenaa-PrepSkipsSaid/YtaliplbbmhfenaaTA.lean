/-
  Contracts of the reference's Letter, Digit, begins and Blank. Conditions: bytes; places inside the text, which is at most 65535 bytes long.
-/
import Derived.Test.YtaliplbbmhfenaaA
import Derived.WalkKit
import Derived.ProofKit
import Derived.Lib.Hide
import Derived.BigQuiet
import Derived.Handy
import Derived.WalkSpells
import Derived.Lib.Strings
import Derived.Lib.IndexBytes
import Derived.Outline
import Derived.BigRegion
import Derived.RegionTactic
import Derived.ChangeAlike
import Derived.ScopeJumps
import Derived.WalkMore
namespace Go.Proofs.Ytaliplbbmhfenaa.Lx
open Go.ChangeShapes Go.WideShapes Go.ChangeAt Go.RowKit
theorem retb {a b : Bool} (h : a = b) : Ending.returned (.bool a) = Ending.returned (.bool b) := by rw [h]
theorem reti {k : IntKind} {a b : Int} (h : a = b) : Ending.returned (.int k a) = Ending.returned (.int k b) := by rw [h]
def letF (c : Int) : Bool := decide (c = 95 ∨ (97 ≤ c ∧ c ≤ 122) ∨ (65 ≤ c ∧ c ≤ 90))
def digF (c : Int) : Bool := decide (48 ≤ c ∧ c ≤ 57)
theorem or32 : ∀ n : Fin 256, ¬ ((n.val : Int) = 95) → letF (n.val : Int) = (decide (97 ≤ bits .or .u8 (n.val : Int) 32) && decide (bits .or .u8 (n.val : Int) 32 ≤ 122)) := by decide +kernel
theorem or32' (c : Int) (h0 : 0 ≤ c) (h1 : c ≤ 255) (h : ¬ c = 95) : letF c = (decide (97 ≤ bits .or .u8 c 32) && decide (bits .or .u8 c 32 ≤ 122)) := by
  obtain ⟨n, rfl⟩ := Int.eq_ofNat_of_zero_le h0
  exact or32 ⟨n, by omega⟩ h
set_option maxHeartbeats 1000000 in
theorem rletter_any (c : Int) (w : World) (h0 : 0 ≤ c) (h1 : c ≤ 255) :
    Calls Try.prog 42 #[.int .u8 c] w fun e w' => e = .returned (.bool (letF c)) ∧ w = w' := by
  go_enter Try.func42, Try.ntmps42
  go_wp2
  all_goals
    go_ret
    refine ⟨retb ?_, rfl⟩
    unfold letF
    refine Bool.eq_iff_iff.2 ?_
    simp [*] <;> omega
set_option maxHeartbeats 1000000 in
theorem rdigit_any (c : Int) (w : World) (h0 : 0 ≤ c) (h1 : c ≤ 255) :
    Calls Try.prog 43 #[.int .u8 c] w fun e w' => e = .returned (.bool (digF c)) ∧ w = w' := by
  go_enter Try.func43, Try.ntmps43
  go_wp2
  all_goals
    go_ret
    refine ⟨retb ?_, rfl⟩
    unfold digF
    refine Bool.eq_iff_iff.2 ?_
    simp [*] <;> omega
def begF (l : List UInt8) (a : Nat) (t : List UInt8) : Bool := t.isPrefixOf (l.drop a)
theorem pre_take (t l : List UInt8) : t.isPrefixOf l = (l.take t.length == t) := by
  rw [Bool.eq_iff_iff]
  simp only [List.isPrefixOf_iff_prefix, beq_iff_eq]
  constructor
  · rintro ⟨r, rfl⟩; simp
  · intro h; exact ⟨l.drop t.length, by conv => lhs; lhs; rw [← h]
                                        exact List.take_append_drop _ _⟩
set_option maxHeartbeats 1000000 in
theorem begins_any (s : ByteArray) (a : Nat) (t : ByteArray) (w : World) (h1 : a ≤ s.size) (hs : s.size ≤ 65535) (ht : t.size ≤ 100) :
    Calls Try.prog 41 #[.string s, .int .i64 a, .string t] w fun e w' => e = .returned (.bool (begF s.data.toList a t.data.toList)) ∧ w = w' := by
  by_cases h : a + t.size ≤ s.size
  · have hle : (a : Int) ≤ a + t.size := by omega
    have hle2 : (a : Int) + t.size ≤ s.size := by omega
    have hle3 : (0 : Int) ≤ (a : Int) + t.size := by omega
    go_enter Try.func41, Try.ntmps41
    go_wp2
    go_ret
    refine ⟨retb ?_, rfl⟩
    rw [Lib.extract_toList, Lib.toList_data, Nat.add_sub_cancel_left, begF, pre_take, show t.data.toList.length = t.size from rfl]
  · go_enter Try.func41, Try.ntmps41
    go_wp2
    go_ret
    refine ⟨retb ?_, rfl⟩
    unfold begF
    rw [pre_take]
    symm
    rw [beq_eq_false_iff_ne]
    intro e
    have := congrArg List.length e
    simp at this
    omega
/-- The first place from i on, of n, at which p holds. -/
def srch (p : Nat → Bool) : Nat → Nat → Option Nat
  | _, 0 => none
  | i, n + 1 => if p i then some i else srch p (i + 1) n
theorem srch_hit {p : Nat → Bool} {i N : Nat} (h : i < N) (hp : p i = true) : srch p i (N - i) = some i := by
  obtain ⟨k, hk⟩ : ∃ k, N - i = k + 1 := ⟨N - i - 1, by omega⟩
  rw [hk, srch, if_pos hp]
theorem srch_miss {p : Nat → Bool} {i N : Nat} (h : i < N) (hp : p i = false) : srch p i (N - i) = srch p (i + 1) (N - (i + 1)) := by
  obtain ⟨k, hk⟩ : ∃ k, N - i = k + 1 := ⟨N - i - 1, by omega⟩
  rw [hk, srch, hp, show N - (i + 1) = k by omega]; rfl
theorem srch_end {p : Nat → Bool} {i N : Nat} (h : N ≤ i) : srch p i (N - i) = none := by
  rw [show N - i = 0 by omega, srch]
theorem srch_bd {p : Nat → Bool} : ∀ {n i j : Nat}, srch p i n = some j → i ≤ j ∧ j < i + n ∧ p j = true
  | 0, _, _, h => by simp [srch] at h
  | n + 1, i, j, h => by
    unfold srch at h
    split at h
    · obtain rfl : i = j := by simpa using h
      exact ⟨by omega, by omega, by assumption⟩
    · have := srch_bd h
      exact ⟨by omega, by omega, this.2.2⟩
def isNl (l : List UInt8) (j : Nat) : Bool := l.getD j 0 == 10
/-- What blank stands at a place: its bytes, its lines; none: a comment without an end. c: the byte there. -/
def blankF (c : Int) (l : List UInt8) (a : Nat) : Option (Nat × Nat) :=
  if c == 10 then some (1, 1)
  else if c == 32 || c == 9 || c == 12 || c == 13 then some (1, 0)
  else if begF l a [92, 10] then some (2, 0)
  else if begF l a [47, 42] then (srch (fun j => begF l j [42, 47]) (a + 2) (l.length - (a + 2))).map fun j => (j + 2 - a, 0)
  else if begF l a [47, 47] then some ((srch (isNl l) a (l.length - a)).getD l.length - a, 0)
  else some (0, 0)
def rbV : Option (Nat × Nat) → Value
  | some (n, k) => .tuple #[.int .i64 n, .int .i64 k, .bool true]
  | none => .tuple #[.int .i64 0, .int .i64 0, .bool false]
theorem retv {a b : Value} (h : a = b) : Ending.returned a = Ending.returned b := by rw [h]
theorem getb (s : ByteArray) (k : Nat) (hk : k < s.size) : s.data.toList.getD k 0 = s[k] := by
  have : k < s.data.toList.length := hk
  rw [List.getD_eq_getElem?_getD, List.getElem?_eq_getElem this]
  rfl
theorem byte_int (c d : UInt8) : (c == d) = ((c.toNat : Int) == (d.toNat : Int)) := by
  rw [Bool.eq_iff_iff]
  simp only [beq_iff_eq, ← UInt8.toNat_inj]
  omega
theorem nl_int (s : ByteArray) (k : Nat) (hk : k < s.size) : isNl s.data.toList k = ((s[k].toNat : Int) == 10) := by
  unfold isNl
  rw [getb s k hk, byte_int]
  rfl
theorem blank_or {c : Int} (h : (c == 32 || c == 9 || c == 12 || c == 13) = false) : (c == 32) = false ∧ (c == 9) = false ∧ (c == 12) = false ∧ (c == 13) = false := by
  simpa [and_assoc] using h
section
variable (s : ByteArray) (a : Nat) (w : World) (h1 : a < s.size) (hs : s.size ≤ 65535)
include h1 hs
set_option maxHeartbeats 1000000 in
theorem rblank_c (h : ((s[a].toNat : Int) == 10) = true ∨ ((s[a].toNat : Int) == 10) = false ∧ ((s[a].toNat : Int) == 32 || (s[a].toNat : Int) == 9 || (s[a].toNat : Int) == 12 || (s[a].toNat : Int) == 13) = true) :
    Calls Try.prog 32 #[.string s, .int .i64 a] w fun e w' => e = .returned (rbV (blankF (s[a].toNat : Int) s.data.toList a)) ∧ w = w' := by
  have B1 := Lib.hid (begins_any s a ⟨#[92, 10]⟩ w (by omega) hs (by decide))
  have B2 := Lib.hid (begins_any s a ⟨#[47, 42]⟩ w (by omega) hs (by decide))
  have B3 := Lib.hid (begins_any s a ⟨#[47, 47]⟩ w (by omega) hs (by decide))
  have E : Hid (blankF (s[a].toNat : Int) s.data.toList a = some (1, if (s[a].toNat : Int) == 10 then 1 else 0)) := by
    unfold Hid blankF
    rcases h with h | ⟨h, h'⟩
    · simp [h]
    · rw [h, h']; rfl
  rcases h with h | ⟨h, h'⟩
  all_goals
    go_enter Try.func32, Try.ntmps32
    go_wp2_with fail
    refine B1.out.mono ?_
    rintro e w1 ⟨rfl, rfl⟩
    go_wp2_with fail
    refine B2.out.mono ?_
    rintro e w1 ⟨rfl, rfl⟩
    go_wp2_with fail
    refine B3.out.mono ?_
    rintro e w1 ⟨rfl, rfl⟩
    go_wp2_with fail
    all_goals first
      | (exfalso; simp_all; done)
      | (go_ret3; exact ⟨retv (by rw [E.out]; simp [rbV, *]), rfl⟩)
variable (h10 : ((s[a].toNat : Int) == 10) = false) (hor : ((s[a].toNat : Int) == 32 || (s[a].toNat : Int) == 9 || (s[a].toNat : Int) == 12 || (s[a].toNat : Int) == 13) = false)
include h10 hor
set_option maxHeartbeats 1000000 in
theorem rblank_fold (hb1 : begF s.data.toList a [92, 10] = true) :
    Calls Try.prog 32 #[.string s, .int .i64 a] w fun e w' => e = .returned (rbV (blankF (s[a].toNat : Int) s.data.toList a)) ∧ w = w' := by
  have B1 := Lib.hid (begins_any s a ⟨#[92, 10]⟩ w (by omega) hs (by decide))
  have B2 := Lib.hid (begins_any s a ⟨#[47, 42]⟩ w (by omega) hs (by decide))
  have B3 := Lib.hid (begins_any s a ⟨#[47, 47]⟩ w (by omega) hs (by decide))
  have E : Hid (blankF (s[a].toNat : Int) s.data.toList a = some (2, 0)) := by
    unfold Hid blankF
    rw [h10, hor, hb1]; rfl
  have H1 := Lib.hid hb1; clear hb1
  obtain ⟨o1, o2, o3, o4⟩ := blank_or hor
  clear hor
  go_enter Try.func32, Try.ntmps32
  go_wp2_with fail
  refine B1.out.mono ?_
  rintro e w1 ⟨rfl, rfl⟩
  rw [H1.out]
  go_wp2_with fail
  refine B2.out.mono ?_
  rintro e w1 ⟨rfl, rfl⟩
  go_wp2_with fail
  refine B3.out.mono ?_
  rintro e w1 ⟨rfl, rfl⟩
  go_wp2_with fail
  go_ret3
  exact ⟨retv (by rw [E.out]; simp [rbV]), rfl⟩
variable (hb1 : begF s.data.toList a [92, 10] = false)
include hb1
set_option maxHeartbeats 1000000 in
theorem rblank_none (hb2 : begF s.data.toList a [47, 42] = false) (hb3 : begF s.data.toList a [47, 47] = false) :
    Calls Try.prog 32 #[.string s, .int .i64 a] w fun e w' => e = .returned (rbV (blankF (s[a].toNat : Int) s.data.toList a)) ∧ w = w' := by
  have B1 := Lib.hid (begins_any s a ⟨#[92, 10]⟩ w (by omega) hs (by decide))
  have B2 := Lib.hid (begins_any s a ⟨#[47, 42]⟩ w (by omega) hs (by decide))
  have B3 := Lib.hid (begins_any s a ⟨#[47, 47]⟩ w (by omega) hs (by decide))
  have E : Hid (blankF (s[a].toNat : Int) s.data.toList a = some (0, 0)) := by
    unfold Hid blankF
    rw [h10, hor, hb1, hb2, hb3]; rfl
  have H1 := Lib.hid hb1; clear hb1
  have H2 := Lib.hid hb2; clear hb2
  have H3 := Lib.hid hb3; clear hb3
  obtain ⟨o1, o2, o3, o4⟩ := blank_or hor
  clear hor
  go_enter Try.func32, Try.ntmps32
  go_wp2_with fail
  refine B1.out.mono ?_
  rintro e w1 ⟨rfl, rfl⟩
  rw [H1.out]
  go_wp2_with fail
  refine B2.out.mono ?_
  rintro e w1 ⟨rfl, rfl⟩
  rw [H2.out]
  go_wp2_with fail
  refine B3.out.mono ?_
  rintro e w1 ⟨rfl, rfl⟩
  rw [H3.out]
  go_wp2_with fail
  go_ret3
  exact ⟨retv (by rw [E.out]; simp [rbV]), rfl⟩
set_option maxHeartbeats 1000000 in
theorem rblank_long (hb2 : begF s.data.toList a [47, 42] = true) (b3 : Bool) (hb3 : begF s.data.toList a [47, 47] = b3) :
    Calls Try.prog 32 #[.string s, .int .i64 a] w fun e w' => e = .returned (rbV (blankF (s[a].toNat : Int) s.data.toList a)) ∧ w = w' := by
  have B1 := Lib.hid (begins_any s a ⟨#[92, 10]⟩ w (by omega) hs (by decide))
  have B2 := Lib.hid (begins_any s a ⟨#[47, 42]⟩ w (by omega) hs (by decide))
  have B3 := Lib.hid (begins_any s a ⟨#[47, 47]⟩ w (by omega) hs (by decide))
  have hlen : Hid (s.data.toList.length = s.size) := rfl
  have E : Hid (blankF (s[a].toNat : Int) s.data.toList a = (srch (fun j => begF s.data.toList j [42, 47]) (a + 2) (s.size - (a + 2))).map fun j => (j + 2 - a, 0)) := by
    unfold Hid blankF
    rw [h10, hor, hb1, hb2, hlen.out]; rfl
  have hb2' : a + 2 ≤ s.size := by
    unfold begF at hb2
    rw [pre_take, beq_iff_eq] at hb2
    have := congrArg List.length hb2
    rw [List.length_take, List.length_drop, hlen.out] at this
    simp at this
    omega
  have H1 := Lib.hid hb1; clear hb1
  have H2 := Lib.hid hb2; clear hb2
  have H3 := Lib.hid hb3; clear hb3
  obtain ⟨o1, o2, o3, o4⟩ := blank_or hor
  clear hor
  go_enter Try.func32, Try.ntmps32
  go_wp2_with fail
  refine B1.out.mono ?_
  rintro e w1 ⟨rfl, rfl⟩
  rw [H1.out]
  go_wp2_with fail
  refine B2.out.mono ?_
  rintro e w1 ⟨rfl, rfl⟩
  rw [H2.out]
  go_wp2_with fail
  refine B3.out.mono ?_
  rintro e w1 ⟨rfl, rfl⟩
  rw [H3.out]
  go_wp2_with fail
  go_loop [11] (fun i => ∃ k : Nat, a + 2 ≤ k ∧ k ≤ s.size ∧ i = .int .i64 k ∧ srch (fun j => begF s.data.toList j [42, 47]) (a + 2) (s.size - (a + 2)) = srch (fun j => begF s.data.toList j [42, 47]) k (s.size - k)) (fun i => s.size - (intOf i).toNat)
  case atStart => exact ⟨a + 2, by omega, hb2', by go_num, rfl⟩
  case round =>
    obtain ⟨k, hk1, hk2, rfl, hs'⟩ := hrel
    have HS := Lib.hid hs'; clear hs'
    by_cases hlt : k < s.size
    · have B4 := Lib.hid (begins_any s k ⟨#[42, 47]⟩ w (by omega) hs (by decide))
      by_cases hb : begF s.data.toList k [42, 47] = true
      · have H4 := Lib.hid (srch_hit (p := fun j => begF s.data.toList j [42, 47]) hlt hb)
        have H5 := Lib.hid hb; clear hb
        go_wp2_with fail
        refine B4.out.mono ?_
        rintro e w1 ⟨rfl, rfl⟩
        rw [H5.out]
        go_wp2
        go_ret3
        refine ⟨retv ?_, rfl⟩
        rw [E.out, HS.out, H4.out]
        simp [rbV]
        omega
      · have hb' : begF s.data.toList k [42, 47] = false := by simpa using hb
        have H4 := Lib.hid (srch_miss (p := fun j => begF s.data.toList j [42, 47]) hlt hb')
        have H5 := Lib.hid hb'; clear hb hb'
        go_wp2_with fail
        refine B4.out.mono ?_
        rintro e w1 ⟨rfl, rfl⟩
        rw [H5.out]
        go_wp2
        go_round
        case rel => exact ⟨k + 1, by omega, by omega, by go_num, HS.out.trans H4.out⟩
        case measure => simp [intOf]; omega
    · go_wp2
      go_ret3
      refine ⟨retv ?_, rfl⟩
      rw [E.out, HS.out, srch_end (by omega)]
      rfl
set_option maxHeartbeats 1000000 in
theorem rblank_short (hb2 : begF s.data.toList a [47, 42] = false) (hb3 : begF s.data.toList a [47, 47] = true) :
    Calls Try.prog 32 #[.string s, .int .i64 a] w fun e w' => e = .returned (rbV (blankF (s[a].toNat : Int) s.data.toList a)) ∧ w = w' := by
  have B1 := Lib.hid (begins_any s a ⟨#[92, 10]⟩ w (by omega) hs (by decide))
  have B2 := Lib.hid (begins_any s a ⟨#[47, 42]⟩ w (by omega) hs (by decide))
  have B3 := Lib.hid (begins_any s a ⟨#[47, 47]⟩ w (by omega) hs (by decide))
  have hlen : Hid (s.data.toList.length = s.size) := rfl
  have E : Hid (blankF (s[a].toNat : Int) s.data.toList a = some ((srch (isNl s.data.toList) a (s.size - a)).getD s.size - a, 0)) := by
    unfold Hid blankF
    rw [h10, hor, hb1, hb2, hb3, hlen.out]; rfl
  have H1 := Lib.hid hb1; clear hb1
  have H2 := Lib.hid hb2; clear hb2
  have H3 := Lib.hid hb3; clear hb3
  obtain ⟨o1, o2, o3, o4⟩ := blank_or hor
  clear hor
  go_enter Try.func32, Try.ntmps32
  go_wp2_with fail
  refine B1.out.mono ?_
  rintro e w1 ⟨rfl, rfl⟩
  rw [H1.out]
  go_wp2_with fail
  refine B2.out.mono ?_
  rintro e w1 ⟨rfl, rfl⟩
  rw [H2.out]
  go_wp2_with fail
  refine B3.out.mono ?_
  rintro e w1 ⟨rfl, rfl⟩
  rw [H3.out]
  go_wp2_with fail
  go_loop [13] (fun i => ∃ k : Nat, a + k ≤ s.size ∧ i = .int .i64 k ∧ srch (isNl s.data.toList) a (s.size - a) = srch (isNl s.data.toList) (a + k) (s.size - (a + k))) (fun i => s.size - (intOf i).toNat)
  case atStart => exact ⟨0, by omega, by go_num, rfl⟩
  case round =>
    obtain ⟨k, hk2, rfl, hs'⟩ := hrel
    have HS := Lib.hid hs'; clear hs'
    by_cases hlt : a + k < s.size
    · have hlti : (a : Int) + k < s.size := by omega
      have hn := nl_int s (a + k) hlt
      cases hb : isNl s.data.toList (a + k)
      · have H4 := Lib.hid (srch_miss (p := isNl s.data.toList) hlt hb)
        have hc : ((s[a + k].toNat : Int) != 10) = true := by rw [bne, ← hn, hb]; rfl
        clear hn hb
        go_wp2
        go_round
        case rel => exact ⟨k + 1, by omega, by go_num, HS.out.trans H4.out⟩
        case measure => simp [intOf]; omega
      · have H4 := Lib.hid (srch_hit (p := isNl s.data.toList) hlt hb)
        have hc : ((s[a + k].toNat : Int) != 10) = false := by rw [bne, ← hn, hb]; rfl
        clear hn hb
        go_wp2
        go_ret3
        refine ⟨retv ?_, rfl⟩
        rw [E.out, HS.out, H4.out]
        simp [rbV]
    · go_wp2
      go_ret3
      refine ⟨retv ?_, rfl⟩
      rw [E.out, HS.out, srch_end (by omega)]
      simp [rbV]
      omega
end
theorem rblank_any (s : ByteArray) (a : Nat) (w : World) (h1 : a < s.size) (hs : s.size ≤ 65535) :
    Calls Try.prog 32 #[.string s, .int .i64 a] w fun e w' => e = .returned (rbV (blankF (s[a].toNat : Int) s.data.toList a)) ∧ w = w' := by
  cases h10 : ((s[a].toNat : Int) == 10)
  · cases hor : ((s[a].toNat : Int) == 32 || (s[a].toNat : Int) == 9 || (s[a].toNat : Int) == 12 || (s[a].toNat : Int) == 13)
    · cases hb1 : begF s.data.toList a [92, 10]
      · cases hb2 : begF s.data.toList a [47, 42]
        · cases hb3 : begF s.data.toList a [47, 47]
          · exact rblank_none s a w h1 hs h10 hor hb1 hb2 hb3
          · exact rblank_short s a w h1 hs h10 hor hb1 hb2 hb3
        · exact rblank_long s a w h1 hs h10 hor hb1 hb2 _ rfl
      · exact rblank_fold s a w h1 hs h10 hor hb1
    · exact rblank_c s a w h1 hs (.inr ⟨h10, hor⟩)
  · exact rblank_c s a w h1 hs (.inl h10)
end Go.Proofs.Ytaliplbbmhfenaa.Lx

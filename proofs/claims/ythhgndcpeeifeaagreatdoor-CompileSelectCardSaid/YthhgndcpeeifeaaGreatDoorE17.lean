/- Part of the proof of CompileForCardSaid. -/
import Derived.Test.YthhgndcpeeifeaaGreatDoorRows
import Derived.WalkKit
import Derived.ProofKit
import Derived.Lib.Hide
import Derived.BigQuiet
import Derived.Handy
import Derived.WalkSpells
import Derived.Lib.Strings
import Derived.Lib.IndexBytes
set_option linter.unusedVariables false
set_option linter.unusedSimpArgs false
set_option linter.unusedSectionVars false
set_option linter.constructorNameAsVariable false
namespace Go.Proofs.Lx6
open Go.ChangeShapes Go.WideShapes Go.ChangeAt Go.RowKit
theorem retb {a b : Bool} (h : a = b) : Ending.returned (.bool a) = Ending.returned (.bool b) := by rw [h]
theorem reti {k : IntKind} {a b : Int} (h : a = b) : Ending.returned (.int k a) = Ending.returned (.int k b) := by rw [h]
def letF (c : Int) : Bool := decide (c = 95 ∨ (97 ≤ c ∧ c ≤ 122) ∨ (65 ≤ c ∧ c ≤ 90))
def digF (c : Int) : Bool := decide (48 ≤ c ∧ c ≤ 57)
theorem or32 : ∀ n : Fin 256, ¬ ((n.val : Int) = 95) → letF (n.val : Int) = (decide (97 ≤ bits .or .u8 (n.val : Int) 32) && decide (bits .or .u8 (n.val : Int) 32 ≤ 122)) := by decide +kernel
theorem or32' (c : Int) (h0 : 0 ≤ c) (h1 : c ≤ 255) (h : ¬ c = 95) : letF c = (decide (97 ≤ bits .or .u8 c 32) && decide (bits .or .u8 c 32 ≤ 122)) := by
  obtain ⟨n, rfl⟩ := Int.eq_ofNat_of_zero_le h0
  exact or32 ⟨n, by omega⟩ h
set_option maxHeartbeats 1000000 in
theorem letter_any (c : Int) (w : World) (h0 : 0 ≤ c) (h1 : c ≤ 255) :
    Calls Tryz.prog 107 #[.int .u8 c] w fun e w' => e = .returned (.bool (letF c)) ∧ w = w' := by
  by_cases h : c = 95
  · subst h
    go_enter Tryz.func107, Tryz.ntmps107
    go_wp2
    go_ret
    exact ⟨rfl, rfl⟩
  · have H := Lib.hid (or32' c h0 h1 h)
    have hb : (c == 95) = false := by simpa using h
    go_enter Tryz.func107, Tryz.ntmps107
    go_wp2
    all_goals
      go_ret
      refine ⟨retb ?_, rfl⟩
      rw [H.out]
      simp [*]
      try omega
set_option maxHeartbeats 1000000 in
theorem digit_any (c : Int) (w : World) (h0 : 0 ≤ c) (h1 : c ≤ 255) :
    Calls Tryz.prog 108 #[.int .u8 c] w fun e w' => e = .returned (.bool (digF c)) ∧ w = w' := by
  go_enter Tryz.func108, Tryz.ntmps108
  go_wp2
  go_ret
  refine ⟨retb ?_, rfl⟩
  unfold digF
  exact decide_eq_decide.2 (by omega)
def begF (l : List UInt8) (a : Nat) (t : List UInt8) : Bool := t.isPrefixOf (l.drop a)
theorem pre_take (t l : List UInt8) : t.isPrefixOf l = (l.take t.length == t) := by
  rw [Bool.eq_iff_iff]
  simp only [List.isPrefixOf_iff_prefix, beq_iff_eq]
  constructor
  · rintro ⟨r, rfl⟩; simp
  · intro h; exact ⟨l.drop t.length, by conv => lhs; lhs; rw [← h]
                                        exact List.take_append_drop _ _⟩
/-- The first place from i on, of n, at which p holds. -/
def srch (p : Nat → Bool) : Nat → Nat → Option Nat
  | _, 0 => none
  | i, n + 1 => if p i then some i else srch p (i + 1) n
theorem srch_hit {p : Nat → Bool} {i N : Nat} (h : i < N) (hp : p i = true) : srch p i (N - i) = some i := by
  obtain ⟨k, hk⟩ : ∃ k, N - i = k + 1 := ⟨N - i - 1, by omega⟩
  rw [hk, srch, if_pos hp]
theorem srch_miss {p : Nat → Bool} {i N : Nat} (h : i < N) (hp : p i = false) : srch p i (N - i) = srch p (i + 1) (N - (i + 1)) := by
  obtain ⟨k, hk⟩ : ∃ k, N - i = k + 1 := ⟨N - i - 1, by omega⟩
  rw [hk, srch, hp, show N - (i + 1) = k by omega]; rfl
theorem srch_end {p : Nat → Bool} {i N : Nat} (h : N ≤ i) : srch p i (N - i) = none := by
  rw [show N - i = 0 by omega, srch]
theorem srch_bd {p : Nat → Bool} : ∀ {n i j : Nat}, srch p i n = some j → i ≤ j ∧ j < i + n ∧ p j = true
  | 0, _, _, h => by simp [srch] at h
  | n + 1, i, j, h => by
    unfold srch at h
    split at h
    · obtain rfl : i = j := by simpa using h
      exact ⟨by omega, by omega, by assumption⟩
    · have := srch_bd h
      exact ⟨by omega, by omega, this.2.2⟩
def isNl (l : List UInt8) (j : Nat) : Bool := l.getD j 0 == 10
/-- What blank stands at a place: its bytes, its lines; none: a comment without an end. c: the byte there. -/
def blankF (c : Int) (l : List UInt8) (a : Nat) : Option (Nat × Nat) :=
  if c == 10 then some (1, 1)
  else if c == 32 || c == 9 || c == 12 || c == 13 then some (1, 0)
  else if begF l a [92, 10] then some (2, 0)
  else if begF l a [47, 42] then (srch (fun j => begF l j [42, 47]) (a + 2) (l.length - (a + 2))).map fun j => (j + 2 - a, 0)
  else if begF l a [47, 47] then some ((srch (isNl l) a (l.length - a)).getD l.length - a, 0)
  else some (0, 0)
def rbV : Option (Nat × Nat) → Value
  | some (n, k) => .tuple #[.int .i64 n, .int .i64 k, .bool true]
  | none => .tuple #[.int .i64 0, .int .i64 0, .bool false]
theorem retv {a b : Value} (h : a = b) : Ending.returned a = Ending.returned b := by rw [h]
theorem getb (s : ByteArray) (k : Nat) (hk : k < s.size) : s.data.toList.getD k 0 = s[k] := by
  have : k < s.data.toList.length := hk
  rw [List.getD_eq_getElem?_getD, List.getElem?_eq_getElem this]
  rfl
theorem byte_int (c d : UInt8) : (c == d) = ((c.toNat : Int) == (d.toNat : Int)) := by
  rw [Bool.eq_iff_iff]
  simp only [beq_iff_eq, ← UInt8.toNat_inj]
  omega
theorem nl_int (s : ByteArray) (k : Nat) (hk : k < s.size) : isNl s.data.toList k = ((s[k].toNat : Int) == 10) := by
  unfold isNl
  rw [getb s k hk, byte_int]
  rfl
theorem blank_or {c : Int} (h : (c == 32 || c == 9 || c == 12 || c == 13) = false) : (c == 32) = false ∧ (c == 9) = false ∧ (c == 12) = false ∧ (c == 13) = false := by
  simpa [and_assoc] using h
section
variable (s : ByteArray) (a : Nat) (w : World) (h1 : a < s.size) (hs : s.size ≤ 65535)
include h1 hs
variable (h10 : ((s[a].toNat : Int) == 10) = false) (hor : ((s[a].toNat : Int) == 32 || (s[a].toNat : Int) == 9 || (s[a].toNat : Int) == 12 || (s[a].toNat : Int) == 13) = false)
include h10 hor
variable (hb1 : begF s.data.toList a [92, 10] = false)
include hb1
end
end Go.Proofs.Lx6
namespace Go.Proofs.Lx6
open Go.ChangeShapes Go.WideShapes Go.ChangeAt Go.RowKit
/-- The byte at a place, as a number. -/
def bt (l : List UInt8) (k : Nat) : Int := ((l.getD k 0).toNat : Int)
theorem bt_eq (s : ByteArray) (k : Nat) (hk : k < s.size) : bt s.data.toList k = (s[k].toNat : Int) := by unfold bt; rw [getb s k hk]
def escF (c : Int) : Option Int := if c = 110 then some 10 else if c = 116 then some 9 else if c = 48 then some 0 else if c = 92 then some 92 else if c = 39 then some 39 else none
/-- The number in quotes at a place, and how many bytes it has. -/
def charF (l : List UInt8) (a : Nat) : Option (Int × Nat) :=
  if a + 2 < l.length ∧ bt l (a + 2) = 39 ∧ bt l (a + 1) ≠ 39 ∧ bt l (a + 1) ≠ 92 ∧ bt l (a + 1) ≠ 10 then some (bt l (a + 1), 3)
  else if a + 3 < l.length ∧ bt l (a + 1) = 92 ∧ bt l (a + 3) = 39 then (escF (bt l (a + 2))).map fun v => (v, 4)
  else none
def chV : Option (Int × Nat) → Value
  | some (v, n) => .tuple #[.int .i64 v, .int .i64 n]
  | none => .tuple #[.int .i64 0, .int .i64 0]
theorem getD_some {o : Option (Int × Nat)} {v : Int} {n : Nat} (h : o = some (v, n)) : chV o = .tuple #[.int .i64 v, .int .i64 n] := by rw [h]; rfl
theorem getD_none {o : Option (Int × Nat)} (h : o = none) : chV o = .tuple #[.int .i64 0, .int .i64 0] := by rw [h]; rfl
/-- Where the text ends whose inner bytes begin at a place. -/
def txt (l : List UInt8) : Nat → Nat → Option Nat
  | 0, _ => none
  | f + 1, i => if l.length ≤ i then none else if bt l i = 34 then some (i + 1) else if bt l i = 10 then none
    else if bt l i = 92 then (if i + 1 < l.length ∧ bt l (i + 1) = 10 then none else txt l f (i + 2)) else txt l f (i + 1)
theorem txt_end {l : List UInt8} {i : Nat} (h : l.length ≤ i) : ∀ f, txt l f i = none
  | 0 => rfl
  | f + 1 => by rw [txt, if_pos h]
def txtF (l : List UInt8) (a : Nat) : Option Nat := txt l (l.length + 2) (a + 1)
def txV (a : Nat) : Option Nat → Int
  | some e => e - a
  | none => 0
theorem bt_int (s : ByteArray) (k : Nat) (hk : k < s.size) (c : Int) : ((s[k].toNat : Int) == c) = decide (bt s.data.toList k = c) := by
  rw [bt_eq s k hk, Bool.eq_iff_iff]; simp
end Go.Proofs.Lx6

/-
  Contracts of good.Type and good.Fits (and of the reference's Type), for every type and number: no condition.
-/
import Derived.Test.YtblpajbacdbgpaaRows
import Derived.WalkKit
import Derived.ProofKit
import Derived.Lib.Hide
import Derived.BigQuiet
import Derived.Handy
namespace Go.Proofs.Ytblpajbacdbgpaa
open Go.ChangeShapes Go.WideShapes Go.ChangeAt Go.RowKit
theorem retb {a b : Bool} (h : a = b) : Ending.returned (.bool a) = Ending.returned (.bool b) := by rw [h]
theorem reti {k : IntKind} {a b : Int} (h : a = b) : Ending.returned (.int k a) = Ending.returned (.int k b) := by rw [h]
theorem bcell {W w1 : World} (hb : Below W.heap.size W w1) : ∀ b o, b < W.heap.size → w1.cell? ⟨b, o, none⟩ = W.cell? ⟨b, o, none⟩ := fun b o h => hb.cell (p := ⟨b, o, none⟩) h


/-- A slice value whose elements, of sz cells each, are told by a list: element i's cell j holds 'enc l[i] j'. -/
def Sl {α : Type} [Inhabited α] (w : World) (sz : Nat) (enc : α → Nat → Value) (v : Value) (l : List α) : Prop :=
  ∃ a cap, v = .slice a l.length cap ∧ l.length ≤ cap ∧ cap ≤ maxLen ∧ (0 < l.length → ∃ b off, a = some ⟨b, off, none⟩ ∧ b < w.heap.size ∧
    ∀ i, i < l.length → ∀ j, j < sz → w.cell? ⟨b, off + i * sz + j, none⟩ = some (enc (l.getD i default) j))
theorem Sl.keep {α : Type} [Inhabited α] {w w' : World} {sz : Nat} {enc : α → Nat → Value} {v : Value} {l : List α} (hb : Below w.heap.size w w') (h : Sl w sz enc v l) : Sl w' sz enc v l := by
  obtain ⟨a, cap, h1, h2, h3, h4⟩ := h
  exact ⟨a, cap, h1, h2, h3, fun hp => by
    obtain ⟨b, off, e1, e2, e3⟩ := h4 hp
    exact ⟨b, off, e1, Nat.lt_of_lt_of_le e2 hb.size, fun i hi j hj => (hb.cell e2).trans (e3 i hi j hj)⟩⟩
structure Dim where
  i : Int
  len : Int
  stride : Int
deriving Inhabited
/-- A number of Go's type int. -/
def okI (n : Int) : Prop := -9223372036854775808 ≤ n ∧ n ≤ 9223372036854775807
def Dim.ok (d : Dim) : Prop := okI d.i ∧ okI d.len ∧ okI d.stride
def Dim.enc (d : Dim) : Nat → Value
  | 0 => .int .i64 d.i
  | 1 => .int .i64 d.len
  | _ => .int .i64 d.stride
/-- type: may a type be -/
def tyF (b : Int) (s : Bool) : Bool := decide (1 ≤ b ∧ b ≤ 32 ∧ (s = false ∨ b = 16 ∨ b = 32))
set_option maxHeartbeats 1000000 in
theorem type_any (b : Int) (s : Bool) (w : World) :
    Calls Try.prog 6 #[.agg #[.int .i64 b, .bool s]] w fun e w' => e = .returned (.bool (tyF b s)) ∧ Below w.heap.size w w' := by
  go_enter Try.func6, Try.ntmps6
  go_wp2
  all_goals
    go_ret
    refine ⟨retb ?_, by go_grown⟩
    refine Bool.eq_iff_iff.2 ?_
    simp [tyF, *] <;> omega
set_option maxHeartbeats 1000000 in
theorem rtype_any (b : Int) (s : Bool) (w : World) :
    Calls Try.prog 7 #[.agg #[.int .i64 b, .bool s]] w fun e w' => e = .returned (.bool (tyF b s)) ∧ Below w.heap.size w w' := by
  go_enter Try.func7, Try.ntmps7
  go_wp2
  all_goals
    go_ret
    refine ⟨retb ?_, by go_grown⟩
    refine Bool.eq_iff_iff.2 ?_
    simp [tyF, *] <;> omega
theorem pow_bd (k : Nat) (h : k ≤ 32) : 0 < (2 : Int) ^ k ∧ (2 : Int) ^ k ≤ 4294967296 := by
  have h1 : (2 : Nat) ^ k ≤ 2 ^ 32 := Nat.pow_le_pow_right (by omega) h
  have h2 : 0 < (2 : Nat) ^ k := Nat.pow_pos (by omega)
  have e : (2 : Int) ^ k = ((2 ^ k : Nat) : Int) := by push_cast; rfl
  rw [e]; omega
/-- Fits -/
def fitF (b : Int) (s : Bool) (v : Int) : Bool :=
  tyF b s && (if s then decide (-(2 ^ (b.toNat - 1) : Int) ≤ v ∧ v < 2 ^ (b.toNat - 1)) else decide (0 ≤ v ∧ v < 2 ^ b.toNat))
theorem fit_no {b v : Int} {s : Bool} (h : tyF b s = false) : fitF b s v = false := by simp [fitF, h]
theorem fit_s {b v : Int} (h : tyF b true = true) : fitF b true v = decide (-(2 ^ (b.toNat - 1) : Int) ≤ v ∧ v < 2 ^ (b.toNat - 1)) := by simp [fitF, h]
theorem fit_u {b v : Int} (h : tyF b false = true) : fitF b false v = decide (0 ≤ v ∧ v < 2 ^ b.toNat) := by simp [fitF, h]
set_option maxHeartbeats 1000000 in
theorem fits_any (b : Int) (s : Bool) (v : Int) (w : World) :
    Calls Try.prog 8 #[.agg #[.int .i64 b, .bool s], .int .i64 v] w fun e w' => e = .returned (.bool (fitF b s v)) ∧ Below w.heap.size w w' := by
  by_cases ht : tyF b s = true
  · have hb : 1 ≤ b ∧ b ≤ 32 := by simp [tyF] at ht; omega
    obtain ⟨h1, h2⟩ := hb
    have p1 := pow_bd (b.toNat - 1) (by omega)
    have p2 := pow_bd b.toNat (by omega)
    have e1 : wrap64 (-2 ^ (b.toNat - 1)) = -2 ^ (b.toNat - 1) := IntWalk.wrap64_in _ (by constructor <;> omega)
    have e2 : wrap64 (2 ^ (b.toNat - 1)) = 2 ^ (b.toNat - 1) := IntWalk.wrap64_in _ (by constructor <;> omega)
    have e3 : wrap64 (2 ^ b.toNat) = 2 ^ b.toNat := IntWalk.wrap64_in _ (by constructor <;> omega)
    have HT := Lib.hid ht; clear ht
    go_enter Try.func8, Try.ntmps8
    go_wp2_with fail
    refine (type_any _ _ _).mono ?_
    rintro e w1 ⟨rfl, hb1⟩
    have hc1 := bcell hb1
    have hz1 : w.heap.size < w1.heap.size := by have := hb1.size; simp at this; omega
    rw [HT.out]
    cases s
    all_goals
      go_wp2
      all_goals
        go_ret
        refine ⟨retb ?_, ?_⟩
        · first | rw [fit_s HT.out] | rw [fit_u HT.out]
          refine Bool.eq_iff_iff.2 ?_
          simp <;> omega
        · exact ((Below.refl _ _).alloc (Nat.le_refl _) _).trans (hb1.mono (by simp))
  · have ht' : tyF b s = false := by simpa using ht
    go_enter Try.func8, Try.ntmps8
    go_wp2_with fail
    refine (type_any _ _ _).mono ?_
    rintro e w1 ⟨rfl, hb1⟩
    rw [ht']
    go_wp2
    go_ret
    exact ⟨retb (fit_no ht').symm, ((Below.refl _ _).alloc (Nat.le_refl _) _).trans (hb1.mono (by simp))⟩
end Go.Proofs.Ytblpajbacdbgpaa

/-
  Contracts of good's below, parts, proctype, types, shape. Conditions: the slices are laid as data; the checker's cells.
-/
import Derived.Test.YtblpajbacdbgpaaH
import Derived.Deep.QuietTactic
import Derived.BigQuiet
import Derived.IntWalk
namespace Go.Proofs.Ytblpajbacdbgpaa
open Go.ChangeShapes Go.WideShapes Go.ChangeAt Go.RowKit Go.Deep Go.Joins
theorem all_step {α : Type} [Inhabited α] {p : α → Bool} {l : List α} {k : Nat} (h : (l.take k).all p = true) (hk : k < l.length) (hp : p (l.getD k default) = true) : (l.take (k + 1)).all p = true := by
  rw [List.take_succ_eq_append_getElem hk, List.all_append, h]
  simpa [List.getD_eq_getElem?_getD, hk] using hp
theorem all_fail {α : Type} [Inhabited α] {p : α → Bool} {l : List α} {k : Nat} (hk : k < l.length) (hp : p (l.getD k default) = false) : l.all p = false := by
  rw [List.all_eq_false]
  exact ⟨l[k], List.getElem_mem _, by simpa [List.getD_eq_getElem?_getD, hk] using hp⟩
theorem all_end {α : Type} {p : α → Bool} {l : List α} {k : Nat} (h : (l.take k).all p = true) (hk : ¬ k < l.length) : l.all p = true := by
  rwa [List.take_of_length_le (by omega)] at h
theorem getD_mem {α : Type} [Inhabited α] {l : List α} {k : Nat} (hk : k < l.length) : l.getD k default ∈ l := by
  simp [List.getD_eq_getElem?_getD, hk]
def inB (a x : Int) : Bool := decide (0 ≤ x ∧ x < a)
def belowF (a : Int) (l : List Int) : Bool := l.all (inB a)
set_option maxHeartbeats 1000000 in
theorem below_any (a : Int) (v : Value) (l : List Int) (w : World) (h : Sl w 1 iEnc v l) :
    Calls Try.prog 27 #[.int .i64 a, v] w fun e w' => e = .returned (.bool (belowF a l)) ∧ w = w' := by
  obtain ⟨ad, cap, rfl, hcap, hmax, hcell⟩ := h
  unfold maxLen at hmax
  have HC := Lib.hid hcell; clear hcell
  go_enter Try.func27, Try.ntmps27
  go_wp2
  go_loop [9] (fun i => ∃ k : Nat, k ≤ l.length ∧ i = .int .i64 k ∧ Hid ((l.take k).all (inB a) = true)) (fun i => l.length - (intOf i).toNat)
  case atStart => exact ⟨0, Nat.zero_le _, rfl, rfl⟩
  case round =>
    obtain ⟨k, hk, rfl, hall⟩ := hrel
    by_cases hlt : k < l.length
    · obtain ⟨b, off, rfl, hbs, hc⟩ := HC.out (by omega)
      have c0 := hc k hlt 0 (by omega)
      simp only [iEnc, Nat.mul_one, Nat.add_zero] at c0
      clear hc
      have HS := Lib.hid (all_step hall.out hlt)
      have HF := Lib.hid (all_fail (p := inB a) hlt)
      generalize l.getD k default = x at *
      by_cases h0 : x < 0
      · go_wp2
        go_ret
        exact ⟨retb (HF.out (by unfold inB; simp; omega)).symm, rfl⟩
      · by_cases h1 : a ≤ x
        · go_wp2
          go_ret
          exact ⟨retb (HF.out (by unfold inB; simp; omega)).symm, rfl⟩
        · go_wp2
          go_round
          case rel => exact ⟨k + 1, by omega, by go_num, HS.out (by unfold inB; simp; omega)⟩
          case measure => simp [intOf]; omega
    · go_wp2
      go_ret
      exact ⟨retb (all_end hall.out hlt).symm, rfl⟩
def partsF (op : Int) : Nat :=
  if op = 1 ∨ op = 2 ∨ op = 31 ∨ op = 32 ∨ op = 33 ∨ op = 34 ∨ op = 35 ∨ op = 39 then 0 else if op = 24 then 3 else if 6 ≤ op ∧ op ≤ 23 then 2 else 1
set_option maxHeartbeats 1000000 in
theorem parts_any (op : Int) (w : World) : Calls Try.prog 26 #[.int .i64 op] w fun e w' => e = .returned (.int .i64 (partsF op)) ∧ w = w' := by
  go_enter Try.func26, Try.ntmps26
  go_wp2
  all_goals
    go_ret
    refine ⟨reti ?_, rfl⟩
    unfold partsF
    simp_all
    try (split <;> omega)
end Go.Proofs.Ytblpajbacdbgpaa

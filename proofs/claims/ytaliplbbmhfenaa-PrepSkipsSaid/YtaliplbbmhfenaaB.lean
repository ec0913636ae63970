/-
  Tokens asked for a mark or a word; rows that end right; rows compared.
-/
import Derived.Test.YtaliplbbmhfenaaA
import Derived.Outline
namespace Go.Proofs.Ytaliplbbmhfenaa
open Go.ChangeShapes Go.WideShapes Go.ChangeAt Go.RowKit Go.Deep Go.Joins
theorem tl_eq (x s : ByteArray) : (x.toList == s.toList) = decide (x = s) := by
  rw [Bool.eq_iff_iff, beq_iff_eq, decide_eq_true_iff, ByteArray.toList_eq, ByteArray.toList_eq]
  exact ⟨fun h => ByteArray.ext (Array.toList_inj.1 h), fun h => by rw [h]⟩
def isF (k : Int) (t : TkD) (s : ByteArray) : Bool := decide (t.kind = k) && decide (t.text = s)
set_option maxHeartbeats 1000000 in
theorem is_any (t : TkD) (s : ByteArray) (w : World) :
    Calls Try.prog 7 #[t.val, .string s] w fun e w' => e = .returned (.bool (isF 4 t s)) ∧ Below w.heap.size w w' := by
  unfold TkD.val isF
  obtain ⟨k, a, l, x, n⟩ := t
  by_cases h1 : k = 4
  · by_cases h2 : x = s
    · subst h1; subst h2
      go_enter Try.func7, Try.ntmps7
      go_wp2
      go_ret
      exact ⟨retb (by simp), by go_grown⟩
    · subst h1
      go_enter Try.func7, Try.ntmps7
      go_wp2
      go_ret
      exact ⟨retb (by rw [tl_eq]; simp [h2]), by go_grown⟩
  · go_enter Try.func7, Try.ntmps7
    go_wp2
    go_ret
    exact ⟨retb (by simp [h1]), by go_grown⟩
set_option maxHeartbeats 1000000 in
theorem mark_any (t : TkD) (s : ByteArray) (w : World) :
    Calls Try.prog 14 #[t.val, .string s] w fun e w' => e = .returned (.bool (isF 4 t s)) ∧ Below w.heap.size w w' := by
  unfold TkD.val isF
  obtain ⟨k, a, l, x, n⟩ := t
  by_cases h1 : k = 4
  · by_cases h2 : x = s
    · subst h1; subst h2
      go_enter Try.func14, Try.ntmps14
      go_wp2
      go_ret
      exact ⟨retb (by simp), by go_grown⟩
    · subst h1
      go_enter Try.func14, Try.ntmps14
      go_wp2
      go_ret
      exact ⟨retb (by rw [tl_eq]; simp [h2]), by go_grown⟩
  · go_enter Try.func14, Try.ntmps14
    go_wp2
    go_ret
    exact ⟨retb (by simp [h1]), by go_grown⟩
set_option maxHeartbeats 1000000 in
theorem word_any (t : TkD) (s : ByteArray) (w : World) :
    Calls Try.prog 21 #[t.val, .string s] w fun e w' => e = .returned (.bool (isF 1 t s)) ∧ Below w.heap.size w w' := by
  unfold TkD.val isF
  obtain ⟨k, a, l, x, n⟩ := t
  by_cases h1 : k = 1
  · by_cases h2 : x = s
    · subst h1; subst h2
      go_enter Try.func21, Try.ntmps21
      go_wp2
      go_ret
      exact ⟨retb (by simp), by go_grown⟩
    · subst h1
      go_enter Try.func21, Try.ntmps21
      go_wp2
      go_ret
      exact ⟨retb (by rw [tl_eq]; simp [h2]), by go_grown⟩
  · go_enter Try.func21, Try.ntmps21
    go_wp2
    go_ret
    exact ⟨retb (by simp [h1]), by go_grown⟩
def rightF (l : List TkD) : Bool := decide (0 < l.length ∧ ∀ i, i < l.length → ((l.getD i default).kind = 0 ↔ i + 1 = l.length))
theorem right_no {l : List TkD} {k : Nat} (hk : k < l.length) (h : ¬ ((l.getD k default).kind = 0 ↔ k + 1 = l.length)) : rightF l = false := by
  unfold rightF
  rw [decide_eq_false_iff_not]
  exact fun h' => h (h'.2 k hk)
set_option maxHeartbeats 2000000 in
theorem right_any (v : Value) (l : List TkD) (w : World) (hs : Sl w 5 TkD.enc v l) :
    Calls Try.prog 6 #[v] w fun e w' => e = .returned (.bool (rightF l)) ∧ Below w.heap.size w w' := by
  obtain ⟨aa, ca, rfl, ma, HA⟩ := sl_open hs
  clear hs
  go_enter Try.func6, Try.ntmps6
  go_wp2
  go_loopw [3] (fun i wr => ∃ k : Nat, k ≤ l.length ∧ i = .int .i64 k ∧ Below w.heap.size w wr ∧ Hid (∀ i, i < k → ((l.getD i default).kind = 0 ↔ i + 1 = l.length))) (fun i _ => l.length - (intOf i).toNat)
  case atStart => exact ⟨0, Nat.zero_le _, rfl, Below.refl _ _, fun i h => absurd h (by omega)⟩
  case round =>
    obtain ⟨k, hk, rfl, hB, hS⟩ := hrel
    by_cases hlt : k < l.length
    · obtain ⟨b, o, rfl, hb, hc⟩ := HA.out (by omega)
      have c0 := (hB.cell (p := ⟨b, o + k * 5 + 0, none⟩) hb).trans (hc k hlt 0 (by omega))
      simp only [TkD.enc, Nat.add_zero] at c0
      clear hc
      have HX : Hid (((l.getD k default).kind = 0 ↔ k + 1 = l.length) → ∀ i, i < k + 1 → ((l.getD i default).kind = 0 ↔ i + 1 = l.length)) := by
        intro h i hi
        by_cases h1 : i < k
        · exact hS.out i h1
        · obtain rfl : i = k := by omega
          exact h
      have HN : Hid (¬ ((l.getD k default).kind = 0 ↔ k + 1 = l.length) → rightF l = false) := fun h => right_no hlt h
      clear hS
      generalize (l.getD k default).kind = x at *
      by_cases h0 : x = 0
      · subst h0
        by_cases h1 : k + 1 = l.length
        · have HY := Lib.hid (HX.out (by simp [h1]))
          have e1 : ((k : Int) == (l.length : Int) - 1) = true := by rw [beq_iff_eq]; omega
          clear HX HN
          have H1 := Lib.hid h1; clear h1
          go_wp2
          go_roundw
          case rel => exact ⟨k + 1, by omega, by go_num, by go_grown, HY⟩
          case measure => simp [intOf]; omega
        · have HF := Lib.hid (HN.out (by simp [h1]))
          have e1 : ((k : Int) == (l.length : Int) - 1) = false := by rw [beq_eq_false_iff_ne]; omega
          clear HX HN
          go_wp2
          go_ret
          exact ⟨retb HF.out.symm, by go_grown⟩
      · have e0 : (x == 0) = false := by rw [beq_eq_false_iff_ne]; exact h0
        by_cases h1 : k + 1 = l.length
        · have HF := Lib.hid (HN.out (by simp [h1, h0]))
          have e1 : ((k : Int) == (l.length : Int) - 1) = true := by rw [beq_iff_eq]; omega
          clear HX HN
          have H1 := Lib.hid h1; clear h1
          go_wp2
          go_ret
          exact ⟨retb HF.out.symm, by go_grown⟩
        · have HY := Lib.hid (HX.out (by simp [h1, h0]))
          have e1 : ((k : Int) == (l.length : Int) - 1) = false := by rw [beq_eq_false_iff_ne]; omega
          clear HX HN
          go_wp2
          go_roundw
          case rel => exact ⟨k + 1, by omega, by go_num, by go_grown, HY⟩
          case measure => simp [intOf]; omega
    · go_wp2
      go_ret
      refine ⟨retb ?_, by go_grown⟩
      have : k = l.length := by omega
      subst this
      unfold rightF
      by_cases h0 : 0 < l.length
      · simp [h0]
        simpa [List.getD_eq_getElem?_getD] using hS.out
      · simp [h0]

end Go.Proofs.Ytaliplbbmhfenaa
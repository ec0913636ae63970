/-
  The reference's comparisons of lists: SameInts, sameNumbers, sameTypes.
-/
import Derived.Test.YtioacgjggogflabA
namespace Go.Proofs.Ytioacgjggogflab
open Go.ChangeShapes Go.WideShapes Go.ChangeAt Go.RowKit Go.Deep Go.Joins
deriving instance DecidableEq for TyD
theorem ty_ne {x y : TyD} (h : ¬ x = y) : ¬ x.bits = y.bits ∨ (x.bits = y.bits ∧ ¬ x.signed = y.signed) := by
  by_cases h1 : x.bits = y.bits
  · refine Or.inr ⟨h1, fun h2 => h ?_⟩
    cases x; cases y
    simp_all
  · exact Or.inl h1
theorem same_all {α : Type} [Inhabited α] {a b : List α} (hl : a.length = b.length) (h : ∀ i, i < a.length → a.getD i default = b.getD i default) : a = b := by
  refine List.ext_getElem hl fun i h1 h2 => ?_
  have := h i h1
  rw [List.getD_eq_getElem?_getD, List.getD_eq_getElem?_getD, List.getElem?_eq_getElem h1, List.getElem?_eq_getElem h2] at this
  simpa using this
theorem sl_open {α : Type} [Inhabited α] {w : World} {sz : Nat} {enc : α → Nat → Value} {v : Value} {l : List α} (h : Sl w sz enc v l) : ∃ a cap, v = .slice a l.length cap ∧ l.length ≤ 9223372036854775807 ∧ Hid (0 < l.length → ∃ b off, a = some ⟨b, off, none⟩ ∧ b < w.heap.size ∧
    ∀ i, i < l.length → ∀ j, j < sz → w.cell? ⟨b, off + i * sz + j, none⟩ = some (enc (l.getD i default) j)) := by
  obtain ⟨a, cap, h1, h2, h3, h4⟩ := h
  exact ⟨a, cap, h1, Nat.le_trans (Nat.le_trans h2 h3) (by decide), h4⟩
set_option maxHeartbeats 1000000 in
theorem ints_any (va vb : Value) (a b : List Int) (w : World) (ha : Sl w 1 iEnc va a) (hb : Sl w 1 iEnc vb b) :
    Calls Try.prog 7 #[va, vb] w fun e w' => e = .returned (.bool (decide (a = b))) ∧ Below w.heap.size w w' := by
  obtain ⟨aa, ca, rfl, ma, HA⟩ := sl_open ha
  obtain ⟨ab, cb, rfl, mb, HB⟩ := sl_open hb
  clear ha hb
  by_cases hl : a.length = b.length
  · rw [← hl] at HB ⊢
    have HL := Lib.hid hl
    clear mb hl
    go_enter Try.func7, Try.ntmps7
    go_wp2
    go_loopw [5] (fun i wr => ∃ k : Nat, k ≤ a.length ∧ i = .int .i64 k ∧ Below w.heap.size w wr ∧ Hid (∀ i, i < k → a.getD i default = b.getD i default)) (fun i _ => a.length - (intOf i).toNat)
    case atStart => exact ⟨0, Nat.zero_le _, rfl, Below.refl _ _, fun i h => absurd h (by omega)⟩
    case round =>
      obtain ⟨k, hk, rfl, hB, hS⟩ := hrel
      by_cases hlt : k < a.length
      · obtain ⟨ba, oa, rfl, hba, hca⟩ := HA.out (by omega)
        obtain ⟨bb, ob, rfl, hbb, hcb⟩ := HB.out (by omega)
        have c0 := (hB.cell (p := ⟨ba, oa + k * 1 + 0, none⟩) hba).trans (hca k hlt 0 (by omega))
        have d0 := (hB.cell (p := ⟨bb, ob + k * 1 + 0, none⟩) hbb).trans (hcb k hlt 0 (by omega))
        simp only [iEnc, Nat.mul_one, Nat.add_zero] at c0 d0
        clear hca hcb
        have hsz := hB.size
        have HX : Hid (∀ i, i < k + 1 → a.getD i default = b.getD i default ∨ (i = k ∧ ¬ a.getD k default = b.getD k default)) := by
          intro i hi
          by_cases h1 : i < k
          · exact Or.inl (hS.out i h1)
          · obtain rfl : i = k := by omega
            by_cases h2 : a.getD i default = b.getD i default
            · exact Or.inl h2
            · exact Or.inr ⟨rfl, h2⟩
        have HN : Hid (¬ a.getD k default = b.getD k default → ¬ a = b) := by
          intro h1 h2
          exact h1 (by rw [h2])
        generalize a.getD k default = x at *
        generalize b.getD k default = y at *
        by_cases hxy : x = y
        · have HZ : Hid (∀ i, i < k + 1 → a.getD i default = b.getD i default) := fun i hi => (HX.out i hi).elim id (fun h => absurd hxy h.2)
          subst hxy
          go_wp2_with fail
          go_region
          go_wp2
          go_roundw
          case rel => exact ⟨k + 1, by omega, by go_num, by go_grown, HZ⟩
          case measure => simp [intOf]; omega
        · go_wp2_with fail
          go_region
          go_wp2
          go_ret
          exact ⟨retb (by simp [HN.out hxy]), by go_grown⟩
      · go_wp2
        go_ret
        have : a = b := same_all HL.out (fun i hi => hS.out i (by omega))
        exact ⟨retb (by simp [this]), by go_grown⟩
  · have hne : ¬ a = b := fun h => hl (by rw [h])
    go_enter Try.func7, Try.ntmps7
    go_wp2
    go_ret
    exact ⟨retb (by simp [hne]), by go_grown⟩
set_option maxHeartbeats 1000000 in
theorem numbers_any (va vb : Value) (a b : List Int) (w : World) (ha : Sl w 1 iEnc va a) (hb : Sl w 1 iEnc vb b) :
    Calls Try.prog 21 #[va, vb] w fun e w' => e = .returned (.bool (decide (a = b))) ∧ Below w.heap.size w w' := by
  obtain ⟨aa, ca, rfl, ma, HA⟩ := sl_open ha
  obtain ⟨ab, cb, rfl, mb, HB⟩ := sl_open hb
  clear ha hb
  by_cases hl : a.length = b.length
  · rw [← hl] at HB ⊢
    have HL := Lib.hid hl
    clear mb hl
    go_enter Try.func21, Try.ntmps21
    go_wp2
    go_loopw [5] (fun i wr => ∃ k : Nat, k ≤ a.length ∧ i = .int .i64 k ∧ Below w.heap.size w wr ∧ Hid (∀ i, i < k → a.getD i default = b.getD i default)) (fun i _ => a.length - (intOf i).toNat)
    case atStart => exact ⟨0, Nat.zero_le _, rfl, Below.refl _ _, fun i h => absurd h (by omega)⟩
    case round =>
      obtain ⟨k, hk, rfl, hB, hS⟩ := hrel
      by_cases hlt : k < a.length
      · obtain ⟨ba, oa, rfl, hba, hca⟩ := HA.out (by omega)
        obtain ⟨bb, ob, rfl, hbb, hcb⟩ := HB.out (by omega)
        have c0 := (hB.cell (p := ⟨ba, oa + k * 1 + 0, none⟩) hba).trans (hca k hlt 0 (by omega))
        have d0 := (hB.cell (p := ⟨bb, ob + k * 1 + 0, none⟩) hbb).trans (hcb k hlt 0 (by omega))
        simp only [iEnc, Nat.mul_one, Nat.add_zero] at c0 d0
        clear hca hcb
        have hsz := hB.size
        have HX : Hid (∀ i, i < k + 1 → a.getD i default = b.getD i default ∨ (i = k ∧ ¬ a.getD k default = b.getD k default)) := by
          intro i hi
          by_cases h1 : i < k
          · exact Or.inl (hS.out i h1)
          · obtain rfl : i = k := by omega
            by_cases h2 : a.getD i default = b.getD i default
            · exact Or.inl h2
            · exact Or.inr ⟨rfl, h2⟩
        have HN : Hid (¬ a.getD k default = b.getD k default → ¬ a = b) := by
          intro h1 h2
          exact h1 (by rw [h2])
        generalize a.getD k default = x at *
        generalize b.getD k default = y at *
        by_cases hxy : x = y
        · have HZ : Hid (∀ i, i < k + 1 → a.getD i default = b.getD i default) := fun i hi => (HX.out i hi).elim id (fun h => absurd hxy h.2)
          subst hxy
          go_wp2_with fail
          go_region
          go_wp2
          go_roundw
          case rel => exact ⟨k + 1, by omega, by go_num, by go_grown, HZ⟩
          case measure => simp [intOf]; omega
        · go_wp2_with fail
          go_region
          go_wp2
          go_ret
          exact ⟨retb (by simp [HN.out hxy]), by go_grown⟩
      · go_wp2
        go_ret
        have : a = b := same_all HL.out (fun i hi => hS.out i (by omega))
        exact ⟨retb (by simp [this]), by go_grown⟩
  · have hne : ¬ a = b := fun h => hl (by rw [h])
    go_enter Try.func21, Try.ntmps21
    go_wp2
    go_ret
    exact ⟨retb (by simp [hne]), by go_grown⟩
set_option maxHeartbeats 1000000 in
theorem types_any (va vb : Value) (a b : List TyD) (w : World) (ha : Sl w 2 TyD.enc va a) (hb : Sl w 2 TyD.enc vb b) :
    Calls Try.prog 20 #[va, vb] w fun e w' => e = .returned (.bool (decide (a = b))) ∧ Below w.heap.size w w' := by
  obtain ⟨aa, ca, rfl, ma, HA⟩ := sl_open ha
  obtain ⟨ab, cb, rfl, mb, HB⟩ := sl_open hb
  clear ha hb
  by_cases hl : a.length = b.length
  · rw [← hl] at HB ⊢
    have HL := Lib.hid hl
    clear mb hl
    go_enter Try.func20, Try.ntmps20
    go_wp2
    go_loopw [5] (fun i wr => ∃ k : Nat, k ≤ a.length ∧ i = .int .i64 k ∧ Below w.heap.size w wr ∧ Hid (∀ i, i < k → a.getD i default = b.getD i default)) (fun i _ => a.length - (intOf i).toNat)
    case atStart => exact ⟨0, Nat.zero_le _, rfl, Below.refl _ _, fun i h => absurd h (by omega)⟩
    case round =>
      obtain ⟨k, hk, rfl, hB, hS⟩ := hrel
      by_cases hlt : k < a.length
      · obtain ⟨ba, oa, rfl, hba, hca⟩ := HA.out (by omega)
        obtain ⟨bb, ob, rfl, hbb, hcb⟩ := HB.out (by omega)
        have c0 := (hB.cell (p := ⟨ba, oa + k * 2 + 0, none⟩) hba).trans (hca k hlt 0 (by omega))
        have c1 := (hB.cell (p := ⟨ba, oa + k * 2 + 1, none⟩) hba).trans (hca k hlt 1 (by omega))
        have d0 := (hB.cell (p := ⟨bb, ob + k * 2 + 0, none⟩) hbb).trans (hcb k hlt 0 (by omega))
        have d1 := (hB.cell (p := ⟨bb, ob + k * 2 + 1, none⟩) hbb).trans (hcb k hlt 1 (by omega))
        simp only [TyD.enc, Nat.add_zero] at c0 c1 d0 d1
        clear hca hcb
        have hsz := hB.size
        have HX : Hid (∀ i, i < k + 1 → a.getD i default = b.getD i default ∨ (i = k ∧ ¬ a.getD k default = b.getD k default)) := by
          intro i hi
          by_cases h1 : i < k
          · exact Or.inl (hS.out i h1)
          · obtain rfl : i = k := by omega
            by_cases h2 : a.getD i default = b.getD i default
            · exact Or.inl h2
            · exact Or.inr ⟨rfl, h2⟩
        have HN : Hid (¬ a.getD k default = b.getD k default → ¬ a = b) := by
          intro h1 h2
          exact h1 (by rw [h2])
        generalize a.getD k default = x at *
        generalize b.getD k default = y at *
        by_cases hxy : x = y
        · have HZ : Hid (∀ i, i < k + 1 → a.getD i default = b.getD i default) := fun i hi => (HX.out i hi).elim id (fun h => absurd hxy h.2)
          subst hxy
          go_wp2_with fail
          go_region
          go_wp2
          go_roundw
          case rel => exact ⟨k + 1, by omega, by go_num, by go_grown, HZ⟩
          case measure => simp [intOf]; omega
        · have hne := HN.out hxy
          rcases ty_ne hxy with h1 | ⟨h1, h2⟩
          · clear hxy HX HN
            go_wp2_with fail
            go_region
            go_wp2
            go_ret
            exact ⟨retb (by simp [hne]), by go_grown⟩
          · clear hxy HX HN
            go_wp2_with fail
            go_region
            go_wp2
            go_ret
            exact ⟨retb (by simp [hne]), by go_grown⟩
      · go_wp2
        go_ret
        have : a = b := same_all HL.out (fun i hi => hS.out i (by omega))
        exact ⟨retb (by simp [this]), by go_grown⟩
  · have hne : ¬ a = b := fun h => hl (by rw [h])
    go_enter Try.func20, Try.ntmps20
    go_wp2
    go_ret
    exact ⟨retb (by simp [hne]), by go_grown⟩
end Go.Proofs.Ytioacgjggogflab

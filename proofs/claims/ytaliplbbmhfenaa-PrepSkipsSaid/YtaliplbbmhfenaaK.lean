/-
  PrepPlain's walk: the call returns true, and nothing that was there has turned.
-/
import Derived.Test.YtaliplbbmhfenaaJ
namespace Go.Proofs.Ytaliplbbmhfenaa
open Go.MapKept Go.ChangeShapes Go.WideShapes Go.ChangeAt Go.RowKit Go.Deep Go.Joins Go.Instr
theorem tl_lit (x : ByteArray) (l : List UInt8) : (x.toList == l) = decide (x = ⟨l.toArray⟩) := by
  rw [Bool.eq_iff_iff, beq_iff_eq, decide_eq_true_iff, ByteArray.toList_eq]
  exact ⟨fun h => ByteArray.ext (by rw [← h]), fun h => by rw [h]⟩
theorem is_is (t : TkD) (s : ByteArray) (r : Bool) (w : World) (h : Hid (isF 4 t s = r)) : Calls Try.prog 7 #[t.val, .string s] w fun e w' => e = .returned (.bool r) ∧ Below w.heap.size w w' := by
  have := is_any t s w
  rwa [h.out] at this
set_option maxHeartbeats 8000000 in
theorem plain_walk (l : List TkD) (v : Value) (w : World) (hs : Sl w 5 TkD.enc v l) :
    Calls Try.prog 5 #[v] w fun e w' => e = .returned (.bool true) ∧ Below w.heap.size w w' := by
  obtain ⟨aa, ca, rfl, ma, HA⟩ := sl_open hs
  have HS := Lib.hid hs
  clear hs
  obtain ⟨r, HR⟩ : ∃ r, Hid (rightF l = r) := ⟨_, rfl⟩
  go_enter Try.func5, Try.ntmps5
  go_wp2_with fail
  have hr := right_any _ l w HS.out
  rw [HR.out] at hr
  refine hr.mono ?_
  rintro e w1 ⟨rfl, hw1⟩
  clear hr
  have HB1 := Lib.hid hw1
  cases r with
  | false =>
    clear hw1
    go_wp2
    go_ret
    exact ⟨rfl, HB1.out⟩
  | true =>
    clear hw1
    go_wp2
    go_loopw [4] (fun i wr => ∃ (k : Nat), k ≤ l.length ∧ i = .int .i64 k ∧ Hid (∀ i, i < k → isF 4 (l.getD i default) ⟨#[35]⟩ = false ∧ isF 1 (l.getD i default) ⟨#[105, 110, 108, 105, 110, 101]⟩ = false) ∧ Below w.heap.size w wr) (fun i _ => l.length - (intOf i).toNat)
    case atStart => exact ⟨0, Nat.zero_le _, rfl, fun i h => absurd h (by omega), HB1.out⟩
    case round =>
      obtain ⟨k, hk, rfl, hno, hB⟩ := hrel
      by_cases hlt : k < l.length
      · obtain ⟨b, off, rfl, hb, hc⟩ := HA.out (by omega)
        have cc := tk_cells (w := wr) (b := b) (off := off + k * 5) fun j hj => (hB.cell (p := ⟨b, off + k * 5 + j, none⟩) hb).trans (hc k hlt j hj)
        have HX : Hid (isF 4 (l.getD k default) ⟨#[35]⟩ = false → isF 1 (l.getD k default) ⟨#[105, 110, 108, 105, 110, 101]⟩ = false → ∀ i, i < k + 1 → isF 4 (l.getD i default) ⟨#[35]⟩ = false ∧ isF 1 (l.getD i default) ⟨#[105, 110, 108, 105, 110, 101]⟩ = false) := by
          intro h1 h2 i hi
          by_cases h : i < k
          · exact hno.out i h
          · obtain rfl : i = k := by omega
            exact ⟨h1, h2⟩
        clear hc hno
        generalize l.getD k default = x at *
        obtain ⟨x0, x1, x2, x3, x4⟩ := x
        obtain ⟨c0, c1, c2, c3, c4⟩ := cc
        simp only at c0 c1 c2 c3 c4
        have HB := Lib.hid hB
        have hwr := hB.size
        have hbr : b < wr.heap.size := by omega
        clear hB
        obtain ⟨r1, HR1⟩ : ∃ r, Hid (isF 4 ⟨x0, x1, x2, x3, x4⟩ ⟨#[35]⟩ = r) := ⟨_, rfl⟩
        cases r1 with
        | true =>
          go_wp2_with (go_at_call 7; refine (is_is ⟨x0, x1, x2, x3, x4⟩ _ _ _ HR1).mono ?_; rintro e w3 ⟨rfl, hw3⟩)
          have HB3 : Hid (Below w.heap.size w w3) := HB.out.trans (hw3.mono hwr)
          clear hw3
          go_ret
          exact ⟨rfl, HB3.out⟩
        | false =>
          go_wp2_with fail
          refine (is_is ⟨x0, x1, x2, x3, x4⟩ _ _ _ HR1).mono ?_
          rintro e w3 ⟨rfl, hw3⟩
          have d0 := (hw3.cell (p := ⟨b, off + k * 5, none⟩) hbr).trans c0
          have d3 := (hw3.cell (p := ⟨b, off + k * 5 + 3, none⟩) hbr).trans c3
          have HB3 : Hid (Below w.heap.size w w3) := HB.out.trans (hw3.mono hwr)
          clear hw3 c0 c1 c2 c3 c4
          by_cases h1 : x0 = 1
          · subst h1
            by_cases h2 : x3 = ⟨#[105, 110, 108, 105, 110, 101]⟩
            · subst h2
              go_wp2
              go_ret
              exact ⟨rfl, HB3.out⟩
            · have HY := Lib.hid (HX.out HR1.out (by simp [isF, h2]))
              have hz := (tl_lit x3 [105, 110, 108, 105, 110, 101]).trans (decide_eq_false h2)
              clear h2 HX
              go_wp2
              go_roundw
              case rel => exact ⟨k + 1, by omega, by go_num, HY, HB3.out⟩
              case measure => simp [intOf]; omega
          · have HY := Lib.hid (HX.out HR1.out (by simp [isF, h1]))
            clear HX
            go_wp2
            go_roundw
            case rel => exact ⟨k + 1, by omega, by go_num, HY, HB3.out⟩
            case measure => simp [intOf]; omega
      · have : k = l.length := by omega
        subst this
        have HB := Lib.hid hB
        clear hB hk hlt
        by_cases hbig : (8192 : Int) < l.length
        · go_wp2
          go_ret
          exact ⟨rfl, HB.out⟩
        · have hbig' : l.length ≤ 8192 := by omega
          have HN1 : Hid (∀ t ∈ l, isF 4 t ⟨#[35]⟩ = false) := by
            intro t ht
            obtain ⟨i, hi, rfl⟩ := List.getElem_of_mem ht
            have := (hno.out i hi).1
            simpa [List.getD_eq_getElem?_getD, hi] using this
          have HN2 : Hid (∀ t ∈ l, isF 1 t ⟨#[105, 110, 108, 105, 110, 101]⟩ = false) := by
            intro t ht
            obtain ⟨i, hi, rfl⟩ := List.getElem_of_mem ht
            have := (hno.out i hi).2
            simpa [List.getD_eq_getElem?_getD, hi] using this
          clear hno
          go_wp2_with fail
          refine (macros_plain l _ _ (HS.out.keep HB.out) HR.out hbig' HN1.out).mono ?_
          rintro e w2 ⟨va, rfl, hsa, hba⟩
          have HA2 := Lib.hid hsa
          have HB2 : Hid (Below w.heap.size w w2) := HB.out.trans (hba.mono HB.out.size)
          clear hsa hba
          go_wp2_with fail
          refine (inlines_plain l _ _ (HS.out.keep HB2.out) HR.out hbig' HN2.out).mono ?_
          rintro e w3 ⟨vb, rfl, hsb, hbb⟩
          have HA3 := Lib.hid (HA2.out.keep (hbb.mono (Nat.le_refl _)))
          have HS3 := Lib.hid hsb
          have HB3 : Hid (Below w.heap.size w w3) := HB2.out.trans (hbb.mono HB2.out.size)
          clear hsb hbb
          go_wp2_with fail
          refine (same_true _ _ l l false _ HA3.out (HS.out.keep HB3.out) rfl (fun i _ => ⟨rfl, rfl, rfl, fun _ => ⟨rfl, rfl⟩⟩)).mono ?_
          rintro e w4 ⟨rfl, hb4⟩
          have HS4 := Lib.hid (HS3.out.keep hb4)
          have HB4 : Hid (Below w.heap.size w w4) := HB3.out.trans (hb4.mono HB3.out.size)
          clear hb4
          go_wp2_with fail
          refine (same_true _ _ l l false _ HS4.out (HS.out.keep HB4.out) rfl (fun i _ => ⟨rfl, rfl, rfl, fun _ => ⟨rfl, rfl⟩⟩)).mono ?_
          rintro e w5 ⟨rfl, hb5⟩
          have HB5 : Hid (Below w.heap.size w w5) := HB4.out.trans (hb5.mono HB4.out.size)
          clear hb5
          go_wp2
          go_ret
          exact ⟨rfl, HB5.out⟩
theorem rows_of {H : Type} {enc : TypeId × Value → H} {w : World} {spare : Nat → Bool} {held : Bool} {r : Reach} {b0 : Nat} {v : Value} {d : DataW H} {p : List MemPlace} (hv : Value.okWide Try.prog w r b0 22 v) (h : DataW.Trod enc Try.prog w 0 spare held 22 v d p) :
    ∃ l : List TkD, Sl w 5 TkD.enc v l ∧ (∀ a ∈ l, a.ok) ∧ Sn v := by
  obtain ⟨fuel, hf0⟩ := h
  have hc : v.cells.toList = [v] := by
    cases v with
    | agg cs =>
      exfalso
      unfold Value.okWide at hv
      rw [Try.underlying22] at hv
      simp [Cell.okWide, Cell.ok, Try.underlying22] at hv
    | _ => rfl
  rw [hc] at hf0
  exact tks_of (x := (d, p)) hf0
/-- The walk, as the row's proof asks for it. -/
theorem prepPlain.walk {H : Type} {enc : TypeId × Value → H} (W : World) (base : Nat) (v0 : Value) {d0 : DataW H} {p0 : List MemPlace} (hv : Value.okWide Try.prog W .any base 22 v0) (h0 : DataW.Trod enc Try.prog W 0 (fun _ => true) true 22 v0 d0 p0) :
    Calls Try.prog 5 #[v0] W fun e w' => e = .returned (.bool true) ∧ Below W.heap.size W w' := by
  obtain ⟨l, hs, _, _⟩ := rows_of hv h0
  exact plain_walk l v0 W hs
end Go.Proofs.Ytaliplbbmhfenaa

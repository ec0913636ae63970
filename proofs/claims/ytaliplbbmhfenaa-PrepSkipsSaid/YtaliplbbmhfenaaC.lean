/-
  Two rows of tokens that are alike are told to be; slices.Clone of tokens; slices.IndexFunc asked for the end.
-/
import Derived.Test.YtaliplbbmhfenaaB
import Derived.OwnWalk
namespace Go.Proofs.Ytaliplbbmhfenaa
open Go.ChangeShapes Go.WideShapes Go.ChangeAt Go.RowKit Go.Deep Go.Joins
/-- Two tokens are alike, loosely or not. -/
def Alk (ls : Bool) (x y : TkD) : Prop := x.kind = y.kind ∧ x.text = y.text ∧ x.n = y.n ∧ (ls = false → x.at' = y.at' ∧ x.line = y.line)
set_option maxHeartbeats 4000000 in
theorem same_true (va vb : Value) (a b : List TkD) (ls : Bool) (w : World) (ha : Sl w 5 TkD.enc va a) (hb : Sl w 5 TkD.enc vb b) (hl : a.length = b.length)
    (h : ∀ i, i < a.length → Alk ls (a.getD i default) (b.getD i default)) :
    Calls Try.prog 9 #[va, vb, .bool ls] w fun e w' => e = .returned (.bool true) ∧ Below w.heap.size w w' := by
  obtain ⟨aa, ca, rfl, ma, HA⟩ := sl_open ha
  obtain ⟨ab, cb, rfl, mb, HB⟩ := sl_open hb
  clear ha hb
  have H := Lib.hid h
  clear h
  rw [← hl] at HB ⊢
  clear mb hl
  go_enter Try.func9, Try.ntmps9
  go_wp2
  go_loopw [7] (fun i wr => ∃ k : Nat, k ≤ a.length ∧ i = .int .i64 k ∧ Below w.heap.size w wr) (fun i _ => a.length - (intOf i).toNat)
  case atStart => exact ⟨0, Nat.zero_le _, rfl, by go_grown⟩
  case round =>
    obtain ⟨k, hk, rfl, hB⟩ := hrel
    by_cases hlt : k < a.length
    · obtain ⟨ba, oa, rfl, hba, hca⟩ := HA.out (by omega)
      obtain ⟨bb, ob, rfl, hbb, hcb⟩ := HB.out (by omega)
      have c := tk_cells (w := wr) (b := ba) (off := oa + k * 5) fun j hj => (hB.cell (p := ⟨ba, oa + k * 5 + j, none⟩) hba).trans (hca k hlt j hj)
      have d := tk_cells (w := wr) (b := bb) (off := ob + k * 5) fun j hj => (hB.cell (p := ⟨bb, ob + k * 5 + j, none⟩) hbb).trans (hcb k hlt j hj)
      clear hca hcb
      obtain ⟨e1, e2, e3, e4⟩ := H.out k hlt
      generalize a.getD k default = x at *
      generalize b.getD k default = y at *
      obtain ⟨x0, x1, x2, x3, x4⟩ := x
      obtain ⟨y0, y1, y2, y3, y4⟩ := y
      simp only at c d e1 e2 e3 e4
      obtain ⟨c0, c1, c2, c3, c4⟩ := c
      obtain ⟨d0, d1, d2, d3, d4⟩ := d
      subst e1; subst e2; subst e3
      have E4 := Lib.hid e4
      clear e4
      cases ls with
      | true =>
        go_wp2_with fail
        go_region
        go_wp2_with fail
        go_region
        go_wp2
        go_roundw
        case rel => exact ⟨k + 1, by omega, by go_num, by go_grown⟩
        case measure => simp [intOf]; omega
      | false =>
        obtain ⟨e5, e6⟩ := E4.out rfl
        subst e5; subst e6
        clear E4
        go_wp2_with fail
        go_region
        go_wp2_with fail
        go_region
        go_wp2
        go_roundw
        case rel => exact ⟨k + 1, by omega, by go_num, by go_grown⟩
        case measure => simp [intOf]; omega
    · go_wp2
      go_ret
      exact ⟨rfl, by go_grown⟩
end Go.Proofs.Ytaliplbbmhfenaa

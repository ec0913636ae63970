/-
  holds: of one number.
-/
import Derived.Test.YtaliplbbmhfenaaBC
import Derived.Test.YtaliplbbmhfenaaR
namespace Go.Proofs.Ytaliplbbmhfenaa
open Go.MapKept Go.ChangeShapes Go.WideShapes Go.ChangeAt Go.RowKit Go.Deep Go.Joins Go.Instr
/-- What holds comes to. -/
def HolP (w : World) (wb : Nat) (inl : Bool) (kb : Nat) (op : Value) (us : Int) (o : Value) (r : Bool) (e : Ending) (w' : World) : Prop :=
  e = .returned (.bool r) ∧ Wk w' wb inl kb op us o ∧ OutsP (fun k => k = wb) w w'
set_option maxHeartbeats 8000000 in
theorem holds_num (wb kb b off c clock : Nat) (inl : Bool) (op o : Value) (us at_ : Int) (t : TkD) (es : Array MapEntry) (f : ByteArray → Option MacD) (w : World) (hw : Wk w wb inl kb op us o) (hm : w.heap[kb]? = some (.map es clock)) (hf : Kno es f) (hs : Sl w 5 TkD.enc (.slice (some ⟨b, off, none⟩) 1 c) [t]) (ht : t.kind = 2) (hc : c = 1) :
    Calls Try.prog 30 #[.pointer (some ⟨wb, 0, none⟩), .slice (some ⟨b, off, none⟩) 1 c, .int .i64 at_] w (HolP w wb inl kb op us o (decide (t.n ≠ 0))) := by
  subst hc
  have hb : b < w.heap.size ∧ (∀ j, j < 5 → w.cell? ⟨b, off + j, none⟩ = some (t.enc j)) := by
    obtain ⟨_, _, e, _, _, h4⟩ := hs
    injection e with e1 e2 e3
    obtain ⟨b', off', e, hb, hc⟩ := h4 (by simp)
    rw [← e1] at e
    injection e with e
    injection e with e1 e4 _
    subst e1; subst e4
    exact ⟨hb, fun j hj => by have := hc 0 (by simp) j hj; simpa using this⟩
  obtain ⟨hb, hcc⟩ := hb
  obtain ⟨k0, k1, k2, k3, k4⟩ := tk_cells (w := w) (b := b) (off := off) hcc
  have hwb := hw.lt
  have HW := Lib.hid hw; have HM := Lib.hid hm; have HF := Lib.hid hf
  clear hcc hs hw hm hf
  obtain ⟨x0, x1, x2, x3, x4⟩ := t
  simp only at ht k0 k1 k2 k3 k4 ⊢
  subst ht
  have HX : Hid (isF 1 ⟨2, x1, x2, x3, x4⟩ ⟨#[100, 101, 102, 105, 110, 101, 100]⟩ = false) := by unfold Hid; simp [isF]
  go_enter Try.func30, Try.ntmps30
  go_wp2_with fail
  refine wp_loop_rounds 2 ?_
  rw [rounds_succ]
  go_wp2_with fail
  refine (word_is ⟨2, x1, x2, x3, x4⟩ _ _ _ HX).mono ?_
  rintro e w1 ⟨rfl, hw1⟩
  have HB1 : Hid (Below w.heap.size w w1) := ((Below.refl _ _).alloc (Nat.le_refl _) _).trans (hw1.mono (by simp))
  have hT : w1.heap[w.heap.size]? = some (.cells #[.int .i64 2, .int .i64 x1, .int .i64 x2, .string x3, .int .i64 x4] 25 (0, 0)) := (hw1.block w.heap.size (by simp)).trans (heap_new' _ _)
  have q0 : w1.cell? ⟨w.heap.size, 0, none⟩ = some (.int .i64 2) := by rw [cell_of_row w1 w.heap.size 0 _ _ _ hT]; rfl
  have q1 : w1.cell? ⟨w.heap.size, 1, none⟩ = some (.int .i64 x1) := by rw [cell_of_row w1 w.heap.size 1 _ _ _ hT]; rfl
  have q2 : w1.cell? ⟨w.heap.size, 2, none⟩ = some (.int .i64 x2) := by rw [cell_of_row w1 w.heap.size 2 _ _ _ hT]; rfl
  have q3 : w1.cell? ⟨w.heap.size, 3, none⟩ = some (.string x3) := by rw [cell_of_row w1 w.heap.size 3 _ _ _ hT]; rfl
  have q4 : w1.cell? ⟨w.heap.size, 4, none⟩ = some (.int .i64 x4) := by rw [cell_of_row w1 w.heap.size 4 _ _ _ hT]; rfl
  have hs1 : w.heap.size < w1.heap.size := lt_of_block hT
  clear hw1 hT k0 k1 k2 k3 k4
  go_wp2_with (at_builtin; go_must (refine wpList_push rfl _ _ rfl w.heap.size (.slice none 0 0) 0 [] rfl (World.ownsRow_nil _ _ _ _) w1.heap.size 2 x1 x2 x3 x4 rfl (heap_new' _ _) (by omega) (by simp <;> omega) ?c4))
  case c4 =>
    intro g cap w2 h1 h2 h3
    have HS2 := Lib.hid (sl_of_own (l := [⟨2, x1, x2, x3, x4⟩]) (by simpa using h1))
    have HB2 : Hid (Below w.heap.size w w2) := ((HB1.out.alloc (by omega) _).grown h2 (by simp <;> omega) (fun k hk => by simp [Value.ownBlock] at hk))
    clear h1 h2 h3 q0 q1 q2 q3 q4
    go_wp2_with fail
    rw [rounds_succ]
    go_wp2_with fail
    have HW2 := Lib.hid (HW.out.keep (HB2.out.block wb hwb))
    have hkb : kb < w.heap.size := (Array.getElem?_eq_some_iff.1 HM.out).1
    refine (done_plain' [⟨2, x1, x2, x3, x4⟩] _ wb kb inl op o us es clock f w2 HS2.out (by simp) HW2.out ((HB2.out.block kb hkb).trans HM.out) HF.out (fun t ht h => by simp at ht; subst ht; simp at h)).mono ?_
    rintro e w3 ⟨v3, rfl, hown3, hw3, hu3⟩
    have hf3 := hown3.form (by simp)
    obtain ⟨g3, c3, rfl, _⟩ := hf3
    have HS3 := Lib.hid (sl_of_own hown3)
    have HU3 : Hid (OutsP (fun k => k = wb) w w3) := (OutsP.of_below HB2.out).trans hu3 (fun _ h => .inl h)
    have HW3 := Lib.hid hw3
    clear hown3 hw3 hu3
    go_wp2_with fail
    generalize hW4 : World.alloc w3 _ = W4
    have HB4 : Hid (Below w3.heap.size w3 W4) := by rw [← hW4]; exact (Below.refl _ _).alloc (Nat.le_refl _) _
    have HM4 : Hid (Sm W4 w3.heap.size (.slice (some ⟨g3, 0, none⟩) 1 c3) at_ 0) := by rw [← hW4]; exact heap_new' _ _
    clear hW4
    refine (or_num w3.heap.size g3 0 c3 at_ ⟨2, x1, x2, x3, x4⟩ W4 HM4.out (HS3.out.keep HB4.out) rfl).mono ?_
    rintro e w5 ⟨rfl, ⟨a5, c5, h5⟩, hu5⟩
    have k5 := h5.c0
    have HP : Hid (Wk w5 wb inl kb op us o ∧ OutsP (fun k => k = wb) w w5) := by
      have hlt := HW3.out.lt
      exact ⟨HW3.out.keep ((hu5.block wb (Nat.lt_of_lt_of_le hlt HB4.out.size) (by omega)).trans (HB4.out.block wb hlt)), (HU3.out.trans (OutsP.of_below HB4.out) (fun _ h => .inl h)).trans hu5 (fun x hx => .inr (by have := HU3.out.size; omega))⟩
    clear h5 hu5
    go_wp2
    go_ret
    exact ⟨retb (by by_cases h : x4 = 0 <;> simp [h, bne]), HP.out.1, HP.out.2⟩
end Go.Proofs.Ytaliplbbmhfenaa

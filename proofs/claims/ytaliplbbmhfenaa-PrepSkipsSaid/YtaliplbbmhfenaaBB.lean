/-
  Conditions: what is kept where one is open; one is opened.
-/
import Derived.Test.YtaliplbbmhfenaaBA
namespace Go.Proofs.Ytaliplbbmhfenaa
open Go.MapKept Go.ChangeShapes Go.WideShapes Go.ChangeAt Go.RowKit Go.Deep Go.Joins Go.Instr
set_option maxHeartbeats 2000000 in
theorem kept1 (wb kb ob cap : Nat) (inl : Bool) (us : Int) (o : Value) (kp : Bool) (w : World) (hw : Wk w wb inl kb (.slice (some ⟨ob, 0, none⟩) 1 cap) us o) (hk : w.cell? ⟨ob, 2, none⟩ = some (.bool kp)) :
    Calls Try.prog 15 #[.pointer (some ⟨wb, 0, none⟩)] w fun e w' => e = .returned (.bool kp) ∧ Below w.heap.size w w' := by
  have c2 := hw.c2
  clear hw
  go_enter Try.func15, Try.ntmps15
  go_wp2
  go_region
  all_goals
    go_wp2
    go_ret
    exact ⟨rfl, by go_grown⟩
theorem Try.info52 : (Try.prog.info? 52).map (fun i => (i.zero, i.size, i.bytes)) = some (some (.agg #[.bool false, .bool false, .bool false, .bool false]), 4, 4) := by kernel_rfl
/-- One condition is open: its four marks. -/
def OpenC (w : World) (base ob cap : Nat) (a b c d : Bool) : Prop := w.ownsRow base 52 4 (.slice (some ⟨ob, 0, none⟩) 1 cap) 1 [.bool a, .bool b, .bool c, .bool d]
def OpP (w : World) (wb : Nat) (inl : Bool) (kb : Nat) (us : Int) (o : Value) (is : Bool) (e : Ending) (w' : World) : Prop :=
  e = .returned (.tuple #[]) ∧ ∃ ob cap, Wk w' wb inl kb (.slice (some ⟨ob, 0, none⟩) 1 cap) us o ∧ OpenC w' w.heap.size ob cap is false is true ∧ OutsP (fun k => k = wb) w w'
set_option maxHeartbeats 4000000 in
theorem opens_first (wb kb : Nat) (inl is : Bool) (us at_ : Int) (o : Value) (w : World) (hw : Wk w wb inl kb (.slice none 0 0) us o) :
    Calls Try.prog 29 #[.pointer (some ⟨wb, 0, none⟩), .bool is, .int .i64 at_] w (OpP w wb inl kb us o is) := by
  have c2 := hw.c2
  have hwb := hw.lt
  have HW := Lib.hid hw
  clear hw
  obtain ⟨i0, hi, hz0, hz1, hz2⟩ := info_parts Try.info52
  go_enter Try.func29, Try.ntmps29
  go_wp2_with fail
  refine (kept0 wb kb inl us o _ HW.out).mono ?_
  rintro e w1 ⟨rfl, hw1⟩
  have HB1 := Lib.hid hw1
  have HW1 := Lib.hid (HW.out.keep (hw1.block wb hwb))
  have d2 := HW1.out.c2
  have hwb1 := HW1.out.lt
  have hs1 := hw1.size
  clear hw1 c2
  go_wp2_with (at_builtin; go_must (refine wpList_append_lies _ rfl _ _ 38 rfl w.heap.size 52 i0 _ 4 4 Try.underlying38 hi hz0 hz1 hz2 rfl (by omega) (.slice none 0 0) 0 [] rfl (World.ownsRow_nil _ _ _ _) ⟨w1.heap.size, 0, none⟩ 1 1 [.bool is, .bool false, .bool is, .bool true] rfl rfl ?c1 ?c2 (by omega) (by decide) (by decide) (by simp <;> omega) _ rfl ?c4))
  case c1 => exact World.news_of_block (cs := #[.bool is, .bool false, .bool is, .bool true]) (heap_new' w1 _)
  case c2 =>
    intro u hu
    simp only [List.mem_cons, List.not_mem_nil, or_false] at hu
    rcases hu with rfl | rfl | rfl | rfl <;> rfl
  case c4 =>
    intro g cap w2 h1 h2 h3 h4
    have HW2 := Lib.hid (HW1.out.keep ((h2.block wb (by simp <;> omega) (by simp [Value.ownBlock])).trans (Below.heap_alloc _ _ _ hwb1)))
    have f2 := HW2.out.c2
    have z2 := HW2.out.free 2
    have hne : g ≠ wb := by
      rcases h3 with h | h
      · simp [Value.ownBlock] at h
      · first | omega | (simp at h; omega)
    have HO2 : Hid (OpenC (w2.setCell ⟨wb, 2, none⟩ (.slice (some ⟨g, 0, none⟩) (0 + 1) cap)) w.heap.size g cap is false is true) := ownsRow_setCell_other (by simpa using h1) (a := ⟨wb, 2, none⟩) (by simpa [Value.ownBlock] using hne) _
    have HU2 : Hid (OutsP (fun k => k = wb) w w2) := ((OutsP.of_below HB1.out).alloc _).grown h2 (fun k hk => by simp [Value.ownBlock] at hk)
    clear h1 h2 h3 h4
    go_wp2
    go_end0
    exact ⟨rfl, g, cap, HW2.out.set2 _, HO2.out, HU2.out.setCell (p := ⟨wb, 2, none⟩) (.inl rfl) _⟩
end Go.Proofs.Ytaliplbbmhfenaa

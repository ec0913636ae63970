/-
  Conditions: else and endif.
-/
import Derived.Test.YtaliplbbmhfenaaBB
namespace Go.Proofs.Ytaliplbbmhfenaa
open Go.MapKept Go.ChangeShapes Go.WideShapes Go.ChangeAt Go.RowKit Go.Deep Go.Joins Go.Instr
/-- What endif comes to. -/
def EndP (w : World) (wb : Nat) (inl : Bool) (kb : Nat) (us : Int) (o : Value) (ob cap : Nat) (e : Ending) (w' : World) : Prop :=
  e = .returned (.tuple #[]) ∧ Wk w' wb inl kb (.slice (some ⟨ob, 0, none⟩) 0 cap) us o ∧ OutsP (fun k => k = wb) w w'
set_option maxHeartbeats 4000000 in
theorem turns_endif (wb kb ob cap base c : Nat) (inl a b k d : Bool) (us at_ : Int) (o : Value) (ad : Option Addr) (w : World) (hw : Wk w wb inl kb (.slice (some ⟨ob, 0, none⟩) 1 cap) us o) (_ : OpenC w base ob cap a b k d) (hcap : 1 ≤ cap) :
    Calls Try.prog 28 #[.pointer (some ⟨wb, 0, none⟩), .string ⟨#[101, 110, 100, 105, 102]⟩, .slice ad 0 c, .int .i64 at_] w (EndP w wb inl kb us o ob cap) := by
  have c2 := hw.c2
  have z2 := hw.free 2
  have hwb := hw.lt
  have HW := Lib.hid hw
  clear hw
  go_enter Try.func28, Try.ntmps28
  go_wp2_with fail
  go_region
  all_goals
    go_wp2_with fail
    go_region
    all_goals
      go_wp2
      go_end0
      first
        | exact ⟨rfl, HW.out.set2 _, ((OutsP.refl (fun k => k = wb) w).setCell (p := ⟨wb, 2, none⟩) (.inl rfl) _).drew.drew⟩
        | exact ⟨rfl, (HW.out.set2 _), (((OutsP.refl (fun k => k = wb) w).setCell (p := ⟨wb, 2, none⟩) (.inl rfl) _).drew)⟩
/-- What else comes to. -/
def ElseP (w : World) (wb : Nat) (inl : Bool) (kb : Nat) (us : Int) (o : Value) (base ob cap : Nat) (a d : Bool) (e : Ending) (w' : World) : Prop :=
  e = .returned (.tuple #[]) ∧ Wk w' wb inl kb (.slice (some ⟨ob, 0, none⟩) 1 cap) us o ∧ OpenC w' base ob cap a true (d && !a) d ∧ OutsP (fun k => k = ob) w w'
set_option maxHeartbeats 4000000 in
theorem turns_else (wb kb ob cap base c : Nat) (inl a k d : Bool) (us at_ : Int) (o : Value) (ad : Option Addr) (w : World) (hw : Wk w wb inl kb (.slice (some ⟨ob, 0, none⟩) 1 cap) us o) (ho : OpenC w base ob cap a false k d) (hne : ob ≠ wb) :
    Calls Try.prog 28 #[.pointer (some ⟨wb, 0, none⟩), .string ⟨#[101, 108, 115, 101]⟩, .slice ad 0 c, .int .i64 at_] w (ElseP w wb inl kb us o base ob cap a d) := by
  have c2 := hw.c2
  have hwb := hw.lt
  have g0 : w.cell? ⟨ob, 0, none⟩ = some (.bool a) := ho.cellAt 0 (by omega)
  have g1 : w.cell? ⟨ob, 1, none⟩ = some (.bool false) := ho.cellAt 1 (by omega)
  have g2 : w.cell? ⟨ob, 2, none⟩ = some (.bool k) := ho.cellAt 2 (by omega)
  have g3 : w.cell? ⟨ob, 3, none⟩ = some (.bool d) := ho.cellAt 3 (by omega)
  have z1 : w.frozen? ⟨ob, 1, none⟩ = false := ho.frozenAt 1
  have z2 : w.frozen? ⟨ob, 2, none⟩ = false := ho.frozenAt 2
  have HW := Lib.hid hw; have HO := Lib.hid ho
  clear hw ho
  cases d <;> cases a
  all_goals
    go_enter Try.func28, Try.ntmps28
    go_wp2_with fail
    go_region
    all_goals
      go_wp2
      go_end0
      refine ⟨rfl, ?_, ?_, ?_⟩
      · exact HW.out.keep ((Below.heap_setCell _ _ _ _ (fun e => hne e.symm)).trans (Below.heap_setCell _ _ _ _ (fun e => hne e.symm)))
      · exact (((HO.out.stored 1 (.bool true)).1).stored 2 _).1
      · exact (((OutsP.refl (fun k => k = ob) w).setCell (p := ⟨ob, 1, none⟩) (.inl rfl) _).setCell (p := ⟨ob, 2, none⟩) (.inl rfl) _).drew
end Go.Proofs.Ytaliplbbmhfenaa

/-
  define: a name without parameters is known from then on.
-/
import Derived.Test.YtaliplbbmhfenaaM
import Derived.WideMake
import Derived.Deep.QuietTactic
namespace Go.Proofs.Ytaliplbbmhfenaa
open Go.MapKept Go.ChangeShapes Go.WideShapes Go.ChangeAt Go.RowKit Go.Deep Go.Joins Go.Instr
/-- What put comes to. -/
def PutP (w : World) (kb clock : Nat) (s : ByteArray) (m : MacD) (e : Ending) (w' : World) : Prop :=
  e = .returned (.tuple #[]) ∧ w'.heap[kb]? = some (.map #[{ key := .string s, val := m.val, born := clock }] (clock + 1)) ∧ OutsP (fun k => k = kb) w w'
theorem outs_set {w : World} {kb : Nat} {o : Obj} : OutsP (fun k => k = kb) w { w with heap := w.heap.setIfInBounds kb o } :=
  ⟨rfl, rfl, rfl, by simp, fun k _ h => by
    show (w.heap.setIfInBounds kb o)[k]? = _
    rw [Array.getElem?_setIfInBounds_ne (fun e => h e.symm)]⟩
theorem len_empty (W : World) (kb clock : Nat) (h : W.heap[kb]? = some (.map #[] clock)) (ty : TypeId) : (Builtin.len_ #[37] ty #[.map (some kb)]).run Try.prog W = .ok (.int .i64 0) W := by
  have h1 := Go.MapKept.run_getObj_map (P := Try.prog) h
  simp [Builtin.len_, run_underlying Try.underlying37, Result.andThen, h1, goInt]
set_option maxHeartbeats 4000000 in
theorem put_first (s : ByteArray) (wi : Bool) (pa ba : Option Addr) (pn pc bn bc : Nat) (at_ : Int) (wb kb clock : Nat) (inl : Bool) (op o : Value) (us : Int) (w : World)
    (hw : Wk w wb inl kb op us o) (hm : w.heap[kb]? = some (.map #[] clock)) :
    Calls Try.prog 35 #[.pointer (some ⟨wb, 0, none⟩), .string s, .agg #[.bool wi, .slice pa pn pc, .slice ba bn bc], .int .i64 at_] w (PutP w kb clock s ⟨wi, pa, pn, pc, ba, bn, bc⟩) := by
  have k1 := hw.c1
  have hwb : wb < w.heap.size := hw.lt
  have hkb : kb < w.heap.size := (Array.getElem?_eq_some_iff.1 hm).1
  have HM := Lib.hid hm
  have hlk : ∀ W : World, W.heap[kb]? = some (.map #[] clock) → (Instr.lookup 37 (.map (some kb)) (.string s) true).run Try.prog W = .ok (.tuple #[.agg #[.bool false, .slice none 0 0, .slice none 0 0], .bool false]) W := by
    intro W hW
    exact lk_run W kb #[] clock s none hW rfl
  have l1 := hlk (w.alloc (.cells #[.bool wi, .slice pa pn pc, .slice ba bn bc] 58)) ((Below.heap_alloc _ _ _ hkb).trans hm)
  have l2 := len_empty ((w.alloc (.cells #[.bool wi, .slice pa pn pc, .slice ba bn bc] 58)).alloc (.cells #[.bool false, .slice none 0 0, .slice none 0 0] 58)) kb clock ((Below.heap_alloc _ _ _ (by simp; omega)).trans ((Below.heap_alloc _ _ _ hkb).trans hm)) 3
  clear hw hm hlk
  go_enter Try.func35, Try.ntmps35
  go_wp2_with fail
  generalize hW2 : World.alloc (World.alloc w _) _ = W2
  have HG : Hid (Below w.heap.size w W2) := by rw [← hW2]; exact ((Below.refl _ _).alloc (Nat.le_refl _) _).alloc (by simp <;> omega) _
  have m0 : W2.cell? ⟨w.heap.size, 0, none⟩ = some (.bool wi) := by rw [← hW2]; simp [go_sem]
  have m1 : W2.cell? ⟨w.heap.size, 1, none⟩ = some (.slice pa pn pc) := by rw [← hW2]; simp [go_sem]
  have m2 : W2.cell? ⟨w.heap.size, 2, none⟩ = some (.slice ba bn bc) := by rw [← hW2]; simp [go_sem]
  clear hW2 l1 l2
  have k2 := (HG.out.cell (p := ⟨wb, 1, none⟩) hwb).trans k1
  clear k1
  obtain ⟨W3, hW3, hupd⟩ : ∃ W3 : World, Hid (W3 = { W2.drew with heap := W2.drew.heap.setIfInBounds kb (.map #[{ key := .string s, val := .agg #[.bool wi, .slice pa pn pc, .slice ba bn bc], born := clock }] (clock + 1)) }) ∧ (Instr.mapUpdate 37 (.map (some kb)) (.string s) (.agg #[.bool wi, .slice pa pn pc, .slice ba bn bc])).run Try.prog W2.drew = .ok () W3 :=
    ⟨_, rfl, run_mapUpdate_first (w := W2.drew) 37 9 58 kb clock s _ Try.underlying37 Try.underlying9 ((HG.out.block kb hkb).trans HM.out)⟩
  go_region
  go_end0
  have hk2 : kb < W2.heap.size := Nat.lt_of_lt_of_le hkb HG.out.size
  refine ⟨rfl, ?_, ?_⟩
  · rw [hW3.out]
    show (W2.heap.setIfInBounds kb _)[kb]? = _
    rw [Array.getElem?_setIfInBounds_self_of_lt hk2]; rfl
  · rw [hW3.out]
    exact ((OutsP.of_below HG.out).drew).trans outs_set (fun x hx => .inl hx)

end Go.Proofs.Ytaliplbbmhfenaa

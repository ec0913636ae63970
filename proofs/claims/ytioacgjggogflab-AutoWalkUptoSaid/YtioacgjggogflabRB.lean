/-
  The reference's Walk, where it does not fit.
-/
import Derived.Test.YtioacgjggogflabRA
namespace Go.Proofs.Ytioacgjggogflab
open Go.ChangeShapes Go.WideShapes Go.ChangeAt Go.RowKit Go.Deep Go.Joins Go.Instr
set_option maxRecDepth 100000 in
set_option maxHeartbeats 8000000 in
theorem rwalk_no (x : PrD) (vm : Value) (more : List Int) (w : World) (hx : x.rd w) (hsm : ∀ t ∈ x.locs, t.sm) (hm : Sl w 1 iEnc vm more) (hfit : fitB x more = false) :
    Calls Try.prog 5 #[x.val, vm] w fun e w' => e = .returned (.tuple #[zeroV, .slice none 0 0, .int .i64 16]) ∧ Below w.heap.size w w' := by
  have HX := Lib.hid hx; have HSM := Lib.hid hsm; have HFIT := Lib.hid hfit; have HMS := Lib.hid hm
  obtain ⟨xn, xp, xf, xi, xl, x5, x6, x7, x8, x9, xfr, xin, xlo⟩ := x
  obtain ⟨fa, fc, h1, -, -⟩ := sl_open hx.fv
  obtain ⟨ia, ic, h2, -, -⟩ := sl_open hx.iv
  obtain ⟨la, lc, h3, ml, HL⟩ := sl_open hx.lv
  simp only at h1 h2 h3 HL ml
  subst h1; subst h2; subst h3
  obtain ⟨am, cm, rfl, mm, HM⟩ := sl_open hm
  clear hx hsm hm hfit HL HM
  unfold PrD.val
  simp only
  go_enter Try.func5, Try.ntmps5
  go_wp2_with fail
  generalize hW1 : World.alloc (World.alloc w _) _ = W1
  have HG : Hid (Below w.heap.size w W1) := by rw [← hW1]; exact ((Below.refl _ _).alloc (Nat.le_refl _) _).alloc (by simp) _
  have HBZ : Hid (W1.heap[w.heap.size + 1]? = some (.cells ZARR 26 (0, 0))) := by rw [← hW1]; exact heap_two_b _ _ _
  have hz1 : W1.heap.size = w.heap.size + 2 := by rw [← hW1]; simp [go_sem]
  clear hW1
  have hfits := fits_any ⟨xn, xp, .slice fa xfr.length fc, .slice ia xin.length ic, .slice la xlo.length lc, x5, x6, x7, x8, x9, xfr, xin, xlo⟩ _ more W1 (HX.out.keep HG.out) HSM.out (HMS.out.keep HG.out)
  rw [HFIT.out] at hfits
  refine hfits.mono ?_
  rintro e w2 ⟨rfl, hw2⟩
  clear hfits
  have hzb := (hw2.block (w.heap.size + 1) (by omega)).trans HBZ.out
  have HZB2 := Lib.hid hzb
  have HW2 : Hid (Below w.heap.size w w2) := HG.out.trans (hw2.mono (by omega))
  have hz2 := hw2.size
  clear hw2
  have z0 : w2.cell? ⟨w.heap.size + 1, 0, none⟩ = some (.string ByteArray.empty) := (cell_of_row w2 (w.heap.size + 1) 0 _ _ _ hzb).trans rfl
  have f0 := frozen_of_row w2 (w.heap.size + 1) 0 _ _ hzb
  have z1 : w2.cell? ⟨w.heap.size + 1, 1, none⟩ = some (.int .i64 0) := (cell_of_row w2 (w.heap.size + 1) 1 _ _ _ hzb).trans rfl
  have f1 := frozen_of_row w2 (w.heap.size + 1) 1 _ _ hzb
  have z2 : w2.cell? ⟨w.heap.size + 1, 2, none⟩ = some (.slice none 0 0) := (cell_of_row w2 (w.heap.size + 1) 2 _ _ _ hzb).trans rfl
  have f2 := frozen_of_row w2 (w.heap.size + 1) 2 _ _ hzb
  have z3 : w2.cell? ⟨w.heap.size + 1, 3, none⟩ = some (.slice none 0 0) := (cell_of_row w2 (w.heap.size + 1) 3 _ _ _ hzb).trans rfl
  have f3 := frozen_of_row w2 (w.heap.size + 1) 3 _ _ hzb
  have z4 : w2.cell? ⟨w.heap.size + 1, 4, none⟩ = some (.slice none 0 0) := (cell_of_row w2 (w.heap.size + 1) 4 _ _ _ hzb).trans rfl
  have f4 := frozen_of_row w2 (w.heap.size + 1) 4 _ _ hzb
  have z5 : w2.cell? ⟨w.heap.size + 1, 5, none⟩ = some (.int .i64 0) := (cell_of_row w2 (w.heap.size + 1) 5 _ _ _ hzb).trans rfl
  have f5 := frozen_of_row w2 (w.heap.size + 1) 5 _ _ hzb
  have z6 : w2.cell? ⟨w.heap.size + 1, 6, none⟩ = some (.int .i64 0) := (cell_of_row w2 (w.heap.size + 1) 6 _ _ _ hzb).trans rfl
  have f6 := frozen_of_row w2 (w.heap.size + 1) 6 _ _ hzb
  have z7 : w2.cell? ⟨w.heap.size + 1, 7, none⟩ = some (.int .i64 0) := (cell_of_row w2 (w.heap.size + 1) 7 _ _ _ hzb).trans rfl
  have f7 := frozen_of_row w2 (w.heap.size + 1) 7 _ _ hzb
  have z8 : w2.cell? ⟨w.heap.size + 1, 8, none⟩ = some (.int .i64 0) := (cell_of_row w2 (w.heap.size + 1) 8 _ _ _ hzb).trans rfl
  have f8 := frozen_of_row w2 (w.heap.size + 1) 8 _ _ hzb
  have z9 : w2.cell? ⟨w.heap.size + 1, 9, none⟩ = some (.int .i64 0) := (cell_of_row w2 (w.heap.size + 1) 9 _ _ _ hzb).trans rfl
  have f9 := frozen_of_row w2 (w.heap.size + 1) 9 _ _ hzb
  clear hzb
  go_wp2_with fail
  generalize hWF : World.setCell _ ⟨w.heap.size + 1, 9, none⟩ _ = WF
  have HZF : Hid (WF.heap[w.heap.size + 1]? = some (.cells #[.string ByteArray.empty, .int .i64 0, .slice none 0 0, .slice none 0 0, .slice none 0 0, .int .i64 0, .int .i64 0, .int .i64 0, .int .i64 0, .int .i64 0] 26 (0, 0))) := by
    rw [← hWF]
    exact heap_ten w2 (w.heap.size + 1) _ _ _ _ _ _ _ _ _ _ HZB2.out _ _ _ _ _ _ _ _ _ _
  have HOF : Hid (OutsP (fun k => k = w.heap.size + 1) w2 WF) := by
    rw [← hWF]
    exact outs_ten w2 (w.heap.size + 1) _ _ _ _ _ _ _ _ _ _
  clear hWF z0 z1 z2 z3 z4 z5 z6 z7 z8 z9 f0 f1 f2 f3 f4 f5 f6 f7 f8 f9
  have c0 : WF.cell? ⟨w.heap.size + 1, 0, none⟩ = some (.string ByteArray.empty) := (cell_of_row WF (w.heap.size + 1) 0 _ _ _ HZF.out).trans rfl
  have c1 : WF.cell? ⟨w.heap.size + 1, 1, none⟩ = some (.int .i64 0) := (cell_of_row WF (w.heap.size + 1) 1 _ _ _ HZF.out).trans rfl
  have c2 : WF.cell? ⟨w.heap.size + 1, 2, none⟩ = some (.slice none 0 0) := (cell_of_row WF (w.heap.size + 1) 2 _ _ _ HZF.out).trans rfl
  have c3 : WF.cell? ⟨w.heap.size + 1, 3, none⟩ = some (.slice none 0 0) := (cell_of_row WF (w.heap.size + 1) 3 _ _ _ HZF.out).trans rfl
  have c4 : WF.cell? ⟨w.heap.size + 1, 4, none⟩ = some (.slice none 0 0) := (cell_of_row WF (w.heap.size + 1) 4 _ _ _ HZF.out).trans rfl
  have c5 : WF.cell? ⟨w.heap.size + 1, 5, none⟩ = some (.int .i64 0) := (cell_of_row WF (w.heap.size + 1) 5 _ _ _ HZF.out).trans rfl
  have c6 : WF.cell? ⟨w.heap.size + 1, 6, none⟩ = some (.int .i64 0) := (cell_of_row WF (w.heap.size + 1) 6 _ _ _ HZF.out).trans rfl
  have c7 : WF.cell? ⟨w.heap.size + 1, 7, none⟩ = some (.int .i64 0) := (cell_of_row WF (w.heap.size + 1) 7 _ _ _ HZF.out).trans rfl
  have c8 : WF.cell? ⟨w.heap.size + 1, 8, none⟩ = some (.int .i64 0) := (cell_of_row WF (w.heap.size + 1) 8 _ _ _ HZF.out).trans rfl
  have c9 : WF.cell? ⟨w.heap.size + 1, 9, none⟩ = some (.int .i64 0) := (cell_of_row WF (w.heap.size + 1) 9 _ _ _ HZF.out).trans rfl
  have HBF : Hid (Below w.heap.size w WF) := HW2.out.trans (HOF.out.below (by have := HW2.out.size; omega) (fun k h => by omega))
  refine bodyPost_ret (v := .tuple #[.agg #[.string ByteArray.empty, .int .i64 0, .slice none 0 0, .slice none 0 0, .slice none 0 0, .int .i64 0, .int .i64 0, .int .i64 0, .int .i64 0, .int .i64 0], .slice none 0 0, .int .i64 16]) (by simp [results, Try.results5, go_sem, *]) rfl ?_
  exact ⟨rfl, HBF.out⟩
end Go.Proofs.Ytioacgjggogflab

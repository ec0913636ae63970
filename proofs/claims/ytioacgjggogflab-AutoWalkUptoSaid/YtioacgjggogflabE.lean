/-
  The reference's SameProc of alike proctypes.
-/
import Derived.Test.YtioacgjggogflabD
namespace Go.Proofs.Ytioacgjggogflab
open Go.ChangeShapes Go.WideShapes Go.ChangeAt Go.RowKit Go.Deep Go.Joins Go.Instr
/-- A proctype that reads. -/
structure PrD.rd (w : World) (x : PrD) : Prop where
  fv : Sl w 2 TyD.enc x.fv x.frame
  iv : Sl w 1 iEnc x.iv x.init
  lv : Sl w 7 LoD.enc x.lv x.locs
  locs : ∀ t ∈ x.locs, t.rd w
theorem PrD.rd.keep {w w' : World} (hb : Below w.heap.size w w') {x : PrD} (h : x.rd w) : x.rd w' :=
  ⟨h.fv.keep hb, h.iv.keep hb, h.lv.keep hb, fun t ht => (h.locs t ht).keep hb⟩
/-- Two proctypes are alike. -/
structure PrA (x y : PrD) : Prop where
  name : x.name = y.name
  params : x.params = y.params
  start : x.start = y.start
  final : x.final = y.final
  active : x.active = y.active
  prio : x.prio = y.prio
  provided : x.provided = y.provided
  frame : x.frame = y.frame
  init : x.init = y.init
  len : x.locs.length = y.locs.length
  locs : ∀ i, i < x.locs.length → LoA (x.locs.getD i default) (y.locs.getD i default)
theorem types_true (va vb : Value) (a : List TyD) (w : World) (ha : Sl w 2 TyD.enc va a) (hb : Sl w 2 TyD.enc vb a) :
    Calls Try.prog 20 #[va, vb] w fun e w' => e = .returned (.bool true) ∧ Below w.heap.size w w' := by
  have := types_any va vb a a w ha hb
  simpa using this
theorem numbers_true (va vb : Value) (a : List Int) (w : World) (ha : Sl w 1 iEnc va a) (hb : Sl w 1 iEnc vb a) :
    Calls Try.prog 21 #[va, vb] w fun e w' => e = .returned (.bool true) ∧ Below w.heap.size w w' := by
  have := numbers_any va vb a a w ha hb
  simpa using this
set_option maxRecDepth 100000 in
set_option maxHeartbeats 8000000 in
theorem proc_true (x y : PrD) (w : World) (hx : x.rd w) (hy : y.rd w) (hal : PrA x y) :
    Calls Try.prog 6 #[x.val, y.val] w fun e w' => e = .returned (.bool true) ∧ Below w.heap.size w w' := by
  obtain ⟨xn, xp, xf, xi, xl, x5, x6, x7, x8, x9, xfr, xin, xlo⟩ := x
  obtain ⟨yn, yp, yf, yi, yl, y5, y6, y7, y8, y9, yfr, yin, ylo⟩ := y
  obtain ⟨e0, e1, e2, e3, e4, e5, e6, e7, e8, e9, e10⟩ := hal
  simp only at e0 e1 e2 e3 e4 e5 e6 e7 e8 e9 e10
  subst e0; subst e1; subst e2; subst e3; subst e4; subst e5; subst e6; subst e7; subst e8
  have HX := Lib.hid hx; have HY := Lib.hid hy; have HL := Lib.hid e9; have HA := Lib.hid e10
  obtain ⟨fa, fc, h1, -, -⟩ := sl_open hx.fv
  obtain ⟨ia, ic, h2, -, -⟩ := sl_open hx.iv
  obtain ⟨la, lc, h3, -, -⟩ := sl_open hx.lv
  obtain ⟨fb, fd, h4, -, -⟩ := sl_open hy.fv
  obtain ⟨ib, id', h5, -, -⟩ := sl_open hy.iv
  obtain ⟨lb, ld, h6, -, -⟩ := sl_open hy.lv
  simp only at h1 h2 h3 h4 h5 h6
  subst h1; subst h2; subst h3; subst h4; subst h5; subst h6
  clear hx hy e9 e10
  unfold PrD.val
  simp only
  go_enter Try.func6, Try.ntmps6
  go_wp2_with fail
  generalize hW2 : World.alloc (World.alloc w _) _ = W2
  have HG : Hid (Below w.heap.size w W2) := by rw [← hW2]; exact ((Below.refl _ _).alloc (Nat.le_refl _) _).alloc (by simp) _
  have hz2 : W2.heap.size = w.heap.size + 2 := by rw [← hW2]; simp [go_sem]
  have hA1 : W2.heap[w.heap.size]? = some (.cells #[.string xn, .int .i64 xp, .slice fa xfr.length fc, .slice ia xin.length ic, .slice la xlo.length lc, .int .i64 x5, .int .i64 x6, .int .i64 x7, .int .i64 x8, .int .i64 x9] 26 (0, 0)) := by rw [← hW2]; exact heap_two_a _ _ _
  have hA2 : W2.heap[w.heap.size + 1]? = some (.cells #[.string xn, .int .i64 xp, .slice fb xfr.length fd, .slice ib xin.length id', .slice lb ylo.length ld, .int .i64 x5, .int .i64 x6, .int .i64 x7, .int .i64 x8, .int .i64 x9] 26 (0, 0)) := by rw [← hW2]; exact heap_two_b _ _ _
  have s0 : W2.cell? ⟨w.heap.size, 0, none⟩ = some (.string xn) := by rw [cell_of_row W2 (w.heap.size) 0 _ _ _ hA1]; rfl
  have s1 : W2.cell? ⟨w.heap.size, 1, none⟩ = some (.int .i64 xp) := by rw [cell_of_row W2 (w.heap.size) 1 _ _ _ hA1]; rfl
  have s2 : W2.cell? ⟨w.heap.size, 2, none⟩ = some (.slice fa xfr.length fc) := by rw [cell_of_row W2 (w.heap.size) 2 _ _ _ hA1]; rfl
  have s3 : W2.cell? ⟨w.heap.size, 3, none⟩ = some (.slice ia xin.length ic) := by rw [cell_of_row W2 (w.heap.size) 3 _ _ _ hA1]; rfl
  have s4 : W2.cell? ⟨w.heap.size, 4, none⟩ = some (.slice la xlo.length lc) := by rw [cell_of_row W2 (w.heap.size) 4 _ _ _ hA1]; rfl
  have s5 : W2.cell? ⟨w.heap.size, 5, none⟩ = some (.int .i64 x5) := by rw [cell_of_row W2 (w.heap.size) 5 _ _ _ hA1]; rfl
  have s6 : W2.cell? ⟨w.heap.size, 6, none⟩ = some (.int .i64 x6) := by rw [cell_of_row W2 (w.heap.size) 6 _ _ _ hA1]; rfl
  have s7 : W2.cell? ⟨w.heap.size, 7, none⟩ = some (.int .i64 x7) := by rw [cell_of_row W2 (w.heap.size) 7 _ _ _ hA1]; rfl
  have s8 : W2.cell? ⟨w.heap.size, 8, none⟩ = some (.int .i64 x8) := by rw [cell_of_row W2 (w.heap.size) 8 _ _ _ hA1]; rfl
  have s9 : W2.cell? ⟨w.heap.size, 9, none⟩ = some (.int .i64 x9) := by rw [cell_of_row W2 (w.heap.size) 9 _ _ _ hA1]; rfl
  have t0 : W2.cell? ⟨w.heap.size + 1, 0, none⟩ = some (.string xn) := by rw [cell_of_row W2 (w.heap.size + 1) 0 _ _ _ hA2]; rfl
  have t1 : W2.cell? ⟨w.heap.size + 1, 1, none⟩ = some (.int .i64 xp) := by rw [cell_of_row W2 (w.heap.size + 1) 1 _ _ _ hA2]; rfl
  have t2 : W2.cell? ⟨w.heap.size + 1, 2, none⟩ = some (.slice fb xfr.length fd) := by rw [cell_of_row W2 (w.heap.size + 1) 2 _ _ _ hA2]; rfl
  have t3 : W2.cell? ⟨w.heap.size + 1, 3, none⟩ = some (.slice ib xin.length id') := by rw [cell_of_row W2 (w.heap.size + 1) 3 _ _ _ hA2]; rfl
  have t4 : W2.cell? ⟨w.heap.size + 1, 4, none⟩ = some (.slice lb ylo.length ld) := by rw [cell_of_row W2 (w.heap.size + 1) 4 _ _ _ hA2]; rfl
  have t5 : W2.cell? ⟨w.heap.size + 1, 5, none⟩ = some (.int .i64 x5) := by rw [cell_of_row W2 (w.heap.size + 1) 5 _ _ _ hA2]; rfl
  have t6 : W2.cell? ⟨w.heap.size + 1, 6, none⟩ = some (.int .i64 x6) := by rw [cell_of_row W2 (w.heap.size + 1) 6 _ _ _ hA2]; rfl
  have t7 : W2.cell? ⟨w.heap.size + 1, 7, none⟩ = some (.int .i64 x7) := by rw [cell_of_row W2 (w.heap.size + 1) 7 _ _ _ hA2]; rfl
  have t8 : W2.cell? ⟨w.heap.size + 1, 8, none⟩ = some (.int .i64 x8) := by rw [cell_of_row W2 (w.heap.size + 1) 8 _ _ _ hA2]; rfl
  have t9 : W2.cell? ⟨w.heap.size + 1, 9, none⟩ = some (.int .i64 x9) := by rw [cell_of_row W2 (w.heap.size + 1) 9 _ _ _ hA2]; rfl
  clear hW2 hA1 hA2
  have hs2 : w.heap.size < W2.heap.size := by omega
  have hs2b : w.heap.size + 1 < W2.heap.size := by omega
  have hzz : w.heap.size ≤ W2.heap.size := by omega
  refine (types_true _ _ xfr W2 (HX.out.fv.keep HG.out) (HY.out.fv.keep HG.out)).mono ?_
  rintro e w3 ⟨rfl, hw3⟩
  have hz3 := hw3.size
  have HB3 := Lib.hid hw3
  have HT3 : Hid (Below w.heap.size w w3) := HG.out.trans (hw3.mono (by omega))
  clear hw3
  have s0 := (HB3.out.cell (p := ⟨w.heap.size, 0, none⟩) (show w.heap.size < W2.heap.size by omega)).trans s0
  have s1 := (HB3.out.cell (p := ⟨w.heap.size, 1, none⟩) (show w.heap.size < W2.heap.size by omega)).trans s1
  have s2 := (HB3.out.cell (p := ⟨w.heap.size, 2, none⟩) (show w.heap.size < W2.heap.size by omega)).trans s2
  have s3 := (HB3.out.cell (p := ⟨w.heap.size, 3, none⟩) (show w.heap.size < W2.heap.size by omega)).trans s3
  have s4 := (HB3.out.cell (p := ⟨w.heap.size, 4, none⟩) (show w.heap.size < W2.heap.size by omega)).trans s4
  have s5 := (HB3.out.cell (p := ⟨w.heap.size, 5, none⟩) (show w.heap.size < W2.heap.size by omega)).trans s5
  have s6 := (HB3.out.cell (p := ⟨w.heap.size, 6, none⟩) (show w.heap.size < W2.heap.size by omega)).trans s6
  have s7 := (HB3.out.cell (p := ⟨w.heap.size, 7, none⟩) (show w.heap.size < W2.heap.size by omega)).trans s7
  have s8 := (HB3.out.cell (p := ⟨w.heap.size, 8, none⟩) (show w.heap.size < W2.heap.size by omega)).trans s8
  have s9 := (HB3.out.cell (p := ⟨w.heap.size, 9, none⟩) (show w.heap.size < W2.heap.size by omega)).trans s9
  have t0 := (HB3.out.cell (p := ⟨w.heap.size + 1, 0, none⟩) (show w.heap.size + 1 < W2.heap.size by omega)).trans t0
  have t1 := (HB3.out.cell (p := ⟨w.heap.size + 1, 1, none⟩) (show w.heap.size + 1 < W2.heap.size by omega)).trans t1
  have t2 := (HB3.out.cell (p := ⟨w.heap.size + 1, 2, none⟩) (show w.heap.size + 1 < W2.heap.size by omega)).trans t2
  have t3 := (HB3.out.cell (p := ⟨w.heap.size + 1, 3, none⟩) (show w.heap.size + 1 < W2.heap.size by omega)).trans t3
  have t4 := (HB3.out.cell (p := ⟨w.heap.size + 1, 4, none⟩) (show w.heap.size + 1 < W2.heap.size by omega)).trans t4
  have t5 := (HB3.out.cell (p := ⟨w.heap.size + 1, 5, none⟩) (show w.heap.size + 1 < W2.heap.size by omega)).trans t5
  have t6 := (HB3.out.cell (p := ⟨w.heap.size + 1, 6, none⟩) (show w.heap.size + 1 < W2.heap.size by omega)).trans t6
  have t7 := (HB3.out.cell (p := ⟨w.heap.size + 1, 7, none⟩) (show w.heap.size + 1 < W2.heap.size by omega)).trans t7
  have t8 := (HB3.out.cell (p := ⟨w.heap.size + 1, 8, none⟩) (show w.heap.size + 1 < W2.heap.size by omega)).trans t8
  have t9 := (HB3.out.cell (p := ⟨w.heap.size + 1, 9, none⟩) (show w.heap.size + 1 < W2.heap.size by omega)).trans t9
  clear HB3
  go_wp2_with fail
  refine (numbers_true _ _ xin w3 (HX.out.iv.keep HT3.out) (HY.out.iv.keep HT3.out)).mono ?_
  rintro e w4 ⟨rfl, hw4⟩
  have hz4 := hw4.size
  have HB4 := Lib.hid hw4
  have HT4 : Hid (Below w.heap.size w w4) := HT3.out.trans (hw4.mono (by omega))
  clear hw4
  have s0 := (HB4.out.cell (p := ⟨w.heap.size, 0, none⟩) (show w.heap.size < w3.heap.size by omega)).trans s0
  have s1 := (HB4.out.cell (p := ⟨w.heap.size, 1, none⟩) (show w.heap.size < w3.heap.size by omega)).trans s1
  have s2 := (HB4.out.cell (p := ⟨w.heap.size, 2, none⟩) (show w.heap.size < w3.heap.size by omega)).trans s2
  have s3 := (HB4.out.cell (p := ⟨w.heap.size, 3, none⟩) (show w.heap.size < w3.heap.size by omega)).trans s3
  have s4 := (HB4.out.cell (p := ⟨w.heap.size, 4, none⟩) (show w.heap.size < w3.heap.size by omega)).trans s4
  have s5 := (HB4.out.cell (p := ⟨w.heap.size, 5, none⟩) (show w.heap.size < w3.heap.size by omega)).trans s5
  have s6 := (HB4.out.cell (p := ⟨w.heap.size, 6, none⟩) (show w.heap.size < w3.heap.size by omega)).trans s6
  have s7 := (HB4.out.cell (p := ⟨w.heap.size, 7, none⟩) (show w.heap.size < w3.heap.size by omega)).trans s7
  have s8 := (HB4.out.cell (p := ⟨w.heap.size, 8, none⟩) (show w.heap.size < w3.heap.size by omega)).trans s8
  have s9 := (HB4.out.cell (p := ⟨w.heap.size, 9, none⟩) (show w.heap.size < w3.heap.size by omega)).trans s9
  have t0 := (HB4.out.cell (p := ⟨w.heap.size + 1, 0, none⟩) (show w.heap.size + 1 < w3.heap.size by omega)).trans t0
  have t1 := (HB4.out.cell (p := ⟨w.heap.size + 1, 1, none⟩) (show w.heap.size + 1 < w3.heap.size by omega)).trans t1
  have t2 := (HB4.out.cell (p := ⟨w.heap.size + 1, 2, none⟩) (show w.heap.size + 1 < w3.heap.size by omega)).trans t2
  have t3 := (HB4.out.cell (p := ⟨w.heap.size + 1, 3, none⟩) (show w.heap.size + 1 < w3.heap.size by omega)).trans t3
  have t4 := (HB4.out.cell (p := ⟨w.heap.size + 1, 4, none⟩) (show w.heap.size + 1 < w3.heap.size by omega)).trans t4
  have t5 := (HB4.out.cell (p := ⟨w.heap.size + 1, 5, none⟩) (show w.heap.size + 1 < w3.heap.size by omega)).trans t5
  have t6 := (HB4.out.cell (p := ⟨w.heap.size + 1, 6, none⟩) (show w.heap.size + 1 < w3.heap.size by omega)).trans t6
  have t7 := (HB4.out.cell (p := ⟨w.heap.size + 1, 7, none⟩) (show w.heap.size + 1 < w3.heap.size by omega)).trans t7
  have t8 := (HB4.out.cell (p := ⟨w.heap.size + 1, 8, none⟩) (show w.heap.size + 1 < w3.heap.size by omega)).trans t8
  have t9 := (HB4.out.cell (p := ⟨w.heap.size + 1, 9, none⟩) (show w.heap.size + 1 < w3.heap.size by omega)).trans t9
  clear HB4
  go_wp2_with fail
  refine (locs_true _ _ xlo ylo w4 (HX.out.lv.keep HT4.out) (HY.out.lv.keep HT4.out) (fun t ht => (HX.out.locs t ht).keep HT4.out) (fun t ht => (HY.out.locs t ht).keep HT4.out) HL.out HA.out).mono ?_
  rintro e w5 ⟨rfl, hw5⟩
  have hz5 := hw5.size
  have HB5 := Lib.hid hw5
  have HT5 : Hid (Below w.heap.size w w5) := HT4.out.trans (hw5.mono (by omega))
  clear hw5
  have s0 := (HB5.out.cell (p := ⟨w.heap.size, 0, none⟩) (show w.heap.size < w4.heap.size by omega)).trans s0
  have s1 := (HB5.out.cell (p := ⟨w.heap.size, 1, none⟩) (show w.heap.size < w4.heap.size by omega)).trans s1
  have s2 := (HB5.out.cell (p := ⟨w.heap.size, 2, none⟩) (show w.heap.size < w4.heap.size by omega)).trans s2
  have s3 := (HB5.out.cell (p := ⟨w.heap.size, 3, none⟩) (show w.heap.size < w4.heap.size by omega)).trans s3
  have s4 := (HB5.out.cell (p := ⟨w.heap.size, 4, none⟩) (show w.heap.size < w4.heap.size by omega)).trans s4
  have s5 := (HB5.out.cell (p := ⟨w.heap.size, 5, none⟩) (show w.heap.size < w4.heap.size by omega)).trans s5
  have s6 := (HB5.out.cell (p := ⟨w.heap.size, 6, none⟩) (show w.heap.size < w4.heap.size by omega)).trans s6
  have s7 := (HB5.out.cell (p := ⟨w.heap.size, 7, none⟩) (show w.heap.size < w4.heap.size by omega)).trans s7
  have s8 := (HB5.out.cell (p := ⟨w.heap.size, 8, none⟩) (show w.heap.size < w4.heap.size by omega)).trans s8
  have s9 := (HB5.out.cell (p := ⟨w.heap.size, 9, none⟩) (show w.heap.size < w4.heap.size by omega)).trans s9
  have t0 := (HB5.out.cell (p := ⟨w.heap.size + 1, 0, none⟩) (show w.heap.size + 1 < w4.heap.size by omega)).trans t0
  have t1 := (HB5.out.cell (p := ⟨w.heap.size + 1, 1, none⟩) (show w.heap.size + 1 < w4.heap.size by omega)).trans t1
  have t2 := (HB5.out.cell (p := ⟨w.heap.size + 1, 2, none⟩) (show w.heap.size + 1 < w4.heap.size by omega)).trans t2
  have t3 := (HB5.out.cell (p := ⟨w.heap.size + 1, 3, none⟩) (show w.heap.size + 1 < w4.heap.size by omega)).trans t3
  have t4 := (HB5.out.cell (p := ⟨w.heap.size + 1, 4, none⟩) (show w.heap.size + 1 < w4.heap.size by omega)).trans t4
  have t5 := (HB5.out.cell (p := ⟨w.heap.size + 1, 5, none⟩) (show w.heap.size + 1 < w4.heap.size by omega)).trans t5
  have t6 := (HB5.out.cell (p := ⟨w.heap.size + 1, 6, none⟩) (show w.heap.size + 1 < w4.heap.size by omega)).trans t6
  have t7 := (HB5.out.cell (p := ⟨w.heap.size + 1, 7, none⟩) (show w.heap.size + 1 < w4.heap.size by omega)).trans t7
  have t8 := (HB5.out.cell (p := ⟨w.heap.size + 1, 8, none⟩) (show w.heap.size + 1 < w4.heap.size by omega)).trans t8
  have t9 := (HB5.out.cell (p := ⟨w.heap.size + 1, 9, none⟩) (show w.heap.size + 1 < w4.heap.size by omega)).trans t9
  clear HB5
  go_wp2_with fail
  go_ret
  exact ⟨rfl, HT5.out⟩
end Go.Proofs.Ytioacgjggogflab

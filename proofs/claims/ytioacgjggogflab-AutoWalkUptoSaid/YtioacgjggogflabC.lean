/-
  The reference's comparisons of alike things: sameWays, sameLocs, SameProc.
-/
import Derived.Test.YtioacgjggogflabB
import Derived.OneCell
import Derived.Laws.Rows
namespace Go.Proofs.Ytioacgjggogflab
open Go.ChangeShapes Go.WideShapes Go.ChangeAt Go.RowKit Go.Deep Go.Joins Go.Instr
theorem TrD.ok.keep {w w' : World} (hb : Below w.heap.size w w') {x : TrD} (h : x.ok w) : x.ok w' :=
  { h with av := h.av.keep hb, mv := h.mv.keep hb }
theorem below_drewN {B : Nat} (w : World) (q : Nat) : Below B w (w.drewN q) := ⟨rfl, rfl, rfl, Nat.le_refl _, fun _ _ => rfl⟩
theorem heap_two_a (w : World) (a o : Obj) : ((w.alloc a).alloc o).heap[w.heap.size]? = some a := by
  show ((w.heap.push _).push _)[w.heap.size]? = _
  rw [Array.getElem?_push, if_neg (by simp), Array.getElem?_push, if_pos rfl]
theorem heap_two_b (w : World) (a o : Obj) : ((w.alloc a).alloc o).heap[w.heap.size + 1]? = some o := by
  show ((w.heap.push _).push _)[w.heap.size + 1]? = _
  rw [Array.getElem?_push, if_pos (by simp)]
theorem ints_true (va vb : Value) (a : List Int) (w : World) (ha : Sl w 1 iEnc va a) (hb : Sl w 1 iEnc vb a) :
    Calls Try.prog 7 #[va, vb] w fun e w' => e = .returned (.bool true) ∧ Below w.heap.size w w' := by
  have := ints_any va vb a a w ha hb
  simpa using this
set_option maxRecDepth 100000 in
set_option maxHeartbeats 8000000 in
theorem ways_true (va vb : Value) (l : List TrD) (w : World) (ha : Sl w 9 TrD.enc va l) (hb : Sl w 9 TrD.enc vb l) (hok : ∀ t ∈ l, t.ok w) :
    Calls Try.prog 25 #[va, vb] w fun e w' => e = .returned (.bool true) ∧ Below w.heap.size w w' := by
  obtain ⟨aa, ca, rfl, ma, HA⟩ := sl_open ha
  obtain ⟨ab, cb, rfl, mb, HB⟩ := sl_open hb
  have HK := Lib.hid hok
  clear ha hb hok mb
  go_enter Try.func25, Try.ntmps25
  go_wp2_with fail
  go_loopw [5] (fun i wr => ∃ k : Nat, k ≤ l.length ∧ i = .int .i64 k ∧ Hid (Below w.heap.size w wr)) (fun i _ => l.length - (intOf i).toNat)
  case atStart => exact ⟨0, Nat.zero_le _, rfl, Below.refl _ _⟩
  case round =>
    obtain ⟨k, hk, rfl, hB⟩ := hrel
    by_cases hlt : k < l.length
    · obtain ⟨ba, oa, rfl, hba, hca⟩ := HA.out (by omega)
      obtain ⟨bb, ob, rfl, hbb, hcb⟩ := HB.out (by omega)
      have hba := Lib.hid hba; have hbb := Lib.hid hbb
      have hca := fun j hj => (hB.out.cell (p := ⟨ba, oa + k * 9 + j, none⟩) hba.out).trans (hca k hlt j hj)
      have hcb := fun j hj => (hB.out.cell (p := ⟨bb, ob + k * 9 + j, none⟩) hbb.out).trans (hcb k hlt j hj)
      have hX := (HK.out (l.getD k default) (by rw [List.getD_eq_getElem?_getD, List.getElem?_eq_getElem hlt]; simp)).keep hB.out
      generalize l.getD k default = x at *
      obtain ⟨x0, x1, x2, x3, x4, x5, x6, x7, x8, xa, xm⟩ := x
      have HAV := Lib.hid hX.av; have HMV := Lib.hid hX.mv
      simp only at HAV HMV
      clear hX
      obtain ⟨a4, q4, rfl, -, -⟩ := sl_open HAV.out
      obtain ⟨a5, q5, rfl, -, -⟩ := sl_open HMV.out
      have c0 := hca 0 (by omega); have c1 := hca 1 (by omega); have c2 := hca 2 (by omega); have c3 := hca 3 (by omega); have c4 := hca 4 (by omega); have c5 := hca 5 (by omega); have c6 := hca 6 (by omega); have c7 := hca 7 (by omega); have c8 := hca 8 (by omega)
      have d0 := hcb 0 (by omega); have d1 := hcb 1 (by omega); have d2 := hcb 2 (by omega); have d3 := hcb 3 (by omega); have d4 := hcb 4 (by omega); have d5 := hcb 5 (by omega); have d6 := hcb 6 (by omega); have d7 := hcb 7 (by omega); have d8 := hcb 8 (by omega)
      clear hca hcb
      simp only [TrD.enc, Nat.add_zero] at c0 c1 c2 c3 c4 c5 c6 c7 c8 d0 d1 d2 d3 d4 d5 d6 d7 d8
      have hsz := hB.out.size
      have hba2 : ba < wr.heap.size := Nat.lt_of_lt_of_le hba.out hsz
      have hbb2 : bb < wr.heap.size := Nat.lt_of_lt_of_le hbb.out hsz
      go_wp2_with fail
      generalize hW2 : World.alloc (World.alloc wr _) _ = W2
      have HG : Hid (Below wr.heap.size wr W2) := by rw [← hW2]; exact ((Below.refl _ _).alloc (Nat.le_refl _) _).alloc (by simp) _
      have hz2 : W2.heap.size = wr.heap.size + 2 := by rw [← hW2]; simp [go_sem]
      have hA1 : W2.heap[wr.heap.size]? = some (.cells #[.int .i64 x0, .int .i64 x1, .int .i64 x2, .int .i64 x3, .slice a4 xa.length q4, .slice a5 xm.length q5, .string x6] 38 (0, 0)) := by rw [← hW2]; exact heap_two_a _ _ _
      have hA2 : W2.heap[wr.heap.size + 1]? = some (.cells #[.int .i64 x0, .int .i64 x1, .int .i64 x2, .int .i64 x3, .slice a4 xa.length q4, .slice a5 xm.length q5, .string x6] 38 (0, 0)) := by rw [← hW2]; exact heap_two_b _ _ _
      have s0 : W2.cell? ⟨wr.heap.size, 0, none⟩ = some (.int .i64 x0) := by rw [cell_of_row W2 (wr.heap.size) 0 _ _ _ hA1]; rfl
      have s1 : W2.cell? ⟨wr.heap.size, 1, none⟩ = some (.int .i64 x1) := by rw [cell_of_row W2 (wr.heap.size) 1 _ _ _ hA1]; rfl
      have s2 : W2.cell? ⟨wr.heap.size, 2, none⟩ = some (.int .i64 x2) := by rw [cell_of_row W2 (wr.heap.size) 2 _ _ _ hA1]; rfl
      have s3 : W2.cell? ⟨wr.heap.size, 3, none⟩ = some (.int .i64 x3) := by rw [cell_of_row W2 (wr.heap.size) 3 _ _ _ hA1]; rfl
      have s4 : W2.cell? ⟨wr.heap.size, 4, none⟩ = some (.slice a4 xa.length q4) := by rw [cell_of_row W2 (wr.heap.size) 4 _ _ _ hA1]; rfl
      have s5 : W2.cell? ⟨wr.heap.size, 5, none⟩ = some (.slice a5 xm.length q5) := by rw [cell_of_row W2 (wr.heap.size) 5 _ _ _ hA1]; rfl
      have s6 : W2.cell? ⟨wr.heap.size, 6, none⟩ = some (.string x6) := by rw [cell_of_row W2 (wr.heap.size) 6 _ _ _ hA1]; rfl
      have t0 : W2.cell? ⟨wr.heap.size + 1, 0, none⟩ = some (.int .i64 x0) := by rw [cell_of_row W2 (wr.heap.size + 1) 0 _ _ _ hA2]; rfl
      have t1 : W2.cell? ⟨wr.heap.size + 1, 1, none⟩ = some (.int .i64 x1) := by rw [cell_of_row W2 (wr.heap.size + 1) 1 _ _ _ hA2]; rfl
      have t2 : W2.cell? ⟨wr.heap.size + 1, 2, none⟩ = some (.int .i64 x2) := by rw [cell_of_row W2 (wr.heap.size + 1) 2 _ _ _ hA2]; rfl
      have t3 : W2.cell? ⟨wr.heap.size + 1, 3, none⟩ = some (.int .i64 x3) := by rw [cell_of_row W2 (wr.heap.size + 1) 3 _ _ _ hA2]; rfl
      have t4 : W2.cell? ⟨wr.heap.size + 1, 4, none⟩ = some (.slice a4 xa.length q4) := by rw [cell_of_row W2 (wr.heap.size + 1) 4 _ _ _ hA2]; rfl
      have t5 : W2.cell? ⟨wr.heap.size + 1, 5, none⟩ = some (.slice a5 xm.length q5) := by rw [cell_of_row W2 (wr.heap.size + 1) 5 _ _ _ hA2]; rfl
      have t6 : W2.cell? ⟨wr.heap.size + 1, 6, none⟩ = some (.string x6) := by rw [cell_of_row W2 (wr.heap.size + 1) 6 _ _ _ hA2]; rfl
      clear hW2 hA1 hA2
      have hs2 : wr.heap.size < W2.heap.size := by omega
      have hs2b : wr.heap.size + 1 < W2.heap.size := by omega
      have HA2 := Lib.hid (HAV.out.keep HG.out); have HM2 := Lib.hid (HMV.out.keep HG.out)
      have hzz : wr.heap.size ≤ W2.heap.size := by omega
      refine (ints_true _ _ xa W2 HA2.out HA2.out).mono ?_
      rintro e w3 ⟨rfl, hw3⟩
      have HB3 := Lib.hid hw3
      have HM3 := Lib.hid (HM2.out.keep hw3)
      have hz3 := hw3.size
      clear hw3
      have s0 := (HB3.out.cell (p := ⟨wr.heap.size, 0, none⟩) hs2).trans s0
      have s1 := (HB3.out.cell (p := ⟨wr.heap.size, 1, none⟩) hs2).trans s1
      have s2 := (HB3.out.cell (p := ⟨wr.heap.size, 2, none⟩) hs2).trans s2
      have s3 := (HB3.out.cell (p := ⟨wr.heap.size, 3, none⟩) hs2).trans s3
      have s4 := (HB3.out.cell (p := ⟨wr.heap.size, 4, none⟩) hs2).trans s4
      have s5 := (HB3.out.cell (p := ⟨wr.heap.size, 5, none⟩) hs2).trans s5
      have s6 := (HB3.out.cell (p := ⟨wr.heap.size, 6, none⟩) hs2).trans s6
      have t0 := (HB3.out.cell (p := ⟨wr.heap.size + 1, 0, none⟩) hs2b).trans t0
      have t1 := (HB3.out.cell (p := ⟨wr.heap.size + 1, 1, none⟩) hs2b).trans t1
      have t2 := (HB3.out.cell (p := ⟨wr.heap.size + 1, 2, none⟩) hs2b).trans t2
      have t3 := (HB3.out.cell (p := ⟨wr.heap.size + 1, 3, none⟩) hs2b).trans t3
      have t4 := (HB3.out.cell (p := ⟨wr.heap.size + 1, 4, none⟩) hs2b).trans t4
      have t5 := (HB3.out.cell (p := ⟨wr.heap.size + 1, 5, none⟩) hs2b).trans t5
      have t6 := (HB3.out.cell (p := ⟨wr.heap.size + 1, 6, none⟩) hs2b).trans t6
      go_wp2_with fail
      refine (ints_true _ _ xm w3 HM3.out HM3.out).mono ?_
      rintro e w4 ⟨rfl, hw4⟩
      have HB4 : Hid (Below W2.heap.size W2 w4) := HB3.out.trans (hw4.mono hz3)
      have HBr : Hid (Below wr.heap.size wr w4) := HG.out.trans (HB4.out.mono hzz)
      have HBw : Hid (Below w.heap.size w w4) := hB.out.trans (HBr.out.mono hsz)
      have hz4 := hw4.size
      have s0 := (hw4.cell (p := ⟨wr.heap.size, 0, none⟩) (show wr.heap.size < w3.heap.size by omega)).trans s0
      have s1 := (hw4.cell (p := ⟨wr.heap.size, 1, none⟩) (show wr.heap.size < w3.heap.size by omega)).trans s1
      have s2 := (hw4.cell (p := ⟨wr.heap.size, 2, none⟩) (show wr.heap.size < w3.heap.size by omega)).trans s2
      have s3 := (hw4.cell (p := ⟨wr.heap.size, 3, none⟩) (show wr.heap.size < w3.heap.size by omega)).trans s3
      have s4 := (hw4.cell (p := ⟨wr.heap.size, 4, none⟩) (show wr.heap.size < w3.heap.size by omega)).trans s4
      have s5 := (hw4.cell (p := ⟨wr.heap.size, 5, none⟩) (show wr.heap.size < w3.heap.size by omega)).trans s5
      have s6 := (hw4.cell (p := ⟨wr.heap.size, 6, none⟩) (show wr.heap.size < w3.heap.size by omega)).trans s6
      have t0 := (hw4.cell (p := ⟨wr.heap.size + 1, 0, none⟩) (show wr.heap.size + 1 < w3.heap.size by omega)).trans t0
      have t1 := (hw4.cell (p := ⟨wr.heap.size + 1, 1, none⟩) (show wr.heap.size + 1 < w3.heap.size by omega)).trans t1
      have t2 := (hw4.cell (p := ⟨wr.heap.size + 1, 2, none⟩) (show wr.heap.size + 1 < w3.heap.size by omega)).trans t2
      have t3 := (hw4.cell (p := ⟨wr.heap.size + 1, 3, none⟩) (show wr.heap.size + 1 < w3.heap.size by omega)).trans t3
      have t4 := (hw4.cell (p := ⟨wr.heap.size + 1, 4, none⟩) (show wr.heap.size + 1 < w3.heap.size by omega)).trans t4
      have t5 := (hw4.cell (p := ⟨wr.heap.size + 1, 5, none⟩) (show wr.heap.size + 1 < w3.heap.size by omega)).trans t5
      have t6 := (hw4.cell (p := ⟨wr.heap.size + 1, 6, none⟩) (show wr.heap.size + 1 < w3.heap.size by omega)).trans t6
      have c0 := (HBr.out.cell (p := ⟨ba, oa + k * 9, none⟩) hba2).trans c0
      have d0 := (HBr.out.cell (p := ⟨bb, ob + k * 9, none⟩) hbb2).trans d0
      have c1 := (HBr.out.cell (p := ⟨ba, oa + k * 9 + 1, none⟩) hba2).trans c1
      have d1 := (HBr.out.cell (p := ⟨bb, ob + k * 9 + 1, none⟩) hbb2).trans d1
      have c2 := (HBr.out.cell (p := ⟨ba, oa + k * 9 + 2, none⟩) hba2).trans c2
      have d2 := (HBr.out.cell (p := ⟨bb, ob + k * 9 + 2, none⟩) hbb2).trans d2
      have c3 := (HBr.out.cell (p := ⟨ba, oa + k * 9 + 3, none⟩) hba2).trans c3
      have d3 := (HBr.out.cell (p := ⟨bb, ob + k * 9 + 3, none⟩) hbb2).trans d3
      have c4 := (HBr.out.cell (p := ⟨ba, oa + k * 9 + 4, none⟩) hba2).trans c4
      have d4 := (HBr.out.cell (p := ⟨bb, ob + k * 9 + 4, none⟩) hbb2).trans d4
      have c5 := (HBr.out.cell (p := ⟨ba, oa + k * 9 + 5, none⟩) hba2).trans c5
      have d5 := (HBr.out.cell (p := ⟨bb, ob + k * 9 + 5, none⟩) hbb2).trans d5
      have c6 := (HBr.out.cell (p := ⟨ba, oa + k * 9 + 6, none⟩) hba2).trans c6
      have d6 := (HBr.out.cell (p := ⟨bb, ob + k * 9 + 6, none⟩) hbb2).trans d6
      have c7 := (HBr.out.cell (p := ⟨ba, oa + k * 9 + 7, none⟩) hba2).trans c7
      have d7 := (HBr.out.cell (p := ⟨bb, ob + k * 9 + 7, none⟩) hbb2).trans d7
      have c8 := (HBr.out.cell (p := ⟨ba, oa + k * 9 + 8, none⟩) hba2).trans c8
      have d8 := (HBr.out.cell (p := ⟨bb, ob + k * 9 + 8, none⟩) hbb2).trans d8
      clear hw4 HB3 HB4 HM3 HM2 HA2 HAV HMV HG
      go_wp2_with fail
      clear c0 c1 c2 c3 c4 c5 c6 d0 d1 d2 d3 d4 d5 d6 s4 s5 t4 t5
      go_quiet (fail)
      go_wp2
      go_roundw
      case rel => exact ⟨k + 1, by omega, by go_num, HBw.out.trans (below_drewN _ _)⟩
      case measure => simp [intOf]; omega
    · obtain rfl : k = l.length := by omega
      go_wp2
      go_ret
      exact ⟨rfl, hB.out⟩
end Go.Proofs.Ytioacgjggogflab

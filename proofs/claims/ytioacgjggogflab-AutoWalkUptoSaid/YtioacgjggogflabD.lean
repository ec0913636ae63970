/-
  The reference's sameLocs of alike places.
-/
import Derived.Test.YtioacgjggogflabC
import Derived.Deep.RegionLaw
namespace Go.Proofs.Ytioacgjggogflab
open Go.ChangeShapes Go.WideShapes Go.ChangeAt Go.RowKit Go.Deep Go.Joins Go.Instr
theorem below_drew (w : World) : Below w.heap.size w w.drew := (Below.refl _ _).drew
/-- A place that reads, with its ways and escapes. -/
structure LoD.rd (w : World) (x : LoD) : Prop where
  ov : Sl w 9 TrD.enc x.ov x.out
  out : ∀ t ∈ x.out, t.ok w
  ev : Sl w 1 EsD.enc x.ev x.esc
  esc : ∀ t ∈ x.esc, Sl w 9 TrD.enc t.v t.l ∧ ∀ u ∈ t.l, u.ok w
theorem LoD.rd.keep {w w' : World} (hb : Below w.heap.size w w') {x : LoD} (h : x.rd w) : x.rd w' :=
  ⟨h.ov.keep hb, fun t ht => (h.out t ht).keep hb, h.ev.keep hb, fun t ht => ⟨(h.esc t ht).1.keep hb, fun u hu => ((h.esc t ht).2 u hu).keep hb⟩⟩
/-- Two places are alike. -/
def LoA (x y : LoD) : Prop := x.out = y.out ∧ x.atomic = y.atomic ∧ x.dstep = y.dstep ∧ x.e = y.e ∧ x.acc = y.acc ∧ x.pro = y.pro ∧ x.esc.map EsD.l = y.esc.map EsD.l
theorem mem_getD {α : Type} [Inhabited α] {l : List α} {k : Nat} (h : k < l.length) : l.getD k default ∈ l := by
  rw [List.getD_eq_getElem?_getD, List.getElem?_eq_getElem h]; simp
set_option maxRecDepth 100000 in
set_option maxHeartbeats 8000000 in
theorem locs_true (va vb : Value) (a b : List LoD) (w : World) (ha : Sl w 7 LoD.enc va a) (hb : Sl w 7 LoD.enc vb b) (hoa : ∀ t ∈ a, t.rd w) (hob : ∀ t ∈ b, t.rd w) (hl : a.length = b.length) (hal : ∀ i, i < a.length → LoA (a.getD i default) (b.getD i default)) :
    Calls Try.prog 22 #[va, vb] w fun e w' => e = .returned (.bool true) ∧ Below w.heap.size w w' := by
  obtain ⟨aa, ca, rfl, ma, HA⟩ := sl_open ha
  obtain ⟨ab, cb, rfl, mb, HB⟩ := sl_open hb
  have HKA := Lib.hid hoa; have HKB := Lib.hid hob; have HAL := Lib.hid hal
  have HLL := Lib.hid hl
  rw [← hl] at HB ⊢
  clear ha hb hoa hob mb hal hl
  go_enter Try.func22, Try.ntmps22
  go_wp2_with fail
  go_loopw [5] (fun i wr => ∃ k : Nat, k ≤ a.length ∧ i = .int .i64 k ∧ Hid (Below w.heap.size w wr)) (fun i _ => a.length - (intOf i).toNat)
  case atStart => exact ⟨0, Nat.zero_le _, rfl, Below.refl _ _⟩
  case round =>
    obtain ⟨k, hk, rfl, hB⟩ := hrel
    by_cases hlt : k < a.length
    · obtain ⟨ba, oa, rfl, hba, hca⟩ := HA.out (by omega)
      obtain ⟨bb, ob, rfl, hbb, hcb⟩ := HB.out (by omega)
      have hca := fun j hj => (hB.out.cell (p := ⟨ba, oa + k * 7 + j, none⟩) hba).trans (hca k hlt j hj)
      have hcb := fun j hj => (hB.out.cell (p := ⟨bb, ob + k * 7 + j, none⟩) hbb).trans (hcb k hlt j hj)
      have hXA := (HKA.out (a.getD k default) (mem_getD hlt)).keep hB.out
      have hXB := (HKB.out (b.getD k default) (mem_getD (by rw [← HLL.out]; exact hlt))).keep hB.out
      have hAL := HAL.out k hlt
      generalize a.getD k default = x at *
      generalize b.getD k default = y at *
      obtain ⟨xo, xe, x2, x3, x4, x5, x6, xl, xs⟩ := x
      obtain ⟨yo, ye, y2, y3, y4, y5, y6, yl, ys⟩ := y
      obtain ⟨e1, e2, e3, e4, e5, e6, e7⟩ := hAL
      simp only at e1 e2 e3 e4 e5 e6 e7
      subst e1; subst e2; subst e3; subst e4; subst e5; subst e6
      have hes : xs.length = ys.length := by simpa using congrArg List.length e7
      have HXA := Lib.hid hXA; have HXB := Lib.hid hXB; have HEE := Lib.hid e7; have HES := Lib.hid hes
      obtain ⟨a4, q4, ho1, -, -⟩ := sl_open hXA.ov
      obtain ⟨a5, q5, ho2, hm5, HEA⟩ := sl_open hXA.ev
      obtain ⟨b4, p4, ho3, -, -⟩ := sl_open hXB.ov
      obtain ⟨b5, p5, ho4, -, HEB⟩ := sl_open hXB.ev
      simp only at ho1 ho2 ho3 ho4 HEA HEB hm5
      subst ho1; subst ho2; subst ho3; subst ho4
      have hbb2 : bb < wr.heap.size := Nat.lt_of_lt_of_le hbb hB.out.size
      clear hXA hXB e7 hba hbb
      have c0 := hca 0 (by omega); have c1 := hca 1 (by omega); have c2 := hca 2 (by omega); have c3 := hca 3 (by omega); have c4 := hca 4 (by omega); have c5 := hca 5 (by omega); have c6 := hca 6 (by omega)
      have d0 := hcb 0 (by omega); have d1 := hcb 1 (by omega); have d2 := hcb 2 (by omega); have d3 := hcb 3 (by omega); have d4 := hcb 4 (by omega); have d5 := hcb 5 (by omega); have d6 := hcb 6 (by omega)
      clear hca hcb
      simp only [LoD.enc, Nat.add_zero] at c0 c1 c2 c3 c4 c5 c6 d0 d1 d2 d3 d4 d5 d6
      rw [← hes] at d1 HEB
      have hsz := hB.out.size
      clear hes
      go_wp2_with fail
      generalize hW2 : World.alloc (World.alloc wr _) _ = W2
      have HG : Hid (Below wr.heap.size wr W2) := by rw [← hW2]; exact ((Below.refl _ _).alloc (Nat.le_refl _) _).alloc (by simp) _
      have hz2 : W2.heap.size = wr.heap.size + 2 := by rw [← hW2]; simp [go_sem]
      have hA1 : W2.heap[wr.heap.size]? = some (.cells #[.slice a4 xl.length q4, .slice a5 xs.length q5, .bool x2, .bool x3, .bool x4, .bool x5, .bool x6] 36 (0, 0)) := by rw [← hW2]; exact heap_two_a _ _ _
      have hA2 : W2.heap[wr.heap.size + 1]? = some (.cells #[.slice b4 xl.length p4, .slice b5 xs.length p5, .bool x2, .bool x3, .bool x4, .bool x5, .bool x6] 36 (0, 0)) := by rw [← hW2]; exact heap_two_b _ _ _
      have s0 : W2.cell? ⟨wr.heap.size, 0, none⟩ = some (.slice a4 xl.length q4) := by rw [cell_of_row W2 (wr.heap.size) 0 _ _ _ hA1]; rfl
      have s1 : W2.cell? ⟨wr.heap.size, 1, none⟩ = some (.slice a5 xs.length q5) := by rw [cell_of_row W2 (wr.heap.size) 1 _ _ _ hA1]; rfl
      have s2 : W2.cell? ⟨wr.heap.size, 2, none⟩ = some (.bool x2) := by rw [cell_of_row W2 (wr.heap.size) 2 _ _ _ hA1]; rfl
      have s3 : W2.cell? ⟨wr.heap.size, 3, none⟩ = some (.bool x3) := by rw [cell_of_row W2 (wr.heap.size) 3 _ _ _ hA1]; rfl
      have s4 : W2.cell? ⟨wr.heap.size, 4, none⟩ = some (.bool x4) := by rw [cell_of_row W2 (wr.heap.size) 4 _ _ _ hA1]; rfl
      have s5 : W2.cell? ⟨wr.heap.size, 5, none⟩ = some (.bool x5) := by rw [cell_of_row W2 (wr.heap.size) 5 _ _ _ hA1]; rfl
      have s6 : W2.cell? ⟨wr.heap.size, 6, none⟩ = some (.bool x6) := by rw [cell_of_row W2 (wr.heap.size) 6 _ _ _ hA1]; rfl
      have t0 : W2.cell? ⟨wr.heap.size + 1, 0, none⟩ = some (.slice b4 xl.length p4) := by rw [cell_of_row W2 (wr.heap.size + 1) 0 _ _ _ hA2]; rfl
      have t1 : W2.cell? ⟨wr.heap.size + 1, 1, none⟩ = some (.slice b5 xs.length p5) := by rw [cell_of_row W2 (wr.heap.size + 1) 1 _ _ _ hA2]; rfl
      have t2 : W2.cell? ⟨wr.heap.size + 1, 2, none⟩ = some (.bool x2) := by rw [cell_of_row W2 (wr.heap.size + 1) 2 _ _ _ hA2]; rfl
      have t3 : W2.cell? ⟨wr.heap.size + 1, 3, none⟩ = some (.bool x3) := by rw [cell_of_row W2 (wr.heap.size + 1) 3 _ _ _ hA2]; rfl
      have t4 : W2.cell? ⟨wr.heap.size + 1, 4, none⟩ = some (.bool x4) := by rw [cell_of_row W2 (wr.heap.size + 1) 4 _ _ _ hA2]; rfl
      have t5 : W2.cell? ⟨wr.heap.size + 1, 5, none⟩ = some (.bool x5) := by rw [cell_of_row W2 (wr.heap.size + 1) 5 _ _ _ hA2]; rfl
      have t6 : W2.cell? ⟨wr.heap.size + 1, 6, none⟩ = some (.bool x6) := by rw [cell_of_row W2 (wr.heap.size + 1) 6 _ _ _ hA2]; rfl
      clear hW2 hA1 hA2 c0 c1 c2 c3 c4 c5 c6 d0 d1 d2 d3 d4 d5 d6
      have hs2 : wr.heap.size < W2.heap.size := by omega
      have hs2b : wr.heap.size + 1 < W2.heap.size := by omega
      have hzz : wr.heap.size ≤ W2.heap.size := by omega
      refine (ways_true _ _ xl W2 (HXA.out.ov.keep HG.out) (HXB.out.ov.keep HG.out) (fun t ht => (HXA.out.out t ht).keep HG.out)).mono ?_
      rintro e w4 ⟨rfl, hw4⟩
      have hz4 := hw4.size
      have HB4 := Lib.hid hw4
      have HBr : Hid (Below wr.heap.size wr w4) := HG.out.trans (HB4.out.mono hzz)
      have HBw : Hid (Below w.heap.size w w4) := hB.out.trans (HBr.out.mono hsz)
      clear hw4
      have s0 := (HB4.out.cell (p := ⟨wr.heap.size, 0, none⟩) hs2).trans s0
      have s1 := (HB4.out.cell (p := ⟨wr.heap.size, 1, none⟩) hs2).trans s1
      have s2 := (HB4.out.cell (p := ⟨wr.heap.size, 2, none⟩) hs2).trans s2
      have s3 := (HB4.out.cell (p := ⟨wr.heap.size, 3, none⟩) hs2).trans s3
      have s4 := (HB4.out.cell (p := ⟨wr.heap.size, 4, none⟩) hs2).trans s4
      have s5 := (HB4.out.cell (p := ⟨wr.heap.size, 5, none⟩) hs2).trans s5
      have s6 := (HB4.out.cell (p := ⟨wr.heap.size, 6, none⟩) hs2).trans s6
      have t0 := (HB4.out.cell (p := ⟨wr.heap.size + 1, 0, none⟩) hs2b).trans t0
      have t1 := (HB4.out.cell (p := ⟨wr.heap.size + 1, 1, none⟩) hs2b).trans t1
      have t2 := (HB4.out.cell (p := ⟨wr.heap.size + 1, 2, none⟩) hs2b).trans t2
      have t3 := (HB4.out.cell (p := ⟨wr.heap.size + 1, 3, none⟩) hs2b).trans t3
      have t4 := (HB4.out.cell (p := ⟨wr.heap.size + 1, 4, none⟩) hs2b).trans t4
      have t5 := (HB4.out.cell (p := ⟨wr.heap.size + 1, 5, none⟩) hs2b).trans t5
      have t6 := (HB4.out.cell (p := ⟨wr.heap.size + 1, 6, none⟩) hs2b).trans t6
      clear HB4 HG
      go_wp2_with fail
      go_wp2_with fail
      obtain ⟨wo, rfl⟩ : ∃ wo : World, wo = wr := ⟨_, rfl⟩
      go_loopw [9] (fun i wr => ∃ j : Nat, j ≤ xs.length ∧ i = .int .i64 j ∧ Hid (Below w4.heap.size w4 wr)) (fun i _ => xs.length - (intOf i).toNat)
      case atStart => exact ⟨0, Nat.zero_le _, rfl, Below.refl _ _⟩
      case round =>
        obtain ⟨j, hj, rfl, hB5⟩ := hrel
        have hz5 := hB5.out.size
        have s1' := (hB5.out.cell (p := ⟨wo.heap.size, 1, none⟩) (show wo.heap.size < w4.heap.size by omega)).trans s1
        have t1' := (hB5.out.cell (p := ⟨wo.heap.size + 1, 1, none⟩) (show wo.heap.size + 1 < w4.heap.size by omega)).trans t1
        have hbs : wo.heap.size < wr.heap.size := by omega
        have hbt : wo.heap.size + 1 < wr.heap.size := by omega
        by_cases hjl : j < xs.length
        · have HBq : Hid (Below wo.heap.size wo wr) := HBr.out.trans (hB5.out.mono (by omega))
          obtain ⟨ea, eo, rfl, hea, hec⟩ := HEA.out (by omega)
          obtain ⟨eb, ep, rfl, heb, hed⟩ := HEB.out (by omega)
          have g0 := (HBq.out.cell (p := ⟨ea, eo + j * 1 + 0, none⟩) hea).trans (hec j hjl 0 (by omega))
          have g1 := (HBq.out.cell (p := ⟨eb, ep + j * 1 + 0, none⟩) heb).trans (hed j (by first | exact hjl | (rw [← HES.out]; exact hjl)) 0 (by omega))
          have hm1 := HXA.out.esc (xs.getD j default) (mem_getD hjl)
          have hm2 := HXB.out.esc (ys.getD j default) (mem_getD (by rw [← HES.out]; exact hjl))
          have hll : (xs.getD j default).l = (ys.getD j default).l := by
            have h1 : (xs.map EsD.l)[j]? = (ys.map EsD.l)[j]? := by rw [HEE.out]
            simp only [List.getElem?_map, List.getElem?_eq_getElem hjl, List.getElem?_eq_getElem (show j < ys.length by rw [← HES.out]; exact hjl), Option.map_some, Option.some.injEq] at h1
            simpa [List.getD_eq_getElem?_getD, hjl, show j < ys.length by rw [← HES.out]; exact hjl] using h1
          clear hec hed
          generalize xs.getD j default = x at *
          generalize ys.getD j default = y at *
          obtain ⟨xv, xw⟩ := x
          obtain ⟨yv, yw⟩ := y
          simp only [EsD.enc, Nat.mul_one, Nat.add_zero] at g0 g1 hm1 hm2 hll
          subst hll
          have HM1 := Lib.hid (hm1.1.keep HBq.out); have HM2 := Lib.hid (hm2.1.keep HBq.out)
          have HM3 : Hid (∀ u ∈ xw, u.ok wr) := fun u hu => (hm1.2 u hu).keep HBq.out
          clear hm1 hm2
          obtain ⟨a7, q7, rfl, -, -⟩ := sl_open HM1.out
          obtain ⟨a8, q8, rfl, -, -⟩ := sl_open HM2.out
          have hea2 : ea < wr.heap.size := Nat.lt_of_lt_of_le hea HBq.out.size
          have heb2 : eb < wr.heap.size := Nat.lt_of_lt_of_le heb HBq.out.size
          have hk0 : (0 : Int) ≤ (j : Int) := by omega
          have hk1 : (j : Int) < (xs.length : Int) := by omega
          go_wp2_with fail
          go_region_law (first | (go_simp; go_at_call 25; refine (ways_true _ _ xw wr.drew (HM1.out.keep (below_drew _)) (HM2.out.keep (below_drew _)) (fun u hu => (HM3.out u hu).keep (below_drew _))).mono ?_; rintro e w6 ⟨rfl, hw6⟩))
          all_goals
            have HB6 : Hid (Below w4.heap.size w4 w6) := hB5.out.trans ((below_drew wr).trans hw6 |>.mono hz5)
            clear hw6
            go_wp2
            go_roundw
            case rel => exact ⟨j + 1, by omega, by go_num, HB6⟩
            case measure => simp [intOf]; omega
        · obtain rfl : j = xs.length := by omega
          have HB6 : Hid (Below w.heap.size w wr) := HBw.out.trans (hB5.out.mono (by have := HBw.out.size; omega))
          go_wp2
          go_roundw
          case rel => exact ⟨k + 1, by omega, by go_num, HB6⟩
          case measure => simp [intOf]; omega
    · obtain rfl : k = a.length := by omega
      go_wp2
      go_ret
      exact ⟨rfl, hB.out⟩
end Go.Proofs.Ytioacgjggogflab
